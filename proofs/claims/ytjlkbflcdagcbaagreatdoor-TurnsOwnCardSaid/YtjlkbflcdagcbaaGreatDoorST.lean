/-
  A part of the proof of casketlaw17.TurnsOwn: the evaluator's soundness, or the law's own steps. By an AI agent.
-/
import Derived.Test.YtjlkbflcdagcbaaGreatDoorSN
import Derived.Deep.Upon
import Derived.Lib.AppendZerosOnto
namespace Go.Eng
open Go
section
variable {P : Program} {g : G}

/-- the second argument of an append: what it yields, in both arms -/
structure AS (P : Program) (size : Nat) (tx : TypeId) (x : Value) (n : Nat) (news : List Value) (w : World) : Prop where
  len : news.length = n * size
  one : ∀ u ∈ news, u.oneCell' = true
  room : ∀ (t ty e : TypeId) (i : TypeInfo), P.underlying t = some (.slice e) → P.info? e = some i → i.size = size → ∀ (b off sLen sCap : Nat), sLen + n ≤ sCap →
    (∀ j, j < news.length → (w.cell? ⟨b, off + sLen * size + j, none⟩).isSome = true) → (∀ j, j < news.length → w.frozen? ⟨b, off + sLen * size + j, none⟩ = false) →
    (Builtin.append_ #[t, tx] ty #[.slice (some ⟨b, off, none⟩) sLen sCap, x]).run P w = .ok (.slice (some ⟨b, off, none⟩) (sLen + n) sCap) (w.setCells b (off + sLen * size) news)
  nil : n = 0 → ∀ (t ty e : TypeId) (i : TypeInfo), P.underlying t = some (.slice e) → P.info? e = some i → i.size = size → (Builtin.append_ #[t, tx] ty #[.slice none 0 0, x]).run P w = .ok (.slice none 0 0) w
  grow : ∀ (t ty e : TypeId) (i : TypeInfo) (z : Value), P.underlying t = some (.slice e) → P.info? e = some i → i.size = size → i.zero = some z → i.bytes ≤ 65536 → ∀ (base : Option Addr) (sLen sCap : Nat) (olds : List Value),
    (Builtin.firstCells size sLen (.slice base sLen sCap)).run P w.drew = .ok olds.toArray w.drew → sCap < sLen + n → sLen + n ≤ 1073741824 →
    (Builtin.append_ #[t, tx] ty #[.slice base sLen sCap, x]).run P w =
      .ok (.slice (some ⟨w.heap.size, 0, none⟩) (sLen + n) (grownCap w (sLen + n) sCap e)) (w.drew.alloc (.cells ((olds ++ news).toArray ++ Builtin.zeroCells z.cells (grownCap w (sLen + n) sCap e - (sLen + n))) e))

theorem growBy_le (n : Nat) : ∀ (r c : Nat), c < n → Builtin.growBy n r c ≤ 2 * n + 256
  | 0, c, h => by unfold Builtin.growBy; omega
  | r + 1, c, h => by
    unfold Builtin.growBy
    split
    · omega
    · by_cases h2 : c + (c + 768) / 4 < n
      · exact growBy_le n r _ h2
      · cases r with
        | zero => unfold Builtin.growBy; omega
        | succ r =>
          unfold Builtin.growBy
          rw [if_pos (by omega)]
          omega
theorem nextcap_le {n c : Nat} (h : c < n) : Builtin.nextslicecap n c ≤ 2 * n + 512 := by
  unfold Builtin.nextslicecap
  split
  · omega
  · split
    · omega
    · have := growBy_le n 4 c h
      omega
theorem fits {n c b : Nat} (h : c < n) (hn : n ≤ 1073741824) (hb : b ≤ 65536) : Builtin.nextslicecap n c * b ≤ 281474976710656 := by
  have h1 := nextcap_le h
  calc Builtin.nextslicecap n c * b ≤ (2 * n + 512) * 65536 := Nat.mul_le_mul h1 hb
    _ ≤ 281474976710656 := by omega

theorem AS.of_src {size : Nat} {tx : TypeId} {x : Value} {n : Nat} {news : List Value} {w : World} (hs : Src P size tx x n news w) : AS P size tx x n news w where
  len := hs.newsLen
  one := hs.one
  room := fun t ty e i ht hi hsz b off sLen sCap hr hc hf => by
    subst hsz
    exact run_append_room_src w t tx ty e i ht hi b off sLen sCap x n news hs hr hc hf
  nil := fun h0 t ty e i ht hi hsz => by
    subst h0; subst hsz
    have : news = [] := by have := hs.newsLen; simpa using this
    subst this
    exact run_append_nothing w t tx ty e i ht hi none 0 0 (Nat.le_refl _) x hs
  grow := fun t ty e i z ht hi hsz hz hb base sLen sCap olds hold hg hn => by
    subst hsz
    exact run_append_grow_src w t tx ty e i z ht hi hz base sLen sCap olds hold x n news hs hg (by omega) (fits hg hn hb)
end
end Go.Eng

namespace Go.Eng
open Go
section
variable {P : Program} {g : G}

theorem zeroCells_length (z : Array Value) (n : Nat) : (Builtin.zeroCells z n).size = n * z.size := by simp [Builtin.zeroCells]
theorem zeroCells_VRL {z : List AV} {zv : Value} (hz : VRL g z zv.cells.toList) (n : Nat) : VRL g (repZ z n) (Builtin.zeroCells zv.cells n).toList := by
  have hlen : z.length = zv.cells.size := by simpa using hz.length
  have := zeros_VRL hz n
  rw [hlen] at this
  exact this

theorem AS.of_zeros {size : Nat} {tx : TypeId} {kn kq : IntKind} (htx : P.underlying tx = some (.int kn)) {e0 : TypeId} {i0 : TypeInfo} {zv : Value} (hi0 : P.info? e0 = some i0) (hz0 : i0.zero = some zv) (hsz0 : i0.size = size) (hpos : 0 < size) (hb0 : i0.bytes ≤ 65536)
    (hzl : zv.cells.size = size) {n : Nat} (hn : n ≤ 1073741824) (hone : ∀ u ∈ (Builtin.zeroCells zv.cells n).toList, u.oneCell' = true) (w : World) :
    ∀ (t ty : TypeId), P.underlying t = some (.slice e0) →
      (∀ (b off sLen sCap : Nat), sLen + n ≤ sCap →
        (∀ j, j < n * size → (w.cell? ⟨b, off + sLen * size + j, none⟩).isSome = true) → (∀ j, j < n * size → w.frozen? ⟨b, off + sLen * size + j, none⟩ = false) →
        (Builtin.append_ #[t, tx] ty #[.slice (some ⟨b, off, none⟩) sLen sCap, .int kq n]).run P w = .ok (.slice (some ⟨b, off, none⟩) (sLen + n) sCap) (w.setCells b (off + sLen * size) (Builtin.zeroCells zv.cells n).toList)) ∧
      (n = 0 → (Builtin.append_ #[t, tx] ty #[.slice none 0 0, .int kq n]).run P w = .ok (.slice none 0 0) w) := by
  intro t ty ht
  have hw : IntKind.i64.wrap (n : Int) = n := by rw [IntKind.wrap_i64]; omega
  have hm : n * i0.bytes ≤ 1073741824 * 65536 := Nat.mul_le_mul hn hb0
  have h48i : ¬ (281474976710656 < (n : Int) * (i0.bytes : Int)) := by
    rw [← Int.natCast_mul]
    omega
  have hneg : ¬ ((n : Int) < 0) := by omega
  subst hsz0
  refine ⟨fun b off sLen sCap hr hc hf => ?_, fun h0 => ?_⟩
  · have hst := run_storeCells_cells (P := P) b (off + sLen * i0.size) (Builtin.zeroCells zv.cells n).toList 0 w (fun j hj => by
        rw [Array.length_toList, zeroCells_length, hzl] at hj
        simpa using hc j hj) (fun j hj => by
        rw [Array.length_toList, zeroCells_length, hzl] at hj
        simpa using hf j hj) hone
    simp only [Nat.add_zero] at hst
    by_cases hns : n = 0
    · subst hns
      have : (Builtin.zeroCells zv.cells 0) = #[] := by simp [Builtin.zeroCells]
      rw [this] at hst ⊢
      have hr' : sLen ≤ sCap := by omega
      simp [Builtin.append_, run_underlying ht, run_underlying htx, sizeOf, typeInfo, hi0, asInt, asIntOf, hr', Addr.add_lit, storeCells, World.setCells, show IntKind.i64.wrap 0 = 0 from rfl]
    · have hns' : ¬ (n * i0.size = 0) := Nat.mul_ne_zero hns (by omega)
      simp [Builtin.append_, run_underlying ht, run_underlying htx, sizeOf, typeInfo, zeroValue, hi0, hz0, asInt, asIntOf, hw, hneg, hns', h48i, hr, Addr.add_lit, hst]
  · subst h0
    simp [Builtin.append_, run_underlying ht, run_underlying htx, sizeOf, typeInfo, hi0, asInt, asIntOf, show IntKind.i64.wrap 0 = 0 from rfl]
end
end Go.Eng

namespace Go.Eng
open Go
section
variable {P : Program} {X dd : List Nat} {d : Nat} {t l : E} {ρ : Operand → Value} {g : G}

/-- what an append comes to -/
def AppR (P : Program) (g : G) (h : H) (w : World) (r : Result Value) (v : AV) (h' : H) : Prop :=
  ∃ c w' g', r = .ok c w' ∧ VR g' v c ∧ Ext g h w g' h' w' ∧ HR P g' h' w'

theorem firstCells_sl {w : World} {size n cp : Nat} {c o : Nat} {us : List Value} (hl : us.length = n * size) (hc : ∀ j u, us[j]? = some u → w.cell? ⟨c, o + j, none⟩ = some u) :
    (Builtin.firstCells size n (.slice (some ⟨c, o, none⟩) n cp)).run P w.drew = .ok us.toArray w.drew :=
  run_firstCells_some w.drew size n ⟨c, o, none⟩ n cp us hl (fun j u hu => by simpa [Addr.add_lit] using hc j u hu)

/-- a new row of grown capacity -/
theorem app_new {h : H} {w : World} (hr : HR P g h w) {es n cp : Nat} {cs : List AV} {us rest : List Value} {el : TypeId} (hcs : VRL g cs us) (hn : cs.length = n * es) (hcap : n ≤ cp) (hrest : rest.length = (cp - n) * es)
    {v : AV} {h' : H} (ha : appNew h es n cs = .ok v h') :
    AppR P g h w (.ok (.slice (some ⟨w.heap.size, 0, none⟩) n cp) (w.drew.alloc (.cells (us ++ rest).toArray el))) v h' := by
  unfold appNew at ha
  split at ha
  · rename_i hl
    split at ha
    · rename_i hnn
      have hl := Nat.le_of_ble_eq_true hl
      rw [fN_eq] at ha
      simp only [RV.ok.injEq] at ha
      obtain ⟨rfl, rfl⟩ := ha
      have hul := hcs.length
      have hsz : (us ++ rest).toArray.size = cp * es := by
        simp only [List.size_toArray, List.length_append, hrest]
        rw [← hul, hn, ← Nat.add_mul, Nat.add_sub_cancel' hcap]
      have hbr : ∀ g', GLe g g' → BR P g' 0 (cp * es) (.cells (fill cs 0 .leaf) (n * es) true) (.cells (us ++ rest).toArray el (0, 0)) := fun g' hle => by
        have := br_cells (P := P) (g' := g') (vs := cs) (us := (us ++ rest).toArray) (el := el) (fz := (0, 0)) (gr := true) (by omega) (fun i x hx => by
          obtain ⟨u, hu, hv⟩ := hcs.get i x hx
          have hi : i < us.length := (List.getElem?_eq_some_iff.1 hu).1
          exact ⟨u, by simp [List.getElem?_append_left hi, hu], VR.mono hle _ _ hv⟩) (by simp; omega) (fun e => by cases e) (fun i _ => by simp)
        rw [hsz, lenL_eq, hn] at this
        exact this
      obtain ⟨s1, s2⟩ := step_new (P := P) (hr.world (w' := w.drew) rfl) hbr
      have e0 : Ext g h w g h w.drew := Ext.world rfl ⟨rfl, rfl, rfl⟩
      refine ⟨_, _, _, rfl, ?_, e0.trans s1, s2⟩
      simp only [VR]
      exact ⟨_, _, _, cp, gset_same _ _ _, rfl, by simp⟩
    · cases ha
  · cases ha
end
end Go.Eng

namespace Go.Eng
open Go
section
variable {P : Program} {X dd : List Nat} {d : Nat} {t l : E} {ρ : Operand → Value} {g : G}

theorem appTo_ok {h : H} {w : World} (hr : HR P g h w) {es n : Nat} (hes : 0 < es) {s v : AV} {h' : H} {cs : List AV} {news : List Value} (hcs : VRL g cs news) (hlen : news.length = n * es) (hone : ∀ u ∈ news, u.oneCell' = true)
    {u : Value} (hs : VR g s u) {F : Value → Result Value} {e : TypeId} {zv : Array Value} (hzs : zv.size = es)
    (hroom : ∀ (b off sLen sCap : Nat), sLen + n ≤ sCap → (∀ j, j < n * es → (w.cell? ⟨b, off + sLen * es + j, none⟩).isSome = true) → (∀ j, j < n * es → w.frozen? ⟨b, off + sLen * es + j, none⟩ = false) →
      F (.slice (some ⟨b, off, none⟩) sLen sCap) = .ok (.slice (some ⟨b, off, none⟩) (sLen + n) sCap) (w.setCells b (off + sLen * es) news))
    (hnil : n = 0 → F (.slice none 0 0) = .ok (.slice none 0 0) w)
    (hgrow : ∀ (base : Option Addr) (sLen sCap : Nat) (olds : List Value), (Builtin.firstCells es sLen (.slice base sLen sCap)).run P w.drew = .ok olds.toArray w.drew → sCap < sLen + n → sLen + n ≤ 1073741824 →
      F (.slice base sLen sCap) = .ok (.slice (some ⟨w.heap.size, 0, none⟩) (sLen + n) (grownCap w (sLen + n) sCap e)) (w.drew.alloc (.cells ((olds ++ news).toArray ++ Builtin.zeroCells zv (grownCap w (sLen + n) sCap e - (sLen + n))) e)))
    (ha : appTo h es s n cs = .ok v h') : AppR P g h w (F u) v h' := by
  have hnewRow : ∀ {h0 : H} (hr0 : HR P g h0 w) {m : Nat} {olds : List Value} {cso : List AV} (hco : VRL g cso olds) (hm : cso.length = m * es) {v : AV} {h' : H} (cap : Nat),
      appNew h0 es (m + n) (cso ++ cs) = .ok v h' → AppR P g h0 w (.ok (.slice (some ⟨w.heap.size, 0, none⟩) (m + n) (grownCap w (m + n) cap e)) (w.drew.alloc (.cells ((olds ++ news).toArray ++ Builtin.zeroCells zv (grownCap w (m + n) cap e - (m + n))) e))) v h' := by
    intro h0 hr0 m olds cso hco hm v h' cap ha
    have hcl := hcs.length
    have := app_new hr0 (rest := (Builtin.zeroCells zv (grownCap w (m + n) cap e - (m + n))).toList) (el := e) (cp := grownCap w (m + n) cap e) (hco.append hcs) (by rw [List.length_append, hm, hcl, hlen, Nat.add_mul]) (grownCap_le _ _ _ _) (by rw [Array.length_toList, zeroCells_length, hzs]) ha
    have e1 : ((olds ++ news) ++ (Builtin.zeroCells zv (grownCap w (m + n) cap e - (m + n))).toList).toArray = (olds ++ news).toArray ++ Builtin.zeroCells zv (grownCap w (m + n) cap e - (m + n)) := by
      apply Array.ext'
      simp
    rw [e1] at this
    exact this
  have hneed : ∀ {h0 : H} {m : Nat} {c0 : List AV} {v : AV} {h' : H}, appNew h0 es m c0 = .ok v h' → m ≤ 1073741824 := by
    intro h0 m c0 v h' ha
    unfold appNew at ha
    split at ha
    · split at ha
      · rename_i hh; exact Nat.le_of_ble_eq_true hh
      · cases ha
    · cases ha
  unfold appTo at ha
  split at ha
  · simp only [VR] at hs
    subst hs
    split at ha
    · simp only [RV.ok.injEq] at ha
      obtain ⟨rfl, rfl⟩ := ha
      exact ⟨_, w, g, hnil rfl, by simp only [VR], Ext.refl _ _ _, hr⟩
    · rename_i n'
      have hg := hgrow none 0 0 [] (by simp [Builtin.firstCells]) (by omega) (by have := hneed ha; omega)
      rw [hg]
      exact hnewRow hr (m := 0) (olds := []) (cso := []) rfl (by simp) 0 (by simpa using ha)
  · rename_i b o es' len cap
    split at ha
    · cases ha
    · rename_i hee
      obtain rfl := Nat.eq_of_beq_eq_true hee
      split at ha
      · rename_i vs m gr hb
        obtain ⟨c0, sh, sz, cp, hg, rfl, hcap, hrle⟩ := hr.room hes hs
        obtain ⟨arr, el, fz, a1, a2, a3, a4, a5, a6, a7⟩ := hr.cells hb hg
        have hcl := hcs.length
        split at ha
        · rename_i h1
          have h1 := Nat.le_of_ble_eq_true h1
          split at ha
          · rename_i h2
            have h2 := Nat.le_of_ble_eq_true h2
            rw [fN_eq] at ha
            simp only [RV.ok.injEq] at ha
            obtain ⟨rfl, rfl⟩ := ha
            rw [Nat.add_mul] at h2
            obtain ⟨_, s1, s2⟩ := br_write hr hb hg (o := o + len * es) (by rw [hcl, hlen]; omega) hcs hone
            have e1 : o + len * es + sh = o + sh + len * es := by omega
            rw [e1] at s1 s2
            have hrun := hroom c0 (o + sh) len cp (by omega) (fun j hj => by rw [cell_of a1]; simp; omega) (fun j hj => by simp only [World.frozen?, a1]; exact a6 _ (by omega))
            refine ⟨_, _, g, hrun, ?_, s1, s2⟩
            simp only [VR]
            exact ⟨c0, sh, sz, cp, hg, rfl, by cases cap <;> exact hcap⟩
          · cases ha
        · rename_i h1
          have h1 : ¬ len + n ≤ roomOf h b o es cap := fun e => by rw [Nat.ble_eq_true_of_le e] at h1; cases h1
          split at ha
          · cases ha
          · rename_i h2
            have h2 := Nat.le_of_ble_eq_true h2
            split at ha
            · cases ha
            · rename_i old hold
              obtain ⟨us, u1, u2, u3⟩ := hr.stretch hb hg h2 hold
              have holdl : old.length = len * es := (takeC_get _ _ _ _ hold).1
              have hfc := firstCells_sl (P := P) (w := w) (size := es) (n := len) (cp := cp) (c := c0) (o := o + sh) u1 u3
              have hroomval : cap = none → roomOf h b o es cap = (m - o) / es := fun e => by subst e; simp only [roomOf, hb]
              unfold appMv at ha
              split at ha
              · rename_i hgr
                have hc0 : cap = none ∧ gr = true := by
                  unfold grows at hgr
                  cases cap with
                  | none => exact ⟨rfl, hgr⟩
                  | some k => cases hgr
                obtain ⟨rfl, rfl⟩ := hc0
                simp only [CapR] at hcap
                by_cases hin : len + n ≤ cp
                · have hmul : (len + n) * es ≤ cp * es := Nat.mul_le_mul_right _ hin
                  rw [Nat.add_mul] at hmul
                  have hrun := hroom c0 (o + sh) len cp hin (fun j hj => by rw [cell_of a1]; simp; omega) (fun j hj => by simp only [World.frozen?, a1]; exact a6 _ (by omega))
                  obtain ⟨k1, k2, k3, k4⟩ := setCells_facts c0 news (o + sh + len * es) w arr el fz a1
                  unfold appNew at ha
                  split at ha
                  · rename_i hl
                    split at ha
                    · have hl := Nat.le_of_ble_eq_true hl
                      rw [fN_eq] at ha
                      simp only [RV.ok.injEq] at ha
                      obtain ⟨rfl, rfl⟩ := ha
                      have hbr : BR P (gset g h.next (c0, o + sh, sz)) (o + sh) sz (.cells (fill (old ++ cs) 0 .leaf) ((len + n) * es) true) (.cells (lay2 arr (o + sh + len * es) news) el fz) := by
                        refine ⟨_, el, fz, rfl, by rw [lay2_size]; exact a2, by rw [Nat.add_mul]; omega, fun e => (by cases e), hl, a6, fun i hi => ?_⟩
                        have hll : (old ++ cs).length = (len + n) * es := by rw [List.length_append, holdl, hcl, hlen, Nat.add_mul]
                        rw [fill_leaf (by rw [hll]; exact hl) (by rw [hll]; exact hi), lay2_get news _ arr _ (by rw [hlen]; omega)]
                        rw [Nat.add_mul] at hi
                        have hle := gset_le hr (c0, o + sh, sz)
                        by_cases hi2 : i < len * es
                        · rw [if_neg (by omega)]
                          have hio : i < old.length := by omega
                          obtain ⟨u, hu, hv⟩ := u2.get i old[i] (by simp [hio])
                          refine ⟨old[i], u, by rw [List.getElem?_append_left hio]; simp [hio], ?_, VR.mono hle _ _ hv⟩
                          have := u3 i u hu
                          rw [cell_of a1] at this
                          rw [← this]
                          congr 1; omega
                        · rw [if_pos (by omega)]
                          have hic : i - len * es < cs.length := by omega
                          obtain ⟨u, hu, hv⟩ := hcs.get (i - len * es) cs[i - len * es] (by simp [hic])
                          refine ⟨cs[i - len * es], u, by rw [List.getElem?_append_right (by omega), holdl]; simp [hic], ?_, VR.mono hle _ _ hv⟩
                          rw [← hu]
                          congr 1; omega
                      obtain ⟨s1, s2⟩ := step_move hr hb hg k1 k2 k3 k4 hbr
                      refine ⟨_, _, _, hrun, ?_, s1, s2⟩
                      simp only [VR]
                      exact ⟨c0, o + sh, sz, cp, gset_same _ _ _, by simp, by simpa using hcap⟩
                    · cases ha
                  · cases ha
                · obtain ⟨d1, d2⟩ := step_del hr b hg
                  rw [hgrow _ len cp us hfc (by omega) (hneed ha)]
                  obtain ⟨c', w', g', r1, r2, r3, r4⟩ := hnewRow d2 (m := len) u2 holdl cp ha
                  exact ⟨c', w', g', r1, r2, d1.trans r3, r4⟩
              · rename_i hgr
                have hlt : cp < len + n := by
                  cases cap with
                  | some k =>
                    simp only [CapR] at hcap
                    simp only [roomOf] at h1
                    omega
                  | none =>
                    have hgf : gr = false := hgr
                    have h3 := a4 hgf
                    simp only [CapR] at hcap
                    rw [hroomval rfl] at h1
                    have : m - o = cp * es := by omega
                    rw [this, Nat.mul_div_cancel _ hes] at h1
                    omega
                rw [hgrow _ len cp us hfc hlt (hneed ha)]
                exact hnewRow hr (m := len) u2 holdl cp ha
      · cases ha
  · cases ha
end
end Go.Eng

namespace Go.Eng
open Go
section
variable {P : Program} {X dd : List Nat} {d : Nat} {t l : E} {ρ : Operand → Value} {g : G}

theorem smallB_of {e : TypeId} {i : TypeInfo} (h : smallB P e = true) (hi : P.info? e = some i) : i.bytes ≤ 65536 := by
  unfold smallB at h
  split at h
  · rename_i i' hi'
    have := info_of hi'
    rw [hi] at this
    obtain rfl := Option.some.inj this
    exact Nat.le_of_ble_eq_true h
  · cases h
/-- a slice as a source of cells -/
theorem src_ok {h : H} {w : World} (hr : HR P g h w) {es n : Nat} {x : AV} {cs : List AV} {u : Value} (hx : VR g x u) (hs : srcC h es x = some (n, cs)) {tx e' : TypeId} (ht : P.underlying tx = some (.slice e')) :
    ∃ news, VRL g cs news ∧ Src P es tx u n news w ∧ okC cs = true := by
  unfold srcC at hs
  split at hs
  · simp only [Option.some.injEq, Prod.mk.injEq] at hs
    obtain ⟨rfl, rfl⟩ := hs
    simp only [VR] at hx
    subst hx
    exact ⟨[], rfl, Src.ofNil w ht 0, rfl⟩
  · rename_i b o es' len cap
    split at hs
    · rename_i vs m gr hb
      split at hs
      · rename_i hle
        have hle := Nat.le_of_ble_eq_true hle
        split at hs
        · cases hs
        · rename_i cs' hcs
          split at hs
          · rename_i hok
            simp only [Option.some.injEq, Prod.mk.injEq] at hs
            obtain ⟨rfl, rfl⟩ := hs
            simp only [VR] at hx
            obtain ⟨c, sh, sz, cp, hg, rfl, _⟩ := hx
            obtain ⟨us, u1, u2, u3⟩ := hr.stretch hb hg hle hcs
            exact ⟨us, u2, Src.ofSlice w ht ⟨c, o + sh, none⟩ len cp us u1 (fun j v hv => by rw [Addr.add_lit]; exact u3 j v hv) (u2.ones hok), hok⟩
          · cases hs
      · cases hs
    · cases hs
  · cases hs
theorem run_append_op {c : Call} {o : Oper} (ho : o.op = .call c) (hb : c.callee = .builtin .append) {w w' : World} {a b : Operand} {t1 t2 : TypeId} (ha : c.args = #[a, b]) (ht : c.argTypes = #[t1, t2]) {v : Value}
    (h : (Builtin.append_ #[t1, t2] o.type #[ρ a, ρ b]).run P w = .ok v w') : (execOp ρ o).run P w = .ok (.value v) w' := by
  simp only [execOp, ho, resolve, hb, Sem.run_bind, Sem.run_pure, Result.andThen_ok, invoke, builtin, ha, ht, List.map_toArray, List.map_cons, List.map_nil, h]
end
end Go.Eng

namespace Go.Eng
open Go
section
variable {P : Program} {X dd : List Nat} {d : Nat} {t l : E} {ρ : Operand → Value} {g : G}

theorem args_two {c : Call} {vs : List AV} (hv : VRL g vs (c.args.toList.map ρ)) (h2 : vs.length = 2) : ∃ a b x y, c.args = #[a, b] ∧ vs = [x, y] ∧ VR g x (ρ a) ∧ VR g y (ρ b) := by
  have hl := hv.length
  rw [h2, List.length_map] at hl
  match hc : c.args.toList, hl with
  | [a, b], _ =>
    match vs, h2 with
    | [x, y], _ =>
      rw [hc] at hv
      obtain ⟨h3, h4⟩ := two_VRL (by simpa using hv)
      exact ⟨a, b, x, y, Array.toList_inj.1 hc, rfl, h3, h4⟩

theorem repZ_mem {z : List AV} {x : AV} : ∀ {n : Nat}, x ∈ repZ z n → x ∈ z
  | 0, h => by cases h
  | n + 1, h => by
    unfold repZ at h
    rcases List.mem_append.1 h with h | h
    · exact h
    · exact repZ_mem h
theorem ef_append (hρ : OpdR g X dd t l ρ) (c : Call) (hb : c.callee = .builtin .append) : EffOK P X dd d t l ρ g (.call c) := by
  match hT : c.argTypes.toList with
  | [] => exact ef_bad (by simp only [plan1, hb, hT])
  | [_] => exact ef_bad (by simp only [plan1, hb, hT])
  | _ :: _ :: _ :: _ => exact ef_bad (by simp only [plan1, hb, hT])
  | [st, xt] =>
    have hT' : c.argTypes = #[st, xt] := Array.toList_inj.1 hT
    cases he : slE P st with
    | none => exact ef_bad (by simp only [plan1, hb, hT, he])
    | some e =>
      cases hs : tsize P e with
      | none => exact ef_bad (by simp only [plan1, hb, hT, he, hs])
      | some es0 =>
        cases es0 with
        | zero => exact ef_bad (by simp only [plan1, hb, hT, he, hs])
        | succ es =>
          cases hz : zeroC P e with
          | none => exact ef_bad (by simp only [plan1, hb, hT, he, hs, hz])
          | some z =>
            cases hsm : smallB P e with
            | false => exact ef_bad (by simp only [plan1, hb, hT, he, hs, hz, hsm])
            | true =>
              obtain ⟨ie, hie, hsz⟩ := tsize_of hs
              obtain ⟨iz, zv, hiz, hzv, hzr⟩ := zeroC_of hz
              rw [hie] at hiz
              obtain rfl := Option.some.inj hiz
              have hbytes := smallB_of hsm hie
              have hst := und_of (slE_of he)
              cases hu : und P xt with
              | none => exact ef_bad (by simp only [plan1, hb, hT, he, hs, hz, hsm, hu])
              | some xd =>
                cases xd with
                | slice e' =>
                  cases hzb : Nat.beq (lenL z) (es + 1) with
                  | false => exact ef_bad (by simp only [plan1, hb, hT, he, hs, hz, hsm, hu, hzb])
                  | true =>
                  intro o ho h h' v hi w hr
                  simp only [plan1, hb, hT, he, hs, hz, hsm, hu, hzb, insV, rL_ok] at hi
                  obtain ⟨vs, hvs, ha⟩ := hi
                  have hvl := getL_VRL hρ hvs
                  unfold appR at ha
                  split at ha
                  · rename_i s x
                    obtain ⟨a, b, x', y', hargs, hv', hsa, hxb⟩ := args_two hvl rfl
                    cases hv'
                    split at ha
                    · cases ha
                    · rename_i n cs hsrc
                      obtain ⟨news, n1, n2, _⟩ := src_ok hr hxb hsrc (und_of hu)
                      have hA := AS.of_src n2
                      have hzl : zv.cells.size = es + 1 := by
                        have h1 : z.length = zv.cells.size := by simpa using (hzr g).length
                        have h2 := Nat.eq_of_beq_eq_true hzb
                        rw [lenL_eq] at h2
                        omega
                      obtain ⟨c', w', g', r1, r2, r3, r4⟩ := appTo_ok hr (by omega) n1 hA.len hA.one hsa (F := fun u => (Builtin.append_ #[st, xt] o.type #[u, ρ b]).run P w) (e := e) (zv := zv.cells) hzl
                        (fun bb off sLen sCap h1 h2 h3 => hA.room st o.type e ie hst hie hsz bb off sLen sCap h1 (by rw [hA.len]; exact h2) (by rw [hA.len]; exact h3))
                        (fun h0 => hA.nil h0 st o.type e ie hst hie hsz)
                        (fun base sLen sCap olds h1 h2 h3 => hA.grow st o.type e ie zv hst hie hsz hzv hbytes base sLen sCap olds h1 h2 h3) ha
                      exact ⟨_, c', w', g', run_append_op ho hb hargs hT' r1, .inl rfl, r2, r3, r4⟩
                  · cases ha
                | int k =>
                  by_cases hk : k = .i64
                  · subst hk
                    cases hzb : Nat.beq (lenL z) (es + 1) with
                    | false => exact ef_bad (by simp only [plan1, hb, hT, he, hs, hz, hsm, hu, hzb])
                    | true =>
                      cases hok : okC z with
                      | false => exact ef_bad (by simp only [plan1, hb, hT, he, hs, hz, hsm, hu, hzb, hok])
                      | true =>
                        intro o ho h h' v hi w hr
                        simp only [plan1, hb, hT, he, hs, hz, hsm, hu, hzb, hok, insV, rL_ok] at hi
                        obtain ⟨vs, hvs, ha⟩ := hi
                        have hvl := getL_VRL hρ hvs
                        have h1 : z.length = zv.cells.size := by simpa using (hzr g).length
                        have h2 := Nat.eq_of_beq_eq_true hzb
                        rw [lenL_eq] at h2
                        unfold appZ at ha
                        split at ha
                        · rename_i s kq n
                          obtain ⟨a, b, x', y', hargs, hv', hsa, hxb⟩ := args_two hvl rfl
                          cases hv'
                          have hxb := int_of hxb
                          have hxb' : ρ b = .int kq ((n : Nat) : Int) := hxb
                          split at ha
                          · rename_i hn
                            have hn : n ≤ 1073741824 := Nat.le_of_ble_eq_true hn
                            have hzl : zv.cells.size = es + 1 := by omega
                            have hcs := zeroCells_VRL (hzr g) n
                            have hone : ∀ u ∈ (Builtin.zeroCells zv.cells n).toList, u.oneCell' = true := by
                              intro u hu
                              obtain ⟨i, hi, rfl⟩ := List.getElem_of_mem hu
                              obtain ⟨x, hx, hxv⟩ := hcs.get' i _ (List.getElem?_eq_getElem hi)
                              have hxm : x ∈ repZ z n := List.mem_of_getElem? hx
                              have hxz : x ∈ z := repZ_mem hxm
                              exact (VR.one (okC_get hok x hxz) hxv).1
                            obtain ⟨hroom, hnil⟩ := AS.of_zeros (P := P) (kq := kq) (und_of hu) hie hzv hsz (by omega) hbytes hzl hn hone w st o.type hst
                            obtain ⟨c', w', g', r1, r2, r3, r4⟩ := appTo_ok hr (by omega) hcs (by rw [Array.length_toList, zeroCells_length, hzl]) hone hsa (F := fun u => (Builtin.append_ #[st, xt] o.type #[u, ρ b]).run P w) (e := e) (zv := zv.cells) hzl
                              (fun bb off sLen sCap h1 h2 h3 => by have := hroom bb off sLen sCap h1 h2 h3; rw [← hxb'] at this; exact this)
                              (fun h0 => by have := hnil h0; rw [← hxb'] at this; exact this)
                              (fun base sLen sCap olds h1 h2 h3 => by
                                have hfit := fits h2 h3 hbytes
                                have hnb : n * ie.bytes ≤ 1073741824 * 65536 := Nat.mul_le_mul hn hbytes
                                by_cases h0 : 0 < n
                                · have := Lib.run_append_grow_zeros (P := P) w st xt o.type e ie zv kq .i64 hst (und_of hu) hie hzv base sLen sCap olds (by rw [hsz]; exact h1) n h0 (by omega) h2 (by omega) (by omega) hfit
                                  rw [← hxb'] at this
                                  rw [this]
                                  congr 3
                                  apply Array.ext'
                                  simp
                                · have hn0 : n = 0 := by omega
                                  subst hn0
                                  have g1 : ¬ sLen ≤ sCap := by omega
                                  have g2 : ¬ (9223372036854775807 < (sLen : Int)) := by omega
                                  have g3 : ¬ (281474976710656 < Builtin.nextslicecap sLen sCap * ie.bytes) := by have := hfit; simp only [Nat.add_zero] at this; omega
                                  have g4 : (Builtin.zeroCells zv.cells 0) = #[] := by simp [Builtin.zeroCells]
                                  rw [← hsz] at h1
                                  rw [hxb']
                                  simp [Builtin.append_, run_underlying hst, run_underlying (und_of hu), sizeOf, typeInfo, zeroValue, hie, hzv, asInt, asIntOf, show IntKind.i64.wrap 0 = 0 from rfl, g1, g2, g3, g4, Question.forced, h1, newRow, grownCap]) ha
                            exact ⟨_, c', w', g', run_append_op ho hb hargs hT' r1, .inl rfl, r2, r3, r4⟩
                          · cases ha
                        · cases ha
                  · exact ef_bad (by cases k <;> first | exact absurd rfl hk | simp only [plan1, hb, hT, he, hs, hz, hsm, hu])
                | _ => exact ef_bad (by simp only [plan1, hb, hT, he, hs, hz, hsm, hu])
end
end Go.Eng

namespace Go.Eng
open Go
section
variable {P : Program} {X dd : List Nat} {d : Nat} {t l : E} {ρ : Operand → Value} {g : G}
theorem ef_copy (hρ : OpdR g X dd t l ρ) (c : Call) (hb : c.callee = .builtin .copy) : EffOK P X dd d t l ρ g (.call c) := by
  match hT : c.argTypes.toList with
  | [] => exact ef_bad (by simp only [plan1, hb, hT])
  | [_] => exact ef_bad (by simp only [plan1, hb, hT])
  | _ :: _ :: _ :: _ => exact ef_bad (by simp only [plan1, hb, hT])
  | [st, xt] =>
    have hT' : c.argTypes = #[st, xt] := Array.toList_inj.1 hT
    cases he : slE P st with
    | none => exact ef_bad (by simp only [plan1, hb, hT, sizeE, he])
    | some e =>
      cases hs : tsize P e with
      | none => exact ef_bad (by simp only [plan1, hb, hT, sizeE, he, hs])
      | some es =>
        cases hu : und P xt with
        | none => exact ef_bad (by simp only [plan1, hb, hT, sizeE, he, hs, hu])
        | some xd =>
          cases xd with
          | slice e' =>
            intro o ho h h' v hi w hr
            simp only [plan1, hb, hT, sizeE, he, hs, hu, insV, rL_ok] at hi
            obtain ⟨vs, hvs, ha⟩ := hi
            have hvl := getL_VRL hρ hvs
            unfold copyR at ha
            split at ha
            · rename_i b q es' n cap x
              obtain ⟨a, b2, x', y', hargs, hv', hsa, hxb⟩ := args_two hvl rfl
              cases hv'
              split at ha
              · cases ha
              · rename_i m cs hsrc
                split at ha
                · rename_i vs z gr hbk
                  split at ha
                  · rename_i hmn
                    split at ha
                    · rename_i hz
                      simp only [RV.ok.injEq] at ha
                      obtain ⟨rfl, rfl⟩ := ha
                      have hmn := Nat.le_of_ble_eq_true hmn
                      have hz := Nat.le_of_ble_eq_true hz
                      obtain ⟨news, n1, n2, hok⟩ := src_ok hr hxb hsrc (und_of hu)
                      simp only [VR] at hsa
                      obtain ⟨c0, sh, sz, cp, hg, hda, _⟩ := hsa
                      obtain ⟨r1, r2, r3⟩ := br_write hr hbk hg (o := q) (by rw [n1.length, n2.newsLen]; exact hz) n1 (n1.ones hok)
                      refine ⟨_, goInt m, _, g, ?_, .inl rfl, by simp only [VR]; rfl, r2, r3⟩
                      have hmin : Nat.min m n = m := Nat.min_eq_left hmn
                      simp only [execOp, ho, resolve, hb, Sem.run_bind, Sem.run_pure, Result.andThen_ok, invoke, builtin, hargs, hT', List.map_toArray, List.map_cons, List.map_nil, hda]
                      simp [Builtin.copy_, run_und_of (slE_of he), n2.len, run_sizeOf_of hs, hmin, n2.cells, r1]
                    · cases ha
                  · cases ha
                · cases ha
            · cases ha
          | _ => exact ef_bad (by simp only [plan1, hb, hT, sizeE, he, hs, hu])
end
end Go.Eng

namespace Go.Eng
open Go
section
variable {P : Program} {X dd : List Nat} {d : Nat} {t l : E} {ρ : Operand → Value} {g : G}
/-- any operation whose answer the engine tells by itself -/
theorem op_any (hρ : OpdR g X dd t l ρ) (op : Op) : EffOK P X dd d t l ρ g op := by
  cases hc : clsOf P op with
  | pure => exact (op_pure hρ op hc).read.eff
  | read => exact (op_read hρ op hc).eff
  | alloc => exact (op_alloc hρ op hc).eff
  | effect =>
    cases op with
    | store ty a x => exact ef_store hρ ty a x
    | mapUpdate ty m k x => exact ef_upd hρ _ ty m k x (.inl rfl)
    | insert ty m k x => exact ef_upd hρ _ ty m k x (.inr rfl)
    | range ty x => exact ef_range hρ ty x
    | next x b => exact ef_next hρ x b
    | call c =>
      cases hcal : c.callee with
      | builtin b =>
        cases b with
        | append => exact ef_append hρ c hcal
        | copy => exact ef_copy hρ c hcal
        | max => simp [clsOf, hcal] at hc
        | min => simp [clsOf, hcal] at hc
        | len => simp [clsOf, hcal] at hc
        | cap => simp [clsOf, hcal] at hc
        | recover => intro o ho h h' v hi; simp only [plan1, hcal, insV] at hi; cases hi
        | _ => exact ef_bad (by simp only [plan1, hcal])
      | value x => intro o ho h h' v hi; simp only [plan1, hcal, insV] at hi; cases hi
      | invoke x m => intro o ho h h' v hi; simp only [plan1, hcal, insV] at hi; cases hi
    | defer c =>
      cases hcal : c.callee with
      | value x => intro o ho h h' v hi; simp only [plan1, hcal, insV] at hi; cases hi
      | _ => exact ef_bad (by simp only [plan1, hcal])
    | convert s ty x => exfalso; simp only [clsOf] at hc; split at hc <;> cases hc
    | _ => first | exact ef_bad rfl | exact absurd hc (by simp [clsOf]) | (exfalso; simp only [clsOf] at hc; (try split at hc) <;> cases hc)
end
end Go.Eng

namespace Go.Eng
open Go
section
variable (P : Program) (ih : Rec)
/-- what one instruction answers: its value, what is put off, the heap -/
noncomputable def oneI (l : E) : Ins → E → List Dfr → H → Option (AV × List Dfr × H)
  | .call _ g xs, t, ds, h => (match getO g t l with
    | none => none
    | some gv => (match getL xs t l with
      | none => none
      | some vs => (match ih.cv gv vs h with | .ok v h' => some (v, ds, h') | .no => none)))
  | .inv _ x m xs, t, ds, h => (match getO x t l with
    | some (.iface u v) => (match getL xs t l with
      | none => none
      | some vs => (match methodA P h u v (methOf P u m) with
        | none => none
        | some (f, r) => (match ih.cf f (r :: vs) h with | .ok v h' => some (v, ds, h') | .no => none)))
    | _ => none)
  | .defer _ g xs, t, ds, h => (match getO g t l with
    | some (.fn f fi cap) => (match getL xs t l with
      | none => none
      | some vs => some (.tup [], .call (.fn f fi cap) vs :: ds, h))
    | _ => none)
  | .recover _, _, ds, h => some (.iface0, ds, h)
  | .guard x b _ i, t, ds, h => (match getO x t l with
    | some (.bool c) => (match bEq c b with | true => oneI l i t ds h | false => some (.tup [], ds, h))
    | some (.tup []) => some (.tup [], ds, h)
    | _ => none)
  | i, t, ds, h => (match insV t l h i with | .ok v h' => some (v, ds, h') | .no => none)
end
/-- an instruction that writes to d -/
def Wd (d : Nat) : Ins → Prop
  | .mv d' _ => d' = d
  | .f1 d' _ _ => d' = d
  | .f2 d' _ _ _ => d' = d
  | .g1 d' _ _ => d' = d
  | .g2 d' _ _ _ => d' = d
  | .pick d' _ _ _ => d' = d
  | .a1 d' _ _ => d' = d
  | .call d' _ _ => d' = d
  | .inv d' _ _ _ => d' = d
  | .defer d' _ _ => d' = d
  | .recover d' => d' = d
  | .guard _ _ d' i => d' = d ∧ Wd d i
  | .chk _ _ => False
  | .bad => True
section
variable {P : Program} {ih : Rec} {l : E}
theorem kV_ok {d : Nat} {t : E} {ds : List Dfr} {h : H} {k : K} {o : Option AV} {x : Ex} {f : Fr} {h' : H} : kV d t ds h k o = .ok x f h' ↔ ∃ v, o = some v ∧ k (.cons d v t) ds h = .ok x f h' := by
  cases o <;> simp [kV]
theorem kR_ok {d : Nat} {t : E} {ds : List Dfr} {k : K} {r : RV} {x : Ex} {f : Fr} {h' : H} : kR d t ds k r = .ok x f h' ↔ ∃ v h1, r = .ok v h1 ∧ k (.cons d v t) ds h1 = .ok x f h' := by
  cases r with
  | no => simp [kR]
  | ok v h => exact ⟨fun hk => ⟨v, h, rfl, hk⟩, fun ⟨v', h1, e, hk⟩ => by cases e; exact hk⟩
theorem execI_one {d : Nat} : ∀ (i : Ins), Wd d i → ∀ {t : E} {ds : List Dfr} {h : H} {k : K} {x : Ex} {f : Fr} {h' : H}, execI P ih l i t ds h k = .ok x f h' →
    ∃ v ds1 h1, oneI P ih l i t ds h = some (v, ds1, h1) ∧ k (.cons d v t) ds1 h1 = .ok x f h'
  | .mv d' y, hw, t, ds, h, k, x, f, h', he => by
    obtain rfl : d' = d := hw
    have he : kV d' t ds h k (getO y t l) = .ok x f h' := he
    obtain ⟨v, hv, hk⟩ := kV_ok.1 he
    exact ⟨v, ds, h, by simp [oneI, insV, hv, ofO], hk⟩
  | .f1 d' g y, hw, t, ds, h, k, x, f, h', he => by
    obtain rfl : d' = d := hw
    have he : k1 d' g t ds h k (getO y t l) = .ok x f h' := he
    cases hy : getO y t l with
    | none => rw [hy] at he; cases he
    | some a =>
      rw [hy] at he
      obtain ⟨v, hv, hk⟩ := kV_ok.1 he
      exact ⟨v, ds, h, by simp [oneI, insV, hy, oB, hv, ofO], hk⟩
  | .f2 d' g y z, hw, t, ds, h, k, x, f, h', he => by
    obtain rfl : d' = d := hw
    have he : kf2 d' g t ds h k (getO y t l) (getO z t l) = .ok x f h' := he
    cases hy : getO y t l with
    | none => rw [hy] at he; cases he
    | some a =>
      cases hz : getO z t l with
      | none => rw [hy, hz] at he; cases he
      | some b =>
        rw [hy, hz] at he
        obtain ⟨v, hv, hk⟩ := kV_ok.1 he
        exact ⟨v, ds, h, by simp [oneI, insV, hy, hz, oB, oB2, hv, ofO], hk⟩
  | .g1 d' g y, hw, t, ds, h, k, x, f, h', he => by
    obtain rfl : d' = d := hw
    have he : k1 d' (g h) t ds h k (getO y t l) = .ok x f h' := he
    cases hy : getO y t l with
    | none => rw [hy] at he; cases he
    | some a =>
      rw [hy] at he
      obtain ⟨v, hv, hk⟩ := kV_ok.1 he
      exact ⟨v, ds, h, by simp [oneI, insV, hy, oB, hv, ofO], hk⟩
  | .g2 d' g y z, hw, t, ds, h, k, x, f, h', he => by
    obtain rfl : d' = d := hw
    have he : kf2 d' (g h) t ds h k (getO y t l) (getO z t l) = .ok x f h' := he
    cases hy : getO y t l with
    | none => rw [hy] at he; cases he
    | some a =>
      cases hz : getO z t l with
      | none => rw [hy, hz] at he; cases he
      | some b =>
        rw [hy, hz] at he
        obtain ⟨v, hv, hk⟩ := kV_ok.1 he
        exact ⟨v, ds, h, by simp [oneI, insV, hy, hz, oB, oB2, hv, ofO], hk⟩
  | .pick d' c a b, hw, t, ds, h, k, x, f, h', he => by
    obtain rfl : d' = d := hw
    have he : kP d' t ds h k (getO c t l) (getO a t l) (getO b t l) = .ok x f h' := he
    unfold kP at he
    split at he
    · rename_i hc
      obtain ⟨v, hv, hk⟩ := kV_ok.1 he
      exact ⟨v, ds, h, by simp [oneI, insV, hc, oP, hv, ofO], hk⟩
    · rename_i hc
      obtain ⟨v, hv, hk⟩ := kV_ok.1 he
      exact ⟨v, ds, h, by simp [oneI, insV, hc, oP, hv, ofO], hk⟩
    · cases he
  | .a1 d' g xs, hw, t, ds, h, k, x, f, h', he => by
    obtain rfl : d' = d := hw
    have he : kA d' g t ds h k (getL xs t l) = .ok x f h' := he
    unfold kA at he
    split at he
    · cases he
    · rename_i vs hvs
      obtain ⟨v, h1, hv, hk⟩ := kR_ok.1 he
      exact ⟨v, ds, h1, by simp [oneI, insV, hvs, rL, hv], hk⟩
  | .call d' g xs, hw, t, ds, h, k, x, f, h', he => by
    obtain rfl : d' = d := hw
    have he : kC ih d' t ds h k (getO g t l) (getL xs t l) = .ok x f h' := he
    unfold kC at he
    split at he
    · cases he
    · rename_i gv hg
      split at he
      · cases he
      · rename_i vs hvs
        obtain ⟨v, h1, hv, hk⟩ := kR_ok.1 he
        exact ⟨v, ds, h1, by simp [oneI, hg, hvs, hv], hk⟩
  | .inv d' y m xs, hw, t, ds, h, k, x, f, h', he => by
    obtain rfl : d' = d := hw
    have he : kI P ih m d' t ds h k (getO y t l) (getL xs t l) = .ok x f h' := he
    unfold kI at he
    split at he
    · rename_i u v hy
      split at he
      · cases he
      · rename_i vs hvs
        split at he
        · cases he
        · rename_i fn r hm
          obtain ⟨v, h1, hv, hk⟩ := kR_ok.1 he
          exact ⟨v, ds, h1, by simp [oneI, hy, hvs, hm, hv], hk⟩
    · cases he
  | .defer d' g xs, hw, t, ds, h, k, x, f, h', he => by
    obtain rfl : d' = d := hw
    have he : kD d' t ds h k (getO g t l) (getL xs t l) = .ok x f h' := he
    unfold kD at he
    split at he
    · rename_i fn fi cap hg
      split at he
      · cases he
      · rename_i vs hvs
        exact ⟨.tup [], .call (.fn fn fi cap) vs :: ds, h, by simp [oneI, hg, hvs], he⟩
    · cases he
  | .recover d', hw, t, ds, h, k, x, f, h', he => by
    obtain rfl : d' = d := hw
    exact ⟨.iface0, ds, h, by simp [oneI], he⟩
  | .guard y b d' i, hw, t, ds, h, k, x, f, h', he => by
    obtain ⟨rfl, hw⟩ : d' = d ∧ Wd d i := hw
    have he : kG b d' t ds h k (execI P ih l i t ds h k) (getO y t l) = .ok x f h' := he
    unfold kG at he
    split at he
    · rename_i c hy
      split at he
      · rename_i hb
        obtain ⟨v, ds1, h1, h2, h3⟩ := execI_one i hw he
        exact ⟨v, ds1, h1, by simp [oneI, hy, hb, h2], h3⟩
      · rename_i hb
        exact ⟨.tup [], ds, h, by simp [oneI, hy, hb], he⟩
    · rename_i hy
      exact ⟨.tup [], ds, h, by simp [oneI, hy], he⟩
    · cases he
  | .chk _ _, hw, _, _, _, _, _, _, _, _ => hw.elim
  | .bad, _, _, _, _, _, _, _, _, he => by
    have he : RC.no = .ok _ _ _ := he
    cases he
theorem plan1_wd (X dd : List Nat) (d : Nat) (op : Op) : Wd d (plan1 P X dd d op) := by
  cases op with
  | call c =>
    cases hc : c.callee with
    | builtin b => cases b <;> simp only [plan1, hc] <;> (repeat' split) <;> simp [Wd]
    | value x => simp [plan1, hc, Wd]
    | invoke x m => simp [plan1, hc, Wd]
  | convert s t x => simp only [plan1, convP]; (repeat' split) <;> simp [Wd]
  | build t ps => simp only [plan1, bld]; (repeat' split) <;> simp [Wd]
  | buildSlice t n ps => simp only [plan1, bldS]; (repeat' split) <;> simp [Wd]
  | mapUpdate t m k v => simp only [plan1, updP]; (repeat' split) <;> simp [Wd]
  | insert t m k v => simp only [plan1, updP]; (repeat' split) <;> simp [Wd]
  | next x b => cases b <;> simp [plan1, Wd]
  | makeMap t r => cases r <;> simp [plan1, Wd]
  | binOp op t x y yt => cases op <;> simp only [plan1] <;> (repeat' split) <;> simp [Wd]
  | _ => simp only [plan1]; (repeat' split) <;> simp [Wd]
theorem planG_wd (X dd : List Nat) (all : List Oper) (d : Nat) (g : Option (Nat × Bool)) {i : Ins} (hi : Wd d i) : Wd d (planG X all dd d g i) := by
  unfold planG
  (repeat' split) <;> simp_all [Wd]
end
end Go.Eng

namespace Go.Eng
open Go
section
variable {P : Program} {ih : Rec} {X dd : List Nat} {d : Nat} {t l t' l' : E}
/-- two places agree on operands -/
def Agree (X dd : List Nat) (t l t' l' : E) (xs : List Operand) : Prop := ∀ x ∈ xs, getO (opd X dd x) t l = getO (opd X dd x) t' l'
theorem getL_agree : ∀ {xs : List Operand}, Agree X dd t l t' l' xs → getL (opds X dd xs) t l = getL (opds X dd xs) t' l'
  | [], _ => rfl
  | x :: xs, h => by
    simp only [opds, getL_cons]
    rw [h x (by simp), getL_agree fun y hy => h y (by simp [hy])]
theorem Agree.one {x : Operand} {xs : List Operand} (h : Agree X dd t l t' l' xs) (hx : x ∈ xs) : getO (opd X dd x) t l = getO (opd X dd x) t' l' := h x hx
theorem Agree.sub {xs ys : List Operand} (h : Agree X dd t l t' l' xs) (hs : ∀ y ∈ ys, y ∈ xs) : Agree X dd t l t' l' ys := fun y hy => h y (hs y hy)

theorem one_f1 {f : AV → Option AV} {x : Operand} {ds : List Dfr} {h : H} (hx : getO (opd X dd x) t l = getO (opd X dd x) t' l') : oneI P ih l (.f1 d f (opd X dd x)) t ds h = oneI P ih l' (.f1 d f (opd X dd x)) t' ds h := by simp only [oneI, insV, hx]
theorem one_mv {x : Operand} {ds : List Dfr} {h : H} (hx : getO (opd X dd x) t l = getO (opd X dd x) t' l') : oneI P ih l (.mv d (opd X dd x)) t ds h = oneI P ih l' (.mv d (opd X dd x)) t' ds h := by simp only [oneI, insV, hx]
theorem one_g1 {f : H → AV → Option AV} {x : Operand} {ds : List Dfr} {h : H} (hx : getO (opd X dd x) t l = getO (opd X dd x) t' l') : oneI P ih l (.g1 d f (opd X dd x)) t ds h = oneI P ih l' (.g1 d f (opd X dd x)) t' ds h := by simp only [oneI, insV, hx]
theorem one_f2 {f : AV → AV → Option AV} {x y : Operand} {ds : List Dfr} {h : H} (hx : getO (opd X dd x) t l = getO (opd X dd x) t' l') (hy : getO (opd X dd y) t l = getO (opd X dd y) t' l') : oneI P ih l (.f2 d f (opd X dd x) (opd X dd y)) t ds h = oneI P ih l' (.f2 d f (opd X dd x) (opd X dd y)) t' ds h := by simp only [oneI, insV, hx, hy]
theorem one_g2 {f : H → AV → AV → Option AV} {x y : Operand} {ds : List Dfr} {h : H} (hx : getO (opd X dd x) t l = getO (opd X dd x) t' l') (hy : getO (opd X dd y) t l = getO (opd X dd y) t' l') : oneI P ih l (.g2 d f (opd X dd x) (opd X dd y)) t ds h = oneI P ih l' (.g2 d f (opd X dd x) (opd X dd y)) t' ds h := by simp only [oneI, insV, hx, hy]
theorem one_a1 {f : H → List AV → RV} {xs : List Operand} {ds : List Dfr} {h : H} (hx : Agree X dd t l t' l' xs) : oneI P ih l (.a1 d f (opds X dd xs)) t ds h = oneI P ih l' (.a1 d f (opds X dd xs)) t' ds h := by simp only [oneI, insV, getL_agree hx]
theorem one_bad {ds : List Dfr} {h : H} : oneI P ih l .bad t ds h = oneI P ih l' .bad t' ds h := rfl

theorem opts_sub {x : Operand} {lo hi mx : Option Operand} {ty : TypeId} : ∀ y ∈ x :: (opts lo ++ opts hi), y ∈ (Op.slice ty x lo hi mx).operands.toList := by
  intro y hy
  cases lo <;> cases hi <;> cases mx <;> simp [opts, Op.operands] at hy ⊢ <;> grind

theorem one_agree (op : Op) (ha : Agree X dd t l t' l' op.operands.toList) {ds : List Dfr} {h : H} : oneI P ih l (plan1 P X dd d op) t ds h = oneI P ih l' (plan1 P X dd d op) t' ds h := by
  cases op with
  | move x => exact one_mv (ha x (by simp [Op.operands]))
  | assign x => exact one_mv (ha x (by simp [Op.operands]))
  | pick c a b =>
    have h1 := ha c (by simp [Op.operands])
    have h2 := ha a (by simp [Op.operands])
    have h3 := ha b (by simp [Op.operands])
    simp only [plan1, oneI, insV, h1, h2, h3]
  | alloc ty =>
    simp only [plan1]
    split
    · exact one_a1 (X := X) (dd := dd) (xs := []) (fun _ h => by cases h)
    · rfl
  | box ty x => exact one_a1 (xs := [x]) (ha.sub (by simp [Op.operands]))
  | build ty ps =>
    have hs : Agree X dd t l t' l' (snds ps.toList) := ha.sub (by simp [Op.operands, snds_map])
    simp only [plan1]
    split
    · split
      · unfold bld; split
        · exact one_a1 hs
        · rfl
      · rfl
    · split
      · unfold bld; split
        · exact one_a1 hs
        · rfl
      · rfl
    · rfl
  | buildSlice ty n ps =>
    have hs : Agree X dd t l t' l' (snds ps.toList) := ha.sub (by simp [Op.operands, snds_map])
    simp only [plan1]
    split
    · split
      · unfold bldS; split
        · split
          · split
            · exact one_a1 hs
            · rfl
          · rfl
        · rfl
      · rfl
    · rfl
  | load ty a =>
    have h1 := ha a (by simp [Op.operands])
    simp only [plan1]
    (repeat' split) <;> first | rfl | exact one_g1 h1
  | store ty a x =>
    have hs : Agree X dd t l t' l' [a, x] := ha.sub (by simp [Op.operands])
    simp only [plan1]
    split
    · exact one_a1 hs
    · rfl
  | nilCheck x => exact one_f1 (ha x (by simp [Op.operands]))
  | binOp op ty x y yt =>
    have h1 := ha x (by simp [Op.operands])
    have h2 := ha y (by simp [Op.operands])
    cases op <;> simp only [plan1] <;> (repeat' split) <;> first | rfl | exact one_f2 h1 h2
  | unOp op ty x =>
    have h1 := ha x (by simp [Op.operands])
    simp only [plan1]
    (repeat' split) <;> first | rfl | exact one_f1 h1
  | convert s ty x =>
    have h1 := ha x (by simp [Op.operands])
    simp only [plan1, convP]
    (repeat' split) <;> first | rfl | exact one_f1 h1 | exact one_mv h1 | exact one_g1 h1 | exact one_a1 (xs := [x]) (ha.sub (by simp [Op.operands]))
  | makeInterface ty x =>
    have h1 := ha x (by simp [Op.operands])
    simp only [plan1]
    (repeat' split) <;> first | rfl | exact one_f1 h1
  | makeFunc f a c =>
    simp only [plan1]
    split
    · split
      · exact one_a1 (ha.sub fun y hy => by simp [Op.operands] at hy ⊢; exact .inr hy)
      · rename_i x hx
        split
        · exact one_a1 (xs := [x]) (ha.sub (by simp [Op.operands, hx]))
        · rfl
      · rfl
    · rfl
  | makeMap ty r =>
    cases r with
    | none => exact one_a1 (X := X) (dd := dd) (xs := []) (fun _ h => by cases h)
    | some _ => rfl
  | makeSlice ty a b =>
    have hs : Agree X dd t l t' l' [a, b] := ha.sub (by simp [Op.operands])
    simp only [plan1]
    (repeat' split) <;> first | rfl | exact one_a1 hs
  | slice ty x lo hi mx =>
    have hs : Agree X dd t l t' l' (x :: (opts lo ++ opts hi)) := ha.sub opts_sub
    simp only [plan1]
    (repeat' split) <;> first | rfl | exact one_a1 hs
  | fieldAddr ty x f =>
    have h1 := ha x (by simp [Op.operands])
    simp only [plan1]
    (repeat' split) <;> first | rfl | exact one_f1 h1
  | field ty x f =>
    have h1 := ha x (by simp [Op.operands])
    simp only [plan1]
    (repeat' split) <;> first | rfl | exact one_f1 h1
  | indexAddr ty x i =>
    have h1 := ha x (by simp [Op.operands])
    have h2 := ha i (by simp [Op.operands])
    simp only [plan1]
    (repeat' split) <;> first | rfl | exact one_f2 h1 h2
  | index ty x i =>
    have h1 := ha x (by simp [Op.operands])
    have h2 := ha i (by simp [Op.operands])
    simp only [plan1]
    (repeat' split) <;> first | rfl | exact one_f2 h1 h2
  | lookup ty x k ok =>
    have h1 := ha x (by simp [Op.operands])
    have h2 := ha k (by simp [Op.operands])
    simp only [plan1]
    (repeat' split) <;> first | rfl | exact one_g2 h1 h2
  | mapUpdate ty m k x =>
    have hs : Agree X dd t l t' l' [m, k, x] := ha.sub (by simp [Op.operands])
    simp only [plan1, updP]
    (repeat' split) <;> first | rfl | exact one_a1 hs
  | insert ty m k x =>
    have hs : Agree X dd t l t' l' [m, k, x] := ha.sub (by simp [Op.operands])
    simp only [plan1, updP]
    (repeat' split) <;> first | rfl | exact one_a1 hs
  | range ty x =>
    have hs : Agree X dd t l t' l' [x] := ha.sub (by simp [Op.operands])
    simp only [plan1]
    (repeat' split) <;> first | rfl | exact one_a1 hs
  | next x b =>
    cases b with
    | true => rfl
    | false => exact one_a1 (xs := [x]) (ha.sub (by simp [Op.operands]))
  | entry x => exact one_g1 (ha x (by simp [Op.operands]))
  | typeAssert x xt a ok =>
    have h1 := ha x (by simp [Op.operands])
    simp only [plan1]
    (repeat' split) <;> first | rfl | exact one_f1 h1
  | extract x i => exact one_f1 (ha x (by simp [Op.operands]))
  | call c =>
    have hs : Agree X dd t l t' l' c.args.toList := ha.sub (by simp [Op.operands, Call.operands]; exact fun y hy => .inr hy)
    cases hc : c.callee with
    | value x =>
      have h1 := ha x (by simp [Op.operands, Call.operands, hc])
      simp only [plan1, hc, oneI, h1, getL_agree hs]
    | invoke x m =>
      have h1 := ha x (by simp [Op.operands, Call.operands, hc])
      simp only [plan1, hc, oneI, h1, getL_agree hs]
    | builtin b =>
      cases b with
      | len =>
        simp only [plan1, hc]
        split
        · rename_i x hx
          have h1 := hs x (by rw [hx]; simp)
          (repeat' split) <;> first | rfl | exact one_g1 h1
        · rfl
      | cap =>
        simp only [plan1, hc]
        split
        · rename_i x hx
          have h1 := hs x (by rw [hx]; simp)
          (repeat' split) <;> first | rfl | exact one_f1 h1
        · rfl
      | _ => simp only [plan1, hc] <;> (repeat' split) <;> first | rfl | exact one_a1 hs
  | defer c =>
    have hs : Agree X dd t l t' l' c.args.toList := ha.sub (by simp [Op.operands, Call.operands]; exact fun y hy => .inr hy)
    cases hc : c.callee with
    | value x =>
      have h1 := ha x (by simp [Op.operands, Call.operands, hc])
      simp only [plan1, hc, oneI, h1, getL_agree hs]
    | _ => simp only [plan1, hc]; rfl
  | _ => rfl
/-- where it is no call, both tell the same -/
theorem ins_one {i : Ins} {t l : E} {ds : List Dfr} {h h' : H} {v : AV} (hi : insV t l h i = .ok v h') : oneI P ih l i t ds h = some (v, ds, h') := by
  cases i <;> first | (simp only [insV] at hi; cases hi; done) | (simp only [oneI, hi]; done)
theorem one_ins {i : Ins} {t l : E} {ds ds1 : List Dfr} {h h' : H} {v : AV} (hi : oneI P ih l i t ds h = some (v, ds1, h')) (hn : ∀ v h', insV t l h i ≠ .ok v h') :
    (∃ d g xs, i = .call d g xs) ∨ (∃ d x m xs, i = .inv d x m xs) ∨ (∃ d g xs, i = .defer d g xs) ∨ (∃ d, i = .recover d) ∨ (∃ x b d j, i = .guard x b d j) := by
  cases i with
  | call d g xs => exact .inl ⟨d, g, xs, rfl⟩
  | inv d x m xs => exact .inr (.inl ⟨d, x, m, xs, rfl⟩)
  | defer d g xs => exact .inr (.inr (.inl ⟨d, g, xs, rfl⟩))
  | recover d => exact .inr (.inr (.inr (.inl ⟨d, rfl⟩)))
  | guard x b d j => exact .inr (.inr (.inr (.inr ⟨x, b, d, j, rfl⟩)))
  | _ =>
    exfalso
    simp only [oneI] at hi
    split at hi
    · rename_i hv; exact hn _ _ hv
    · cases hi
theorem ins_agree (op : Op) (ha : Agree X dd t l t' l' op.operands.toList) {h : H} : insV t l h (plan1 P X dd d op) = insV t' l' h (plan1 P X dd d op) := by
  have hh := one_agree (P := P) (ih := rec0) (d := d) op ha (ds := []) (h := h)
  generalize plan1 P X dd d op = i at hh
  cases i <;> first
    | rfl
    | (simp only [oneI] at hh
       revert hh
       generalize insV t l h _ = a
       generalize insV t' l' h _ = b
       intro hh
       cases a <;> cases b <;> simp_all)
end
end Go.Eng
