/-
  A part of the proof of casketlaw17.TurnsOwn: the evaluator's soundness, or the law's own steps. By an AI agent.
-/
import Derived.Test.YtjlkbflcdagcbaaGreatDoorLO
import Derived.Test.YtjlkbflcdagcbaaGreatDoorLX
namespace Go.Eng
open Go
theorem ops28_eq : ops28 = ops28b := by kernel_rfl
theorem dd28_4 : memN 4 (ddsOf (ops28b.toList.drop 5) dd28) = true := by kernel_rfl
theorem get4 (v : AV) : (mkE [(4, v)]).get 4 = some v := rfl
section
variable {W w : World} {n : Nat} {b : Frame} {cs : List Frame} {i3 : FI} {a : Act} {g0 : G} {ord : AV} {len : Nat}
/-- the last line of the law -/
theorem phaseG (ho : Own i3 b cs) (hbk : b.kind = .normal) (h1 : 1 ≤ n) (h6 : n ≤ 6) (hf : FRel g0 i3 ⟨mkE (L45 n), []⟩ a) (hF : Fam P0 W 1 (V1 g0 (mkH (hU n) NT)) w) :
    ∃ w' fr, Steps P0 (lone (b.atR a [.code s9]) cs w) (lone fr cs w') ∧ Fin P0 3 .normal fr w' (.bool true) ∧ Kept W w' := by
  have hl := left_fact h1 h6
  unfold leftB at hl
  obtain ⟨t, h', hp, hget, _, hnx, _⟩ := partTo_ok hl
  have hn125 : 125 ≤ nowhere := by unfold nowhere; omega
  have hlow : ∀ d, d ∈ dsts ops28.toList → d < 125 := allBelow_iff.1 ops28_low
  have htake : (ops28.toList.take 5).length = 5 := by rw [List.length_take]; simp [ops28_size]
  have hin := hf.inR
  rw [ho.hX, ho.hm] at hin
  obtain ⟨g1, w1, a1, s1, in1, d1, le1, F1⟩ := part_ok (k := [.code .ret]) (V := V1 g0 (mkH (hU n) NT)) (t := 0) progOK recR hn125 ho.hfc ho.hro hlow (by omega) (ops28.toList.take 5) 0 [5, 6, 7] [] .nil [] a w (fun x hx => by
      rw [htake] at hx
      rw [List.getElem?_take_of_lt hx, Nat.zero_add]
      simp) hp hin hf.dfr hF
  have hd1 : a1.defers = [] := d1
  have F2 := F1.lit (i := 0) (l := []) (M := NB0) (by omega) rfl rfl (by rw [upd_same]; exact hnx)
  rw [upd_same, upd_upd] at F2
  have in2 : InR g1 X3 dd28 (mkE lf28) .nil 125 a1 := by
    have h := in1.sub (te' := mkE lf28) fun d v hv => hget d v (mkE_get hv)
    refine ⟨⟨fun d v h1 h2 => ?_, fun d v _ _ h => by simp at h⟩, fun d hd => ?_, h.sz⟩
    · refine h.reg.new d v ?_ h2
      have : dd28 = ddsOf (ops28.toList.take 5) [] := by unfold dd28; rw [ops28_eq]
      rw [← this]; exact h1
    · refine h.lt d ?_
      have : dd28 = ddsOf (ops28.toList.take 5) [] := by unfold dd28; rw [ops28_eq]
      rw [← this]; exact hd
  have haw := awake_fact
  unfold awD at haw
  split at haw
  · rename_i t2 d2 h2 hp2
    rw [Bool.and_eq_true] at haw
    obtain ⟨ht4, hd2⟩ := haw
    have hd2 := noD_iff hd2
    subst hd2
    rw [← ops28_eq] at hp2
    have hdrop : (ops28.toList.drop 5).length = 3 := by rw [List.length_drop]; simp [ops28_size]
    obtain ⟨g3, w3, a3, s3, in3, d3, le3, F3⟩ := part_ok (k := [.code .ret]) (V := upd (V1 g0 (mkH (hU n) NT)) 0 (g1, mkH [] NB0)) (t := 0) progOK recR hn125 ho.hfc ho.hro hlow (by omega) (ops28.toList.drop 5) 5 [] dd28 (mkE lf28) [] a1 w1 (fun x hx => by
        rw [hdrop] at hx
        rw [List.getElem?_drop]
        simp) (by rw [upd_same]; exact hp2) (by rw [upd_same]; exact in2) (by rw [upd_same]; exact hd1) F2
    rw [upd_same] at le3
    rw [upd_upd] at F3
    have hloc : LR g3 i3.X (mkE [(4, .bool true)]) a3.tmps := by
      rw [ho.hX]
      refine in3.out (L := [(4, .bool true)]) fun d v hd => .inl ?_
      simp only [List.mem_cons, Prod.mk.injEq, List.not_mem_nil, or_false] at hd
      obtain ⟨rfl, rfl⟩ := hd
      exact ⟨by rw [ops28_eq]; exact dd28_4, isV_iff ht4⟩
    obtain ⟨fn, c, hf0, hb0, hcode, hres0, hm0, hXr⟩ := infoOf_some ho.hi
    obtain ⟨u, h3, h4⟩ := results_ok (F3.hr 0 (by omega)) hloc hres0 hXr (vs := [.bool true]) (by rw [ho.hres]; rfl)
    have hu : u = .bool true := by
      have : VR g3 (.bool true) u := h4
      simpa only [VR] using this
    subst hu
    refine ⟨w3, { b.atR a3 [.code .ret] with mode := .returning }, ?_, ⟨hbk, ho.hbf, rfl, d3, fn, hf0, h3⟩, F3.kept⟩
    · unfold s9
      rw [r28_eq]
      refine .head stepR_seq (.head stepR_region ?_)
      have hrg : List.range ops28.size = List.range' 0 (ops28.toList.take 5).length ++ [5, 6, 7] := by rw [htake, ops28_size]; rfl
      have hrg2 : [5, 6, 7] = List.range' 5 (ops28.toList.drop 5).length ++ [] := by rw [hdrop]; rfl
      rw [hrg]
      refine s1.trans ?_
      rw [hrg2]
      exact s3.trans (.head stepR_region_end (.one (stepR_ret ho.hro)))
  · cases haw
/-- THE LAW, for inputs that it looks at -/
theorem law_in (h1 : 1 ≤ n) (h6 : n ≤ 6) {g : G} (hpre : preB n ord = true) {args : Array Value} (hargs : VRL g [iv n, ord] args.toList) (hsz : ord = .sl0 ∨ ord = ordA len) (hok : OrdOK ord len) (hlen : len ≤ 100) (hsm : Simp g ord)
    (hmem : ∀ idx, idx < len → ∃ c sh sz arr el fz v, g .e = some (c, sh, sz) ∧ c < W.heap.size ∧ W.heap[c]? = some (.cells arr el fz) ∧ arr[idx + sh]? = some (.int .i64 v))
    (hF : Fam P0 W 1 (V1 g (mkH [] q1)) w) (cs : List Frame) : ∃ w' fr, Steps P0 (lone (Frame.enter P0 3 args .normal) cs w) (lone fr cs w') ∧ Fin P0 3 .normal fr w' (.bool true) ∧ Kept W w' := by
  obtain ⟨i3, hi, hX, hm, hres⟩ := info3
  let b : Frame := { (default : Frame) with fn := 3, kind := .normal, roundOf := none }
  have ho : Own i3 b cs := ⟨hi, hX, hm, hres, rfl, .inl rfl, rfl⟩
  obtain ⟨g1, w1, a1, p1, p2, p3, p4⟩ := phaseA ho rfl h1 h6 hpre hargs hF
  have hX5 : memN 5 i3.X = true := by rw [hX]; rfl
  obtain ⟨c5, e5, v5⟩ := p2.loc 5 tp hX5 rfl
  have hO := ol_start h1 h6 p4 v5
  have hH := hosts_of h1 h6 hO
  have hsm1 : Simp g1 ord := by
    rcases hsz with rfl | rfl
    · trivial
    · obtain ⟨x, hx⟩ := hsm; exact ⟨x, p3 _ _ hx⟩
  have hR : OrdR W g1 ord len := ⟨hok, hlen, hsm1, fun idx hidx => by
    obtain ⟨c, sh, sz, arr, el, fz, v, q1', q2', q3', q4'⟩ := hmem idx hidx
    exact ⟨c, sh, sz, arr, el, fz, v, p3 _ _ q1', q2', q3', q4'⟩⟩
  -- the order
  obtain ⟨V2, w2, a2, r1, r2, r3, _⟩ := ol_pieceV (k := [.code (.block 2 (.loop itb2)), .code s7]) ho t6 h1 h6 (r13_fact h1 h6 ord) p2 hO (fun d v h => by
    simp only [List.zip_cons_cons, List.zip_nil_left, List.cons_append, List.nil_append, List.mem_cons, Prod.mk.injEq, List.not_mem_nil, or_false] at h
    rcases h with ⟨_, rfl⟩ | ⟨_, rfl⟩ | ⟨_, rfl⟩ | ⟨_, rfl⟩
    · exact hsm1
    · trivial
    · exact hO.kn.tp
    · trivial)
  have r2' : FRel g1 i3 ⟨mkE (LC n ord 0), []⟩ a2 := r2
  obtain ⟨V3, w3, a3, t1, t2, t3⟩ := order_loop (k := [.code s7]) ho h1 h6 hR len 0 V2 a2 w2 (by omega) (by omega) r3 r2'
  -- the last calls
  have hla := last_fact h1 h6
  unfold lastB at hla
  rw [Bool.and_eq_true] at hla
  obtain ⟨V4, w4, a4, u1, u2, u3, _⟩ := ol_piece (k := [.code (.block 4 (.loop itb4)), .code s8]) ho t7 h1 h6 hla.1 t2 t3 (simp_L4 hO.kn (simp_prev _ _))
  obtain ⟨V5, w5, a5, x1, x2, x3, x4⟩ := last_loop (k := [.code s8]) ho h1 h6 n V4 a4 w4 (Nat.le_refl _) u3 (fun x hx hn => by omega) u2
  -- the ends
  have hU := fam_U h1 h6 x3 hH x4
  have hen := end_fact h1 h6
  unfold endB at hen
  rw [Bool.and_eq_true] at hen
  obtain ⟨w6, a6, y1, y2, y3⟩ := ownW (k := [.code (.block 6 (.loop itb6)), .code s9]) ho t8 h1 h6 hO.kn hH hen.1 x2 hU (simp_L8 hO.kn)
  obtain ⟨w7, a7, z1, z2, z3⟩ := end_loop (k := [.code s9]) ho h1 h6 hO.kn hH n 0 a6 w6 (by omega) (by omega) y2 y3
  obtain ⟨w8, fr, o1, o2, o3⟩ := phaseG ho rfl h1 h6 z2 z3
  refine ⟨w8, fr, p1.trans ?_, o2, o3⟩
  unfold s6
  refine .head stepR_seq (.head stepR_seq (Steps.trans r1 (.head stepR_block (.head stepR_loop (t1.trans ?_)))))
  unfold s7
  refine .head stepR_seq (.head stepR_seq (Steps.trans u1 (.head stepR_block (.head stepR_loop (x1.trans ?_)))))
  unfold s8
  exact .head stepR_seq (.head stepR_seq (Steps.trans y1 (.head stepR_block (.head stepR_loop (z1.trans o1)))))
end
end Go.Eng

namespace Go.Eng
open Go
section
variable {W : World}
theorem fam_start {g : G} (hg : ∀ b x, g b = some x → b.val < q1.val) : Fam P0 W 1 (V1 g (mkH [] q1)) W := by
  have hnone : ∀ b, (mkH [] q1).get b = none := fun b => by
    cases hx : (mkH [] q1).get b with
    | none => rfl
    | some x => exact absurd (mkH_get hx) (by simp)
  have hl : ∀ b c, ¬ live g (mkH [] q1) b c := fun b c ⟨x, _, _, h, _⟩ => by rw [hnone b] at h; cases h
  exact ⟨fun i hi => ⟨fun b x hx => (by rw [hnone b] at hx; cases hx), fun b b' c h => absurd h (hl b c), fun b _ => hnone b, hg⟩, fun i j hi hj hne => by omega, fun i hi b c h => absurd h (hl b c), ⟨Nat.le_refl _, fun _ _ => rfl, Same.refl _⟩⟩
theorem yesV_iff {r : RV} (h : yesV r = true) : ∃ h', r = .ok (.bool true) h' := by
  unfold yesV at h
  split at h
  · rename_i b h'; subst h; exact ⟨h', rfl⟩
  · cases h
theorem law_bad {g : G} (hg : ∀ b x, g b = some x → b.val < q1.val) {n ord : AV} {args : Array Value} (hargs : VRL g [n, ord] args.toList) (h : yesV (lawA n ord) = true) (cs : List Frame) :
    ∃ w' fr, Steps P0 (lone (Frame.enter P0 3 args .normal) cs W) (lone fr cs w') ∧ Fin P0 3 .normal fr w' (.bool true) ∧ Kept W w' := by
  obtain ⟨h', he⟩ := yesV_iff h
  have hF := fam_start (W := W) hg
  obtain ⟨_, hgo⟩ := recR.cf 3 [n, ord] (mkH [] q1) (.bool true) h' he g W args hargs (hF.hr 0 (by omega))
  obtain ⟨u, w', g', fr, h1, h2, h3, h4, h5⟩ := hgo .normal cs (.inl rfl)
  simp only [VR] at h3
  subst h3
  refine ⟨w', fr, h1, h2, h4.size, fun c hc => h4.frame c hc fun b hl => ?_, h4.same⟩
  obtain ⟨x, _, _, hx, _⟩ := hl
  exact absurd (mkH_get hx) (by simp)
theorem pre_fact {n : Nat} (h1 : 1 ≤ n) (h6 : n ≤ 6) {ord : AV} {len : Nat} (ho : OrdOK ord len) (hl : len ≤ 100) : preB n ord = true := by
  obtain ⟨m, rfl⟩ : ∃ m, n = m + 1 := ⟨n - 1, by omega⟩
  rcases ho with ⟨rfl, _⟩ | rfl
  · exact allN_iff pre_nil m (by omega)
  · exact allN_iff (allN_iff pre_some m (by omega)) len (by omega)
theorem bad_len {n m : Nat} (h1 : 1 ≤ n) (h6 : n ≤ 6) : yesV (lawA (iv n) (ordA (m + 101))) = true := by
  match n, h1, h6 with
  | 1, _, _ => exact bad_l1 m
  | 2, _, _ => exact bad_l2 m
  | 3, _, _ => exact bad_l3 m
  | 4, _, _ => exact bad_l4 m
  | 5, _, _ => exact bad_l5 m
  | 6, _, _ => exact bad_l6 m
theorem law_any {g : G} (hg : ∀ b x, g b = some x → b.val < q1.val) {v : Int} {ord : AV} {len : Nat} {args : Array Value} (hargs : VRL g [.int .i64 v, ord] args.toList) (ho : OrdOK ord len) (hsm : Simp g ord)
    (hmem : ∀ idx, idx < len → ∃ c sh sz arr el fz v, g .e = some (c, sh, sz) ∧ c < W.heap.size ∧ W.heap[c]? = some (.cells arr el fz) ∧ arr[idx + sh]? = some (.int .i64 v)) (cs : List Frame) :
    ∃ w' fr, Steps P0 (lone (Frame.enter P0 3 args .normal) cs W) (lone fr cs w') ∧ Fin P0 3 .normal fr w' (.bool true) ∧ Kept W w' := by
  cases v with
  | negSucc m => exact law_bad hg hargs (bad_neg m ord) cs
  | ofNat n =>
    by_cases h0 : n = 0
    · subst h0; exact law_bad hg hargs (bad_0 ord) cs
    by_cases h7 : 7 ≤ n
    · obtain ⟨m, rfl⟩ : ∃ m, n = m + 7 := ⟨n - 7, by omega⟩
      exact law_bad hg hargs (bad_7 m ord) cs
    by_cases hl : len ≤ 100
    · have hoo : ord = .sl0 ∨ ord = ordA len := by
        rcases ho with ⟨h, _⟩ | h
        · exact .inl h
        · exact .inr h
      exact law_in (by omega) (by omega) (pre_fact (by omega) (by omega) ho hl) hargs hoo ho hl hsm hmem (fam_start hg) cs
    · obtain ⟨m, rfl⟩ : ∃ m, len = m + 101 := ⟨len - 101, by omega⟩
      rcases ho with ⟨_, h⟩ | rfl
      · omega
      · exact law_bad hg hargs (bad_len (by omega) (by omega)) cs
theorem calls_of {args : Array Value} (h : ∀ cs, ∃ w' fr, Steps P0 (lone (Frame.enter P0 3 args .normal) cs W) (lone fr cs w') ∧ Fin P0 3 .normal fr w' (.bool true) ∧ Kept W w') :
    Calls P0 3 args W fun e w' => e = .returned (.bool true) ∧ Kept W w' := by
  intro cs
  obtain ⟨w', fr, h1, ⟨k1, k2, k3, k4, fn, k5, k6⟩, h3⟩ := h cs
  exact ⟨.returned (.bool true), w', fr, ⟨rfl, h3⟩, h1, k2, k3, k4, k1, fn, by rw [k2]; exact k5, k6⟩
theorem calls_nil (v : Int) : Calls P0 3 #[.int .i64 v, .slice none 0 0] W fun e w' => e = .returned (.bool true) ∧ Kept W w' := by
  refine calls_of fun cs => law_any (g := fun _ => none) (fun b x h => by cases h) (v := v) (ord := .sl0) (len := 0) ?_ (.inl ⟨rfl, rfl⟩) trivial (fun idx h => by omega) cs
  simp only [VRL, VR]
  exact ⟨_, _, rfl, rfl, _, _, rfl, rfl, rfl⟩
theorem calls_slice (v : Int) {c off len cap : Nat} (hcell : ∀ i, i < len → ∃ z, W.cell? ⟨c, off + i, none⟩ = some (.int .i64 z)) : Calls P0 3 #[.int .i64 v, .slice (some ⟨c, off, none⟩) len cap] W fun e w' => e = .returned (.bool true) ∧ Kept W w' := by
  let g : G := fun b => match b with | .e => some (c, off, cap + off) | _ => none
  refine calls_of fun cs => law_any (g := g) (fun b x h => ?_) (v := v) (ord := ordA len) (len := len) ?_ (.inr rfl) ⟨(c, off, cap + off), rfl⟩ (fun idx h => ?_) cs
  · cases b with
    | e => decide
    | o _ => cases h
    | i _ => cases h
  · simp only [VRL, VR]
    exact ⟨_, _, rfl, rfl, _, _, rfl, ⟨c, off, cap + off, cap, rfl, by rw [Nat.zero_add], by simp⟩, rfl⟩
  · obtain ⟨z, hz⟩ := hcell idx h
    unfold World.cell? at hz
    split at hz
    · rename_i arr el fz hh
      refine ⟨c, off, cap + off, arr, el, fz, z, rfl, (Array.getElem?_eq_some_iff.1 hh).1, hh, ?_⟩
      rw [Nat.add_comm]
      simpa using hz
    · cases hz
end
end Go.Eng
