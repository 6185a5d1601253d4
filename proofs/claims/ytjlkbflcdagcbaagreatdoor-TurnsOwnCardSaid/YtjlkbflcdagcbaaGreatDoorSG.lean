/-
  A part of the proof of casketlaw17.TurnsOwn: the evaluator's soundness, or the law's own steps. By an AI agent.
-/
import Derived.Test.YtjlkbflcdagcbaaGreatDoorSD
import Derived.Great.BuildSlice
namespace Go.Eng
open Go

theorem setL_length : ∀ (cs : List AV) (o : Nat) (l : List AV), (setL cs o l).length = cs.length
  | cs, o, [] => by cases cs <;> cases o <;> rfl
  | [], o, v :: vs => by cases o <;> rfl
  | c :: cs, 0, v :: vs => by simp [setL, setL_length cs 0 vs]
  | c :: cs, o + 1, v :: vs => by simp [setL, setL_length cs o (v :: vs)]
theorem setL_get : ∀ (cs : List AV) (o : Nat) (l : List AV) (i : Nat), o + l.length ≤ cs.length → (setL cs o l)[i]? = if o ≤ i ∧ i < o + l.length then l[i - o]? else cs[i]?
  | cs, o, [], i, _ => by
    have : setL cs o [] = cs := by cases cs <;> cases o <;> rfl
    rw [this, if_neg (by simp)]
  | [], o, v :: vs, i, h => by simp at h
  | c :: cs, 0, v :: vs, i, h => by
    simp only [setL]
    cases i with
    | zero => simp
    | succ i =>
      simp only [List.getElem?_cons_succ]
      rw [setL_get cs 0 vs i (by simpa using h)]
      simp
  | c :: cs, o + 1, v :: vs, i, h => by
    simp only [setL]
    cases i with
    | zero => simp
    | succ i =>
      simp only [List.getElem?_cons_succ]
      rw [setL_get cs o (v :: vs) i (by simp at h ⊢; omega)]
      by_cases hc : o ≤ i ∧ i < o + (v :: vs).length
      · rw [if_pos hc, if_pos (by simp at hc ⊢; omega), show i + 1 - (o + 1) = i - o by omega]
      · rw [if_neg hc, if_neg (by simp at hc ⊢; omega)]

/-- cells laid into cells -/
def layIn (cells : Array Value) (off : Nat) (vs : List (Value × Nat)) : Array Value := vs.foldl (fun cs x => cs.setIfInBounds (off + x.2) x.1) cells
theorem layIn_size : ∀ (vs : List (Value × Nat)) (cells : Array Value) (off : Nat), (layIn cells off vs).size = cells.size
  | [], _, _ => rfl
  | x :: vs, cells, off => by
    show (layIn (cells.setIfInBounds (off + x.2) x.1) off vs).size = _
    rw [layIn_size vs]
    simp
theorem layIn_get : ∀ (vs : List Value) (k : Nat) (cells : Array Value) (off i : Nat), off + k + vs.length ≤ cells.size →
    (layIn cells off (vs.zipIdx k))[i]? = if off + k ≤ i ∧ i < off + k + vs.length then vs[i - (off + k)]? else cells[i]?
  | [], k, cells, off, i, _ => by
    rw [if_neg (by simp)]
    rfl
  | v :: vs, k, cells, off, i, h => by
    rw [List.zipIdx_cons]
    show (layIn (cells.setIfInBounds (off + k) v) off (vs.zipIdx (k + 1)))[i]? = _
    simp only [List.length_cons] at h ⊢
    rw [layIn_get vs (k + 1) _ off i (by simp; omega)]
    by_cases h1 : i = off + k
    · subst h1
      rw [if_neg (by omega), if_pos (by omega)]
      simp [Array.getElem?_setIfInBounds_self]
      omega
    · by_cases h2 : off + (k + 1) ≤ i ∧ i < off + (k + 1) + vs.length
      · rw [if_pos h2, if_pos (by omega)]
        obtain ⟨j, hj⟩ : ∃ j, i - (off + k) = j + 1 := ⟨i - (off + k) - 1, by omega⟩
        rw [hj, show i - (off + (k + 1)) = j by omega]
        rfl
      · rw [if_neg h2, if_neg (by omega), Array.getElem?_setIfInBounds_ne (Ne.symm h1)]

theorem VRL.get' {g : G} {a : List AV} {v : List Value} (h : VRL g a v) (i : Nat) (y : Value) (hy : v[i]? = some y) : ∃ x, a[i]? = some x ∧ VR g x y := by
  have hi : i < a.length := by
    rw [h.length]
    exact (List.getElem?_eq_some_iff.1 hy).1
  obtain ⟨y', hy', hv⟩ := h.get i a[i] (by simp [hi])
  rw [hy] at hy'
  obtain rfl := Option.some.inj hy'
  exact ⟨a[i], by simp [hi], hv⟩

theorem lay_VRL {g : G} {cs l : List AV} {cells : Array Value} {vs : List Value} (hc : VRL g cs cells.toList) (hl : VRL g l vs) {o : Nat} (h : o + l.length ≤ cs.length) :
    VRL g (setL cs o l) (layIn cells o (vs.zipIdx 0)).toList := by
  have h1 := hc.length
  have h2 := hl.length
  simp only [Array.length_toList] at h1
  refine VRL.mk (by have := layIn_size (vs.zipIdx 0) cells o; rw [setL_length]; simp only [Array.length_toList]; omega) fun i x y hx hy => ?_
  rw [setL_get _ _ _ _ h] at hx
  rw [Array.getElem?_toList, layIn_get vs 0 cells o i (by omega)] at hy
  simp only [Nat.add_zero] at hy
  by_cases hi : o ≤ i ∧ i < o + l.length
  · rw [if_pos hi] at hx
    rw [if_pos (by omega)] at hy
    obtain ⟨y', hy', hv⟩ := hl.get _ _ hx
    rw [hy] at hy'
    obtain rfl := Option.some.inj hy'
    exact hv
  · rw [if_neg hi] at hx
    rw [if_neg (by omega)] at hy
    obtain ⟨y', hy', hv⟩ := hc.get _ _ hx
    rw [Array.getElem?_toList, hy] at hy'
    obtain rfl := Option.some.inj hy'
    exact hv

/-- the cells of a value -/
theorem okC_get : ∀ {l : List AV}, okC l = true → ∀ x ∈ l, x ≠ .undef ∧ (∀ c, x ≠ .agg c) ∧ (∀ c, x ≠ .tup c)
  | [], _, x, hx => by cases hx
  | y :: l, h, x, hx => by
    rw [okC_cons] at h
    unfold okA at h
    split at h
    · cases h
    · cases h
    · cases h
    · rename_i h1 h2 h3
      cases hx with
      | head => exact ⟨h1, h2, h3⟩
      | tail _ hx => exact okC_get h x hx
theorem VR.one {g : G} {x : AV} {y : Value} (hx : x ≠ .undef ∧ (∀ c, x ≠ .agg c) ∧ (∀ c, x ≠ .tup c)) (h : VR g x y) : y.oneCell' = true ∧ y.cells = #[y] := by
  cases x <;> simp only [VR] at h
  case undef => exact absurd rfl hx.1
  case agg c => exact absurd rfl (hx.2.1 c)
  case tup c => exact absurd rfl (hx.2.2 c)
  case bool => subst h; exact ⟨rfl, rfl⟩
  case int => subst h; exact ⟨rfl, rfl⟩
  case str => obtain ⟨_, rfl, _⟩ := h; exact ⟨rfl, rfl⟩
  case ptr0 => subst h; exact ⟨rfl, rfl⟩
  case ptr => obtain ⟨_, _, _, _, rfl⟩ := h; exact ⟨rfl, rfl⟩
  case sl0 => subst h; exact ⟨rfl, rfl⟩
  case sl => obtain ⟨_, _, _, _, _, rfl, _⟩ := h; exact ⟨rfl, rfl⟩
  case map0 => subst h; exact ⟨rfl, rfl⟩
  case map => obtain ⟨_, _, _, _, rfl⟩ := h; exact ⟨rfl, rfl⟩
  case fn0 => subst h; exact ⟨rfl, rfl⟩
  case fn => obtain ⟨_, _, rfl, _⟩ := h; exact ⟨rfl, rfl⟩
  case yield => obtain ⟨_, _, _, _, rfl⟩ := h; exact ⟨rfl, rfl⟩
  case iface0 => subst h; exact ⟨rfl, rfl⟩
  case iface => obtain ⟨_, rfl, _⟩ := h; exact ⟨rfl, rfl⟩
theorem VRL.ones {g : G} {l : List AV} {vs : List Value} (hl : okC l = true) (h : VRL g l vs) : ∀ v ∈ vs, v.oneCell' = true := by
  intro v hv
  obtain ⟨i, hi, rfl⟩ := List.getElem_of_mem hv
  obtain ⟨x, hx, hxv⟩ := h.get' i vs[i] (by simp [hi])
  exact (VR.one (okC_get hl x (List.mem_of_getElem? hx)) hxv).1
theorem cellsK_VRL {g : G} {x : AV} {l : List AV} {y : Value} (hl : cellsK x = some l) (h : VR g x y) : VRL g l y.cells.toList ∧ okC l = true := by
  have scalar : (x ≠ .undef ∧ (∀ c, x ≠ .agg c) ∧ (∀ c, x ≠ .tup c)) → l = [x] → VRL g l y.cells.toList ∧ okC l = true := by
    rintro hx rfl
    rw [(VR.one hx h).2]
    refine ⟨by simp only [VRL]; exact ⟨y, [], rfl, h, rfl⟩, ?_⟩
    rw [okC_cons]
    obtain ⟨h1, h2, h3⟩ := hx
    cases x <;> first | rfl | exact absurd rfl h1 | exact absurd rfl (h2 _) | exact absurd rfl (h3 _)
  unfold cellsK at hl
  split at hl
  · rename_i cs
    split at hl
    · rename_i hc
      obtain rfl := Option.some.inj hl
      simp only [VR] at h
      obtain ⟨a, rfl, ha⟩ := h
      exact ⟨ha, hc⟩
    · cases hl
  · cases hl
  · cases hl
  · rename_i h1 h2 h3
    exact scalar ⟨fun e => h2 e, fun c e => h1 c e, fun c e => h3 c e⟩ (Option.some.inj hl).symm

theorem offsOk_get {n : Nat} : ∀ {os : List (Nat × Nat)}, offsOk n os = true → ∀ x ∈ os, x.1 + x.2 ≤ n
  | [], _, x, hx => by cases hx
  | (o, s) :: os, h, x, hx => by
    unfold offsOk at h
    rw [Bool.and_eq_true] at h
    cases hx with
    | head => exact Nat.le_of_ble_eq_true h.1
    | tail _ hx => exact offsOk_get h.2 x hx
theorem fill_VRL {g : G} {n : Nat} (place : Nat → Option (Nat × Nat)) : ∀ {os : List (Nat × Nat)} {xs cs cs' : List AV} {parts : List (Nat × Value)} {cells : Array Value},
    buildL os xs cs = some cs' → VRL g xs (parts.map (·.2)) → parts.map (fun p => place p.1) = os.map some → offsOk n os = true → cs.length = n → VRL g cs cells.toList →
    ∃ cells', Instr.fill place cells parts = some cells' ∧ VRL g cs' cells'.toList ∧ cs'.length = n
  | [], xs, cs, cs', parts, cells, hb, hx, hp, ho, hn, hc => by
    cases parts with
    | nil =>
      cases xs with
      | nil =>
        obtain rfl := Option.some.inj hb
        exact ⟨cells, rfl, hc, hn⟩
      | cons x xs => cases hb
    | cons p parts => simp at hp
  | (o, s) :: os, xs, cs, cs', parts, cells, hb, hx, hp, ho, hn, hc => by
    cases parts with
    | nil => simp at hp
    | cons p parts =>
      cases xs with
      | nil => cases hb
      | cons x xs =>
        unfold buildL at hb
        simp only [List.map_cons, VRL] at hx
        obtain ⟨y, ys, hy, hxy, hxs⟩ := hx
        simp only [List.cons.injEq] at hy
        obtain ⟨rfl, rfl⟩ := hy
        simp only [List.map_cons, List.cons.injEq] at hp
        obtain ⟨hp1, hp2⟩ := hp
        split at hb
        · rename_i l hl
          split at hb
          · rename_i hs
            have hs := Nat.eq_of_beq_eq_true hs
            rw [lenL_eq] at hs
            obtain ⟨hv, hok⟩ := cellsK_VRL hl hxy
            have hlen := hv.length
            simp only [Array.length_toList] at hlen
            have hbound := offsOk_get ho (o, s) (by simp)
            have ho' : offsOk n os = true := by unfold offsOk at ho; rw [Bool.and_eq_true] at ho; exact ho.2
            have hcl := hc.length
            simp only [Array.length_toList] at hcl
            have hlay := lay_VRL hc hv (o := o) (by simp only at hbound; omega)
            obtain ⟨cells', h1, h2, h3⟩ := fill_VRL place hb hxs hp2 ho' (by rw [setL_length]; exact hn) hlay
            refine ⟨cells', ?_, h2, h3⟩
            obtain ⟨i, v⟩ := p
            simp only [Instr.fill]
            simp only at hp1 hv hlen
            rw [hp1]
            simp only
            have hcond : ¬ ((v.cells.size ≠ s || decide (o + v.cells.size > cells.size)) = true) := by
              simp only at hbound
              simp; omega
            rw [if_neg hcond]
            rw [← h1]
            congr 1
            unfold layIn
            rw [← Array.foldl_toList]
            simp
          · cases hb
        · cases hb
end Go.Eng

namespace Go.Eng
open Go
section
variable {P : Program} {X dd : List Nat} {d : Nat} {t l : E} {ρ : Operand → Value} {g : G}

theorem fsts_map {α β : Type} : ∀ l : List (α × β), fsts l = l.map (·.1)
  | [] => rfl
  | (a, b) :: l => by simp [fsts, fsts_map l]
theorem snds_map {α β : Type} : ∀ l : List (α × β), snds l = l.map (·.2)
  | [] => rfl
  | (a, b) :: l => by simp [snds, snds_map l]
theorem offsAt_map {ps : List (Nat × Nat)} : ∀ {l : List Nat} {os : List (Nat × Nat)}, offsAt ps l = some os → l.map (fun i => ps[i]?) = os.map some
  | [], os, h => by
    obtain rfl := Option.some.inj (show some [] = some os from h)
    rfl
  | i :: l, os, h => by
    unfold offsAt at h
    split at h
    · rename_i x r h1 h2
      obtain rfl := Option.some.inj h
      rw [nthL_eq] at h1
      simp [h1, offsAt_map h2]
    · cases h
theorem aOffs_map (es : Nat) : ∀ l : List Nat, l.map (fun i => some (i * es, es)) = (aOffs es l).map some
  | [] => rfl
  | i :: l => by simp [aOffs, aOffs_map es l]
theorem fPlaces_mapM : ∀ {fs : List Field} {ps : List (Nat × Nat)}, fPlaces P fs = some ps → fs.mapM (fun f => (P.info? f.type).map fun i => (f.offset, i.size)) = some ps
  | [], ps, h => by
    obtain rfl := Option.some.inj (show some [] = some ps from h)
    rfl
  | f :: fs, ps, h => by
    unfold fPlaces at h
    split at h
    · rename_i s r h1 h2
      obtain rfl := Option.some.inj h
      obtain ⟨i, hi, rfl⟩ := tsize_of h1
      simp [List.mapM_cons, hi, fPlaces_mapM h2]
    · cases h

theorem evalParts (ps : Array (Nat × Operand)) (ρ : Operand → Value) : (ps.map fun (i, x) => (i, ρ x)).toList.map (·.2) = (snds ps.toList).map ρ := by
  rw [Array.toList_map, snds_map, List.map_map, List.map_map]
  rfl
theorem placeParts (place : Nat → Option (Nat × Nat)) (ps : Array (Nat × Operand)) (ρ : Operand → Value) : (ps.map fun (i, x) => (i, ρ x)).toList.map (fun p => place p.1) = (fsts ps.toList).map place := by
  rw [Array.toList_map, fsts_map, List.map_map, List.map_map]
  rfl

theorem pu_build (hρ : OpdR g X dd t l ρ) (ty : TypeId) (ps : Array (Nat × Operand)) : PureOK P X dd d t l ρ g (.build ty ps) := by
  have main : ∀ (os : List (Nat × Nat)) (z : List AV) (place : Nat → Option (Nat × Nat)), plan1 P X dd d (.build ty ps) = bld d os z (opds X dd (snds ps.toList)) → zeroC P ty = some z →
      (fsts ps.toList).map place = os.map some →
      (∀ (zv : Value) (iz : TypeInfo) (cells' : Array Value), P.info? ty = some iz → iz.zero = some zv → Instr.fill place zv.cells (ps.map fun (i, x) => (i, ρ x)).toList = some cells' →
        P.built ty (ps.map fun (i, x) => (i, ρ x)).toList = some cells') →
      PureOK P X dd d t l ρ g (.build ty ps) := by
    intro os z place hp hz hpl hb
    cases hk : offsOk (lenL z) os with
    | false => exact pure_bad (by rw [hp]; simp only [bld, hk])
    | true =>
      refine pure_a1 hρ (f := buildV os z) (xs := snds ps.toList) (buildF os z) (fun h vs => by unfold buildF ofO; split <;> rfl) (by rw [hp]; simp only [bld, hk]) fun vs v hvs hv o ho w => ?_
      unfold buildV at hv
      split at hv
      · rename_i cs hcs
        obtain rfl := Option.some.inj hv
        obtain ⟨iz, zv, hiz, hzv, hzr⟩ := zeroC_of hz
        rw [lenL_eq] at hk
        obtain ⟨cells', h1, h2, _⟩ := fill_VRL (g := g) place hcs (by rw [evalParts]; exact hvs) (by rw [placeParts]; exact hpl) hk rfl (hzr g)
        refine ⟨.agg cells', ?_, by simp only [VR]; exact ⟨cells', rfl, h2⟩⟩
        simp only [execOp, ho, Sem.run_bind, run_build w ty _ cells' (hb zv iz cells' hiz hzv h1), Result.andThen_ok, Sem.run_pure]
      · cases hv
  cases hu : und P ty with
  | none => exact pure_bad (by simp only [plan1, hu])
  | some td =>
    cases hz : zeroC P ty with
    | none => cases td <;> exact pure_bad (by simp only [plan1, hu, hz])
    | some z =>
      cases td with
      | struct fs =>
        cases hpl : fPlaces P fs.toList with
        | none => exact pure_bad (by simp only [plan1, hu, hz, fOffs, hpl])
        | some pls =>
          cases hos : offsAt pls (fsts ps.toList) with
          | none => exact pure_bad (by simp only [plan1, hu, hz, fOffs, hpl, hos])
          | some os =>
            refine main os z (fun i => pls[i]?) (by simp only [plan1, hu, hz, fOffs, hpl, hos]) hz (offsAt_map hos) fun zv iz cells' hiz hzv hf => ?_
            unfold Program.built
            rw [hiz, und_of hu]
            simp only [hzv, fPlaces_mapM hpl]
            simpa using hf
      | array n e =>
        cases hs : tsize P e with
        | none => exact pure_bad (by simp only [plan1, hu, hz, hs])
        | some es =>
          refine main (aOffs es (fsts ps.toList)) z (fun i => some (i * es, es)) (by simp only [plan1, hu, hz, hs]) hz (aOffs_map es _) fun zv iz cells' hiz hzv hf => ?_
          obtain ⟨ie, hie, rfl⟩ := tsize_of hs
          unfold Program.built
          rw [hiz, und_of hu]
          simp only [hzv, hie]
          exact hf
      | _ => exact pure_bad (by simp only [plan1, hu, hz])

theorem pu_makeFunc (hρ : OpdR g X dd t l ρ) (f : Fn) (a c : Array Operand) : PureOK P X dd d t l ρ g (.makeFunc f a c) := by
  cases f with
  | func f =>
    cases ha : a.toList with
    | nil =>
      refine pure_a1 hρ (f := fun vs => some (.fn f [] vs)) (xs := c.toList) (fun h xs => .ok (.fn f [] xs) h) (fun _ _ => rfl) (by simp only [plan1, ha]) fun vs v hvs hv o ho w => ?_
      obtain rfl := Option.some.inj hv
      refine ⟨.func (.func f) (a.map ρ) (c.map ρ), by simp [execOp, ho, Instr.makeFunc], ?_⟩
      simp only [VR, VRL]
      exact ⟨_, _, rfl, by rw [Array.toList_map, ha]; rfl, by rw [Array.toList_map]; exact hvs⟩
    | cons x r =>
      cases r with
      | nil =>
        cases hc : c.toList with
        | nil =>
          refine pure_a1 hρ (f := fun vs => some (.fn f vs [])) (xs := [x]) (fun h xs => .ok (.fn f xs []) h) (fun _ _ => rfl) (by simp only [plan1, ha, hc, opds]) fun vs v hvs hv o ho w => ?_
          obtain rfl := Option.some.inj hv
          refine ⟨.func (.func f) (a.map ρ) (c.map ρ), by simp [execOp, ho, Instr.makeFunc], ?_⟩
          simp only [VR, VRL]
          exact ⟨_, _, rfl, by rw [Array.toList_map, ha]; exact hvs, by rw [Array.toList_map, hc]; rfl⟩
        | cons y r' => exact pure_bad (by simp only [plan1, ha, hc])
      | cons y r' => exact pure_bad (by simp only [plan1, ha])
  | _ => exact pure_bad (by simp only [plan1])

theorem conv_int {s ty : TypeId} {k : IntKind} (h2 : und P ty = some (.int k)) {a v : AV} {u : Value} (hs : ∃ j, und P s = some (.int j)) (ha : VR g a u) (hv : convI k a = some v) (w : World) :
    ∃ c, (convert s ty u).run P w = .ok c w ∧ VR g v c := by
  obtain ⟨j, hs⟩ := hs
  unfold convI at hv
  obtain ⟨k', n, rfl, hv1⟩ := onI_some hv
  rw [mkInt_eq] at hv1
  obtain rfl := Option.some.inj hv1
  have ha := int_of ha
  subst ha
  exact ⟨.int k (k.wrap n), by simp [convert, run_und_of hs, run_und_of h2, Conv.intToInt], by simp only [VR]⟩

theorem mmI_ok (f : Int → Int → Bool) (m2 : Value → Value → Sem Value) (hm : ∀ (k j : IntKind) (n m : Int) (w : World), (m2 (.int k n) (.int j m)).run P w = .ok (.int k (if f m n then m else n)) w) :
    ∀ {l : List AV} {vs : List Value} {k : IntKind} {n : Int} {v : AV}, VRL g l vs → mmI f k n l = some v → ∀ w, ∃ c, (vs.foldlM m2 (.int k n)).run P w = .ok c w ∧ VR g v c
  | [], vs, k, n, v, hl, h, w => by
    simp only [VRL] at hl
    subst hl
    obtain rfl := Option.some.inj (show some (AV.int k n) = some v from h)
    exact ⟨_, rfl, by simp only [VR]⟩
  | x :: l, vs, k, n, v, hl, h, w => by
    cases x with
    | int j m =>
      simp only [mmI] at h
      split at h
      · simp only [VRL] at hl
        obtain ⟨y, ys, rfl, hy, hys⟩ := hl
        have hy := int_of hy
        subst hy
        obtain ⟨c, hc, hvc⟩ := mmI_ok f m2 hm hys h w
        refine ⟨c, ?_, hvc⟩
        rw [List.foldlM_cons, Sem.run_bind, hm]
        simp only [Result.andThen_ok]
        rw [← hc]
        congr 3
        cases f m n <;> rfl
      · cases h
    | _ => cases h

theorem pu_mm (hρ : OpdR g X dd t l ρ) (b : Builtin) (f : Int → Int → Bool) (m2 : Value → Value → Sem Value) (c : Call) (hb : c.callee = .builtin b)
    (hm : ∀ (k j : IntKind) (n m : Int) (w : World), (m2 (.int k n) (.int j m)).run P w = .ok (.int k (if f m n then m else n)) w)
    (hrun : ∀ (o : Oper) (x : Value) (xs : List Value) (w : World) (v : Value), o.op = .call c → (c.args.map ρ).toList = x :: xs → (xs.foldlM m2 x).run P w = .ok v w → (execOp ρ o).run P w = .ok (.value v) w)
    (hp : plan1 P X dd d (.call c) = .a1 d (mmR f) (opds X dd c.args.toList)) : PureOK P X dd d t l ρ g (.call c) := by
  refine pure_a1 hρ (f := mm f) (xs := c.args.toList) (mmR f) (fun h vs => by unfold mmR ofO; rfl) hp fun vs v hvs hv o ho w => ?_
  cases vs with
  | nil => cases hv
  | cons x vs =>
    cases x with
    | int k n =>
      simp only [VRL] at hvs
      obtain ⟨y, ys, hy, hxy, hys⟩ := hvs
      have hxy := int_of hxy
      subst hxy
      obtain ⟨c', hc', hvc⟩ := mmI_ok (P := P) f m2 hm hys hv w
      exact ⟨c', hrun o _ ys w c' ho (by rw [Array.toList_map]; exact hy) hc', hvc⟩
    | _ => cases hv
theorem pu_max (hρ : OpdR g X dd t l ρ) (c : Call) (hb : c.callee = .builtin .max) : PureOK P X dd d t l ρ g (.call c) :=
  pu_mm hρ .max (fun y x => ilt x y) Builtin.max2 c hb (fun k j n m w => by simp [Builtin.max2, ilt_iff])
    (fun o x xs w v ho ha hx => by
      simp only [execOp, ho, resolve, hb, Sem.run_bind, Sem.run_pure, Result.andThen_ok, invoke, builtin, Builtin.max_, ha, hx])
    (by simp only [plan1, hb])
theorem pu_min (hρ : OpdR g X dd t l ρ) (c : Call) (hb : c.callee = .builtin .min) : PureOK P X dd d t l ρ g (.call c) :=
  pu_mm hρ .min ilt Builtin.min2 c hb (fun k j n m w => by simp [Builtin.min2, ilt_iff])
    (fun o x xs w v ho ha hx => by
      simp only [execOp, ho, resolve, hb, Sem.run_bind, Sem.run_pure, Result.andThen_ok, invoke, builtin, Builtin.min_, ha, hx])
    (by simp only [plan1, hb])
theorem pu_cap (hρ : OpdR g X dd t l ρ) (c : Call) (hb : c.callee = .builtin .cap) : PureOK P X dd d t l ρ g (.call c) := by
  cases ha : c.args.toList with
  | nil => exact pure_bad (by simp only [plan1, hb, ha])
  | cons x r =>
    cases r with
    | cons y r => exact pure_bad (by simp only [plan1, hb, ha])
    | nil =>
      cases ht : c.argTypes.toList with
      | nil => exact pure_bad (by simp only [plan1, hb, ha, ht])
      | cons ty r =>
        cases r with
        | cons y r => exact pure_bad (by simp only [plan1, hb, ha, ht])
        | nil =>
          cases he : slE P ty with
          | none => exact pure_bad (by simp only [plan1, hb, ha, ht, he])
          | some e =>
            have hu : und P ty = some (.slice e) := by
              unfold slE at he
              split at he
              · rename_i hu; obtain rfl := Option.some.inj he; exact hu
              · cases he
            refine pure_f1 hρ (f := capF) (x := x) (by simp only [plan1, hb, ha, ht, he]) fun a v hav hv o ho w => ?_
            have h1 : c.args = #[x] := Array.toList_inj.1 ha
            have h2 : c.argTypes = #[ty] := Array.toList_inj.1 ht
            have key : ∀ (bse : Option Addr) (n m : Nat), ρ x = .slice bse n m → (execOp ρ o).run P w = .ok (.value (.int .i64 m)) w := fun bse n m hx => by
              simp [execOp, ho, resolve, hb, invoke, builtin, Builtin.cap_, h1, h2, run_und_of hu, hx, goInt]
            unfold capF at hv
            split at hv
            · obtain rfl := Option.some.inj hv
              simp only [VR] at hav
              exact ⟨_, key _ _ _ hav, by simp only [VR]; rfl⟩
            · obtain rfl := Option.some.inj hv
              simp only [VR] at hav
              obtain ⟨c', sh, sz, cp, hg, hx, rfl⟩ := hav
              exact ⟨_, key _ _ _ hx, by simp only [VR]; rfl⟩
            · cases hv

theorem pu_convert (hρ : OpdR g X dd t l ρ) (s ty : TypeId) (x : Operand) (hc : clsOf P (.convert s ty x) = .pure) : PureOK P X dd d t l ρ g (.convert s ty x) := by
  cases hs : und P s with
  | none => exact pure_bad (by simp only [plan1, convP, hs])
  | some sd =>
    cases ht : und P ty with
    | none => cases sd <;> exact pure_bad (by simp only [plan1, convP, hs, ht])
    | some td =>
      cases sd with
      | int j =>
        cases td with
        | int k =>
          refine pure_f1 hρ (f := convI k) (x := x) (by simp only [plan1, convP, hs, ht]) fun a v ha hv o ho w => ?_
          obtain ⟨c, h1, h2⟩ := conv_int (P := P) (s := s) ht ⟨j, hs⟩ ha hv w
          exact ⟨c, by simp only [execOp, ho, Sem.run_bind, h1, Result.andThen_ok, Sem.run_pure], h2⟩
        | _ => exact pure_bad (by simp only [plan1, convP, hs, ht])
      | string =>
        cases td with
        | slice e => simp [clsOf, hs, ht] at hc
        | _ => exact pure_bad (by simp only [plan1, convP, hs, ht])
      | _ => exact pure_bad (by simp only [plan1, convP, hs, ht])
end
end Go.Eng

namespace Go.Eng
open Go
section
variable (P : Program) (X dd : List Nat) (d : Nat) (t l : E) (ρ : Operand → Value) (g : G)
/-- more blocks are there -/
def HLe (h h2 : H) : Prop := ∀ b x, h.get b = some x → h2.get b = some x
/-- an operation that looks at the heap, and changes nothing -/
def ReadOK (op : Op) : Prop := ∀ (o : Oper), o.op = op → ∀ h h' v, insV t l h (plan1 P X dd d op) = .ok v h' →
  h' = h ∧ (∀ h2, HLe h h2 → insV t l h2 (plan1 P X dd d op) = .ok v h2) ∧ ∀ w, HR P g h w → ∃ c, (execOp ρ o).run P w = .ok (.value c) w ∧ VR g v c
variable {P X dd d t l ρ g}
theorem PureOK.read {op : Op} (h : PureOK P X dd d t l ρ g op) : ReadOK P X dd d t l ρ g op := fun o ho hh h' v hi =>
  let ⟨h1, h2, h3⟩ := h o ho hh h' v hi
  ⟨h1, fun h2' _ => h2 h2', fun w _ => h3 w⟩

theorem op_pure (hρ : OpdR g X dd t l ρ) (op : Op) (hc : clsOf P op = .pure) : PureOK P X dd d t l ρ g op := by
  cases op with
  | move x => exact pu_move hρ x
  | assign x => exact pu_assign hρ x
  | pick c a b => exact pu_pick hρ c a b
  | build ty ps => exact pu_build hρ ty ps
  | nilCheck x => exact pu_nilCheck hρ x
  | binOp op ty x y yT => exact pu_binOp hρ op ty x y yT
  | unOp op ty x => exact pu_unOp hρ op ty x
  | convert s ty x => exact pu_convert hρ s ty x hc
  | makeInterface ty x => exact pu_makeInterface hρ ty x
  | makeFunc f a c => exact pu_makeFunc hρ f a c
  | fieldAddr s x f => exact pu_fieldAddr hρ s x f
  | field s x f => exact pu_field hρ s x f
  | indexAddr ty x i => exact pu_indexAddr hρ ty x i
  | index ty x i => exact pu_index hρ ty x i
  | extract x i => exact pu_extract hρ x i
  | call c =>
    cases hcal : c.callee with
    | builtin b =>
      cases b with
      | max => exact pu_max hρ c hcal
      | min => exact pu_min hρ c hcal
      | cap => exact pu_cap hρ c hcal
      | _ => simp [clsOf, hcal] at hc
    | value x => simp [clsOf, hcal] at hc
    | invoke x m => simp [clsOf, hcal] at hc
  | alloc _ => simp [clsOf] at hc
  | box _ _ => simp [clsOf] at hc
  | buildSlice _ _ _ => simp [clsOf] at hc
  | load _ _ => simp [clsOf] at hc
  | store _ _ _ => simp [clsOf] at hc
  | makeMap _ _ => simp [clsOf] at hc
  | makeSlice _ _ _ => simp [clsOf] at hc
  | slice _ _ _ _ _ => simp [clsOf] at hc
  | lookup _ _ _ _ => simp [clsOf] at hc
  | mapUpdate _ _ _ _ => simp [clsOf] at hc
  | insert _ _ _ _ => simp [clsOf] at hc
  | range _ _ => simp [clsOf] at hc
  | next _ _ => simp [clsOf] at hc
  | entry _ => simp [clsOf] at hc
  | defer _ => simp [clsOf] at hc
  | _ => exact pure_bad rfl

/-! ### what looks at the heap -/
theorem cell_of {w : World} {c : Nat} {cs : Array Value} {el : TypeId} {fz : Nat × Nat} (h : w.heap[c]? = some (.cells cs el fz)) (i : Nat) : w.cell? ⟨c, i, none⟩ = cs[i]? := by
  simp [World.cell?, h]

theorem load1_some {h : H} {x v : AV} (hl : load1 h x = some v) : ∃ b o vs m gr, x = .ptr b o ∧ h.get b = some (.cells vs m gr) ∧ o < m ∧ T.get vs (ps o) = some v := by
  unfold load1 isPtr at hl
  split at hl
  · rename_i b o
    unfold onCells at hl
    dsimp only at hl
    split at hl
    · rename_i vs m gr hb
      split at hl
      · rename_i hlt
        exact ⟨b, o, vs, m, gr, rfl, hb, blt_iff.1 hlt, hl⟩
      · cases hl
    · cases hl
  · cases hl
theorem load1_mk {h : H} {b : Ps} {o m : Nat} {vs : T AV} {gr : Bool} (hb : h.get b = some (.cells vs m gr)) (hlt : o < m) : load1 h (.ptr b o) = T.get vs (ps o) := by
  simp only [load1, isPtr, hb, onCells, blt_iff.2 hlt]
theorem loadN_some {h : H} {n : Nat} {x v : AV} (hl : loadN n h x = some v) : ∃ b o vs m gr cs, x = .ptr b o ∧ h.get b = some (.cells vs m gr) ∧ o + n ≤ m ∧ takeC vs n o = some cs ∧ v = .agg cs := by
  unfold loadN isPtr at hl
  split at hl
  · rename_i b o
    unfold onCells at hl
    dsimp only at hl
    split at hl
    · rename_i vs m gr hb
      split at hl
      · rename_i hle
        split at hl
        · cases hl
        · rename_i cs hcs
          exact ⟨b, o, vs, m, gr, cs, rfl, hb, Nat.le_of_ble_eq_true hle, hcs, (Option.some.inj hl).symm⟩
      · cases hl
    · cases hl
  · cases hl
theorem loadN_mk {h : H} {b : Ps} {o m n : Nat} {vs : T AV} {gr : Bool} {cs : List AV} (hb : h.get b = some (.cells vs m gr)) (hle : o + n ≤ m) (hcs : takeC vs n o = some cs) : loadN n h (.ptr b o) = some (.agg cs) := by
  simp only [loadN, isPtr, hb, onCells, Nat.ble_eq_true_of_le hle, hcs]

/-- the cells of a block that are told of -/
theorem HR.cells {h : H} {w : World} (hr : HR P g h w) {b : Ps} {c sh sz m : Nat} {vs : T AV} {gr : Bool} (hb : h.get b = some (.cells vs m gr)) (hg : g b = some (c, sh, sz)) :
    ∃ cs el fz, w.heap[c]? = some (.cells cs el fz) ∧ cs.size = sz ∧ m + sh ≤ sz ∧ (gr = false → m + sh = sz) ∧ m ≤ lim ∧ (∀ i, i < sz → (decide (fz.1 ≤ i) && decide (i < fz.2)) = false) ∧
      (∀ i, i < m → ∃ v u, T.get vs (ps i) = some v ∧ cs[i + sh]? = some u ∧ VR g v u) := by
  obtain ⟨o, ho, cs, el, fz, rfl, h2, h3, h4, h5, h6, h7⟩ := hr.blk b _ hb c sh sz hg
  exact ⟨cs, el, fz, ho, h2, h3, h4, h5, h6, h7⟩
/-- a stretch of them -/
theorem HR.stretch {h : H} {w : World} (hr : HR P g h w) {b : Ps} {c sh sz m n o : Nat} {vs : T AV} {gr : Bool} {cs : List AV} (hb : h.get b = some (.cells vs m gr)) (hg : g b = some (c, sh, sz))
    (hle : o + n ≤ m) (hcs : takeC vs n o = some cs) : ∃ us : List Value, us.length = n ∧ VRL g cs us ∧ ∀ j u, us[j]? = some u → w.cell? ⟨c, o + sh + j, none⟩ = some u := by
  obtain ⟨arr, el, fz, ha, h2, h3, h4, h5, h6, h7⟩ := hr.cells hb hg
  obtain ⟨hlen, hget⟩ := takeC_get _ _ _ _ hcs
  have hex : ∀ j, j < n → ∃ u, w.cell? ⟨c, o + sh + j, none⟩ = some u := fun j hj => by
    obtain ⟨v, u, _, hu, _⟩ := h7 (o + j) (by omega)
    refine ⟨u, ?_⟩
    rw [cell_of ha, ← hu]
    congr 1; omega
  refine ⟨(List.range n).map fun j => (w.cell? ⟨c, o + sh + j, none⟩).getD undef, by simp, ?_, fun j u hu => ?_⟩
  · refine VRL.mk (by simp [hlen]) fun i x y hx hy => ?_
    have hi : i < n := by rw [← hlen]; exact (List.getElem?_eq_some_iff.1 hx).1
    obtain ⟨v, u, hv, hu, hvu⟩ := h7 (o + i) (by omega)
    rw [hget i hi, hx] at hv
    obtain rfl := Option.some.inj hv
    have hc : w.cell? ⟨c, o + sh + i, none⟩ = some u := by
      rw [cell_of ha, ← hu]; congr 1; omega
    simp [hi, hc] at hy
    subst hy
    exact hvu
  · have hj : j < n := by have := (List.getElem?_eq_some_iff.1 hu).1; simpa using this
    obtain ⟨u', hu'⟩ := hex j hj
    simp [hj, hu'] at hu
    subst hu
    exact hu'

theorem re_load (hρ : OpdR g X dd t l ρ) (ty : TypeId) (x : Operand) : ReadOK P X dd d t l ρ g (.load ty x) := by
  cases hA : isA P ty with
  | none => exact (pure_bad (by simp only [plan1, hA])).read
  | some b =>
    cases b with
    | false =>
      intro o ho h h' v hi
      simp only [plan1, hA, insV, ofO_ok, oB_some] at hi ⊢
      obtain ⟨⟨a, ha, hl⟩, rfl⟩ := hi
      obtain ⟨b, q, vs, m, gr, rfl, hb, hlt, hv⟩ := load1_some hl
      refine ⟨rfl, fun h2 hle => ⟨⟨_, ha, by rw [load1_mk (hle _ _ hb) hlt]; exact hv⟩, trivial⟩, fun w hr => ?_⟩
      have hx := hρ x _ ha
      simp only [VR] at hx
      obtain ⟨c, sh, sz, hg, hx⟩ := hx
      obtain ⟨cs, el, fz, hc, _, _, _, _, _, h7⟩ := hr.cells hb hg
      obtain ⟨v', u, hv', hu, hvu⟩ := h7 q hlt
      rw [hv] at hv'
      obtain rfl := Option.some.inj hv'
      refine ⟨u, ?_, hvu⟩
      simp [execOp, ho, Instr.loadAt, hx, Instr.sureAddr, loadVar, isA_of hA, cell_of hc, hu]
    | true =>
      cases hs : tsize P ty with
      | none => exact (pure_bad (by simp only [plan1, hA, hs])).read
      | some n =>
        intro o ho h h' v hi
        simp only [plan1, hA, hs, insV, ofO_ok, oB_some] at hi ⊢
        obtain ⟨⟨a, ha, hl⟩, rfl⟩ := hi
        obtain ⟨b, q, vs, m, gr, cs, rfl, hb, hle, hcs, rfl⟩ := loadN_some hl
        refine ⟨rfl, fun h2 hle2 => ⟨⟨_, ha, loadN_mk (hle2 _ _ hb) hle hcs⟩, trivial⟩, fun w hr => ?_⟩
        have hx := hρ x _ ha
        simp only [VR] at hx
        obtain ⟨c, sh, sz, hg, hx⟩ := hx
        obtain ⟨us, hul, hvl, hcell⟩ := hr.stretch hb hg hle hcs
        refine ⟨.agg us.toArray, ?_, by simp only [VR]; exact ⟨_, rfl, hvl⟩⟩
        have := run_loadCells_list (P := P) (w := w) ⟨c, q + sh, none⟩ us (fun j u hu => by rw [Addr.add_lit]; exact hcell j u hu)
        rw [hul] at this
        simp [execOp, ho, Instr.loadAt, hx, Instr.sureAddr, loadVar, isA_of hA, run_sizeOf_of hs, this]
end
end Go.Eng
