/-
  A part of the proof of casketlaw17.TurnsOwn: the evaluator's soundness, or the law's own steps. By an AI agent.
-/
import Derived.Test.YtjlkbflcdagcbaaGreatDoorSA
import Derived.Laws.Entries
namespace Go.Eng
open Go

/-! ### types -/
section
variable {P : Program}
theorem info_of {t : TypeId} {i : TypeInfo} (h : tinfo P t = some i) : P.info? t = some i := by
  have h : P.types[t]? = some i := by simpa [tinfo] using h
  have hlt := (Array.getElem?_eq_some_iff.1 h).1
  unfold Tables.info?
  rw [if_pos hlt]
  exact h
theorem und_of {t : TypeId} {d : TypeDesc} (h : und P t = some d) : P.underlying t = some d := by
  unfold und at h
  cases hi : tinfo P t with
  | none => rw [hi] at h; cases h
  | some i =>
    rw [hi] at h
    have hi' := info_of hi
    obtain ⟨desc⟩ := i
    simp only at h
    unfold Program.underlying
    rw [hi']
    cases desc <;> simp only at h ⊢ <;> first
      | (cases hj : tinfo P _ with
          | none => rw [hj] at h; cases h
          | some j => rw [hj] at h; rw [info_of hj]; exact h)
      | exact h
theorem tsize_of {t : TypeId} {n : Nat} (h : tsize P t = some n) : ∃ i, P.info? t = some i ∧ i.size = n := by
  unfold tsize at h
  split at h
  · cases h
  · rename_i i hi
    exact ⟨i, info_of hi, Option.some.inj h⟩
theorem run_sizeOf_of {t : TypeId} {n : Nat} (h : tsize P t = some n) (w : World) : (sizeOf t).run P w = .ok n w := by
  obtain ⟨i, hi, hn⟩ := tsize_of h
  simp [sizeOf, typeInfo, hi, hn]
theorem run_und_of {t : TypeId} {d : TypeDesc} (h : und P t = some d) (w : World) : (underlying t).run P w = .ok d w := by
  simp [underlying, und_of h]
theorem isA_of {t : TypeId} {b : Bool} (h : isA P t = some b) (w : World) : (isAgg t).run P w = .ok b w := by
  unfold isA at h
  split at h
  · cases h
  · rename_i d hd
    simp only [isAgg, Sem.run_bind, run_und_of hd, Result.andThen_ok]
    cases d <;> simp_all
theorem ofConst_VR {g : G} {v : Value} {a : AV} (h : ofConst v = some a) : VR g a v := by
  unfold ofConst at h
  split at h <;> first | cases h | skip
  all_goals (try (obtain rfl := Option.some.inj h))
  all_goals simp [VR]
theorem ofCells_VRL {g : G} : ∀ {vs : List Value} {as : List AV}, ofCells vs = some as → VRL g as vs
  | [], as, h => by
    obtain rfl := Option.some.inj (show some [] = some as from h)
    simp only [VRL]
  | v :: vs, as, h => by
    unfold ofCells at h
    split at h
    · cases h
    · rename_i a ha
      split at h
      · cases h
      · rename_i as' has
        obtain rfl := Option.some.inj h
        simp only [VRL]
        exact ⟨v, vs, rfl, ofConst_VR ha, ofCells_VRL has⟩
theorem zeroC_of {t : TypeId} {z : List AV} (h : zeroC P t = some z) : ∃ i v, P.info? t = some i ∧ i.zero = some v ∧ ∀ g, VRL g z v.cells.toList := by
  unfold zeroC at h
  split at h
  · cases h
  · rename_i i hi
    split at h
    · cases h
    · rename_i v hv
      exact ⟨i, v, info_of hi, hv, fun g => ofCells_VRL h⟩
theorem fld_of {t : TypeId} {f o s : Nat} {ft : TypeId} (h : fld P t f = some (o, s, ft)) :
    ∃ fs x, und P t = some (.struct fs) ∧ fs[f]? = some x ∧ x.offset = o ∧ x.type = ft ∧ tsize P ft = some s := by
  unfold fld at h
  split at h
  · rename_i fs hfs
    split at h
    · cases h
    · rename_i x hx
      split at h
      · cases h
      · rename_i s' hs
        have := Option.some.inj h
        simp only [Prod.mk.injEq] at this
        obtain ⟨rfl, rfl, rfl⟩ := this
        exact ⟨fs, x, hfs, by simpa using hx, rfl, rfl, hs⟩
  · cases h
end

/-! ### integers -/
theorem ikEq_iff {j k : IntKind} : ikEq j k = true ↔ j = k := by
  cases j <;> cases k <;> simp [ikEq, ikN]
theorem blt_iff {a b : Nat} : Nat.blt a b = true ↔ a < b := by simp [Nat.blt]; omega
theorem fits_wrap {k : IntKind} {n : Int} (h : fitsI k n = true) : k.wrap n = n := by
  unfold fitsI at h
  cases n with
  | ofNat m =>
    have h : m < hi k := blt_iff.1 h
    show k.wrap (m : Int) = (m : Int)
    cases k <;> simp only [hi] at h <;> simp only [IntKind.wrap, IntKind.bits, IntKind.signed, Int.reducePow, Nat.reduceSub, Bool.true_and, Bool.false_and, Bool.false_eq_true, if_false] <;> (try split) <;> (try (rename_i hh; simp at hh)) <;> omega
  | negSucc m =>
    have h : m < lo k := blt_iff.1 h
    rw [Int.negSucc_eq]
    generalize hz : -((m : Int) + 1) = z
    cases k <;> simp only [lo] at h <;> simp only [IntKind.wrap, IntKind.bits, IntKind.signed, Int.reducePow, Nat.reduceSub, Bool.true_and, Bool.false_and, Bool.false_eq_true, if_false] <;> (try split) <;> (try (rename_i hh; simp at hh)) <;> omega
theorem wrapI_eq (k : IntKind) (n : Int) : wrapI k n = k.wrap n := by
  unfold wrapI
  split
  · rename_i h; exact (fits_wrap h).symm
  · rfl
@[simp] theorem mkInt_eq (k : IntKind) (n : Int) : mkInt k n = some (.int k (k.wrap n)) := by simp [mkInt, wrapI_eq]
theorem ilt_iff (a b : Int) : ilt a b = decide (a < b) := by
  unfold ilt
  rcases a with a | a <;> rcases b with b | b
  · have : ((Int.ofNat a) < (Int.ofNat b)) ↔ a < b := by simp
    simp only [this]
    by_cases h : a < b
    · rw [decide_eq_true h]; exact blt_iff.2 h
    · rw [decide_eq_false h]
      cases e : Nat.blt a b with
      | false => rfl
      | true => exact absurd (blt_iff.1 e) h
  · have : ¬ ((Int.ofNat a) < (Int.negSucc b)) := by simp; omega
    rw [decide_eq_false this]
  · have : ((Int.negSucc a) < (Int.ofNat b)) := by simp; omega
    rw [decide_eq_true this]
  · have : ((Int.negSucc a) < (Int.negSucc b)) ↔ b < a := by omega
    simp only [this]
    by_cases h : b < a
    · rw [decide_eq_true h]; exact blt_iff.2 h
    · rw [decide_eq_false h]
      cases e : Nat.blt b a with
      | false => rfl
      | true => exact absurd (blt_iff.1 e) h
theorem beq_dec (a b : Nat) : Nat.beq a b = decide (a = b) := by
  cases e : Nat.beq a b with
  | false => exact (decide_eq_false (bne_of e)).symm
  | true => exact (decide_eq_true (Nat.eq_of_beq_eq_true e)).symm
theorem ieq_iff (a b : Int) : ieq a b = decide (a = b) := by
  unfold ieq
  rcases a with a | a <;> rcases b with b | b
  · show Nat.beq a b = _
    rw [beq_dec]
    exact decide_eq_decide.2 ⟨fun e => by rw [e], fun e => Int.ofNat.inj e⟩
  · exact (decide_eq_false (fun e => by cases e)).symm
  · exact (decide_eq_false (fun e => by cases e)).symm
  · show Nat.beq a b = _
    rw [beq_dec]
    exact decide_eq_decide.2 ⟨fun e => by rw [e], fun e => Int.negSucc.inj e⟩
theorem onI_some {f : IntKind → Int → Option AV} {x v : AV} (h : onI f x = some v) : ∃ k n, x = .int k n ∧ f k n = some v := by
  unfold onI at h
  split at h
  · exact ⟨_, _, rfl, h⟩
  · cases h
theorem ii_some {f : IntKind → Int → Int → Option AV} {x y v : AV} (h : ii f x y = some v) : ∃ k a b, x = .int k a ∧ y = .int k b ∧ f k a b = some v := by
  unfold ii at h
  obtain ⟨k, a, rfl, h1⟩ := onI_some h
  obtain ⟨j, b, rfl, h2⟩ := onI_some h1
  split at h2
  · rename_i e
    obtain rfl := ikEq_iff.1 e
    exact ⟨_, _, _, rfl, rfl, h2⟩
  · cases h2
end Go.Eng
