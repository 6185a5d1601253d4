/-
  A part of the proof of casketlaw17.TurnsOwn: the evaluator's soundness, or the law's own steps. By an AI agent.
-/
import Derived.Test.YtjlkbflcdagcbaaGreatDoorTM
namespace Go.Eng
open Go
noncomputable section
/-! ### heaps that are written down, and what is asked of heaps -/
def cl (g : Bool) (l : List AV) : Blk := .cells (fill l 0 .leaf) (lenL l) g
def mkT (l : List (Ps × Blk)) : T Blk := List.rec (motive := fun _ => T Blk) .leaf (fun x _ ih => T.put x.1 (some x.2) ih) l
def mkH (l : List (Ps × Blk)) (N : Ps) : H := ⟨mkT l, N⟩
def sameEs : List (AV × AV × Nat) → List (AV × AV × Nat) → Bool
  | [], [] => true
  | (k, v, s) :: a, (k', v', s') :: b => sameA 20 k k' && (sameA 20 v v' && (Nat.beq s s' && sameEs a b))
  | _, _ => false
def cellsEq (x y : Option (List AV)) : Bool := match x with
  | none => false
  | some x => (match y with | none => false | some y => sameA.sameL 20 x y)
def blkEq (a b : Blk) : Bool := match a with
  | .cells vs n g => (match b with | .cells us m k => Nat.beq n m && (bEq g k && cellsEq (takeC vs n 0) (takeC us m 0)) | _ => false)
  | .map es c => (match b with | .map fs d => sameEs es fs && Nat.beq c d | _ => false)
  | _ => false
def hasBlk (x : Option Blk) (b : Blk) : Bool := match x with | some y => blkEq y b | none => false
def subL (l : List (Ps × Blk)) (h : H) : Bool := List.rec (motive := fun _ => Bool) true (fun x _ ih => hasBlk (h.get x.1) x.2 && ih) l
def psB (p : Ps) : Nat := p.val
def belowP (N : Nat) (l : List (Ps × Blk)) : Bool := List.rec (motive := fun _ => Bool) true (fun x _ ih => Nat.blt x.1.val N && ih) l
end
theorem hasBlk_iff {x : Option Blk} {b : Blk} : hasBlk x b = true ↔ ∃ y, x = some y ∧ blkEq y b = true := by
  cases x <;> simp [hasBlk]
theorem subL_cons (x : Ps × Blk) (l : List (Ps × Blk)) (h : H) : subL (x :: l) h = (hasBlk (h.get x.1) x.2 && subL l h) := rfl
theorem subL_iff {h : H} : ∀ {l : List (Ps × Blk)}, subL l h = true ↔ ∀ p, p ∈ l → ∃ y, h.get p.1 = some y ∧ blkEq y p.2 = true
  | [] => by simp [subL]
  | x :: l => by
    rw [subL_cons, Bool.and_eq_true, hasBlk_iff, subL_iff]
    simp
theorem belowP_iff {N : Nat} : ∀ {l : List (Ps × Blk)}, belowP N l = true ↔ ∀ p, p ∈ l → p.1.val < N
  | [] => by simp [belowP]
  | x :: l => by
    show (Nat.blt x.1.val N && belowP N l) = true ↔ _
    rw [Bool.and_eq_true, belowP_iff, blt_iff]
    simp
theorem mkT_cons (x : Ps × Blk) (l : List (Ps × Blk)) : mkT (x :: l) = T.put x.1 (some x.2) (mkT l) := rfl
theorem mkH_get {N : Ps} : ∀ {l : List (Ps × Blk)} {b : Ps} {x : Blk}, (mkH l N).get b = some x → (b, x) ∈ l
  | [], b, x, h => by
    have h : (T.leaf : T Blk).get b = some x := h
    simp at h
  | (p, y) :: l, b, x, h => by
    have h : (T.put p (some y) (mkT l)).get b = some x := h
    rw [T.get_put] at h
    by_cases e : p = b
    · subst e
      rw [if_pos rfl] at h
      obtain rfl := Option.some.inj h
      exact List.mem_cons_self
    · rw [if_neg e] at h
      exact List.mem_cons_of_mem _ (mkH_get (N := N) h)
theorem sameEs_eq : ∀ {a b : List (AV × AV × Nat)}, sameEs a b = true → a = b
  | [], [], _ => rfl
  | [], _ :: _, h => by simp [sameEs] at h
  | _ :: _, [], h => by simp [sameEs] at h
  | (k, v, s) :: a, (k', v', s') :: b, h => by
    simp only [sameEs, Bool.and_eq_true, nbeq] at h
    rw [sameA_eq 20 _ _ h.1, sameA_eq 20 _ _ h.2.1, h.2.2.1, sameEs_eq h.2.2.2]
theorem cellsEq_eq {x y : Option (List AV)} (h : cellsEq x y = true) : ∃ l, x = some l ∧ y = some l := by
  unfold cellsEq at h
  split at h
  · cases h
  · split at h
    · cases h
    · rename_i a b
      have := sameL_of (sameA_eq 20) _ _ h
      subst this
      exact ⟨_, rfl, rfl⟩
theorem blkEq_cells {vs us : T AV} {n m : Nat} {g k : Bool} (h : blkEq (.cells vs n g) (.cells us m k) = true) : n = m ∧ g = k ∧ ∀ i, i < n → T.get vs (ps i) = T.get us (ps i) := by
  simp only [blkEq, Bool.and_eq_true, nbeq] at h
  obtain ⟨rfl, hg, hc⟩ := h
  rw [bEq_eq] at hg
  obtain ⟨l, h1, h2⟩ := cellsEq_eq hc
  refine ⟨rfl, by simpa using hg, fun i hi => ?_⟩
  have e1 := (takeC_get _ _ _ _ h1).2 i hi
  have e2 := (takeC_get _ _ _ _ h2).2 i hi
  rw [Nat.zero_add] at e1 e2
  rw [e1, e2]
theorem blkEq_BR {P : Program} {g : G} {sh sz : Nat} {a b : Blk} (h : blkEq a b = true) {o : Obj} (hb : BR P g sh sz a o) : BR P g sh sz b o := by
  cases a with
  | cells vs n gr =>
    cases b with
    | cells us m k =>
      obtain ⟨rfl, rfl, he⟩ := blkEq_cells h
      obtain ⟨cs, el, fz, h1, h2, h3, h4, h5, h6, h7⟩ := hb
      exact ⟨cs, el, fz, h1, h2, h3, h4, h5, h6, fun i hi => by rw [← he i hi]; exact h7 i hi⟩
    | _ => simp [blkEq] at h
  | map es c =>
    cases b with
    | map fs d =>
      simp only [blkEq, Bool.and_eq_true, nbeq] at h
      rw [← sameEs_eq h.1, ← h.2]
      exact hb
    | _ => simp [blkEq] at h
  | _ => simp [blkEq] at h
section
variable {P : Program} {g : G} {h : H} {w : World}
theorem live_lit {l : List (Ps × Blk)} {N : Ps} (hs : subL l h = true) {b : Ps} {c : Nat} (hl : live g (mkH l N) b c) : live g h b c := by
  obtain ⟨x, sh, sz, h1, h2⟩ := hl
  obtain ⟨y, h3, _⟩ := subL_iff.1 hs _ (mkH_get h1)
  exact ⟨y, sh, sz, h3, h2⟩
/-- a part of a heap, written down -/
theorem HR.lit (hr : HR P g h w) {l : List (Ps × Blk)} {N : Ps} (hs : subL l h = true) (hb : belowP N.val l = true) (hN : h.next.val ≤ N.val) : HR P g (mkH l N) w := by
  refine ⟨fun b x hx c sh sz hg => ?_, fun b b' c h1 h2 => hr.inj b b' c (live_lit hs h1) (live_lit hs h2), fun b hb' => ?_, fun b x hx => Nat.lt_of_lt_of_le (hr.gold b x hx) hN⟩
  · obtain ⟨y, h3, h4⟩ := subL_iff.1 hs _ (mkH_get hx)
    obtain ⟨o, ho, hbr⟩ := hr.blk b y h3 c sh sz hg
    exact ⟨o, ho, blkEq_BR h4 hbr⟩
  · cases hx : (mkH l N).get b with
    | none => rfl
    | some x =>
      have := belowP_iff.1 hb _ (mkH_get hx)
      simp only at this
      exact absurd hb' (by show ¬ N.val ≤ b.val; omega)
end
end Go.Eng

namespace Go.Eng
open Go
noncomputable section
def q1 : Ps := (.o Ps.e)
def q5 : Ps := (.o (.i Ps.e))
def q6 : Ps := (.i (.i Ps.e))
def q7 : Ps := (.o (.o (.o Ps.e)))
def q1519 : Ps := (.o (.o (.o (.o (.i (.i (.i (.i (.i (.o Ps.e))))))))))
def q2314 : Ps := (.i (.i (.o (.i (.o (.o (.o (.o (.i (.o (.o Ps.e)))))))))))
def q2315 : Ps := (.o (.o (.i (.i (.o (.o (.o (.o (.i (.o (.o Ps.e)))))))))))
def q2316 : Ps := (.i (.o (.i (.i (.o (.o (.o (.o (.i (.o (.o Ps.e)))))))))))
def q2317 : Ps := (.o (.i (.i (.i (.o (.o (.o (.o (.i (.o (.o Ps.e)))))))))))
def q2326 : Ps := (.i (.i (.i (.o (.i (.o (.o (.o (.i (.o (.o Ps.e)))))))))))
def q2344 : Ps := (.i (.o (.o (.i (.o (.i (.o (.o (.i (.o (.o Ps.e)))))))))))
def q2364 : Ps := (.i (.o (.i (.i (.i (.i (.o (.o (.i (.o (.o Ps.e)))))))))))
def q2373 : Ps := (.o (.i (.i (.o (.o (.o (.i (.o (.i (.o (.o Ps.e)))))))))))
def q2393 : Ps := (.o (.i (.o (.i (.i (.o (.i (.o (.i (.o (.o Ps.e)))))))))))
def q2416 : Ps := (.i (.o (.o (.o (.i (.i (.i (.o (.i (.o (.o Ps.e)))))))))))
def q2425 : Ps := (.o (.i (.o (.i (.i (.i (.i (.o (.i (.o (.o Ps.e)))))))))))
def q2436 : Ps := (.i (.o (.i (.o (.o (.o (.o (.i (.i (.o (.o Ps.e)))))))))))
def q2459 : Ps := (.o (.o (.i (.i (.i (.o (.o (.i (.i (.o (.o Ps.e)))))))))))
def q2468 : Ps := (.i (.o (.i (.o (.o (.i (.o (.i (.i (.o (.o Ps.e)))))))))))
def q2470 : Ps := (.i (.i (.i (.o (.o (.i (.o (.i (.i (.o (.o Ps.e)))))))))))
def q2472 : Ps := (.i (.o (.o (.i (.o (.i (.o (.i (.i (.o (.o Ps.e)))))))))))
def q2477 : Ps := (.o (.i (.i (.i (.o (.i (.o (.i (.i (.o (.o Ps.e)))))))))))
def q2494 : Ps := (.i (.i (.i (.i (.i (.i (.o (.i (.i (.o (.o Ps.e)))))))))))
def q2495 : Ps := (.o (.o (.o (.o (.o (.o (.i (.i (.i (.o (.o Ps.e)))))))))))
def q2497 : Ps := (.o (.i (.o (.o (.o (.o (.i (.i (.i (.o (.o Ps.e)))))))))))
def q2499 : Ps := (.o (.o (.i (.o (.o (.o (.i (.i (.i (.o (.o Ps.e)))))))))))
def q2503 : Ps := (.o (.o (.o (.i (.o (.o (.i (.i (.i (.o (.o Ps.e)))))))))))
def q2504 : Ps := (.i (.o (.o (.i (.o (.o (.i (.i (.i (.o (.o Ps.e)))))))))))
def q2505 : Ps := (.o (.i (.o (.i (.o (.o (.i (.i (.i (.o (.o Ps.e)))))))))))
def q4017 : Ps := (.o (.i (.o (.o (.i (.i (.o (.i (.i (.i (.i Ps.e)))))))))))
def q4812 : Ps := (.i (.o (.i (.i (.o (.o (.i (.i (.o (.i (.o (.o Ps.e))))))))))))
def q4813 : Ps := (.o (.i (.i (.i (.o (.o (.i (.i (.o (.i (.o (.o Ps.e))))))))))))
def q4814 : Ps := (.i (.i (.i (.i (.o (.o (.i (.i (.o (.i (.o (.o Ps.e))))))))))))
def q4815 : Ps := (.o (.o (.o (.o (.i (.o (.i (.i (.o (.i (.o (.o Ps.e))))))))))))
def q4824 : Ps := (.i (.o (.o (.i (.i (.o (.i (.i (.o (.i (.o (.o Ps.e))))))))))))
def q4842 : Ps := (.i (.i (.o (.i (.o (.i (.i (.i (.o (.i (.o (.o Ps.e))))))))))))
def q4862 : Ps := (.i (.i (.i (.i (.i (.i (.i (.i (.o (.i (.o (.o Ps.e))))))))))))
def q4871 : Ps := (.o (.o (.o (.i (.o (.o (.o (.o (.i (.i (.o (.o Ps.e))))))))))))
def q4891 : Ps := (.o (.o (.i (.i (.i (.o (.o (.o (.i (.i (.o (.o Ps.e))))))))))))
def q4914 : Ps := (.i (.i (.o (.o (.i (.i (.o (.o (.i (.i (.o (.o Ps.e))))))))))))
def q4923 : Ps := (.o (.o (.i (.i (.i (.i (.o (.o (.i (.i (.o (.o Ps.e))))))))))))
def q4934 : Ps := (.i (.i (.i (.o (.o (.o (.i (.o (.i (.i (.o (.o Ps.e))))))))))))
def q4957 : Ps := (.o (.i (.i (.i (.i (.o (.i (.o (.i (.i (.o (.o Ps.e))))))))))))
def q4966 : Ps := (.i (.i (.i (.o (.o (.i (.i (.o (.i (.i (.o (.o Ps.e))))))))))))
def q4968 : Ps := (.i (.o (.o (.i (.o (.i (.i (.o (.i (.i (.o (.o Ps.e))))))))))))
def q4971 : Ps := (.o (.o (.i (.i (.o (.i (.i (.o (.i (.i (.o (.o Ps.e))))))))))))
def q4973 : Ps := (.o (.i (.i (.i (.o (.i (.i (.o (.i (.i (.o (.o Ps.e))))))))))))
def q5011 : Ps := (.o (.o (.i (.o (.i (.o (.o (.i (.i (.i (.o (.o Ps.e))))))))))))
def q5013 : Ps := (.o (.i (.i (.o (.i (.o (.o (.i (.i (.i (.o (.o Ps.e))))))))))))
def q5015 : Ps := (.o (.o (.o (.i (.i (.o (.o (.i (.i (.i (.o (.o Ps.e))))))))))))
def q5021 : Ps := (.o (.i (.i (.i (.i (.o (.o (.i (.i (.i (.o (.o Ps.e))))))))))))
def q5028 : Ps := (.i (.o (.i (.o (.o (.i (.o (.i (.i (.i (.o (.o Ps.e))))))))))))
def q5046 : Ps := (.i (.i (.i (.o (.i (.i (.o (.i (.i (.i (.o (.o Ps.e))))))))))))
def q5071 : Ps := (.o (.o (.o (.o (.i (.o (.i (.i (.i (.i (.o (.o Ps.e))))))))))))
def q5091 : Ps := (.o (.o (.i (.o (.o (.i (.i (.i (.i (.i (.o (.o Ps.e))))))))))))
def q5125 : Ps := (.o (.i (.i (.o (.o (.o (.o (.o (.o (.o (.i (.o Ps.e))))))))))))
def q5144 : Ps := (.i (.o (.o (.i (.i (.o (.o (.o (.o (.o (.i (.o Ps.e))))))))))))
def q5149 : Ps := (.o (.i (.i (.i (.i (.o (.o (.o (.o (.o (.i (.o Ps.e))))))))))))
def q5166 : Ps := (.i (.i (.i (.i (.o (.i (.o (.o (.o (.o (.i (.o Ps.e))))))))))))
def q5167 : Ps := (.o (.o (.o (.o (.i (.i (.o (.o (.o (.o (.i (.o Ps.e))))))))))))
def q5169 : Ps := (.o (.i (.o (.o (.i (.i (.o (.o (.o (.o (.i (.o Ps.e))))))))))))
def q5173 : Ps := (.o (.i (.i (.o (.i (.i (.o (.o (.o (.o (.i (.o Ps.e))))))))))))
def q5174 : Ps := (.i (.i (.i (.o (.i (.i (.o (.o (.o (.o (.i (.o Ps.e))))))))))))
def q5175 : Ps := (.o (.o (.o (.i (.i (.i (.o (.o (.o (.o (.i (.o Ps.e))))))))))))
def q6687 : Ps := (.o (.o (.o (.o (.o (.i (.o (.o (.o (.i (.o (.i Ps.e))))))))))))
def q7482 : Ps := (.i (.i (.o (.i (.i (.i (.o (.o (.i (.o (.i (.i Ps.e))))))))))))
def q7483 : Ps := (.o (.o (.i (.i (.i (.i (.o (.o (.i (.o (.i (.i Ps.e))))))))))))
def q7484 : Ps := (.i (.o (.i (.i (.i (.i (.o (.o (.i (.o (.i (.i Ps.e))))))))))))
def q7485 : Ps := (.o (.i (.i (.i (.i (.i (.o (.o (.i (.o (.i (.i Ps.e))))))))))))
def q7494 : Ps := (.i (.i (.i (.o (.o (.o (.i (.o (.i (.o (.i (.i Ps.e))))))))))))
def q7512 : Ps := (.i (.o (.o (.i (.i (.o (.i (.o (.i (.o (.i (.i Ps.e))))))))))))
def q7532 : Ps := (.i (.o (.i (.i (.o (.i (.i (.o (.i (.o (.i (.i Ps.e))))))))))))
def q7541 : Ps := (.o (.i (.i (.o (.i (.i (.i (.o (.i (.o (.i (.i Ps.e))))))))))))
def q7561 : Ps := (.o (.i (.o (.i (.o (.o (.o (.i (.i (.o (.i (.i Ps.e))))))))))))
def q7584 : Ps := (.i (.o (.o (.o (.o (.i (.o (.i (.i (.o (.i (.i Ps.e))))))))))))
def q7593 : Ps := (.o (.i (.o (.i (.o (.i (.o (.i (.i (.o (.i (.i Ps.e))))))))))))
def q7604 : Ps := (.i (.o (.i (.o (.i (.i (.o (.i (.i (.o (.i (.i Ps.e))))))))))))
def q7627 : Ps := (.o (.o (.i (.i (.o (.o (.i (.i (.i (.o (.i (.i Ps.e))))))))))))
def q7636 : Ps := (.i (.o (.i (.o (.i (.o (.i (.i (.i (.o (.i (.i Ps.e))))))))))))
def q7638 : Ps := (.i (.i (.i (.o (.i (.o (.i (.i (.i (.o (.i (.i Ps.e))))))))))))
def q7640 : Ps := (.i (.o (.o (.i (.i (.o (.i (.i (.i (.o (.i (.i Ps.e))))))))))))
def q7645 : Ps := (.o (.i (.i (.i (.i (.o (.i (.i (.i (.o (.i (.i Ps.e))))))))))))
def q7662 : Ps := (.i (.i (.i (.i (.o (.i (.i (.i (.i (.o (.i (.i Ps.e))))))))))))
def q7663 : Ps := (.o (.o (.o (.o (.i (.i (.i (.i (.i (.o (.i (.i Ps.e))))))))))))
def q7665 : Ps := (.o (.i (.o (.o (.i (.i (.i (.i (.i (.o (.i (.i Ps.e))))))))))))
def q7667 : Ps := (.o (.o (.i (.o (.i (.i (.i (.i (.i (.o (.i (.i Ps.e))))))))))))
def q7671 : Ps := (.o (.o (.o (.i (.i (.i (.i (.i (.i (.o (.i (.i Ps.e))))))))))))
def q7672 : Ps := (.i (.o (.o (.i (.i (.i (.i (.i (.i (.o (.i (.i Ps.e))))))))))))
def q7673 : Ps := (.o (.i (.o (.i (.i (.i (.i (.i (.i (.o (.i (.i Ps.e))))))))))))
def q9185 : Ps := (.o (.i (.o (.o (.o (.i (.i (.i (.i (.i (.o (.o (.o Ps.e)))))))))))))
def q9980 : Ps := (.i (.o (.i (.i (.i (.i (.i (.i (.o (.i (.i (.o (.o Ps.e)))))))))))))
def q9981 : Ps := (.o (.i (.i (.i (.i (.i (.i (.i (.o (.i (.i (.o (.o Ps.e)))))))))))))
def q9982 : Ps := (.i (.i (.i (.i (.i (.i (.i (.i (.o (.i (.i (.o (.o Ps.e)))))))))))))
def q9983 : Ps := (.o (.o (.o (.o (.o (.o (.o (.o (.i (.i (.i (.o (.o Ps.e)))))))))))))
def q9992 : Ps := (.i (.o (.o (.i (.o (.o (.o (.o (.i (.i (.i (.o (.o Ps.e)))))))))))))
def q10010 : Ps := (.i (.i (.o (.i (.i (.o (.o (.o (.i (.i (.i (.o (.o Ps.e)))))))))))))
def q10030 : Ps := (.i (.i (.i (.i (.o (.i (.o (.o (.i (.i (.i (.o (.o Ps.e)))))))))))))
def q10039 : Ps := (.o (.o (.o (.i (.i (.i (.o (.o (.i (.i (.i (.o (.o Ps.e)))))))))))))
def q10059 : Ps := (.o (.o (.i (.i (.o (.o (.i (.o (.i (.i (.i (.o (.o Ps.e)))))))))))))
def q10082 : Ps := (.i (.i (.o (.o (.o (.i (.i (.o (.i (.i (.i (.o (.o Ps.e)))))))))))))
def q10091 : Ps := (.o (.o (.i (.i (.o (.i (.i (.o (.i (.i (.i (.o (.o Ps.e)))))))))))))
def q10102 : Ps := (.i (.i (.i (.o (.i (.i (.i (.o (.i (.i (.i (.o (.o Ps.e)))))))))))))
def q10125 : Ps := (.o (.i (.i (.i (.o (.o (.o (.i (.i (.i (.i (.o (.o Ps.e)))))))))))))
def q10134 : Ps := (.i (.i (.i (.o (.i (.o (.o (.i (.i (.i (.i (.o (.o Ps.e)))))))))))))
def q10136 : Ps := (.i (.o (.o (.i (.i (.o (.o (.i (.i (.i (.i (.o (.o Ps.e)))))))))))))
def q10139 : Ps := (.o (.o (.i (.i (.i (.o (.o (.i (.i (.i (.i (.o (.o Ps.e)))))))))))))
def q10141 : Ps := (.o (.i (.i (.i (.i (.o (.o (.i (.i (.i (.i (.o (.o Ps.e)))))))))))))
def q10179 : Ps := (.o (.o (.i (.o (.o (.o (.i (.i (.i (.i (.i (.o (.o Ps.e)))))))))))))
def q10181 : Ps := (.o (.i (.i (.o (.o (.o (.i (.i (.i (.i (.i (.o (.o Ps.e)))))))))))))
def q10183 : Ps := (.o (.o (.o (.i (.o (.o (.i (.i (.i (.i (.i (.o (.o Ps.e)))))))))))))
def q10189 : Ps := (.o (.i (.i (.i (.o (.o (.i (.i (.i (.i (.i (.o (.o Ps.e)))))))))))))
def q10196 : Ps := (.i (.o (.i (.o (.i (.o (.i (.i (.i (.i (.i (.o (.o Ps.e)))))))))))))
def q10214 : Ps := (.i (.i (.i (.o (.o (.i (.i (.i (.i (.i (.i (.o (.o Ps.e)))))))))))))
def q10239 : Ps := (.o (.o (.o (.o (.o (.o (.o (.o (.o (.o (.o (.i (.o Ps.e)))))))))))))
def q10259 : Ps := (.o (.o (.i (.o (.i (.o (.o (.o (.o (.o (.o (.i (.o Ps.e)))))))))))))
def q10293 : Ps := (.o (.i (.i (.o (.i (.i (.o (.o (.o (.o (.o (.i (.o Ps.e)))))))))))))
def q10312 : Ps := (.i (.o (.o (.i (.o (.o (.i (.o (.o (.o (.o (.i (.o Ps.e)))))))))))))
def q10317 : Ps := (.o (.i (.i (.i (.o (.o (.i (.o (.o (.o (.o (.i (.o Ps.e)))))))))))))
def q10334 : Ps := (.i (.i (.i (.i (.i (.o (.i (.o (.o (.o (.o (.i (.o Ps.e)))))))))))))
def q10335 : Ps := (.o (.o (.o (.o (.o (.i (.i (.o (.o (.o (.o (.i (.o Ps.e)))))))))))))
def q10337 : Ps := (.o (.i (.o (.o (.o (.i (.i (.o (.o (.o (.o (.i (.o Ps.e)))))))))))))
def q10341 : Ps := (.o (.i (.i (.o (.o (.i (.i (.o (.o (.o (.o (.i (.o Ps.e)))))))))))))
def q10342 : Ps := (.i (.i (.i (.o (.o (.i (.i (.o (.o (.o (.o (.i (.o Ps.e)))))))))))))
def q10343 : Ps := (.o (.o (.o (.i (.o (.i (.i (.o (.o (.o (.o (.i (.o Ps.e)))))))))))))
def q11855 : Ps := (.o (.o (.o (.o (.i (.o (.i (.o (.o (.i (.i (.i (.o Ps.e)))))))))))))
def q12650 : Ps := (.i (.i (.o (.i (.o (.i (.i (.o (.i (.o (.o (.o (.i Ps.e)))))))))))))
def q12651 : Ps := (.o (.o (.i (.i (.o (.i (.i (.o (.i (.o (.o (.o (.i Ps.e)))))))))))))
def q12652 : Ps := (.i (.o (.i (.i (.o (.i (.i (.o (.i (.o (.o (.o (.i Ps.e)))))))))))))
def q12653 : Ps := (.o (.i (.i (.i (.o (.i (.i (.o (.i (.o (.o (.o (.i Ps.e)))))))))))))
def q12662 : Ps := (.i (.i (.i (.o (.i (.i (.i (.o (.i (.o (.o (.o (.i Ps.e)))))))))))))
def q12680 : Ps := (.i (.o (.o (.i (.o (.o (.o (.i (.i (.o (.o (.o (.i Ps.e)))))))))))))
def q12700 : Ps := (.i (.o (.i (.i (.i (.o (.o (.i (.i (.o (.o (.o (.i Ps.e)))))))))))))
def q12709 : Ps := (.o (.i (.i (.o (.o (.i (.o (.i (.i (.o (.o (.o (.i Ps.e)))))))))))))
def q12729 : Ps := (.o (.i (.o (.i (.i (.i (.o (.i (.i (.o (.o (.o (.i Ps.e)))))))))))))
def q12752 : Ps := (.i (.o (.o (.o (.i (.o (.i (.i (.i (.o (.o (.o (.i Ps.e)))))))))))))
def q12761 : Ps := (.o (.i (.o (.i (.i (.o (.i (.i (.i (.o (.o (.o (.i Ps.e)))))))))))))
def q12772 : Ps := (.i (.o (.i (.o (.o (.i (.i (.i (.i (.o (.o (.o (.i Ps.e)))))))))))))
def q12795 : Ps := (.o (.o (.i (.i (.i (.i (.i (.i (.i (.o (.o (.o (.i Ps.e)))))))))))))
def q12804 : Ps := (.i (.o (.i (.o (.o (.o (.o (.o (.o (.i (.o (.o (.i Ps.e)))))))))))))
def q12806 : Ps := (.i (.i (.i (.o (.o (.o (.o (.o (.o (.i (.o (.o (.i Ps.e)))))))))))))
def q12808 : Ps := (.i (.o (.o (.i (.o (.o (.o (.o (.o (.i (.o (.o (.i Ps.e)))))))))))))
def q12813 : Ps := (.o (.i (.i (.i (.o (.o (.o (.o (.o (.i (.o (.o (.i Ps.e)))))))))))))
def q12830 : Ps := (.i (.i (.i (.i (.i (.o (.o (.o (.o (.i (.o (.o (.i Ps.e)))))))))))))
def q12831 : Ps := (.o (.o (.o (.o (.o (.i (.o (.o (.o (.i (.o (.o (.i Ps.e)))))))))))))
def q12833 : Ps := (.o (.i (.o (.o (.o (.i (.o (.o (.o (.i (.o (.o (.i Ps.e)))))))))))))
def q12835 : Ps := (.o (.o (.i (.o (.o (.i (.o (.o (.o (.i (.o (.o (.i Ps.e)))))))))))))
def q12839 : Ps := (.o (.o (.o (.i (.o (.i (.o (.o (.o (.i (.o (.o (.i Ps.e)))))))))))))
def q12840 : Ps := (.i (.o (.o (.i (.o (.i (.o (.o (.o (.i (.o (.o (.i Ps.e)))))))))))))
def q12841 : Ps := (.o (.i (.o (.i (.o (.i (.o (.o (.o (.i (.o (.o (.i Ps.e)))))))))))))
def q14353 : Ps := (.o (.i (.o (.o (.i (.o (.o (.o (.o (.o (.o (.i (.i Ps.e)))))))))))))
def q15148 : Ps := (.i (.o (.i (.i (.o (.i (.o (.o (.i (.i (.o (.i (.i Ps.e)))))))))))))
def q15149 : Ps := (.o (.i (.i (.i (.o (.i (.o (.o (.i (.i (.o (.i (.i Ps.e)))))))))))))
def q15150 : Ps := (.i (.i (.i (.i (.o (.i (.o (.o (.i (.i (.o (.i (.i Ps.e)))))))))))))
def q15151 : Ps := (.o (.o (.o (.o (.i (.i (.o (.o (.i (.i (.o (.i (.i Ps.e)))))))))))))
def q15160 : Ps := (.i (.o (.o (.i (.i (.i (.o (.o (.i (.i (.o (.i (.i Ps.e)))))))))))))
def q15178 : Ps := (.i (.i (.o (.i (.o (.o (.i (.o (.i (.i (.o (.i (.i Ps.e)))))))))))))
def q15198 : Ps := (.i (.i (.i (.i (.i (.o (.i (.o (.i (.i (.o (.i (.i Ps.e)))))))))))))
def q15207 : Ps := (.o (.o (.o (.i (.o (.i (.i (.o (.i (.i (.o (.i (.i Ps.e)))))))))))))
def q15227 : Ps := (.o (.o (.i (.i (.i (.i (.i (.o (.i (.i (.o (.i (.i Ps.e)))))))))))))
def q15250 : Ps := (.i (.i (.o (.o (.i (.o (.o (.i (.i (.i (.o (.i (.i Ps.e)))))))))))))
def q15259 : Ps := (.o (.o (.i (.i (.i (.o (.o (.i (.i (.i (.o (.i (.i Ps.e)))))))))))))
def q15270 : Ps := (.i (.i (.i (.o (.o (.i (.o (.i (.i (.i (.o (.i (.i Ps.e)))))))))))))
def q15293 : Ps := (.o (.i (.i (.i (.i (.i (.o (.i (.i (.i (.o (.i (.i Ps.e)))))))))))))
def q15302 : Ps := (.i (.i (.i (.o (.o (.o (.i (.i (.i (.i (.o (.i (.i Ps.e)))))))))))))
def q15304 : Ps := (.i (.o (.o (.i (.o (.o (.i (.i (.i (.i (.o (.i (.i Ps.e)))))))))))))
def q15307 : Ps := (.o (.o (.i (.i (.o (.o (.i (.i (.i (.i (.o (.i (.i Ps.e)))))))))))))
def q15309 : Ps := (.o (.i (.i (.i (.o (.o (.i (.i (.i (.i (.o (.i (.i Ps.e)))))))))))))
def q15347 : Ps := (.o (.o (.i (.o (.i (.i (.i (.i (.i (.i (.o (.i (.i Ps.e)))))))))))))
def q15349 : Ps := (.o (.i (.i (.o (.i (.i (.i (.i (.i (.i (.o (.i (.i Ps.e)))))))))))))
def q15351 : Ps := (.o (.o (.o (.i (.i (.i (.i (.i (.i (.i (.o (.i (.i Ps.e)))))))))))))
def q15357 : Ps := (.o (.i (.i (.i (.i (.i (.i (.i (.i (.i (.o (.i (.i Ps.e)))))))))))))
def q15364 : Ps := (.i (.o (.i (.o (.o (.o (.o (.o (.o (.o (.i (.i (.i Ps.e)))))))))))))
def q15382 : Ps := (.i (.i (.i (.o (.i (.o (.o (.o (.o (.o (.i (.i (.i Ps.e)))))))))))))
def q15407 : Ps := (.o (.o (.o (.o (.i (.i (.o (.o (.o (.o (.i (.i (.i Ps.e)))))))))))))
def q15427 : Ps := (.o (.o (.i (.o (.o (.o (.i (.o (.o (.o (.i (.i (.i Ps.e)))))))))))))
def q15461 : Ps := (.o (.i (.i (.o (.o (.i (.i (.o (.o (.o (.i (.i (.i Ps.e)))))))))))))
def q15480 : Ps := (.i (.o (.o (.i (.i (.i (.i (.o (.o (.o (.i (.i (.i Ps.e)))))))))))))
def q15485 : Ps := (.o (.i (.i (.i (.i (.i (.i (.o (.o (.o (.i (.i (.i Ps.e)))))))))))))
def q15502 : Ps := (.i (.i (.i (.i (.o (.o (.o (.i (.o (.o (.i (.i (.i Ps.e)))))))))))))
def q15503 : Ps := (.o (.o (.o (.o (.i (.o (.o (.i (.o (.o (.i (.i (.i Ps.e)))))))))))))
def q15505 : Ps := (.o (.i (.o (.o (.i (.o (.o (.i (.o (.o (.i (.i (.i Ps.e)))))))))))))
def q20069 : Ps := (.o (.i (.i (.o (.o (.i (.i (.o (.o (.i (.i (.i (.o (.o Ps.e))))))))))))))
def q20087 : Ps := (.o (.o (.o (.i (.i (.i (.i (.o (.o (.i (.i (.i (.o (.o Ps.e))))))))))))))
def q20108 : Ps := (.i (.o (.i (.i (.o (.o (.o (.i (.o (.i (.i (.i (.o (.o Ps.e))))))))))))))
def q40069 : Ps := (.o (.i (.i (.o (.o (.o (.o (.i (.o (.o (.i (.i (.i (.o (.o Ps.e)))))))))))))))
def q40087 : Ps := (.o (.o (.o (.i (.i (.o (.o (.i (.o (.o (.i (.i (.i (.o (.o Ps.e)))))))))))))))
def q40108 : Ps := (.i (.o (.i (.i (.o (.i (.o (.i (.o (.o (.i (.i (.i (.o (.o Ps.e)))))))))))))))
def q60069 : Ps := (.o (.i (.i (.o (.o (.i (.o (.i (.o (.i (.o (.i (.o (.i (.i Ps.e)))))))))))))))
def q60087 : Ps := (.o (.o (.o (.i (.i (.i (.o (.i (.o (.i (.o (.i (.o (.i (.i Ps.e)))))))))))))))
def q60108 : Ps := (.i (.o (.i (.i (.o (.o (.i (.i (.o (.i (.o (.i (.o (.i (.i Ps.e)))))))))))))))
-- next at the start: 2
def TA0 : List (Ps × Blk) := [(q1, cl false [.sl0])]
def N0 : Ps := (.i Ps.e)
def TA1 : List (Ps × Blk) := [(q1, cl false [.sl q2477 0 1 1 none]), (q2477, cl true [.iface 47 (.ptr q2472 0)])]
def M0 : List (Ps × Blk) := [(q5, .map [] 0),
 (q6, cl false [.sl0, .sl0, .map q5, .int .i64 (.ofNat 0), .int .i64 (.ofNat 0)]),
 (q7, cl false [.int .i64 (.ofNat 10), .int .i64 (.ofNat 0), .sl0, .ptr q6 0]),
 (q1519, cl true [.int .i64 (.ofNat 1), .int .i64 (.ofNat 0), .int .i64 (.ofNat 2), .str [], .int .i64 (.ofNat 0), .int .u64 (.ofNat 0), .int .i64 (.ofNat 2), .int .i64 (.ofNat 4), .int .i64 (.ofNat 0), .str [99], .int .i64 (.ofNat 0), .int .u64 (.ofNat 0), .int .i64 (.ofNat 3), .int .i64 (.ofNat 10), .int .i64 (.ofNat 2), .str [102], .int .i64 (.ofNat 0), .int .u64 (.ofNat 0), .int .i64 (.ofNat 4), .int .i64 (.ofNat 12), .int .i64 (.ofNat 0), .str [110], .int .i64 (.ofNat 0), .int .u64 (.ofNat 0), .int .i64 (.ofNat 5), .int .i64 (.ofNat 15), .int .i64 (.ofNat 3), .str [], .int .i64 (.ofNat 0), .int .u64 (.ofNat 0), .int .i64 (.ofNat 7), .int .i64 (.ofNat 17), .int .i64 (.ofNat 1), .str [99], .int .i64 (.ofNat 0), .int .u64 (.ofNat 0), .int .i64 (.ofNat 26), .int .i64 (.ofNat 21), .int .i64 (.ofNat 0), .str [], .int .i64 (.ofNat 0), .int .u64 (.ofNat 0), .int .i64 (.ofNat 11), .int .i64 (.ofNat 24), .int .i64 (.ofNat 3), .str [105], .int .i64 (.ofNat 0), .int .u64 (.ofNat 0), .int .i64 (.ofNat 26), .int .i64 (.ofNat 33), .int .i64 (.ofNat 0), .str [], .int .i64 (.ofNat 0), .int .u64 (.ofNat 0), .int .i64 (.ofNat 25), .int .i64 (.ofNat 36), .int .i64 (.ofNat 0), .str [110], .int .i64 (.ofNat 0), .int .u64 (.ofNat 0), .int .i64 (.ofNat 5), .int .i64 (.ofNat 38), .int .i64 (.ofNat 1), .str [], .int .i64 (.ofNat 0), .int .u64 (.ofNat 0), .int .i64 (.ofNat 7), .int .i64 (.ofNat 40), .int .i64 (.ofNat 1), .str [99], .int .i64 (.ofNat 0), .int .u64 (.ofNat 0), .int .i64 (.ofNat 21), .int .i64 (.ofNat 46), .int .i64 (.ofNat 2), .str [43], .int .i64 (.ofNat 0), .int .u64 (.ofNat 0), .int .i64 (.ofNat 25), .int .i64 (.ofNat 44), .int .i64 (.ofNat 0), .str [99], .int .i64 (.ofNat 0), .int .u64 (.ofNat 0), .int .i64 (.ofNat 25), .int .i64 (.ofNat 48), .int .i64 (.ofNat 0), .str [105], .int .i64 (.ofNat 0), .int .u64 (.ofNat 0), .int .i64 (.ofNat 15), .int .i64 (.ofNat 53), .int .i64 (.ofNat 1), .str [], .int .i64 (.ofNat 0), .int .u64 (.ofNat 0), .int .i64 (.ofNat 25), .int .i64 (.ofNat 60), .int .i64 (.ofNat 0), .str [99], .int .i64 (.ofNat 0), .int .u64 (.ofNat 0)]),
 (q2314, .map [(.str [102], .int .i64 (.ofNat 2), 0)] 1),
 (q2315, .map [(.str [99], .int .i64 (.ofNat 0), 0)] 1),
 (q2316, .map [] 0),
 (q2317, cl false [.str [108, 101, 116, 32, 99, 59, 32, 102, 110, 32, 102, 40, 110, 41, 32, 123, 32, 99, 32, 61, 32, 48, 59, 32, 102, 111, 114, 32, 105, 32, 105, 110, 32, 48, 46, 46, 110, 32, 123, 32, 99, 32, 61, 32, 99, 32, 43, 32, 105, 59, 32, 125, 32, 114, 101, 116, 117, 114, 110, 32, 99, 59, 32, 125], .ptr q7 0, .sl q1519 0 6 17 none, .sl q2468 0 1 17 none, .map q2314, .fn 16 [.ptr q2472 0] [], .map q2315, .sl q2470 0 1 1 none, .map q2316, .int .i64 (.ofNat 0), .bool true, .bool false, .bool false, .int .i64 (.ofNat 999), .int .i64 (.ofNat 0), .int .i64 (.ofNat 0), .sl0, .int .i64 (.ofNat 0), .int .i64 (.ofNat 0), .int .i64 (.ofNat 0), .int .i64 (.ofNat 0), .int .i64 (.ofNat 0), .int .i64 (.ofNat 0), .int .u64 (.ofNat 0), .str [], .int .i64 (.ofNat 0), .int .i64 (.ofNat 0), .sl0]),
 (q2326, cl true [.int .i64 (.ofNat 1), .int .i64 (.ofNat 2)]),
 (q2344, cl true [.int .i64 (.ofNat 3), .int .i64 (.ofNat 4)]),
 (q2364, cl true [.int .i64 (.ofNat 5), .int .i64 (.ofNat 7), .int .i64 (.ofNat 15)]),
 (q2373, cl true [.int .i64 (.ofNat 6)]),
 (q2393, cl true [.int .i64 (.ofNat 8), .int .i64 (.ofNat 9), .int .i64 (.ofNat 10)]),
 (q2416, cl true [.int .i64 (.ofNat 11)]),
 (q2425, cl true [.int .i64 (.ofNat 12)]),
 (q2436, cl true [.int .i64 (.ofNat 13), .int .i64 (.ofNat 14)]),
 (q2459, cl true [.int .i64 (.ofNat 16)]),
 (q2468, cl true [.sl q2326 0 1 2 none, .sl0, .sl q2344 0 1 2 none, .sl0, .sl q2364 0 1 3 none, .sl q2373 0 1 1 none, .sl0, .sl q2393 0 1 3 none, .sl0, .sl0, .sl q2416 0 1 1 none, .sl q2425 0 1 1 none, .sl q2436 0 1 2 none, .sl0, .sl0, .sl q2459 0 1 1 none, .sl0]),
 (q2470, cl true [.int .u64 (.ofNat 18444492273895866368)]),
 (q2472, cl false [.ptr q2317 0, .sl q2499 0 1 1 none]),
 (q2494, cl false [.int .i64 (.ofNat 0), .int .i64 (.ofNat 2), .int .i64 (.ofNat 0), .int .i64 (.ofNat 0), .int .i64 (.ofNat 0), .int .i64 (.ofNat 0)]),
 (q2495, cl false [.sl q2497 0 2 1 none, .sl0, .sl q2494 0 6 1 none]),
 (q2497, cl true [.str [110], .int .u64 (.ofNat 18444773748872577027)]),
 (q2499, cl true [.ptr q2495 0])]
def N1 : Ps := (.i (.o (.i (.o (.o (.o (.i (.i (.i (.o (.o Ps.e)))))))))))
-- machine 0: root q2472 array q2477 next 2500 blocks 24
def TA2 : List (Ps × Blk) := [(q1, cl false [.sl q5149 0 1 2 none]), (q5149, cl true [.iface 47 (.ptr q2472 0), .iface 51 (.ptr q4973 0)])]
def M1 : List (Ps × Blk) := [(q2503, .map [] 0),
 (q2504, cl false [.sl0, .sl0, .map q2503, .int .i64 (.ofNat 0), .int .i64 (.ofNat 0)]),
 (q2505, cl false [.int .i64 (.ofNat 10), .int .i64 (.ofNat 0), .sl0, .ptr q2504 0]),
 (q4017, cl true [.int .i64 (.ofNat 1), .int .i64 (.ofNat 0), .int .i64 (.ofNat 2), .str [], .int .i64 (.ofNat 0), .int .u64 (.ofNat 0), .int .i64 (.ofNat 2), .int .i64 (.ofNat 4), .int .i64 (.ofNat 0), .str [99], .int .i64 (.ofNat 0), .int .u64 (.ofNat 0), .int .i64 (.ofNat 3), .int .i64 (.ofNat 10), .int .i64 (.ofNat 2), .str [102], .int .i64 (.ofNat 0), .int .u64 (.ofNat 0), .int .i64 (.ofNat 4), .int .i64 (.ofNat 12), .int .i64 (.ofNat 0), .str [110], .int .i64 (.ofNat 0), .int .u64 (.ofNat 0), .int .i64 (.ofNat 5), .int .i64 (.ofNat 15), .int .i64 (.ofNat 3), .str [], .int .i64 (.ofNat 0), .int .u64 (.ofNat 0), .int .i64 (.ofNat 7), .int .i64 (.ofNat 17), .int .i64 (.ofNat 1), .str [99], .int .i64 (.ofNat 0), .int .u64 (.ofNat 0), .int .i64 (.ofNat 26), .int .i64 (.ofNat 21), .int .i64 (.ofNat 0), .str [], .int .i64 (.ofNat 0), .int .u64 (.ofNat 0), .int .i64 (.ofNat 11), .int .i64 (.ofNat 24), .int .i64 (.ofNat 3), .str [105], .int .i64 (.ofNat 0), .int .u64 (.ofNat 0), .int .i64 (.ofNat 26), .int .i64 (.ofNat 33), .int .i64 (.ofNat 0), .str [], .int .i64 (.ofNat 0), .int .u64 (.ofNat 0), .int .i64 (.ofNat 25), .int .i64 (.ofNat 36), .int .i64 (.ofNat 0), .str [110], .int .i64 (.ofNat 0), .int .u64 (.ofNat 0), .int .i64 (.ofNat 5), .int .i64 (.ofNat 38), .int .i64 (.ofNat 1), .str [], .int .i64 (.ofNat 0), .int .u64 (.ofNat 0), .int .i64 (.ofNat 7), .int .i64 (.ofNat 40), .int .i64 (.ofNat 1), .str [99], .int .i64 (.ofNat 0), .int .u64 (.ofNat 0), .int .i64 (.ofNat 21), .int .i64 (.ofNat 46), .int .i64 (.ofNat 2), .str [43], .int .i64 (.ofNat 0), .int .u64 (.ofNat 0), .int .i64 (.ofNat 25), .int .i64 (.ofNat 44), .int .i64 (.ofNat 0), .str [99], .int .i64 (.ofNat 0), .int .u64 (.ofNat 0), .int .i64 (.ofNat 25), .int .i64 (.ofNat 48), .int .i64 (.ofNat 0), .str [105], .int .i64 (.ofNat 0), .int .u64 (.ofNat 0), .int .i64 (.ofNat 15), .int .i64 (.ofNat 53), .int .i64 (.ofNat 1), .str [], .int .i64 (.ofNat 0), .int .u64 (.ofNat 0), .int .i64 (.ofNat 25), .int .i64 (.ofNat 60), .int .i64 (.ofNat 0), .str [99], .int .i64 (.ofNat 0), .int .u64 (.ofNat 0)]),
 (q4812, .map [(.str [102], .int .i64 (.ofNat 2), 0)] 1),
 (q4813, .map [(.str [99], .int .i64 (.ofNat 0), 0)] 1),
 (q4814, .map [] 0),
 (q4815, cl false [.str [108, 101, 116, 32, 99, 59, 32, 102, 110, 32, 102, 40, 110, 41, 32, 123, 32, 99, 32, 61, 32, 48, 59, 32, 102, 111, 114, 32, 105, 32, 105, 110, 32, 48, 46, 46, 110, 32, 123, 32, 99, 32, 61, 32, 99, 32, 43, 32, 105, 59, 32, 125, 32, 114, 101, 116, 117, 114, 110, 32, 99, 59, 32, 125], .ptr q2505 0, .sl q4017 0 6 17 none, .sl q4966 0 1 17 none, .map q4812, .fn 18 [.ptr q4973 0] [], .map q4813, .sl q4968 0 1 1 none, .map q4814, .int .i64 (.ofNat 0), .bool true, .bool false, .bool false, .int .i64 (.ofNat 999), .int .i64 (.ofNat 0), .int .i64 (.ofNat 0), .sl0, .int .i64 (.ofNat 0), .int .i64 (.ofNat 0), .int .i64 (.ofNat 0), .int .i64 (.ofNat 0), .int .i64 (.ofNat 0), .int .i64 (.ofNat 0), .int .u64 (.ofNat 0), .str [], .int .i64 (.ofNat 0), .int .i64 (.ofNat 0), .sl0]),
 (q4824, cl true [.int .i64 (.ofNat 1), .int .i64 (.ofNat 2)]),
 (q4842, cl true [.int .i64 (.ofNat 3), .int .i64 (.ofNat 4)]),
 (q4862, cl true [.int .i64 (.ofNat 5), .int .i64 (.ofNat 7), .int .i64 (.ofNat 15)]),
 (q4871, cl true [.int .i64 (.ofNat 6)]),
 (q4891, cl true [.int .i64 (.ofNat 8), .int .i64 (.ofNat 9), .int .i64 (.ofNat 10)]),
 (q4914, cl true [.int .i64 (.ofNat 11)]),
 (q4923, cl true [.int .i64 (.ofNat 12)]),
 (q4934, cl true [.int .i64 (.ofNat 13), .int .i64 (.ofNat 14)]),
 (q4957, cl true [.int .i64 (.ofNat 16)]),
 (q4966, cl true [.sl q4824 0 1 2 none, .sl0, .sl q4842 0 1 2 none, .sl0, .sl q4862 0 1 3 none, .sl q4871 0 1 1 none, .sl0, .sl q4891 0 1 3 none, .sl0, .sl0, .sl q4914 0 1 1 none, .sl q4923 0 1 1 none, .sl q4934 0 1 2 none, .sl0, .sl0, .sl q4957 0 1 1 none, .sl0]),
 (q4968, cl true [.int .u64 (.ofNat 18444492273895866368)]),
 (q4971, .map [(.int .i64 (.ofNat 2), .ptr q5015 0, 0)] 1),
 (q4973, cl false [.ptr q4815 0, .map q4971, .sl q5013 0 1 1 none, .fn 30 [] [], .fn 33 [] [], .fn 36 [] [], .sl q5169 0 1 1 none]),
 (q5011, cl false [.int .i64 (.ofNat 46), .int .i64 (.ofNat 0), .int .i64 (.ofNat 0), .int .i64 (.ofNat 0), .int .i64 (.ofNat 0), .int .i64 (.ofNat 0), .int .i64 (.ofNat 0)]),
 (q5013, cl true [.ptr q5011 0]),
 (q5015, cl false [.int .i64 (.ofNat 2), .int .i64 (.ofNat 1), .int .i64 (.ofNat 6), .sl q5144 0 8 20 none]),
 (q5021, cl true [.int .i64 (.ofNat 0)]),
 (q5028, cl true [.int .i64 (.ofNat 0)]),
 (q5046, cl true [.int .i64 (.ofNat 0)]),
 (q5071, cl true [.int .i64 (.ofNat 0)]),
 (q5091, cl true [.int .i64 (.ofNat 0), .int .i64 (.ofNat 3)]),
 (q5125, cl true [.int .i64 (.ofNat 0)]),
 (q5144, cl true [.int .i64 (.ofNat 1), .int .i64 (.ofNat 0), .int .i64 (.ofNat 0), .int .i64 (.ofNat 0), .int .i64 (.ofNat 2), .int .i64 (.ofNat 1), .int .i64 (.negSucc 0), .sl q5021 0 1 1 none, .int .i64 (.ofNat 1), .int .i64 (.ofNat 0), .int .i64 (.ofNat 0), .int .i64 (.ofNat 0), .int .i64 (.ofNat 5), .int .i64 (.ofNat 1), .int .i64 (.negSucc 0), .sl q5028 0 1 1 none, .int .i64 (.ofNat 2), .int .i64 (.ofNat 1), .int .i64 (.ofNat 0), .int .i64 (.ofNat 0), .int .i64 (.ofNat 6), .int .i64 (.ofNat 1), .int .i64 (.negSucc 0), .sl0, .int .i64 (.ofNat 5), .int .i64 (.ofNat 1), .int .i64 (.ofNat 0), .int .i64 (.ofNat 0), .int .i64 (.ofNat 5), .int .i64 (.ofNat 1), .int .i64 (.negSucc 0), .sl0, .int .i64 (.ofNat 1), .int .i64 (.ofNat 0), .int .i64 (.ofNat 0), .int .i64 (.ofNat 0), .int .i64 (.ofNat 7), .int .i64 (.ofNat 1), .int .i64 (.negSucc 0), .sl q5046 0 1 1 none, .int .i64 (.ofNat 2), .int .i64 (.ofNat 1), .int .i64 (.ofNat 0), .int .i64 (.ofNat 0), .int .i64 (.ofNat 8), .int .i64 (.ofNat 1), .int .i64 (.negSucc 0), .sl0, .int .i64 (.ofNat 3), .int .i64 (.ofNat 2), .int .i64 (.ofNat 0), .int .i64 (.ofNat 0), .int .i64 (.ofNat 9), .int .i64 (.ofNat 2), .int .i64 (.negSucc 0), .sl0, .int .i64 (.ofNat 15), .int .i64 (.ofNat 1), .int .i64 (.ofNat 0), .int .i64 (.ofNat 0), .int .i64 (.ofNat 7), .int .i64 (.ofNat 1), .int .i64 (.negSucc 0), .sl0, .int .i64 (.ofNat 1), .int .i64 (.ofNat 0), .int .i64 (.ofNat 0), .int .i64 (.ofNat 0), .int .i64 (.ofNat 7), .int .i64 (.ofNat 3), .int .i64 (.negSucc 0), .sl q5071 0 1 1 none, .int .i64 (.ofNat 16), .int .i64 (.ofNat 1), .int .i64 (.ofNat 0), .int .i64 (.ofNat 16), .int .i64 (.ofNat 7), .int .i64 (.ofNat 3), .int .i64 (.negSucc 0), .sl0, .int .i64 (.ofNat 1), .int .i64 (.ofNat 0), .int .i64 (.ofNat 0), .int .i64 (.ofNat 0), .int .i64 (.ofNat 11), .int .i64 (.ofNat 4), .int .i64 (.negSucc 0), .sl q5091 0 1 2 none, .int .i64 (.ofNat 4), .int .i64 (.ofNat 4), .int .i64 (.ofNat 0), .int .i64 (.ofNat 0), .int .i64 (.ofNat 13), .int .i64 (.ofNat 4), .int .i64 (.negSucc 0), .sl0, .int .i64 (.ofNat 3), .int .i64 (.ofNat 5), .int .i64 (.ofNat 3), .int .i64 (.ofNat 0), .int .i64 (.ofNat 14), .int .i64 (.ofNat 5), .int .i64 (.negSucc 0), .sl0, .int .i64 (.ofNat 19), .int .i64 (.ofNat 4), .int .i64 (.ofNat 4), .int .i64 (.ofNat 5), .int .i64 (.ofNat 12), .int .i64 (.ofNat 4), .int .i64 (.ofNat 0), .sl0, .int .i64 (.ofNat 5), .int .i64 (.ofNat 4), .int .i64 (.ofNat 0), .int .i64 (.ofNat 0), .int .i64 (.ofNat 11), .int .i64 (.ofNat 4), .int .i64 (.negSucc 0), .sl0, .int .i64 (.ofNat 13), .int .i64 (.ofNat 0), .int .i64 (.ofNat 0), .int .i64 (.ofNat 8), .int .i64 (.ofNat 7), .int .i64 (.ofNat 4), .int .i64 (.negSucc 0), .sl0, .int .i64 (.ofNat 1), .int .i64 (.ofNat 0), .int .i64 (.ofNat 0), .int .i64 (.ofNat 0), .int .i64 (.ofNat 15), .int .i64 (.ofNat 1), .int .i64 (.negSucc 0), .sl q5125 0 1 1 none, .int .i64 (.ofNat 4), .int .i64 (.ofNat 1), .int .i64 (.ofNat 0), .int .i64 (.ofNat 0), .int .i64 (.ofNat 16), .int .i64 (.ofNat 1), .int .i64 (.negSucc 0), .sl0, .int .i64 (.ofNat 18), .int .i64 (.ofNat 1), .int .i64 (.ofNat 0), .int .i64 (.ofNat 0), .int .i64 (.ofNat 15), .int .i64 (.ofNat 1), .int .i64 (.negSucc 0), .sl0, .int .i64 (.ofNat 18), .int .i64 (.negSucc 0), .int .i64 (.ofNat 0), .int .i64 (.ofNat 0), .int .i64 (.ofNat 2), .int .i64 (.ofNat 1), .int .i64 (.negSucc 0), .sl0]),
 (q5166, cl false [.int .u64 (.ofNat 18444773748872577028), .int .u64 (.ofNat 0), .int .u64 (.ofNat 0), .int .u64 (.ofNat 0), .int .u64 (.ofNat 0), .int .u64 (.ofNat 0)]),
 (q5167, cl false [.ptr q5015 0, .int .i64 (.ofNat 0), .sl q5166 0 1 6 none, .int .i64 (.ofNat 1)]),
 (q5169, cl true [.ptr q5167 0])]
def N2 : Ps := (.i (.i (.o (.o (.i (.i (.o (.o (.o (.o (.i (.o Ps.e))))))))))))
-- machine 1: root q4973 array q5149 next 5170 blocks 34
def TA3 : List (Ps × Blk) := [(q1, cl false [.sl q7645 0 1 3 none]), (q7645, cl true [.iface 47 (.ptr q2472 0), .iface 51 (.ptr q4973 0), .iface 47 (.ptr q7640 0)])]
def M2 : List (Ps × Blk) := [(q5173, .map [] 0),
 (q5174, cl false [.sl0, .sl0, .map q5173, .int .i64 (.ofNat 0), .int .i64 (.ofNat 0)]),
 (q5175, cl false [.int .i64 (.ofNat 10), .int .i64 (.ofNat 0), .sl0, .ptr q5174 0]),
 (q6687, cl true [.int .i64 (.ofNat 1), .int .i64 (.ofNat 0), .int .i64 (.ofNat 2), .str [], .int .i64 (.ofNat 0), .int .u64 (.ofNat 0), .int .i64 (.ofNat 2), .int .i64 (.ofNat 4), .int .i64 (.ofNat 0), .str [99], .int .i64 (.ofNat 0), .int .u64 (.ofNat 0), .int .i64 (.ofNat 3), .int .i64 (.ofNat 10), .int .i64 (.ofNat 2), .str [102], .int .i64 (.ofNat 0), .int .u64 (.ofNat 0), .int .i64 (.ofNat 4), .int .i64 (.ofNat 12), .int .i64 (.ofNat 0), .str [110], .int .i64 (.ofNat 0), .int .u64 (.ofNat 0), .int .i64 (.ofNat 5), .int .i64 (.ofNat 15), .int .i64 (.ofNat 3), .str [], .int .i64 (.ofNat 0), .int .u64 (.ofNat 0), .int .i64 (.ofNat 7), .int .i64 (.ofNat 17), .int .i64 (.ofNat 1), .str [99], .int .i64 (.ofNat 0), .int .u64 (.ofNat 0), .int .i64 (.ofNat 26), .int .i64 (.ofNat 21), .int .i64 (.ofNat 0), .str [], .int .i64 (.ofNat 0), .int .u64 (.ofNat 0), .int .i64 (.ofNat 11), .int .i64 (.ofNat 24), .int .i64 (.ofNat 3), .str [105], .int .i64 (.ofNat 0), .int .u64 (.ofNat 0), .int .i64 (.ofNat 26), .int .i64 (.ofNat 33), .int .i64 (.ofNat 0), .str [], .int .i64 (.ofNat 0), .int .u64 (.ofNat 0), .int .i64 (.ofNat 25), .int .i64 (.ofNat 36), .int .i64 (.ofNat 0), .str [110], .int .i64 (.ofNat 0), .int .u64 (.ofNat 0), .int .i64 (.ofNat 5), .int .i64 (.ofNat 38), .int .i64 (.ofNat 1), .str [], .int .i64 (.ofNat 0), .int .u64 (.ofNat 0), .int .i64 (.ofNat 7), .int .i64 (.ofNat 40), .int .i64 (.ofNat 1), .str [99], .int .i64 (.ofNat 0), .int .u64 (.ofNat 0), .int .i64 (.ofNat 21), .int .i64 (.ofNat 46), .int .i64 (.ofNat 2), .str [43], .int .i64 (.ofNat 0), .int .u64 (.ofNat 0), .int .i64 (.ofNat 25), .int .i64 (.ofNat 44), .int .i64 (.ofNat 0), .str [99], .int .i64 (.ofNat 0), .int .u64 (.ofNat 0), .int .i64 (.ofNat 25), .int .i64 (.ofNat 48), .int .i64 (.ofNat 0), .str [105], .int .i64 (.ofNat 0), .int .u64 (.ofNat 0), .int .i64 (.ofNat 15), .int .i64 (.ofNat 53), .int .i64 (.ofNat 1), .str [], .int .i64 (.ofNat 0), .int .u64 (.ofNat 0), .int .i64 (.ofNat 25), .int .i64 (.ofNat 60), .int .i64 (.ofNat 0), .str [99], .int .i64 (.ofNat 0), .int .u64 (.ofNat 0)]),
 (q7482, .map [(.str [102], .int .i64 (.ofNat 2), 0)] 1),
 (q7483, .map [(.str [99], .int .i64 (.ofNat 0), 0)] 1),
 (q7484, .map [] 0),
 (q7485, cl false [.str [108, 101, 116, 32, 99, 59, 32, 102, 110, 32, 102, 40, 110, 41, 32, 123, 32, 99, 32, 61, 32, 48, 59, 32, 102, 111, 114, 32, 105, 32, 105, 110, 32, 48, 46, 46, 110, 32, 123, 32, 99, 32, 61, 32, 99, 32, 43, 32, 105, 59, 32, 125, 32, 114, 101, 116, 117, 114, 110, 32, 99, 59, 32, 125], .ptr q5175 0, .sl q6687 0 6 17 none, .sl q7636 0 1 17 none, .map q7482, .fn 16 [.ptr q7640 0] [], .map q7483, .sl q7638 0 1 1 none, .map q7484, .int .i64 (.ofNat 0), .bool true, .bool false, .bool false, .int .i64 (.ofNat 999), .int .i64 (.ofNat 0), .int .i64 (.ofNat 0), .sl0, .int .i64 (.ofNat 0), .int .i64 (.ofNat 0), .int .i64 (.ofNat 0), .int .i64 (.ofNat 0), .int .i64 (.ofNat 0), .int .i64 (.ofNat 0), .int .u64 (.ofNat 0), .str [], .int .i64 (.ofNat 0), .int .i64 (.ofNat 0), .sl0]),
 (q7494, cl true [.int .i64 (.ofNat 1), .int .i64 (.ofNat 2)]),
 (q7512, cl true [.int .i64 (.ofNat 3), .int .i64 (.ofNat 4)]),
 (q7532, cl true [.int .i64 (.ofNat 5), .int .i64 (.ofNat 7), .int .i64 (.ofNat 15)]),
 (q7541, cl true [.int .i64 (.ofNat 6)]),
 (q7561, cl true [.int .i64 (.ofNat 8), .int .i64 (.ofNat 9), .int .i64 (.ofNat 10)]),
 (q7584, cl true [.int .i64 (.ofNat 11)]),
 (q7593, cl true [.int .i64 (.ofNat 12)]),
 (q7604, cl true [.int .i64 (.ofNat 13), .int .i64 (.ofNat 14)]),
 (q7627, cl true [.int .i64 (.ofNat 16)]),
 (q7636, cl true [.sl q7494 0 1 2 none, .sl0, .sl q7512 0 1 2 none, .sl0, .sl q7532 0 1 3 none, .sl q7541 0 1 1 none, .sl0, .sl q7561 0 1 3 none, .sl0, .sl0, .sl q7584 0 1 1 none, .sl q7593 0 1 1 none, .sl q7604 0 1 2 none, .sl0, .sl0, .sl q7627 0 1 1 none, .sl0]),
 (q7638, cl true [.int .u64 (.ofNat 18444492273895866368)]),
 (q7640, cl false [.ptr q7485 0, .sl q7667 0 1 1 none]),
 (q7662, cl false [.int .i64 (.ofNat 0), .int .i64 (.ofNat 2), .int .i64 (.ofNat 0), .int .i64 (.ofNat 0), .int .i64 (.ofNat 0), .int .i64 (.ofNat 0)]),
 (q7663, cl false [.sl q7665 0 2 1 none, .sl0, .sl q7662 0 6 1 none]),
 (q7665, cl true [.str [110], .int .u64 (.ofNat 18444773748872577029)]),
 (q7667, cl true [.ptr q7663 0])]
def N3 : Ps := (.i (.o (.i (.o (.i (.i (.i (.i (.i (.o (.i (.i Ps.e))))))))))))
-- machine 2: root q7640 array q7645 next 7668 blocks 24
def TA4 : List (Ps × Blk) := [(q1, cl false [.sl q10317 0 1 4 none]), (q10317, cl true [.iface 47 (.ptr q2472 0), .iface 51 (.ptr q4973 0), .iface 47 (.ptr q7640 0), .iface 51 (.ptr q10141 0)])]
def M3 : List (Ps × Blk) := [(q7671, .map [] 0),
 (q7672, cl false [.sl0, .sl0, .map q7671, .int .i64 (.ofNat 0), .int .i64 (.ofNat 0)]),
 (q7673, cl false [.int .i64 (.ofNat 10), .int .i64 (.ofNat 0), .sl0, .ptr q7672 0]),
 (q9185, cl true [.int .i64 (.ofNat 1), .int .i64 (.ofNat 0), .int .i64 (.ofNat 2), .str [], .int .i64 (.ofNat 0), .int .u64 (.ofNat 0), .int .i64 (.ofNat 2), .int .i64 (.ofNat 4), .int .i64 (.ofNat 0), .str [99], .int .i64 (.ofNat 0), .int .u64 (.ofNat 0), .int .i64 (.ofNat 3), .int .i64 (.ofNat 10), .int .i64 (.ofNat 2), .str [102], .int .i64 (.ofNat 0), .int .u64 (.ofNat 0), .int .i64 (.ofNat 4), .int .i64 (.ofNat 12), .int .i64 (.ofNat 0), .str [110], .int .i64 (.ofNat 0), .int .u64 (.ofNat 0), .int .i64 (.ofNat 5), .int .i64 (.ofNat 15), .int .i64 (.ofNat 3), .str [], .int .i64 (.ofNat 0), .int .u64 (.ofNat 0), .int .i64 (.ofNat 7), .int .i64 (.ofNat 17), .int .i64 (.ofNat 1), .str [99], .int .i64 (.ofNat 0), .int .u64 (.ofNat 0), .int .i64 (.ofNat 26), .int .i64 (.ofNat 21), .int .i64 (.ofNat 0), .str [], .int .i64 (.ofNat 0), .int .u64 (.ofNat 0), .int .i64 (.ofNat 11), .int .i64 (.ofNat 24), .int .i64 (.ofNat 3), .str [105], .int .i64 (.ofNat 0), .int .u64 (.ofNat 0), .int .i64 (.ofNat 26), .int .i64 (.ofNat 33), .int .i64 (.ofNat 0), .str [], .int .i64 (.ofNat 0), .int .u64 (.ofNat 0), .int .i64 (.ofNat 25), .int .i64 (.ofNat 36), .int .i64 (.ofNat 0), .str [110], .int .i64 (.ofNat 0), .int .u64 (.ofNat 0), .int .i64 (.ofNat 5), .int .i64 (.ofNat 38), .int .i64 (.ofNat 1), .str [], .int .i64 (.ofNat 0), .int .u64 (.ofNat 0), .int .i64 (.ofNat 7), .int .i64 (.ofNat 40), .int .i64 (.ofNat 1), .str [99], .int .i64 (.ofNat 0), .int .u64 (.ofNat 0), .int .i64 (.ofNat 21), .int .i64 (.ofNat 46), .int .i64 (.ofNat 2), .str [43], .int .i64 (.ofNat 0), .int .u64 (.ofNat 0), .int .i64 (.ofNat 25), .int .i64 (.ofNat 44), .int .i64 (.ofNat 0), .str [99], .int .i64 (.ofNat 0), .int .u64 (.ofNat 0), .int .i64 (.ofNat 25), .int .i64 (.ofNat 48), .int .i64 (.ofNat 0), .str [105], .int .i64 (.ofNat 0), .int .u64 (.ofNat 0), .int .i64 (.ofNat 15), .int .i64 (.ofNat 53), .int .i64 (.ofNat 1), .str [], .int .i64 (.ofNat 0), .int .u64 (.ofNat 0), .int .i64 (.ofNat 25), .int .i64 (.ofNat 60), .int .i64 (.ofNat 0), .str [99], .int .i64 (.ofNat 0), .int .u64 (.ofNat 0)]),
 (q9980, .map [(.str [102], .int .i64 (.ofNat 2), 0)] 1),
 (q9981, .map [(.str [99], .int .i64 (.ofNat 0), 0)] 1),
 (q9982, .map [] 0),
 (q9983, cl false [.str [108, 101, 116, 32, 99, 59, 32, 102, 110, 32, 102, 40, 110, 41, 32, 123, 32, 99, 32, 61, 32, 48, 59, 32, 102, 111, 114, 32, 105, 32, 105, 110, 32, 48, 46, 46, 110, 32, 123, 32, 99, 32, 61, 32, 99, 32, 43, 32, 105, 59, 32, 125, 32, 114, 101, 116, 117, 114, 110, 32, 99, 59, 32, 125], .ptr q7673 0, .sl q9185 0 6 17 none, .sl q10134 0 1 17 none, .map q9980, .fn 18 [.ptr q10141 0] [], .map q9981, .sl q10136 0 1 1 none, .map q9982, .int .i64 (.ofNat 0), .bool true, .bool false, .bool false, .int .i64 (.ofNat 999), .int .i64 (.ofNat 0), .int .i64 (.ofNat 0), .sl0, .int .i64 (.ofNat 0), .int .i64 (.ofNat 0), .int .i64 (.ofNat 0), .int .i64 (.ofNat 0), .int .i64 (.ofNat 0), .int .i64 (.ofNat 0), .int .u64 (.ofNat 0), .str [], .int .i64 (.ofNat 0), .int .i64 (.ofNat 0), .sl0]),
 (q9992, cl true [.int .i64 (.ofNat 1), .int .i64 (.ofNat 2)]),
 (q10010, cl true [.int .i64 (.ofNat 3), .int .i64 (.ofNat 4)]),
 (q10030, cl true [.int .i64 (.ofNat 5), .int .i64 (.ofNat 7), .int .i64 (.ofNat 15)]),
 (q10039, cl true [.int .i64 (.ofNat 6)]),
 (q10059, cl true [.int .i64 (.ofNat 8), .int .i64 (.ofNat 9), .int .i64 (.ofNat 10)]),
 (q10082, cl true [.int .i64 (.ofNat 11)]),
 (q10091, cl true [.int .i64 (.ofNat 12)]),
 (q10102, cl true [.int .i64 (.ofNat 13), .int .i64 (.ofNat 14)]),
 (q10125, cl true [.int .i64 (.ofNat 16)]),
 (q10134, cl true [.sl q9992 0 1 2 none, .sl0, .sl q10010 0 1 2 none, .sl0, .sl q10030 0 1 3 none, .sl q10039 0 1 1 none, .sl0, .sl q10059 0 1 3 none, .sl0, .sl0, .sl q10082 0 1 1 none, .sl q10091 0 1 1 none, .sl q10102 0 1 2 none, .sl0, .sl0, .sl q10125 0 1 1 none, .sl0]),
 (q10136, cl true [.int .u64 (.ofNat 18444492273895866368)]),
 (q10139, .map [(.int .i64 (.ofNat 2), .ptr q10183 0, 0)] 1),
 (q10141, cl false [.ptr q9983 0, .map q10139, .sl q10181 0 1 1 none, .fn 30 [] [], .fn 33 [] [], .fn 36 [] [], .sl q10337 0 1 1 none]),
 (q10179, cl false [.int .i64 (.ofNat 46), .int .i64 (.ofNat 0), .int .i64 (.ofNat 0), .int .i64 (.ofNat 0), .int .i64 (.ofNat 0), .int .i64 (.ofNat 0), .int .i64 (.ofNat 0)]),
 (q10181, cl true [.ptr q10179 0]),
 (q10183, cl false [.int .i64 (.ofNat 2), .int .i64 (.ofNat 1), .int .i64 (.ofNat 6), .sl q10312 0 8 20 none]),
 (q10189, cl true [.int .i64 (.ofNat 0)]),
 (q10196, cl true [.int .i64 (.ofNat 0)]),
 (q10214, cl true [.int .i64 (.ofNat 0)]),
 (q10239, cl true [.int .i64 (.ofNat 0)]),
 (q10259, cl true [.int .i64 (.ofNat 0), .int .i64 (.ofNat 3)]),
 (q10293, cl true [.int .i64 (.ofNat 0)]),
 (q10312, cl true [.int .i64 (.ofNat 1), .int .i64 (.ofNat 0), .int .i64 (.ofNat 0), .int .i64 (.ofNat 0), .int .i64 (.ofNat 2), .int .i64 (.ofNat 1), .int .i64 (.negSucc 0), .sl q10189 0 1 1 none, .int .i64 (.ofNat 1), .int .i64 (.ofNat 0), .int .i64 (.ofNat 0), .int .i64 (.ofNat 0), .int .i64 (.ofNat 5), .int .i64 (.ofNat 1), .int .i64 (.negSucc 0), .sl q10196 0 1 1 none, .int .i64 (.ofNat 2), .int .i64 (.ofNat 1), .int .i64 (.ofNat 0), .int .i64 (.ofNat 0), .int .i64 (.ofNat 6), .int .i64 (.ofNat 1), .int .i64 (.negSucc 0), .sl0, .int .i64 (.ofNat 5), .int .i64 (.ofNat 1), .int .i64 (.ofNat 0), .int .i64 (.ofNat 0), .int .i64 (.ofNat 5), .int .i64 (.ofNat 1), .int .i64 (.negSucc 0), .sl0, .int .i64 (.ofNat 1), .int .i64 (.ofNat 0), .int .i64 (.ofNat 0), .int .i64 (.ofNat 0), .int .i64 (.ofNat 7), .int .i64 (.ofNat 1), .int .i64 (.negSucc 0), .sl q10214 0 1 1 none, .int .i64 (.ofNat 2), .int .i64 (.ofNat 1), .int .i64 (.ofNat 0), .int .i64 (.ofNat 0), .int .i64 (.ofNat 8), .int .i64 (.ofNat 1), .int .i64 (.negSucc 0), .sl0, .int .i64 (.ofNat 3), .int .i64 (.ofNat 2), .int .i64 (.ofNat 0), .int .i64 (.ofNat 0), .int .i64 (.ofNat 9), .int .i64 (.ofNat 2), .int .i64 (.negSucc 0), .sl0, .int .i64 (.ofNat 15), .int .i64 (.ofNat 1), .int .i64 (.ofNat 0), .int .i64 (.ofNat 0), .int .i64 (.ofNat 7), .int .i64 (.ofNat 1), .int .i64 (.negSucc 0), .sl0, .int .i64 (.ofNat 1), .int .i64 (.ofNat 0), .int .i64 (.ofNat 0), .int .i64 (.ofNat 0), .int .i64 (.ofNat 7), .int .i64 (.ofNat 3), .int .i64 (.negSucc 0), .sl q10239 0 1 1 none, .int .i64 (.ofNat 16), .int .i64 (.ofNat 1), .int .i64 (.ofNat 0), .int .i64 (.ofNat 16), .int .i64 (.ofNat 7), .int .i64 (.ofNat 3), .int .i64 (.negSucc 0), .sl0, .int .i64 (.ofNat 1), .int .i64 (.ofNat 0), .int .i64 (.ofNat 0), .int .i64 (.ofNat 0), .int .i64 (.ofNat 11), .int .i64 (.ofNat 4), .int .i64 (.negSucc 0), .sl q10259 0 1 2 none, .int .i64 (.ofNat 4), .int .i64 (.ofNat 4), .int .i64 (.ofNat 0), .int .i64 (.ofNat 0), .int .i64 (.ofNat 13), .int .i64 (.ofNat 4), .int .i64 (.negSucc 0), .sl0, .int .i64 (.ofNat 3), .int .i64 (.ofNat 5), .int .i64 (.ofNat 3), .int .i64 (.ofNat 0), .int .i64 (.ofNat 14), .int .i64 (.ofNat 5), .int .i64 (.negSucc 0), .sl0, .int .i64 (.ofNat 19), .int .i64 (.ofNat 4), .int .i64 (.ofNat 4), .int .i64 (.ofNat 5), .int .i64 (.ofNat 12), .int .i64 (.ofNat 4), .int .i64 (.ofNat 0), .sl0, .int .i64 (.ofNat 5), .int .i64 (.ofNat 4), .int .i64 (.ofNat 0), .int .i64 (.ofNat 0), .int .i64 (.ofNat 11), .int .i64 (.ofNat 4), .int .i64 (.negSucc 0), .sl0, .int .i64 (.ofNat 13), .int .i64 (.ofNat 0), .int .i64 (.ofNat 0), .int .i64 (.ofNat 8), .int .i64 (.ofNat 7), .int .i64 (.ofNat 4), .int .i64 (.negSucc 0), .sl0, .int .i64 (.ofNat 1), .int .i64 (.ofNat 0), .int .i64 (.ofNat 0), .int .i64 (.ofNat 0), .int .i64 (.ofNat 15), .int .i64 (.ofNat 1), .int .i64 (.negSucc 0), .sl q10293 0 1 1 none, .int .i64 (.ofNat 4), .int .i64 (.ofNat 1), .int .i64 (.ofNat 0), .int .i64 (.ofNat 0), .int .i64 (.ofNat 16), .int .i64 (.ofNat 1), .int .i64 (.negSucc 0), .sl0, .int .i64 (.ofNat 18), .int .i64 (.ofNat 1), .int .i64 (.ofNat 0), .int .i64 (.ofNat 0), .int .i64 (.ofNat 15), .int .i64 (.ofNat 1), .int .i64 (.negSucc 0), .sl0, .int .i64 (.ofNat 18), .int .i64 (.negSucc 0), .int .i64 (.ofNat 0), .int .i64 (.ofNat 0), .int .i64 (.ofNat 2), .int .i64 (.ofNat 1), .int .i64 (.negSucc 0), .sl0]),
 (q10334, cl false [.int .u64 (.ofNat 18444773748872577030), .int .u64 (.ofNat 0), .int .u64 (.ofNat 0), .int .u64 (.ofNat 0), .int .u64 (.ofNat 0), .int .u64 (.ofNat 0)]),
 (q10335, cl false [.ptr q10183 0, .int .i64 (.ofNat 0), .sl q10334 0 1 6 none, .int .i64 (.ofNat 1)]),
 (q10337, cl true [.ptr q10335 0])]
def N4 : Ps := (.i (.i (.o (.o (.o (.i (.i (.o (.o (.o (.o (.i (.o Ps.e)))))))))))))
-- machine 3: root q10141 array q10317 next 10338 blocks 34
def TA5 : List (Ps × Blk) := [(q1, cl false [.sl q12813 0 1 5 none]), (q12813, cl true [.iface 47 (.ptr q2472 0), .iface 51 (.ptr q4973 0), .iface 47 (.ptr q7640 0), .iface 51 (.ptr q10141 0), .iface 47 (.ptr q12808 0)])]
def M4 : List (Ps × Blk) := [(q10341, .map [] 0),
 (q10342, cl false [.sl0, .sl0, .map q10341, .int .i64 (.ofNat 0), .int .i64 (.ofNat 0)]),
 (q10343, cl false [.int .i64 (.ofNat 10), .int .i64 (.ofNat 0), .sl0, .ptr q10342 0]),
 (q11855, cl true [.int .i64 (.ofNat 1), .int .i64 (.ofNat 0), .int .i64 (.ofNat 2), .str [], .int .i64 (.ofNat 0), .int .u64 (.ofNat 0), .int .i64 (.ofNat 2), .int .i64 (.ofNat 4), .int .i64 (.ofNat 0), .str [99], .int .i64 (.ofNat 0), .int .u64 (.ofNat 0), .int .i64 (.ofNat 3), .int .i64 (.ofNat 10), .int .i64 (.ofNat 2), .str [102], .int .i64 (.ofNat 0), .int .u64 (.ofNat 0), .int .i64 (.ofNat 4), .int .i64 (.ofNat 12), .int .i64 (.ofNat 0), .str [110], .int .i64 (.ofNat 0), .int .u64 (.ofNat 0), .int .i64 (.ofNat 5), .int .i64 (.ofNat 15), .int .i64 (.ofNat 3), .str [], .int .i64 (.ofNat 0), .int .u64 (.ofNat 0), .int .i64 (.ofNat 7), .int .i64 (.ofNat 17), .int .i64 (.ofNat 1), .str [99], .int .i64 (.ofNat 0), .int .u64 (.ofNat 0), .int .i64 (.ofNat 26), .int .i64 (.ofNat 21), .int .i64 (.ofNat 0), .str [], .int .i64 (.ofNat 0), .int .u64 (.ofNat 0), .int .i64 (.ofNat 11), .int .i64 (.ofNat 24), .int .i64 (.ofNat 3), .str [105], .int .i64 (.ofNat 0), .int .u64 (.ofNat 0), .int .i64 (.ofNat 26), .int .i64 (.ofNat 33), .int .i64 (.ofNat 0), .str [], .int .i64 (.ofNat 0), .int .u64 (.ofNat 0), .int .i64 (.ofNat 25), .int .i64 (.ofNat 36), .int .i64 (.ofNat 0), .str [110], .int .i64 (.ofNat 0), .int .u64 (.ofNat 0), .int .i64 (.ofNat 5), .int .i64 (.ofNat 38), .int .i64 (.ofNat 1), .str [], .int .i64 (.ofNat 0), .int .u64 (.ofNat 0), .int .i64 (.ofNat 7), .int .i64 (.ofNat 40), .int .i64 (.ofNat 1), .str [99], .int .i64 (.ofNat 0), .int .u64 (.ofNat 0), .int .i64 (.ofNat 21), .int .i64 (.ofNat 46), .int .i64 (.ofNat 2), .str [43], .int .i64 (.ofNat 0), .int .u64 (.ofNat 0), .int .i64 (.ofNat 25), .int .i64 (.ofNat 44), .int .i64 (.ofNat 0), .str [99], .int .i64 (.ofNat 0), .int .u64 (.ofNat 0), .int .i64 (.ofNat 25), .int .i64 (.ofNat 48), .int .i64 (.ofNat 0), .str [105], .int .i64 (.ofNat 0), .int .u64 (.ofNat 0), .int .i64 (.ofNat 15), .int .i64 (.ofNat 53), .int .i64 (.ofNat 1), .str [], .int .i64 (.ofNat 0), .int .u64 (.ofNat 0), .int .i64 (.ofNat 25), .int .i64 (.ofNat 60), .int .i64 (.ofNat 0), .str [99], .int .i64 (.ofNat 0), .int .u64 (.ofNat 0)]),
 (q12650, .map [(.str [102], .int .i64 (.ofNat 2), 0)] 1),
 (q12651, .map [(.str [99], .int .i64 (.ofNat 0), 0)] 1),
 (q12652, .map [] 0),
 (q12653, cl false [.str [108, 101, 116, 32, 99, 59, 32, 102, 110, 32, 102, 40, 110, 41, 32, 123, 32, 99, 32, 61, 32, 48, 59, 32, 102, 111, 114, 32, 105, 32, 105, 110, 32, 48, 46, 46, 110, 32, 123, 32, 99, 32, 61, 32, 99, 32, 43, 32, 105, 59, 32, 125, 32, 114, 101, 116, 117, 114, 110, 32, 99, 59, 32, 125], .ptr q10343 0, .sl q11855 0 6 17 none, .sl q12804 0 1 17 none, .map q12650, .fn 16 [.ptr q12808 0] [], .map q12651, .sl q12806 0 1 1 none, .map q12652, .int .i64 (.ofNat 0), .bool true, .bool false, .bool false, .int .i64 (.ofNat 999), .int .i64 (.ofNat 0), .int .i64 (.ofNat 0), .sl0, .int .i64 (.ofNat 0), .int .i64 (.ofNat 0), .int .i64 (.ofNat 0), .int .i64 (.ofNat 0), .int .i64 (.ofNat 0), .int .i64 (.ofNat 0), .int .u64 (.ofNat 0), .str [], .int .i64 (.ofNat 0), .int .i64 (.ofNat 0), .sl0]),
 (q12662, cl true [.int .i64 (.ofNat 1), .int .i64 (.ofNat 2)]),
 (q12680, cl true [.int .i64 (.ofNat 3), .int .i64 (.ofNat 4)]),
 (q12700, cl true [.int .i64 (.ofNat 5), .int .i64 (.ofNat 7), .int .i64 (.ofNat 15)]),
 (q12709, cl true [.int .i64 (.ofNat 6)]),
 (q12729, cl true [.int .i64 (.ofNat 8), .int .i64 (.ofNat 9), .int .i64 (.ofNat 10)]),
 (q12752, cl true [.int .i64 (.ofNat 11)]),
 (q12761, cl true [.int .i64 (.ofNat 12)]),
 (q12772, cl true [.int .i64 (.ofNat 13), .int .i64 (.ofNat 14)]),
 (q12795, cl true [.int .i64 (.ofNat 16)]),
 (q12804, cl true [.sl q12662 0 1 2 none, .sl0, .sl q12680 0 1 2 none, .sl0, .sl q12700 0 1 3 none, .sl q12709 0 1 1 none, .sl0, .sl q12729 0 1 3 none, .sl0, .sl0, .sl q12752 0 1 1 none, .sl q12761 0 1 1 none, .sl q12772 0 1 2 none, .sl0, .sl0, .sl q12795 0 1 1 none, .sl0]),
 (q12806, cl true [.int .u64 (.ofNat 18444492273895866368)]),
 (q12808, cl false [.ptr q12653 0, .sl q12835 0 1 1 none]),
 (q12830, cl false [.int .i64 (.ofNat 0), .int .i64 (.ofNat 2), .int .i64 (.ofNat 0), .int .i64 (.ofNat 0), .int .i64 (.ofNat 0), .int .i64 (.ofNat 0)]),
 (q12831, cl false [.sl q12833 0 2 1 none, .sl0, .sl q12830 0 6 1 none]),
 (q12833, cl true [.str [110], .int .u64 (.ofNat 18444773748872577031)]),
 (q12835, cl true [.ptr q12831 0])]
def N5 : Ps := (.i (.o (.i (.o (.o (.i (.o (.o (.o (.i (.o (.o (.i Ps.e)))))))))))))
-- machine 4: root q12808 array q12813 next 12836 blocks 24
def TA6 : List (Ps × Blk) := [(q1, cl false [.sl q15485 0 1 6 none]), (q15485, cl true [.iface 47 (.ptr q2472 0), .iface 51 (.ptr q4973 0), .iface 47 (.ptr q7640 0), .iface 51 (.ptr q10141 0), .iface 47 (.ptr q12808 0), .iface 51 (.ptr q15309 0)])]
def M5 : List (Ps × Blk) := [(q12839, .map [] 0),
 (q12840, cl false [.sl0, .sl0, .map q12839, .int .i64 (.ofNat 0), .int .i64 (.ofNat 0)]),
 (q12841, cl false [.int .i64 (.ofNat 10), .int .i64 (.ofNat 0), .sl0, .ptr q12840 0]),
 (q14353, cl true [.int .i64 (.ofNat 1), .int .i64 (.ofNat 0), .int .i64 (.ofNat 2), .str [], .int .i64 (.ofNat 0), .int .u64 (.ofNat 0), .int .i64 (.ofNat 2), .int .i64 (.ofNat 4), .int .i64 (.ofNat 0), .str [99], .int .i64 (.ofNat 0), .int .u64 (.ofNat 0), .int .i64 (.ofNat 3), .int .i64 (.ofNat 10), .int .i64 (.ofNat 2), .str [102], .int .i64 (.ofNat 0), .int .u64 (.ofNat 0), .int .i64 (.ofNat 4), .int .i64 (.ofNat 12), .int .i64 (.ofNat 0), .str [110], .int .i64 (.ofNat 0), .int .u64 (.ofNat 0), .int .i64 (.ofNat 5), .int .i64 (.ofNat 15), .int .i64 (.ofNat 3), .str [], .int .i64 (.ofNat 0), .int .u64 (.ofNat 0), .int .i64 (.ofNat 7), .int .i64 (.ofNat 17), .int .i64 (.ofNat 1), .str [99], .int .i64 (.ofNat 0), .int .u64 (.ofNat 0), .int .i64 (.ofNat 26), .int .i64 (.ofNat 21), .int .i64 (.ofNat 0), .str [], .int .i64 (.ofNat 0), .int .u64 (.ofNat 0), .int .i64 (.ofNat 11), .int .i64 (.ofNat 24), .int .i64 (.ofNat 3), .str [105], .int .i64 (.ofNat 0), .int .u64 (.ofNat 0), .int .i64 (.ofNat 26), .int .i64 (.ofNat 33), .int .i64 (.ofNat 0), .str [], .int .i64 (.ofNat 0), .int .u64 (.ofNat 0), .int .i64 (.ofNat 25), .int .i64 (.ofNat 36), .int .i64 (.ofNat 0), .str [110], .int .i64 (.ofNat 0), .int .u64 (.ofNat 0), .int .i64 (.ofNat 5), .int .i64 (.ofNat 38), .int .i64 (.ofNat 1), .str [], .int .i64 (.ofNat 0), .int .u64 (.ofNat 0), .int .i64 (.ofNat 7), .int .i64 (.ofNat 40), .int .i64 (.ofNat 1), .str [99], .int .i64 (.ofNat 0), .int .u64 (.ofNat 0), .int .i64 (.ofNat 21), .int .i64 (.ofNat 46), .int .i64 (.ofNat 2), .str [43], .int .i64 (.ofNat 0), .int .u64 (.ofNat 0), .int .i64 (.ofNat 25), .int .i64 (.ofNat 44), .int .i64 (.ofNat 0), .str [99], .int .i64 (.ofNat 0), .int .u64 (.ofNat 0), .int .i64 (.ofNat 25), .int .i64 (.ofNat 48), .int .i64 (.ofNat 0), .str [105], .int .i64 (.ofNat 0), .int .u64 (.ofNat 0), .int .i64 (.ofNat 15), .int .i64 (.ofNat 53), .int .i64 (.ofNat 1), .str [], .int .i64 (.ofNat 0), .int .u64 (.ofNat 0), .int .i64 (.ofNat 25), .int .i64 (.ofNat 60), .int .i64 (.ofNat 0), .str [99], .int .i64 (.ofNat 0), .int .u64 (.ofNat 0)]),
 (q15148, .map [(.str [102], .int .i64 (.ofNat 2), 0)] 1),
 (q15149, .map [(.str [99], .int .i64 (.ofNat 0), 0)] 1),
 (q15150, .map [] 0),
 (q15151, cl false [.str [108, 101, 116, 32, 99, 59, 32, 102, 110, 32, 102, 40, 110, 41, 32, 123, 32, 99, 32, 61, 32, 48, 59, 32, 102, 111, 114, 32, 105, 32, 105, 110, 32, 48, 46, 46, 110, 32, 123, 32, 99, 32, 61, 32, 99, 32, 43, 32, 105, 59, 32, 125, 32, 114, 101, 116, 117, 114, 110, 32, 99, 59, 32, 125], .ptr q12841 0, .sl q14353 0 6 17 none, .sl q15302 0 1 17 none, .map q15148, .fn 18 [.ptr q15309 0] [], .map q15149, .sl q15304 0 1 1 none, .map q15150, .int .i64 (.ofNat 0), .bool true, .bool false, .bool false, .int .i64 (.ofNat 999), .int .i64 (.ofNat 0), .int .i64 (.ofNat 0), .sl0, .int .i64 (.ofNat 0), .int .i64 (.ofNat 0), .int .i64 (.ofNat 0), .int .i64 (.ofNat 0), .int .i64 (.ofNat 0), .int .i64 (.ofNat 0), .int .u64 (.ofNat 0), .str [], .int .i64 (.ofNat 0), .int .i64 (.ofNat 0), .sl0]),
 (q15160, cl true [.int .i64 (.ofNat 1), .int .i64 (.ofNat 2)]),
 (q15178, cl true [.int .i64 (.ofNat 3), .int .i64 (.ofNat 4)]),
 (q15198, cl true [.int .i64 (.ofNat 5), .int .i64 (.ofNat 7), .int .i64 (.ofNat 15)]),
 (q15207, cl true [.int .i64 (.ofNat 6)]),
 (q15227, cl true [.int .i64 (.ofNat 8), .int .i64 (.ofNat 9), .int .i64 (.ofNat 10)]),
 (q15250, cl true [.int .i64 (.ofNat 11)]),
 (q15259, cl true [.int .i64 (.ofNat 12)]),
 (q15270, cl true [.int .i64 (.ofNat 13), .int .i64 (.ofNat 14)]),
 (q15293, cl true [.int .i64 (.ofNat 16)]),
 (q15302, cl true [.sl q15160 0 1 2 none, .sl0, .sl q15178 0 1 2 none, .sl0, .sl q15198 0 1 3 none, .sl q15207 0 1 1 none, .sl0, .sl q15227 0 1 3 none, .sl0, .sl0, .sl q15250 0 1 1 none, .sl q15259 0 1 1 none, .sl q15270 0 1 2 none, .sl0, .sl0, .sl q15293 0 1 1 none, .sl0]),
 (q15304, cl true [.int .u64 (.ofNat 18444492273895866368)]),
 (q15307, .map [(.int .i64 (.ofNat 2), .ptr q15351 0, 0)] 1),
 (q15309, cl false [.ptr q15151 0, .map q15307, .sl q15349 0 1 1 none, .fn 30 [] [], .fn 33 [] [], .fn 36 [] [], .sl q15505 0 1 1 none]),
 (q15347, cl false [.int .i64 (.ofNat 46), .int .i64 (.ofNat 0), .int .i64 (.ofNat 0), .int .i64 (.ofNat 0), .int .i64 (.ofNat 0), .int .i64 (.ofNat 0), .int .i64 (.ofNat 0)]),
 (q15349, cl true [.ptr q15347 0]),
 (q15351, cl false [.int .i64 (.ofNat 2), .int .i64 (.ofNat 1), .int .i64 (.ofNat 6), .sl q15480 0 8 20 none]),
 (q15357, cl true [.int .i64 (.ofNat 0)]),
 (q15364, cl true [.int .i64 (.ofNat 0)]),
 (q15382, cl true [.int .i64 (.ofNat 0)]),
 (q15407, cl true [.int .i64 (.ofNat 0)]),
 (q15427, cl true [.int .i64 (.ofNat 0), .int .i64 (.ofNat 3)]),
 (q15461, cl true [.int .i64 (.ofNat 0)]),
 (q15480, cl true [.int .i64 (.ofNat 1), .int .i64 (.ofNat 0), .int .i64 (.ofNat 0), .int .i64 (.ofNat 0), .int .i64 (.ofNat 2), .int .i64 (.ofNat 1), .int .i64 (.negSucc 0), .sl q15357 0 1 1 none, .int .i64 (.ofNat 1), .int .i64 (.ofNat 0), .int .i64 (.ofNat 0), .int .i64 (.ofNat 0), .int .i64 (.ofNat 5), .int .i64 (.ofNat 1), .int .i64 (.negSucc 0), .sl q15364 0 1 1 none, .int .i64 (.ofNat 2), .int .i64 (.ofNat 1), .int .i64 (.ofNat 0), .int .i64 (.ofNat 0), .int .i64 (.ofNat 6), .int .i64 (.ofNat 1), .int .i64 (.negSucc 0), .sl0, .int .i64 (.ofNat 5), .int .i64 (.ofNat 1), .int .i64 (.ofNat 0), .int .i64 (.ofNat 0), .int .i64 (.ofNat 5), .int .i64 (.ofNat 1), .int .i64 (.negSucc 0), .sl0, .int .i64 (.ofNat 1), .int .i64 (.ofNat 0), .int .i64 (.ofNat 0), .int .i64 (.ofNat 0), .int .i64 (.ofNat 7), .int .i64 (.ofNat 1), .int .i64 (.negSucc 0), .sl q15382 0 1 1 none, .int .i64 (.ofNat 2), .int .i64 (.ofNat 1), .int .i64 (.ofNat 0), .int .i64 (.ofNat 0), .int .i64 (.ofNat 8), .int .i64 (.ofNat 1), .int .i64 (.negSucc 0), .sl0, .int .i64 (.ofNat 3), .int .i64 (.ofNat 2), .int .i64 (.ofNat 0), .int .i64 (.ofNat 0), .int .i64 (.ofNat 9), .int .i64 (.ofNat 2), .int .i64 (.negSucc 0), .sl0, .int .i64 (.ofNat 15), .int .i64 (.ofNat 1), .int .i64 (.ofNat 0), .int .i64 (.ofNat 0), .int .i64 (.ofNat 7), .int .i64 (.ofNat 1), .int .i64 (.negSucc 0), .sl0, .int .i64 (.ofNat 1), .int .i64 (.ofNat 0), .int .i64 (.ofNat 0), .int .i64 (.ofNat 0), .int .i64 (.ofNat 7), .int .i64 (.ofNat 3), .int .i64 (.negSucc 0), .sl q15407 0 1 1 none, .int .i64 (.ofNat 16), .int .i64 (.ofNat 1), .int .i64 (.ofNat 0), .int .i64 (.ofNat 16), .int .i64 (.ofNat 7), .int .i64 (.ofNat 3), .int .i64 (.negSucc 0), .sl0, .int .i64 (.ofNat 1), .int .i64 (.ofNat 0), .int .i64 (.ofNat 0), .int .i64 (.ofNat 0), .int .i64 (.ofNat 11), .int .i64 (.ofNat 4), .int .i64 (.negSucc 0), .sl q15427 0 1 2 none, .int .i64 (.ofNat 4), .int .i64 (.ofNat 4), .int .i64 (.ofNat 0), .int .i64 (.ofNat 0), .int .i64 (.ofNat 13), .int .i64 (.ofNat 4), .int .i64 (.negSucc 0), .sl0, .int .i64 (.ofNat 3), .int .i64 (.ofNat 5), .int .i64 (.ofNat 3), .int .i64 (.ofNat 0), .int .i64 (.ofNat 14), .int .i64 (.ofNat 5), .int .i64 (.negSucc 0), .sl0, .int .i64 (.ofNat 19), .int .i64 (.ofNat 4), .int .i64 (.ofNat 4), .int .i64 (.ofNat 5), .int .i64 (.ofNat 12), .int .i64 (.ofNat 4), .int .i64 (.ofNat 0), .sl0, .int .i64 (.ofNat 5), .int .i64 (.ofNat 4), .int .i64 (.ofNat 0), .int .i64 (.ofNat 0), .int .i64 (.ofNat 11), .int .i64 (.ofNat 4), .int .i64 (.negSucc 0), .sl0, .int .i64 (.ofNat 13), .int .i64 (.ofNat 0), .int .i64 (.ofNat 0), .int .i64 (.ofNat 8), .int .i64 (.ofNat 7), .int .i64 (.ofNat 4), .int .i64 (.negSucc 0), .sl0, .int .i64 (.ofNat 1), .int .i64 (.ofNat 0), .int .i64 (.ofNat 0), .int .i64 (.ofNat 0), .int .i64 (.ofNat 15), .int .i64 (.ofNat 1), .int .i64 (.negSucc 0), .sl q15461 0 1 1 none, .int .i64 (.ofNat 4), .int .i64 (.ofNat 1), .int .i64 (.ofNat 0), .int .i64 (.ofNat 0), .int .i64 (.ofNat 16), .int .i64 (.ofNat 1), .int .i64 (.negSucc 0), .sl0, .int .i64 (.ofNat 18), .int .i64 (.ofNat 1), .int .i64 (.ofNat 0), .int .i64 (.ofNat 0), .int .i64 (.ofNat 15), .int .i64 (.ofNat 1), .int .i64 (.negSucc 0), .sl0, .int .i64 (.ofNat 18), .int .i64 (.negSucc 0), .int .i64 (.ofNat 0), .int .i64 (.ofNat 0), .int .i64 (.ofNat 2), .int .i64 (.ofNat 1), .int .i64 (.negSucc 0), .sl0]),
 (q15502, cl false [.int .u64 (.ofNat 18444773748872577032), .int .u64 (.ofNat 0), .int .u64 (.ofNat 0), .int .u64 (.ofNat 0), .int .u64 (.ofNat 0), .int .u64 (.ofNat 0)]),
 (q15503, cl false [.ptr q15351 0, .int .i64 (.ofNat 0), .sl q15502 0 1 6 none, .int .i64 (.ofNat 1)]),
 (q15505, cl true [.ptr q15503 0])]
def N6 : Ps := (.i (.i (.o (.o (.i (.o (.o (.i (.o (.o (.i (.i (.i Ps.e)))))))))))))
-- machine 5: root q15309 array q15485 next 15506 blocks 34
-- steps of 0: 11, next 20368 then 20388
def D0 : List (Ps × Blk) := [(q5, .map [] 0),
 (q6, cl false [.sl0, .sl0, .map q5, .int .i64 (.ofNat 0), .int .i64 (.ofNat 0)]),
 (q7, cl false [.int .i64 (.ofNat 10), .int .i64 (.ofNat 0), .sl0, .ptr q6 0]),
 (q1519, cl true [.int .i64 (.ofNat 1), .int .i64 (.ofNat 0), .int .i64 (.ofNat 2), .str [], .int .i64 (.ofNat 0), .int .u64 (.ofNat 0), .int .i64 (.ofNat 2), .int .i64 (.ofNat 4), .int .i64 (.ofNat 0), .str [99], .int .i64 (.ofNat 0), .int .u64 (.ofNat 0), .int .i64 (.ofNat 3), .int .i64 (.ofNat 10), .int .i64 (.ofNat 2), .str [102], .int .i64 (.ofNat 0), .int .u64 (.ofNat 0), .int .i64 (.ofNat 4), .int .i64 (.ofNat 12), .int .i64 (.ofNat 0), .str [110], .int .i64 (.ofNat 0), .int .u64 (.ofNat 0), .int .i64 (.ofNat 5), .int .i64 (.ofNat 15), .int .i64 (.ofNat 3), .str [], .int .i64 (.ofNat 0), .int .u64 (.ofNat 0), .int .i64 (.ofNat 7), .int .i64 (.ofNat 17), .int .i64 (.ofNat 1), .str [99], .int .i64 (.ofNat 0), .int .u64 (.ofNat 0), .int .i64 (.ofNat 26), .int .i64 (.ofNat 21), .int .i64 (.ofNat 0), .str [], .int .i64 (.ofNat 0), .int .u64 (.ofNat 0), .int .i64 (.ofNat 11), .int .i64 (.ofNat 24), .int .i64 (.ofNat 3), .str [105], .int .i64 (.ofNat 0), .int .u64 (.ofNat 0), .int .i64 (.ofNat 26), .int .i64 (.ofNat 33), .int .i64 (.ofNat 0), .str [], .int .i64 (.ofNat 0), .int .u64 (.ofNat 0), .int .i64 (.ofNat 25), .int .i64 (.ofNat 36), .int .i64 (.ofNat 0), .str [110], .int .i64 (.ofNat 0), .int .u64 (.ofNat 0), .int .i64 (.ofNat 5), .int .i64 (.ofNat 38), .int .i64 (.ofNat 1), .str [], .int .i64 (.ofNat 0), .int .u64 (.ofNat 0), .int .i64 (.ofNat 7), .int .i64 (.ofNat 40), .int .i64 (.ofNat 1), .str [99], .int .i64 (.ofNat 0), .int .u64 (.ofNat 0), .int .i64 (.ofNat 21), .int .i64 (.ofNat 46), .int .i64 (.ofNat 2), .str [43], .int .i64 (.ofNat 0), .int .u64 (.ofNat 0), .int .i64 (.ofNat 25), .int .i64 (.ofNat 44), .int .i64 (.ofNat 0), .str [99], .int .i64 (.ofNat 0), .int .u64 (.ofNat 0), .int .i64 (.ofNat 25), .int .i64 (.ofNat 48), .int .i64 (.ofNat 0), .str [105], .int .i64 (.ofNat 0), .int .u64 (.ofNat 0), .int .i64 (.ofNat 15), .int .i64 (.ofNat 53), .int .i64 (.ofNat 1), .str [], .int .i64 (.ofNat 0), .int .u64 (.ofNat 0), .int .i64 (.ofNat 25), .int .i64 (.ofNat 60), .int .i64 (.ofNat 0), .str [99], .int .i64 (.ofNat 0), .int .u64 (.ofNat 0)]),
 (q2314, .map [(.str [102], .int .i64 (.ofNat 2), 0)] 1),
 (q2315, .map [(.str [99], .int .i64 (.ofNat 0), 0)] 1),
 (q2316, .map [] 0),
 (q2317, cl false [.str [108, 101, 116, 32, 99, 59, 32, 102, 110, 32, 102, 40, 110, 41, 32, 123, 32, 99, 32, 61, 32, 48, 59, 32, 102, 111, 114, 32, 105, 32, 105, 110, 32, 48, 46, 46, 110, 32, 123, 32, 99, 32, 61, 32, 99, 32, 43, 32, 105, 59, 32, 125, 32, 114, 101, 116, 117, 114, 110, 32, 99, 59, 32, 125], .ptr q7 0, .sl q1519 0 6 17 none, .sl q2468 0 1 17 none, .map q2314, .fn 16 [.ptr q2472 0] [], .map q2315, .sl q2470 0 1 1 none, .map q2316, .int .i64 (.ofNat 0), .bool false, .bool true, .bool true, .int .i64 (.ofNat 999), .int .i64 (.ofNat 11), .int .i64 (.ofNat 53), .sl0, .int .i64 (.ofNat 0), .int .i64 (.ofNat 0), .int .i64 (.ofNat 0), .int .i64 (.ofNat 11), .int .i64 (.ofNat 2), .int .i64 (.ofNat 3), .int .u64 (.ofNat 0), .str [], .int .i64 (.ofNat 0), .int .i64 (.ofNat 0), .sl0]),
 (q2326, cl true [.int .i64 (.ofNat 1), .int .i64 (.ofNat 2)]),
 (q2344, cl true [.int .i64 (.ofNat 3), .int .i64 (.ofNat 4)]),
 (q2364, cl true [.int .i64 (.ofNat 5), .int .i64 (.ofNat 7), .int .i64 (.ofNat 15)]),
 (q2373, cl true [.int .i64 (.ofNat 6)]),
 (q2393, cl true [.int .i64 (.ofNat 8), .int .i64 (.ofNat 9), .int .i64 (.ofNat 10)]),
 (q2416, cl true [.int .i64 (.ofNat 11)]),
 (q2425, cl true [.int .i64 (.ofNat 12)]),
 (q2436, cl true [.int .i64 (.ofNat 13), .int .i64 (.ofNat 14)]),
 (q2459, cl true [.int .i64 (.ofNat 16)]),
 (q2468, cl true [.sl q2326 0 1 2 none, .sl0, .sl q2344 0 1 2 none, .sl0, .sl q2364 0 1 3 none, .sl q2373 0 1 1 none, .sl0, .sl q2393 0 1 3 none, .sl0, .sl0, .sl q2416 0 1 1 none, .sl q2425 0 1 1 none, .sl q2436 0 1 2 none, .sl0, .sl0, .sl q2459 0 1 1 none, .sl0]),
 (q2470, cl true [.int .u64 (.ofNat 18444773748872577027)]),
 (q2472, cl false [.ptr q2317 0, .sl q2499 0 1 0 none]),
 (q2495, cl false [.sl q20087 0 2 1 none, .sl q20069 0 1 0 none, .sl q20108 0 6 1 none]),
 (q2499, cl true [.ptr q2495 0]),
 (q20069, cl true [.int .u64 (.ofNat 18444773748872577027), .int .u64 (.ofNat 18444773748872577026)]),
 (q20087, cl true [.str [110], .int .u64 (.ofNat 18444773748872577027), .str [105], .int .u64 (.ofNat 18444773748872577026)]),
 (q20108, cl true [.int .i64 (.ofNat 1), .int .i64 (.ofNat 4), .int .i64 (.ofNat 3), .int .i64 (.ofNat 0), .int .i64 (.ofNat 0), .int .i64 (.ofNat 1), .int .i64 (.ofNat 5), .int .i64 (.ofNat 15), .int .i64 (.ofNat 0), .int .i64 (.ofNat 0), .int .i64 (.ofNat 0), .int .i64 (.ofNat 0), .int .i64 (.ofNat 4), .int .i64 (.ofNat 16), .int .i64 (.ofNat 0), .int .i64 (.ofNat 0), .int .i64 (.ofNat 0), .int .i64 (.ofNat 0), .int .i64 (.ofNat 5), .int .i64 (.ofNat 11), .int .i64 (.ofNat 0), .int .i64 (.ofNat 0), .int .i64 (.ofNat 0), .int .i64 (.ofNat 0), .int .i64 (.ofNat 5), .int .i64 (.ofNat 12), .int .i64 (.ofNat 0), .int .i64 (.ofNat 0), .int .i64 (.ofNat 0), .int .i64 (.ofNat 0), .int .i64 (.ofNat 4), .int .i64 (.ofNat 14), .int .i64 (.ofNat 0), .int .i64 (.ofNat 0), .int .i64 (.ofNat 0), .int .i64 (.ofNat 0), .int .i64 (.ofNat 4), .int .i64 (.ofNat 13), .int .i64 (.ofNat 0), .int .i64 (.ofNat 0), .int .i64 (.ofNat 0), .int .i64 (.ofNat 0)])]
def NB0 : Ps := (.i (.o (.o (.o (.o (.i (.o (.o (.o (.i (.i (.i (.o (.o Ps.e))))))))))))))
def NE0 : Ps := (.i (.o (.i (.o (.o (.i (.o (.i (.i (.i (.i (.i (.o (.o Ps.e))))))))))))))
-- machine 0: root q2472 host q2317 blocks 25
-- steps of 1: 13, next 30163 then 30169
def D1 : List (Ps × Blk) := [(q2503, .map [] 0),
 (q2504, cl false [.sl0, .sl0, .map q2503, .int .i64 (.ofNat 0), .int .i64 (.ofNat 0)]),
 (q2505, cl false [.int .i64 (.ofNat 10), .int .i64 (.ofNat 0), .sl0, .ptr q2504 0]),
 (q4017, cl true [.int .i64 (.ofNat 1), .int .i64 (.ofNat 0), .int .i64 (.ofNat 2), .str [], .int .i64 (.ofNat 0), .int .u64 (.ofNat 0), .int .i64 (.ofNat 2), .int .i64 (.ofNat 4), .int .i64 (.ofNat 0), .str [99], .int .i64 (.ofNat 0), .int .u64 (.ofNat 0), .int .i64 (.ofNat 3), .int .i64 (.ofNat 10), .int .i64 (.ofNat 2), .str [102], .int .i64 (.ofNat 0), .int .u64 (.ofNat 0), .int .i64 (.ofNat 4), .int .i64 (.ofNat 12), .int .i64 (.ofNat 0), .str [110], .int .i64 (.ofNat 0), .int .u64 (.ofNat 0), .int .i64 (.ofNat 5), .int .i64 (.ofNat 15), .int .i64 (.ofNat 3), .str [], .int .i64 (.ofNat 0), .int .u64 (.ofNat 0), .int .i64 (.ofNat 7), .int .i64 (.ofNat 17), .int .i64 (.ofNat 1), .str [99], .int .i64 (.ofNat 0), .int .u64 (.ofNat 0), .int .i64 (.ofNat 26), .int .i64 (.ofNat 21), .int .i64 (.ofNat 0), .str [], .int .i64 (.ofNat 0), .int .u64 (.ofNat 0), .int .i64 (.ofNat 11), .int .i64 (.ofNat 24), .int .i64 (.ofNat 3), .str [105], .int .i64 (.ofNat 0), .int .u64 (.ofNat 0), .int .i64 (.ofNat 26), .int .i64 (.ofNat 33), .int .i64 (.ofNat 0), .str [], .int .i64 (.ofNat 0), .int .u64 (.ofNat 0), .int .i64 (.ofNat 25), .int .i64 (.ofNat 36), .int .i64 (.ofNat 0), .str [110], .int .i64 (.ofNat 0), .int .u64 (.ofNat 0), .int .i64 (.ofNat 5), .int .i64 (.ofNat 38), .int .i64 (.ofNat 1), .str [], .int .i64 (.ofNat 0), .int .u64 (.ofNat 0), .int .i64 (.ofNat 7), .int .i64 (.ofNat 40), .int .i64 (.ofNat 1), .str [99], .int .i64 (.ofNat 0), .int .u64 (.ofNat 0), .int .i64 (.ofNat 21), .int .i64 (.ofNat 46), .int .i64 (.ofNat 2), .str [43], .int .i64 (.ofNat 0), .int .u64 (.ofNat 0), .int .i64 (.ofNat 25), .int .i64 (.ofNat 44), .int .i64 (.ofNat 0), .str [99], .int .i64 (.ofNat 0), .int .u64 (.ofNat 0), .int .i64 (.ofNat 25), .int .i64 (.ofNat 48), .int .i64 (.ofNat 0), .str [105], .int .i64 (.ofNat 0), .int .u64 (.ofNat 0), .int .i64 (.ofNat 15), .int .i64 (.ofNat 53), .int .i64 (.ofNat 1), .str [], .int .i64 (.ofNat 0), .int .u64 (.ofNat 0), .int .i64 (.ofNat 25), .int .i64 (.ofNat 60), .int .i64 (.ofNat 0), .str [99], .int .i64 (.ofNat 0), .int .u64 (.ofNat 0)]),
 (q4812, .map [(.str [102], .int .i64 (.ofNat 2), 0)] 1),
 (q4813, .map [(.str [99], .int .i64 (.ofNat 0), 0)] 1),
 (q4814, .map [] 0),
 (q4815, cl false [.str [108, 101, 116, 32, 99, 59, 32, 102, 110, 32, 102, 40, 110, 41, 32, 123, 32, 99, 32, 61, 32, 48, 59, 32, 102, 111, 114, 32, 105, 32, 105, 110, 32, 48, 46, 46, 110, 32, 123, 32, 99, 32, 61, 32, 99, 32, 43, 32, 105, 59, 32, 125, 32, 114, 101, 116, 117, 114, 110, 32, 99, 59, 32, 125], .ptr q2505 0, .sl q4017 0 6 17 none, .sl q4966 0 1 17 none, .map q4812, .fn 18 [.ptr q4973 0] [], .map q4813, .sl q4968 0 1 1 none, .map q4814, .int .i64 (.ofNat 0), .bool false, .bool true, .bool true, .int .i64 (.ofNat 999), .int .i64 (.ofNat 13), .int .i64 (.ofNat 53), .sl0, .int .i64 (.ofNat 0), .int .i64 (.ofNat 0), .int .i64 (.ofNat 0), .int .i64 (.ofNat 13), .int .i64 (.ofNat 2), .int .i64 (.ofNat 6), .int .u64 (.ofNat 0), .str [], .int .i64 (.ofNat 0), .int .i64 (.ofNat 0), .sl0]),
 (q4824, cl true [.int .i64 (.ofNat 1), .int .i64 (.ofNat 2)]),
 (q4842, cl true [.int .i64 (.ofNat 3), .int .i64 (.ofNat 4)]),
 (q4862, cl true [.int .i64 (.ofNat 5), .int .i64 (.ofNat 7), .int .i64 (.ofNat 15)]),
 (q4871, cl true [.int .i64 (.ofNat 6)]),
 (q4891, cl true [.int .i64 (.ofNat 8), .int .i64 (.ofNat 9), .int .i64 (.ofNat 10)]),
 (q4914, cl true [.int .i64 (.ofNat 11)]),
 (q4923, cl true [.int .i64 (.ofNat 12)]),
 (q4934, cl true [.int .i64 (.ofNat 13), .int .i64 (.ofNat 14)]),
 (q4957, cl true [.int .i64 (.ofNat 16)]),
 (q4966, cl true [.sl q4824 0 1 2 none, .sl0, .sl q4842 0 1 2 none, .sl0, .sl q4862 0 1 3 none, .sl q4871 0 1 1 none, .sl0, .sl q4891 0 1 3 none, .sl0, .sl0, .sl q4914 0 1 1 none, .sl q4923 0 1 1 none, .sl q4934 0 1 2 none, .sl0, .sl0, .sl q4957 0 1 1 none, .sl0]),
 (q4968, cl true [.int .u64 (.ofNat 18444773748872577030)]),
 (q4971, .map [(.int .i64 (.ofNat 2), .ptr q5015 0, 0)] 1),
 (q4973, cl false [.ptr q4815 0, .map q4971, .sl q5013 0 1 1 none, .fn 30 [] [], .fn 33 [] [], .fn 36 [] [], .sl q5169 0 1 0 none]),
 (q5011, cl false [.int .i64 (.ofNat 46), .int .i64 (.ofNat 1), .int .i64 (.ofNat 3), .int .i64 (.ofNat 1), .int .i64 (.ofNat 0), .int .i64 (.ofNat 0), .int .i64 (.ofNat 0)]),
 (q5013, cl true [.ptr q5011 0]),
 (q5015, cl false [.int .i64 (.ofNat 2), .int .i64 (.ofNat 1), .int .i64 (.ofNat 6), .sl q5144 0 8 20 none]),
 (q5021, cl true [.int .i64 (.ofNat 0)]),
 (q5028, cl true [.int .i64 (.ofNat 0)]),
 (q5046, cl true [.int .i64 (.ofNat 0)]),
 (q5071, cl true [.int .i64 (.ofNat 0)]),
 (q5091, cl true [.int .i64 (.ofNat 0), .int .i64 (.ofNat 3)]),
 (q5125, cl true [.int .i64 (.ofNat 0)]),
 (q5144, cl true [.int .i64 (.ofNat 1), .int .i64 (.ofNat 0), .int .i64 (.ofNat 0), .int .i64 (.ofNat 0), .int .i64 (.ofNat 2), .int .i64 (.ofNat 1), .int .i64 (.negSucc 0), .sl q5021 0 1 1 none, .int .i64 (.ofNat 1), .int .i64 (.ofNat 0), .int .i64 (.ofNat 0), .int .i64 (.ofNat 0), .int .i64 (.ofNat 5), .int .i64 (.ofNat 1), .int .i64 (.negSucc 0), .sl q5028 0 1 1 none, .int .i64 (.ofNat 2), .int .i64 (.ofNat 1), .int .i64 (.ofNat 0), .int .i64 (.ofNat 0), .int .i64 (.ofNat 6), .int .i64 (.ofNat 1), .int .i64 (.negSucc 0), .sl0, .int .i64 (.ofNat 5), .int .i64 (.ofNat 1), .int .i64 (.ofNat 0), .int .i64 (.ofNat 0), .int .i64 (.ofNat 5), .int .i64 (.ofNat 1), .int .i64 (.negSucc 0), .sl0, .int .i64 (.ofNat 1), .int .i64 (.ofNat 0), .int .i64 (.ofNat 0), .int .i64 (.ofNat 0), .int .i64 (.ofNat 7), .int .i64 (.ofNat 1), .int .i64 (.negSucc 0), .sl q5046 0 1 1 none, .int .i64 (.ofNat 2), .int .i64 (.ofNat 1), .int .i64 (.ofNat 0), .int .i64 (.ofNat 0), .int .i64 (.ofNat 8), .int .i64 (.ofNat 1), .int .i64 (.negSucc 0), .sl0, .int .i64 (.ofNat 3), .int .i64 (.ofNat 2), .int .i64 (.ofNat 0), .int .i64 (.ofNat 0), .int .i64 (.ofNat 9), .int .i64 (.ofNat 2), .int .i64 (.negSucc 0), .sl0, .int .i64 (.ofNat 15), .int .i64 (.ofNat 1), .int .i64 (.ofNat 0), .int .i64 (.ofNat 0), .int .i64 (.ofNat 7), .int .i64 (.ofNat 1), .int .i64 (.negSucc 0), .sl0, .int .i64 (.ofNat 1), .int .i64 (.ofNat 0), .int .i64 (.ofNat 0), .int .i64 (.ofNat 0), .int .i64 (.ofNat 7), .int .i64 (.ofNat 3), .int .i64 (.negSucc 0), .sl q5071 0 1 1 none, .int .i64 (.ofNat 16), .int .i64 (.ofNat 1), .int .i64 (.ofNat 0), .int .i64 (.ofNat 16), .int .i64 (.ofNat 7), .int .i64 (.ofNat 3), .int .i64 (.negSucc 0), .sl0, .int .i64 (.ofNat 1), .int .i64 (.ofNat 0), .int .i64 (.ofNat 0), .int .i64 (.ofNat 0), .int .i64 (.ofNat 11), .int .i64 (.ofNat 4), .int .i64 (.negSucc 0), .sl q5091 0 1 2 none, .int .i64 (.ofNat 4), .int .i64 (.ofNat 4), .int .i64 (.ofNat 0), .int .i64 (.ofNat 0), .int .i64 (.ofNat 13), .int .i64 (.ofNat 4), .int .i64 (.negSucc 0), .sl0, .int .i64 (.ofNat 3), .int .i64 (.ofNat 5), .int .i64 (.ofNat 3), .int .i64 (.ofNat 0), .int .i64 (.ofNat 14), .int .i64 (.ofNat 5), .int .i64 (.negSucc 0), .sl0, .int .i64 (.ofNat 19), .int .i64 (.ofNat 4), .int .i64 (.ofNat 4), .int .i64 (.ofNat 5), .int .i64 (.ofNat 12), .int .i64 (.ofNat 4), .int .i64 (.ofNat 0), .sl0, .int .i64 (.ofNat 5), .int .i64 (.ofNat 4), .int .i64 (.ofNat 0), .int .i64 (.ofNat 0), .int .i64 (.ofNat 11), .int .i64 (.ofNat 4), .int .i64 (.negSucc 0), .sl0, .int .i64 (.ofNat 13), .int .i64 (.ofNat 0), .int .i64 (.ofNat 0), .int .i64 (.ofNat 8), .int .i64 (.ofNat 7), .int .i64 (.ofNat 4), .int .i64 (.negSucc 0), .sl0, .int .i64 (.ofNat 1), .int .i64 (.ofNat 0), .int .i64 (.ofNat 0), .int .i64 (.ofNat 0), .int .i64 (.ofNat 15), .int .i64 (.ofNat 1), .int .i64 (.negSucc 0), .sl q5125 0 1 1 none, .int .i64 (.ofNat 4), .int .i64 (.ofNat 1), .int .i64 (.ofNat 0), .int .i64 (.ofNat 0), .int .i64 (.ofNat 16), .int .i64 (.ofNat 1), .int .i64 (.negSucc 0), .sl0, .int .i64 (.ofNat 18), .int .i64 (.ofNat 1), .int .i64 (.ofNat 0), .int .i64 (.ofNat 0), .int .i64 (.ofNat 15), .int .i64 (.ofNat 1), .int .i64 (.negSucc 0), .sl0, .int .i64 (.ofNat 18), .int .i64 (.negSucc 0), .int .i64 (.ofNat 0), .int .i64 (.ofNat 0), .int .i64 (.ofNat 2), .int .i64 (.ofNat 1), .int .i64 (.negSucc 0), .sl0]),
 (q5166, cl false [.int .u64 (.ofNat 18444773748872577028), .int .u64 (.ofNat 18444773748872577030), .int .u64 (.ofNat 18444773748872577028), .int .u64 (.ofNat 18444773748872577027), .int .u64 (.ofNat 18444773748872577030), .int .u64 (.ofNat 18444773748872577027)]),
 (q5167, cl false [.ptr q5015 0, .int .i64 (.ofNat 19), .sl q5166 0 1 6 none, .int .i64 (.ofNat 1)]),
 (q5169, cl true [.ptr q5167 0])]
def NB1 : Ps := (.i (.o (.o (.o (.i (.i (.o (.o (.i (.o (.i (.o (.i (.i Ps.e))))))))))))))
def NE1 : Ps := (.o (.i (.o (.i (.i (.o (.i (.i (.i (.o (.i (.o (.i (.i Ps.e))))))))))))))
-- machine 1: root q4973 host q4815 blocks 34
-- steps of 2: 15, next 40550 then 40570
def D2 : List (Ps × Blk) := [(q5173, .map [] 0),
 (q5174, cl false [.sl0, .sl0, .map q5173, .int .i64 (.ofNat 0), .int .i64 (.ofNat 0)]),
 (q5175, cl false [.int .i64 (.ofNat 10), .int .i64 (.ofNat 0), .sl0, .ptr q5174 0]),
 (q6687, cl true [.int .i64 (.ofNat 1), .int .i64 (.ofNat 0), .int .i64 (.ofNat 2), .str [], .int .i64 (.ofNat 0), .int .u64 (.ofNat 0), .int .i64 (.ofNat 2), .int .i64 (.ofNat 4), .int .i64 (.ofNat 0), .str [99], .int .i64 (.ofNat 0), .int .u64 (.ofNat 0), .int .i64 (.ofNat 3), .int .i64 (.ofNat 10), .int .i64 (.ofNat 2), .str [102], .int .i64 (.ofNat 0), .int .u64 (.ofNat 0), .int .i64 (.ofNat 4), .int .i64 (.ofNat 12), .int .i64 (.ofNat 0), .str [110], .int .i64 (.ofNat 0), .int .u64 (.ofNat 0), .int .i64 (.ofNat 5), .int .i64 (.ofNat 15), .int .i64 (.ofNat 3), .str [], .int .i64 (.ofNat 0), .int .u64 (.ofNat 0), .int .i64 (.ofNat 7), .int .i64 (.ofNat 17), .int .i64 (.ofNat 1), .str [99], .int .i64 (.ofNat 0), .int .u64 (.ofNat 0), .int .i64 (.ofNat 26), .int .i64 (.ofNat 21), .int .i64 (.ofNat 0), .str [], .int .i64 (.ofNat 0), .int .u64 (.ofNat 0), .int .i64 (.ofNat 11), .int .i64 (.ofNat 24), .int .i64 (.ofNat 3), .str [105], .int .i64 (.ofNat 0), .int .u64 (.ofNat 0), .int .i64 (.ofNat 26), .int .i64 (.ofNat 33), .int .i64 (.ofNat 0), .str [], .int .i64 (.ofNat 0), .int .u64 (.ofNat 0), .int .i64 (.ofNat 25), .int .i64 (.ofNat 36), .int .i64 (.ofNat 0), .str [110], .int .i64 (.ofNat 0), .int .u64 (.ofNat 0), .int .i64 (.ofNat 5), .int .i64 (.ofNat 38), .int .i64 (.ofNat 1), .str [], .int .i64 (.ofNat 0), .int .u64 (.ofNat 0), .int .i64 (.ofNat 7), .int .i64 (.ofNat 40), .int .i64 (.ofNat 1), .str [99], .int .i64 (.ofNat 0), .int .u64 (.ofNat 0), .int .i64 (.ofNat 21), .int .i64 (.ofNat 46), .int .i64 (.ofNat 2), .str [43], .int .i64 (.ofNat 0), .int .u64 (.ofNat 0), .int .i64 (.ofNat 25), .int .i64 (.ofNat 44), .int .i64 (.ofNat 0), .str [99], .int .i64 (.ofNat 0), .int .u64 (.ofNat 0), .int .i64 (.ofNat 25), .int .i64 (.ofNat 48), .int .i64 (.ofNat 0), .str [105], .int .i64 (.ofNat 0), .int .u64 (.ofNat 0), .int .i64 (.ofNat 15), .int .i64 (.ofNat 53), .int .i64 (.ofNat 1), .str [], .int .i64 (.ofNat 0), .int .u64 (.ofNat 0), .int .i64 (.ofNat 25), .int .i64 (.ofNat 60), .int .i64 (.ofNat 0), .str [99], .int .i64 (.ofNat 0), .int .u64 (.ofNat 0)]),
 (q7482, .map [(.str [102], .int .i64 (.ofNat 2), 0)] 1),
 (q7483, .map [(.str [99], .int .i64 (.ofNat 0), 0)] 1),
 (q7484, .map [] 0),
 (q7485, cl false [.str [108, 101, 116, 32, 99, 59, 32, 102, 110, 32, 102, 40, 110, 41, 32, 123, 32, 99, 32, 61, 32, 48, 59, 32, 102, 111, 114, 32, 105, 32, 105, 110, 32, 48, 46, 46, 110, 32, 123, 32, 99, 32, 61, 32, 99, 32, 43, 32, 105, 59, 32, 125, 32, 114, 101, 116, 117, 114, 110, 32, 99, 59, 32, 125], .ptr q5175 0, .sl q6687 0 6 17 none, .sl q7636 0 1 17 none, .map q7482, .fn 16 [.ptr q7640 0] [], .map q7483, .sl q7638 0 1 1 none, .map q7484, .int .i64 (.ofNat 0), .bool false, .bool true, .bool true, .int .i64 (.ofNat 999), .int .i64 (.ofNat 15), .int .i64 (.ofNat 53), .sl0, .int .i64 (.ofNat 0), .int .i64 (.ofNat 0), .int .i64 (.ofNat 0), .int .i64 (.ofNat 15), .int .i64 (.ofNat 2), .int .i64 (.ofNat 10), .int .u64 (.ofNat 0), .str [], .int .i64 (.ofNat 0), .int .i64 (.ofNat 0), .sl0]),
 (q7494, cl true [.int .i64 (.ofNat 1), .int .i64 (.ofNat 2)]),
 (q7512, cl true [.int .i64 (.ofNat 3), .int .i64 (.ofNat 4)]),
 (q7532, cl true [.int .i64 (.ofNat 5), .int .i64 (.ofNat 7), .int .i64 (.ofNat 15)]),
 (q7541, cl true [.int .i64 (.ofNat 6)]),
 (q7561, cl true [.int .i64 (.ofNat 8), .int .i64 (.ofNat 9), .int .i64 (.ofNat 10)]),
 (q7584, cl true [.int .i64 (.ofNat 11)]),
 (q7593, cl true [.int .i64 (.ofNat 12)]),
 (q7604, cl true [.int .i64 (.ofNat 13), .int .i64 (.ofNat 14)]),
 (q7627, cl true [.int .i64 (.ofNat 16)]),
 (q7636, cl true [.sl q7494 0 1 2 none, .sl0, .sl q7512 0 1 2 none, .sl0, .sl q7532 0 1 3 none, .sl q7541 0 1 1 none, .sl0, .sl q7561 0 1 3 none, .sl0, .sl0, .sl q7584 0 1 1 none, .sl q7593 0 1 1 none, .sl q7604 0 1 2 none, .sl0, .sl0, .sl q7627 0 1 1 none, .sl0]),
 (q7638, cl true [.int .u64 (.ofNat 18444773748872577034)]),
 (q7640, cl false [.ptr q7485 0, .sl q7667 0 1 0 none]),
 (q7663, cl false [.sl q40087 0 2 1 none, .sl q40069 0 1 0 none, .sl q40108 0 6 1 none]),
 (q7667, cl true [.ptr q7663 0]),
 (q40069, cl true [.int .u64 (.ofNat 18444773748872577034), .int .u64 (.ofNat 18444773748872577028)]),
 (q40087, cl true [.str [110], .int .u64 (.ofNat 18444773748872577029), .str [105], .int .u64 (.ofNat 18444773748872577028)]),
 (q40108, cl true [.int .i64 (.ofNat 1), .int .i64 (.ofNat 4), .int .i64 (.ofNat 3), .int .i64 (.ofNat 0), .int .i64 (.ofNat 0), .int .i64 (.ofNat 1), .int .i64 (.ofNat 5), .int .i64 (.ofNat 15), .int .i64 (.ofNat 0), .int .i64 (.ofNat 0), .int .i64 (.ofNat 0), .int .i64 (.ofNat 0), .int .i64 (.ofNat 4), .int .i64 (.ofNat 16), .int .i64 (.ofNat 0), .int .i64 (.ofNat 0), .int .i64 (.ofNat 0), .int .i64 (.ofNat 0), .int .i64 (.ofNat 5), .int .i64 (.ofNat 11), .int .i64 (.ofNat 0), .int .i64 (.ofNat 0), .int .i64 (.ofNat 0), .int .i64 (.ofNat 0), .int .i64 (.ofNat 5), .int .i64 (.ofNat 12), .int .i64 (.ofNat 0), .int .i64 (.ofNat 0), .int .i64 (.ofNat 0), .int .i64 (.ofNat 0), .int .i64 (.ofNat 4), .int .i64 (.ofNat 14), .int .i64 (.ofNat 0), .int .i64 (.ofNat 0), .int .i64 (.ofNat 0), .int .i64 (.ofNat 0), .int .i64 (.ofNat 4), .int .i64 (.ofNat 13), .int .i64 (.ofNat 0), .int .i64 (.ofNat 0), .int .i64 (.ofNat 0), .int .i64 (.ofNat 0)])]
def NB2 : Ps := (.i (.o (.o (.o (.o (.o (.i (.o (.o (.o (.i (.i (.i (.o (.o Ps.e)))))))))))))))
def NE2 : Ps := (.i (.i (.o (.i (.i (.i (.i (.o (.o (.i (.i (.i (.i (.o (.o Ps.e)))))))))))))))
-- machine 2: root q7640 host q7485 blocks 25
-- steps of 3: 17, next 50205 then 50211
def D3 : List (Ps × Blk) := [(q7671, .map [] 0),
 (q7672, cl false [.sl0, .sl0, .map q7671, .int .i64 (.ofNat 0), .int .i64 (.ofNat 0)]),
 (q7673, cl false [.int .i64 (.ofNat 10), .int .i64 (.ofNat 0), .sl0, .ptr q7672 0]),
 (q9185, cl true [.int .i64 (.ofNat 1), .int .i64 (.ofNat 0), .int .i64 (.ofNat 2), .str [], .int .i64 (.ofNat 0), .int .u64 (.ofNat 0), .int .i64 (.ofNat 2), .int .i64 (.ofNat 4), .int .i64 (.ofNat 0), .str [99], .int .i64 (.ofNat 0), .int .u64 (.ofNat 0), .int .i64 (.ofNat 3), .int .i64 (.ofNat 10), .int .i64 (.ofNat 2), .str [102], .int .i64 (.ofNat 0), .int .u64 (.ofNat 0), .int .i64 (.ofNat 4), .int .i64 (.ofNat 12), .int .i64 (.ofNat 0), .str [110], .int .i64 (.ofNat 0), .int .u64 (.ofNat 0), .int .i64 (.ofNat 5), .int .i64 (.ofNat 15), .int .i64 (.ofNat 3), .str [], .int .i64 (.ofNat 0), .int .u64 (.ofNat 0), .int .i64 (.ofNat 7), .int .i64 (.ofNat 17), .int .i64 (.ofNat 1), .str [99], .int .i64 (.ofNat 0), .int .u64 (.ofNat 0), .int .i64 (.ofNat 26), .int .i64 (.ofNat 21), .int .i64 (.ofNat 0), .str [], .int .i64 (.ofNat 0), .int .u64 (.ofNat 0), .int .i64 (.ofNat 11), .int .i64 (.ofNat 24), .int .i64 (.ofNat 3), .str [105], .int .i64 (.ofNat 0), .int .u64 (.ofNat 0), .int .i64 (.ofNat 26), .int .i64 (.ofNat 33), .int .i64 (.ofNat 0), .str [], .int .i64 (.ofNat 0), .int .u64 (.ofNat 0), .int .i64 (.ofNat 25), .int .i64 (.ofNat 36), .int .i64 (.ofNat 0), .str [110], .int .i64 (.ofNat 0), .int .u64 (.ofNat 0), .int .i64 (.ofNat 5), .int .i64 (.ofNat 38), .int .i64 (.ofNat 1), .str [], .int .i64 (.ofNat 0), .int .u64 (.ofNat 0), .int .i64 (.ofNat 7), .int .i64 (.ofNat 40), .int .i64 (.ofNat 1), .str [99], .int .i64 (.ofNat 0), .int .u64 (.ofNat 0), .int .i64 (.ofNat 21), .int .i64 (.ofNat 46), .int .i64 (.ofNat 2), .str [43], .int .i64 (.ofNat 0), .int .u64 (.ofNat 0), .int .i64 (.ofNat 25), .int .i64 (.ofNat 44), .int .i64 (.ofNat 0), .str [99], .int .i64 (.ofNat 0), .int .u64 (.ofNat 0), .int .i64 (.ofNat 25), .int .i64 (.ofNat 48), .int .i64 (.ofNat 0), .str [105], .int .i64 (.ofNat 0), .int .u64 (.ofNat 0), .int .i64 (.ofNat 15), .int .i64 (.ofNat 53), .int .i64 (.ofNat 1), .str [], .int .i64 (.ofNat 0), .int .u64 (.ofNat 0), .int .i64 (.ofNat 25), .int .i64 (.ofNat 60), .int .i64 (.ofNat 0), .str [99], .int .i64 (.ofNat 0), .int .u64 (.ofNat 0)]),
 (q9980, .map [(.str [102], .int .i64 (.ofNat 2), 0)] 1),
 (q9981, .map [(.str [99], .int .i64 (.ofNat 0), 0)] 1),
 (q9982, .map [] 0),
 (q9983, cl false [.str [108, 101, 116, 32, 99, 59, 32, 102, 110, 32, 102, 40, 110, 41, 32, 123, 32, 99, 32, 61, 32, 48, 59, 32, 102, 111, 114, 32, 105, 32, 105, 110, 32, 48, 46, 46, 110, 32, 123, 32, 99, 32, 61, 32, 99, 32, 43, 32, 105, 59, 32, 125, 32, 114, 101, 116, 117, 114, 110, 32, 99, 59, 32, 125], .ptr q7673 0, .sl q9185 0 6 17 none, .sl q10134 0 1 17 none, .map q9980, .fn 18 [.ptr q10141 0] [], .map q9981, .sl q10136 0 1 1 none, .map q9982, .int .i64 (.ofNat 0), .bool false, .bool true, .bool true, .int .i64 (.ofNat 999), .int .i64 (.ofNat 17), .int .i64 (.ofNat 53), .sl0, .int .i64 (.ofNat 0), .int .i64 (.ofNat 0), .int .i64 (.ofNat 0), .int .i64 (.ofNat 17), .int .i64 (.ofNat 2), .int .i64 (.ofNat 15), .int .u64 (.ofNat 0), .str [], .int .i64 (.ofNat 0), .int .i64 (.ofNat 0), .sl0]),
 (q9992, cl true [.int .i64 (.ofNat 1), .int .i64 (.ofNat 2)]),
 (q10010, cl true [.int .i64 (.ofNat 3), .int .i64 (.ofNat 4)]),
 (q10030, cl true [.int .i64 (.ofNat 5), .int .i64 (.ofNat 7), .int .i64 (.ofNat 15)]),
 (q10039, cl true [.int .i64 (.ofNat 6)]),
 (q10059, cl true [.int .i64 (.ofNat 8), .int .i64 (.ofNat 9), .int .i64 (.ofNat 10)]),
 (q10082, cl true [.int .i64 (.ofNat 11)]),
 (q10091, cl true [.int .i64 (.ofNat 12)]),
 (q10102, cl true [.int .i64 (.ofNat 13), .int .i64 (.ofNat 14)]),
 (q10125, cl true [.int .i64 (.ofNat 16)]),
 (q10134, cl true [.sl q9992 0 1 2 none, .sl0, .sl q10010 0 1 2 none, .sl0, .sl q10030 0 1 3 none, .sl q10039 0 1 1 none, .sl0, .sl q10059 0 1 3 none, .sl0, .sl0, .sl q10082 0 1 1 none, .sl q10091 0 1 1 none, .sl q10102 0 1 2 none, .sl0, .sl0, .sl q10125 0 1 1 none, .sl0]),
 (q10136, cl true [.int .u64 (.ofNat 18444773748872577039)]),
 (q10139, .map [(.int .i64 (.ofNat 2), .ptr q10183 0, 0)] 1),
 (q10141, cl false [.ptr q9983 0, .map q10139, .sl q10181 0 1 1 none, .fn 30 [] [], .fn 33 [] [], .fn 36 [] [], .sl q10337 0 1 0 none]),
 (q10179, cl false [.int .i64 (.ofNat 46), .int .i64 (.ofNat 1), .int .i64 (.ofNat 3), .int .i64 (.ofNat 3), .int .i64 (.ofNat 0), .int .i64 (.ofNat 0), .int .i64 (.ofNat 0)]),
 (q10181, cl true [.ptr q10179 0]),
 (q10183, cl false [.int .i64 (.ofNat 2), .int .i64 (.ofNat 1), .int .i64 (.ofNat 6), .sl q10312 0 8 20 none]),
 (q10189, cl true [.int .i64 (.ofNat 0)]),
 (q10196, cl true [.int .i64 (.ofNat 0)]),
 (q10214, cl true [.int .i64 (.ofNat 0)]),
 (q10239, cl true [.int .i64 (.ofNat 0)]),
 (q10259, cl true [.int .i64 (.ofNat 0), .int .i64 (.ofNat 3)]),
 (q10293, cl true [.int .i64 (.ofNat 0)]),
 (q10312, cl true [.int .i64 (.ofNat 1), .int .i64 (.ofNat 0), .int .i64 (.ofNat 0), .int .i64 (.ofNat 0), .int .i64 (.ofNat 2), .int .i64 (.ofNat 1), .int .i64 (.negSucc 0), .sl q10189 0 1 1 none, .int .i64 (.ofNat 1), .int .i64 (.ofNat 0), .int .i64 (.ofNat 0), .int .i64 (.ofNat 0), .int .i64 (.ofNat 5), .int .i64 (.ofNat 1), .int .i64 (.negSucc 0), .sl q10196 0 1 1 none, .int .i64 (.ofNat 2), .int .i64 (.ofNat 1), .int .i64 (.ofNat 0), .int .i64 (.ofNat 0), .int .i64 (.ofNat 6), .int .i64 (.ofNat 1), .int .i64 (.negSucc 0), .sl0, .int .i64 (.ofNat 5), .int .i64 (.ofNat 1), .int .i64 (.ofNat 0), .int .i64 (.ofNat 0), .int .i64 (.ofNat 5), .int .i64 (.ofNat 1), .int .i64 (.negSucc 0), .sl0, .int .i64 (.ofNat 1), .int .i64 (.ofNat 0), .int .i64 (.ofNat 0), .int .i64 (.ofNat 0), .int .i64 (.ofNat 7), .int .i64 (.ofNat 1), .int .i64 (.negSucc 0), .sl q10214 0 1 1 none, .int .i64 (.ofNat 2), .int .i64 (.ofNat 1), .int .i64 (.ofNat 0), .int .i64 (.ofNat 0), .int .i64 (.ofNat 8), .int .i64 (.ofNat 1), .int .i64 (.negSucc 0), .sl0, .int .i64 (.ofNat 3), .int .i64 (.ofNat 2), .int .i64 (.ofNat 0), .int .i64 (.ofNat 0), .int .i64 (.ofNat 9), .int .i64 (.ofNat 2), .int .i64 (.negSucc 0), .sl0, .int .i64 (.ofNat 15), .int .i64 (.ofNat 1), .int .i64 (.ofNat 0), .int .i64 (.ofNat 0), .int .i64 (.ofNat 7), .int .i64 (.ofNat 1), .int .i64 (.negSucc 0), .sl0, .int .i64 (.ofNat 1), .int .i64 (.ofNat 0), .int .i64 (.ofNat 0), .int .i64 (.ofNat 0), .int .i64 (.ofNat 7), .int .i64 (.ofNat 3), .int .i64 (.negSucc 0), .sl q10239 0 1 1 none, .int .i64 (.ofNat 16), .int .i64 (.ofNat 1), .int .i64 (.ofNat 0), .int .i64 (.ofNat 16), .int .i64 (.ofNat 7), .int .i64 (.ofNat 3), .int .i64 (.negSucc 0), .sl0, .int .i64 (.ofNat 1), .int .i64 (.ofNat 0), .int .i64 (.ofNat 0), .int .i64 (.ofNat 0), .int .i64 (.ofNat 11), .int .i64 (.ofNat 4), .int .i64 (.negSucc 0), .sl q10259 0 1 2 none, .int .i64 (.ofNat 4), .int .i64 (.ofNat 4), .int .i64 (.ofNat 0), .int .i64 (.ofNat 0), .int .i64 (.ofNat 13), .int .i64 (.ofNat 4), .int .i64 (.negSucc 0), .sl0, .int .i64 (.ofNat 3), .int .i64 (.ofNat 5), .int .i64 (.ofNat 3), .int .i64 (.ofNat 0), .int .i64 (.ofNat 14), .int .i64 (.ofNat 5), .int .i64 (.negSucc 0), .sl0, .int .i64 (.ofNat 19), .int .i64 (.ofNat 4), .int .i64 (.ofNat 4), .int .i64 (.ofNat 5), .int .i64 (.ofNat 12), .int .i64 (.ofNat 4), .int .i64 (.ofNat 0), .sl0, .int .i64 (.ofNat 5), .int .i64 (.ofNat 4), .int .i64 (.ofNat 0), .int .i64 (.ofNat 0), .int .i64 (.ofNat 11), .int .i64 (.ofNat 4), .int .i64 (.negSucc 0), .sl0, .int .i64 (.ofNat 13), .int .i64 (.ofNat 0), .int .i64 (.ofNat 0), .int .i64 (.ofNat 8), .int .i64 (.ofNat 7), .int .i64 (.ofNat 4), .int .i64 (.negSucc 0), .sl0, .int .i64 (.ofNat 1), .int .i64 (.ofNat 0), .int .i64 (.ofNat 0), .int .i64 (.ofNat 0), .int .i64 (.ofNat 15), .int .i64 (.ofNat 1), .int .i64 (.negSucc 0), .sl q10293 0 1 1 none, .int .i64 (.ofNat 4), .int .i64 (.ofNat 1), .int .i64 (.ofNat 0), .int .i64 (.ofNat 0), .int .i64 (.ofNat 16), .int .i64 (.ofNat 1), .int .i64 (.negSucc 0), .sl0, .int .i64 (.ofNat 18), .int .i64 (.ofNat 1), .int .i64 (.ofNat 0), .int .i64 (.ofNat 0), .int .i64 (.ofNat 15), .int .i64 (.ofNat 1), .int .i64 (.negSucc 0), .sl0, .int .i64 (.ofNat 18), .int .i64 (.negSucc 0), .int .i64 (.ofNat 0), .int .i64 (.ofNat 0), .int .i64 (.ofNat 2), .int .i64 (.ofNat 1), .int .i64 (.negSucc 0), .sl0]),
 (q10334, cl false [.int .u64 (.ofNat 18444773748872577030), .int .u64 (.ofNat 18444773748872577039), .int .u64 (.ofNat 18444773748872577030), .int .u64 (.ofNat 18444773748872577029), .int .u64 (.ofNat 18444773748872577039), .int .u64 (.ofNat 18444773748872577029)]),
 (q10335, cl false [.ptr q10183 0, .int .i64 (.ofNat 19), .sl q10334 0 1 6 none, .int .i64 (.ofNat 1)]),
 (q10337, cl true [.ptr q10335 0])]
def NB3 : Ps := (.i (.o (.o (.o (.i (.o (.i (.o (.i (.i (.o (.o (.o (.o (.i Ps.e)))))))))))))))
def NE3 : Ps := (.o (.o (.i (.o (.o (.i (.o (.o (.o (.o (.i (.o (.o (.o (.i Ps.e)))))))))))))))
-- machine 3: root q10141 host q9983 blocks 34
-- steps of 4: 19, next 60732 then 60752
def D4 : List (Ps × Blk) := [(q10341, .map [] 0),
 (q10342, cl false [.sl0, .sl0, .map q10341, .int .i64 (.ofNat 0), .int .i64 (.ofNat 0)]),
 (q10343, cl false [.int .i64 (.ofNat 10), .int .i64 (.ofNat 0), .sl0, .ptr q10342 0]),
 (q11855, cl true [.int .i64 (.ofNat 1), .int .i64 (.ofNat 0), .int .i64 (.ofNat 2), .str [], .int .i64 (.ofNat 0), .int .u64 (.ofNat 0), .int .i64 (.ofNat 2), .int .i64 (.ofNat 4), .int .i64 (.ofNat 0), .str [99], .int .i64 (.ofNat 0), .int .u64 (.ofNat 0), .int .i64 (.ofNat 3), .int .i64 (.ofNat 10), .int .i64 (.ofNat 2), .str [102], .int .i64 (.ofNat 0), .int .u64 (.ofNat 0), .int .i64 (.ofNat 4), .int .i64 (.ofNat 12), .int .i64 (.ofNat 0), .str [110], .int .i64 (.ofNat 0), .int .u64 (.ofNat 0), .int .i64 (.ofNat 5), .int .i64 (.ofNat 15), .int .i64 (.ofNat 3), .str [], .int .i64 (.ofNat 0), .int .u64 (.ofNat 0), .int .i64 (.ofNat 7), .int .i64 (.ofNat 17), .int .i64 (.ofNat 1), .str [99], .int .i64 (.ofNat 0), .int .u64 (.ofNat 0), .int .i64 (.ofNat 26), .int .i64 (.ofNat 21), .int .i64 (.ofNat 0), .str [], .int .i64 (.ofNat 0), .int .u64 (.ofNat 0), .int .i64 (.ofNat 11), .int .i64 (.ofNat 24), .int .i64 (.ofNat 3), .str [105], .int .i64 (.ofNat 0), .int .u64 (.ofNat 0), .int .i64 (.ofNat 26), .int .i64 (.ofNat 33), .int .i64 (.ofNat 0), .str [], .int .i64 (.ofNat 0), .int .u64 (.ofNat 0), .int .i64 (.ofNat 25), .int .i64 (.ofNat 36), .int .i64 (.ofNat 0), .str [110], .int .i64 (.ofNat 0), .int .u64 (.ofNat 0), .int .i64 (.ofNat 5), .int .i64 (.ofNat 38), .int .i64 (.ofNat 1), .str [], .int .i64 (.ofNat 0), .int .u64 (.ofNat 0), .int .i64 (.ofNat 7), .int .i64 (.ofNat 40), .int .i64 (.ofNat 1), .str [99], .int .i64 (.ofNat 0), .int .u64 (.ofNat 0), .int .i64 (.ofNat 21), .int .i64 (.ofNat 46), .int .i64 (.ofNat 2), .str [43], .int .i64 (.ofNat 0), .int .u64 (.ofNat 0), .int .i64 (.ofNat 25), .int .i64 (.ofNat 44), .int .i64 (.ofNat 0), .str [99], .int .i64 (.ofNat 0), .int .u64 (.ofNat 0), .int .i64 (.ofNat 25), .int .i64 (.ofNat 48), .int .i64 (.ofNat 0), .str [105], .int .i64 (.ofNat 0), .int .u64 (.ofNat 0), .int .i64 (.ofNat 15), .int .i64 (.ofNat 53), .int .i64 (.ofNat 1), .str [], .int .i64 (.ofNat 0), .int .u64 (.ofNat 0), .int .i64 (.ofNat 25), .int .i64 (.ofNat 60), .int .i64 (.ofNat 0), .str [99], .int .i64 (.ofNat 0), .int .u64 (.ofNat 0)]),
 (q12650, .map [(.str [102], .int .i64 (.ofNat 2), 0)] 1),
 (q12651, .map [(.str [99], .int .i64 (.ofNat 0), 0)] 1),
 (q12652, .map [] 0),
 (q12653, cl false [.str [108, 101, 116, 32, 99, 59, 32, 102, 110, 32, 102, 40, 110, 41, 32, 123, 32, 99, 32, 61, 32, 48, 59, 32, 102, 111, 114, 32, 105, 32, 105, 110, 32, 48, 46, 46, 110, 32, 123, 32, 99, 32, 61, 32, 99, 32, 43, 32, 105, 59, 32, 125, 32, 114, 101, 116, 117, 114, 110, 32, 99, 59, 32, 125], .ptr q10343 0, .sl q11855 0 6 17 none, .sl q12804 0 1 17 none, .map q12650, .fn 16 [.ptr q12808 0] [], .map q12651, .sl q12806 0 1 1 none, .map q12652, .int .i64 (.ofNat 0), .bool false, .bool true, .bool true, .int .i64 (.ofNat 999), .int .i64 (.ofNat 19), .int .i64 (.ofNat 53), .sl0, .int .i64 (.ofNat 0), .int .i64 (.ofNat 0), .int .i64 (.ofNat 0), .int .i64 (.ofNat 19), .int .i64 (.ofNat 2), .int .i64 (.ofNat 21), .int .u64 (.ofNat 0), .str [], .int .i64 (.ofNat 0), .int .i64 (.ofNat 0), .sl0]),
 (q12662, cl true [.int .i64 (.ofNat 1), .int .i64 (.ofNat 2)]),
 (q12680, cl true [.int .i64 (.ofNat 3), .int .i64 (.ofNat 4)]),
 (q12700, cl true [.int .i64 (.ofNat 5), .int .i64 (.ofNat 7), .int .i64 (.ofNat 15)]),
 (q12709, cl true [.int .i64 (.ofNat 6)]),
 (q12729, cl true [.int .i64 (.ofNat 8), .int .i64 (.ofNat 9), .int .i64 (.ofNat 10)]),
 (q12752, cl true [.int .i64 (.ofNat 11)]),
 (q12761, cl true [.int .i64 (.ofNat 12)]),
 (q12772, cl true [.int .i64 (.ofNat 13), .int .i64 (.ofNat 14)]),
 (q12795, cl true [.int .i64 (.ofNat 16)]),
 (q12804, cl true [.sl q12662 0 1 2 none, .sl0, .sl q12680 0 1 2 none, .sl0, .sl q12700 0 1 3 none, .sl q12709 0 1 1 none, .sl0, .sl q12729 0 1 3 none, .sl0, .sl0, .sl q12752 0 1 1 none, .sl q12761 0 1 1 none, .sl q12772 0 1 2 none, .sl0, .sl0, .sl q12795 0 1 1 none, .sl0]),
 (q12806, cl true [.int .u64 (.ofNat 18444773748872577045)]),
 (q12808, cl false [.ptr q12653 0, .sl q12835 0 1 0 none]),
 (q12831, cl false [.sl q60087 0 2 1 none, .sl q60069 0 1 0 none, .sl q60108 0 6 1 none]),
 (q12835, cl true [.ptr q12831 0]),
 (q60069, cl true [.int .u64 (.ofNat 18444773748872577045), .int .u64 (.ofNat 18444773748872577030)]),
 (q60087, cl true [.str [110], .int .u64 (.ofNat 18444773748872577031), .str [105], .int .u64 (.ofNat 18444773748872577030)]),
 (q60108, cl true [.int .i64 (.ofNat 1), .int .i64 (.ofNat 4), .int .i64 (.ofNat 3), .int .i64 (.ofNat 0), .int .i64 (.ofNat 0), .int .i64 (.ofNat 1), .int .i64 (.ofNat 5), .int .i64 (.ofNat 15), .int .i64 (.ofNat 0), .int .i64 (.ofNat 0), .int .i64 (.ofNat 0), .int .i64 (.ofNat 0), .int .i64 (.ofNat 4), .int .i64 (.ofNat 16), .int .i64 (.ofNat 0), .int .i64 (.ofNat 0), .int .i64 (.ofNat 0), .int .i64 (.ofNat 0), .int .i64 (.ofNat 5), .int .i64 (.ofNat 11), .int .i64 (.ofNat 0), .int .i64 (.ofNat 0), .int .i64 (.ofNat 0), .int .i64 (.ofNat 0), .int .i64 (.ofNat 5), .int .i64 (.ofNat 12), .int .i64 (.ofNat 0), .int .i64 (.ofNat 0), .int .i64 (.ofNat 0), .int .i64 (.ofNat 0), .int .i64 (.ofNat 4), .int .i64 (.ofNat 14), .int .i64 (.ofNat 0), .int .i64 (.ofNat 0), .int .i64 (.ofNat 0), .int .i64 (.ofNat 0), .int .i64 (.ofNat 4), .int .i64 (.ofNat 13), .int .i64 (.ofNat 0), .int .i64 (.ofNat 0), .int .i64 (.ofNat 0), .int .i64 (.ofNat 0)])]
def NB4 : Ps := (.i (.o (.o (.o (.o (.i (.i (.o (.o (.i (.o (.i (.o (.i (.i Ps.e)))))))))))))))
def NE4 : Ps := (.i (.o (.o (.o (.i (.o (.i (.o (.i (.o (.i (.i (.o (.i (.i Ps.e)))))))))))))))
-- machine 4: root q12808 host q12653 blocks 25
-- steps of 5: 21, next 70247 then 70253
def D5 : List (Ps × Blk) := [(q12839, .map [] 0),
 (q12840, cl false [.sl0, .sl0, .map q12839, .int .i64 (.ofNat 0), .int .i64 (.ofNat 0)]),
 (q12841, cl false [.int .i64 (.ofNat 10), .int .i64 (.ofNat 0), .sl0, .ptr q12840 0]),
 (q14353, cl true [.int .i64 (.ofNat 1), .int .i64 (.ofNat 0), .int .i64 (.ofNat 2), .str [], .int .i64 (.ofNat 0), .int .u64 (.ofNat 0), .int .i64 (.ofNat 2), .int .i64 (.ofNat 4), .int .i64 (.ofNat 0), .str [99], .int .i64 (.ofNat 0), .int .u64 (.ofNat 0), .int .i64 (.ofNat 3), .int .i64 (.ofNat 10), .int .i64 (.ofNat 2), .str [102], .int .i64 (.ofNat 0), .int .u64 (.ofNat 0), .int .i64 (.ofNat 4), .int .i64 (.ofNat 12), .int .i64 (.ofNat 0), .str [110], .int .i64 (.ofNat 0), .int .u64 (.ofNat 0), .int .i64 (.ofNat 5), .int .i64 (.ofNat 15), .int .i64 (.ofNat 3), .str [], .int .i64 (.ofNat 0), .int .u64 (.ofNat 0), .int .i64 (.ofNat 7), .int .i64 (.ofNat 17), .int .i64 (.ofNat 1), .str [99], .int .i64 (.ofNat 0), .int .u64 (.ofNat 0), .int .i64 (.ofNat 26), .int .i64 (.ofNat 21), .int .i64 (.ofNat 0), .str [], .int .i64 (.ofNat 0), .int .u64 (.ofNat 0), .int .i64 (.ofNat 11), .int .i64 (.ofNat 24), .int .i64 (.ofNat 3), .str [105], .int .i64 (.ofNat 0), .int .u64 (.ofNat 0), .int .i64 (.ofNat 26), .int .i64 (.ofNat 33), .int .i64 (.ofNat 0), .str [], .int .i64 (.ofNat 0), .int .u64 (.ofNat 0), .int .i64 (.ofNat 25), .int .i64 (.ofNat 36), .int .i64 (.ofNat 0), .str [110], .int .i64 (.ofNat 0), .int .u64 (.ofNat 0), .int .i64 (.ofNat 5), .int .i64 (.ofNat 38), .int .i64 (.ofNat 1), .str [], .int .i64 (.ofNat 0), .int .u64 (.ofNat 0), .int .i64 (.ofNat 7), .int .i64 (.ofNat 40), .int .i64 (.ofNat 1), .str [99], .int .i64 (.ofNat 0), .int .u64 (.ofNat 0), .int .i64 (.ofNat 21), .int .i64 (.ofNat 46), .int .i64 (.ofNat 2), .str [43], .int .i64 (.ofNat 0), .int .u64 (.ofNat 0), .int .i64 (.ofNat 25), .int .i64 (.ofNat 44), .int .i64 (.ofNat 0), .str [99], .int .i64 (.ofNat 0), .int .u64 (.ofNat 0), .int .i64 (.ofNat 25), .int .i64 (.ofNat 48), .int .i64 (.ofNat 0), .str [105], .int .i64 (.ofNat 0), .int .u64 (.ofNat 0), .int .i64 (.ofNat 15), .int .i64 (.ofNat 53), .int .i64 (.ofNat 1), .str [], .int .i64 (.ofNat 0), .int .u64 (.ofNat 0), .int .i64 (.ofNat 25), .int .i64 (.ofNat 60), .int .i64 (.ofNat 0), .str [99], .int .i64 (.ofNat 0), .int .u64 (.ofNat 0)]),
 (q15148, .map [(.str [102], .int .i64 (.ofNat 2), 0)] 1),
 (q15149, .map [(.str [99], .int .i64 (.ofNat 0), 0)] 1),
 (q15150, .map [] 0),
 (q15151, cl false [.str [108, 101, 116, 32, 99, 59, 32, 102, 110, 32, 102, 40, 110, 41, 32, 123, 32, 99, 32, 61, 32, 48, 59, 32, 102, 111, 114, 32, 105, 32, 105, 110, 32, 48, 46, 46, 110, 32, 123, 32, 99, 32, 61, 32, 99, 32, 43, 32, 105, 59, 32, 125, 32, 114, 101, 116, 117, 114, 110, 32, 99, 59, 32, 125], .ptr q12841 0, .sl q14353 0 6 17 none, .sl q15302 0 1 17 none, .map q15148, .fn 18 [.ptr q15309 0] [], .map q15149, .sl q15304 0 1 1 none, .map q15150, .int .i64 (.ofNat 0), .bool false, .bool true, .bool true, .int .i64 (.ofNat 999), .int .i64 (.ofNat 21), .int .i64 (.ofNat 53), .sl0, .int .i64 (.ofNat 0), .int .i64 (.ofNat 0), .int .i64 (.ofNat 0), .int .i64 (.ofNat 21), .int .i64 (.ofNat 2), .int .i64 (.ofNat 28), .int .u64 (.ofNat 0), .str [], .int .i64 (.ofNat 0), .int .i64 (.ofNat 0), .sl0]),
 (q15160, cl true [.int .i64 (.ofNat 1), .int .i64 (.ofNat 2)]),
 (q15178, cl true [.int .i64 (.ofNat 3), .int .i64 (.ofNat 4)]),
 (q15198, cl true [.int .i64 (.ofNat 5), .int .i64 (.ofNat 7), .int .i64 (.ofNat 15)]),
 (q15207, cl true [.int .i64 (.ofNat 6)]),
 (q15227, cl true [.int .i64 (.ofNat 8), .int .i64 (.ofNat 9), .int .i64 (.ofNat 10)]),
 (q15250, cl true [.int .i64 (.ofNat 11)]),
 (q15259, cl true [.int .i64 (.ofNat 12)]),
 (q15270, cl true [.int .i64 (.ofNat 13), .int .i64 (.ofNat 14)]),
 (q15293, cl true [.int .i64 (.ofNat 16)]),
 (q15302, cl true [.sl q15160 0 1 2 none, .sl0, .sl q15178 0 1 2 none, .sl0, .sl q15198 0 1 3 none, .sl q15207 0 1 1 none, .sl0, .sl q15227 0 1 3 none, .sl0, .sl0, .sl q15250 0 1 1 none, .sl q15259 0 1 1 none, .sl q15270 0 1 2 none, .sl0, .sl0, .sl q15293 0 1 1 none, .sl0]),
 (q15304, cl true [.int .u64 (.ofNat 18444773748872577052)]),
 (q15307, .map [(.int .i64 (.ofNat 2), .ptr q15351 0, 0)] 1),
 (q15309, cl false [.ptr q15151 0, .map q15307, .sl q15349 0 1 1 none, .fn 30 [] [], .fn 33 [] [], .fn 36 [] [], .sl q15505 0 1 0 none]),
 (q15347, cl false [.int .i64 (.ofNat 46), .int .i64 (.ofNat 1), .int .i64 (.ofNat 3), .int .i64 (.ofNat 5), .int .i64 (.ofNat 0), .int .i64 (.ofNat 0), .int .i64 (.ofNat 0)]),
 (q15349, cl true [.ptr q15347 0]),
 (q15351, cl false [.int .i64 (.ofNat 2), .int .i64 (.ofNat 1), .int .i64 (.ofNat 6), .sl q15480 0 8 20 none]),
 (q15357, cl true [.int .i64 (.ofNat 0)]),
 (q15364, cl true [.int .i64 (.ofNat 0)]),
 (q15382, cl true [.int .i64 (.ofNat 0)]),
 (q15407, cl true [.int .i64 (.ofNat 0)]),
 (q15427, cl true [.int .i64 (.ofNat 0), .int .i64 (.ofNat 3)]),
 (q15461, cl true [.int .i64 (.ofNat 0)]),
 (q15480, cl true [.int .i64 (.ofNat 1), .int .i64 (.ofNat 0), .int .i64 (.ofNat 0), .int .i64 (.ofNat 0), .int .i64 (.ofNat 2), .int .i64 (.ofNat 1), .int .i64 (.negSucc 0), .sl q15357 0 1 1 none, .int .i64 (.ofNat 1), .int .i64 (.ofNat 0), .int .i64 (.ofNat 0), .int .i64 (.ofNat 0), .int .i64 (.ofNat 5), .int .i64 (.ofNat 1), .int .i64 (.negSucc 0), .sl q15364 0 1 1 none, .int .i64 (.ofNat 2), .int .i64 (.ofNat 1), .int .i64 (.ofNat 0), .int .i64 (.ofNat 0), .int .i64 (.ofNat 6), .int .i64 (.ofNat 1), .int .i64 (.negSucc 0), .sl0, .int .i64 (.ofNat 5), .int .i64 (.ofNat 1), .int .i64 (.ofNat 0), .int .i64 (.ofNat 0), .int .i64 (.ofNat 5), .int .i64 (.ofNat 1), .int .i64 (.negSucc 0), .sl0, .int .i64 (.ofNat 1), .int .i64 (.ofNat 0), .int .i64 (.ofNat 0), .int .i64 (.ofNat 0), .int .i64 (.ofNat 7), .int .i64 (.ofNat 1), .int .i64 (.negSucc 0), .sl q15382 0 1 1 none, .int .i64 (.ofNat 2), .int .i64 (.ofNat 1), .int .i64 (.ofNat 0), .int .i64 (.ofNat 0), .int .i64 (.ofNat 8), .int .i64 (.ofNat 1), .int .i64 (.negSucc 0), .sl0, .int .i64 (.ofNat 3), .int .i64 (.ofNat 2), .int .i64 (.ofNat 0), .int .i64 (.ofNat 0), .int .i64 (.ofNat 9), .int .i64 (.ofNat 2), .int .i64 (.negSucc 0), .sl0, .int .i64 (.ofNat 15), .int .i64 (.ofNat 1), .int .i64 (.ofNat 0), .int .i64 (.ofNat 0), .int .i64 (.ofNat 7), .int .i64 (.ofNat 1), .int .i64 (.negSucc 0), .sl0, .int .i64 (.ofNat 1), .int .i64 (.ofNat 0), .int .i64 (.ofNat 0), .int .i64 (.ofNat 0), .int .i64 (.ofNat 7), .int .i64 (.ofNat 3), .int .i64 (.negSucc 0), .sl q15407 0 1 1 none, .int .i64 (.ofNat 16), .int .i64 (.ofNat 1), .int .i64 (.ofNat 0), .int .i64 (.ofNat 16), .int .i64 (.ofNat 7), .int .i64 (.ofNat 3), .int .i64 (.negSucc 0), .sl0, .int .i64 (.ofNat 1), .int .i64 (.ofNat 0), .int .i64 (.ofNat 0), .int .i64 (.ofNat 0), .int .i64 (.ofNat 11), .int .i64 (.ofNat 4), .int .i64 (.negSucc 0), .sl q15427 0 1 2 none, .int .i64 (.ofNat 4), .int .i64 (.ofNat 4), .int .i64 (.ofNat 0), .int .i64 (.ofNat 0), .int .i64 (.ofNat 13), .int .i64 (.ofNat 4), .int .i64 (.negSucc 0), .sl0, .int .i64 (.ofNat 3), .int .i64 (.ofNat 5), .int .i64 (.ofNat 3), .int .i64 (.ofNat 0), .int .i64 (.ofNat 14), .int .i64 (.ofNat 5), .int .i64 (.negSucc 0), .sl0, .int .i64 (.ofNat 19), .int .i64 (.ofNat 4), .int .i64 (.ofNat 4), .int .i64 (.ofNat 5), .int .i64 (.ofNat 12), .int .i64 (.ofNat 4), .int .i64 (.ofNat 0), .sl0, .int .i64 (.ofNat 5), .int .i64 (.ofNat 4), .int .i64 (.ofNat 0), .int .i64 (.ofNat 0), .int .i64 (.ofNat 11), .int .i64 (.ofNat 4), .int .i64 (.negSucc 0), .sl0, .int .i64 (.ofNat 13), .int .i64 (.ofNat 0), .int .i64 (.ofNat 0), .int .i64 (.ofNat 8), .int .i64 (.ofNat 7), .int .i64 (.ofNat 4), .int .i64 (.negSucc 0), .sl0, .int .i64 (.ofNat 1), .int .i64 (.ofNat 0), .int .i64 (.ofNat 0), .int .i64 (.ofNat 0), .int .i64 (.ofNat 15), .int .i64 (.ofNat 1), .int .i64 (.negSucc 0), .sl q15461 0 1 1 none, .int .i64 (.ofNat 4), .int .i64 (.ofNat 1), .int .i64 (.ofNat 0), .int .i64 (.ofNat 0), .int .i64 (.ofNat 16), .int .i64 (.ofNat 1), .int .i64 (.negSucc 0), .sl0, .int .i64 (.ofNat 18), .int .i64 (.ofNat 1), .int .i64 (.ofNat 0), .int .i64 (.ofNat 0), .int .i64 (.ofNat 15), .int .i64 (.ofNat 1), .int .i64 (.negSucc 0), .sl0, .int .i64 (.ofNat 18), .int .i64 (.negSucc 0), .int .i64 (.ofNat 0), .int .i64 (.ofNat 0), .int .i64 (.ofNat 2), .int .i64 (.ofNat 1), .int .i64 (.negSucc 0), .sl0]),
 (q15502, cl false [.int .u64 (.ofNat 18444773748872577032), .int .u64 (.ofNat 18444773748872577052), .int .u64 (.ofNat 18444773748872577032), .int .u64 (.ofNat 18444773748872577031), .int .u64 (.ofNat 18444773748872577052), .int .u64 (.ofNat 18444773748872577031)]),
 (q15503, cl false [.ptr q15351 0, .int .i64 (.ofNat 19), .sl q15502 0 1 6 none, .int .i64 (.ofNat 1)]),
 (q15505, cl true [.ptr q15503 0])]
def NB5 : Ps := (.i (.o (.o (.o (.i (.i (.i (.o (.i (.o (.o (.o (.i (.o (.o (.o Ps.e))))))))))))))))
def NE5 : Ps := (.o (.i (.i (.i (.o (.i (.i (.o (.o (.i (.o (.o (.i (.o (.o (.o Ps.e))))))))))))))))
-- machine 5: root q15309 host q15151 blocks 34


end
end Go.Eng

namespace Go.Eng
open Go
/-! ### several looks at one world -/
section
variable {P : Program}
def Disj (g : G) (h : H) (g2 : G) (h2 : H) : Prop := ∀ b b' c, live g h b c → live g2 h2 b' c → False
/-- below the heap's begin all is as it was -/
structure Kept (W w : World) : Prop where
  size : W.heap.size ≤ w.heap.size
  pre : ∀ c, c < W.heap.size → w.heap[c]? = W.heap[c]?
  same : Same W w
structure Fam (P : Program) (W : World) (N : Nat) (V : Nat → G × H) (w : World) : Prop where
  hr : ∀ i, i < N → HR P (V i).1 (V i).2 w
  dj : ∀ i j, i < N → j < N → i ≠ j → Disj (V i).1 (V i).2 (V j).1 (V j).2
  lo : ∀ i, i < N → ∀ b c, live (V i).1 (V i).2 b c → W.heap.size ≤ c
  kept : Kept W w
def upd (V : Nat → G × H) (i : Nat) (x : G × H) : Nat → G × H := fun j => if j = i then x else V j
@[simp] theorem upd_same (V : Nat → G × H) (i : Nat) (x : G × H) : upd V i x i = x := by simp [upd]
theorem upd_other (V : Nat → G × H) {i j : Nat} (x : G × H) (h : j ≠ i) : upd V i x j = V j := by simp [upd, h]
theorem upd_upd (V : Nat → G × H) (i : Nat) (x y : G × H) : upd (upd V i x) i y = upd V i y := by
  funext j; unfold upd; split <;> rfl
variable {W w w' : World} {N : Nat} {V : Nat → G × H}
/-- one look acts, the others stay true -/
theorem Fam.act (hf : Fam P W N V w) {i : Nat} (hi : i < N) {g' : G} {h' : H} (he : Ext (V i).1 (V i).2 w g' h' w') (hr : HR P g' h' w') : Fam P W N (upd V i (g', h')) w' := by
  have keep : ∀ j, j < N → j ≠ i → HR P (V j).1 (V j).2 w' := fun j hj hne => by
    have h0 := hf.hr j hj
    refine ⟨fun b x hx c sh sz hg => ?_, h0.inj, h0.fresh, h0.gold⟩
    obtain ⟨o, ho, hb⟩ := h0.blk b x hx c sh sz hg
    refine ⟨o, ?_, hb⟩
    rw [he.frame c (Array.getElem?_eq_some_iff.1 ho).1 fun b' hl => hf.dj i j hi hj (Ne.symm hne) b' b c hl ⟨x, sh, sz, hx, hg⟩]
    exact ho
  have dj : ∀ j, j < N → j ≠ i → Disj g' h' (V j).1 (V j).2 := fun j hj hne b b' c h1 h2 => by
    rcases he.image b c h1 with ⟨b2, h3⟩ | hc
    · exact hf.dj i j hi hj (Ne.symm hne) b2 b' c h3 h2
    · have := (hf.hr j hj).lt h2; omega
  refine ⟨fun j hj => ?_, fun j k hj hk hne => ?_, fun j hj b c hl => ?_, ⟨Nat.le_trans hf.kept.size he.size, fun c hc => ?_, hf.kept.same.trans he.same⟩⟩
  · by_cases e : j = i
    · subst e; rw [upd_same]; exact hr
    · rw [upd_other V _ e]; exact keep j hj e
  · by_cases e : j = i
    · subst e
      rw [upd_same, upd_other V _ (Ne.symm hne)]
      exact dj k hk (Ne.symm hne)
    · by_cases e' : k = i
      · subst e'
        rw [upd_same, upd_other V _ e]
        exact fun b b' c h1 h2 => dj j hj e b' b c h2 h1
      · rw [upd_other V _ e, upd_other V _ e']
        exact hf.dj j k hj hk hne
  · by_cases e : j = i
    · subst e
      rw [upd_same] at hl
      rcases he.image b c hl with ⟨b2, h3⟩ | hc
      · exact hf.lo j hj b2 c h3
      · exact Nat.le_trans hf.kept.size hc
    · rw [upd_other V _ e] at hl
      exact hf.lo j hj b c hl
  · rw [he.frame c (Nat.lt_of_lt_of_le hc hf.kept.size) fun b hl => by have := hf.lo i hi b c hl; omega]
    exact hf.kept.pre c hc
/-- a look that sees less -/
theorem Fam.less (hf : Fam P W N V w) {i : Nat} (hi : i < N) {g' : G} {h' : H} (hr : HR P g' h' w) (hl : ∀ b c, live g' h' b c → ∃ b', live (V i).1 (V i).2 b' c) : Fam P W N (upd V i (g', h')) w := by
  refine ⟨fun j hj => ?_, fun j k hj hk hne => ?_, fun j hj b c h => ?_, hf.kept⟩
  · by_cases e : j = i
    · subst e; rw [upd_same]; exact hr
    · rw [upd_other V _ e]; exact hf.hr j hj
  · by_cases e : j = i
    · subst e
      rw [upd_same, upd_other V _ (Ne.symm hne)]
      exact fun b b' c h1 h2 => let ⟨b2, h3⟩ := hl b c h1; hf.dj j k hj hk hne b2 b' c h3 h2
    · by_cases e' : k = i
      · subst e'
        rw [upd_same, upd_other V _ e]
        exact fun b b' c h1 h2 => let ⟨b2, h3⟩ := hl b' c h2; hf.dj j k hj hk hne b b2 c h1 h3
      · rw [upd_other V _ e, upd_other V _ e']
        exact hf.dj j k hj hk hne
  · by_cases e : j = i
    · subst e
      rw [upd_same] at h
      obtain ⟨b2, h3⟩ := hl b c h
      exact hf.lo j hj b2 c h3
    · rw [upd_other V _ e] at h
      exact hf.lo j hj b c h
theorem Fam.lit (hf : Fam P W N V w) {i : Nat} (hi : i < N) {l : List (Ps × Blk)} {M : Ps} (hs : subL l (V i).2 = true) (hb : belowP M.val l = true) (hM : (V i).2.next.val ≤ M.val) : Fam P W N (upd V i ((V i).1, mkH l M)) w :=
  hf.less hi ((hf.hr i hi).lit hs hb hM) fun b c hl => ⟨b, live_lit hs hl⟩

/-! ### values that name what is known -/
def Simp (g : G) : AV → Prop
  | .bool _ => True
  | .int _ _ => True
  | .str _ => True
  | .sl0 => True
  | .ptr0 => True
  | .undef => True
  | .ptr b _ => ∃ x, g b = some x
  | .sl b _ _ _ _ => ∃ x, g b = some x
  | .iface _ (.ptr b _) => ∃ x, g b = some x
  | _ => False
theorem VR.down {g g' : G} (h : GLe g g') : ∀ {v : AV}, Simp g v → ∀ {c : Value}, VR g' v c → VR g v c
  | .bool _, _, c, hv => by simp only [VR] at hv ⊢; exact hv
  | .int _ _, _, c, hv => by simp only [VR] at hv ⊢; exact hv
  | .str _, _, c, hv => by simp only [VR] at hv ⊢; exact hv
  | .sl0, _, c, hv => by simp only [VR] at hv ⊢; exact hv
  | .ptr0, _, c, hv => by simp only [VR] at hv ⊢; exact hv
  | .undef, _, c, hv => by simp only [VR]
  | .ptr b o, ⟨x, hx⟩, c, hv => by
    simp only [VR] at hv ⊢
    obtain ⟨cc, sh, sz, h1, h2⟩ := hv
    have := h b x hx
    rw [h1] at this
    obtain rfl := Option.some.inj this
    exact ⟨cc, sh, sz, hx, h2⟩
  | .sl b o es len cap, ⟨x, hx⟩, c, hv => by
    simp only [VR] at hv ⊢
    obtain ⟨cc, sh, sz, cp, h1, h2⟩ := hv
    have := h b x hx
    rw [h1] at this
    obtain rfl := Option.some.inj this
    exact ⟨cc, sh, sz, cp, hx, h2⟩
  | .iface t (.ptr b o), ⟨x, hx⟩, c, hv => by
    simp only [VR] at hv ⊢
    obtain ⟨y, h0, cc, sh, sz, h1, h2⟩ := hv
    have := h b x hx
    rw [h1] at this
    obtain rfl := Option.some.inj this
    exact ⟨y, h0, cc, sh, sz, hx, h2⟩
/-- variables, written down -/
noncomputable def mkE (l : List (Nat × AV)) : E := List.rec (motive := fun _ => E) .nil (fun x _ ih => .cons x.1 x.2 ih) l
theorem mkE_get {d : Nat} {v : AV} : ∀ {l : List (Nat × AV)}, (mkE l).get d = some v → (d, v) ∈ l
  | [], h => by
    replace h : (E.nil).get d = some v := h
    simp at h
  | (e, u) :: l, h => by
    replace h : (E.cons e u (mkE l)).get d = some v := h
    rw [E.get_cons] at h
    split at h
    · rename_i e; subst e; obtain rfl := Option.some.inj h; exact List.mem_cons_self
    · exact List.mem_cons_of_mem _ (mkE_get h)
theorem FRel.lit {g : G} {i : FI} {f : Fr} {a : Act} (hf : FRel g i f a) {l : List (Nat × AV)} (hl : ∀ d v, (d, v) ∈ l → f.loc.get d = some v) (hd : f.defers = []) : FRel g i ⟨mkE l, []⟩ a :=
  ⟨fun d v hX hv => hf.loc d v hX (hl d v (mkE_get hv)), hf.size, by have := hf.dfr; rw [hd] at this; exact this⟩
theorem FRel.down {g g' : G} (h : GLe g g') {i : FI} {l : List (Nat × AV)} {a : Act} (hf : FRel g' i ⟨mkE l, []⟩ a) (hs : ∀ d v, (d, v) ∈ l → Simp g v) : FRel g i ⟨mkE l, []⟩ a :=
  ⟨fun d v hX hv => let ⟨c, h1, h2⟩ := hf.loc d v hX hv; ⟨c, h1, VR.down h (hs d v (mkE_get hv)) h2⟩, hf.size, hf.dfr⟩
/-- the first look, after others have acted through more: its blocks are as they were -/
theorem top_back {g0 g' : G} {h' : H} {l : List (Ps × Blk)} {M : Ps} (h0 : HR P g0 (mkH l M) w) (hle : GLe g0 g') (hr : HR P g' h' w') (hs : subL l h' = true)
    (hc : ∀ b x, (b, x) ∈ l → ∃ vs m gr, x = .cells vs m gr ∧ ∀ i, i < m → ∀ v, T.get vs (ps i) = some v → Simp g0 v) : HR P g0 (mkH l M) w' := by
  refine ⟨fun b x hx c sh sz hg => ?_, h0.inj, h0.fresh, h0.gold⟩
  have hm := mkH_get hx
  obtain ⟨y, h3, h4⟩ := subL_iff.1 hs _ hm
  obtain ⟨o, ho, hbr⟩ := hr.blk b y h3 c sh sz (hle _ _ hg)
  have hbr := blkEq_BR h4 hbr
  obtain ⟨vs, m, gr, rfl, hsv⟩ := hc b x hm
  obtain ⟨cs, el, fz, e1, e2, e3, e4, e5, e6, e7⟩ := hbr
  refine ⟨o, ho, cs, el, fz, e1, e2, e3, e4, e5, e6, fun i hi => ?_⟩
  obtain ⟨v, cc, f1, f2, f3⟩ := e7 i hi
  exact ⟨v, cc, f1, f2, VR.down hle (hsv i hi v f1) f3⟩
end
end Go.Eng

namespace Go.Eng
open Go
noncomputable section
def isV (x : Option AV) (v : AV) : Bool := match x with | some u => sameA 20 u v | none => false
def noD (l : List Dfr) : Bool := match l with | [] => true | _ => false
def subE (l : List (Nat × AV)) (e : E) : Bool := List.rec (motive := fun _ => Bool) true (fun x _ ih => isV (e.get x.1) x.2 && ih) l
def exEq (x y : Ex) : Bool := match x with
  | .normal => (match y with | .normal => true | _ => false)
  | .exit i => (match y with | .exit j => Nat.beq i j | _ => false)
  | .ret => (match y with | .ret => true | _ => false)
/-- what a piece of code comes to, written down -/
def comesTo (x : Ex) (L : List (Nat × AV)) (Hl : List (Ps × Blk)) (N : Ps) (r : RC) : Bool := match r with
  | .ok y f h => exEq y x && (subE L f.loc && (noD f.defers && (subL Hl h && (Nat.ble h.next.val N.val && belowP N.val Hl))))
  | .no => false
def getV (d : Nat) (r : RC) : Option AV := match r with
  | .ok _ f _ => f.loc.get d
  | .no => none
def getVs (ds : List Nat) (e : E) : Option (List AV) := List.rec (motive := fun _ => Option (List AV)) (some []) (fun d _ ih => match e.get d with
  | none => none
  | some v => (match ih with | none => none | some vs => some (v :: vs))) ds
def getR (ds : List Nat) (r : RC) : Option (List AV) := match r with
  | .ok _ f _ => getVs ds f.loc
  | .no => none
/-- the same, and what some variables are -/
def comesVs (x : Ex) (L : List (Nat × AV)) (Hl : List (Ps × Blk)) (N : Ps) (ds : List Nat) (r : RC) : Option (List AV) := match comesTo x L Hl N r with
  | true => getR ds r
  | false => none
end
theorem isV_iff {x : Option AV} {v : AV} (h : isV x v = true) : x = some v := by
  unfold isV at h
  split at h
  · rw [sameA_eq 20 _ _ h]
  · cases h
theorem noD_iff {l : List Dfr} (h : noD l = true) : l = [] := by cases l <;> simp [noD] at h ⊢
theorem subE_iff {e : E} : ∀ {l : List (Nat × AV)}, subE l e = true → ∀ d v, (d, v) ∈ l → e.get d = some v
  | [], _, d, v, h => by cases h
  | (x, u) :: l, h, d, v, hm => by
    have h : (isV (e.get x) u && subE l e) = true := h
    rw [Bool.and_eq_true] at h
    cases hm with
    | head => exact isV_iff h.1
    | tail _ hm => exact subE_iff h.2 d v hm
theorem exEq_iff {x y : Ex} (h : exEq x y = true) : x = y := by
  cases x <;> cases y <;> simp [exEq, nbeq] at h ⊢ <;> exact h
theorem comesTo_ok {x : Ex} {L : List (Nat × AV)} {Hl : List (Ps × Blk)} {N : Ps} {r : RC} (h : comesTo x L Hl N r = true) : ∃ f h', r = .ok x f h' ∧ (∀ d v, (d, v) ∈ L → f.loc.get d = some v) ∧ f.defers = [] ∧ subL Hl h' = true ∧
    h'.next.val ≤ N.val ∧ belowP N.val Hl = true := by
  unfold comesTo at h
  split at h
  · rename_i y f h'
    simp only [Bool.and_eq_true] at h
    obtain ⟨h1, h2, h3, h4, h5, h6⟩ := h
    have := exEq_iff h1
    subst this
    exact ⟨f, h', rfl, subE_iff h2, noD_iff h3, h4, Nat.le_of_ble_eq_true h5, h6⟩
  · cases h
theorem getVs_cons (d : Nat) (ds : List Nat) (e : E) : getVs (d :: ds) e = (match e.get d with
  | none => none
  | some v => (match getVs ds e with | none => none | some vs => some (v :: vs))) := rfl
theorem getVs_ok {e : E} : ∀ {ds : List Nat} {vs : List AV}, getVs ds e = some vs → ∀ d v, (d, v) ∈ ds.zip vs → e.get d = some v
  | [], vs, h, d, v, hm => by simp at hm
  | x :: ds, vs, h, d, v, hm => by
    rw [getVs_cons] at h
    split at h
    · cases h
    · rename_i u hu
      split at h
      · cases h
      · rename_i us hus
        obtain rfl := Option.some.inj h
        rw [List.zip_cons_cons] at hm
        cases hm with
        | head => exact hu
        | tail _ hm => exact getVs_ok hus d v hm
theorem comesVs_ok {x : Ex} {L : List (Nat × AV)} {Hl : List (Ps × Blk)} {N : Ps} {ds : List Nat} {vs : List AV} {r : RC} (h : comesVs x L Hl N ds r = some vs) : comesTo x L Hl N r = true ∧ getR ds r = some vs := by
  unfold comesVs at h
  split at h
  · rename_i hc; exact ⟨hc, h⟩
  · cases h
section
variable {P : Program} {J : FuncId} {R : Rec} {W w : World} {NV t : Nat} {V : Nat → G × H} {fn : FuncId} {i : FI} {b : Frame} {cs : List Frame} {k : List Item} {a : Act}
/-- a piece of code, run in one look -/
theorem piece_all (hP : ProgOK P) (hR : RecOK P J R) (hi : infoOf P fn = some i) (hbf : b.fn = fn) (hfc : FC b cs) (hro : b.roundOf = none) (c : Code) {L : List (Nat × AV)} {x : Ex} {f' : Fr} {h' : H}
    (he : evalI P R none fn (planC P i.X i.m c) ⟨mkE L, []⟩ (V t).2 = .ok x f' h') (hf : FRel (V t).1 i ⟨mkE L, []⟩ a) (hF : Fam P W NV V w) (ht : t < NV) :
    ∃ g' w' a', Out P (lone (b.atR a (.code c :: k)) cs w) b k cs x a' w' ∧ FRel g' i f' a' ∧ GLe (V t).1 g' ∧ Fam P W NV (upd V t (g', h')) w' := by
  obtain ⟨g', w', a', h1, h2, h3, h4⟩ := code_ok hP hR hi (r := none) hbf hfc c k ⟨mkE L, []⟩ (V t).2 x f' h' (V t).1 w a (fun h => by cases h) he hf (hF.hr t ht) hro
  exact ⟨g', w', a', h1, h2, h3.mono, hF.act ht h3 h4⟩
theorem piece_ok (hP : ProgOK P) (hR : RecOK P J R) (hi : infoOf P fn = some i) (hbf : b.fn = fn) (hfc : FC b cs) (hro : b.roundOf = none) (c : Code) {L L' : List (Nat × AV)} {x : Ex} {Hl : List (Ps × Blk)} {M : Ps}
    (he : comesTo x L' Hl M (evalI P R none fn (planC P i.X i.m c) ⟨mkE L, []⟩ (V t).2) = true) (hf : FRel (V t).1 i ⟨mkE L, []⟩ a) (hF : Fam P W NV V w) (ht : t < NV) :
    ∃ g' w' a', Out P (lone (b.atR a (.code c :: k)) cs w) b k cs x a' w' ∧ FRel g' i ⟨mkE L', []⟩ a' ∧ GLe (V t).1 g' ∧ Fam P W NV (upd V t (g', mkH Hl M)) w' := by
  obtain ⟨f, h, he, h1, h2, h3, h4, h5⟩ := comesTo_ok he
  obtain ⟨g', w', a', e1, e2, e3, e4⟩ := piece_all (k := k) hP hR hi hbf hfc hro c he hf hF ht
  refine ⟨g', w', a', e1, e2.lit h1 h2, e3, ?_⟩
  have := e4.lit (i := t) (l := Hl) (M := M) ht (by rw [upd_same]; exact h3) h5 (by rw [upd_same]; exact h4)
  rw [upd_same, upd_upd] at this
  exact this
/-- with variables that are told of by themselves -/
theorem piece_okV (hP : ProgOK P) (hR : RecOK P J R) (hi : infoOf P fn = some i) (hbf : b.fn = fn) (hfc : FC b cs) (hro : b.roundOf = none) (c : Code) {L L' : List (Nat × AV)} {x : Ex} {Hl : List (Ps × Blk)} {M : Ps} {ds : List Nat} {vs : List AV}
    (he : comesVs x L' Hl M ds (evalI P R none fn (planC P i.X i.m c) ⟨mkE L, []⟩ (V t).2) = some vs) (hf : FRel (V t).1 i ⟨mkE L, []⟩ a) (hF : Fam P W NV V w) (ht : t < NV) :
    ∃ g' w' a', Out P (lone (b.atR a (.code c :: k)) cs w) b k cs x a' w' ∧ FRel g' i ⟨mkE (ds.zip vs ++ L'), []⟩ a' ∧ GLe (V t).1 g' ∧ Fam P W NV (upd V t (g', mkH Hl M)) w' := by
  obtain ⟨he, hv⟩ := comesVs_ok he
  obtain ⟨f, h, he, h1, h2, h3, h4, h5⟩ := comesTo_ok he
  rw [he] at hv
  obtain ⟨g', w', a', e1, e2, e3, e4⟩ := piece_all (k := k) hP hR hi hbf hfc hro c he hf hF ht
  refine ⟨g', w', a', e1, e2.lit (fun d' v' hm => ?_) h2, e3, ?_⟩
  · rcases List.mem_append.1 hm with hm | hm
    · exact getVs_ok hv d' v' hm
    · exact h1 d' v' hm
  have := e4.lit (i := t) (l := Hl) (M := M) ht (by rw [upd_same]; exact h3) h5 (by rw [upd_same]; exact h4)
  rw [upd_same, upd_upd] at this
  exact this

/-! ### a stretch of a region -/
variable {X dd : List Nat} {l : E} {ops : Array Oper}
noncomputable def partL (P : Program) (R : Rec) (X : List Nat) (l : E) (all : List Oper) : List Oper → List Nat → E → List Dfr → H → Option (E × List Dfr × H)
  | [], _, t, ds, h => some (t, ds, h)
  | o :: os, dd, t, ds, h => match oneI P R l (planG X all dd (dstOf o) o.guard (plan1 P X dd (dstOf o) o.op)) t ds h with
    | none => none
    | some (v, ds1, h1) => partL P R X l all os (ddOf o dd) (.cons (dstOf o) v t) ds1 h1
def ddsOf : List Oper → List Nat → List Nat
  | [], dd => dd
  | o :: os, dd => ddsOf os (ddOf o dd)
/-- the state within a region of a frame that runs in one look -/
structure InR (g : G) (X dd : List Nat) (t l : E) (m : Nat) (a : Act) : Prop where
  reg : RegR g X dd t l a.tmps
  lt : ∀ d, d ∈ dd → d < m
  sz : m ≤ a.tmps.size
theorem part_ok (hP : ProgOK P) (hR : RecOK P J R) {m : Nat} (hn : m ≤ nowhere) (hfc : FC b cs) (hro : b.roundOf = none) (hall : ∀ d, d ∈ dsts ops.toList → d < m) (ht : t < NV) :
    ∀ (os : List Oper) (n : Nat) (rest : List Nat) (dd : List Nat) (te : E) (ds : List Dfr) (a : Act) (w : World) (V : Nat → G × H) {t' : E} {ds' : List Dfr} {h' : H}, (∀ j, j < os.length → ops[n + j]? = os[j]?) →
      partL P R X l ops.toList os dd te ds (V t).2 = some (t', ds', h') → InR (V t).1 X dd te l m a → DR (V t).1 ds a.defers → Fam P W NV V w →
      ∃ g' w' a', Steps P (lone (b.atR a (.inRegion ops (List.range' n os.length ++ rest) :: k)) cs w) (lone (b.atR a' (.inRegion ops rest :: k)) cs w') ∧ InR g' X (ddsOf os dd) t' l m a' ∧ DR g' ds' a'.defers ∧
        GLe (V t).1 g' ∧ Fam P W NV (upd V t (g', h')) w'
  | [], n, rest, dd, te, ds, a, w, V, t', ds', h', hops, hp, hin, hd, hF => by
    simp only [partL, Option.some.injEq, Prod.mk.injEq] at hp
    obtain ⟨rfl, rfl, rfl⟩ := hp
    have hV : upd V t ((V t).1, (V t).2) = V := by funext j; unfold upd; split <;> simp_all
    exact ⟨(V t).1, w, a, .refl P _, hin, hd, GLe.refl _, by rw [hV]; exact hF⟩
  | o :: os, n, rest, dd, te, ds, a, w, V, t', ds', h', hops, hp, hin, hd, hF => by
    have hon : ops[n]? = some o := by have := hops 0 (by simp); simpa using this
    unfold partL at hp
    split at hp
    · cases hp
    · rename_i v ds1 h1 hone
      obtain ⟨c, g1, w1, ds2, s1, s2, s3, s4, s5⟩ := one_gop (k := k) (rest := List.range' (n + 1) os.length ++ rest) hP hR hon hin.reg.opd (hF.hr t ht) hd hfc (.inl hro) hone
      have hdst : ∀ d, o.dst = some d → d < m := fun d hd => hall d (mem_dsts.2 ⟨n, o, by simpa using hon, hd⟩)
      have hreg' := (hin.reg.mono s3.mono).put (ds' := ds2) s2 hdst hin.sz hn hin.lt
      have hsz : m ≤ (({ tmps := a.tmps, defers := ds2 } : Act).put o.dst c).tmps.size := by
        have := hin.sz
        cases o.dst <;> simp [Act.put] <;> exact this
      have hF1 := hF.act ht s3 s4
      obtain ⟨g', w', a', e1, e2, e3, e4, e5⟩ := part_ok hP hR hn hfc hro hall ht os (n + 1) rest (ddOf o dd) (.cons (dstOf o) v te) ds1 _ w1 (upd V t (g1, h1)) (t' := t') (ds' := ds') (h' := h')
        (fun j hj => by have := hops (j + 1) (by simp; omega); rw [show n + 1 + j = n + (j + 1) by omega]; simpa using this) (by rw [upd_same]; exact hp)
        ⟨by rw [upd_same]; exact hreg', fun d hd => by
          cases ho : o.dst with
          | none => simp only [ddOf, ho] at hd; exact hin.lt d hd
          | some d0 =>
            simp only [ddOf, ho, List.mem_cons] at hd
            rcases hd with rfl | hd
            · exact hdst d ho
            · exact hin.lt d hd, hsz⟩ (by rw [upd_same, put_defers']; exact s5) hF1
      rw [upd_same] at e4
      rw [upd_upd] at e5
      refine ⟨g', w', a', ?_, e2, e3, s3.mono.trans e4, e5⟩
      have hrg : List.range' n (o :: os).length ++ rest = n :: (List.range' (n + 1) os.length ++ rest) := by simp [List.range'_succ]
      rw [hrg]
      exact s1.trans e1
theorem FRel.inR {g : G} {i : FI} {f : Fr} (hf : FRel g i f a) : InR g i.X [] .nil f.loc i.m a :=
  ⟨⟨fun d v hm _ => by simp [memN] at hm, fun d v _ hX hv => hf.loc d v hX hv⟩, fun d hd => (by cases hd), hf.size⟩
/-- out of a region -/
theorem InR.out {g : G} {te : E} {m : Nat} (h : InR g X dd te l m a) {L : List (Nat × AV)} (hL : ∀ d v, (d, v) ∈ L → (memN d dd = true ∧ te.get d = some v) ∨ (memN d dd = false ∧ l.get d = some v)) : LR g X (mkE L) a.tmps := by
  intro d v hX hv
  rcases hL d v (mkE_get hv) with ⟨h1, h2⟩ | ⟨h1, h2⟩
  · exact h.reg.new d v h1 h2
  · exact h.reg.old d v h1 hX h2
/-- less is told -/
theorem InR.sub {g : G} {te te' : E} {m : Nat} (h : InR g X dd te l m a) (ht : ∀ d v, te'.get d = some v → te.get d = some v) : InR g X dd te' l m a :=
  ⟨⟨fun d v hm hv => h.reg.new d v hm (ht d v hv), h.reg.old⟩, h.lt, h.sz⟩
end
end Go.Eng
