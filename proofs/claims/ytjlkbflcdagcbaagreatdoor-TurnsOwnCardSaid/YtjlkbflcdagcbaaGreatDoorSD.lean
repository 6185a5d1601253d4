/-
  A part of the proof of casketlaw17.TurnsOwn: the evaluator's soundness, or the law's own steps. By an AI agent.
-/
import Derived.Test.YtjlkbflcdagcbaaGreatDoorSC
import Derived.Laws.StructEq
import Derived.Laws.Strings
namespace Go.Eng
open Go
variable {P : Program} {g : G} {w : World}

theorem bytesOf_inj {a b : ByteArray} (h : bytesOf a = bytesOf b) : a = b := by
  unfold bytesOf at h
  have : a.data.toList = b.data.toList := (List.map_inj_right (fun x y e => UInt8.toNat_inj.1 e)).1 h
  cases a; cases b
  simp at this
  simp [this]
theorem leq_bytes (a b : ByteArray) : leq (bytesOf a) (bytesOf b) = decide (a = b) := by
  cases h : leq (bytesOf a) (bytesOf b) with
  | true => exact (decide_eq_true (bytesOf_inj ((leq_iff _ _).1 h))).symm
  | false =>
    refine (decide_eq_false fun e => ?_).symm
    subst e
    rw [(leq_iff _ _).2 rfl] at h
    cases h
theorem toList_beq (a b : ByteArray) : (a.toList == b.toList) = decide (a = b) := by
  rw [ByteArray.toList_eq, ByteArray.toList_eq]
  by_cases h : a = b
  · subst h; simp
  · rw [decide_eq_false h]
    cases e : a.data.toList == b.data.toList with
    | false => rfl
    | true =>
      refine absurd ?_ h
      have := eq_of_beq e
      cases a; cases b
      simp at this
      simp [this]

/-- what a two-place operation runs as -/
def binS (op : BinOp) (t : TypeId) (x y : Operand) (u v : Value) : Sem Value := do eqGuard op t x y u v; binOp op t u v

theorem nn_some {f : Nat → Nat → Nat} {x y v : AV} (h0 : nn f x y = some v) : ∃ k a b, x = .int k (a : Nat) ∧ y = .int k (b : Nat) ∧ k.signed = false ∧ a < 2 ^ k.bits ∧ b < 2 ^ k.bits ∧ v = .int k (f a b : Nat) := by
  unfold nn at h0
  obtain ⟨k, a, b, hx, hy, h⟩ := ii_some h0
  clear h0
  subst hx; subst hy
  cases k <;> (try (cases h; done))
  all_goals
    cases a <;> (try (cases h; done))
    cases b <;> (try (cases h; done))
    dsimp only at h
    split at h <;> (try (cases h; done))
    split at h <;> (try (cases h; done))
    rename_i h1 _ h2
    rw [blt_iff] at h1 h2
    simp only [fN_eq, hi] at h h1 h2
    exact ⟨_, _, _, rfl, rfl, rfl, by simpa [IntKind.bits] using h1, by simpa [IntKind.bits] using h2, (Option.some.inj h).symm⟩

theorem wrap_nat {k : IntKind} (hk : k.signed = false) {n : Nat} (h : n < 2 ^ k.bits) : k.wrap (n : Int) = n := by
  have : (n : Int) % (2 ^ k.bits : Int) = n := by
    apply Int.emod_eq_of_lt (by omega)
    exact_mod_cast h
  simp [IntKind.wrap, hk, this]

theorem bits_run (op : BinOp) (f : Nat → Nat → Nat) (hop : (op = .and ∧ f = fun a b => a &&& b) ∨ (op = .or ∧ f = fun a b => a ||| b)) {k : IntKind} (hk : k.signed = false) {a b : Nat} (ha : a < 2 ^ k.bits) (hb : b < 2 ^ k.bits) :
    (Op.intBits op k (a : Int) (b : Int)).run P w = .ok (.int k (f a b : Nat)) w := by
  have e1 : (BitVec.ofInt k.bits (a : Int)).toNat = a := by
    rw [BitVec.toNat_ofInt]
    have : ((a : Int) % ((2 ^ k.bits : Nat) : Int)) = (a : Int) := Int.emod_eq_of_lt (by omega) (by exact_mod_cast ha)
    rw [this]; rfl
  have e2 : (BitVec.ofInt k.bits (b : Int)).toNat = b := by
    rw [BitVec.toNat_ofInt]
    have : ((b : Int) % ((2 ^ k.bits : Nat) : Int)) = (b : Int) := Int.emod_eq_of_lt (by omega) (by exact_mod_cast hb)
    rw [this]; rfl
  rcases hop with ⟨rfl, rfl⟩ | ⟨rfl, rfl⟩
  · simp only [Op.intBits, Sem.run_pure, BitVec.toNat_and, e1, e2]
    rw [wrap_nat hk (Nat.lt_of_le_of_lt Nat.and_le_left ha)]
  · simp only [Op.intBits, Sem.run_pure, BitVec.toNat_or, e1, e2]
    rw [wrap_nat hk (Nat.or_lt_two_pow ha hb)]

theorem bin_arith {op : BinOp} {f : AV → AV → Option AV} (hf : binF op = some f) (t : TypeId) (x y : Operand) {a b v : AV} {u u' : Value} (hx : VR g a u) (hy : VR g b u') (hr : f a b = some v) :
    ∃ c, (binS op t x y u u').run P w = .ok c w ∧ VR g v c := by
  unfold binF at hf
  cases op <;> simp only at hf <;> first | cases hf | skip
  all_goals (try (obtain rfl := Option.some.inj hf))
  case add.refl =>
    unfold addA at hr
    split at hr
    · split at hr
      · rename_i s s'
        unfold addS at hr
        split at hr
        · rename_i hle
          simp only [VR] at hx hy
          obtain ⟨bs, rfl, rfl⟩ := hx
          obtain ⟨bs', rfl, rfl⟩ := hy
          have hle := Nat.le_of_ble_eq_true hle
          simp only [lenL_eq, bytesOf, List.length_map, Array.length_toList] at hle
          rw [fL_eq] at hr
          obtain rfl := Option.some.inj hr
          refine ⟨.string (bs ++ bs'), ?_, ?_⟩
          · have h64 : ¬ (9223372036854775807 : Int) < (bs.size + bs'.size : Nat) := by
              have e1 : bs.size = bs.data.size := rfl
              have e2 : bs'.size = bs'.data.size := rfl
              unfold lim at hle
              omega
            have hmax : IntKind.i64.max = 9223372036854775807 := by decide
            simp only [binS, eqGuard, binOp, Op.stringOp]
            simp [hmax]
            simpa using h64
          · simp only [VR]
            exact ⟨_, rfl, by simp [bytesOf]⟩
        · cases hr
      · cases hr
    · obtain ⟨k, n, m, rfl, rfl, h⟩ := ii_some hr
      simp only [VR] at hx hy
      subst hx; subst hy
      rw [mkInt_eq] at h
      obtain rfl := Option.some.inj h
      exact ⟨.int k (k.wrap (n + m)), by simp [binS, eqGuard, binOp, Op.intArith], by simp only [VR]⟩
  case sub.refl =>
    obtain ⟨k, n, m, rfl, rfl, h⟩ := ii_some hr
    simp only [VR] at hx hy
    subst hx; subst hy
    rw [mkInt_eq] at h
    obtain rfl := Option.some.inj h
    exact ⟨.int k (k.wrap (n - m)), by simp [binS, eqGuard, binOp, Op.intArith], by simp only [VR]⟩
  case mul.refl =>
    obtain ⟨k, n, m, rfl, rfl, h⟩ := ii_some hr
    simp only [VR] at hx hy
    subst hx; subst hy
    rw [mkInt_eq] at h
    obtain rfl := Option.some.inj h
    exact ⟨.int k (k.wrap (n * m)), by simp [binS, eqGuard, binOp, Op.intArith], by simp only [VR]⟩
  case quo.refl =>
    obtain ⟨k, n, m, rfl, rfl, h⟩ := ii_some hr
    simp only [VR] at hx hy
    subst hx; subst hy
    split at h
    · cases h
    · rename_i h0
      rw [ieq_iff] at h0
      have h0 : m ≠ 0 := by simpa using h0
      rw [mkInt_eq] at h
      obtain rfl := Option.some.inj h
      exact ⟨.int k (k.wrap (n.tdiv m)), by simp [binS, eqGuard, binOp, Op.intDiv, h0], by simp only [VR]⟩
  case rem.refl =>
    obtain ⟨k, n, m, rfl, rfl, h⟩ := ii_some hr
    simp only [VR] at hx hy
    subst hx; subst hy
    split at h
    · split at h
      · rename_i n' _ m'
        simp only [fN_eq] at h
        obtain rfl := Option.some.inj h
        have h0 : ¬ ((m' : Int) + 1 = 0) := by omega
        refine ⟨.int k ((n' : Int).tmod ((m' : Int) + 1)), by simp only [binS, eqGuard, binOp, Op.intDiv]; simp [h0], ?_⟩
        simp only [VR]
        rfl
      · cases h
    · cases h
  case lss.refl =>
    obtain ⟨k, n, m, rfl, rfl, h⟩ := ii_some hr
    simp only [VR] at hx hy
    subst hx; subst hy
    obtain rfl := Option.some.inj h
    exact ⟨.bool (decide (n < m)), by simp [binS, eqGuard, binOp, Op.intCmp], by simp only [VR, ilt_iff]⟩
  case gtr.refl =>
    obtain ⟨k, n, m, rfl, rfl, h⟩ := ii_some hr
    simp only [VR] at hx hy
    subst hx; subst hy
    obtain rfl := Option.some.inj h
    exact ⟨.bool (decide (n > m)), by simp [binS, eqGuard, binOp, Op.intCmp], by simp only [VR, ilt_iff, gt_iff_lt]⟩
  case leq.refl =>
    obtain ⟨k, n, m, rfl, rfl, h⟩ := ii_some hr
    simp only [VR] at hx hy
    subst hx; subst hy
    obtain rfl := Option.some.inj h
    exact ⟨.bool (decide (n ≤ m)), by simp [binS, eqGuard, binOp, Op.intCmp], by simp only [VR, ilt_iff, Value.bool.injEq, decide_eq_true_eq]; rw [← decide_not]; exact decide_eq_decide.2 (by omega)⟩
  case geq.refl =>
    obtain ⟨k, n, m, rfl, rfl, h⟩ := ii_some hr
    simp only [VR] at hx hy
    subst hx; subst hy
    obtain rfl := Option.some.inj h
    exact ⟨.bool (decide (n ≥ m)), by simp [binS, eqGuard, binOp, Op.intCmp], by simp only [VR, ilt_iff, Value.bool.injEq, decide_eq_true_eq]; rw [← decide_not]; exact decide_eq_decide.2 (by omega)⟩
  case and.refl =>
    obtain ⟨k, n, m, rfl, rfl, hk, h1, h2, rfl⟩ := nn_some hr
    simp only [VR] at hx hy
    subst hx; subst hy
    refine ⟨.int k ((n &&& m : Nat) : Int), ?_, by simp only [VR]⟩
    have := bits_run (P := P) (w := w) .and (fun a b => a &&& b) (.inl ⟨rfl, rfl⟩) hk h1 h2
    simpa [binS, eqGuard, binOp] using this
  case or.refl =>
    obtain ⟨k, n, m, rfl, rfl, hk, h1, h2, rfl⟩ := nn_some hr
    simp only [VR] at hx hy
    subst hx; subst hy
    refine ⟨.int k ((n ||| m : Nat) : Int), ?_, by simp only [VR]⟩
    have := bits_run (P := P) (w := w) .or (fun a b => a ||| b) (.inr ⟨rfl, rfl⟩) hk h1 h2
    simpa [binS, eqGuard, binOp] using this
  case shl.refl =>
    obtain ⟨k, n, rfl, h1⟩ := onI_some hr
    obtain ⟨j, s, rfl, h2⟩ := onI_some h1
    simp only [VR] at hx hy
    subst hx; subst hy
    split at h2
    · rename_i s
      unfold shlF at h2
      split at h2
      · rename_i hk
        have hb : k.bits = 64 := by cases k <;> simp_all [is64, IntKind.bits]
        split at h2
        · rename_i hs
          rw [blt_iff] at hs
          simp only [mkInt_eq] at h2
          obtain rfl := Option.some.inj h2
          have hn : ¬ ((s : Int) < 0) := by omega
          refine ⟨.int k (k.wrap (n * 2 ^ s)), by simp only [binS, eqGuard, binOp, Op.shift]; simp [hn, hb, Nat.min_eq_left (Nat.le_of_lt hs)], ?_⟩
          simp only [VR]
          simp
        · rename_i hs
          have hs : 64 ≤ s := Nat.le_of_not_lt fun e => by rw [blt_iff.2 e] at hs; cases hs
          obtain rfl := Option.some.inj h2
          have hn : ¬ ((s : Int) < 0) := by omega
          refine ⟨.int k (k.wrap (n * 2 ^ 64)), by simp only [binS, eqGuard, binOp, Op.shift]; simp [hn, hb, Nat.min_eq_right hs], ?_⟩
          simp only [VR, Value.int.injEq, true_and]
          unfold IntKind.wrap
          rw [hb]
          simp
      · cases h2
    · cases h2
  case shr.refl =>
    obtain ⟨k, n, rfl, h1⟩ := onI_some hr
    obtain ⟨j, s, rfl, h2⟩ := onI_some h1
    simp only [VR] at hx hy
    subst hx; subst hy
    split at h2
    · rename_i s
      split at h2
      · rename_i n
        split at h2
        · rename_i hk
          have hb : k.bits = 64 := by cases k <;> simp_all [is64, IntKind.bits]
          split at h2
          · rename_i hs
            rw [blt_iff] at hs
            simp only [fN_eq] at h2
            obtain rfl := Option.some.inj h2
            have hn : ¬ ((s : Int) < 0) := by omega
            refine ⟨.int k ((Int.ofNat n).fdiv (2 ^ s)), by simp only [binS, eqGuard, binOp, Op.shift]; simp [hn, hb, Nat.min_eq_left (Nat.le_of_lt hs)], ?_⟩
            simp only [VR, Value.int.injEq, true_and]
            rw [Int.fdiv_eq_ediv_of_nonneg _ (Int.le_of_lt (Int.pow_pos (by omega)))]
            simp
          · cases h2
        · cases h2
      · cases h2
    · cases h2
end Go.Eng

namespace Go.Eng
open Go
variable {P : Program} {g : G}

theorem eqB_some {x y : AV} {r : Bool} (h : eqB x y = some r) : ∃ a b, x = .bool a ∧ y = .bool b ∧ r = (a == b) := by
  unfold eqB at h
  split at h
  · split at h
    · rename_i a _ b
      refine ⟨a, b, rfl, rfl, ?_⟩
      have := Option.some.inj h
      cases a <;> cases b <;> simp_all
    · cases h
  · cases h
theorem eqI_some {x y : AV} {r : Bool} (h : eqI x y = some r) : ∃ k a b, x = .int k a ∧ y = .int k b ∧ r = (a == b) := by
  unfold eqI at h
  split at h
  · split at h
    · split at h
      · rename_i e
        obtain rfl := ikEq_iff.1 e
        refine ⟨_, _, _, rfl, rfl, ?_⟩
        rw [ieq_iff] at h
        exact (Option.some.inj h).symm
      · cases h
    · cases h
  · cases h
theorem eqS_some {x y : AV} {r : Bool} (h : eqS x y = some r) : ∃ a b, x = .str a ∧ y = .str b ∧ r = leq a b := by
  unfold eqS at h
  split at h
  · split at h
    · exact ⟨_, _, rfl, rfl, (Option.some.inj h).symm⟩
    · cases h
  · cases h

/-- plain cells -/
theorem eqPl_ok {t : TypeId} {e : EqF} (he : eqPl P t = some e) {x y : AV} {u v : Value} (hx : VR g x u) (hy : VR g y v) {r : Bool} (h : e x y = some r) (d : Nat) (w : World) :
    (Op.equalIn (d + 1) t u v).run P w = .ok r w := by
  unfold eqPl at he
  split at he
  · rename_i hu
    obtain rfl := Option.some.inj he
    obtain ⟨a, b, rfl, rfl, rfl⟩ := eqB_some h
    simp only [VR] at hx hy
    subst hx; subst hy
    exact run_equalIn_bool' w d t a b (und_of hu)
  · rename_i k hu
    obtain rfl := Option.some.inj he
    obtain ⟨k', a, b, rfl, rfl, rfl⟩ := eqI_some h
    simp only [VR] at hx hy
    subst hx; subst hy
    simp [Op.equalIn, run_und_of hu]
  · rename_i hu
    obtain rfl := Option.some.inj he
    obtain ⟨a, b, rfl, rfl, rfl⟩ := eqS_some h
    simp only [VR] at hx hy
    obtain ⟨bs, rfl, rfl⟩ := hx
    obtain ⟨bs', rfl, rfl⟩ := hy
    rw [run_equalIn_string w d t bs bs' (und_of hu), leq_bytes, toList_beq]
  · cases he

theorem isA_plain {t : TypeId} {e : EqF} (he : eqPl P t = some e) (w : World) : (isAgg t).run P w = .ok false w := by
  unfold eqPl at he
  split at he
  · rename_i hu; simp [isAgg, run_und_of hu]
  · rename_i hu; simp [isAgg, run_und_of hu]
  · rename_i hu; simp [isAgg, run_und_of hu]
  · cases he

theorem eqFs_ok : ∀ {fs : List Field} {i : Nat} {es : List EqF}, plainFs P i fs = some es → ∀ {xs ys : List AV} {us vs : Array Value}, VRL g xs (us.toList.drop i) → VRL g ys (vs.toList.drop i) →
    ∀ {r : Bool}, eqFs es xs ys = some r → ∀ (d : Nat) (w : World), (Op.eqFields (d + 1) us vs fs).run P w = .ok r w
  | [], i, es, he, xs, ys, us, vs, hx, hy, r, h, d, w => by
    obtain rfl := Option.some.inj (show some [] = some es from he)
    cases xs with
    | nil =>
      cases ys with
      | nil =>
        obtain rfl : true = r := Option.some.inj h
        rfl
      | cons y ys => cases h
    | cons x xs => cases ys <;> cases h
  | f :: fs, i, es, he, xs, ys, us, vs, hx, hy, r, h, d, w => by
    unfold plainFs at he
    split at he
    · rename_i hc
      simp only [Bool.and_eq_true, bne_iff_ne, ne_eq] at hc
      obtain ⟨hn, ho⟩ := hc
      have ho := Nat.eq_of_beq_eq_true ho
      split at he
      · rename_i e es' h1 h2
        obtain rfl := Option.some.inj he
        cases xs with
        | nil => cases ys <;> cases h
        | cons x xs =>
          cases ys with
          | nil => cases h
          | cons y ys =>
            simp only [VRL] at hx hy
            obtain ⟨u, us', hu, hxu, hxs⟩ := hx
            obtain ⟨v, vs', hv, hyv, hys⟩ := hy
            have hu0 : us[i]? = some u := by
              have := congrArg (fun l => l[0]?) hu
              simpa using this
            have hv0 : vs[i]? = some v := by
              have := congrArg (fun l => l[0]?) hv
              simpa using this
            have hud : us.toList.drop (i + 1) = us' := by
              have := congrArg (List.drop 1) hu
              simpa [List.drop_drop, Nat.add_comm] using this
            have hvd : vs.toList.drop (i + 1) = vs' := by
              have := congrArg (List.drop 1) hv
              simpa [List.drop_drop, Nat.add_comm] using this
            unfold eqFs at h
            have hpu : ∀ w, (part f.type us f.offset).run P w = .ok u w := fun w => by
              simp [part, isA_plain h1, ho, hu0]
            have hpv : ∀ w, (part f.type vs f.offset).run P w = .ok v w := fun w => by
              simp [part, isA_plain h1, ho, hv0]
            simp only [Op.eqFields, hn, not_false_eq_true, ne_eq, if_true, Sem.run_bind, hpu, hpv, Result.andThen_ok]
            split at h
            · cases h
            · rename_i hxy
              obtain rfl := Option.some.inj h
              rw [eqPl_ok h1 hxu hyv hxy]
              simp
            · rename_i hxy
              rw [eqPl_ok h1 hxu hyv hxy]
              simp only [Result.andThen_ok, Bool.not_true, Bool.false_eq_true, if_false]
              exact eqFs_ok h2 (by rw [hud]; exact hxs) (by rw [hvd]; exact hys) h d w
      · cases he
    · cases he

theorem eqKey_ok {t : TypeId} {e : EqF} (he : eqKey P t = some e) {x y : AV} {u v : Value} (hx : VR g x u) (hy : VR g y v) {r : Bool} (h : e x y = some r) (w : World) :
    (Op.equal t u v).run P w = .ok r w := by
  unfold Op.equal Op.maxDepth
  by_cases hp : ∃ e', eqPl P t = some e'
  · obtain ⟨e', he'⟩ := hp
    have : e' = e := by
      unfold eqPl at he'
      unfold eqKey at he
      split at he' <;> rename_i hu <;> first | (rw [hu] at he; simp_all) | cases he'
    subst this
    exact eqPl_ok he' hx hy h 9999 w
  · unfold eqKey at he
    split at he
    · rename_i hu; exact absurd ⟨_, by unfold eqPl; rw [hu]⟩ hp
    · rename_i hu; exact absurd ⟨_, by unfold eqPl; rw [hu]⟩ hp
    · rename_i hu; exact absurd ⟨_, by unfold eqPl; rw [hu]⟩ hp
    · rename_i fs hu
      split at he
      · rename_i hs
        split at he
        · rename_i es hes
          obtain rfl := Option.some.inj he
          unfold eqAg at h
          split at h
          · split at h
            · simp only [VR] at hx hy
              obtain ⟨us, rfl, hx⟩ := hx
              obtain ⟨vs, rfl, hy⟩ := hy
              have hf : P.fieldsOf t = fs := by simp [Program.fieldsOf, und_of hu]
              rw [run_equalIn_struct w 9999 t us vs (by rw [hf]; exact und_of hu) hs, hf]
              exact eqFs_ok hes (by simpa using hx) (by simpa using hy) h 9998 w
            · cases h
          · cases h
        · cases he
      · cases he
    · cases he

theorem guard_none {op : BinOp} {t : TypeId} {x y : Operand} {u v : Value} (h1 : ¬ (u = .nilIface ∧ v = .nilIface)) (h2 : ∀ a b, ¬ (u = .agg a ∧ v = .agg b)) (w : World) : (eqGuard op t x y u v).run P w = .ok () w := by
  unfold eqGuard
  by_cases ho : op = .eql ∨ op = .neq
  · rcases ho with rfl | rfl <;>
    · simp only [Bool.not_true, Bool.false_eq_true, if_false]
      split
      · exact absurd ⟨rfl, rfl⟩ h1
      · exact absurd ⟨rfl, rfl⟩ (h2 _ _)
      · rfl
  · cases op <;> first | rfl | exact absurd (.inl rfl) ho | exact absurd (.inr rfl) ho
theorem eq_disp {t : TypeId} {u v : Value} {r : Bool} {w : World} (h : (Op.equal t u v).run P w = .ok r w) (hi : ∀ k n j m, ¬ (u = .int k n ∧ v = .int j m)) (hf : ∀ k n j m, ¬ (u = .float k n ∧ v = .float j m)) (hc : ∀ k n n' j m m', ¬ (u = .complex k n n' ∧ v = .complex j m m')) (hs : ∀ a b, ¬ (u = .string a ∧ v = .string b)) :
    (binOp .eql t u v).run P w = .ok (.bool r) w ∧ (binOp .neq t u v).run P w = .ok (.bool (!r)) w := by
  constructor <;>
  · unfold binOp
    split <;> first | (exact absurd ⟨rfl, rfl⟩ (hi _ _ _ _)) | (exact absurd ⟨rfl, rfl⟩ (hf _ _ _ _)) | (exact absurd ⟨rfl, rfl⟩ (hc _ _ _ _ _ _)) | (exact absurd ⟨rfl, rfl⟩ (hs _ _)) | skip
    all_goals simp_all
theorem guard_plain {es : List EqF} : ∀ {fs : List Field} {i : Nat}, plainFs P i fs = some es → ∀ (d : Nat), fs.any (fun f => f.name != "_" && P.eqGuardType (d + 1) f.type) = false := by
  intro fs
  induction fs generalizing es with
  | nil => intros; rfl
  | cons f fs ih =>
    intro i h d
    unfold plainFs at h
    split at h
    · split at h
      · rename_i e es' h1 h2
        simp only [List.any_cons, ih h2 d, Bool.or_false, Bool.and_eq_false_iff]
        right
        unfold eqPl at h1
        unfold Program.eqGuardType
        split at h1 <;> rename_i hu <;> first | (rw [und_of hu]; done) | (simp [und_of hu]; done) | cases h1
      · cases h
    · cases h
end Go.Eng

namespace Go.Eng
open Go
variable {P : Program} {g : G}

theorem binS_run {op : BinOp} {t : TypeId} {x y : Operand} {u v : Value} {w : World} {r : Result Value} (h1 : (eqGuard op t x y u v).run P w = .ok () w) (h2 : (binOp op t u v).run P w = r) : (binS op t x y u v).run P w = r := by
  unfold binS
  rw [Sem.run_bind, h1]
  exact h2
theorem binS_both {t : TypeId} {x y : Operand} {u v : Value} {w : World} {r : Bool} (h1 : ∀ op, (eqGuard op t x y u v).run P w = .ok () w)
    (h2 : (binOp .eql t u v).run P w = .ok (.bool r) w ∧ (binOp .neq t u v).run P w = .ok (.bool (!r)) w) :
    (binS .eql t x y u v).run P w = .ok (.bool r) w ∧ (binS .neq t x y u v).run P w = .ok (.bool (!r)) w :=
  ⟨binS_run (h1 _) h2.1, binS_run (h1 _) h2.2⟩

theorem eqKeyS_ok {t : TypeId} {e : EqF} (he : eqKey P t = some e) (x y : Operand) {a b : AV} {u v : Value} (hx : VR g a u) (hy : VR g b v) {r : Bool} (hr : e a b = some r) (w : World) :
    (binS .eql t x y u v).run P w = .ok (.bool r) w ∧ (binS .neq t x y u v).run P w = .ok (.bool (!r)) w := by
  have hq := eqKey_ok he hx hy hr w
  unfold eqKey at he
  split at he
  · obtain rfl := Option.some.inj he
    obtain ⟨a', b', rfl, rfl, rfl⟩ := eqB_some hr
    simp only [VR] at hx hy
    subst hx; subst hy
    exact binS_both (fun op => guard_none (by simp) (by simp) w) (eq_disp hq (by simp) (by simp) (by simp) (by simp))
  · obtain rfl := Option.some.inj he
    obtain ⟨k, a', b', rfl, rfl, rfl⟩ := eqI_some hr
    simp only [VR] at hx hy
    subst hx; subst hy
    exact binS_both (fun op => guard_none (by simp) (by simp) w) ⟨by simp [binOp, Op.intCmp], by simp [binOp, Op.intCmp, bne]⟩
  · obtain rfl := Option.some.inj he
    obtain ⟨a', b', rfl, rfl, rfl⟩ := eqS_some hr
    simp only [VR] at hx hy
    obtain ⟨bs, rfl, rfl⟩ := hx
    obtain ⟨bs', rfl, rfl⟩ := hy
    refine binS_both (fun op => guard_none (by simp) (by simp) w) ⟨?_, ?_⟩
    · simp only [binOp, Op.stringOp, Sem.run_pure, toList_beq, leq_bytes]
    · simp only [binOp, Op.stringOp, Sem.run_pure, toList_beq, leq_bytes]
  · rename_i fs hu
    split at he
    · split at he
      · rename_i es hes
        obtain rfl := Option.some.inj he
        unfold eqAg at hr
        split at hr
        · split at hr
          · simp only [VR] at hx hy
            obtain ⟨us, rfl, hx⟩ := hx
            obtain ⟨vs, rfl, hy⟩ := hy
            have hg : P.eqGuardType P.depth t = false := by
              have hd : P.depth = (2 * (P.types.size + Made.depth)) + 1 + 1 := rfl
              rw [hd, Program.eqGuardType, und_of hu]
              have := guard_plain hes (2 * (P.types.size + Made.depth))
              simpa using this
            exact binS_both (fun op => run_eqGuard_agg w op t x y us vs hg) (eq_disp hq (by simp) (by simp) (by simp) (by simp))
          · cases hr
        · cases hr
      · cases he
    · cases he
  · cases he

theorem eqD {t : TypeId} {u v : Value} {r : Bool} {w : World} (h : ∀ d, (Op.equalIn (d + 1) t u v).run P w = .ok r w) : (Op.equal t u v).run P w = .ok r w := h 9999

theorem eqFor_ok {t : TypeId} {e : EqF} {x y : Operand} (he : eqFor P t x y = some e) {a b : AV} {u v : Value} (hx : VR g a u) (hy : VR g b v) {r : Bool} (hr : e a b = some r) (w : World) :
    (binS .eql t x y u v).run P w = .ok (.bool r) w ∧ (binS .neq t x y u v).run P w = .ok (.bool (!r)) w := by
  unfold eqFor at he
  split at he
  · rename_i ms hu
    split at he
    · rename_i hc
      obtain rfl := Option.some.inj he
      have hcc : ((match x with | .const _ => true | _ => false) || (match y with | .const _ => true | _ => false)) = true := by
        cases x <;> cases y <;> first | rfl | exact hc
      unfold eqIf at hr
      split at hr
      · simp only [VR] at hx
        subst hx
        split at hr
        · obtain rfl := Option.some.inj hr
          simp only [VR] at hy
          subst hy
          refine binS_both (fun op => ?_) (eq_disp (eqD fun d => by simp [Op.equalIn, run_und_of hu]) (by simp) (by simp) (by simp) (by simp))
          cases op <;> first | rfl | skip
          all_goals
            simp only [eqGuard]
            cases x <;> cases y <;> simp_all
        · obtain rfl := Option.some.inj hr
          simp only [VR] at hy
          obtain ⟨z, rfl, _⟩ := hy
          exact binS_both (fun op => guard_none (by simp) (by simp) w) (eq_disp (eqD fun d => by simp [Op.equalIn, run_und_of hu]) (by simp) (by simp) (by simp) (by simp))
        · cases hr
      · simp only [VR] at hx
        obtain ⟨z, rfl, _⟩ := hx
        split at hr
        · obtain rfl := Option.some.inj hr
          simp only [VR] at hy
          subst hy
          exact binS_both (fun op => guard_none (by simp) (by simp) w) (eq_disp (eqD fun d => by simp [Op.equalIn, run_und_of hu]) (by simp) (by simp) (by simp) (by simp))
        · cases hr
      · cases hr
    · cases he
  · rename_i el hu
    obtain rfl := Option.some.inj he
    unfold eqP at hr
    split at hr
    · simp only [VR] at hx
      subst hx
      split at hr
      · obtain rfl := Option.some.inj hr
        simp only [VR] at hy
        subst hy
        exact binS_both (fun op => guard_none (by simp) (by simp) w) (eq_disp (eqD fun d => by simp [Op.equalIn, run_und_of hu]) (by simp) (by simp) (by simp) (by simp))
      · obtain rfl := Option.some.inj hr
        simp only [VR] at hy
        obtain ⟨c, sh, sz, _, rfl⟩ := hy
        exact binS_both (fun op => guard_none (by simp) (by simp) w) (eq_disp (eqD fun d => by simp [Op.equalIn, run_und_of hu]) (by simp) (by simp) (by simp) (by simp))
      · cases hr
    · simp only [VR] at hx
      obtain ⟨c, sh, sz, _, rfl⟩ := hx
      split at hr
      · obtain rfl := Option.some.inj hr
        simp only [VR] at hy
        subst hy
        exact binS_both (fun op => guard_none (by simp) (by simp) w) (eq_disp (eqD fun d => by simp [Op.equalIn, run_und_of hu]) (by simp) (by simp) (by simp) (by simp))
      · cases hr
    · cases hr
  · rename_i el hu
    obtain rfl := Option.some.inj he
    unfold eqSl at hr
    split at hr
    · simp only [VR] at hx
      subst hx
      split at hr
      · obtain rfl := Option.some.inj hr
        simp only [VR] at hy
        subst hy
        exact binS_both (fun op => guard_none (by simp) (by simp) w) (eq_disp (eqD fun d => by simp [Op.equalIn, run_und_of hu]) (by simp) (by simp) (by simp) (by simp))
      · obtain rfl := Option.some.inj hr
        simp only [VR] at hy
        obtain ⟨c, sh, sz, cp, _, rfl, _⟩ := hy
        exact binS_both (fun op => guard_none (by simp) (by simp) w) (eq_disp (eqD fun d => by simp [Op.equalIn, run_und_of hu]) (by simp) (by simp) (by simp) (by simp))
      · cases hr
    · simp only [VR] at hx
      obtain ⟨c, sh, sz, cp, _, rfl, _⟩ := hx
      split at hr
      · obtain rfl := Option.some.inj hr
        simp only [VR] at hy
        subst hy
        exact binS_both (fun op => guard_none (by simp) (by simp) w) (eq_disp (eqD fun d => by simp [Op.equalIn, run_und_of hu]) (by simp) (by simp) (by simp) (by simp))
      · cases hr
    · cases hr
  · rename_i hu
    obtain rfl := Option.some.inj he
    unfold eqFn at hr
    split at hr
    · simp only [VR] at hx
      subst hx
      split at hr
      · obtain rfl := Option.some.inj hr
        simp only [VR] at hy
        subst hy
        exact binS_both (fun op => guard_none (by simp) (by simp) w) (eq_disp (eqD fun d => by simp [Op.equalIn, run_und_of hu]) (by simp) (by simp) (by simp) (by simp))
      · obtain rfl := Option.some.inj hr
        simp only [VR] at hy
        obtain ⟨c, sh, rfl, _⟩ := hy
        exact binS_both (fun op => guard_none (by simp) (by simp) w) (eq_disp (eqD fun d => by simp [Op.equalIn, run_und_of hu]) (by simp) (by simp) (by simp) (by simp))
      · cases hr
    · simp only [VR] at hx
      obtain ⟨c, sh, rfl, _⟩ := hx
      split at hr
      · obtain rfl := Option.some.inj hr
        simp only [VR] at hy
        subst hy
        exact binS_both (fun op => guard_none (by simp) (by simp) w) (eq_disp (eqD fun d => by simp [Op.equalIn, run_und_of hu]) (by simp) (by simp) (by simp) (by simp))
      · cases hr
    · cases hr
  · exact eqKeyS_ok he x y hx hy hr w
end Go.Eng

namespace Go.Eng
open Go

@[simp] theorem ofO_ok {h h' : H} {v : AV} {x : Option AV} : ofO h x = .ok v h' ↔ x = some v ∧ h' = h := by
  cases x <;> simp [ofO]; exact fun _ => eq_comm
theorem oB_some {f : AV → Option AV} {x : Option AV} {v : AV} : oB f x = some v ↔ ∃ a, x = some a ∧ f a = some v := by
  cases x <;> simp [oB]
theorem oB2_some {f : AV → AV → Option AV} {x y : Option AV} {v : AV} : oB2 f x y = some v ↔ ∃ a b, x = some a ∧ y = some b ∧ f a b = some v := by
  cases x <;> simp [oB2, oB_some]
theorem rL_ok {f : H → List AV → RV} {h h' : H} {v : AV} {x : Option (List AV)} : rL f h x = .ok v h' ↔ ∃ vs, x = some vs ∧ f h vs = .ok v h' := by
  cases x <;> simp [rL]

/-- the operands that are told of -/
def OpdR (g : G) (X dd : List Nat) (t l : E) (ρ : Operand → Value) : Prop := ∀ x a, getO (opd X dd x) t l = some a → VR g a (ρ x)

theorem getL_cons (x : Opd) (xs : List Opd) (t l : E) : getL (x :: xs) t l = (match getO x t l with
    | none => none
    | some v => match getL xs t l with
      | none => none
      | some vs => some (v :: vs)) := by
  show (Option.rec (motive := fun _ => Option (List AV)) none (fun v => Option.rec (motive := fun _ => Option (List AV)) none (fun vs => some (v :: vs)) (getL xs t l)) (getO x t l) : Option (List AV)) = _
  cases getO x t l with
  | none => rfl
  | some v => cases getL xs t l <;> rfl
theorem getL_VRL {g : G} {X dd : List Nat} {t l : E} {ρ : Operand → Value} (hρ : OpdR g X dd t l ρ) : ∀ {xs : List Operand} {vs : List AV}, getL (opds X dd xs) t l = some vs → VRL g vs (xs.map ρ)
  | [], vs, h => by
    obtain rfl := Option.some.inj (show some [] = some vs from h)
    simp only [VRL, List.map_nil]
  | x :: xs, vs, h => by
    unfold opds at h
    rw [getL_cons] at h
    split at h
    · cases h
    · rename_i v hv
      split at h
      · cases h
      · rename_i vs' hvs
        obtain rfl := Option.some.inj h
        simp only [List.map_cons, VRL]
        exact ⟨_, _, rfl, hρ x v hv, getL_VRL hρ hvs⟩

section
variable (P : Program) (X dd : List Nat) (d : Nat) (t l : E) (ρ : Operand → Value) (g : G)

/-- a pure operation: neither looks at the heap nor changes it -/
def PureOK (op : Op) : Prop := ∀ (o : Oper), o.op = op → ∀ h h' v, insV t l h (plan1 P X dd d op) = .ok v h' →
  h' = h ∧ (∀ h2, insV t l h2 (plan1 P X dd d op) = .ok v h2) ∧ ∀ w, ∃ c, (execOp ρ o).run P w = .ok (.value c) w ∧ VR g v c
variable {P X dd d t l ρ g}
theorem pure_f1 (hρ : OpdR g X dd t l ρ) {op : Op} {f : AV → Option AV} {x : Operand} (hp : plan1 P X dd d op = .f1 d f (opd X dd x))
    (hf : ∀ a v, VR g a (ρ x) → f a = some v → ∀ o : Oper, o.op = op → ∀ w, ∃ c, (execOp ρ o).run P w = .ok (.value c) w ∧ VR g v c) : PureOK P X dd d t l ρ g op := by
  intro o ho h h' v hi
  rw [hp] at hi ⊢
  simp only [insV, ofO_ok, oB_some] at hi ⊢
  obtain ⟨⟨a, ha, hfa⟩, rfl⟩ := hi
  exact ⟨rfl, fun _ => ⟨⟨a, ha, hfa⟩, trivial⟩, hf a v (hρ x a ha) hfa o ho⟩
theorem pure_f2 (hρ : OpdR g X dd t l ρ) {op : Op} {f : AV → AV → Option AV} {x y : Operand} (hp : plan1 P X dd d op = .f2 d f (opd X dd x) (opd X dd y))
    (hf : ∀ a b v, VR g a (ρ x) → VR g b (ρ y) → f a b = some v → ∀ o : Oper, o.op = op → ∀ w, ∃ c, (execOp ρ o).run P w = .ok (.value c) w ∧ VR g v c) : PureOK P X dd d t l ρ g op := by
  intro o ho h h' v hi
  rw [hp] at hi ⊢
  simp only [insV, ofO_ok, oB2_some] at hi ⊢
  obtain ⟨⟨a, b, ha, hb, hfa⟩, rfl⟩ := hi
  exact ⟨rfl, fun _ => ⟨⟨a, b, ha, hb, hfa⟩, trivial⟩, hf a b v (hρ x a ha) (hρ y b hb) hfa o ho⟩
theorem pure_a1 (hρ : OpdR g X dd t l ρ) {op : Op} {f : List AV → Option AV} {xs : List Operand} (F : H → List AV → RV) (hF : ∀ h vs, F h vs = ofO h (f vs)) (hp : plan1 P X dd d op = .a1 d F (opds X dd xs))
    (hf : ∀ vs v, VRL g vs (xs.map ρ) → f vs = some v → ∀ o : Oper, o.op = op → ∀ w, ∃ c, (execOp ρ o).run P w = .ok (.value c) w ∧ VR g v c) : PureOK P X dd d t l ρ g op := by
  intro o ho h h' v hi
  rw [hp] at hi ⊢
  simp only [insV, rL_ok, hF, ofO_ok] at hi ⊢
  obtain ⟨vs, hvs, hfa, rfl⟩ := hi
  exact ⟨rfl, fun _ => ⟨vs, hvs, hfa, trivial⟩, hf vs v (getL_VRL hρ hvs) hfa o ho⟩
theorem pure_bad {op : Op} (hp : plan1 P X dd d op = .bad) : PureOK P X dd d t l ρ g op := by
  intro o ho h h' v hi
  rw [hp] at hi
  cases hi

theorem pu_move (hρ : OpdR g X dd t l ρ) (x : Operand) : PureOK P X dd d t l ρ g (.move x) := by
  intro o ho h h' v hi
  simp only [plan1, insV, ofO_ok] at hi ⊢
  obtain ⟨hx, rfl⟩ := hi
  exact ⟨rfl, fun _ => ⟨hx, trivial⟩, fun w => ⟨ρ x, by simp [execOp, ho], hρ x v hx⟩⟩
theorem pu_assign (hρ : OpdR g X dd t l ρ) (x : Operand) : PureOK P X dd d t l ρ g (.assign x) := by
  intro o ho h h' v hi
  simp only [plan1, insV, ofO_ok] at hi ⊢
  obtain ⟨hx, rfl⟩ := hi
  exact ⟨rfl, fun _ => ⟨hx, trivial⟩, fun w => ⟨ρ x, by simp [execOp, ho], hρ x v hx⟩⟩
theorem pu_pick (hρ : OpdR g X dd t l ρ) (c a b : Operand) : PureOK P X dd d t l ρ g (.pick c a b) := by
  intro o ho h h' v hi
  simp only [plan1, insV, ofO_ok] at hi ⊢
  obtain ⟨hx, rfl⟩ := hi
  refine ⟨rfl, fun _ => ⟨hx, trivial⟩, fun w => ?_⟩
  unfold oP at hx
  split at hx
  · rename_i hc
    have := hρ c _ hc
    simp only [VR] at this
    exact ⟨ρ a, by simp [execOp, ho, this, asBool], hρ a v hx⟩
  · rename_i hc
    have := hρ c _ hc
    simp only [VR] at this
    exact ⟨ρ b, by simp [execOp, ho, this, asBool], hρ b v hx⟩
  · cases hx

theorem pu_nilCheck (hρ : OpdR g X dd t l ρ) (x : Operand) : PureOK P X dd d t l ρ g (.nilCheck x) := by
  refine pure_f1 hρ rfl fun a v ha hv o ho w => ?_
  unfold nilC at hv
  split at hv
  · obtain rfl := Option.some.inj hv
    refine ⟨ρ x, ?_, ha⟩
    simp only [VR] at ha
    obtain ⟨c, sh, sz, _, h2⟩ := ha
    simp [execOp, ho, h2]
  · cases hv

theorem run_binOp {op : BinOp} {ty : TypeId} {x y : Operand} {yT : TypeId} {o : Oper} (ho : o.op = .binOp op ty x y yT) {w : World} {c : Value} (h : (binS op ty x y (ρ x) (ρ y)).run P w = .ok c w) : (execOp ρ o).run P w = .ok (.value c) w := by
  unfold binS at h
  simp only [execOp, ho]
  rw [Sem.run_bind]
  rw [h]
  rfl
theorem pu_unOp (hρ : OpdR g X dd t l ρ) (op : UnOp) (ty : TypeId) (x : Operand) : PureOK P X dd d t l ρ g (.unOp op ty x) := by
  cases hop : unF op with
  | none => exact pure_bad (by simp only [plan1, hop])
  | some f =>
    refine pure_f1 hρ (f := f) (x := x) (by simp only [plan1, hop]) fun a v ha hv o ho w => ?_
    unfold unF at hop
    split at hop
    · obtain rfl := Option.some.inj hop
      dsimp only at hv
      split at hv
      · rename_i b
        obtain rfl := Option.some.inj hv
        simp only [VR] at ha
        exact ⟨.bool (!b), by simp [execOp, ho, ha, Op.unary], by simp only [VR]⟩
      · cases hv
    · cases hop
theorem pu_fieldAddr (hρ : OpdR g X dd t l ρ) (s : TypeId) (x : Operand) (f : Nat) : PureOK P X dd d t l ρ g (.fieldAddr s x f) := by
  rcases hfl : fld P s f with _ | ⟨off, sz, ft⟩
  · exact pure_bad (by simp only [plan1, hfl])
  · cases sz with
    | zero => exact pure_bad (by simp only [plan1, hfl])
    | succ sz =>
      obtain ⟨fs, fx, h1, h2, h3, h4, h5⟩ := fld_of hfl
      refine pure_f1 hρ (f := faddr off) (x := x) (by simp only [plan1, hfl]) fun a v ha hv o ho w => ?_
      unfold faddr at hv
      split at hv
      · rename_i b q
        rw [fN_eq] at hv
        obtain rfl := Option.some.inj hv
        simp only [VR] at ha
        obtain ⟨c, sh, sz', hg, hx⟩ := ha
        refine ⟨.pointer (some ⟨c, q + off + sh, none⟩), ?_, by simp only [VR]; exact ⟨c, sh, sz', hg, rfl⟩⟩
        simp only [execOp, ho, Instr.fieldAt, Sem.run_bind, run_und_of h1, Result.andThen_ok, h2, hx, Instr.sureAddr, Sem.run_pure, fieldPlace, h4, run_sizeOf_of h5, Nat.add_eq_zero_iff, Nat.succ_ne_zero, and_false, if_false, Addr.add_lit, h3]
        rw [show q + sh + off = q + off + sh by omega]
      · cases hv
theorem pu_field (hρ : OpdR g X dd t l ρ) (s : TypeId) (x : Operand) (f : Nat) : PureOK P X dd d t l ρ g (.field s x f) := by
  rcases hfl : fld P s f with _ | ⟨off, sz, ft⟩
  · exact pure_bad (by simp only [plan1, hfl])
  · rcases hA : isA P ft with _ | (_ | _)
    · exact pure_bad (by simp only [plan1, hfl, hA])
    · obtain ⟨fs, fx, h1, h2, h3, h4, h5⟩ := fld_of hfl
      refine pure_f1 hρ (f := fieldF off) (x := x) (by simp only [plan1, hfl, hA]) fun a v ha hv o ho w => ?_
      unfold fieldF at hv
      split at hv
      · rename_i cs
        simp only [VR] at ha
        obtain ⟨us, hx, hl⟩ := ha
        rw [nthL_eq] at hv
        obtain ⟨c, hc, hvc⟩ := hl.get off v hv
        refine ⟨c, ?_, hvc⟩
        have hc' : us[off]? = some c := by simpa using hc
        simp [execOp, ho, Instr.field, run_und_of h1, h2, hx, asAgg, part, h4, isA_of hA, h3, hc']
      · cases hv
    · exact pure_bad (by simp only [plan1, hfl, hA])

theorem int_of {g : G} {k : IntKind} {n : Int} {u : Value} (h : VR g (.int k n) u) : u = .int k n := by simpa only [VR] using h

theorem pu_binOp (hρ : OpdR g X dd t l ρ) (op : BinOp) (ty : TypeId) (x y : Operand) (yT : TypeId) : PureOK P X dd d t l ρ g (.binOp op ty x y yT) := by
  by_cases h1 : op = .eql ∨ op = .neq
  · cases he : eqFor P ty x y with
    | none => rcases h1 with rfl | rfl <;> exact pure_bad (by simp only [plan1, he])
    | some e =>
      have key : ∀ (a b : AV) (r : Bool), VR g a (ρ x) → VR g b (ρ y) → e a b = some r → ∀ w : World, (binS .eql ty x y (ρ x) (ρ y)).run P w = .ok (.bool r) w ∧ (binS .neq ty x y (ρ x) (ρ y)).run P w = .ok (.bool (!r)) w :=
        fun a b r ha hb hr w => eqFor_ok he ha hb hr w
      rcases h1 with rfl | rfl
      · refine pure_f2 hρ (f := eqlA e) (x := x) (y := y) (by simp only [plan1, he]) fun a b v ha hb hv o ho w => ?_
        unfold eqlA at hv
        split at hv
        · cases hv
        · rename_i r hr
          obtain rfl := Option.some.inj hv
          exact ⟨_, run_binOp ho (key a b r ha hb hr w).1, by simp only [VR]⟩
      · refine pure_f2 hρ (f := neqA e) (x := x) (y := y) (by simp only [plan1, he]) fun a b v ha hb hv o ho w => ?_
        unfold neqA at hv
        split at hv
        · cases hv
        · rename_i r hr
          obtain rfl := Option.some.inj hv
          exact ⟨_, run_binOp ho (key a b r ha hb hr w).2, by simp only [VR]⟩
  · have hp : plan1 P X dd d (.binOp op ty x y yT) = (match binF op with | some f => .f2 d f (opd X dd x) (opd X dd y) | none => .bad) := by
      cases op <;> first | rfl | (exact absurd (.inl rfl) h1) | (exact absurd (.inr rfl) h1)
    cases hf : binF op with
    | none => exact pure_bad (by rw [hp, hf])
    | some f =>
      refine pure_f2 hρ (f := f) (x := x) (y := y) (by rw [hp, hf]) fun a b v ha hb hv o ho w => ?_
      obtain ⟨c, hc, hvc⟩ := bin_arith (P := P) (w := w) hf ty x y ha hb hv
      exact ⟨c, run_binOp ho hc, hvc⟩

theorem pu_indexAddr (hρ : OpdR g X dd t l ρ) (ty : TypeId) (x i : Operand) : PureOK P X dd d t l ρ g (.indexAddr ty x i) := by
  cases hu : und P ty with
  | none => exact pure_bad (by simp only [plan1, hu])
  | some td =>
    cases td with
    | slice e =>
      cases hs : tsize P e with
      | none => exact pure_bad (by simp only [plan1, hu, hs])
      | some es =>
        refine pure_f2 hρ (f := idx es) (x := x) (y := i) (by simp only [plan1, hu, hs]) fun a b v ha hb hv o ho w => ?_
        unfold idx at hv
        split at hv
        · rename_i bk q es' n c
          split at hv
          · rename_i k j
            split at hv
            · rename_i hlt
              rw [blt_iff] at hlt
              rw [fN_eq] at hv
              obtain rfl := Option.some.inj hv
              have hb := int_of hb
              simp only [VR] at ha
              obtain ⟨c, sh, sz, cp, hg, hx, _⟩ := ha
              refine ⟨.pointer (some ⟨c, q + j * es + sh, none⟩), ?_, by simp only [VR]; exact ⟨c, sh, sz, hg, rfl⟩⟩
              have hlt' : (j : Int) < n := by omega
              simp [execOp, ho, Instr.indexAt, hb, asIntOf, run_und_of hu, hx, hlt, run_sizeOf_of hs, Addr.add_lit]
              omega
            · cases hv
          · cases hv
        · cases hv
    | array m e =>
      cases hs : tsize P e with
      | none => exact pure_bad (by simp only [plan1, hu, hs])
      | some es =>
        refine pure_f2 hρ (f := idxArr m es) (x := x) (y := i) (by simp only [plan1, hu, hs]) fun a b v ha hb hv o ho w => ?_
        unfold idxArr at hv
        split at hv
        · rename_i bk q
          split at hv
          · rename_i k j
            split at hv
            · rename_i hlt
              rw [blt_iff] at hlt
              rw [fN_eq] at hv
              obtain rfl := Option.some.inj hv
              have hb := int_of hb
              simp only [VR] at ha
              obtain ⟨c, sh, sz, hg, hx⟩ := ha
              refine ⟨.pointer (some ⟨c, q + j * es + sh, none⟩), ?_, by simp only [VR]; exact ⟨c, sh, sz, hg, rfl⟩⟩
              have hlt' : (j : Int) < m := by omega
              simp [execOp, ho, Instr.indexAt, hb, asIntOf, run_und_of hu, hx, Instr.sureAddr, hlt, run_sizeOf_of hs, Addr.add_lit]
              omega
            · cases hv
          · cases hv
        · cases hv
    | _ => exact pure_bad (by simp only [plan1, hu])
theorem pu_index (hρ : OpdR g X dd t l ρ) (ty : TypeId) (x i : Operand) : PureOK P X dd d t l ρ g (.index ty x i) := by
  cases hu : und P ty with
  | none => exact pure_bad (by simp only [plan1, hu])
  | some td =>
    cases td with
    | string =>
      refine pure_f2 hρ (f := idxS) (x := x) (y := i) (by simp only [plan1, hu]) fun a b v ha hb hv o ho w => ?_
      unfold idxS at hv
      split at hv
      · rename_i s
        split at hv
        · rename_i k j
          split at hv
          · rename_i c hc
            rw [nthL_eq] at hc
            obtain rfl := Option.some.inj hv
            have hb := int_of hb
            simp only [VR] at ha
            obtain ⟨bs, hx, rfl⟩ := ha
            unfold bytesOf at hc
            simp only [List.getElem?_map, Option.map_eq_some_iff] at hc
            obtain ⟨by_, hby, rfl⟩ := hc
            refine ⟨.int .u8 by_.toNat, ?_, by simp only [VR]; rfl⟩
            have hj : bs[j]? = some by_ := by
              have h2 : bs.data[j]? = some by_ := by simpa using hby
              obtain ⟨h3, h4⟩ := Array.getElem?_eq_some_iff.1 h2
              exact getElem?_eq_some_iff.2 ⟨h3, h4⟩
            simp [execOp, ho, Instr.index, hb, asIntOf, run_und_of hu, hx, hj]
          · cases hv
        · cases hv
      · cases hv
    | _ => exact pure_bad (by simp only [plan1, hu])
theorem pu_extract (hρ : OpdR g X dd t l ρ) (x : Operand) (i : Nat) : PureOK P X dd d t l ρ g (.extract x i) := by
  refine pure_f1 hρ (f := extr i) (x := x) rfl fun a v ha hv o ho w => ?_
  unfold extr at hv
  split at hv
  · rename_i vs
    simp only [VR] at ha
    obtain ⟨us, hx, hl⟩ := ha
    rw [nthL_eq] at hv
    obtain ⟨c, hc, hvc⟩ := hl.get i v hv
    have hc' : us[i]? = some c := by simpa using hc
    exact ⟨c, by simp [execOp, ho, Instr.extract, hx, hc'], hvc⟩
  · cases hv
theorem pu_makeInterface (hρ : OpdR g X dd t l ρ) (ty : TypeId) (x : Operand) : PureOK P X dd d t l ρ g (.makeInterface ty x) := by
  cases hm : mkIf P ty with
  | false => exact pure_bad (by simp only [plan1, hm])
  | true =>
    refine pure_f1 hρ (f := fun v => some (.iface ty v)) (x := x) (by simp only [plan1, hm]) fun a v ha hv o ho w => ?_
    obtain rfl := Option.some.inj hv
    unfold mkIf at hm
    split at hm
    · cases hm
    · cases hm
    · rename_i td hne hu
      refine ⟨.iface ty (ρ x), ?_, by simp only [VR]; exact ⟨ρ x, rfl, ha⟩⟩
      simp only [execOp, ho, Instr.makeInterface, Sem.run_bind, run_und_of hu, Result.andThen_ok]
      cases td <;> first | rfl | exact absurd rfl (hne _)
end
end Go.Eng
