/-
  A part of the proof of casketlaw17.TurnsOwn: the evaluator's soundness, or the law's own steps. By an AI agent.
-/
import Derived.Test.YtjlkbflcdagcbaaGreatDoorSG
import Derived.MapKept
namespace Go.Eng
open Go
section
variable {P : Program} {g : G}

theorem eqPl_eq {t : TypeId} {e : EqF} (he : eqPl P t = some e) {x y : AV} {u v : Value} (hx : VR g x u) (hy : VR g y v) (h : e x y = some true) : u = v := by
  unfold eqPl at he
  split at he
  · obtain rfl := Option.some.inj he
    obtain ⟨a, b, rfl, rfl, hab⟩ := eqB_some h
    simp only [VR] at hx hy
    subst hx; subst hy
    rw [eq_of_beq hab.symm]
  · obtain rfl := Option.some.inj he
    obtain ⟨k, a, b, rfl, rfl, hab⟩ := eqI_some h
    simp only [VR] at hx hy
    subst hx; subst hy
    rw [eq_of_beq hab.symm]
  · obtain rfl := Option.some.inj he
    obtain ⟨a, b, rfl, rfl, hab⟩ := eqS_some h
    simp only [VR] at hx hy
    obtain ⟨bs, rfl, rfl⟩ := hx
    obtain ⟨bs', rfl, rfl⟩ := hy
    rw [bytesOf_inj ((leq_iff _ _).1 hab.symm)]
  · cases he
theorem eqFs_eq : ∀ {fs : List Field} {i : Nat} {es : List EqF}, plainFs P i fs = some es → ∀ {xs ys : List AV} {us vs : List Value}, VRL g xs us → VRL g ys vs → eqFs es xs ys = some true → us = vs
  | [], i, es, he, xs, ys, us, vs, hx, hy, h => by
    obtain rfl := Option.some.inj (show some [] = some es from he)
    cases xs with
    | nil =>
      cases ys with
      | nil => simp only [VRL] at hx hy; rw [hx, hy]
      | cons y ys => cases h
    | cons x xs => cases ys <;> cases h
  | f :: fs, i, es, he, xs, ys, us, vs, hx, hy, h => by
    unfold plainFs at he
    split at he
    · split at he
      · rename_i e es' h1 h2
        obtain rfl := Option.some.inj he
        cases xs with
        | nil => cases ys <;> cases h
        | cons x xs =>
          cases ys with
          | nil => cases h
          | cons y ys =>
            simp only [VRL] at hx hy
            obtain ⟨u, us', rfl, hxu, hxs⟩ := hx
            obtain ⟨v, vs', rfl, hyv, hys⟩ := hy
            unfold eqFs at h
            split at h
            · cases h
            · cases h
            · rename_i hxy
              rw [eqPl_eq h1 hxu hyv hxy, eqFs_eq h2 hxs hys h]
      · cases he
    · cases he
theorem eqKey_eq {t : TypeId} {e : EqF} (he : eqKey P t = some e) {x y : AV} {u v : Value} (hx : VR g x u) (hy : VR g y v) (h : e x y = some true) : u = v := by
  by_cases hp : ∃ e', eqPl P t = some e'
  · obtain ⟨e', he'⟩ := hp
    have : e' = e := by
      unfold eqPl at he'
      unfold eqKey at he
      split at he' <;> rename_i hu <;> first | (rw [hu] at he; simp_all) | cases he'
    subst this
    exact eqPl_eq he' hx hy h
  · unfold eqKey at he
    split at he
    · rename_i hu; exact absurd ⟨_, by unfold eqPl; rw [hu]⟩ hp
    · rename_i hu; exact absurd ⟨_, by unfold eqPl; rw [hu]⟩ hp
    · rename_i hu; exact absurd ⟨_, by unfold eqPl; rw [hu]⟩ hp
    · rename_i fs hu
      split at he
      · split at he
        · rename_i es hes
          obtain rfl := Option.some.inj he
          unfold eqAg at h
          split at h
          · split at h
            · simp only [VR] at hx hy
              obtain ⟨us, rfl, hx⟩ := hx
              obtain ⟨vs, rfl, hy⟩ := hy
              rw [Array.toList_inj.1 (eqFs_eq hes hx hy h)]
            · cases h
          · cases h
        · cases he
      · cases he
    · cases he

/-- a value of a key's type: what it is like -/
theorem eqKey_find {t : TypeId} {e : EqF} (he : eqKey P t = some e) {x y : AV} {u v : Value} (hx : VR g x u) (hy : VR g y v) {r : Bool} (h : e x y = some r) :
    ∃ td, und P t = some td ∧ (Instr.sameNow td u v = some r ∨ Instr.sameNow td u v = none) := by
  unfold eqKey at he
  split at he
  · rename_i hu
    obtain rfl := Option.some.inj he
    obtain ⟨a, b, rfl, rfl, rfl⟩ := eqB_some h
    simp only [VR] at hx hy
    subst hx; subst hy
    exact ⟨_, hu, .inl rfl⟩
  · rename_i hu
    obtain rfl := Option.some.inj he
    obtain ⟨k, a, b, rfl, rfl, rfl⟩ := eqI_some h
    simp only [VR] at hx hy
    subst hx; subst hy
    exact ⟨_, hu, .inl (by simp [Instr.sameNow])⟩
  · rename_i hu
    obtain rfl := Option.some.inj he
    obtain ⟨a, b, rfl, rfl, rfl⟩ := eqS_some h
    simp only [VR] at hx hy
    obtain ⟨bs, rfl, rfl⟩ := hx
    obtain ⟨bs', rfl, rfl⟩ := hy
    refine ⟨_, hu, .inl ?_⟩
    simp only [Instr.sameNow, Option.some.injEq]
    rw [leq_bytes, beq_toListBytes, toList_beq]
  · rename_i fs hu
    refine ⟨_, hu, .inr ?_⟩
    cases u <;> cases v <;> rfl
  · cases he

/-- the place of the first entry of that key -/
def idxK (e : EqF) (k : AV) : List (AV × AV × Nat) → Option (Option Nat)
  | [] => some none
  | (a, _, _) :: es => match e k a with
    | none => none
    | some true => some (some 0)
    | some false => (idxK e k es).map (·.map (· + 1))

theorem findNow_run {t : TypeId} {e : EqF} (he : eqKey P t = some e) {td : TypeDesc} (hu : und P t = some td) {k : AV} {ku : Value} (hk : VR g k ku) :
    ∀ {es : List (AV × AV × Nat)} {l : List MapEntry} {r : Option Nat}, MR g es l → idxK e k es = some r → ∀ i, Instr.findNow td ku l i = none ∨ Instr.findNow td ku l i = some (r.bind fun j => (l[j]?).map fun en => (i + j, en.val))
  | [], l, r, hm, h, i => by
    simp only [MR] at hm
    subst hm
    obtain rfl := Option.some.inj (show some none = some r from h)
    exact .inr rfl
  | (a, v, s) :: es, l, r, hm, h, i => by
    obtain ⟨en, l', rfl, hka, hva, hs, hm'⟩ := hm
    unfold idxK at h
    split at h
    · cases h
    · rename_i heq
      obtain rfl := Option.some.inj h
      obtain ⟨td', hu', hsame⟩ := eqKey_find he hk hka heq
      rw [hu] at hu'
      obtain rfl := Option.some.inj hu'
      unfold Instr.findNow
      rcases hsame with hsame | hsame
      · rw [hsame]; exact .inr (by simp)
      · rw [hsame]; exact .inl rfl
    · rename_i heq
      obtain ⟨td', hu', hsame⟩ := eqKey_find he hk hka heq
      rw [hu] at hu'
      obtain rfl := Option.some.inj hu'
      cases hi : idxK e k es with
      | none => rw [hi] at h; cases h
      | some r' =>
        rw [hi] at h
        obtain rfl := Option.some.inj h
        unfold Instr.findNow
        rcases hsame with hsame | hsame
        · rw [hsame]
          rcases findNow_run he hu hk hm' hi (i + 1) with h1 | h1
          · exact .inl h1
          · right
            simp only
            rw [h1]
            cases r' <;> simp [Nat.add_assoc, Nat.add_comm 1]
        · rw [hsame]; exact .inl rfl

theorem findAsking_run {t : TypeId} {e : EqF} (he : eqKey P t = some e) {k : AV} {ku : Value} (hk : VR g k ku) (w : World) :
    ∀ {es : List (AV × AV × Nat)} {l : List MapEntry} {r : Option Nat}, MR g es l → idxK e k es = some r → ∀ i, (Instr.findAsking t ku l i).run P w = .ok (r.bind fun j => (l[j]?).map fun en => (i + j, en.val)) w
  | [], l, r, hm, h, i => by
    simp only [MR] at hm
    subst hm
    obtain rfl := Option.some.inj (show some none = some r from h)
    rfl
  | (a, v, s) :: es, l, r, hm, h, i => by
    obtain ⟨en, l', rfl, hka, hva, hs, hm'⟩ := hm
    unfold idxK at h
    unfold Instr.findAsking
    split at h
    · cases h
    · rename_i heq
      obtain rfl := Option.some.inj h
      rw [Sem.run_bind, eqKey_ok he hk hka heq w]
      simp
    · rename_i heq
      cases hi : idxK e k es with
      | none => rw [hi] at h; cases h
      | some r' =>
        rw [hi] at h
        obtain rfl := Option.some.inj h
        rw [Sem.run_bind, eqKey_ok he hk hka heq w]
        simp only [Result.andThen_ok, Bool.false_eq_true, if_false]
        rw [findAsking_run he hk w hm' hi (i + 1)]
        cases r' <;> simp [Nat.add_assoc, Nat.add_comm 1]

theorem findKey_run {t : TypeId} {e : EqF} (he : eqKey P t = some e) {k : AV} {ku : Value} (hk : VR g k ku) (w : World) {es : List (AV × AV × Nat)} {l : List MapEntry} {r : Option Nat} (hm : MR g es l) (h : idxK e k es = some r) :
    (Instr.findKey t ku l).run P w = .ok (r.bind fun j => (l[j]?).map fun en => (j, en.val)) w := by
  have hu : ∃ td, und P t = some td := by
    unfold eqKey at he
    split at he <;> first | exact ⟨_, by assumption⟩ | cases he
  obtain ⟨td, hu⟩ := hu
  unfold Instr.findKey
  rw [Sem.run_bind, run_und_of hu]
  simp only [Result.andThen_ok]
  rcases findNow_run he hu hk hm h 0 with h1 | h1
  · rw [h1]
    have := findAsking_run he hk w hm h 0
    simpa using this
  · rw [h1]
    simp
end
end Go.Eng

namespace Go.Eng
open Go
section
variable {P : Program} {X dd : List Nat} {d : Nat} {t l : E} {ρ : Operand → Value} {g : G}

theorem checkPl {ty : TypeId} {e : EqF} (he : eqPl P ty = some e) {x y : AV} {r : Bool} (h : e x y = some r) {u : Value} (hx : VR g x u) (em : Bool) (n : Nat) (w : World) : (Instr.checkKey em (n + 1) ty u).run P w = .ok () w := by
  unfold eqPl at he
  split at he
  · rename_i hu
    obtain rfl := Option.some.inj he
    obtain ⟨a, b, rfl, rfl, rfl⟩ := eqB_some h
    simp only [VR] at hx
    subst hx
    simp [Instr.checkKey, run_und_of hu]
  · rename_i hu
    obtain rfl := Option.some.inj he
    obtain ⟨k, a, b, rfl, rfl, rfl⟩ := eqI_some h
    simp only [VR] at hx
    subst hx
    simp [Instr.checkKey, run_und_of hu]
  · rename_i hu
    obtain rfl := Option.some.inj he
    obtain ⟨a, b, rfl, rfl, rfl⟩ := eqS_some h
    simp only [VR] at hx
    obtain ⟨bs, rfl, rfl⟩ := hx
    simp [Instr.checkKey, run_und_of hu]
  · cases he
theorem eqPl_refl {ty : TypeId} {e : EqF} (he : eqPl P ty = some e) {x : AV} {r : Bool} (h : e x x = some r) : r = true := by
  unfold eqPl at he
  split at he
  · obtain rfl := Option.some.inj he
    obtain ⟨a, b, h1, h2, rfl⟩ := eqB_some h
    rw [h1] at h2
    cases h2
    simp
  · obtain rfl := Option.some.inj he
    obtain ⟨k, a, b, h1, h2, rfl⟩ := eqI_some h
    rw [h1] at h2
    cases h2
    simp
  · obtain rfl := Option.some.inj he
    obtain ⟨a, b, h1, h2, rfl⟩ := eqS_some h
    rw [h1] at h2
    cases h2
    exact (leq_iff _ _).2 rfl
  · cases he
theorem forIn_ok {α : Type} (F : α → PUnit → Sem (ForInStep PUnit)) (w : World) : ∀ (l : List α), (∀ a ∈ l, (F a ⟨⟩).run P w = .ok (.yield ⟨⟩) w) → (forIn l PUnit.unit F).run P w = .ok ⟨⟩ w
  | [], _ => rfl
  | a :: l, h => by
    rw [List.forIn_cons, Sem.run_bind, h a (by simp)]
    exact forIn_ok F w l fun b hb => h b (by simp [hb])
theorem fieldFacts : ∀ {fs : List Field} {i : Nat} {es : List EqF}, plainFs P i fs = some es → ∀ {xs : List AV} {us : Array Value} {r : Bool}, VRL g xs (us.toList.drop i) → eqFs es xs xs = some r →
    ∀ f ∈ fs, ∃ e x u r', eqPl P f.type = some e ∧ us[f.offset]? = some u ∧ VR g x u ∧ e x x = some r'
  | [], i, es, he, xs, us, r, hx, h, f, hf => by cases hf
  | f :: fs, i, es, he, xs, us, r, hx, h, f', hf => by
    unfold plainFs at he
    split at he
    · rename_i hc
      simp only [Bool.and_eq_true, bne_iff_ne, ne_eq] at hc
      obtain ⟨hn, ho⟩ := hc
      have ho := Nat.eq_of_beq_eq_true ho
      split at he
      · rename_i e es' h1 h2
        obtain rfl := Option.some.inj he
        cases xs with
        | nil => cases h
        | cons x xs =>
          simp only [VRL] at hx
          obtain ⟨u, us', hu, hxu, hxs⟩ := hx
          have hu0 : us[i]? = some u := by
            have := congrArg (fun l => l[0]?) hu
            simpa using this
          have hud : us.toList.drop (i + 1) = us' := by
            have := congrArg (List.drop 1) hu
            simpa [List.drop_drop, Nat.add_comm] using this
          unfold eqFs at h
          split at h
          · cases h
          · rename_i hxy
            have := eqPl_refl h1 hxy
            cases this
          · rename_i hxy
            cases hf with
            | head => exact ⟨e, x, u, true, h1, by rw [ho]; exact hu0, hxu, hxy⟩
            | tail _ hf => exact fieldFacts h2 (by rw [hud]; exact hxs) h f' hf
      · cases he
    · cases he
theorem checkKey_run {ty : TypeId} {e : EqF} (he : eqKey P ty = some e) {x : AV} {r : Bool} (h : e x x = some r) {u : Value} (hx : VR g x u) (em : Bool) (n : Nat) (w : World) : (Instr.checkKey em (n + 1 + 1) ty u).run P w = .ok () w := by
  by_cases hp : ∃ e', eqPl P ty = some e'
  · obtain ⟨e', he'⟩ := hp
    have : e' = e := by
      unfold eqPl at he'
      unfold eqKey at he
      split at he' <;> rename_i hu <;> first | (rw [hu] at he; simp_all) | cases he'
    subst this
    exact checkPl he' h hx em (n + 1) w
  · unfold eqKey at he
    split at he
    · rename_i hu; exact absurd ⟨_, by unfold eqPl; rw [hu]⟩ hp
    · rename_i hu; exact absurd ⟨_, by unfold eqPl; rw [hu]⟩ hp
    · rename_i hu; exact absurd ⟨_, by unfold eqPl; rw [hu]⟩ hp
    · rename_i fs hu
      split at he
      · split at he
        · rename_i es hes
          obtain rfl := Option.some.inj he
          unfold eqAg at h
          split at h
          · rename_i a
            simp only [VR] at hx
            obtain ⟨us, rfl, hx⟩ := hx
            unfold Instr.checkKey
            simp only [Sem.run_bind, run_und_of hu, Result.andThen_ok]
            rw [← Array.forIn_toList]
            refine (congrArg (fun x : Result PUnit => x.andThen fun _ w' => (pure () : Sem Unit).run P w') (forIn_ok (P := P) _ w _ fun f hf => ?_)).trans rfl
            obtain ⟨e, x, u, r', h1, h2, h3, h4⟩ := fieldFacts hes (by simpa using hx) h f hf
            have hpu : (part f.type us f.offset).run P w = .ok u w := by simp [part, isA_plain h1, h2]
            split
            · simp only [Sem.run_bind, hpu, Result.andThen_ok, checkPl h1 h4 h3 em n w, Sem.run_pure]
            · rfl
          · cases h
        · cases he
      · cases he
    · cases he

theorem MR.length : ∀ {es : List (AV × AV × Nat)} {l : List MapEntry}, MR g es l → es.length = l.length
  | [], _, h => by simp only [MR] at h; subst h; rfl
  | (k, v, s) :: es, _, h => by
    obtain ⟨e, l', rfl, _, _, _, h5⟩ := h
    simp [MR.length h5]
theorem MR.get : ∀ {es : List (AV × AV × Nat)} {l : List MapEntry}, MR g es l → ∀ (i : Nat) (k v : AV) (s : Nat), es[i]? = some (k, v, s) → ∃ e, l[i]? = some e ∧ VR g k e.key ∧ VR g v e.val ∧ e.born = s
  | [], _, _, i, k, v, s, hi => by simp at hi
  | (k', v', s') :: es, _, h, i, k, v, s, hi => by
    obtain ⟨e, l', rfl, h2, h3, h4, h5⟩ := h
    cases i with
    | zero =>
      simp only [List.getElem?_cons_zero, Option.some.injEq, Prod.mk.injEq] at hi
      obtain ⟨rfl, rfl, rfl⟩ := hi
      exact ⟨e, rfl, h2, h3, h4⟩
    | succ i => exact MR.get h5 i k v s (by simpa using hi)
theorem findK_idx (e : EqF) (k : AV) : ∀ {es : List (AV × AV × Nat)} {r : Option (AV × Nat)}, findK e k es = some r → ∃ ri, idxK e k es = some ri ∧
    (match r with | none => ri = none | some (v, s) => ∃ i a, ri = some i ∧ es[i]? = some (a, v, s) ∧ e k a = some true)
  | [], r, h => by
    obtain rfl := Option.some.inj (show some none = some r from h)
    exact ⟨none, rfl, rfl⟩
  | (a, v, s) :: es, r, h => by
    unfold findK at h
    unfold idxK
    split at h
    · cases h
    · rename_i heq
      obtain rfl := Option.some.inj h
      rw [heq]
      exact ⟨some 0, rfl, 0, a, rfl, rfl, heq⟩
    · rename_i heq
      rw [heq]
      obtain ⟨ri, h1, h2⟩ := findK_idx e k h
      refine ⟨ri.map (· + 1), by simp [h1], ?_⟩
      cases r with
      | none => simp only at h2; subst h2; rfl
      | some p =>
        obtain ⟨i, b, rfl, h4, h5⟩ := h2
        exact ⟨i + 1, b, rfl, by simpa using h4, h5⟩

theorem mapOf_some {h : H} {x : AV} {es : List (AV × AV × Nat)} (hm : mapOf h x = some es) : (x = .map0 ∧ es = []) ∨ ∃ b c, x = .map b ∧ h.get b = some (.map es c) := by
  unfold mapOf at hm
  split at hm
  · exact .inl ⟨rfl, (Option.some.inj hm).symm⟩
  · rename_i b
    split at hm
    · rename_i es' c hb
      obtain rfl := Option.some.inj hm
      exact .inr ⟨b, c, rfl, hb⟩
    · cases hm
  · cases hm
theorem zeroA_of {ty : TypeId} {z : AV} (h : zeroA P ty = some z) : ∃ i v, P.info? ty = some i ∧ i.zero = some v ∧ ∀ g, VR g z v := by
  unfold zeroA at h
  split at h
  · cases h
  · rename_i i hi
    split at h
    · cases h
    · rename_i v hv
      refine ⟨i, v, info_of hi, hv, fun g => ?_⟩
      split at h
      · rename_i cs
        split at h
        · rename_i l hl
          obtain rfl := Option.some.inj h
          simp only [VR]
          exact ⟨cs, rfl, ofCells_VRL hl⟩
        · cases h
      · exact ofConst_VR h

theorem re_lookup (hρ : OpdR g X dd t l ρ) (ty : TypeId) (x k : Operand) (ok : Bool) : ReadOK P X dd d t l ρ g (.lookup ty x k ok) := by
  cases hu : und P ty with
  | none => exact (pure_bad (by simp only [plan1, hu])).read
  | some td =>
    cases td with
    | map kt el =>
      cases hz : zeroA P el with
      | none => exact (pure_bad (by simp only [plan1, hu, hz])).read
      | some z =>
        cases he : eqKey P kt with
        | none => exact (pure_bad (by simp only [plan1, hu, hz, he])).read
        | some e =>
          intro o ho h h' v hi
          simp only [plan1, hu, hz, he, insV, ofO_ok, oB2_some] at hi ⊢
          obtain ⟨⟨a, b, ha, hb, hl⟩, rfl⟩ := hi
          unfold lookF at hl
          split at hl
          · cases hl
          · rename_i r0 hr0
            split at hl
            · cases hl
            · rename_i es hes
              refine ⟨rfl, fun h2 hle => ⟨⟨a, b, ha, hb, ?_⟩, trivial⟩, fun w hr => ?_⟩
              · unfold lookF
                rw [hr0]
                have : mapOf h2 a = some es := by
                  rcases mapOf_some hes with ⟨rfl, rfl⟩ | ⟨bm, c, rfl, hg⟩
                  · rfl
                  · simp only [mapOf, hle _ _ hg]
                rw [this]
                exact hl
              · have hax := hρ x a ha
                have hbk := hρ k b hb
                obtain ⟨iz, zv, hiz, hzv, hzr⟩ := zeroA_of hz
                have hck : ∀ em, (Instr.checkKey em 10000 kt (ρ k)).run P w = .ok () w := fun em => checkKey_run he hr0 hbk em 9998 w
                have hentries : ∃ arr : Array MapEntry, MR g es arr.toList ∧ ((ρ x = .map none ∧ arr = #[]) ∨ ∃ c cl, ρ x = .map (some c) ∧ w.heap[c]? = some (.map arr cl)) := by
                  rcases mapOf_some hes with ⟨rfl, rfl⟩ | ⟨bm, c, rfl, hg⟩
                  · simp only [VR] at hax
                    exact ⟨#[], rfl, .inl ⟨hax, rfl⟩⟩
                  · simp only [VR] at hax
                    obtain ⟨c', sh, sz, hgb, hx⟩ := hax
                    obtain ⟨ob, hob, arr, rfl, hm⟩ := hr.blk _ _ hg _ _ _ hgb
                    exact ⟨arr, hm, .inr ⟨c', c, hx, hob⟩⟩
                obtain ⟨arr, hm, hx⟩ := hentries
                unfold lookV at hl
                have step : ∀ r, (Instr.findKey kt (ρ k) arr.toList).run P w = .ok r w → (execOp ρ o).run P w = .ok (.value (match r with
                    | some (_, u) => (if ok then .tuple #[u, .bool true] else u)
                    | none => (if ok then .tuple #[zv, .bool false] else zv))) w := by
                  intro r hrr
                  rcases hx with ⟨hx, rfl⟩ | ⟨c, cl, hx, hh⟩
                  · cases r with
                    | none => simp [execOp, ho, Instr.lookup, run_und_of hu, hx, hck, hrr, zeroValue, typeInfo, hiz, hzv]
                    | some p => simp [execOp, ho, Instr.lookup, run_und_of hu, hx, hck, hrr]
                  · cases r with
                    | none => simp [execOp, ho, Instr.lookup, run_und_of hu, hx, getObj, Sem.run, hh, hck, hrr, zeroValue, typeInfo, hiz, hzv]
                    | some p => simp [execOp, ho, Instr.lookup, run_und_of hu, hx, getObj, Sem.run, hh, hck, hrr]
                split at hl
                · cases hl
                · rename_i v0 s0 hf
                  obtain rfl := Option.some.inj hl
                  obtain ⟨ri, h1, i, a0, rfl, h3, h4⟩ := findK_idx e b hf
                  obtain ⟨en, hen, _, hv, _⟩ := hm.get i a0 v0 s0 h3
                  have := step _ (findKey_run he hbk w hm h1)
                  simp only [Option.bind_some, hen, Option.map_some] at this
                  refine ⟨_, this, ?_⟩
                  cases ok
                  · exact hv
                  · simp only [VR, VRL]
                    exact ⟨_, rfl, _, _, rfl, hv, _, _, rfl, rfl, rfl⟩
                · rename_i hf
                  obtain rfl := Option.some.inj hl
                  obtain ⟨ri, h1, rfl⟩ := findK_idx e b hf
                  have := step _ (findKey_run he hbk w hm h1)
                  simp only [Option.bind_none] at this
                  refine ⟨_, this, ?_⟩
                  cases ok
                  · exact hzr g
                  · simp only [VR, VRL]
                    exact ⟨_, rfl, _, _, rfl, hzr g, _, _, rfl, rfl, rfl⟩
    | _ => exact (pure_bad (by simp only [plan1, hu])).read
end
end Go.Eng

namespace Go.Eng
open Go
section
variable {P : Program} {X dd : List Nat} {d : Nat} {t l : E} {ρ : Operand → Value} {g : G}

def OptN (ρ : Operand → Value) : Option Operand → Option Nat → Prop
  | none, n => n = none
  | some y, n => ∃ k m, ρ y = .int k (m : Nat) ∧ n = some m
theorem natO_some {v : AV} {n : Option Nat} (h : natO (some v) = some n) {u : Value} (hv : VR g v u) : ∃ k m, u = .int k (m : Nat) ∧ n = some m := by
  unfold natO at h
  split at h
  · rename_i e; cases e
  · rename_i k m e
    obtain rfl := Option.some.inj e
    exact ⟨k, m, int_of hv, (Option.some.inj h).symm⟩
  · cases h
theorem sliceB_ok (lo hi : Option Operand) (x : Operand) {vs : List AV} (hv : VRL g vs ((x :: (opts lo ++ opts hi)).map ρ)) {a : AV} {la ha : Option AV}
    (hb : sliceB (isSome' lo) (isSome' hi) vs = some (a, la, ha)) {l' h' : Option Nat} (hl : natO la = some l') (hh : natO ha = some h') : VR g a (ρ x) ∧ OptN ρ lo l' ∧ OptN ρ hi h' := by
  cases vs with
  | nil => cases hb
  | cons v0 vs =>
    cases lo <;> cases hi <;> simp only [opts, isSome', List.map_cons, List.map_nil, List.nil_append, List.cons_append, VRL] at hv hb
    · obtain ⟨y, ys, e, h1, h2⟩ := hv
      cases e
      have : vs = [] := by cases vs with
        | nil => rfl
        | cons v vs => simp only [VRL] at h2; obtain ⟨_, _, e, _⟩ := h2; cases e
      subst this
      simp only [sliceB, Option.some.injEq, Prod.mk.injEq] at hb
      obtain ⟨rfl, rfl, rfl⟩ := hb
      obtain rfl := Option.some.inj (show some none = some l' from hl)
      obtain rfl := Option.some.inj (show some none = some h' from hh)
      exact ⟨h1, rfl, rfl⟩
    · obtain ⟨y, ys, e, h1, h2⟩ := hv
      cases e
      cases vs with
      | nil => simp only [VRL] at h2; cases h2
      | cons v vs =>
        simp only [VRL] at h2
        obtain ⟨_, _, e, h3, h4⟩ := h2
        cases e
        have : vs = [] := by cases vs with
          | nil => rfl
          | cons v vs => simp only [VRL] at h4; obtain ⟨_, _, e, _⟩ := h4; cases e
        subst this
        simp only [sliceB, Option.some.injEq, Prod.mk.injEq] at hb
        obtain ⟨rfl, rfl, rfl⟩ := hb
        obtain rfl := Option.some.inj (show some none = some l' from hl)
        obtain ⟨k, m, e1, e2⟩ := natO_some hh h3
        exact ⟨h1, rfl, k, m, e1, e2⟩
    · obtain ⟨y, ys, e, h1, h2⟩ := hv
      cases e
      cases vs with
      | nil => simp only [VRL] at h2; cases h2
      | cons v vs =>
        simp only [VRL] at h2
        obtain ⟨_, _, e, h3, h4⟩ := h2
        cases e
        have : vs = [] := by cases vs with
          | nil => rfl
          | cons v vs => simp only [VRL] at h4; obtain ⟨_, _, e, _⟩ := h4; cases e
        subst this
        simp only [sliceB, Option.some.injEq, Prod.mk.injEq] at hb
        obtain ⟨rfl, rfl, rfl⟩ := hb
        obtain rfl := Option.some.inj (show some none = some h' from hh)
        obtain ⟨k, m, e1, e2⟩ := natO_some hl h3
        exact ⟨h1, ⟨k, m, e1, e2⟩, rfl⟩
    · obtain ⟨y, ys, e, h1, h2⟩ := hv
      cases e
      cases vs with
      | nil => simp only [VRL] at h2; cases h2
      | cons v vs =>
        simp only [VRL] at h2
        obtain ⟨_, _, e, h3, h4⟩ := h2
        cases e
        cases vs with
        | nil => simp only [VRL] at h4; cases h4
        | cons v' vs =>
          simp only [VRL] at h4
          obtain ⟨_, _, e, h5, h6⟩ := h4
          cases e
          have : vs = [] := by cases vs with
            | nil => rfl
            | cons v vs => simp only [VRL] at h6; obtain ⟨_, _, e, _⟩ := h6; cases e
          subst this
          simp only [sliceB, Option.some.injEq, Prod.mk.injEq] at hb
          obtain ⟨rfl, rfl, rfl⟩ := hb
          obtain ⟨k, m, e1, e2⟩ := natO_some hl h3
          obtain ⟨k', m', e1', e2'⟩ := natO_some hh h5
          exact ⟨h1, ⟨k, m, e1, e2⟩, k', m', e1', e2'⟩

theorem bound_run {k : IntKind} {n y : Nat} (h : n ≤ y) (code : BoundsCode) (w : World) : (Instr.sliceBound (.int k n) y code).run P w = .ok n w := by
  simp [Instr.sliceBound, asIntOf, h]
theorem bounds_run (lo hi : Option Operand) {l' h' : Option Nat} (h1 : OptN ρ lo l') (h2 : OptN ρ hi h') {len cap : Nat} (hl : dfl l' 0 ≤ dfl h' len) (hh : dfl h' len ≤ cap) (b : Bool) (w : World) :
    (Instr.sliceBounds b len cap (lo.map ρ) (hi.map ρ) none).run P w = .ok (dfl l' 0, dfl h' len, cap) w := by
  cases lo <;> cases hi
  · simp only [OptN] at h1 h2
    subst h1; subst h2
    simp [Instr.sliceBounds, dfl]
  · simp only [OptN] at h1 h2
    obtain ⟨k, m, e, rfl⟩ := h2
    subst h1
    simp only [dfl] at hl hh
    simp [Instr.sliceBounds, dfl, e, bound_run hh]
  · simp only [OptN] at h1 h2
    obtain ⟨k, m, e, rfl⟩ := h1
    subst h2
    simp only [dfl] at hl hh
    simp [Instr.sliceBounds, dfl, e, bound_run hl]
  · simp only [OptN] at h1 h2
    obtain ⟨k, m, e, rfl⟩ := h1
    obtain ⟨k', m', e', rfl⟩ := h2
    simp only [dfl] at hl hh
    simp [Instr.sliceBounds, dfl, e, e', bound_run hl, bound_run hh]

/-- what a slice's capacity is -/
def CapR (cap : Option Nat) (cp es off sz : Nat) : Prop := match cap with | some k => cp = k | none => cp * es + off = sz
/-- how much room is known of -/
theorem HR.room {h : H} {w : World} (hr : HR P g h w) {b : Ps} {o es len : Nat} {cap : Option Nat} {u : Value} (he : 0 < es) (hv : VR g (.sl b o es len cap) u) :
    ∃ c sh sz cp, g b = some (c, sh, sz) ∧ u = .slice (some ⟨c, o + sh, none⟩) len cp ∧ CapR cap cp es (o + sh) sz ∧ roomOf h b o es cap ≤ cp := by
  simp only [VR] at hv
  obtain ⟨c, sh, sz, cp, hg, hu, hc⟩ := hv
  refine ⟨c, sh, sz, cp, hg, hu, (by cases cap <;> exact hc), ?_⟩
  unfold roomOf
  cases cap with
  | some k => simp only at hc ⊢; omega
  | none =>
    simp only at hc ⊢
    split
    · rename_i vs m gr hb
      obtain ⟨cs, el, fz, _, h2, h3, _⟩ := hr.cells hb hg
      have : m - o ≤ cp * es := by omega
      calc (m - o) / es ≤ (cp * es) / es := Nat.div_le_div_right this
        _ = cp := Nat.mul_div_cancel _ he
    · omega

theorem HLe.room {h h2 : H} (hle : HLe h h2) (b : Ps) (o es : Nat) (c : Option Nat) : roomOf h b o es c ≤ roomOf h2 b o es c := by
  unfold roomOf
  cases c with
  | some c => exact Nat.le_refl _
  | none =>
    simp only
    split
    · rename_i vs m gr hb
      rw [hle _ _ hb]
      exact Nat.le_refl _
    · omega

theorem slMk_mono {h h2 : H} (hle : HLe h h2) {b : Ps} {o es l r : Nat} {c : Option Nat} {v : AV} (hv : slMk h b o es c l r = some v) : slMk h2 b o es c l r = some v := by
  unfold slMk at *
  cases c with
  | some c => exact hv
  | none =>
    simp only at *
    split
    · rename_i e; rw [e] at hv; exact hv
    · rename_i e
      rw [e] at hv
      simp only at hv
      split at hv
      · rename_i hlt
        have := blt_iff.1 hlt
        rw [blt_iff.2 (Nat.lt_of_lt_of_le this (hle.room b o es none))]
        exact hv
      · cases hv
theorem slMk_ok {h : H} {w : World} (hr : HR P g h w) {b : Ps} {o es l r : Nat} {cap : Option Nat} {v : AV} (he : 0 < es) {c sh sz cp : Nat} (hg : g b = some (c, sh, sz)) (hc : CapR cap cp es (o + sh) sz) (hroom : roomOf h b o es cap ≤ cp) (hlr : l ≤ r) (hrc : r ≤ cp)
    (hv : slMk h b o es cap l r = some v) : VR g v (.slice (some (if cp = l then ⟨c, o + sh, none⟩ else ⟨c, o + sh + l * es, none⟩)) (r - l) (cp - l)) := by
  unfold slMk at hv
  cases cap with
  | some k =>
    simp only [CapR] at hc
    subst hc
    simp only at hv
    split at hv
    · rename_i e
      obtain rfl := Nat.eq_of_beq_eq_true e
      obtain rfl := Option.some.inj hv
      rw [if_pos rfl]
      simp only [VR]
      exact ⟨c, sh, sz, _, hg, rfl, rfl⟩
    · rename_i e
      rw [fN_eq, fN_eq] at hv
      obtain rfl := Option.some.inj hv
      rw [if_neg (bne_of e)]
      simp only [VR]
      refine ⟨c, sh, sz, _, hg, ?_, rfl⟩
      rw [show o + l * es + sh = o + sh + l * es by omega]
  | none =>
    simp only [CapR] at hc
    simp only at hv
    split at hv
    · rename_i e
      obtain rfl := Nat.eq_of_beq_eq_true e
      rw [fN_eq] at hv
      obtain rfl := Option.some.inj hv
      simp only [VR, Nat.sub_zero, Nat.zero_mul, Nat.add_zero, ite_self]
      exact ⟨c, sh, sz, cp, hg, rfl, hc⟩
    · split at hv
      · rename_i hlt
        have hlt := blt_iff.1 hlt
        rw [fN_eq, fN_eq] at hv
        obtain rfl := Option.some.inj hv
        rw [if_neg (by omega)]
        simp only [VR]
        refine ⟨c, sh, sz, cp - l, hg, ?_, ?_⟩
        · rw [show o + l * es + sh = o + sh + l * es by omega]
        · have : cp * es = (cp - l) * es + l * es := by rw [← Nat.add_mul, Nat.sub_add_cancel (by omega)]
          omega
      · cases hv

theorem bytesOf_extract (s : ByteArray) (a b : Nat) : bytesOf (s.extract a b) = ((bytesOf s).drop a).take (b - a) := by
  unfold bytesOf
  rw [ByteArray.data_extract, Array.toList_extract, List.extract_eq_take_drop, List.map_take, List.map_drop]
theorem bytesOf_length (s : ByteArray) : (bytesOf s).length = s.size := by
  unfold bytesOf
  rw [List.length_map, Array.length_toList]
  rfl

theorem re_slice (hρ : OpdR g X dd t l ρ) (ty : TypeId) (x : Operand) (lo hi mx : Option Operand) : ReadOK P X dd d t l ρ g (.slice ty x lo hi mx) := by
  cases mx with
  | some m => exact (pure_bad (by simp only [plan1])).read
  | none =>
    cases hu : und P ty with
    | none => exact (pure_bad (by simp only [plan1, hu])).read
    | some td =>
      have main : ∀ es, plan1 P X dd d (.slice ty x lo hi none) = .a1 d (sliceR es (isSome' lo) (isSome' hi)) (opds X dd (x :: (opts lo ++ opts hi))) →
          (∀ (h : H) (a v : AV) (l' h' : Option Nat), VR g a (ρ x) → OptN ρ lo l' → OptN ρ hi h' → sliceV es h a l' h' = some v →
            (∀ h2, HLe h h2 → sliceV es h2 a l' h' = some v) ∧ ∀ (o : Oper) w, o.op = .slice ty x lo hi none → HR P g h w → ∃ c, (execOp ρ o).run P w = .ok (.value c) w ∧ VR g v c) →
          ReadOK P X dd d t l ρ g (.slice ty x lo hi none) := by
        intro es hp hm o ho h h' v hi'
        rw [hp] at hi' ⊢
        simp only [insV, rL_ok] at hi' ⊢
        obtain ⟨vs, hvs, hs⟩ := hi'
        have hvl := getL_VRL hρ hvs
        unfold sliceR at hs
        split at hs
        · cases hs
        · rename_i a la ha hb
          split at hs
          · rename_i l' h'' hl hh
            split at hs
            · rename_i v' hv'
              simp only [RV.ok.injEq] at hs
              obtain ⟨rfl, rfl⟩ := hs
              obtain ⟨h1, h2, h3⟩ := sliceB_ok lo hi x hvl hb hl hh
              obtain ⟨m1, m2⟩ := hm h a v' l' h'' h1 h2 h3 hv'
              refine ⟨rfl, fun h2 hle => ⟨vs, hvs, ?_⟩, fun w hr => m2 o w ho hr⟩
              unfold sliceR
              rw [hb]
              simp only [hl, hh, m1 h2 hle]
            · cases hs
          · cases hs
      cases td with
      | slice e =>
        cases hs : tsize P e with
        | none => exact (pure_bad (by simp only [plan1, hu, hs])).read
        | some es0 =>
          cases es0 with
          | zero => exact (pure_bad (by simp only [plan1, hu, hs])).read
          | succ es =>
            refine main (es + 1) (by simp only [plan1, hu, hs]) fun h a v l' h' ha hlo hhi hv => ?_
            have exec : ∀ (o : Oper) w (bse : Option Addr) (n cp : Nat), o.op = .slice ty x lo hi none → ρ x = .slice bse n cp → dfl l' 0 ≤ dfl h' n → dfl h' n ≤ cp →
                (execOp ρ o).run P w = .ok (.value (.slice (if cp = dfl l' 0 then bse else bse.map (·.add (dfl l' 0 * (es + 1)))) (dfl h' n - dfl l' 0) (cp - dfl l' 0))) w := by
              intro o w bse n cp ho hx h1 h2
              have := bounds_run (P := P) lo hi hlo hhi h1 h2 true w
              simp only [execOp, ho, Instr.sliceAt, Instr.slice, Sem.run_bind, run_und_of hu, Result.andThen_ok, hx, Option.map_none, this, run_sizeOf_of hs, Sem.run_pure]
            unfold sliceV at hv
            simp only at hv
            split at hv
            · split at hv
              · rename_i e1 e2
                obtain rfl := Option.some.inj hv
                simp only [VR] at ha
                refine ⟨fun h2 _ => by simp only [sliceV, e1, e2], fun o w ho hr => ⟨_, exec o w none 0 0 ho ha (by omega) ?_, ?_⟩⟩
                · have : dfl h' 0 = 0 := e2
                  omega
                · have e2' : dfl h' 0 = 0 := e2
                  rw [e1, e2']
                  simp [VR]
              · cases hv
            · rename_i b o' es' n cap
              split at hv
              · rename_i he
                obtain rfl := Nat.eq_of_beq_eq_true he
                unfold slSl at hv
                split at hv
                · cases hv
                · rename_i h1
                  split at hv
                  · cases hv
                  · rename_i h2
                    have h1 := Nat.le_of_ble_eq_true h1
                    have h2 := Nat.le_of_ble_eq_true h2
                    refine ⟨fun hh2 hle => ?_, fun o w ho hr => ?_⟩
                    · simp only [sliceV, he, slSl, Nat.ble_eq_true_of_le h1, Nat.ble_eq_true_of_le (Nat.le_trans h2 (hle.room b o' (es + 1) cap))]
                      exact slMk_mono hle hv
                    · obtain ⟨c, sh, sz, cp, hg, hx, hc, hroom⟩ := hr.room (by omega) ha
                      refine ⟨_, exec o w _ n cp ho hx h1 (by omega), ?_⟩
                      have := slMk_ok hr (by omega) hg hc hroom h1 (by omega) hv
                      by_cases hcl : cp = dfl l' 0
                      · rw [if_pos hcl] at this ⊢
                        exact this
                      · rw [if_neg hcl] at this ⊢
                        simpa [Addr.add_lit] using this
              · cases hv
            · cases hv
      | string =>
        refine main 0 (by simp only [plan1, hu]) fun h a v l' h' ha hlo hhi hv => ?_
        unfold sliceV at hv
        simp only at hv
        split at hv
        · rename_i s
          refine ⟨fun h2 _ => hv, fun o w ho hr => ?_⟩
          simp only [VR] at ha
          obtain ⟨bs, hx, rfl⟩ := ha
          have exec : dfl l' 0 ≤ dfl h' bs.size → dfl h' bs.size ≤ bs.size → (execOp ρ o).run P w = .ok (.value (.string (bs.extract (dfl l' 0) (dfl h' bs.size)))) w := fun h1 h2 => by
            have := bounds_run (P := P) lo hi hlo hhi h1 h2 false w
            simp only [execOp, ho, Instr.sliceAt, Instr.slice, Sem.run_bind, run_und_of hu, Result.andThen_ok, hx, Option.map_none, this, Sem.run_pure, Option.isSome_none, Bool.false_eq_true, if_false]
          unfold slStr at hv
          split at hv
          · split at hv
            · rename_i hle
              have hle := Nat.le_of_ble_eq_true hle
              rw [lenL_eq, bytesOf_length] at hle
              rw [fL_eq, dropN_eq] at hv
              obtain rfl := Option.some.inj hv
              refine ⟨_, exec hle (Nat.le_refl _), ?_⟩
              simp only [VR]
              refine ⟨_, rfl, ?_⟩
              rw [bytesOf_extract]
              apply List.take_of_length_le
              rw [List.length_drop, bytesOf_length]
              exact Nat.le_refl _
            · cases hv
          · rename_i r
            split at hv
            · cases hv
            · rename_i h1
              split at hv
              · rename_i h2
                have h1 := Nat.le_of_ble_eq_true h1
                have h2 := Nat.le_of_ble_eq_true h2
                rw [lenL_eq, bytesOf_length] at h2
                rw [fL_eq, dropN_eq, takeN_eq] at hv
                obtain rfl := Option.some.inj hv
                refine ⟨_, exec h1 h2, ?_⟩
                simp only [VR]
                exact ⟨_, rfl, by rw [bytesOf_extract]; rfl⟩
              · cases hv
        · cases hv
      | _ => exact (pure_bad (by simp only [plan1, hu])).read
end
end Go.Eng

namespace Go.Eng
open Go
section
variable {P : Program} {X dd : List Nat} {d : Nat} {t l : E} {ρ : Operand → Value} {g : G}

theorem re_g1 (hρ : OpdR g X dd t l ρ) {op : Op} {f : H → AV → Option AV} {x : Operand} (hp : plan1 P X dd d op = .g1 d f (opd X dd x))
    (hf : ∀ h a v, VR g a (ρ x) → f h a = some v → (∀ h2, HLe h h2 → f h2 a = some v) ∧ ∀ (o : Oper) w, o.op = op → HR P g h w → ∃ c, (execOp ρ o).run P w = .ok (.value c) w ∧ VR g v c) : ReadOK P X dd d t l ρ g op := by
  intro o ho h h' v hi
  rw [hp] at hi ⊢
  simp only [insV, ofO_ok, oB_some] at hi ⊢
  obtain ⟨⟨a, ha, hfa⟩, rfl⟩ := hi
  obtain ⟨h1, h2⟩ := hf _ a v (hρ x a ha) hfa
  exact ⟨rfl, fun hh hle => ⟨⟨a, ha, h1 hh hle⟩, trivial⟩, fun w hr => h2 o w ho hr⟩

theorem re_len (hρ : OpdR g X dd t l ρ) (c : Call) (hb : c.callee = .builtin .len) : ReadOK P X dd d t l ρ g (.call c) := by
  cases ha : c.args.toList with
  | nil => exact (pure_bad (by simp only [plan1, hb, ha])).read
  | cons x r =>
    cases r with
    | cons y r => exact (pure_bad (by simp only [plan1, hb, ha])).read
    | nil =>
      cases ht : c.argTypes.toList with
      | nil => exact (pure_bad (by simp only [plan1, hb, ha, ht])).read
      | cons ty r =>
        cases r with
        | cons y r => exact (pure_bad (by simp only [plan1, hb, ha, ht])).read
        | nil =>
          have h1 : c.args = #[x] := Array.toList_inj.1 ha
          have h2 : c.argTypes = #[ty] := Array.toList_inj.1 ht
          cases hu : und P ty with
          | none => exact (pure_bad (by simp only [plan1, hb, ha, ht, lenT, hu])).read
          | some td =>
            cases td with
            | string =>
              refine re_g1 hρ (f := lenS) (x := x) (by simp only [plan1, hb, ha, ht, lenT, hu]) fun h a v hav hv => ?_
              unfold lenS at hv
              split at hv
              · refine ⟨fun _ _ => hv, fun o w ho hr => ?_⟩
                rw [fN_eq] at hv
                obtain rfl := Option.some.inj hv
                simp only [VR] at hav
                obtain ⟨bs, hx, rfl⟩ := hav
                refine ⟨goInt bs.size, by simp [execOp, ho, resolve, hb, invoke, builtin, Builtin.len_, h1, h2, run_und_of hu, hx], ?_⟩
                simp only [VR, lenL_eq, bytesOf_length]
                rfl
              · cases hv
            | slice e =>
              refine re_g1 hρ (f := lenSl) (x := x) (by simp only [plan1, hb, ha, ht, lenT, hu]) fun h a v hav hv => ?_
              unfold lenSl at hv
              split at hv
              · refine ⟨fun _ _ => hv, fun o w ho hr => ?_⟩
                obtain rfl := Option.some.inj hv
                simp only [VR] at hav
                exact ⟨goInt 0, by simp [execOp, ho, resolve, hb, invoke, builtin, Builtin.len_, h1, h2, run_und_of hu, hav], by simp only [VR]; rfl⟩
              · rename_i b q es n cap
                refine ⟨fun _ _ => hv, fun o w ho hr => ?_⟩
                obtain rfl := Option.some.inj hv
                simp only [VR] at hav
                obtain ⟨c', sh, sz, cp, _, hx, _⟩ := hav
                exact ⟨goInt n, by simp [execOp, ho, resolve, hb, invoke, builtin, Builtin.len_, h1, h2, run_und_of hu, hx], by simp only [VR]; rfl⟩
              · cases hv
            | map kt el =>
              refine re_g1 hρ (f := lenM) (x := x) (by simp only [plan1, hb, ha, ht, lenT, hu]) fun h a v hav hv => ?_
              unfold lenM at hv
              split at hv
              · rename_i es hes
                rw [fN_eq] at hv
                obtain rfl := Option.some.inj hv
                rcases mapOf_some hes with ⟨rfl, rfl⟩ | ⟨bm, cl, rfl, hg⟩
                · refine ⟨fun _ _ => rfl, fun o w ho hr => ?_⟩
                  simp only [VR] at hav
                  exact ⟨goInt 0, by simp [execOp, ho, resolve, hb, invoke, builtin, Builtin.len_, h1, h2, run_und_of hu, hav], by simp only [VR]; rfl⟩
                · refine ⟨fun h2 hle => by simp only [lenM, mapOf, hle _ _ hg, fN_eq], fun o w ho hr => ?_⟩
                  simp only [VR] at hav
                  obtain ⟨c', sh, sz, hgb, hx⟩ := hav
                  obtain ⟨ob, hob, arr, rfl, hm⟩ := hr.blk _ _ hg _ _ _ hgb
                  refine ⟨goInt arr.size, by simp [execOp, ho, resolve, hb, invoke, builtin, Builtin.len_, h1, h2, run_und_of hu, hx, getObj, Sem.run, hob], ?_⟩
                  simp only [VR, lenL_eq, hm.length, Array.length_toList]
                  rfl
              · cases hv
            | _ => exact (pure_bad (by simp only [plan1, hb, ha, ht, lenT, hu])).read

theorem lastN_some : ∀ {l : List Nat} {s : Nat}, lastN l = some s → l.toArray.back? = some s
  | [], s, h => by cases h
  | [x], s, h => by
    obtain rfl := Option.some.inj (show some x = some s from h)
    rfl
  | x :: y :: l, s, h => by
    have := lastN_some (l := y :: l) (s := s) h
    simp at this ⊢
    simpa [List.getLast?_cons_cons] using this
theorem findS_some : ∀ {es : List (AV × AV × Nat)} {l : List MapEntry} {s : Nat} {v : AV}, MR g es l → findS s es = some v → ∃ en, l.find? (·.born == s) = some en ∧ VR g v (.tuple #[en.key, en.val])
  | [], l, s, v, hm, h => by cases h
  | (k, v0, b) :: es, l, s, v, hm, h => by
    obtain ⟨en, l', rfl, h1, h2, h3, h4⟩ := hm
    unfold findS at h
    split at h
    · rename_i hb
      obtain rfl := Nat.eq_of_beq_eq_true hb
      obtain rfl := Option.some.inj h
      refine ⟨en, by simp [h3], ?_⟩
      simp only [VR, VRL]
      exact ⟨_, rfl, _, _, rfl, h1, _, _, rfl, h2, rfl⟩
    · rename_i hb
      obtain ⟨en', h5, h6⟩ := findS_some h4 h
      refine ⟨en', ?_, h6⟩
      rw [List.find?_cons_of_neg (by simp; rw [h3]; exact bne_of hb)]
      exact h5
theorem re_entry (hρ : OpdR g X dd t l ρ) (x : Operand) : ReadOK P X dd d t l ρ g (.entry x) := by
  refine re_g1 hρ (f := entryF) (x := x) rfl fun h a v hav hv => ?_
  unfold entryF at hv
  split at hv
  · rename_i i
    split at hv
    · rename_i b since seen st hi
      split at hv
      · rename_i es c hb
        split at hv
        · rename_i hc
          split at hv
          · rename_i s hs
            refine ⟨fun h2 hle => by simp only [entryF, hle _ _ hi, hle _ _ hb, hc, hs, hv], fun o w ho hr => ?_⟩
            simp only [VR] at hav
            obtain ⟨c', sh, sz, hgi, hx⟩ := hav
            obtain ⟨ob, hob, rfl, cm, sh', sz', hgb, rfl⟩ := hr.blk _ _ hi _ _ _ hgi
            obtain ⟨ob', hob', arr, rfl, hm⟩ := hr.blk _ _ hb _ _ _ hgb
            obtain ⟨en, h1, h2⟩ := findS_some hm hv
            obtain rfl := Nat.eq_of_beq_eq_true hc
            refine ⟨.tuple #[en.key, en.val], ?_, h2⟩
            have h1' : arr.find? (fun x => x.born == s) = some en := by rw [← Array.find?_toList]; exact h1
            simp [execOp, ho, Instr.entry, hx, getObj, Sem.run, hob, hob', lastN_some hs, h1']
          · cases hv
        · cases hv
      · cases hv
    · cases hv
  · cases hv

theorem op_read (hρ : OpdR g X dd t l ρ) (op : Op) (hc : clsOf P op = .read) : ReadOK P X dd d t l ρ g op := by
  cases op with
  | load ty x => exact re_load hρ ty x
  | slice ty x lo hi mx => exact re_slice hρ ty x lo hi mx
  | lookup ty x k ok => exact re_lookup hρ ty x k ok
  | entry x => exact re_entry hρ x
  | convert s ty x =>
    cases hs : und P s with
    | none =>
      cases ht : und P ty with
      | none => simp [clsOf, hs, ht] at hc
      | some td => cases td <;> simp [clsOf, hs, ht] at hc
    | some sd =>
      cases sd with
      | slice e => cases ht : und P ty <;> exact (pure_bad (by simp only [plan1, convP, hs, ht])).read
      | _ => cases ht : und P ty with
        | none => simp [clsOf, hs, ht] at hc
        | some td => cases td <;> simp [clsOf, hs, ht] at hc
  | call c =>
    cases hcal : c.callee with
    | builtin b =>
      cases b with
      | len => exact re_len hρ c hcal
      | _ => simp [clsOf, hcal] at hc
    | value x => simp [clsOf, hcal] at hc
    | invoke x m => simp [clsOf, hcal] at hc
  | _ => simp [clsOf] at hc
end
end Go.Eng
