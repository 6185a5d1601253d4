/-
  A part of the proof of casketlaw17.TurnsOwn: the evaluator's soundness, or the law's own steps. By an AI agent.
-/
import Derived.Test.YtjlkbflcdagcbaaGreatDoorTI
import Derived.RangeFuncIn
import Derived.RangeFuncRecord
namespace Go.Eng
open Go
section
variable {P : Program} {J : FuncId} {R : Rec} {g : G} {h : H} {w : World} {b : Frame} {a : Act} {k : List Item} {cs : List Frame}
theorem stepR_rangeFunc_round {f : Operand} {ps : Array Tmp} {assign body : Code} {l : Nat} {mark : List Deferred} {w₁ w₁' w₂ : World} {d : Deferred} {l' : Nat} {fn : FuncId} {tmps : Array Value} {x y : Code}
    (he : (Instr.enterLoop b.fn a.tmps ps assign body b.roundOf).run P w = .ok (l, mark) w₁)
    (hres : (resolve a.eval (rangeCall f l) 0).run P w₁ = .ok d w₁') (hinv : (invoke d.target d.args).run P w₁' = .ok (.round l' fn tmps x y) w₂) :
    step P (lone (b.atR a (.code (.rangeFunc f ps assign body) :: k)) cs w) =
      .next (lone (Frame.round l' fn tmps x y .normal) (b.atR { a with defers := mark ++ a.defers } (.inRangeFunc l :: k) :: cs) w₂) :=
  step_lone_go (by
    have hev := Frame.eval_atR b { a with defers := mark ++ a.defers } (.inRangeFunc l :: k)
    simp only [Frame.atR] at hev
    have hres' : Sem.run P (resolve ({ tmps := a.tmps, defers := mark ++ a.defers } : Act).eval { callee := .value f, args := #[.const (.func (.yield l) #[] #[])], argTypes := #[] } 0) w₁ = .ok d w₁' := hres
    simp [stepG, stepG.exec, Frame.atR, Sem.runT_eq, he, GStep.bare_after, stepG.apply, hev, Sem.run_bind, hres', hinv, Result.andThen])
/-- a block that is no row of cells is written to -/
theorem step_obj (hr : HR P g h w) {p : Ps} {x x' : Blk} {c sh sz : Nat} (hx : h.get p = some x) (hg : g p = some (c, sh, sz)) {o' : Obj} (hb : BR P g sh sz x' o') :
    Ext g h w g (h.put p x') (w.putObj c o') ∧ HR P g (h.put p x') (w.putObj c o') := by
  have hlt : c < w.heap.size := hr.lt ⟨x, sh, sz, hx, hg⟩
  exact step_put hr hx hg (by simp) (World.putObj_heap_same hlt) (fun k hk => World.putObj_heap_other hk) ⟨rfl, rfl, rfl⟩ hb
theorem run_enterLoop_inner {fn : FuncId} {tmps : Array Value} {ps : Array Tmp} {assign body : Code} {l : Nat} {r : Loop} (h : w.heap[l]? = some (.loop r)) :
    (Instr.enterLoop fn tmps ps assign body (some l)).run P w =
      .ok (w.heap.size, []) (w.alloc (.loop { state := .ready, pending := none, fn, tmps, params := ps, assign, body, defers := r.defers })) := by
  unfold Instr.enterLoop
  simp only [Sem.run_bind, run_getLoop h, run_newObj_alloc, Result.andThen, Sem.run_pure]
theorem alloc_eq (w : World) (o : Obj) : w.alloc o = { w with heap := w.heap.push o } := rfl

/-- what code comes to -/
def Res (P : Program) (i : FI) (m0 : Machine) (b : Frame) (k : List Item) (cs : List Frame) (g : G) (h : H) (w : World) (x : Ex) (f' : Fr) (h' : H) : Prop :=
  ∃ g' w' a', Out P m0 b k cs x a' w' ∧ FRel g' i f' a' ∧ Ext g h w g' h' w' ∧ HR P g' h' w'
theorem Res.after {i : FI} {m0 m1 : Machine} (hs : Steps P m0 m1) {x : Ex} {f' : Fr} {h' : H} {g1 : G} {h1 : H} {w1 : World} (he : Ext g h w g1 h1 w1) (hr : Res P i m1 b k cs g1 h1 w1 x f' h') : Res P i m0 b k cs g h w x f' h' :=
  let ⟨g', w', a', h1, h2, h3, h4⟩ := hr
  ⟨g', w', a', h1.of_steps hs, h2, he.trans h3, h4⟩
theorem Res.steps {i : FI} {m0 m1 : Machine} (hs : Steps P m0 m1) {x : Ex} {f' : Fr} {h' : H} (hr : Res P i m1 b k cs g h w x f' h') : Res P i m0 b k cs g h w x f' h' := hr.after hs (Ext.refl _ _ _)
/-- through an item that catches nothing -/
theorem Res.pass {i : FI} {m0 : Machine} {it : Item} (hit : it.plain = true) {x : Ex} (hx : x ≠ .normal) {f' : Fr} {h' : H} (hr : Res P i m0 b (it :: k) cs g h w x f' h') : Res P i m0 b k cs g h w x f' h' := by
  obtain ⟨g', w', a', h1, h2, h3, h4⟩ := hr
  refine ⟨g', w', a', ?_, h2, h3, h4⟩
  cases x with
  | normal => exact absurd rfl hx
  | exit id =>
    obtain ⟨k1, h5, h6⟩ := h1
    exact ⟨k1, h5, by rw [h6, exitTo_plain hit]⟩
  | ret => exact h1
theorem FRel.opd {i : FI} {f : Fr} (hf : FRel g i f a) : OpdR g i.X [] .nil f.loc a.eval :=
  RegR.opd ⟨fun d v hm _ => by simp [memN] at hm, fun d v _ hX hv => hf.loc d v hX hv⟩

/-- a loop over a function, from its record on -/
theorem rf1_ok (hR : RecOK P J R) {i : FI} {fn : FuncId} {gv : AV} {ps : Array Tmp} {x0 y0 : Code} {f : Fr} {d : Ps} {x : Ex} {f' : Fr} {h' : H} {fo : Operand} {w0 : World}
    (hi : infoOf P fn = some i) (hps : allBelow i.m ps.toList = true) (hc1 : calmC x0 = true) (hc2 : calmC y0 = true)
    (he : rf1 R fn gv ps.toList x0 y0 f d h = .ok x f' h') {mark : List Deferred} (hf : FRel g i f { a with defers := mark ++ a.defers }) (hr : HR P g h w) (hbf : b.fn = fn) (hgv : VR g gv (a.eval fo)) {cd sh sz : Nat} (hd : g d = some (cd, sh, sz))
    (hent : (Instr.enterLoop b.fn a.tmps ps x0 y0 b.roundOf).run P w0 = .ok (w.heap.size, mark) (w.alloc (.loop { state := .ready, pending := none, fn := b.fn, tmps := a.tmps, params := ps, assign := x0, body := y0, defers := cd }))) :
    Res P i (lone (b.atR a (.code (.rangeFunc fo ps x0 y0) :: k)) cs w0) b k cs g h w x f' h' := by
  unfold rf1 at he
  have hbr : ∀ g', GLe g g' → BR P g' 0 0 (.loop .ready none fn f.loc ps.toList x0 y0 d) (.loop { state := .ready, pending := none, fn := b.fn, tmps := a.tmps, params := ps, assign := x0, body := y0, defers := cd }) := fun g' hle =>
    ⟨_, cd, sh, sz, i, rfl, rfl, rfl, hbf, rfl, rfl, rfl, hle _ _ hd, rfl, hi, hf.loc.mono hle, hf.size, hps, hc1, hc2⟩
  obtain ⟨s1, s2⟩ := step_new hr hbr
  rw [← alloc_eq] at s1 s2
  have hle1 := gset_le hr (w.heap.size, 0, 0)
  generalize hg1 : gset g h.next (w.heap.size, 0, 0) = g1 at *
  have hgl : g1 h.next = some (w.heap.size, 0, 0) := by rw [← hg1]; exact gset_same _ _ _
  generalize hw1 : w.alloc (.loop { state := .ready, pending := none, fn := b.fn, tmps := a.tmps, params := ps, assign := x0, body := y0, defers := cd }) = w1 at *
  generalize hh1 : h.add (.loop .ready none fn f.loc ps.toList x0 y0 d) = h1 at *
  unfold afterLoop at he
  split at he
  · cases he
  · rename_i v h3 hcv
    obtain ⟨df, n, hd1, hd2, hgo⟩ := hR.cv gv [.yield h.next] h1 v h3 hcv g1 w1 (a.eval fo) #[.func (.yield w.heap.size) #[] #[]] (VR.mono hle1 _ _ hgv)
      (by simp only [VRL, VR]; exact ⟨_, [], rfl, ⟨_, _, _, hgl, rfl⟩, rfl⟩) s2
    have hres : (resolve a.eval (rangeCall fo w.heap.size) 0).run P w1 = .ok df w1 := by
      have : (#[Operand.const (.func (.yield w.heap.size) #[] #[])].map a.eval) = #[.func (.yield w.heap.size) #[] #[]] := by simp [Act.eval]
      simp only [resolve, rangeCall, this, hd1]
    obtain ⟨u, w3, g3, hgoes, _, e3, r3⟩ := hgo (b.atR { a with defers := mark ++ a.defers } (.inRangeFunc w.heap.size :: k)) cs
    have hsteps : Steps P (lone (b.atR a (.code (.rangeFunc fo ps x0 y0) :: k)) cs w0) (lone (b.atR { a with defers := mark ++ a.defers } (.endRangeFunc w.heap.size :: k)) cs w3) := by
      unfold Goes at hgoes
      split at hgoes
      · rw [finish_atR_inRangeFunc] at hgoes
        exact .head (stepR_rangeFunc hent hres hd2) hgoes
      · rw [finish_atR_inRangeFunc] at hgoes
        exact .head (stepR_rangeFunc_round hent hres hd2) hgoes
      · exact hgoes.elim
    have hg3 : g3 h.next = some (w.heap.size, 0, 0) := e3.mono _ _ hgl
    split at he
    · rename_i st pend fn' loc ps' a' b' d' hget
      obtain ⟨o, ho, L, cd', sh', sz', i', rfl, q2, q3, q4⟩ := r3.blk _ _ hget _ _ _ hg3
      have hfin : ∀ (hst : st ≠ .busy), BR P g3 0 0 (.loop .exhausted pend fn' loc ps' a' b' d') (.loop { L with state := .exhausted }) := fun _ => ⟨_, cd', sh', sz', i', rfl, rfl, q3, q4⟩
      have main : ∀ (hst : st ≠ .busy) (x' : Ex) (hh : h' = h3.put h.next (.loop .exhausted pend fn' loc ps' a' b' d')) (hf' : f' = f)
          (hout : ∀ w', Steps P (lone (b.atR a (.code (.rangeFunc fo ps x0 y0) :: k)) cs w0) (lone (b.atR { a with defers := mark ++ a.defers } ((L.pending.map Item.code).toList ++ k)) cs w') → Out P (lone (b.atR a (.code (.rangeFunc fo ps x0 y0) :: k)) cs w0) b k cs x { a with defers := mark ++ a.defers } w'),
          Res P i (lone (b.atR a (.code (.rangeFunc fo ps x0 y0) :: k)) cs w0) b k cs g h w x f' h' := by
        intro hst x' hh hf' hout
        have hlb : L.state ≠ .busy := fun e => by
          cases st <;> simp only [StR] at q2 <;> first | exact hst rfl | (rw [q2] at e; cases e)
        obtain ⟨s3, s4⟩ := step_obj r3 hget hg3 (hfin hst)
        have hend := stepR_endRangeFunc (P := P) (b := b) (a := { a with defers := mark ++ a.defers }) (k := k) (cs := cs) (run_endLoop ho hlb)
        subst hh hf'
        exact ⟨g3, _, _, hout _ (hsteps.trans (.one hend)), hf.mono (hle1.trans e3.mono), (s1.trans e3).trans s3, s4⟩
      split at he
      · cases he
      · rename_i hst
        have hst : st ≠ .busy := fun e => by subst e; exact hst rfl
        split at he
        · simp only [RC.ok.injEq] at he
          obtain ⟨rfl, rfl, rfl⟩ := he
          refine main hst .normal rfl rfl fun w' hs => ?_
          simp only [PendR] at q3
          rw [q3] at hs
          exact hs
        · rename_i x'
          simp only [RC.ok.injEq] at he
          obtain ⟨rfl, rfl, rfl⟩ := he
          refine main hst .normal rfl rfl fun w' hs => ?_
          cases x' with
          | normal => exact q3.elim
          | exit id =>
            simp only [PendR] at q3
            rw [q3] at hs
            exact ⟨k, hs, rfl⟩
          | ret =>
            simp only [PendR] at q3
            rw [q3] at hs
            exact ⟨k, hs⟩
    · cases he

/-- the code of a function, or of a round -/
theorem code_ok (hP : ProgOK P) (hR : RecOK P J R) {fn : FuncId} {i : FI} (hi : infoOf P fn = some i) {r : Option Ps} (hbf : b.fn = fn) (hfc : FC b cs) :
    ∀ (c : Code) (k : List Item) (f : Fr) (h : H) (x : Ex) (f' : Fr) (h' : H) (g : G) (w : World) (a : Act), (r.isSome = true → calmC c = true) → evalI P R r fn (planC P i.X i.m c) f h = .ok x f' h' → FRel g i f a → HR P g h w → RO g r b.roundOf →
      Res P i (lone (b.atR a (.code c :: k)) cs w) b k cs g h w x f' h'
  | .skip, k, f, h, x, f', h', g, w, a, hc, he, hf, hr, hro => by
    replace he : RC.ok .normal f h = .ok x f' h' := he
    simp only [RC.ok.injEq] at he
    obtain ⟨rfl, rfl, rfl⟩ := he
    exact ⟨g, w, a, .one stepR_skip, hf, Ext.refl _ _ _, hr⟩
  | .label l, k, f, h, x, f', h', g, w, a, hc, he, hf, hr, hro => by
    replace he : RC.ok .normal f h = .ok x f' h' := he
    simp only [RC.ok.injEq] at he
    obtain ⟨rfl, rfl, rfl⟩ := he
    exact ⟨g, w, a, .one stepR_label, hf, Ext.refl _ _ _, hr⟩
  | .goto l, k, f, h, x, f', h', g, w, a, hc, he, hf, hr, hro => by
    replace he : RC.no = .ok x f' h' := he
    cases he
  | .refuse s, k, f, h, x, f', h', g, w, a, hc, he, hf, hr, hro => by
    replace he : RC.no = .ok x f' h' := he
    cases he
  | .exit id, k, f, h, x, f', h', g, w, a, hc, he, hf, hr, hro => by
    replace he : RC.ok (.exit id) f h = .ok x f' h' := he
    simp only [RC.ok.injEq] at he
    obtain ⟨rfl, rfl, rfl⟩ := he
    exact ⟨g, w, a, ⟨k, .refl P _, rfl⟩, hf, Ext.refl _ _ _, hr⟩
  | .ret, k, f, h, x, f', h', g, w, a, hc, he, hf, hr, hro => by
    replace he : RC.ok .ret f h = .ok x f' h' := he
    simp only [RC.ok.injEq] at he
    obtain ⟨rfl, rfl, rfl⟩ := he
    exact ⟨g, w, a, ⟨k, .refl P _⟩, hf, Ext.refl _ _ _, hr⟩
  | .scope c, k, f, h, x, f', h', g, w, a, hc, he, hf, hr, hro => by
    have hres := (code_ok hP hR hi hbf hfc c (.inScope c :: k) f h x f' h' g w a hc he hf hr hro)
    refine Res.steps (.one stepR_scope) ?_
    obtain ⟨g', w', a', h1, h2, h3, h4⟩ := hres
    cases x with
    | normal => exact ⟨g', w', a', Steps.trans h1 (.one stepR_inScope), h2, h3, h4⟩
    | exit id =>
      obtain ⟨k1, h5, h6⟩ := h1
      exact ⟨g', w', a', ⟨k1, h5, by rw [h6]; rfl⟩, h2, h3, h4⟩
    | ret => exact ⟨g', w', a', h1, h2, h3, h4⟩
  | .seq p q, k, f, h, x, f', h', g, w, a, hc, he, hf, hr, hro => by
    replace he : thenC (evalI P R r fn (planC P i.X i.m q)) (evalI P R r fn (planC P i.X i.m p) f h) = .ok x f' h' := he
    have hcp : r.isSome = true → calmC p = true := fun h => by have := hc h; unfold calmC at this; rw [Bool.and_eq_true] at this; exact this.1
    have hcq : r.isSome = true → calmC q = true := fun h => by have := hc h; unfold calmC at this; rw [Bool.and_eq_true] at this; exact this.2
    refine Res.steps (.one stepR_seq) ?_
    unfold thenC at he
    split at he
    · cases he
    · rename_i x1 f1 h1 h2
      have hres := code_ok hP hR hi hbf hfc p (.code q :: k) f h x1 f1 h1 g w a hcp h2 hf hr hro
      split at he
      · obtain ⟨g', w', a', h3, h4, h5, h6⟩ := hres
        exact (code_ok hP hR hi hbf hfc q k f1 h1 x f' h' g' w' a' hcq he h4 h6 (hro.mono h5.mono)).after h3 h5
      · simp only [RC.ok.injEq] at he
        obtain ⟨rfl, rfl, rfl⟩ := he
        exact hres.pass rfl (by simp)
      · simp only [RC.ok.injEq] at he
        obtain ⟨rfl, rfl, rfl⟩ := he
        exact hres.pass rfl (by simp)
  | .cond o p q, k, f, h, x, f', h', g, w, a, hc, he, hf, hr, hro => by
    replace he : condC (evalI P R r fn (planC P i.X i.m p)) (evalI P R r fn (planC P i.X i.m q)) f h (getO (opd i.X [] o) .nil f.loc) = .ok x f' h' := he
    have hcp : r.isSome = true → calmC p = true := fun h => by have := hc h; unfold calmC at this; rw [Bool.and_eq_true] at this; exact this.1
    have hcq : r.isSome = true → calmC q = true := fun h => by have := hc h; unfold calmC at this; rw [Bool.and_eq_true] at this; exact this.2
    unfold condC at he
    split at he
    · rename_i hv
      have hx := hf.opd o _ hv
      simp only [VR] at hx
      exact Res.steps (.one (stepR_cond hx)) (code_ok hP hR hi hbf hfc p k f h x f' h' g w a hcp he hf hr hro)
    · rename_i hv
      have hx := hf.opd o _ hv
      simp only [VR] at hx
      exact Res.steps (.one (stepR_cond hx)) (code_ok hP hR hi hbf hfc q k f h x f' h' g w a hcq he hf hr hro)
    · cases he
  | .block id p, k, f, h, x, f', h', g, w, a, hc, he, hf, hr, hro => by
    replace he : blkC id (evalI P R r fn (planC P i.X i.m p) f h) = .ok x f' h' := he
    refine Res.steps (.one stepR_block) ?_
    unfold blkC at he
    split at he
    · cases he
    · rename_i x1 f1 h1 h2
      have hres := code_ok hP hR hi hbf hfc p (.inBlock id :: k) f h x1 f1 h1 g w a hc h2 hf hr hro
      obtain ⟨g', w', a', h3, h4, h5, h6⟩ := hres
      split at he
      · simp only [RC.ok.injEq] at he
        obtain ⟨rfl, rfl, rfl⟩ := he
        exact ⟨g', w', a', Steps.trans h3 (.one stepR_inBlock), h4, h5, h6⟩
      · rename_i j
        obtain ⟨k1, h7, h8⟩ := h3
        split at he
        · rename_i hj
          have hj := Nat.eq_of_beq_eq_true hj
          subst hj
          simp only [RC.ok.injEq] at he
          obtain ⟨rfl, rfl, rfl⟩ := he
          have : exitTo j k1 = some k := by rw [h8]; simp [exitTo]
          exact ⟨g', w', a', Steps.trans h7 (.one (stepR_exit this)), h4, h5, h6⟩
        · rename_i hj
          have hj := bne_of hj
          simp only [RC.ok.injEq] at he
          obtain ⟨rfl, rfl, rfl⟩ := he
          refine ⟨g', w', a', ⟨k1, h7, ?_⟩, h4, h5, h6⟩
          rw [h8]
          have : (id == j) = false := by rw [beq_eq_false_iff_ne]; exact Ne.symm hj
          simp [exitTo, this]
      · simp only [RC.ok.injEq] at he
        obtain ⟨rfl, rfl, rfl⟩ := he
        exact ⟨g', w', a', h3, h4, h5, h6⟩
  | .loop p, k, f, h, x, f', h', g, w, a, hc, he, hf, hr, hro => by
    replace he : thenC (R.loop r fn (planC P i.X i.m p)) (evalI P R r fn (planC P i.X i.m p) f h) = .ok x f' h' := he
    refine Res.steps (.one stepR_loop) ?_
    unfold thenC at he
    split at he
    · cases he
    · rename_i x1 f1 h1 h2
      have hres := code_ok hP hR hi hbf hfc p (.inLoop p :: k) f h x1 f1 h1 g w a hc h2 hf hr hro
      split at he
      · obtain ⟨g', w', a', h3, h4, h5, h6⟩ := hres
        obtain ⟨g2, w2, a2, e1, e2, e3, e4⟩ := hR.loop r fn i p f1 h1 x f' h' hi hc he g' w' a' h4 h6 b k cs hbf hfc (hro.mono h5.mono)
        exact Res.after h3 h5 ⟨g2, w2, a2, e1, e2, e3, e4⟩
      · simp only [RC.ok.injEq] at he
        obtain ⟨rfl, rfl, rfl⟩ := he
        exact hres.pass rfl (by simp)
      · simp only [RC.ok.injEq] at he
        obtain ⟨rfl, rfl, rfl⟩ := he
        exact hres.pass rfl (by simp)
  | .region id ops dr, k, f, h, x, f', h', g, w, a, hc, he, hf, hr, hro => by
    have hcalm : b.roundOf = none ∨ calmL ops.toList = true := by
      cases r with
      | none => exact .inl hro
      | some l => exact .inr (hc rfl)
    unfold planC at he
    split at he
    · replace he : RC.no = .ok x f' h' := he
      cases he
    · rename_i hh
      rw [Bool.and_eq_true] at hh
      have hn : i.m ≤ nowhere := Nat.le_of_ble_eq_true hh.1
      have hlo := allBelow_iff.1 hh.2
      split at he
      · replace he : execL P R f.loc (keepOf i.X (dsts ops.toList)) (planL P i.X ops.toList [] ops.toList) .nil f.defers h = .ok x f' h' := he
        obtain ⟨g', w', a', dd', t', e1, e2, e3, e4, e5, e6, e7, e8, e9, e10⟩ := seq_ok (k := k) hP hR hn hfc hcalm ops.toList 0 [] .nil f.defers h a w g rfl he
          ⟨fun d v hm _ => by simp [memN] at hm, fun d v _ hX hv => hf.loc d v hX hv⟩ (fun d hd => by cases hd) (fun d hd => by cases hd) hr hf.dfr hf.size hlo
        subst e1
        refine ⟨g', w', a', Steps.head stepR_region ?_, ⟨?_, e9, e8⟩, e10, e7⟩
        · rw [List.range_eq_range']; rw [Array.length_toList] at e3; exact e3
        · rw [e2]
          exact e4.keep e5 fun d => by rw [keepOf_iff, e6]; simp
      · replace he : execL P R f.loc (keepOf i.X (dsts ops.toList)) (planD P i.X ops.toList) .nil f.defers h = .ok x f' h' := he
        obtain ⟨g', w', a', e1, e2, e3, e4, e5, e6, e7⟩ := draw_ok (k := k) (id := id) hP hR hlo hn hfc hcalm (fun d => keepOf_iff _ _ _) he hf.loc hr hf.dfr hf.size
        subst e1
        exact ⟨g', w', a', e2, ⟨e3, e6, e5⟩, e7, e4⟩
  | .rangeFunc fo ps p q, k, f, h, x, f', h', g, w, a, hc, he, hf, hr, hro => by
    unfold planC at he
    split at he
    · rename_i hh
      simp only [Bool.and_eq_true] at hh
      obtain ⟨h1, h2, h3⟩ := hh
      replace he : rf0 R r fn ps.toList p q f h (getO (opd i.X [] fo) .nil f.loc) = .ok x f' h' := he
      unfold rf0 at he
      split at he
      · cases he
      · rename_i gv hgv
        have hvr := hf.opd fo gv hgv
        split at he
        · have hrn : b.roundOf = none := hro
          obtain ⟨s1, s2⟩ := step_new hr (x := .dfr false) (ob := .deferred (some [])) (sz := 0) (fun _ _ => rfl)
          have hle := gset_le hr (w.heap.size, 0, 0)
          rw [← alloc_eq] at s1 s2
          have hgn : gset g h.next (w.heap.size, 0, 0) h.next = some (w.heap.size, 0, 0) := gset_same _ _ _
          have hent := run_enterLoop_outer (P := P) (w := w) b.fn a.tmps ps p q
          rw [← hrn] at hent
          have hsz : (w.alloc (.deferred (some []))).heap.size = w.heap.size + 1 := by rw [alloc_eq]; simp
          rw [← hsz] at hent
          refine Res.after (.refl P _) s1 (rf1_ok (mark := [{ target := .collected w.heap.size, args := #[] }]) hR hi h1 h2 h3 he ⟨hf.loc.mono hle, hf.size, ?_⟩ s2 hbf (VR.mono hle _ _ hvr) hgn hent)
          exact ⟨w.heap.size, 0, 0, a.defers, hgn, rfl, hf.dfr.mono hle⟩
        · rename_i l
          obtain ⟨c, sh, sz, hgl, hrs⟩ := hro
          split at he
          · rename_i st pend fn' loc ps' a' b' d hget
            obtain ⟨o, ho, L, cd', sh', sz', i', rfl, q2, q3, q4, q5, q6, q7, q8, q9, q10⟩ := hr.blk _ _ hget _ _ _ hgl
            have hent := run_enterLoop_inner (P := P) (fn := b.fn) (tmps := a.tmps) (ps := ps) (assign := p) (body := q) ho
            rw [← hrs, q9] at hent
            exact rf1_ok (mark := []) hR hi h1 h2 h3 he ⟨hf.loc, hf.size, by simpa using hf.dfr⟩ hr hbf hvr q8 hent
          · cases he
    · replace he : RC.no = .ok x f' h' := he
      cases he
end
end Go.Eng

namespace Go.Eng
open Go
theorem addN_sub {x d : Nat} {l : List Nat} (h : d ∈ l) : d ∈ addN x l := by
  unfold addN
  split
  · exact h
  · exact List.mem_cons_of_mem _ h
theorem rdO_sub (dd : List Nat) : ∀ (l : List Operand) (acc : List Nat) (d : Nat), d ∈ acc → d ∈ rdO dd acc l
  | [], acc, d, h => h
  | .tmp t :: l, acc, d, h => by
    have h0 : rdO dd acc (.tmp t :: l) = rdO dd (match memN t dd with | true => acc | false => addN t acc) l := rfl
    rw [h0]
    refine rdO_sub dd l _ d ?_
    split
    · exact h
    · exact addN_sub h
  | .const _ :: l, acc, d, h => rdO_sub dd l acc d h
  | .global _ :: l, acc, d, h => rdO_sub dd l acc d h
  | .func _ :: l, acc, d, h => rdO_sub dd l acc d h
theorem rdL_sub : ∀ (os : List Oper) (dd acc : List Nat) (d : Nat), d ∈ acc → d ∈ rdL dd acc os
  | [], dd, acc, d, h => h
  | o :: os, dd, acc, d, h => rdL_sub os _ _ d (rdO_sub dd _ acc d h)
theorem rdC_sub : ∀ (c : Code) (acc : List Nat) (d : Nat), d ∈ acc → d ∈ rdC acc c
  | .region _ ops _, acc, d, h => rdL_sub _ _ _ d h
  | .seq a b, acc, d, h => rdC_sub b _ d (rdC_sub a _ d h)
  | .cond c a b, acc, d, h => rdC_sub b _ d (rdC_sub a _ d (rdO_sub [] _ _ d h))
  | .block _ a, acc, d, h => rdC_sub a _ d h
  | .loop a, acc, d, h => rdC_sub a _ d h
  | .scope a, acc, d, h => rdC_sub a _ d h
  | .rangeFunc g _ a b, acc, d, h => rdC_sub b _ d (rdC_sub a _ d (rdO_sub [] _ _ d h))
  | .skip, acc, d, h => h
  | .label _, acc, d, h => h
  | .goto _, acc, d, h => h
  | .exit _, acc, d, h => h
  | .ret, acc, d, h => h
  | .refuse _, acc, d, h => h
def resTmp : ResultVar → Nat
  | .tmp t => t
  | .cell t _ => t
theorem resT_mem {rs : List ResultVar} {v : ResultVar} (h : v ∈ rs) : resTmp v ∈ resT rs := by
  induction rs with
  | nil => cases h
  | cons r rs ih =>
    cases h with
    | head => cases v <;> simp [resT, resTmp]
    | tail _ h =>
      have := ih h
      cases r <;> simp [resT, this]
theorem infoOf_some {P : Program} {f : FuncId} {i : FI} (h : infoOf P f = some i) : ∃ fn c, P.funcs[f]? = some fn ∧ fn.body = some c ∧ i.code = planC P i.X i.m c ∧ i.res = fn.results.toList ∧ i.m = fn.ntmps ∧
    ∀ v, v ∈ i.res → memN (resTmp v) i.X = true := by
  unfold infoOf at h
  split at h
  · cases h
  · rename_i fn hf
    split at h
    · cases h
    · rename_i c hc
      obtain rfl := Option.some.inj h
      refine ⟨fn, c, by simpa using hf, hc, rfl, rfl, rfl, fun v hv => ?_⟩
      rw [memN_iff']
      unfold xOf
      rw [hc]
      exact rdC_sub c _ _ (resT_mem hv)
section
variable {P : Program} {J : FuncId} {R : Rec} {g : G} {h : H} {w : World}
/-- a result variable, read -/
def resSem (tmps : Array Value) : ResultVar → Sem Value
  | .tmp t => pure (tmps.getD t undef)
  | .cell a t => do loadVar t (← asAddr (tmps.getD a undef))
theorem results_eq (fn : Func) (tmps : Array Value) : results fn tmps = (do let vs ← fn.results.mapM (resSem tmps); pure (if h : vs.size = 1 then vs[0] else .tuple vs)) := by
  have key : ∀ (f f' : ResultVar → Sem Value), (∀ v, f v = f' v) → (do let vs ← fn.results.mapM f; pure (if h : vs.size = 1 then vs[0] else .tuple vs) : Sem Value) = (do let vs ← fn.results.mapM f'; pure (if h : vs.size = 1 then vs[0] else .tuple vs)) := by
    intro f f' h
    rw [funext h]
  exact key _ _ fun v => by cases v <;> rfl
theorem getD_of {tmps : Array Value} {d : Nat} {c : Value} (h : tmps[d]? = some c) : tmps.getD d undef = c := by simp [Array.getD_eq_getD_getElem?, h]
theorem resV_ok (hr : HR P g h w) {X : List Nat} {l : E} {tmps : Array Value} (hl : LR g X l tmps) : ∀ (rs : List ResultVar) (vs : List AV), (∀ v, v ∈ rs → memN (resTmp v) X = true) → resV P l h rs = some vs →
    ∃ us : List Value, (rs.mapM (resSem tmps)).run P w = .ok us w ∧ VRL g vs us
  | [], vs, _, hv => by
    obtain rfl := Option.some.inj (show some [] = some vs from hv)
    exact ⟨[], rfl, by simp only [VRL]⟩
  | .tmp t :: rs, vs, hX, hv => by
    unfold resV at hv
    split at hv
    · cases hv
    · rename_i v hv1
      split at hv
      · cases hv
      · rename_i vs' hvs
        obtain rfl := Option.some.inj hv
        obtain ⟨c, h1, h2⟩ := hl t v (hX (.tmp t) (by simp)) hv1
        obtain ⟨us, h3, h4⟩ := resV_ok hr hl rs vs' (fun v hv => hX v (by simp [hv])) hvs
        refine ⟨c :: us, ?_, by simp only [VRL]; exact ⟨_, _, rfl, h2, h4⟩⟩
        simp only [List.mapM_cons, resSem, getD_of h1, Sem.run_bind, Sem.run_pure, Result.andThen_ok, h3]
  | .cell t ty :: rs, vs, hX, hv => by
    unfold resV at hv
    split at hv
    · cases hv
    · rename_i p hv1
      split at hv
      · cases hv
      · rename_i v hld
        split at hv
        · cases hv
        · rename_i vs' hvs
          obtain rfl := Option.some.inj hv
          obtain ⟨c, h1, h2⟩ := hl t p (hX (.cell t ty) (by simp)) hv1
          obtain ⟨us, h3, h4⟩ := resV_ok hr hl rs vs' (fun v hv => hX v (by simp [hv])) hvs
          have hp : ∃ b o, p = .ptr b o := by
            unfold ldT at hld
            split at hld
            · obtain ⟨b, o, _, _, _, e, _⟩ := load1_some hld; exact ⟨b, o, e⟩
            · split at hld
              · obtain ⟨b, o, _, _, _, _, e, _⟩ := loadN_some hld; exact ⟨b, o, e⟩
              · cases hld
            · cases hld
          obtain ⟨b, o, rfl⟩ := hp
          simp only [VR] at h2
          obtain ⟨cc, sh, sz, hg, rfl⟩ := h2
          obtain ⟨u, h5, h6⟩ := ldT_ok hr hld hg
          refine ⟨u :: us, ?_, by simp only [VRL]; exact ⟨_, _, rfl, h6, h4⟩⟩
          simp only [List.mapM_cons, resSem, getD_of h1, asAddr, Sem.run_bind, Sem.run_pure, Result.andThen_ok, h5, h3]
theorem one_VR {vs : List AV} {us : List Value} (h : VRL g vs us) : VR g (one vs) (if h : us.toArray.size = 1 then us.toArray[0] else .tuple us.toArray) := by
  cases vs with
  | nil =>
    simp only [VRL] at h
    subst h
    simp only [one, VR]
    exact ⟨#[], by simp, by simp only [VRL]⟩
  | cons v vs =>
    have h0 := h
    simp only [VRL] at h
    obtain ⟨y, ys, rfl, h1, h2⟩ := h
    cases vs with
    | nil =>
      simp only [VRL] at h2
      subst h2
      simpa [one] using h1
    | cons v2 vs =>
      simp only [VRL] at h2
      obtain ⟨y2, ys2, rfl, h3, h4⟩ := h2
      simp only [one, VR]
      exact ⟨(y :: y2 :: ys2).toArray, by simp, h0⟩
theorem results_ok (hr : HR P g h w) {i : FI} {fn : Func} {l : E} {tmps : Array Value} (hl : LR g i.X l tmps) (hres : i.res = fn.results.toList) (hX : ∀ v, v ∈ i.res → memN (resTmp v) i.X = true) {vs : List AV} (hv : resV P l h i.res = some vs) :
    ∃ u, (results fn tmps).run P w = .ok u w ∧ VR g (one vs) u := by
  obtain ⟨us, h1, h2⟩ := resV_ok hr hl i.res vs hX hv
  refine ⟨_, ?_, one_VR h2⟩
  rw [results_eq, Array.mapM_eq_mapM_toList, ← hres]
  simp only [Sem.run_bind, Sem.run_map, h1, Result.andThen_ok, Sem.run_pure]
end
end Go.Eng

namespace Go.Eng
open Go
section
variable {P : Program} {J : FuncId} {R : Rec} {g : G} {h : H} {w : World}
theorem argE_get : ∀ (vs : List AV) (i d : Nat), (argE i vs).get d = (if i ≤ d then vs[d - i]? else none)
  | [], i, d => by simp [argE]
  | v :: vs, i, d => by
    have h0 : argE i (v :: vs) = .cons i v (argE (i + 1) vs) := rfl
    rw [h0, E.get_cons, argE_get vs]
    by_cases h1 : i = d
    · subst h1; simp
    · rw [if_neg h1]
      by_cases h2 : i ≤ d
      · rw [if_pos (by omega), if_pos h2]
        obtain ⟨k, hk⟩ : ∃ k, d - i = k + 1 := ⟨d - i - 1, by omega⟩
        rw [hk, show d - (i + 1) = k by omega]
        rfl
      · rw [if_neg (by omega), if_neg h2]
/-- a function with a body of its own -/
theorem cf1_ok (hP : ProgOK P) (hR : RecOK P J R) {f : FuncId} {vs : List AV} {v : AV} {h' : H} {i : FI} (hi : infoOf P f = some i) (he : cf1 P R f vs h (some i) = .ok v h') {args : Array Value} (hvs : VRL g vs args.toList) (hr : HR P g h w) {kind : CallKind} {cs : List Frame}
    (hk : kind = .normal ∨ (kind = .deferred ∧ ∃ c r, cs = c :: r ∧ c.mode = .returning)) :
    ∃ u w' g' fr, Steps P (lone (Frame.enter P f args kind) cs w) (lone fr cs w') ∧ Fin P f kind fr w' u ∧ VR g' v u ∧ Ext g h w g' h' w' ∧ HR P g' h' w' := by
  obtain ⟨fn, c, hf, hb, hcode, hres, hm, hX⟩ := infoOf_some hi
  have he : ret1 P R i.res (evalI P R none f i.code ⟨argE 0 vs, []⟩ h) = .ok v h' := he
  rw [hcode] at he
  unfold ret1 at he
  split at he
  · cases he
  · rename_i x f1 h1 hev
    let b : Frame := { (default : Frame) with fn := f, kind := kind, roundOf := none }
    have henter : Frame.enter P f args kind = b.atR { tmps := args ++ Array.replicate (fn.ntmps - args.size) undef, defers := [] } [.code c] := by
      simp [Frame.enter, Frame.atR, hf, hb, b]
    have hfr : FRel g i ⟨argE 0 vs, []⟩ { tmps := args ++ Array.replicate (fn.ntmps - args.size) undef, defers := [] } := by
      refine ⟨fun d v hd hv => ?_, by rw [hm]; simp; omega, rfl⟩
      rw [argE_get] at hv
      simp at hv
      obtain ⟨u, hu, hvu⟩ := hvs.get d v hv
      have hlt : d < args.size := by have := (List.getElem?_eq_some_iff.1 hu).1; simpa using this
      exact ⟨u, by rw [Array.getElem?_append_left hlt]; simpa using hu, hvu⟩
    have hfc : FC b cs := hk.imp id fun ⟨h1, c, r, h2, h3⟩ => ⟨h1, c, r, h2, h3⟩
    obtain ⟨g1, w1, a1, hout, hf1, hx1, hr1⟩ := code_ok (b := b) (cs := cs) hP hR hi (r := none) rfl hfc c [] ⟨argE 0 vs, []⟩ h x f1 h1 g w _ (fun h => by cases h) hev hfr hr rfl
    rw [← henter] at hout
    -- the body has come to its end
    have main : (∃ todo, Steps P (lone (Frame.enter P f args kind) cs w) (lone { b.atR a1 todo with mode := .returning } cs w1)) → retF P R i.res f1 h1 = .ok v h' →
        ∃ u w' g' fr, Steps P (lone (Frame.enter P f args kind) cs w) (lone fr cs w') ∧ Fin P f kind fr w' u ∧ VR g' v u ∧ Ext g h w g' h' w' ∧ HR P g' h' w' := by
      rintro ⟨todo, hs⟩ hrf
      unfold retF at hrf
      split at hrf
      · rename_i hdf
        split at hrf
        · cases hrf
        · rename_i us hus
          simp only [RV.ok.injEq] at hrf
          obtain ⟨rfl, rfl⟩ := hrf
          obtain ⟨u, h2, h3⟩ := results_ok hr1 hf1.loc hres hX hus
          have hd := hf1.dfr
          rw [hdf] at hd
          exact ⟨u, w1, g1, _, hs, ⟨rfl, rfl, rfl, hd, fn, hf, h2⟩, h3, hx1, hr1⟩
      · unfold retV at hrf
        split at hrf
        · cases hrf
        · rename_i v0 h2 hud
          split at hrf
          · cases hrf
          · rename_i us hus
            simp only [RV.ok.injEq] at hrf
            obtain ⟨rfl, rfl⟩ := hrf
            obtain ⟨w2, g2, hs2, hx2, hr2⟩ := hR.ud f1.defers h1 v0 h2 hud g1 w1 a1.defers hf1.dfr hr1 { b.atR a1 todo with mode := .returning } cs rfl rfl
            obtain ⟨u, h3, h4⟩ := results_ok hr2 (hf1.loc.mono hx2.mono) hres hX hus
            exact ⟨u, w2, g2, _, hs.trans hs2, ⟨rfl, rfl, rfl, rfl, fn, hf, h3⟩, h4, hx1.trans hx2, hr2⟩
    split at he
    · exact main ⟨[], Steps.trans hout (.one (stepR_end rfl))⟩ he
    · obtain ⟨k1, hs⟩ := hout
      exact main ⟨_, hs.trans (.one (stepR_ret rfl))⟩ he
    · cases he
/-- what strings.Join has to do -/
def JoinOK (P : Program) (J : FuncId) : Prop := (∃ fn c, P.funcs[J]? = some fn ∧ fn.body = some c) ∧
  ∀ vs h v h', joinR h vs = .ok v h' → ∀ g w (args : Array Value), VRL g vs args.toList → HR P g h w → ∀ cs,
    ∃ u w' g' fr, Steps P (lone (Frame.enter P J args .normal) cs w) (lone fr cs w') ∧ Fin P J .normal fr w' u ∧ VR g' v u ∧ Ext g h w g' h' w' ∧ HR P g' h' w'
theorem stepCF_ok (hP : ProgOK P) (hJ : JoinOK P J) (hR : RecOK P J R) {f : FuncId} {vs : List AV} {v : AV} {h' : H} (he : stepCF P J R f vs h = .ok v h') {args : Array Value} (hvs : VRL g vs args.toList) (hr : HR P g h w) :
    (∃ fn c, P.funcs[f]? = some fn ∧ fn.body = some c) ∧
    ∀ kind cs, (kind = .normal ∨ (kind = .deferred ∧ f ≠ J ∧ ∃ c r, cs = c :: r ∧ c.mode = .returning)) →
      ∃ u w' g' fr, Steps P (lone (Frame.enter P f args kind) cs w) (lone fr cs w') ∧ Fin P f kind fr w' u ∧ VR g' v u ∧ Ext g h w g' h' w' ∧ HR P g' h' w' := by
  unfold stepCF at he
  split at he
  · rename_i hb
    have hfj := Nat.eq_of_beq_eq_true hb
    subst hfj
    refine ⟨hJ.1, fun kind cs hk => ?_⟩
    rcases hk with rfl | ⟨_, h, _⟩
    · exact hJ.2 vs h v h' he g w args hvs hr cs
    · exact absurd rfl h
  · cases hi : infoOf P f with
    | none => rw [hi] at he; cases he
    | some i =>
      rw [hi] at he
      obtain ⟨fn, c, hf, hb, _⟩ := infoOf_some hi
      exact ⟨⟨fn, c, hf, hb⟩, fun kind cs hk => cf1_ok hP hR hi he hvs hr (hk.imp id fun ⟨h1, _, h2⟩ => ⟨h1, h2⟩)⟩
theorem bindE_len : ∀ {ps : List Nat} {vs : List AV} {l e : E}, bindE ps vs l = some e → ps.length = vs.length
  | [], [], _, _, _ => rfl
  | [], _ :: _, _, _, h => by cases h
  | _ :: _, [], _, _, h => by cases h
  | _ :: ps, _ :: vs, l, e, h => by
    have : bindE ps vs (E.set l _ _) = some e := h
    simp [bindE_len this]
theorem bindE_LR {X : List Nat} : ∀ {ps : List Nat} {vs : List AV} {us : List Value} {l e : E} {tmps : Array Value}, bindE ps vs l = some e → VRL g vs us → LR g X l tmps → (∀ p, p ∈ ps → p < tmps.size) →
    LR g X e ((ps.zip us).foldl (fun tmps (x : Nat × Value) => tmps.setIfInBounds x.1 x.2) tmps) ∧ ((ps.zip us).foldl (fun tmps (x : Nat × Value) => tmps.setIfInBounds x.1 x.2) tmps).size = tmps.size
  | [], [], us, l, e, tmps, h, hv, hl, _ => by
    obtain rfl := Option.some.inj (show some l = some e from h)
    simp only [VRL] at hv
    subst hv
    exact ⟨hl, rfl⟩
  | [], _ :: _, _, _, _, _, h, _, _, _ => by cases h
  | _ :: _, [], _, _, _, _, h, _, _, _ => by cases h
  | p :: ps, v :: vs, us, l, e, tmps, h, hv, hl, hp => by
    have h : bindE ps vs (E.set l p v) = some e := h
    simp only [VRL] at hv
    obtain ⟨u, us, rfl, h1, h2⟩ := hv
    have := bindE_LR (tmps := tmps.setIfInBounds p u) h h2 (fun d x hd hx => by
        rw [E.get_set] at hx
        by_cases e : p = d
        · subst e
          rw [if_pos rfl] at hx
          obtain rfl := Option.some.inj hx
          exact ⟨u, by rw [Array.getElem?_setIfInBounds_self_of_lt (hp p (by simp))], h1⟩
        · rw [if_neg e] at hx
          obtain ⟨c, h3, h4⟩ := hl d x hd hx
          exact ⟨c, by rw [Array.getElem?_setIfInBounds_ne e]; exact h3, h4⟩) (fun q hq => by simpa using hp q (by simp [hq]))
    simpa using this
/-- a round -/
theorem round_ok (hP : ProgOK P) (hR : RecOK P J R) {l : Ps} {vs : List AV} {v : AV} {h' : H} (he : round P R l vs h = .ok v h') {args : Array Value} {cl sh sz : Nat} (hgl : g l = some (cl, sh, sz)) (hvs : VRL g vs args.toList) (hr : HR P g h w) :
    ∃ n, (Instr.yield cl args).run P w = .ok n w ∧ ∀ c cs, ∃ u w' g', Goes P c cs w n u w' ∧ VR g' v u ∧ Ext g h w g' h' w' ∧ HR P g' h' w' := by
  unfold round at he
  split at he
  · rename_i st pend fn loc ps x0 y0 d hget
    unfold round1 at he
    split at he
    · cases he
    · rename_i i hi
      split at he
      · cases he
      · rename_i e hbe
        obtain ⟨o, ho, L, cd, sh', sz', i', rfl, q2, q3, q4, q5, q6, q7, q8, q9, q10, q11, q12, q13, q14, q15⟩ := hr.blk _ _ hget _ _ _ hgl
        rw [hi] at q10
        obtain rfl := Option.some.inj q10
        have hlen : args.size = L.params.size := by
          have h1 := bindE_len hbe
          have h2 := hvs.length
          rw [← q5] at h1
          simp at h1 h2
          omega
        refine ⟨_, run_yield ho hlen, fun c cs => ?_⟩
        obtain ⟨hlr, hsz⟩ := bindE_LR hbe hvs q11 (fun p hp => Nat.lt_of_lt_of_le (allBelow_iff.1 q13 p hp) q12)
        have hzip : (L.params.zip args).foldl (fun tmps (x : Tmp × Value) => match x with | (t, a) => tmps.setIfInBounds t a) L.tmps = (ps.zip args.toList).foldl (fun tmps (x : Nat × Value) => tmps.setIfInBounds x.1 x.2) L.tmps := by
          rw [← Array.foldl_toList, Array.toList_zip, q5]
        -- the round's frame
        let b : Frame := { (default : Frame) with fn := L.fn, kind := .normal, roundOf := some cl }
        generalize htm : (ps.zip args.toList).foldl (fun tmps (x : Nat × Value) => tmps.setIfInBounds x.1 x.2) L.tmps = tm at hlr hsz hzip
        have hb0 : Frame.round cl L.fn tm L.assign L.body .normal = b.atR { tmps := tm, defers := [] } [.code x0, .beginRound, .code y0] := by
          simp [Frame.round, Frame.atR, b, q6, q7]
        have hfc : FC b (c :: cs) := .inl rfl
        have hro : RO g (some l) b.roundOf := ⟨cl, sh, sz, hgl, rfl⟩
        unfold endRound at he
        split at he
        · cases he
        · rename_i x f3 h3 hth
          unfold thenN at hth
          split at hth
          · rename_i f1 h1 hev
            obtain ⟨g1, w1, a1, hout, hf1, hx1, hr1⟩ := code_ok (b := b) (cs := c :: cs) hP hR hi (r := some l) q4 hfc x0 [.beginRound, .code y0] ⟨e, []⟩ h .normal f1 h1 g w { tmps := tm, defers := [] } (fun _ => q14) hev
              ⟨hlr, by rw [hsz]; exact q12, rfl⟩ hr hro
            unfold beginRound at hth
            split at hth
            · rename_i pend1 fn1 loc1 ps1 x1 y1 d1 hget1
              have hgl1 : g1 l = some (cl, sh, sz) := hx1.mono _ _ hgl
              obtain ⟨o1, ho1, L1, cd1, sh1, sz1, i1, rfl, p2, p3, p4⟩ := hr1.blk _ _ hget1 _ _ _ hgl1
              simp only [StR] at p2
              obtain ⟨s1, s2⟩ := step_obj hr1 hget1 hgl1 (x' := .loop .busy pend1 fn1 loc1 ps1 x1 y1 d1) (o' := .loop { L1 with state := .busy }) ⟨_, cd1, sh1, sz1, i1, rfl, rfl, p3, p4⟩
              have hbr := stepR_beginRound (P := P) (b := b) (a := a1) (k := [.code y0]) (cs := c :: cs) rfl (run_beginRound ho1 p2)
              obtain ⟨g2, w2, a2, hout2, hf2, hx2, hr2⟩ := code_ok (b := b) (cs := c :: cs) hP hR hi (r := some l) q4 hfc y0 [] f1 _ x f3 h3 g1 _ a1 (fun _ => q15) hth hf1 s2 ⟨cl, sh, sz, hgl1, rfl⟩
              have hgl2 : g2 l = some (cl, sh, sz) := hx2.mono _ _ hgl1
              have hsteps : Steps P (lone (b.atR { tmps := tm, defers := [] } [.code x0, .beginRound, .code y0]) (c :: cs) w) (lone (b.atR a1 [.code y0]) (c :: cs) (w1.putObj cl (.loop { L1 with state := .busy }))) := Steps.trans hout (.one hbr)
              split at he
              · split at he
                · rename_i st2 pend2 fn2 loc2 ps2 x2 y2 d2 hget2
                  obtain ⟨o2, ho2, L2, cd2, sh2, sz2, i2, rfl, r2, r3, r4⟩ := hr2.blk _ _ hget2 _ _ _ hgl2
                  cases x with
                  | normal =>
                    simp only [RV.ok.injEq] at he
                    obtain ⟨rfl, rfl⟩ := he
                    obtain ⟨t1, t2⟩ := step_obj hr2 hget2 hgl2 (x' := .loop .ready none fn2 loc2 ps2 x2 y2 d2) (o' := .loop { L2 with state := .ready, pending := none }) ⟨_, cd2, sh2, sz2, i2, rfl, rfl, rfl, r4⟩
                    refine ⟨.bool true, _, g2, ?_, by simp only [VR], ((hx1.trans s1).trans hx2).trans t1, t2⟩
                    simp only [Goes, hzip, hb0]
                    exact (hsteps.trans hout2).trans (.one (stepR_round_end rfl rfl (run_endRound none ho2)))
                  | exit id =>
                    simp only [RV.ok.injEq] at he
                    obtain ⟨rfl, rfl⟩ := he
                    obtain ⟨t1, t2⟩ := step_obj hr2 hget2 hgl2 (x' := .loop .done (some (.exit id)) fn2 loc2 ps2 x2 y2 d2) (o' := .loop { L2 with state := .done, pending := some (.exit id) }) ⟨_, cd2, sh2, sz2, i2, rfl, rfl, rfl, r4⟩
                    refine ⟨.bool false, _, g2, ?_, by simp only [VR], ((hx1.trans s1).trans hx2).trans t1, t2⟩
                    simp only [Goes, hzip, hb0]
                    obtain ⟨k1, h5, h6⟩ := hout2
                    have h6 : exitTo id k1 = none := by rw [h6]; rfl
                    exact (hsteps.trans h5).trans (.one (stepR_round_exit rfl rfl h6 (run_endRound (some (.exit id)) ho2)))
                  | ret =>
                    simp only [RV.ok.injEq] at he
                    obtain ⟨rfl, rfl⟩ := he
                    obtain ⟨t1, t2⟩ := step_obj hr2 hget2 hgl2 (x' := .loop .done (some .ret) fn2 loc2 ps2 x2 y2 d2) (o' := .loop { L2 with state := .done, pending := some .ret }) ⟨_, cd2, sh2, sz2, i2, rfl, rfl, rfl, r4⟩
                    refine ⟨.bool false, _, g2, ?_, by simp only [VR], ((hx1.trans s1).trans hx2).trans t1, t2⟩
                    simp only [Goes, hzip, hb0]
                    obtain ⟨k1, h5⟩ := hout2
                    exact (hsteps.trans h5).trans (.one (stepR_round_ret rfl rfl (run_endRound (some .ret) ho2)))
                · cases he
              · cases he
            · cases hth
          · cases hth
  · cases he
theorem stepCV_ok (hP : ProgOK P) (hR : RecOK P J R) {gv : AV} {vs : List AV} {v : AV} {h' : H} (he : stepCV P R gv vs h = .ok v h') {fv : Value} {args : Array Value} (hfv : VR g gv fv) (hvs : VRL g vs args.toList) (hr : HR P g h w) :
    ∃ d n, (∀ w, (Deferred.ofValue fv args).run P w = .ok d w) ∧ (invoke d.target d.args).run P w = .ok n w ∧
      ∀ c cs, ∃ u w' g', Goes P c cs w n u w' ∧ VR g' v u ∧ Ext g h w g' h' w' ∧ HR P g' h' w' := by
  unfold stepCV at he
  split at he
  · rename_i f fi cap
    simp only [VR] at hfv
    obtain ⟨aV, cV, rfl, h1, h2⟩ := hfv
    obtain ⟨⟨fn, c0, hf, hb⟩, hgo⟩ := hR.cf f _ h v h' he g w ((aV ++ args) ++ cV) (by
      simp only [Array.toList_append, List.append_assoc]
      exact h1.append (hvs.append h2)) hr
    refine ⟨{ target := .fn (.func f) cV, args := aV ++ args }, .enter f ((aV ++ args) ++ cV), fun w => rfl, ?_, fun c cs => ?_⟩
    · simp only [invoke]
      exact run_callFunc hP hf hb _ _
    · obtain ⟨u, w', g', fr, hs, hfin, hvr, hx, hr'⟩ := hgo .normal (c :: cs) (.inl rfl)
      exact ⟨u, w', g', hs.trans (.one (step_back hfin)), hvr, hx, hr'⟩
  · rename_i l
    simp only [VR] at hfv
    obtain ⟨cl, sh, sz, hgl, rfl⟩ := hfv
    obtain ⟨n, h1, h2⟩ := round_ok hP hR he hgl hvs hr
    refine ⟨{ target := .fn (.yield cl) #[], args := #[] ++ args }, n, fun w => rfl, ?_, h2⟩
    simp only [invoke, Array.empty_append]
    exact h1
  · cases he
theorem step_mark {fr : Frame} {cs : List Frame} {c : Nat} {ds : List Deferred} (hm : fr.mode = .returning) (hd : fr.defers = { target := .collected c, args := #[] } :: ds) (ho : w.heap[c]? = some (.deferred (some []))) :
    step P (lone fr cs w) = .next (lone { fr with defers := ds } cs (w.putObj c (.deferred none))) := by
  have h1 := run_takeDeferred (P := P) ho
  refine step_lone_go ?_
  simp [stepG, unwind, hm, hd, Sem.runT_eq, h1, GStep.bare_after]
theorem stepUD_ok (hP : ProgOK P) (hR : RecOK P J R) {ds : List Dfr} {v : AV} {h' : H} (he : stepUD J R ds h = .ok v h') {ds' : List Deferred} (hd : DR g ds ds') (hr : HR P g h w) (fr : Frame) (cs : List Frame) (hm : fr.mode = .returning) (hfd : fr.defers = ds') :
    ∃ w' g', Steps P (lone fr cs w) (lone { fr with defers := [] } cs w') ∧ Ext g h w g' h' w' ∧ HR P g' h' w' := by
  unfold stepUD at he
  split at he
  · simp only [RV.ok.injEq] at he
    obtain ⟨rfl, rfl⟩ := he
    simp only [DR] at hd
    subst hd
    have : ({ fr with defers := [] } : Frame) = fr := by cases fr; simp at hfd; subst hfd; rfl
    rw [this]
    exact ⟨w, g, .refl P _, Ext.refl _ _ _, hr⟩
  · rename_i b ds
    obtain ⟨c, sh, sz, ds2, h1, h2, h3⟩ := hd
    split at he
    · rename_i hget
      obtain ⟨o, ho, rfl⟩ := hr.blk _ _ hget _ _ _ h1
      obtain ⟨s1, s2⟩ := step_obj hr hget h1 (x' := .dfr true) (o' := .deferred none) rfl
      obtain ⟨w', g', s3, s4, s5⟩ := hR.ud ds _ v h' he g _ ds2 h3 s2 { fr with defers := ds2 } cs hm rfl
      exact ⟨w', g', .head (step_mark hm (by rw [hfd, h2]) ho) s3, s1.trans s4, s5⟩
    · cases he
  · rename_i gv vs ds
    obtain ⟨f, fi, cap, fiV, capV, vsV, ds2, rfl, h2, h3, h4, h5, h6⟩ := hd
    simp only [] at he
    split at he
    · cases he
    · rename_i hfj
      have hfj := bne_of hfj
      unfold udN at he
      split at he
      · cases he
      · rename_i v1 h1 hcf
        obtain ⟨⟨fn, c0, hf, hb⟩, hgo⟩ := hR.cf f _ h v1 h1 hcf g w ((fiV ++ vsV) ++ capV) (by
          simp only [Array.toList_append, List.append_assoc]
          exact h3.append (h5.append h4)) hr
        have hinv : (invoke (.fn (.func f) capV) (fiV ++ vsV)).run P w = .ok (.enter f ((fiV ++ vsV) ++ capV)) w := by
          simp only [invoke]
          exact run_callFunc hP hf hb _ _
        have hs0 := step_defer (P := P) (cs := cs) (w := w) (d := { target := .fn (.func f) capV, args := fiV ++ vsV }) (ds := ds2) (by rw [hm]; simp) (by rw [hfd, h2]) rfl hinv
        obtain ⟨u, w1, g1, fr1, s1, ⟨k1, k2, k3, k4, fn1, k5, k6⟩, _, x1, r1⟩ := hgo .deferred ({ fr with defers := ds2 } :: cs) (.inr ⟨rfl, hfj, _, _, rfl, hm⟩)
        have hback := step_going_returned (P := P) (c := { fr with defers := ds2 }) (cs := cs) k1 ⟨k3, k4, fn1, k2 ▸ k5, k6⟩
        have hset : settle (({ fr with defers := ds2 } : Frame)).mode = .returning := by simp only [hm]; rfl
        rw [hset] at hback
        have hfr : ({ ({ fr with defers := ds2 } : Frame) with mode := .returning } : Frame) = { fr with defers := ds2 } := by rw [← hm]
        rw [hfr] at hback
        obtain ⟨w', g', s3, s4, s5⟩ := hR.ud ds h1 v h' he g1 w1 ds2 (h6.mono x1.mono) r1 { fr with defers := ds2 } cs hm rfl
        exact ⟨w', g', .head hs0 (s1.trans (.head hback s3)), x1.trans s4, s5⟩
theorem stepLoop_ok (hP : ProgOK P) (hR : RecOK P J R) {r : Option Ps} {fn : FuncId} {fi : FI} {c : Code} {f : Fr} {x : Ex} {f' : Fr} {h' : H} (hi : infoOf P fn = some fi) (hc : r.isSome = true → calmC c = true)
    (he : stepLoop P R r fn (planC P fi.X fi.m c) f h = .ok x f' h') {a : Act} (hf : FRel g fi f a) (hr : HR P g h w) {b : Frame} {k : List Item} {cs : List Frame} (hb : b.fn = fn) (hfc : FC b cs) (hro : RO g r b.roundOf) :
    ∃ g' w' a', Out P (lone (b.atR a (.inLoop c :: k)) cs w) b k cs x a' w' ∧ FRel g' fi f' a' ∧ Ext g h w g' h' w' ∧ HR P g' h' w' := by
  show Res P fi _ b k cs g h w x f' h'
  refine Res.steps (.one stepR_inLoop) ?_
  unfold stepLoop thenC at he
  split at he
  · cases he
  · rename_i x1 f1 h1 h2
    have hres := code_ok hP hR hi hb hfc c (.inLoop c :: k) f h x1 f1 h1 g w a hc h2 hf hr hro
    split at he
    · obtain ⟨g', w', a', h3, h4, h5, h6⟩ := hres
      obtain ⟨g2, w2, a2, e1, e2, e3, e4⟩ := hR.loop r fn fi c f1 h1 x f' h' hi hc he g' w' a' h4 h6 b k cs hb hfc (hro.mono h5.mono)
      exact Res.after h3 h5 ⟨g2, w2, a2, e1, e2, e3, e4⟩
    · simp only [RC.ok.injEq] at he
      obtain ⟨rfl, rfl, rfl⟩ := he
      exact hres.pass rfl (by simp)
    · simp only [RC.ok.injEq] at he
      obtain ⟨rfl, rfl, rfl⟩ := he
      exact hres.pass rfl (by simp)
theorem rec0_ok : RecOK P J rec0 where
  cf := fun _ _ _ _ _ h => by cases h
  cv := fun _ _ _ _ _ h => by cases h
  ud := fun _ _ _ _ h => by cases h
  loop := fun _ _ _ _ _ _ _ _ _ _ _ h => by cases h
theorem stepR_ok (hP : ProgOK P) (hJ : JoinOK P J) (hR : RecOK P J R) : RecOK P J (stepR P J R) where
  cf := fun f vs h v h' he g w args hvs hr => stepCF_ok hP hJ hR he hvs hr
  cv := fun gv vs h v h' he g w fv args hfv hvs hr => stepCV_ok hP hR he hfv hvs hr
  ud := fun ds h v h' he g w ds' hd hr fr cs hm hfd => stepUD_ok hP hR he hd hr fr cs hm hfd
  loop := fun r fn fi c f h x f' h' hi hc he g w a hf hr b k cs hb hfc hro => stepLoop_ok hP hR hi hc he hf hr hb hfc hro
/-- THE ENGINE IS SOUND -/
theorem runR_ok (hP : ProgOK P) (hJ : JoinOK P J) : ∀ n, RecOK P J (runR P J n)
  | 0 => rec0_ok
  | n + 1 => stepR_ok hP hJ (runR_ok hP hJ n)
end
end Go.Eng
