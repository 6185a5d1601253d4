/-
  A part of the proof of casketlaw17.TurnsOwn: the evaluator's soundness, or the law's own steps. By an AI agent.
-/
import Derived.Test.YtjlkbflcdagcbaaGreatDoorST
import Derived.Defers
namespace Go.Eng
open Go
/-! ### the machine's own steps, in a frame -/
section
variable {P : Program} {b : Frame} {a : Act} {k : List Item} {cs : List Frame} {w w' : World} {ops : Array Oper} {i : Nat} {rest : List Nat} {o : Oper}
theorem fin_at (ho : ops[i]? = some o) (v : Value) : (b.atR a (.inRegion ops (i :: rest) :: k)).finish v = b.atR (a.put o.dst v) (.inRegion ops rest :: k) := by
  rw [Frame.finish_atR, ho]; rfl
theorem st_value (ho : ops[i]? = some o) (hw : Region.wanted o (yielded ops a.tmps) = true) {v : Value} (hr : (o.semAt b.roundOf a.eval).run P w = .ok (.value v) w') :
    step P (lone (b.atR a (.inRegion ops (i :: rest) :: k)) cs w) = .next (lone (b.atR (a.put o.dst v) (.inRegion ops rest :: k)) cs w') :=
  step_lone_go (by rw [stepGR_op ho hw, ← fin_at ho]; simp [stepG.apply, hr])
theorem st_skip (ho : ops[i]? = some o) (hw : Region.wanted o (yielded ops a.tmps) = true) (hr : (o.semAt b.roundOf a.eval).run P w = .ok .skip w') :
    step P (lone (b.atR a (.inRegion ops (i :: rest) :: k)) cs w) = .next (lone (b.atR (a.put o.dst undef) (.inRegion ops rest :: k)) cs w') :=
  step_lone_go (by rw [stepGR_op ho hw, ← fin_at ho]; simp [stepG.apply, hr])
theorem st_defer (ho : ops[i]? = some o) (hw : Region.wanted o (yielded ops a.tmps) = true) {d : Deferred} (hr : (o.semAt b.roundOf a.eval).run P w = .ok (.defer d) w') :
    step P (lone (b.atR a (.inRegion ops (i :: rest) :: k)) cs w) = .next (lone (b.atR ({ a with defers := d :: a.defers }.put o.dst undef) (.inRegion ops rest :: k)) cs w') := by
  refine step_lone_go ?_
  have : ({ b.atR a (.inRegion ops (i :: rest) :: k) with defers := d :: a.defers } : Frame).finish undef =
      b.atR ({ a with defers := d :: a.defers }.put o.dst undef) (.inRegion ops rest :: k) := by
    have := Frame.finish_atR b { a with defers := d :: a.defers } ops i rest k undef
    rw [ho] at this; exact this
  rw [stepGR_op ho hw]; simp only [stepG.apply, Sem.runT_eq, hr, GStep.bare_after]
  exact congrArg (fun fr => GStep.go { frame := fr, callers := cs, status := .running, dying := none } w') this
theorem st_enter (ho : ops[i]? = some o) (hw : Region.wanted o (yielded ops a.tmps) = true) {f : FuncId} {args : Array Value} (hr : (o.semAt b.roundOf a.eval).run P w = .ok (.enter f args) w') :
    step P (lone (b.atR a (.inRegion ops (i :: rest) :: k)) cs w) = .next (lone (Frame.enter P f args .normal) (b.atR a (.inRegion ops (i :: rest) :: k) :: cs) w') :=
  step_lone_go (by rw [stepGR_op ho hw]; simp [stepG.apply, hr, Frame.atR])
theorem st_round (ho : ops[i]? = some o) (hw : Region.wanted o (yielded ops a.tmps) = true) {l : Nat} {f : FuncId} {tmps : Array Value} {x y : Code} (hr : (o.semAt b.roundOf a.eval).run P w = .ok (.round l f tmps x y) w') :
    step P (lone (b.atR a (.inRegion ops (i :: rest) :: k)) cs w) = .next (lone (Frame.round l f tmps x y .normal) (b.atR a (.inRegion ops (i :: rest) :: k) :: cs) w') :=
  step_lone_go (by rw [stepGR_op ho hw]; simp [stepG.apply, hr, Frame.atR])
/-- a frame in which 'recover' answers nil -/
def FC (b : Frame) (cs : List Frame) : Prop := b.kind = .normal ∨ (b.kind = .deferred ∧ ∃ c r, cs = c :: r ∧ c.mode = .returning)
theorem FC.none (h : FC b cs) (a : Act) (k : List Item) : tryRecover (b.atR a k) cs = none := by
  rcases h with h | ⟨h, c, r, rfl, hm⟩
  · unfold tryRecover; simp [Frame.atR, h]
  · unfold tryRecover; simp [Frame.atR, h, hm]
theorem st_recover (ho : ops[i]? = some o) (hw : Region.wanted o (yielded ops a.tmps) = true) (hb : b.roundOf = none) (hf : FC b cs) (hr : (o.semAt b.roundOf a.eval).run P w = .ok .recover w') :
    step P (lone (b.atR a (.inRegion ops (i :: rest) :: k)) cs w) = .next (lone (b.atR (a.put o.dst .nilIface) (.inRegion ops rest :: k)) cs w') := by
  refine step_lone_go ?_
  have hn := hf.none a (.inRegion ops (i :: rest) :: k)
  rw [stepGR_op ho hw, ← fin_at ho]
  have hro : (b.atR a (.inRegion ops (i :: rest) :: k)).roundOf = none := hb
  simp only [stepG.apply, Sem.runT_eq, hr, GStep.bare_after, hro, hn]
  rfl
theorem stepR_scope {c : Code} :
    step P (lone (b.atR a (.code (.scope c) :: k)) cs w) = .next (lone (b.atR a (.code c :: .inScope c :: k)) cs w) :=
  step_lone_go (by simp [stepG, stepG.exec, Frame.atR])
theorem stepR_inScope {c : Code} :
    step P (lone (b.atR a (.inScope c :: k)) cs w) = .next (lone (b.atR a k) cs w) :=
  step_lone_go (by simp [stepG, stepG.exec, Frame.atR])
end

/-! ### the relations -/
def DR (g : G) : List Dfr → List Deferred → Prop
  | [], ds => ds = []
  | .call gv vs :: r, ds => ∃ f fi cap, ∃ fiV capV vsV : Array Value, ∃ ds', gv = .fn f fi cap ∧ ds = { target := .fn (.func f) capV, args := fiV ++ vsV } :: ds' ∧
      VRL g fi fiV.toList ∧ VRL g cap capV.toList ∧ VRL g vs vsV.toList ∧ DR g r ds'
  | .mark b :: r, ds => ∃ c sh sz ds', g b = some (c, sh, sz) ∧ ds = { target := .collected c, args := #[] } :: ds' ∧ DR g r ds'
theorem DR.mono {g g' : G} (h : GLe g g') : ∀ {ds : List Dfr} {l : List Deferred}, DR g ds l → DR g' ds l
  | [], _, hd => hd
  | .call gv vs :: r, _, ⟨f, fi, cap, fiV, capV, vsV, ds', h1, h2, h3, h4, h5, h6⟩ => ⟨f, fi, cap, fiV, capV, vsV, ds', h1, h2, VRL.mono h _ _ h3, VRL.mono h _ _ h4, VRL.mono h _ _ h5, h6.mono h⟩
  | .mark b :: r, _, ⟨c, sh, sz, ds', h1, h2, h3⟩ => ⟨c, sh, sz, ds', h _ _ h1, h2, h3.mono h⟩
/-- the round that a frame is of -/
def RO (g : G) : Option Ps → Option Nat → Prop
  | none, o => o = none
  | some l, o => ∃ c sh sz, g l = some (c, sh, sz) ∧ o = some c
theorem RO.mono {g g' : G} (h : GLe g g') : ∀ {r : Option Ps} {o : Option Nat}, RO g r o → RO g' r o
  | none, _, hr => hr
  | some _, _, ⟨c, sh, sz, h1, h2⟩ => ⟨c, sh, sz, h _ _ h1, h2⟩
/-- a frame's variables, and what it has put off -/
structure FRel (g : G) (i : FI) (f : Fr) (a : Act) : Prop where
  loc : LR g i.X f.loc a.tmps
  size : i.m ≤ a.tmps.size
  dfr : DR g f.defers a.defers
theorem FRel.mono {g g' : G} (h : GLe g g') {i : FI} {f : Fr} {a : Act} (hf : FRel g i f a) : FRel g' i f a := ⟨hf.loc.mono h, hf.size, hf.dfr.mono h⟩
/-- how the machine comes out of a piece of code -/
def Out (P : Program) (m : Machine) (b : Frame) (k : List Item) (cs : List Frame) : Ex → Act → World → Prop
  | .normal, a, w => Steps P m (lone (b.atR a k) cs w)
  | .exit id, a, w => ∃ k1, Steps P m (lone (b.atR a (.code (.exit id) :: k1)) cs w) ∧ exitTo id k1 = exitTo id k
  | .ret, a, w => ∃ k1, Steps P m (lone (b.atR a (.code .ret :: k1)) cs w)
theorem Out.of_steps {P : Program} {m m1 : Machine} {b : Frame} {k : List Item} {cs : List Frame} {a : Act} {w : World} (h : Steps P m m1) : ∀ {x : Ex}, Out P m1 b k cs x a w → Out P m b k cs x a w
  | .normal, ho => h.trans ho
  | .exit _, ⟨k1, h1, h2⟩ => ⟨k1, h.trans h1, h2⟩
  | .ret, ⟨k1, h1⟩ => ⟨k1, h.trans h1⟩

/-- a frame that has come back -/
def Fin (P : Program) (f : FuncId) (kind : CallKind) (fr : Frame) (w : World) (u : Value) : Prop :=
  fr.kind = kind ∧ fr.fn = f ∧ fr.mode = .returning ∧ fr.defers = [] ∧ ∃ fn, P.funcs[f]? = some fn ∧ (results fn fr.tmps).run P w = .ok u w
/-- a call from a frame goes through -/
def Goes (P : Program) (c : Frame) (cs : List Frame) (w : World) (n : Next) (u : Value) (w' : World) : Prop := match n with
  | .enter f args => Steps P (lone (Frame.enter P f args .normal) (c :: cs) w) (lone (c.finish u) cs w')
  | .round l f tmps x y => Steps P (lone (Frame.round l f tmps x y .normal) (c :: cs) w) (lone (c.finish u) cs w')
  | _ => False
structure RecOK (P : Program) (J : FuncId) (R : Rec) : Prop where
  cf : ∀ f vs h v h', R.cf f vs h = .ok v h' → ∀ g w (args : Array Value), VRL g vs args.toList → HR P g h w →
    (∃ fn c, P.funcs[f]? = some fn ∧ fn.body = some c) ∧
    ∀ kind cs, (kind = .normal ∨ (kind = .deferred ∧ f ≠ J ∧ ∃ c r, cs = c :: r ∧ c.mode = .returning)) →
      ∃ u w' g' fr, Steps P (lone (Frame.enter P f args kind) cs w) (lone fr cs w') ∧ Fin P f kind fr w' u ∧ VR g' v u ∧ Ext g h w g' h' w' ∧ HR P g' h' w'
  cv : ∀ gv vs h v h', R.cv gv vs h = .ok v h' → ∀ g w fv (args : Array Value), VR g gv fv → VRL g vs args.toList → HR P g h w →
    ∃ d n, (∀ w, (Deferred.ofValue fv args).run P w = .ok d w) ∧ (invoke d.target d.args).run P w = .ok n w ∧
      ∀ c cs, ∃ u w' g', Goes P c cs w n u w' ∧ VR g' v u ∧ Ext g h w g' h' w' ∧ HR P g' h' w'
  ud : ∀ ds h v h', R.ud ds h = .ok v h' → ∀ g w ds', DR g ds ds' → HR P g h w → ∀ fr cs, fr.mode = .returning → fr.defers = ds' →
    ∃ w' g', Steps P (lone fr cs w) (lone { fr with defers := [] } cs w') ∧ Ext g h w g' h' w' ∧ HR P g' h' w'
  loop : ∀ r fn fi c f h x f' h', infoOf P fn = some fi → (r.isSome = true → calmC c = true) → R.loop r fn (planC P fi.X fi.m c) f h = .ok x f' h' →
    ∀ g w a, FRel g fi f a → HR P g h w → ∀ b k cs, b.fn = fn → FC b cs → RO g r b.roundOf →
      ∃ g' w' a', Out P (lone (b.atR a (.inLoop c :: k)) cs w) b k cs x a' w' ∧ FRel g' fi f' a' ∧ Ext g h w g' h' w' ∧ HR P g' h' w'
/-- what the program has to be -/
structure ProgOK (P : Program) : Prop where
  num : ∀ (f : FuncId) (fn : Func), P.funcs[f]? = some fn → (fn.name == "runtime.NumGoroutine") = false
  mixed : P.follows .mixedOrders = true
theorem run_callFunc {P : Program} (hP : ProgOK P) {f : FuncId} {fn : Func} {c : Code} (hf : P.funcs[f]? = some fn) (hb : fn.body = some c) (args : Array Value) (w : World) :
    (callFunc f args).run P w = .ok (.enter f args) w := by
  have hn := hP.num f fn hf
  have hn' : ¬ fn.name = "runtime.NumGoroutine" := by simpa using hn
  simp [callFunc, hf, hn', hb]
theorem step_back {P : Program} {f : FuncId} {fr c : Frame} {cs : List Frame} {w : World} {u : Value} (h : Fin P f .normal fr w u) :
    step P (lone fr (c :: cs) w) = .next (lone (c.finish u) cs w) := by
  obtain ⟨h1, h2, h3, h4, fn, h5, h6⟩ := h
  exact step_leave_returned ⟨h3, h4, h1, fn, h2 ▸ h5, h6⟩
end Go.Eng

namespace Go.Eng
open Go
section
variable {P : Program} {g : G} {h : H} {w : World}
/-- a load of a variable -/
theorem ldT_ok (hr : HR P g h w) {ty : TypeId} {b : Ps} {o c sh sz : Nat} {v : AV} (hl : ldT P h ty (.ptr b o) = some v) (hg : g b = some (c, sh, sz)) :
    ∃ u, (loadVar ty ⟨c, o + sh, none⟩).run P w = .ok u w ∧ VR g v u := by
  unfold ldT at hl
  split at hl
  · rename_i hA
    obtain ⟨b', q, vs, m, gr, e, hb, hlt, hv⟩ := load1_some hl
    cases e
    obtain ⟨cs, el, fz, hc, _, _, _, _, _, h7⟩ := hr.cells hb hg
    obtain ⟨v', u, hv', hu, hvu⟩ := h7 o hlt
    rw [hv] at hv'
    obtain rfl := Option.some.inj hv'
    refine ⟨u, ?_, hvu⟩
    simp [loadVar, isA_of hA, cell_of hc, hu]
  · rename_i hA
    split at hl
    · rename_i n hs
      obtain ⟨b', q, vs, m, gr, cs, e, hb, hle, hcs, rfl⟩ := loadN_some hl
      cases e
      obtain ⟨us, hul, hvl, hcell⟩ := hr.stretch hb hg hle hcs
      refine ⟨.agg us.toArray, ?_, by simp only [VR]; exact ⟨_, rfl, hvl⟩⟩
      have := run_loadCells_list (P := P) (w := w) ⟨c, o + sh, none⟩ us (fun j u hu => by rw [Addr.add_lit]; exact hcell j u hu)
      rw [hul] at this
      simp [loadVar, isA_of hA, run_sizeOf_of hs, this]
    · cases hl
  · cases hl
/-- a place -/
def PlR (g : G) : Pl → Place → Prop
  | .val v, p => ∃ y, p = .val y ∧ VR g v y
  | .var b o, p => ∃ c sh sz, g b = some (c, sh, sz) ∧ p = .var ⟨c, o + sh, none⟩
theorem plGet_ok (hr : HR P g h w) {ty : TypeId} {x : Pl} {y : Place} {v : AV} (hv : plGet P h ty x = some v) (hx : PlR g x y) : ∃ u, (y.get ty).run P w = .ok u w ∧ VR g v u := by
  cases x with
  | val a =>
    obtain ⟨y, rfl, hy⟩ := hx
    obtain rfl := Option.some.inj hv
    exact ⟨y, rfl, hy⟩
  | var b o =>
    obtain ⟨c, sh, sz, hg, rfl⟩ := hx
    exact ldT_ok hr hv hg
theorem run_fieldPlace {f : Field} {s : Nat} (hs : tsize P f.type = some (s + 1)) (a : Addr) : (fieldPlace a f).run P w = .ok (a.add f.offset) w := by
  simp only [fieldPlace, Sem.run_bind, run_sizeOf_of hs, Result.andThen_ok, Nat.add_eq_zero_iff, Nat.succ_ne_zero, and_false, if_false, Sem.run_pure]
theorem follow_ok (hr : HR P g h w) : ∀ (path : List FieldStep) (ty : TypeId) (x : Pl) (y : Place) (xt : TypeId) (x' : Pl), followA P h path ty x = some (xt, x') → PlR g x y →
    ∃ y', (follow path ty y).run P w = .ok (xt, y') w ∧ PlR g x' y'
  | [], ty, x, y, xt, x', hf, hx => by
    obtain ⟨rfl, rfl⟩ : ty = xt ∧ x = x' := by simpa [followA] using hf
    exact ⟨y, rfl, hx⟩
  | s :: rest, ty, x, y, xt, x', hf, hx => by
    unfold followA at hf
    split at hf
    · cases hf
    · rename_i off sz ft hfl
      split at hf
      · cases hf
      · rename_i sz
        obtain ⟨fs, fx, h1, h2, h3, h4, h5⟩ := fld_of hfl
        split at hf
        · rename_i hde
          split at hf
          · rename_i b o hpl
            obtain ⟨u, hu, hvu⟩ := plGet_ok hr hpl hx
            simp only [VR] at hvu
            obtain ⟨c, sh, z, hg, rfl⟩ := hvu
            obtain ⟨y', h6, h7⟩ := follow_ok hr rest ft (.var b (o + off)) (.var ⟨c, o + off + sh, none⟩) xt x' hf ⟨c, sh, z, hg, rfl⟩
            refine ⟨y', ?_, h7⟩
            have h5' : tsize P fx.type = some (sz + 1) := h4 ▸ h5
            simp only [follow, Sem.run_bind, run_und_of h1, Result.andThen_ok, h2, hde, if_true, hu, asAddr, Sem.run_pure, run_fieldPlace h5', Addr.add_lit, h3, h4]
            rw [show o + sh + off = o + off + sh by omega]
            exact h6
          · cases hf
        · rename_i hde
          split at hf
          · rename_i b o
            obtain ⟨c, sh, z, hg, rfl⟩ := hx
            obtain ⟨y', h6, h7⟩ := follow_ok hr rest ft (.var b (o + off)) (.var ⟨c, o + off + sh, none⟩) xt x' hf ⟨c, sh, z, hg, rfl⟩
            refine ⟨y', ?_, h7⟩
            have h5' : tsize P fx.type = some (sz + 1) := h4 ▸ h5
            simp only [follow, Sem.run_bind, run_und_of h1, Result.andThen_ok, h2, hde, Bool.false_eq_true, if_false, run_fieldPlace h5', Addr.add_lit, h3, h4]
            rw [show o + sh + off = o + off + sh by omega]
            exact h6
          · cases hf
theorem findM_find {name : String} : ∀ {ms : List Method}, findM name ms = ms.find? (·.name == name)
  | [] => rfl
  | m :: ms => by
    unfold findM
    rw [List.find?_cons, findM_find]
    cases m.name == name <;> rfl
theorem method_ok (hr : HR P g h w) {u : TypeId} {v r : AV} {y : Value} {m : String} {f : Nat} (hv : VR g v y) (hm : methodA P h u v (methOf P u m) = some (f, r)) :
    ∃ z, (method (P.types.size + Made.depth) u y m).run P w = .ok (f, z) w ∧ VR g r z := by
  unfold methodA at hm
  split at hm
  · cases hm
  · rename_i path f' hmo
    split at hm
    · cases hm
    · rename_i xt x hfo
      split at hm
      · rename_i pe hu
        split at hm
        · cases hm
        · rename_i r' hg
          obtain ⟨rfl, rfl⟩ : f' = f ∧ r' = r := by simpa using hm
          obtain ⟨y', h6, h7⟩ := follow_ok hr path u (.val v) (.val y) xt x hfo ⟨y, rfl, hv⟩
          obtain ⟨z, h8, h9⟩ := plGet_ok hr hg h7
          refine ⟨z, ?_, h9⟩
          unfold methOf at hmo
          split at hmo
          · cases hmo
          · rename_i i hi
            split at hmo
            · rename_i mm hf
              split at hmo
              · rename_i ff hfu
                obtain ⟨rfl, rfl⟩ : mm.path.toList = path ∧ ff = f' := by simpa using hmo
                rw [findM_find] at hf
                have hf' : i.methods.find? (·.name == m) = some mm := by simpa using hf
                have hi' : P.info? u = some i := info_of hi
                have hd : P.types.size + Made.depth = (P.types.size + (Made.depth - 1)) + 1 := by
                  have : 0 < Made.depth := by unfold Made.depth; omega
                  omega
                rw [hd]
                simp only [method, Sem.run_bind, typeInfo, run_program, hi', Result.andThen_ok, Sem.run_pure, hf', h6, hfu, receiverAt, run_und_of hu, h8]
              · cases hmo
            · cases hmo
      · cases hm
end

/-- no call -/
def PlI : Ins → Bool
  | .call _ _ _ => false
  | .inv _ _ _ _ => false
  | .defer _ _ _ => false
  | .recover _ => false
  | .guard _ _ _ _ => false
  | _ => true
section
variable {P : Program} {R : Rec} {l t : E}
theorem one_pl {i : Ins} (hi : PlI i = true) {ds ds1 : List Dfr} {h h1 : H} {v : AV} (ho : oneI P R l i t ds h = some (v, ds1, h1)) : insV t l h i = .ok v h1 ∧ ds1 = ds := by
  cases i <;> first
    | (cases hi; done)
    | (simp only [oneI] at ho
       split at ho
       · rename_i v' h' hv
         simp only [Option.some.injEq, Prod.mk.injEq] at ho
         obtain ⟨rfl, rfl, rfl⟩ := ho
         exact ⟨hv, rfl⟩
       · cases ho)
theorem plan1_pl (X dd : List Nat) (d : Nat) (op : Op) : PlI (plan1 P X dd d op) = true ∨ (∃ c x, op = .call c ∧ c.callee = .value x) ∨ (∃ c x m, op = .call c ∧ c.callee = .invoke x m) ∨
    (∃ c, op = .call c ∧ c.callee = .builtin .recover) ∨ (∃ c x, op = .defer c ∧ c.callee = .value x) := by
  cases op with
  | call c =>
    cases hc : c.callee with
    | builtin b =>
      cases b with
      | recover => exact .inr (.inr (.inr (.inl ⟨c, rfl, hc⟩)))
      | _ => refine .inl ?_; simp only [plan1, hc] <;> (repeat' split) <;> simp [PlI]
    | value x => exact .inr (.inl ⟨c, x, rfl, hc⟩)
    | invoke x m => exact .inr (.inr (.inl ⟨c, x, m, rfl, hc⟩))
  | defer c =>
    cases hc : c.callee with
    | value x => exact .inr (.inr (.inr (.inr ⟨c, x, rfl, hc⟩)))
    | _ => refine .inl ?_; simp [plan1, hc, PlI]
  | convert s t x => refine .inl ?_; simp only [plan1, convP]; (repeat' split) <;> simp [PlI]
  | build t ps => refine .inl ?_; simp only [plan1, bld]; (repeat' split) <;> simp [PlI]
  | buildSlice t n ps => refine .inl ?_; simp only [plan1, bldS]; (repeat' split) <;> simp [PlI]
  | mapUpdate t m k v => refine .inl ?_; simp only [plan1, updP]; (repeat' split) <;> simp [PlI]
  | insert t m k v => refine .inl ?_; simp only [plan1, updP]; (repeat' split) <;> simp [PlI]
  | next x b => refine .inl ?_; cases b <;> simp [plan1, PlI]
  | makeMap t r => refine .inl ?_; cases r <;> simp [plan1, PlI]
  | binOp op t x y yt => refine .inl ?_; cases op <;> simp only [plan1] <;> (repeat' split) <;> simp [PlI]
  | _ => refine .inl ?_; simp only [plan1]; (repeat' split) <;> simp [PlI]
end

/-- one operation, in a frame -/
def OneR (P : Program) (b : Frame) (a : Act) (k : List Item) (cs : List Frame) (ops : Array Oper) (i : Nat) (rest : List Nat) (o : Oper) (g : G) (h : H) (w : World) (v : AV) (ds1 : List Dfr) (h1 : H) : Prop :=
  ∃ c g1 w1 ds', Steps P (lone (b.atR a (.inRegion ops (i :: rest) :: k)) cs w) (lone (b.atR (({ a with defers := ds' } : Act).put o.dst c) (.inRegion ops rest :: k)) cs w1) ∧
    VR g1 v c ∧ Ext g h w g1 h1 w1 ∧ HR P g1 h1 w1 ∧ DR g1 ds1 ds'
section
variable {P : Program} {J : FuncId} {R : Rec} {X dd : List Nat} {d : Nat} {t l : E} {g : G} {h h1 : H} {w : World} {b : Frame} {a : Act} {k : List Item} {cs : List Frame} {ops : Array Oper} {i : Nat} {rest : List Nat} {o : Oper}
  {ds ds1 : List Dfr} {v : AV}
theorem one_op (hP : ProgOK P) (hR : RecOK P J R) (ho : ops[i]? = some o) (hw : Region.wanted o (yielded ops a.tmps) = true) (hρ : OpdR g X dd t l a.eval) (hr : HR P g h w) (hd : DR g ds a.defers)
    (hfc : FC b cs) (hro : b.roundOf = none ∨ calmO o.op = true) (hi : oneI P R l (plan1 P X dd d o.op) t ds h = some (v, ds1, h1)) : OneR P b a k cs ops i rest o g h w v ds1 h1 := by
  rcases plan1_pl (P := P) X dd d o.op with hpl | ⟨c, x, hop, hc⟩ | ⟨c, x, m, hop, hc⟩ | ⟨c, hop, hc⟩ | ⟨c, x, hop, hc⟩
  · obtain ⟨hv, rfl⟩ := one_pl hpl hi
    obtain ⟨n, c, w', g', hrun, hn, hvr, hx, hr'⟩ := op_any hρ o.op o rfl h h1 v hv w hr
    have hnd : ∀ c, o.op ≠ .defer c := fun c hc => by
      rw [hc] at hv
      simp only [plan1] at hv
      split at hv <;> (simp only [insV] at hv; cases hv)
    have hrun' : (o.semAt b.roundOf a.eval).run P w = .ok n w' := by rw [Oper.semAt_eq _ _ _ hnd]; exact hrun
    refine ⟨c, g', w', a.defers, ?_, hvr, hx, hr', hd.mono hx.mono⟩
    rcases hn with rfl | ⟨rfl, rfl⟩
    · exact .one (st_value ho hw hrun')
    · exact .one (st_skip ho hw hrun')
  · rw [hop] at hi
    simp only [plan1, hc, oneI] at hi
    split at hi
    · cases hi
    · rename_i gv hgv
      split at hi
      · cases hi
      · rename_i vs hvs
        split at hi
        · rename_i v' h' hcv
          simp only [Option.some.injEq, Prod.mk.injEq] at hi
          obtain ⟨rfl, rfl, rfl⟩ := hi
          have hvl := getL_VRL hρ hvs
          obtain ⟨dd', n, hd1, hd2, hgo⟩ := hR.cv gv vs h v' h' hcv g w (a.eval x) (c.args.map a.eval) (hρ x gv hgv) (by rw [Array.toList_map]; exact hvl) hr
          have hrun : (o.semAt b.roundOf a.eval).run P w = .ok n w := by
            rw [Oper.semAt_eq _ _ _ (fun c' h' => by rw [hop] at h'; cases h')]
            simp only [execOp, hop, resolve, hc, Sem.run_bind, hd1, Result.andThen_ok, hd2]
          obtain ⟨u, w', g', hg1, hvr, hx, hr'⟩ := hgo (b.atR a (.inRegion ops (i :: rest) :: k)) cs
          refine ⟨u, g', w', a.defers, ?_, hvr, hx, hr', hd.mono hx.mono⟩
          unfold Goes at hg1
          split at hg1
          · rw [fin_at ho] at hg1; exact .head (st_enter ho hw hrun) hg1
          · rw [fin_at ho] at hg1; exact .head (st_round ho hw hrun) hg1
          · exact hg1.elim
        · cases hi
  · rw [hop] at hi
    simp only [plan1, hc, oneI] at hi
    split at hi
    · rename_i u y hgv
      split at hi
      · cases hi
      · rename_i vs hvs
        split at hi
        · cases hi
        · rename_i f r hm
          split at hi
          · rename_i v' h' hcf
            simp only [Option.some.injEq, Prod.mk.injEq] at hi
            obtain ⟨rfl, rfl, rfl⟩ := hi
            have hvl := getL_VRL hρ hvs
            have hx := hρ x _ hgv
            simp only [VR] at hx
            obtain ⟨yv, hxe, hyv⟩ := hx
            obtain ⟨z, hmz, hrz⟩ := method_ok hr hyv hm
            obtain ⟨⟨fn, c0, hf, hb⟩, hgo⟩ := hR.cf f (r :: vs) h v' h' hcf g w (#[z] ++ c.args.map a.eval) (by simp only [VRL]; exact ⟨z, (c.args.map a.eval).toList, by simp, hrz, by rw [Array.toList_map]; exact hvl⟩) hr
            have hrun : (o.semAt b.roundOf a.eval).run P w = .ok (.enter f (#[z] ++ c.args.map a.eval)) w := by
              rw [Oper.semAt_eq _ _ _ (fun c' h' => by rw [hop] at h'; cases h')]
              have hex : (#[a.eval x] ++ c.args.map a.eval).extract 1 (#[a.eval x] ++ c.args.map a.eval).size = c.args.map a.eval := by
                apply Array.ext'
                simp
                exact List.take_of_length_le (by simp)
              have h0 : (#[a.eval x] ++ c.args.map a.eval)[0]? = some (a.eval x) := by rw [Array.getElem?_append_left (Nat.zero_lt_one)]; rfl
              simp only [execOp, hop, resolve, hc, Sem.run_bind, Sem.run_pure, Result.andThen_ok, invoke, h0, hex]
              simp only [hxe, callMethod, Sem.run_bind, run_program, Result.andThen_ok, hmz, run_callFunc hP hf hb]
            obtain ⟨uu, w', g', fr, hs, hfin, hvr, hx, hr'⟩ := hgo .normal (b.atR a (.inRegion ops (i :: rest) :: k) :: cs) (.inl rfl)
            refine ⟨uu, g', w', a.defers, ?_, hvr, hx, hr', hd.mono hx.mono⟩
            have hback := step_back (c := b.atR a (.inRegion ops (i :: rest) :: k)) (cs := cs) hfin
            rw [fin_at ho] at hback
            exact .head (st_enter ho hw hrun) (hs.trans (.one hback))
          · cases hi
    · cases hi
  · rw [hop] at hi
    simp only [plan1, hc, oneI, Option.some.injEq, Prod.mk.injEq] at hi
    obtain ⟨rfl, rfl, rfl⟩ := hi
    have hb : b.roundOf = none := by
      rcases hro with h | h
      · exact h
      · simp [calmO, hop, hc] at h
    have hrun : (o.semAt b.roundOf a.eval).run P w = .ok .recover w := by
      rw [Oper.semAt_eq _ _ _ (fun c' h' => by rw [hop] at h'; cases h')]
      simp only [execOp, hop, resolve, hc, Sem.run_bind, Sem.run_pure, Result.andThen_ok, invoke, builtin]
    exact ⟨.nilIface, g, w, a.defers, .one (st_recover ho hw hb hfc hrun), by simp only [VR], Ext.refl _ _ _, hr, hd⟩
  · rw [hop] at hi
    simp only [plan1, hc, oneI] at hi
    split at hi
    · rename_i f fi cap hgv
      split at hi
      · cases hi
      · rename_i vs hvs
        simp only [Option.some.injEq, Prod.mk.injEq] at hi
        obtain ⟨rfl, rfl, rfl⟩ := hi
        have hb : b.roundOf = none := by
          rcases hro with h | h
          · exact h
          · simp [calmO, hop] at h
        have hvl := getL_VRL hρ hvs
        have hx := hρ x _ hgv
        simp only [VR] at hx
        obtain ⟨fiV, capV, hxe, h3, h4⟩ := hx
        have hrun : (o.semAt b.roundOf a.eval).run P w = .ok (.defer { target := .fn (.func f) capV, args := fiV ++ c.args.map a.eval }) w := by
          rw [hb, Oper.semAt_none]
          simp only [execOp, hop, resolve, hc, Sem.run_bind, Deferred.ofValue, hxe, Sem.run_pure, Result.andThen_ok]
        refine ⟨undef, g, w, _, .one (st_defer ho hw hrun), by simp only [VR]; exact ⟨#[], rfl, by simp only [VRL]⟩, Ext.refl _ _ _, hr, ?_⟩
        exact ⟨f, fi, cap, fiV, capV, c.args.map a.eval, a.defers, rfl, rfl, h3, h4, by rw [Array.toList_map]; exact hvl, hd⟩
    · cases hi
end
end Go.Eng

namespace Go.Eng
open Go
section
variable {P : Program} {J : FuncId} {R : Rec} {X dd : List Nat} {t l : E} {g : G} {h h1 : H} {w : World} {b : Frame} {a : Act} {k : List Item} {cs : List Frame} {ops : Array Oper} {i : Nat} {rest : List Nat} {o : Oper}
  {ds ds1 : List Dfr} {v : AV}
theorem bEq_eq (x y : Bool) : bEq x y = (x == y) := by cases x <;> cases y <;> rfl
/-- a guarded operation -/
theorem one_gop (hP : ProgOK P) (hR : RecOK P J R) (ho : ops[i]? = some o) (hρ : OpdR g X dd t l a.eval) (hr : HR P g h w) (hd : DR g ds a.defers)
    (hfc : FC b cs) (hro : b.roundOf = none ∨ calmO o.op = true) {d : Nat} (hi : oneI P R l (planG X ops.toList dd d o.guard (plan1 P X dd d o.op)) t ds h = some (v, ds1, h1)) : OneR P b a k cs ops i rest o g h w v ds1 h1 := by
  cases hg : o.guard with
  | none =>
    rw [hg] at hi
    exact one_op hP hR ho (by simp [Region.wanted, hg]) hρ hr hd hfc hro hi
  | some gb =>
    obtain ⟨j, bb⟩ := gb
    rw [hg] at hi
    simp only [planG, nthL_eq] at hi
    have skip : ∀ (hy : yielded ops a.tmps j ≠ some bb) , v = .tup [] → ds1 = ds → h1 = h → OneR P b a k cs ops i rest o g h w v ds1 h1 := fun hy hv hds hh => by
      subst hv hds hh
      have hs := stepR_op_skip (P := P) (b := b) (a := a) (k := k) (cs := cs) (w := w) (ops := ops) (i := i) (rest := rest) (by
        simp only [ho, Option.map_some, Option.getD_some, Region.wanted, hg]
        cases he : yielded ops a.tmps j == some bb with
        | false => rfl
        | true => exact absurd (by simpa using he) hy)
      simp only [ho, Option.bind_some] at hs
      exact ⟨undef, g, w, a.defers, .one hs, by simp only [VR]; exact ⟨#[], rfl, by simp only [VRL]⟩, Ext.refl _ _ _, hr, hd⟩
    cases hoj : ops.toList[j]? with
    | none => rw [hoj] at hi; simp [oneI, insV] at hi
    | some o' =>
      rw [hoj] at hi
      simp only [] at hi
      have hoj' : ops[j]? = some o' := by simpa using hoj
      cases hdt : o'.dst with
      | none => rw [hdt] at hi; simp [oneI, insV] at hi
      | some t' =>
        rw [hdt] at hi
        simp only [oneI] at hi
        have hyl : yielded ops a.tmps j = (match a.tmps[t']? with | some (.bool b) => some b | _ => none) := by
          simp only [yielded, hoj', Option.bind_some, hdt]
          rfl
        have hev : a.eval (.tmp t') = (a.tmps[t']?).getD undef := by simp [Act.eval, Array.getD_eq_getD_getElem?]
        split at hi
        · rename_i c hc
          have hx := hρ (.tmp t') _ hc
          simp only [VR] at hx
          rw [hev] at hx
          have ht : a.tmps[t']? = some (.bool c) := by
            cases h9 : a.tmps[t']? with
            | none => rw [h9] at hx; cases hx
            | some z => rw [h9] at hx; simpa using hx
          rw [ht] at hyl
          rw [bEq_eq] at hi
          split at hi
          · rename_i hb
            have hb : c = bb := by simpa using hb
            exact one_op hP hR ho (by simp only [Region.wanted, hg]; rw [hyl, hb]; simp) hρ hr hd hfc hro hi
          · rename_i hb
            simp only [Option.some.injEq, Prod.mk.injEq] at hi
            obtain ⟨rfl, rfl, rfl⟩ := hi
            refine skip ?_ rfl rfl rfl
            rw [hyl]
            intro e
            have : c = bb := by simpa using e
            subst this
            simp at hb
        · rename_i hc
          simp only [Option.some.injEq, Prod.mk.injEq] at hi
          obtain ⟨rfl, rfl, rfl⟩ := hi
          have hx := hρ (.tmp t') _ hc
          simp only [VR] at hx
          obtain ⟨arr, hx, _⟩ := hx
          refine skip ?_ rfl rfl rfl
          rw [hyl]
          rw [hev] at hx
          cases h9 : a.tmps[t']? with
          | none => simp
          | some z => rw [h9] at hx; simp at hx; subst hx; simp
        · cases hi

/-- the variables within a region -/
structure RegR (g : G) (X dd : List Nat) (t l : E) (tmps : Array Value) : Prop where
  new : ∀ d v, memN d dd = true → t.get d = some v → ∃ c, tmps[d]? = some c ∧ VR g v c
  old : ∀ d v, memN d dd = false → memN d X = true → l.get d = some v → ∃ c, tmps[d]? = some c ∧ VR g v c
theorem RegR.mono {g g' : G} (h : GLe g g') {tmps : Array Value} (hr : RegR g X dd t l tmps) : RegR g' X dd t l tmps :=
  ⟨fun d v h1 h2 => let ⟨c, h3, h4⟩ := hr.new d v h1 h2; ⟨c, h3, VR.mono h _ _ h4⟩, fun d v h0 h1 h2 => let ⟨c, h3, h4⟩ := hr.old d v h0 h1 h2; ⟨c, h3, VR.mono h _ _ h4⟩⟩
theorem eval_tmp {d : Nat} {c : Value} (h : a.tmps[d]? = some c) : a.eval (.tmp d) = c := by simp [Act.eval, Array.getD_eq_getD_getElem?, h]
theorem opd_tmp (X dd : List Nat) (d : Nat) : opd X dd (.tmp d) = (match memN d dd with | true => .r d | false => (match memN d X with | true => .l d | false => .no)) := rfl
theorem opd_const (X dd : List Nat) (v : Value) : opd X dd (.const v) = (match ofConst v with | some a => .c a | none => .no) := rfl
theorem RegR.opd (hr : RegR g X dd t l a.tmps) : OpdR g X dd t l a.eval := by
  intro x v hv
  cases x with
  | tmp d =>
    rw [opd_tmp] at hv
    split at hv
    · rename_i hm
      obtain ⟨c, h1, h2⟩ := hr.new d v hm hv
      rw [eval_tmp h1]; exact h2
    · rename_i hm
      split at hv
      · rename_i hx
        obtain ⟨c, h1, h2⟩ := hr.old d v hm hx hv
        rw [eval_tmp h1]; exact h2
      · cases hv
  | const c =>
    rw [opd_const] at hv
    split at hv
    · rename_i u hu
      obtain rfl := Option.some.inj (show some u = some v from hv)
      exact ofConst_VR hu
    · cases hv
  | func f =>
    obtain rfl := Option.some.inj (show some (AV.fn f [] []) = some v from hv)
    simp only [VR]
    exact ⟨#[], #[], rfl, by simp only [VRL], by simp only [VRL]⟩
  | global _ => cases hv
theorem memN_cons (n x : Nat) (l : List Nat) : memN n (x :: l) = (decide (n = x) || memN n l) := by
  show (match Nat.beq x n with | true => true | false => memN n l) = _
  cases h : Nat.beq x n with
  | true => have := Nat.eq_of_beq_eq_true h; subst this; simp
  | false => have := bne_of h; simp [Ne.symm this]
theorem memN_iff' {n : Nat} {l : List Nat} : memN n l = true ↔ n ∈ l := by
  induction l with
  | nil => simp [memN]
  | cons x l ih => rw [memN_cons]; simp [ih]
theorem memN_iff_false {n : Nat} {l : List Nat} : memN n l = false ↔ n ∉ l := by
  rw [← memN_iff']; simp
/-- behind an operation -/
theorem RegR.put {tmps : Array Value} {m : Nat} {ds' : List Deferred} (hr : RegR g X dd t l tmps) {o : Oper} {c : Value} {v : AV} (hv : VR g v c) (hm : ∀ d, o.dst = some d → d < m) (hs : m ≤ tmps.size) (hn : m ≤ nowhere) (hdd : ∀ d, d ∈ dd → d < m) :
    RegR g X (ddOf o dd) (.cons (dstOf o) v t) l (({ tmps := tmps, defers := ds' } : Act).put o.dst c).tmps := by
  cases hd : o.dst with
  | none =>
    simp only [ddOf, dstOf, hd, Act.put]
    refine ⟨fun d u h1 h2 => ?_, hr.old⟩
    rw [E.get_cons, if_neg (fun e => by have := hdd d (memN_iff'.1 h1); omega)] at h2
    exact hr.new d u h1 h2
  | some d0 =>
    simp only [ddOf, dstOf, hd, Act.put]
    have hlt := hm d0 hd
    refine ⟨fun d u h1 h2 => ?_, fun d u h0 h1 h2 => ?_⟩
    · rw [E.get_cons] at h2
      by_cases he : d0 = d
      · subst he
        rw [if_pos rfl] at h2
        obtain rfl := Option.some.inj h2
        exact ⟨c, by rw [Array.getElem?_setIfInBounds_self_of_lt (Nat.lt_of_lt_of_le hlt hs)], hv⟩
      · rw [if_neg he] at h2
        rw [memN_cons] at h1
        obtain ⟨c', h3, h4⟩ := hr.new d u (by simpa [Ne.symm he] using h1) h2
        exact ⟨c', by rw [Array.getElem?_setIfInBounds_ne he]; exact h3, h4⟩
    · rw [memN_cons] at h0
      simp at h0
      obtain ⟨c', h3, h4⟩ := hr.old d u h0.2 h1 h2
      exact ⟨c', by rw [Array.getElem?_setIfInBounds_ne (Ne.symm h0.1)]; exact h3, h4⟩
theorem keepE_get (t : E) : ∀ (ks : List Nat) (l : E) (d : Nat), (keepE t ks l).get d = (if d ∈ ks then (match t.get d with | some v => some v | none => l.get d) else l.get d)
  | [], l, d => by simp [keepE]
  | x :: ks, l, d => by
    have h0 : keepE t (x :: ks) l = keepE t ks (match t.get x with | none => l | some v => l.set x v) := by
      show keepE t ks (Option.rec (motive := fun _ => E) l (fun v => E.set l x v) (E.get t x)) = _
      cases t.get x <;> rfl
    rw [h0, keepE_get t ks]
    by_cases hd : x = d
    · subst hd
      cases ht : t.get x with
      | none => simp
      | some v => simp [E.get_set]
    · have hd' : ¬ d = x := fun e => hd e.symm
      have : (match t.get x with | none => l | some v => l.set x v).get d = l.get d := by
        cases t.get x with
        | none => rfl
        | some v => simp [E.get_set, hd]
      rw [this]
      simp [hd']
theorem keepOf_iff (X : List Nat) : ∀ (l : List Nat) (d : Nat), d ∈ keepOf X l ↔ d ∈ l ∧ memN d X = true
  | [], d => by simp [keepOf]
  | x :: l, d => by
    unfold keepOf
    have ih := keepOf_iff X l
    split
    · rename_i hx
      split
      · rename_i hm
        rw [memN_iff'] at hm
        rw [ih]
        by_cases e : d = x
        · subst e; have := (ih d).1 hm; simp [this]
        · simp [e]
      · simp only [List.mem_cons, ih]
        by_cases e : d = x
        · subst e; simp [hx]
        · simp [e]
    · rename_i hx
      rw [ih]
      by_cases e : d = x
      · subst e; simp [hx]
      · simp [e]
theorem RegR.keep {tmps : Array Value} {ks : List Nat} (hr : RegR g X dd t l tmps) (hex : ∀ d, d ∈ dd → ∃ v, t.get d = some v) (hk : ∀ d, d ∈ ks ↔ d ∈ dd ∧ memN d X = true) : LR g X (keepE t ks l) tmps := by
  intro d v hd hv
  rw [keepE_get] at hv
  by_cases hm : d ∈ dd
  · obtain ⟨u, hu⟩ := hex d hm
    rw [if_pos ((hk d).2 ⟨hm, hd⟩), hu] at hv
    obtain rfl := Option.some.inj hv
    exact hr.new d u (memN_iff'.2 hm) hu
  · rw [if_neg (fun e => hm ((hk d).1 e).1)] at hv
    exact hr.old d v (memN_iff_false.2 hm) hd hv
theorem allBelow_iff {m : Nat} : ∀ {l : List Nat}, allBelow m l = true ↔ ∀ d, d ∈ l → d < m
  | [] => by simp [allBelow]
  | x :: l => by
    unfold allBelow
    rw [Bool.and_eq_true, allBelow_iff, blt_iff]
    simp
theorem mem_dsts_cons {o : Oper} {os : List Oper} {d : Nat} : d ∈ dsts (o :: os) ↔ o.dst = some d ∨ d ∈ dsts os := by
  show d ∈ (match o.dst with | some d => d :: dsts os | none => dsts os) ↔ _
  cases o.dst with
  | none => simp
  | some e => simp only [List.mem_cons, Option.some.injEq]; exact or_congr_left eq_comm
theorem mem_dsts : ∀ {os : List Oper} {d : Nat}, d ∈ dsts os ↔ ∃ (i : Nat) (o : Oper), os[i]? = some o ∧ o.dst = some d
  | [], d => by simp [dsts]
  | o :: os, d => by
    have ih := @mem_dsts os d
    rw [mem_dsts_cons, ih]
    constructor
    · rintro (h | ⟨i, o', h1, h2⟩)
      · exact ⟨0, o, rfl, h⟩
      · exact ⟨i + 1, o', h1, h2⟩
    · rintro ⟨i, o', h1, h2⟩
      cases i with
      | zero => simp at h1; subst h1; exact .inl h2
      | succ i => exact .inr ⟨i, o', by simpa using h1, h2⟩
theorem execL_cons (i : Ins) (is : List Ins) (keep : List Nat) (t : E) (ds : List Dfr) (h : H) : execL P R l keep (i :: is) t ds h = execI P R l i t ds h (execL P R l keep is) := rfl
theorem execL_nil (keep : List Nat) (t : E) (ds : List Dfr) (h : H) : execL P R l keep [] t ds h = .ok .normal ⟨keepE t keep l, ds⟩ h := rfl
theorem calmL_iff : ∀ {os : List Oper}, calmL os = true ↔ ∀ o, o ∈ os → calmO o.op = true
  | [] => by simp [calmL]
  | o :: os => by
    unfold calmL
    have ih := @calmL_iff os
    cases h : calmO o.op with
    | true => simp [ih, h]
    | false => simp [h]

/-- a region whose order is the text's -/
theorem seq_ok (hP : ProgOK P) (hR : RecOK P J R) {keep : List Nat} {m : Nat} (hn : m ≤ nowhere) (hfc : FC b cs) (hro : b.roundOf = none ∨ calmL ops.toList = true) {x : Ex} {f' : Fr} {h' : H} :
    ∀ (os : List Oper) (n : Nat) (dd : List Nat) (t : E) (ds : List Dfr) (h : H) (a : Act) (w : World) (g : G), ops.toList.drop n = os →
      execL P R l keep (planL P X ops.toList dd os) t ds h = .ok x f' h' → RegR g X dd t l a.tmps → (∀ d, d ∈ dd → ∃ v, t.get d = some v) → (∀ d, d ∈ dd → d < m) → HR P g h w → DR g ds a.defers → m ≤ a.tmps.size →
      (∀ d, d ∈ dsts os → d < m) →
      ∃ g' w' a' dd' t', x = .normal ∧ f' = ⟨keepE t' keep l, f'.defers⟩ ∧ Steps P (lone (b.atR a (.inRegion ops (List.range' n os.length) :: k)) cs w) (lone (b.atR a' k) cs w') ∧ RegR g' X dd' t' l a'.tmps ∧
        (∀ d, d ∈ dd' → ∃ v, t'.get d = some v) ∧ (∀ d, d ∈ dd' ↔ d ∈ dd ∨ d ∈ dsts os) ∧ HR P g' h' w' ∧ DR g' f'.defers a'.defers ∧ m ≤ a'.tmps.size ∧ Ext g h w g' h' w'
  | [], n, dd, t, ds, h, a, w, g, hdr, he, hreg, hex, hdd, hr, hd, hm, hos => by
    simp only [planL] at he
    rw [execL_nil] at he
    simp only [RC.ok.injEq] at he
    obtain ⟨rfl, rfl, rfl⟩ := he
    exact ⟨g, w, a, dd, t, rfl, rfl, .one stepR_region_end, hreg, hex, fun d => by simp [dsts], hr, hd, hm, Ext.refl _ _ _⟩
  | o :: os, n, dd, t, ds, h, a, w, g, hdr, he, hreg, hex, hdd, hr, hd, hm, hos => by
    have hon : ops[n]? = some o := by
      have : (ops.toList.drop n)[0]? = some o := by rw [hdr]; rfl
      simpa using this
    have hdr' : ops.toList.drop (n + 1) = os := by
      rw [← List.drop_drop, hdr]; rfl
    simp only [planL] at he
    rw [execL_cons] at he
    obtain ⟨v, ds1, h1, h2, h3⟩ := execI_one _ (planG_wd X dd ops.toList (dstOf o) o.guard (plan1_wd X dd (dstOf o) o.op)) he
    have hro' : b.roundOf = none ∨ calmO o.op = true := hro.imp id fun hc => calmL_iff.1 hc o (by
      have := List.mem_of_getElem? (l := ops.toList) (i := n) (by simpa using hon)
      exact this)
    obtain ⟨c, g1, w1, ds', h4, h5, h6, h7, h8⟩ := one_gop (k := k) (rest := List.range' (n + 1) os.length) hP hR hon hreg.opd hr hd hfc hro' h2
    have hdst : ∀ d, o.dst = some d → d < m := fun d hd => hos d (mem_dsts.2 ⟨0, o, rfl, hd⟩)
    have hreg' := (hreg.mono h6.mono).put (ds' := ds') h5 hdst hm hn hdd
    have hsz : m ≤ (({ tmps := a.tmps, defers := ds' } : Act).put o.dst c).tmps.size := by
      cases o.dst <;> simp [Act.put] <;> exact hm
    have hdf : (({ tmps := a.tmps, defers := ds' } : Act).put o.dst c).defers = ds' := by cases o.dst <;> rfl
    obtain ⟨g', w', a', dd', t', e1, e2, e3, e4, e5, e6, e7, e8, e9, e10⟩ := seq_ok hP hR hn hfc hro os (n + 1) (ddOf o dd) (.cons (dstOf o) v t) ds1 h1 _ w1 g1 hdr' h3 hreg' (fun d hd => by
        rw [E.get_cons]
        by_cases e : dstOf o = d
        · exact ⟨v, by rw [if_pos e]⟩
        · rw [if_neg e]
          cases ho : o.dst with
          | none => simp only [ddOf, ho] at hd; exact hex d hd
          | some d0 =>
            simp only [ddOf, ho, List.mem_cons] at hd
            simp only [dstOf, ho] at e
            exact hex d (hd.resolve_left fun h => e h.symm))
      (fun d hd => by
        cases ho : o.dst with
        | none => simp only [ddOf, ho] at hd; exact hdd d hd
        | some d0 =>
          simp only [ddOf, ho, List.mem_cons] at hd
          rcases hd with rfl | hd
          · exact hdst d ho
          · exact hdd d hd) h7 (by rw [hdf]; exact h8) hsz (fun d hd => hos d (by
            rw [mem_dsts] at hd ⊢
            obtain ⟨i, o', h1, h2⟩ := hd
            exact ⟨i + 1, o', h1, h2⟩))
    refine ⟨g', w', a', dd', t', e1, e2, h4.trans e3, e4, e5, fun d => ?_, e7, e8, e9, h6.trans e10⟩
    rw [e6]
    rw [mem_dsts_cons]
    cases ho : o.dst with
    | none => simp [ddOf, ho]
    | some d0 =>
      simp only [ddOf, ho, List.mem_cons, Option.some.injEq]
      constructor
      · rintro ((h | h) | h)
        · exact .inr (.inl h.symm)
        · exact .inl h
        · exact .inr (.inr h)
      · rintro (h | h | h)
        · exact .inl (.inr h)
        · exact .inl (.inl h.symm)
        · exact .inr h
end
end Go.Eng

namespace Go.Eng
open Go
/-! ### masks, and what is ahead of an operation -/
theorem bit_or (a b i : Nat) : bit (a ||| b) i = (bit a i || bit b i) := by simp [bit]
theorem bit_and (a b i : Nat) : bit (a &&& b) i = (bit a i && bit b i) := by simp [bit]
theorem bit_xor (a b i : Nat) : bit (a ^^^ b) i = (bit a i != bit b i) := by simp [bit]
theorem bit_pow (i j : Nat) : bit (2 ^ i) j = decide (i = j) := by simp [bit, Nat.testBit_two_pow]
theorem bit_zero (i : Nat) : bit 0 i = false := by simp [bit]
theorem bit_ones (n i : Nat) : bit (2 ^ n - 1) i = decide (i < n) := by simp [bit, Nat.testBit_two_pow_sub_one]
theorem allIn_iff {m a b : Nat} : allIn m a b = true ↔ ∀ i, bit a i = true → bit b i = true := by
  unfold allIn
  constructor
  · intro h i hi
    have h := Nat.eq_of_beq_eq_true h
    have := congrArg (fun x => bit x i) h
    simp only [bit_and, hi] at this
    simpa using this
  · intro h
    have : a &&& b = a := by
      apply Nat.eq_of_testBit_eq
      intro i
      have h1 := bit_and a b i
      unfold bit at h1 h
      rw [h1]
      cases hb : a.testBit i with
      | false => simp
      | true => rw [h i hb]; simp
    rw [this]
    simp [Nat.beq_refl]
noncomputable def befF (acc : List Nat) (s : Nat) (es : List Edge) : Nat := es.foldl (fun s e => match Region.binds .any e with | true => s ||| 2 ^ e.on ||| ((nthL acc e.on).getD 0) | false => s) s
theorem befF_bit (acc : List Nat) (i : Nat) : ∀ (es : List Edge) (s : Nat), bit (befF acc s es) i = true ↔ bit s i = true ∨ ∃ e ∈ es, Region.binds .any e = true ∧ (e.on = i ∨ bit ((nthL acc e.on).getD 0) i = true)
  | [], s => by simp [befF]
  | e :: es, s => by
    have h0 : befF acc s (e :: es) = befF acc (match Region.binds .any e with | true => s ||| 2 ^ e.on ||| ((nthL acc e.on).getD 0) | false => s) es := rfl
    rw [h0, befF_bit acc i es]
    cases hb : Region.binds .any e with
    | false => simp [hb]
    | true =>
      simp only [bit_or, bit_pow, Bool.or_eq_true, decide_eq_true_eq, List.mem_cons, exists_eq_or_imp, hb, true_and]
      constructor
      · rintro ((( h | h) | h) | h)
        · exact .inl h
        · exact .inr (.inl (.inl h))
        · exact .inr (.inl (.inr h))
        · exact .inr (.inr h)
      · rintro (h | (h | h) | h)
        · exact .inl (.inl (.inl h))
        · exact .inl (.inl (.inr h))
        · exact .inl (.inr h)
        · exact .inr h
theorem befL_go_cons (o : Oper) (os : List Oper) (acc : List Nat) : befL.go (o :: os) acc = befL.go os (acc ++ [befF acc 0 o.after.toList]) := rfl
theorem befL_go : ∀ (os : List Oper) (acc : List Nat), ∃ r, befL.go os acc = acc ++ r ∧ r.length = os.length ∧ ∀ (j : Nat) (o : Oper), os[j]? = some o → r[j]? = some (befF (acc ++ r.take j) 0 o.after.toList)
  | [], acc => ⟨[], by simp [befL.go], rfl, fun j o h => by simp at h⟩
  | o :: os, acc => by
    obtain ⟨r, h1, h2, h3⟩ := befL_go os (acc ++ [befF acc 0 o.after.toList])
    refine ⟨befF acc 0 o.after.toList :: r, by rw [befL_go_cons, h1]; simp, by simp [h2], fun j o' hj => ?_⟩
    cases j with
    | zero => simp at hj; subst hj; simp
    | succ j =>
      have := h3 j o' (by simpa using hj)
      simpa using this
/-- i is ahead of j -/
def Ahead (os : List Oper) (i j : Nat) : Prop := bit ((nthL (befL os) j).getD 0) i = true
theorem edgeOk_iff {n : Nat} {e : Edge} : edgeOk n e = true ↔ (Region.binds .any e = true → e.on < n) := by
  unfold edgeOk
  cases Region.binds .any e with
  | false => simp
  | true => simp [blt_iff]
theorem edgesOk_iff : ∀ {os : List Oper} {n : Nat}, edgesOk n os = true ↔ ∀ (j : Nat) (o : Oper), os[j]? = some o → ∀ e ∈ o.after, Region.binds .any e = true → e.on < n + j
  | [], n => by simp [edgesOk]
  | o :: os, n => by
    unfold edgesOk
    have ih := @edgesOk_iff os (n + 1)
    constructor
    · intro h
      split at h
      · rename_i ha
        intro j o' hj e he hb
        cases j with
        | zero =>
          simp at hj
          subst hj
          exact edgeOk_iff.1 (List.all_eq_true.1 ha e (by simpa using he)) hb
        | succ j =>
          have := ih.1 h j o' (by simpa using hj) e he hb
          omega
      · cases h
    · intro h
      have h0 : o.after.toList.all (edgeOk n) = true := by
        rw [List.all_eq_true]
        intro e he
        exact edgeOk_iff.2 fun hb => by have := h 0 o rfl e (by simpa using he) hb; omega
      rw [h0]
      refine ih.2 fun j o' hj e he hb => ?_
      have := h (j + 1) o' (by simpa using hj) e he hb
      omega
section
variable {os : List Oper}
theorem ahead_spec (hE : edgesOk 0 os = true) {i j : Nat} {o : Oper} (hj : os[j]? = some o) : Ahead os i j ↔ ∃ e ∈ o.after, Region.binds .any e = true ∧ e.on < j ∧ (e.on = i ∨ Ahead os i e.on) := by
  obtain ⟨r, h1, h2, h3⟩ := befL_go os []
  have hb : befL os = r := by simpa [befL] using h1
  have h4 := h3 j o hj
  have hlt : j < r.length := by rw [h2]; exact (List.getElem?_eq_some_iff.1 hj).1
  unfold Ahead
  simp only [hb, nthL_eq, h4, Option.getD_some]
  rw [befF_bit]
  simp only [bit_zero, Bool.false_eq_true, false_or, List.nil_append]
  constructor
  · rintro ⟨e, he, hbd, hh⟩
    have hlt' : e.on < j := by have := edgesOk_iff.1 hE j o hj e (by simpa using he) hbd; omega
    refine ⟨e, by simpa using he, hbd, hlt', hh.imp id fun h => ?_⟩
    simp only [nthL_eq] at h
    rw [List.getElem?_take_of_lt hlt'] at h
    exact h
  · rintro ⟨e, he, hbd, hlt', hh⟩
    refine ⟨e, by simpa using he, hbd, hh.imp id fun h => ?_⟩
    simp only [nthL_eq]
    rw [List.getElem?_take_of_lt hlt']
    exact h
theorem ahead_lt (hE : edgesOk 0 os = true) {i j : Nat} (h : Ahead os i j) : i < j := by
  induction j using Nat.strongRecOn with
  | _ j ih =>
    cases hj : os[j]? with
    | none =>
      exfalso
      obtain ⟨r, h1, h2, h3⟩ := befL_go os []
      have hb : befL os = r := by simpa [befL] using h1
      have hlen : r.length ≤ j := by rw [h2]; simpa using hj
      unfold Ahead at h
      rw [nthL_eq, hb, List.getElem?_eq_none hlen] at h
      simp [bit] at h
    | some o =>
      obtain ⟨e, _, _, hlt, h | h⟩ := (ahead_spec hE hj).1 h
      · omega
      · have := ih e.on hlt h; omega
/-- what is done and closed has all of it -/
theorem ahead_closed (hE : edgesOk 0 os = true) {D : Nat → Prop} (hD : ∀ (j : Nat) (o : Oper), D j → os[j]? = some o → ∀ e ∈ o.after, Region.binds .any e = true → D e.on) {i j : Nat} (hj : D j) (h : Ahead os i j) : D i := by
  induction j using Nat.strongRecOn with
  | _ j ih =>
    cases ho : os[j]? with
    | none =>
      exfalso
      obtain ⟨r, h1, h2, h3⟩ := befL_go os []
      have hb : befL os = r := by simpa [befL] using h1
      have hlen : r.length ≤ j := by rw [h2]; simpa using ho
      unfold Ahead at h
      rw [nthL_eq, hb, List.getElem?_eq_none hlen] at h
      simp [bit] at h
    | some o =>
      obtain ⟨e, he, hb, hlt, h | h⟩ := (ahead_spec hE ho).1 h
      · exact h ▸ hD j o hj ho e he hb
      · exact ih e.on hlt (hD j o hj ho e he hb) h
theorem ahead_ready (hE : edgesOk 0 os = true) {D : Nat → Prop} (hD : ∀ (j : Nat) (o : Oper), D j → os[j]? = some o → ∀ e ∈ o.after, Region.binds .any e = true → D e.on) {i j : Nat} {o : Oper} (ho : os[j]? = some o)
    (hr : ∀ e ∈ o.after, Region.binds .any e = true → D e.on) (h : Ahead os i j) : D i := by
  obtain ⟨e, he, hb, hlt, h | h⟩ := (ahead_spec hE ho).1 h
  · exact h ▸ hr e he hb
  · exact ahead_closed hE hD (hr e he hb) h
end
theorem tmpsOk_spec {os : List Oper} (h : tmpsOk os (befL os) = true) {i j : Nat} {o u : Oper} {d : Nat} (hi : os[i]? = some o) (hd : o.dst = some d) (hj : os[j]? = some u) (hne : i ≠ j) :
    u.dst ≠ some d ∧ (d ∈ looks os u → Ahead os i j ∨ Ahead os j i) := by
  unfold tmpsOk at h
  have hlt : i < os.length := (List.getElem?_eq_some_iff.1 hi).1
  have hlt' : j < os.length := (List.getElem?_eq_some_iff.1 hj).1
  have h1 := List.all_eq_true.1 h i (List.mem_range.2 hlt)
  simp only [nthL_eq, hi, hd] at h1
  have h2 := List.all_eq_true.1 h1 j (List.mem_range.2 hlt')
  have hne' : (i == j) = false := by simpa using hne
  simp only [hj, hne', Bool.false_or, Bool.and_eq_true, Bool.not_eq_true', Bool.or_eq_true] at h2
  refine ⟨fun e => ?_, fun hl => ?_⟩
  · rw [e] at h2; simp at h2
  · rcases h2.2 with (h3 | h3) | h3
    · rw [memN_iff'.2 hl] at h3; cases h3
    · exact .inl (by simpa [Ahead] using h3)
    · exact .inr (by simpa [Ahead] using h3)
theorem mem_madeBy {os : List Oper} {i d : Nat} : d ∈ madeBy os i ↔ ∃ (j : Nat) (o : Oper), j < i ∧ os[j]? = some o ∧ o.dst = some d := by
  unfold madeBy
  rw [List.mem_filterMap]
  constructor
  · rintro ⟨j, hj, h⟩
    rw [nthL_eq] at h
    cases ho : os[j]? with
    | none => rw [ho] at h; cases h
    | some o => rw [ho] at h; exact ⟨j, o, List.mem_range.1 hj, ho, h⟩
  · rintro ⟨j, o, hj, ho, hd⟩
    exact ⟨j, List.mem_range.2 hj, by rw [nthL_eq, ho]; exact hd⟩
/-! ### the same value -/
theorem nbeq {a b : Nat} : Nat.beq a b = true ↔ a = b := ⟨Nat.eq_of_beq_eq_true, fun h => h ▸ Nat.beq_refl a⟩
theorem ikEq_iff' {j k : IntKind} : ikEq j k = true ↔ j = k := by cases j <;> cases k <;> simp [ikEq, ikN]
theorem ieq_iff' {a b : Int} : ieq a b = true ↔ a = b := by
  cases a <;> cases b <;> simp [ieq] <;> omega
theorem oeq_iff {a b : Option Nat} : oeq a b = true ↔ a = b := by cases a <;> cases b <;> simp [oeq]
theorem sameL_of {n : Nat} (ih : ∀ x y, sameA n x y = true → x = y) : ∀ a b, sameA.sameL n a b = true → a = b
  | [], [], _ => rfl
  | [], _ :: _, h => by simp [sameA.sameL] at h
  | _ :: _, [], h => by simp [sameA.sameL] at h
  | x :: a, y :: b, h => by
    simp only [sameA.sameL, Bool.and_eq_true] at h
    rw [ih x y h.1, sameL_of ih a b h.2]
theorem sameA_eq : ∀ (n : Nat) (x y : AV), sameA n x y = true → x = y
  | 0, _, _, h => by simp [sameA] at h
  | n + 1, x, y, h => by
    have ih := sameA_eq n
    have ihl := sameL_of ih
    cases x <;> cases y <;> simp only [sameA, Bool.false_eq_true, Bool.and_eq_true, nbeq] at h ⊢
    case bool.bool a b => rw [bEq_eq] at h; simpa using h
    case int.int j a k b => simp only [ikEq_iff', ieq_iff'] at h; rw [h.1, h.2]
    case str.str a b => rw [(leq_iff a b).1 h]
    case ptr.ptr a o b q => rw [(Ps.beq_iff a b).1 h.1, h.2]
    case sl.sl a o e l c b q f m c' => rw [(Ps.beq_iff a b).1 h.1, h.2.1, h.2.2.1, h.2.2.2.1, oeq_iff.1 h.2.2.2.2]
    case map.map a b => rw [(Ps.beq_iff a b).1 h]
    case fn.fn f a c g b d => rw [h.1, ihl _ _ h.2.1, ihl _ _ h.2.2]
    case iface.iface t a u b => rw [h.1, ih _ _ h.2]
    case agg.agg a b => rw [ihl _ _ h]
end Go.Eng

namespace Go.Eng
open Go
section
variable {P : Program} {X dd : List Nat} {d : Nat} {t l : E}
theorem ofO_h {h h' : H} {v : AV} {x : Option AV} (hx : ofO h x = .ok v h') : h' = h := (ofO_ok.1 hx).2
/-- what only looks leaves the heap as it is -/
theorem look_h (op : Op) (hc : clsOf P op = .pure ∨ clsOf P op = .read) {h h' : H} {v : AV} (hi : insV t l h (plan1 P X dd d op) = .ok v h') : h' = h := by
  have pl : ∀ {i : Ins}, insV t l h i = .ok v h' → (match i with | .a1 _ _ _ => False | _ => True) → h' = h := fun {i} hi hm => by
    cases i <;> first | exact ofO_h hi | exact hm.elim | (simp only [insV] at hi; cases hi)
  have a1 : ∀ {f : H → List AV → RV} {xs : List Opd}, insV t l h (.a1 d f xs) = .ok v h' → (∀ vs, f h vs = .ok v h' → h' = h) → h' = h := fun {f xs} hi hf => by
    simp only [insV, rL_ok] at hi
    obtain ⟨vs, _, hv⟩ := hi
    exact hf vs hv
  cases op with
  | build ty ps =>
    simp only [plan1] at hi
    split at hi
    · split at hi
      · unfold bld at hi
        split at hi
        · exact a1 hi fun vs hv => by unfold buildF at hv; split at hv <;> cases hv <;> rfl
        · exact pl hi trivial
      · exact pl hi trivial
    · split at hi
      · unfold bld at hi
        split at hi
        · exact a1 hi fun vs hv => by unfold buildF at hv; split at hv <;> cases hv <;> rfl
        · exact pl hi trivial
      · exact pl hi trivial
    · exact pl hi trivial
  | makeFunc f a c =>
    simp only [plan1] at hi
    split at hi
    · split at hi
      · exact a1 hi fun vs hv => by simp only [RV.ok.injEq] at hv; exact hv.2.symm
      · split at hi
        · exact a1 hi fun vs hv => by simp only [RV.ok.injEq] at hv; exact hv.2.symm
        · exact pl hi trivial
      · exact pl hi trivial
    · exact pl hi trivial
  | slice ty x lo hi' mx =>
    have hsl : ∀ {es a b vs}, sliceR es a b h vs = .ok v h' → h' = h := fun {es a b vs} hv => by
      unfold sliceR at hv
      split at hv
      · cases hv
      · split at hv
        · split at hv
          · simp only [RV.ok.injEq] at hv; exact hv.2.symm
          · cases hv
        · cases hv
    simp only [plan1] at hi
    split at hi
    · exact pl hi trivial
    · split at hi
      · split at hi
        · exact a1 hi fun vs hv => hsl hv
        · exact pl hi trivial
      · exact a1 hi fun vs hv => hsl hv
      · exact pl hi trivial
  | call c =>
    cases hcal : c.callee with
    | builtin b =>
      cases b with
      | max => simp only [plan1, hcal] at hi; exact a1 hi fun vs hv => by unfold mmR at hv; split at hv <;> cases hv <;> rfl
      | min => simp only [plan1, hcal] at hi; exact a1 hi fun vs hv => by unfold mmR at hv; split at hv <;> cases hv <;> rfl
      | len => simp only [plan1, hcal] at hi; (repeat' split at hi) <;> exact pl hi trivial
      | cap => simp only [plan1, hcal] at hi; (repeat' split at hi) <;> exact pl hi trivial
      | _ => simp [clsOf, hcal] at hc
    | value x => simp [clsOf, hcal] at hc
    | invoke x m => simp [clsOf, hcal] at hc
  | convert s ty x =>
    simp only [plan1, convP] at hi
    split at hi
    · exact pl hi trivial
    all_goals first
      | exact pl hi trivial
      | (rename_i h1 h2
         simp only [clsOf, h1, h2] at hc
         rcases hc with hc | hc <;> cases hc)
      | ((repeat' split at hi) <;> exact pl hi trivial)
  | alloc _ => simp [clsOf] at hc
  | box _ _ => simp [clsOf] at hc
  | buildSlice _ _ _ => simp [clsOf] at hc
  | store _ _ _ => simp [clsOf] at hc
  | makeMap _ _ => simp [clsOf] at hc
  | makeSlice _ _ _ => simp [clsOf] at hc
  | mapUpdate _ _ _ _ => simp [clsOf] at hc
  | insert _ _ _ _ => simp [clsOf] at hc
  | range _ _ => simp [clsOf] at hc
  | next _ _ => simp [clsOf] at hc
  | binOp op ty x y yt => cases op <;> simp only [plan1] at hi <;> (repeat' split at hi) <;> exact pl hi trivial
  | _ => simp only [plan1] at hi; (repeat' split at hi) <;> exact pl hi trivial
theorem oneV_add {h h' : H} {gr : Bool} {vs : List AV} {mk : Ps → AV} {v : AV} (ho : oneV h gr vs mk = .ok v h') : ∃ blk, h' = h.add blk := ⟨_, (oneV_ok ho).2.2⟩
/-- what makes a block adds one -/
theorem alloc_h (op : Op) (hc : clsOf P op = .alloc) {h h' : H} {v : AV} (hi : insV t l h (plan1 P X dd d op) = .ok v h') : ∃ blk, h' = h.add blk := by
  have bad : ∀ {q : Prop}, insV t l h .bad = .ok v h' → q := fun hi => by simp only [insV] at hi; cases hi
  have a1 : ∀ {f : H → List AV → RV} {xs : List Opd}, insV t l h (.a1 d f xs) = .ok v h' → ∃ vs, f h vs = .ok v h' := fun {f xs} hi => by
    simp only [insV, rL_ok] at hi
    obtain ⟨vs, _, hv⟩ := hi
    exact ⟨vs, hv⟩
  cases op with
  | alloc ty =>
    simp only [plan1] at hi
    split at hi
    · obtain ⟨vs, hv⟩ := a1 hi; exact oneV_add hv
    · exact bad hi
  | box ty x =>
    obtain ⟨vs, hv⟩ := a1 hi
    unfold boxR at hv
    split at hv
    · unfold boxO at hv
      split at hv
      · exact oneV_add hv
      · cases hv
    · cases hv
  | buildSlice ty n ps =>
    simp only [plan1] at hi
    split at hi
    · split at hi
      · unfold bldS at hi
        split at hi
        · split at hi
          · split at hi
            · obtain ⟨vs, hv⟩ := a1 hi
              unfold buildSl at hv
              split at hv
              · exact oneV_add hv
              · cases hv
            · exact bad hi
          · exact bad hi
        · exact bad hi
      · exact bad hi
    · exact bad hi
  | makeMap ty r =>
    cases r with
    | none =>
      obtain ⟨vs, hv⟩ := a1 hi
      unfold newMap at hv
      simp only [RV.ok.injEq] at hv
      exact ⟨_, hv.2.symm⟩
    | some _ => exact bad hi
  | makeSlice ty a b =>
    simp only [plan1] at hi
    split at hi
    · split at hi
      · split at hi
        · obtain ⟨vs, hv⟩ := a1 hi
          unfold mkSlR at hv
          (repeat' split at hv) <;> first | exact oneV_add hv | cases hv
        · exact bad hi
      · exact bad hi
    · exact bad hi
  | convert s ty x =>
    simp only [plan1, convP] at hi
    split at hi
    · rename_i h1 h2
      simp [clsOf, h1, h2] at hc
    · split at hi
      · split at hi
        · obtain ⟨vs, hv⟩ := a1 hi
          unfold strBytes at hv
          split at hv
          · split at hv
            · simp only [RV.ok.injEq] at hv; exact ⟨_, hv.2.symm⟩
            · cases hv
          · cases hv
        · exact bad hi
      · exact bad hi
    all_goals exact bad hi
  | call c =>
    cases hcal : c.callee with
    | builtin b => cases b <;> simp [clsOf, hcal] at hc
    | value x => simp [clsOf, hcal] at hc
    | invoke x m => simp [clsOf, hcal] at hc
  | _ => simp [clsOf] at hc
end

/-! ### the run in the plan's order, told by the variables at its end -/
section
variable (P : Program) (R : Rec) (X : List Nat) (l : E) (os : List Oper) (T : E)
/-- may the operation go on? (by its guard) -/
noncomputable def wantT (j : Nat) (o : Oper) : Bool := match o.guard with
  | none => true
  | some (q, b) => (match nthL os q with
    | some o' => (match o'.dst with
      | some t' => (match getO (opd X (madeBy os j) (.tmp t')) T l with | some (.bool c) => bEq c b | _ => false)
      | none => false)
    | none => false)
def ChkF (j : Nat) (o : Oper) (h : H) : Prop := wantT X l os T j o = true → ∃ v h', insV T l h (plan1 P X (madeBy os j) (dstOf o) o.op) = .ok v h' ∧ ∀ d, o.dst = some d → T.get d = some v
def CT : List It → List Dfr → H → List Dfr → H → Prop
  | [], ds, h, dsF, hF => ds = dsF ∧ h = hF
  | .run i :: L, ds, h, dsF, hF => ∃ o v ds1 h1, os[i]? = some o ∧ oneI P R l (insAt P X os i) T ds h = some (v, ds1, h1) ∧ (∀ d, o.dst = some d → T.get d = some v) ∧ CT L ds1 h1 dsF hF
  | .chk i :: L, ds, h, dsF, hF => (∃ o, os[i]? = some o ∧ ChkF P X l os T i o h) ∧ CT L ds h dsF hF
end
section
variable {P : Program} {R : Rec} {X : List Nat} {l : E} {os : List Oper} {T t : E}
theorem insAt_of {j : Nat} {o : Oper} (ho : os[j]? = some o) : insAt P X os j = planG X os (madeBy os j) (dstOf o) o.guard (plan1 P X (madeBy os j) (dstOf o) o.op) := by
  simp only [insAt, nthL_eq, ho]
theorem looks_op {o : Oper} {x : Nat} (h : Operand.tmp x ∈ o.op.operands.toList) : x ∈ looks os o := by
  unfold looks
  exact List.mem_append_left _ (List.mem_filterMap.2 ⟨_, h, rfl⟩)
theorem looks_guard {o o' : Oper} {q t' : Nat} {b : Bool} (hg : o.guard = some (q, b)) (hq : os[q]? = some o') (hd : o'.dst = some t') : t' ∈ looks os o := by
  unfold looks
  refine List.mem_append_right _ ?_
  simp only [hg, nthL_eq, hq, Option.bind_some, hd, List.mem_singleton]
/-- agreement on what an operation looks at -/
theorem agree_of {j : Nat} {o : Oper} {t l t' l' : E} (h1 : ∀ d, d ∈ looks os o → d ∈ madeBy os j → t.get d = t'.get d) (h2 : ∀ d, d ∈ looks os o → d ∉ madeBy os j → l.get d = l'.get d) :
    ∀ x : Operand, (∀ d, x = .tmp d → d ∈ looks os o) → getO (opd X (madeBy os j) x) t l = getO (opd X (madeBy os j) x) t' l' := by
  intro x hx
  cases x with
  | tmp d =>
    have hd := hx d rfl
    rw [opd_tmp]
    split
    · rename_i hm; exact h1 d hd (memN_iff'.1 hm)
    · rename_i hm
      split
      · exact h2 d hd (memN_iff_false.1 hm)
      · rfl
  | const v => rw [opd_const]; split <;> rfl
  | global _ => rfl
  | func _ => rfl
theorem ins_at_agree {j : Nat} {o : Oper} {t l t' l' : E} (ho : os[j]? = some o) (h1 : ∀ d, d ∈ looks os o → d ∈ madeBy os j → t.get d = t'.get d) (h2 : ∀ d, d ∈ looks os o → d ∉ madeBy os j → l.get d = l'.get d)
    {ds : List Dfr} {h : H} : oneI P R l (insAt P X os j) t ds h = oneI P R l' (insAt P X os j) t' ds h := by
  have key := agree_of (X := X) h1 h2
  have hop : Agree X (madeBy os j) t l t' l' o.op.operands.toList := fun x hx => key x fun d hd => looks_op (hd ▸ hx)
  have hone := one_agree (P := P) (ih := R) (d := dstOf o) o.op hop (ds := ds) (h := h)
  rw [insAt_of ho]
  cases hg : o.guard with
  | none => exact hone
  | some qb =>
    obtain ⟨q, b⟩ := qb
    simp only [planG, nthL_eq]
    cases hq : os[q]? with
    | none => rfl
    | some o' =>
      simp only []
      cases hd : o'.dst with
      | none => rfl
      | some t0 =>
        have := key (.tmp t0) fun d hd' => by
          have : t0 = d := by simpa using hd'
          subst this
          exact looks_guard hg hq hd
        simp only [oneI, this, hone]
theorem insV_at_agree {j : Nat} {o : Oper} {t l t' l' : E} (h1 : ∀ d, d ∈ looks os o → d ∈ madeBy os j → t.get d = t'.get d) (h2 : ∀ d, d ∈ looks os o → d ∉ madeBy os j → l.get d = l'.get d)
    {h : H} : insV t l h (plan1 P X (madeBy os j) (dstOf o) o.op) = insV t' l' h (plan1 P X (madeBy os j) (dstOf o) o.op) :=
  ins_agree o.op fun x hx => agree_of (X := X) h1 h2 x fun d hd => looks_op (hd ▸ hx)
theorem want_agree {j : Nat} {o : Oper} {t l t' l' : E} (h1 : ∀ d, d ∈ looks os o → d ∈ madeBy os j → t.get d = t'.get d) (h2 : ∀ d, d ∈ looks os o → d ∉ madeBy os j → l.get d = l'.get d) :
    wantT X l os t j o = wantT X l' os t' j o := by
  unfold wantT
  cases hg : o.guard with
  | none => rfl
  | some qb =>
    obtain ⟨q, b⟩ := qb
    simp only [nthL_eq]
    cases hq : os[q]? with
    | none => rfl
    | some o' =>
      simp only []
      cases hd : o'.dst with
      | none => rfl
      | some t0 =>
        have := agree_of (X := X) h1 h2 (.tmp t0) fun d hd' => by
          have : t0 = d := by simpa using hd'
          subst this
          exact looks_guard hg hq hd
        simp only [this]
/-- by its guard: it goes on, or is passed by -/
theorem want_cases {j : Nat} {o : Oper} (ho : os[j]? = some o) {ds ds1 : List Dfr} {h h1 : H} {v : AV} (hi : oneI P R l (insAt P X os j) T ds h = some (v, ds1, h1)) :
    (wantT X l os T j o = true ∧ oneI P R l (plan1 P X (madeBy os j) (dstOf o) o.op) T ds h = some (v, ds1, h1)) ∨ (wantT X l os T j o = false ∧ v = .tup [] ∧ ds1 = ds ∧ h1 = h) := by
  rw [insAt_of ho] at hi
  unfold wantT
  cases hg : o.guard with
  | none => rw [hg] at hi; exact .inl ⟨rfl, hi⟩
  | some qb =>
    obtain ⟨q, b⟩ := qb
    rw [hg] at hi
    simp only [planG, nthL_eq] at hi ⊢
    cases hq : os[q]? with
    | none => rw [hq] at hi; simp [oneI, insV] at hi
    | some o' =>
      rw [hq] at hi
      simp only [] at hi ⊢
      cases hd : o'.dst with
      | none => rw [hd] at hi; simp [oneI, insV] at hi
      | some t0 =>
        rw [hd] at hi
        simp only [oneI] at hi
        split at hi
        · rename_i c hc
          simp only [hc]
          split at hi
          · rename_i hb; exact .inl ⟨hb, hi⟩
          · rename_i hb
            simp only [Option.some.injEq, Prod.mk.injEq] at hi
            exact .inr ⟨hb, hi.1.symm, hi.2.1.symm, hi.2.2.symm⟩
        · rename_i hc
          simp only [hc]
          simp only [Option.some.injEq, Prod.mk.injEq] at hi
          exact .inr ⟨trivial, hi.1.symm, hi.2.1.symm, hi.2.2.symm⟩
        · cases hi
/-- and the other way: what goes on may be told at any heap -/
theorem one_of_want {j : Nat} {o : Oper} (ho : os[j]? = some o) {ds0 ds1 ds : List Dfr} {h0 h1 h : H} {v v' : AV} (hi : oneI P R l (insAt P X os j) T ds0 h0 = some (v, ds1, h1)) {r : AV × List Dfr × H}
    (hw : wantT X l os T j o = true) (hr : oneI P R l (plan1 P X (madeBy os j) (dstOf o) o.op) T ds h = some r) : oneI P R l (insAt P X os j) T ds h = some r := by
  rw [insAt_of ho] at hi ⊢
  unfold wantT at hw
  cases hg : o.guard with
  | none => exact hr
  | some qb =>
    obtain ⟨q, b⟩ := qb
    rw [hg] at hi hw
    simp only [planG, nthL_eq] at hi hw ⊢
    cases hq : os[q]? with
    | none => rw [hq] at hw; simp at hw
    | some o' =>
      rw [hq] at hi hw
      simp only [] at hi hw ⊢
      cases hd : o'.dst with
      | none => rw [hd] at hw; simp at hw
      | some t0 =>
        rw [hd] at hi hw
        simp only [oneI] at hi hw ⊢
        split at hw
        · rename_i c hc
          simp only [hc, hw]
          exact hr
        · cases hw
theorem one_of_skip {j : Nat} {o : Oper} (ho : os[j]? = some o) {ds0 ds1 ds : List Dfr} {h0 h1 h : H} {v : AV} (hi : oneI P R l (insAt P X os j) T ds0 h0 = some (v, ds1, h1)) 
    (hw : wantT X l os T j o = false) : oneI P R l (insAt P X os j) T ds h = some (.tup [], ds, h) := by
  rw [insAt_of ho] at hi ⊢
  unfold wantT at hw
  cases hg : o.guard with
  | none => rw [hg] at hw; cases hw
  | some qb =>
    obtain ⟨q, b⟩ := qb
    rw [hg] at hi hw
    simp only [planG, nthL_eq] at hi hw ⊢
    cases hq : os[q]? with
    | none => rw [hq] at hi; simp [oneI, insV] at hi
    | some o' =>
      rw [hq] at hi hw
      simp only [] at hi hw ⊢
      cases hd : o'.dst with
      | none => rw [hd] at hi; simp [oneI, insV] at hi
      | some t0 =>
        rw [hd] at hi hw
        simp only [oneI] at hi hw ⊢
        split at hi
        · rename_i c hc
          simp only [hc] at hw ⊢
          simp only [hw]
        · rename_i hc
          simp only [hc]
        · cases hi
end
end Go.Eng

namespace Go.Eng
open Go
/-- the class of the operation at j -/
noncomputable def clsAt (P : Program) (os : List Oper) (j : Nat) : Cls := (nthL (clss P os) j).getD .effect
section
variable {P : Program} {os : List Oper}
theorem clsAt_of {j : Nat} {o : Oper} (ho : os[j]? = some o) : clsAt P os j = clsOf P o.op := by
  unfold clsAt clss
  rw [nthL_eq, List.getElem?_map, ho]
  rfl
theorem isRd_iff {c : Cls} : isRd c = true ↔ c = .read := by cases c <;> simp [isRd]
theorem rdMask_bit : ∀ (cs : List Cls) (s i : Nat), bit (rdMask cs s) i = true ↔ ∃ j, i = s + j ∧ cs[j]? = some .read
  | [], s, i => by simp [rdMask, bit_zero]
  | c :: cs, s, i => by
    have ih := rdMask_bit cs (s + 1) i
    have h0 : rdMask (c :: cs) s = (match isRd c with | true => rdMask cs (s + 1) ||| 2 ^ s | false => rdMask cs (s + 1)) := rfl
    rw [h0]
    have hc := @isRd_iff c
    cases h : isRd c with
    | true =>
      have hc := hc.1 h
      subst hc
      simp only [bit_or, bit_pow, Bool.or_eq_true, decide_eq_true_eq, ih]
      constructor
      · rintro (⟨j, rfl, hj⟩ | rfl)
        · exact ⟨j + 1, by omega, by simpa using hj⟩
        · exact ⟨0, by omega, rfl⟩
      · rintro ⟨j, rfl, hj⟩
        cases j with
        | zero => exact .inr rfl
        | succ j => exact .inl ⟨j, by omega, by simpa using hj⟩
    | false =>
      rw [h] at hc
      simp only []
      rw [ih]
      constructor
      · rintro ⟨j, rfl, hj⟩
        exact ⟨j + 1, by omega, by simpa using hj⟩
      · rintro ⟨j, rfl, hj⟩
        cases j with
        | zero => simp at hj; exact absurd (hc.2 hj) (by simp)
        | succ j => exact ⟨j, by omega, by simpa using hj⟩
theorem needOf_bit {rd done b i : Nat} : bit (needOf rd done b) i = (bit rd i && bit done i && !bit b i) := by
  unfold needOf
  simp only [bit_xor, bit_and]
  cases bit rd i <;> cases bit done i <;> cases bit b i <;> rfl
abbrev okI (P : Program) (os : List Oper) (L : List It) (done eff need : Nat) : Prop := okIt (clss P os) (befL os) os.length (rdMask (clss P os) 0) L done eff need = true
theorem okI_nil {done eff need : Nat} (h : okI P os [] done eff need) : (∀ i, i < os.length → bit done i = true) ∧ need = 0 := by
  have h : (Nat.beq done (2 ^ os.length - 1) && Nat.beq need 0) = true := h
  rw [Bool.and_eq_true] at h
  have h1 := Nat.eq_of_beq_eq_true h.1
  refine ⟨fun i hi => by rw [h1, bit_ones]; simpa using hi, Nat.eq_of_beq_eq_true h.2⟩
theorem okI_chk {i : Nat} {L : List It} {done eff need : Nat} (h : okI P os (.chk i :: L) done eff need) : bit done i = true ∧ okI P os L done eff (need ^^^ (need &&& 2 ^ i)) := by
  have h : (bit done i && okIt (clss P os) (befL os) os.length (rdMask (clss P os) 0) L done eff (need ^^^ (need &&& 2 ^ i))) = true := h
  rw [Bool.and_eq_true] at h
  exact h
theorem okI_run {i : Nat} {L : List It} {done eff need : Nat} (h : okI P os (.run i :: L) done eff need) : i < os.length ∧ need = 0 ∧ bit done i = false ∧ (∀ q, Ahead os q i → bit done q = true) ∧
    ((clsAt P os i = .pure ∧ okI P os L (done ||| 2 ^ i) eff 0) ∨
     ((clsAt P os i = .read ∨ clsAt P os i = .alloc) ∧ (∀ q, bit eff q = true → Ahead os q i) ∧ okI P os L (done ||| 2 ^ i) eff 0) ∨
     (clsAt P os i = .effect ∧ (∀ q, bit eff q = true → Ahead os q i) ∧ okI P os L (done ||| 2 ^ i) (eff ||| 2 ^ i) (needOf (rdMask (clss P os) 0) done ((nthL (befL os) i).getD 0)))) := by
  unfold okI at h
  unfold okIt at h
  split at h
  · cases h
  · rename_i hh
    simp only [Bool.and_eq_true, Bool.not_eq_true'] at hh
    obtain ⟨⟨⟨h1, h2⟩, h3⟩, h4⟩ := hh
    refine ⟨blt_iff.1 h1, Nat.eq_of_beq_eq_true h2, h3, fun q hq => allIn_iff.1 h4 q hq, ?_⟩
    split at h
    · rename_i hc; exact .inl ⟨hc, h⟩
    · rename_i hc
      rw [Bool.and_eq_true] at h
      exact .inr (.inr ⟨hc, fun q hq => allIn_iff.1 h.1 q hq, h.2⟩)
    · rename_i c hc1 hc2
      rw [Bool.and_eq_true] at h
      refine .inr (.inl ⟨?_, fun q hq => allIn_iff.1 h.1 q hq, h.2⟩)
      unfold clsAt
      cases hx : (nthL (clss P os) i).getD Cls.effect with
      | pure => exact absurd hx hc1
      | effect => exact absurd hx hc2
      | read => exact .inl rfl
      | alloc => exact .inr rfl
/-- what is run behind the effects is bound by them -/
theorem okI_late : ∀ {L : List It} {done eff need : Nat}, okI P os L done eff need → ∀ j, j < os.length → bit done j = false → clsAt P os j ≠ .pure → ∀ q, bit eff q = true → Ahead os q j
  | [], _, _, _, h, j, hj, hd, _, _, _ => by have := (okI_nil h).1 j hj; rw [this] at hd; cases hd
  | .chk i :: L, _, _, _, h, j, hj, hd, hc, q, hq => okI_late (okI_chk h).2 j hj hd hc q hq
  | .run i :: L, done, eff, need, h, j, hj, hd, hc, q, hq => by
    obtain ⟨h1, h2, h3, h4, h5⟩ := okI_run h
    by_cases he : i = j
    · subst he
      rcases h5 with ⟨h5, _⟩ | ⟨_, h5, _⟩ | ⟨_, h5, _⟩
      · exact absurd h5 hc
      · exact h5 q hq
      · exact h5 q hq
    · have hd' : bit (done ||| 2 ^ i) j = false := by rw [bit_or, bit_pow, hd]; simpa using he
      rcases h5 with ⟨_, h6⟩ | ⟨_, _, h6⟩ | ⟨_, _, h6⟩
      · exact okI_late h6 j hj hd' hc q hq
      · exact okI_late h6 j hj hd' hc q hq
      · exact okI_late h6 j hj hd' hc q (by rw [bit_or, hq]; rfl)

section
variable {R : Rec} {X : List Nat} {l : E}
theorem chkOf_plan1 (dd : List Nat) (d d' : Nat) (op : Op) : chkOf d' (plan1 P X dd d op) = .chk d' (plan1 P X dd d op) := by
  rcases plan1_pl (P := P) X dd d op with h | ⟨c, x, rfl, hc⟩ | ⟨c, x, m, rfl, hc⟩ | ⟨c, rfl, hc⟩ | ⟨c, x, rfl, hc⟩
  · generalize plan1 P X dd d op = i at h ⊢
    cases i <;> first | rfl | cases h
  all_goals simp only [plan1, hc, chkOf]
theorem kK_ok {t : E} {ds : List Dfr} {h : H} {k : K} {o : Option AV} {r : RV} {x : Ex} {f : Fr} {h' : H} (hk : kK t ds h k o r = .ok x f h') : ∃ u h1, o = some u ∧ r = .ok u h1 ∧ k t ds h = .ok x f h' := by
  unfold kK at hk
  split at hk
  · rename_i u
    split at hk
    · rename_i v h1
      split at hk
      · rename_i hs
        rw [sameA_eq 20 u v hs]
        exact ⟨v, h1, rfl, rfl, hk⟩
      · cases hk
    · cases hk
  · cases hk
/-- the run in the plan's order -/
theorem canon (hT : tmpsOk os (befL os) = true) (hE : edgesOk 0 os = true) (hnw : ∀ (i : Nat) (o : Oper) (d : Nat), os[i]? = some o → o.dst = some d → d ≠ nowhere) {keep : List Nat} {x : Ex} {f' : Fr} {h' : H} :
    ∀ (L : List It) (done eff need : Nat) (t : E) (ds : List Dfr) (h : H), okI P os L done eff need → execL P R l keep (planIt P X os L) t ds h = .ok x f' h' →
      (∀ i, bit done i = true → i < os.length) → (∀ i j, bit done j = true → Ahead os i j → bit done i = true) →
      ∃ T dsF, x = .normal ∧ f' = ⟨keepE T keep l, dsF⟩ ∧ CT P R X l os T L ds h dsF h' ∧
        ∀ d, d ≠ nowhere → (∀ (i : Nat) (o : Oper), os[i]? = some o → o.dst = some d → bit done i = true) → T.get d = t.get d
  | [], done, eff, need, t, ds, h, hok, he, hlt, hcl => by
    have he : RC.ok .normal ⟨keepE t keep l, ds⟩ h = .ok x f' h' := he
    simp only [RC.ok.injEq] at he
    obtain ⟨rfl, rfl, rfl⟩ := he
    exact ⟨t, ds, rfl, rfl, ⟨rfl, rfl⟩, fun _ _ _ => rfl⟩
  | .run i :: L, done, eff, need, t, ds, h, hok, he, hlt, hcl => by
    obtain ⟨h1, h2, h3, h4, h5⟩ := okI_run hok
    obtain ⟨o, ho⟩ : ∃ o, os[i]? = some o := ⟨os[i], by simp [h1]⟩
    have he : execI P R l (insAt P X os i) t ds h (execL P R l keep (planIt P X os L)) = .ok x f' h' := he
    have hwd : Wd (dstOf o) (insAt P X os i) := by rw [insAt_of ho]; exact planG_wd _ _ _ _ _ (plan1_wd _ _ _ _)
    obtain ⟨v, ds1, hh1, hone, hk⟩ := execI_one _ hwd he
    have hlt' : ∀ q, bit (done ||| 2 ^ i) q = true → q < os.length := fun q hq => by
      rw [bit_or, bit_pow, Bool.or_eq_true] at hq
      rcases hq with hq | hq
      · exact hlt q hq
      · have : i = q := by simpa using hq
        omega
    have hcl' : ∀ p q, bit (done ||| 2 ^ i) q = true → Ahead os p q → bit (done ||| 2 ^ i) p = true := fun p q hq hpq => by
      rw [bit_or, bit_pow, Bool.or_eq_true] at hq ⊢
      rcases hq with hq | hq
      · exact .inl (hcl p q hq hpq)
      · have : i = q := by simpa using hq
        subst this
        exact .inl (h4 p hpq)
    obtain ⟨eff', need', hok'⟩ : ∃ eff' need', okI P os L (done ||| 2 ^ i) eff' need' := by
      rcases h5 with ⟨_, h⟩ | ⟨_, _, h⟩ | ⟨_, _, h⟩ <;> exact ⟨_, _, h⟩
    obtain ⟨T, dsF, e1, e2, e3, e4⟩ := canon hT hE hnw L _ _ _ _ _ _ hok' hk hlt' hcl'
    have huniq : ∀ {q : Nat} {u : Oper} {d : Nat}, os[q]? = some u → u.dst = some d → ∀ {p : Nat} {z : Oper}, os[p]? = some z → z.dst = some d → p = q := fun {q u d} hq hd {p z} hp hz => by
      refine Classical.byContradiction fun hne => ?_
      exact (tmpsOk_spec hT hq hd hp (Ne.symm hne)).1 hz
    have hTt : ∀ d, d ≠ nowhere → o.dst ≠ some d → (∀ (q : Nat) (u : Oper), os[q]? = some u → u.dst = some d → bit done q = true) → T.get d = t.get d := fun d hd hod hw => by
      rw [e4 d hd fun q u hq hu => by rw [bit_or, hw q u hq hu]; rfl, E.get_cons, if_neg]
      intro e
      cases hdo : o.dst with
      | none => simp only [dstOf, hdo] at e; exact hd e.symm
      | some d0 => simp only [dstOf, hdo] at e; subst e; exact hod hdo
    refine ⟨T, dsF, e1, e2, ⟨o, v, ds1, hh1, ho, ?_, fun d hd => ?_, e3⟩, fun d hd hw => hTt d hd (fun e => by have := hw i o ho e; rw [h3] at this; cases this) hw⟩
    · rw [← hone]
      refine ins_at_agree ho (fun d hl hm => ?_) (fun _ _ _ => rfl)
      obtain ⟨j, u, hj, hu, hud⟩ := mem_madeBy.1 hm
      have ha : Ahead os j i := by
        rcases (tmpsOk_spec hT hu hud ho (by omega)).2 hl with h | h
        · exact h
        · have := ahead_lt hE h; omega
      refine hTt d (hnw j u d hu hud) (fun e => by have := huniq hu hud ho e; omega) fun q z hq hz => ?_
      rw [huniq hu hud hq hz]
      exact h4 j ha
    · rw [e4 d (hnw i o d ho hd) fun q u hq hu => by rw [huniq ho hd hq hu, bit_or, bit_pow]; simp, E.get_cons, if_pos]
      simp only [dstOf, hd]
  | .chk i :: L, done, eff, need, t, ds, h, hok, he, hlt, hcl => by
    obtain ⟨h1, hok'⟩ := okI_chk hok
    have hil := hlt i h1
    obtain ⟨o, ho⟩ : ∃ o, os[i]? = some o := ⟨os[i], by simp [hil]⟩
    have he : execI P R l (chkOf (dstAt os i) (insAt P X os i)) t ds h (execL P R l keep (planIt P X os L)) = .ok x f' h' := he
    have hda : dstAt os i = dstOf o := by simp only [dstAt, nthL_eq, ho]
    rw [hda, insAt_of ho] at he
    have huniq : ∀ {q : Nat} {u : Oper} {d : Nat}, os[q]? = some u → u.dst = some d → ∀ {p : Nat} {z : Oper}, os[p]? = some z → z.dst = some d → p = q := fun {q u d} hq hd {p z} hp hz => by
      refine Classical.byContradiction fun hne => ?_
      exact (tmpsOk_spec hT hq hd hp (Ne.symm hne)).1 hz
    -- told by the variables t that are there now
    have key : ∃ t', (∀ d, d ≠ nowhere → t'.get d = t.get d) ∧ execL P R l keep (planIt P X os L) t' ds h = .ok x f' h' ∧
        (wantT X l os t i o = true → ∃ v h1, insV t l h (plan1 P X (madeBy os i) (dstOf o) o.op) = .ok v h1 ∧ t.get (dstOf o) = some v) := by
      unfold wantT
      cases hg : o.guard with
      | none =>
        rw [hg] at he
        simp only [planG, chkOf_plan1] at he
        have he : kK t ds h (execL P R l keep (planIt P X os L)) (E.get t (dstOf o)) (insV t l h (plan1 P X (madeBy os i) (dstOf o) o.op)) = .ok x f' h' := he
        obtain ⟨u, h2, h3, h4, h5⟩ := kK_ok he
        exact ⟨t, fun _ _ => rfl, h5, fun _ => ⟨u, h2, h4, h3⟩⟩
      | some qb =>
        obtain ⟨q, b⟩ := qb
        rw [hg] at he
        simp only [planG, nthL_eq] at he ⊢
        cases hq : os[q]? with
        | none =>
          rw [hq] at he
          simp only [chkOf] at he
          have he : kK t ds h (execL P R l keep (planIt P X os L)) (E.get t (dstOf o)) .no = .ok x f' h' := he
          obtain ⟨_, _, _, h4, _⟩ := kK_ok he
          cases h4
        | some o' =>
          rw [hq] at he
          simp only [] at he ⊢
          cases hd : o'.dst with
          | none =>
            rw [hd] at he
            simp only [chkOf] at he
            have he : kK t ds h (execL P R l keep (planIt P X os L)) (E.get t (dstOf o)) .no = .ok x f' h' := he
            obtain ⟨_, _, _, h4, _⟩ := kK_ok he
            cases h4
          | some t0 =>
            rw [hd] at he
            simp only [chkOf] at he
            have he : kG b nowhere t ds h (execL P R l keep (planIt P X os L)) (kK t ds h (execL P R l keep (planIt P X os L)) (E.get t (dstOf o)) (insV t l h (plan1 P X (madeBy os i) (dstOf o) o.op)))
              (getO (opd X (madeBy os i) (.tmp t0)) t l) = .ok x f' h' := he
            unfold kG at he
            split at he
            · rename_i c hc
              simp only [hc]
              split at he
              · rename_i hb
                obtain ⟨u, h2, h3, h4, h5⟩ := kK_ok he
                exact ⟨t, fun _ _ => rfl, h5, fun _ => ⟨u, h2, h4, h3⟩⟩
              · rename_i hb
                exact ⟨_, fun d hd => by rw [E.get_cons, if_neg (Ne.symm hd)], he, fun h => by rw [hb] at h; cases h⟩
            · rename_i hc
              simp only [hc]
              exact ⟨_, fun d hd => by rw [E.get_cons, if_neg (Ne.symm hd)], he, fun h => by cases h⟩
            · cases he
    obtain ⟨t', k1, k2, k3⟩ := key
    obtain ⟨T, dsF, e1, e2, e3, e4⟩ := canon hT hE hnw L _ _ _ _ _ _ hok' k2 hlt hcl
    have hTt : ∀ d, d ≠ nowhere → (∀ (q : Nat) (u : Oper), os[q]? = some u → u.dst = some d → bit done q = true) → T.get d = t.get d := fun d hd hw => by rw [e4 d hd hw, k1 d hd]
    have hag : ∀ d, d ∈ looks os o → d ∈ madeBy os i → T.get d = t.get d := fun d hl hm => by
      obtain ⟨j, u, hj, hu, hud⟩ := mem_madeBy.1 hm
      have ha : Ahead os j i := by
        rcases (tmpsOk_spec hT hu hud ho (by omega)).2 hl with h | h
        · exact h
        · have := ahead_lt hE h; omega
      refine hTt d (hnw j u d hu hud) fun q z hq hz => ?_
      rw [huniq hu hud hq hz]
      exact hcl j i h1 ha
    refine ⟨T, dsF, e1, e2, ⟨⟨o, ho, fun hw => ?_⟩, e3⟩, hTt⟩
    rw [want_agree hag (fun _ _ _ => rfl)] at hw
    obtain ⟨v, h2, h3, h4⟩ := k3 hw
    refine ⟨v, h2, by rw [insV_at_agree hag (fun _ _ _ => rfl)]; exact h3, fun d hd => ?_⟩
    rw [hTt d (hnw i o d ho hd) fun q u hq hu => by rw [huniq ho hd hq hu]; exact h1]
    simpa only [dstOf, hd] using h4
end
end
end Go.Eng

namespace Go.Eng
open Go
/-- a part of the variables -/
noncomputable def E.cut (p : Nat → Bool) : E → E
  | .nil => .nil
  | .cons d v r => match p d with | true => .cons d v (r.cut p) | false => r.cut p
theorem E.get_cut (p : Nat → Bool) : ∀ (e : E) (d : Nat), (e.cut p).get d = (match p d with | true => e.get d | false => none)
  | .nil, d => by simp [E.cut]; split <;> rfl
  | .cons x v r, d => by
    have ih := E.get_cut p r d
    unfold E.cut
    cases hx : p x with
    | true =>
      simp only []
      rw [E.get_cons, E.get_cons, ih]
      by_cases e : x = d
      · subst e; simp [hx]
      · simp [e]
    | false =>
      simp only []
      rw [ih, E.get_cons]
      by_cases e : x = d
      · subst e; simp [hx]
      · simp [e]
theorem HLe.refl (h : H) : HLe h h := fun _ _ hx => hx
section
variable {P : Program} {g g0 : G} {h H0 : H} {w w0 w' : World}
theorem HLe.add (hr : HR P g h w) (x : Blk) : HLe h (h.add x) := fun b y hy => by
  rw [H.get_add]
  split
  · rename_i e
    subst e
    rw [hr.fresh _ (Nat.le_refl _)] at hy
    cases hy
  · exact hy
theorem live_add (hr : HR P g h w) {x : Blk} {b : Ps} {c : Nat} (hl : live g (h.add x) b c) : live g h b c := by
  obtain ⟨y, sh, sz, h1, h2⟩ := hl
  rw [H.get_add] at h1
  split at h1
  · rename_i e
    subst e
    have := hr.gold _ _ h2
    omega
  · exact ⟨y, sh, sz, h1, h2⟩
/-- a block that is only in the plan -/
theorem ghost_add (hr : HR P g h w) (x : Blk) : HR P g (h.add x) w :=
  ⟨fun b y hy c sh sz hg => by
    rw [H.get_add] at hy
    split at hy
    · rename_i e; subst e; have := hr.gold _ _ hg; omega
    · exact hr.blk b y hy c sh sz hg,
   fun b b' c h1 h2 => hr.inj b b' c (live_add hr h1) (live_add hr h2),
   fun b hb => by
    rw [H.next_add, Ps.val_inc] at hb
    rw [H.get_add, if_neg (fun e => by subst e; omega)]
    exact hr.fresh b (by omega),
   fun b x hb => by rw [H.next_add, Ps.val_inc]; have := hr.gold b x hb; omega⟩
theorem ghost_add_ext (hr : HR P g h w) (x : Blk) (he : Ext g0 H0 w0 g h w) : Ext g0 H0 w0 g (h.add x) w :=
  ⟨he.mono, he.new, fun b hb hg => by
    rw [H.get_add, if_neg (fun e => by subst e; have := he.next; omega)]
    exact he.ghost b hb hg,
   by rw [H.next_add, Ps.val_inc]; have := he.next; omega,
   he.size, fun b c hl => he.image b c (live_add hr hl), he.frame, he.same⟩
/-- and is made now -/
theorem ghost_real (hr : HR P g h w) {p : Ps} {blk : Blk} {ob : Obj} {sz : Nat} (hgp : g p = none) (hp : p.val < h.next.val) (hb : h.get p = some blk) (hw : w'.heap = w.heap.push ob)
    (hob : BR P (gset g p (w.heap.size, 0, sz)) 0 sz blk ob) : GLe g (gset g p (w.heap.size, 0, sz)) ∧ HR P (gset g p (w.heap.size, 0, sz)) h w' := by
  have hle : GLe g (gset g p (w.heap.size, 0, sz)) := fun b y hy => by
    unfold gset
    rw [if_neg (fun e => by subst e; rw [hgp] at hy; cases hy)]
    exact hy
  have hlive : ∀ q k, live (gset g p (w.heap.size, 0, sz)) h q k → (q = p ∧ k = w.heap.size) ∨ (q ≠ p ∧ live g h q k) := by
    rintro q k ⟨y, s, z, h1, h2⟩
    unfold gset at h2
    by_cases hq : p = q
    · subst hq
      rw [if_pos rfl] at h2
      cases h2
      exact .inl ⟨rfl, rfl⟩
    · rw [if_neg hq] at h2
      exact .inr ⟨fun e => hq e.symm, y, s, z, h1, h2⟩
  refine ⟨hle, fun b y hy c sh s hg => ?_, fun q q' k h1 h2 => ?_, hr.fresh, fun q y hy => ?_⟩
  · unfold gset at hg
    by_cases hq : p = b
    · subst hq
      rw [if_pos rfl] at hg
      cases hg
      rw [hb] at hy
      cases hy
      exact ⟨ob, by rw [hw]; simp, hob⟩
    · rw [if_neg hq] at hg
      obtain ⟨o', ho', hb'⟩ := hr.blk b y hy c sh s hg
      have hlt := (Array.getElem?_eq_some_iff.1 ho').1
      exact ⟨o', by rw [hw, Array.getElem?_push, if_neg (by omega)]; exact ho', hb'.mono hle⟩
  · rcases hlive q k h1 with ⟨rfl, e0⟩ | ⟨hq, hl⟩ <;> rcases hlive q' k h2 with ⟨rfl, e⟩ | ⟨hq', hl'⟩
    · rfl
    · have := hr.lt hl'; omega
    · have := hr.lt hl; omega
    · exact hr.inj q q' k hl hl'
  · unfold gset at hy
    by_cases hq : p = q
    · subst hq; exact hp
    · rw [if_neg hq] at hy; exact hr.gold q y hy
theorem ghost_real_ext (hr : HR P g h w) {p : Ps} {ob : Obj} {sz : Nat} (hgp : g p = none) (hp0 : H0.next.val ≤ p.val) (hw : w'.heap = w.heap.push ob) (hs : Same w w')
    (he : Ext g0 H0 w0 g h w) : Ext g0 H0 w0 (gset g p (w.heap.size, 0, sz)) h w' :=
  ⟨fun b y hy => by
    have := he.mono b y hy
    unfold gset
    rw [if_neg (fun e => by subst e; rw [hgp] at this; cases this)]
    exact this,
   fun b hb y hy => by
    unfold gset at hy
    by_cases hq : p = b
    · subst hq; exact hp0
    · rw [if_neg hq] at hy; exact he.new b hb y hy,
   he.ghost, he.next, by rw [hw]; simp; exact Nat.le_succ_of_le he.size,
   fun b c hl => by
    obtain ⟨y, s, z, h1, h2⟩ := hl
    unfold gset at h2
    by_cases hq : p = b
    · subst hq
      rw [if_pos rfl] at h2
      cases h2
      exact .inr he.size
    · rw [if_neg hq] at h2
      exact he.image b c ⟨y, s, z, h1, h2⟩,
   fun c hc hn => by
    rw [hw, Array.getElem?_push, if_neg (by have := he.size; omega)]
    exact he.frame c hc hn,
   he.same.trans hs⟩
end

/-! ### any order -/
section
variable (P : Program) (R : Rec) (X : List Nat) (l : E) (os : List Oper) (T : E) (m : Nat) (dsF : List Dfr) (hF : H) (g0 : G) (H0 : H) (w0 : World)
/-- what was read, and may be read later -/
def RdF (i : Nat) (o : Oper) (h : H) : Prop := ∃ h1 v h1', HLe h1 h ∧ insV T l h1 (plan1 P X (madeBy os i) (dstOf o) o.op) = .ok v h1' ∧ ∀ d, o.dst = some d → T.get d = some v
/-- what was made in the plan, and is made later -/
def AlF (g : G) (p : Ps) (i : Nat) (o : Oper) (h : H) : Prop := ∃ h0 blk v, insV T l h0 (plan1 P X (madeBy os i) (dstOf o) o.op) = .ok v (h0.add blk) ∧ h0.next = p ∧ (∀ d, o.dst = some d → T.get d = some v) ∧
  g p = none ∧ H0.next.val ≤ p.val ∧ p.val < h.next.val ∧ h.get p = some blk
def Pen (D : Nat → Prop) (done : Nat) (i : Nat) (o : Oper) : Prop := bit done i = true ∧ ¬ D i ∧ os[i]? = some o ∧ wantT X l os T i o = true
structure Inv (D : Nat → Prop) (L : List It) (done eff need : Nat) (ds : List Dfr) (h : H) (g : G) (gh : Nat → Ps) (a : Act) (w : World) : Prop where
  ok : okI P os L done eff need
  ct : CT P R X l os T L ds h dsF hF
  lt : ∀ i, bit done i = true → i < os.length
  cl : ∀ i j, bit done j = true → Ahead os i j → bit done i = true
  de : ∀ i, bit done i = true → clsAt P os i = .effect → bit eff i = true
  df : ∀ i, bit eff i = true → bit done i = true ∧ clsAt P os i = .effect ∧ D i
  fd : ∀ i, D i → clsAt P os i ≠ .pure → bit done i = true
  hr : HR P g h w
  dr : DR g ds a.defers
  sz : m ≤ a.tmps.size
  tm : ∀ (i : Nat) (o : Oper) (d : Nat), D i → os[i]? = some o → o.dst = some d → ∃ v c, T.get d = some v ∧ a.tmps[d]? = some c ∧ VR g v c
  tl : ∀ d v, (∀ (i : Nat) (o : Oper), D i → os[i]? = some o → o.dst ≠ some d) → memN d X = true → l.get d = some v → ∃ c, a.tmps[d]? = some c ∧ VR g v c
  rd : ∀ (i : Nat) (o : Oper), Pen X l os T D done i o → clsOf P o.op = .read → bit need i = false → RdF P X l os T i o h
  al : ∀ (i : Nat) (o : Oper), Pen X l os T D done i o → clsOf P o.op = .alloc → AlF P X l os T H0 g (gh i) i o h
  inj : ∀ (i j : Nat) (o u : Oper), Pen X l os T D done i o → clsOf P o.op = .alloc → Pen X l os T D done j u → clsOf P u.op = .alloc → i ≠ j → gh i ≠ gh j
  ext : Ext g0 H0 w0 g h w
end
section
variable {P : Program} {R : Rec} {X : List Nat} {l : E} {os : List Oper} {T : E} {m : Nat} {dsF : List Dfr} {hF : H} {g0 : G} {H0 : H} {w0 : World} {D : Nat → Prop}
theorem Pen.of_or {done k i : Nat} {o : Oper} (h : Pen X l os T D (done ||| 2 ^ k) i o) (hne : i ≠ k) : Pen X l os T D done i o :=
  ⟨by have := h.1; rw [bit_or, bit_pow, Bool.or_eq_true] at this; exact this.resolve_right (by simpa using Ne.symm hne), h.2⟩
/-- on to the next effect -/
theorem Inv.norm : ∀ {L : List It} {done eff need : Nat} {ds : List Dfr} {h : H} {g : G} {gh : Nat → Ps} {a : Act} {w : World}, Inv P R X l os T m dsF hF g0 H0 w0 D L done eff need ds h g gh a w →
    ∃ L' done' eff' need' ds' h' gh', Inv P R X l os T m dsF hF g0 H0 w0 D L' done' eff' need' ds' h' g gh' a w ∧ (L' = [] ∨ ∃ e L'', L' = .run e :: L'' ∧ clsAt P os e = .effect)
  | [], done, eff, need, ds, h, g, gh, a, w, hi => ⟨[], done, eff, need, ds, h, gh, hi, .inl rfl⟩
  | .chk i :: L, done, eff, need, ds, h, g, gh, a, w, hi => by
    obtain ⟨h1, h2⟩ := okI_chk hi.ok
    obtain ⟨⟨o, ho, hc⟩, hct⟩ := hi.ct
    refine Inv.norm (L := L) (done := done) (eff := eff) (need := need ^^^ (need &&& 2 ^ i)) (ds := ds) (h := h) (gh := gh) { hi with ok := h2, ct := hct, rd := fun j u hp hcl hn => ?_ }
    by_cases e : j = i
    · subst e
      obtain rfl : u = o := by have := hp.2.2.1; rw [ho] at this; exact (Option.some.inj this).symm
      obtain ⟨v, h', h3, h4⟩ := hc hp.2.2.2
      exact ⟨h, v, h', HLe.refl h, h3, h4⟩
    · refine hi.rd j u hp hcl ?_
      rw [bit_xor, bit_and, bit_pow] at hn
      have : decide (i = j) = false := by simpa using Ne.symm e
      rw [this] at hn
      simpa using hn
  | .run i :: L, done, eff, need, ds, h, g, gh, a, w, hi => by
    obtain ⟨h1, h2, h3, h4, h5⟩ := okI_run hi.ok
    obtain ⟨o, v, ds1, hh1, ho, hone, hT, hct⟩ := hi.ct
    have hcl : clsAt P os i = clsOf P o.op := clsAt_of ho
    have hlt' : ∀ q, bit (done ||| 2 ^ i) q = true → q < os.length := fun q hq => by
      rw [bit_or, bit_pow, Bool.or_eq_true] at hq
      rcases hq with hq | hq
      · exact hi.lt q hq
      · have : i = q := by simpa using hq
        omega
    have hcl' : ∀ p q, bit (done ||| 2 ^ i) q = true → Ahead os p q → bit (done ||| 2 ^ i) p = true := fun p q hq hpq => by
      rw [bit_or, bit_pow, Bool.or_eq_true] at hq ⊢
      rcases hq with hq | hq
      · exact .inl (hi.cl p q hq hpq)
      · have : i = q := by simpa using hq
        subst this
        exact .inl (h4 p hpq)
    have hde : clsAt P os i ≠ .effect → ∀ q, bit (done ||| 2 ^ i) q = true → clsAt P os q = .effect → bit eff q = true := fun hne q hq hc => by
      rw [bit_or, bit_pow, Bool.or_eq_true] at hq
      rcases hq with hq | hq
      · exact hi.de q hq hc
      · have : i = q := by simpa using hq
        subst this
        exact absurd hc hne
    have hor : ∀ q, bit done q = true → bit (done ||| 2 ^ i) q = true := fun q hq => by rw [bit_or, hq]; rfl
    subst h2
    have hneed : ∀ j, bit 0 j = false := fun j => by rw [bit_zero]
    -- a pure one, a read, or one that is passed by
    have plain : ∀ (hcls : clsAt P os i ≠ .effect) (hok : okI P os L (done ||| 2 ^ i) eff 0) (hds : ds1 = ds) (hh : hh1 = h) (hrd : clsOf P o.op = .read → wantT X l os T i o = true → RdF P X l os T i o h) (hal : clsOf P o.op = .alloc → wantT X l os T i o = true → False),
        ∃ L' done' eff' need' ds' h' gh', Inv P R X l os T m dsF hF g0 H0 w0 D L' done' eff' need' ds' h' g gh' a w ∧ (L' = [] ∨ ∃ e L'', L' = .run e :: L'' ∧ clsAt P os e = .effect) := by
      intro hcls hok hds hh hrd hal
      subst hds hh
      have hnal : ∀ (j : Nat) (u : Oper), Pen X l os T D (done ||| 2 ^ i) j u → clsOf P u.op = .alloc → j ≠ i := fun j u hp hc e => by
        subst e
        have hu := hp.2.2.1
        rw [ho] at hu
        obtain rfl := Option.some.inj hu
        exact hal hc hp.2.2.2
      exact Inv.norm (L := L) (done := done ||| 2 ^ i) (eff := eff) (need := 0) (gh := gh)
        { hi with
          ok := hok, ct := hct, lt := hlt', cl := hcl', de := hde hcls
          df := fun q hq => let ⟨a1, a2, a3⟩ := hi.df q hq; ⟨hor q a1, a2, a3⟩
          fd := fun q hq hc => hor q (hi.fd q hq hc)
          rd := fun j u hp hc hn => by
            by_cases e : j = i
            · subst e
              have hu := hp.2.2.1
              rw [ho] at hu
              obtain rfl := Option.some.inj hu
              exact hrd hc hp.2.2.2
            · exact hi.rd j u (hp.of_or e) hc (hneed j)
          al := fun j u hp hc => hi.al j u (hp.of_or (hnal j u hp hc)) hc
          inj := fun p q u z hp hc hq hc' hne => hi.inj p q u z (hp.of_or (hnal p u hp hc)) hc (hq.of_or (hnal q z hq hc')) hc' hne }
    rcases want_cases ho hone with ⟨hw, hone'⟩ | ⟨hw, hv, hds, hh⟩
    · rcases h5 with ⟨hc, hok⟩ | ⟨hc, _, hok⟩ | ⟨hc, _, hok⟩
      · have hpl : PlI (plan1 P X (madeBy os i) (dstOf o) o.op) = true := by
          rw [hcl] at hc
          rcases plan1_pl (P := P) X (madeBy os i) (dstOf o) o.op with h | ⟨c, x, h, hcc⟩ | ⟨c, x, mm, h, hcc⟩ | ⟨c, h, hcc⟩ | ⟨c, x, h, hcc⟩
          · exact h
          all_goals (rw [h] at hc; simp [clsOf, hcc] at hc)
        obtain ⟨hv, hds⟩ := one_pl hpl hone'
        have hh := look_h o.op (.inl (hcl ▸ hc)) hv
        exact plain (by rw [hc]; simp) hok hds hh (fun h => by rw [← hcl, hc] at h; cases h) (fun h => by rw [← hcl, hc] at h; cases h)
      · have hpl : PlI (plan1 P X (madeBy os i) (dstOf o) o.op) = true := by
          rw [hcl] at hc
          rcases plan1_pl (P := P) X (madeBy os i) (dstOf o) o.op with h | ⟨c, x, h, hcc⟩ | ⟨c, x, mm, h, hcc⟩ | ⟨c, h, hcc⟩ | ⟨c, x, h, hcc⟩
          · exact h
          all_goals (rw [h] at hc; simp [clsOf, hcc] at hc)
        obtain ⟨hv, hds⟩ := one_pl hpl hone'
        rcases hc with hc | hc
        · have hh := look_h o.op (.inr (hcl ▸ hc)) hv
          exact plain (by rw [hc]; simp) hok hds hh (fun _ _ => by subst hh; exact ⟨hh1, v, hh1, HLe.refl _, hv, hT⟩) (fun h => by rw [← hcl, hc] at h; cases h)
        · obtain ⟨blk, hh⟩ := alloc_h o.op (hcl ▸ hc) hv
          subst hds hh
          have hgn : g h.next = none := by
            cases hg : g h.next with
            | none => rfl
            | some y => have := hi.hr.gold _ _ hg; omega
          have hcls : clsAt P os i ≠ .effect := by rw [hc]; simp
          have hgh : ∀ (j : Nat), j ≠ i → (fun q => if q = i then h.next else gh q) j = gh j := fun j hj => by simp [hj]
          have hgi : (fun q => if q = i then h.next else gh q) i = h.next := by simp
          refine Inv.norm (L := L) (done := done ||| 2 ^ i) (eff := eff) (need := 0) (h := h.add blk) (gh := fun q => if q = i then h.next else gh q)
            { hi with
              ok := hok, ct := hct, lt := hlt', cl := hcl', de := hde hcls
              df := fun q hq => let ⟨a1, a2, a3⟩ := hi.df q hq; ⟨hor q a1, a2, a3⟩
              fd := fun q hq hc => hor q (hi.fd q hq hc)
              hr := ghost_add hi.hr blk
              ext := ghost_add_ext hi.hr blk hi.ext
              rd := fun j u hp hcu hn => by
                by_cases e : j = i
                · subst e
                  have hu := hp.2.2.1
                  rw [ho] at hu
                  obtain rfl := Option.some.inj hu
                  rw [← hcl, hc] at hcu; cases hcu
                · obtain ⟨x1, x2, x3, x4, x5, x6⟩ := hi.rd j u (hp.of_or e) hcu (hneed j)
                  exact ⟨x1, x2, x3, fun b y hy => HLe.add hi.hr blk b y (x4 b y hy), x5, x6⟩
              al := fun j u hp hcu => by
                by_cases e : j = i
                · subst e
                  have hu := hp.2.2.1
                  rw [ho] at hu
                  obtain rfl := Option.some.inj hu
                  refine ⟨h, blk, v, hv, by simp, hT, by simp [hgn], by simp; exact hi.ext.next, by simp [Ps.val_inc], by simp⟩
                · obtain ⟨x1, x2, x3, x4, x5, x6, x7, x8, x9, x10⟩ := hi.al j u (hp.of_or e) hcu
                  simp only [if_neg e]
                  refine ⟨x1, x2, x3, x4, x5, x6, x7, x8, by rw [H.next_add, Ps.val_inc]; omega, ?_⟩
                  rw [H.get_add, if_neg (fun e => by rw [← e] at x9; omega)]
                  exact x10
              inj := fun p q u z hp hcu hq hcz hne => by
                by_cases e : p = i
                · subst e
                  have e' : q ≠ p := Ne.symm hne
                  obtain ⟨x1, x2, x3, x4, x5, x6, x7, x8, x9, x10⟩ := hi.al q z (hq.of_or e') hcz
                  simp only [if_pos, if_neg e']
                  intro e; rw [← e] at x9; omega
                · by_cases e' : q = i
                  · subst e'
                    obtain ⟨x1, x2, x3, x4, x5, x6, x7, x8, x9, x10⟩ := hi.al p u (hp.of_or e) hcu
                    simp only [if_pos, if_neg e]
                    intro e; rw [e] at x9; omega
                  · simp only [if_neg e, if_neg e']
                    exact hi.inj p q u z (hp.of_or e) hcu (hq.of_or e') hcz hne }
      · exact ⟨.run i :: L, done, eff, 0, ds, h, gh, hi, .inr ⟨i, L, rfl, hc⟩⟩
    · rcases h5 with ⟨hc, hok⟩ | ⟨hc, _, hok⟩ | ⟨hc, _, hok⟩
      · exact plain (by rw [hc]; simp) hok hds hh (fun _ h => by rw [hw] at h; cases h) (fun _ h => by rw [hw] at h; cases h)
      · exact plain (by rcases hc with hc | hc <;> rw [hc] <;> simp) hok hds hh (fun _ h => by rw [hw] at h; cases h) (fun _ h => by rw [hw] at h; cases h)
      · exact ⟨.run i :: L, done, eff, 0, ds, h, gh, hi, .inr ⟨i, L, rfl, hc⟩⟩
end
end Go.Eng

namespace Go.Eng
open Go
section
variable {P : Program} {J : FuncId} {R : Rec} {X : List Nat} {l : E} {os : List Oper} {T : E} {m : Nat} {dsF : List Dfr} {hF : H} {g0 : G} {H0 : H} {w0 : World} {D : Nat → Prop}
/-- what is needed of a region -/
structure RegOK (P : Program) (R : Rec) (X : List Nat) (l : E) (os : List Oper) (T : E) (m : Nat) : Prop where
  tk : tmpsOk os (befL os) = true
  ed : edgesOk 0 os = true
  lo : ∀ (i : Nat) (o : Oper) (d : Nat), os[i]? = some o → o.dst = some d → d < m
  all : ∀ (j : Nat) (o : Oper), os[j]? = some o → ∃ ds0 h0 v ds1 h1, oneI P R l (insAt P X os j) T ds0 h0 = some (v, ds1, h1) ∧ ∀ d, o.dst = some d → T.get d = some v
/-- what is done is closed -/
structure Clo (os : List Oper) (D : Nat → Prop) : Prop where
  lt : ∀ i, D i → i < os.length
  cl : ∀ (j : Nat) (o : Oper), D j → os[j]? = some o → ∀ e ∈ o.after, Region.binds .any e = true → D e.on
theorem RegOK.uniq (hk : RegOK P R X l os T m) {q : Nat} {u : Oper} {d : Nat} (hq : os[q]? = some u) (hd : u.dst = some d) {p : Nat} {z : Oper} (hp : os[p]? = some z) (hz : z.dst = some d) : p = q :=
  Classical.byContradiction fun hne => (tmpsOk_spec hk.tk hq hd hp (Ne.symm hne)).1 hz
/-- is it written by what is done? -/
noncomputable def wr (os : List Oper) (D : Nat → Prop) (d : Nat) : Bool := by
  classical exact decide (∃ (i : Nat) (o : Oper), D i ∧ os[i]? = some o ∧ o.dst = some d)
theorem wr_iff {d : Nat} : wr os D d = true ↔ ∃ (i : Nat) (o : Oper), D i ∧ os[i]? = some o ∧ o.dst = some d := by
  unfold wr; simp
theorem wr_iff_not {d : Nat} : wr os D d = false ↔ ∀ (i : Nat) (o : Oper), D i → os[i]? = some o → o.dst ≠ some d := by
  rw [← Bool.not_eq_true, wr_iff]
  constructor
  · intro h i o h1 h2 h3; exact h ⟨i, o, h1, h2, h3⟩
  · rintro h ⟨i, o, h1, h2, h3⟩; exact h i o h1 h2 h3
section
variable {L : List It} {done eff need : Nat} {ds : List Dfr} {h : H} {g : G} {gh : Nat → Ps} {a : Act} {w : World} {j : Nat} {o : Oper}
theorem Inv.opdR (hi : Inv P R X l os T m dsF hF g0 H0 w0 D L done eff need ds h g gh a w) (j : Nat) : OpdR g X (madeBy os j) (T.cut (wr os D)) (l.cut fun d => !wr os D d) a.eval := by
  refine RegR.opd ⟨fun d v _ hv => ?_, fun d v _ hX hv => ?_⟩
  · rw [E.get_cut] at hv
    cases hw : wr os D d with
    | false => rw [hw] at hv; cases hv
    | true =>
      rw [hw] at hv
      obtain ⟨i, u, h1, h2, h3⟩ := wr_iff.1 hw
      obtain ⟨v', c, h4, h5, h6⟩ := hi.tm i u d h1 h2 h3
      simp only [] at hv
      rw [h4] at hv
      obtain rfl := Option.some.inj hv
      exact ⟨c, h5, h6⟩
  · rw [E.get_cut] at hv
    cases hw : wr os D d with
    | true => rw [hw] at hv; cases hv
    | false =>
      rw [hw] at hv
      exact hi.tl d v (wr_iff_not.1 hw) hX hv
theorem agree_new (hk : RegOK P R X l os T m) (hD : Clo os D) (hj : os[j]? = some o) (hr : ∀ e ∈ o.after, Region.binds .any e = true → D e.on) :
    ∀ d, d ∈ looks os o → d ∈ madeBy os j → T.get d = (T.cut (wr os D)).get d := fun d hl hm => by
  obtain ⟨i, u, hlt, hu, hud⟩ := mem_madeBy.1 hm
  have ha : Ahead os i j := by
    rcases (tmpsOk_spec hk.tk hu hud hj (by omega)).2 hl with h | h
    · exact h
    · have := ahead_lt hk.ed h; omega
  have hDi : D i := ahead_ready hk.ed hD.cl hj hr ha
  rw [E.get_cut, wr_iff.2 ⟨i, u, hDi, hu, hud⟩]
theorem agree_old (hk : RegOK P R X l os T m) (hD : Clo os D) (hj : os[j]? = some o) (hnj : ¬ D j) :
    ∀ d, d ∈ looks os o → d ∉ madeBy os j → l.get d = (l.cut fun d => !wr os D d).get d := fun d hl hm => by
  have hw : wr os D d = false := wr_iff_not.2 fun i u hi hu hud => by
    have hne : i ≠ j := fun e => hnj (e ▸ hi)
    rcases (tmpsOk_spec hk.tk hu hud hj hne).2 hl with h | h
    · exact hm (mem_madeBy.2 ⟨i, u, ahead_lt hk.ed h, hu, hud⟩)
    · exact hnj (ahead_closed hk.ed hD.cl hi h)
  rw [E.get_cut, hw]; rfl
/-- variables behind one more -/
theorem Inv.vars (hi : Inv P R X l os T m dsF hF g0 H0 w0 D L done eff need ds h g gh a w) (hk : RegOK P R X l os T m) (hj : os[j]? = some o) (hnj : ¬ D j) {g1 : G} (hle : GLe g g1) {v : AV} {c : Value} (hv : VR g1 v c)
    (hT : ∀ d, o.dst = some d → T.get d = some v) (ds' : List Deferred) :
    (∀ (i : Nat) (u : Oper) (d : Nat), (D i ∨ i = j) → os[i]? = some u → u.dst = some d → ∃ v c', T.get d = some v ∧ (({ tmps := a.tmps, defers := ds' } : Act).put o.dst c).tmps[d]? = some c' ∧ VR g1 v c') ∧
    (∀ d v, (∀ (i : Nat) (u : Oper), (D i ∨ i = j) → os[i]? = some u → u.dst ≠ some d) → memN d X = true → l.get d = some v → ∃ c', (({ tmps := a.tmps, defers := ds' } : Act).put o.dst c).tmps[d]? = some c' ∧ VR g1 v c') ∧
    m ≤ (({ tmps := a.tmps, defers := ds' } : Act).put o.dst c).tmps.size := by
  have same : ∀ d, o.dst ≠ some d → (({ tmps := a.tmps, defers := ds' } : Act).put o.dst c).tmps[d]? = a.tmps[d]? := fun d hd => by
    cases ho : o.dst with
    | none => rfl
    | some d0 =>
      have : d0 ≠ d := fun e => hd (by rw [ho, e])
      simp only [Act.put]
      rw [Array.getElem?_setIfInBounds_ne this]
  refine ⟨fun i u d hD hu hd => ?_, fun d v hn hX hl => ?_, ?_⟩
  · rcases hD with hD | rfl
    · obtain ⟨v', c', h1, h2, h3⟩ := hi.tm i u d hD hu hd
      have hne : o.dst ≠ some d := fun e => hnj (by have := hk.uniq hj e hu hd; exact this ▸ hD)
      exact ⟨v', c', h1, by rw [same d hne]; exact h2, VR.mono hle _ _ h3⟩
    · rw [hj] at hu
      obtain rfl := Option.some.inj hu
      refine ⟨v, c, hT d hd, ?_, hv⟩
      simp only [Act.put, hd]
      rw [Array.getElem?_setIfInBounds_self_of_lt (Nat.lt_of_lt_of_le (hk.lo i o d hj hd) hi.sz)]
  · obtain ⟨c', h2, h3⟩ := hi.tl d v (fun i u hD hu => hn i u (.inl hD) hu) hX hl
    exact ⟨c', by rw [same d (hn j o (.inr rfl) hj)]; exact h2, VR.mono hle _ _ h3⟩
  · have := hi.sz
    cases o.dst <;> simp [Act.put] <;> exact this
theorem put_defers' (a : Act) (ds' : List Deferred) (x : Option Tmp) (c : Value) : (({ tmps := a.tmps, defers := ds' } : Act).put x c).defers = ds' := by cases x <;> rfl
theorem Pen.less {i : Nat} {u : Oper} (hp : Pen X l os T (fun i => D i ∨ i = j) done i u) : Pen X l os T D done i u := ⟨hp.1, fun h => hp.2.1 (.inl h), hp.2.2⟩
theorem AlF.mono {g g1 : G} {p : Ps} {i : Nat} {u : Oper} (ha : AlF P X l os T H0 g p i u h) (hn : ∀ b, g b = none → ∀ x, g1 b = some x → h.next.val ≤ b.val) : AlF P X l os T H0 g1 p i u h := by
  obtain ⟨x1, x2, x3, x4, x5, x6, x7, x8, x9, x10⟩ := ha
  refine ⟨x1, x2, x3, x4, x5, x6, ?_, x8, x9, x10⟩
  cases hg : g1 p with
  | none => rfl
  | some y => have := hn p x7 y hg; omega
/-- behind a step that leaves the plan where it is -/
theorem Inv.same (hi : Inv P R X l os T m dsF hF g0 H0 w0 D L done eff need ds h g gh a w) (hk : RegOK P R X l os T m) (hj : os[j]? = some o) (hnj : ¬ D j) (hdone : clsAt P os j ≠ .pure → bit done j = true)
    {g1 : G} {w1 : World} {v : AV} {c : Value} {ds' : List Deferred} (hv : VR g1 v c) (hx : Ext g h w g1 h w1) (hr : HR P g1 h w1) (hd : DR g1 ds ds') (hT : ∀ d, o.dst = some d → T.get d = some v) :
    Inv P R X l os T m dsF hF g0 H0 w0 (fun i => D i ∨ i = j) L done eff need ds h g1 gh (({ tmps := a.tmps, defers := ds' } : Act).put o.dst c) w1 := by
  obtain ⟨v1, v2, v3⟩ := hi.vars hk hj hnj hx.mono hv hT ds'
  exact { ok := hi.ok, ct := hi.ct, lt := hi.lt, cl := hi.cl, de := hi.de
          df := fun q hq => let ⟨a1, a2, a3⟩ := hi.df q hq; ⟨a1, a2, .inl a3⟩
          fd := fun q hq hc => by rcases hq with hq | rfl; exact hi.fd q hq hc; exact hdone hc
          hr := hr, dr := by rw [put_defers']; exact hd
          sz := v3, tm := v1, tl := v2
          rd := fun i u hp hc hn => hi.rd i u hp.less hc hn
          al := fun i u hp hc => (hi.al i u hp.less hc).mono hx.new
          inj := fun p q u z hp hc hq hc' hne => hi.inj p q u z hp.less hc hq.less hc' hne
          ext := hi.ext.trans hx }
end
section
variable {b : Frame} {k : List Item} {cs : List Frame} {ops : Array Oper} {rest : List Nat}
theorem want_real {g : G} {t l' : E} {a : Act} {j : Nat} {o : Oper} (hops : ops.toList = os) (hρ : OpdR g X (madeBy os j) t l' a.eval) (hw : wantT X l' os t j o = true) : Region.wanted o (yielded ops a.tmps) = true := by
  unfold wantT at hw
  cases hg : o.guard with
  | none => simp [Region.wanted, hg]
  | some qb =>
    obtain ⟨q, bb⟩ := qb
    rw [hg] at hw
    simp only [nthL_eq] at hw
    cases hq : os[q]? with
    | none => rw [hq] at hw; cases hw
    | some o' =>
      rw [hq] at hw
      simp only [] at hw
      have hoq : ops[q]? = some o' := by rw [← hops] at hq; simpa using hq
      cases hd : o'.dst with
      | none => rw [hd] at hw; cases hw
      | some t0 =>
        rw [hd] at hw
        simp only [] at hw
        split at hw
        · rename_i c hc
          have hx := hρ (.tmp t0) _ hc
          simp only [VR] at hx
          have hev : a.eval (.tmp t0) = (a.tmps[t0]?).getD undef := by simp [Act.eval, Array.getD_eq_getD_getElem?]
          rw [hev] at hx
          have ht : a.tmps[t0]? = some (.bool c) := by
            cases h9 : a.tmps[t0]? with
            | none => rw [h9] at hx; cases hx
            | some z => rw [h9] at hx; simpa using hx
          rw [bEq_eq] at hw
          have hcb : c = bb := by simpa using hw
          simp only [Region.wanted, hg]
          have : yielded ops a.tmps q = some c := by
            simp only [yielded, hoq, Option.bind_some, hd, ht]
          rw [this, hcb]; simp
        · cases hw
/-- one operation of a region that draws, whichever comes -/
theorem Inv.step (hP : ProgOK P) (hR : RecOK P J R) (hops : ops.toList = os) (hk : RegOK P R X l os T m) (hfc : FC b cs) (hro : b.roundOf = none ∨ calmL os = true)
    {L : List It} {done eff need : Nat} {ds : List Dfr} {h : H} {g : G} {gh : Nat → Ps} {a : Act} {w : World} {j : Nat} {o : Oper}
    (hi0 : Inv P R X l os T m dsF hF g0 H0 w0 D L done eff need ds h g gh a w) (hD : Clo os D) (hj : os[j]? = some o) (hnj : ¬ D j) (hr : ∀ e ∈ o.after, Region.binds .any e = true → D e.on) :
    ∃ L' done' eff' need' ds' h' g' gh' a' w', Steps P (lone (b.atR a (.inRegion ops (j :: rest) :: k)) cs w) (lone (b.atR a' (.inRegion ops rest :: k)) cs w') ∧
      Inv P R X l os T m dsF hF g0 H0 w0 (fun i => D i ∨ i = j) L' done' eff' need' ds' h' g' gh' a' w' := by
  obtain ⟨L, done, eff, need, ds, h, gh, hi, hL⟩ := hi0.norm
  have hoj : ops[j]? = some o := by rw [← hops] at hj; simpa using hj
  have hjl : j < os.length := (List.getElem?_eq_some_iff.1 hj).1
  have hcl : clsAt P os j = clsOf P o.op := clsAt_of hj
  have hρ := hi.opdR j
  have ag1 := agree_new hk hD hj hr
  have ag2 := agree_old hk hD hj hnj
  have hro' : b.roundOf = none ∨ calmO o.op = true := hro.imp id fun hc => calmL_iff.1 hc o (List.mem_of_getElem? hj)
  have hneed : need = 0 := by
    rcases hL with rfl | ⟨e, L'', rfl, _⟩
    · exact (okI_nil hi.ok).2
    · exact (okI_run hi.ok).2.1
  -- the next effect of the plan
  have hdone : clsAt P os j ≠ .pure → clsAt P os j ≠ .effect → bit done j = true := fun hc hne => by
    cases hdj : bit done j with
    | true => rfl
    | false =>
      exfalso
      rcases hL with rfl | ⟨e, L'', rfl, hce⟩
      · have := (okI_nil hi.ok).1 j hjl; rw [this] at hdj; cases hdj
      · obtain ⟨h1, h2, h3, h4, h5⟩ := okI_run hi.ok
        have hej : e ≠ j := fun e' => by rw [e'] at hce; exact hne hce
        rcases h5 with ⟨hc', _⟩ | ⟨hc', _⟩ | ⟨_, _, h6⟩
        · rw [hce] at hc'; cases hc'
        · rw [hce] at hc'; rcases hc' with h | h <;> cases h
        · have ha := okI_late h6 j hjl (by rw [bit_or, bit_pow, hdj]; simpa using hej) hc e (by rw [bit_or, bit_pow]; simp)
          have hDe : D e := ahead_ready hk.ed hD.cl hj hr ha
          have := hi.fd e hDe (by rw [hce]; simp)
          rw [h3] at this; cases this
  obtain ⟨ds0, h0, v, ds1, h1, hone, hTv⟩ := hk.all j o hj
  -- one that is passed by, a pure one, a read
  have plain : ∀ {v : AV} (hcls : clsAt P os j ≠ .effect) (hTv : ∀ d, o.dst = some d → T.get d = some v), oneI P R l (insAt P X os j) T ds h = some (v, ds, h) →
      ∃ L' done' eff' need' ds' h' g' gh' a' w', Steps P (lone (b.atR a (.inRegion ops (j :: rest) :: k)) cs w) (lone (b.atR a' (.inRegion ops rest :: k)) cs w') ∧
        Inv P R X l os T m dsF hF g0 H0 w0 (fun i => D i ∨ i = j) L' done' eff' need' ds' h' g' gh' a' w' := by
    intro v hcls hTv ho
    rw [ins_at_agree hj ag1 ag2, insAt_of hj] at ho
    rw [← hops] at ho
    obtain ⟨c, g1, w1, ds', s1, s2, s3, s4, s5⟩ := one_gop (k := k) (rest := rest) hP hR hoj (by rw [hops]; exact hρ) hi.hr hi.dr hfc hro' ho
    exact ⟨L, done, eff, need, ds, h, g1, gh, _, w1, s1, hi.same hk hj hnj (fun hc => hdone hc hcls) s2 s3 s4 s5 hTv⟩
  cases hc : clsOf P o.op with
  | pure =>
    rw [← hcl] at hc
    have hcls : clsAt P os j ≠ .effect := by rw [hc]; simp
    rcases want_cases hj hone with ⟨hw, hone'⟩ | ⟨hw, hv, _, _⟩
    · have hpl : PlI (plan1 P X (madeBy os j) (dstOf o) o.op) = true := by
        rw [hcl] at hc
        rcases plan1_pl (P := P) X (madeBy os j) (dstOf o) o.op with h | ⟨c, x, h, hcc⟩ | ⟨c, x, mm, h, hcc⟩ | ⟨c, h, hcc⟩ | ⟨c, x, h, hcc⟩
        · exact h
        all_goals (rw [h] at hc; simp [clsOf, hcc] at hc)
      obtain ⟨hv, _⟩ := one_pl hpl hone'
      rw [insV_at_agree ag1 ag2] at hv
      obtain ⟨_, hany, _⟩ := op_pure hρ o.op (hcl ▸ hc) o rfl h0 h1 v hv
      have hv' := hany h
      rw [← insV_at_agree ag1 ag2] at hv'
      exact plain hcls hTv (one_of_want (v' := v) hj hone hw (ins_one hv'))
    · subst hv
      exact plain hcls hTv (one_of_skip hj hone hw)
  | read =>
    rw [← hcl] at hc
    have hcls : clsAt P os j ≠ .effect := by rw [hc]; simp
    rcases want_cases hj hone with ⟨hw, hone'⟩ | ⟨hw, hv, _, _⟩
    · obtain ⟨hh, v2, h1', hle, hv, hT2⟩ := hi.rd j o ⟨hdone (by rw [hc]; simp) hcls, hnj, hj, hw⟩ (hcl ▸ hc) (by rw [hneed, bit_zero])
      rw [insV_at_agree ag1 ag2] at hv
      obtain ⟨_, hany, _⟩ := op_read hρ o.op (hcl ▸ hc) o rfl hh h1' v2 hv
      have hv' := hany h hle
      rw [← insV_at_agree ag1 ag2] at hv'
      have hh1 := look_h o.op (.inr (hcl ▸ hc)) hv
      subst hh1
      have hhh := look_h o.op (.inr (hcl ▸ hc)) hv'
      first
        | exact plain hcls hT2 (one_of_want (v' := v) hj hone hw (ins_one (by rw [← hhh] at hv'; exact hv')))
        | exact plain hcls hT2 (one_of_want (v' := v) hj hone hw (ins_one hv'))
    · subst hv
      exact plain hcls hTv (one_of_skip hj hone hw)
  | alloc =>
    rw [← hcl] at hc
    have hcls : clsAt P os j ≠ .effect := by rw [hc]; simp
    rcases want_cases hj hone with ⟨hw, hone'⟩ | ⟨hw, hv, _, _⟩
    · have hpen : Pen X l os T D done j o := ⟨hdone (by rw [hc]; simp) hcls, hnj, hj, hw⟩
      obtain ⟨hh, blk, v2, hv, hp, hT2, hgp, hp0, hpl, hget⟩ := hi.al j o hpen (hcl ▸ hc)
      have hv0 := hv
      rw [insV_at_agree ag1 ag2] at hv
      obtain ⟨blk', mk, e1, e2, _, hmod⟩ := op_alloc hρ o.op (hcl ▸ hc) o rfl hh _ v2 hv
      have hbb : blk' = blk := by
        have := congrArg (fun q => q.get hh.next) e2
        simpa using this.symm
      subst hbb e1
      obtain ⟨c, w', ob, sz, r1, r2, r3, r4⟩ := hmod w
      have hle : GLe g (gset g (gh j) (w.heap.size, 0, sz)) := fun b y hy => by
        unfold gset
        rw [if_neg (fun e => by rw [← e, hgp] at hy; cases hy)]
        exact hy
      obtain ⟨r5, r6⟩ := r4 _ hle hh.next (by rw [hp]; simp)
      obtain ⟨_, hr'⟩ := ghost_real hi.hr hgp hpl hget r2 r6
      have hext := ghost_real_ext (sz := sz) hi.hr hgp hp0 r2 r3 hi.ext
      rw [want_agree ag1 ag2] at hw
      have hwr := want_real hops hρ hw
      have hnd : ∀ c, o.op ≠ .defer c := fun c hc' => by rw [hcl, hc'] at hc; simp [clsOf] at hc
      have hrun : (o.semAt b.roundOf a.eval).run P w = .ok (.value c) w' := by rw [Oper.semAt_eq _ _ _ hnd]; exact r1
      obtain ⟨v1, v2', v3⟩ := hi.vars hk hj hnj hle r5 hT2 a.defers
      refine ⟨L, done, eff, need, ds, h, gset g (gh j) (w.heap.size, 0, sz), gh, ({ tmps := a.tmps, defers := a.defers } : Act).put o.dst c, w', .one (st_value hoj hwr hrun), ?_⟩
      exact { ok := hi.ok, ct := hi.ct, lt := hi.lt, cl := hi.cl, de := hi.de
              df := fun q hq => let ⟨a1, a2, a3⟩ := hi.df q hq; ⟨a1, a2, .inl a3⟩
              fd := fun q hq hc => by rcases hq with hq | rfl; exact hi.fd q hq hc; exact hpen.1
              hr := hr', dr := by rw [put_defers']; exact hi.dr.mono hle
              sz := v3, tm := v1, tl := v2'
              rd := fun i u hp hc hn => hi.rd i u hp.less hc hn
              al := fun i u hq hcu => by
                have hij : i ≠ j := fun e => hq.2.1 (.inr e)
                obtain ⟨x1, x2, x3, x4, x5, x6, x7, x8, x9, x10⟩ := hi.al i u hq.less hcu
                refine ⟨x1, x2, x3, x4, x5, x6, ?_, x8, x9, x10⟩
                unfold gset
                rw [if_neg (fun e => hi.inj i j u o hq.less hcu hpen (hcl ▸ hc) hij e.symm)]
                exact x7
              inj := fun p q u z hp hc hq hc' hne => hi.inj p q u z hp.less hc hq.less hc' hne
              ext := hext }
    · subst hv
      exact plain hcls hTv (one_of_skip hj hone hw)
  | effect =>
    rw [← hcl] at hc
    have hndone : bit done j = false := by
      cases hdj : bit done j with
      | false => rfl
      | true => exact absurd (hi.df j (hi.de j hdj hc)).2.2 hnj
    rcases hL with rfl | ⟨e, L'', rfl, hce⟩
    · have := (okI_nil hi.ok).1 j hjl; rw [this] at hndone; cases hndone
    · obtain ⟨h1', h2', h3', h4', h5'⟩ := okI_run hi.ok
      rcases h5' with ⟨hc', _⟩ | ⟨hc', _⟩ | ⟨_, _, hok⟩
      · rw [hce] at hc'; cases hc'
      · rw [hce] at hc'; rcases hc' with h | h <;> cases h
      · have hej : e = j := by
          refine Classical.byContradiction fun hej => ?_
          have ha := okI_late hok j hjl (by rw [bit_or, bit_pow, hndone]; simpa using hej) (by rw [hc]; simp) e (by rw [bit_or, bit_pow]; simp)
          have hDe : D e := ahead_ready hk.ed hD.cl hj hr ha
          have := hi.fd e hDe (by rw [hce]; simp)
          rw [h3'] at this; cases this
        subst hej
        obtain ⟨o', v', ds1', hh1, ho', hone', hT', hct⟩ := hi.ct
        rw [hj] at ho'
        obtain rfl := Option.some.inj ho'
        rw [ins_at_agree hj ag1 ag2, insAt_of hj, ← hops] at hone'
        obtain ⟨c, g1, w1, ds', s1, s2, s3, s4, s5⟩ := one_gop (k := k) (rest := rest) hP hR hoj (by rw [hops]; exact hρ) hi.hr hi.dr hfc hro' hone'
        obtain ⟨v1, v2, v3⟩ := hi.vars hk hj hnj s3.mono s2 hT' ds'
        refine ⟨L'', done ||| 2 ^ e, eff ||| 2 ^ e, needOf (rdMask (clss P os) 0) done ((nthL (befL os) e).getD 0), ds1', hh1, g1, gh, _, w1, s1, ?_⟩
        have hold : ∀ {i : Nat} {u : Oper}, Pen X l os T (fun i => D i ∨ i = e) (done ||| 2 ^ e) i u → Pen X l os T D done i u := fun {i u} hp => by
          have hie : i ≠ e := fun e' => hp.2.1 (.inr e')
          exact (Pen.of_or (D := fun i => D i ∨ i = e) hp hie).less
        exact { ok := hok, ct := hct
                lt := fun q hq => by
                  rw [bit_or, bit_pow, Bool.or_eq_true] at hq
                  rcases hq with hq | hq
                  · exact hi.lt q hq
                  · have : e = q := by simpa using hq
                    omega
                cl := fun p q hq hpq => by
                  rw [bit_or, bit_pow, Bool.or_eq_true] at hq ⊢
                  rcases hq with hq | hq
                  · exact .inl (hi.cl p q hq hpq)
                  · have : e = q := by simpa using hq
                    subst this
                    exact .inl (h4' p hpq)
                de := fun q hq hcq => by
                  rw [bit_or, bit_pow, Bool.or_eq_true] at hq ⊢
                  exact hq.imp (fun hq => hi.de q hq hcq) id
                df := fun q hq => by
                  rw [bit_or, bit_pow, Bool.or_eq_true] at hq
                  rcases hq with hq | hq
                  · obtain ⟨a1, a2, a3⟩ := hi.df q hq
                    exact ⟨by rw [bit_or, a1]; rfl, a2, .inl a3⟩
                  · have : e = q := by simpa using hq
                    subst this
                    exact ⟨by rw [bit_or, bit_pow]; simp, hc, .inr rfl⟩
                fd := fun q hq hcq => by
                  rw [bit_or, bit_pow, Bool.or_eq_true]
                  rcases hq with hq | rfl
                  · exact .inl (hi.fd q hq hcq)
                  · exact .inr (by simp)
                hr := s4, dr := by rw [put_defers']; exact s5
                sz := v3, tm := v1, tl := v2
                rd := fun i u hp hcu hn => by
                  exfalso
                  have hp' := hold hp
                  rw [needOf_bit] at hn
                  have hrd : bit (rdMask (clss P os) 0) i = true := by
                    rw [rdMask_bit]
                    refine ⟨i, by omega, ?_⟩
                    unfold clss
                    rw [List.getElem?_map, hp'.2.2.1]
                    simp [hcu]
                  have hna : bit ((nthL (befL os) e).getD 0) i = false := by
                    cases hb : bit ((nthL (befL os) e).getD 0) i with
                    | false => rfl
                    | true => exact absurd (ahead_ready hk.ed hD.cl hj hr (show Ahead os i e from hb)) hp'.2.1
                  rw [hrd, hp'.1, hna] at hn
                  cases hn
                al := fun i u hp hcu => by
                  obtain ⟨x1, x2, x3, x4, x5, x6, x7, x8, x9, x10⟩ := hi.al i u (hold hp) hcu
                  refine ⟨x1, x2, x3, x4, x5, x6, ?_, x8, Nat.lt_of_lt_of_le x9 s3.next, ?_⟩
                  · cases hg : g1 (gh i) with
                    | none => rfl
                    | some y => have := s3.new _ x7 y hg; omega
                  · rw [s3.ghost _ x9 x7]; exact x10
                inj := fun p q u z hp hcu hq hcz hne => hi.inj p q u z (hold hp) hcu (hold hq) hcz hne
                ext := hi.ext.trans s3 }
end
end
end Go.Eng
