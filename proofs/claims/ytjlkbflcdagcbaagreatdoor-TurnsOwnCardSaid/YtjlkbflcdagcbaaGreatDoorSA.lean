/-
  A part of the proof of casketlaw17.TurnsOwn: the evaluator's soundness, or the law's own steps. By an AI agent.
-/
import Derived.Test.YtjlkbflcdagcbaaGreatDoorEN
import Derived.Laws.IdiomCopy
import Derived.AtR
namespace Go.Eng
open Go

/-- where an abstract block lies: the block, the place of its first cell, how many cells the whole block has -/
abbrev G := Ps → Option (Nat × Nat × Nat)

mutual
/-- the value that an abstract value stands for -/
def VR (g : G) : AV → Value → Prop
  | .undef, _ => True
  | .bool b, v => v = .bool b
  | .int k n, v => v = .int k n
  | .str s, v => ∃ bs, v = .string bs ∧ bytesOf bs = s
  | .ptr0, v => v = .pointer none
  | .ptr b o, v => ∃ c sh sz, g b = some (c, sh, sz) ∧ v = .pointer (some ⟨c, o + sh, none⟩)
  | .sl0, v => v = .slice none 0 0
  | .sl b o es len cap, v => ∃ c sh sz cp, g b = some (c, sh, sz) ∧ v = .slice (some ⟨c, o + sh, none⟩) len cp ∧
      (match cap with | some k => cp = k | none => cp * es + (o + sh) = sz)
  | .map0, v => v = .map none
  | .map b, v => ∃ c sh sz, g b = some (c, sh, sz) ∧ v = .map (some c)
  | .fn0, v => v = .nilFunc
  | .fn f fi cap, v => ∃ a c : Array Value, v = .func (.func f) a c ∧ VRL g fi a.toList ∧ VRL g cap c.toList
  | .yield l, v => ∃ c sh sz, g l = some (c, sh, sz) ∧ v = .func (.yield c) #[] #[]
  | .iface0, v => v = .nilIface
  | .iface t x, v => ∃ y, v = .iface t y ∧ VR g x y
  | .agg cs, v => ∃ a : Array Value, v = .agg a ∧ VRL g cs a.toList
  | .tup vs, v => ∃ a : Array Value, v = .tuple a ∧ VRL g vs a.toList
def VRL (g : G) : List AV → List Value → Prop
  | [], l => l = []
  | x :: xs, l => ∃ y ys, l = y :: ys ∧ VR g x y ∧ VRL g xs ys
end

/-- more is told of where things lie -/
def GLe (g g' : G) : Prop := ∀ b x, g b = some x → g' b = some x
theorem GLe.refl (g : G) : GLe g g := fun _ _ h => h
theorem GLe.trans {g g' g'' : G} (h : GLe g g') (h' : GLe g' g'') : GLe g g'' := fun b x hx => h' b x (h b x hx)

mutual
theorem VR.mono {g g' : G} (h : GLe g g') : ∀ (a : AV) (v : Value), VR g a v → VR g' a v
  | .undef, _, _ => by simp only [VR]
  | .bool _, _, hv => by simp only [VR] at hv ⊢; exact hv
  | .int _ _, _, hv => by simp only [VR] at hv ⊢; exact hv
  | .str _, _, hv => by simp only [VR] at hv ⊢; exact hv
  | .ptr0, _, hv => by simp only [VR] at hv ⊢; exact hv
  | .ptr _ _, _, hv => by
    simp only [VR] at hv ⊢
    obtain ⟨c, sh, sz, h1, h2⟩ := hv
    exact ⟨c, sh, sz, h _ _ h1, h2⟩
  | .sl0, _, hv => by simp only [VR] at hv ⊢; exact hv
  | .sl _ _ _ _ _, _, hv => by
    simp only [VR] at hv ⊢
    obtain ⟨c, sh, sz, cp, h1, h2⟩ := hv
    exact ⟨c, sh, sz, cp, h _ _ h1, h2⟩
  | .map0, _, hv => by simp only [VR] at hv ⊢; exact hv
  | .map _, _, hv => by
    simp only [VR] at hv ⊢
    obtain ⟨c, sh, sz, h1, h2⟩ := hv
    exact ⟨c, sh, sz, h _ _ h1, h2⟩
  | .fn0, _, hv => by simp only [VR] at hv ⊢; exact hv
  | .fn _ fi cap, _, hv => by
    simp only [VR] at hv ⊢
    obtain ⟨a, c, h1, h2, h3⟩ := hv
    exact ⟨a, c, h1, VRL.mono h fi _ h2, VRL.mono h cap _ h3⟩
  | .yield _, _, hv => by
    simp only [VR] at hv ⊢
    obtain ⟨c, sh, sz, h1, h2⟩ := hv
    exact ⟨c, sh, sz, h _ _ h1, h2⟩
  | .iface0, _, hv => by simp only [VR] at hv ⊢; exact hv
  | .iface _ x, _, hv => by
    simp only [VR] at hv ⊢
    obtain ⟨y, h1, h2⟩ := hv
    exact ⟨y, h1, VR.mono h x y h2⟩
  | .agg cs, _, hv => by
    simp only [VR] at hv ⊢
    obtain ⟨a, h1, h2⟩ := hv
    exact ⟨a, h1, VRL.mono h cs _ h2⟩
  | .tup cs, _, hv => by
    simp only [VR] at hv ⊢
    obtain ⟨a, h1, h2⟩ := hv
    exact ⟨a, h1, VRL.mono h cs _ h2⟩
theorem VRL.mono {g g' : G} (h : GLe g g') : ∀ (a : List AV) (v : List Value), VRL g a v → VRL g' a v
  | [], _, hv => by simp only [VRL] at hv ⊢; exact hv
  | x :: xs, _, hv => by
    simp only [VRL] at hv ⊢
    obtain ⟨y, ys, h1, h2, h3⟩ := hv
    exact ⟨y, ys, h1, VR.mono h x y h2, VRL.mono h xs ys h3⟩
end

theorem VRL.length {g : G} : ∀ {a : List AV} {v : List Value}, VRL g a v → a.length = v.length
  | [], _, h => by simp only [VRL] at h; subst h; rfl
  | x :: xs, _, h => by
    simp only [VRL] at h
    obtain ⟨y, ys, rfl, _, h3⟩ := h
    simp [VRL.length h3]
theorem VRL.get {g : G} : ∀ {a : List AV} {v : List Value}, VRL g a v → ∀ (i : Nat) (x : AV), a[i]? = some x → ∃ y, v[i]? = some y ∧ VR g x y
  | [], _, _, i, x, hx => by simp at hx
  | x :: xs, _, h, i, z, hz => by
    simp only [VRL] at h
    obtain ⟨y, ys, rfl, h2, h3⟩ := h
    cases i with
    | zero => simp at hz; subst hz; exact ⟨y, by simp, h2⟩
    | succ i => simpa using VRL.get h3 i z (by simpa using hz)
theorem VRL.mk {g : G} : ∀ {a : List AV} {v : List Value}, a.length = v.length → (∀ (i : Nat) (x : AV) (y : Value), a[i]? = some x → v[i]? = some y → VR g x y) → VRL g a v
  | [], [], _, _ => by simp only [VRL]
  | [], _ :: _, h, _ => by simp at h
  | _ :: _, [], h, _ => by simp at h
  | x :: xs, y :: ys, hl, h => by
    simp only [VRL]
    exact ⟨y, ys, rfl, h 0 x y (by simp) (by simp), VRL.mk (by simpa using hl) fun i a b ha hb => h (i + 1) a b (by simpa using ha) (by simpa using hb)⟩
theorem VRL.append {g : G} {a b : List AV} {v w : List Value} (h : VRL g a v) (h' : VRL g b w) : VRL g (a ++ b) (v ++ w) := by
  induction a generalizing v with
  | nil => simp only [VRL] at h; subst h; simpa using h'
  | cons x xs ih =>
    simp only [VRL] at h
    obtain ⟨y, ys, rfl, h2, h3⟩ := h
    simp only [List.cons_append, VRL]
    exact ⟨y, _, rfl, h2, ih h3⟩

/-- variables: of those that are read behind -/
def LR (g : G) (X : List Nat) (l : E) (tmps : Array Value) : Prop := ∀ d v, memN d X = true → l.get d = some v → ∃ c, tmps[d]? = some c ∧ VR g v c
theorem LR.mono {g g' : G} (h : GLe g g') {X : List Nat} {l : E} {tmps : Array Value} (hl : LR g X l tmps) : LR g' X l tmps := fun d v hd hv =>
  let ⟨c, h1, h2⟩ := hl d v hd hv
  ⟨c, h1, VR.mono h v c h2⟩
end Go.Eng

namespace Go.Eng
open Go

def StR : LSt → LoopState → Prop
  | .ready, s => s = .ready
  | .busy, s => s = .busy
  | .done, s => s = .done
  | .exhausted, s => s = .exhausted
def PendR : Option Ex → Option Code → Prop
  | none, c => c = none
  | some (.exit id), c => c = some (.exit id)
  | some .ret, c => c = some .ret
  | some .normal, _ => False
def MR (g : G) : List (AV × AV × Nat) → List MapEntry → Prop
  | [], l => l = []
  | (k, v, s) :: es, l => ∃ e l', l = e :: l' ∧ VR g k e.key ∧ VR g v e.val ∧ e.born = s ∧ MR g es l'
theorem MR.mono {g g' : G} (h : GLe g g') : ∀ {es : List (AV × AV × Nat)} {l : List MapEntry}, MR g es l → MR g' es l
  | [], _, hm => hm
  | (k, v, s) :: es, _, hm => by
    obtain ⟨e, l', h1, h2, h3, h4, h5⟩ := hm
    exact ⟨e, l', h1, VR.mono h _ _ h2, VR.mono h _ _ h3, h4, MR.mono h h5⟩

/-- what a block is, where its cells begin at `sh` in a block of `sz` cells -/
def BR (P : Program) (g : G) (sh sz : Nat) : Blk → Obj → Prop
  | .cells vs m gr, o => ∃ cs el fz, o = .cells cs el fz ∧ cs.size = sz ∧ m + sh ≤ sz ∧ (gr = false → m + sh = sz) ∧ m ≤ lim ∧
      (∀ i, i < sz → (decide (fz.1 ≤ i) && decide (i < fz.2)) = false) ∧
      (∀ i, i < m → ∃ v c, T.get vs (ps i) = some v ∧ cs[i + sh]? = some c ∧ VR g v c)
  | .map es clock, o => ∃ arr, o = .map arr clock ∧ MR g es arr.toList
  | .iter none since seen st, o => sh = 0 ∧ o = .mapIter none since seen.toArray st
  | .iter (some b) since seen st, o => sh = 0 ∧ ∃ c sh sz, g b = some (c, sh, sz) ∧ o = .mapIter (some c) since seen.toArray st
  | .loop st pend fn loc ps a b d, o => ∃ L cd sh' sz' i, o = .loop L ∧ StR st L.state ∧ PendR pend L.pending ∧ L.fn = fn ∧ L.params.toList = ps ∧
      L.assign = a ∧ L.body = b ∧ g d = some (cd, sh', sz') ∧ L.defers = cd ∧ infoOf P fn = some i ∧ LR g i.X loc L.tmps ∧ i.m ≤ L.tmps.size ∧ allBelow i.m ps = true ∧ calmC a = true ∧ calmC b = true
  | .dfr true, o => o = .deferred none
  | .dfr false, o => o = .deferred (some [])
theorem BR.mono {P : Program} {g g' : G} (h : GLe g g') {sh sz : Nat} : ∀ {x : Blk} {o : Obj}, BR P g sh sz x o → BR P g' sh sz x o
  | .cells vs m gr, _, ⟨cs, el, fz, h1, h2, h3, h4, h5, h6, h7⟩ => ⟨cs, el, fz, h1, h2, h3, h4, h5, h6, fun i hi =>
      let ⟨v, c, a, b, d⟩ := h7 i hi
      ⟨v, c, a, b, VR.mono h v c d⟩⟩
  | .map es clock, _, ⟨arr, h1, h2⟩ => ⟨arr, h1, h2.mono h⟩
  | .iter none since seen st, _, h1 => h1
  | .iter (some b) since seen st, _, ⟨h0, c, sh, sz, h1, h2⟩ => ⟨h0, c, sh, sz, h _ _ h1, h2⟩
  | .loop st pend fn loc ps a b d, _, ⟨L, cd, sh', sz', i, h1, h2, h3, h4, h5, h6, h7, h8, h9, h10, h11, h12⟩ =>
      ⟨L, cd, sh', sz', i, h1, h2, h3, h4, h5, h6, h7, h _ _ h8, h9, h10, h11.mono h, h12⟩
  | .dfr true, _, h1 => h1
  | .dfr false, _, h1 => h1

/-- an abstract block that is there lies in block c -/
def live (g : G) (h : H) (b : Ps) (c : Nat) : Prop := ∃ x sh sz, h.get b = some x ∧ g b = some (c, sh, sz)

structure HR (P : Program) (g : G) (h : H) (w : World) : Prop where
  blk : ∀ b x, h.get b = some x → ∀ c sh sz, g b = some (c, sh, sz) → ∃ o, w.heap[c]? = some o ∧ BR P g sh sz x o
  inj : ∀ b b' c, live g h b c → live g h b' c → b = b'
  fresh : ∀ b, h.next.val ≤ b.val → h.get b = none
  gold : ∀ b x, g b = some x → b.val < h.next.val

/-- what else a world has -/
def Same (w w' : World) : Prop := w'.os = w.os ∧ w'.tape = w.tape ∧ w'.output = w.output
theorem Same.refl (w : World) : Same w w := ⟨rfl, rfl, rfl⟩
theorem Same.trans {w w' w'' : World} (h : Same w w') (h' : Same w' w'') : Same w w'' := ⟨h'.1.trans h.1, h'.2.1.trans h.2.1, h'.2.2.trans h.2.2⟩

structure Ext (g : G) (h : H) (w : World) (g' : G) (h' : H) (w' : World) : Prop where
  mono : GLe g g'
  new : ∀ b, g b = none → ∀ x, g' b = some x → h.next.val ≤ b.val
  ghost : ∀ b, b.val < h.next.val → g b = none → h'.get b = h.get b
  next : h.next.val ≤ h'.next.val
  size : w.heap.size ≤ w'.heap.size
  image : ∀ b c, live g' h' b c → (∃ b', live g h b' c) ∨ w.heap.size ≤ c
  frame : ∀ c, c < w.heap.size → (∀ b, ¬ live g h b c) → w'.heap[c]? = w.heap[c]?
  same : Same w w'

theorem clash {α : Type} {o : Option α} {x : α} {p : Prop} (h : o = none) (h' : o = some x) : p := by rw [h] at h'; cases h'
theorem Ext.refl (g : G) (h : H) (w : World) : Ext g h w g h w :=
  ⟨GLe.refl g, fun _ hb _ hx => clash hb hx, fun _ _ _ => rfl, Nat.le_refl _, Nat.le_refl _, fun b c hl => .inl ⟨b, hl⟩, fun _ _ _ => rfl, Same.refl w⟩
theorem Ext.trans {g g' g'' : G} {h h' h'' : H} {w w' w'' : World} (e : Ext g h w g' h' w') (e' : Ext g' h' w' g'' h'' w'') : Ext g h w g'' h'' w'' where
  mono := e.mono.trans e'.mono
  new := fun b hb x hx => by
    cases hg : g' b with
    | none => exact Nat.le_trans e.next (e'.new b hg x hx)
    | some y => exact e.new b hb y hg
  ghost := fun b hb hg => by
    have hg' : g' b = none := by
      cases hg' : g' b with
      | none => rfl
      | some y => exact absurd (e.new b hg y hg') (by omega)
    rw [e'.ghost b (Nat.lt_of_lt_of_le hb e.next) hg', e.ghost b hb hg]
  next := Nat.le_trans e.next e'.next
  size := Nat.le_trans e.size e'.size
  image := fun b c hl => by
    rcases e'.image b c hl with ⟨b', hl'⟩ | hc
    · exact e.image b' c hl'
    · exact .inr (Nat.le_trans e.size hc)
  frame := fun c hc hn => by
    rw [e'.frame c (Nat.lt_of_lt_of_le hc e.size) fun b hl => ?_, e.frame c hc hn]
    rcases e.image b c hl with ⟨b', hl'⟩ | hc'
    · exact hn b' hl'
    · omega
  same := e.same.trans e'.same

@[simp] theorem H.get_put (h : H) (b : Ps) (x : Blk) (q : Ps) : (h.put b x).get q = if b = q then some x else h.get q := T.get_put b (some x) h.tr q
@[simp] theorem H.get_del (h : H) (b q : Ps) : (h.del b).get q = if b = q then none else h.get q := T.get_put b none h.tr q
@[simp] theorem H.get_add (h : H) (x : Blk) (q : Ps) : (h.add x).get q = if h.next = q then some x else h.get q := T.get_put h.next (some x) h.tr q
@[simp] theorem H.next_put (h : H) (b : Ps) (x : Blk) : (h.put b x).next = h.next := rfl
@[simp] theorem H.next_del (h : H) (b : Ps) : (h.del b).next = h.next := rfl
@[simp] theorem H.next_add (h : H) (x : Blk) : (h.add x).next = h.next.inc := rfl

section
variable {P : Program} {g : G} {h : H} {w w' : World}
theorem HR.lt (hr : HR P g h w) {b : Ps} {c : Nat} (hl : live g h b c) : c < w.heap.size := by
  obtain ⟨x, sh, sz, h1, h2⟩ := hl
  obtain ⟨o, ho, _⟩ := hr.blk b x h1 c sh sz h2
  exact (Array.getElem?_eq_some_iff.1 ho).1
/-- the heap is as it was -/
theorem HR.world (hr : HR P g h w) (hw : w'.heap = w.heap) : HR P g h w' :=
  ⟨fun b x hx c sh sz hg => (by rw [hw]; exact hr.blk b x hx c sh sz hg), hr.inj, hr.fresh, hr.gold⟩
theorem Ext.world (hw : w'.heap = w.heap) (hs : Same w w') : Ext g h w g h w' :=
  ⟨GLe.refl g, fun _ hb _ hx => clash hb hx, fun _ _ _ => rfl, Nat.le_refl _, (by rw [hw]; exact Nat.le_refl _), fun b c hl => .inl ⟨b, hl⟩, fun _ _ _ => (by rw [hw]), hs⟩
/-- one block is written to -/
theorem step_put (hr : HR P g h w) {b : Ps} {x x' : Blk} {c sh sz : Nat} (hx : h.get b = some x) (hg : g b = some (c, sh, sz)) {o' : Obj}
    (hsz : w'.heap.size = w.heap.size) (hc : w'.heap[c]? = some o') (hne : ∀ k, k ≠ c → w'.heap[k]? = w.heap[k]?) (hs : Same w w') (hb : BR P g sh sz x' o') :
    Ext g h w g (h.put b x') w' ∧ HR P g (h.put b x') w' := by
  have hlive : ∀ q k, live g (h.put b x') q k ↔ live g h q k := by
    intro q k
    unfold live
    rw [H.get_put]
    by_cases hq : b = q
    · subst hq
      rw [if_pos rfl]
      exact ⟨fun ⟨_, s, z, _, h2⟩ => ⟨x, s, z, hx, h2⟩, fun ⟨_, s, z, _, h2⟩ => ⟨x', s, z, rfl, h2⟩⟩
    · rw [if_neg hq]
  refine ⟨⟨GLe.refl g, fun _ hb _ hx => clash hb hx, fun q hq hgq => ?_, Nat.le_refl _, (by omega), fun q k hl => .inl ⟨q, (hlive q k).1 hl⟩, fun k hk hn => ?_, hs⟩, ⟨fun q y hy k s z hq => ?_, fun q q' k h1 h2 => hr.inj q q' k ((hlive q k).1 h1) ((hlive q' k).1 h2), fun q hq => ?_, hr.gold⟩⟩
  · rw [H.get_put, if_neg (fun e => by subst e; rw [hg] at hgq; cases hgq)]
  · exact hne k (fun e => by subst e; exact hn b ⟨x, sh, sz, hx, hg⟩)
  · rw [H.get_put] at hy
    by_cases hbq : b = q
    · subst hbq
      rw [if_pos rfl] at hy
      cases hy
      rw [hg] at hq
      cases hq
      exact ⟨o', hc, hb⟩
    · rw [if_neg hbq] at hy
      have hk : k ≠ c := fun e => by
        subst e
        exact hbq (hr.inj b q k ⟨x, sh, sz, hx, hg⟩ ⟨y, s, z, hy, hq⟩)
      rw [hne k hk]
      exact hr.blk q y hy k s z hq
  · rw [H.next_put] at hq
    rw [H.get_put, if_neg (fun e => by subst e; have := hr.gold _ _ hg; omega)]
    exact hr.fresh q hq
/-- what is told of the next block -/
noncomputable def gset (g : G) (p : Ps) (x : Nat × Nat × Nat) : G := fun b => if p = b then some x else g b
theorem gset_le (hr : HR P g h w) (x : Nat × Nat × Nat) : GLe g (gset g h.next x) := fun b y hy => by
  have := hr.gold b y hy
  unfold gset
  rw [if_neg (fun e => by subst e; omega)]
  exact hy
@[simp] theorem gset_same (g : G) (p : Ps) (x : Nat × Nat × Nat) : gset g p x p = some x := by simp [gset]
/-- a block is new in the abstract: in a new block of the heap, or in one that nothing is told of any more -/
theorem step_add (hr : HR P g h w) {x : Blk} {c sh sz : Nat} {o : Obj}
    (hc : w'.heap[c]? = some o) (hnew : ∀ b, ¬ live g h b c) (hold : ¬ c < w.heap.size) (hsz : w.heap.size ≤ w'.heap.size)
    (hne : ∀ k, k < w.heap.size → w'.heap[k]? = w.heap[k]?) (hs : Same w w') (hb : BR P (gset g h.next (c, sh, sz)) sh sz x o) :
    Ext g h w (gset g h.next (c, sh, sz)) (h.add x) w' ∧ HR P (gset g h.next (c, sh, sz)) (h.add x) w' := by
  have hle := gset_le hr (c, sh, sz)
  have hlive : ∀ q k, live (gset g h.next (c, sh, sz)) (h.add x) q k → (q = h.next ∧ k = c) ∨ (q ≠ h.next ∧ live g h q k) := by
    rintro q k ⟨y, s, z, h1, h2⟩
    rw [H.get_add] at h1
    unfold gset at h2
    by_cases hq : h.next = q
    · subst hq
      rw [if_pos rfl] at h2
      cases h2
      exact .inl ⟨rfl, rfl⟩
    · rw [if_neg hq] at h1 h2
      exact .inr ⟨fun e => hq e.symm, y, s, z, h1, h2⟩
  refine ⟨⟨hle, fun b hb y hy => ?_, fun q hq _ => ?_, ?_, hsz, fun q k hl => ?_, fun k hk _ => hne k hk, hs⟩, ⟨fun q y hy k s z hq => ?_, fun q q' k h1 h2 => ?_, fun q hq => ?_, fun q y hy => ?_⟩⟩
  · unfold gset at hy
    by_cases hq : h.next = b
    · subst hq; exact Nat.le_refl _
    · rw [if_neg hq, hb] at hy; cases hy
  · rw [H.get_add, if_neg (fun e => by subst e; omega)]
  · rw [H.next_add, Ps.val_inc]; omega
  · rcases hlive q k hl with ⟨_, rfl⟩ | ⟨_, hl'⟩
    · exact .inr (Nat.le_of_not_lt hold)
    · exact .inl ⟨q, hl'⟩
  · rw [H.get_add] at hy
    unfold gset at hq
    by_cases hn : h.next = q
    · subst hn
      rw [if_pos rfl] at hy hq
      cases hy; cases hq
      exact ⟨o, hc, hb⟩
    · rw [if_neg hn] at hy hq
      obtain ⟨o', ho', hb'⟩ := hr.blk q y hy k s z hq
      exact ⟨o', by rw [hne k (hr.lt ⟨y, s, z, hy, hq⟩)]; exact ho', hb'.mono hle⟩
  · rcases hlive q k h1 with ⟨rfl, rfl⟩ | ⟨hq, hl⟩ <;> rcases hlive q' k h2 with ⟨rfl, e⟩ | ⟨hq', hl'⟩
    · rfl
    · exact absurd hl' (hnew q')
    · subst e; exact absurd hl (hnew q)
    · exact hr.inj q q' k hl hl'
  · rw [H.next_add, Ps.val_inc] at hq
    rw [H.get_add, if_neg (fun e => by subst e; omega)]
    exact hr.fresh q (by omega)
  · rw [H.next_add, Ps.val_inc]
    unfold gset at hy
    by_cases hn : h.next = q
    · subst hn; omega
    · rw [if_neg hn] at hy
      have := hr.gold q y hy
      omega
/-- a block is moved: the old name is dead, a new one is for a part of the same block -/
theorem step_move (hr : HR P g h w) {b : Ps} {x y : Blk} {c sh sz sh' sz' : Nat} (hx : h.get b = some x) (hg : g b = some (c, sh, sz)) {o : Obj}
    (hc : w'.heap[c]? = some o) (hsz : w'.heap.size = w.heap.size)
    (hne : ∀ k, k ≠ c → w'.heap[k]? = w.heap[k]?) (hs : Same w w') (hb : BR P (gset g h.next (c, sh', sz')) sh' sz' y o) :
    Ext g h w (gset g h.next (c, sh', sz')) ((h.del b).add y) w' ∧ HR P (gset g h.next (c, sh', sz')) ((h.del b).add y) w' := by
  have hle := gset_le hr (c, sh', sz')
  have hbn : b.val < h.next.val := hr.gold _ _ hg
  have hlive : ∀ q k, live (gset g h.next (c, sh', sz')) ((h.del b).add y) q k → (q = h.next ∧ k = c) ∨ (q ≠ h.next ∧ q ≠ b ∧ live g h q k) := by
    rintro q k ⟨u, s, z, h1, h2⟩
    rw [H.get_add, H.next_del] at h1
    unfold gset at h2
    by_cases hq : h.next = q
    · subst hq
      rw [if_pos rfl] at h2
      cases h2
      exact .inl ⟨rfl, rfl⟩
    · rw [if_neg hq] at h1 h2
      rw [H.get_del] at h1
      by_cases hq' : b = q
      · rw [if_pos hq'] at h1; cases h1
      · rw [if_neg hq'] at h1
        exact .inr ⟨fun e => hq e.symm, fun e => hq' e.symm, u, s, z, h1, h2⟩
  have hlb : live g h b c := ⟨x, sh, sz, hx, hg⟩
  refine ⟨⟨hle, fun q hb y hy => ?_, fun q hq hgq => ?_, ?_, (by omega), fun q k hl => ?_, fun k hk hn => hne k (fun e => hn b (by subst e; exact hlb)), hs⟩, ⟨fun q u hy k s z hq => ?_, fun q q' k h1 h2 => ?_, fun q hq => ?_, fun q u hy => ?_⟩⟩
  · unfold gset at hy
    by_cases hq : h.next = q
    · subst hq; exact Nat.le_refl _
    · rw [if_neg hq, hb] at hy; cases hy
  · rw [H.get_add, H.next_del, if_neg (fun e => by subst e; omega), H.get_del, if_neg (fun e => by subst e; rw [hg] at hgq; cases hgq)]
  · rw [H.next_add, Ps.val_inc, H.next_del]; omega
  · rcases hlive q k hl with ⟨_, rfl⟩ | ⟨_, _, hl'⟩
    · exact .inl ⟨b, hlb⟩
    · exact .inl ⟨q, hl'⟩
  · rw [H.get_add, H.next_del] at hy
    unfold gset at hq
    by_cases hn : h.next = q
    · subst hn
      rw [if_pos rfl] at hy hq
      cases hy; cases hq
      exact ⟨o, hc, hb⟩
    · rw [if_neg hn] at hy hq
      rw [H.get_del] at hy
      by_cases hq' : b = q
      · rw [if_pos hq'] at hy; cases hy
      · rw [if_neg hq'] at hy
        obtain ⟨o', ho', hb'⟩ := hr.blk q u hy k s z hq
        refine ⟨o', ?_, hb'.mono hle⟩
        rw [hne k (fun e => hq' (hr.inj b q c hlb ⟨u, s, z, hy, e ▸ hq⟩))]
        exact ho'
  · rcases hlive q k h1 with ⟨rfl, rfl⟩ | ⟨hq, hqb, hl⟩ <;> rcases hlive q' k h2 with ⟨rfl, e⟩ | ⟨hq', hqb', hl'⟩
    · rfl
    · exact absurd (hr.inj q' b k hl' hlb) hqb'
    · subst e; exact absurd (hr.inj q b k hl hlb) hqb
    · exact hr.inj q q' k hl hl'
  · rw [H.next_add, Ps.val_inc, H.next_del] at hq
    rw [H.get_add, H.next_del, if_neg (fun e => by subst e; omega), H.get_del, if_neg (fun e => by subst e; omega)]
    exact hr.fresh q (by omega)
  · rw [H.next_add, Ps.val_inc, H.next_del]
    unfold gset at hy
    by_cases hn : h.next = q
    · subst hn; omega
    · rw [if_neg hn] at hy
      have := hr.gold q u hy
      omega
/-- a name is let go -/
theorem step_del (hr : HR P g h w) (b : Ps) {x : Nat × Nat × Nat} (hg : g b = some x) : Ext g h w g (h.del b) w ∧ HR P g (h.del b) w := by
  have hlive : ∀ q k, live g (h.del b) q k → live g h q k := by
    rintro q k ⟨u, s, z, h1, h2⟩
    rw [H.get_del] at h1
    by_cases hq' : b = q
    · rw [if_pos hq'] at h1; cases h1
    · rw [if_neg hq'] at h1; exact ⟨u, s, z, h1, h2⟩
  refine ⟨⟨GLe.refl g, fun _ hb _ hx => clash hb hx, fun q _ hgq => ?_, Nat.le_refl _, Nat.le_refl _, fun q k hl => .inl ⟨q, hlive q k hl⟩, fun _ _ _ => rfl, Same.refl w⟩, ⟨fun q u hy k s z hq => ?_, fun q q' k h1 h2 => hr.inj q q' k (hlive q k h1) (hlive q' k h2), fun q hq => ?_, hr.gold⟩⟩
  · rw [H.get_del, if_neg (fun e => by subst e; rw [hg] at hgq; cases hgq)]
  · rw [H.get_del] at hy
    by_cases hq' : b = q
    · rw [if_pos hq'] at hy; cases hy
    · rw [if_neg hq'] at hy; exact hr.blk q u hy k s z hq
  · rw [H.get_del]
    split
    · rfl
    · exact hr.fresh q hq
end
end Go.Eng
