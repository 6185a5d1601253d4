/-
  A part of the proof of casketlaw17.TurnsOwn: the evaluator's soundness, or the law's own steps. By an AI agent.
-/
import Derived.Test.YtjlkbflcdagcbaaGreatDoorLC
import Derived.Test.YtjlkbflcdagcbaaGreatDoorN1
namespace Go.Eng
open Go
noncomputable section
/-! ### 'Go' -/
def X7 : List Nat := [7, 43, 10, 27, 1, 8, 9, 0, 11, 14, 12, 13, 2, 6]
def body7 : Code := match Go.Proofs.Tryz.f7.body with | some c => c | none => .skip
def ev7 (c : Code) (L : List (Nat × AV)) (h : H) : RC := evalI P0 R0 none 7 (planC P0 X7 50 c) ⟨mkE L, []⟩ h
def c7a : Code := sqL body7
def c7b : Code := sqL (sqR body7)
def c7c : Code := sqL (sqL (sqR (sqR body7)))
def l7 : Code := inB (inB (sqR (sqL (sqR (sqR body7)))))
def c7z : Code := sqR (sqR (sqR body7))
def c7r3 : Code := sqL l7
def c7if : Code := sqL (sqR l7)
def c7k : Code := inB (sqL (sqR (sqR l7)))
def c7r10 : Code := sqR (sqR (sqR l7))
def c7r4 : Code := sqL c7k
def c7r5 : Code := sqL (sqR c7k)
def c7r6 : Code := sqL (sqR (sqR c7k))
def m7 : Code := inB (inB (sqR (sqR (sqR c7k))))
def c7r7 : Code := sqL (sqL m7)
def c7if2 : Code := sqR (sqL m7)
def c7r9 : Code := inB (sqL (sqR m7))
def c7r8 : Code := sqR (sqR m7)
def opsOf (c : Code) : Array Oper := match c with | .region _ ops _ => ops | _ => #[]
def drw (c : Code) : Bool := match c with | .region _ _ d => d | _ => true
def rid (c : Code) : Nat := match c with | .region i _ _ => i | _ => 0
end
theorem body7_eq : Go.Proofs.Tryz.f7.body = some (.seq c7a (.seq c7b (.seq (.seq c7c (.block 0 (.loop l7))) c7z))) := by kernel_rfl
theorem l7_eq : l7 = .seq c7r3 (.seq c7if (.seq (.block 1 c7k) c7r10)) := by kernel_rfl
theorem c7if_eq : c7if = .cond (.tmp 14) .skip (.exit 0) := by kernel_rfl
theorem c7k_eq : c7k = .seq c7r4 (.seq c7r5 (.seq c7r6 (.block 2 (.loop m7)))) := by kernel_rfl
theorem m7_eq : m7 = .seq (.seq c7r7 c7if2) (.seq (.block 3 c7r9) c7r8) := by kernel_rfl
theorem c7if2_eq : c7if2 = .cond (.tmp 43) .skip (.exit 2) := by kernel_rfl
theorem c7r7_eq : c7r7 = .region (rid c7r7) (opsOf c7r7) false := by kernel_rfl
end Go.Eng

namespace Go.Eng
open Go
noncomputable section
def slA (b : Ps) : AV := .sl b 0 1 1 none
def L2 (TA : List (Ps × Blk)) (q : Nat) (v : AV) : List (Ps × Blk) := TA ++ [(NT, cl false [iv q]), (NT1, cl false [v])]
def H2 (TA : List (Ps × Blk)) (q : Nat) (v : AV) : H := mkH (L2 TA q v) NT2
def ops7 : Array Oper := opsOf c7r7
def La : List (Nat × AV) := [(0, tp), (1, slA NT), (2, slA NT1)]
def Lb : List (Nat × AV) := [(0, tp), (1, slA NT), (2, slA NT1), (7, iv 0)]
/-- ahead of a pass of the outer loop -/
def Lo (i p : Nat) : List (Nat × AV) := [(0, tp), (1, slA NT), (7, iv i), (11, slA NT1), (12, iv 1), (13, iv p)]
def Lo14 (i p : Nat) (t : Bool) : List (Nat × AV) := [(14, .bool t), (0, tp), (1, slA NT), (7, iv i), (11, slA NT1), (12, iv 1), (13, iv p)]
def Lr (v : AV) : List (Nat × AV) := [(8, iv 0), (9, v), (0, tp), (1, slA NT), (7, iv 0), (11, slA NT1), (12, iv 1), (13, iv 0)]
/-- ahead of a round of the inner loop -/
def Lc (v : AV) (i : Nat) : List (Nat × AV) := [(0, tp), (1, slA NT), (8, iv 0), (9, v), (7, iv i), (10, iv i), (11, slA NT1), (12, iv 1), (13, iv 0)]
def Lc43 (v : AV) (i : Nat) (t : Bool) : List (Nat × AV) := [(43, .bool t), (0, tp), (1, slA NT), (8, iv 0), (9, v), (7, iv i), (10, iv i), (11, slA NT1), (12, iv 1), (13, iv 0)]
def Ld (v : AV) (i : Nat) : List (Nat × AV) := [(0, tp), (1, slA NT), (8, iv 0), (9, v), (7, iv (i + 1)), (10, iv i), (11, slA NT1), (12, iv 1), (13, iv 0)]
/-- what a stretch of a region comes to -/
def partTo (L : List (Nat × AV)) (Hl : List (Ps × Blk)) (N : Ps) (r : Option (E × List Dfr × H)) : Bool := match r with
  | some (t, ds, h) => subE L t && (noD ds && (subL Hl h && (Nat.ble h.next.val N.val && belowP N.val Hl)))
  | none => false
def goI (TA : List (Ps × Blk)) (q : Nat) (v : AV) (r : Ps) (ty i : Nat) : Bool := match Nat.blt i q with
  | true => partTo [(34, .bool true), (41, .iface ty (.ptr r 0))] (L2 TA q v) NT2 (partL P0 R0 X7 (mkE (Lc v i)) ops7.toList (ops7.toList.take 14) [] .nil [] (H2 TA q v))
  | false => comesTo .normal (Lc43 v i false) (L2 TA q v) NT2 (ev7 c7r7 (Lc v i) (H2 TA q v))
def goJ (TA : List (Ps × Blk)) (q : Nat) (v : AV) (i : Nat) : Bool :=
  comesTo .normal (Ld v i) (L2 TA q v) NT2 (ev7 c7r9 (Lc43 v i true) (H2 TA q v)) && (comesTo .normal (Lc v (i + 1)) (L2 TA q v) NT2 (ev7 c7r8 (Ld v i) (H2 TA q v)) &&
  (comesTo .normal (Lo i 1) (L2 TA q v) NT2 (ev7 c7r10 (Lc43 v i false) (H2 TA q v)) && (comesTo .normal (Lo14 i 1 false) (L2 TA q v) NT2 (ev7 c7r3 (Lo i 1) (H2 TA q v)) &&
  comesTo .ret [(6, iv i)] (L2 TA q v) NT2 (ev7 c7z (Lo14 i 1 false) (H2 TA q v)))))
def goA (TA : List (Ps × Blk)) (q : Nat) (v : AV) : Bool :=
  comesTo .normal La (L2 TA q v) NT2 (ev7 c7a La (H2 TA q v)) && (comesTo .normal Lb (L2 TA q v) NT2 (ev7 c7b La (H2 TA q v)) && (comesTo .normal (Lo 0 0) (L2 TA q v) NT2 (ev7 c7c Lb (H2 TA q v)) &&
  (comesTo .normal (Lo14 0 0 true) (L2 TA q v) NT2 (ev7 c7r3 (Lo 0 0) (H2 TA q v)) && (comesTo .normal (Lr v) (L2 TA q v) NT2 (ev7 c7r4 (Lo14 0 0 true) (H2 TA q v)) &&
  (comesTo .normal (Lr v) (L2 TA q v) NT2 (ev7 c7r5 (Lr v) (H2 TA q v)) && comesTo .normal (Lc v 0) (L2 TA q v) NT2 (ev7 c7r6 (Lr v) (H2 TA q v)))))))
def allN (f : Nat → Bool) (k : Nat) : Bool := Nat.rec (motive := fun _ => Bool) true (fun i ih => f i && ih) k
def goB (TA : List (Ps × Blk)) (q j : Nat) (r : Ps) (ty k : Nat) : Bool := goA TA q (iv j) && allN (fun i => goI TA q (iv j) r ty i && goJ TA q (iv j) i) k
end
theorem allN_iff {f : Nat → Bool} : ∀ {k : Nat}, allN f k = true → ∀ i, i < k → f i = true
  | 0, _, i, h => by omega
  | k + 1, h, i, hi => by
    have h : (f k && allN f k) = true := h
    rw [Bool.and_eq_true] at h
    by_cases e : i = k
    · subst e; exact h.1
    · exact allN_iff h.2 i (by omega)
end Go.Eng

namespace Go.Eng
open Go
theorem recR : RecOK P0 198 R0 := runR_ok progOK joinOK 100000
theorem info7 : ∃ i, infoOf P0 7 = some i ∧ i.X = X7 ∧ i.m = 50 ∧ i.res = [.tmp 6] :=
  ⟨⟨planC P0 (xOf Go.Proofs.Tryz.f7) Go.Proofs.Tryz.f7.ntmps body7, Go.Proofs.Tryz.f7.results.toList, xOf Go.Proofs.Tryz.f7, Go.Proofs.Tryz.f7.ntmps⟩, by kernel_rfl, by kernel_rfl, by kernel_rfl, by kernel_rfl⟩
noncomputable def o14 : Oper := (nthL ops7.toList 14).getD default
noncomputable def o15 : Oper := (nthL ops7.toList 15).getD default
noncomputable def dd14 : List Nat := ddsOf (ops7.toList.take 14) []
theorem ops7_14 : ops7[14]? = some o14 := by kernel_rfl
theorem ops7_15 : ops7[15]? = some o15 := by kernel_rfl
theorem o14_dst : o14.dst = some 42 := by kernel_rfl
theorem o14_guard : o14.guard = some (6, true) := by kernel_rfl
theorem ops7_6 : (ops7[6]?).bind (·.dst) = some 34 := by kernel_rfl
theorem ops7_size : ops7.size = 16 := by kernel_rfl
theorem ops7_low : allBelow 50 (dsts ops7.toList) = true := by kernel_rfl
/-- the call of 'Step', by the kind of machine -/
def InvOK (f ty : Nat) : Prop := ∀ (r : Ps) (h : H), oneI P0 R0 .nil (plan1 P0 [] [41] (dstOf o14) o14.op) (mkE [(41, .iface ty (.ptr r 0))]) [] h = (match stepA f r h with | .ok v h' => some (v, [], h') | .no => none)
theorem invW : InvOK 441 47 := fun r h => by kernel_rfl
theorem invV : InvOK 476 51 := fun r h => by kernel_rfl
theorem pick15 (b : Bool) (x : AV) (l : E) (h : H) : partL P0 R0 X7 l ops7.toList [o15] (ddOf o14 dd14) (.cons 42 (.bool b) (mkE [(34, .bool true), (41, x)])) [] h =
    some (.cons 43 (.bool b) (.cons 42 (.bool b) (mkE [(34, .bool true), (41, x)])), [], h) := by kernel_rfl

theorem chain_succ {D : List (Ps × Blk)} {N : Ps} {f : Nat} {r : Ps} {k : Nat} {h : H} (hc : chainB D N f r (k + 1) h = true) : ∃ h', stepA f r h = .ok (.bool true) h' ∧ chainB D N f r k h' = true := by
  have hc : (match stepA f r h with | .ok (.bool true) h' => chainB D N f r k h' | _ => false) = true := hc
  split at hc
  · rename_i h' he; exact ⟨h', he, hc⟩
  · cases hc
theorem chain_zero {D : List (Ps × Blk)} {N : Ps} {f : Nat} {r : Ps} {h : H} (hc : chainB D N f r 0 h = true) : ∃ h', stepA f r h = .ok (.bool false) h' ∧ subL D h' = true ∧ h'.next.val ≤ N.val := by
  have hc : (match stepA f r h with | .ok (.bool false) h' => subL D h' && Nat.ble h'.next.val N.val | _ => false) = true := hc
  split at hc
  · rename_i h' he
    rw [Bool.and_eq_true] at hc
    exact ⟨h', he, hc.1, Nat.le_of_ble_eq_true hc.2⟩
  · cases hc
theorem partTo_ok {L : List (Nat × AV)} {Hl : List (Ps × Blk)} {N : Ps} {r : Option (E × List Dfr × H)} (h : partTo L Hl N r = true) : ∃ t h', r = some (t, [], h') ∧ (∀ d v, (d, v) ∈ L → t.get d = some v) ∧ subL Hl h' = true ∧ h'.next.val ≤ N.val ∧ belowP N.val Hl = true := by
  unfold partTo at h
  split at h
  · rename_i t ds h'
    simp only [Bool.and_eq_true] at h
    obtain ⟨h1, h2, h3, h4, h5⟩ := h
    have := noD_iff h2
    subst this
    exact ⟨t, h', rfl, subE_iff h1, h3, Nat.le_of_ble_eq_true h4, h5⟩
  · cases h
/-- one look acts alone -/
def Only (i : Nat) (V V' : Nat → G × H) : Prop := ∀ j, j ≠ i → V' j = V j
section
variable {W w : World} {n j q : Nat} {TA : List (Ps × Blk)} {r : Ps} {f ty : Nat} {D : List (Ps × Blk)} {NE : Ps} {b : Frame} {cs : List Frame} {i7 : FI} {V : Nat → G × H} {a : Act}
/-- what 'Go' goes about in: the looks, the root of the machine -/
structure GoSt (W : World) (n j q : Nat) (TA : List (Ps × Blk)) (r : Ps) (w : World) (V : Nat → G × H) : Prop where
  fam : Fam P0 W (n + 1) V w
  top : (V n).2 = H2 TA q (iv j)
  rt : ∃ y, (V n).1 r = some y ∧ (V j).1 r = some y
/-- from one to another: names stay, other looks stay -/
structure GoTo (n j : Nat) (V V' : Nat → G × H) : Prop where
  le : ∀ i, GLe (V i).1 (V' i).1
  other : ∀ i, i ≠ n → i ≠ j → V' i = V i
theorem GoTo.refl (V : Nat → G × H) : GoTo n j V V := ⟨fun _ => GLe.refl _, fun _ _ _ => rfl⟩
theorem GoTo.trans {V V' V'' : Nat → G × H} (h : GoTo n j V V') (h' : GoTo n j V' V'') : GoTo n j V V'' := ⟨fun i => (h.le i).trans (h'.le i), fun i h1 h2 => (h'.other i h1 h2).trans (h.other i h1 h2)⟩
theorem GoTo.top {g' : G} {h' : H} (h : GLe (V n).1 g') : GoTo n j V (upd V n (g', h')) := ⟨fun i => by
    by_cases e : i = n
    · subst e; rw [upd_same]; exact h
    · rw [upd_other V _ e]; exact GLe.refl _, fun i h1 _ => upd_other V _ h1⟩
theorem GoTo.mach {g' : G} {h' : H} (h : GLe (V j).1 g') : GoTo n j V (upd V j (g', h')) := ⟨fun i => by
    by_cases e : i = j
    · subst e; rw [upd_same]; exact h
    · rw [upd_other V _ e]; exact GLe.refl _, fun i _ h2 => upd_other V _ h2⟩
theorem GoSt.topTo (hs : GoSt W n j q TA r w V) (hjn : j < n) {g' : G} {w' : World} (hle : GLe (V n).1 g') (hF : Fam P0 W (n + 1) (upd V n (g', H2 TA q (iv j))) w') : GoSt W n j q TA r w' (upd V n (g', H2 TA q (iv j))) := by
  obtain ⟨y, h1, h2⟩ := hs.rt
  exact ⟨hF, by rw [upd_same], y, by rw [upd_same]; exact hle _ _ h1, by rw [upd_other V _ (by omega)]; exact h2⟩
theorem GoSt.machTo (hs : GoSt W n j q TA r w V) (hjn : j < n) {g' : G} {h' : H} {w' : World} (hle : GLe (V j).1 g') (hF : Fam P0 W (n + 1) (upd V j (g', h')) w') : GoSt W n j q TA r w' (upd V j (g', h')) := by
  obtain ⟨y, h1, h2⟩ := hs.rt
  exact ⟨hF, by rw [upd_other V _ (by omega)]; exact hs.top, y, by rw [upd_other V _ (by omega)]; exact h1, by rw [upd_same]; exact hle _ _ h2⟩
/-- a piece of 'Go' -/
theorem go_piece (hi : infoOf P0 7 = some i7) (hX : i7.X = X7) (hm : i7.m = 50) (hbf : b.fn = 7) (hfc : FC b cs) (hro : b.roundOf = none) (c : Code) {L L' : List (Nat × AV)} {x : Ex} {k : List Item}
    (he : comesTo x L' (L2 TA q (iv j)) NT2 (ev7 c L (H2 TA q (iv j))) = true) (hs : GoSt W n j q TA r w V) (hjn : j < n) (hf : FRel (V n).1 i7 ⟨mkE L, []⟩ a) :
    ∃ V' w' a', Out P0 (lone (b.atR a (.code c :: k)) cs w) b k cs x a' w' ∧ FRel (V' n).1 i7 ⟨mkE L', []⟩ a' ∧ GoTo n j V V' ∧ GoSt W n j q TA r w' V' ∧ V' j = V j := by
  unfold ev7 at he
  rw [← hX, ← hm, ← hs.top] at he
  obtain ⟨g', w', a', h1, h2, h3, h4⟩ := piece_ok (k := k) progOK recR hi hbf hfc hro c he hf hs.fam (Nat.lt_succ_self n)
  exact ⟨upd V n (g', mkH (L2 TA q (iv j)) NT2), w', a', h1, by rw [upd_same]; exact h2, .top h3, hs.topTo hjn h3 h4, upd_other V _ (by omega)⟩
/-- 'Step' is called, and its answer picked -/
theorem go_r7 (hi : infoOf P0 7 = some i7) (hX : i7.X = X7) (hm : i7.m = 50) (hbf : b.fn = 7) (hfc : FC b cs) (hro : b.roundOf = none) (hinv : InvOK f ty) {i : Nat} (hiq : i < q) (hI : goI TA q (iv j) r ty i = true) {k : List Item} {bl : Bool} {h' : H}
    (hstep : stepA f r (V j).2 = .ok (.bool bl) h') (hs : GoSt W n j q TA r w V) (hjn : j < n) (hf : FRel (V n).1 i7 ⟨mkE (Lc (iv j) i), []⟩ a) :
    ∃ V' w' a', Steps P0 (lone (b.atR a (.code c7r7 :: k)) cs w) (lone (b.atR a' k) cs w') ∧ FRel (V' n).1 i7 ⟨mkE (Lc43 (iv j) i bl), []⟩ a' ∧ GoTo n j V V' ∧ GoSt W n j q TA r w' V' ∧ (V' j).2 = h' := by
  have hin := hf.inR
  rw [hX, hm] at hin
  have hI : partTo [(34, .bool true), (41, .iface ty (.ptr r 0))] (L2 TA q (iv j)) NT2 (partL P0 R0 X7 (mkE (Lc (iv j) i)) ops7.toList (ops7.toList.take 14) [] .nil [] (H2 TA q (iv j))) = true := by
    unfold goI at hI
    rw [blt_iff.2 hiq] at hI
    exact hI
  obtain ⟨t1, h1, hp, hget, hsub, hnx, hbel⟩ := partTo_ok hI
  rw [← hs.top] at hp
  have hdn : DR (V n).1 [] a.defers := hf.dfr
  have hn50 : 50 ≤ nowhere := by unfold nowhere; omega
  have hlow : ∀ d, d ∈ dsts ops7.toList → d < 50 := allBelow_iff.1 ops7_low
  have htake : (ops7.toList.take 14).length = 14 := by rw [List.length_take]; simp [ops7_size]
  obtain ⟨g2, w2, a2, s2, in2, d2, le2, F2⟩ := part_ok (k := k) progOK recR hn50 hfc hro hlow (Nat.lt_succ_self n) (ops7.toList.take 14) 0 [14, 15] [] .nil [] a w V (fun x hx => by
      rw [htake] at hx
      rw [List.getElem?_take_of_lt hx, Nat.zero_add]
      simp) hp hin hdn hs.fam
  -- back to the look that is written down
  have F2' := F2.lit (i := n) (l := L2 TA q (iv j)) (M := NT2) (Nat.lt_succ_self n) (by rw [upd_same]; exact hsub) hbel (by rw [upd_same]; exact hnx)
  rw [upd_same, upd_upd] at F2'
  have S2 : GoSt W n j q TA r w2 (upd V n (g2, mkH (L2 TA q (iv j)) NT2)) := hs.topTo hjn le2 F2'
  have in2' : InR g2 X7 dd14 (mkE [(34, .bool true), (41, .iface ty (.ptr r 0))]) (mkE (Lc (iv j) i)) 50 a2 := in2.sub fun d v hv => hget d v (mkE_get hv)
  -- the call
  obtain ⟨y, hr1, hr2⟩ := hs.rt
  have hm34 : memN 34 dd14 = true := by kernel_rfl
  have hm41 : memN 41 dd14 = true := by kernel_rfl
  obtain ⟨c34, e34, v34⟩ := in2'.reg.new 34 _ hm34 (by rfl)
  obtain ⟨c41, e41, v41⟩ := in2'.reg.new 41 _ hm41 (by rfl)
  simp only [VR] at v34
  subst v34
  have v41' : VR (V j).1 (.iface ty (.ptr r 0)) c41 := by
    simp only [VR] at v41 ⊢
    obtain ⟨yv, hy, cc, sh, sz, hg, hyv⟩ := v41
    refine ⟨yv, hy, cc, sh, sz, ?_, hyv⟩
    have := le2 _ _ hr1
    rw [hg] at this
    rw [hr2, ← Option.some.inj this]
  have hw14 : Region.wanted o14 (yielded ops7 a2.tmps) = true := by
    simp only [Region.wanted, o14_guard, yielded, ops7_6, Option.bind_some, e34]
    rfl
  have hρ : OpdR (V j).1 [] [41] (mkE [(41, .iface ty (.ptr r 0))]) .nil a2.eval := RegR.opd ⟨fun d v hd hv => by
      have := mkE_get hv
      simp at this
      obtain ⟨rfl, rfl⟩ := this
      exact ⟨c41, e41, v41'⟩, fun d v _ hd _ => by simp [memN] at hd⟩
  have hVj : upd V n (g2, mkH (L2 TA q (iv j)) NT2) j = V j := upd_other V _ (by omega)
  have hHj : HR P0 (V j).1 (V j).2 w2 := by have := F2'.hr j (by omega); rw [hVj] at this; exact this
  have hd2 : a2.defers = [] := d2
  obtain ⟨c42, g3, w3, ds3, s3, v42, x3, r3, d3⟩ := one_op (k := k) (rest := [15]) progOK recR ops7_14 hw14 hρ hHj (ds := []) hd2 hfc (.inl hro) (d := dstOf o14) (by rw [hinv r (V j).2, hstep])
  have F3 := F2'.act (i := j) (by omega) (g' := g3) (h' := h') (w' := w3) (by rw [hVj]; exact x3) r3
  have S3 := S2.machTo (g' := g3) (h' := h') hjn (by rw [upd_other V _ (by omega)]; exact x3.mono) F3
  generalize hV3 : upd (upd V n (g2, mkH (L2 TA q (iv j)) NT2)) j (g3, h') = V3 at *
  have hV3n : V3 n = (g2, mkH (L2 TA q (iv j)) NT2) := by rw [← hV3, upd_other _ _ (by omega), upd_same]
  have hV3j : V3 j = (g3, h') := by rw [← hV3, upd_same]
  simp only [VR] at v42
  subst v42
  have hdst14 : ∀ d, o14.dst = some d → d < 50 := fun d hd => by rw [o14_dst] at hd; cases hd; decide
  have reg3 := in2'.reg.put (ds' := ds3) (o := o14) (c := .bool bl) (v := .bool bl) (by simp only [VR]) hdst14 in2'.sz hn50 in2'.lt
  have in3 : InR (V3 n).1 X7 (ddOf o14 dd14) (.cons 42 (.bool bl) (mkE [(34, .bool true), (41, .iface ty (.ptr r 0))])) (mkE (Lc (iv j) i)) 50 (({ tmps := a2.tmps, defers := ds3 } : Act).put o14.dst (.bool bl)) := by
    rw [hV3n]
    refine ⟨by have : dstOf o14 = 42 := by kernel_rfl
               rw [this] at reg3; exact reg3, fun d hd => ?_, ?_⟩
    · have : ddOf o14 dd14 = 42 :: dd14 := by unfold ddOf; rw [o14_dst]
      rw [this] at hd
      cases hd with
      | head => decide
      | tail _ hd => exact in2'.lt d hd
    · have := in2'.sz
      simp [Act.put, o14_dst]
      exact this
  have hds3 : ds3 = [] := d3
  -- the last one
  obtain ⟨g4, w4, a4, s4, in4, d4, le4, F4⟩ := part_ok (k := k) progOK recR hn50 hfc hro hlow (Nat.lt_succ_self n) [o15] 15 [] (ddOf o14 dd14) _ [] _ w3 V3 (fun x hx => by
      have : x = 0 := by simpa using hx
      subst this
      rw [ops7_15]; rfl) (pick15 bl _ (mkE (Lc (iv j) i)) (V3 n).2) in3 (by rw [put_defers', hds3]; rfl) F3
  rw [hV3n] at F4
  have S4 := S3.topTo hjn le4 F4
  refine ⟨upd V3 n (g4, mkH (L2 TA q (iv j)) NT2), w4, a4, ?_, ?_, ?_, S4, ?_⟩
  · rw [c7r7_eq]
    have hrg : List.range (opsOf c7r7).size = List.range' 0 (ops7.toList.take 14).length ++ [14, 15] := by rw [htake]; rw [show (opsOf c7r7).size = 16 from ops7_size]; rfl
    refine .head stepR_region ?_
    rw [hrg]
    refine s2.trans (s3.trans (Steps.trans s4 (.one stepR_region_end)))
  · rw [upd_same]
    refine ⟨?_, by rw [hm]; exact in4.sz, d4⟩
    rw [hX]
    refine in4.out (L := Lc43 (iv j) i bl) fun d v hd => ?_
    simp only [Lc43, List.mem_cons, Prod.mk.injEq, List.not_mem_nil, or_false] at hd
    rcases hd with ⟨rfl, rfl⟩ | ⟨rfl, rfl⟩ | ⟨rfl, rfl⟩ | ⟨rfl, rfl⟩ | ⟨rfl, rfl⟩ | ⟨rfl, rfl⟩ | ⟨rfl, rfl⟩ | ⟨rfl, rfl⟩ | ⟨rfl, rfl⟩ | ⟨rfl, rfl⟩
    · exact .inl ⟨by kernel_rfl, rfl⟩
    all_goals exact .inr ⟨by kernel_rfl, rfl⟩
  · have e1 : GoTo n j V (upd V n (g2, mkH (L2 TA q (iv j)) NT2)) := GoTo.top le2
    have e2 : GoTo n j (upd V n (g2, mkH (L2 TA q (iv j)) NT2)) V3 := by
      rw [← hV3]
      exact GoTo.mach (by rw [upd_other V _ (by omega)]; exact x3.mono)
    exact (e1.trans e2).trans (GoTo.top le4)
  · rw [upd_other _ _ (by omega), hV3j]
end
end Go.Eng

namespace Go.Eng
open Go
section
variable {W w : World} {n j q : Nat} {TA : List (Ps × Blk)} {r : Ps} {f ty : Nat} {D : List (Ps × Blk)} {NE : Ps} {b : Frame} {cs : List Frame} {i7 : FI} {V : Nat → G × H} {a : Act}
theorem cond_false {c : Operand} {x y : Code} {k : List Item} (h : a.eval c = .bool false) : step P0 (lone (b.atR a (.code (.cond c x y) :: k)) cs w) = .next (lone (b.atR a (.code y :: k)) cs w) := by
  have := stepR_cond (P := P0) (b := b) (k := k) (cs := cs) (w := w) (x := x) (y := y) h
  simpa using this
theorem cond_true {c : Operand} {x y : Code} {k : List Item} (h : a.eval c = .bool true) : step P0 (lone (b.atR a (.code (.cond c x y) :: k)) cs w) = .next (lone (b.atR a (.code x :: k)) cs w) := by
  have := stepR_cond (P := P0) (b := b) (k := k) (cs := cs) (w := w) (x := x) (y := y) h
  simpa using this
theorem frel_bool {g : G} {i : FI} {L : List (Nat × AV)} {d : Nat} {t : Bool} (hf : FRel g i ⟨mkE L, []⟩ a) (hX : memN d i.X = true) (hg : (mkE L).get d = some (.bool t)) : a.eval (.tmp d) = .bool t := by
  obtain ⟨c, h1, h2⟩ := hf.loc d _ hX hg
  simp only [VR] at h2
  rw [eval_tmp h1, h2]
theorem go_out2 {k : List Item} {i : Nat} (hi : infoOf P0 7 = some i7) (hX : i7.X = X7) (hf : FRel (V n).1 i7 ⟨mkE (Lc43 (iv j) i false), []⟩ a) :
    Steps P0 (lone (b.atR a (.code c7if2 :: .code (.seq (.block 3 c7r9) c7r8) :: .inLoop m7 :: .inBlock 2 :: k)) cs w) (lone (b.atR a k) cs w) := by
  have h43 := frel_bool (d := 43) (t := false) hf (by rw [hX]; kernel_rfl) rfl
  rw [c7if2_eq]
  exact .head (cond_false h43) (.one (stepR_exit (by simp [exitTo])))
/-- the inner loop of 'Go' -/
theorem go_loop (hi : infoOf P0 7 = some i7) (hX : i7.X = X7) (hm : i7.m = 50) (hbf : b.fn = 7) (hfc : FC b cs) (hro : b.roundOf = none) (hinv : InvOK f ty) (hfix : chainB D NE f r 0 (mkH D NE) = true) (hbel : belowP NE.val D = true) (hjn : j < n) {k0 : List Item} :
    ∀ (d i k : Nat) (V : Nat → G × H) (a : Act) (w : World), q - i = d → i ≤ q → chainB D NE f r k (V j).2 = true → (∀ x, x ≤ i + k → goI TA q (iv j) r ty x = true ∧ goJ TA q (iv j) x = true) → GoSt W n j q TA r w V → FRel (V n).1 i7 ⟨mkE (Lc (iv j) i), []⟩ a →
      ∃ V' w' a' i', Steps P0 (lone (b.atR a (.code m7 :: .inLoop m7 :: .inBlock 2 :: k0)) cs w) (lone (b.atR a' k0) cs w') ∧ FRel (V' n).1 i7 ⟨mkE (Lc43 (iv j) i' false), []⟩ a' ∧ GoTo n j V V' ∧ GoSt W n j q TA r w' V' ∧ i' ≤ i + k ∧
        (∃ k', k' ≤ k ∧ chainB D NE f r k' (V' j).2 = true) ∧ (k < q - i → (V' j).2 = mkH D NE) := by
  intro d
  induction d with
  | zero =>
    intro i k V a w hd hiq hch hfacts hs hf
    have hiq' : i = q := by omega
    subst hiq'
    have hI := (hfacts i (by omega)).1
    have hI : comesTo .normal (Lc43 (iv j) i false) (L2 TA i (iv j)) NT2 (ev7 c7r7 (Lc (iv j) i) (H2 TA i (iv j))) = true := by
      unfold goI at hI
      have : Nat.blt i i = false := by rw [← Bool.not_eq_true, blt_iff]; omega
      rw [this] at hI
      exact hI
    obtain ⟨V1, w1, a1, h1, h2, h3, h4, h5⟩ := go_piece (k := .code c7if2 :: .code (.seq (.block 3 c7r9) c7r8) :: .inLoop m7 :: .inBlock 2 :: k0) hi hX hm hbf hfc hro c7r7 hI hs hjn hf
    refine ⟨V1, w1, a1, i, ?_, h2, h3, h4, by omega, ⟨k, Nat.le_refl _, by rw [h5]; exact hch⟩, fun h => by omega⟩
    rw [m7_eq]
    exact .head stepR_seq (.head stepR_seq (Steps.trans h1 (go_out2 hi hX h2)))
  | succ d ih =>
    intro i k V a w hd hiq hch hfacts hs hf
    have hlt : i < q := by omega
    have hI := (hfacts i (by omega)).1
    cases k with
    | zero =>
      obtain ⟨h', hst, hsub, hnx⟩ := chain_zero hch
      obtain ⟨V1, w1, a1, h1, h2, h3, h4, h5⟩ := go_r7 (k := .code c7if2 :: .code (.seq (.block 3 c7r9) c7r8) :: .inLoop m7 :: .inBlock 2 :: k0) hi hX hm hbf hfc hro hinv hlt hI hst hs hjn hf
      have F2 := h4.fam.lit (i := j) (l := D) (M := NE) (by omega) (by rw [h5]; exact hsub) hbel (by rw [h5]; exact hnx)
      have S2 := h4.machTo (g' := (V1 j).1) (h' := mkH D NE) hjn (GLe.refl _) F2
      have hn : upd V1 j ((V1 j).1, mkH D NE) n = V1 n := upd_other V1 _ (by omega)
      refine ⟨upd V1 j ((V1 j).1, mkH D NE), w1, a1, i, ?_, by rw [hn]; exact h2, h3.trans (GoTo.mach (GLe.refl _)), S2, by omega, ⟨0, Nat.le_refl _, by rw [upd_same]; exact hfix⟩, fun _ => by rw [upd_same]⟩
      rw [m7_eq]
      exact .head stepR_seq (.head stepR_seq (Steps.trans h1 (go_out2 hi hX h2)))
    | succ k =>
      obtain ⟨h', hst, hch'⟩ := chain_succ hch
      obtain ⟨V1, w1, a1, h1, h2, h3, h4, h5⟩ := go_r7 (k := .code c7if2 :: .code (.seq (.block 3 c7r9) c7r8) :: .inLoop m7 :: .inBlock 2 :: k0) hi hX hm hbf hfc hro hinv hlt hI hst hs hjn hf
      have hJ := (hfacts i (by omega)).2
      unfold goJ at hJ
      simp only [Bool.and_eq_true] at hJ
      obtain ⟨j1, j2, j3, j4, j5⟩ := hJ
      have h43 := frel_bool (d := 43) (t := true) h2 (by rw [hX]; kernel_rfl) rfl
      obtain ⟨V2, w2, a2, e1, e2, e3, e4, e5⟩ := go_piece (k := .inBlock 3 :: .code c7r8 :: .inLoop m7 :: .inBlock 2 :: k0) hi hX hm hbf hfc hro c7r9 j1 h4 hjn h2
      obtain ⟨V3, w3, a3, f1, f2, f3, f4, f5⟩ := go_piece (k := .inLoop m7 :: .inBlock 2 :: k0) hi hX hm hbf hfc hro c7r8 j2 e4 hjn e2
      obtain ⟨V4, w4, a4, i', g1, g2, g3, g4, g5, ⟨k', g6, g7⟩, g8⟩ := ih (i + 1) k V3 a3 w3 (by omega) (by omega) (by rw [f5, e5, h5]; exact hch') (fun x hx => hfacts x (by omega)) f4 f2
      refine ⟨V4, w4, a4, i', ?_, g2, ((h3.trans e3).trans f3).trans g3, g4, by omega, ⟨k', by omega, g7⟩, fun h => g8 (by omega)⟩
      have hbody : Steps P0 (lone (b.atR a (.code m7 :: .inLoop m7 :: .inBlock 2 :: k0)) cs w) (lone (b.atR a3 (.inLoop m7 :: .inBlock 2 :: k0)) cs w3) := by
        rw [m7_eq]
        refine .head stepR_seq (.head stepR_seq (Steps.trans h1 ?_))
        rw [c7if2_eq]
        refine .head (cond_true h43) (.head stepR_skip (.head stepR_seq (.head stepR_block (Steps.trans e1 (.head stepR_inBlock ?_)))))
        exact f1
      exact hbody.trans (.head stepR_inLoop g1)
/-- 'Go' for a machine that is there -/
theorem go_in {K k : Nat} (hgo : goB TA q j r ty K = true) (hk : k < K) (hinv : InvOK f ty) (hfix : chainB D NE f r 0 (mkH D NE) = true) (hbel : belowP NE.val D = true) (hjn : j < n) (hs : GoSt W n j q TA r w V) (hch : chainB D NE f r k (V j).2 = true)
    {args : Array Value} (hargs : VRL (V n).1 [tp, slA NT, slA NT1] args.toList) :
    ∃ V' w' fr u, Steps P0 (lone (Frame.enter P0 7 args .normal) cs w) (lone fr cs w') ∧ Fin P0 7 .normal fr w' u ∧ GoTo n j V V' ∧ GoSt W n j q TA r w' V' ∧ (∃ k', k' ≤ k ∧ chainB D NE f r k' (V' j).2 = true) ∧ (k < q → (V' j).2 = mkH D NE) := by
  obtain ⟨i7, hi, hX, hm, hres⟩ := info7
  obtain ⟨fn, c, hf0, hb0, hcode, hres0, hm0, hXr⟩ := infoOf_some hi
  have hfn : fn = Go.Proofs.Tryz.f7 := Option.some.inj (hf0.symm.trans Go.Proofs.Tryz.func7)
  unfold goB at hgo
  rw [Bool.and_eq_true] at hgo
  obtain ⟨hA, hN⟩ := hgo
  unfold goA at hA
  simp only [Bool.and_eq_true] at hA
  obtain ⟨A1, A2, A3, A4, A5, A6, A7⟩ := hA
  have hfacts : ∀ x, x ≤ 0 + k → goI TA q (iv j) r ty x = true ∧ goJ TA q (iv j) x = true := fun x hx => by
    have := allN_iff hN x (by omega)
    rw [Bool.and_eq_true] at this
    exact this
  let b : Frame := { (default : Frame) with fn := 7, kind := .normal, roundOf := none }
  have henter : Frame.enter P0 7 args .normal = b.atR { tmps := args ++ Array.replicate (fn.ntmps - args.size) undef, defers := [] } [.code (.seq c7a (.seq c7b (.seq (.seq c7c (.block 0 (.loop l7))) c7z)))] := by
    have hb1 : fn.body = some (.seq c7a (.seq c7b (.seq (.seq c7c (.block 0 (.loop l7))) c7z))) := by rw [hfn]; exact body7_eq
    simp [Frame.enter, Frame.atR, hf0, hb1, b]
  have hfr : FRel (V n).1 i7 ⟨mkE La, []⟩ { tmps := args ++ Array.replicate (fn.ntmps - args.size) undef, defers := [] } := by
    refine ⟨fun d v hd hv => ?_, by rw [hm0]; simp; omega, rfl⟩
    have hm' : (d, v) ∈ La := mkE_get (l := La) hv
    have key : [tp, slA NT, slA NT1][d]? = some v := by
      simp only [La, List.mem_cons, Prod.mk.injEq, List.not_mem_nil, or_false] at hm'
      rcases hm' with ⟨rfl, rfl⟩ | ⟨rfl, rfl⟩ | ⟨rfl, rfl⟩ <;> rfl
    obtain ⟨u, hu, hvu⟩ := hargs.get d v key
    have hlt : d < args.size := by have := (List.getElem?_eq_some_iff.1 hu).1; simpa using this
    exact ⟨u, by rw [Array.getElem?_append_left hlt]; simpa using hu, hvu⟩
  have hfc : FC b cs := .inl rfl
  have hbf : b.fn = 7 := rfl
  have hro : b.roundOf = none := rfl
  rw [henter]
  generalize ({ tmps := args ++ Array.replicate (fn.ntmps - args.size) undef, defers := [] } : Act) = a0 at hfr ⊢
  obtain ⟨V1, w1, a1, p1, p2, p3, p4, p5⟩ := go_piece (k := .code (.seq c7b (.seq (.seq c7c (.block 0 (.loop l7))) c7z)) :: []) hi hX hm hbf hfc hro c7a A1 hs hjn hfr
  obtain ⟨V2, w2, a2, q1', q2', q3', q4', q5'⟩ := go_piece (k := .code (.seq (.seq c7c (.block 0 (.loop l7))) c7z) :: []) hi hX hm hbf hfc hro c7b A2 p4 hjn p2
  obtain ⟨V3, w3, a3, r1, r2, r3, r4, r5⟩ := go_piece (k := .code (.block 0 (.loop l7)) :: .code c7z :: []) hi hX hm hbf hfc hro c7c A3 q4' hjn q2'
  have hst1 : Steps P0 (lone (b.atR a0 [.code (.seq c7a (.seq c7b (.seq (.seq c7c (.block 0 (.loop l7))) c7z)))]) cs w) (lone (b.atR a3 (.code l7 :: .inLoop l7 :: .inBlock 0 :: .code c7z :: [])) cs w3) := by
    refine .head stepR_seq (Steps.trans p1 (.head stepR_seq (Steps.trans q1' (.head stepR_seq (.head stepR_seq (Steps.trans r1 (.head stepR_block (.head stepR_loop (.refl P0 _)))))))))
  -- the pass
  obtain ⟨V4, w4, a4, s1, s2, s3, s4, s5⟩ := go_piece (k := .code (.seq c7if (.seq (.block 1 c7k) c7r10)) :: .inLoop l7 :: .inBlock 0 :: .code c7z :: []) hi hX hm hbf hfc hro c7r3 A4 r4 hjn r2
  have h14 := frel_bool (d := 14) (t := true) s2 (by rw [hX]; kernel_rfl) rfl
  obtain ⟨V5, w5, a5, t1, t2, t3, t4, t5⟩ := go_piece (k := .code (.seq c7r5 (.seq c7r6 (.block 2 (.loop m7)))) :: .inBlock 1 :: .code c7r10 :: .inLoop l7 :: .inBlock 0 :: .code c7z :: []) hi hX hm hbf hfc hro c7r4 A5 s4 hjn s2
  obtain ⟨V6, w6, a6, u1, u2, u3, u4, u5⟩ := go_piece (k := .code (.seq c7r6 (.block 2 (.loop m7))) :: .inBlock 1 :: .code c7r10 :: .inLoop l7 :: .inBlock 0 :: .code c7z :: []) hi hX hm hbf hfc hro c7r5 A6 t4 hjn t2
  obtain ⟨V7, w7, a7, v1, v2, v3, v4, v5⟩ := go_piece (k := .code (.block 2 (.loop m7)) :: .inBlock 1 :: .code c7r10 :: .inLoop l7 :: .inBlock 0 :: .code c7z :: []) hi hX hm hbf hfc hro c7r6 A7 u4 hjn u2
  have hVj : V7 j = V j := by rw [v5, u5, t5, s5, r5, q5', p5]
  obtain ⟨V8, w8, a8, i', x1, x2, x3, x4, x5, x6, x7⟩ := go_loop (q := q) (TA := TA) (W := W) (n := n) (j := j) (b := b) (cs := cs) (k0 := .inBlock 1 :: .code c7r10 :: .inLoop l7 :: .inBlock 0 :: .code c7z :: []) hi hX hm hbf hfc hro hinv hfix hbel hjn q 0 k V7 a7 w7 (by omega) (by omega) (by rw [hVj]; exact hch) hfacts v4 v2
  have hJ := (hfacts i' (by omega)).2
  unfold goJ at hJ
  simp only [Bool.and_eq_true] at hJ
  obtain ⟨j1, j2, j3, j4, j5⟩ := hJ
  obtain ⟨V9, w9, a9, y1, y2, y3, y4, y5⟩ := go_piece (k := .inLoop l7 :: .inBlock 0 :: .code c7z :: []) hi hX hm hbf hfc hro c7r10 j3 x4 hjn x2
  have hst2 : Steps P0 (lone (b.atR a3 (.code l7 :: .inLoop l7 :: .inBlock 0 :: .code c7z :: [])) cs w3) (lone (b.atR a9 (.code l7 :: .inLoop l7 :: .inBlock 0 :: .code c7z :: [])) cs w9) := by
    have : Steps P0 (lone (b.atR a3 (.code l7 :: .inLoop l7 :: .inBlock 0 :: .code c7z :: [])) cs w3) (lone (b.atR a9 (.inLoop l7 :: .inBlock 0 :: .code c7z :: [])) cs w9) := by
      rw [l7_eq]
      refine .head stepR_seq (Steps.trans s1 (.head stepR_seq ?_))
      rw [c7if_eq]
      refine .head (cond_true h14) (.head stepR_skip (.head stepR_seq (.head stepR_block ?_)))
      rw [c7k_eq]
      refine .head stepR_seq (Steps.trans t1 (.head stepR_seq (Steps.trans u1 (.head stepR_seq (Steps.trans v1 (.head stepR_block (.head stepR_loop (x1.trans (.head stepR_inBlock ?_)))))))))
      exact y1
    exact this.trans (.one stepR_inLoop)
  obtain ⟨V10, w10, a10, z1, z2, z3, z4, z5⟩ := go_piece (k := .code (.seq c7if (.seq (.block 1 c7k) c7r10)) :: .inLoop l7 :: .inBlock 0 :: .code c7z :: []) hi hX hm hbf hfc hro c7r3 j4 y4 hjn y2
  have h14' := frel_bool (d := 14) (t := false) z2 (by rw [hX]; kernel_rfl) rfl
  obtain ⟨V11, w11, a11, ⟨k1, o1⟩, o2, o3, o4, o5⟩ := go_piece (k := []) hi hX hm hbf hfc hro c7z j5 z4 hjn z2
  have hst3 : Steps P0 (lone (b.atR a9 (.code l7 :: .inLoop l7 :: .inBlock 0 :: .code c7z :: [])) cs w9) (lone { b.atR a11 (.code .ret :: k1) with mode := .returning } cs w11) := by
    rw [l7_eq]
    refine .head stepR_seq (Steps.trans z1 (.head stepR_seq ?_))
    rw [c7if_eq]
    refine .head (cond_false h14') (.head (stepR_exit (k' := .code c7z :: []) (by simp [exitTo])) (o1.trans (.one (stepR_ret rfl))))
  obtain ⟨u, h3, h4⟩ := results_ok (o4.fam.hr n (by omega)) o2.loc hres0 hXr (vs := [iv i']) (by rw [hres]; rfl)
  have hVj' : V11 j = V8 j := by rw [o5, z5, y5]
  refine ⟨V11, w11, _, u, (hst1.trans (hst2.trans hst3)), ⟨rfl, rfl, rfl, o2.dfr, fn, hf0, h3⟩, ?_, o4, ?_, fun h => by rw [hVj']; exact x7 (by omega)⟩
  · exact (((((((((p3.trans q3').trans r3).trans s3).trans t3).trans u3).trans v3).trans x3).trans y3).trans z3).trans o3
  · obtain ⟨k', e1, e2⟩ := x6
    exact ⟨k', e1, by rw [hVj']; exact e2⟩
end
end Go.Eng
