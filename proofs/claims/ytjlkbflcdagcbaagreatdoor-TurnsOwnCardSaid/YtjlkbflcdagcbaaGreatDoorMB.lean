/-
  A part of the proof of casketlaw17.TurnsOwn: the evaluator's soundness, or the law's own steps. By an AI agent.
-/
import Derived.Test.YtjlkbflcdagcbaaGreatDoorLY
import Derived.Test.YtjlkbflcdagcbaaGreatDoorMC0
import Derived.Test.YtjlkbflcdagcbaaGreatDoorMC1
import Derived.Test.YtjlkbflcdagcbaaGreatDoorMC2
import Derived.Test.YtjlkbflcdagcbaaGreatDoorCards
import Derived.Test.YtjlkbflcdagcbaaGreatDoorTie
import Derived.ProofKit
import Derived.OpenShut
import Derived.LaidMore
import Derived.Lay
import Derived.SevenTiedAt
namespace Go.Proofs.YtjlkbflcdagcbaaGreatDoor
open Go.ChangeShapes Go.WideShapes Go.ChangeAt Go.RowKit
theorem own : ownKnob Tryz.prog.godebug = none := by kernel_rfl
theorem u22 : Tryz.prog.underlying 22 = some (.slice 3) := by kernel_rfl
theorem u3 : Tryz.prog.underlying 3 = some (.int .i64) := by kernel_rfl
theorem u4 : Tryz.prog.underlying 4 = some .bool := by kernel_rfl
theorem c3 : Tryz.prog.cellsOf 3 = 1 := by kernel_rfl
theorem kept_cell {W W' : World} (hk : Eng.Kept W W') {a : Addr} {v : Value} (h : W.cell? a = some v) : W'.cell? a = some v := by
  unfold World.cell? at h ⊢
  split at h
  · rename_i c t z hh
    rw [hk.pre a.block (Array.getElem?_eq_some_iff.1 hh).1, hh]
    exact h
  · cases h
theorem kept_but {W W' : World} (hk : Eng.Kept W W') (may : MemPlace → Prop) : W.keptBut W' may := by
  refine ⟨hk.same.1, hk.same.2.2, fun i hi => ?_⟩
  rw [hk.pre i hi]
  split
  · rename_i h1 h2
    rw [h1] at h2
    cases h2
    exact ⟨rfl, rfl, rfl, fun _ _ => rfl⟩
  · rename_i h1 h2
    rw [h1] at h2
    cases h2
    exact .inr ⟨rfl, rfl⟩
  · rfl
set_option maxRecDepth 100000 in
theorem lifted (os : Os) (started : os.Started) (H : Type) (enc : TypeId × Value → H) :
    ReturnsInHanded {} Tryz.checked os 3 .any (fun w args => (Rows.turnsOwnSpec.pre enc Tryz.prog Tryz.f3 Rows.turnsOwnRow.domain false w args ∧ laidMetH Tryz.prog Rows.turnsOwnRow.laid w) ∧ sizedMet enc Tryz.prog Tryz.f3 (OpenSpec.ofChange Rows.turnsOwnSpec) false w args)
      (Rows.turnsOwnSpec.post enc Tryz.prog Tryz.f3 false true false false) := by
  refine returnsInHanded_of_change_and (C := Tryz.checked) (X := fun w _ => laidMetH Tryz.prog Rows.turnsOwnRow.laid w) (fun _ _ _ hh h => h.of_heap hh) own started (by kernel_rfl) Tryz.func3
    (ChangeSpec.witness_shaped (enc := enc) (C := Tryz.checked) (os := os) (X := fun w _ => laidMetH Tryz.prog Rows.turnsOwnRow.laid w) false (World.laidAll Tryz.prog os Rows.turnsOwnRow.laid) #[.int .i64 0, .slice none 0 0] 8 (World.laidAll_os _ _ _)
      (World.shaped_of_ZipB (by kernel_rfl) (by kernel_rfl)) (by kernel_rfl) (by kernel_rfl) (by kernel_rfl)
      (by rw [MakeChecks.laidMetH_plain _ _ _ (by kernel_rfl)]; exact laidMet_laidAll _ (by kernel_rfl) (by kernel_rfl))) ?_
  intro W base args ds gs before hval0 hW hc _ hL _
  have hval : ∀ (j : Nat) t v, Tryz.f3.params[j]? = some t → args[j]? = some v → Value.okWide Tryz.prog W .any base t v := hval0
  have hW' := hW
  obtain ⟨p, q, hA0, hV, rfl, _, _⟩ := hW
  have hA : DataW.TrodAll enc Tryz.prog W 0 (fun _ => true) true Tryz.f3.params.toList args.toList ds p := hA0
  rw [Tryz.params3] at hA hval
  obtain ⟨v0, v1, d0, d1, p0, p1, rfl, rfl, rfl, h0, h1⟩ := trodAll_two hA
  obtain ⟨rfl, rfl⟩ := trodVars_none hV
  obtain ⟨x, rfl, rfl, rfl, wx⟩ := open_int u3 (hval 0 3 v0 rfl rfl) h0
  have hv1 := hval 1 22 v1 rfl rfl
  obtain ⟨a1, len1, cap1, rfl⟩ := okWide_slice u22 hv1
  obtain ⟨fuel, hf⟩ := h1
  have hf' : DataW.trod enc Tryz.prog W 0 (fun _ => true) true fuel 22 [.slice a1 len1 cap1] = some (d1, p1) := hf
  rcases open_ints u22 u3 c3 hf' with ⟨hcs, hx⟩ | ⟨a, len, cap, zs, hcs, hb, hlc, hcm, hz, hx, hcell, hwf⟩
  · simp only [List.cons.injEq, Value.slice.injEq, and_true] at hcs
    obtain ⟨rfl, rfl, rfl⟩ := hcs
    simp only [Prod.mk.injEq] at hx
    obtain ⟨rfl, rfl⟩ := hx
    refine (Eng.calls_nil (W := W) x).mono fun e W' ⟨he, hk⟩ => ⟨_, he, ?_⟩
    refine ⟨_, _, _, [], [], [], hW', trodAll_mk1 (shut_bool u4 _), trodAll_mk2 (shut_int u3 wx) ?_, rfl, kept_but hk _, fun h => by cases h⟩
    exact ⟨1, by simp [DataW.trod, Value.cells]⟩
  · simp only [List.cons.injEq, Value.slice.injEq, and_true] at hcs
    obtain ⟨rfl, rfl, rfl⟩ := hcs
    simp only [Prod.mk.injEq] at hx
    obtain ⟨rfl, rfl⟩ := hx
    have hsp : a.spot = none := by
      simp only [Value.okWide, u22, Cell.okWide, Cell.ok, World.has] at hv1
      exact hv1.2.2.2.1
    obtain ⟨c, off, sp⟩ := a
    simp only at hsp
    subst hsp
    have hzl : zs.length = cap1 := by simpa using hz
    have hadd : ∀ i, (⟨c, off, none⟩ : Addr).add i = ⟨c, off + i, none⟩ := fun i => by
      unfold Addr.add
      split
      · rename_i h; subst h; rfl
      · rfl
    refine (Eng.calls_slice (W := W) x (c := c) (off := off) (len := len1) (cap := cap1) (fun i hi => ⟨_, by rw [← hadd i]; exact hcell i (by omega)⟩)).mono fun e W' ⟨he, hk⟩ => ⟨_, he, ?_⟩
    refine ⟨_, _, _, [], _, [], hW', trodAll_mk1 (shut_bool u4 _), trodAll_mk2 (p' := MemPlace.row ⟨c, off, none⟩ zs.length) (shut_int u3 wx) ⟨0 + 2, ?_⟩, rfl, kept_but hk _, fun h => by cases h⟩
    refine shut_ints 0 u22 u3 c3 hb hlc hcm ?_ (fun i hi => kept_cell hk (hcell i hi)) hwf
    rw [hzl]
    split
    · rfl
    · rename_i hns
      have : ¬ 0 < cap1 := fun hpos => hns (by
        have hh := hcell 0 (by omega)
        unfold World.cell? at hh
        split at hh
        · rename_i c' t z hhc
          have := (Array.getElem?_eq_some_iff.1 hhc).1
          rw [hadd] at this
          simpa using this
        · cases hh)
      omega
end Go.Proofs.YtjlkbflcdagcbaaGreatDoor
