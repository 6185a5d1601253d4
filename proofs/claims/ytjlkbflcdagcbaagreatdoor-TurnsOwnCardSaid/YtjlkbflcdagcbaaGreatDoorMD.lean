/-
  A part of the proof of casketlaw17.TurnsOwn: the evaluator's soundness, or the law's own steps. By an AI agent.
-/
import Derived.Test.YtjlkbflcdagcbaaGreatDoorMB
namespace Go.Proofs.YtjlkbflcdagcbaaGreatDoor
open Go.ChangeShapes Go.WideShapes Go.ChangeAt Go.RowKit
theorem closed : joinedFacts Tryz.prog 3 Tryz.f3 Rows.turnsOwnSpec Rows.turnsOwnRow = true := by
  unfold joinedFacts
  rw [jf1, jf2, jf3, jf4, jf5, jf6, jf7, jf8, jf9, jf10, jf11, jf12, jf13, jf14, jf15, jf16, jf17, jf18]
  kernel_rfl
theorem inst : Tryz.f3.isInstance Tryz.prog Rows.turnsOwnRow.origin Rows.turnsOwnRow.targs := of_decide_eq_true (by kernel_rfl)
theorem wrap : Tryz.f3.isWrapper Tryz.prog Rows.turnsOwnRow.wrapper Rows.turnsOwnRow.mainSum := by
  unfold Func.isWrapper; first | (rw [if_pos (by decide +kernel)]; kernel_rfl) | (rw [if_neg (by decide +kernel)]; exact ⟨rfl, rfl⟩)
theorem named3 : Tryz.prog.funcNamed Rows.turnsOwnRow.func = some 3 := by kernel_rfl
theorem turnsOwn_holds : Rows.TurnsOwnSaid :=
  OpenClaim.holds_of_wide 3 Tryz.f3 rfl rfl rfl rfl rfl rfl rfl ⟨rfl, rfl, rfl, rfl, rfl⟩ rfl rfl rfl rfl rfl named3 Tryz.func3 closed inst wrap
    (fun os started H enc _ => lifted os started H enc)
#print axioms turnsOwn_holds
end Go.Proofs.YtjlkbflcdagcbaaGreatDoor
