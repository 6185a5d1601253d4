/-
  A part of the proof of casketlaw17.TurnsOwn: the evaluator's soundness, or the law's own steps. By an AI agent.
-/
import Derived.Test.YtjlkbflcdagcbaaGreatDoorCards
import Derived.ProofKit
namespace Go.Proofs.YtjlkbflcdagcbaaGreatDoor
open Go.ChangeShapes Go.WideShapes Go.ChangeAt Go.RowKit
theorem jf7 : (Rows.turnsOwnRow.plainKeys == Tryz.prog.plainKeys) = true := by kernel_rfl
theorem jf8 : Tryz.prog.stopsHeard = true := by kernel_rfl
theorem jf9 : Tryz.prog.mayEnter = true := by kernel_rfl
theorem jf10 : Rows.turnsOwnRow.wf (OpenSpec.ofChange Rows.turnsOwnSpec) = true := by kernel_rfl
theorem jf11 : Tryz.f3.params.all (Tryz.prog.readableRec ·) = true := by kernel_rfl
theorem jf12 : namedTie Tryz.prog Rows.turnsOwnRow.named Rows.turnsOwnSpec.vars = true := by kernel_rfl
theorem jf13 : (Rows.turnsOwnRow.stops == []) = true := by kernel_rfl
theorem jf14 : (Tryz.prog.stops == []) = true := by kernel_rfl
theorem jf15 : (Rows.turnsOwnRow.knobs == []) = true := by kernel_rfl
theorem jf16 : (Tryz.prog.stopKnobs == []) = true := by kernel_rfl
theorem jf17 : (Rows.turnsOwnRow.lifted == Tryz.prog.liftsFinal) = true := by kernel_rfl
theorem jf18 : (Tryz.prog.make == some Rows.turnsOwnRow.make) = true := by kernel_rfl
end Go.Proofs.YtjlkbflcdagcbaaGreatDoor
