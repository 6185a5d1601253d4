/-
  A part of the proof of casketlaw17.TurnsOwn: the evaluator's soundness, or the law's own steps. By an AI agent.
-/
import Derived.Test.YtjlkbflcdagcbaaGreatDoorCards
import Derived.ProofKit
namespace Go.Proofs.YtjlkbflcdagcbaaGreatDoor
open Go.ChangeShapes Go.WideShapes Go.ChangeAt Go.RowKit
theorem jf1 : laidOutB Tryz.prog = true := by kernel_rfl
theorem jf2 : (Rows.turnsOwnRow.inPlace == Tryz.prog.inPlace 3) = true := by kernel_rfl
theorem jf5 : mapsRowed Tryz.prog = true := by kernel_rfl
end Go.Proofs.YtjlkbflcdagcbaaGreatDoor
