/-
  A part of the proof of casketlaw17.TurnsOwn: the evaluator's soundness, or the law's own steps. By an AI agent.
-/
import Derived.Test.YtjlkbflcdagcbaaGreatDoorCards
import Derived.ProofKit
namespace Go.Proofs.YtjlkbflcdagcbaaGreatDoor
open Go.ChangeShapes Go.WideShapes Go.ChangeAt Go.RowKit
theorem jf3 : (Rows.turnsOwnRow.unfollowed == Tryz.prog.unfollowed 3) = true := by kernel_rfl
theorem jf4 : (Rows.turnsOwnRow.recurses == Tryz.prog.recurses 3) = true := by kernel_rfl
theorem jf6 : (Rows.turnsOwnRow.named == Tryz.prog.varsNamed 3) = true := by kernel_rfl
end Go.Proofs.YtjlkbflcdagcbaaGreatDoor
