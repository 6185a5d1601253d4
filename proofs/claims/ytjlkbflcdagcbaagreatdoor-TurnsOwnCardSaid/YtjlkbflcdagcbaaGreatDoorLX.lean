/-
  A part of the proof of casketlaw17.TurnsOwn: the evaluator's soundness, or the law's own steps. By an AI agent.
-/
import Derived.Test.YtjlkbflcdagcbaaGreatDoorLK
namespace Go.Eng
open Go
noncomputable section
def ops28b : Array Oper := opsOf (sqL b9)
def dd28 : List Nat := ddsOf (ops28b.toList.take 5) []
def lf28 : List (Nat × AV) := [(122, .bool true)]
/-- the last operations: whether all is awake -/
def awB : Option AV := match partL P0 R0 X3 .nil ops28b.toList (ops28b.toList.drop 5) dd28 (mkE lf28) [] (mkH [] NB0) with
  | some (t, _, _) => t.get 4
  | none => none
def awD : Bool := match partL P0 R0 X3 .nil ops28b.toList (ops28b.toList.drop 5) dd28 (mkE lf28) [] (mkH [] NB0) with
  | some (t, d, _) => isV (t.get 4) (.bool true) && noD d
  | none => false
end
theorem awake_fact : awD = true := by kernel_rfl
end Go.Eng
