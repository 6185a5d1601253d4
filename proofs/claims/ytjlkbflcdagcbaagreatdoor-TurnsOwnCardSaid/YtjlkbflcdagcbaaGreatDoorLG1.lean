/-
  A part of the proof of casketlaw17.TurnsOwn: the evaluator's soundness, or the law's own steps. By an AI agent.
-/
import Derived.Test.YtjlkbflcdagcbaaGreatDoorLC
namespace Go.Eng
theorem chain1 : chainB D1 NE1 fV q4973 13 (mkH M1 NB1) = true := by kernel_rfl
theorem fix1 : chainB D1 NE1 fV q4973 0 (mkH D1 NE1) = true := by kernel_rfl
theorem below1 : belowP NE1.val D1 = true := by kernel_rfl
theorem belowM1 : belowP NB1.val M1 = true := by kernel_rfl
end Go.Eng
