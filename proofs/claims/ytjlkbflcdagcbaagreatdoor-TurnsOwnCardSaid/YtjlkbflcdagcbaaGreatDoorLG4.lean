/-
  A part of the proof of casketlaw17.TurnsOwn: the evaluator's soundness, or the law's own steps. By an AI agent.
-/
import Derived.Test.YtjlkbflcdagcbaaGreatDoorLC
namespace Go.Eng
theorem chain4 : chainB D4 NE4 fW q12808 19 (mkH M4 NB4) = true := by kernel_rfl
theorem fix4 : chainB D4 NE4 fW q12808 0 (mkH D4 NE4) = true := by kernel_rfl
theorem below4 : belowP NE4.val D4 = true := by kernel_rfl
theorem belowM4 : belowP NB4.val M4 = true := by kernel_rfl
end Go.Eng
