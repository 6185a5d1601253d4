/-
  A part of the proof of casketlaw17.TurnsOwn: the evaluator's soundness, or the law's own steps. By an AI agent.
-/
import Derived.Test.YtjlkbflcdagcbaaGreatDoorLC
namespace Go.Eng
theorem chain0 : chainB D0 NE0 fW q2472 11 (mkH M0 NB0) = true := by kernel_rfl
theorem fix0 : chainB D0 NE0 fW q2472 0 (mkH D0 NE0) = true := by kernel_rfl
theorem below0 : belowP NE0.val D0 = true := by kernel_rfl
theorem belowM0 : belowP NB0.val M0 = true := by kernel_rfl
end Go.Eng
