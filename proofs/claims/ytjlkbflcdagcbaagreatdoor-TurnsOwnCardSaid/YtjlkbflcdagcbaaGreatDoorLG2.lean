/-
  A part of the proof of casketlaw17.TurnsOwn: the evaluator's soundness, or the law's own steps. By an AI agent.
-/
import Derived.Test.YtjlkbflcdagcbaaGreatDoorLC
namespace Go.Eng
theorem chain2 : chainB D2 NE2 fW q7640 15 (mkH M2 NB2) = true := by kernel_rfl
theorem fix2 : chainB D2 NE2 fW q7640 0 (mkH D2 NE2) = true := by kernel_rfl
theorem below2 : belowP NE2.val D2 = true := by kernel_rfl
theorem belowM2 : belowP NB2.val M2 = true := by kernel_rfl
end Go.Eng
