/-
  A part of the proof of casketlaw17.TurnsOwn: the evaluator's soundness, or the law's own steps. By an AI agent.
-/
import Derived.Test.YtjlkbflcdagcbaaGreatDoorLC
namespace Go.Eng
theorem chain5 : chainB D5 NE5 fV q15309 21 (mkH M5 NB5) = true := by kernel_rfl
theorem fix5 : chainB D5 NE5 fV q15309 0 (mkH D5 NE5) = true := by kernel_rfl
theorem below5 : belowP NE5.val D5 = true := by kernel_rfl
theorem belowM5 : belowP NB5.val M5 = true := by kernel_rfl
end Go.Eng
