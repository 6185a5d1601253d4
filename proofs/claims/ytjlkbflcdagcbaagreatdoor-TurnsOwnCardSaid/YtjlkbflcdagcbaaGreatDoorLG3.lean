/-
  A part of the proof of casketlaw17.TurnsOwn: the evaluator's soundness, or the law's own steps. By an AI agent.
-/
import Derived.Test.YtjlkbflcdagcbaaGreatDoorLC
namespace Go.Eng
theorem chain3 : chainB D3 NE3 fV q10141 17 (mkH M3 NB3) = true := by kernel_rfl
theorem fix3 : chainB D3 NE3 fV q10141 0 (mkH D3 NE3) = true := by kernel_rfl
theorem below3 : belowP NE3.val D3 = true := by kernel_rfl
theorem belowM3 : belowP NB3.val M3 = true := by kernel_rfl
end Go.Eng
