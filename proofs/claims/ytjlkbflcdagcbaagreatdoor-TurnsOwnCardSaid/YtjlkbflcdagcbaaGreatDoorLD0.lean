/-
  A part of the proof of casketlaw17.TurnsOwn: the evaluator's soundness, or the law's own steps. By an AI agent.
-/
import Derived.Test.YtjlkbflcdagcbaaGreatDoorLC
namespace Go.Eng
open Go
theorem it0 (m : Nat) (ord : AV) : comesVs .normal [(5, tp), (6, src3), (7, iv 1)] (TA1 ++ M0) N1 [0, 1] (ev3 itb0 [(0, iv (m + 1)), (1, ord), (5, tp), (6, src3), (7, iv 0)] (mkH (TA0) N0)) = some [iv (m + 1), ord] := by kernel_rfl
end Go.Eng
