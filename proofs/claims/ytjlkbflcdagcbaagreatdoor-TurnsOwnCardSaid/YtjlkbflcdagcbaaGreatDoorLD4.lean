/-
  A part of the proof of casketlaw17.TurnsOwn: the evaluator's soundness, or the law's own steps. By an AI agent.
-/
import Derived.Test.YtjlkbflcdagcbaaGreatDoorLC
namespace Go.Eng
open Go
theorem it4 (m : Nat) (ord : AV) : comesVs .normal [(5, tp), (6, src3), (7, iv 5)] (TA5 ++ M0 ++ M1 ++ M2 ++ M3 ++ M4) N5 [0, 1] (ev3 itb0 [(0, iv (m + 5)), (1, ord), (5, tp), (6, src3), (7, iv 4)] (mkH (TA4 ++ M0 ++ M1 ++ M2 ++ M3) N4)) = some [iv (m + 5), ord] := by kernel_rfl
end Go.Eng
