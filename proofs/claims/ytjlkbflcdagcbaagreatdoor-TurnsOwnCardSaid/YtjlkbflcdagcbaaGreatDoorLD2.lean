/-
  A part of the proof of casketlaw17.TurnsOwn: the evaluator's soundness, or the law's own steps. By an AI agent.
-/
import Derived.Test.YtjlkbflcdagcbaaGreatDoorLC
namespace Go.Eng
open Go
theorem it2 (m : Nat) (ord : AV) : comesVs .normal [(5, tp), (6, src3), (7, iv 3)] (TA3 ++ M0 ++ M1 ++ M2) N3 [0, 1] (ev3 itb0 [(0, iv (m + 3)), (1, ord), (5, tp), (6, src3), (7, iv 2)] (mkH (TA2 ++ M0 ++ M1) N2)) = some [iv (m + 3), ord] := by kernel_rfl
end Go.Eng
