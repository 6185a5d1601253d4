/-
  A part of the proof of casketlaw17.TurnsOwn: the evaluator's soundness, or the law's own steps. By an AI agent.
-/
import Derived.Test.YtjlkbflcdagcbaaGreatDoorLC
namespace Go.Eng
open Go
theorem it1 (m : Nat) (ord : AV) : comesVs .normal [(5, tp), (6, src3), (7, iv 2)] (TA2 ++ M0 ++ M1) N2 [0, 1] (ev3 itb0 [(0, iv (m + 2)), (1, ord), (5, tp), (6, src3), (7, iv 1)] (mkH (TA1 ++ M0) N1)) = some [iv (m + 2), ord] := by kernel_rfl
end Go.Eng
