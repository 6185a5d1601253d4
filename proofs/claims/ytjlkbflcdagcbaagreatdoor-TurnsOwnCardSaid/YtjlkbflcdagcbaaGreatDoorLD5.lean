/-
  A part of the proof of casketlaw17.TurnsOwn: the evaluator's soundness, or the law's own steps. By an AI agent.
-/
import Derived.Test.YtjlkbflcdagcbaaGreatDoorLC
namespace Go.Eng
open Go
theorem it5 (m : Nat) (ord : AV) : comesVs .normal [(5, tp), (6, src3), (7, iv 6)] (TA6 ++ M0 ++ M1 ++ M2 ++ M3 ++ M4 ++ M5) N6 [0, 1] (ev3 itb0 [(0, iv (m + 6)), (1, ord), (5, tp), (6, src3), (7, iv 5)] (mkH (TA5 ++ M0 ++ M1 ++ M2 ++ M3 ++ M4) N5)) = some [iv (m + 6), ord] := by kernel_rfl
end Go.Eng
