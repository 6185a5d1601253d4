/-
  A part of the proof of casketlaw17.TurnsOwn: the evaluator's soundness, or the law's own steps. By an AI agent.
-/
import Derived.Test.YtjlkbflcdagcbaaGreatDoorLA
import Derived.Test.YtjlkbflcdagcbaaGreatDoorProg
import Derived.KernelRfl
namespace Go.Eng
open Go
noncomputable section
abbrev P0 : Program := Go.Proofs.Tryz.prog
def R0 : Rec := runR P0 198 100000
def X3 : List Nat := [117, 15, 13, 14, 89, 12, 79, 11, 65, 10, 61, 9, 8, 6, 32, 7, 29, 5, 26, 1, 0, 4]
def sqL (c : Code) : Code := match c with | .seq a _ => a | c => c
def sqR (c : Code) : Code := match c with | .seq _ b => b | c => c
def inB (c : Code) : Code := match c with | .block _ b => b | .loop b => b | c => c
def body3 : Code := match Go.Proofs.Tryz.f3.body with | some c => c | none => .skip
def b1 : Code := sqR body3
def b2 : Code := sqR b1
def b3 : Code := sqR b2
def b4 : Code := sqR b3
def b5 : Code := sqR b4
def b6 : Code := sqR b5
def b7 : Code := sqR b6
def b8 : Code := sqR b7
def b9 : Code := sqR b8
def itb0 : Code := inB (inB (sqR (sqL b5)))
def itb2 : Code := inB (inB (sqR (sqL b6)))
def itb4 : Code := inB (inB (sqR (sqL b7)))
def itb6 : Code := inB (inB (sqR (sqL b8)))
def ev3 (c : Code) (L : List (Nat × AV)) (h : H) : RC := evalI P0 R0 none 3 (planC P0 X3 125 c) ⟨mkE L, []⟩ h
def src3 : AV := .str [108, 101, 116, 32, 99, 59, 32, 102, 110, 32, 102, 40, 110, 41, 32, 123, 32, 99, 32, 61, 32, 48, 59, 32, 102, 111, 114, 32, 105, 32, 105, 110, 32, 48, 46, 46, 110, 32, 123, 32, 99, 32, 61, 32, 99, 32, 43, 32, 105, 59, 32, 125, 32, 114, 101, 116, 117, 114, 110, 32, 99, 59, 32, 125]
abbrev iv (n : Nat) : AV := .int .i64 (.ofNat n)
abbrev tp : AV := .ptr q1 0
abbrev ordA (len : Nat) : AV := .sl .e 0 1 len none
/-- the first look's names end here -/
def NT : Ps := (.i (.o (.o (.o (.o (.o (.o (.i (.o (.i (.i (.i (.i Ps.e)))))))))))))
def NT1 : Ps := NT.inc
def NT2 : Ps := NT1.inc
end
end Go.Eng

namespace Go.Eng
open Go
noncomputable section
/-! ### one machine's steps -/
def stepA (f : Nat) (r : Ps) (h : H) : RV := R0.cf f [.ptr r 0] h
/-- so many steps that go on, then one that does not; and what there is then -/
def chainB (D : List (Ps × Blk)) (N : Ps) (f : Nat) (r : Ps) (k : Nat) : H → Bool :=
  Nat.rec (motive := fun _ => H → Bool)
    (fun h => match stepA f r h with
      | .ok (.bool false) h' => subL D h' && Nat.ble h'.next.val N.val
      | _ => false)
    (fun _ ih h => match stepA f r h with
      | .ok (.bool true) h' => ih h'
      | _ => false) k
def fW : Nat := 441
def fV : Nat := 476
end
end Go.Eng
