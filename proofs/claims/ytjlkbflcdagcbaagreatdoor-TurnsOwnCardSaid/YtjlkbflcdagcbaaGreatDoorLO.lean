/-
  A part of the proof of casketlaw17.TurnsOwn: the evaluator's soundness, or the law's own steps. By an AI agent.
-/
import Derived.Test.YtjlkbflcdagcbaaGreatDoorLK
import Derived.Test.YtjlkbflcdagcbaaGreatDoorLG0
import Derived.Test.YtjlkbflcdagcbaaGreatDoorLG1
import Derived.Test.YtjlkbflcdagcbaaGreatDoorLG2
import Derived.Test.YtjlkbflcdagcbaaGreatDoorLG3
import Derived.Test.YtjlkbflcdagcbaaGreatDoorLG4
import Derived.Test.YtjlkbflcdagcbaaGreatDoorLG5
import Derived.Test.YtjlkbflcdagcbaaGreatDoorLD0
import Derived.Test.YtjlkbflcdagcbaaGreatDoorLD1
import Derived.Test.YtjlkbflcdagcbaaGreatDoorLD2
import Derived.Test.YtjlkbflcdagcbaaGreatDoorLD3
import Derived.Test.YtjlkbflcdagcbaaGreatDoorLD4
import Derived.Test.YtjlkbflcdagcbaaGreatDoorLD5
namespace Go.Eng
open Go
noncomputable section
/-! ### the six machines, and the first look -/
def mM (j : Nat) : List (Ps × Blk) := match j with | 0 => M0 | 1 => M1 | 2 => M2 | 3 => M3 | 4 => M4 | _ => M5
def mD (j : Nat) : List (Ps × Blk) := match j with | 0 => D0 | 1 => D1 | 2 => D2 | 3 => D3 | 4 => D4 | _ => D5
def mNB (j : Nat) : Ps := match j with | 0 => NB0 | 1 => NB1 | 2 => NB2 | 3 => NB3 | 4 => NB4 | _ => NB5
def mNE (j : Nat) : Ps := match j with | 0 => NE0 | 1 => NE1 | 2 => NE2 | 3 => NE3 | 4 => NE4 | _ => NE5
def mr (j : Nat) : Ps := match j with | 0 => q2472 | 1 => q4973 | 2 => q7640 | 3 => q10141 | 4 => q12808 | _ => q15309
def ms (j : Nat) : Ps := match j with | 0 => q2317 | 1 => q4815 | 2 => q7485 | 3 => q9983 | 4 => q12653 | _ => q15151
def mT (j : Nat) : Nat := match j with | 0 => 11 | 1 => 13 | 2 => 15 | 3 => 17 | 4 => 19 | _ => 21
def mf (j : Nat) : Nat := match j with | 0 => 441 | 1 => 476 | 2 => 441 | 3 => 476 | 4 => 441 | _ => 476
def mty (j : Nat) : Nat := match j with | 0 => 47 | 1 => 51 | 2 => 47 | 3 => 51 | 4 => 47 | _ => 51
def mTA (j : Nat) : List (Ps × Blk) := match j with | 0 => TA0 | 1 => TA1 | 2 => TA2 | 3 => TA3 | 4 => TA4 | 5 => TA5 | _ => TA6
def mN (j : Nat) : Ps := match j with | 0 => N0 | 1 => N1 | 2 => N2 | 3 => N3 | 4 => N4 | 5 => N5 | _ => N6
def mA (j : Nat) : Ps := match j with | 0 => q1 | 1 => q2477 | 2 => q5149 | 3 => q7645 | 4 => q10317 | 5 => q12813 | _ => q15485
def hAll (j : Nat) : List (Ps × Blk) := match j with | 0 => TA0 | 1 => TA1 ++ M0 | 2 => TA2 ++ M0 ++ M1 | 3 => TA3 ++ M0 ++ M1 ++ M2 | 4 => TA4 ++ M0 ++ M1 ++ M2 ++ M3 | 5 => TA5 ++ M0 ++ M1 ++ M2 ++ M3 ++ M4 | _ => TA6 ++ M0 ++ M1 ++ M2 ++ M3 ++ M4 ++ M5
end
theorem m_chain : ∀ j, j < 6 → chainB (mD j) (mNE j) (mf j) (mr j) (mT j) (mkH (mM j) (mNB j)) = true
  | 0, _ => chain0
  | 1, _ => chain1
  | 2, _ => chain2
  | 3, _ => chain3
  | 4, _ => chain4
  | 5, _ => chain5
  | j + 6, h => by omega
theorem m_fix : ∀ j, j < 6 → chainB (mD j) (mNE j) (mf j) (mr j) 0 (mkH (mD j) (mNE j)) = true
  | 0, _ => fix0
  | 1, _ => fix1
  | 2, _ => fix2
  | 3, _ => fix3
  | 4, _ => fix4
  | 5, _ => fix5
  | j + 6, h => by omega
theorem m_below : ∀ j, j < 6 → belowP (mNE j).val (mD j) = true
  | 0, _ => below0
  | 1, _ => below1
  | 2, _ => below2
  | 3, _ => below3
  | 4, _ => below4
  | 5, _ => below5
  | j + 6, h => by omega
theorem m_belowM : ∀ j, j < 6 → belowP (mNB j).val (mM j) = true
  | 0, _ => belowM0
  | 1, _ => belowM1
  | 2, _ => belowM2
  | 3, _ => belowM3
  | 4, _ => belowM4
  | 5, _ => belowM5
  | j + 6, h => by omega
theorem m_inv : ∀ j, j < 6 → InvOK (mf j) (mty j)
  | 0, _ => invW
  | 1, _ => invV
  | 2, _ => invW
  | 3, _ => invV
  | 4, _ => invW
  | 5, _ => invV
  | j + 6, h => by omega
theorem m_T : ∀ j, j < 6 → mT j < 22
  | 0, _ => by decide
  | 1, _ => by decide
  | 2, _ => by decide
  | 3, _ => by decide
  | 4, _ => by decide
  | 5, _ => by decide
  | j + 6, h => by omega
end Go.Eng

namespace Go.Eng
open Go
noncomputable section
/-- 'Go' for a machine that is not there -/
def outB (TA : List (Ps × Blk)) (v : AV) : Bool := match R0.cv (.fn 7 [] []) [tp, slA NT, slA NT1] (((mkH TA NT).add (cl false [iv 1])).add (cl false [v])) with
  | .ok _ h' => subL TA h'
  | .no => false
end
theorem go_all : allN (fun n => allN (fun j => goB (mTA (n + 1)) 1 j (mr j) (mty j) 23 && goB (mTA (n + 1)) 999 j (mr j) (mty j) 23) (n + 1)) 6 = true := by kernel_rfl
theorem out_neg1 (m : Nat) : outB TA1 (.int .i64 (.negSucc m)) = true := by kernel_rfl
theorem out_pos1 (m : Nat) : outB TA1 (iv (m + 1)) = true := by kernel_rfl
theorem out_neg2 (m : Nat) : outB TA2 (.int .i64 (.negSucc m)) = true := by kernel_rfl
theorem out_pos2 (m : Nat) : outB TA2 (iv (m + 2)) = true := by kernel_rfl
theorem out_neg3 (m : Nat) : outB TA3 (.int .i64 (.negSucc m)) = true := by kernel_rfl
theorem out_pos3 (m : Nat) : outB TA3 (iv (m + 3)) = true := by kernel_rfl
theorem out_neg4 (m : Nat) : outB TA4 (.int .i64 (.negSucc m)) = true := by kernel_rfl
theorem out_pos4 (m : Nat) : outB TA4 (iv (m + 4)) = true := by kernel_rfl
theorem out_neg5 (m : Nat) : outB TA5 (.int .i64 (.negSucc m)) = true := by kernel_rfl
theorem out_pos5 (m : Nat) : outB TA5 (iv (m + 5)) = true := by kernel_rfl
theorem out_neg6 (m : Nat) : outB TA6 (.int .i64 (.negSucc m)) = true := by kernel_rfl
theorem out_pos6 (m : Nat) : outB TA6 (iv (m + 6)) = true := by kernel_rfl
theorem out_all {n : Nat} (h1 : 1 ≤ n) (h6 : n ≤ 6) {v : Int} (hv : ¬ (0 ≤ v ∧ v < n)) : outB (mTA n) (.int .i64 v) = true := by
  have key : (∃ m, v = .negSucc m) ∨ ∃ m, v = .ofNat (m + n) := by
    cases v with
    | ofNat x => exact .inr ⟨x - n, by
        have : n ≤ x := by
          refine Classical.byContradiction fun h => hv ⟨by simp, ?_⟩
          have : x < n := by omega
          exact Int.ofNat_lt.2 this
        congr 1; omega⟩
    | negSucc m => exact .inl ⟨m, rfl⟩
  rcases key with ⟨m, rfl⟩ | ⟨m, rfl⟩
  · match n, h1, h6 with
    | 1, _, _ => exact out_neg1 m
    | 2, _, _ => exact out_neg2 m
    | 3, _, _ => exact out_neg3 m
    | 4, _, _ => exact out_neg4 m
    | 5, _, _ => exact out_neg5 m
    | 6, _, _ => exact out_neg6 m
  · match n, h1, h6 with
    | 1, _, _ => exact out_pos1 m
    | 2, _, _ => exact out_pos2 m
    | 3, _, _ => exact out_pos3 m
    | 4, _, _ => exact out_pos4 m
    | 5, _, _ => exact out_pos5 m
    | 6, _, _ => exact out_pos6 m
theorem go_fact {n j q : Nat} (h6 : n ≤ 6) (hj : j < n) (hq : q = 1 ∨ q = 999) : goB (mTA n) q j (mr j) (mty j) 23 = true := by
  obtain ⟨m, rfl⟩ : ∃ m, n = m + 1 := ⟨n - 1, by omega⟩
  have h := allN_iff (allN_iff go_all m (by omega)) j hj
  rw [Bool.and_eq_true] at h
  rcases hq with rfl | rfl
  · exact h.1
  · exact h.2
end Go.Eng

namespace Go.Eng
open Go
noncomputable section
/-! ### the law's own code -/
def t0 : Code := sqL body3
def t1 : Code := sqL b1
def t2 : Code := sqL b2
def t3 : Code := sqL b3
def t4 : Code := sqL b4
def t5 : Code := sqL (sqL b5)
def t6 : Code := sqL (sqL b6)
def t7 : Code := sqL (sqL b7)
def t8 : Code := sqL (sqL b8)
def r28 : Code := sqL b9
def r14 : Code := sqL (sqL itb2)
def if2 : Code := sqR (sqL itb2)
def r16 : Code := inB (sqL (sqR itb2))
def r15 : Code := sqR (sqR itb2)
def r18 : Code := sqL (sqL itb4)
def if4 : Code := sqR (sqL itb4)
def r20 : Code := inB (sqL (sqR itb4))
def r19 : Code := sqR (sqR itb4)
def ops16 : Array Oper := opsOf r16
def ops20 : Array Oper := opsOf r20
def ops28 : Array Oper := opsOf r28
def Lin (n : Nat) (ord : AV) : List (Nat × AV) := [(0, iv n), (1, ord)]
def L5 (n : Nat) (ord : AV) : List (Nat × AV) := [(0, iv n), (1, ord), (5, tp)]
def L6 (n : Nat) (ord : AV) : List (Nat × AV) := [(0, iv n), (1, ord), (5, tp), (6, src3)]
def L7 (n : Nat) (ord : AV) (i : Nat) : List (Nat × AV) := [(0, iv n), (1, ord), (5, tp), (6, src3), (7, iv i)]
def LC (n : Nat) (ord : AV) (idx : Nat) : List (Nat × AV) := [(1, ord), (0, iv n), (5, tp), (10, iv idx)]
def L14 (n : Nat) (ord : AV) (idx : Nat) (t : Bool) : List (Nat × AV) := [(65, .bool t), (1, ord), (10, iv idx), (0, iv n), (5, tp)]
def L4 (n : Nat) (j : AV) : List (Nat × AV) := [(0, iv n), (5, tp), (11, j)]
def L479 (n : Nat) (j : AV) (t : Bool) : List (Nat × AV) := [(79, .bool t), (0, iv n), (5, tp), (11, j)]
def L8 (n i : Nat) : List (Nat × AV) := [(0, iv n), (5, tp), (12, iv i)]
def prevA (j : Nat) : AV := Nat.rec (motive := fun _ => AV) (.int .i64 (.negSucc 0)) (fun k _ => iv k) j
/-- the beginning, for so many machines and such an order -/
def preB (n : Nat) (ord : AV) : Bool :=
  comesTo .normal (Lin n ord) [] q1 (ev3 t0 (Lin n ord) (mkH [] q1)) && (comesTo .normal (Lin n ord) [] q1 (ev3 t1 (Lin n ord) (mkH [] q1)) && (comesTo .normal (L5 n ord) TA0 N0 (ev3 t2 (Lin n ord) (mkH [] q1)) &&
  (comesTo .normal (L5 n ord) TA0 N0 (ev3 t3 (L5 n ord) (mkH TA0 N0)) && (comesTo .normal (L6 n ord) TA0 N0 (ev3 t4 (L5 n ord) (mkH TA0 N0)) && comesTo .normal (L7 n ord 0) TA0 N0 (ev3 t5 (L6 n ord) (mkH TA0 N0))))))
end
theorem body3_eq : Go.Proofs.Tryz.f3.body = some (.seq t0 (.seq t1 (.seq t2 (.seq t3 (.seq t4 (.seq (.seq t5 (.block 0 (.loop itb0))) (.seq (.seq t6 (.block 2 (.loop itb2))) (.seq (.seq t7 (.block 4 (.loop itb4))) (.seq (.seq t8 (.block 6 (.loop itb6))) (.seq r28 .ret)))))))))) := by kernel_rfl
theorem itb2_eq : itb2 = .seq (.seq r14 if2) (.seq (.block 3 r16) r15) := by kernel_rfl
theorem if2_eq : if2 = .cond (.tmp 65) .skip (.exit 2) := by kernel_rfl
theorem r16_eq : r16 = .region (rid r16) ops16 false := by kernel_rfl
theorem itb4_eq : itb4 = .seq (.seq r18 if4) (.seq (.block 5 r20) r19) := by kernel_rfl
theorem if4_eq : if4 = .cond (.tmp 79) .skip (.exit 4) := by kernel_rfl
theorem r20_eq : r20 = .region (rid r20) ops20 false := by kernel_rfl
theorem r28_eq : r28 = .region (rid r28) ops28 false := by kernel_rfl
theorem pre_some : allN (fun n => allN (fun len => preB (n + 1) (ordA len)) 101) 6 = true := by kernel_rfl
theorem pre_nil : allN (fun n => preB (n + 1) .sl0) 6 = true := by kernel_rfl
theorem it_fact {n i : Nat} (hi : i < n) (h6 : n ≤ 6) (ord : AV) : comesVs .normal [(5, tp), (6, src3), (7, iv (i + 1))] (hAll (i + 1)) (mN (i + 1)) [0, 1] (ev3 itb0 (L7 n ord i) (mkH (hAll i) (mN i))) = some [iv n, ord] := by
  obtain ⟨m, rfl⟩ : ∃ m, n = m + (i + 1) := ⟨n - (i + 1), by omega⟩
  match i, h6 with
  | 0, _ => exact it0 m ord
  | 1, _ => exact it1 m ord
  | 2, _ => exact it2 m ord
  | 3, _ => exact it3 m ord
  | 4, _ => exact it4 m ord
  | 5, _ => exact it5 m ord
  | i + 6, h => omega
theorem exit0_1 (ord : AV) : comesVs (.exit 0) [(5, tp)] (hAll 1) (mN 1) [0, 1] (ev3 itb0 (L7 1 ord 1) (mkH (hAll 1) (mN 1))) = some [iv 1, ord] := by kernel_rfl
theorem exit0_2 (ord : AV) : comesVs (.exit 0) [(5, tp)] (hAll 2) (mN 2) [0, 1] (ev3 itb0 (L7 2 ord 2) (mkH (hAll 2) (mN 2))) = some [iv 2, ord] := by kernel_rfl
theorem exit0_3 (ord : AV) : comesVs (.exit 0) [(5, tp)] (hAll 3) (mN 3) [0, 1] (ev3 itb0 (L7 3 ord 3) (mkH (hAll 3) (mN 3))) = some [iv 3, ord] := by kernel_rfl
theorem exit0_4 (ord : AV) : comesVs (.exit 0) [(5, tp)] (hAll 4) (mN 4) [0, 1] (ev3 itb0 (L7 4 ord 4) (mkH (hAll 4) (mN 4))) = some [iv 4, ord] := by kernel_rfl
theorem exit0_5 (ord : AV) : comesVs (.exit 0) [(5, tp)] (hAll 5) (mN 5) [0, 1] (ev3 itb0 (L7 5 ord 5) (mkH (hAll 5) (mN 5))) = some [iv 5, ord] := by kernel_rfl
theorem exit0_6 (ord : AV) : comesVs (.exit 0) [(5, tp)] (hAll 6) (mN 6) [0, 1] (ev3 itb0 (L7 6 ord 6) (mkH (hAll 6) (mN 6))) = some [iv 6, ord] := by kernel_rfl
theorem exit0_fact {n : Nat} (h1 : 1 ≤ n) (h6 : n ≤ 6) (ord : AV) : comesVs (.exit 0) [(5, tp)] (hAll n) (mN n) [0, 1] (ev3 itb0 (L7 n ord n) (mkH (hAll n) (mN n))) = some [iv n, ord] := by
  match n, h1, h6 with
  | 1, _, _ => exact exit0_1 ord
  | 2, _, _ => exact exit0_2 ord
  | 3, _, _ => exact exit0_3 ord
  | 4, _, _ => exact exit0_4 ord
  | 5, _, _ => exact exit0_5 ord
  | 6, _, _ => exact exit0_6 ord
theorem r13_1 (ord : AV) : comesVs .normal [(0, iv 1), (5, tp), (10, iv 0)] (mTA 1) NT [1] (ev3 t6 (L5 1 ord) (mkH (mTA 1) NT)) = some [ord] := by kernel_rfl
theorem r13_2 (ord : AV) : comesVs .normal [(0, iv 2), (5, tp), (10, iv 0)] (mTA 2) NT [1] (ev3 t6 (L5 2 ord) (mkH (mTA 2) NT)) = some [ord] := by kernel_rfl
theorem r13_3 (ord : AV) : comesVs .normal [(0, iv 3), (5, tp), (10, iv 0)] (mTA 3) NT [1] (ev3 t6 (L5 3 ord) (mkH (mTA 3) NT)) = some [ord] := by kernel_rfl
theorem r13_4 (ord : AV) : comesVs .normal [(0, iv 4), (5, tp), (10, iv 0)] (mTA 4) NT [1] (ev3 t6 (L5 4 ord) (mkH (mTA 4) NT)) = some [ord] := by kernel_rfl
theorem r13_5 (ord : AV) : comesVs .normal [(0, iv 5), (5, tp), (10, iv 0)] (mTA 5) NT [1] (ev3 t6 (L5 5 ord) (mkH (mTA 5) NT)) = some [ord] := by kernel_rfl
theorem r13_6 (ord : AV) : comesVs .normal [(0, iv 6), (5, tp), (10, iv 0)] (mTA 6) NT [1] (ev3 t6 (L5 6 ord) (mkH (mTA 6) NT)) = some [ord] := by kernel_rfl
theorem r13_fact {n : Nat} (h1 : 1 ≤ n) (h6 : n ≤ 6) (ord : AV) : comesVs .normal [(0, iv n), (5, tp), (10, iv 0)] (mTA n) NT [1] (ev3 t6 (L5 n ord) (mkH (mTA n) NT)) = some [ord] := by
  match n, h1, h6 with
  | 1, _, _ => exact r13_1 ord
  | 2, _, _ => exact r13_2 ord
  | 3, _, _ => exact r13_3 ord
  | 4, _, _ => exact r13_4 ord
  | 5, _, _ => exact r13_5 ord
  | 6, _, _ => exact r13_6 ord
theorem r14s_1 (idx len : Nat) : comesVs .normal [(0, iv 1), (5, tp)] (mTA 1) NT [65, 1, 10] (ev3 r14 (LC 1 (ordA len) idx) (mkH (mTA 1) NT)) = some [.bool (Nat.blt idx len), ordA len, iv idx] := by kernel_rfl
theorem r14n_1 (idx : Nat) : comesVs .normal [(0, iv 1), (5, tp)] (mTA 1) NT [65, 1, 10] (ev3 r14 (LC 1 .sl0 idx) (mkH (mTA 1) NT)) = some [.bool (Nat.blt idx 0), .sl0, iv idx] := by kernel_rfl
theorem r14s_2 (idx len : Nat) : comesVs .normal [(0, iv 2), (5, tp)] (mTA 2) NT [65, 1, 10] (ev3 r14 (LC 2 (ordA len) idx) (mkH (mTA 2) NT)) = some [.bool (Nat.blt idx len), ordA len, iv idx] := by kernel_rfl
theorem r14n_2 (idx : Nat) : comesVs .normal [(0, iv 2), (5, tp)] (mTA 2) NT [65, 1, 10] (ev3 r14 (LC 2 .sl0 idx) (mkH (mTA 2) NT)) = some [.bool (Nat.blt idx 0), .sl0, iv idx] := by kernel_rfl
theorem r14s_3 (idx len : Nat) : comesVs .normal [(0, iv 3), (5, tp)] (mTA 3) NT [65, 1, 10] (ev3 r14 (LC 3 (ordA len) idx) (mkH (mTA 3) NT)) = some [.bool (Nat.blt idx len), ordA len, iv idx] := by kernel_rfl
theorem r14n_3 (idx : Nat) : comesVs .normal [(0, iv 3), (5, tp)] (mTA 3) NT [65, 1, 10] (ev3 r14 (LC 3 .sl0 idx) (mkH (mTA 3) NT)) = some [.bool (Nat.blt idx 0), .sl0, iv idx] := by kernel_rfl
theorem r14s_4 (idx len : Nat) : comesVs .normal [(0, iv 4), (5, tp)] (mTA 4) NT [65, 1, 10] (ev3 r14 (LC 4 (ordA len) idx) (mkH (mTA 4) NT)) = some [.bool (Nat.blt idx len), ordA len, iv idx] := by kernel_rfl
theorem r14n_4 (idx : Nat) : comesVs .normal [(0, iv 4), (5, tp)] (mTA 4) NT [65, 1, 10] (ev3 r14 (LC 4 .sl0 idx) (mkH (mTA 4) NT)) = some [.bool (Nat.blt idx 0), .sl0, iv idx] := by kernel_rfl
theorem r14s_5 (idx len : Nat) : comesVs .normal [(0, iv 5), (5, tp)] (mTA 5) NT [65, 1, 10] (ev3 r14 (LC 5 (ordA len) idx) (mkH (mTA 5) NT)) = some [.bool (Nat.blt idx len), ordA len, iv idx] := by kernel_rfl
theorem r14n_5 (idx : Nat) : comesVs .normal [(0, iv 5), (5, tp)] (mTA 5) NT [65, 1, 10] (ev3 r14 (LC 5 .sl0 idx) (mkH (mTA 5) NT)) = some [.bool (Nat.blt idx 0), .sl0, iv idx] := by kernel_rfl
theorem r14s_6 (idx len : Nat) : comesVs .normal [(0, iv 6), (5, tp)] (mTA 6) NT [65, 1, 10] (ev3 r14 (LC 6 (ordA len) idx) (mkH (mTA 6) NT)) = some [.bool (Nat.blt idx len), ordA len, iv idx] := by kernel_rfl
theorem r14n_6 (idx : Nat) : comesVs .normal [(0, iv 6), (5, tp)] (mTA 6) NT [65, 1, 10] (ev3 r14 (LC 6 .sl0 idx) (mkH (mTA 6) NT)) = some [.bool (Nat.blt idx 0), .sl0, iv idx] := by kernel_rfl
/-- what the order is, of so many -/
def OrdOK (ord : AV) (len : Nat) : Prop := (ord = .sl0 ∧ len = 0) ∨ ord = ordA len
theorem r14_fact {n : Nat} (h1 : 1 ≤ n) (h6 : n ≤ 6) {ord : AV} {len : Nat} (ho : OrdOK ord len) (idx : Nat) : comesVs .normal [(0, iv n), (5, tp)] (mTA n) NT [65, 1, 10] (ev3 r14 (LC n ord idx) (mkH (mTA n) NT)) = some [.bool (Nat.blt idx len), ord, iv idx] := by
  rcases ho with ⟨rfl, rfl⟩ | rfl
  · match n, h1, h6 with
    | 1, _, _ => exact r14n_1 idx
    | 2, _, _ => exact r14n_2 idx
    | 3, _, _ => exact r14n_3 idx
    | 4, _, _ => exact r14n_4 idx
    | 5, _, _ => exact r14n_5 idx
    | 6, _, _ => exact r14n_6 idx
  · match n, h1, h6 with
    | 1, _, _ => exact r14s_1 idx len
    | 2, _, _ => exact r14s_2 idx len
    | 3, _, _ => exact r14s_3 idx len
    | 4, _, _ => exact r14s_4 idx len
    | 5, _, _ => exact r14s_5 idx len
    | 6, _, _ => exact r14s_6 idx len
theorem r15_eq (n idx : Nat) (ord : AV) (h : H) : ev3 r15 (LC n ord idx) h = (match addA (iv idx) (iv 1) with | none => .no | some v => .ok .normal ⟨mkE [(1, ord), (0, iv n), (5, tp), (10, v)], []⟩ h) := by kernel_rfl
theorem add_one {idx : Nat} (h : idx < 1000) : addA (iv idx) (iv 1) = some (iv (idx + 1)) := by
  have hf : fitsI .i64 (.ofNat (idx + 1)) = true := by
    show Nat.blt (idx + 1) (hi .i64) = true
    rw [blt_iff]
    show idx + 1 < 9223372036854775808
    omega
  show mkInt .i64 (Int.ofNat idx + Int.ofNat 1) = _
  unfold mkInt wrapI
  have e : Int.ofNat idx + Int.ofNat 1 = .ofNat (idx + 1) := rfl
  rw [e, hf, fI_eq]
theorem r15_fact {idx : Nat} (hl : idx < 1000) (n : Nat) (ord : AV) (h : H) : ev3 r15 (LC n ord idx) h = .ok .normal ⟨mkE (LC n ord (idx + 1)), []⟩ h := by
  rw [r15_eq, add_one hl]
  rfl
/-- the round of the order: its first five operations -/
noncomputable def p16l (n idx : Nat) (ord : AV) (t : Bool) (TA : List (Ps × Blk)) : Option (E × List Dfr × H) := partL P0 R0 X3 (mkE (L14 n ord idx t)) ops16.toList (ops16.toList.take 5) [] .nil [] (mkH TA NT)
noncomputable def p16r (idx : Nat) (ord : AV) (TA : List (Ps × Blk)) : Option (E × List Dfr × H) :=
    match (match ofO ((mkH TA NT).add (cl false [iv 1])) (Go.Eng.idx 1 ord (iv idx)) with | .ok v h' => some (v, ([] : List Dfr), h') | .no => none) with
      | none => none
      | some (v, ds1, h1) => some (.cons 72 v (.cons 71 (iv idx) (.cons 70 ord (.cons 69 (slA NT) (.cons 68 tp .nil)))), ds1, h1)
theorem p16a1 (idx : Nat) (ord : AV) (t : Bool) : p16l 1 idx ord t TA1 = p16r idx ord TA1 := by kernel_rfl
theorem p16a2 (idx : Nat) (ord : AV) (t : Bool) : p16l 2 idx ord t TA2 = p16r idx ord TA2 := by kernel_rfl
theorem p16a3 (idx : Nat) (ord : AV) (t : Bool) : p16l 3 idx ord t TA3 = p16r idx ord TA3 := by kernel_rfl
theorem p16a4 (idx : Nat) (ord : AV) (t : Bool) : p16l 4 idx ord t TA4 = p16r idx ord TA4 := by kernel_rfl
theorem p16a5 (idx : Nat) (ord : AV) (t : Bool) : p16l 5 idx ord t TA5 = p16r idx ord TA5 := by kernel_rfl
theorem p16a6 (idx : Nat) (ord : AV) (t : Bool) : p16l 6 idx ord t TA6 = p16r idx ord TA6 := by kernel_rfl
theorem p16a {n : Nat} (h1 : 1 ≤ n) (h6 : n ≤ 6) (idx : Nat) (ord : AV) (t : Bool) : p16l n idx ord t (mTA n) = p16r idx ord (mTA n) := by
  match n, h1, h6 with
  | 1, _, _ => exact p16a1 idx ord t
  | 2, _, _ => exact p16a2 idx ord t
  | 3, _, _ => exact p16a3 idx ord t
  | 4, _, _ => exact p16a4 idx ord t
  | 5, _, _ => exact p16a5 idx ord t
  | 6, _, _ => exact p16a6 idx ord t
theorem idx_ord {idx len : Nat} (h : idx < len) : Go.Eng.idx 1 (ordA len) (iv idx) = some (AV.ptr Ps.e idx) := by
  show (match Nat.blt idx len with | true => fN (0 + idx * 1) fun o => some (AV.ptr Ps.e o) | false => none) = _
  rw [blt_iff.2 h, fN_eq]
  simp
end Go.Eng

namespace Go.Eng
open Go
noncomputable section
def s9 : Code := .seq r28 .ret
def s8 : Code := .seq (.seq t8 (.block 6 (.loop itb6))) s9
def s7 : Code := .seq (.seq t7 (.block 4 (.loop itb4))) s8
def s6 : Code := .seq (.seq t6 (.block 2 (.loop itb2))) s7
end
theorem info3 : ∃ i, infoOf P0 3 = some i ∧ i.X = X3 ∧ i.m = 125 ∧ i.res = [.tmp 4] :=
  ⟨⟨planC P0 (xOf Go.Proofs.Tryz.f3) Go.Proofs.Tryz.f3.ntmps body3, Go.Proofs.Tryz.f3.results.toList, xOf Go.Proofs.Tryz.f3, Go.Proofs.Tryz.f3.ntmps⟩, by kernel_rfl, by kernel_rfl, by kernel_rfl, by kernel_rfl⟩
section
variable {W w : World} {b : Frame} {cs : List Frame} {i3 : FI} {V : Nat → G × H} {a : Act} {k : List Item} {NV t : Nat}
/-- the law's own frame -/
structure Own (i3 : FI) (b : Frame) (cs : List Frame) : Prop where
  hi : infoOf P0 3 = some i3
  hX : i3.X = X3
  hm : i3.m = 125
  hres : i3.res = [.tmp 4]
  hbf : b.fn = 3
  hfc : FC b cs
  hro : b.roundOf = none
theorem own_pieceV (ho : Own i3 b cs) (c : Code) {L L' : List (Nat × AV)} {x : Ex} {Hl : List (Ps × Blk)} {M : Ps} {ds : List Nat} {vs : List AV}
    (he : comesVs x L' Hl M ds (ev3 c L (V t).2) = some vs) (hf : FRel (V t).1 i3 ⟨mkE L, []⟩ a) (hF : Fam P0 W NV V w) (ht : t < NV) :
    ∃ g' w' a', Out P0 (lone (b.atR a (.code c :: k)) cs w) b k cs x a' w' ∧ FRel g' i3 ⟨mkE (ds.zip vs ++ L'), []⟩ a' ∧ GLe (V t).1 g' ∧ Fam P0 W NV (upd V t (g', mkH Hl M)) w' := by
  unfold ev3 at he
  rw [← ho.hX, ← ho.hm] at he
  exact piece_okV progOK recR ho.hi ho.hbf ho.hfc ho.hro c he hf hF ht
theorem own_piece (ho : Own i3 b cs) (c : Code) {L L' : List (Nat × AV)} {x : Ex} {Hl : List (Ps × Blk)} {M : Ps}
    (he : comesTo x L' Hl M (ev3 c L (V t).2) = true) (hf : FRel (V t).1 i3 ⟨mkE L, []⟩ a) (hF : Fam P0 W NV V w) (ht : t < NV) :
    ∃ g' w' a', Out P0 (lone (b.atR a (.code c :: k)) cs w) b k cs x a' w' ∧ FRel g' i3 ⟨mkE L', []⟩ a' ∧ GLe (V t).1 g' ∧ Fam P0 W NV (upd V t (g', mkH Hl M)) w' := by
  unfold ev3 at he
  rw [← ho.hX, ← ho.hm] at he
  exact piece_ok progOK recR ho.hi ho.hbf ho.hfc ho.hro c he hf hF ht
/-- with the first look alone -/
abbrev V1 (g : G) (h : H) : Nat → G × H := fun _ => (g, h)
theorem fam1 {g : G} {h : H} {V : Nat → G × H} (hF : Fam P0 W 1 V w) (hv : V 0 = (g, h)) : Fam P0 W 1 (V1 g h) w := by
  have e : ∀ i, i < 1 → V i = (g, h) := fun i hi => by
    have hz : i = 0 := by omega
    rw [hz]; exact hv
  refine ⟨fun i hi => by have := hF.hr i hi; rw [e i hi] at this; exact this, fun i j hi hj hne => by omega, fun i hi b c hl => hF.lo i hi b c (by rw [e i hi]; exact hl), hF.kept⟩
theorem own1 (ho : Own i3 b cs) (c : Code) {L L' : List (Nat × AV)} {x : Ex} {Hl Hl' : List (Ps × Blk)} {M M' : Ps} {g : G}
    (he : comesTo x L' Hl' M' (ev3 c L (mkH Hl M)) = true) (hf : FRel g i3 ⟨mkE L, []⟩ a) (hF : Fam P0 W 1 (V1 g (mkH Hl M)) w) :
    ∃ g' w' a', Out P0 (lone (b.atR a (.code c :: k)) cs w) b k cs x a' w' ∧ FRel g' i3 ⟨mkE L', []⟩ a' ∧ GLe g g' ∧ Fam P0 W 1 (V1 g' (mkH Hl' M')) w' := by
  obtain ⟨g', w', a', h1, h2, h3, h4⟩ := own_piece (V := V1 g (mkH Hl M)) (t := 0) ho c he hf hF (by omega)
  exact ⟨g', w', a', h1, h2, h3, fam1 h4 (upd_same _ _ _)⟩
theorem own1V (ho : Own i3 b cs) (c : Code) {L L' : List (Nat × AV)} {x : Ex} {Hl Hl' : List (Ps × Blk)} {M M' : Ps} {g : G} {ds : List Nat} {vs : List AV}
    (he : comesVs x L' Hl' M' ds (ev3 c L (mkH Hl M)) = some vs) (hf : FRel g i3 ⟨mkE L, []⟩ a) (hF : Fam P0 W 1 (V1 g (mkH Hl M)) w) :
    ∃ g' w' a', Out P0 (lone (b.atR a (.code c :: k)) cs w) b k cs x a' w' ∧ FRel g' i3 ⟨mkE (ds.zip vs ++ L'), []⟩ a' ∧ GLe g g' ∧ Fam P0 W 1 (V1 g' (mkH Hl' M')) w' := by
  obtain ⟨g', w', a', h1, h2, h3, h4⟩ := own_pieceV (V := V1 g (mkH Hl M)) (t := 0) ho c he hf hF (by omega)
  exact ⟨g', w', a', h1, h2, h3, fam1 h4 (upd_same _ _ _)⟩
/-- the machines are made -/
theorem first_loop (ho : Own i3 b cs) {n : Nat} (h6 : n ≤ 6) (h1 : 1 ≤ n) {ord : AV} : ∀ (d i : Nat) (g : G) (a : Act) (w : World), n - i = d → i ≤ n → FRel g i3 ⟨mkE (L7 n ord i), []⟩ a → Fam P0 W 1 (V1 g (mkH (hAll i) (mN i))) w →
    ∃ g' w' a', Steps P0 (lone (b.atR a (.code itb0 :: .inLoop itb0 :: .inBlock 0 :: k)) cs w) (lone (b.atR a' k) cs w') ∧ FRel g' i3 ⟨mkE (L5 n ord), []⟩ a' ∧ GLe g g' ∧ Fam P0 W 1 (V1 g' (mkH (hAll n) (mN n))) w' := by
  intro d
  induction d with
  | zero =>
    intro i g a w hd hin hf hF
    have : i = n := by omega
    subst this
    obtain ⟨g', w', a', ⟨k1, h2, h3⟩, h4, h5, h7⟩ := own1V (k := .inLoop itb0 :: .inBlock 0 :: k) ho itb0 (exit0_fact h1 h6 ord) hf hF
    exact ⟨g', w', a', h2.trans (.one (stepR_exit (by rw [h3]; simp [exitTo]))), h4, h5, h7⟩
  | succ d ih =>
    intro i g a w hd hin hf hF
    obtain ⟨g', w', a', h2, h4, h5, h7⟩ := own1V (k := .inLoop itb0 :: .inBlock 0 :: k) ho itb0 (it_fact (by omega) h6 ord) hf hF
    obtain ⟨g2, w2, a2, e1, e2, e3, e4⟩ := ih (i + 1) g' a' w' (by omega) (by omega) h4 h7
    exact ⟨g2, w2, a2, Steps.trans h2 (.head stepR_inLoop e1), e2, h5.trans e3, e4⟩
/-- from the beginning to behind the first loop -/
theorem phaseA (ho : Own i3 b cs) (hb : b = { (default : Frame) with fn := 3, kind := .normal, roundOf := none }) {n : Nat} (h1 : 1 ≤ n) (h6 : n ≤ 6) {ord : AV} {g : G} (hpre : preB n ord = true) {args : Array Value} (hargs : VRL g [iv n, ord] args.toList)
    (hF : Fam P0 W 1 (V1 g (mkH [] q1)) w) :
    ∃ g' w' a', Steps P0 (lone (Frame.enter P0 3 args .normal) cs w) (lone (b.atR a' [.code s6]) cs w') ∧ FRel g' i3 ⟨mkE (L5 n ord), []⟩ a' ∧ GLe g g' ∧ Fam P0 W 1 (V1 g' (mkH (hAll n) (mN n))) w' := by
  obtain ⟨fn, c, hf0, hb0, hcode, hres0, hm0, hXr⟩ := infoOf_some ho.hi
  have hfn : fn = Go.Proofs.Tryz.f3 := Option.some.inj (hf0.symm.trans Go.Proofs.Tryz.func3)
  have henter : Frame.enter P0 3 args .normal = b.atR { tmps := args ++ Array.replicate (fn.ntmps - args.size) undef, defers := [] } [.code (.seq t0 (.seq t1 (.seq t2 (.seq t3 (.seq t4 (.seq (.seq t5 (.block 0 (.loop itb0))) s6))))))] := by
    have hb1 : fn.body = some (.seq t0 (.seq t1 (.seq t2 (.seq t3 (.seq t4 (.seq (.seq t5 (.block 0 (.loop itb0))) s6)))))) := by rw [hfn]; exact body3_eq
    rw [hb]
    simp [Frame.enter, Frame.atR, hf0, hb1]
  have hfr : FRel g i3 ⟨mkE (Lin n ord), []⟩ { tmps := args ++ Array.replicate (fn.ntmps - args.size) undef, defers := [] } := by
    refine ⟨fun d v hd hv => ?_, by rw [hm0]; simp; omega, rfl⟩
    have hm' : (d, v) ∈ Lin n ord := mkE_get (l := Lin n ord) hv
    have key : [iv n, ord][d]? = some v := by
      simp only [Lin, List.mem_cons, Prod.mk.injEq, List.not_mem_nil, or_false] at hm'
      rcases hm' with ⟨rfl, rfl⟩ | ⟨rfl, rfl⟩ <;> rfl
    obtain ⟨u, hu, hvu⟩ := hargs.get d v key
    have hlt : d < args.size := by have := (List.getElem?_eq_some_iff.1 hu).1; simpa using this
    exact ⟨u, by rw [Array.getElem?_append_left hlt]; simpa using hu, hvu⟩
  rw [henter]
  generalize ({ tmps := args ++ Array.replicate (fn.ntmps - args.size) undef, defers := [] } : Act) = a0 at hfr ⊢
  unfold preB at hpre
  simp only [Bool.and_eq_true] at hpre
  obtain ⟨A0, A1, A2, A3, A4, A5⟩ := hpre
  obtain ⟨g0, w0, a0', p1, p2, p3, p4⟩ := own1 (k := [.code (.seq t1 (.seq t2 (.seq t3 (.seq t4 (.seq (.seq t5 (.block 0 (.loop itb0))) s6)))))]) ho t0 A0 hfr hF
  obtain ⟨g1, w1, a1, q1', q2', q3', q4'⟩ := own1 (k := [.code (.seq t2 (.seq t3 (.seq t4 (.seq (.seq t5 (.block 0 (.loop itb0))) s6))))]) ho t1 A1 p2 p4
  obtain ⟨g2, w2, a2, r1, r2, r3, r4⟩ := own1 (k := [.code (.seq t3 (.seq t4 (.seq (.seq t5 (.block 0 (.loop itb0))) s6)))]) ho t2 A2 q2' q4'
  obtain ⟨g3, w3, a3, u1, u2, u3, u4⟩ := own1 (k := [.code (.seq t4 (.seq (.seq t5 (.block 0 (.loop itb0))) s6))]) ho t3 A3 r2 r4
  obtain ⟨g4, w4, a4, v1, v2, v3, v4⟩ := own1 (k := [.code (.seq (.seq t5 (.block 0 (.loop itb0))) s6)]) ho t4 A4 u2 u4
  obtain ⟨g5, w5, a5, x1, x2, x3, x4⟩ := own1 (k := .code (.block 0 (.loop itb0)) :: [.code s6]) ho t5 A5 v2 v4
  obtain ⟨g6, w6, a6, y1, y2, y3, y4⟩ := first_loop (k := [.code s6]) ho h6 h1 n 0 g5 a5 w5 (by omega) (by omega) x2 x4
  refine ⟨g6, w6, a6, ?_, y2, (((((p3.trans q3').trans r3).trans u3).trans v3).trans x3).trans y3, y4⟩
  exact .head stepR_seq (Steps.trans p1 (.head stepR_seq (Steps.trans q1' (.head stepR_seq (Steps.trans r1 (.head stepR_seq (Steps.trans u1 (.head stepR_seq (Steps.trans v1 (.head stepR_seq (.head stepR_seq (Steps.trans x1
    (.head stepR_block (.head stepR_loop y1))))))))))))))
end
end Go.Eng

namespace Go.Eng
open Go
noncomputable section
/-! ### one look is split, and names that are known -/
def inP (b : Ps) (l : List Ps) : Bool := List.rec (motive := fun _ => Bool) false (fun x _ ih => b.beq x || ih) l
def simpB (nm : List Ps) (v : AV) : Bool := match v with
  | .bool _ => true
  | .int _ _ => true
  | .str _ => true
  | .sl0 => true
  | .ptr0 => true
  | .undef => true
  | .ptr b _ => inP b nm
  | .sl b _ _ _ _ => inP b nm
  | .iface _ x => (match x with | .ptr b _ => inP b nm | _ => false)
  | _ => false
def simpL (nm : List Ps) (l : List AV) : Bool := List.rec (motive := fun _ => Bool) true (fun x _ ih => simpB nm x && ih) l
def simpK (nm : List Ps) (x : Blk) : Bool := match x with
  | .cells vs m _ => (match takeC vs m 0 with | some l => simpL nm l | none => false)
  | _ => false
def simpT (nm : List Ps) (l : List (Ps × Blk)) : Bool := List.rec (motive := fun _ => Bool) true (fun x _ ih => simpK nm x.2 && ih) l
def noneB (x : Option Blk) : Bool := match x with | none => true | some _ => false
def offL (l1 : List (Ps × Blk)) (h : H) : Bool := List.rec (motive := fun _ => Bool) true (fun x _ ih => noneB (h.get x.1) && ih) l1
def offB (l1 l2 : List (Ps × Blk)) : Bool := subL l2 (mkH l2 q1) && offL l1 (mkH l2 q1)
def hasCell (l : List (Ps × Blk)) (b : Ps) (i : Nat) (v : AV) : Bool := match (mkH l q1).get b with
  | some (.cells vs m _) => Nat.blt i m && isV (T.get vs (ps i)) v
  | _ => false
def Lv (n t : Nat) : List (Ps × Blk) := match Nat.beq t n with | true => mTA n | false => mM t
def Mv (n t : Nat) : Ps := match Nat.beq t n with | true => NT | false => mNB t
def splitB (n : Nat) : Bool := allN (fun t => (subL (Lv n t) (mkH (hAll n) (mN n)) && (belowP (Mv n t).val (Lv n t) && Nat.ble (mN n).val (Mv n t).val)) && allN (fun s => Nat.beq s t || offB (Lv n s) (Lv n t)) (n + 1)) (n + 1)
def rl (n : Nat) : List Ps := Nat.rec (motive := fun _ => List Ps) [] (fun j ih => mr j :: ih) n
def nm (n : Nat) : List Ps := q1 :: mA n :: rl n
def taB (n : Nat) : Bool := hasCell (mTA n) q1 0 (.sl (mA n) 0 1 n none) && (allN (fun j => hasCell (mTA n) (mA n) j (.iface (mty j) (.ptr (mr j) 0))) n && simpT (nm n) (mTA n))
end
theorem split_all : allN (fun n => splitB (n + 1)) 6 = true := by kernel_rfl
theorem ta_all : allN (fun n => taB (n + 1)) 6 = true := by kernel_rfl
theorem inP_iff {b : Ps} : ∀ {l : List Ps}, inP b l = true ↔ b ∈ l
  | [] => by simp [inP]
  | x :: l => by
    show (b.beq x || inP b l) = true ↔ _
    rw [Bool.or_eq_true, Ps.beq_iff, inP_iff]
    simp
theorem simpB_ok {g : G} {nm : List Ps} (hg : ∀ b, b ∈ nm → ∃ x, g b = some x) {v : AV} (h : simpB nm v = true) : Simp g v := by
  unfold simpB at h
  split at h <;> first | trivial | exact hg _ (inP_iff.1 h) | (split at h <;> first | exact hg _ (inP_iff.1 h) | cases h) | cases h
theorem simpL_ok {nm : List Ps} : ∀ {l : List AV}, simpL nm l = true → ∀ v, v ∈ l → simpB nm v = true
  | [], _, v, h => by cases h
  | x :: l, h, v, hm => by
    have h : (simpB nm x && simpL nm l) = true := h
    rw [Bool.and_eq_true] at h
    cases hm with
    | head => exact h.1
    | tail _ hm => exact simpL_ok h.2 v hm
theorem simpT_ok {g : G} {nm : List Ps} (hg : ∀ b, b ∈ nm → ∃ x, g b = some x) : ∀ {l : List (Ps × Blk)}, simpT nm l = true → ∀ b x, (b, x) ∈ l → ∃ vs m gr, x = .cells vs m gr ∧ ∀ i, i < m → ∀ v, T.get vs (ps i) = some v → Simp g v
  | [], _, b, x, h => by cases h
  | y :: l, h, b, x, hm => by
    have h : (simpK nm y.2 && simpT nm l) = true := h
    rw [Bool.and_eq_true] at h
    cases hm with
    | tail _ hm => exact simpT_ok hg h.2 b x hm
    | head =>
      have h1 := h.1
      unfold simpK at h1
      split at h1
      · rename_i vs m gr he
        split at h1
        · rename_i l' hl
          refine ⟨vs, m, gr, he, fun i hi v hv => ?_⟩
          have e := (takeC_get _ _ _ _ hl).2 i hi
          rw [Nat.zero_add, hv] at e
          exact simpB_ok hg (simpL_ok h1 v (List.mem_of_getElem? e.symm))
        · cases h1
      · cases h1
theorem offL_ok {h : H} : ∀ {l : List (Ps × Blk)}, offL l h = true → ∀ b x, (b, x) ∈ l → h.get b = none
  | [], _, b, x, hm => by cases hm
  | y :: l, h', b, x, hm => by
    have h' : (noneB (h.get y.1) && offL l h) = true := h'
    rw [Bool.and_eq_true] at h'
    cases hm with
    | tail _ hm => exact offL_ok h'.2 b x hm
    | head =>
      have h1 := h'.1
      unfold noneB at h1
      split at h1
      · assumption
      · cases h1
theorem offB_ok {l1 l2 : List (Ps × Blk)} (h : offB l1 l2 = true) {b : Ps} {x y : Blk} (h1 : (b, x) ∈ l1) (h2 : (b, y) ∈ l2) : False := by
  unfold offB at h
  rw [Bool.and_eq_true] at h
  obtain ⟨z, hz, _⟩ := subL_iff.1 h.1 _ h2
  rw [offL_ok h.2 b x h1] at hz
  cases hz
theorem hasCell_ok {g : G} {w : World} {l : List (Ps × Blk)} {N : Ps} {b : Ps} {i : Nat} {v : AV} (h : hasCell l b i v = true) (hr : HR P0 g (mkH l N) w) {x : Nat × Nat × Nat} (hg : g b = some x) : ∃ c, VR g v c := by
  unfold hasCell at h
  split at h
  · rename_i vs m gr he
    rw [Bool.and_eq_true, blt_iff] at h
    obtain ⟨c, sh, sz⟩ := x
    have he' : (mkH l N).get b = some (.cells vs m gr) := he
    obtain ⟨cs, el, fz, _, _, _, _, _, _, h7⟩ := hr.cells he' hg
    obtain ⟨v', u, e1, _, e3⟩ := h7 i h.1
    rw [isV_iff h.2] at e1
    obtain rfl := Option.some.inj e1
    exact ⟨u, e3⟩
  · cases h
theorem mem_rl {b : Ps} : ∀ {n : Nat}, b ∈ rl n → ∃ j, j < n ∧ b = mr j
  | 0, h => by cases h
  | n + 1, h => by
    have h : b ∈ mr n :: rl n := h
    cases h with
    | head => exact ⟨n, by omega, rfl⟩
    | tail _ h => obtain ⟨j, h1, h2⟩ := mem_rl h; exact ⟨j, by omega, h2⟩
theorem rl_mem : ∀ {n j : Nat}, j < n → mr j ∈ rl n
  | 0, j, h => by omega
  | n + 1, j, h => by
    show mr j ∈ mr n :: rl n
    by_cases e : j = n
    · subst e; exact List.mem_cons_self
    · exact List.mem_cons_of_mem _ (rl_mem (by omega))
section
variable {W w w' : World}
/-- the names of the first look are known -/
def Known (g : G) (n : Nat) : Prop := ∀ b, b ∈ nm n → ∃ x, g b = some x
theorem ta_fact {n : Nat} (h1 : 1 ≤ n) (h6 : n ≤ 6) : taB n = true := by
  obtain ⟨m, rfl⟩ : ∃ m, n = m + 1 := ⟨n - 1, by omega⟩
  exact allN_iff ta_all m (by omega)
theorem split_fact {n : Nat} (h1 : 1 ≤ n) (h6 : n ≤ 6) : splitB n = true := by
  obtain ⟨m, rfl⟩ : ∃ m, n = m + 1 := ⟨n - 1, by omega⟩
  exact allN_iff split_all m (by omega)
theorem known_of {g : G} {n : Nat} {N : Ps} (h1 : 1 ≤ n) (h6 : n ≤ 6) (hr : HR P0 g (mkH (mTA n) N) w) {c : Value} (hv : VR g tp c) : Known g n := by
  have ht := ta_fact h1 h6
  unfold taB at ht
  simp only [Bool.and_eq_true] at ht
  obtain ⟨t1, t2, t3⟩ := ht
  simp only [VR] at hv
  obtain ⟨cc, sh, sz, hq, _⟩ := hv
  obtain ⟨cA, hA⟩ := hasCell_ok t1 hr hq
  simp only [VR] at hA
  obtain ⟨cc2, sh2, sz2, cp2, hA, _⟩ := hA
  intro b hb
  unfold nm at hb
  cases hb with
  | head => exact ⟨_, hq⟩
  | tail _ hb =>
    cases hb with
    | head => exact ⟨_, hA⟩
    | tail _ hb =>
      obtain ⟨j, hj, rfl⟩ := mem_rl hb
      obtain ⟨u, hu⟩ := hasCell_ok (allN_iff t2 j hj) hr hA
      simp only [VR] at hu
      obtain ⟨y, _, c3, sh3, sz3, h3, _⟩ := hu
      exact ⟨_, h3⟩
theorem Known.mono {g g' : G} {n : Nat} (h : Known g n) (hle : GLe g g') : Known g' n := fun b hb => let ⟨x, hx⟩ := h b hb; ⟨x, hle _ _ hx⟩
/-- all looks, when the machines are made -/
noncomputable def V0 (n : Nat) (g : G) : Nat → G × H := fun t => (g, mkH (Lv n t) (Mv n t))
theorem Lv_same (n : Nat) : Lv n n = mTA n := by
  unfold Lv
  rw [show Nat.beq n n = true by simp]
theorem Mv_same (n : Nat) : Mv n n = NT := by
  unfold Mv
  rw [show Nat.beq n n = true by simp]
theorem Lv_other {n t : Nat} (h : t ≠ n) : Lv n t = mM t := by
  unfold Lv
  rw [show Nat.beq t n = false by rw [← Bool.not_eq_true, nbeq]; exact h]
theorem Mv_other {n t : Nat} (h : t ≠ n) : Mv n t = mNB t := by
  unfold Mv
  rw [show Nat.beq t n = false by rw [← Bool.not_eq_true, nbeq]; exact h]
theorem fam_split {n : Nat} {g : G} (h1 : 1 ≤ n) (h6 : n ≤ 6) (hF : Fam P0 W 1 (V1 g (mkH (hAll n) (mN n))) w) : Fam P0 W (n + 1) (V0 n g) w := by
  have hs := split_fact h1 h6
  unfold splitB at hs
  have hr := hF.hr 0 (by omega)
  have ht : ∀ t, t < n + 1 → subL (Lv n t) (mkH (hAll n) (mN n)) = true ∧ belowP (Mv n t).val (Lv n t) = true ∧ (mN n).val ≤ (Mv n t).val ∧ ∀ s, s < n + 1 → s ≠ t → offB (Lv n s) (Lv n t) = true := fun t ht => by
    have := allN_iff hs t ht
    simp only [Bool.and_eq_true] at this
    obtain ⟨⟨a1, a2, a3⟩, a4⟩ := this
    refine ⟨a1, a2, Nat.le_of_ble_eq_true a3, fun s hs hne => ?_⟩
    have := allN_iff a4 s hs
    rw [Bool.or_eq_true, nbeq] at this
    rcases this with h | h
    · exact absurd h hne
    · exact h
  refine ⟨fun t h => hr.lit (ht t h).1 (ht t h).2.1 (ht t h).2.2.1, fun s t hs ht' hne b b' c l1 l2 => ?_, fun t h b c hl => hF.lo 0 (by omega) b c (live_lit (ht t h).1 hl), hF.kept⟩
  have e := hr.inj b b' c (live_lit (ht s hs).1 l1) (live_lit (ht t ht').1 l2)
  subst e
  obtain ⟨x, _, _, hx, _⟩ := l1
  obtain ⟨y, _, _, hy, _⟩ := l2
  exact offB_ok ((ht t ht').2.2.2 s hs hne) (mkH_get hx) (mkH_get hy)
/-- between calls of 'Go' -/
structure OL (W : World) (n : Nat) (g0 : G) (V : Nat → G × H) (w : World) : Prop where
  fam : Fam P0 W (n + 1) V w
  top : V n = (g0, mkH (mTA n) NT)
  le : ∀ j, j < n → GLe g0 (V j).1
  ch : ∀ j, j < n → ∃ k, k ≤ mT j ∧ chainB (mD j) (mNE j) (mf j) (mr j) k (V j).2 = true
  kn : Known g0 n
theorem ol_start {n : Nat} {g : G} (h1 : 1 ≤ n) (h6 : n ≤ 6) (hF : Fam P0 W 1 (V1 g (mkH (hAll n) (mN n))) w) {c : Value} (hv : VR g tp c) : OL W n g (V0 n g) w := by
  have hf := fam_split h1 h6 hF
  have htop : V0 n g n = (g, mkH (mTA n) NT) := by unfold V0; rw [Lv_same, Mv_same]
  refine ⟨hf, htop, fun j _ => GLe.refl _, fun j hj => ⟨mT j, Nat.le_refl _, ?_⟩, ?_⟩
  · have : (V0 n g j).2 = mkH (mM j) (mNB j) := by unfold V0; rw [Lv_other (by omega), Mv_other (by omega)]
    rw [this]
    exact m_chain j (by omega)
  · have := hf.hr n (by omega)
    rw [htop] at this
    exact known_of h1 h6 this hv
/-- the first look, back to what it was -/
theorem top_less {n : Nat} {g0 g' : G} {h' : H} {V : Nat → G × H} (h1 : 1 ≤ n) (h6 : n ≤ 6) (hk : Known g0 n) {w0 : World} (h0 : HR P0 g0 (mkH (mTA n) NT) w0) (hle : GLe g0 g') (hV : V n = (g', h')) (hs : subL (mTA n) h' = true) (hF : Fam P0 W (n + 1) V w') :
    Fam P0 W (n + 1) (upd V n (g0, mkH (mTA n) NT)) w' := by
  have ht := ta_fact h1 h6
  unfold taB at ht
  simp only [Bool.and_eq_true] at ht
  have hr := hF.hr n (by omega)
  rw [hV] at hr
  refine hF.less (by omega) (top_back h0 hle hr hs (simpT_ok hk ht.2.2)) fun b c hl => ⟨b, ?_⟩
  rw [hV]
  obtain ⟨x, sh, sz, e1, e2⟩ := hl
  exact live_lit hs ⟨x, sh, sz, e1, hle _ _ e2⟩
end
end Go.Eng

namespace Go.Eng
open Go
noncomputable section
def o16 (i : Nat) : Oper := (nthL ops16.toList i).getD default
def o20 (i : Nat) : Oper := (nthL ops20.toList i).getD default
/-- what 'Go' is given -/
def dd5 : List Nat := ddsOf (ops16.toList.take 5) []
def dd6 : List Nat := ddOf (o16 5) dd5
def dd7 : List Nat := ddOf (o16 6) dd6
def te5 (idx : Nat) (ord : AV) : E := .cons 72 (AV.ptr Ps.e idx) (.cons 71 (iv idx) (.cons 70 ord (.cons 69 (slA NT) (.cons 68 tp .nil))))
def te6 (idx : Nat) (ord : AV) (v : Int) : E := .cons 73 (.int .i64 v) (te5 idx ord)
def te7 (idx : Nat) (ord : AV) (v : Int) : E := .cons 74 (slA NT1) (te6 idx ord v)
def h5 (n : Nat) : H := (mkH (mTA n) NT).add (cl false [iv 1])
def h6 (n : Nat) (v : Int) : H := (h5 n).add (cl false [.int .i64 v])
def selfB (n : Nat) : Bool := subL (mTA n) (mkH (mTA n) NT) && (belowP NT.val (mTA n) && allN (fun j => subL (L2 (mTA n) 1 (iv j)) (h6 n (.ofNat j)) && (subL (L2 (mTA n) 999 (iv j)) (((mkH (mTA n) NT).add (cl false [iv 999])).add (cl false [iv j])) && (belowP NT2.val (L2 (mTA n) 1 (iv j)) && (belowP NT2.val (L2 (mTA n) 999 (iv j)) && (subL (mTA n) (H2 (mTA n) 1 (iv j)) && subL (mTA n) (H2 (mTA n) 999 (iv j))))))) n)
end
theorem self_all : allN (fun n => selfB (n + 1)) 6 = true := by kernel_rfl
theorem self_fact {n : Nat} (h1 : 1 ≤ n) (h6 : n ≤ 6) : selfB n = true := by
  obtain ⟨m, rfl⟩ : ∃ m, n = m + 1 := ⟨n - 1, by omega⟩
  exact allN_iff self_all m (by omega)
theorem ops16_size : ops16.size = 8 := by kernel_rfl
theorem ops16_low : allBelow 125 (dsts ops16.toList) = true := by kernel_rfl
theorem ops16_5 : ops16[5]? = some (o16 5) := by kernel_rfl
theorem ops16_6 : ops16[6]? = some (o16 6) := by kernel_rfl
theorem ops16_7 : ops16[7]? = some (o16 7) := by kernel_rfl
theorem o16_5 : (o16 5).op = .load 3 (.tmp 72) := by kernel_rfl
theorem o16_5d : (o16 5).dst = some 73 := by kernel_rfl
theorem o16_5g : (o16 5).guard = none := by kernel_rfl
theorem o16_7 : (o16 7).op = .call { callee := .value (.func 7), args := #[.tmp 68, .tmp 69, .tmp 74], argTypes := #[23, 22, 22] } := by kernel_rfl
theorem o16_7d : (o16 7).dst = some 75 := by kernel_rfl
theorem o16_7g : (o16 7).guard = none := by kernel_rfl
theorem isA_3 : isA P0 3 = some false := by kernel_rfl
theorem p16_6 (n idx : Nat) (ord : AV) (v : Int) (l : E) : partL P0 R0 X3 l ops16.toList [o16 6] dd6 (te6 idx ord v) [] (h5 n) = some (te7 idx ord v, [], h6 n v) := by kernel_rfl
theorem p16_7 (idx : Nat) (ord : AV) (v : Int) (l : E) (h : H) : partL P0 R0 X3 l ops16.toList [o16 7] dd7 (te7 idx ord v) [] h =
    (match (match R0.cv (.fn 7 [] []) [tp, slA NT, slA NT1] h with | .ok v h' => some (v, ([] : List Dfr), h') | .no => none) with
      | none => none
      | some (v1, ds1, h1) => some (.cons 75 v1 (te7 idx ord v), ds1, h1)) := by kernel_rfl
theorem dd7_eq : dd7 = [74, 73, 72, 71, 70, 69, 68] := by kernel_rfl
theorem dd6_eq : dd6 = [73, 72, 71, 70, 69, 68] := by kernel_rfl
theorem dd5_eq : dd5 = [72, 71, 70, 69, 68] := by kernel_rfl
theorem ev_neg : ∀ d, d ∈ [1, 0, 5, 10] → memN d (75 :: dd7) = false := by
  intro d hd
  rw [dd7_eq]
  simp at hd
  rcases hd with rfl | rfl | rfl | rfl <;> rfl
/-- a load, by hand -/
theorem load_run {o : Oper} {x : Operand} {a : Act} {w : World} {c i : Nat} {arr : Array Value} {el : TypeId} {fz : Nat × Nat} {u : Value} (hop : o.op = .load 3 x) (hx : a.eval x = .pointer (some ⟨c, i, none⟩)) (hc : w.heap[c]? = some (.cells arr el fz)) (hu : arr[i]? = some u) (ro : Option Nat) :
    (o.semAt ro a.eval).run P0 w = .ok (.value u) w := by
  rw [Oper.semAt_eq _ _ _ (fun c' h' => by rw [hop] at h'; cases h')]
  simp [execOp, hop, Instr.loadAt, hx, Instr.sureAddr, loadVar, isA_of isA_3, cell_of hc, hu]
section
variable {W w : World} {n j q : Nat} {TA : List (Ps × Blk)} {r : Ps} {f ty : Nat} {D : List (Ps × Blk)} {NE : Ps} {b : Frame} {cs : List Frame} {i3 : FI} {V : Nat → G × H} {a : Act} {ops : Array Oper} {i : Nat} {o : Oper} {k : List Item} {rest : List Nat}
/-- 'Go' is called, for a machine that is there -/
theorem own_go {K kk : Nat} {xs : Array Operand} {ts : Array TypeId} (hoi : ops[i]? = some o) (hg : o.guard = none) (hop : o.op = .call { callee := .value (.func 7), args := xs, argTypes := ts }) (hargs : VRL (V n).1 [tp, slA NT, slA NT1] (xs.map a.eval).toList)
    (hgo : goB TA q j r ty K = true) (hk : kk < K) (hinv : InvOK f ty) (hfix : chainB D NE f r 0 (mkH D NE) = true) (hbel : belowP NE.val D = true) (hjn : j < n) (hs : GoSt W n j q TA r w V) (hch : chainB D NE f r kk (V j).2 = true) :
    ∃ V' w' u, Steps P0 (lone (b.atR a (.inRegion ops (i :: rest) :: k)) cs w) (lone (b.atR (a.put o.dst u) (.inRegion ops rest :: k)) cs w') ∧ GoTo n j V V' ∧ GoSt W n j q TA r w' V' ∧ (∃ k', k' ≤ kk ∧ chainB D NE f r k' (V' j).2 = true) ∧ (kk < q → (V' j).2 = mkH D NE) := by
  obtain ⟨V', w', fr, u, h1, h2, h3, h4, h5, h6⟩ := go_in (cs := b.atR a (.inRegion ops (i :: rest) :: k) :: cs) hgo hk hinv hfix hbel hjn hs hch hargs
  obtain ⟨i7, hi, _, _, _⟩ := info7
  obtain ⟨fn, c, hf0, hb0, _⟩ := infoOf_some hi
  have hrun : (o.semAt b.roundOf a.eval).run P0 w = .ok (.enter 7 (xs.map a.eval)) w := by
    rw [Oper.semAt_eq _ _ _ (fun c' h' => by rw [hop] at h'; cases h')]
    simp [execOp, hop, resolve, Deferred.ofValue, invoke, Act.eval, Sem.run_bind, run_callFunc progOK hf0 hb0]
  have hback := step_back (c := b.atR a (.inRegion ops (i :: rest) :: k)) (cs := cs) h2
  rw [fin_at hoi] at hback
  exact ⟨V', w', u, .head (st_enter hoi (by simp [Region.wanted, hg]) hrun) (h1.trans (.one hback)), h3, h4, h5, h6⟩
/-- back to between the calls -/
theorem ol_back {g0 g' : G} {h' : H} {V V' : Nat → G × H} {w w' : World} (h1 : 1 ≤ n) (h6 : n ≤ 6) (hO : OL W n g0 V w) (hV : V' n = (g', h')) (hle : GLe g0 g') (hs : subL (mTA n) h' = true) (hF : Fam P0 W (n + 1) V' w') (hl : ∀ j, j < n → GLe (V j).1 (V' j).1)
    (hc : ∀ j, j < n → ∃ k, k ≤ mT j ∧ chainB (mD j) (mNE j) (mf j) (mr j) k (V' j).2 = true) : OL W n g0 (upd V' n (g0, mkH (mTA n) NT)) w' := by
  have h0 := hO.fam.hr n (by omega)
  rw [hO.top] at h0
  refine ⟨top_less h1 h6 hO.kn h0 hle hV hs hF, upd_same _ _ _, fun j hj => ?_, fun j hj => ?_, hO.kn⟩
  · rw [upd_other _ _ (by omega)]; exact (hO.le j hj).trans (hl j hj)
  · rw [upd_other _ _ (by omega)]; exact hc j hj
/-- a piece of the law's own code, between the calls -/
theorem ol_pieceV (ho : Own i3 b cs) (c : Code) {g0 : G} {L L' : List (Nat × AV)} {x : Ex} {ds : List Nat} {vs : List AV} (h1 : 1 ≤ n) (h6 : n ≤ 6) (he : comesVs x L' (mTA n) NT ds (ev3 c L (mkH (mTA n) NT)) = some vs) (hf : FRel g0 i3 ⟨mkE L, []⟩ a) (hO : OL W n g0 V w)
    (hsm : ∀ d v, (d, v) ∈ ds.zip vs ++ L' → Simp g0 v) :
    ∃ V' w' a', Out P0 (lone (b.atR a (.code c :: k)) cs w) b k cs x a' w' ∧ FRel g0 i3 ⟨mkE (ds.zip vs ++ L'), []⟩ a' ∧ OL W n g0 V' w' ∧ (∀ j, j < n → V' j = V j) := by
  obtain ⟨g', w', a', e1, e2, e3, e4⟩ := own_pieceV (k := k) (V := V) (t := n) ho c (by rw [hO.top]; exact he) (by rw [hO.top]; exact hf) hO.fam (by omega)
  rw [hO.top] at e3
  have hself := self_fact h1 h6
  unfold selfB at hself
  simp only [Bool.and_eq_true] at hself
  have hv : ∀ j, j < n → upd V n (g', mkH (mTA n) NT) j = V j := fun j hj => upd_other _ _ (by omega)
  refine ⟨_, w', a', e1, e2.down e3 hsm, ol_back h1 h6 hO (upd_same _ _ _) e3 hself.1 e4 (fun j hj => by rw [hv j hj]; exact GLe.refl _) (fun j hj => by rw [hv j hj]; exact hO.ch j hj), fun j hj => ?_⟩
  rw [upd_other _ _ (by omega), hv j hj]
theorem Known.tp {g : G} (h : Known g n) : Simp g tp := h q1 List.mem_cons_self
/-- what the order is, in memory -/
structure OrdR (W : World) (g0 : G) (ord : AV) (len : Nat) : Prop where
  ok : OrdOK ord len
  lt : len ≤ 100
  simp : Simp g0 ord
  mem : ∀ idx, idx < len → ∃ c sh sz arr el fz v, g0 .e = some (c, sh, sz) ∧ c < W.heap.size ∧ W.heap[c]? = some (.cells arr el fz) ∧ arr[idx + sh]? = some (.int .i64 v)
end
end Go.Eng

namespace Go.Eng
open Go
section
variable {W w : World} {n : Nat} {b : Frame} {cs : List Frame} {i3 : FI} {V : Nat → G × H} {a : Act} {k : List Item} {g0 : G} {ord : AV} {len idx : Nat}
theorem mem_LC {d : Nat} {v : AV} (h : (d, v) ∈ LC n ord idx) : d ∈ [1, 0, 5, 10] ∧ (mkE (L14 n ord idx true)).get d = some v := by
  simp only [LC, List.mem_cons, Prod.mk.injEq, List.not_mem_nil, or_false] at h
  rcases h with ⟨rfl, rfl⟩ | ⟨rfl, rfl⟩ | ⟨rfl, rfl⟩ | ⟨rfl, rfl⟩ <;> exact ⟨by simp, rfl⟩
theorem simp_LC (hk : Known g0 n) (hs : Simp g0 ord) : ∀ d v, (d, v) ∈ LC n ord idx → Simp g0 v := fun d v h => by
  simp only [LC, List.mem_cons, Prod.mk.injEq, List.not_mem_nil, or_false] at h
  rcases h with ⟨_, rfl⟩ | ⟨_, rfl⟩ | ⟨_, rfl⟩ | ⟨_, rfl⟩
  · exact hs
  · trivial
  · exact hk.tp
  · trivial
theorem simp_L14 (hk : Known g0 n) (hs : Simp g0 ord) {t : Bool} : ∀ d v, (d, v) ∈ List.zip [65, 1, 10] [.bool t, ord, iv idx] ++ [(0, iv n), (5, tp)] → Simp g0 v := fun d v h => by
  simp only [List.zip_cons_cons, List.zip_nil_left, List.cons_append, List.nil_append, List.mem_cons, Prod.mk.injEq, List.not_mem_nil, or_false] at h
  rcases h with ⟨_, rfl⟩ | ⟨_, rfl⟩ | ⟨_, rfl⟩ | ⟨_, rfl⟩ | ⟨_, rfl⟩
  · trivial
  · exact hs
  · trivial
  · trivial
  · exact hk.tp
theorem frel16 (ho : Own i3 b cs) {g' : G} (hle : GLe g0 g') (hk : Known g0 n) (hs : Simp g0 ord) {te : E} (hin : InR g' X3 (75 :: dd7) te (mkE (L14 n ord idx true)) 125 a) (hd : a.defers = []) : FRel g0 i3 ⟨mkE (LC n ord idx), []⟩ a := by
  have : FRel g' i3 ⟨mkE (LC n ord idx), []⟩ a := by
    refine ⟨?_, by rw [ho.hm]; exact hin.sz, hd⟩
    rw [ho.hX]
    exact hin.out (L := LC n ord idx) fun d v hd => .inr ⟨ev_neg d (mem_LC hd).1, (mem_LC hd).2⟩
  exact this.down hle (simp_LC hk hs)
/-- one call of the order -/
theorem round16 (ho : Own i3 b cs) (h1 : 1 ≤ n) (h6 : n ≤ 6) (hr : OrdR W g0 ord len) (hi : idx < len) (hO : OL W n g0 V w) (hf : FRel g0 i3 ⟨mkE (L14 n ord idx true), []⟩ a) :
    ∃ V' w' a', Steps P0 (lone (b.atR a (.code r16 :: k)) cs w) (lone (b.atR a' k) cs w') ∧ FRel g0 i3 ⟨mkE (LC n ord idx), []⟩ a' ∧ OL W n g0 V' w' := by
  have hord : ord = ordA len := by
    rcases hr.ok with ⟨_, h⟩ | h
    · omega
    · exact h
  obtain ⟨cE, shE, szE, arr, el, fz, v, hgE, hcW, hWc, harr⟩ := hr.mem idx hi
  have hn125 : 125 ≤ nowhere := by unfold nowhere; omega
  have hlow : ∀ d, d ∈ dsts ops16.toList → d < 125 := allBelow_iff.1 ops16_low
  have htake : (ops16.toList.take 5).length = 5 := by rw [List.length_take]; simp [ops16_size]
  have hin := hf.inR
  rw [ho.hX, ho.hm] at hin
  have hp : partL P0 R0 X3 (mkE (L14 n ord idx true)) ops16.toList (ops16.toList.take 5) [] .nil [] (V n).2 = some (te5 idx ord, [], h5 n) := by
    rw [hO.top]
    have := p16a h1 h6 idx ord true
    unfold p16l p16r at this
    rw [this, hord, idx_ord hi]
    rfl
  -- the first five
  obtain ⟨g1, w1, a1, s1, in1, d1, le1, F1⟩ := part_ok (k := k) progOK recR hn125 ho.hfc ho.hro hlow (Nat.lt_succ_self n) (ops16.toList.take 5) 0 [5, 6, 7] [] .nil [] a w V (fun x hx => by
      rw [htake] at hx
      rw [List.getElem?_take_of_lt hx, Nat.zero_add]
      simp) hp (by rw [hO.top]; exact hin) (by have := hf.dfr; rw [hO.top]; exact this) hO.fam
  rw [hO.top] at le1
  have in1 : InR g1 X3 dd5 (te5 idx ord) (mkE (L14 n ord idx true)) 125 a1 := in1
  have hd1 : a1.defers = [] := d1
  -- the load
  obtain ⟨c72, e72, v72⟩ := in1.reg.new 72 (AV.ptr Ps.e idx) (by rw [dd5_eq]; rfl) rfl
  simp only [VR] at v72
  obtain ⟨c', sh', sz', hg', rfl⟩ := v72
  rw [le1 _ _ hgE] at hg'
  obtain ⟨rfl, rfl, rfl⟩ : cE = c' ∧ shE = sh' ∧ szE = sz' := by
    have := Option.some.inj hg'
    simpa using this
  have hw1 : w1.heap[cE]? = some (.cells arr el fz) := by rw [F1.kept.pre cE hcW]; exact hWc
  have s2 := st_value (b := b) (cs := cs) (k := k) (a := a1) (rest := [6, 7]) ops16_5 (by simp [Region.wanted, o16_5g]) (load_run (w := w1) o16_5 (by rw [eval_tmp e72]) hw1 harr b.roundOf)
  have reg2 := in1.reg.put (o := o16 5) (ds' := a1.defers) (c := .int .i64 v) (v := .int .i64 v) (by simp only [VR]) (fun d hd => by rw [o16_5d] at hd; cases hd; decide) in1.sz hn125 in1.lt
  have in2 : InR g1 X3 dd6 (te6 idx ord v) (mkE (L14 n ord idx true)) 125 (a1.put (o16 5).dst (.int .i64 v)) := by
    refine ⟨?_, fun d hd => ?_, ?_⟩
    · have : dstOf (o16 5) = 73 := by unfold dstOf; rw [o16_5d]
      rw [this] at reg2
      exact reg2
    · rw [dd6_eq] at hd
      simp at hd
      omega
    · have := in1.sz
      simp [Act.put, o16_5d]
      exact this
  have hd2 : (a1.put (o16 5).dst (.int .i64 v)).defers = [] := by rw [put_defers']; exact hd1
  generalize a1.put (o16 5).dst (.int .i64 v) = a2 at s2 in2 hd2
  -- the slice
  obtain ⟨g3, w3, a3, s3, in3, d3, le3, F3⟩ := part_ok (k := k) (V := upd V n (g1, h5 n)) progOK recR hn125 ho.hfc ho.hro hlow (Nat.lt_succ_self n) [o16 6] 6 [7] dd6 (te6 idx ord v) [] a2 w1 (fun x hx => by
      have : x = 0 := by simpa using hx
      subst this
      rw [ops16_6]; rfl) (by rw [upd_same]; exact p16_6 n idx ord v (mkE (L14 n ord idx true))) (by rw [upd_same]; exact in2) (by rw [upd_same]; exact hd2) F1
  rw [upd_same] at le3
  rw [upd_upd] at F3
  have in3 : InR g3 X3 dd7 (te7 idx ord v) (mkE (L14 n ord idx true)) 125 a3 := in3
  have hd3 : a3.defers = [] := d3
  have hle3 : GLe g0 g3 := le1.trans le3
  have hreg : Steps P0 (lone (b.atR a (.code r16 :: k)) cs w) (lone (b.atR a3 (.inRegion ops16 [7] :: k)) cs w3) := by
    rw [r16_eq]
    refine .head stepR_region ?_
    have hrg : List.range ops16.size = List.range' 0 (ops16.toList.take 5).length ++ [5, 6, 7] := by rw [htake, ops16_size]; rfl
    rw [hrg]
    exact s1.trans (.head s2 s3)
  have hv : ∀ (x : G × H) j, j < n → upd V n x j = V j := fun x j hj => upd_other _ _ (by omega)
  have hself := self_fact h1 h6
  unfold selfB at hself
  simp only [Bool.and_eq_true] at hself
  obtain ⟨f1, f2, f4⟩ := hself
  by_cases hvr : 0 ≤ v ∧ v < n
  · -- a machine that is there
    obtain ⟨j, rfl⟩ : ∃ j : Nat, v = .ofNat j := ⟨v.toNat, by have := Int.toNat_of_nonneg hvr.1; exact this.symm⟩
    have hjn : j < n := Int.ofNat_lt.1 hvr.2
    have hsub := allN_iff f4 j hjn
    simp only [Bool.and_eq_true] at hsub
    obtain ⟨hsub, _, hbel, _, hsubT, _⟩ := hsub
    have F4 := F3.lit (i := n) (l := L2 (mTA n) 1 (iv j)) (M := NT2) (Nat.lt_succ_self n) (by rw [upd_same]; exact hsub) hbel (by rw [upd_same]; exact Nat.le_refl _)
    rw [upd_same, upd_upd] at F4
    obtain ⟨yj, hyj⟩ := hO.kn (mr j) (by unfold nm; exact List.mem_cons_of_mem _ (List.mem_cons_of_mem _ (rl_mem hjn)))
    have hS : GoSt W n j 1 (mTA n) (mr j) w3 (upd V n (g3, H2 (mTA n) 1 (iv j))) := by
      refine ⟨F4, by rw [upd_same], yj, by rw [upd_same]; exact hle3 _ _ hyj, ?_⟩
      rw [hv _ j hjn]
      exact hO.le j hjn _ _ hyj
    obtain ⟨kk, hkk, hch⟩ := hO.ch j hjn
    have hT := m_T j (by omega)
    obtain ⟨c68, e68, v68⟩ := in3.reg.new 68 tp (by rw [dd7_eq]; rfl) rfl
    obtain ⟨c69, e69, v69⟩ := in3.reg.new 69 (slA NT) (by rw [dd7_eq]; rfl) rfl
    obtain ⟨c74, e74, v74⟩ := in3.reg.new 74 (slA NT1) (by rw [dd7_eq]; rfl) rfl
    obtain ⟨V5, w5, u, t1, t2, t3, ⟨k', t4, t5⟩, _⟩ := own_go (b := b) (cs := cs) (k := k) (rest := []) (V := upd V n (g3, H2 (mTA n) 1 (iv j))) (a := a3) ops16_7 o16_7g o16_7 (by
        rw [upd_same]
        have : (#[Operand.tmp 68, .tmp 69, .tmp 74].map a3.eval).toList = [c68, c69, c74] := by simp [eval_tmp e68, eval_tmp e69, eval_tmp e74]
        rw [this]
        simp only [VRL]
        exact ⟨_, _, rfl, v68, _, _, rfl, v69, _, _, rfl, v74, rfl⟩) (go_fact h6 hjn (.inl rfl)) (show kk < 23 by omega) (m_inv j (by omega)) (m_fix j (by omega)) (m_below j (by omega)) hjn hS (by rw [hv _ j hjn]; exact hch)
    have hlen : GLe g0 (V5 n).1 := by
      have := t2.le n
      rw [upd_same] at this
      exact hle3.trans this
    have hlen3 : GLe g3 (V5 n).1 := by
      have := t2.le n
      rw [upd_same] at this
      exact this
    have hother : ∀ x, x < n → x ≠ j → V5 x = V x := fun x hx hne => by rw [t2.other x (by omega) hne, hv _ x hx]
    have hO' := ol_back (V' := V5) (g' := (V5 n).1) (h' := H2 (mTA n) 1 (iv j)) h1 h6 hO (by rw [← t3.top]) hlen hsubT t3.fam (fun x hx => by
        have := t2.le x
        rw [hv _ x hx] at this
        exact this) (fun x hx => by
        by_cases e : x = j
        · subst e; exact ⟨k', by omega, t5⟩
        · rw [hother x hx e]; exact hO.ch x hx)
    refine ⟨_, w5, _, hreg.trans (t1.trans (.one stepR_region_end)), ?_, hO'⟩
    have reg5 := (in3.reg.mono hlen3).put (o := o16 7) (ds' := a3.defers) (c := u) (v := .undef) (by simp only [VR]) (fun d hd => by rw [o16_7d] at hd; cases hd; decide) in3.sz hn125 in3.lt
    have hdd : ddOf (o16 7) dd7 = 75 :: dd7 := by unfold ddOf; rw [o16_7d]
    rw [hdd] at reg5
    have in5 : InR (V5 n).1 X3 (75 :: dd7) (.cons (dstOf (o16 7)) .undef (te7 idx ord (.ofNat j))) (mkE (L14 n ord idx true)) 125 (a3.put (o16 7).dst u) := by
      refine ⟨reg5, fun d hd => ?_, ?_⟩
      · rw [dd7_eq] at hd
        simp at hd
        omega
      · have := in3.sz
        simp [Act.put, o16_7d]
        exact this
    exact frel16 ho hlen hO.kn hr.simp in5 (by rw [put_defers']; exact hd3)
  · -- a machine that is not there
    have hout := out_all h1 h6 hvr
    unfold outB at hout
    split at hout
    · rename_i vx h' hcv
      obtain ⟨g4, w4, a4, s4, in4, d4, le4, F4⟩ := part_ok (k := k) (V := upd V n (g3, Eng.h6 n v)) progOK recR hn125 ho.hfc ho.hro hlow (Nat.lt_succ_self n) [o16 7] 7 [] dd7 (te7 idx ord v) [] a3 w3 (t' := .cons 75 vx (te7 idx ord v)) (ds' := []) (h' := h') (fun x hx => by
        have : x = 0 := by simpa using hx
        subst this
        rw [ops16_7]; rfl) (by
          rw [upd_same]
          refine (p16_7 idx ord v (mkE (L14 n ord idx true)) (Eng.h6 n v)).trans ?_
          have hcv' : R0.cv (.fn 7 [] []) [tp, slA NT, slA NT1] (Eng.h6 n v) = .ok vx h' := hcv
          rw [hcv']) (by rw [upd_same]; exact in3) (by rw [upd_same]; exact hd3) F3
      rw [upd_same] at le4
      rw [upd_upd] at F4
      have hle4 : GLe g0 g4 := hle3.trans le4
      have hO' := ol_back (V' := upd V n (g4, h')) (g' := g4) (h' := h') h1 h6 hO (upd_same _ _ _) hle4 hout F4 (fun x hx => by rw [hv _ x hx]; exact GLe.refl _) (fun x hx => by rw [hv _ x hx]; exact hO.ch x hx)
      refine ⟨_, w4, a4, hreg.trans (Steps.trans s4 (.one stepR_region_end)), ?_, hO'⟩
      have hdd : ddsOf [o16 7] dd7 = 75 :: dd7 := by
        show ddOf (o16 7) dd7 = _
        unfold ddOf; rw [o16_7d]
      rw [hdd] at in4
      exact frel16 ho hle4 hO.kn hr.simp in4 d4
    · cases hout
theorem order_loop (ho : Own i3 b cs) (h1 : 1 ≤ n) (h6 : n ≤ 6) (hr : OrdR W g0 ord len) : ∀ (d idx : Nat) (V : Nat → G × H) (a : Act) (w : World), len - idx = d → idx ≤ len → OL W n g0 V w → FRel g0 i3 ⟨mkE (LC n ord idx), []⟩ a →
    ∃ V' w' a', Steps P0 (lone (b.atR a (.code itb2 :: .inLoop itb2 :: .inBlock 2 :: k)) cs w) (lone (b.atR a' k) cs w') ∧ FRel g0 i3 ⟨mkE [(0, iv n), (5, tp)], []⟩ a' ∧ OL W n g0 V' w' := by
  intro d
  induction d with
  | zero =>
    intro idx V a w hd hil hO hf
    obtain ⟨V1, w1, a1, e1, e2, e3, _⟩ := ol_pieceV (k := .code if2 :: .code (.seq (.block 3 r16) r15) :: .inLoop itb2 :: .inBlock 2 :: k) ho r14 h1 h6 (r14_fact h1 h6 hr.ok idx) hf hO (simp_L14 hO.kn hr.simp)
    have hb : Nat.blt idx len = false := by rw [← Bool.not_eq_true, blt_iff]; omega
    have h65 := frel_bool (d := 65) (t := false) e2 (by rw [ho.hX]; kernel_rfl) (by rw [hb]; rfl)
    refine ⟨V1, w1, a1, ?_, e2.lit (fun d v hm => ?_) rfl, e3⟩
    · rw [itb2_eq]
      refine .head stepR_seq (.head stepR_seq (Steps.trans e1 ?_))
      rw [if2_eq]
      exact .head (cond_false h65) (.one (stepR_exit (by simp [exitTo])))
    · simp only [List.mem_cons, Prod.mk.injEq, List.not_mem_nil, or_false] at hm
      rcases hm with ⟨rfl, rfl⟩ | ⟨rfl, rfl⟩ <;> rfl
  | succ d ih =>
    intro idx V a w hd hil hO hf
    obtain ⟨V1, w1, a1, e1, e2, e3, _⟩ := ol_pieceV (k := .code if2 :: .code (.seq (.block 3 r16) r15) :: .inLoop itb2 :: .inBlock 2 :: k) ho r14 h1 h6 (r14_fact h1 h6 hr.ok idx) hf hO (simp_L14 hO.kn hr.simp)
    have hb : Nat.blt idx len = true := by rw [blt_iff]; omega
    rw [hb] at e2
    have h65 := frel_bool (d := 65) (t := true) e2 (by rw [ho.hX]; kernel_rfl) rfl
    have e2' : FRel g0 i3 ⟨mkE (L14 n ord idx true), []⟩ a1 := e2
    obtain ⟨V2, w2, a2, f1, f2, f3⟩ := round16 (k := .inBlock 3 :: .code r15 :: .inLoop itb2 :: .inBlock 2 :: k) ho h1 h6 hr (show idx < len by omega) e3 e2'
    have hr15 := r15_fact (idx := idx) (by have := hr.lt; omega) n ord (V2 n).2
    have he15 : evalI P0 R0 none 3 (planC P0 i3.X i3.m r15) ⟨mkE (LC n ord idx), []⟩ (V2 n).2 = .ok .normal ⟨mkE (LC n ord (idx + 1)), []⟩ (V2 n).2 := by
      rw [ho.hX, ho.hm]; exact hr15
    obtain ⟨g3, w3, a3, x1, x2, x3, x4⟩ := piece_all (k := .inLoop itb2 :: .inBlock 2 :: k) (V := V2) (t := n) progOK recR ho.hi ho.hbf ho.hfc ho.hro r15 he15 (by rw [f3.top]; exact f2) f3.fam (by omega)
    rw [f3.top] at x3 x4
    have hself := self_fact h1 h6
    unfold selfB at hself
    simp only [Bool.and_eq_true] at hself
    have hv : ∀ j, j < n → upd V2 n (g3, mkH (mTA n) NT) j = V2 j := fun j hj => upd_other _ _ (by omega)
    have hO3 := ol_back (V' := upd V2 n (g3, mkH (mTA n) NT)) h1 h6 f3 (upd_same _ _ _) x3 hself.1 x4 (fun j hj => by rw [hv j hj]; exact GLe.refl _) (fun j hj => by rw [hv j hj]; exact f3.ch j hj)
    obtain ⟨V4, w4, a4, y1, y2, y3⟩ := ih (idx + 1) _ a3 w3 (by omega) (by omega) hO3 (x2.down x3 (simp_LC hO.kn hr.simp))
    refine ⟨V4, w4, a4, ?_, y2, y3⟩
    have hbody : Steps P0 (lone (b.atR a (.code itb2 :: .inLoop itb2 :: .inBlock 2 :: k)) cs w) (lone (b.atR a3 (.inLoop itb2 :: .inBlock 2 :: k)) cs w3) := by
      rw [itb2_eq]
      refine .head stepR_seq (.head stepR_seq (Steps.trans e1 ?_))
      rw [if2_eq]
      refine .head (cond_true h65) (.head stepR_skip (.head stepR_seq (.head stepR_block (Steps.trans f1 (.head stepR_inBlock ?_)))))
      exact x1
    exact hbody.trans (.head stepR_inLoop y1)
end
end Go.Eng

namespace Go.Eng
open Go
noncomputable section
def L45 (n : Nat) : List (Nat × AV) := [(0, iv n), (5, tp)]
def dd4 : List Nat := ddsOf (ops20.toList.take 4) []
def te4 (j : Nat) : List (Nat × AV) := [(82, tp), (83, slA NT), (85, slA NT1)]
def lastB (n : Nat) : Bool := comesTo .normal (L4 n (prevA n)) (mTA n) NT (ev3 t7 (L45 n) (mkH (mTA n) NT)) && (comesTo .normal (L479 n (prevA 0) false) (mTA n) NT (ev3 r18 (L4 n (prevA 0)) (mkH (mTA n) NT)) &&
  allN (fun j => comesTo .normal (L479 n (iv j) true) (mTA n) NT (ev3 r18 (L4 n (iv j)) (mkH (mTA n) NT)) && (comesTo .normal (L4 n (prevA j)) (mTA n) NT (ev3 r19 (L4 n (iv j)) (mkH (mTA n) NT)) &&
    partTo (te4 j) (L2 (mTA n) 999 (iv j)) NT2 (partL P0 R0 X3 (mkE (L479 n (iv j) true)) ops20.toList (ops20.toList.take 4) [] .nil [] (mkH (mTA n) NT)))) n)
end
theorem last_all : allN (fun n => lastB (n + 1)) 6 = true := by kernel_rfl
theorem last_fact {n : Nat} (h1 : 1 ≤ n) (h6 : n ≤ 6) : lastB n = true := by
  obtain ⟨m, rfl⟩ : ∃ m, n = m + 1 := ⟨n - 1, by omega⟩
  exact allN_iff last_all m (by omega)
theorem ops20_size : ops20.size = 5 := by kernel_rfl
theorem ops20_low : allBelow 125 (dsts ops20.toList) = true := by kernel_rfl
theorem ops20_4 : ops20[4]? = some (o20 4) := by kernel_rfl
theorem o20_4 : (o20 4).op = .call { callee := .value (.func 7), args := #[.tmp 82, .tmp 83, .tmp 85], argTypes := #[23, 22, 22] } := by kernel_rfl
theorem o20_4d : (o20 4).dst = some 86 := by kernel_rfl
theorem o20_4g : (o20 4).guard = none := by kernel_rfl
theorem dd4_eq : dd4 = [85, 84, 83, 82] := by kernel_rfl
section
variable {W w : World} {n j : Nat} {b : Frame} {cs : List Frame} {i3 : FI} {V : Nat → G × H} {a : Act} {k : List Item} {g0 : G}
theorem simp_L4 (hk : Known g0 n) {x : AV} (hx : Simp g0 x) : ∀ d v, (d, v) ∈ L4 n x → Simp g0 v := fun d v h => by
  simp only [L4, List.mem_cons, Prod.mk.injEq, List.not_mem_nil, or_false] at h
  rcases h with ⟨_, rfl⟩ | ⟨_, rfl⟩ | ⟨_, rfl⟩
  · trivial
  · exact hk.tp
  · exact hx
theorem simp_L479 (hk : Known g0 n) {x : AV} (hx : Simp g0 x) {t : Bool} : ∀ d v, (d, v) ∈ L479 n x t → Simp g0 v := fun d v h => by
  simp only [L479, List.mem_cons, Prod.mk.injEq, List.not_mem_nil, or_false] at h
  rcases h with ⟨_, rfl⟩ | ⟨_, rfl⟩ | ⟨_, rfl⟩ | ⟨_, rfl⟩
  · trivial
  · trivial
  · exact hk.tp
  · exact hx
theorem simp_prev (g : G) (j : Nat) : Simp g (prevA j) := by cases j <;> trivial
/-- a piece, between the calls -/
theorem ol_piece (ho : Own i3 b cs) (c : Code) {L L' : List (Nat × AV)} {x : Ex} (h1 : 1 ≤ n) (h6 : n ≤ 6) (he : comesTo x L' (mTA n) NT (ev3 c L (mkH (mTA n) NT)) = true) (hf : FRel g0 i3 ⟨mkE L, []⟩ a) (hO : OL W n g0 V w)
    (hsm : ∀ d v, (d, v) ∈ L' → Simp g0 v) :
    ∃ V' w' a', Out P0 (lone (b.atR a (.code c :: k)) cs w) b k cs x a' w' ∧ FRel g0 i3 ⟨mkE L', []⟩ a' ∧ OL W n g0 V' w' ∧ (∀ j, j < n → V' j = V j) := by
  obtain ⟨f, h, e⟩ : ∃ f h, ev3 c L (mkH (mTA n) NT) = .ok x f h := by
    obtain ⟨f, h, e, _⟩ := comesTo_ok he
    exact ⟨f, h, e⟩
  exact ol_pieceV (k := k) (ds := []) (vs := []) ho c h1 h6 (by
    unfold comesVs
    rw [he, e]
    rfl) hf hO (by simpa using hsm)
/-- the last call for one machine -/
theorem round20 (ho : Own i3 b cs) (h1 : 1 ≤ n) (h6 : n ≤ 6) (hjn : j < n) (hO : OL W n g0 V w) (hf : FRel g0 i3 ⟨mkE (L479 n (iv j) true), []⟩ a) :
    ∃ V' w' a', Steps P0 (lone (b.atR a (.code r20 :: k)) cs w) (lone (b.atR a' k) cs w') ∧ FRel g0 i3 ⟨mkE (L4 n (iv j)), []⟩ a' ∧ OL W n g0 V' w' ∧ (V' j).2 = mkH (mD j) (mNE j) ∧ (∀ x, x < n → x ≠ j → V' x = V x) := by
  have hfa := last_fact h1 h6
  unfold lastB at hfa
  simp only [Bool.and_eq_true] at hfa
  have hfj := allN_iff hfa.2.2 j hjn
  simp only [Bool.and_eq_true] at hfj
  obtain ⟨t, h', hp, hget, hsub, hnx, hbel⟩ := partTo_ok hfj.2.2
  have hn125 : 125 ≤ nowhere := by unfold nowhere; omega
  have hlow : ∀ d, d ∈ dsts ops20.toList → d < 125 := allBelow_iff.1 ops20_low
  have htake : (ops20.toList.take 4).length = 4 := by rw [List.length_take]; simp [ops20_size]
  have hin := hf.inR
  rw [ho.hX, ho.hm] at hin
  obtain ⟨g1, w1, a1, s1, in1, d1, le1, F1⟩ := part_ok (k := k) (V := V) progOK recR hn125 ho.hfc ho.hro hlow (Nat.lt_succ_self n) (ops20.toList.take 4) 0 [4] [] .nil [] a w (fun x hx => by
      rw [htake] at hx
      rw [List.getElem?_take_of_lt hx, Nat.zero_add]
      simp) (by rw [hO.top]; exact hp) (by rw [hO.top]; exact hin) (by have := hf.dfr; rw [hO.top]; exact this) hO.fam
  rw [hO.top] at le1
  have in1 : InR g1 X3 dd4 t (mkE (L479 n (iv j) true)) 125 a1 := in1
  have hd1 : a1.defers = [] := d1
  have hle1 : GLe g0 g1 := le1
  have hv : ∀ (x : G × H) i, i < n → upd V n x i = V i := fun x i hi => upd_other _ _ (by omega)
  have F2 := F1.lit (i := n) (l := L2 (mTA n) 999 (iv j)) (M := NT2) (Nat.lt_succ_self n) (by rw [upd_same]; exact hsub) hbel (by rw [upd_same]; exact hnx)
  rw [upd_same, upd_upd] at F2
  have hself := self_fact h1 h6
  unfold selfB at hself
  simp only [Bool.and_eq_true] at hself
  have hsj := allN_iff hself.2.2 j hjn
  simp only [Bool.and_eq_true] at hsj
  obtain ⟨_, _, _, _, _, hsubT⟩ := hsj
  obtain ⟨yj, hyj⟩ := hO.kn (mr j) (by unfold nm; exact List.mem_cons_of_mem _ (List.mem_cons_of_mem _ (rl_mem hjn)))
  have hS : GoSt W n j 999 (mTA n) (mr j) w1 (upd V n (g1, H2 (mTA n) 999 (iv j))) := by
    refine ⟨F2, by rw [upd_same], yj, by rw [upd_same]; exact hle1 _ _ hyj, ?_⟩
    rw [hv _ j hjn]
    exact hO.le j hjn _ _ hyj
  obtain ⟨kk, hkk, hch⟩ := hO.ch j hjn
  have hT := m_T j (by omega)
  obtain ⟨c82, e82, v82⟩ := in1.reg.new 82 tp (by rw [dd4_eq]; rfl) (hget 82 tp (by simp [te4]))
  obtain ⟨c83, e83, v83⟩ := in1.reg.new 83 (slA NT) (by rw [dd4_eq]; rfl) (hget 83 _ (by simp [te4]))
  obtain ⟨c85, e85, v85⟩ := in1.reg.new 85 (slA NT1) (by rw [dd4_eq]; rfl) (hget 85 _ (by simp [te4]))
  obtain ⟨V5, w5, u, t1, t2, t3, ⟨k', t4, t5⟩, t6⟩ := own_go (b := b) (cs := cs) (k := k) (rest := []) (V := upd V n (g1, H2 (mTA n) 999 (iv j))) (a := a1) ops20_4 o20_4g o20_4 (by
      rw [upd_same]
      have : (#[Operand.tmp 82, .tmp 83, .tmp 85].map a1.eval).toList = [c82, c83, c85] := by simp [eval_tmp e82, eval_tmp e83, eval_tmp e85]
      rw [this]
      simp only [VRL]
      exact ⟨_, _, rfl, v82, _, _, rfl, v83, _, _, rfl, v85, rfl⟩) (go_fact h6 hjn (.inr rfl)) (show kk < 23 by omega) (m_inv j (by omega)) (m_fix j (by omega)) (m_below j (by omega)) hjn hS (by rw [hv _ j hjn]; exact hch)
  have hlen3 : GLe g1 (V5 n).1 := by
    have := t2.le n
    rw [upd_same] at this
    exact this
  have hlen : GLe g0 (V5 n).1 := hle1.trans hlen3
  have hother : ∀ x, x < n → x ≠ j → V5 x = V x := fun x hx hne => by rw [t2.other x (by omega) hne, hv _ x hx]
  have hO' := ol_back (V' := V5) (g' := (V5 n).1) (h' := H2 (mTA n) 999 (iv j)) h1 h6 hO (by rw [← t3.top]) hlen hsubT t3.fam (fun x hx => by
      have := t2.le x
      rw [hv _ x hx] at this
      exact this) (fun x hx => by
      by_cases e : x = j
      · subst e; exact ⟨k', by omega, t5⟩
      · rw [hother x hx e]; exact hO.ch x hx)
  have hdd : ddOf (o20 4) dd4 = 86 :: dd4 := by unfold ddOf; rw [o20_4d]
  have reg5 := (in1.reg.mono hlen3).put (o := o20 4) (ds' := a1.defers) (c := u) (v := .undef) (by simp only [VR]) (fun d hd => by rw [o20_4d] at hd; cases hd; decide) in1.sz hn125 in1.lt
  rw [hdd] at reg5
  have in5 : InR (V5 n).1 X3 (86 :: dd4) (.cons (dstOf (o20 4)) .undef t) (mkE (L479 n (iv j) true)) 125 (a1.put (o20 4).dst u) := by
    refine ⟨reg5, fun d hd => ?_, ?_⟩
    · rw [dd4_eq] at hd
      simp at hd
      omega
    · have := in1.sz
      simp [Act.put, o20_4d]
      exact this
  refine ⟨_, w5, a1.put (o20 4).dst u, ?_, ?_, hO', ?_, fun x hx hne => ?_⟩
  · rw [r20_eq]
    refine .head stepR_region ?_
    have hrg : List.range ops20.size = List.range' 0 (ops20.toList.take 4).length ++ [4] := by rw [htake, ops20_size]; rfl
    rw [hrg]
    exact s1.trans (t1.trans (.one stepR_region_end))
  · have : FRel (V5 n).1 i3 ⟨mkE (L4 n (iv j)), []⟩ (a1.put (o20 4).dst u) := by
      refine ⟨?_, by rw [ho.hm]; exact in5.sz, by show (a1.put (o20 4).dst u).defers = []; rw [put_defers']; exact hd1⟩
      rw [ho.hX]
      refine in5.out (L := L4 n (iv j)) fun d v hd => .inr ?_
      rw [dd4_eq]
      simp only [L4, List.mem_cons, Prod.mk.injEq, List.not_mem_nil, or_false] at hd
      rcases hd with ⟨rfl, rfl⟩ | ⟨rfl, rfl⟩ | ⟨rfl, rfl⟩ <;> exact ⟨rfl, rfl⟩
    exact this.down hlen (simp_L4 hO.kn trivial)
  · rw [upd_other _ _ (by omega)]; exact t6 (by omega)
  · rw [upd_other _ _ (by omega)]; exact hother x hx hne
/-- all machines are done -/
theorem last_loop (ho : Own i3 b cs) (h1 : 1 ≤ n) (h6 : n ≤ 6) : ∀ (d : Nat) (V : Nat → G × H) (a : Act) (w : World), d ≤ n → OL W n g0 V w → (∀ x, x < n → d ≤ x → (V x).2 = mkH (mD x) (mNE x)) → FRel g0 i3 ⟨mkE (L4 n (prevA d)), []⟩ a →
    ∃ V' w' a', Steps P0 (lone (b.atR a (.code itb4 :: .inLoop itb4 :: .inBlock 4 :: k)) cs w) (lone (b.atR a' k) cs w') ∧ FRel g0 i3 ⟨mkE (L45 n), []⟩ a' ∧ OL W n g0 V' w' ∧ (∀ x, x < n → (V' x).2 = mkH (mD x) (mNE x)) := by
  have hfa := last_fact h1 h6
  unfold lastB at hfa
  simp only [Bool.and_eq_true] at hfa
  intro d
  induction d with
  | zero =>
    intro V a w hd hO hall hf
    obtain ⟨V1, w1, a1, e1, e2, e3, e4⟩ := ol_piece (k := .code if4 :: .code (.seq (.block 5 r20) r19) :: .inLoop itb4 :: .inBlock 4 :: k) ho r18 h1 h6 hfa.2.1 hf hO (simp_L479 hO.kn (simp_prev _ _))
    have h79 := frel_bool (d := 79) (t := false) e2 (by rw [ho.hX]; kernel_rfl) rfl
    refine ⟨V1, w1, a1, ?_, e2.lit (fun d v hm => ?_) rfl, e3, fun x hx => by rw [e4 x hx]; exact hall x hx (by omega)⟩
    · rw [itb4_eq]
      refine .head stepR_seq (.head stepR_seq (Steps.trans e1 ?_))
      rw [if4_eq]
      exact .head (cond_false h79) (.one (stepR_exit (by simp [exitTo])))
    · simp only [L45, List.mem_cons, Prod.mk.injEq, List.not_mem_nil, or_false] at hm
      rcases hm with ⟨rfl, rfl⟩ | ⟨rfl, rfl⟩ <;> rfl
  | succ d ih =>
    intro V a w hd hO hall hf
    have hfj := allN_iff hfa.2.2 d (by omega)
    simp only [Bool.and_eq_true] at hfj
    obtain ⟨V1, w1, a1, e1, e2, e3, e4⟩ := ol_piece (k := .code if4 :: .code (.seq (.block 5 r20) r19) :: .inLoop itb4 :: .inBlock 4 :: k) ho r18 h1 h6 hfj.1 hf hO (simp_L479 hO.kn (simp_prev g0 (d + 1)))
    have h79 := frel_bool (d := 79) (t := true) e2 (by rw [ho.hX]; kernel_rfl) rfl
    obtain ⟨V2, w2, a2, f1, f2, f3, f4, f5⟩ := round20 (k := .inBlock 5 :: .code r19 :: .inLoop itb4 :: .inBlock 4 :: k) ho h1 h6 (show d < n by omega) e3 e2
    obtain ⟨V3, w3, a3, x1, x2, x3, x4⟩ := ol_piece (k := .inLoop itb4 :: .inBlock 4 :: k) ho r19 h1 h6 hfj.2.1 f2 f3 (simp_L4 hO.kn (simp_prev _ _))
    obtain ⟨V4, w4, a4, y1, y2, y3, y4⟩ := ih V3 a3 w3 (by omega) x3 (fun x hx hdx => by
      rw [x4 x hx]
      by_cases e : x = d
      · subst e; exact f4
      · rw [f5 x hx e, e4 x hx]; exact hall x hx (by omega)) x2
    refine ⟨V4, w4, a4, ?_, y2, y3, y4⟩
    have hbody : Steps P0 (lone (b.atR a (.code itb4 :: .inLoop itb4 :: .inBlock 4 :: k)) cs w) (lone (b.atR a3 (.inLoop itb4 :: .inBlock 4 :: k)) cs w3) := by
      rw [itb4_eq]
      refine .head stepR_seq (.head stepR_seq (Steps.trans e1 ?_))
      rw [if4_eq]
      refine .head (cond_true h79) (.head stepR_skip (.head stepR_seq (.head stepR_block (Steps.trans f1 (.head stepR_inBlock ?_)))))
      exact x1
    exact hbody.trans (.head stepR_inLoop y1)
end
end Go.Eng

namespace Go.Eng
open Go
noncomputable section
def yesV (r : RV) : Bool := match r with
  | .ok (.bool b) _ => b
  | _ => false
def lawA (n ord : AV) : RV := R0.cf 3 [n, ord] (mkH [] q1)
end
theorem bad_neg (m : Nat) (ord : AV) : yesV (lawA (.int .i64 (.negSucc m)) ord) = true := by kernel_rfl
theorem bad_0 (ord : AV) : yesV (lawA (iv 0) ord) = true := by kernel_rfl
theorem bad_7 (m : Nat) (ord : AV) : yesV (lawA (iv (m + 7)) ord) = true := by kernel_rfl
theorem bad_l1 (m : Nat) : yesV (lawA (iv 1) (ordA (m + 101))) = true := by kernel_rfl
theorem bad_l2 (m : Nat) : yesV (lawA (iv 2) (ordA (m + 101))) = true := by kernel_rfl
theorem bad_l3 (m : Nat) : yesV (lawA (iv 3) (ordA (m + 101))) = true := by kernel_rfl
theorem bad_l4 (m : Nat) : yesV (lawA (iv 4) (ordA (m + 101))) = true := by kernel_rfl
theorem bad_l5 (m : Nat) : yesV (lawA (iv 5) (ordA (m + 101))) = true := by kernel_rfl
theorem bad_l6 (m : Nat) : yesV (lawA (iv 6) (ordA (m + 101))) = true := by kernel_rfl
end Go.Eng

namespace Go.Eng
open Go
noncomputable section
/-! ### what is read at the end: roots and hosts, and no more of them than names that the first look knows -/
def sameU (x y : AV) : Bool := match y with
  | .undef => true
  | y => sameA 20 x y
def wkLs : List AV → List AV → Bool
  | [], [] => true
  | x :: a, y :: b => sameU x y && wkLs a b
  | _, _ => false
def wkC (x y : Option (List AV)) : Bool := match x with
  | none => false
  | some x => (match y with | none => false | some y => wkLs x y)
/-- the second tells less than the first -/
def wkB (a b : Blk) : Bool := match a with
  | .cells vs n g => (match b with | .cells us m k => Nat.beq n m && (bEq g k && wkC (takeC vs n 0) (takeC us m 0)) | _ => false)
  | _ => false
def hasW (x : Option Blk) (b : Blk) : Bool := match x with | some y => wkB y b | none => false
def subW (l : List (Ps × Blk)) (h : H) : Bool := List.rec (motive := fun _ => Bool) true (fun x _ ih => hasW (h.get x.1) x.2 && ih) l
def comesW (x : Ex) (L : List (Nat × AV)) (Hl : List (Ps × Blk)) (r : RC) : Bool := match r with
  | .ok y f h => exEq y x && (subE L f.loc && (noD f.defers && subW Hl h))
  | .no => false
def wkA (nm : List Ps) (v : AV) : AV := match simpB nm v with | true => v | false => .undef
def wkL (nm : List Ps) (l : List AV) : List AV := List.rec (motive := fun _ => List AV) [] (fun x _ ih => wkA nm x :: ih) l
def wkK (nm : List Ps) (x : Option Blk) : Blk := match x with
  | some (.cells vs m gr) => (match takeC vs m 0 with | some l => .cells (fill (wkL nm l) 0 .leaf) m gr | none => .dfr true)
  | _ => .dfr true
def hsL (n : Nat) : List Ps := Nat.rec (motive := fun _ => List Ps) [] (fun j ih => ms j :: ih) n
def nm2 (n : Nat) : List Ps := nm n ++ hsL n
def mU (n j : Nat) : List (Ps × Blk) := [(mr j, wkK (nm2 n) ((mkH (mD j) q1).get (mr j))), (ms j, wkK (nm2 n) ((mkH (mD j) q1).get (ms j)))]
def uU (n j : Nat) : List (Ps × Blk) := Nat.rec (motive := fun _ => List (Ps × Blk)) (mTA n) (fun j ih => mU n j ++ ih) j
def hU (n : Nat) : List (Ps × Blk) := uU n n
def endB (n : Nat) : Bool := comesW .normal (L8 n 0) (hU n) (ev3 t8 (L45 n) (mkH (hU n) NT)) && (comesW (.exit 6) (L45 n) (hU n) (ev3 itb6 (L8 n n) (mkH (hU n) NT)) &&
  allN (fun i => comesW .normal (L8 n (i + 1)) (hU n) (ev3 itb6 (L8 n i) (mkH (hU n) NT))) n)
def uB (n : Nat) : Bool := belowP NT.val (hU n) && (simpT (nm2 n) (hU n) && allN (fun j => subW (mU n j) (mkH (mD j) (mNE j)) && (simpT (nm2 n) (mU n j) && hasCell (mM j) (mr j) 0 (.ptr (ms j) 0))) n)
end
theorem end_all : allN (fun n => endB (n + 1)) 6 = true := by kernel_rfl
theorem u_all : allN (fun n => uB (n + 1)) 6 = true := by kernel_rfl
theorem end_fact {n : Nat} (h1 : 1 ≤ n) (h6 : n ≤ 6) : endB n = true := by
  obtain ⟨m, rfl⟩ : ∃ m, n = m + 1 := ⟨n - 1, by omega⟩
  exact allN_iff end_all m (by omega)
theorem u_fact {n : Nat} (h1 : 1 ≤ n) (h6 : n ≤ 6) : uB n = true := by
  obtain ⟨m, rfl⟩ : ∃ m, n = m + 1 := ⟨n - 1, by omega⟩
  exact allN_iff u_all m (by omega)
theorem wkLs_ok : ∀ {a b : List AV}, wkLs a b = true → a.length = b.length ∧ ∀ (i : Nat) (x y : AV), a[i]? = some x → b[i]? = some y → y = AV.undef ∨ y = x
  | [], [], _ => ⟨rfl, fun i x y h => by simp at h⟩
  | [], _ :: _, h => by simp [wkLs] at h
  | _ :: _, [], h => by simp [wkLs] at h
  | p :: a, q :: b, h => by
    simp only [wkLs, Bool.and_eq_true] at h
    obtain ⟨h1, h2⟩ := h
    obtain ⟨e1, e2⟩ := wkLs_ok h2
    refine ⟨by simp [e1], fun i x y hx hy => ?_⟩
    cases i with
    | zero =>
      simp at hx hy
      subst hx hy
      unfold sameU at h1
      split at h1
      · exact .inl rfl
      · exact .inr (sameA_eq 20 _ _ h1).symm
    | succ i => exact e2 i x y (by simpa using hx) (by simpa using hy)
theorem wkB_BR {P : Program} {g : G} {sh sz : Nat} {a b : Blk} (h : wkB a b = true) {o : Obj} (hb : BR P g sh sz a o) : BR P g sh sz b o := by
  cases a with
  | cells vs n gr =>
    cases b with
    | cells us m k =>
      simp only [wkB, Bool.and_eq_true, nbeq] at h
      obtain ⟨rfl, hg, hc⟩ := h
      rw [bEq_eq] at hg
      have hg : gr = k := by simpa using hg
      subst hg
      obtain ⟨cs, el, fz, h1, h2, h3, h4, h5, h6, h7⟩ := hb
      unfold wkC at hc
      split at hc
      · cases hc
      · rename_i la hla
        split at hc
        · cases hc
        · rename_i lb hlb
          obtain ⟨e1, e2⟩ := wkLs_ok hc
          have ta := takeC_get _ _ _ _ hla
          have tb := takeC_get _ _ _ _ hlb
          refine ⟨cs, el, fz, h1, h2, h3, h4, h5, h6, fun i hi => ?_⟩
          obtain ⟨v, c, f1, f2, f3⟩ := h7 i hi
          have ga := ta.2 i hi
          have gb := tb.2 i hi
          rw [Nat.zero_add] at ga gb
          have hib : i < lb.length := by rw [tb.1]; exact hi
          have hb' : lb[i]? = some (lb[i]) := List.getElem?_eq_getElem hib
          rcases e2 i v lb[i] (by rw [← ga]; exact f1) hb' with e | e
          · exact ⟨.undef, c, by rw [gb, hb', e], f2, by simp only [VR]⟩
          · exact ⟨v, c, by rw [gb, hb', e], f2, f3⟩
    | _ => simp [wkB] at h
  | _ => simp [wkB] at h
theorem hasW_iff {x : Option Blk} {b : Blk} : hasW x b = true ↔ ∃ y, x = some y ∧ wkB y b = true := by
  cases x <;> simp [hasW]
theorem subW_iff {h : H} : ∀ {l : List (Ps × Blk)}, subW l h = true ↔ ∀ p, p ∈ l → ∃ y, h.get p.1 = some y ∧ wkB y p.2 = true
  | [] => by simp [subW]
  | x :: l => by
    show (hasW (h.get x.1) x.2 && subW l h) = true ↔ _
    rw [Bool.and_eq_true, hasW_iff, subW_iff]
    simp
theorem live_litW {g : G} {h : H} {l : List (Ps × Blk)} {N : Ps} (hs : subW l h = true) {b : Ps} {c : Nat} (hl : live g (mkH l N) b c) : live g h b c := by
  obtain ⟨x, sh, sz, h1, h2⟩ := hl
  obtain ⟨y, h3, _⟩ := subW_iff.1 hs _ (mkH_get h1)
  exact ⟨y, sh, sz, h3, h2⟩
theorem top_backW {P : Program} {w w' : World} {g0 g' : G} {h' : H} {l : List (Ps × Blk)} {M : Ps} (h0 : HR P g0 (mkH l M) w) (hle : GLe g0 g') (hr : HR P g' h' w') (hs : subW l h' = true)
    (hc : ∀ b x, (b, x) ∈ l → ∃ vs m gr, x = .cells vs m gr ∧ ∀ i, i < m → ∀ v, T.get vs (ps i) = some v → Simp g0 v) : HR P g0 (mkH l M) w' := by
  refine ⟨fun b x hx c sh sz hg => ?_, h0.inj, h0.fresh, h0.gold⟩
  have hm := mkH_get hx
  obtain ⟨y, h3, h4⟩ := subW_iff.1 hs _ hm
  obtain ⟨o, ho, hbr⟩ := hr.blk b y h3 c sh sz (hle _ _ hg)
  have hbr := wkB_BR h4 hbr
  obtain ⟨vs, m, gr, rfl, hsv⟩ := hc b x hm
  obtain ⟨cs, el, fz, e1, e2, e3, e4, e5, e6, e7⟩ := hbr
  refine ⟨o, ho, cs, el, fz, e1, e2, e3, e4, e5, e6, fun i hi => ?_⟩
  obtain ⟨v, cc, f1, f2, f3⟩ := e7 i hi
  exact ⟨v, cc, f1, f2, VR.down hle (hsv i hi v f1) f3⟩
theorem comesW_ok {x : Ex} {L : List (Nat × AV)} {Hl : List (Ps × Blk)} {r : RC} (h : comesW x L Hl r = true) : ∃ f h', r = .ok x f h' ∧ (∀ d v, (d, v) ∈ L → f.loc.get d = some v) ∧ f.defers = [] ∧ subW Hl h' = true := by
  unfold comesW at h
  split at h
  · rename_i y f h'
    simp only [Bool.and_eq_true] at h
    obtain ⟨h1, h2, h3, h4⟩ := h
    have := exEq_iff h1
    subst this
    exact ⟨f, h', rfl, subE_iff h2, noD_iff h3, h4⟩
  · cases h
theorem mem_uU {n : Nat} {b : Ps} {x : Blk} : ∀ {j : Nat}, (b, x) ∈ uU n j → (b, x) ∈ mTA n ∨ ∃ i, i < j ∧ (b, x) ∈ mU n i
  | 0, h => .inl h
  | j + 1, h => by
    have h : (b, x) ∈ mU n j ++ uU n j := h
    rcases List.mem_append.1 h with h | h
    · exact .inr ⟨j, by omega, h⟩
    · rcases mem_uU h with h | ⟨i, h1, h2⟩
      · exact .inl h
      · exact .inr ⟨i, by omega, h2⟩
theorem mem_hsL {b : Ps} : ∀ {n : Nat}, b ∈ hsL n → ∃ j, j < n ∧ b = ms j
  | 0, h => by cases h
  | n + 1, h => by
    have h : b ∈ ms n :: hsL n := h
    cases h with
    | head => exact ⟨n, by omega, rfl⟩
    | tail _ h => obtain ⟨j, h1, h2⟩ := mem_hsL h; exact ⟨j, by omega, h2⟩
section
variable {W w : World} {n : Nat} {b : Frame} {cs : List Frame} {i3 : FI} {V : Nat → G × H} {a : Act} {k : List Item} {g0 : G}
def KnownH (g0 : G) (n : Nat) : Prop := ∀ j, j < n → ∃ x, g0 (ms j) = some x
theorem hosts_of (h1 : 1 ≤ n) (h6 : n ≤ 6) (hO : OL W n g0 (V0 n g0) w) : KnownH g0 n := by
  intro j hj
  have hu := u_fact h1 h6
  unfold uB at hu
  rw [Bool.and_eq_true, Bool.and_eq_true] at hu
  have hj' := allN_iff hu.2.2 j hj
  simp only [Bool.and_eq_true] at hj'
  have hr := hO.fam.hr j (by omega)
  have e : V0 n g0 j = (g0, mkH (mM j) (mNB j)) := by unfold V0; rw [Lv_other (by omega), Mv_other (by omega)]
  rw [e] at hr
  obtain ⟨y, hy⟩ := hO.kn (mr j) (by unfold nm; exact List.mem_cons_of_mem _ (List.mem_cons_of_mem _ (rl_mem hj)))
  obtain ⟨c, hc⟩ := hasCell_ok hj'.2.2 hr hy
  simp only [VR] at hc
  obtain ⟨cc, sh, sz, hg, _⟩ := hc
  exact ⟨_, hg⟩
/-- all machines in one look -/
theorem fam_U (h1 : 1 ≤ n) (h6 : n ≤ 6) (hO : OL W n g0 V w) (hH : KnownH g0 n) (hall : ∀ x, x < n → (V x).2 = mkH (mD x) (mNE x)) : Fam P0 W 1 (V1 g0 (mkH (hU n) NT)) w := by
  have hu := u_fact h1 h6
  unfold uB at hu
  rw [Bool.and_eq_true, Bool.and_eq_true] at hu
  have hself := self_fact h1 h6
  unfold selfB at hself
  simp only [Bool.and_eq_true] at hself
  have hk2 : ∀ b, b ∈ nm2 n → ∃ x, g0 b = some x := fun b hb => by
    unfold nm2 at hb
    rcases List.mem_append.1 hb with hb | hb
    · exact hO.kn b hb
    · obtain ⟨j, hj, rfl⟩ := mem_hsL hb; exact hH j hj
  have hn := hO.fam.hr n (by omega)
  rw [hO.top] at hn
  have src : ∀ b x, (mkH (hU n) NT).get b = some x → ∀ c sh sz, g0 b = some (c, sh, sz) → (∃ t, t ≤ n ∧ live (V t).1 (V t).2 b c) ∧ ∃ o, w.heap[c]? = some o ∧ BR P0 g0 sh sz x o := by
    intro b x hx c sh sz hg
    rcases mem_uU (mkH_get hx) with hm | ⟨j, hj, hm⟩
    · obtain ⟨y, hy, hyx⟩ := subL_iff.1 hself.1 _ hm
      refine ⟨⟨n, Nat.le_refl _, by rw [hO.top]; exact ⟨y, sh, sz, hy, hg⟩⟩, ?_⟩
      obtain ⟨o, ho, hbr⟩ := hn.blk b y hy c sh sz hg
      exact ⟨o, ho, blkEq_BR hyx hbr⟩
    · have hj' := allN_iff hu.2.2 j hj
      simp only [Bool.and_eq_true] at hj'
      obtain ⟨y, hy, hyx⟩ := subW_iff.1 hj'.1 _ hm
      rw [← hall j hj] at hy
      have hgj := hO.le j hj _ _ hg
      refine ⟨⟨j, by omega, y, sh, sz, hy, hgj⟩, ?_⟩
      obtain ⟨o, ho, hbr⟩ := (hO.fam.hr j (by omega)).blk b y hy c sh sz hgj
      refine ⟨o, ho, ?_⟩
      have hbr := wkB_BR hyx hbr
      obtain ⟨vs, m, gr, hxe, hs⟩ := simpT_ok hk2 hj'.2.1 b x hm
      simp only at hbr
      rw [hxe] at hbr ⊢
      obtain ⟨cs, el, fz, a1, a2, a3, a4, a5, a6, a7⟩ := hbr
      refine ⟨cs, el, fz, a1, a2, a3, a4, a5, a6, fun i hi => ?_⟩
      obtain ⟨v, cc, f1, f2, f3⟩ := a7 i hi
      exact ⟨v, cc, f1, f2, VR.down (hO.le j hj) (hs i hi v f1) f3⟩
  have srcL : ∀ b c, live g0 (mkH (hU n) NT) b c → ∃ t, t ≤ n ∧ live (V t).1 (V t).2 b c := fun b c hl => by
    obtain ⟨x, sh, sz, hx, hg⟩ := hl
    exact (src b x hx c sh sz hg).1
  refine ⟨fun i hi => ⟨fun b x hx c sh sz hg => (src b x hx c sh sz hg).2, fun b b' c l1 l2 => ?_, fun b hb => ?_, hn.gold⟩, fun i j hi hj hne => by omega, fun i hi b c hl => ?_, hO.fam.kept⟩
  · obtain ⟨t, ht, e1⟩ := srcL b c l1
    obtain ⟨t', ht', e2⟩ := srcL b' c l2
    by_cases e : t = t'
    · subst e
      exact (hO.fam.hr t (by omega)).inj b b' c e1 e2
    · exact (hO.fam.dj t t' (by omega) (by omega) e b b' c e1 e2).elim
  · cases hx : (mkH (hU n) NT).get b with
    | none => rfl
    | some x =>
      have h1 := belowP_iff.1 hu.1 _ (mkH_get hx)
      simp only at h1
      exact absurd hb (by show ¬ NT.val ≤ b.val; omega)
  · obtain ⟨t, ht, e1⟩ := srcL b c hl
    exact hO.fam.lo t (by omega) b c e1
theorem known2 (hk : Known g0 n) (hH : KnownH g0 n) : ∀ b, b ∈ nm2 n → ∃ x, g0 b = some x := fun b hb => by
  unfold nm2 at hb
  rcases List.mem_append.1 hb with hb | hb
  · exact hk b hb
  · obtain ⟨j, hj, rfl⟩ := mem_hsL hb; exact hH j hj
theorem ownW (ho : Own i3 b cs) (c : Code) {L L' : List (Nat × AV)} {x : Ex} (h1 : 1 ≤ n) (h6 : n ≤ 6) (hk : Known g0 n) (hH : KnownH g0 n)
    (he : comesW x L' (hU n) (ev3 c L (mkH (hU n) NT)) = true) (hf : FRel g0 i3 ⟨mkE L, []⟩ a) (hF : Fam P0 W 1 (V1 g0 (mkH (hU n) NT)) w) (hsm : ∀ d v, (d, v) ∈ L' → Simp g0 v) :
    ∃ w' a', Out P0 (lone (b.atR a (.code c :: k)) cs w) b k cs x a' w' ∧ FRel g0 i3 ⟨mkE L', []⟩ a' ∧ Fam P0 W 1 (V1 g0 (mkH (hU n) NT)) w' := by
  obtain ⟨f, h, he, e1, e2, e3⟩ := comesW_ok he
  unfold ev3 at he
  rw [← ho.hX, ← ho.hm] at he
  obtain ⟨g', w', a', p1, p2, p3, p4⟩ := piece_all (k := k) (V := V1 g0 (mkH (hU n) NT)) (t := 0) progOK recR ho.hi ho.hbf ho.hfc ho.hro c he hf hF (by omega)
  have hr := p4.hr 0 (by omega)
  rw [upd_same] at hr
  have hu := u_fact h1 h6
  unfold uB at hu
  simp only [Bool.and_eq_true] at hu
  have hb := top_backW (hF.hr 0 (by omega)) p3 hr e3 (simpT_ok (known2 hk hH) hu.2.1)
  have := p4.less (i := 0) (by omega) hb fun b c hl => ⟨b, by
    rw [upd_same]
    obtain ⟨x, sh, sz, q1', q2'⟩ := hl
    exact live_litW e3 ⟨x, sh, sz, q1', p3 _ _ q2'⟩⟩
  exact ⟨w', a', p1, (p2.lit e1 e2).down p3 hsm, fam1 this (upd_same _ _ _)⟩
theorem simp_L8 (hk : Known g0 n) {i : Nat} : ∀ d v, (d, v) ∈ L8 n i → Simp g0 v := fun d v h => by
  simp only [L8, List.mem_cons, Prod.mk.injEq, List.not_mem_nil, or_false] at h
  rcases h with ⟨_, rfl⟩ | ⟨_, rfl⟩ | ⟨_, rfl⟩
  · trivial
  · exact hk.tp
  · trivial
theorem simp_L45 (hk : Known g0 n) : ∀ d v, (d, v) ∈ L45 n → Simp g0 v := fun d v h => by
  simp only [L45, List.mem_cons, Prod.mk.injEq, List.not_mem_nil, or_false] at h
  rcases h with ⟨_, rfl⟩ | ⟨_, rfl⟩
  · trivial
  · exact hk.tp
/-- the ends are looked at -/
theorem end_loop (ho : Own i3 b cs) (h1 : 1 ≤ n) (h6 : n ≤ 6) (hk : Known g0 n) (hH : KnownH g0 n) : ∀ (d i : Nat) (a : Act) (w : World), n - i = d → i ≤ n → FRel g0 i3 ⟨mkE (L8 n i), []⟩ a → Fam P0 W 1 (V1 g0 (mkH (hU n) NT)) w →
    ∃ w' a', Steps P0 (lone (b.atR a (.code itb6 :: .inLoop itb6 :: .inBlock 6 :: k)) cs w) (lone (b.atR a' k) cs w') ∧ FRel g0 i3 ⟨mkE (L45 n), []⟩ a' ∧ Fam P0 W 1 (V1 g0 (mkH (hU n) NT)) w' := by
  have hfa := end_fact h1 h6
  unfold endB at hfa
  simp only [Bool.and_eq_true] at hfa
  intro d
  induction d with
  | zero =>
    intro i a w hd hin hf hF
    have : i = n := by omega
    subst this
    obtain ⟨w', a', ⟨k1, h2, h3⟩, h4, h7⟩ := ownW (k := .inLoop itb6 :: .inBlock 6 :: k) ho itb6 h1 h6 hk hH hfa.2.1 hf hF (simp_L45 hk)
    exact ⟨w', a', h2.trans (.one (stepR_exit (by rw [h3]; simp [exitTo]))), h4, h7⟩
  | succ d ih =>
    intro i a w hd hin hf hF
    obtain ⟨w', a', h2, h4, h7⟩ := ownW (k := .inLoop itb6 :: .inBlock 6 :: k) ho itb6 h1 h6 hk hH (allN_iff hfa.2.2 i (by omega)) hf hF (simp_L8 hk)
    obtain ⟨w2, a2, e1, e2, e4⟩ := ih (i + 1) a' w' (by omega) (by omega) h4 h7
    exact ⟨w2, a2, Steps.trans h2 (.head stepR_inLoop e1), e2, e4⟩
end
end Go.Eng

namespace Go.Eng
open Go
noncomputable section
def leftB (n : Nat) : Bool := partTo [(122, .bool true)] [] NB0 (partL P0 R0 X3 (mkE (L45 n)) ops28.toList (ops28.toList.take 5) [] .nil [] (mkH (hU n) NT))
end
theorem left_all : allN (fun n => leftB (n + 1)) 6 = true := by kernel_rfl
theorem left_fact {n : Nat} (h1 : 1 ≤ n) (h6 : n ≤ 6) : leftB n = true := by
  obtain ⟨m, rfl⟩ : ∃ m, n = m + 1 := ⟨n - 1, by omega⟩
  exact allN_iff left_all m (by omega)
theorem ops28_size : ops28.size = 8 := by kernel_rfl
theorem ops28_low : allBelow 125 (dsts ops28.toList) = true := by kernel_rfl
end Go.Eng
