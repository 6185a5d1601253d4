/-
  THE TIED CARD OF casketlaw17.TurnsOwn, PROVED: whatever n and order are handed in, the law returns true and both arguments read as before. Conditions: none beyond the given row's own (the listed library variables read as the text lays them). By an AI agent.
-/
import Derived.Test.YtjlkbflcdagcbaaGreatDoorMD
namespace Go.Proofs.YtjlkbflcdagcbaaGreatDoor
open Go.ChangeShapes Go.WideShapes Go.ChangeAt Go.RowKit
theorem none_goes : Tryz.prog.funcs.any Func.goes = false := by kernel_rfl
theorem goes_none (f : FuncId) : Tryz.prog.goes f = false := by
  unfold Program.goes
  rw [none_goes, Bool.and_false, Bool.or_false, List.any_eq_false]
  intro g _ h
  cases hg : Tryz.prog.funcs[g]? with
  | none => rw [hg] at h; cases h
  | some fn =>
    rw [hg] at h
    have h : fn.goes = true := h
    have hn := none_goes
    rw [Array.any_eq_false] at hn
    obtain ⟨hlt, he⟩ := Array.getElem?_eq_some_iff.1 hg
    exact hn g hlt (by rw [he]; exact h)
theorem goes_any (o : Option FuncId) : o.any Tryz.prog.goes = false := by
  cases o with
  | none => rfl
  | some f => rw [Option.any_some]; exact goes_none f
theorem goes_by : false = Rows.turnsOwnRow.goesBy Tryz.prog := by
  unfold OpenClaim.goesBy Program.goesAt Program.goesFrom
  rw [goes_any]
  rfl
theorem wants : ([3, 22].all fun u => !Tryz.prog.wantsStandIn u) = true := by kernel_rfl
theorem turnsOwnCard_holds : Rows.TurnsOwnCardSaid :=
  Claim7.holds_tied_plain_at .later [] [.data, .data, .data, .sentinel, .sentinel] true (true, "0814606615715aada46aa574b85a0fc41b5b2340bf1ee99f84259a9a70318ede") true turnsOwn_holds (fun _ h => by cases h) (by kernel_rfl) (fun _ h => by cases h) turnsOwn_row_tie rfl ⟨rfl, rfl⟩ (by kernel_rfl) rfl
    (fun f fn hf hfn => by
      obtain rfl : f = 3 := Option.some.inj (named3.symm.trans hf) |>.symm
      obtain rfl : fn = Tryz.f3 := (Option.some.inj (Tryz.func3.symm.trans hfn)).symm
      exact ⟨by kernel_rfl, fun j t ht => by
        rw [Tryz.params3] at ht
        have hm : t ∈ [3, 22] := by simpa using Array.mem_of_getElem? ht
        exact (show Tryz.prog.wantsStandIn t = false by simpa using List.all_eq_true.1 wants t hm)⟩)
    goes_by
#print axioms turnsOwnCard_holds
end Go.Proofs.YtjlkbflcdagcbaaGreatDoor
