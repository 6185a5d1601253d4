/-
  A part of the proof of casketlaw17.TurnsOwn: the evaluator's soundness, or the law's own steps. By an AI agent.
-/
import Derived.Test.YtjlkbflcdagcbaaGreatDoorTM
import Derived.Test.YtjlkbflcdagcbaaGreatDoorProg
import Derived.Test.YtjlkbflcdagcbaaGreatDoorShelf
import Derived.KernelRfl
namespace Go.Eng
open Go
theorem num0 : Go.Proofs.Tryz.prog.funcs.toList.all (fun fn => !(fn.name == "runtime.NumGoroutine")) = true := by kernel_rfl
theorem mixed0 : Go.Proofs.Tryz.prog.follows .mixedOrders = true := by kernel_rfl
theorem progOK : ProgOK Go.Proofs.Tryz.prog where
  num := fun f fn hf => by
    have h := List.all_eq_true.1 num0 fn (List.mem_of_getElem? (by simpa using hf))
    simpa using h
  mixed := mixed0
theorem joinOK : JoinOK Go.Proofs.Tryz.prog 198 :=
  joinOK_of (by
    have := Go.Proofs.Tryz.func198
    exact ⟨_, _, this, rfl⟩) (fun bk o c xs sep w h1 h2 h3 h4 h5 => Go.Proofs.Tryz.strings_Join bk o c xs sep w h1 h2 h3 h4 h5)
end Go.Eng
