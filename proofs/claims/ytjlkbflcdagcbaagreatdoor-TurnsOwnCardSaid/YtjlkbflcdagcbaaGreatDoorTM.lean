/-
  A part of the proof of casketlaw17.TurnsOwn: the evaluator's soundness, or the law's own steps. By an AI agent.
-/
import Derived.Test.YtjlkbflcdagcbaaGreatDoorTJ
import Derived.Lib.Join
import Derived.Below
namespace Go.Eng
open Go
open Go.RowKit in
theorem below_ext {P : Program} {g : G} {h : H} {w w' : World} (hr : HR P g h w) (hb : Below w.heap.size w w') : Ext g h w g h w' ∧ HR P g h w' := by
  refine ⟨⟨GLe.refl g, fun _ hb _ hx => clash hb hx, fun _ _ _ => rfl, Nat.le_refl _, hb.size, fun b c hl => .inl ⟨b, hl⟩, fun c hc _ => hb.block c hc, ⟨hb.os, hb.tape, hb.output⟩⟩, ⟨fun b x hx c sh sz hg => ?_, hr.inj, hr.fresh, hr.gold⟩⟩
  obtain ⟨o, ho, hbr⟩ := hr.blk b x hx c sh sz hg
  exact ⟨o, by rw [hb.block c (Array.getElem?_eq_some_iff.1 ho).1]; exact ho, hbr⟩
theorem strs_ok {g : G} : ∀ {cs : List AV} {l : List (List Nat)} {us : List Value}, strsOf cs = some l → VRL g cs us → ∃ xs : List ByteArray, us = xs.map Value.string ∧ xs.map bytesOf = l
  | [], l, us, h, hv => by
    obtain rfl := Option.some.inj (show some [] = some l from h)
    simp only [VRL] at hv
    subst hv
    exact ⟨[], rfl, rfl⟩
  | .str s :: cs, l, us, h, hv => by
    unfold strsOf at h
    split at h
    · cases h
    · rename_i r hr
      obtain rfl := Option.some.inj h
      simp only [VRL, VR] at hv
      obtain ⟨y, ys, rfl, ⟨bs, rfl, hb⟩, h2⟩ := hv
      obtain ⟨xs, h3, h4⟩ := strs_ok hr h2
      exact ⟨bs :: xs, by simp [h3], by simp [h4, hb]⟩
theorem join_two (x y : List UInt8) (r : List (List UInt8)) (sep : List UInt8) : Lib.join (x :: y :: r) sep = x ++ (sep ++ Lib.join (y :: r) sep) := by
  simp [Lib.join, List.intercalate]
theorem join_map (sep : List UInt8) : ∀ l : List (List UInt8), (Lib.join l sep).map (·.toNat) = joinL (sep.map (·.toNat)) (l.map fun x => x.map (·.toNat))
  | [] => rfl
  | [x] => by simp [Lib.join_one, joinL]
  | x :: y :: r => by
    rw [join_two, List.map_append, List.map_append, join_map sep (y :: r)]
    rfl
open Go.RowKit in
/-- strings.Join, by its contract -/
theorem joinOK_of {P : Program} {J : FuncId} (hf : ∃ fn c, P.funcs[J]? = some fn ∧ fn.body = some c)
    (hc : ∀ (bk o c : Nat) (xs : List ByteArray) (sep : ByteArray) (w : World), (∀ (j : Nat) x, xs[j]? = some x → w.cell? ⟨bk, o + j, none⟩ = some (.string x)) → bk < w.heap.size → xs.length ≤ 140737488355328 → xs.length ≤ c →
      (Lib.join (xs.map (·.data.toList)) sep.data.toList).length ≤ 140737488355328 →
      Calls P J #[.slice (some ⟨bk, o, none⟩) xs.length c, .string sep] w fun e w' => e = .returned (.string ⟨(Lib.join (xs.map (·.data.toList)) sep.data.toList).toArray⟩) ∧ Below w.heap.size w w') : JoinOK P J := by
  refine ⟨hf, fun vs h v h' he g w args hvs hr cs => ?_⟩
  unfold joinR at he
  split at he
  · rename_i x sep
    split at he
    · cases he
    · rename_i hjs
      split at he
      · cases he
      · rename_i n cs' hsrc
        split at he
        · cases he
        · rename_i l hl
          rw [fL_eq] at he
          split at he
          · rename_i hlen
            have hlen := Nat.le_of_ble_eq_true hlen
            rw [lenL_eq] at hlen
            simp only [RV.ok.injEq] at he
            obtain ⟨rfl, rfl⟩ := he
            unfold joinSl at hjs
            split at hjs
            · rename_i b o es n' cap
              split at hjs
              · rename_i hes
                have hes := Nat.eq_of_beq_eq_true hes
                subst hes
                simp only [VRL] at hvs
                obtain ⟨xv, ys, hargs, hx, y, ys', rfl, hs, rfl⟩ := hvs
                simp only [VR] at hx hs
                obtain ⟨c, sh, sz, cp, hg, rfl, hcp⟩ := hx
                obtain ⟨sb, rfl, hsb⟩ := hs
                simp only [srcC] at hsrc
                · split at hsrc
                  · rename_i vs' m gr hget
                    split at hsrc
                    · rename_i hle
                      have hle := Nat.le_of_ble_eq_true hle
                      split at hsrc
                      · cases hsrc
                      · rename_i cs2 htk
                        split at hsrc
                        · simp only [Option.some.injEq, Prod.mk.injEq] at hsrc
                          obtain ⟨rfl, rfl⟩ := hsrc
                          obtain ⟨arr, el, fz, ha, a2, a3, a4, a5, a6, a7⟩ := hr.cells hget hg
                          obtain ⟨us, hul, hvl, hcell⟩ := hr.stretch hget hg hle htk
                          obtain ⟨xs, rfl, hxs⟩ := strs_ok hl hvl
                          have hxl : xs.length = n' := by simpa using hul
                          have hcle : xs.length ≤ cp := by
                            cases cap with
                            | none => simp at hcp; omega
                            | some k =>
                              simp only [] at hcp hjs
                              have := Nat.le_of_ble_eq_true hjs
                              omega
                          have hb : bytesOf (⟨(Lib.join (xs.map (·.data.toList)) sb.data.toList).toArray⟩ : ByteArray) = joinL sep l := by
                            unfold bytesOf
                            simp only [List.toList_toArray]
                            rw [join_map, ← hsb, ← hxs, List.map_map]
                            rfl
                          have hlen2 : (Lib.join (xs.map (·.data.toList)) sb.data.toList).length ≤ 140737488355328 := by
                            have := congrArg List.length hb
                            unfold bytesOf at this
                            simp only [List.toList_toArray, List.length_map] at this
                            rw [this]
                            unfold lim at hlen
                            omega
                          have hlt : c < w.heap.size := hr.lt ⟨_, sh, sz, hget, hg⟩
                          obtain ⟨e, w', fr, ⟨rfl, hbel⟩, hs, hfn, h1, h2, h3, fn, h4, h5⟩ := hc c (o + sh) cp xs sb w (fun j x hx => hcell j _ (by simp [hx])) hlt (by unfold lim at a5; omega) hcle hlen2 cs
                          obtain ⟨x1, x2⟩ := below_ext hr hbel
                          have hargs' : args = #[.slice (some ⟨c, o + sh, none⟩) xs.length cp, .string sb] := by
                            rw [hxl]; exact Array.toList_inj.1 hargs
                          refine ⟨_, w', g, fr, by rw [hargs']; exact hs, ⟨h3, hfn, h1, h2, fn, hfn ▸ h4, h5⟩, ?_, x1, x2⟩
                          simp only [VR]
                          exact ⟨_, rfl, hb⟩
                        · cases hsrc
                    · cases hsrc
                  · cases hsrc
              · cases hjs
            · cases hjs
          · cases he
  · cases he
end Go.Eng
