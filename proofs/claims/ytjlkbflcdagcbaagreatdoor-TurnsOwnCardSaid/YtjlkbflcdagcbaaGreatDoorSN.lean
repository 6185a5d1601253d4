/-
  A part of the proof of casketlaw17.TurnsOwn: the evaluator's soundness, or the law's own steps. By an AI agent.
-/
import Derived.Test.YtjlkbflcdagcbaaGreatDoorSJ
import Derived.Laws.MakeOwn
import Derived.Laws.IdiomStrings
namespace Go.Eng
open Go
section
variable (P : Program) (X dd : List Nat) (d : Nat) (t l : E) (ρ : Operand → Value) (g : G)
/-- an operation that makes a block, whatever the heap -/
def AllocOK (op : Op) : Prop := ∀ (o : Oper), o.op = op → ∀ h h' v, insV t l h (plan1 P X dd d op) = .ok v h' →
  ∃ (blk : Blk) (mk : Ps → AV), v = mk h.next ∧ h' = h.add blk ∧ (∀ h2, insV t l h2 (plan1 P X dd d op) = .ok (mk h2.next) (h2.add blk)) ∧
    ∀ w, ∃ c w' ob sz, (execOp ρ o).run P w = .ok (.value c) w' ∧ w'.heap = w.heap.push ob ∧ Same w w' ∧
      ∀ g', GLe g g' → ∀ p, g' p = some (w.heap.size, 0, sz) → VR g' (mk p) c ∧ BR P g' 0 sz blk ob
variable {P X dd d t l ρ g}

theorem fill_leaf {vs : List AV} (hl : vs.length ≤ lim) {i : Nat} (hi : i < vs.length) : (fill vs 0 .leaf).get (ps i) = vs[i]? := by
  rw [fill_get vs 0 .leaf i (by omega) (by omega), if_pos (by omega)]
  simp
theorem br_cells {g' : G} {vs : List AV} {us : Array Value} {el : TypeId} {fz : Nat × Nat} {gr : Bool} (hl : vs.length ≤ lim) (hus : ∀ (i : Nat) (x : AV), vs[i]? = some x → ∃ u, us[i]? = some u ∧ VR g' x u)
    (hlen : vs.length ≤ us.size) (hgr : gr = false → vs.length = us.size) (hfz : ∀ i, i < us.size → (decide (fz.1 ≤ i) && decide (i < fz.2)) = false) :
    BR P g' 0 us.size (.cells (fill vs 0 .leaf) (lenL vs) gr) (.cells us el fz) := by
  refine ⟨us, el, fz, rfl, rfl, by simpa using hlen, fun h => by simpa using hgr h, by simpa using hl, hfz, fun i hi => ?_⟩
  rw [lenL_eq] at hi
  obtain ⟨u, hu, hv⟩ := hus i vs[i] (by simp [hi])
  exact ⟨vs[i], u, by rw [fill_leaf hl hi]; simp [hi], by simpa using hu, hv⟩
theorem br_row {g' : G} {vs : List AV} {us : Array Value} {el : TypeId} (hl : vs.length ≤ lim) (h : VRL g' vs us.toList) : BR P g' 0 us.size (.cells (fill vs 0 .leaf) (lenL vs) false) (.cells us el (0, 0)) := by
  have hlen : vs.length = us.size := by simpa using h.length
  refine br_cells hl (fun i x hx => ?_) (by omega) (fun _ => hlen) (fun i _ => by simp)
  obtain ⟨u, hu, hv⟩ := h.get i x hx
  exact ⟨u, by simpa using hu, hv⟩
theorem oneV_ok {h h' : H} {gr : Bool} {vs : List AV} {mk : Ps → AV} {v : AV} (ho : oneV h gr vs mk = .ok v h') : vs.length ≤ lim ∧ v = mk h.next ∧ h' = h.add (.cells (fill vs 0 .leaf) (lenL vs) gr) := by
  unfold oneV at ho
  split at ho
  · rename_i hl
    simp only [RV.ok.injEq] at ho
    exact ⟨by have := Nat.le_of_ble_eq_true hl; rwa [lenL_eq] at this, ho.1.symm, ho.2.symm⟩
  · cases ho
theorem oneV_mk {h : H} {gr : Bool} {vs : List AV} {mk : Ps → AV} (hl : vs.length ≤ lim) : oneV h gr vs mk = .ok (mk h.next) (h.add (.cells (fill vs 0 .leaf) (lenL vs) gr)) := by
  unfold oneV
  rw [lenL_eq, Nat.ble_eq_true_of_le hl]

theorem al_bad {op : Op} (hp : plan1 P X dd d op = .bad) : AllocOK P X dd d t l ρ g op := by
  intro o ho h h' v hi
  rw [hp] at hi
  cases hi

theorem al_alloc (ty : TypeId) : AllocOK P X dd d t l ρ g (.alloc ty) := by
  cases hz : zeroC P ty with
  | none => exact al_bad (by simp only [plan1, hz])
  | some z =>
    intro o ho h h' v hi
    simp only [plan1, hz, insV, rL_ok] at hi ⊢
    obtain ⟨vs, hvs, ha⟩ := hi
    obtain ⟨hl, rfl, rfl⟩ := oneV_ok ha
    obtain ⟨iz, zv, hiz, hzv, hzr⟩ := zeroC_of hz
    refine ⟨_, fun b => .ptr b 0, rfl, rfl, fun h2 => ⟨vs, hvs, oneV_mk hl⟩, fun w => ⟨.pointer (some ⟨w.heap.size, 0, none⟩), { w with heap := w.heap.push (.cells zv.cells ty) }, .cells zv.cells ty, zv.cells.size, ?_, rfl, Same.refl w, fun g' hg p hp => ⟨by simp only [VR]; exact ⟨_, _, _, hp, rfl⟩, br_row hl (hzr g')⟩⟩⟩
    simp [execOp, ho, Instr.alloc, zeroValue, typeInfo, hiz, hzv, newVar, newRow]
theorem al_box (hρ : OpdR g X dd t l ρ) (ty : TypeId) (x : Operand) : AllocOK P X dd d t l ρ g (.box ty x) := by
  intro o ho h h' v hi
  simp only [plan1, insV, rL_ok] at hi ⊢
  obtain ⟨vs, hvs, ha⟩ := hi
  have hvl := getL_VRL hρ (xs := [x]) (by simpa only [opds] using hvs)
  cases vs with
  | nil => cases ha
  | cons a r =>
    cases r with
    | cons b r => cases ha
    | nil =>
      simp only [List.map_cons, List.map_nil, VRL] at hvl
      obtain ⟨y, ys, e, hax, _⟩ := hvl
      cases e
      unfold boxR boxO at ha
      simp only at ha
      split at ha
      · rename_i cs hcs
        obtain ⟨hl, rfl, rfl⟩ := oneV_ok ha
        obtain ⟨hcv, _⟩ := cellsK_VRL hcs hax
        refine ⟨_, fun b => .ptr b 0, rfl, rfl, fun h2 => ⟨[a], hvs, by simp only [boxR, boxO, hcs]; exact oneV_mk hl⟩, fun w => ⟨.pointer (some ⟨w.heap.size, 0, none⟩), { w with heap := w.heap.push (.cells (ρ x).cells ty) }, .cells (ρ x).cells ty, (ρ x).cells.size, ?_, rfl, Same.refl w, fun g' hg p hp => ⟨by simp only [VR]; exact ⟨_, _, _, hp, rfl⟩, br_row hl (hcv.mono hg)⟩⟩⟩
        simp [execOp, ho, Instr.box, newVar, newRow]
      · cases ha
theorem al_makeMap (ty : TypeId) (r : Option Operand) : AllocOK P X dd d t l ρ g (.makeMap ty r) := by
  cases r with
  | some x => exact al_bad (by simp only [plan1])
  | none =>
    intro o ho h h' v hi
    simp only [plan1, insV, rL_ok] at hi ⊢
    obtain ⟨vs, hvs, ha⟩ := hi
    simp only [newMap, RV.ok.injEq] at ha
    obtain ⟨rfl, rfl⟩ := ha
    refine ⟨.map [] 0, fun b => .map b, rfl, rfl, fun h2 => ⟨vs, hvs, rfl⟩, fun w => ⟨.map (some w.heap.size), { w with heap := w.heap.push (.map #[] 0) }, .map #[] 0, 0, ?_, rfl, Same.refl w, fun g' hg p hp => ⟨by simp only [VR]; exact ⟨_, _, _, hp, rfl⟩, ⟨#[], rfl, rfl⟩⟩⟩⟩
    simp [execOp, ho, Instr.makeMap]

theorem repZ_length (z : List AV) : ∀ n, (repZ z n).length = n * z.length
  | 0 => by simp [repZ]
  | n + 1 => by simp [repZ, repZ_length z n, Nat.add_mul]; omega
theorem repZ_get (z : List AV) : ∀ (n i : Nat), i < n * z.length → (repZ z n)[i]? = z[i % z.length]?
  | 0, i, h => by simp at h
  | n + 1, i, h => by
    unfold repZ
    by_cases hi : i < z.length
    · rw [List.getElem?_append_left hi, Nat.mod_eq_of_lt hi]
    · rw [List.getElem?_append_right (by omega), repZ_get z n (i - z.length) (by rw [Nat.add_mul] at h; omega)]
      rw [Nat.mod_eq_sub_mod (a := i) (by omega)]
theorem zeros_VRL {z : List AV} {zv : Value} (hz : VRL g z zv.cells.toList) (n : Nat) : VRL g (repZ z n) ((Array.range (n * z.length)).map fun i => zv.cells[i % zv.cells.size]!).toList := by
  have hlen : z.length = zv.cells.size := by simpa using hz.length
  refine VRL.mk (by simp [repZ_length]) fun i x y hx hy => ?_
  have hi : i < n * z.length := by rw [← repZ_length z n]; exact (List.getElem?_eq_some_iff.1 hx).1
  rw [repZ_get z n i hi] at hx
  obtain ⟨u, hu, hv⟩ := hz.get _ _ hx
  simp [hi] at hy
  rw [← hlen] at hy
  have hu' : zv.cells[i % z.length]? = some u := by simpa using hu
  have he : zv.cells[i % z.length]! = u := by rw [getElem!_def, hu']
  rw [← hy, he]
  exact hv

theorem slE_of {ty e : TypeId} (h : slE P ty = some e) : und P ty = some (.slice e) := by
  unfold slE at h
  split at h
  · rename_i hu; obtain rfl := Option.some.inj h; exact hu
  · cases h

theorem al_buildSlice (hρ : OpdR g X dd t l ρ) (ty : TypeId) (n : Nat) (ps : Array (Nat × Operand)) : AllocOK P X dd d t l ρ g (.buildSlice ty n ps) := by
  cases he : slE P ty with
  | none => exact al_bad (by simp only [plan1, he])
  | some e =>
    cases hs : tsize P e with
    | none => exact al_bad (by simp only [plan1, he, hs])
    | some es =>
      cases hz : zeroC P e with
      | none => exact al_bad (by simp only [plan1, he, hs, hz])
      | some z =>
        cases h1 : Nat.ble (n * es) lim with
        | false => exact al_bad (by simp only [plan1, he, hs, hz, bldS, h1])
        | true =>
          cases h2 : Nat.beq (lenL z) es with
          | false => exact al_bad (by simp only [plan1, he, hs, hz, bldS, h1, h2])
          | true =>
            cases h3 : offsOk (n * es) (aOffs es (fsts ps.toList)) with
            | false => exact al_bad (by simp only [plan1, he, hs, hz, bldS, h1, h2, h3])
            | true =>
              intro o ho h h' v hi
              simp only [plan1, he, hs, hz, bldS, h1, h2, h3, insV, rL_ok] at hi ⊢
              obtain ⟨vs, hvs, ha⟩ := hi
              have hvl := getL_VRL hρ hvs
              unfold buildSl at ha
              split at ha
              · rename_i cs hcs
                obtain ⟨hl, rfl, rfl⟩ := oneV_ok ha
                obtain ⟨ie, hie, rfl⟩ := tsize_of hs
                obtain ⟨iz, zv, hiz, hzv, hzr⟩ := zeroC_of hz
                rw [hie] at hiz
                obtain rfl := Option.some.inj hiz
                have hzl : z.length = ie.size := by rw [← lenL_eq]; exact Nat.eq_of_beq_eq_true h2
                have hle := Nat.le_of_ble_eq_true h1
                have hzs := zeros_VRL (hzr g) n
                rw [hzl] at hzs
                obtain ⟨cells', f1, f2, f3⟩ := fill_VRL (g := g) (fun i => some (i * ie.size, ie.size)) hcs (by rw [evalParts]; exact hvl) ((placeParts (fun i => some (i * ie.size, ie.size)) ps ρ).trans (aOffs_map _ _)) h3 (by rw [repZ_length, hzl]) hzs
                refine ⟨_, fun b => .sl b 0 ie.size n none, rfl, rfl, fun h2 => ⟨vs, hvs, by simp only [buildSl, hcs]; exact oneV_mk hl⟩, fun w => ⟨.slice (some ⟨w.heap.size, 0, none⟩) n n, { w with heap := w.heap.push (.cells cells' e) }, .cells cells' e, cells'.size, ?_, rfl, Same.refl w, fun g' hg p hp => ⟨?_, br_row hl (f2.mono hg)⟩⟩⟩
                · have hsm : ¬ n * ie.size > 2 ^ 24 := by unfold lim at hle; omega
                  by_cases h0 : n * ie.size = 0
                  · have hempty : (Array.range (n * ie.size)).map (fun i => zv.cells[i % zv.cells.size]!) = #[] := by rw [h0]; simp
                    rw [hempty] at f1
                    have hno : ¬ (0 > 2 ^ 24) := by omega
                    have hr0 : ∀ zz : Array Value, (Array.range 0).map (fun i => zz[i % zz.size]!) = #[] := fun zz => by simp
                    simp only [execOp, ho, Instr.buildSlice, Sem.run_bind, run_und_of (slE_of he), Result.andThen_ok, run_sizeOf_of hs, h0, hno, if_false, if_true, Sem.run_pure, hr0, f1, newRow, run_newObj]
                    try rfl
                  · have := run_buildSlice (P := P) w ty e n (ps.map fun (i, x) => (i, ρ x)) cells' ie zv (und_of (slE_of he)) hie hzv hsm h0 f1
                    simp only [execOp, ho, Sem.run_bind, this, Result.andThen_ok, Sem.run_pure]
                    rfl
                · simp only [VR]
                  refine ⟨_, _, _, n, hp, rfl, ?_⟩
                  have h4 := f2.length
                  simp only [Array.length_toList] at h4
                  omega
              · cases ha

theorem al_makeSlice (hρ : OpdR g X dd t l ρ) (ty : TypeId) (ln cp : Operand) : AllocOK P X dd d t l ρ g (.makeSlice ty ln cp) := by
  cases he : slE P ty with
  | none => exact al_bad (by simp only [plan1, he])
  | some e =>
    cases hs : tsize P e with
    | none => exact al_bad (by simp only [plan1, he, hs])
    | some es =>
      cases hz : zeroC P e with
      | none => exact al_bad (by simp only [plan1, he, hs, hz])
      | some z =>
        cases hb : smallB P e with
        | false => exact al_bad (by simp only [plan1, he, hs, hz, hb])
        | true =>
          cases h2 : Nat.beq (lenL z) es with
          | false => exact al_bad (by simp only [plan1, he, hs, hz, hb, h2])
          | true =>
            intro o ho h h' v hi
            simp only [plan1, he, hs, hz, hb, h2, insV, rL_ok] at hi ⊢
            obtain ⟨vs, hvs, ha⟩ := hi
            have hvl := getL_VRL hρ (xs := [ln, cp]) (by simpa only [opds] using hvs)
            unfold mkSlR at ha
            split at ha
            · rename_i a c
              simp only [List.map_cons, List.map_nil, VRL] at hvl
              obtain ⟨y1, ys1, e1, hv1, y2, ys2, e2, hv2, _⟩ := hvl
              cases e1; cases e2
              have hv1 := int_of hv1
              have hv2 := int_of hv2
              split at ha
              · rename_i hac
                split at ha
                · rename_i hcl
                  split at ha
                  · rename_i hcn
                    have hac := Nat.le_of_ble_eq_true hac
                    have hcl := Nat.le_of_ble_eq_true hcl
                    have hcn := Nat.le_of_ble_eq_true hcn
                    obtain ⟨hl, rfl, rfl⟩ := oneV_ok ha
                    obtain ⟨ie, hie, rfl⟩ := tsize_of hs
                    obtain ⟨iz, zv, hiz, hzv, hzr⟩ := zeroC_of hz
                    rw [hie] at hiz
                    obtain rfl := Option.some.inj hiz
                    have hzl : z.length = ie.size := by rw [← lenL_eq]; exact Nat.eq_of_beq_eq_true h2
                    have hbytes : ie.bytes ≤ 65536 := by
                      unfold smallB at hb
                      split at hb
                      · rename_i i' hi'
                        have := info_of hi'
                        rw [hie] at this
                        obtain rfl := Option.some.inj this
                        exact Nat.le_of_ble_eq_true hb
                      · cases hb
                    refine ⟨_, fun b => .sl b 0 ie.size a none, rfl, rfl, fun h2' => ⟨_, hvs, ?_⟩, fun w => ⟨.slice (some ⟨w.heap.size, 0, none⟩) a c, { w with heap := w.heap.push (.cells (madeCells zv.cells (c * ie.size)) e) }, .cells (madeCells zv.cells (c * ie.size)) e, (madeCells zv.cells (c * ie.size)).size, ?_, rfl, Same.refl w, fun g' hg p hp => ⟨?_, br_row hl ?_⟩⟩⟩
                    · simp only [mkSlR, Nat.ble_eq_true_of_le hac, Nat.ble_eq_true_of_le hcl, Nat.ble_eq_true_of_le hcn]
                      exact oneV_mk hl
                    · have hm : ie.bytes * c ≤ 65536 * 1073741824 := Nat.mul_le_mul hbytes hcn
                      have hbb : (ie.bytes : Int) * (c : Int) ≤ 281474976710656 := by
                        have : ((ie.bytes * c : Nat) : Int) ≤ 281474976710656 := by omega
                        rwa [Int.natCast_mul] at this
                      have hcn' : c ≤ 1073741824 := hcn
                      have := run_makeSlice (P := P) w ty e ie zv (und_of (slE_of he)) hie hzv .i64 .i64 (a : Int) (c : Int) (by omega) (by omega) (by unfold lim at hcl; simpa using hcl) hbb (by omega)
                      simp only [Int.toNat_natCast] at this
                      have hv1' : ρ ln = .int .i64 (a : Int) := hv1
                      have hv2' : ρ cp = .int .i64 (c : Int) := hv2
                      simp only [execOp, ho, Sem.run_bind, hv1', hv2', this, Result.andThen_ok, Sem.run_pure]
                      rfl
                    · simp only [VR]
                      refine ⟨_, _, _, c, hp, rfl, ?_⟩
                      rw [size_madeCells]
                      omega
                    · have := zeros_VRL (hzr g') c
                      rw [hzl] at this
                      exact this
                  · cases ha
                · cases ha
              · cases ha
            · cases ha
end
end Go.Eng

namespace Go.Eng
open Go
section
variable {P : Program} {X dd : List Nat} {d : Nat} {t l : E} {ρ : Operand → Value} {g : G}

theorem byteAVs_length : ∀ l : List Nat, (byteAVs l).length = l.length
  | [] => rfl
  | x :: l => by simp [byteAVs, byteAVs_length l]
theorem byteAVs_get : ∀ (l : List Nat) (i : Nat), (byteAVs l)[i]? = (l[i]?).map fun x => .int .u8 (.ofNat x)
  | [], i => by simp [byteAVs]
  | x :: l, i => by
    cases i with
    | zero => simp [byteAVs]
    | succ i => simpa [byteAVs] using byteAVs_get l i
theorem grownCap_le (w : World) (need old : Nat) (e : TypeId) : need ≤ grownCap w need old e := by
  exact Nat.le_add_right _ _

theorem al_convert (hρ : OpdR g X dd t l ρ) (s ty : TypeId) (x : Operand) : clsOf P (.convert s ty x) = .alloc → AllocOK P X dd d t l ρ g (.convert s ty x) := by
  intro hc
  cases hs : und P s with
  | none => exact al_bad (by simp only [plan1, convP, hs])
  | some sd =>
    cases ht : und P ty with
    | none => cases sd <;> exact al_bad (by simp only [plan1, convP, hs, ht])
    | some td =>
      cases sd with
      | int j =>
        cases td with
        | int k => simp [clsOf, hs, ht] at hc
        | _ => exact al_bad (by simp only [plan1, convP, hs, ht])
      | string =>
        cases td with
        | slice e =>
          cases he : und P e with
          | none => exact al_bad (by simp only [plan1, convP, hs, ht, he])
          | some ed =>
            cases ed with
            | int k =>
              cases k with
              | u8 =>
                cases hb : smallB P e with
                | false => exact al_bad (by simp only [plan1, convP, hs, ht, he, hb])
                | true =>
                  intro o ho h h' v hi
                  simp only [plan1, convP, hs, ht, he, hb, insV, rL_ok] at hi ⊢
                  obtain ⟨vs, hvs, ha⟩ := hi
                  have hvl := getL_VRL hρ (xs := [x]) (by simpa only [opds] using hvs)
                  unfold strBytes at ha
                  split at ha
                  · rename_i sb
                    simp only [List.map_cons, List.map_nil, VRL] at hvl
                    obtain ⟨y, ys, e1, hx, _⟩ := hvl
                    cases e1
                    simp only [VR] at hx
                    obtain ⟨bs, hx, rfl⟩ := hx
                    split at ha
                    · rename_i hl
                      have hl := Nat.le_of_ble_eq_true hl
                      rw [lenL_eq] at hl
                      simp only [RV.ok.injEq] at ha
                      obtain ⟨rfl, rfl⟩ := ha
                      have hlen : (bytesOf bs).length = bs.size := bytesOf_length bs
                      have hdata : bs.data.size = bs.size := rfl
                      refine ⟨.cells (fill (byteAVs (bytesOf bs)) 0 .leaf) (lenL (byteAVs (bytesOf bs))) true, fun b => .sl b 0 1 (lenL (bytesOf bs)) none, rfl, by simp only [lenL_eq, byteAVs_length], fun h2 => ⟨_, hvs, ?_⟩, fun w => ?_⟩
                      · simp only [strBytes, lenL_eq, Nat.ble_eq_true_of_le hl, byteAVs_length]
                      · have hrun := run_bytes_of_string (P := P) w s ty e bs (und_of hs) (und_of ht) (und_of he)
                        have hcap := grownCap_le w bs.size 0 e
                        have hsz : (bytesRow bs (grownCap w bs.size 0 e)).size = grownCap w bs.size 0 e := by
                          simp [bytesRow]; omega
                        refine ⟨.slice (some ⟨w.heap.size, 0, none⟩) bs.size (grownCap w bs.size 0 e), w.drew.alloc (.cells (bytesRow bs (grownCap w bs.size 0 e)) e ((bytesRow bs (grownCap w bs.size 0 e)).size, (bytesRow bs (grownCap w bs.size 0 e)).size + 1)), .cells (bytesRow bs (grownCap w bs.size 0 e)) e ((bytesRow bs (grownCap w bs.size 0 e)).size, (bytesRow bs (grownCap w bs.size 0 e)).size + 1), (bytesRow bs (grownCap w bs.size 0 e)).size, ?_, ?_, ?_, fun g' hg p hp => ⟨?_, ?_⟩⟩
                        · simp only [execOp, ho, Sem.run_bind, hx, hrun, Result.andThen_ok, Sem.run_pure]
                        · rfl
                        · exact ⟨rfl, rfl, rfl⟩
                        · simp only [VR, lenL_eq, hlen]
                          exact ⟨_, _, _, _, hp, rfl, by omega⟩
                        · refine br_cells (by rw [byteAVs_length]; exact hl) (fun i a ha => ?_) (by rw [byteAVs_length, hlen, hsz]; exact hcap) (fun e => by cases e) (fun i hi => by simp; omega)
                          rw [byteAVs_get] at ha
                          simp only [Option.map_eq_some_iff] at ha
                          obtain ⟨n, hn, rfl⟩ := ha
                          unfold bytesOf at hn
                          rw [List.getElem?_map] at hn
                          simp only [Option.map_eq_some_iff] at hn
                          obtain ⟨by_, hby, rfl⟩ := hn
                          refine ⟨.int .u8 by_.toNat, ?_, by simp only [VR]; rfl⟩
                          have hby' : bs.data[i]? = some by_ := by simpa using hby
                          have hib := (Array.getElem?_eq_some_iff.1 hby').1
                          unfold bytesRow
                          rw [Array.getElem?_append_left (by simpa using hib)]
                          simp [hby']
                    · cases ha
                  · cases ha
              | _ => exact al_bad (by simp only [plan1, convP, hs, ht, he])
            | _ => exact al_bad (by simp only [plan1, convP, hs, ht, he])
        | _ => exact al_bad (by simp only [plan1, convP, hs, ht])
      | _ => exact al_bad (by simp only [plan1, convP, hs, ht])

theorem op_alloc (hρ : OpdR g X dd t l ρ) (op : Op) (hc : clsOf P op = .alloc) : AllocOK P X dd d t l ρ g op := by
  cases op with
  | alloc ty => exact al_alloc ty
  | box ty x => exact al_box hρ ty x
  | buildSlice ty n ps => exact al_buildSlice hρ ty n ps
  | makeMap ty r => exact al_makeMap ty r
  | makeSlice ty a b => exact al_makeSlice hρ ty a b
  | convert s ty x => exact al_convert hρ s ty x hc
  | call c =>
    cases hcal : c.callee with
    | builtin b => cases b <;> simp [clsOf, hcal] at hc
    | value x => simp [clsOf, hcal] at hc
    | invoke x m => simp [clsOf, hcal] at hc
  | _ => simp [clsOf] at hc

variable (P X dd d t l ρ g) in
/-- any operation that is no call: what it answers stands for what the model answers -/
def EffOK (op : Op) : Prop := ∀ (o : Oper), o.op = op → ∀ h h' v, insV t l h (plan1 P X dd d op) = .ok v h' → ∀ w, HR P g h w →
  ∃ n c w' g', (execOp ρ o).run P w = .ok n w' ∧ (n = .value c ∨ (n = .skip ∧ c = undef)) ∧ VR g' v c ∧ Ext g h w g' h' w' ∧ HR P g' h' w'
theorem ReadOK.eff {op : Op} (hk : ReadOK P X dd d t l ρ g op) : EffOK P X dd d t l ρ g op := fun o ho h h' v hi w hr => by
  obtain ⟨rfl, _, h3⟩ := hk o ho h h' v hi
  obtain ⟨c, h4, h5⟩ := h3 w hr
  exact ⟨_, c, w, g, h4, .inl rfl, h5, Ext.refl _ _ _, hr⟩
theorem AllocOK.eff {op : Op} (hk : AllocOK P X dd d t l ρ g op) : EffOK P X dd d t l ρ g op := fun o ho h h' v hi w hr => by
  obtain ⟨blk, mk, rfl, rfl, _, h3⟩ := hk o ho h h' v hi
  obtain ⟨c, w', ob, sz, h4, h5, h6, h7⟩ := h3 w
  have hle := gset_le hr (w.heap.size, 0, sz)
  obtain ⟨h8, h9⟩ := h7 _ hle h.next (gset_same _ _ _)
  have hx := step_add (w' := w') hr (x := blk) (c := w.heap.size) (sh := 0) (sz := sz) (o := ob) (by rw [h5]; simp) (fun b hl => by have := hr.lt hl; omega) (by omega) (by rw [h5]; simp)
    (fun k hk => by rw [h5, Array.getElem?_push]; rw [if_neg (by omega)]) h6 h9
  exact ⟨_, c, w', _, h4, .inl rfl, h8, hx.1, hx.2⟩
end
end Go.Eng

namespace Go.Eng
open Go
section
variable {P : Program} {X dd : List Nat} {d : Nat} {t l : E} {ρ : Operand → Value} {g : G}

/-- cells set one by one -/
def lay2 (cs : Array Value) : Nat → List Value → Array Value
  | _, [] => cs
  | o, v :: r => lay2 (cs.setIfInBounds o v) (o + 1) r
theorem lay2_size : ∀ (vs : List Value) (o : Nat) (cs : Array Value), (lay2 cs o vs).size = cs.size
  | [], _, _ => rfl
  | v :: r, o, cs => by rw [lay2, lay2_size r]; simp
theorem lay2_get : ∀ (vs : List Value) (o : Nat) (cs : Array Value) (i : Nat), o + vs.length ≤ cs.size → (lay2 cs o vs)[i]? = if o ≤ i ∧ i < o + vs.length then vs[i - o]? else cs[i]?
  | [], o, cs, i, _ => by rw [if_neg (by simp)]; rfl
  | v :: r, o, cs, i, h => by
    simp only [List.length_cons] at h ⊢
    rw [lay2, lay2_get r (o + 1) _ i (by simp; omega)]
    by_cases h1 : i = o
    · subst h1
      rw [if_neg (by omega), if_pos (by omega), Array.getElem?_setIfInBounds_self]
      simp; omega
    · by_cases h2 : o + 1 ≤ i ∧ i < o + 1 + r.length
      · rw [if_pos h2, if_pos (by omega)]
        obtain ⟨j, hj⟩ : ∃ j, i - o = j + 1 := ⟨i - o - 1, by omega⟩
        rw [hj, show i - (o + 1) = j by omega]
        rfl
      · rw [if_neg h2, if_neg (by omega), Array.getElem?_setIfInBounds_ne (Ne.symm h1)]
theorem setCells_facts (b : Nat) : ∀ (vs : List Value) (o : Nat) (w : World) (cs : Array Value) (el : TypeId) (fz : Nat × Nat), w.heap[b]? = some (.cells cs el fz) →
    (w.setCells b o vs).heap[b]? = some (.cells (lay2 cs o vs) el fz) ∧ (w.setCells b o vs).heap.size = w.heap.size ∧ (∀ k, k ≠ b → (w.setCells b o vs).heap[k]? = w.heap[k]?) ∧ Same w (w.setCells b o vs)
  | [], o, w, cs, el, fz, h => ⟨h, rfl, fun _ _ => rfl, Same.refl w⟩
  | v :: r, o, w, cs, el, fz, h => by
    have h1 : (w.setCell ⟨b, o, none⟩ v).heap[b]? = some (.cells (cs.setIfInBounds o v) el fz) := by
      simp [World.setCell, Array.getElem?_modify, h]
    obtain ⟨h2, h3, h4, h5⟩ := setCells_facts b r (o + 1) _ _ _ _ h1
    refine ⟨h2, ?_, fun k hk => ?_, Same.trans ⟨rfl, rfl, rfl⟩ h5⟩
    · rw [World.setCells, h3]; simp [World.setCell]
    · rw [World.setCells, h4 k hk]
      simp [World.setCell, Array.getElem?_modify, Ne.symm hk]

/-- cells of a block are written to -/
theorem br_write {c sh sz m o : Nat} {vs : T AV} {gr : Bool} {l' : List AV} {us : List Value} {w : World} {h : H} (hr : HR P g h w) {b : Ps} (hb : h.get b = some (.cells vs m gr)) (hg : g b = some (c, sh, sz))
    (hle : o + l'.length ≤ m) (hl : VRL g l' us) (hone : ∀ u ∈ us, u.oneCell' = true) :
    (storeCells ⟨c, o + sh, none⟩ us).run P w = .ok () (w.setCells c (o + sh) us) ∧ Ext g h w g (h.put b (.cells (fill l' o vs) m gr)) (w.setCells c (o + sh) us) ∧ HR P g (h.put b (.cells (fill l' o vs) m gr)) (w.setCells c (o + sh) us) := by
  obtain ⟨cs, el, fz, h1, h2, h3, h4, h5, h6, h7⟩ := hr.cells hb hg
  have hlen := hl.length
  obtain ⟨k1, k2, k3, k4⟩ := setCells_facts c us (o + sh) w cs el fz h1
  refine ⟨?_, ?_⟩
  · have := run_storeCells_cells (P := P) c (o + sh) us 0 w (fun j hj => by rw [cell_of h1]; simp; omega) (fun j hj => by simp only [World.frozen?, h1]; exact h6 _ (by omega)) hone
    simpa using this
  · refine step_put hr hb hg k2 k1 k3 k4 ⟨lay2 cs (o + sh) us, el, fz, rfl, by rw [lay2_size]; exact h2, h3, h4, h5, h6, fun i hi => ?_⟩
    rw [fill_get l' o vs i (by omega) (by omega), lay2_get us (o + sh) cs (i + sh) (by omega)]
    by_cases hc : o ≤ i ∧ i < o + l'.length
    · rw [if_pos hc, if_pos (by omega), show i + sh - (o + sh) = i - o by omega]
      have hi' : i - o < l'.length := by omega
      obtain ⟨u, hu, hv⟩ := hl.get (i - o) l'[i - o] (by simp [hi'])
      exact ⟨_, u, by simp [hi'], hu, hv⟩
    · rw [if_neg hc, if_neg (by omega)]
      exact h7 i hi

theorem ef_bad {op : Op} (hp : plan1 P X dd d op = .bad) : EffOK P X dd d t l ρ g op := by
  intro o ho h h' v hi
  rw [hp] at hi
  cases hi
theorem two_VRL {a b : AV} {u v : Value} (h : VRL g [a, b] [u, v]) : VR g a u ∧ VR g b v := by
  simp only [VRL] at h
  obtain ⟨_, _, e1, h1, _, _, e2, h2, _⟩ := h
  cases e1; cases e2
  exact ⟨h1, h2⟩
theorem ef_store (hρ : OpdR g X dd t l ρ) (ty : TypeId) (a x : Operand) : EffOK P X dd d t l ρ g (.store ty a x) := by
  cases hs : tsize P ty with
  | none => exact ef_bad (by simp only [plan1, hs])
  | some n =>
    intro o ho h h' v hi w hr
    simp only [plan1, hs, insV, rL_ok] at hi
    obtain ⟨vs, hvs, ha⟩ := hi
    have hvl := getL_VRL hρ (xs := [a, x]) (by simpa only [opds] using hvs)
    unfold storeR at ha
    split at ha
    · rename_i b q y
      obtain ⟨hp, hy⟩ := two_VRL (by simpa using hvl)
      simp only [VR] at hp
      obtain ⟨c, sh, sz, hg, hp⟩ := hp
      unfold stO at ha
      split at ha
      · cases ha
      · rename_i cs hcs
        split at ha
        · rename_i cv m gr hb
          split at ha
          · rename_i hle
            split at ha
            · rename_i hn
              simp only [RV.ok.injEq] at ha
              obtain ⟨rfl, rfl⟩ := ha
              have hle := Nat.le_of_ble_eq_true hle
              have hn := Nat.eq_of_beq_eq_true hn
              rw [lenL_eq] at hn
              obtain ⟨hcv, hok⟩ := cellsK_VRL hcs hy
              have hlen : cs.length = (ρ x).cells.size := by simpa using hcv.length
              obtain ⟨r1, r2, r3⟩ := br_write hr hb hg (o := q) (by omega) hcv (hcv.ones hok)
              refine ⟨.skip, undef, _, g, ?_, .inr ⟨rfl, rfl⟩, by simp only [VR]; exact ⟨#[], rfl, rfl⟩, r2, r3⟩
              have hsz : (ρ x).cells.size = n := by omega
              simp [execOp, ho, Instr.storeAt, hp, Instr.sureAddr, storeVar, run_sizeOf_of hs, hsz, r1]
            · cases ha
          · cases ha
        · cases ha
    · cases ha
end
end Go.Eng

namespace Go.Eng
open Go
section
variable {P : Program} {X dd : List Nat} {d : Nat} {t l : E} {ρ : Operand → Value} {g : G}

theorem MR.append : ∀ {es es' : List (AV × AV × Nat)} {l l' : List MapEntry}, MR g es l → MR g es' l' → MR g (es ++ es') (l ++ l')
  | [], es', l, l', h, h' => by simp only [MR] at h; subst h; exact h'
  | (k, v, s) :: es, es', l, l', h, h' => by
    obtain ⟨e, r, rfl, h1, h2, h3, h4⟩ := h
    exact ⟨e, r ++ l', rfl, h1, h2, h3, h4.append h'⟩
/-- an entry written anew, or a new one -/
theorem setK_ok (e : EqF) (k v : AV) (c : Nat) : ∀ {es es' : List (AV × AV × Nat)} {fresh : Bool}, setK e k v c es = some (es', fresh) →
    (idxK e k es = some none ∧ fresh = true ∧ es' = es ++ [(k, v, c)]) ∨ (∃ i a w s, idxK e k es = some (some i) ∧ fresh = false ∧ es[i]? = some (a, w, s) ∧ e k a = some true ∧ es' = es.set i (k, v, s))
  | [], es', fresh, h => by
    simp only [setK, Option.some.injEq, Prod.mk.injEq] at h
    obtain ⟨rfl, rfl⟩ := h
    exact .inl ⟨rfl, rfl, rfl⟩
  | (a, w, s) :: es, es', fresh, h => by
    unfold setK at h
    unfold idxK
    split at h
    · cases h
    · rename_i heq
      simp only [Option.some.injEq, Prod.mk.injEq] at h
      obtain ⟨rfl, rfl⟩ := h
      rw [heq]
      exact .inr ⟨0, a, w, s, rfl, rfl, rfl, heq, rfl⟩
    · rename_i heq
      split at h
      · cases h
      · rename_i es0 b0 h0
        simp only [Option.some.injEq, Prod.mk.injEq] at h
        obtain ⟨rfl, rfl⟩ := h
        rw [heq]
        rcases setK_ok e k v c h0 with ⟨h1, h2, h3⟩ | ⟨i, a', w', s', h1, h2, h3, h4, h5⟩
        · exact .inl ⟨by simp [h1], h2, by rw [h3]; rfl⟩
        · exact .inr ⟨i + 1, a', w', s', by simp [h1], h2, by simpa using h3, h4, by rw [h5]; rfl⟩
theorem MR.set : ∀ {es : List (AV × AV × Nat)} {l : List MapEntry}, MR g es l → ∀ {i : Nat} {k v : AV} {s : Nat} {en : MapEntry}, VR g k en.key → VR g v en.val → en.born = s → MR g (es.set i (k, v, s)) (l.set i en)
  | [], _, h, i, k, v, s, en, _, _, _ => by simp only [MR] at h; subst h; rfl
  | (k0, v0, s0) :: es, _, h, i, k, v, s, en, h1, h2, h3 => by
    obtain ⟨e, r, rfl, g1, g2, g3, g4⟩ := h
    cases i with
    | zero => exact ⟨en, r, rfl, h1, h2, h3, g4⟩
    | succ i => exact ⟨e, r.set i en, rfl, g1, g2, g3, g4.set h1 h2 h3⟩
theorem keyStays_run (k : Value) (w : World) : ∃ w', (Instr.keyThatStays k k).run P w = .ok k w' ∧ w'.heap = w.heap ∧ Same w w' := by
  unfold Instr.keyThatStays
  split
  · exact ⟨w, rfl, rfl, Same.refl w⟩
  · refine ⟨w.drew, ?_, rfl, rfl, rfl, rfl⟩
    simp [Question.forced]
theorem setObj_run {w : World} {c : Nat} {ob ob' : Obj} (h : w.heap[c]? = some ob) (hn : ∀ a b d, ob ≠ .cells a b d) : (setObj c ob').run P w = .ok () { w with heap := w.heap.setIfInBounds c ob' } := by
  unfold setObj Sem.run
  rw [h]
  cases ob <;> first | rfl | exact absurd rfl (hn _ _ _)
theorem getObj_run {w : World} {c : Nat} {ob : Obj} (h : w.heap[c]? = some ob) (hn : ∀ a b d, ob ≠ .cells a b d) : (getObj c).run P w = .ok ob w := by
  unfold getObj Sem.run
  rw [h]
  cases ob <;> first | rfl | exact absurd rfl (hn _ _ _)
/-- a block that holds no cells is set -/
theorem step_set {h : H} {w w0 : World} (hr : HR P g h w) {b : Ps} {x x' : Blk} {c sh sz : Nat} (hx : h.get b = some x) (hg : g b = some (c, sh, sz)) {o' : Obj} (hw : w0.heap = w.heap) (hs : Same w w0) (hb : BR P g sh sz x' o') :
    Ext g h w g (h.put b x') { w0 with heap := w0.heap.setIfInBounds c o' } ∧ HR P g (h.put b x') { w0 with heap := w0.heap.setIfInBounds c o' } := by
  have hlt : c < w.heap.size := hr.lt ⟨x, sh, sz, hx, hg⟩
  refine step_put hr hx hg ?_ ?_ (fun k hk => ?_) ⟨hs.1, hs.2.1, hs.2.2⟩ hb
  · simp [hw]
  · simp [hw, Array.getElem?_setIfInBounds_self, hlt]
  · simp only [hw]
    exact Array.getElem?_setIfInBounds_ne (Ne.symm hk)

theorem three_VRL {a b c : AV} {u v x : Value} (h : VRL g [a, b, c] [u, v, x]) : VR g a u ∧ VR g b v ∧ VR g c x := by
  simp only [VRL] at h
  obtain ⟨_, _, e1, h1, _, _, e2, h2, _, _, e3, h3, _⟩ := h
  cases e1; cases e2; cases e3
  exact ⟨h1, h2, h3⟩

theorem ef_upd (hρ : OpdR g X dd t l ρ) (op : Op) (ty : TypeId) (m k x : Operand) (hop : op = .mapUpdate ty m k x ∨ op = .insert ty m k x) : EffOK P X dd d t l ρ g op := by
  have hp : plan1 P X dd d op = updP P X dd d ty m k x := by rcases hop with rfl | rfl <;> rfl
  have hex : ∀ o : Oper, o.op = op → execOp ρ o = (do Instr.mapUpdate ty (ρ m) (ρ k) (ρ x); pure .skip) := fun o ho => by
    rcases hop with rfl | rfl <;> simp only [execOp, ho]
  cases hu : und P ty with
  | none => exact ef_bad (by rw [hp]; simp only [updP, hu])
  | some td =>
    cases td with
    | map kt el =>
      cases he : eqKey P kt with
      | none => exact ef_bad (by rw [hp]; simp only [updP, hu, he])
      | some e =>
        intro o ho h h' v hi w hr
        rw [hp] at hi
        simp only [updP, hu, he, insV, rL_ok] at hi
        obtain ⟨vs, hvs, ha⟩ := hi
        have hvl := getL_VRL hρ (xs := [m, k, x]) (by simpa only [opds] using hvs)
        unfold updR at ha
        split at ha
        · rename_i b a y
          obtain ⟨hm, hk, hx⟩ := three_VRL (by simpa using hvl)
          split at ha
          · cases ha
          · rename_i r0 hr0
            split at ha
            · rename_i es c hb
              split at ha
              · cases ha
              · rename_i es' fresh hset
                simp only [RV.ok.injEq] at ha
                obtain ⟨rfl, rfl⟩ := ha
                simp only [VR] at hm
                obtain ⟨cm, sh, sz, hg, hm⟩ := hm
                obtain ⟨ob, hob, arr, rfl, hmr⟩ := hr.blk _ _ hb _ _ _ hg
                have hck := checkKey_run he hr0 hk false 9998 w
                have fin : ∀ (w0 : World) (o' : Obj), w0.heap = w.heap → Same w w0 → BR P g sh sz (.map es' (match fresh with | true => c + 1 | false => c)) o' →
                    (Instr.mapUpdate ty (ρ m) (ρ k) (ρ x)).run P w = .ok () { w0 with heap := w0.heap.setIfInBounds cm o' } →
                    ∃ n c' w' g', (execOp ρ o).run P w = .ok n w' ∧ (n = .value c' ∨ (n = .skip ∧ c' = undef)) ∧ VR g' (.tup []) c' ∧ Ext g h w g' (h.put b (.map es' (match fresh with | true => c + 1 | false => c))) w' ∧ HR P g' (h.put b (.map es' (match fresh with | true => c + 1 | false => c))) w' := by
                  intro w0 o' hw0 hs0 hbr hrun
                  obtain ⟨s1, s2⟩ := step_set hr hb hg hw0 hs0 hbr
                  refine ⟨.skip, undef, _, g, ?_, .inr ⟨rfl, rfl⟩, by simp only [VR]; exact ⟨#[], rfl, rfl⟩, s1, s2⟩
                  rw [hex o ho, Sem.run_bind, hrun]
                  rfl
                rcases setK_ok e a y c hset with ⟨h1, h2, h3⟩ | ⟨i, a0, w0, s0, h1, h2, h3, h4, h5⟩
                · subst h2; subst h3
                  have hf := findKey_run he hk w hmr h1
                  refine fin w (.map (arr.push { key := ρ k, val := ρ x, born := c }) (c + 1)) rfl (Same.refl w) ⟨_, rfl, by rw [Array.toList_push]; exact hmr.append ⟨_, [], rfl, hk, hx, rfl, rfl⟩⟩ ?_
                  simp only [Instr.mapUpdate, Sem.run_bind, run_und_of hu, Result.andThen_ok, hm, getObj_run hob (by simp), hck, hf, Option.bind_none, setObj_run hob (by simp)]
                · subst h2; subst h5
                  obtain ⟨en, hen, hek, hev, hes⟩ := hmr.get i a0 w0 s0 h3
                  have hkk : ρ k = en.key := eqKey_eq he hk hek h4
                  have hf := findKey_run he hk w hmr h1
                  simp only [Option.bind_some, hen, Option.map_some] at hf
                  obtain ⟨w1, k1, k2, k3⟩ := keyStays_run (P := P) (ρ k) w
                  have hen' : arr[i]? = some en := by simpa using hen
                  have hset' : (arr.modify i fun e => { e with key := ρ k, val := ρ x }).toList = arr.toList.set i { en with key := ρ k, val := ρ x } := by
                    apply List.ext_getElem?
                    intro j
                    rw [Array.getElem?_toList, Array.getElem?_modify, List.getElem?_set]
                    by_cases hij : i = j
                    · subst hij
                      have hlt := (Array.getElem?_eq_some_iff.1 hen').1
                      rw [if_pos rfl, if_pos rfl, if_pos (by simpa using hlt), hen']
                      rfl
                    · simp [hij]
                  refine fin w1 (.map (arr.modify i fun e => { e with key := ρ k, val := ρ x }) c) k2 k3 ⟨_, rfl, by rw [hset']; exact hmr.set hk hx hes⟩ ?_
                  have hkey : ((arr[i]?).map (·.key)).getD (ρ k) = ρ k := by rw [hen']; simp [hkk]
                  simp only [Instr.mapUpdate, Sem.run_bind, run_und_of hu, Result.andThen_ok, hm, getObj_run hob (by simp), hck, hf, hkey, k1, setObj_run (w := w1) (by rw [k2]; exact hob) (by simp)]
            · cases ha
        · cases ha
    | _ => exact ef_bad (by rw [hp]; simp only [updP, hu])
end
end Go.Eng

namespace Go.Eng
open Go
section
variable {P : Program} {X dd : List Nat} {d : Nat} {t l : E} {ρ : Operand → Value} {g : G}

theorem one_VRL {a : AV} {u : Value} (h : VRL g [a] [u]) : VR g a u := by
  simp only [VRL] at h
  obtain ⟨_, _, e1, h1, _⟩ := h
  cases e1
  exact h1
/-- a new block of whatever kind -/
theorem step_new {h : H} {w : World} (hr : HR P g h w) {x : Blk} {ob : Obj} {sz : Nat} (hb : ∀ g', GLe g g' → BR P g' 0 sz x ob) :
    Ext g h w (gset g h.next (w.heap.size, 0, sz)) (h.add x) { w with heap := w.heap.push ob } ∧ HR P (gset g h.next (w.heap.size, 0, sz)) (h.add x) { w with heap := w.heap.push ob } :=
  step_add hr (by simp) (fun b hl => by have := hr.lt hl; omega) (by omega) (by simp) (fun k hk => by simp only; rw [Array.getElem?_push, if_neg (by omega)]) (Same.refl w) (hb _ (gset_le hr _))

theorem ef_range (hρ : OpdR g X dd t l ρ) (ty : TypeId) (x : Operand) : EffOK P X dd d t l ρ g (.range ty x) := by
  cases hu : und P ty with
  | none => exact ef_bad (by simp only [plan1, hu])
  | some td =>
    cases td with
    | map kt el =>
      intro o ho h h' v hi w hr
      simp only [plan1, hu, insV, rL_ok] at hi
      obtain ⟨vs, hvs, ha⟩ := hi
      have hvl := getL_VRL hρ (xs := [x]) (by simpa only [opds] using hvs)
      unfold rangeR at ha
      split at ha
      · rename_i b
        have hm := one_VRL (by simpa using hvl)
        split at ha
        · rename_i es c hb
          simp only [RV.ok.injEq] at ha
          obtain ⟨rfl, rfl⟩ := ha
          simp only [VR] at hm
          obtain ⟨cm, sh, sz, hg, hm⟩ := hm
          obtain ⟨ob, hob, arr, rfl, hmr⟩ := hr.blk _ _ hb _ _ _ hg
          obtain ⟨s1, s2⟩ := step_new (P := P) hr (x := .iter (some b) c [] c) (ob := .mapIter (some cm) c #[] c) (sz := 0) (fun g' hle => ⟨rfl, cm, sh, sz, hle _ _ hg, rfl⟩)
          refine ⟨_, .pointer (some ⟨w.heap.size, 0, none⟩), _, _, ?_, .inl rfl, by simp only [VR]; exact ⟨_, _, _, gset_same _ _ _, rfl⟩, s1, s2⟩
          simp only [execOp, ho, Instr.range, Sem.run_bind, run_und_of hu, Result.andThen_ok, hm, getObj_run hob (by simp), Sem.run_pure, run_newObj]
        · cases ha
      · have hm := one_VRL (by simpa using hvl)
        simp only [RV.ok.injEq] at ha
        obtain ⟨rfl, rfl⟩ := ha
        simp only [VR] at hm
        obtain ⟨s1, s2⟩ := step_new (P := P) hr (x := .iter none 0 [] 0) (ob := .mapIter none 0 #[] 0) (sz := 0) (fun g' hle => ⟨rfl, rfl⟩)
        refine ⟨_, .pointer (some ⟨w.heap.size, 0, none⟩), _, _, ?_, .inl rfl, by simp only [VR]; exact ⟨_, _, _, gset_same _ _ _, rfl⟩, s1, s2⟩
        simp only [execOp, ho, Instr.range, Sem.run_bind, run_und_of hu, Result.andThen_ok, hm, Sem.run_pure, run_newObj]
      · cases ha
    | _ => exact ef_bad (by simp only [plan1, hu])

theorem memN_iff (n : Nat) : ∀ l : List Nat, memN n l = true ↔ n ∈ l
  | [] => by simp [memN]
  | x :: l => by
    unfold memN
    split
    · rename_i e
      have := Nat.eq_of_beq_eq_true e
      simp [this]
    · rename_i e
      have := bne_of e
      rw [memN_iff n l]
      simp [Ne.symm this]
theorem leftM_filter (seen : List Nat) : ∀ {es : List (AV × AV × Nat)} {l : List MapEntry}, MR g es l → MR g (leftM seen es) (l.filter fun e => !seen.contains e.born)
  | [], l, h => by simp only [MR] at h; subst h; rfl
  | (k, v, s) :: es, l, h => by
    obtain ⟨e, r, rfl, h1, h2, h3, h4⟩ := h
    unfold leftM
    have ih := leftM_filter seen h4
    split
    · rename_i hm
      rw [memN_iff] at hm
      rw [List.filter_cons_of_neg (by simp [h3, hm])]
      exact ih
    · rename_i hm
      have hm : ¬ s ∈ seen := fun e => by rw [(memN_iff s seen).2 e] at hm; cases hm
      rw [List.filter_cons_of_pos (by simp [h3, hm])]
      exact ⟨e, _, rfl, h1, h2, h3, ih⟩
theorem belowM_all (st : Nat) : ∀ {es : List (AV × AV × Nat)} {l : List MapEntry}, MR g es l → belowM st es = true → l.all (fun e => decide (e.born ≥ st)) = false
  | [], l, h, hb => by cases hb
  | (k, v, s) :: es, l, h, hb => by
    obtain ⟨e, r, rfl, h1, h2, h3, h4⟩ := h
    unfold belowM at hb
    split at hb
    · rename_i hs
      have := blt_iff.1 hs
      rw [List.all_cons]
      have : decide (e.born ≥ st) = false := by rw [h3]; exact decide_eq_false (by omega)
      rw [this]; rfl
    · rw [List.all_cons, belowM_all st h4 hb]
      simp
end
end Go.Eng

namespace Go.Eng
open Go
section
variable {P : Program} {X dd : List Nat} {d : Nat} {t l : E} {ρ : Operand → Value} {g : G}
theorem ef_next (hρ : OpdR g X dd t l ρ) (x : Operand) (b : Bool) : EffOK P X dd d t l ρ g (.next x b) := by
  cases b with
  | true => exact ef_bad (by simp only [plan1])
  | false =>
    intro o ho h h' v hi w hr
    simp only [plan1, insV, rL_ok] at hi
    obtain ⟨vs, hvs, ha⟩ := hi
    have hvl := getL_VRL hρ (xs := [x]) (by simpa only [opds] using hvs)
    have over : VR g (.tup [.bool false]) (.tuple #[.bool false]) := by
      simp only [VR, VRL]
      exact ⟨_, rfl, _, _, rfl, rfl, rfl⟩
    unfold nextR at ha
    split at ha
    · rename_i i
      have hp := one_VRL (by simpa using hvl)
      simp only [VR] at hp
      obtain ⟨ci, shi, szi, hgi, hp⟩ := hp
      split at ha
      · rename_i since seen st hib
        simp only [RV.ok.injEq] at ha
        obtain ⟨rfl, rfl⟩ := ha
        obtain ⟨ob, hob, rfl, rfl⟩ := hr.blk _ _ hib _ _ _ hgi
        refine ⟨_, .tuple #[.bool false], w, g, ?_, .inl rfl, over, Ext.refl _ _ _, hr⟩
        simp only [execOp, ho, Instr.next, Sem.run_bind, hp, Nat.zero_add, getObj_run hob (by simp), Result.andThen_ok, Sem.run_pure]
      · rename_i b since seen st hib
        obtain ⟨ob, hob, rfl, cm, sh, sz, hgb, rfl⟩ := hr.blk _ _ hib _ _ _ hgi
        split at ha
        · rename_i es c hb
          obtain ⟨ob', hob', arr, rfl, hmr⟩ := hr.blk _ _ hb _ _ _ hgb
          split at ha
          · rename_i hokm
            have hall : (!seen.toArray.isEmpty && !arr.isEmpty && arr.all (fun e => decide (e.born ≥ st))) = false := by
              unfold okM at hokm
              split at hokm
              · simp
              · split at hokm
                · simp only [MR] at hmr
                  have : arr = #[] := Array.toList_inj.1 hmr
                  subst this
                  simp
                · have := belowM_all st hmr hokm
                  rw [← Array.all_toList, this]
                  simp
            have hleft := leftM_filter seen hmr
            have hfl : (arr.filter fun e => !seen.toArray.contains e.born).toList = arr.toList.filter fun e => !seen.contains e.born := by
              rw [Array.toList_filter]
              congr 1
              funext e
              simp
            unfold nextM at ha
            split at ha
            · rename_i hl0
              simp only [RV.ok.injEq] at ha
              obtain ⟨rfl, rfl⟩ := ha
              rw [hl0] at hleft
              simp only [MR] at hleft
              have hf0 : (arr.filter fun e => !seen.toArray.contains e.born) = #[] := Array.toList_inj.1 (hfl.trans hleft)
              refine ⟨_, .tuple #[.bool false], w, g, ?_, .inl rfl, over, Ext.refl _ _ _, hr⟩
              simp only [execOp, ho, Instr.next, Sem.run_bind, hp, Nat.zero_add, getObj_run hob (by simp), getObj_run hob' (by simp), Result.andThen_ok, Sem.run_pure, hall, hf0]
              simp [Question.forced]
            · rename_i k v0 s0 hl1
              split at ha
              · rename_i hlt
                have hlt := blt_iff.1 hlt
                simp only [RV.ok.injEq] at ha
                obtain ⟨rfl, rfl⟩ := ha
                rw [hl1] at hleft
                obtain ⟨en, r, h1, h2, h3, h4, h5⟩ := hleft
                simp only [MR] at h5
                subst h5
                have hf1 : (arr.filter fun e => !seen.toArray.contains e.born) = #[en] := Array.toList_inj.1 (hfl.trans h1)
                have hbr : BR P g 0 szi (.iter (some b) since (seen ++ [s0]) c) (.mapIter (some cm) since (seen.toArray.push en.born) c) := ⟨rfl, cm, sh, sz, hgb, by rw [h4]; simp⟩
                obtain ⟨s1, s2⟩ := step_set hr hib hgi rfl (Same.refl w) hbr
                refine ⟨_, .tuple #[.bool true, en.key, en.val], _, g, ?_, .inl rfl, ?_, s1, s2⟩
                · have hen : en.born < since := by omega
                  simp only [execOp, ho, Instr.next, Sem.run_bind, hp, Nat.zero_add, getObj_run hob (by simp), getObj_run hob' (by simp), Result.andThen_ok, Sem.run_pure, hall, hf1]
                  simp [Question.forced, hen, setObj_run hob]
                · simp only [VR, VRL]
                  exact ⟨_, rfl, _, _, rfl, rfl, _, _, rfl, h2, _, _, rfl, h3, rfl⟩
              · cases ha
            · cases ha
          · cases ha
        · cases ha
      · cases ha
    · cases ha
end
end Go.Eng
