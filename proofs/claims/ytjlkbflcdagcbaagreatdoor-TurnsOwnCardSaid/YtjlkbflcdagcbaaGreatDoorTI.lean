/-
  A part of the proof of casketlaw17.TurnsOwn: the evaluator's soundness, or the law's own steps. By an AI agent.
-/
import Derived.Test.YtjlkbflcdagcbaaGreatDoorTA
import Derived.Orders
namespace Go.Eng
open Go
section
variable {P : Program} {J : FuncId} {R : Rec} {X : List Nat} {l : E} {os : List Oper} {T : E} {m : Nat} {dsF : List Dfr} {hF : H} {g0 : G} {H0 : H} {w0 : World}
theorem ct_all : ∀ {L : List It} {done eff need : Nat} {ds : List Dfr} {h : H}, okI P os L done eff need → CT P R X l os T L ds h dsF hF → ∀ j, j < os.length → bit done j = true ∨
    ∃ o ds0 h0 v ds1 h1, os[j]? = some o ∧ oneI P R l (insAt P X os j) T ds0 h0 = some (v, ds1, h1) ∧ ∀ d, o.dst = some d → T.get d = some v
  | [], _, _, _, _, _, hok, _, j, hj => .inl ((okI_nil hok).1 j hj)
  | .chk i :: L, _, _, _, _, _, hok, hct, j, hj => ct_all (okI_chk hok).2 hct.2 j hj
  | .run i :: L, done, eff, need, ds, h, hok, hct, j, hj => by
    obtain ⟨h1, h2, h3, h4, h5⟩ := okI_run hok
    obtain ⟨o, v, ds1, hh1, ho, hone, hT, hct⟩ := hct
    by_cases e : i = j
    · subst e; exact .inr ⟨o, ds, h, v, ds1, hh1, ho, hone, hT⟩
    · obtain ⟨eff', need', hok'⟩ : ∃ eff' need', okI P os L (done ||| 2 ^ i) eff' need' := by
        rcases h5 with ⟨_, h⟩ | ⟨_, _, h⟩ | ⟨_, _, h⟩ <;> exact ⟨_, _, h⟩
      refine (ct_all hok' hct j hj).imp (fun h => ?_) id
      rw [bit_or, bit_pow, Bool.or_eq_true] at h
      exact h.resolve_right (by simpa using e)
/-- the operations that have been listed -/
def Li (listed : Array Bool) (i : Nat) : Prop := listed.getD i false = true
theorem Li.lt {listed : Array Bool} {i : Nat} (h : Li listed i) : i < listed.size := by
  unfold Li at h
  rcases Nat.lt_or_ge i listed.size with h' | h'
  · exact h'
  · simp [Array.getD_eq_getD_getElem?, Array.getElem?_eq_none h'] at h
theorem li_set {listed : Array Bool} {j : Nat} (hj : j < listed.size) : Li (listed.setIfInBounds j true) = fun i => Li listed i ∨ i = j := by
  funext i
  apply propext
  unfold Li
  by_cases e : j = i
  · subst e
    simp [Array.getD_eq_getD_getElem?, hj]
  · rw [Array.getD_eq_getD_getElem?, Array.getElem?_setIfInBounds_ne e, ← Array.getD_eq_getD_getElem?]
    simp [Ne.symm e]
section
variable {b : Frame} {k : List Item} {cs : List Frame} {ops : Array Oper}
/-- the whole of it, in any order -/
theorem lin_ok (hP : ProgOK P) (hR : RecOK P J R) (hops : ops.toList = os) (hk : RegOK P R X l os T m) (hfc : FC b cs) (hro : b.roundOf = none ∨ calmL os = true) :
    ∀ (fuel t : Nat) (listed : Array Bool) (L : List It) (done eff need : Nat) (ds : List Dfr) (h : H) (g : G) (gh : Nat → Ps) (a : Act) (w : World),
      Inv P R X l os T m dsF hF g0 H0 w0 (Li listed) L done eff need ds h g gh a w → Clo os (Li listed) → listed.size = os.length →
      (∃ U : List Nat, U.Nodup ∧ (∀ i, i ∈ U ↔ i < os.length ∧ ¬ Li listed i) ∧ U.length ≤ fuel) →
      ∃ L' done' eff' need' ds' h' g' gh' a' w', Steps P (lone (b.atR a (.inRegion ops (Region.linearise.go .any ops fuel t listed []) :: k)) cs w) (lone (b.atR a' (.inRegion ops [] :: k)) cs w') ∧
        Inv P R X l os T m dsF hF g0 H0 w0 (fun i => i < os.length) L' done' eff' need' ds' h' g' gh' a' w' := by
  have hall : ∀ {listed : Array Bool}, Clo os (Li listed) → (∀ i, i < os.length → Li listed i) → Li listed = fun i => i < os.length := fun hc hl => by
    funext i
    exact propext ⟨fun h => hc.lt i h, fun h => hl i h⟩
  intro fuel
  induction fuel with
  | zero =>
    intro t listed L done eff need ds h g gh a w hi hc hsz ⟨U, _, hU, hlen⟩
    have hUn : U = [] := by cases U with | nil => rfl | cons x U => simp at hlen
    have hl : ∀ i, i < os.length → Li listed i := fun i hlt => Classical.byContradiction fun hn => by
      have := (hU i).2 ⟨hlt, hn⟩
      rw [hUn] at this; cases this
    rw [hall hc hl] at hi
    exact ⟨L, done, eff, need, ds, h, g, gh, a, w, by simp only [Region.linearise.go]; exact .refl P _, hi⟩
  | succ fuel ih =>
    intro t listed L done eff need ds h g gh a w hi hc hsz ⟨U, hnd, hU, hlen⟩
    have hgo : Region.linearise.go .any ops (fuel + 1) t listed [] = (match (Region.ready .any ops listed)[t % (Region.ready .any ops listed).length]? with
        | some i => Region.linearise.go .any ops fuel (t / (Region.ready .any ops listed).length) (listed.setIfInBounds i true) [i]
        | none => [].reverse) := rfl
    have hsize : ops.size = os.length := by rw [← hops]; simp
    cases hready : (Region.ready .any ops listed)[t % (Region.ready .any ops listed).length]? with
    | none =>
      have hnil : Region.ready .any ops listed = [] := by
        cases hr : Region.ready .any ops listed with
        | nil => rfl
        | cons x xs =>
          rw [hr] at hready
          have hlt : t % (x :: xs).length < (x :: xs).length := Nat.mod_lt _ (by simp)
          simp at hready
          simp at hlt
          omega
      have hl : ∀ i, i < os.length → Li listed i := by
        intro i
        induction i using Nat.strongRecOn with
        | _ i ihi =>
          intro hlt
          refine Classical.byContradiction fun hn => ?_
          have : i ∈ Region.ready .any ops listed := by
            rw [mem_ready]
            refine ⟨?_, os[i], by rw [← Array.getElem?_toList, hops]; simp [hlt], fun e he hb => ?_⟩
            · unfold Li at hn
              have hlt' : i < listed.size := by omega
              simp [Array.getD_eq_getD_getElem?, hlt'] at hn ⊢
              exact hn
            · have := edgesOk_iff.1 hk.ed i os[i] (by simp [hlt]) e he hb
              exact ihi e.on (by omega) (by omega)
          rw [hnil] at this
          cases this
      rw [hgo, hready]
      rw [hall hc hl] at hi
      exact ⟨L, done, eff, need, ds, h, g, gh, a, w, .refl P _, hi⟩
    | some j =>
      rw [hgo, hready]
      simp only []
      rw [linearise_go_acc, List.reverse_singleton, List.singleton_append]
      have hjr := List.mem_of_getElem? hready
      rw [mem_ready] at hjr
      obtain ⟨hju, o, ho, hr⟩ := hjr
      have hoj : os[j]? = some o := by rw [← hops]; simpa using ho
      have hjl : j < os.length := (List.getElem?_eq_some_iff.1 hoj).1
      have hjs : j < listed.size := by omega
      have hnj : ¬ Li listed j := by
        unfold Li
        simp [Array.getD_eq_getD_getElem?, hjs] at hju ⊢
        exact hju
      obtain ⟨L1, done1, eff1, need1, ds1, h1, g1, gh1, a1, w1, hs, hi1⟩ := Inv.step (rest := Region.linearise.go .any ops fuel (t / (Region.ready .any ops listed).length) (listed.setIfInBounds j true) []) (k := k) hP hR hops hk hfc hro hi hc hoj hnj hr
      rw [← li_set hjs] at hi1
      obtain ⟨L2, done2, eff2, need2, ds2, h2, g2, gh2, a2, w2, hs2, hi2⟩ := ih (t / (Region.ready .any ops listed).length) (listed.setIfInBounds j true) L1 done1 eff1 need1 ds1 h1 g1 gh1 a1 w1 hi1
        ⟨fun i hii => by
          rw [li_set hjs] at hii
          rcases hii with hii | rfl
          · exact hc.lt i hii
          · exact hjl,
         fun i u hii hu e he hb => by
          rw [li_set hjs] at hii ⊢
          rcases hii with hii | rfl
          · exact .inl (hc.cl i u hii hu e he hb)
          · rw [hoj] at hu
            obtain rfl := Option.some.inj hu
            exact .inl (hr e he hb)⟩ (by simpa using hsz)
        ⟨U.erase j, hnd.erase j, fun i => by
          rw [hnd.mem_erase_iff, hU, li_set hjs]
          constructor
          · rintro ⟨h1, h2, h3⟩; exact ⟨h2, fun h => h.elim h3 h1⟩
          · rintro ⟨h1, h2⟩; exact ⟨fun e => h2 (.inr e), h1, fun h => h2 (.inl h)⟩,
         by
          have hm : j ∈ U := (hU j).2 ⟨hjl, hnj⟩
          rw [List.length_erase_of_mem hm]
          omega⟩
      exact ⟨L2, done2, eff2, need2, ds2, h2, g2, gh2, a2, w2, hs.trans hs2, hi2⟩
/-- a region whose order is drawn -/
theorem draw_ok (hP : ProgOK P) (hR : RecOK P J R) {keep : List Nat} (hlo : ∀ d, d ∈ dsts ops.toList → d < m) (hn : m ≤ nowhere) (hfc : FC b cs) (hro : b.roundOf = none ∨ calmL ops.toList = true)
    (hkeep : ∀ d, d ∈ keep ↔ d ∈ dsts ops.toList ∧ memN d X = true) {x : Ex} {f' : Fr} {h h' : H} {ds : List Dfr} {g : G} {a : Act} {w : World} {id : Nat}
    (he : execL P R l keep (planD P X ops.toList) .nil ds h = .ok x f' h') (hlr : LR g X l a.tmps) (hr : HR P g h w) (hd : DR g ds a.defers) (hm : m ≤ a.tmps.size) :
    ∃ g' w' a', x = .normal ∧ Steps P (lone (b.atR a (.code (.region id ops true) :: k)) cs w) (lone (b.atR a' k) cs w') ∧ LR g' X f'.loc a'.tmps ∧ HR P g' h' w' ∧ DR g' f'.defers a'.defers ∧ m ≤ a'.tmps.size ∧ Ext g h w g' h' w' := by
  have hbad : ∀ {q : Prop}, execL P R l keep [.bad] .nil ds h = .ok x f' h' → q := fun he => by
    have he : RC.no = .ok x f' h' := he
    cases he
  unfold planD planD1 planD2 at he
  split at he
  · exact hbad he
  · rename_i L hst
    split at he
    · rename_i hch
      simp only [Bool.and_eq_true] at hch
      obtain ⟨⟨htk, hed⟩, hok⟩ := hch
      have hlo' : ∀ (i : Nat) (o : Oper) (d : Nat), ops.toList[i]? = some o → o.dst = some d → d < m := fun i o d ho hd => hlo d (mem_dsts.2 ⟨i, o, ho, hd⟩)
      have hb0 : ∀ i, bit 0 i = false := bit_zero
      obtain ⟨T, dsF, rfl, hf, hct, _⟩ := canon (R := R) (l := l) htk hed (fun i o d ho hd => by have := hlo' i o d ho hd; omega) L 0 0 0 .nil ds h hok he (fun i hi => by rw [hb0] at hi; cases hi) (fun i j hi => by rw [hb0] at hi; cases hi)
      have hk : RegOK P R X l ops.toList T m := ⟨htk, hed, hlo', fun j o hj => by
        rcases ct_all hok hct j (List.getElem?_eq_some_iff.1 hj).1 with hb | ⟨o', ds0, h0, v, ds1, h1, ho, h2, h3⟩
        · rw [hb0] at hb; cases hb
        · rw [hj] at ho
          obtain rfl := Option.some.inj ho
          exact ⟨ds0, h0, v, ds1, h1, h2, h3⟩⟩
      have hrep : ∀ i, ¬ Li (Array.replicate ops.size false) i := fun i hi => by
        unfold Li at hi
        have := Li.lt hi
        simp at this
        simp [Array.getD_eq_getD_getElem?, this] at hi
      have hs0 := stepR_region_draw (P := P) (b := b) (a := a) (k := k) (cs := cs) (w := w) (ops := ops) (id := id)
      simp only [Region.schedule, hP.mixed, Bool.true_or, if_true] at hs0
      have hr1 : HR P g h { w with drawn := w.drawn + 1 } := hr.world rfl
      have hx1 : Ext g h w g h { w with drawn := w.drawn + 1 } := Ext.world rfl ⟨rfl, rfl, rfl⟩
      have hi : Inv P R X l ops.toList T m dsF h' g h w (Li (Array.replicate ops.size false)) L 0 0 0 ds h g (fun _ => .e) a { w with drawn := w.drawn + 1 } :=
        { ok := hok, ct := hct, lt := fun i hi => by rw [hb0] at hi; cases hi
          cl := fun i j hi => by rw [hb0] at hi; cases hi
          de := fun i hi => by rw [hb0] at hi; cases hi
          df := fun i hi => by rw [hb0] at hi; cases hi
          fd := fun i hi => absurd hi (hrep i)
          hr := hr1, dr := hd, sz := hm
          tm := fun i o d hi => absurd hi (hrep i)
          tl := fun d v _ hX hl => hlr d v hX hl
          rd := fun i o hp => by have := hp.1; rw [hb0] at this; cases this
          al := fun i o hp => by have := hp.1; rw [hb0] at this; cases this
          inj := fun i j o u hp => by have := hp.1; rw [hb0] at this; cases this
          ext := hx1 }
      obtain ⟨L', done', eff', need', ds', h2, g', gh', a', w', hs1, hi1⟩ := lin_ok (k := k) hP hR rfl hk hfc hro ops.size (w.tape w.drawn (.order b.fn id)) (Array.replicate ops.size false) L 0 0 0 ds h g (fun _ => .e) a _ hi
        ⟨fun i hi => absurd hi (hrep i), fun j o hj => absurd hj (hrep j)⟩ (by simp) ⟨List.range ops.size, List.nodup_range, fun i => by
          rw [List.mem_range]
          simp only [Array.length_toList]
          exact ⟨fun h => ⟨h, hrep i⟩, fun h => h.1⟩, by simp⟩
      obtain ⟨L'', done'', eff'', need'', ds'', h3, gh'', hi2, hL⟩ := hi1.norm
      have hL' : L'' = [] := by
        rcases hL with h | ⟨e, L3, rfl, hce⟩
        · exact h
        · obtain ⟨q1, q2, q3, _⟩ := okI_run hi2.ok
          have := hi2.fd e q1 (by rw [hce]; simp)
          rw [q3] at this; cases this
      subst hL'
      obtain ⟨rfl, rfl⟩ := hi2.ct
      have hreg : RegR g' X (dsts ops.toList) T l a'.tmps := ⟨fun d v hd hv => by
          obtain ⟨i, o, ho, hod⟩ := mem_dsts.1 (memN_iff'.1 hd)
          obtain ⟨v', c, h4, h5, h6⟩ := hi2.tm i o d (List.getElem?_eq_some_iff.1 ho).1 ho hod
          rw [h4] at hv
          obtain rfl := Option.some.inj hv
          exact ⟨c, h5, h6⟩,
        fun d v hd hX hv => hi2.tl d v (fun i o _ ho hod => memN_iff_false.1 hd (mem_dsts.2 ⟨i, o, ho, hod⟩)) hX hv⟩
      refine ⟨g', w', a', rfl, .head hs0 (hs1.trans (.one stepR_region_end)), ?_, hi2.hr, ?_, hi2.sz, hi2.ext⟩
      · rw [hf]
        exact hreg.keep (fun d hd => by
          obtain ⟨i, o, ho, hod⟩ := mem_dsts.1 hd
          obtain ⟨v', c, h4, _⟩ := hi2.tm i o d (List.getElem?_eq_some_iff.1 ho).1 ho hod
          exact ⟨v', h4⟩) hkeep
      · rw [hf]; exact hi2.dr
    · exact hbad he
end
end
end Go.Eng
