/- The row's last step where the walk ends in 'Below', and bounds out of a number's kind. No condition. -/
import Derived.Test.YtcgfknpobifecaaGreatHp
import Derived.ProofKit
import Derived.OpenShut
import Derived.Deep.Slices
import Derived.Deep.Fields
import Derived.ChangeSame
import Derived.SizedLaws
namespace Go.Proofs.YtcgfknpobifecaaGreat
open Go.RowKit Go.WideShapes Go.ChangeShapes

section
variable {H : Type} {enc : TypeId × Value → H} {P : Program}
theorem post_below {f : Func} {s : ChangeSpec} {apart fresh handsOn again : Bool} {W W' : World} {args : Array Value} {v : Value} {ds gs : List (DataW H)} {before pa pv : List MemPlace}
    (hW : DataW.Whole enc P f.params.toList s.vars apart W args.toList ds gs before)
    (hres : ∀ (b : Nat) (sp : Nat → Bool) (hd : Bool), DataW.TrodAll enc P W' b sp hd f.resultTypes.toList (v.resultList f.resultTypes.size) (s.fn H (ds ++ gs)).results [])
    (hargs : ∀ sp : Nat → Bool, (∀ p ∈ before, sp p.block = true) → DataW.TrodAll enc P W' 0 sp true f.params.toList args.toList (s.fn H (ds ++ gs)).args pa)
    (hvars : ∀ sp : Nat → Bool, (∀ p ∈ before, sp p.block = true) → DataW.TrodVars enc P W' sp s.vars (s.fn H (ds ++ gs)).vars pv)
    (hps : before = pa ++ pv) (hb : Below W.heap.size W W')
    (hok : ∀ (j : Nat) (t : TypeId) (r : Value), f.resultTypes[j]? = some t → (v.resultList f.resultTypes.size)[j]? = some r → Value.okWide P W' .any 0 t r) :
    s.post enc P f apart fresh handsOn again W args v W' := by
  have hlt : ∀ p ∈ before, p.block < W.heap.size := fun p hp => hW.lt p hp
  have hold : ∀ p ∈ before, (fun b => decide (b < W.heap.size)) p.block = true := fun p hp => by simpa using hlt p hp
  refine ⟨ds, gs, before, [], pa, pv, hW, hres _ _ _, hargs _ hold, hvars _ hold, World.keptBut_mono (fun p hp => ⟨hp, ?_⟩) (hb.frame (· ∈ before)), fun _ => ?_⟩
  · rw [hps, List.mem_append] at hp
    exact Or.inr hp
  · obtain ⟨_, _, _, _, _, hz, hn⟩ := hW
    refine ⟨hok, _, _, ([] ++ pa) ++ pv, ⟨[] ++ pa, pv, trodAll_append (hargs _ (fun _ _ => rfl)) (hres _ _ _), hvars _ (fun _ _ => rfl), rfl, ?_, ?_⟩, ?_⟩
    · intro b off hp
      have hin : MemPlace.cell b off ∈ before := by rw [hps]; simpa using hp
      rw [hb.frozen (hlt _ hin)]
      exact hz b off hin
    · intro ha
      have := hn ha
      rw [hps] at this
      simpa using this
    · intro p hp _
      rw [hps]
      simpa using hp
end

/-- The row's last step, each argument shut by 'Below.trod'. -/
theorem post_args {H : Type} {enc : TypeId × Value → H} {P : Program} {f : Func} {s : ChangeSpec} {apart fresh handsOn : Bool} {W W' : World} {args : Array Value} {v : Value} {ds gs : List (DataW H)} {before pa pv : List MemPlace}
    (hW : DataW.Whole enc P f.params.toList s.vars apart W args.toList ds gs before)
    (hres : ∀ (b : Nat) (sp : Nat → Bool) (hd : Bool), DataW.TrodAll enc P W' b sp hd f.resultTypes.toList (v.resultList f.resultTypes.size) (s.fn H (ds ++ gs)).results [])
    (hargs : DataW.TrodAll enc P W' 0 (fun b => decide (b < W.heap.size)) true f.params.toList args.toList (s.fn H (ds ++ gs)).args pa)
    (hvars : DataW.TrodVars enc P W' (fun b => decide (b < W.heap.size)) s.vars (s.fn H (ds ++ gs)).vars pv)
    (hps : before = pa ++ pv) (hb : Below W.heap.size W W') : s.post enc P f apart fresh handsOn false W args v W' := by
  have hlt : ∀ p ∈ before, p.block < W.heap.size := fun p hp => hW.lt p hp
  refine ⟨ds, gs, before, [], pa, pv, hW, hres _ _ _, hargs, hvars, World.keptBut_mono (fun p hp => ⟨hp, ?_⟩) (hb.frame (· ∈ before)), fun h => by cases h⟩
  rw [hps, List.mem_append] at hp
  exact Or.inr hp

/-- A struct of one-cell fields, read: each field by itself. -/
theorem read_fields {H : Type} {enc : TypeId × Value → H} {P : Program} {w : World} {base : Nat} {spare : Nat → Bool} {held : Bool} {e : TypeId} {fs : Array Field} {n : Nat} {cs : List Value} {y : DataW H × List MemPlace}
    (he : P.underlying e = some (.struct fs)) (hone : Deep.oneCellFields P fs = true) (hC : P.cellsOf e = fs.size) (h : DataW.trod enc P w base spare held n e cs = some y) :
    cs.length = fs.size ∧ ∀ (i : Nat) (f : Field), fs[i]? = some f → ∀ c, cs[i]? = some c → ∃ z m, DataW.trod enc P w base spare held m f.type [c] = some z := by
  obtain ⟨ys, m, _, _, hlen, hyl, hf⟩ := DataW.trod_struct he h
  rw [hC] at hlen
  refine ⟨hlen, fun i f hi c hc => ?_⟩
  obtain ⟨ho, hk⟩ := Deep.hone_of hone i f hi
  have hlt : i < fs.size := (Array.getElem?_eq_some_iff.1 hi).1
  have h1 := hf i f hi
  rw [ho, hk] at h1
  have hci : cs[i]'(by omega) = c := by
    rw [List.getElem?_eq_getElem (by omega)] at hc
    exact Option.some.inj hc
  have hone' : (cs.drop i).take 1 = [c] := by
    rw [List.drop_eq_getElem_cons (by omega), hci]
    rfl
  rw [hone', List.getElem?_eq_getElem (by omega)] at h1
  exact ⟨_, _, h1⟩

/-- All arguments at once: they read as they did. -/
theorem trodAll_below {H : Type} {enc : TypeId × Value → H} {P : Program} (hl : laidOutB P = true) {W W' : World} (hb : Below W.heap.size W W') :
    ∀ {ts : List TypeId} {vs : List Value} {ds : List (DataW H)} {ps : List MemPlace}, (ts.all fun t => P.readableRec t && decide (t < P.types.size)) = true → DataW.TrodAll enc P W 0 (fun _ => true) true ts vs ds ps → (∀ x ∈ ps, x.block < W.heap.size) →
      DataW.TrodAll enc P W' 0 (fun b => decide (b < W.heap.size)) true ts vs ds ps
  | [], vs, ds, ps, _, h, _ => by
    obtain ⟨rfl, rfl, rfl⟩ := trodAll_nil h
    exact trodAll_mk0
  | t :: ts, vs, ds, ps, hr, h, hlt => by
    obtain ⟨v, vs', d, ds', p, q, rfl, rfl, rfl, h0, h1⟩ := trodAll_cons h
    simp only [List.all_cons, Bool.and_eq_true, decide_eq_true_eq] at hr
    exact trodAll_cons_mk (Below.trod hl hr.1.1 hr.1.2 h0 hb fun x hx => hlt x (List.mem_append.2 (.inl hx))) (trodAll_below hl hb hr.2 h1 fun x hx => hlt x (List.mem_append.2 (.inr hx)))

/-- A slice that came in, read element by element. -/
theorem fr_open {H : Type} {enc : TypeId × Value → H} {P : Program} {w : World} {base : Nat} {spare : Nat → Bool} {held : Bool} {α : Type} {enc' : α → List Value} {Pa : α → Prop} (k : Nat) {t e : TypeId} {fuel : Nat} {v : Value} {x : DataW H × List MemPlace}
    (ht : P.underlying t = some (.slice e)) (hC : P.cellsOf e = k) (hk : 0 < k)
    (hread : ∀ n cs' y, DataW.trod enc P w base spare held n e cs' = some y → ∃ x : α, cs' = enc' x ∧ Pa x)
    (h : DataW.trod enc P w base spare held fuel t [v] = some x) : ∃ l : List α, (∀ x ∈ l, Pa x) ∧ FrAt w w.heap.size k v (l.map enc') := by
  rcases Deep.open_slice ht h with ⟨hcs, _⟩ | ⟨a, len, cap, m, n, D, Pl, hcs, hb, hl, hm, hmm, hx, hi⟩
  · simp at hcs
    subst hcs
    exact ⟨[], by simp, ⟨none, 0, rfl, by simp, fun i hi => by simp at hi⟩⟩
  · simp at hcs
    subst hcs
    have hlm : len ≤ m := by rw [hmm]; split <;> omega
    have hel : ∀ i : Fin len, ∃ x : α, Pa x ∧ (enc' x).length = k ∧ ∀ j, j < k → w.cell? (a.add (i.1 * k + j)) = (enc' x)[j]? := by
      intro i
      obtain ⟨cs', hc, ht'⟩ := hi i.1 (by omega)
      rw [hC] at hc
      obtain ⟨y, rfl, hy⟩ := hread _ _ _ ht'
      obtain ⟨_, hcl, hat⟩ := World.cells?_some hc
      exact ⟨y, hy, hcl, fun j hj => by rw [← Go.Deep.add_add]; exact hat j hj⟩
    have hch : ∃ f : Fin len → α, ∀ i, Pa (f i) ∧ (enc' (f i)).length = k ∧ ∀ j, j < k → w.cell? (a.add (i.1 * k + j)) = (enc' (f i))[j]? := ⟨fun i => (hel i).choose, fun i => (hel i).choose_spec⟩
    obtain ⟨f, hf⟩ := hch
    refine ⟨List.ofFn f, fun x hx => ?_, ⟨some a, cap, by simp, by simp only [List.length_map, List.length_ofFn]; simp only [maxLen] at hm; omega, fun i hil => ?_⟩⟩
    · obtain ⟨i, rfl⟩ := (List.mem_ofFn.1 hx)
      exact (hf i).1
    · simp only [List.length_map, List.length_ofFn] at hil
      have hfi := hf ⟨i, hil⟩
      have hget : ((List.ofFn f).map enc').getD i [] = enc' (f ⟨i, hil⟩) := by simp [List.getElem_ofFn, hil]
      have h0 := hfi.2.2 0 hk
      have hs0 : (enc' (f ⟨i, hil⟩))[0]? = some ((enc' (f ⟨i, hil⟩))[0]'(by omega)) := List.getElem?_eq_getElem _
      rw [hs0] at h0
      have hblk := World.block_lt_of_cell? _ _ h0
      have hspot : a.spot = none := by
        have hf0 := hf ⟨0, by omega⟩
        have h1 := hf0.2.2 0 hk
        have hs1 : (enc' (f ⟨0, by omega⟩))[0]? = some ((enc' (f ⟨0, by omega⟩))[0]'(by omega)) := List.getElem?_eq_getElem _
        rw [hs1] at h1
        simpa [Addr.add] using World.cell?_spot h1
      obtain ⟨b, off, sp⟩ := a
      have hsp : sp = none := hspot
      subst hsp
      have hadd : ∀ j, (⟨b, off, none⟩ : Addr).add j = ⟨b, off + j, none⟩ := fun j => by unfold Addr.add; split <;> simp_all
      rw [hadd] at hblk
      refine ⟨b, off, rfl, hblk, fun j hj => ?_⟩
      rw [hget]
      have hj2 := hfi.2.2 j hj
      rw [hadd, cellq] at hj2
      have hsj : (enc' (f ⟨i, hil⟩))[j]? = some ((enc' (f ⟨i, hil⟩))[j]'(by omega)) := List.getElem?_eq_getElem _
      exact ⟨_, hsj, by rw [← hsj, ← hj2, Nat.add_assoc]⟩

theorem weightsAll_mem {H : Type} {P : Program} {e : TypeId} {d : DataW H} {z : Nat} : ∀ {l : List (DataW H)}, d ∈ l → z ∈ d.weights P e → z ∈ DataW.weightsAll P e l
  | [], h, _ => by cases h
  | x :: r, h, hz => by
    simp only [DataW.weightsAll, List.mem_append]
    rcases List.mem_cons.1 h with rfl | h
    · exact .inl hz
    · exact .inr (weightsAll_mem h hz)
/-- The same, where the form's own reach bounds what is read. -/
theorem fr_open_sized {H : Type} {enc : TypeId × Value → H} {P : Program} {w : World} {base : Nat} {spare : Nat → Bool} {held : Bool} {α : Type} {enc' : α → List Value} {Pa : α → Prop} (k : Nat) {t e : TypeId} {fuel : Nat} {v : Value} {x : DataW H × List MemPlace}
    (ht : P.underlying t = some (.slice e)) (hC : P.cellsOf e = k) (hk : 0 < k)
    (hread : ∀ n cs' y, DataW.trod enc P w base spare held n e cs' = some y → (∀ z ∈ y.1.weights P e, z ≤ reachBytes) → ∃ x : α, cs' = enc' x ∧ Pa x)
    (hw : ∀ z ∈ x.1.weights P t, z ≤ reachBytes)
    (h : DataW.trod enc P w base spare held fuel t [v] = some x) : ∃ l : List α, (∀ x ∈ l, Pa x) ∧ FrAt w w.heap.size k v (l.map enc') := by
  rcases Deep.open_slice ht h with ⟨hcs, _⟩ | ⟨a, len, cap, m, n, D, Pl, hcs, hb, hl, hm, hmm, hx, hi⟩
  · simp at hcs
    subst hcs
    exact ⟨[], by simp, ⟨none, 0, rfl, by simp, fun i hi => by simp at hi⟩⟩
  · simp at hcs
    subst hcs
    have hwe : ∀ i, i < len → ∀ z ∈ (D i).weights P e, z ≤ reachBytes := fun i hil z hz => by
      subst hx
      refine hw z ?_
      simp only [DataW.weights, ht]
      exact List.mem_cons_of_mem _ (List.mem_append_left _ (weightsAll_mem (List.mem_map.2 ⟨i, List.mem_range.2 hil, rfl⟩) hz))
    have hlm : len ≤ m := by rw [hmm]; split <;> omega
    have hel : ∀ i : Fin len, ∃ x : α, Pa x ∧ (enc' x).length = k ∧ ∀ j, j < k → w.cell? (a.add (i.1 * k + j)) = (enc' x)[j]? := by
      intro i
      obtain ⟨cs', hc, ht'⟩ := hi i.1 (by omega)
      rw [hC] at hc
      obtain ⟨y, rfl, hy⟩ := hread _ _ _ ht' (fun z hz => hwe i.1 i.2 z hz)
      obtain ⟨_, hcl, hat⟩ := World.cells?_some hc
      exact ⟨y, hy, hcl, fun j hj => by rw [← Go.Deep.add_add]; exact hat j hj⟩
    have hch : ∃ f : Fin len → α, ∀ i, Pa (f i) ∧ (enc' (f i)).length = k ∧ ∀ j, j < k → w.cell? (a.add (i.1 * k + j)) = (enc' (f i))[j]? := ⟨fun i => (hel i).choose, fun i => (hel i).choose_spec⟩
    obtain ⟨f, hf⟩ := hch
    refine ⟨List.ofFn f, fun x hx => ?_, ⟨some a, cap, by simp, by simp only [List.length_map, List.length_ofFn]; simp only [maxLen] at hm; omega, fun i hil => ?_⟩⟩
    · obtain ⟨i, rfl⟩ := (List.mem_ofFn.1 hx)
      exact (hf i).1
    · simp only [List.length_map, List.length_ofFn] at hil
      have hfi := hf ⟨i, hil⟩
      have hget : ((List.ofFn f).map enc').getD i [] = enc' (f ⟨i, hil⟩) := by simp [List.getElem_ofFn, hil]
      have h0 := hfi.2.2 0 hk
      have hs0 : (enc' (f ⟨i, hil⟩))[0]? = some ((enc' (f ⟨i, hil⟩))[0]'(by omega)) := List.getElem?_eq_getElem _
      rw [hs0] at h0
      have hblk := World.block_lt_of_cell? _ _ h0
      have hspot : a.spot = none := by
        have hf0 := hf ⟨0, by omega⟩
        have h1 := hf0.2.2 0 hk
        have hs1 : (enc' (f ⟨0, by omega⟩))[0]? = some ((enc' (f ⟨0, by omega⟩))[0]'(by omega)) := List.getElem?_eq_getElem _
        rw [hs1] at h1
        simpa [Addr.add] using World.cell?_spot h1
      obtain ⟨b, off, sp⟩ := a
      have hsp : sp = none := hspot
      subst hsp
      have hadd : ∀ j, (⟨b, off, none⟩ : Addr).add j = ⟨b, off + j, none⟩ := fun j => by unfold Addr.add; split <;> simp_all
      rw [hadd] at hblk
      refine ⟨b, off, rfl, hblk, fun j hj => ?_⟩
      rw [hget]
      have hj2 := hfi.2.2 j hj
      rw [hadd, cellq] at hj2
      have hsj : (enc' (f ⟨i, hil⟩))[j]? = some ((enc' (f ⟨i, hil⟩))[j]'(by omega)) := List.getElem?_eq_getElem _
      exact ⟨_, hsj, by rw [← hsj, ← hj2, Nat.add_assoc]⟩

theorem u8_bounds {a : Int} (h : (Lit.int .u8 a).wf = true) : 0 ≤ a ∧ a ≤ 255 := by
  simp [Lit.wf, IntKind.min, IntKind.max, IntKind.signed, IntKind.bits] at h
  exact ⟨by omega, by omega⟩
theorem u32_bounds {a : Int} (h : (Lit.int .u32 a).wf = true) : 0 ≤ a ∧ a ≤ 4294967295 := by
  simp [Lit.wf, IntKind.min, IntKind.max, IntKind.signed, IntKind.bits] at h
  exact ⟨by omega, by omega⟩
theorem u64_bounds {a : Int} (h : (Lit.int .u64 a).wf = true) : 0 ≤ a ∧ a ≤ 18446744073709551615 := by
  simp [Lit.wf, IntKind.min, IntKind.max, IntKind.signed, IntKind.bits] at h
  exact ⟨by omega, by omega⟩
theorem i64_bounds {a : Int} (h : (Lit.int .i64 a).wf = true) : -9223372036854775808 ≤ a ∧ a ≤ 9223372036854775807 := by
  simp [Lit.wf, IntKind.min, IntKind.max, IntKind.signed, IntKind.bits] at h
  exact ⟨by omega, by omega⟩
end Go.Proofs.YtcgfknpobifecaaGreat
