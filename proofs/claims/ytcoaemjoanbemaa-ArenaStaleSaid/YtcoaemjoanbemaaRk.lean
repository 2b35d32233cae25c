/- Plain laws on memory as a list of objects: which object a block belongs to, what a step leaves of the others. No condition. -/
import Derived.Test.YtcoaemjoanbemaaHp
namespace Go.Proofs.Ytcoaemjoanbemaa
open Go.RowKit

/-- What lies in blocks with a mark in M stays; new blocks may have come. -/
structure Kp (M : Nat → Prop) (o o' : Nat → Nat) (w w' : World) : Prop where
  os : w'.os = w.os
  tape : w'.tape = w.tape
  output : w'.output = w.output
  size : w.heap.size ≤ w'.heap.size
  kp : ∀ k, k < w.heap.size → M (o k) → o' k = o k ∧ blk w' k = blk w k
theorem Ext.kp {o o' : Nat → Nat} {w w' : World} {S : Nat → Prop} (e : Ext o o' w w' S) : Kp (fun x => ¬ S x) o o' w w' := ⟨e.os, e.tape, e.output, e.size, fun k hk h => ⟨e.own k hk, e.same k hk h⟩⟩
theorem Kp.mono {o o' : Nat → Nat} {w w' : World} {M N : Nat → Prop} (e : Kp M o o' w w') (h : ∀ x, N x → M x) : Kp N o o' w w' := ⟨e.os, e.tape, e.output, e.size, fun k hk hn => e.kp k hk (h _ hn)⟩
theorem Kp.trans {o o1 o2 : Nat → Nat} {w w1 w2 : World} {M : Nat → Prop} (e : Kp M o o1 w w1) (f : Kp M o1 o2 w1 w2) : Kp M o o2 w w2 :=
  ⟨f.os.trans e.os, f.tape.trans e.tape, f.output.trans e.output, Nat.le_trans e.size f.size, fun k hk hm => by
    obtain ⟨h1, h2⟩ := e.kp k hk hm
    obtain ⟨h3, h4⟩ := f.kp k (Nat.lt_of_lt_of_le hk e.size) (by rw [h1]; exact hm)
    exact ⟨h3.trans h1, h4.trans h2⟩⟩
section
variable {o o' : Nat → Nat} {w w' : World} {M : Nat → Prop} {t b : Nat} {cs : Array Value} {T : TypeId}
theorem StAt.kp (h : StAt o w t b cs T) (e : Kp M o o' w w') (hm : M t) : StAt o' w' t b cs T := by
  obtain ⟨h1, h2⟩ := e.kp b h.lt (by rw [h.tag]; exact hm)
  exact ⟨h2.trans h.heap, h1.trans h.tag⟩
theorem SlAt.kp {k : Nat} {v : Value} {n : Nat} {cs : List Value} (h : SlAt o w t T k v n cs) (e : Kp M o o' w w') (hm : M t) : SlAt o' w' t T k v n cs := by
  refine ⟨h.1, ?_⟩
  rcases h.2 with hn | ⟨g, cap, cur, hv, hg, hog, h1, h2, h3, h4⟩
  · exact .inl hn
  · obtain ⟨h5, h6⟩ := e.kp g (lt_of_blk hg) (by rw [hog]; exact hm)
    exact .inr ⟨g, cap, cur, hv, h6.trans hg, h5.trans hog, h1, h2, h3, h4⟩
end
/-- Another mark for all that has the mark a. -/
def mv (o : Nat → Nat) (a c : Nat) : Nat → Nat := fun k => if o k = a then c else o k
theorem mv_at {o : Nat → Nat} {a c k : Nat} (h : o k = a) : mv o a c k = c := if_pos h
theorem mv_kp (o : Nat → Nat) (w : World) (a c : Nat) : Kp (fun x => x ≠ a) o (mv o a c) w w := ⟨rfl, rfl, rfl, Nat.le_refl _, fun _ _ h => ⟨if_neg h, rfl⟩⟩
theorem StAt.mv {o : Nat → Nat} {w : World} {t b : Nat} {cs : Array Value} {T : TypeId} (h : StAt o w t b cs T) (c : Nat) : StAt (mv o t c) w c b cs T := ⟨h.heap, mv_at h.tag⟩
theorem SlAt.mv {o : Nat → Nat} {w : World} {t : Nat} {T : TypeId} {k : Nat} {v : Value} {n : Nat} {cs : List Value} (h : SlAt o w t T k v n cs) (c : Nat) : SlAt (mv o t c) w c T k v n cs := by
  refine ⟨h.1, ?_⟩
  rcases h.2 with hn | ⟨g, cap, cur, hv, hg, hog, h1, h2, h3, h4⟩
  · exact .inl hn
  · exact .inr ⟨g, cap, cur, hv, hg, mv_at hog, h1, h2, h3, h4⟩

/-- An object: what holds of it where it stands at place t of the list: its blocks have the marks 16 t .. 16 t + 15. -/
structure KObj where
  holds : (Nat → Nat) → World → Nat → Prop
  keep : ∀ {o o' : Nat → Nat} {w w' : World} {M : Nat → Prop} {t : Nat}, Kp M o o' w w' → (∀ j, j < 16 → M (16 * t + j)) → holds o w t → holds o' w' t

/-- The list of objects, each in its place. -/
def Rp (l : List KObj) (o : Nat → Nat) (w : World) : Prop := ∀ (t : Nat) (p : KObj), l[t]? = some p → p.holds o w t
/-- Memory holds these objects. -/
def R (l : List KObj) (w : World) : Prop := ∃ o, Rp l o w

section
variable {l : List KObj} {o o' : Nat → Nat} {w w' : World} {S : Nat → Prop} {t : Nat} {p q : KObj}

theorem set_get (ht : l[t]? = some p) : (l.set t q)[t]? = some q := by simp [(List.getElem?_eq_some_iff.1 ht).1]
theorem set_other {u : Nat} (ht : l[t]? = some p) (h : u ≠ t) : (l.set u q)[t]? = some p := by rw [List.getElem?_set_ne h]; exact ht
theorem app_get {m : List KObj} (ht : l[t]? = some p) : (l ++ m)[t]? = some p := by rw [List.getElem?_append_left (List.getElem?_eq_some_iff.1 ht).1]; exact ht
theorem set_same (ht : l[t]? = some p) : l.set t p = l := by rw [List.getElem?_eq_some_iff] at ht; obtain ⟨h1, rfl⟩ := ht; exact List.set_getElem_self h1
theorem app_last : (l ++ [p])[l.length]? = some p := by simp
theorem Rp.get (h : Rp l o w) (ht : l[t]? = some p) : p.holds o w t := h t p ht
theorem R.get (h : R l w) (ht : l[t]? = some p) : ∃ o, Rp l o w ∧ p.holds o w t := by
  obtain ⟨o, h⟩ := h
  exact ⟨o, h, h t p ht⟩
/-- What a step leaves, that turns the object at t alone. -/
theorem Rp.step (h : Rp l o w) (e : Ext o o' w w' S) (hS : ∀ x, S x → 16 * t ≤ x ∧ x < 16 * t + 16) (hq : q.holds o' w' t) : R (l.set t q) w' := by
  have e := e.kp
  refine ⟨o', fun u p hu => ?_⟩
  rw [List.getElem?_set] at hu
  by_cases hut : t = u
  · subst hut
    rw [if_pos rfl] at hu
    split at hu
    · cases hu; exact hq
    · cases hu
  · rw [if_neg hut] at hu
    exact p.keep e (fun j hj hs => by have := hS _ hs; omega) (h u p hu)
/-- One that turns none. -/
theorem Rp.same (h : Rp l o w) (e : Ext o o' w w' (fun _ => False)) : R l w' := ⟨o', fun u p hu => p.keep e.kp (fun _ _ => id) (h u p hu)⟩
theorem Rp.same' (h : Rp l o w) (e : Ext o o' w w' (fun _ => False)) : Rp l o' w' := fun u p hu => p.keep e.kp (fun _ _ => id) (h u p hu)
theorem Rp.extS (h : Rp l o w) (e : Ext o o' w w' S) (hS : ∀ x, S x → 16 * l.length ≤ x) : Rp l o' w' := fun u p hu => p.keep e.kp (fun j hj hs => by
  have := hS _ hs
  have : u < l.length := (List.getElem?_eq_some_iff.1 hu).1
  omega) (h u p hu)
/-- One that makes an object. -/
theorem Rp.add (h : Rp l o w) (e : Ext o o' w w' S) (hS : ∀ x, S x → 16 * l.length ≤ x) (hq : q.holds o' w' l.length) : R (l ++ [q]) w' := by
  refine ⟨o', fun u p hu => ?_⟩
  by_cases hul : u < l.length
  · rw [List.getElem?_append_left hul] at hu
    exact h.extS e hS u p hu
  · rw [List.getElem?_append_right (by omega)] at hu
    by_cases h0 : u = l.length
    · subst h0
      simp at hu
      subst hu
      exact hq
    · rw [List.getElem?_eq_none (by simp; omega)] at hu
      cases hu
theorem R.below (h : R l w) (hb : Below w.heap.size w w') : R l w' := by
  obtain ⟨o, h⟩ := h
  exact h.same (Ext.of_below hb o _)
theorem R.drew (h : R l w) : R l w.drew := by
  obtain ⟨o, h⟩ := h
  exact h.same (Ext.refl o w _).drew
theorem R.drewN (h : R l w) (n : Nat) : R l (w.drewN n) := by
  obtain ⟨o, h⟩ := h
  exact h.same ((Ext.refl o w _).drewN n)
theorem R.alloc (h : R l w) (x : Obj) : R l (w.alloc x) := by
  obtain ⟨o, h⟩ := h
  exact h.same ((Ext.refl o w _).alloc x)
/-- The first objects alone. -/
theorem R.left {m : List KObj} (h : R (l ++ m) w) : R l w := by
  obtain ⟨o, h⟩ := h
  refine ⟨o, fun u p hu => h u p ?_⟩
  rw [List.getElem?_append_left (List.getElem?_eq_some_iff.1 hu).1]
  exact hu

/-- The memory below w0, as it was. -/
def BaseK (w0 : World) : KObj where
  holds o w t := Below w0.heap.size w0 w ∧ ∀ k, k < w0.heap.size → o k = 16 * t
  keep {o o' w w' M t} e hs h := by
    refine ⟨⟨e.os.trans h.1.os, e.tape.trans h.1.tape, e.output.trans h.1.output, Nat.le_trans h.1.size e.size, fun k hk => ?_⟩, fun k hk => ?_⟩
    · have hk2 : k < w.heap.size := Nat.lt_of_lt_of_le hk h.1.size
      have h2 : blk w' k = blk w k := (e.kp k hk2 (by rw [h.2 k hk]; exact hs 0 (by decide))).2
      exact h2.trans (h.1.block k hk)
    · rw [(e.kp k (Nat.lt_of_lt_of_le hk h.1.size) (by rw [h.2 k hk]; exact hs 0 (by decide))).1]; exact h.2 k hk
theorem R.start (w : World) : R [BaseK w] w := ⟨fun _ => 0, fun t p hp => by
  match t with
  | 0 => simp at hp; subst hp; exact ⟨⟨rfl, rfl, rfl, Nat.le_refl _, fun _ _ => rfl⟩, fun _ _ => rfl⟩
  | t + 1 => simp at hp⟩
theorem R.done {w0 : World} (h : R (BaseK w0 :: l) w) : Below w0.heap.size w0 w := by
  obtain ⟨o, h⟩ := h
  exact (h 0 (BaseK w0) rfl).1

/-- One block. -/
def StK (b : Nat) (cs : Array Value) (T : TypeId) : KObj where
  holds o w t := StAt o w (16 * t) b cs T
  keep e hs h := h.kp e (by simpa using hs 0 (by decide))
/-- A row. -/
def SlK (T : TypeId) (k : Nat) (v : Value) (n : Nat) (cs : List Value) : KObj where
  holds o w t := SlAt o w (16 * t) T k v n cs
  keep e hs h := h.kp e (by simpa using hs 0 (by decide))
/-- Nothing. -/
def NoK : KObj where
  holds _ _ _ := True
  keep _ _ _ := trivial

theorem R.st {b : Nat} {cs : Array Value} {T : TypeId} (h : R l w) (ht : l[t]? = some (StK b cs T)) : blk w b = some (.cells cs T (0, 0)) := by
  obtain ⟨o, _, h⟩ := h.get ht
  exact h.heap
theorem R.put {b : Nat} {cs : Array Value} {T : TypeId} (h : R l w) (ht : l[t]? = some (StK b cs T)) (i : Nat) (v : Value) : R (l.set t (StK b (cs.setIfInBounds i v) T)) (w.setCell ⟨b, i, none⟩ v) := by
  obtain ⟨o, h, hp⟩ := h.get ht
  exact h.step (S := fun x => x = 16 * t) ((Ext.refl o w _).put v (.inl hp.tag)) (fun x hx => by omega) (StAt.put hp i v)
theorem R.new (h : R l w) (cs : Array Value) (T : TypeId) : R (l ++ [StK w.heap.size cs T]) (w.alloc (.cells cs T)) := by
  obtain ⟨o, h⟩ := h
  exact h.add (((Ext.refl o w (fun _ => False)).retag (16 * l.length)).alloc _) (fun _ => False.elim) ⟨blk_new _ _, upd_new (Nat.le_refl _)⟩
theorem R.slnil (h : R l w) (T : TypeId) (k : Nat) : R (l ++ [SlK T k (.slice none 0 0) 0 []]) w := by
  obtain ⟨o, h⟩ := h
  exact h.add (Ext.refl o w (fun _ => False)) (fun _ => False.elim) (SlAt.nil _ _ _ _ _)
/-- An object is let go. -/
theorem R.drop (h : R l w) (t : Nat) : R (l.set t NoK) w := by
  obtain ⟨o, h⟩ := h
  exact h.step (Ext.refl o w (fun _ => False)) (fun _ => False.elim) trivial
end
end Go.Proofs.Ytcoaemjoanbemaa
