/- Plain laws on memory as a list of objects: which object a block belongs to, what a step leaves of the others. No condition. Plain laws on rows among the objects. No condition. Plain laws: an object parted into its parts, and put together again. No condition. append onto slices of handles and of tables. No condition. A row that may be longer than its slice's room: 'xs[:k:k]', and append onto it. No condition. Plain laws on objects of several parts: a list of flat parts as one object, and its parts laid side by side; an object some of whose addresses are not told. No condition. -/
import Derived.Test.YtcoaemjoanbemaaHp
import Derived.Test.YtcoaemjoanbemaaProg
namespace Go.Proofs.Ytcoaemjoanbemaa
open Go.RowKit

/-- What lies in blocks with a mark in M stays; new blocks may have come. -/
structure Kp (M : Nat → Prop) (o o' : Nat → Nat) (w w' : World) : Prop where
  os : w'.os = w.os
  tape : w'.tape = w.tape
  output : w'.output = w.output
  size : w.heap.size ≤ w'.heap.size
  kp : ∀ k, k < w.heap.size → M (o k) → o' k = o k ∧ blk w' k = blk w k
theorem Ext.kp {o o' : Nat → Nat} {w w' : World} {S : Nat → Prop} (e : Ext o o' w w' S) : Kp (fun x => ¬ S x) o o' w w' := ⟨e.os, e.tape, e.output, e.size, fun k hk h => ⟨e.own k hk, e.same k hk h⟩⟩
theorem Kp.mono {o o' : Nat → Nat} {w w' : World} {M N : Nat → Prop} (e : Kp M o o' w w') (h : ∀ x, N x → M x) : Kp N o o' w w' := ⟨e.os, e.tape, e.output, e.size, fun k hk hn => e.kp k hk (h _ hn)⟩
theorem Kp.trans {o o1 o2 : Nat → Nat} {w w1 w2 : World} {M : Nat → Prop} (e : Kp M o o1 w w1) (f : Kp M o1 o2 w1 w2) : Kp M o o2 w w2 :=
  ⟨f.os.trans e.os, f.tape.trans e.tape, f.output.trans e.output, Nat.le_trans e.size f.size, fun k hk hm => by
    obtain ⟨h1, h2⟩ := e.kp k hk hm
    obtain ⟨h3, h4⟩ := f.kp k (Nat.lt_of_lt_of_le hk e.size) (by rw [h1]; exact hm)
    exact ⟨h3.trans h1, h4.trans h2⟩⟩
section
variable {o o' : Nat → Nat} {w w' : World} {M : Nat → Prop} {t b : Nat} {cs : Array Value} {T : TypeId}
theorem StAt.kp (h : StAt o w t b cs T) (e : Kp M o o' w w') (hm : M t) : StAt o' w' t b cs T := by
  obtain ⟨h1, h2⟩ := e.kp b h.lt (by rw [h.tag]; exact hm)
  exact ⟨h2.trans h.heap, h1.trans h.tag⟩
theorem SlAt.kp {k : Nat} {v : Value} {n : Nat} {cs : List Value} (h : SlAt o w t T k v n cs) (e : Kp M o o' w w') (hm : M t) : SlAt o' w' t T k v n cs := by
  refine ⟨h.1, ?_⟩
  rcases h.2 with hn | ⟨g, cap, cur, hv, hg, hog, h1, h2, h3, h4⟩
  · exact .inl hn
  · obtain ⟨h5, h6⟩ := e.kp g (lt_of_blk hg) (by rw [hog]; exact hm)
    exact .inr ⟨g, cap, cur, hv, h6.trans hg, h5.trans hog, h1, h2, h3, h4⟩
end
/-- Another mark for all that has the mark a. -/
def mv (o : Nat → Nat) (a c : Nat) : Nat → Nat := fun k => if o k = a then c else o k
theorem mv_at {o : Nat → Nat} {a c k : Nat} (h : o k = a) : mv o a c k = c := if_pos h
theorem mv_kp (o : Nat → Nat) (w : World) (a c : Nat) : Kp (fun x => x ≠ a) o (mv o a c) w w := ⟨rfl, rfl, rfl, Nat.le_refl _, fun _ _ h => ⟨if_neg h, rfl⟩⟩
theorem StAt.mv {o : Nat → Nat} {w : World} {t b : Nat} {cs : Array Value} {T : TypeId} (h : StAt o w t b cs T) (c : Nat) : StAt (mv o t c) w c b cs T := ⟨h.heap, mv_at h.tag⟩
theorem SlAt.mv {o : Nat → Nat} {w : World} {t : Nat} {T : TypeId} {k : Nat} {v : Value} {n : Nat} {cs : List Value} (h : SlAt o w t T k v n cs) (c : Nat) : SlAt (mv o t c) w c T k v n cs := by
  refine ⟨h.1, ?_⟩
  rcases h.2 with hn | ⟨g, cap, cur, hv, hg, hog, h1, h2, h3, h4⟩
  · exact .inl hn
  · exact .inr ⟨g, cap, cur, hv, hg, mv_at hog, h1, h2, h3, h4⟩

/-- An object: what holds of it where it stands at place t of the list: its blocks have the marks 16 t .. 16 t + 15. -/
structure KObj where
  holds : (Nat → Nat) → World → Nat → Prop
  keep : ∀ {o o' : Nat → Nat} {w w' : World} {M : Nat → Prop} {t : Nat}, Kp M o o' w w' → (∀ j, j < 16 → M (16 * t + j)) → holds o w t → holds o' w' t

/-- The list of objects, each in its place. -/
def Rp (l : List KObj) (o : Nat → Nat) (w : World) : Prop := ∀ (t : Nat) (p : KObj), l[t]? = some p → p.holds o w t
/-- Memory holds these objects. -/
def R (l : List KObj) (w : World) : Prop := ∃ o, Rp l o w

section
variable {l : List KObj} {o o' : Nat → Nat} {w w' : World} {S : Nat → Prop} {t : Nat} {p q : KObj}

theorem set_get (ht : l[t]? = some p) : (l.set t q)[t]? = some q := by simp [(List.getElem?_eq_some_iff.1 ht).1]
theorem set_other {u : Nat} (ht : l[t]? = some p) (h : u ≠ t) : (l.set u q)[t]? = some p := by rw [List.getElem?_set_ne h]; exact ht
theorem app_get {m : List KObj} (ht : l[t]? = some p) : (l ++ m)[t]? = some p := by rw [List.getElem?_append_left (List.getElem?_eq_some_iff.1 ht).1]; exact ht
theorem set_same (ht : l[t]? = some p) : l.set t p = l := by rw [List.getElem?_eq_some_iff] at ht; obtain ⟨h1, rfl⟩ := ht; exact List.set_getElem_self h1
theorem app_last : (l ++ [p])[l.length]? = some p := by simp
theorem Rp.get (h : Rp l o w) (ht : l[t]? = some p) : p.holds o w t := h t p ht
theorem R.get (h : R l w) (ht : l[t]? = some p) : ∃ o, Rp l o w ∧ p.holds o w t := by
  obtain ⟨o, h⟩ := h
  exact ⟨o, h, h t p ht⟩
/-- What a step leaves, that turns the object at t alone. -/
theorem Rp.step (h : Rp l o w) (e : Ext o o' w w' S) (hS : ∀ x, S x → 16 * t ≤ x ∧ x < 16 * t + 16) (hq : q.holds o' w' t) : R (l.set t q) w' := by
  have e := e.kp
  refine ⟨o', fun u p hu => ?_⟩
  rw [List.getElem?_set] at hu
  by_cases hut : t = u
  · subst hut
    rw [if_pos rfl] at hu
    split at hu
    · cases hu; exact hq
    · cases hu
  · rw [if_neg hut] at hu
    exact p.keep e (fun j hj hs => by have := hS _ hs; omega) (h u p hu)
/-- One that turns none. -/
theorem Rp.same (h : Rp l o w) (e : Ext o o' w w' (fun _ => False)) : R l w' := ⟨o', fun u p hu => p.keep e.kp (fun _ _ => id) (h u p hu)⟩
theorem Rp.same' (h : Rp l o w) (e : Ext o o' w w' (fun _ => False)) : Rp l o' w' := fun u p hu => p.keep e.kp (fun _ _ => id) (h u p hu)
theorem Rp.extS (h : Rp l o w) (e : Ext o o' w w' S) (hS : ∀ x, S x → 16 * l.length ≤ x) : Rp l o' w' := fun u p hu => p.keep e.kp (fun j hj hs => by
  have := hS _ hs
  have : u < l.length := (List.getElem?_eq_some_iff.1 hu).1
  omega) (h u p hu)
/-- One that makes an object. -/
theorem Rp.add (h : Rp l o w) (e : Ext o o' w w' S) (hS : ∀ x, S x → 16 * l.length ≤ x) (hq : q.holds o' w' l.length) : R (l ++ [q]) w' := by
  refine ⟨o', fun u p hu => ?_⟩
  by_cases hul : u < l.length
  · rw [List.getElem?_append_left hul] at hu
    exact h.extS e hS u p hu
  · rw [List.getElem?_append_right (by omega)] at hu
    by_cases h0 : u = l.length
    · subst h0
      simp at hu
      subst hu
      exact hq
    · rw [List.getElem?_eq_none (by simp; omega)] at hu
      cases hu
theorem R.below (h : R l w) (hb : Below w.heap.size w w') : R l w' := by
  obtain ⟨o, h⟩ := h
  exact h.same (Ext.of_below hb o _)
theorem R.drew (h : R l w) : R l w.drew := by
  obtain ⟨o, h⟩ := h
  exact h.same (Ext.refl o w _).drew
theorem R.drewN (h : R l w) (n : Nat) : R l (w.drewN n) := by
  obtain ⟨o, h⟩ := h
  exact h.same ((Ext.refl o w _).drewN n)
theorem R.alloc (h : R l w) (x : Obj) : R l (w.alloc x) := by
  obtain ⟨o, h⟩ := h
  exact h.same ((Ext.refl o w _).alloc x)
/-- The first objects alone. -/
theorem R.left {m : List KObj} (h : R (l ++ m) w) : R l w := by
  obtain ⟨o, h⟩ := h
  refine ⟨o, fun u p hu => h u p ?_⟩
  rw [List.getElem?_append_left (List.getElem?_eq_some_iff.1 hu).1]
  exact hu

/-- The memory below w0, as it was. -/
def BaseK (w0 : World) : KObj where
  holds o w t := Below w0.heap.size w0 w ∧ ∀ k, k < w0.heap.size → o k = 16 * t
  keep {o o' w w' M t} e hs h := by
    refine ⟨⟨e.os.trans h.1.os, e.tape.trans h.1.tape, e.output.trans h.1.output, Nat.le_trans h.1.size e.size, fun k hk => ?_⟩, fun k hk => ?_⟩
    · have hk2 : k < w.heap.size := Nat.lt_of_lt_of_le hk h.1.size
      have h2 : blk w' k = blk w k := (e.kp k hk2 (by rw [h.2 k hk]; exact hs 0 (by decide))).2
      exact h2.trans (h.1.block k hk)
    · rw [(e.kp k (Nat.lt_of_lt_of_le hk h.1.size) (by rw [h.2 k hk]; exact hs 0 (by decide))).1]; exact h.2 k hk
theorem R.start (w : World) : R [BaseK w] w := ⟨fun _ => 0, fun t p hp => by
  match t with
  | 0 => simp at hp; subst hp; exact ⟨⟨rfl, rfl, rfl, Nat.le_refl _, fun _ _ => rfl⟩, fun _ _ => rfl⟩
  | t + 1 => simp at hp⟩
theorem R.done {w0 : World} (h : R (BaseK w0 :: l) w) : Below w0.heap.size w0 w := by
  obtain ⟨o, h⟩ := h
  exact (h 0 (BaseK w0) rfl).1

/-- One block. -/
def StK (b : Nat) (cs : Array Value) (T : TypeId) : KObj where
  holds o w t := StAt o w (16 * t) b cs T
  keep e hs h := h.kp e (by simpa using hs 0 (by decide))
/-- A row. -/
def SlK (T : TypeId) (k : Nat) (v : Value) (n : Nat) (cs : List Value) : KObj where
  holds o w t := SlAt o w (16 * t) T k v n cs
  keep e hs h := h.kp e (by simpa using hs 0 (by decide))
/-- Nothing. -/
def NoK : KObj where
  holds _ _ _ := True
  keep _ _ _ := trivial

theorem R.st {b : Nat} {cs : Array Value} {T : TypeId} (h : R l w) (ht : l[t]? = some (StK b cs T)) : blk w b = some (.cells cs T (0, 0)) := by
  obtain ⟨o, _, h⟩ := h.get ht
  exact h.heap
theorem R.put {b : Nat} {cs : Array Value} {T : TypeId} (h : R l w) (ht : l[t]? = some (StK b cs T)) (i : Nat) (v : Value) : R (l.set t (StK b (cs.setIfInBounds i v) T)) (w.setCell ⟨b, i, none⟩ v) := by
  obtain ⟨o, h, hp⟩ := h.get ht
  exact h.step (S := fun x => x = 16 * t) ((Ext.refl o w _).put v (.inl hp.tag)) (fun x hx => by omega) (StAt.put hp i v)
theorem R.new (h : R l w) (cs : Array Value) (T : TypeId) : R (l ++ [StK w.heap.size cs T]) (w.alloc (.cells cs T)) := by
  obtain ⟨o, h⟩ := h
  exact h.add (((Ext.refl o w (fun _ => False)).retag (16 * l.length)).alloc _) (fun _ => False.elim) ⟨blk_new _ _, upd_new (Nat.le_refl _)⟩
theorem R.slnil (h : R l w) (T : TypeId) (k : Nat) : R (l ++ [SlK T k (.slice none 0 0) 0 []]) w := by
  obtain ⟨o, h⟩ := h
  exact h.add (Ext.refl o w (fun _ => False)) (fun _ => False.elim) (SlAt.nil _ _ _ _ _)
/-- An object is let go. -/
theorem R.drop (h : R l w) (t : Nat) : R (l.set t NoK) w := by
  obtain ⟨o, h⟩ := h
  exact h.step (Ext.refl o w (fun _ => False)) (fun _ => False.elim) trivial
end
end Go.Proofs.Ytcoaemjoanbemaa

namespace Go.Proofs.Ytcoaemjoanbemaa
open Go.RowKit

section
variable {l : List KObj} {w : World} {t : Nat} {T : TypeId} {k : Nat} {v : Value} {n : Nat} {cs : List Value}
theorem R.slVal (h : R l w) (ht : l[t]? = some (SlK T k v n cs)) : (∃ a c, v = .slice a n c) ∧ cs.length = n * k ∧ n ≤ 9223372036854775807 := by
  obtain ⟨o, _, h⟩ := h.get ht
  exact ⟨SlAt.value h, h.1, SlAt.le63 h⟩
/-- A row that is not empty, as the walk reads it. -/
theorem R.slRow (h : R l w) (ht : l[t]? = some (SlK T k v n cs)) (hn : 0 < n) :
    ∃ g cap cur, v = .slice (some ⟨g, 0, none⟩) n cap ∧ blk w g = some (.cells cur T (0, 0)) ∧ cap ≤ 9223372036854775807 ∧ n ≤ cap ∧ ∀ (j : Nat) (u : Value), cs[j]? = some u → cur[j]? = some u := by
  obtain ⟨o, _, h⟩ := h.get ht
  obtain ⟨g, cap, cur, rfl, hg, hog, h1, h2, h3, h4⟩ := SlAt.row h hn
  exact ⟨g, cap, cur, rfl, hg, by simp only [maxLen] at h2; omega, h1, fun j u hu => cur_at h4 hu⟩
theorem R.intRow {q : IntKind} {xs : List Int} (h : R l w) (ht : l[t]? = some (SlK T 1 v n (xs.map (Value.int q)))) {i : Nat} (hi : i < n) :
    ∃ g cap cur, v = .slice (some ⟨g, 0, none⟩) n cap ∧ blk w g = some (.cells cur T (0, 0)) ∧ cap ≤ 9223372036854775807 ∧ n ≤ cap ∧ cur[i]? = some (.int q (xs.getD i 0)) := by
  obtain ⟨_, hl, _⟩ := h.slVal ht
  obtain ⟨g, cap, cur, rfl, hg, h1, h2, h3⟩ := h.slRow ht (by omega)
  simp at hl
  have hix : i < xs.length := by omega
  exact ⟨g, cap, cur, rfl, hg, h1, h2, h3 i _ (by simp [hix])⟩
theorem R.putRow {g cap : Nat} (h : R l w) (ht : l[t]? = some (SlK T k (.slice (some ⟨g, 0, none⟩) n cap) n cs)) (i : Nat) (u : Value) (hn : 0 < n) :
    R (l.set t (SlK T k (.slice (some ⟨g, 0, none⟩) n cap) n (cs.set i u))) (w.setCell ⟨g, i, none⟩ u) := by
  obtain ⟨o, h, hp⟩ := h.get ht
  obtain ⟨g', cap', cur, hv, hg, hog, h1, h2, h3, h4⟩ := SlAt.row hp hn
  simp at hv
  obtain ⟨rfl, rfl⟩ := hv
  refine h.step (S := fun x => x = 16 * t) ((Ext.refl o w _).put u (.inl hog)) (fun x hx => by omega) ?_
  refine ⟨by rw [List.length_set]; exact hp.1, .inr ⟨g, cap, cur.setIfInBounds i u, rfl, ?_, hog, h1, h2, by simpa using h3, ?_⟩⟩
  · rw [blk_put_same, hg]; rfl
  · rw [← h4]; simp [List.take_set]
theorem R.putInt {q : IntKind} {g cap : Nat} {xs : List Int} (h : R l w) (ht : l[t]? = some (SlK T 1 (.slice (some ⟨g, 0, none⟩) n cap) n (xs.map (Value.int q)))) (i : Nat) (x : Int) (hn : 0 < n) :
    R (l.set t (SlK T 1 (.slice (some ⟨g, 0, none⟩) n cap) n ((xs.set i x).map (Value.int q)))) (w.setCell ⟨g, i, none⟩ (.int q x)) := by
  have := h.putRow ht i (.int q x) hn
  rwa [← List.map_set] at this
theorem R.made (h : R l w) (cur : Array Value) (n k : Nat) (hm : n ≤ maxLen) (hs : cur.size = n * k) : R (l ++ [SlK T k (.slice (some ⟨w.heap.size, 0, none⟩) n n) n cur.toList]) (w.alloc (.cells cur T)) := by
  obtain ⟨o, h⟩ := h
  refine h.add (((Ext.refl o w (fun _ => False)).retag (16 * l.length)).alloc _) (fun _ => False.elim) ?_
  exact SlAt.made cur n n (Nat.le_refl _) hm hs (by rw [← hs, ← Array.length_toList, List.take_length]) (upd_new (Nat.le_refl _))
end
end Go.Proofs.Ytcoaemjoanbemaa

namespace Go.Proofs.Ytcoaemjoanbemaa
open Go.RowKit

theorem StAt.re {o o' : Nat → Nat} {w : World} {a a' b : Nat} {cs : Array Value} {T : TypeId} (h : StAt o w a b cs T) (hm : ∀ k, o k = a → o' k = a') : StAt o' w a' b cs T := ⟨h.heap, hm _ h.tag⟩
theorem SlAt.re {o o' : Nat → Nat} {w : World} {a a' : Nat} {T : TypeId} {k : Nat} {v : Value} {n : Nat} {cs : List Value} (h : SlAt o w a T k v n cs) (hm : ∀ k, o k = a → o' k = a') : SlAt o' w a' T k v n cs := by
  refine ⟨h.1, ?_⟩
  rcases h.2 with hn | ⟨g, cap, cur, hv, hg, hog, h1, h2, h3, h4⟩
  · exact .inl hn
  · exact .inr ⟨g, cap, cur, hv, hg, hm _ hog, h1, h2, h3, h4⟩

def splitO (o : Nat → Nat) (u n : Nat) (f : Nat → Nat) : Nat → Nat := fun k => if 16 * u ≤ o k ∧ o k < 16 * u + 16 then 16 * n + f (o k - 16 * u) else o k
def joinO (o : Nat → Nat) (u n c : Nat) (g : Nat → Nat) : Nat → Nat := fun k => if 16 * n ≤ o k ∧ o k < 16 * n + 16 * c then 16 * u + g (o k - 16 * n) else o k
theorem splitO_at {o : Nat → Nat} {u n : Nat} {f : Nat → Nat} {k j : Nat} (hj : j < 16) (hk : o k = 16 * u + j) : splitO o u n f k = 16 * n + f j := by
  rw [splitO, if_pos (by omega), hk]; congr 2; omega
theorem joinO_at {o : Nat → Nat} {u n c : Nat} {g : Nat → Nat} {k x : Nat} (hx : x < 16 * c) (hk : o k = 16 * n + x) : joinO o u n c g k = 16 * u + g x := by
  rw [joinO, if_pos (by omega), hk]; congr 2; omega
section
variable {l parts : List KObj} {w : World} {u : Nat} {K : KObj}
/-- An object's parts become objects of their own, at the list's end: the mark 16 u + j becomes 16 n + f j. -/
theorem R.split (h : R l w) (hu : l[u]? = some K) (f : Nat → Nat)
    (hs : ∀ (o o' : Nat → Nat), K.holds o w u → (∀ k j, j < 16 → o k = 16 * u + j → o' k = 16 * l.length + f j) → ∀ (i : Nat) (p : KObj), parts[i]? = some p → p.holds o' w (l.length + i)) :
    R (l.set u NoK ++ parts) w := by
  obtain ⟨o, hr, hk⟩ := h.get hu
  have hul : u < l.length := (List.getElem?_eq_some_iff.1 hu).1
  refine ⟨splitO o u l.length f, fun v p hv => ?_⟩
  have hkp : Kp (fun x => ¬ (16 * u ≤ x ∧ x < 16 * u + 16)) o (splitO o u l.length f) w w := ⟨rfl, rfl, rfl, Nat.le_refl _, fun _ _ hm => ⟨if_neg hm, rfl⟩⟩
  by_cases hvl : v < l.length
  · rw [List.getElem?_append_left (by simpa using hvl), List.getElem?_set] at hv
    by_cases huv : u = v
    · subst huv
      rw [if_pos rfl, if_pos hul] at hv
      cases hv
      trivial
    · rw [if_neg huv] at hv
      exact p.keep hkp (fun j hj => by omega) (hr v p hv)
  · rw [List.getElem?_append_right (by simpa using Nat.le_of_not_lt hvl), List.length_set] at hv
    have := hs o _ hk (fun k j hj hk => splitO_at hj hk) (v - l.length) p hv
    rwa [show l.length + (v - l.length) = v by omega] at this
/-- Objects at the list's end become the parts of one: the mark 16 n + x becomes 16 u + g x. -/
theorem R.join (h : R (l ++ parts) w) (hul : u < l.length) (g : Nat → Nat)
    (hs : ∀ (o o' : Nat → Nat), (∀ (i : Nat) (p : KObj), parts[i]? = some p → p.holds o w (l.length + i)) → (∀ k x, x < 16 * parts.length → o k = 16 * l.length + x → o' k = 16 * u + g x) → K.holds o' w u) :
    R (l.set u K) w := by
  obtain ⟨o, hr⟩ := h
  refine ⟨joinO o u l.length parts.length g, fun v p hv => ?_⟩
  have hkp : Kp (fun x => ¬ (16 * l.length ≤ x ∧ x < 16 * l.length + 16 * parts.length)) o (joinO o u l.length parts.length g) w w := ⟨rfl, rfl, rfl, Nat.le_refl _, fun _ _ hm => ⟨if_neg hm, rfl⟩⟩
  rw [List.getElem?_set] at hv
  by_cases huv : u = v
  · subst huv
    rw [if_pos rfl, if_pos hul] at hv
    cases hv
    refine hs o _ (fun i p hp => hr (l.length + i) p (by rw [List.getElem?_append_right (by omega)]; simpa using hp)) (fun k x hx hk => joinO_at hx hk)
  · rw [if_neg huv] at hv
    have hvl : v < l.length := (List.getElem?_eq_some_iff.1 hv).1
    exact p.keep hkp (fun j hj => by omega) (hr v p (by rw [List.getElem?_append_left hvl]; exact hv))
end

/-- A slice of numbers that is only read: it may begin within its row. -/
def LfAt (q : IntKind) (T : TypeId) (o : Nat → Nat) (w : World) (t : Nat) (v : Value) (xs : List Int) : Prop :=
  (∃ a c, v = .slice a xs.length c) ∧ xs.length ≤ 9223372036854775807 ∧ (xs = [] ∨ ∃ g off cap cur, v = .slice (some ⟨g, off, none⟩) xs.length cap ∧ xs.length ≤ cap ∧ cap ≤ 9223372036854775807 ∧ blk w g = some (.cells cur T (0, 0)) ∧ o g = t ∧
    ∀ (j : Nat) (x : Int), xs[j]? = some x → cur[off + j]? = some (.int q x))
theorem LfAt.kp {q : IntKind} {T : TypeId} {o o' : Nat → Nat} {w w' : World} {M : Nat → Prop} {t : Nat} {v : Value} {xs : List Int} (h : LfAt q T o w t v xs) (e : Kp M o o' w w') (hm : M t) : LfAt q T o' w' t v xs := by
  refine ⟨h.1, h.2.1, ?_⟩
  rcases h.2.2 with h0 | ⟨g, off, cap, cur, hv, h1, h2, hg, hog, h3⟩
  · exact .inl h0
  · obtain ⟨h5, h6⟩ := e.kp g (lt_of_blk hg) (by rw [hog]; exact hm)
    exact .inr ⟨g, off, cap, cur, hv, h1, h2, h6.trans hg, h5.trans hog, h3⟩
theorem LfAt.re {q : IntKind} {T : TypeId} {o o' : Nat → Nat} {w : World} {a a' : Nat} {v : Value} {xs : List Int} (h : LfAt q T o w a v xs) (hm : ∀ k, o k = a → o' k = a') : LfAt q T o' w a' v xs := by
  refine ⟨h.1, h.2.1, ?_⟩
  rcases h.2.2 with h0 | ⟨g, off, cap, cur, hv, h1, h2, hg, hog, h3⟩
  · exact .inl h0
  · exact .inr ⟨g, off, cap, cur, hv, h1, h2, hg, hm _ hog, h3⟩
theorem LfAt.of_sl {q : IntKind} {T : TypeId} {o : Nat → Nat} {w : World} {t : Nat} {v : Value} {n : Nat} {xs : List Int} (h : SlAt o w t T 1 v n (xs.map (Value.int q))) : LfAt q T o w t v xs := by
  have hl := h.1
  simp at hl
  subst hl
  refine ⟨h.value, h.le63, ?_⟩
  rcases h.2 with ⟨_, h0⟩ | ⟨g, cap, cur, hv, hg, hog, h1, h2, h3, h4⟩
  · exact .inl (List.eq_nil_of_length_eq_zero h0)
  · refine .inr ⟨g, 0, cap, cur, hv, h1, by simp only [maxLen] at h2; omega, hg, hog, fun j x hx => ?_⟩
    rw [Nat.zero_add]
    exact cur_at h4 (by simp [hx])
def LfK (q : IntKind) (T : TypeId) (v : Value) (xs : List Int) : KObj where
  holds o w t := LfAt q T o w (16 * t) v xs
  keep e hs h := h.kp e (by simpa using hs 0 (by decide))
theorem R.lf {l : List KObj} {w : World} {t : Nat} {q : IntKind} {T : TypeId} {v : Value} {xs : List Int} (h : R l w) (ht : l[t]? = some (LfK q T v xs)) :
    (∃ a c, v = .slice a xs.length c) ∧ xs.length ≤ 9223372036854775807 ∧ (xs = [] ∨ ∃ g off cap cur, v = .slice (some ⟨g, off, none⟩) xs.length cap ∧ xs.length ≤ cap ∧ cap ≤ 9223372036854775807 ∧ blk w g = some (.cells cur T (0, 0)) ∧
      ∀ (j : Nat) (x : Int), xs[j]? = some x → cur[off + j]? = some (.int q x)) := by
  obtain ⟨o, _, h1, h2, h3⟩ := h.get ht
  refine ⟨h1, h2, h3.imp id ?_⟩
  rintro ⟨g, off, cap, cur, a1, a2, a3, a4, _, a5⟩
  exact ⟨g, off, cap, cur, a1, a2, a3, a4, a5⟩
theorem R.lfTail {l : List KObj} {w : World} {t : Nat} {q : IntKind} {T : TypeId} {g off cap : Nat} {x : Int} {xs : List Int} (h : R l w) (ht : l[t]? = some (LfK q T (.slice (some ⟨g, off, none⟩) (xs.length + 1) cap) (x :: xs))) :
    R (l.set t (LfK q T (.slice (some ⟨g, off + 1, none⟩) xs.length (cap - 1)) xs)) w := by
  obtain ⟨o, hr, h1, h2, h3⟩ := h.get ht
  refine hr.step (Ext.refl o w (fun _ => False)) (fun _ => False.elim) ⟨⟨_, _, rfl⟩, by simp at h2; omega, ?_⟩
  rcases h3 with h0 | ⟨g', off', cap', cur, hv, a1, a2, a3, a4, a5⟩
  · simp at h0
  · simp at hv
    obtain ⟨⟨rfl, rfl⟩, rfl⟩ := hv
    simp at a1
    refine .inr ⟨g, off + 1, cap - 1, cur, rfl, by omega, by omega, a3, a4, fun j y hy => ?_⟩
    have := a5 (j + 1) y (by simpa using hy)
    rwa [show off + 1 + j = off + (j + 1) by omega]
theorem R.lfNil {l : List KObj} {w : World} {t : Nat} {q : IntKind} {T : TypeId} {v : Value} {ys : List Int} (h : R l w) (ht : l[t]? = some (LfK q T v ys)) (v' : Value) (hv : ∃ a c, v' = .slice a 0 c) :
    R (l.set t (LfK q T v' [])) w := by
  obtain ⟨o, hr, _⟩ := h.get ht
  exact hr.step (Ext.refl o w (fun _ => False)) (fun _ => False.elim) ⟨hv, by simp, .inl rfl⟩
theorem getP {L P : List KObj} {i : Nat} {p : KObj} (h : P[i]? = some p) : (L ++ P)[L.length + i]? = some p := by
  rw [List.getElem?_append_right (by omega)]; simpa using h
theorem setP (L P : List KObj) (i : Nat) (p : KObj) : (L ++ P).set (L.length + i) p = L ++ P.set i p := by
  rw [List.set_append_right _ _ (by omega)]; simp
theorem setL (L P : List KObj) {t : Nat} (h : t < L.length) (p : KObj) : (L ++ P).set t p = L.set t p ++ P := List.set_append_left _ _ h
theorem foldU (l : List KObj) {t u : Nat} (h : t ≠ u) (X K Z : KObj) : ((l.set u Z).set t X).set u K = (l.set t X).set u K := by
  rw [List.set_comm _ _ h.symm, List.set_set]
end Go.Proofs.Ytcoaemjoanbemaa

namespace Go.Proofs.Ytcoaemjoanbemaa
open Go.RowKit

theorem info_handle : (Try.prog.info? 31).map (fun i => (i.zero, i.size, i.bytes)) = some (some (.int .u64 0), 1, 8) := by kernel_rfl
/-- append(xs, x), elements of type handle. -/
theorem push_handle {w : World} {o : Nat → Nat} {tg : Nat} {ops : Array Oper} {rest : List Oper} {op : Oper} {a : Act} {Q : Exit → Act → World → Prop} (hgd : op.guard = none) (s x : Operand)
    (ho : op.op = .call { callee := .builtin .append, args := #[s, x], argTypes := #[28, 28] })
    (v : Value) (n : Nat) (xs : List Value) (hs : a.eval s = v) (hown : SlAt o w tg 31 1 v n xs) (g c : Nat) (news : Array Value) (hx : a.eval x = .slice (some ⟨g, 0, none⟩) 1 c)
    (hg : blk w g = some (.cells news 31 (0, 0))) (hl : news.size = 1) (h1 : ∀ u ∈ news.toList, u.oneCell' = true) (hb : n + 1 ≤ 1073741824)
    (h : ∀ v' w' o', SlAt o' w' tg 31 1 v' (n + 1) (xs ++ news.toList) → Ext o o' w w' (fun x => x = tg) → w.grownBy w' v.ownBlock → v' ≠ .slice none 0 0 → wpList Try.prog ops Q rest (a.put op.dst v') w') :
    wpList Try.prog ops Q (op :: rest) a w := by
  obtain ⟨i0, hi, hz0, hz1, hz2⟩ := info_parts info_handle
  exact wpList_push hgd s x 28 ho 31 i0 (.int .u64 0) 1 8 Try.underlying28 hi hz0 hz1 hz2 rfl (by decide) v n xs hs hown g c news hx hg hl h1 (by simp only [maxLen]; omega) (by omega) h
/-- append(xs, ys...), elements of type handle. -/
theorem src_handle {w : World} {o : Nat → Nat} {tg tg2 : Nat} {ops : Array Oper} {rest : List Oper} {op : Oper} {a : Act} {Q : Exit → Act → World → Prop} (hgd : op.guard = none) (s x : Operand)
    (ho : op.op = .call { callee := .builtin .append, args := #[s, x], argTypes := #[28, 28] })
    (v : Value) (n : Nat) (xs : List Value) (hs : a.eval s = v) (hown : SlAt o w tg 31 1 v n xs) (v2 : Value) (m : Nat) (news : List Value) (hx : a.eval x = v2) (hsrc : SlAt o w tg2 31 1 v2 m news)
    (h1 : ∀ u ∈ news, u.oneCell' = true) (hb : n + m ≤ 1073741824)
    (h : ∀ v' w' o', SlAt o' w' tg 31 1 v' (n + m) (xs ++ news) → Ext o o' w w' (fun x => x = tg) → w.grownBy w' v.ownBlock → (v' = .slice none 0 0 ↔ v = .slice none 0 0 ∧ m = 0) → wpList Try.prog ops Q rest (a.put op.dst v') w') :
    wpList Try.prog ops Q (op :: rest) a w := by
  obtain ⟨i0, hi, hz0, hz1, hz2⟩ := info_parts info_handle
  exact wpList_append_src hgd s x 28 ho 31 i0 (.int .u64 0) 1 8 Try.underlying28 hi hz0 hz1 hz2 rfl (by decide) v n xs hs hown v2 m news hx hsrc h1 (by simp only [maxLen]; omega) (by omega) h
/-- append(xs, ys...), elements of type handle, ys wherever it lies. -/
theorem many_handle {w : World} {o : Nat → Nat} {tg : Nat} {ops : Array Oper} {rest : List Oper} {op : Oper} {a : Act} {Q : Exit → Act → World → Prop} (hgd : op.guard = none) (s x : Operand)
    (ho : op.op = .call { callee := .builtin .append, args := #[s, x], argTypes := #[28, 28] })
    (v : Value) (n : Nat) (xs : List Value) (hs : a.eval s = v) (hown : SlAt o w tg 31 1 v n xs) (ad : Addr) (m c : Nat) (news : List Value) (hx : a.eval x = .slice (some ad) m c) (hl : news.length = m * 1)
    (hnews : ∀ j u, news[j]? = some u → w.cell? (ad.add j) = some u) (h1 : ∀ u ∈ news, u.oneCell' = true) (hb : n + m ≤ 1073741824)
    (h : ∀ v' w' o', SlAt o' w' tg 31 1 v' (n + m) (xs ++ news) → Ext o o' w w' (fun x => x = tg) → w.grownBy w' v.ownBlock → (v' = .slice none 0 0 ↔ v = .slice none 0 0 ∧ m = 0) → wpList Try.prog ops Q rest (a.put op.dst v') w') :
    wpList Try.prog ops Q (op :: rest) a w := by
  obtain ⟨i0, hi, hz0, hz1, hz2⟩ := info_parts info_handle
  exact wpList_append_sl hgd s x 28 ho 31 i0 (.int .u64 0) 1 8 Try.underlying28 hi hz0 hz1 hz2 rfl (by decide) v n xs hs hown ad m c news hx hl hnews h1 (by simp only [maxLen]; omega) (by omega) h

theorem info_desc : (Try.prog.info? 67).map (fun i => (i.zero, i.size, i.bytes)) = some (some (.agg #[.int .i64 0, .int .i64 0]), 2, 16) := by kernel_rfl
/-- append(xs, x), elements of type desc. -/
theorem push_desc {w : World} {o : Nat → Nat} {tg : Nat} {ops : Array Oper} {rest : List Oper} {op : Oper} {a : Act} {Q : Exit → Act → World → Prop} (hgd : op.guard = none) (s x : Operand)
    (ho : op.op = .call { callee := .builtin .append, args := #[s, x], argTypes := #[47, 47] })
    (v : Value) (n : Nat) (xs : List Value) (hs : a.eval s = v) (hown : SlAt o w tg 67 2 v n xs) (g c : Nat) (news : Array Value) (hx : a.eval x = .slice (some ⟨g, 0, none⟩) 1 c)
    (hg : blk w g = some (.cells news 67 (0, 0))) (hl : news.size = 2) (h1 : ∀ u ∈ news.toList, u.oneCell' = true) (hb : n + 1 ≤ 1073741824)
    (h : ∀ v' w' o', SlAt o' w' tg 67 2 v' (n + 1) (xs ++ news.toList) → Ext o o' w w' (fun x => x = tg) → w.grownBy w' v.ownBlock → v' ≠ .slice none 0 0 → wpList Try.prog ops Q rest (a.put op.dst v') w') :
    wpList Try.prog ops Q (op :: rest) a w := by
  obtain ⟨i0, hi, hz0, hz1, hz2⟩ := info_parts info_desc
  exact wpList_push hgd s x 47 ho 67 i0 (.agg #[.int .i64 0, .int .i64 0]) 2 16 Try.underlying47 hi hz0 hz1 hz2 rfl (by decide) v n xs hs hown g c news hx hg hl h1 (by simp only [maxLen]; omega) (by omega) h
/-- append(xs, ys...), elements of type desc. -/
theorem src_desc {w : World} {o : Nat → Nat} {tg tg2 : Nat} {ops : Array Oper} {rest : List Oper} {op : Oper} {a : Act} {Q : Exit → Act → World → Prop} (hgd : op.guard = none) (s x : Operand)
    (ho : op.op = .call { callee := .builtin .append, args := #[s, x], argTypes := #[47, 47] })
    (v : Value) (n : Nat) (xs : List Value) (hs : a.eval s = v) (hown : SlAt o w tg 67 2 v n xs) (v2 : Value) (m : Nat) (news : List Value) (hx : a.eval x = v2) (hsrc : SlAt o w tg2 67 2 v2 m news)
    (h1 : ∀ u ∈ news, u.oneCell' = true) (hb : n + m ≤ 1073741824)
    (h : ∀ v' w' o', SlAt o' w' tg 67 2 v' (n + m) (xs ++ news) → Ext o o' w w' (fun x => x = tg) → w.grownBy w' v.ownBlock → (v' = .slice none 0 0 ↔ v = .slice none 0 0 ∧ m = 0) → wpList Try.prog ops Q rest (a.put op.dst v') w') :
    wpList Try.prog ops Q (op :: rest) a w := by
  obtain ⟨i0, hi, hz0, hz1, hz2⟩ := info_parts info_desc
  exact wpList_append_src hgd s x 47 ho 67 i0 (.agg #[.int .i64 0, .int .i64 0]) 2 16 Try.underlying47 hi hz0 hz1 hz2 rfl (by decide) v n xs hs hown v2 m news hx hsrc h1 (by simp only [maxLen]; omega) (by omega) h
/-- append(xs, ys...), elements of type desc, ys wherever it lies. -/
theorem many_desc {w : World} {o : Nat → Nat} {tg : Nat} {ops : Array Oper} {rest : List Oper} {op : Oper} {a : Act} {Q : Exit → Act → World → Prop} (hgd : op.guard = none) (s x : Operand)
    (ho : op.op = .call { callee := .builtin .append, args := #[s, x], argTypes := #[47, 47] })
    (v : Value) (n : Nat) (xs : List Value) (hs : a.eval s = v) (hown : SlAt o w tg 67 2 v n xs) (ad : Addr) (m c : Nat) (news : List Value) (hx : a.eval x = .slice (some ad) m c) (hl : news.length = m * 2)
    (hnews : ∀ j u, news[j]? = some u → w.cell? (ad.add j) = some u) (h1 : ∀ u ∈ news, u.oneCell' = true) (hb : n + m ≤ 1073741824)
    (h : ∀ v' w' o', SlAt o' w' tg 67 2 v' (n + m) (xs ++ news) → Ext o o' w w' (fun x => x = tg) → w.grownBy w' v.ownBlock → (v' = .slice none 0 0 ↔ v = .slice none 0 0 ∧ m = 0) → wpList Try.prog ops Q rest (a.put op.dst v') w') :
    wpList Try.prog ops Q (op :: rest) a w := by
  obtain ⟨i0, hi, hz0, hz1, hz2⟩ := info_parts info_desc
  exact wpList_append_sl hgd s x 47 ho 67 i0 (.agg #[.int .i64 0, .int .i64 0]) 2 16 Try.underlying47 hi hz0 hz1 hz2 rfl (by decide) v n xs hs hown ad m c news hx hl hnews h1 (by simp only [maxLen]; omega) (by omega) h

end Go.Proofs.Ytcoaemjoanbemaa

namespace Go.Proofs.Ytcoaemjoanbemaa
open Go.RowKit

def SxAt (o : Nat → Nat) (w : World) (t : Nat) (T : TypeId) (k : Nat) (v : Value) (n : Nat) (cs : List Value) : Prop :=
  cs.length = n * k ∧ ((v = .slice none 0 0 ∧ n = 0) ∨
    ∃ g cap cur, v = .slice (some ⟨g, 0, none⟩) n cap ∧ blk w g = some (.cells cur T (0, 0)) ∧ o g = t ∧ n ≤ cap ∧ cap ≤ maxLen ∧ cap * k ≤ cur.size ∧ cur.toList.take (n * k) = cs)
section
variable {o o' : Nat → Nat} {w w' : World} {S : Nat → Prop} {t : Nat} {T : TypeId} {k : Nat} {v : Value} {n : Nat} {cs : List Value}
theorem SxAt.of_sl (h : SlAt o w t T k v n cs) : SxAt o w t T k v n cs := by
  refine ⟨h.1, ?_⟩
  rcases h.2 with hn | ⟨g, cap, cur, hv, hg, hog, h1, h2, h3, h4⟩
  · exact .inl hn
  · exact .inr ⟨g, cap, cur, hv, hg, hog, h1, h2, Nat.le_of_eq h3.symm, h4⟩
theorem SxAt.nil (o : Nat → Nat) (w : World) (t : Nat) (T : TypeId) (k : Nat) : SxAt o w t T k (.slice none 0 0) 0 [] := ⟨by simp, .inl ⟨rfl, rfl⟩⟩
theorem SxAt.ext (h : SxAt o w t T k v n cs) (e : Ext o o' w w' S) (hs : ¬ S t) : SxAt o' w' t T k v n cs := by
  refine ⟨h.1, ?_⟩
  rcases h.2 with hn | ⟨g, cap, cur, hv, hg, hog, h1, h2, h3, h4⟩
  · exact .inl hn
  · exact .inr ⟨g, cap, cur, hv, e.keep hg (by rw [hog]; exact hs), e.tag hg hog, h1, h2, h3, h4⟩
theorem SxAt.alloc (h : SxAt o w t T k v n cs) (x : Obj) : SxAt o (w.alloc x) t T k v n cs := h.ext ((Ext.refl _ _ (fun _ => False)).alloc x) id
theorem SxAt.kp {M : Nat → Prop} (h : SxAt o w t T k v n cs) (e : Kp M o o' w w') (hm : M t) : SxAt o' w' t T k v n cs := by
  refine ⟨h.1, ?_⟩
  rcases h.2 with hn | ⟨g, cap, cur, hv, hg, hog, h1, h2, h3, h4⟩
  · exact .inl hn
  · obtain ⟨h5, h6⟩ := e.kp g (lt_of_blk hg) (by rw [hog]; exact hm)
    exact .inr ⟨g, cap, cur, hv, h6.trans hg, h5.trans hog, h1, h2, h3, h4⟩
theorem SxAt.le (h : SxAt o w t T k v n cs) : n ≤ maxLen := by
  rcases h.2 with ⟨_, rfl⟩ | ⟨g, cap, cur, hv, hg, hog, h1, h2, h3, h4⟩
  · exact Nat.zero_le _
  · exact Nat.le_trans h1 h2
theorem SxAt.value (h : SxAt o w t T k v n cs) : ∃ a c, v = .slice a n c := by
  rcases h.2 with ⟨rfl, rfl⟩ | ⟨g, cap, cur, hv, _⟩
  · exact ⟨_, _, rfl⟩
  · exact ⟨_, _, hv⟩
theorem SxAt.row (h : SxAt o w t T k v n cs) (hn : 0 < n) : ∃ g cap cur, v = .slice (some ⟨g, 0, none⟩) n cap ∧ blk w g = some (.cells cur T (0, 0)) ∧ o g = t ∧ n ≤ cap ∧ cap ≤ maxLen ∧ cap * k ≤ cur.size ∧ cur.toList.take (n * k) = cs := by
  rcases h.2 with ⟨_, rfl⟩ | h
  · omega
  · exact h
/-- xs[:j:j]. -/
theorem SxAt.cut {g cap j : Nat} (h : SxAt o w t T k (.slice (some ⟨g, 0, none⟩) n cap) n cs) (hj : j ≤ n) : SxAt o w t T k (.slice (some ⟨g, 0, none⟩) j j) j (cs.take (j * k)) := by
  have hjk : j * k ≤ n * k := Nat.mul_le_mul_right _ hj
  refine ⟨by rw [List.length_take, h.1]; exact Nat.min_eq_left hjk, ?_⟩
  rcases h.2 with ⟨h0, _⟩ | ⟨g', cap', cur, hv, hg, hog, h1, h2, h3, h4⟩
  · cases h0
  · simp at hv
    obtain ⟨rfl, rfl⟩ := hv
    refine .inr ⟨g, j, cur, rfl, hg, hog, Nat.le_refl _, by omega, Nat.le_trans (Nat.mul_le_mul_right _ (Nat.le_trans hj h1)) h3, ?_⟩
    rw [← h4, List.take_take, Nat.min_eq_left hjk]
end
section
variable {P : Program} {w : World}
/-- What append comes to. -/
theorem run_append_sx {o : Nat → Nat} {tg : Nat} (t ty e : TypeId) (i : TypeInfo) (z : Value) (size bytes : Nat) (ht : P.underlying t = some (.slice e)) (hi : P.info? e = some i) (hz : i.zero = some z)
    (hsize : i.size = size) (hby : i.bytes = bytes) (hzs : z.cells.size = size) (_hsz : 0 < size)
    (v : Value) (n : Nat) (xs : List Value) (hown : SxAt o w tg e size v n xs)
    (a : Addr) (m c : Nat) (news : List Value) (hl : news.length = m * size) (hnews : ∀ j u, news[j]? = some u → w.cell? (a.add j) = some u) (h1 : ∀ u ∈ news, u.oneCell' = true)
    (h63 : n + m ≤ maxLen) (hbytes : (n + m) * bytes ≤ 140737488355328) :
    ∃ v' w' o', (Builtin.append_ #[t, t] ty #[v, .slice (some a) m c]).run P w = .ok v' w' ∧ SxAt o' w' tg e size v' (n + m) (xs ++ news) ∧ Ext o o' w w' (fun x => x = tg) ∧ w.grownBy w' v.ownBlock := by
  subst hsize
  subst hby
  have hsmall : n + m ≤ 9223372036854775807 := by simp only [maxLen] at h63; omega
  have hlen : (xs ++ news).length = (n + m) * i.size := by rw [List.length_append, hown.1, hl, Nat.add_mul]
  have grown : ∀ (old : Nat), old < n + m →
      SxAt (upd o w.heap.size tg) (w.drew.alloc (.cells (xs.toArray ++ news.toArray ++ Builtin.zeroCells z.cells (grownCap w (n + m) old e - (n + m))) e)) tg e i.size
        (.slice (some ⟨w.heap.size, 0, none⟩) (n + m) (grownCap w (n + m) old e)) (n + m) (xs ++ news) ∧
      Ext o (upd o w.heap.size tg) w (w.drew.alloc (.cells (xs.toArray ++ news.toArray ++ Builtin.zeroCells z.cells (grownCap w (n + m) old e - (n + m))) e)) (fun x => x = tg) ∧ ∀ row, w.grownBy (w.drew.alloc (.cells (xs.toArray ++ news.toArray ++ Builtin.zeroCells z.cells (grownCap w (n + m) old e - (n + m))) e)) row := by
    intro old ho
    have hge := grownCap_ge w (n + m) old e
    have hcm : grownCap w (n + m) old e ≤ maxLen := grownCap_le_maxLen w (n + m) old e h63
    refine ⟨⟨hlen, .inr ⟨w.heap.size, _, _, rfl, heap_alloc_new w.drew _, upd_new (Nat.le_refl _), hge, hcm, ?_, ?_⟩⟩, (((Ext.refl o w _).retag tg).drew).alloc _, fun row => ⟨rfl, rfl, rfl, by simp, fun k hk _ => heap_alloc_old w.drew _ hk⟩⟩
    · apply Nat.le_of_eq
      simp only [Array.size_append, List.size_toArray, size_zeroCells, hzs, hown.1, hl, ← Nat.add_mul]
      congr 1
      omega
    · simp only [Array.toList_append, List.append_assoc]
      rw [← List.append_assoc, ← hlen]
      exact List.take_left
  rcases hown.2 with ⟨rfl, rfl⟩ | ⟨g, cap, cur, rfl, hg, hog, hnc, hcm, hcs, htake⟩
  · have hx : xs = [] := List.eq_nil_of_length_eq_zero (by simpa using hown.1)
    subst hx
    by_cases hm : m = 0
    · subst hm
      have hn : news = [] := List.eq_nil_of_length_eq_zero (by simpa using hl)
      subst hn
      refine ⟨.slice none 0 0, w, o, ?_, SxAt.nil o w tg e i.size, Ext.refl _ _ _, ⟨rfl, rfl, rfl, Nat.le_refl _, fun _ _ _ => rfl⟩⟩
      simp [Builtin.append_, run_underlying ht, sizeOf, typeInfo, hi, Builtin.lenOf, Builtin.firstCells, loadCells, loadCellsFrom]
    · have hr := run_append_nil (P := P) w t ty e i z ht hi hz a m c news hl hnews (by omega) (by omega) (by have hb := hbytes; simp only [Nat.zero_add] at hb; omega)
      have hgr := grown 0 (by omega)
      simp only [Nat.zero_add, List.nil_append, Array.empty_append] at hgr ⊢
      exact ⟨_, _, _, hr, hgr.1, hgr.2.1, hgr.2.2 _⟩
  · by_cases hroom : n + m ≤ cap
    · have hfit : n * i.size + news.length ≤ cur.size := by rw [hl, ← Nat.add_mul]; exact Nat.le_trans (Nat.mul_le_mul_right _ hroom) hcs
      have hr := run_append_room (P := P) w t ty e i ht hi g n cap cur hg a m c news hl hnews h1 hroom hfit
      refine ⟨_, _, o, hr, ⟨hlen, .inr ⟨g, cap, _, rfl, setRow_heap w g cur _ e _ hg, hog, hroom, hcm, ?_, ?_⟩⟩, (Ext.refl o w _).row _ (.inl hog), ⟨rfl, rfl, rfl, by simp, fun k _ hk => setRow_other w g k _ (fun e => hk (by simp [Value.ownBlock, e]))⟩⟩
      · simp only [List.size_toArray, List.length_append, List.length_take, List.length_drop, Array.length_toList]
        omega
      · rw [htake, ← hlen]
        exact List.take_left
    · have holds : ∀ j u, xs[j]? = some u → w.cell? ((⟨g, 0, none⟩ : Addr).add j) = some u := fun j u hj => by
        have hadd : (⟨g, 0, none⟩ : Addr).add j = ⟨g, j, none⟩ := by unfold Addr.add; split <;> simp_all
        rw [hadd, cellq, hg]
        exact cur_at htake hj
      have hr := run_append_grow (P := P) w t ty e i z ht hi hz ⟨g, 0, none⟩ n cap xs hown.1 holds a m c news hl hnews (by omega) (by omega) (growslice_fits (by omega) hbytes)
      have hgr := grown cap (by omega)
      exact ⟨_, _, _, hr, hgr.1, hgr.2.1, hgr.2.2 _⟩

theorem wpList_append_sx {o : Nat → Nat} {tg : Nat} {ops : Array Oper} {rest : List Oper} {op : Oper} {a : Act} {Q : Exit → Act → World → Prop} (hgd : op.guard = none) (s x : Operand) (t : TypeId)
    (ho : op.op = .call { callee := .builtin .append, args := #[s, x], argTypes := #[t, t] })
    (e : TypeId) (i : TypeInfo) (z : Value) (size bytes : Nat) (ht : P.underlying t = some (.slice e)) (hi : P.info? e = some i) (hz : i.zero = some z)
    (hsize : i.size = size) (hby : i.bytes = bytes) (hzs : z.cells.size = size) (hsz : 0 < size)
    (v : Value) (n : Nat) (xs : List Value) (hs : a.eval s = v) (hown : SxAt o w tg e size v n xs)
    (ad : Addr) (m c : Nat) (news : List Value) (hx : a.eval x = .slice (some ad) m c) (hl : news.length = m * size) (hnews : ∀ j u, news[j]? = some u → w.cell? (ad.add j) = some u) (h1 : ∀ u ∈ news, u.oneCell' = true)
    (h63 : n + m ≤ maxLen) (hbytes : (n + m) * bytes ≤ 140737488355328)
    (h : ∀ v' w' o', SxAt o' w' tg e size v' (n + m) (xs ++ news) → Ext o o' w w' (fun x => x = tg) → wpList P ops Q rest (a.put op.dst v') w') :
    wpList P ops Q (op :: rest) a w := by
  refine wpList_plain hgd fun K hK => ?_
  obtain ⟨v', w', o', hr, h2, h3, _⟩ := run_append_sx (P := P) t op.type e i z size bytes ht hi hz hsize hby hzs hsz v n xs hown ad m c news hl hnews h1 h63 hbytes
  unfold Oper.wp execOp
  simp only [ho, resolve, invoke, builtin, Sem.run_bind, Sem.run_pure, Result.andThen_ok, List.map_toArray, List.map_cons, List.map_nil, hs, hx, hr]
  exact hK _ _ (h v' w' o' h2 h3)
end
/-- append(xs, ys...), handles, ys wherever it lies. -/
theorem sx_handle {w : World} {o : Nat → Nat} {tg : Nat} {ops : Array Oper} {rest : List Oper} {op : Oper} {a : Act} {Q : Exit → Act → World → Prop} (hgd : op.guard = none) (s x : Operand)
    (ho : op.op = .call { callee := .builtin .append, args := #[s, x], argTypes := #[28, 28] })
    (v : Value) (n : Nat) (xs : List Value) (hs : a.eval s = v) (hown : SxAt o w tg 31 1 v n xs) (ad : Addr) (m c : Nat) (news : List Value) (hx : a.eval x = .slice (some ad) m c) (hl : news.length = m)
    (hnews : ∀ j u, news[j]? = some u → w.cell? (ad.add j) = some u) (h1 : ∀ u ∈ news, u.oneCell' = true) (hb : n + m ≤ 1073741824)
    (h : ∀ v' w' o', SxAt o' w' tg 31 1 v' (n + m) (xs ++ news) → Ext o o' w w' (fun x => x = tg) → wpList Try.prog ops Q rest (a.put op.dst v') w') :
    wpList Try.prog ops Q (op :: rest) a w := by
  obtain ⟨i0, hi, hz0, hz1, hz2⟩ := info_parts info_handle
  exact wpList_append_sx hgd s x 28 ho 31 i0 (.int .u64 0) 1 8 Try.underlying28 hi hz0 hz1 hz2 rfl (by decide) v n xs hs hown ad m c news hx (by omega) hnews h1 (by simp only [maxLen]; omega) (by omega) h
/-- append(xs, x), handles. -/
theorem sx_push {w : World} {o : Nat → Nat} {tg : Nat} {ops : Array Oper} {rest : List Oper} {op : Oper} {a : Act} {Q : Exit → Act → World → Prop} (hgd : op.guard = none) (s x : Operand)
    (ho : op.op = .call { callee := .builtin .append, args := #[s, x], argTypes := #[28, 28] })
    (v : Value) (n : Nat) (xs : List Value) (hs : a.eval s = v) (hown : SxAt o w tg 31 1 v n xs) (g c : Nat) (u : Value) (hx : a.eval x = .slice (some ⟨g, 0, none⟩) 1 c)
    (hg : blk w g = some (.cells #[u] 31 (0, 0))) (h1 : u.oneCell' = true) (hb : n + 1 ≤ 1073741824)
    (h : ∀ v' w' o', SxAt o' w' tg 31 1 v' (n + 1) (xs ++ [u]) → Ext o o' w w' (fun x => x = tg) → wpList Try.prog ops Q rest (a.put op.dst v') w') :
    wpList Try.prog ops Q (op :: rest) a w := by
  refine sx_handle hgd s x ho v n xs hs hown ⟨g, 0, none⟩ 1 c [u] hx rfl (fun j u' hj => ?_) (fun u' hu => by simp at hu; subst hu; exact h1) hb h
  have hadd : (⟨g, 0, none⟩ : Addr).add j = ⟨g, j, none⟩ := by unfold Addr.add; split <;> simp_all
  rw [hadd, cellq, hg]
  match j, hj with
  | 0, hj => simp at hj; subst hj; rfl
  | j + 1, hj => simp at hj
theorem handle_size (w : World) : (sizeOf (Try.prog.elem 28)).run Try.prog w = .ok 1 w := by kernel_rfl
theorem handles_elem : Try.prog.underlying 28 = some (.slice (Try.prog.elem 28)) := by kernel_rfl
theorem addr_add (g off i : Nat) : (⟨g, off, none⟩ : Addr).add i = ⟨g, off + i, none⟩ := by unfold Addr.add; split <;> simp_all
theorem slice_cut (g n cap j : Nat) (w : World) (h : j ≤ cap) :
    (Instr.slice 28 (.slice (some ⟨g, 0, none⟩) n cap) none (some (.int .i64 j)) (some (.int .i64 j))).run Try.prog w = .ok (.slice (some ⟨g, 0, none⟩) j j) w := by
  rw [run_slice_hm w _ _ _ _ handles_elem .i64 .i64 j j (by omega) (Int.le_refl _) (by omega), handle_size]
  simp only [Result.andThen, sliced, Int.toNat_natCast, Nat.sub_zero, Option.map, Nat.zero_mul, addr_add, Nat.add_zero]
  split <;> rfl
/-- Where 'xs[j + 1:]' begins. -/
def restA (g cap j : Nat) : Addr := if cap = j + 1 then ⟨g, 0, none⟩ else ⟨g, j + 1, none⟩
theorem slice_rest (g n cap j : Nat) (w : World) (h : j + 1 ≤ n) :
    (Instr.slice 28 (.slice (some ⟨g, 0, none⟩) n cap) (some (.int .i64 ((j : Int) + 1))) none none).run Try.prog w = .ok (.slice (some (restA g cap j)) (n - (j + 1)) (cap - (j + 1))) w := by
  rw [run_slice_l w _ _ _ _ handles_elem .i64 ((j : Int) + 1) (by omega) (by omega), handle_size]
  simp only [Result.andThen, sliced, show ((j : Int) + 1).toNat = j + 1 by omega, Option.map, Nat.mul_one, addr_add, Nat.zero_add, restA]
  split <;> rfl
theorem restA_at {w : World} {g cap n j : Nat} {cur : Array Value} {T : TypeId} {cs : List Value} (hg : blk w g = some (.cells cur T (0, 0))) (hn : n ≤ cap) (hc : ∀ (i : Nat) (u : Value), cs[i]? = some u → cur[i]? = some u) (hl : cs.length = n) :
    ∀ (i : Nat) (u : Value), (cs.drop (j + 1))[i]? = some u → w.cell? ((restA g cap j).add i) = some u := fun i u hu => by
  rw [List.getElem?_drop] at hu
  have hlt := (List.getElem?_eq_some_iff.1 hu).1
  unfold restA
  rw [if_neg (by omega), addr_add, cellq, hg]
  exact hc _ _ hu
/-- The object. -/
def SxK (T : TypeId) (k : Nat) (v : Value) (n : Nat) (cs : List Value) : KObj where
  holds o w t := SxAt o w (16 * t) T k v n cs
  keep e hs h := h.kp e (by simpa using hs 0 (by decide))
section
variable {l : List KObj} {w : World} {t : Nat} {T : TypeId} {v : Value} {n : Nat}
theorem R.sxVal {cs : List Value} {k : Nat} (h : R l w) (ht : l[t]? = some (SxK T k v n cs)) : (∃ a c, v = .slice a n c) ∧ cs.length = n * k ∧ n ≤ 9223372036854775807 := by
  obtain ⟨o, _, hs⟩ := h.get ht
  have hs : SxAt o w (16 * t) T k v n cs := hs
  have := hs.le
  simp only [maxLen] at this
  exact ⟨hs.value, hs.1, by omega⟩
/-- What the walk reads of a row of numbers. -/
theorem R.sxRow {q : IntKind} {xs : List Int} (h : R l w) (ht : l[t]? = some (SxK T 1 v n (xs.map (Value.int q)))) {i : Nat} (hi : i < n) :
    ∃ g cap cur, v = .slice (some ⟨g, 0, none⟩) n cap ∧ blk w g = some (.cells cur T (0, 0)) ∧ n ≤ cap ∧ cap ≤ 9223372036854775807 ∧ ∀ j, j < n → cur[j]? = some (.int q (xs.getD j 0)) := by
  obtain ⟨o, _, hs⟩ := h.get ht
  have hs : SxAt o w (16 * t) T 1 v n (xs.map (Value.int q)) := hs
  have hlen : xs.length = n := by have := hs.1; simpa using this
  obtain ⟨g, cap, cur, hv, hg, _, h1, h2, _, h4⟩ := hs.row (by omega)
  refine ⟨g, cap, cur, hv, hg, h1, by simp only [maxLen] at h2; omega, fun j hj => cur_at h4 ?_⟩
  simp [hlen, hj]
theorem R.sxNil (h : R l w) (T : TypeId) (k : Nat) : R (l ++ [SxK T k (.slice none 0 0) 0 []]) w := by
  obtain ⟨o, hr⟩ := h.slnil T k
  refine ⟨o, fun u p hu => ?_⟩
  by_cases hul : u < l.length
  · exact hr u p (by rw [List.getElem?_append_left hul] at hu ⊢; exact hu)
  · rw [List.getElem?_append_right (by omega)] at hu
    obtain ⟨i, rfl⟩ : ∃ i, u = l.length + i := ⟨u - l.length, by omega⟩
    rw [Nat.add_sub_cancel_left] at hu
    match i, hu with
    | 0, hu => simp at hu; subst hu; exact SxAt.nil _ _ _ _ _
    | i + 1, hu => simp at hu
end
end Go.Proofs.Ytcoaemjoanbemaa

namespace Go.Proofs.Ytcoaemjoanbemaa
open Go.RowKit

theorem SlAt.re' {o o' : Nat → Nat} {w : World} {a a' : Nat} {T : TypeId} {k : Nat} {v : Value} {n : Nat} {cs : List Value} (h : SlAt o w a T k v n cs) (hm : ∀ k, o k = a → o' k = a') : SlAt o' w a' T k v n cs := h.re hm
/-- A part with one mark. -/
structure FObj where
  at_ : (Nat → Nat) → World → Nat → Prop
  keep : ∀ {o o' : Nat → Nat} {w w' : World} {M : Nat → Prop} {a : Nat}, Kp M o o' w w' → M a → at_ o w a → at_ o' w' a
  re : ∀ {o o' : Nat → Nat} {w : World} {a a' : Nat}, at_ o w a → (∀ k, o k = a → o' k = a') → at_ o' w a'
def stF (b : Nat) (cs : Array Value) (T : TypeId) : FObj := ⟨fun o w a => StAt o w a b cs T, fun e hm h => h.kp e hm, fun h hm => h.re hm⟩
def slF (T : TypeId) (k : Nat) (v : Value) (n : Nat) (cs : List Value) : FObj := ⟨fun o w a => SlAt o w a T k v n cs, fun e hm h => h.kp e hm, fun h hm => h.re hm⟩
def lfF (q : IntKind) (T : TypeId) (v : Value) (xs : List Int) : FObj := ⟨fun o w a => LfAt q T o w a v xs, fun e hm h => h.kp e hm, fun h hm => h.re hm⟩
def noF : FObj := ⟨fun _ _ _ => True, fun _ _ _ => trivial, fun _ _ => trivial⟩
def single (p : FObj) : KObj where
  holds o w t := p.at_ o w (16 * t)
  keep e hs h := p.keep e (by simpa using hs 0 (by decide)) h
/-- All parts as one object: part i has the mark 16 t + i. -/
def CompK (ps : List FObj) : KObj where
  holds o w t := ∀ (i : Nat) (p : FObj), ps[i]? = some p → i < 16 → p.at_ o w (16 * t + i)
  keep e hs h := fun i p hp hi => p.keep e (hs i hi) (h i p hp hi)
section
variable {l : List KObj} {w : World} {u : Nat} {ps : List FObj}
theorem R.unpack (h : R l w) (hu : l[u]? = some (CompK ps)) (hl : ps.length ≤ 16) : R (l.set u NoK ++ ps.map single) w := by
  refine h.split hu (fun j => 16 * j) fun o o' hk hm i p hp => ?_
  rw [List.getElem?_map] at hp
  obtain ⟨q, hq, rfl⟩ := Option.map_eq_some_iff.1 hp
  have hi : i < ps.length := (List.getElem?_eq_some_iff.1 hq).1
  have := hk i q hq (by omega)
  refine q.re this fun k hk2 => ?_
  rw [hm k i (by omega) hk2]
  omega
theorem R.pack (h : R (l ++ ps.map single) w) (hul : u < l.length) (hl : ps.length ≤ 16) : R (l.set u (CompK ps)) w := by
  refine h.join hul (fun x => x / 16) fun o o' hk hm i p hp hi => ?_
  have := hk i (single p) (by rw [List.getElem?_map, hp]; rfl)
  have hil : i < ps.length := (List.getElem?_eq_some_iff.1 hp).1
  refine p.re (a := 16 * (l.length + i)) this fun k hk2 => ?_
  rw [hm k (16 * i) (by simp; omega) (by omega)]
  omega
/-- Parts at the list's end, chosen anew, become one object. -/
theorem R.packSel {qs : List FObj} (h : R (l ++ ps.map single) w) (hul : u < l.length) (g : Nat → Nat) (hq : ∀ (i : Nat) (q : FObj), qs[i]? = some q → i < 16 → (∃ j, ps[j]? = some q ∧ g j = i) ∨ q = noF) : R (l.set u (CompK qs)) w := by
  refine h.join hul (fun x => g (x / 16)) fun o o' hk hm i q hp hi => ?_
  rcases hq i q hp hi with ⟨j, hj, hg⟩ | rfl
  · have := hk j (single q) (by rw [List.getElem?_map, hj]; rfl)
    have hjl : j < ps.length := (List.getElem?_eq_some_iff.1 hj).1
    refine q.re (a := 16 * (l.length + j)) this fun k hk2 => ?_
    rw [hm k (16 * j) (by simp; omega) (by omega), show 16 * j / 16 = j by omega, hg]
  · trivial
theorem R.packSelEnd {qs : List FObj} (h : R (l ++ ps.map single) w) (g : Nat → Nat) (hq : ∀ (i : Nat) (q : FObj), qs[i]? = some q → i < 16 → (∃ j, ps[j]? = some q ∧ g j = i) ∨ q = noF) : R (l ++ [CompK qs]) w := by
  obtain ⟨o, hR⟩ := h
  refine ⟨joinO o l.length l.length ps.length (fun x => g (x / 16)), fun v p hv => ?_⟩
  have hkp : Kp (fun x => ¬ (16 * l.length ≤ x ∧ x < 16 * l.length + 16 * ps.length)) o (joinO o l.length l.length ps.length (fun x => g (x / 16))) w w := ⟨rfl, rfl, rfl, Nat.le_refl _, fun _ _ hm => ⟨if_neg hm, rfl⟩⟩
  by_cases hvl : v < l.length
  · rw [List.getElem?_append_left hvl] at hv
    exact p.keep hkp (fun j hj => by omega) (hR v p (by rw [List.getElem?_append_left hvl]; exact hv))
  · rw [List.getElem?_append_right (by omega)] at hv
    by_cases h0 : v = l.length
    · subst h0
      simp at hv
      subst hv
      intro i q hp hi
      rcases hq i q hp hi with ⟨j, hj, hg⟩ | rfl
      · have hjl : j < ps.length := (List.getElem?_eq_some_iff.1 hj).1
        have := hR (l.length + j) (single q) (by rw [List.getElem?_append_right (by omega)]; simp [hj])
        refine q.re (a := 16 * (l.length + j)) this fun k hk2 => ?_
        rw [joinO_at (x := 16 * j) (by omega) (by omega), show 16 * j / 16 = j by omega, hg]
      · trivial
    · rw [List.getElem?_eq_none (by simp; omega)] at hv
      cases hv
/-- An object is put at the list's end. -/
theorem R.snoc (h : R l w) (q : KObj) (hq : ∀ o, Rp l o w → ∃ o', Rp l o' w ∧ q.holds o' w l.length) : R (l ++ [q]) w := by
  obtain ⟨o, h⟩ := h
  obtain ⟨o', h1, h2⟩ := hq o h
  refine ⟨o', fun v p hv => ?_⟩
  by_cases hvl : v < l.length
  · rw [List.getElem?_append_left hvl] at hv
    exact h1 v p hv
  · rw [List.getElem?_append_right (by omega)] at hv
    by_cases h0 : v = l.length
    · subst h0
      simp at hv
      subst hv
      exact h2
    · rw [List.getElem?_eq_none (by simp; omega)] at hv
      cases hv
theorem R.no (h : R l w) : R (l ++ [NoK]) w := h.snoc NoK fun o ho => ⟨o, ho, trivial⟩
theorem R.packEnd (h : R (l ++ ps.map single) w) (hl : ps.length ≤ 16) : R (l ++ [CompK ps]) w := by
  refine ⟨joinO h.choose l.length l.length ps.length (fun x => x / 16), fun v p hv => ?_⟩
  obtain ⟨o, hr⟩ : ∃ o, o = h.choose := ⟨_, rfl⟩
  have hR : Rp (l ++ ps.map single) o w := hr ▸ h.choose_spec
  rw [← hr]
  have hkp : Kp (fun x => ¬ (16 * l.length ≤ x ∧ x < 16 * l.length + 16 * ps.length)) o (joinO o l.length l.length ps.length (fun x => x / 16)) w w := ⟨rfl, rfl, rfl, Nat.le_refl _, fun _ _ hm => ⟨if_neg hm, rfl⟩⟩
  by_cases hvl : v < l.length
  · rw [List.getElem?_append_left hvl] at hv
    exact p.keep hkp (fun j hj => by omega) (hR v p (by rw [List.getElem?_append_left hvl]; exact hv))
  · rw [List.getElem?_append_right (by omega)] at hv
    by_cases h0 : v = l.length
    · subst h0
      simp at hv
      subst hv
      intro i p hp hi
      have hil : i < ps.length := (List.getElem?_eq_some_iff.1 hp).1
      have := hR (l.length + i) (single p) (by rw [List.getElem?_append_right (by omega)]; simp [hp])
      refine p.re (a := 16 * (l.length + i)) this fun k hk2 => ?_
      rw [joinO_at (x := 16 * i) (by omega) (by omega)]
      omega
    · rw [List.getElem?_eq_none (by simp; omega)] at hv
      cases hv
theorem R.unpackEnd (h : R (l ++ [CompK ps]) w) (hl : ps.length ≤ 16) : R (l ++ ps.map single) w := by
  obtain ⟨o, hR⟩ := h
  refine ⟨splitO o l.length l.length (fun j => 16 * j), fun v p hv => ?_⟩
  have hkp : Kp (fun x => ¬ (16 * l.length ≤ x ∧ x < 16 * l.length + 16)) o (splitO o l.length l.length (fun j => 16 * j)) w w := ⟨rfl, rfl, rfl, Nat.le_refl _, fun _ _ hm => ⟨if_neg hm, rfl⟩⟩
  by_cases hvl : v < l.length
  · rw [List.getElem?_append_left hvl] at hv
    exact p.keep hkp (fun j hj => by omega) (hR v p (by rw [List.getElem?_append_left hvl]; exact hv))
  · rw [List.getElem?_append_right (by omega), List.getElem?_map] at hv
    obtain ⟨q, hq, rfl⟩ := Option.map_eq_some_iff.1 hv
    have hi : v - l.length < ps.length := (List.getElem?_eq_some_iff.1 hq).1
    have h1 := hR l.length (CompK ps) (by simp)
    have h2 := h1 _ q hq (by omega)
    refine q.re h2 fun k hk2 => ?_
    rw [splitO_at (j := v - l.length) (by omega) hk2]
    omega
end
section
variable {L P : List KObj} {w : World} {i b : Nat} {cs : Array Value} {T : TypeId}
theorem R.stP (h : R (L ++ P) w) (hP : P[i]? = some (StK b cs T)) : blk w b = some (.cells cs T (0, 0)) := h.st (getP hP)
theorem R.putP (h : R (L ++ P) w) (hP : P[i]? = some (StK b cs T)) (j : Nat) (v : Value) : R (L ++ P.set i (StK b (cs.setIfInBounds j v) T)) (w.setCell ⟨b, j, none⟩ v) := by
  have := h.put (getP hP) j v
  rwa [setP] at this
theorem set2P (L P : List KObj) {t : Nat} (i : Nat) (ht : t < L.length) (x p : KObj) : ((L ++ P).set t x).set (L.length + i) p = L.set t x ++ P.set i p := by
  rw [setL _ _ ht]
  have e : L.length = (L.set t x).length := by simp
  rw [e, setP]
end
theorem lt_of_get {l : List KObj} {t : Nat} {p : KObj} (h : l[t]? = some p) : t < l.length := (List.getElem?_eq_some_iff.1 h).1
/-- An object some of whose addresses are not told. -/
def ExK {α : Type} (f : α → KObj) : KObj where
  holds o w t := ∃ a, (f a).holds o w t
  keep e hs h := h.imp fun a ha => (f a).keep e hs ha
theorem R.ex {α : Type} {f : α → KObj} {l : List KObj} {w : World} {u : Nat} (h : R l w) (hu : l[u]? = some (ExK f)) : ∃ a, R (l.set u (f a)) w := by
  obtain ⟨o, hr, a, ha⟩ := h.get hu
  exact ⟨a, hr.step (Ext.refl o w (fun _ => False)) (fun _ => False.elim) ha⟩
theorem R.toEx {α : Type} {f : α → KObj} {l : List KObj} {w : World} {u : Nat} (a : α) (h : R l w) (hu : l[u]? = some (f a)) : R (l.set u (ExK f)) w := by
  obtain ⟨o, hr, ha⟩ := h.get hu
  exact hr.step (Ext.refl o w (fun _ => False)) (fun _ => False.elim) ⟨a, ha⟩
theorem R.toExEnd {α : Type} {f : α → KObj} {l : List KObj} {w : World} (a : α) (h : R (l ++ [f a]) w) : R (l ++ [ExK f]) w := by
  have := R.toEx (f := f) (u := l.length) a h (by simp)
  rwa [List.set_append_right _ _ (Nat.le_refl _), Nat.sub_self, List.set_cons_zero] at this
end Go.Proofs.Ytcoaemjoanbemaa
