/- Plain laws on memory as a list of objects: which object a block belongs to, what a step leaves of the others. No condition. Plain laws on rows among the objects. No condition. Plain laws: an object parted into its parts, and put together again. No condition. -/
import Derived.Test.YtcgfknpobifecaaGreatHp
namespace Go.Proofs.YtcgfknpobifecaaGreat
open Go.RowKit

/-- What lies in blocks with a mark in M stays; new blocks may have come. -/
structure Kp (M : Nat → Prop) (o o' : Nat → Nat) (w w' : World) : Prop where
  os : w'.os = w.os
  tape : w'.tape = w.tape
  output : w'.output = w.output
  size : w.heap.size ≤ w'.heap.size
  kp : ∀ k, k < w.heap.size → M (o k) → o' k = o k ∧ blk w' k = blk w k
theorem Ext.kp {o o' : Nat → Nat} {w w' : World} {S : Nat → Prop} (e : Ext o o' w w' S) : Kp (fun x => ¬ S x) o o' w w' := ⟨e.os, e.tape, e.output, e.size, fun k hk h => ⟨e.own k hk, e.same k hk h⟩⟩
theorem Kp.mono {o o' : Nat → Nat} {w w' : World} {M N : Nat → Prop} (e : Kp M o o' w w') (h : ∀ x, N x → M x) : Kp N o o' w w' := ⟨e.os, e.tape, e.output, e.size, fun k hk hn => e.kp k hk (h _ hn)⟩
theorem Kp.trans {o o1 o2 : Nat → Nat} {w w1 w2 : World} {M : Nat → Prop} (e : Kp M o o1 w w1) (f : Kp M o1 o2 w1 w2) : Kp M o o2 w w2 :=
  ⟨f.os.trans e.os, f.tape.trans e.tape, f.output.trans e.output, Nat.le_trans e.size f.size, fun k hk hm => by
    obtain ⟨h1, h2⟩ := e.kp k hk hm
    obtain ⟨h3, h4⟩ := f.kp k (Nat.lt_of_lt_of_le hk e.size) (by rw [h1]; exact hm)
    exact ⟨h3.trans h1, h4.trans h2⟩⟩
section
variable {o o' : Nat → Nat} {w w' : World} {M : Nat → Prop} {t b : Nat} {cs : Array Value} {T : TypeId}
theorem StAt.kp (h : StAt o w t b cs T) (e : Kp M o o' w w') (hm : M t) : StAt o' w' t b cs T := by
  obtain ⟨h1, h2⟩ := e.kp b h.lt (by rw [h.tag]; exact hm)
  exact ⟨h2.trans h.heap, h1.trans h.tag⟩
theorem SlAt.kp {k : Nat} {v : Value} {n : Nat} {cs : List Value} (h : SlAt o w t T k v n cs) (e : Kp M o o' w w') (hm : M t) : SlAt o' w' t T k v n cs := by
  refine ⟨h.1, ?_⟩
  rcases h.2 with hn | ⟨g, cap, cur, hv, hg, hog, h1, h2, h3, h4⟩
  · exact .inl hn
  · obtain ⟨h5, h6⟩ := e.kp g (lt_of_blk hg) (by rw [hog]; exact hm)
    exact .inr ⟨g, cap, cur, hv, h6.trans hg, h5.trans hog, h1, h2, h3, h4⟩
end
/-- Another mark for all that has the mark a. -/
def mv (o : Nat → Nat) (a c : Nat) : Nat → Nat := fun k => if o k = a then c else o k
theorem mv_at {o : Nat → Nat} {a c k : Nat} (h : o k = a) : mv o a c k = c := if_pos h
theorem mv_kp (o : Nat → Nat) (w : World) (a c : Nat) : Kp (fun x => x ≠ a) o (mv o a c) w w := ⟨rfl, rfl, rfl, Nat.le_refl _, fun _ _ h => ⟨if_neg h, rfl⟩⟩
theorem StAt.mv {o : Nat → Nat} {w : World} {t b : Nat} {cs : Array Value} {T : TypeId} (h : StAt o w t b cs T) (c : Nat) : StAt (mv o t c) w c b cs T := ⟨h.heap, mv_at h.tag⟩
theorem SlAt.mv {o : Nat → Nat} {w : World} {t : Nat} {T : TypeId} {k : Nat} {v : Value} {n : Nat} {cs : List Value} (h : SlAt o w t T k v n cs) (c : Nat) : SlAt (mv o t c) w c T k v n cs := by
  refine ⟨h.1, ?_⟩
  rcases h.2 with hn | ⟨g, cap, cur, hv, hg, hog, h1, h2, h3, h4⟩
  · exact .inl hn
  · exact .inr ⟨g, cap, cur, hv, hg, mv_at hog, h1, h2, h3, h4⟩

/-- An object: what holds of it where it stands at place t of the list: its blocks have the marks 16 t .. 16 t + 15. -/
structure KObj where
  holds : (Nat → Nat) → World → Nat → Prop
  keep : ∀ {o o' : Nat → Nat} {w w' : World} {M : Nat → Prop} {t : Nat}, Kp M o o' w w' → (∀ j, j < 16 → M (16 * t + j)) → holds o w t → holds o' w' t

/-- The list of objects, each in its place. -/
def Rp (l : List KObj) (o : Nat → Nat) (w : World) : Prop := ∀ (t : Nat) (p : KObj), l[t]? = some p → p.holds o w t
/-- Memory holds these objects. -/
def R (l : List KObj) (w : World) : Prop := ∃ o, Rp l o w

section
variable {l : List KObj} {o o' : Nat → Nat} {w w' : World} {S : Nat → Prop} {t : Nat} {p q : KObj}

theorem set_get (ht : l[t]? = some p) : (l.set t q)[t]? = some q := by simp [(List.getElem?_eq_some_iff.1 ht).1]
theorem set_other {u : Nat} (ht : l[t]? = some p) (h : u ≠ t) : (l.set u q)[t]? = some p := by rw [List.getElem?_set_ne h]; exact ht
theorem app_get {m : List KObj} (ht : l[t]? = some p) : (l ++ m)[t]? = some p := by rw [List.getElem?_append_left (List.getElem?_eq_some_iff.1 ht).1]; exact ht
theorem set_same (ht : l[t]? = some p) : l.set t p = l := by rw [List.getElem?_eq_some_iff] at ht; obtain ⟨h1, rfl⟩ := ht; exact List.set_getElem_self h1
theorem app_last : (l ++ [p])[l.length]? = some p := by simp
theorem Rp.get (h : Rp l o w) (ht : l[t]? = some p) : p.holds o w t := h t p ht
theorem R.get (h : R l w) (ht : l[t]? = some p) : ∃ o, Rp l o w ∧ p.holds o w t := by
  obtain ⟨o, h⟩ := h
  exact ⟨o, h, h t p ht⟩
/-- What a step leaves, that turns the object at t alone. -/
theorem Rp.step (h : Rp l o w) (e : Ext o o' w w' S) (hS : ∀ x, S x → 16 * t ≤ x ∧ x < 16 * t + 16) (hq : q.holds o' w' t) : R (l.set t q) w' := by
  have e := e.kp
  refine ⟨o', fun u p hu => ?_⟩
  rw [List.getElem?_set] at hu
  by_cases hut : t = u
  · subst hut
    rw [if_pos rfl] at hu
    split at hu
    · cases hu; exact hq
    · cases hu
  · rw [if_neg hut] at hu
    exact p.keep e (fun j hj hs => by have := hS _ hs; omega) (h u p hu)
/-- One that turns none. -/
theorem Rp.same (h : Rp l o w) (e : Ext o o' w w' (fun _ => False)) : R l w' := ⟨o', fun u p hu => p.keep e.kp (fun _ _ => id) (h u p hu)⟩
theorem Rp.same' (h : Rp l o w) (e : Ext o o' w w' (fun _ => False)) : Rp l o' w' := fun u p hu => p.keep e.kp (fun _ _ => id) (h u p hu)
theorem Rp.extS (h : Rp l o w) (e : Ext o o' w w' S) (hS : ∀ x, S x → 16 * l.length ≤ x) : Rp l o' w' := fun u p hu => p.keep e.kp (fun j hj hs => by
  have := hS _ hs
  have : u < l.length := (List.getElem?_eq_some_iff.1 hu).1
  omega) (h u p hu)
/-- One that makes an object. -/
theorem Rp.add (h : Rp l o w) (e : Ext o o' w w' S) (hS : ∀ x, S x → 16 * l.length ≤ x) (hq : q.holds o' w' l.length) : R (l ++ [q]) w' := by
  refine ⟨o', fun u p hu => ?_⟩
  by_cases hul : u < l.length
  · rw [List.getElem?_append_left hul] at hu
    exact h.extS e hS u p hu
  · rw [List.getElem?_append_right (by omega)] at hu
    by_cases h0 : u = l.length
    · subst h0
      simp at hu
      subst hu
      exact hq
    · rw [List.getElem?_eq_none (by simp; omega)] at hu
      cases hu
theorem R.below (h : R l w) (hb : Below w.heap.size w w') : R l w' := by
  obtain ⟨o, h⟩ := h
  exact h.same (Ext.of_below hb o _)
theorem R.drew (h : R l w) : R l w.drew := by
  obtain ⟨o, h⟩ := h
  exact h.same (Ext.refl o w _).drew
theorem R.drewN (h : R l w) (n : Nat) : R l (w.drewN n) := by
  obtain ⟨o, h⟩ := h
  exact h.same ((Ext.refl o w _).drewN n)
theorem R.alloc (h : R l w) (x : Obj) : R l (w.alloc x) := by
  obtain ⟨o, h⟩ := h
  exact h.same ((Ext.refl o w _).alloc x)
/-- The first objects alone. -/
theorem R.left {m : List KObj} (h : R (l ++ m) w) : R l w := by
  obtain ⟨o, h⟩ := h
  refine ⟨o, fun u p hu => h u p ?_⟩
  rw [List.getElem?_append_left (List.getElem?_eq_some_iff.1 hu).1]
  exact hu

/-- The memory below w0, as it was. -/
def BaseK (w0 : World) : KObj where
  holds o w t := Below w0.heap.size w0 w ∧ ∀ k, k < w0.heap.size → o k = 16 * t
  keep {o o' w w' M t} e hs h := by
    refine ⟨⟨e.os.trans h.1.os, e.tape.trans h.1.tape, e.output.trans h.1.output, Nat.le_trans h.1.size e.size, fun k hk => ?_⟩, fun k hk => ?_⟩
    · have hk2 : k < w.heap.size := Nat.lt_of_lt_of_le hk h.1.size
      have h2 : blk w' k = blk w k := (e.kp k hk2 (by rw [h.2 k hk]; exact hs 0 (by decide))).2
      exact h2.trans (h.1.block k hk)
    · rw [(e.kp k (Nat.lt_of_lt_of_le hk h.1.size) (by rw [h.2 k hk]; exact hs 0 (by decide))).1]; exact h.2 k hk
theorem R.start (w : World) : R [BaseK w] w := ⟨fun _ => 0, fun t p hp => by
  match t with
  | 0 => simp at hp; subst hp; exact ⟨⟨rfl, rfl, rfl, Nat.le_refl _, fun _ _ => rfl⟩, fun _ _ => rfl⟩
  | t + 1 => simp at hp⟩
theorem R.done {w0 : World} (h : R (BaseK w0 :: l) w) : Below w0.heap.size w0 w := by
  obtain ⟨o, h⟩ := h
  exact (h 0 (BaseK w0) rfl).1

/-- One block. -/
def StK (b : Nat) (cs : Array Value) (T : TypeId) : KObj where
  holds o w t := StAt o w (16 * t) b cs T
  keep e hs h := h.kp e (by simpa using hs 0 (by decide))
/-- A row. -/
def SlK (T : TypeId) (k : Nat) (v : Value) (n : Nat) (cs : List Value) : KObj where
  holds o w t := SlAt o w (16 * t) T k v n cs
  keep e hs h := h.kp e (by simpa using hs 0 (by decide))
/-- Nothing. -/
def NoK : KObj where
  holds _ _ _ := True
  keep _ _ _ := trivial

theorem R.st {b : Nat} {cs : Array Value} {T : TypeId} (h : R l w) (ht : l[t]? = some (StK b cs T)) : blk w b = some (.cells cs T (0, 0)) := by
  obtain ⟨o, _, h⟩ := h.get ht
  exact h.heap
theorem R.put {b : Nat} {cs : Array Value} {T : TypeId} (h : R l w) (ht : l[t]? = some (StK b cs T)) (i : Nat) (v : Value) : R (l.set t (StK b (cs.setIfInBounds i v) T)) (w.setCell ⟨b, i, none⟩ v) := by
  obtain ⟨o, h, hp⟩ := h.get ht
  exact h.step (S := fun x => x = 16 * t) ((Ext.refl o w _).put v (.inl hp.tag)) (fun x hx => by omega) (StAt.put hp i v)
theorem R.new (h : R l w) (cs : Array Value) (T : TypeId) : R (l ++ [StK w.heap.size cs T]) (w.alloc (.cells cs T)) := by
  obtain ⟨o, h⟩ := h
  exact h.add (((Ext.refl o w (fun _ => False)).retag (16 * l.length)).alloc _) (fun _ => False.elim) ⟨blk_new _ _, upd_new (Nat.le_refl _)⟩
theorem R.slnil (h : R l w) (T : TypeId) (k : Nat) : R (l ++ [SlK T k (.slice none 0 0) 0 []]) w := by
  obtain ⟨o, h⟩ := h
  exact h.add (Ext.refl o w (fun _ => False)) (fun _ => False.elim) (SlAt.nil _ _ _ _ _)
/-- An object is let go. -/
theorem R.drop (h : R l w) (t : Nat) : R (l.set t NoK) w := by
  obtain ⟨o, h⟩ := h
  exact h.step (Ext.refl o w (fun _ => False)) (fun _ => False.elim) trivial
end
end Go.Proofs.YtcgfknpobifecaaGreat

namespace Go.Proofs.YtcgfknpobifecaaGreat
open Go.RowKit

section
variable {l : List KObj} {w : World} {t : Nat} {T : TypeId} {k : Nat} {v : Value} {n : Nat} {cs : List Value}
theorem R.slVal (h : R l w) (ht : l[t]? = some (SlK T k v n cs)) : (∃ a c, v = .slice a n c) ∧ cs.length = n * k ∧ n ≤ 9223372036854775807 := by
  obtain ⟨o, _, h⟩ := h.get ht
  exact ⟨SlAt.value h, h.1, SlAt.le63 h⟩
/-- A row that is not empty, as the walk reads it. -/
theorem R.slRow (h : R l w) (ht : l[t]? = some (SlK T k v n cs)) (hn : 0 < n) :
    ∃ g cap cur, v = .slice (some ⟨g, 0, none⟩) n cap ∧ blk w g = some (.cells cur T (0, 0)) ∧ cap ≤ 9223372036854775807 ∧ n ≤ cap ∧ ∀ (j : Nat) (u : Value), cs[j]? = some u → cur[j]? = some u := by
  obtain ⟨o, _, h⟩ := h.get ht
  obtain ⟨g, cap, cur, rfl, hg, hog, h1, h2, h3, h4⟩ := SlAt.row h hn
  exact ⟨g, cap, cur, rfl, hg, by simp only [maxLen] at h2; omega, h1, fun j u hu => cur_at h4 hu⟩
theorem R.intRow {q : IntKind} {xs : List Int} (h : R l w) (ht : l[t]? = some (SlK T 1 v n (xs.map (Value.int q)))) {i : Nat} (hi : i < n) :
    ∃ g cap cur, v = .slice (some ⟨g, 0, none⟩) n cap ∧ blk w g = some (.cells cur T (0, 0)) ∧ cap ≤ 9223372036854775807 ∧ n ≤ cap ∧ cur[i]? = some (.int q (xs.getD i 0)) := by
  obtain ⟨_, hl, _⟩ := h.slVal ht
  obtain ⟨g, cap, cur, rfl, hg, h1, h2, h3⟩ := h.slRow ht (by omega)
  simp at hl
  have hix : i < xs.length := by omega
  exact ⟨g, cap, cur, rfl, hg, h1, h2, h3 i _ (by simp [hix])⟩
theorem R.putRow {g cap : Nat} (h : R l w) (ht : l[t]? = some (SlK T k (.slice (some ⟨g, 0, none⟩) n cap) n cs)) (i : Nat) (u : Value) (hn : 0 < n) :
    R (l.set t (SlK T k (.slice (some ⟨g, 0, none⟩) n cap) n (cs.set i u))) (w.setCell ⟨g, i, none⟩ u) := by
  obtain ⟨o, h, hp⟩ := h.get ht
  obtain ⟨g', cap', cur, hv, hg, hog, h1, h2, h3, h4⟩ := SlAt.row hp hn
  simp at hv
  obtain ⟨rfl, rfl⟩ := hv
  refine h.step (S := fun x => x = 16 * t) ((Ext.refl o w _).put u (.inl hog)) (fun x hx => by omega) ?_
  refine ⟨by rw [List.length_set]; exact hp.1, .inr ⟨g, cap, cur.setIfInBounds i u, rfl, ?_, hog, h1, h2, by simpa using h3, ?_⟩⟩
  · rw [blk_put_same, hg]; rfl
  · rw [← h4]; simp [List.take_set]
theorem R.putInt {q : IntKind} {g cap : Nat} {xs : List Int} (h : R l w) (ht : l[t]? = some (SlK T 1 (.slice (some ⟨g, 0, none⟩) n cap) n (xs.map (Value.int q)))) (i : Nat) (x : Int) (hn : 0 < n) :
    R (l.set t (SlK T 1 (.slice (some ⟨g, 0, none⟩) n cap) n ((xs.set i x).map (Value.int q)))) (w.setCell ⟨g, i, none⟩ (.int q x)) := by
  have := h.putRow ht i (.int q x) hn
  rwa [← List.map_set] at this
theorem R.made (h : R l w) (cur : Array Value) (n k : Nat) (hm : n ≤ maxLen) (hs : cur.size = n * k) : R (l ++ [SlK T k (.slice (some ⟨w.heap.size, 0, none⟩) n n) n cur.toList]) (w.alloc (.cells cur T)) := by
  obtain ⟨o, h⟩ := h
  refine h.add (((Ext.refl o w (fun _ => False)).retag (16 * l.length)).alloc _) (fun _ => False.elim) ?_
  exact SlAt.made cur n n (Nat.le_refl _) hm hs (by rw [← hs, ← Array.length_toList, List.take_length]) (upd_new (Nat.le_refl _))
end
end Go.Proofs.YtcgfknpobifecaaGreat

namespace Go.Proofs.YtcgfknpobifecaaGreat
open Go.RowKit

theorem StAt.re {o o' : Nat → Nat} {w : World} {a a' b : Nat} {cs : Array Value} {T : TypeId} (h : StAt o w a b cs T) (hm : ∀ k, o k = a → o' k = a') : StAt o' w a' b cs T := ⟨h.heap, hm _ h.tag⟩
theorem SlAt.re {o o' : Nat → Nat} {w : World} {a a' : Nat} {T : TypeId} {k : Nat} {v : Value} {n : Nat} {cs : List Value} (h : SlAt o w a T k v n cs) (hm : ∀ k, o k = a → o' k = a') : SlAt o' w a' T k v n cs := by
  refine ⟨h.1, ?_⟩
  rcases h.2 with hn | ⟨g, cap, cur, hv, hg, hog, h1, h2, h3, h4⟩
  · exact .inl hn
  · exact .inr ⟨g, cap, cur, hv, hg, hm _ hog, h1, h2, h3, h4⟩

def splitO (o : Nat → Nat) (u n : Nat) (f : Nat → Nat) : Nat → Nat := fun k => if 16 * u ≤ o k ∧ o k < 16 * u + 16 then 16 * n + f (o k - 16 * u) else o k
def joinO (o : Nat → Nat) (u n c : Nat) (g : Nat → Nat) : Nat → Nat := fun k => if 16 * n ≤ o k ∧ o k < 16 * n + 16 * c then 16 * u + g (o k - 16 * n) else o k
theorem splitO_at {o : Nat → Nat} {u n : Nat} {f : Nat → Nat} {k j : Nat} (hj : j < 16) (hk : o k = 16 * u + j) : splitO o u n f k = 16 * n + f j := by
  rw [splitO, if_pos (by omega), hk]; congr 2; omega
theorem joinO_at {o : Nat → Nat} {u n c : Nat} {g : Nat → Nat} {k x : Nat} (hx : x < 16 * c) (hk : o k = 16 * n + x) : joinO o u n c g k = 16 * u + g x := by
  rw [joinO, if_pos (by omega), hk]; congr 2; omega
section
variable {l parts : List KObj} {w : World} {u : Nat} {K : KObj}
/-- An object's parts become objects of their own, at the list's end: the mark 16 u + j becomes 16 n + f j. -/
theorem R.split (h : R l w) (hu : l[u]? = some K) (f : Nat → Nat)
    (hs : ∀ (o o' : Nat → Nat), K.holds o w u → (∀ k j, j < 16 → o k = 16 * u + j → o' k = 16 * l.length + f j) → ∀ (i : Nat) (p : KObj), parts[i]? = some p → p.holds o' w (l.length + i)) :
    R (l.set u NoK ++ parts) w := by
  obtain ⟨o, hr, hk⟩ := h.get hu
  have hul : u < l.length := (List.getElem?_eq_some_iff.1 hu).1
  refine ⟨splitO o u l.length f, fun v p hv => ?_⟩
  have hkp : Kp (fun x => ¬ (16 * u ≤ x ∧ x < 16 * u + 16)) o (splitO o u l.length f) w w := ⟨rfl, rfl, rfl, Nat.le_refl _, fun _ _ hm => ⟨if_neg hm, rfl⟩⟩
  by_cases hvl : v < l.length
  · rw [List.getElem?_append_left (by simpa using hvl), List.getElem?_set] at hv
    by_cases huv : u = v
    · subst huv
      rw [if_pos rfl, if_pos hul] at hv
      cases hv
      trivial
    · rw [if_neg huv] at hv
      exact p.keep hkp (fun j hj => by omega) (hr v p hv)
  · rw [List.getElem?_append_right (by simpa using Nat.le_of_not_lt hvl), List.length_set] at hv
    have := hs o _ hk (fun k j hj hk => splitO_at hj hk) (v - l.length) p hv
    rwa [show l.length + (v - l.length) = v by omega] at this
/-- Objects at the list's end become the parts of one: the mark 16 n + x becomes 16 u + g x. -/
theorem R.join (h : R (l ++ parts) w) (hul : u < l.length) (g : Nat → Nat)
    (hs : ∀ (o o' : Nat → Nat), (∀ (i : Nat) (p : KObj), parts[i]? = some p → p.holds o w (l.length + i)) → (∀ k x, x < 16 * parts.length → o k = 16 * l.length + x → o' k = 16 * u + g x) → K.holds o' w u) :
    R (l.set u K) w := by
  obtain ⟨o, hr⟩ := h
  refine ⟨joinO o u l.length parts.length g, fun v p hv => ?_⟩
  have hkp : Kp (fun x => ¬ (16 * l.length ≤ x ∧ x < 16 * l.length + 16 * parts.length)) o (joinO o u l.length parts.length g) w w := ⟨rfl, rfl, rfl, Nat.le_refl _, fun _ _ hm => ⟨if_neg hm, rfl⟩⟩
  rw [List.getElem?_set] at hv
  by_cases huv : u = v
  · subst huv
    rw [if_pos rfl, if_pos hul] at hv
    cases hv
    refine hs o _ (fun i p hp => hr (l.length + i) p (by rw [List.getElem?_append_right (by omega)]; simpa using hp)) (fun k x hx hk => joinO_at hx hk)
  · rw [if_neg huv] at hv
    have hvl : v < l.length := (List.getElem?_eq_some_iff.1 hv).1
    exact p.keep hkp (fun j hj => by omega) (hr v p (by rw [List.getElem?_append_left hvl]; exact hv))
end

/-- A slice of numbers that is only read: it may begin within its row. -/
def LfAt (q : IntKind) (T : TypeId) (o : Nat → Nat) (w : World) (t : Nat) (v : Value) (xs : List Int) : Prop :=
  (∃ a c, v = .slice a xs.length c) ∧ xs.length ≤ 9223372036854775807 ∧ (xs = [] ∨ ∃ g off cap cur, v = .slice (some ⟨g, off, none⟩) xs.length cap ∧ xs.length ≤ cap ∧ cap ≤ 9223372036854775807 ∧ blk w g = some (.cells cur T (0, 0)) ∧ o g = t ∧
    ∀ (j : Nat) (x : Int), xs[j]? = some x → cur[off + j]? = some (.int q x))
theorem LfAt.kp {q : IntKind} {T : TypeId} {o o' : Nat → Nat} {w w' : World} {M : Nat → Prop} {t : Nat} {v : Value} {xs : List Int} (h : LfAt q T o w t v xs) (e : Kp M o o' w w') (hm : M t) : LfAt q T o' w' t v xs := by
  refine ⟨h.1, h.2.1, ?_⟩
  rcases h.2.2 with h0 | ⟨g, off, cap, cur, hv, h1, h2, hg, hog, h3⟩
  · exact .inl h0
  · obtain ⟨h5, h6⟩ := e.kp g (lt_of_blk hg) (by rw [hog]; exact hm)
    exact .inr ⟨g, off, cap, cur, hv, h1, h2, h6.trans hg, h5.trans hog, h3⟩
theorem LfAt.re {q : IntKind} {T : TypeId} {o o' : Nat → Nat} {w : World} {a a' : Nat} {v : Value} {xs : List Int} (h : LfAt q T o w a v xs) (hm : ∀ k, o k = a → o' k = a') : LfAt q T o' w a' v xs := by
  refine ⟨h.1, h.2.1, ?_⟩
  rcases h.2.2 with h0 | ⟨g, off, cap, cur, hv, h1, h2, hg, hog, h3⟩
  · exact .inl h0
  · exact .inr ⟨g, off, cap, cur, hv, h1, h2, hg, hm _ hog, h3⟩
theorem LfAt.of_sl {q : IntKind} {T : TypeId} {o : Nat → Nat} {w : World} {t : Nat} {v : Value} {n : Nat} {xs : List Int} (h : SlAt o w t T 1 v n (xs.map (Value.int q))) : LfAt q T o w t v xs := by
  have hl := h.1
  simp at hl
  subst hl
  refine ⟨h.value, h.le63, ?_⟩
  rcases h.2 with ⟨_, h0⟩ | ⟨g, cap, cur, hv, hg, hog, h1, h2, h3, h4⟩
  · exact .inl (List.eq_nil_of_length_eq_zero h0)
  · refine .inr ⟨g, 0, cap, cur, hv, h1, by simp only [maxLen] at h2; omega, hg, hog, fun j x hx => ?_⟩
    rw [Nat.zero_add]
    exact cur_at h4 (by simp [hx])
def LfK (q : IntKind) (T : TypeId) (v : Value) (xs : List Int) : KObj where
  holds o w t := LfAt q T o w (16 * t) v xs
  keep e hs h := h.kp e (by simpa using hs 0 (by decide))
theorem R.lf {l : List KObj} {w : World} {t : Nat} {q : IntKind} {T : TypeId} {v : Value} {xs : List Int} (h : R l w) (ht : l[t]? = some (LfK q T v xs)) :
    (∃ a c, v = .slice a xs.length c) ∧ xs.length ≤ 9223372036854775807 ∧ (xs = [] ∨ ∃ g off cap cur, v = .slice (some ⟨g, off, none⟩) xs.length cap ∧ xs.length ≤ cap ∧ cap ≤ 9223372036854775807 ∧ blk w g = some (.cells cur T (0, 0)) ∧
      ∀ (j : Nat) (x : Int), xs[j]? = some x → cur[off + j]? = some (.int q x)) := by
  obtain ⟨o, _, h1, h2, h3⟩ := h.get ht
  refine ⟨h1, h2, h3.imp id ?_⟩
  rintro ⟨g, off, cap, cur, a1, a2, a3, a4, _, a5⟩
  exact ⟨g, off, cap, cur, a1, a2, a3, a4, a5⟩
theorem R.lfTail {l : List KObj} {w : World} {t : Nat} {q : IntKind} {T : TypeId} {g off cap : Nat} {x : Int} {xs : List Int} (h : R l w) (ht : l[t]? = some (LfK q T (.slice (some ⟨g, off, none⟩) (xs.length + 1) cap) (x :: xs))) :
    R (l.set t (LfK q T (.slice (some ⟨g, off + 1, none⟩) xs.length (cap - 1)) xs)) w := by
  obtain ⟨o, hr, h1, h2, h3⟩ := h.get ht
  refine hr.step (Ext.refl o w (fun _ => False)) (fun _ => False.elim) ⟨⟨_, _, rfl⟩, by simp at h2; omega, ?_⟩
  rcases h3 with h0 | ⟨g', off', cap', cur, hv, a1, a2, a3, a4, a5⟩
  · simp at h0
  · simp at hv
    obtain ⟨⟨rfl, rfl⟩, rfl⟩ := hv
    simp at a1
    refine .inr ⟨g, off + 1, cap - 1, cur, rfl, by omega, by omega, a3, a4, fun j y hy => ?_⟩
    have := a5 (j + 1) y (by simpa using hy)
    rwa [show off + 1 + j = off + (j + 1) by omega]
theorem R.lfNil {l : List KObj} {w : World} {t : Nat} {q : IntKind} {T : TypeId} {v : Value} {ys : List Int} (h : R l w) (ht : l[t]? = some (LfK q T v ys)) (v' : Value) (hv : ∃ a c, v' = .slice a 0 c) :
    R (l.set t (LfK q T v' [])) w := by
  obtain ⟨o, hr, _⟩ := h.get ht
  exact hr.step (Ext.refl o w (fun _ => False)) (fun _ => False.elim) ⟨hv, by simp, .inl rfl⟩
theorem getP {L P : List KObj} {i : Nat} {p : KObj} (h : P[i]? = some p) : (L ++ P)[L.length + i]? = some p := by
  rw [List.getElem?_append_right (by omega)]; simpa using h
theorem setP (L P : List KObj) (i : Nat) (p : KObj) : (L ++ P).set (L.length + i) p = L ++ P.set i p := by
  rw [List.set_append_right _ _ (by omega)]; simp
theorem setL (L P : List KObj) {t : Nat} (h : t < L.length) (p : KObj) : (L ++ P).set t p = L.set t p ++ P := List.set_append_left _ _ h
theorem foldU (l : List KObj) {t u : Nat} (h : t ≠ u) (X K Z : KObj) : ((l.set u Z).set t X).set u K = (l.set t X).set u K := by
  rw [List.set_comm _ _ h.symm, List.set_set]
end Go.Proofs.YtcgfknpobifecaaGreat
