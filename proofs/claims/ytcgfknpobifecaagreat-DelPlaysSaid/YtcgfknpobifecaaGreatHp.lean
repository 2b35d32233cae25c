/- Plain laws on worlds, block by block, and on who owns a block: used by all the texts of this seat. No condition. -/
import Derived.WalkKit
import Derived.WalkSpells
import Derived.WalkLawsBesides
import Derived.Deep.DeepMust
import Derived.Deep.QuietTactic
import Derived.BigQuiet
namespace Go.Proofs.YtcgfknpobifecaaGreat
open Go.RowKit

/-- A fact that the walk does not see. -/
theorem hide {p : Prop} (h : p) : Hid p := h

/-- What lies in a block. (Not 'w.heap[b]?' itself: the walk's simp turns that into 'some w.heap[b]' where 'b < w.heap.size' is at hand.) -/
def blk (w : World) (b : Nat) : Option Obj := w.heap[b]?

/-- A cell of it. -/
def cellOf : Option Obj → Nat → Option Value
  | some (.cells c _ _), i => c[i]?
  | _, _ => none
def frzOf : Option Obj → Nat → Bool
  | some (.cells _ _ (lo, hi)), i => decide (lo ≤ i) && decide (i < hi)
  | _, _ => false
def putOf : Option Obj → Nat → Value → Option Obj
  | some (.cells c e f), i, v => some (.cells (c.setIfInBounds i v) e f)
  | x, _, _ => x

@[go_sem] theorem cellOf_cells (c : Array Value) (e : TypeId) (f : Nat × Nat) (i : Nat) : cellOf (some (.cells c e f)) i = c[i]? := rfl
@[go_sem] theorem frzOf_cells (c : Array Value) (e : TypeId) (i : Nat) : frzOf (some (.cells c e (0, 0))) i = false := by simp [frzOf]
@[go_sem] theorem putOf_cells (c : Array Value) (e : TypeId) (f : Nat × Nat) (i : Nat) (v : Value) : putOf (some (.cells c e f)) i v = some (.cells (c.setIfInBounds i v) e f) := rfl
@[go_sem] theorem cellq (w : World) (b i : Nat) : w.cell? ⟨b, i, none⟩ = cellOf (blk w b) i := by
  simp only [World.cell?, blk]
  cases h : w.heap[b]? with
  | none => rfl
  | some x => cases x <;> rfl
@[go_sem] theorem frzq (w : World) (b i : Nat) : w.frozen? ⟨b, i, none⟩ = frzOf (blk w b) i := by
  simp only [World.frozen?, blk]
  cases h : w.heap[b]? with
  | none => rfl
  | some x => cases x <;> rfl

@[go_sem] theorem blk_put_same (w : World) (b i : Nat) (v : Value) : blk (w.setCell ⟨b, i, none⟩ v) b = putOf (blk w b) i v := by
  simp only [blk, World.setCell, Array.getElem?_modify, if_true]
  cases h : w.heap[b]? with
  | none => rfl
  | some x => cases x <;> rfl
@[go_sem] theorem blk_put_other (w : World) (b i k : Nat) (v : Value) (h : k ≠ b) : blk (w.setCell ⟨b, i, none⟩ v) k = blk w k := Below.heap_setCell w ⟨b, i, none⟩ v k h
@[go_sem] theorem blk_new (w : World) (o : Obj) : blk (w.alloc o) w.heap.size = some o := heap_alloc_new w o
@[go_sem] theorem blk_new1 (w : World) (o x : Obj) : blk ((w.alloc o).alloc x) (w.heap.size + 1) = some x := heap_alloc2_new w o x
@[go_sem] theorem blk_new2 (w : World) (o x y : Obj) : blk (((w.alloc o).alloc x).alloc y) (w.heap.size + 2) = some y := by
  have h := heap_alloc_new ((w.alloc o).alloc x) y
  simpa [blk] using h
@[go_sem] theorem blk_old (w : World) (o : Obj) (k : Nat) (h : k < w.heap.size) : blk (w.alloc o) k = blk w k := heap_alloc_old w o h
theorem lt_more {k n c : Nat} (h : k < n) : k < n + c := Nat.lt_add_right c h
@[go_sem] theorem lt_more_is {k n c : Nat} (h : k < n) : (k < n + c) = True := by simp [lt_more h]
@[go_sem] theorem ne_size_is {k n : Nat} (h : k < n) : (k = n) = False := by simp; omega
@[go_sem] theorem blk_drew (w : World) (k : Nat) : blk w.drew k = blk w k := rfl
@[go_sem] theorem blk_drewN (w : World) (n k : Nat) : blk (w.drewN n) k = blk w k := rfl
theorem lt_of_blk {w : World} {b : Nat} {x : Obj} (h : blk w b = some x) : b < w.heap.size := (Array.getElem?_eq_some_iff.1 h).1

/-- From here on all new blocks bear the mark t. -/
def upd (o : Nat → Nat) (n t : Nat) : Nat → Nat := fun k => if k < n then o k else t
theorem upd_old {o : Nat → Nat} {n t k : Nat} (h : k < n) : upd o n t k = o k := if_pos h
theorem upd_new {o : Nat → Nat} {n t k : Nat} (h : n ≤ k) : upd o n t k = t := if_neg (by omega)

/-- w' comes of w: only blocks with a mark in S have turned; new blocks may have come. -/
structure Ext (o o' : Nat → Nat) (w w' : World) (S : Nat → Prop) : Prop where
  os : w'.os = w.os
  tape : w'.tape = w.tape
  output : w'.output = w.output
  size : w.heap.size ≤ w'.heap.size
  own : ∀ k, k < w.heap.size → o' k = o k
  same : ∀ k, k < w.heap.size → ¬ S (o k) → blk w' k = blk w k

section
variable {o o' o1 o2 : Nat → Nat} {w w' w1 w2 : World} {S S1 S2 : Nat → Prop}
theorem Ext.refl (o : Nat → Nat) (w : World) (S : Nat → Prop) : Ext o o w w S := ⟨rfl, rfl, rfl, Nat.le_refl _, fun _ _ => rfl, fun _ _ _ => rfl⟩
theorem Ext.trans (h : Ext o o1 w w1 S) (g : Ext o1 o2 w1 w2 S) : Ext o o2 w w2 S :=
  ⟨g.os.trans h.os, g.tape.trans h.tape, g.output.trans h.output, Nat.le_trans h.size g.size, fun k hk => (g.own k (Nat.lt_of_lt_of_le hk h.size)).trans (h.own k hk),
    fun k hk hs => (g.same k (Nat.lt_of_lt_of_le hk h.size) (by rw [h.own k hk]; exact hs)).trans (h.same k hk hs)⟩
theorem Ext.mono (h : Ext o o' w w' S1) (g : ∀ x, S1 x → S2 x) : Ext o o' w w' S2 := ⟨h.os, h.tape, h.output, h.size, h.own, fun k hk hs => h.same k hk fun x => hs (g _ x)⟩
theorem Ext.drew (h : Ext o o' w w' S) : Ext o o' w w'.drew S := ⟨h.os, h.tape, h.output, h.size, h.own, h.same⟩
theorem Ext.drewN (h : Ext o o' w w' S) (n : Nat) : Ext o o' w (w'.drewN n) S := ⟨h.os, h.tape, h.output, h.size, h.own, h.same⟩
theorem Ext.alloc (h : Ext o o' w w' S) (x : Obj) : Ext o o' w (w'.alloc x) S :=
  h.trans ⟨rfl, rfl, rfl, by simp, fun _ _ => rfl, fun k hk _ => heap_alloc_old w' x hk⟩
theorem Ext.retag (h : Ext o o' w w' S) (t : Nat) : Ext o (upd o' w'.heap.size t) w w' S :=
  h.trans ⟨rfl, rfl, rfl, Nat.le_refl _, fun _ hk => upd_old hk, fun _ _ _ => rfl⟩
/-- A store into a block that is marked, or new. -/
theorem Ext.put (h : Ext o o' w w' S) {b i : Nat} (v : Value) (hb : S (o' b) ∨ w.heap.size ≤ b) : Ext o o' w (w'.setCell ⟨b, i, none⟩ v) S := by
  refine ⟨h.os, h.tape, h.output, by simpa using h.size, h.own, fun k hk hs => ?_⟩
  rw [blk_put_other _ _ _ _ _ ?_]
  · exact h.same k hk hs
  · rintro rfl
    rcases hb with hb | hb
    · rw [h.own _ hk] at hb; exact hs hb
    · omega
theorem Ext.row (h : Ext o o' w w' S) {b : Nat} (cs : Array Value) (hb : S (o' b) ∨ w.heap.size ≤ b) : Ext o o' w (w'.setRow b cs) S := by
  refine ⟨h.os, h.tape, h.output, by simpa using h.size, h.own, fun k hk hs => ?_⟩
  have hr : ∀ hne : k ≠ b, blk (w'.setRow b cs) k = blk w' k := fun hne => setRow_other _ _ _ _ hne
  rw [hr ?_]
  · exact h.same k hk hs
  · rintro rfl
    rcases hb with hb | hb
    · rw [h.own _ hk] at hb; exact hs hb
    · omega
theorem Ext.below {B : Nat} (h : Ext o o' w w' S) (hB : B ≤ w.heap.size) (hs : ∀ k, k < B → ¬ S (o k)) : Below B w w' :=
  ⟨h.os, h.tape, h.output, h.size, fun k hk => h.same k (by omega) (hs k hk)⟩
theorem Ext.done (h : Ext (fun _ => 0) o' w w' S) (hs : ¬ S 0) : Below w.heap.size w w' := h.below (Nat.le_refl _) fun _ _ => hs
theorem Ext.none (h : Ext o o' w w' (fun _ => False)) : Ext o o' w w' S := h.mono fun _ x => x.elim
theorem Ext.of_below (h : Below w.heap.size w w') (o : Nat → Nat) (S : Nat → Prop) : Ext o o w w' S := ⟨h.os, h.tape, h.output, h.size, fun _ _ => rfl, fun k hk _ => h.block k hk⟩
theorem Ext.keep (h : Ext o o' w w' S) {b : Nat} {x : Obj} (hb : blk w b = some x) (hs : ¬ S (o b)) : blk w' b = some x := (h.same b (lt_of_blk hb) hs).trans hb
theorem Ext.tag (h : Ext o o' w w' S) {b t : Nat} {x : Obj} (hb : blk w b = some x) (ho : o b = t) : o' b = t := (h.own b (lt_of_blk hb)).trans ho
end

/-- A block of its own with a mark. -/
structure StAt (o : Nat → Nat) (w : World) (t b : Nat) (cs : Array Value) (T : TypeId) : Prop where
  heap : blk w b = some (.cells cs T (0, 0))
  tag : o b = t
section
variable {o o' : Nat → Nat} {w w' : World} {S : Nat → Prop} {t b : Nat} {cs : Array Value} {T : TypeId}
theorem StAt.ext (h : StAt o w t b cs T) (e : Ext o o' w w' S) (hs : ¬ S t) : StAt o' w' t b cs T := ⟨e.keep h.heap (by rw [h.tag]; exact hs), e.tag h.heap h.tag⟩
theorem StAt.lt (h : StAt o w t b cs T) : b < w.heap.size := lt_of_blk h.heap
theorem StAt.put (h : StAt o w t b cs T) (i : Nat) (v : Value) : StAt o (w.setCell ⟨b, i, none⟩ v) t b (cs.setIfInBounds i v) T := ⟨by rw [blk_put_same, h.heap]; rfl, h.tag⟩
theorem StAt.alloc (h : StAt o w t b cs T) (x : Obj) : StAt o (w.alloc x) t b cs T := h.ext ((Ext.refl _ _ (fun _ => False)).alloc x) id
theorem StAt.drewN (h : StAt o w t b cs T) (n : Nat) : StAt o (w.drewN n) t b cs T := ⟨h.heap, h.tag⟩
end

/-- A slice of n elements of k cells each: nil, or a row of its own with a mark. -/
def SlAt (o : Nat → Nat) (w : World) (t : Nat) (T : TypeId) (k : Nat) (v : Value) (n : Nat) (cs : List Value) : Prop :=
  cs.length = n * k ∧ ((v = .slice none 0 0 ∧ n = 0) ∨
    ∃ g cap cur, v = .slice (some ⟨g, 0, none⟩) n cap ∧ blk w g = some (.cells cur T (0, 0)) ∧ o g = t ∧ n ≤ cap ∧ cap ≤ maxLen ∧ cur.size = cap * k ∧ cur.toList.take (n * k) = cs)

section
variable {o o' : Nat → Nat} {w w' : World} {S : Nat → Prop} {t : Nat} {T : TypeId} {k : Nat} {v : Value} {n : Nat} {cs : List Value}
theorem SlAt.nil (o : Nat → Nat) (w : World) (t : Nat) (T : TypeId) (k : Nat) : SlAt o w t T k (.slice none 0 0) 0 [] := ⟨by simp, .inl ⟨rfl, rfl⟩⟩
theorem SlAt.ext (h : SlAt o w t T k v n cs) (e : Ext o o' w w' S) (hs : ¬ S t) : SlAt o' w' t T k v n cs := by
  refine ⟨h.1, ?_⟩
  rcases h.2 with hn | ⟨g, cap, cur, hv, hg, hog, h1, h2, h3, h4⟩
  · exact .inl hn
  · exact .inr ⟨g, cap, cur, hv, e.keep hg (by rw [hog]; exact hs), e.tag hg hog, h1, h2, h3, h4⟩
theorem SlAt.alloc (h : SlAt o w t T k v n cs) (x : Obj) : SlAt o (w.alloc x) t T k v n cs := h.ext ((Ext.refl _ _ (fun _ => False)).alloc x) id
theorem SlAt.drew (h : SlAt o w t T k v n cs) : SlAt o w.drew t T k v n cs := h
theorem SlAt.drewN (h : SlAt o w t T k v n cs) (m : Nat) : SlAt o (w.drewN m) t T k v n cs := h
theorem SlAt.le (h : SlAt o w t T k v n cs) : n ≤ maxLen := by
  rcases h.2 with ⟨_, rfl⟩ | ⟨g, cap, cur, hv, hg, hog, h1, h2, h3, h4⟩
  · exact Nat.zero_le _
  · exact Nat.le_trans h1 h2
theorem SlAt.le63 (h : SlAt o w t T k v n cs) : n ≤ 9223372036854775807 := by
  have := h.le
  simp only [maxLen] at this
  omega
theorem SlAt.value (h : SlAt o w t T k v n cs) : ∃ a c, v = .slice a n c := by
  rcases h.2 with ⟨rfl, rfl⟩ | ⟨g, cap, cur, hv, _⟩
  · exact ⟨_, _, rfl⟩
  · exact ⟨_, _, hv⟩
/-- A slice that is not empty has a row. -/
theorem SlAt.row (h : SlAt o w t T k v n cs) (hn : 0 < n) : ∃ g cap cur, v = .slice (some ⟨g, 0, none⟩) n cap ∧ blk w g = some (.cells cur T (0, 0)) ∧ o g = t ∧ n ≤ cap ∧ cap ≤ maxLen ∧ cur.size = cap * k ∧ cur.toList.take (n * k) = cs := by
  rcases h.2 with ⟨_, rfl⟩ | h
  · omega
  · exact h
theorem cur_at {cur : Array Value} {m j : Nat} {cs : List Value} (h : cur.toList.take m = cs) {u : Value} (hu : cs[j]? = some u) : cur[j]? = some u := by
  rw [← h, List.getElem?_take] at hu
  split at hu
  · simpa using hu
  · cases hu
theorem SlAt.to_owns (h : SlAt o w t T k v n cs) : w.ownsRow 0 T k v n cs := by
  refine ⟨h.1, ?_⟩
  rcases h.2 with hn | ⟨g, cap, cur, hv, hg, hog, h1, h2, h3, h4⟩
  · exact .inl hn
  · exact .inr ⟨g, cap, cur, hv, Nat.zero_le _, hg, h1, h2, h3, h4⟩
/-- A new row. -/
theorem SlAt.made {w : World} (cur : Array Value) (n cap : Nat) (hn : n ≤ cap) (hm : cap ≤ maxLen) (hs : cur.size = cap * k) (hcs : cur.toList.take (n * k) = cs) (ho : o w.heap.size = t) :
    SlAt o (w.alloc (.cells cur T)) t T k (.slice (some ⟨w.heap.size, 0, none⟩) n cap) n cs := by
  refine ⟨?_, .inr ⟨_, cap, cur, rfl, heap_alloc_new _ _, ho, hn, hm, hs, hcs⟩⟩
  rw [← hcs, List.length_take, Array.length_toList, hs]
  exact Nat.min_eq_left (Nat.mul_le_mul_right _ hn)
end

section
variable {P : Program} {w : World}
/-- What append comes to, on a slice with a mark. -/
theorem run_append_sl {o : Nat → Nat} {tg : Nat} (t ty e : TypeId) (i : TypeInfo) (z : Value) (size bytes : Nat) (ht : P.underlying t = some (.slice e)) (hi : P.info? e = some i) (hz : i.zero = some z)
    (hsize : i.size = size) (hby : i.bytes = bytes) (hzs : z.cells.size = size) (_hsz : 0 < size)
    (v : Value) (n : Nat) (xs : List Value) (hown : SlAt o w tg e size v n xs)
    (a : Addr) (m c : Nat) (news : List Value) (hl : news.length = m * size) (hnews : ∀ j u, news[j]? = some u → w.cell? (a.add j) = some u) (h1 : ∀ u ∈ news, u.oneCell' = true)
    (h63 : n + m ≤ maxLen) (hbytes : (n + m) * bytes ≤ 140737488355328) :
    ∃ v' w' o', (Builtin.append_ #[t, t] ty #[v, .slice (some a) m c]).run P w = .ok v' w' ∧ SlAt o' w' tg e size v' (n + m) (xs ++ news) ∧ Ext o o' w w' (fun x => x = tg) ∧ w.grownBy w' v.ownBlock ∧
      (v' = .slice none 0 0 ↔ v = .slice none 0 0 ∧ m = 0) := by
  subst hsize
  subst hby
  have hsmall : n + m ≤ 9223372036854775807 := by simp only [maxLen] at h63; omega
  have hlen : (xs ++ news).length = (n + m) * i.size := by rw [List.length_append, hown.1, hl, Nat.add_mul]
  have grown : ∀ (old : Nat), old < n + m →
      SlAt (upd o w.heap.size tg) (w.drew.alloc (.cells (xs.toArray ++ news.toArray ++ Builtin.zeroCells z.cells (grownCap w (n + m) old e - (n + m))) e)) tg e i.size
        (.slice (some ⟨w.heap.size, 0, none⟩) (n + m) (grownCap w (n + m) old e)) (n + m) (xs ++ news) ∧
      Ext o (upd o w.heap.size tg) w (w.drew.alloc (.cells (xs.toArray ++ news.toArray ++ Builtin.zeroCells z.cells (grownCap w (n + m) old e - (n + m))) e)) (fun x => x = tg) ∧ ∀ row, w.grownBy (w.drew.alloc (.cells (xs.toArray ++ news.toArray ++ Builtin.zeroCells z.cells (grownCap w (n + m) old e - (n + m))) e)) row := by
    intro old ho
    have hge := grownCap_ge w (n + m) old e
    have hcm : grownCap w (n + m) old e ≤ maxLen := grownCap_le_maxLen w (n + m) old e h63
    refine ⟨⟨hlen, .inr ⟨w.heap.size, _, _, rfl, heap_alloc_new w.drew _, upd_new (Nat.le_refl _), hge, hcm, ?_, ?_⟩⟩, (((Ext.refl o w _).retag tg).drew).alloc _, fun row => ⟨rfl, rfl, rfl, by simp, fun k hk _ => heap_alloc_old w.drew _ hk⟩⟩
    · simp only [Array.size_append, List.size_toArray, size_zeroCells, hzs, hown.1, hl, ← Nat.add_mul]
      congr 1
      omega
    · simp only [Array.toList_append, List.append_assoc]
      rw [← List.append_assoc, ← hlen]
      exact List.take_left
  rcases hown.2 with ⟨rfl, rfl⟩ | ⟨g, cap, cur, rfl, hg, hog, hnc, hcm, hcs, htake⟩
  · have hx : xs = [] := List.eq_nil_of_length_eq_zero (by simpa using hown.1)
    subst hx
    by_cases hm : m = 0
    · subst hm
      have hn : news = [] := List.eq_nil_of_length_eq_zero (by simpa using hl)
      subst hn
      refine ⟨.slice none 0 0, w, o, ?_, SlAt.nil o w tg e i.size, Ext.refl _ _ _, ⟨rfl, rfl, rfl, Nat.le_refl _, fun _ _ _ => rfl⟩, by simp⟩
      simp [Builtin.append_, run_underlying ht, sizeOf, typeInfo, hi, Builtin.lenOf, Builtin.firstCells, loadCells, loadCellsFrom]
    · have hr := run_append_nil (P := P) w t ty e i z ht hi hz a m c news hl hnews (by omega) (by omega) (by have hb := hbytes; simp only [Nat.zero_add] at hb; omega)
      have hgr := grown 0 (by omega)
      simp only [Nat.zero_add, List.nil_append, Array.empty_append] at hgr ⊢
      exact ⟨_, _, _, hr, hgr.1, hgr.2.1, hgr.2.2 _, by simp [hm]⟩
  · by_cases hroom : n + m ≤ cap
    · have hfit : n * i.size + news.length ≤ cur.size := by rw [hl, hcs, ← Nat.add_mul]; exact Nat.mul_le_mul_right _ hroom
      have hr := run_append_room (P := P) w t ty e i ht hi g n cap cur hg a m c news hl hnews h1 hroom hfit
      refine ⟨_, _, o, hr, ⟨hlen, .inr ⟨g, cap, _, rfl, setRow_heap w g cur _ e _ hg, hog, hroom, hcm, ?_, ?_⟩⟩, (Ext.refl o w _).row _ (.inl hog), ⟨rfl, rfl, rfl, by simp, fun k _ hk => setRow_other w g k _ (fun e => hk (by simp [Value.ownBlock, e]))⟩, by simp⟩
      · simp only [List.size_toArray, List.length_append, List.length_take, List.length_drop, Array.length_toList]
        omega
      · rw [htake, ← hlen]
        exact List.take_left
    · have holds : ∀ j u, xs[j]? = some u → w.cell? ((⟨g, 0, none⟩ : Addr).add j) = some u := hown.to_owns.cells (g := g) rfl
      have hr := run_append_grow (P := P) w t ty e i z ht hi hz ⟨g, 0, none⟩ n cap xs hown.1 holds a m c news hl hnews (by omega) (by omega) (growslice_fits (by omega) hbytes)
      have hgr := grown cap (by omega)
      exact ⟨_, _, _, hr, hgr.1, hgr.2.1, hgr.2.2 _, by simp⟩

theorem wpList_append_sl {o : Nat → Nat} {tg : Nat} {ops : Array Oper} {rest : List Oper} {op : Oper} {a : Act} {Q : Exit → Act → World → Prop} (hgd : op.guard = none) (s x : Operand) (t : TypeId)
    (ho : op.op = .call { callee := .builtin .append, args := #[s, x], argTypes := #[t, t] })
    (e : TypeId) (i : TypeInfo) (z : Value) (size bytes : Nat) (ht : P.underlying t = some (.slice e)) (hi : P.info? e = some i) (hz : i.zero = some z)
    (hsize : i.size = size) (hby : i.bytes = bytes) (hzs : z.cells.size = size) (hsz : 0 < size)
    (v : Value) (n : Nat) (xs : List Value) (hs : a.eval s = v) (hown : SlAt o w tg e size v n xs)
    (ad : Addr) (m c : Nat) (news : List Value) (hx : a.eval x = .slice (some ad) m c) (hl : news.length = m * size) (hnews : ∀ j u, news[j]? = some u → w.cell? (ad.add j) = some u) (h1 : ∀ u ∈ news, u.oneCell' = true)
    (h63 : n + m ≤ maxLen) (hbytes : (n + m) * bytes ≤ 140737488355328)
    (h : ∀ v' w' o', SlAt o' w' tg e size v' (n + m) (xs ++ news) → Ext o o' w w' (fun x => x = tg) → w.grownBy w' v.ownBlock → (v' = .slice none 0 0 ↔ v = .slice none 0 0 ∧ m = 0) → wpList P ops Q rest (a.put op.dst v') w') :
    wpList P ops Q (op :: rest) a w := by
  refine wpList_plain hgd fun K hK => ?_
  obtain ⟨v', w', o', hr, h2, h3, h5, h4⟩ := run_append_sl (P := P) t op.type e i z size bytes ht hi hz hsize hby hzs hsz v n xs hown ad m c news hl hnews h1 h63 hbytes
  unfold Oper.wp execOp
  simp only [ho, resolve, invoke, builtin, Sem.run_bind, Sem.run_pure, Result.andThen_ok, List.map_toArray, List.map_cons, List.map_nil, hs, hx, hr]
  exact hK _ _ (h v' w' o' h2 h3 h5 h4)
end

section
variable {P : Program} {w : World}
/-- The same, where what is appended is a slice that may be nil. -/
theorem run_append_src {o : Nat → Nat} {tg tg2 : Nat} (t ty e : TypeId) (i : TypeInfo) (z : Value) (size bytes : Nat) (ht : P.underlying t = some (.slice e)) (hi : P.info? e = some i) (hz : i.zero = some z)
    (hsize : i.size = size) (hby : i.bytes = bytes) (hzs : z.cells.size = size) (hsz : 0 < size)
    (v : Value) (n : Nat) (xs : List Value) (hown : SlAt o w tg e size v n xs)
    (v2 : Value) (m : Nat) (news : List Value) (hsrc : SlAt o w tg2 e size v2 m news) (h1 : ∀ u ∈ news, u.oneCell' = true)
    (h63 : n + m ≤ maxLen) (hbytes : (n + m) * bytes ≤ 140737488355328) :
    ∃ v' w' o', (Builtin.append_ #[t, t] ty #[v, v2]).run P w = .ok v' w' ∧ SlAt o' w' tg e size v' (n + m) (xs ++ news) ∧ Ext o o' w w' (fun x => x = tg) ∧ w.grownBy w' v.ownBlock ∧
      (v' = .slice none 0 0 ↔ v = .slice none 0 0 ∧ m = 0) := by
  rcases hsrc.2 with ⟨rfl, rfl⟩ | ⟨g, cap, cur, rfl, hg, hog, hnc, hcm, hcs, htake⟩
  · have hn : news = [] := List.eq_nil_of_length_eq_zero (by simpa using hsrc.1)
    subst hn
    refine ⟨v, w, o, ?_, by simpa using hown, Ext.refl _ _ _, ⟨rfl, rfl, rfl, Nat.le_refl _, fun _ _ _ => rfl⟩, by simp⟩
    rcases hown.2 with ⟨rfl, rfl⟩ | ⟨g, cap, cur, rfl, hg, hog, hnc, hcm, hcs, htake⟩
    · simp [Builtin.append_, run_underlying ht, sizeOf, typeInfo, hi, Builtin.lenOf, Builtin.firstCells]
    · have hst := run_storeCells_at P g (n * i.size) e [] 0 cur w hg (by simp; rw [hcs, hsize]; exact Nat.mul_le_mul_right _ hnc) (by simp)
      simp [Builtin.append_, run_underlying ht, sizeOf, typeInfo, hi, Builtin.lenOf, Builtin.firstCells, hnc, storeCells, Addr.add_lit]
  · exact run_append_sl t ty e i z size bytes ht hi hz hsize hby hzs hsz v n xs hown ⟨g, 0, none⟩ m cap news hsrc.1 (hsrc.to_owns.cells (g := g) rfl) h1 h63 hbytes

theorem wpList_append_src {o : Nat → Nat} {tg tg2 : Nat} {ops : Array Oper} {rest : List Oper} {op : Oper} {a : Act} {Q : Exit → Act → World → Prop} (hgd : op.guard = none) (s x : Operand) (t : TypeId)
    (ho : op.op = .call { callee := .builtin .append, args := #[s, x], argTypes := #[t, t] })
    (e : TypeId) (i : TypeInfo) (z : Value) (size bytes : Nat) (ht : P.underlying t = some (.slice e)) (hi : P.info? e = some i) (hz : i.zero = some z)
    (hsize : i.size = size) (hby : i.bytes = bytes) (hzs : z.cells.size = size) (hsz : 0 < size)
    (v : Value) (n : Nat) (xs : List Value) (hs : a.eval s = v) (hown : SlAt o w tg e size v n xs)
    (v2 : Value) (m : Nat) (news : List Value) (hx : a.eval x = v2) (hsrc : SlAt o w tg2 e size v2 m news) (h1 : ∀ u ∈ news, u.oneCell' = true)
    (h63 : n + m ≤ maxLen) (hbytes : (n + m) * bytes ≤ 140737488355328)
    (h : ∀ v' w' o', SlAt o' w' tg e size v' (n + m) (xs ++ news) → Ext o o' w w' (fun x => x = tg) → w.grownBy w' v.ownBlock → (v' = .slice none 0 0 ↔ v = .slice none 0 0 ∧ m = 0) → wpList P ops Q rest (a.put op.dst v') w') :
    wpList P ops Q (op :: rest) a w := by
  refine wpList_plain hgd fun K hK => ?_
  obtain ⟨v', w', o', hr, h2, h3, h5, h4⟩ := run_append_src (P := P) t op.type e i z size bytes ht hi hz hsize hby hzs hsz v n xs hown v2 m news hsrc h1 h63 hbytes
  unfold Oper.wp execOp
  simp only [ho, resolve, invoke, builtin, Sem.run_bind, Sem.run_pure, Result.andThen_ok, List.map_toArray, List.map_cons, List.map_nil, hs, hx, hr]
  exact hK _ _ (h v' w' o' h2 h3 h5 h4)

theorem wpList_push {o : Nat → Nat} {tg : Nat} {ops : Array Oper} {rest : List Oper} {op : Oper} {a : Act} {Q : Exit → Act → World → Prop} (hgd : op.guard = none) (s x : Operand) (t : TypeId)
    (ho : op.op = .call { callee := .builtin .append, args := #[s, x], argTypes := #[t, t] })
    (e : TypeId) (i : TypeInfo) (z : Value) (size bytes : Nat) (ht : P.underlying t = some (.slice e)) (hi : P.info? e = some i) (hz : i.zero = some z)
    (hsize : i.size = size) (hby : i.bytes = bytes) (hzs : z.cells.size = size) (hsz : 0 < size)
    (v : Value) (n : Nat) (xs : List Value) (hs : a.eval s = v) (hown : SlAt o w tg e size v n xs)
    (g c : Nat) (news : Array Value) (hx : a.eval x = .slice (some ⟨g, 0, none⟩) 1 c) (hg : blk w g = some (.cells news e (0, 0))) (hl : news.size = size) (h1 : ∀ u ∈ news.toList, u.oneCell' = true)
    (h63 : n + 1 ≤ maxLen) (hbytes : (n + 1) * bytes ≤ 140737488355328)
    (h : ∀ v' w' o', SlAt o' w' tg e size v' (n + 1) (xs ++ news.toList) → Ext o o' w w' (fun x => x = tg) → w.grownBy w' v.ownBlock → v' ≠ .slice none 0 0 → wpList P ops Q rest (a.put op.dst v') w') :
    wpList P ops Q (op :: rest) a w := by
  refine wpList_append_sl hgd s x t ho e i z size bytes ht hi hz hsize hby hzs hsz v n xs hs hown ⟨g, 0, none⟩ 1 c news.toList hx (by simpa using hl) (fun j u hj => ?_) h1 h63 hbytes fun v' w' o' a1 a2 a3 a4 => h v' w' o' a1 a2 a3 (by rw [Ne, a4]; simp)
  have hadd : (⟨g, 0, none⟩ : Addr).add j = ⟨g, j, none⟩ := by unfold Addr.add; split <;> simp_all
  rw [hadd, cellq, hg]
  simpa [cellOf] using hj

theorem zeroCells_one (u : Value) (n : Nat) : Builtin.zeroCells #[u] n = (List.replicate n u).toArray := by
  apply Array.ext'
  simp only [Builtin.zeroCells]
  apply List.ext_getElem
  · simp
  · intro j h1 h2
    simp [Nat.mod_one]

/-- What 'append(xs, make([]T, m)...)' comes to, T of one cell. -/
theorem run_append_zeros {o : Nat → Nat} {tg : Nat} (t ty e it : TypeId) (kd kv : IntKind) (i : TypeInfo) (z : Value) (bytes : Nat) (ht : P.underlying t = some (.slice e)) (hit : P.underlying it = some (.int kd)) (hi : P.info? e = some i) (hz : i.zero = some z)
    (hsize : i.size = 1) (hby : i.bytes = bytes) (u : Value) (hzs : z.cells = #[u]) (h1 : u.oneCell' = true)
    (v : Value) (n : Nat) (xs : List Value) (hown : SlAt o w tg e 1 v n xs) (m : Nat)
    (h63 : n + m ≤ maxLen) (hbytes : (n + m) * bytes ≤ 140737488355328) :
    ∃ v' w' o', (Builtin.append_ #[t, it] ty #[v, .int kv (m : Int)]).run P w = .ok v' w' ∧ SlAt o' w' tg e 1 v' (n + m) (xs ++ List.replicate m u) ∧ Ext o o' w w' (fun x => x = tg) ∧ w.grownBy w' v.ownBlock := by
  subst hby
  have hsmall : n + m ≤ 9223372036854775807 := by simp only [maxLen] at h63; omega
  have hwrap : IntKind.i64.wrap (m : Int) = m := by rw [IntKind.wrap_i64]; omega
  have hb2 : ¬ (281474976710656 < (m : Int) * (i.bytes : Int)) := by
    have h2 : m * i.bytes ≤ 140737488355328 := Nat.le_trans (Nat.mul_le_mul_right _ (by omega)) hbytes
    have h3 : ((m * i.bytes : Nat) : Int) ≤ 140737488355328 := by omega
    rw [Int.natCast_mul] at h3
    omega
  have h0 : ¬ ((m : Int) < 0) := by omega
  have hlen : (xs ++ List.replicate m u).length = (n + m) * 1 := by rw [List.length_append, hown.1]; simp
  have hzc : Builtin.zeroCells #[u] m = (List.replicate m u).toArray := zeroCells_one u m
  have grown : ∀ (old : Nat), old < n + m →
      SlAt (upd o w.heap.size tg) (w.drew.alloc (.cells (xs.toArray ++ (List.replicate m u).toArray ++ Builtin.zeroCells z.cells (grownCap w (n + m) old e - (n + m))) e)) tg e 1
        (.slice (some ⟨w.heap.size, 0, none⟩) (n + m) (grownCap w (n + m) old e)) (n + m) (xs ++ List.replicate m u) ∧
      Ext o (upd o w.heap.size tg) w (w.drew.alloc (.cells (xs.toArray ++ (List.replicate m u).toArray ++ Builtin.zeroCells z.cells (grownCap w (n + m) old e - (n + m))) e)) (fun x => x = tg) ∧ ∀ row, w.grownBy (w.drew.alloc (.cells (xs.toArray ++ (List.replicate m u).toArray ++ Builtin.zeroCells z.cells (grownCap w (n + m) old e - (n + m))) e)) row := by
    intro old ho
    have hge := grownCap_ge w (n + m) old e
    have hcm : grownCap w (n + m) old e ≤ maxLen := grownCap_le_maxLen w (n + m) old e h63
    refine ⟨⟨hlen, .inr ⟨w.heap.size, _, _, rfl, heap_alloc_new w.drew _, upd_new (Nat.le_refl _), hge, hcm, ?_, ?_⟩⟩, (((Ext.refl o w _).retag tg).drew).alloc _, fun row => ⟨rfl, rfl, rfl, by simp, fun k hk _ => heap_alloc_old w.drew _ hk⟩⟩
    · simp only [Array.size_append, List.size_toArray, size_zeroCells, hzs, hown.1]
      simp
      omega
    · simp only [Array.toList_append]
      rw [← hlen]
      exact List.take_left
  by_cases hm : m = 0
  · subst hm
    have hw0 : IntKind.i64.wrap 0 = 0 := by rw [IntKind.wrap_i64]; omega
    refine ⟨v, w, o, ?_, by simpa using hown, Ext.refl _ _ _, ⟨rfl, rfl, rfl, Nat.le_refl _, fun _ _ _ => rfl⟩⟩
    rcases hown.2 with ⟨rfl, rfl⟩ | ⟨g, cap, cur, rfl, hg, hog, hnc, hcm, hcs, htake⟩
    · simp [Builtin.append_, run_underlying ht, run_underlying hit, sizeOf, typeInfo, hi, asInt, asIntOf, hw0]
    · have hst := run_storeCells_at P g (n * i.size) e [] 0 cur w hg (by simp; rw [hcs, hsize]; exact Nat.mul_le_mul_right _ hnc) (by simp)
      simp [Builtin.append_, run_underlying ht, run_underlying hit, sizeOf, typeInfo, hi, hnc, storeCells, Addr.add_lit, asInt, asIntOf, hw0]
  · rcases hown.2 with ⟨rfl, rfl⟩ | ⟨g, cap, cur, rfl, hg, hog, hnc, hcm, hcs, htake⟩
    · have hx : xs = [] := List.eq_nil_of_length_eq_zero (by simpa using hown.1)
      subst hx
      have hgr := grown 0 (by omega)
      simp only [Nat.zero_add, List.nil_append, Array.empty_append] at hgr ⊢
      refine ⟨_, _, _, ?_, hgr.1, hgr.2.1, hgr.2.2 _⟩
      have h48' : ¬ (281474976710656 < Builtin.nextslicecap m 0 * i.bytes) := by
        have := growslice_fits (need := m) (old := 0) (bytes := i.bytes) (by omega) (by simpa using hbytes)
        omega
      have h64 : ¬ (9223372036854775807 < (m : Int)) := by omega
      simp [Builtin.append_, run_underlying ht, run_underlying hit, sizeOf, typeInfo, zeroValue, hi, hz, hm, hsize, h48', h64, Question.forced, newRow, grownCap, asInt, asIntOf, hwrap, h0, hb2, hzs, hzc, Builtin.firstCells]
    · by_cases hroom : n + m ≤ cap
      · have hst := run_storeCells_at P g n e (List.replicate m u) 0 cur w hg (by simp [hcs]; omega) (by simp; intro _; exact h1)
        refine ⟨_, w.setRow g (cur.toList.take n ++ List.replicate m u ++ cur.toList.drop (n + m)).toArray, o, ?_, ⟨hlen, .inr ⟨g, cap, _, rfl, setRow_heap w g cur _ e _ hg, hog, hroom, hcm, ?_, ?_⟩⟩, (Ext.refl o w _).row _ (.inl hog), ⟨rfl, rfl, rfl, by simp, fun k _ hk => setRow_other w g k _ (fun e => hk (by simp [Value.ownBlock, e]))⟩⟩
        · simp only [Nat.add_zero, List.length_replicate] at hst
          simp [Builtin.append_, run_underlying ht, run_underlying hit, sizeOf, typeInfo, zeroValue, hi, hz, hm, hsize, Addr.add_lit, hroom, asInt, asIntOf, hwrap, h0, hb2, hzs, hzc, hst]
        · simp only [List.size_toArray, List.length_append, List.length_take, List.length_drop, Array.length_toList, List.length_replicate]
          omega
        · have h5 : List.take n cur.toList = xs := by simpa using htake
          rw [h5, ← hlen]
          exact List.take_left
      · have hgr := grown cap (by omega)
        refine ⟨_, _, _, ?_, hgr.1, hgr.2.1, hgr.2.2 _⟩
        have h48' : ¬ (281474976710656 < Builtin.nextslicecap (n + m) cap * i.bytes) := by
          have := growslice_fits (need := n + m) (old := cap) (bytes := i.bytes) (by omega) hbytes
          omega
        have h64 : ¬ (9223372036854775807 < ((n : Int) + (m : Int))) := by omega
        have hfo := run_firstCells_some (P := P) w.drew 1 n ⟨g, 0, none⟩ n cap xs hown.1 (by simpa using hown.to_owns.cells (g := g) rfl)
        simp [Builtin.append_, run_underlying ht, run_underlying hit, sizeOf, typeInfo, zeroValue, hi, hz, hm, hsize, h48', h64, hroom, Question.forced, newRow, grownCap, asInt, asIntOf, hwrap, h0, hb2, hzs, hzc, hfo]

theorem wpList_append_zeros {o : Nat → Nat} {tg : Nat} {ops : Array Oper} {rest : List Oper} {op : Oper} {a : Act} {Q : Exit → Act → World → Prop} (hgd : op.guard = none) (s x : Operand) (t it : TypeId)
    (ho : op.op = .call { callee := .builtin .append, args := #[s, x], argTypes := #[t, it] })
    (e : TypeId) (kd kv : IntKind) (i : TypeInfo) (z : Value) (bytes : Nat) (ht : P.underlying t = some (.slice e)) (hit : P.underlying it = some (.int kd)) (hi : P.info? e = some i) (hz : i.zero = some z)
    (hsize : i.size = 1) (hby : i.bytes = bytes) (u : Value) (hzs : z.cells = #[u]) (h1 : u.oneCell' = true)
    (v : Value) (n : Nat) (xs : List Value) (hs : a.eval s = v) (hown : SlAt o w tg e 1 v n xs) (m : Nat) (l : Int) (hx : a.eval x = .int kv l) (hlm : l = (m : Int))
    (h63 : n + m ≤ maxLen) (hbytes : (n + m) * bytes ≤ 140737488355328)
    (h : ∀ v' w' o', SlAt o' w' tg e 1 v' (n + m) (xs ++ List.replicate m u) → Ext o o' w w' (fun x => x = tg) → w.grownBy w' v.ownBlock → wpList P ops Q rest (a.put op.dst v') w') :
    wpList P ops Q (op :: rest) a w := by
  subst hlm
  refine wpList_plain hgd fun K hK => ?_
  obtain ⟨v', w', o', hr, h2, h3, h4⟩ := run_append_zeros (P := P) t op.type e it kd kv i z bytes ht hit hi hz hsize hby u hzs h1 v n xs hown m h63 hbytes
  unfold Oper.wp execOp
  simp only [ho, resolve, invoke, builtin, Sem.run_bind, Sem.run_pure, Result.andThen_ok, List.map_toArray, List.map_cons, List.map_nil, hs, hx, hr]
  exact hK _ _ (h v' w' o' h2 h3 h4)
end

theorem ne_of_type {w : World} {b g : Nat} {c c' : Array Value} {T T' : TypeId} {f f' : Nat × Nat} (hb : blk w b = some (.cells c T f)) (hg : blk w g = some (.cells c' T' f')) (h : T ≠ T') : b ≠ g := by
  rintro rfl
  rw [hb] at hg
  simp at hg
  exact h hg.2.1

/-- A block of another type is no part of a slice. -/
theorem SlAt.apart {o : Nat → Nat} {w : World} {t : Nat} {T : TypeId} {k : Nat} {v : Value} {n : Nat} {cs : List Value} (h : SlAt o w t T k v n cs) {b : Nat} {c : Array Value} {T' : TypeId} {f : Nat × Nat}
    (hb : blk w b = some (.cells c T' f)) (hne : T' ≠ T) : some b ≠ v.ownBlock := by
  rcases h.2 with ⟨rfl, _⟩ | ⟨g, cap, cur, rfl, hg, _⟩
  · simp [Value.ownBlock]
  · simp only [Value.ownBlock]
    intro e
    simp at e
    exact ne_of_type hb hg hne e
theorem blk_grown {w w' : World} {row : Option Nat} (h : w.grownBy w' row) {b : Nat} {x : Obj} (hb : blk w b = some x) (hne : some b ≠ row) : blk w' b = some x := (h.block b (lt_of_blk hb) hne).trans hb

theorem StAt.grown {o o' : Nat → Nat} {w w' : World} {t b : Nat} {cs : Array Value} {T : TypeId} {S : Nat → Prop} {row : Option Nat} (h : StAt o w t b cs T) (e : Ext o o' w w' S) (hg : w.grownBy w' row) (hne : some b ≠ row) : StAt o' w' t b cs T :=
  ⟨blk_grown hg h.heap hne, e.tag h.heap h.tag⟩
theorem StAt.put_far {o : Nat → Nat} {w : World} {t b : Nat} {cs : Array Value} {T : TypeId} (h : StAt o w t b cs T) {g i : Nat} {u : Value} (hne : b ≠ g) : StAt o (w.setCell ⟨g, i, none⟩ u) t b cs T :=
  ⟨by rw [blk_put_other _ _ _ _ _ hne]; exact h.heap, h.tag⟩

/-- A store into another block. -/
theorem SlAt.put_far {o : Nat → Nat} {w : World} {t : Nat} {T : TypeId} {k : Nat} {v : Value} {n : Nat} {cs : List Value} (h : SlAt o w t T k v n cs) {b i : Nat} {u : Value} (hne : some b ≠ v.ownBlock) :
    SlAt o (w.setCell ⟨b, i, none⟩ u) t T k v n cs := by
  refine ⟨h.1, ?_⟩
  rcases h.2 with h0 | ⟨g, cap, cur, rfl, hg, h1⟩
  · exact .inl h0
  · exact .inr ⟨g, cap, cur, rfl, by rw [blk_put_other _ _ _ _ _ (fun e => hne (by simp [Value.ownBlock, e]))]; exact hg, h1⟩

/-- A store into an owned row of one-cell elements. -/
theorem SlAt.put1 {o : Nat → Nat} {w : World} {t : Nat} {T : TypeId} {g n cap : Nat} {cs : List Value} (h : SlAt o w t T 1 (.slice (some ⟨g, 0, none⟩) n cap) n cs) (i : Nat) (_hi : i < n) (u : Value) :
    SlAt o (w.setCell ⟨g, i, none⟩ u) t T 1 (.slice (some ⟨g, 0, none⟩) n cap) n (cs.set i u) := by
  refine ⟨by rw [List.length_set]; exact h.1, ?_⟩
  rcases h.2 with ⟨h0, _⟩ | ⟨g', cap', cur, hv, hg, hog, h1, h2, h3, h4⟩
  · simp at h0
  · simp at hv
    obtain ⟨rfl, rfl⟩ := hv
    refine .inr ⟨g, cap, cur.setIfInBounds i u, rfl, ?_, hog, h1, h2, by simpa using h3, ?_⟩
    · rw [blk_put_same, hg]; rfl
    · rw [← h4]
      simp [List.take_set]

/-- A callee that leaves the world alone, in a region that draws its order. -/
theorem quiet_left {P : Program} {f : FuncId} {args : Array Value} {w : World} {n : Nat} {v : Value} (h : Calls P f args (w.drewN n) fun e w' => e = .returned v ∧ w.drewN n = w') :
    Calls P f args (w.drewN n) fun e w'' => e = .returned v ∧ ∃ m, w'' = w.drewN m := h.mono fun _ _ ⟨he, hm⟩ => ⟨he, n, hm.symm⟩
theorem quiet_more {P : Program} {f : FuncId} {args : Array Value} {w : World} {a n : Nat} {v : Value} (h : Calls P f args (w.drewN (a + n)) fun e w' => e = .returned v ∧ w.drewN (a + n) = w') :
    Calls P f args (w.drewN (a + n)) fun e w'' => e = .returned v ∧ ∃ m, w'' = w.drewN (a + m) := h.mono fun _ _ ⟨he, hm⟩ => ⟨he, n, hm.symm⟩

/-- A slice that came in: its rows of k cells each, in blocks below B. -/
def FrAt (w : World) (B : Nat) (k : Nat) (v : Value) (rows : List (List Value)) : Prop :=
  ∃ a cap, v = .slice a rows.length cap ∧ rows.length ≤ 9223372036854775807 ∧ ∀ i, i < rows.length → ∃ b off, a = some ⟨b, off, none⟩ ∧ b < B ∧ ∀ j, j < k → ∃ x, (rows.getD i [])[j]? = some x ∧ cellOf (blk w b) (off + i * k + j) = some x
theorem FrAt.below {w w' : World} {B k : Nat} {v : Value} {rows : List (List Value)} (h : FrAt w B k v rows) (hb : Below B w w') : FrAt w' B k v rows := by
  obtain ⟨a, cap, hv, hn, hr⟩ := h
  refine ⟨a, cap, hv, hn, fun i hi => ?_⟩
  obtain ⟨b, off, ha, hlt, hc⟩ := hr i hi
  refine ⟨b, off, ha, hlt, fun j hj => ?_⟩
  obtain ⟨x, h1, h2⟩ := hc j hj
  refine ⟨x, h1, ?_⟩
  have : blk w' b = blk w b := hb.block b hlt
  rw [this]
  exact h2

#print axioms wpList_append_sl
#print axioms wpList_append_zeros
end Go.Proofs.YtcgfknpobifecaaGreat
