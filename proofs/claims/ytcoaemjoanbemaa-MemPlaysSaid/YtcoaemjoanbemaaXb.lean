/- What each function of the package cells comes to, over an abstract list of numbers. Condition: the receiver is such a block. What each function of the package locks comes to, over an abstract list of holders. Condition: the receiver is such a block. Plain laws on a binary heap in a list: what up and down keep. No program. -/
import Derived.Test.YtcoaemjoanbemaaProg
import Derived.Test.YtcoaemjoanbemaaHp
namespace Go.Proofs.Ytcoaemjoanbemaa
open Go.RowKit

theorem u64_info : (Try.prog.info? 30).map (fun i => (i.zero, i.size, i.bytes)) = some (some (.int .u64 0), 1, 8) := by kernel_rfl

/-- Cells at block b: the words xs. -/
def CellsAt (o : Nat → Nat) (w : World) (t b : Nat) (xs : List Int) : Prop :=
  ∃ v, StAt o w t b #[v] 118 ∧ SlAt o w t 30 1 v xs.length (xs.map (Value.int .u64))

theorem CellsAt.ext {o o' : Nat → Nat} {w w' : World} {t b : Nat} {xs : List Int} {S : Nat → Prop} (h : CellsAt o w t b xs) (e : Ext o o' w w' S) (hs : ¬ S t) : CellsAt o' w' t b xs := by
  obtain ⟨v, h1, h2⟩ := h
  exact ⟨v, h1.ext e hs, h2.ext e hs⟩

theorem madeCells_one (v : Value) (hv : v.cells = #[v]) (n : Nat) : (madeCells v.cells n).toList = List.replicate n v := by
  rw [hv]
  unfold madeCells
  apply List.ext_getElem
  · simp
  · intro i h1 h2
    simp [Nat.mod_one]

set_option maxHeartbeats 400000 in
theorem cells_new_no (n : Int) (h : n < 0 ∨ 1048576 < n) (w : World) :
    Calls Try.prog 59 #[.int .i64 n] w fun e w' => e = .returned (.tuple #[.pointer none, .int .i64 2]) ∧ w = w' := by
  rcases h with h | h
  · go_enter Try.func59, Try.ntmps59
    go_wp2
    go_ret2
    exact ⟨rfl, rfl⟩
  · have h' : ¬ n < 0 := by omega
    go_enter Try.func59, Try.ntmps59
    go_wp2
    go_ret2
    exact ⟨rfl, rfl⟩

def CellsNew (o : Nat → Nat) (t : Nat) (n : Int) (w : World) (e : Ending) (w' : World) : Prop :=
  ∃ o' b, e = .returned (.tuple #[.pointer (some ⟨b, 0, none⟩), .int .i64 0]) ∧ CellsAt o' w' t b (List.replicate n.toNat 0) ∧ Ext o o' w w' (fun _ => False)

set_option maxHeartbeats 400000 in
theorem cells_new_ok (o : Nat → Nat) (t : Nat) (n : Int) (h0 : 0 ≤ n) (h1 : n ≤ 1048576) (w : World) :
    Calls Try.prog 59 #[.int .i64 n] w (CellsNew o t n w) := by
  obtain ⟨i0, hi, hz0, hz1, hz2⟩ := info_parts u64_info
  have hmk := fun W => run_make (P := Try.prog) W 50 30 i0 (.int .u64 0) Try.underlying50 hi hz0 .i64 .i64 n n h0 (Int.le_refl _) (by rw [hz2]; omega) (by omega)
  rw [hz1] at hmk
  clear hi hz0 hz1 hz2
  go_enter Try.func59, Try.ntmps59
  go_wp2
  go_ret2
  refine ⟨upd o w.heap.size t, w.heap.size + 1, rfl, ⟨_, ⟨blk_new1 _ _ _, upd_new (by omega)⟩, ?_⟩, ((Ext.refl o w _).retag t).alloc _ |>.alloc _⟩
  have hl : (List.replicate n.toNat (0 : Int)).length = n.toNat := by simp
  rw [hl]
  refine (SlAt.made (k := 1) _ _ _ (Nat.le_refl _) ?_ ?_ ?_ (upd_new (Nat.le_refl _))).ext ((Ext.refl _ _ (fun _ => False)).alloc _) id
  · unfold maxLen; omega
  · simp [madeCells]
  · have := madeCells_one (.int .u64 0) rfl n.toNat
    show List.take _ (madeCells (Value.int IntKind.u64 0).cells n.toNat).toList = _
    rw [this]; simp

set_option maxHeartbeats 400000 in
theorem cells_len {o : Nat → Nat} {t b : Nat} {xs : List Int} {w : World} (h : CellsAt o w t b xs) :
    Calls Try.prog 58 #[.pointer (some ⟨b, 0, none⟩)] w fun e w' => e = .returned (.int .i64 xs.length) ∧ w = w' := by
  obtain ⟨v, ⟨hb, _⟩, hs⟩ := h
  obtain ⟨a, c, rfl⟩ := hs.value
  clear hs
  go_enter Try.func58, Try.ntmps58
  go_wp2
  go_ret
  exact ⟨rfl, rfl⟩

set_option maxHeartbeats 400000 in
theorem cells_wrong_no {o : Nat → Nat} {t b : Nat} {xs : List Int} {w : World} (h : CellsAt o w t b xs) (i : Int) (hi : i < 0 ∨ xs.length ≤ i) :
    Calls Try.prog 63 #[.pointer (some ⟨b, 0, none⟩), .int .i64 i] w fun e w' => e = .returned (.int .i64 2) ∧ w = w' := by
  obtain ⟨v, ⟨hb, _⟩, hs⟩ := h
  obtain ⟨a, c, rfl⟩ := hs.value
  have hle := hs.le63
  clear hs
  rcases hi with hi | hi
  · go_enter Try.func63, Try.ntmps63
    go_wp2
    go_ret
    exact ⟨rfl, rfl⟩
  · have h' : ¬ i < 0 := by omega
    go_enter Try.func63, Try.ntmps63
    go_wp2
    go_ret
    exact ⟨rfl, rfl⟩

set_option maxHeartbeats 400000 in
theorem cells_wrong_ok {o : Nat → Nat} {t b : Nat} {xs : List Int} {w : World} (h : CellsAt o w t b xs) (i : Nat) (hi : i < xs.length) :
    Calls Try.prog 63 #[.pointer (some ⟨b, 0, none⟩), .int .i64 i] w fun e w' => e = .returned (.int .i64 0) ∧ w = w' := by
  obtain ⟨v, ⟨hb, _⟩, hs⟩ := h
  obtain ⟨a, c, rfl⟩ := hs.value
  have hle := hs.le63
  clear hs
  go_enter Try.func63, Try.ntmps63
  go_wp2
  go_ret
  exact ⟨rfl, rfl⟩

set_option maxHeartbeats 400000 in
theorem cells_load_no {o : Nat → Nat} {t b : Nat} {xs : List Int} {w : World} (h : CellsAt o w t b xs) (i : Int) (hi : i < 0 ∨ xs.length ≤ i) :
    Calls Try.prog 54 #[.pointer (some ⟨b, 0, none⟩), .int .i64 i] w fun e w' => e = .returned (.tuple #[.int .u64 0, .int .i64 2]) ∧ w = w' := by
  have c := cells_wrong_no h i hi
  go_enter Try.func54, Try.ntmps54
  go_wp2_with (go_at_call 63; refine c.mono ?_; rintro e w' ⟨rfl, rfl⟩)
  go_ret2
  exact ⟨rfl, rfl⟩

set_option maxHeartbeats 400000 in
theorem cells_load_ok {o : Nat → Nat} {t b : Nat} {xs : List Int} {w : World} (h : CellsAt o w t b xs) (i : Nat) (hi : i < xs.length) :
    Calls Try.prog 54 #[.pointer (some ⟨b, 0, none⟩), .int .i64 i] w fun e w' => e = .returned (.tuple #[.int .u64 xs[i], .int .i64 0]) ∧ w = w' := by
  have c := cells_wrong_ok h i hi
  obtain ⟨v, ⟨hb, _⟩, hs⟩ := h
  obtain ⟨g, cap, cur, rfl, hg, hog, h1, h2, h3, h4⟩ := hs.row (by omega)
  have h2 : cap ≤ 9223372036854775807 := by simp only [maxLen] at h2; omega
  have hc : cur[i]? = some (.int .u64 xs[i]) := cur_at h4 (by simp [hi])
  clear hs h4 h3 hog
  generalize xs[i] = x at *
  generalize xs.length = n at *
  go_enter Try.func54, Try.ntmps54
  go_wp2_with (go_at_call 63; refine c.mono ?_; rintro e w' ⟨rfl, rfl⟩)
  go_ret2
  exact ⟨rfl, rfl⟩

theorem map_set_int (xs : List Int) (i : Nat) (v : Int) (k : IntKind) : (xs.map (Value.int k)).set i (.int k v) = (xs.set i v).map (Value.int k) := by rw [List.map_set]

set_option maxHeartbeats 400000 in
theorem cells_store_no {o : Nat → Nat} {t b : Nat} {xs : List Int} {w : World} (h : CellsAt o w t b xs) (i v : Int) (hi : i < 0 ∨ xs.length ≤ i) :
    Calls Try.prog 23 #[.pointer (some ⟨b, 0, none⟩), .int .i64 i, .int .u64 v] w fun e w' => e = .returned (.int .i64 2) ∧ w = w' := by
  have c := cells_wrong_no h i hi
  go_enter Try.func23, Try.ntmps23
  go_wp2_with (go_at_call 63; refine c.mono ?_; rintro e w' ⟨rfl, rfl⟩)
  go_ret
  exact ⟨rfl, rfl⟩

/-- What a write of cells leaves. -/
def CellsPost (o : Nat → Nat) (t b : Nat) (xs : List Int) (r : Value) (w : World) (e : Ending) (w' : World) : Prop :=
  ∃ o', e = .returned r ∧ CellsAt o' w' t b xs ∧ Ext o o' w w' (fun x => x = t)

theorem CellsAt.put {o : Nat → Nat} {w : World} {t b g n cap : Nat} {xs : List Int} (hb : StAt o w t b #[.slice (some ⟨g, 0, none⟩) n cap] 118) (hs : SlAt o w t 30 1 (.slice (some ⟨g, 0, none⟩) n cap) n (xs.map (Value.int .u64)))
    (hn : n = xs.length) (i : Nat) (hi : i < n) (v : Int) : CellsAt o (w.setCell ⟨g, i, none⟩ (.int .u64 v)) t b (xs.set i v) ∧ Ext o o w (w.setCell ⟨g, i, none⟩ (.int .u64 v)) (fun x => x = t) := by
  subst hn
  obtain ⟨g', cap', cur, hv, hg, hog, _⟩ := hs.row (by omega)
  simp at hv
  obtain ⟨rfl, rfl⟩ := hv
  refine ⟨⟨.slice (some ⟨g, 0, none⟩) xs.length cap, ⟨?_, hb.tag⟩, ?_⟩, (Ext.refl _ _ _).put _ (.inl hog)⟩
  · rw [blk_put_other _ _ _ _ _ (ne_of_type hb.heap hg (by decide))]; exact hb.heap
  · have h2 := hs.put1 i hi (.int .u64 v)
    rw [map_set_int] at h2
    simpa using h2

set_option maxHeartbeats 400000 in
theorem cells_store_ok {o : Nat → Nat} {t b : Nat} {xs : List Int} {w : World} (h : CellsAt o w t b xs) (i : Nat) (v : Int) (hi : i < xs.length) :
    Calls Try.prog 23 #[.pointer (some ⟨b, 0, none⟩), .int .i64 i, .int .u64 v] w (CellsPost o t b (xs.set i v) (.int .i64 0) w) := by
  have c := cells_wrong_ok h i hi
  obtain ⟨va, hb, hs⟩ := h
  obtain ⟨g, cap, cur, rfl, hg, hog, h1, h2, h3, h4⟩ := hs.row (by omega)
  have P := CellsAt.put hb hs rfl i hi v
  have h2 : cap ≤ 9223372036854775807 := by simp only [maxLen] at h2; omega
  have hc : cur[i]? = some (.int .u64 xs[i]) := cur_at h4 (by simp [hi])
  have hb' := hb.heap
  clear hs h4 h3 hog hb
  generalize xs[i] = x at *
  have P := hide P
  go_enter Try.func23, Try.ntmps23
  go_wp2_with (go_at_call 63; refine c.mono ?_; rintro e w' ⟨rfl, rfl⟩)
  go_ret
  exact ⟨o, rfl, P.out.1, P.out.2⟩

set_option maxHeartbeats 400000 in
theorem cells_add_no {o : Nat → Nat} {t b : Nat} {xs : List Int} {w : World} (h : CellsAt o w t b xs) (i v : Int) (hi : i < 0 ∨ xs.length ≤ i) :
    Calls Try.prog 75 #[.pointer (some ⟨b, 0, none⟩), .int .i64 i, .int .u64 v] w fun e w' => e = .returned (.tuple #[.int .u64 0, .int .i64 2]) ∧ w = w' := by
  have c := cells_wrong_no h i hi
  go_enter Try.func75, Try.ntmps75
  go_wp2_with (go_at_call 63; refine c.mono ?_; rintro e w' ⟨rfl, rfl⟩)
  go_ret2
  exact ⟨rfl, rfl⟩

theorem getElem_set_self' (cur : Array Value) (i : Nat) (u v : Value) (h : cur[i]? = some u) : (cur.setIfInBounds i v)[i]? = some v := by
  have hlt : i < cur.size := (Array.getElem?_eq_some_iff.1 h).1
  simp [hlt]

set_option maxHeartbeats 400000 in
theorem cells_add_ok {o : Nat → Nat} {t b : Nat} {xs : List Int} {w : World} (h : CellsAt o w t b xs) (i : Nat) (v : Int) (hi : i < xs.length) :
    Calls Try.prog 75 #[.pointer (some ⟨b, 0, none⟩), .int .i64 i, .int .u64 v] w
      (CellsPost o t b (xs.set i (IntKind.u64.wrap (xs[i] + v))) (.tuple #[.int .u64 (IntKind.u64.wrap (xs[i] + v)), .int .i64 0]) w) := by
  have c := cells_wrong_ok h i hi
  obtain ⟨va, hb, hs⟩ := h
  obtain ⟨g, cap, cur, rfl, hg, hog, h1, h2, h3, h4⟩ := hs.row (by omega)
  have P := CellsAt.put hb hs rfl i hi (IntKind.u64.wrap (xs[i] + v))
  have h2 : cap ≤ 9223372036854775807 := by simp only [maxLen] at h2; omega
  have hc : cur[i]? = some (.int .u64 xs[i]) := cur_at h4 (by simp [hi])
  have hc2 := getElem_set_self' cur i _ (.int .u64 (IntKind.u64.wrap (xs[i] + v))) hc
  have hb' := hb.heap
  have hne := ne_of_type hb.heap hg (by decide)
  clear hs h4 h3 hog hb
  generalize xs[i] = x at *
  have P := hide P
  go_enter Try.func75, Try.ntmps75
  go_wp2_with (go_at_call 63; refine c.mono ?_; rintro e w' ⟨rfl, rfl⟩)
  go_ret2
  exact ⟨o, rfl, P.out.1, P.out.2⟩

set_option maxHeartbeats 400000 in
theorem cells_swap_no {o : Nat → Nat} {t b : Nat} {xs : List Int} {w : World} (h : CellsAt o w t b xs) (i u v : Int) (hi : i < 0 ∨ xs.length ≤ i) :
    Calls Try.prog 76 #[.pointer (some ⟨b, 0, none⟩), .int .i64 i, .int .u64 u, .int .u64 v] w fun e w' => e = .returned (.tuple #[.bool false, .int .i64 2]) ∧ w = w' := by
  have c := cells_wrong_no h i hi
  go_enter Try.func76, Try.ntmps76
  go_wp2_with (go_at_call 63; refine c.mono ?_; rintro e w' ⟨rfl, rfl⟩)
  go_ret2
  exact ⟨rfl, rfl⟩

set_option maxHeartbeats 400000 in
theorem cells_swap_ne {o : Nat → Nat} {t b : Nat} {xs : List Int} {w : World} (h : CellsAt o w t b xs) (i : Nat) (u v : Int) (hi : i < xs.length) (hx : xs[i] ≠ u) :
    Calls Try.prog 76 #[.pointer (some ⟨b, 0, none⟩), .int .i64 i, .int .u64 u, .int .u64 v] w fun e w' => e = .returned (.tuple #[.bool false, .int .i64 0]) ∧ w = w' := by
  have c := cells_wrong_ok h i hi
  obtain ⟨va, hb, hs⟩ := h
  obtain ⟨g, cap, cur, rfl, hg, hog, h1, h2, h3, h4⟩ := hs.row (by omega)
  have h2 : cap ≤ 9223372036854775807 := by simp only [maxLen] at h2; omega
  have hc : cur[i]? = some (.int .u64 xs[i]) := cur_at h4 (by simp [hi])
  have hb' := hb.heap
  clear hs h4 h3 hog hb
  generalize xs[i] = x at *
  have hx' : (x != u) = true := by simp [hx]
  go_enter Try.func76, Try.ntmps76
  go_wp2_with (go_at_call 63; refine c.mono ?_; rintro e w' ⟨rfl, rfl⟩)
  go_ret2
  exact ⟨rfl, rfl⟩

set_option maxHeartbeats 400000 in
theorem cells_swap_eq {o : Nat → Nat} {t b : Nat} {xs : List Int} {w : World} (h : CellsAt o w t b xs) (i : Nat) (v : Int) (hi : i < xs.length) :
    Calls Try.prog 76 #[.pointer (some ⟨b, 0, none⟩), .int .i64 i, .int .u64 xs[i], .int .u64 v] w (CellsPost o t b (xs.set i v) (.tuple #[.bool true, .int .i64 0]) w) := by
  have c := cells_wrong_ok h i hi
  obtain ⟨va, hb, hs⟩ := h
  obtain ⟨g, cap, cur, rfl, hg, hog, h1, h2, h3, h4⟩ := hs.row (by omega)
  have P := CellsAt.put hb hs rfl i hi v
  have h2 : cap ≤ 9223372036854775807 := by simp only [maxLen] at h2; omega
  have hc : cur[i]? = some (.int .u64 xs[i]) := cur_at h4 (by simp [hi])
  have hb' := hb.heap
  clear hs h4 h3 hog hb
  generalize xs[i] = x at *
  have P := hide P
  have hx' : (x != x) = false := by simp
  go_enter Try.func76, Try.ntmps76
  go_wp2_with (go_at_call 63; refine c.mono ?_; rintro e w' ⟨rfl, rfl⟩)
  go_ret2
  exact ⟨o, rfl, P.out.1, P.out.2⟩

set_option maxHeartbeats 400000 in
theorem cells_grow_no {o : Nat → Nat} {t b : Nat} {xs : List Int} {w : World} (h : CellsAt o w t b xs) (n : Int) (hn : n < 0 ∨ 1048576 - xs.length < n) :
    Calls Try.prog 62 #[.pointer (some ⟨b, 0, none⟩), .int .i64 n] w fun e w' => e = .returned (.tuple #[.int .i64 (-1), .int .i64 2]) ∧ w = w' := by
  obtain ⟨v, ⟨hb, _⟩, hs⟩ := h
  obtain ⟨a, c, rfl⟩ := hs.value
  have hle := hs.le63
  clear hs
  rcases hn with hi | hi
  · go_enter Try.func62, Try.ntmps62
    go_wp2
    go_ret2
    exact ⟨rfl, rfl⟩
  · by_cases h' : n < 0
    all_goals
      go_enter Try.func62, Try.ntmps62
      go_wp2
      go_ret2
      exact ⟨rfl, rfl⟩

/-- append(xs, make([]uint64, m)...). -/
theorem zeros_u64 {w : World} {o : Nat → Nat} {tg : Nat} {ops : Array Oper} {rest : List Oper} {op : Oper} {a : Act} {Q : Exit → Act → World → Prop} (hgd : op.guard = none) (s x : Operand)
    (ho : op.op = .call { callee := .builtin .append, args := #[s, x], argTypes := #[50, 3] })
    (v : Value) (n : Nat) (xs : List Value) (hs : a.eval s = v) (hown : SlAt o w tg 30 1 v n xs) (m : Nat) (l : Int) (hx : a.eval x = .int .i64 l) (hlm : l = (m : Int)) (hb : n + m ≤ 1073741824)
    (h : ∀ v' w' o', SlAt o' w' tg 30 1 v' (n + m) (xs ++ List.replicate m (.int .u64 0)) → Ext o o' w w' (fun x => x = tg) → w.grownBy w' v.ownBlock → wpList Try.prog ops Q rest (a.put op.dst v') w') :
    wpList Try.prog ops Q (op :: rest) a w := by
  obtain ⟨i0, hi, hz0, hz1, hz2⟩ := info_parts u64_info
  exact wpList_append_zeros hgd s x 50 3 ho 30 .i64 .i64 i0 (.int .u64 0) 8 Try.underlying50 Try.underlying3 hi hz0 hz1 hz2 (.int .u64 0) rfl rfl v n xs hs hown m l hx hlm (by simp only [maxLen]; omega) (by omega) h

set_option maxHeartbeats 400000 in
theorem cells_grow_ok {o : Nat → Nat} {t b : Nat} {xs : List Int} {w : World} (h : CellsAt o w t b xs) (n : Int) (h0 : 0 ≤ n) (hn : n ≤ 1048576 - xs.length) :
    Calls Try.prog 62 #[.pointer (some ⟨b, 0, none⟩), .int .i64 n] w (CellsPost o t b (xs ++ List.replicate n.toNat 0) (.tuple #[.int .i64 xs.length, .int .i64 0]) w) := by
  obtain ⟨v, hb, hs⟩ := h
  obtain ⟨a, c, rfl⟩ := hs.value
  have hle := hs.le63
  have hb' := hb.heap
  have hlt := lt_of_blk hb'
  have hnn : Hid (n = (n.toNat : Int)) := hide (by omega)
  have hb1 : xs.length + n.toNat ≤ 1073741824 := by omega
  go_enter Try.func62, Try.ntmps62
  go_wp2_with (at_builtin; refine zeros_u64 rfl (.tmp 28) (.tmp 29) rfl _ _ _ rfl hs n.toNat n rfl hnn.out hb1 ?_)
  intro v' w1 o1 hs1 he hg1
  have hb1 := blk_grown hg1 hb' (hs.apart hb' (by decide))
  have hne := hs1.apart hb1 (by decide)
  have ho1 := he.tag hb' hb.tag
  clear hs hb hb'
  obtain ⟨a2, c2, rfl⟩ := hs1.value
  have hs1 := hide hs1
  go_wp2
  go_ret2
  refine ⟨o1, rfl, ⟨_, ⟨by rw [blk_put_same, hb1]; rfl, ho1⟩, ?_⟩, he.put _ (.inl ho1)⟩
  have h2 := hs1.out.put_far (i := 0) (u := .slice a2 (xs.length + n.toNat) c2) hne
  simpa using h2

/- The same, the index an Int. -/
theorem cells_load {o : Nat → Nat} {t b : Nat} {xs : List Int} {w : World} (h : CellsAt o w t b xs) (i : Int) (h0 : 0 ≤ i) (hi : i < xs.length) :
    Calls Try.prog 54 #[.pointer (some ⟨b, 0, none⟩), .int .i64 i] w fun e w' => e = .returned (.tuple #[.int .u64 (xs.getD i.toNat 0), .int .i64 0]) ∧ w = w' := by
  obtain ⟨n, rfl⟩ := Int.eq_ofNat_of_zero_le h0
  have hn : n < xs.length := by omega
  have := cells_load_ok h n hn
  simpa [List.getD, List.getElem?_eq_getElem hn] using this
theorem cells_store {o : Nat → Nat} {t b : Nat} {xs : List Int} {w : World} (h : CellsAt o w t b xs) (i v : Int) (h0 : 0 ≤ i) (hi : i < xs.length) :
    Calls Try.prog 23 #[.pointer (some ⟨b, 0, none⟩), .int .i64 i, .int .u64 v] w (CellsPost o t b (xs.set i.toNat v) (.int .i64 0) w) := by
  obtain ⟨n, rfl⟩ := Int.eq_ofNat_of_zero_le h0
  exact cells_store_ok h n v (by omega)
theorem cells_add {o : Nat → Nat} {t b : Nat} {xs : List Int} {w : World} (h : CellsAt o w t b xs) (i v : Int) (h0 : 0 ≤ i) (hi : i < xs.length) :
    Calls Try.prog 75 #[.pointer (some ⟨b, 0, none⟩), .int .i64 i, .int .u64 v] w
      (CellsPost o t b (xs.set i.toNat (IntKind.u64.wrap (xs.getD i.toNat 0 + v))) (.tuple #[.int .u64 (IntKind.u64.wrap (xs.getD i.toNat 0 + v)), .int .i64 0]) w) := by
  obtain ⟨n, rfl⟩ := Int.eq_ofNat_of_zero_le h0
  have hn : n < xs.length := by omega
  have := cells_add_ok h n v hn
  simpa [List.getD, List.getElem?_eq_getElem hn] using this
theorem cells_swap_other {o : Nat → Nat} {t b : Nat} {xs : List Int} {w : World} (h : CellsAt o w t b xs) (i u v : Int) (h0 : 0 ≤ i) (hi : i < xs.length) (hx : xs.getD i.toNat 0 ≠ u) :
    Calls Try.prog 76 #[.pointer (some ⟨b, 0, none⟩), .int .i64 i, .int .u64 u, .int .u64 v] w fun e w' => e = .returned (.tuple #[.bool false, .int .i64 0]) ∧ w = w' := by
  obtain ⟨n, rfl⟩ := Int.eq_ofNat_of_zero_le h0
  have hn : n < xs.length := by omega
  exact cells_swap_ne h n u v hn (by simpa [List.getD, List.getElem?_eq_getElem hn] using hx)
theorem cells_swap {o : Nat → Nat} {t b : Nat} {xs : List Int} {w : World} (h : CellsAt o w t b xs) (i u v : Int) (h0 : 0 ≤ i) (hi : i < xs.length) (hx : xs.getD i.toNat 0 = u) :
    Calls Try.prog 76 #[.pointer (some ⟨b, 0, none⟩), .int .i64 i, .int .u64 u, .int .u64 v] w (CellsPost o t b (xs.set i.toNat v) (.tuple #[.bool true, .int .i64 0]) w) := by
  obtain ⟨n, rfl⟩ := Int.eq_ofNat_of_zero_le h0
  have hn : n < xs.length := by omega
  have hx' : u = xs[n] := by rw [← hx]; simp [hn]
  subst hx'
  exact cells_swap_eq h n v hn
end Go.Proofs.Ytcoaemjoanbemaa

namespace Go.Proofs.Ytcoaemjoanbemaa
open Go.RowKit

theorem info_int : (Try.prog.info? 3).map (fun i => (i.zero, i.size, i.bytes)) = some (some (.int .i64 0), 1, 8) := by kernel_rfl
/-- append(xs, x), elements of type int. -/
theorem push_int {w : World} {o : Nat → Nat} {tg : Nat} {ops : Array Oper} {rest : List Oper} {op : Oper} {a : Act} {Q : Exit → Act → World → Prop} (hgd : op.guard = none) (s x : Operand)
    (ho : op.op = .call { callee := .builtin .append, args := #[s, x], argTypes := #[80, 80] })
    (v : Value) (n : Nat) (xs : List Value) (hs : a.eval s = v) (hown : SlAt o w tg 3 1 v n xs) (g c : Nat) (news : Array Value) (hx : a.eval x = .slice (some ⟨g, 0, none⟩) 1 c)
    (hg : blk w g = some (.cells news 3 (0, 0))) (hl : news.size = 1) (h1 : ∀ u ∈ news.toList, u.oneCell' = true) (hb : n + 1 ≤ 1073741824)
    (h : ∀ v' w' o', SlAt o' w' tg 3 1 v' (n + 1) (xs ++ news.toList) → Ext o o' w w' (fun x => x = tg) → w.grownBy w' v.ownBlock → v' ≠ .slice none 0 0 → wpList Try.prog ops Q rest (a.put op.dst v') w') :
    wpList Try.prog ops Q (op :: rest) a w := by
  obtain ⟨i0, hi, hz0, hz1, hz2⟩ := info_parts info_int
  exact wpList_push hgd s x 80 ho 3 i0 (.int .i64 0) 1 8 Try.underlying80 hi hz0 hz1 hz2 rfl (by decide) v n xs hs hown g c news hx hg hl h1 (by simp only [maxLen]; omega) (by omega) h
/-- append(xs, ys...), elements of type int. -/
theorem src_int {w : World} {o : Nat → Nat} {tg tg2 : Nat} {ops : Array Oper} {rest : List Oper} {op : Oper} {a : Act} {Q : Exit → Act → World → Prop} (hgd : op.guard = none) (s x : Operand)
    (ho : op.op = .call { callee := .builtin .append, args := #[s, x], argTypes := #[80, 80] })
    (v : Value) (n : Nat) (xs : List Value) (hs : a.eval s = v) (hown : SlAt o w tg 3 1 v n xs) (v2 : Value) (m : Nat) (news : List Value) (hx : a.eval x = v2) (hsrc : SlAt o w tg2 3 1 v2 m news)
    (h1 : ∀ u ∈ news, u.oneCell' = true) (hb : n + m ≤ 1073741824)
    (h : ∀ v' w' o', SlAt o' w' tg 3 1 v' (n + m) (xs ++ news) → Ext o o' w w' (fun x => x = tg) → w.grownBy w' v.ownBlock → (v' = .slice none 0 0 ↔ v = .slice none 0 0 ∧ m = 0) → wpList Try.prog ops Q rest (a.put op.dst v') w') :
    wpList Try.prog ops Q (op :: rest) a w := by
  obtain ⟨i0, hi, hz0, hz1, hz2⟩ := info_parts info_int
  exact wpList_append_src hgd s x 80 ho 3 i0 (.int .i64 0) 1 8 Try.underlying80 hi hz0 hz1 hz2 rfl (by decide) v n xs hs hown v2 m news hx hsrc h1 (by simp only [maxLen]; omega) (by omega) h
/-- append(xs, ys...), elements of type int, ys wherever it lies. -/
theorem many_int {w : World} {o : Nat → Nat} {tg : Nat} {ops : Array Oper} {rest : List Oper} {op : Oper} {a : Act} {Q : Exit → Act → World → Prop} (hgd : op.guard = none) (s x : Operand)
    (ho : op.op = .call { callee := .builtin .append, args := #[s, x], argTypes := #[80, 80] })
    (v : Value) (n : Nat) (xs : List Value) (hs : a.eval s = v) (hown : SlAt o w tg 3 1 v n xs) (ad : Addr) (m c : Nat) (news : List Value) (hx : a.eval x = .slice (some ad) m c) (hl : news.length = m * 1)
    (hnews : ∀ j u, news[j]? = some u → w.cell? (ad.add j) = some u) (h1 : ∀ u ∈ news, u.oneCell' = true) (hb : n + m ≤ 1073741824)
    (h : ∀ v' w' o', SlAt o' w' tg 3 1 v' (n + m) (xs ++ news) → Ext o o' w w' (fun x => x = tg) → w.grownBy w' v.ownBlock → (v' = .slice none 0 0 ↔ v = .slice none 0 0 ∧ m = 0) → wpList Try.prog ops Q rest (a.put op.dst v') w') :
    wpList Try.prog ops Q (op :: rest) a w := by
  obtain ⟨i0, hi, hz0, hz1, hz2⟩ := info_parts info_int
  exact wpList_append_sl hgd s x 80 ho 3 i0 (.int .i64 0) 1 8 Try.underlying80 hi hz0 hz1 hz2 rfl (by decide) v n xs hs hown ad m c news hx hl hnews h1 (by simp only [maxLen]; omega) (by omega) h


/-- Locks at block b: the holders xs. -/
def LocksAt (o : Nat → Nat) (w : World) (t b : Nat) (xs : List Int) : Prop :=
  ∃ v, StAt o w t b #[v] 115 ∧ SlAt o w t 3 1 v xs.length (xs.map (Value.int .i64))

theorem LocksAt.ext {o o' : Nat → Nat} {w w' : World} {t b : Nat} {xs : List Int} {S : Nat → Prop} (h : LocksAt o w t b xs) (e : Ext o o' w w' S) (hs : ¬ S t) : LocksAt o' w' t b xs := by
  obtain ⟨v, h1, h2⟩ := h
  exact ⟨v, h1.ext e hs, h2.ext e hs⟩

theorem snocs (v : Value) (k : Nat) : List.replicate k v ++ [v] = List.replicate (k + 1) v := by rw [List.replicate_succ']

set_option maxHeartbeats 400000 in
theorem locks_new_no (n : Int) (h : n < 0 ∨ 64 < n) (w : World) :
    Calls Try.prog 60 #[.int .i64 n] w fun e w' => e = .returned (.tuple #[.pointer none, .int .i64 2]) ∧ w = w' := by
  rcases h with h | h
  · go_enter Try.func60, Try.ntmps60
    go_wp2
    go_ret2
    exact ⟨rfl, rfl⟩
  · have h' : ¬ n < 0 := by omega
    go_enter Try.func60, Try.ntmps60
    go_wp2
    go_ret2
    exact ⟨rfl, rfl⟩

def LocksNew (o : Nat → Nat) (t : Nat) (n : Int) (w : World) (e : Ending) (w' : World) : Prop :=
  ∃ o' b, e = .returned (.tuple #[.pointer (some ⟨b, 0, none⟩), .int .i64 0]) ∧ LocksAt o' w' t b (List.replicate n.toNat (-1)) ∧ Ext o o' w w' (fun x => x = t)

/-- The loop that lays the locks: k of them lie. -/
def NewRel (o : Nat → Nat) (t : Nat) (w : World) (k : Nat) (wr : World) : Prop :=
  ∃ o1 v, StAt o1 wr t w.heap.size #[v] 115 ∧ SlAt o1 wr t 3 1 v k (List.replicate k (.int .i64 (-1))) ∧ Ext o o1 w wr (fun x => x = t)

set_option maxHeartbeats 800000 in
theorem locks_new_ok (o : Nat → Nat) (t : Nat) (n : Int) (h0 : 0 ≤ n) (h1 : n ≤ 64) (w : World) :
    Calls Try.prog 60 #[.int .i64 n] w (LocksNew o t n w) := by
  obtain ⟨n, rfl⟩ := Int.eq_ofNat_of_zero_le h0
  go_enter Try.func60, Try.ntmps60
  go_wp2
  go_loopw [14] (fun i wr => ∃ k : Nat, k ≤ n ∧ i = .int .i64 k ∧ NewRel o t w k wr) (fun i _ => n - (intOf i).toNat)
  case atStart =>
    refine ⟨0, Nat.zero_le _, rfl, upd o w.heap.size t, .slice none 0 0, ⟨blk_new _ _, upd_new (Nat.le_refl _)⟩, SlAt.nil _ _ _ _ _, ((Ext.refl o w _).retag t).alloc _⟩
  case round =>
    obtain ⟨k, hk, rfl, o1, v, hst, hsl, he⟩ := hrel
    obtain ⟨va, vc, rfl⟩ := hsl.value
    have hb := hst.heap
    by_cases hlt : k < n
    · have hlt2 := hst.lt
      go_wp2_with (at_builtin; refine push_int rfl (.tmp 20) (.tmp 21) rfl _ _ _ rfl (hsl.alloc _) wr.heap.size 1 _ rfl (blk_new _ _) rfl (by simp; rfl) (by omega) ?_)
      intro v' w1 o2 hs1 he1 hg1 _
      have hst1 := (hst.alloc _).grown he1 hg1 (hsl.apart hst.heap (by decide))
      have hap := hs1.apart hst1.heap (by decide)
      have hE := (he.alloc (.cells #[.int .i64 (-1)] 3)).trans he1
      obtain ⟨va', vc', rfl⟩ := hs1.value
      rw [snocs] at hs1
      have hb1 := hst1.heap
      have hput := hst1.put 0 (.slice va' (k + 1) vc')
      have hsp := hs1.put_far (i := 0) (u := .slice va' (k + 1) vc') hap
      have hE2 : Ext o o2 w (w1.setCell ⟨w.heap.size, 0, none⟩ (.slice va' (k + 1) vc')) (fun x => x = t) := hE.put _ (.inr (Nat.le_refl _))
      clear hst hsl hb he he1 hg1 hlt2
      replace hput := hide hput
      replace hsp := hide hsp
      replace hE2 := hide hE2
      go_wp2
      go_roundw
      case rel => exact ⟨k + 1, by omega, by go_num, o2, _, hput.out, hsp.out, hE2.out⟩
      case measure => simp [intOf]; omega
    · have : k = n := by omega
      subst this
      go_wp2
      go_ret2
      exact ⟨o1, _, rfl, ⟨_, hst, by simpa using hsl⟩, he⟩

set_option maxHeartbeats 400000 in
theorem locks_len {o : Nat → Nat} {t b : Nat} {xs : List Int} {w : World} (h : LocksAt o w t b xs) :
    Calls Try.prog 17 #[.pointer (some ⟨b, 0, none⟩)] w fun e w' => e = .returned (.int .i64 xs.length) ∧ w = w' := by
  obtain ⟨v, ⟨hb, _⟩, hs⟩ := h
  obtain ⟨a, c, rfl⟩ := hs.value
  clear hs
  go_enter Try.func17, Try.ntmps17
  go_wp2
  go_ret
  exact ⟨rfl, rfl⟩

set_option maxHeartbeats 400000 in
theorem locks_has_no {o : Nat → Nat} {t b : Nat} {xs : List Int} {w : World} (h : LocksAt o w t b xs) (i : Int) (hi : i < 0 ∨ xs.length ≤ i) :
    Calls Try.prog 83 #[.pointer (some ⟨b, 0, none⟩), .int .i64 i] w fun e w' => e = .returned (.bool false) ∧ w = w' := by
  obtain ⟨v, ⟨hb, _⟩, hs⟩ := h
  obtain ⟨a, c, rfl⟩ := hs.value
  have hle := hs.le63
  clear hs
  rcases hi with hi | hi
  · have h' : ¬ 0 ≤ i := by omega
    go_enter Try.func83, Try.ntmps83
    go_wp2
    go_ret
    exact ⟨rfl, rfl⟩
  · have h' : 0 ≤ i := by omega
    have h'' : ¬ i < xs.length := by omega
    go_enter Try.func83, Try.ntmps83
    go_wp2
    go_ret
    exact ⟨by simp, rfl⟩

set_option maxHeartbeats 400000 in
theorem locks_has_ok {o : Nat → Nat} {t b : Nat} {xs : List Int} {w : World} (h : LocksAt o w t b xs) (i : Int) (h0 : 0 ≤ i) (hi : i < xs.length) :
    Calls Try.prog 83 #[.pointer (some ⟨b, 0, none⟩), .int .i64 i] w fun e w' => e = .returned (.bool true) ∧ w = w' := by
  obtain ⟨v, ⟨hb, _⟩, hs⟩ := h
  obtain ⟨a, c, rfl⟩ := hs.value
  have hle := hs.le63
  clear hs
  go_enter Try.func83, Try.ntmps83
  go_wp2
  go_ret
  exact ⟨by simp, rfl⟩

set_option maxHeartbeats 400000 in
theorem locks_holder_no {o : Nat → Nat} {t b : Nat} {xs : List Int} {w : World} (h : LocksAt o w t b xs) (i : Int) (hi : i < 0 ∨ xs.length ≤ i) :
    Calls Try.prog 79 #[.pointer (some ⟨b, 0, none⟩), .int .i64 i] w fun e w' => e = .returned (.int .i64 (-1)) ∧ w = w' := by
  have c := locks_has_no h i hi
  go_enter Try.func79, Try.ntmps79
  go_wp2_with (go_at_call 83; refine c.mono ?_; rintro e w' ⟨rfl, rfl⟩)
  go_ret
  exact ⟨rfl, rfl⟩

theorem row_at {o : Nat → Nat} {w : World} {t : Nat} {T : TypeId} {v : Value} {xs : List Int} {k : IntKind} (hs : SlAt o w t T 1 v xs.length (xs.map (Value.int k))) {i : Nat} (hi : i < xs.length) :
    ∃ g cap cur, v = .slice (some ⟨g, 0, none⟩) xs.length cap ∧ blk w g = some (.cells cur T (0, 0)) ∧ o g = t ∧ cap ≤ 9223372036854775807 ∧ xs.length ≤ cap ∧ cur[i]? = some (.int k (xs.getD i 0)) := by
  obtain ⟨g, cap, cur, rfl, hg, hog, h1, h2, h3, h4⟩ := hs.row (by omega)
  exact ⟨g, cap, cur, rfl, hg, hog, by simp only [maxLen] at h2; omega, h1, cur_at h4 (by simp [hi])⟩

theorem LocksAt.put {o : Nat → Nat} {w : World} {t b g n cap : Nat} {xs : List Int} (hb : StAt o w t b #[.slice (some ⟨g, 0, none⟩) n cap] 115) (hs : SlAt o w t 3 1 (.slice (some ⟨g, 0, none⟩) n cap) n (xs.map (Value.int .i64)))
    (hn : n = xs.length) (i : Nat) (hi : i < n) (v : Int) : LocksAt o (w.setCell ⟨g, i, none⟩ (.int .i64 v)) t b (xs.set i v) ∧ Ext o o w (w.setCell ⟨g, i, none⟩ (.int .i64 v)) (fun x => x = t) := by
  subst hn
  obtain ⟨g', cap', cur, hv, hg, hog, _⟩ := hs.row (by omega)
  simp at hv
  obtain ⟨rfl, rfl⟩ := hv
  refine ⟨⟨.slice (some ⟨g, 0, none⟩) xs.length cap, hb.put_far (ne_of_type hb.heap hg (by decide)), ?_⟩, (Ext.refl _ _ _).put _ (.inl hog)⟩
  have h2 := hs.put1 i hi (.int .i64 v)
  rw [← List.map_set] at h2
  simpa using h2

/-- What a write of locks leaves. -/
def LocksPost (o : Nat → Nat) (t b : Nat) (xs : List Int) (r : Value) (w : World) (e : Ending) (w' : World) : Prop :=
  ∃ o', e = .returned r ∧ LocksAt o' w' t b xs ∧ Ext o o' w w' (fun x => x = t)

set_option maxHeartbeats 400000 in
theorem locks_holder {o : Nat → Nat} {t b : Nat} {xs : List Int} {w : World} (h : LocksAt o w t b xs) (i : Int) (h0 : 0 ≤ i) (hi : i < xs.length) :
    Calls Try.prog 79 #[.pointer (some ⟨b, 0, none⟩), .int .i64 i] w fun e w' => e = .returned (.int .i64 (xs.getD i.toNat 0)) ∧ w = w' := by
  have c := locks_has_ok h i h0 hi
  obtain ⟨v, ⟨hb, _⟩, hs⟩ := h
  obtain ⟨i, rfl⟩ := Int.eq_ofNat_of_zero_le h0
  obtain ⟨g, cap, cur, rfl, hg, _, h2, h1, hc⟩ := row_at hs (i := i) (by omega)
  clear hs
  rw [Int.toNat_natCast]
  generalize xs.getD i 0 = x at *
  go_enter Try.func79, Try.ntmps79
  go_wp2_with (go_at_call 83; refine c.mono ?_; rintro e w' ⟨rfl, rfl⟩)
  go_ret
  exact ⟨rfl, rfl⟩

set_option maxHeartbeats 400000 in
theorem locks_try_no {o : Nat → Nat} {t b : Nat} {xs : List Int} {w : World} (h : LocksAt o w t b xs) (i u : Int) (hi : i < 0 ∨ xs.length ≤ i ∨ u < 0) :
    Calls Try.prog 77 #[.pointer (some ⟨b, 0, none⟩), .int .i64 i, .int .i64 u] w fun e w' => e = .returned (.tuple #[.bool false, .int .i64 2]) ∧ w = w' := by
  by_cases hr : i < 0 ∨ xs.length ≤ i
  · have c := locks_has_no h i hr
    clear hi hr
    go_enter Try.func77, Try.ntmps77
    go_wp2_with (go_at_call 83; refine c.mono ?_; rintro e w' ⟨rfl, rfl⟩)
    go_ret2
    exact ⟨rfl, rfl⟩
  · have c := locks_has_ok h i (by omega) (by omega)
    have hu : u < 0 := by omega
    clear hi hr
    go_enter Try.func77, Try.ntmps77
    go_wp2_with (go_at_call 83; refine c.mono ?_; rintro e w' ⟨rfl, rfl⟩)
    go_ret2
    exact ⟨rfl, rfl⟩

set_option maxHeartbeats 400000 in
theorem locks_try_held {o : Nat → Nat} {t b : Nat} {xs : List Int} {w : World} (h : LocksAt o w t b xs) (i u : Int) (h0 : 0 ≤ i) (hi : i < xs.length) (hu : 0 ≤ u) (hx : xs.getD i.toNat 0 ≠ -1) :
    Calls Try.prog 77 #[.pointer (some ⟨b, 0, none⟩), .int .i64 i, .int .i64 u] w fun e w' => e = .returned (.tuple #[.bool false, .int .i64 0]) ∧ w = w' := by
  have c := locks_has_ok h i h0 hi
  obtain ⟨v, ⟨hb, _⟩, hs⟩ := h
  obtain ⟨i, rfl⟩ := Int.eq_ofNat_of_zero_le h0
  obtain ⟨g, cap, cur, rfl, hg, _, h2, h1, hc⟩ := row_at hs (i := i) (by omega)
  clear hs
  rw [Int.toNat_natCast] at hx
  generalize xs.getD i 0 = x at *
  have hx' : (x != -1) = true := by simp [hx]
  go_enter Try.func77, Try.ntmps77
  go_wp2_with (go_at_call 83; refine c.mono ?_; rintro e w' ⟨rfl, rfl⟩)
  go_ret2
  exact ⟨rfl, rfl⟩

set_option maxHeartbeats 400000 in
theorem locks_try {o : Nat → Nat} {t b : Nat} {xs : List Int} {w : World} (h : LocksAt o w t b xs) (i u : Int) (h0 : 0 ≤ i) (hi : i < xs.length) (hu : 0 ≤ u) (hx : xs.getD i.toNat 0 = -1) :
    Calls Try.prog 77 #[.pointer (some ⟨b, 0, none⟩), .int .i64 i, .int .i64 u] w (LocksPost o t b (xs.set i.toNat u) (.tuple #[.bool true, .int .i64 0]) w) := by
  have c := locks_has_ok h i h0 hi
  obtain ⟨v, hb, hs⟩ := h
  obtain ⟨i, rfl⟩ := Int.eq_ofNat_of_zero_le h0
  obtain ⟨g, cap, cur, rfl, hg, _, h2, h1, hc⟩ := row_at hs (i := i) (by omega)
  have P := hide (LocksAt.put hb hs rfl i (by omega) u)
  have hb' := hb.heap
  clear hs hb
  rw [Int.toNat_natCast] at hx ⊢
  rw [hx] at hc
  clear hx
  go_enter Try.func77, Try.ntmps77
  go_wp2_with (go_at_call 83; refine c.mono ?_; rintro e w' ⟨rfl, rfl⟩)
  go_ret2
  exact ⟨o, rfl, P.out.1, P.out.2⟩

set_option maxHeartbeats 400000 in
theorem locks_free_no {o : Nat → Nat} {t b : Nat} {xs : List Int} {w : World} (h : LocksAt o w t b xs) (i u : Int) (hi : i < 0 ∨ xs.length ≤ i ∨ u < 0) :
    Calls Try.prog 78 #[.pointer (some ⟨b, 0, none⟩), .int .i64 i, .int .i64 u] w fun e w' => e = .returned (.int .i64 2) ∧ w = w' := by
  by_cases hr : i < 0 ∨ xs.length ≤ i
  · have c := locks_has_no h i hr
    clear hi hr
    go_enter Try.func78, Try.ntmps78
    go_wp2_with (go_at_call 83; refine c.mono ?_; rintro e w' ⟨rfl, rfl⟩)
    go_ret
    exact ⟨rfl, rfl⟩
  · have c := locks_has_ok h i (by omega) (by omega)
    have hu : u < 0 := by omega
    clear hi hr
    go_enter Try.func78, Try.ntmps78
    go_wp2_with (go_at_call 83; refine c.mono ?_; rintro e w' ⟨rfl, rfl⟩)
    go_ret
    exact ⟨rfl, rfl⟩

set_option maxHeartbeats 400000 in
theorem locks_free_other {o : Nat → Nat} {t b : Nat} {xs : List Int} {w : World} (h : LocksAt o w t b xs) (i u : Int) (h0 : 0 ≤ i) (hi : i < xs.length) (hu : 0 ≤ u) (hx : xs.getD i.toNat 0 ≠ u) :
    Calls Try.prog 78 #[.pointer (some ⟨b, 0, none⟩), .int .i64 i, .int .i64 u] w fun e w' => e = .returned (.int .i64 7) ∧ w = w' := by
  have c := locks_has_ok h i h0 hi
  obtain ⟨v, ⟨hb, _⟩, hs⟩ := h
  obtain ⟨i, rfl⟩ := Int.eq_ofNat_of_zero_le h0
  obtain ⟨g, cap, cur, rfl, hg, _, h2, h1, hc⟩ := row_at hs (i := i) (by omega)
  clear hs
  rw [Int.toNat_natCast] at hx
  generalize xs.getD i 0 = x at *
  have hx' : (x != u) = true := by simp [hx]
  go_enter Try.func78, Try.ntmps78
  go_wp2_with (go_at_call 83; refine c.mono ?_; rintro e w' ⟨rfl, rfl⟩)
  go_ret
  exact ⟨rfl, rfl⟩

set_option maxHeartbeats 400000 in
theorem locks_free {o : Nat → Nat} {t b : Nat} {xs : List Int} {w : World} (h : LocksAt o w t b xs) (i u : Int) (h0 : 0 ≤ i) (hi : i < xs.length) (hu : 0 ≤ u) (hx : xs.getD i.toNat 0 = u) :
    Calls Try.prog 78 #[.pointer (some ⟨b, 0, none⟩), .int .i64 i, .int .i64 u] w (LocksPost o t b (xs.set i.toNat (-1)) (.int .i64 0) w) := by
  have c := locks_has_ok h i h0 hi
  obtain ⟨v, hb, hs⟩ := h
  obtain ⟨i, rfl⟩ := Int.eq_ofNat_of_zero_le h0
  obtain ⟨g, cap, cur, rfl, hg, _, h2, h1, hc⟩ := row_at hs (i := i) (by omega)
  have P := hide (LocksAt.put hb hs rfl i (by omega) (-1))
  have hb' := hb.heap
  clear hs hb
  rw [Int.toNat_natCast] at hx ⊢
  rw [hx] at hc
  clear hx
  go_enter Try.func78, Try.ntmps78
  go_wp2_with (go_at_call 83; refine c.mono ?_; rintro e w' ⟨rfl, rfl⟩)
  go_ret
  exact ⟨o, rfl, P.out.1, P.out.2⟩

/-- The locks among the first k that u holds. -/
def heldBy (xs : List Int) (u : Int) (k : Nat) : List Int := ((List.range k).filter fun i => decide (0 ≤ u ∧ xs.getD i 0 = u)).map fun i : Nat => (i : Int)
theorem heldBy_succ (xs : List Int) (u : Int) (k : Nat) : heldBy xs u (k + 1) = heldBy xs u k ++ (if 0 ≤ u ∧ xs.getD k 0 = u then [(k : Int)] else []) := by
  unfold heldBy
  rw [List.range_succ, List.filter_append, List.map_append]
  by_cases h : 0 ≤ u ∧ xs.getD k 0 = u
  · rw [if_pos h, List.filter_cons_of_pos (by rw [decide_eq_true_eq]; exact h)]; rfl
  · rw [if_neg h, List.filter_cons_of_neg (by rw [decide_eq_true_eq]; exact h)]; rfl
theorem heldBy_le (xs : List Int) (u : Int) (k : Nat) : (heldBy xs u k).length ≤ k := by
  unfold heldBy
  rw [List.length_map]
  exact Nat.le_trans (List.length_filter_le _ _) (by simp)

def HeldPost (o : Nat → Nat) (t2 : Nat) (l : List Int) (w : World) (e : Ending) (w' : World) : Prop :=
  ∃ o' v, e = .returned v ∧ SlAt o' w' t2 3 1 v l.length (l.map (Value.int .i64)) ∧ Ext o o' w w' (fun x => x = t2)

/-- The loop of Held. -/
def HeldRel (o : Nat → Nat) (t2 : Nat) (w : World) (l : List Int) (v : Value) (wr : World) : Prop :=
  ∃ o1, SlAt o1 wr t2 3 1 v l.length (l.map (Value.int .i64)) ∧ Ext o o1 w wr (fun x => x = t2)

end Go.Proofs.Ytcoaemjoanbemaa

namespace Go.Proofs.Ytcoaemjoanbemaa

def swapL (xs : List Int) (i j : Nat) : List Int := (xs.set i (xs.getD j 0)).set j (xs.getD i 0)
theorem swapL_length (xs : List Int) (i j : Nat) : (swapL xs i j).length = xs.length := by simp [swapL]
theorem swapL_getD (xs : List Int) (i j k : Nat) (hi : i < xs.length) (hj : j < xs.length) : (swapL xs i j).getD k 0 = if k = j then xs.getD i 0 else if k = i then xs.getD j 0 else xs.getD k 0 := by
  unfold swapL
  by_cases h1 : k = j
  · subst h1
    rw [if_pos rfl, List.getD_eq_getElem?_getD, List.getElem?_set_self (by simpa using hj)]
    rfl
  · rw [if_neg h1, List.getD_eq_getElem?_getD, List.getElem?_set_ne (fun h => h1 h.symm)]
    by_cases h2 : k = i
    · subst h2
      rw [if_pos rfl, List.getElem?_set_self hi]
      rfl
    · rw [if_neg h2, List.getElem?_set_ne (fun h => h2 h.symm), ← List.getD_eq_getElem?_getD]
theorem swapL_perm (xs : List Int) (i j : Nat) (hi : i < xs.length) (hj : j < xs.length) : (swapL xs i j).Perm xs := by
  have h := (Array.swap_perm (xs := xs.toArray) (i := i) (j := j) (by simpa using hi) (by simpa using hj)).toList
  rw [Array.toList_swap] at h
  have e : swapL xs i j = ((xs.toArray.toList.set i (xs.toArray[j]'(by simpa using hj))).set j (xs.toArray[i]'(by simpa using hi))) := by
    simp [swapL, hi, hj]
  rw [e]
  simpa using h

/-- A heap: no number is less than its parent. -/
def IsHeap (xs : List Int) : Prop := ∀ i, 0 < i → i < xs.length → xs.getD ((i - 1) / 2) 0 ≤ xs.getD i 0
/-- .. but at j, which goes up. -/
def UpInv (xs : List Int) (j : Nat) : Prop := (∀ i, 0 < i → i < xs.length → i ≠ j → xs.getD ((i - 1) / 2) 0 ≤ xs.getD i 0) ∧ (∀ i, 0 < i → i < xs.length → (i - 1) / 2 = j → 0 < j → xs.getD ((j - 1) / 2) 0 ≤ xs.getD i 0)
/-- .. among the first n, but for the children of i, which goes down. -/
def DownInv (xs : List Int) (n i : Nat) : Prop := (∀ k, 0 < k → k < n → (k - 1) / 2 ≠ i → xs.getD ((k - 1) / 2) 0 ≤ xs.getD k 0) ∧ (∀ k, 0 < k → k < n → (k - 1) / 2 = i → 0 < i → xs.getD ((i - 1) / 2) 0 ≤ xs.getD k 0)

theorem getD_snoc (xs : List Int) (x : Int) (i : Nat) (h : i < xs.length) : (xs ++ [x]).getD i 0 = xs.getD i 0 := by simp [List.getElem?_append_left, h]
theorem upInv_snoc (xs : List Int) (x : Int) (h : IsHeap xs) : UpInv (xs ++ [x]) xs.length := by
  refine ⟨fun i h0 h1 hne => ?_, fun i h0 h1 he hj => ?_⟩
  · simp at h1
    rw [getD_snoc _ _ _ (by omega), getD_snoc _ _ _ (by omega)]
    exact h i h0 (by omega)
  · simp at h1
    omega
theorem upInv_zero (xs : List Int) (h : UpInv xs 0) : IsHeap xs := fun i h0 h1 => h.1 i h0 h1 (by omega)
theorem upInv_done (xs : List Int) (j : Nat) (h : UpInv xs j) (hd : ¬ xs.getD j 0 < xs.getD ((j - 1) / 2) 0) : IsHeap xs := fun i h0 h1 => by
  by_cases e : i = j
  · subst e; omega
  · exact h.1 i h0 h1 e
theorem upInv_step (xs : List Int) (j : Nat) (h : UpInv xs j) (h0 : 0 < j) (h1 : j < xs.length) (hl : xs.getD j 0 < xs.getD ((j - 1) / 2) 0) : UpInv (swapL xs ((j - 1) / 2) j) ((j - 1) / 2) := by
  have hp : (j - 1) / 2 < j := by omega
  have G := fun k => swapL_getD xs ((j - 1) / 2) j k (by omega) h1
  refine ⟨fun i i0 i1 hne => ?_, fun i i0 i1 he hj => ?_⟩
  · rw [swapL_length] at i1
    rw [G, G]
    by_cases e : i = j
    · subst e
      rw [if_pos rfl, if_neg (by omega), if_pos rfl]
      omega
    · rw [if_neg e, if_neg hne]
      by_cases e2 : (i - 1) / 2 = j
      · rw [if_pos e2]
        exact h.2 i i0 i1 e2 h0
      · rw [if_neg e2]
        by_cases e3 : (i - 1) / 2 = (j - 1) / 2
        · rw [if_pos e3]
          have := h.1 i i0 i1 e
          rw [e3] at this
          omega
        · rw [if_neg e3]
          exact h.1 i i0 i1 e
  · rw [swapL_length] at i1
    rw [G, G]
    have a1 := h.1 ((j - 1) / 2) hj (by omega) (by omega)
    rw [if_neg (by omega), if_neg (by omega)]
    by_cases e : i = j
    · rw [if_pos e]; exact a1
    · rw [if_neg e, if_neg (by omega)]
      have a2 := h.1 i i0 i1 e
      rw [he] at a2
      omega

theorem heap_min (xs : List Int) (h : IsHeap xs) : ∀ i, i < xs.length → xs.getD 0 0 ≤ xs.getD i 0 := by
  intro i
  induction i using Nat.strongRecOn with
  | _ i ih =>
    intro hi
    rcases Nat.eq_zero_or_pos i with rfl | h0
    · exact Int.le_refl _
    · exact Int.le_trans (ih ((i - 1) / 2) (by omega) (by omega)) (h i h0 hi)
theorem downInv_start (xs : List Int) (n : Nat) (hn : xs.length = n + 1) (h : IsHeap xs) : DownInv (swapL xs 0 n) n 0 := by
  have G := fun k => swapL_getD xs 0 n k (by omega) (by omega)
  refine ⟨fun k k0 k1 hne => ?_, fun k k0 k1 he hj => by omega⟩
  rw [G, G, if_neg (by omega), if_neg (by omega), if_neg (by omega), if_neg (by omega)]
  exact h k k0 (by omega)
/-- The loop's end: no child is less. -/
theorem downInv_done (xs : List Int) (n i : Nat) (h : DownInv xs n i) (hd : ∀ k, 0 < k → k < n → (k - 1) / 2 = i → xs.getD i 0 ≤ xs.getD k 0) : ∀ k, 0 < k → k < n → xs.getD ((k - 1) / 2) 0 ≤ xs.getD k 0 := fun k k0 k1 => by
  by_cases e : (k - 1) / 2 = i
  · rw [e]; exact hd k k0 k1 e
  · exact h.1 k k0 k1 e
theorem downInv_step (xs : List Int) (n i j : Nat) (hn : n ≤ xs.length) (h : DownInv xs n i) (hj0 : 0 < j) (hj : (j - 1) / 2 = i) (hjn : j < n) (hl : xs.getD j 0 < xs.getD i 0)
    (hb : ∀ k, 0 < k → k < n → (k - 1) / 2 = i → xs.getD j 0 ≤ xs.getD k 0) : DownInv (swapL xs i j) n j := by
  have hij : i < j := by omega
  have G := fun k => swapL_getD xs i j k (by omega) (by omega)
  refine ⟨fun k k0 k1 hne => ?_, fun k k0 k1 he hjp => ?_⟩
  · rw [G, G]
    rw [if_neg hne]
    by_cases e : k = j
    · subst e
      rw [if_pos hj, if_pos rfl]
      omega
    · rw [if_neg e]
      by_cases e2 : (k - 1) / 2 = i
      · rw [if_pos e2, if_neg (by omega)]
        exact hb k k0 k1 e2
      · rw [if_neg e2]
        by_cases e3 : k = i
        · rw [if_pos e3]
          subst e3
          exact h.2 j hj0 hjn hj k0
        · rw [if_neg e3]
          exact h.1 k k0 k1 e2
  · rw [G, G, if_neg (by omega), if_pos hj, if_neg (by omega), if_neg (by omega)]
    have := h.1 k k0 k1 (by omega)
    rw [he] at this
    exact this
/-- The first n of a list that are in order make a heap. -/
theorem heap_take (xs : List Int) (n : Nat) (hn : xs.length = n + 1) (h : ∀ k, 0 < k → k < n → xs.getD ((k - 1) / 2) 0 ≤ xs.getD k 0) : IsHeap (xs.take n) := by
  intro i h0 h1
  rw [List.length_take] at h1
  have G : ∀ k, k < n → (xs.take n).getD k 0 = xs.getD k 0 := fun k hk => by simp [hk]
  rw [G _ (by omega), G _ (by omega)]
  exact h i h0 (by omega)
theorem take_last (xs : List Int) (n : Nat) (hn : xs.length = n + 1) : xs = xs.take n ++ [xs.getD n 0] := by
  have e := List.take_succ_eq_append_getElem (l := xs) (i := n) (by omega)
  rw [List.take_of_length_le (by omega)] at e
  have g : xs.getD n 0 = xs[n]'(by omega) := by simp [show n < xs.length by omega]
  rw [g]
  exact e
end Go.Proofs.Ytcoaemjoanbemaa
