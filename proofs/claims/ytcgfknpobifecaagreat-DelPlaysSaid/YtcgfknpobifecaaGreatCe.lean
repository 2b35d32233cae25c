/- What each function of the package cells comes to, over an abstract list of numbers. Condition: the receiver is such a block. -/
import Derived.Test.YtcgfknpobifecaaGreatProg
import Derived.Test.YtcgfknpobifecaaGreatHp
namespace Go.Proofs.YtcgfknpobifecaaGreat
open Go.RowKit

theorem u64_info : (Tryz.prog.info? 38).map (fun i => (i.zero, i.size, i.bytes)) = some (some (.int .u64 0), 1, 8) := by kernel_rfl

/-- Cells at block b: the words xs. -/
def CellsAt (o : Nat → Nat) (w : World) (t b : Nat) (xs : List Int) : Prop :=
  ∃ v, StAt o w t b #[v] 87 ∧ SlAt o w t 38 1 v xs.length (xs.map (Value.int .u64))

theorem CellsAt.ext {o o' : Nat → Nat} {w w' : World} {t b : Nat} {xs : List Int} {S : Nat → Prop} (h : CellsAt o w t b xs) (e : Ext o o' w w' S) (hs : ¬ S t) : CellsAt o' w' t b xs := by
  obtain ⟨v, h1, h2⟩ := h
  exact ⟨v, h1.ext e hs, h2.ext e hs⟩

theorem madeCells_one (v : Value) (hv : v.cells = #[v]) (n : Nat) : (madeCells v.cells n).toList = List.replicate n v := by
  rw [hv]
  unfold madeCells
  apply List.ext_getElem
  · simp
  · intro i h1 h2
    simp [Nat.mod_one]

set_option maxHeartbeats 400000 in
theorem cells_new_no (n : Int) (h : n < 0 ∨ 1048576 < n) (w : World) :
    Calls Tryz.prog 71 #[.int .i64 n] w fun e w' => e = .returned (.tuple #[.pointer none, .int .i64 2]) ∧ w = w' := by
  rcases h with h | h
  · go_enter Tryz.func71, Tryz.ntmps71
    go_wp2
    go_ret2
    exact ⟨rfl, rfl⟩
  · have h' : ¬ n < 0 := by omega
    go_enter Tryz.func71, Tryz.ntmps71
    go_wp2
    go_ret2
    exact ⟨rfl, rfl⟩

def CellsNew (o : Nat → Nat) (t : Nat) (n : Int) (w : World) (e : Ending) (w' : World) : Prop :=
  ∃ o' b, e = .returned (.tuple #[.pointer (some ⟨b, 0, none⟩), .int .i64 0]) ∧ CellsAt o' w' t b (List.replicate n.toNat 0) ∧ Ext o o' w w' (fun _ => False)

set_option maxHeartbeats 400000 in
theorem cells_new_ok (o : Nat → Nat) (t : Nat) (n : Int) (h0 : 0 ≤ n) (h1 : n ≤ 1048576) (w : World) :
    Calls Tryz.prog 71 #[.int .i64 n] w (CellsNew o t n w) := by
  obtain ⟨i0, hi, hz0, hz1, hz2⟩ := info_parts u64_info
  have hmk := fun W => run_make (P := Tryz.prog) W 85 38 i0 (.int .u64 0) Tryz.underlying85 hi hz0 .i64 .i64 n n h0 (Int.le_refl _) (by rw [hz2]; omega) (by omega)
  rw [hz1] at hmk
  clear hi hz0 hz1 hz2
  go_enter Tryz.func71, Tryz.ntmps71
  go_wp2
  go_ret2
  refine ⟨upd o w.heap.size t, w.heap.size + 1, rfl, ⟨_, ⟨blk_new1 _ _ _, upd_new (by omega)⟩, ?_⟩, ((Ext.refl o w _).retag t).alloc _ |>.alloc _⟩
  have hl : (List.replicate n.toNat (0 : Int)).length = n.toNat := by simp
  rw [hl]
  refine (SlAt.made (k := 1) _ _ _ (Nat.le_refl _) ?_ ?_ ?_ (upd_new (Nat.le_refl _))).ext ((Ext.refl _ _ (fun _ => False)).alloc _) id
  · unfold maxLen; omega
  · simp [madeCells]
  · have := madeCells_one (.int .u64 0) rfl n.toNat
    show List.take _ (madeCells (Value.int IntKind.u64 0).cells n.toNat).toList = _
    rw [this]; simp

set_option maxHeartbeats 400000 in
theorem cells_len {o : Nat → Nat} {t b : Nat} {xs : List Int} {w : World} (h : CellsAt o w t b xs) :
    Calls Tryz.prog 97 #[.pointer (some ⟨b, 0, none⟩)] w fun e w' => e = .returned (.int .i64 xs.length) ∧ w = w' := by
  obtain ⟨v, ⟨hb, _⟩, hs⟩ := h
  obtain ⟨a, c, rfl⟩ := hs.value
  clear hs
  go_enter Tryz.func97, Tryz.ntmps97
  go_wp2
  go_ret
  exact ⟨rfl, rfl⟩

set_option maxHeartbeats 400000 in
theorem cells_wrong_no {o : Nat → Nat} {t b : Nat} {xs : List Int} {w : World} (h : CellsAt o w t b xs) (i : Int) (hi : i < 0 ∨ xs.length ≤ i) :
    Calls Tryz.prog 40 #[.pointer (some ⟨b, 0, none⟩), .int .i64 i] w fun e w' => e = .returned (.int .i64 2) ∧ w = w' := by
  obtain ⟨v, ⟨hb, _⟩, hs⟩ := h
  obtain ⟨a, c, rfl⟩ := hs.value
  have hle := hs.le63
  clear hs
  rcases hi with hi | hi
  · go_enter Tryz.func40, Tryz.ntmps40
    go_wp2
    go_ret
    exact ⟨rfl, rfl⟩
  · have h' : ¬ i < 0 := by omega
    go_enter Tryz.func40, Tryz.ntmps40
    go_wp2
    go_ret
    exact ⟨rfl, rfl⟩

set_option maxHeartbeats 400000 in
theorem cells_wrong_ok {o : Nat → Nat} {t b : Nat} {xs : List Int} {w : World} (h : CellsAt o w t b xs) (i : Nat) (hi : i < xs.length) :
    Calls Tryz.prog 40 #[.pointer (some ⟨b, 0, none⟩), .int .i64 i] w fun e w' => e = .returned (.int .i64 0) ∧ w = w' := by
  obtain ⟨v, ⟨hb, _⟩, hs⟩ := h
  obtain ⟨a, c, rfl⟩ := hs.value
  have hle := hs.le63
  clear hs
  go_enter Tryz.func40, Tryz.ntmps40
  go_wp2
  go_ret
  exact ⟨rfl, rfl⟩

set_option maxHeartbeats 400000 in
theorem cells_load_no {o : Nat → Nat} {t b : Nat} {xs : List Int} {w : World} (h : CellsAt o w t b xs) (i : Int) (hi : i < 0 ∨ xs.length ≤ i) :
    Calls Tryz.prog 80 #[.pointer (some ⟨b, 0, none⟩), .int .i64 i] w fun e w' => e = .returned (.tuple #[.int .u64 0, .int .i64 2]) ∧ w = w' := by
  have c := cells_wrong_no h i hi
  go_enter Tryz.func80, Tryz.ntmps80
  go_wp2_with (go_at_call 40; refine c.mono ?_; rintro e w' ⟨rfl, rfl⟩)
  go_ret2
  exact ⟨rfl, rfl⟩

set_option maxHeartbeats 400000 in
theorem cells_load_ok {o : Nat → Nat} {t b : Nat} {xs : List Int} {w : World} (h : CellsAt o w t b xs) (i : Nat) (hi : i < xs.length) :
    Calls Tryz.prog 80 #[.pointer (some ⟨b, 0, none⟩), .int .i64 i] w fun e w' => e = .returned (.tuple #[.int .u64 xs[i], .int .i64 0]) ∧ w = w' := by
  have c := cells_wrong_ok h i hi
  obtain ⟨v, ⟨hb, _⟩, hs⟩ := h
  obtain ⟨g, cap, cur, rfl, hg, hog, h1, h2, h3, h4⟩ := hs.row (by omega)
  have h2 : cap ≤ 9223372036854775807 := by simp only [maxLen] at h2; omega
  have hc : cur[i]? = some (.int .u64 xs[i]) := cur_at h4 (by simp [hi])
  clear hs h4 h3 hog
  generalize xs[i] = x at *
  generalize xs.length = n at *
  go_enter Tryz.func80, Tryz.ntmps80
  go_wp2_with (go_at_call 40; refine c.mono ?_; rintro e w' ⟨rfl, rfl⟩)
  go_ret2
  exact ⟨rfl, rfl⟩

theorem map_set_int (xs : List Int) (i : Nat) (v : Int) (k : IntKind) : (xs.map (Value.int k)).set i (.int k v) = (xs.set i v).map (Value.int k) := by rw [List.map_set]

set_option maxHeartbeats 400000 in
theorem cells_store_no {o : Nat → Nat} {t b : Nat} {xs : List Int} {w : World} (h : CellsAt o w t b xs) (i v : Int) (hi : i < 0 ∨ xs.length ≤ i) :
    Calls Tryz.prog 9 #[.pointer (some ⟨b, 0, none⟩), .int .i64 i, .int .u64 v] w fun e w' => e = .returned (.int .i64 2) ∧ w = w' := by
  have c := cells_wrong_no h i hi
  go_enter Tryz.func9, Tryz.ntmps9
  go_wp2_with (go_at_call 40; refine c.mono ?_; rintro e w' ⟨rfl, rfl⟩)
  go_ret
  exact ⟨rfl, rfl⟩

/-- What a write of cells leaves. -/
def CellsPost (o : Nat → Nat) (t b : Nat) (xs : List Int) (r : Value) (w : World) (e : Ending) (w' : World) : Prop :=
  ∃ o', e = .returned r ∧ CellsAt o' w' t b xs ∧ Ext o o' w w' (fun x => x = t)

theorem CellsAt.put {o : Nat → Nat} {w : World} {t b g n cap : Nat} {xs : List Int} (hb : StAt o w t b #[.slice (some ⟨g, 0, none⟩) n cap] 87) (hs : SlAt o w t 38 1 (.slice (some ⟨g, 0, none⟩) n cap) n (xs.map (Value.int .u64)))
    (hn : n = xs.length) (i : Nat) (hi : i < n) (v : Int) : CellsAt o (w.setCell ⟨g, i, none⟩ (.int .u64 v)) t b (xs.set i v) ∧ Ext o o w (w.setCell ⟨g, i, none⟩ (.int .u64 v)) (fun x => x = t) := by
  subst hn
  obtain ⟨g', cap', cur, hv, hg, hog, _⟩ := hs.row (by omega)
  simp at hv
  obtain ⟨rfl, rfl⟩ := hv
  refine ⟨⟨.slice (some ⟨g, 0, none⟩) xs.length cap, ⟨?_, hb.tag⟩, ?_⟩, (Ext.refl _ _ _).put _ (.inl hog)⟩
  · rw [blk_put_other _ _ _ _ _ (ne_of_type hb.heap hg (by decide))]; exact hb.heap
  · have h2 := hs.put1 i hi (.int .u64 v)
    rw [map_set_int] at h2
    simpa using h2

set_option maxHeartbeats 400000 in
theorem cells_store_ok {o : Nat → Nat} {t b : Nat} {xs : List Int} {w : World} (h : CellsAt o w t b xs) (i : Nat) (v : Int) (hi : i < xs.length) :
    Calls Tryz.prog 9 #[.pointer (some ⟨b, 0, none⟩), .int .i64 i, .int .u64 v] w (CellsPost o t b (xs.set i v) (.int .i64 0) w) := by
  have c := cells_wrong_ok h i hi
  obtain ⟨va, hb, hs⟩ := h
  obtain ⟨g, cap, cur, rfl, hg, hog, h1, h2, h3, h4⟩ := hs.row (by omega)
  have P := CellsAt.put hb hs rfl i hi v
  have h2 : cap ≤ 9223372036854775807 := by simp only [maxLen] at h2; omega
  have hc : cur[i]? = some (.int .u64 xs[i]) := cur_at h4 (by simp [hi])
  have hb' := hb.heap
  clear hs h4 h3 hog hb
  generalize xs[i] = x at *
  have P := hide P
  go_enter Tryz.func9, Tryz.ntmps9
  go_wp2_with (go_at_call 40; refine c.mono ?_; rintro e w' ⟨rfl, rfl⟩)
  go_ret
  exact ⟨o, rfl, P.out.1, P.out.2⟩

set_option maxHeartbeats 400000 in
theorem cells_add_no {o : Nat → Nat} {t b : Nat} {xs : List Int} {w : World} (h : CellsAt o w t b xs) (i v : Int) (hi : i < 0 ∨ xs.length ≤ i) :
    Calls Tryz.prog 122 #[.pointer (some ⟨b, 0, none⟩), .int .i64 i, .int .u64 v] w fun e w' => e = .returned (.tuple #[.int .u64 0, .int .i64 2]) ∧ w = w' := by
  have c := cells_wrong_no h i hi
  go_enter Tryz.func122, Tryz.ntmps122
  go_wp2_with (go_at_call 40; refine c.mono ?_; rintro e w' ⟨rfl, rfl⟩)
  go_ret2
  exact ⟨rfl, rfl⟩

theorem getElem_set_self' (cur : Array Value) (i : Nat) (u v : Value) (h : cur[i]? = some u) : (cur.setIfInBounds i v)[i]? = some v := by
  have hlt : i < cur.size := (Array.getElem?_eq_some_iff.1 h).1
  simp [hlt]

set_option maxHeartbeats 400000 in
theorem cells_add_ok {o : Nat → Nat} {t b : Nat} {xs : List Int} {w : World} (h : CellsAt o w t b xs) (i : Nat) (v : Int) (hi : i < xs.length) :
    Calls Tryz.prog 122 #[.pointer (some ⟨b, 0, none⟩), .int .i64 i, .int .u64 v] w
      (CellsPost o t b (xs.set i (IntKind.u64.wrap (xs[i] + v))) (.tuple #[.int .u64 (IntKind.u64.wrap (xs[i] + v)), .int .i64 0]) w) := by
  have c := cells_wrong_ok h i hi
  obtain ⟨va, hb, hs⟩ := h
  obtain ⟨g, cap, cur, rfl, hg, hog, h1, h2, h3, h4⟩ := hs.row (by omega)
  have P := CellsAt.put hb hs rfl i hi (IntKind.u64.wrap (xs[i] + v))
  have h2 : cap ≤ 9223372036854775807 := by simp only [maxLen] at h2; omega
  have hc : cur[i]? = some (.int .u64 xs[i]) := cur_at h4 (by simp [hi])
  have hc2 := getElem_set_self' cur i _ (.int .u64 (IntKind.u64.wrap (xs[i] + v))) hc
  have hb' := hb.heap
  have hne := ne_of_type hb.heap hg (by decide)
  clear hs h4 h3 hog hb
  generalize xs[i] = x at *
  have P := hide P
  go_enter Tryz.func122, Tryz.ntmps122
  go_wp2_with (go_at_call 40; refine c.mono ?_; rintro e w' ⟨rfl, rfl⟩)
  go_ret2
  exact ⟨o, rfl, P.out.1, P.out.2⟩

set_option maxHeartbeats 400000 in
theorem cells_swap_no {o : Nat → Nat} {t b : Nat} {xs : List Int} {w : World} (h : CellsAt o w t b xs) (i u v : Int) (hi : i < 0 ∨ xs.length ≤ i) :
    Calls Tryz.prog 123 #[.pointer (some ⟨b, 0, none⟩), .int .i64 i, .int .u64 u, .int .u64 v] w fun e w' => e = .returned (.tuple #[.bool false, .int .i64 2]) ∧ w = w' := by
  have c := cells_wrong_no h i hi
  go_enter Tryz.func123, Tryz.ntmps123
  go_wp2_with (go_at_call 40; refine c.mono ?_; rintro e w' ⟨rfl, rfl⟩)
  go_ret2
  exact ⟨rfl, rfl⟩

set_option maxHeartbeats 400000 in
theorem cells_swap_ne {o : Nat → Nat} {t b : Nat} {xs : List Int} {w : World} (h : CellsAt o w t b xs) (i : Nat) (u v : Int) (hi : i < xs.length) (hx : xs[i] ≠ u) :
    Calls Tryz.prog 123 #[.pointer (some ⟨b, 0, none⟩), .int .i64 i, .int .u64 u, .int .u64 v] w fun e w' => e = .returned (.tuple #[.bool false, .int .i64 0]) ∧ w = w' := by
  have c := cells_wrong_ok h i hi
  obtain ⟨va, hb, hs⟩ := h
  obtain ⟨g, cap, cur, rfl, hg, hog, h1, h2, h3, h4⟩ := hs.row (by omega)
  have h2 : cap ≤ 9223372036854775807 := by simp only [maxLen] at h2; omega
  have hc : cur[i]? = some (.int .u64 xs[i]) := cur_at h4 (by simp [hi])
  have hb' := hb.heap
  clear hs h4 h3 hog hb
  generalize xs[i] = x at *
  have hx' : (x != u) = true := by simp [hx]
  go_enter Tryz.func123, Tryz.ntmps123
  go_wp2_with (go_at_call 40; refine c.mono ?_; rintro e w' ⟨rfl, rfl⟩)
  go_ret2
  exact ⟨rfl, rfl⟩

set_option maxHeartbeats 400000 in
theorem cells_swap_eq {o : Nat → Nat} {t b : Nat} {xs : List Int} {w : World} (h : CellsAt o w t b xs) (i : Nat) (v : Int) (hi : i < xs.length) :
    Calls Tryz.prog 123 #[.pointer (some ⟨b, 0, none⟩), .int .i64 i, .int .u64 xs[i], .int .u64 v] w (CellsPost o t b (xs.set i v) (.tuple #[.bool true, .int .i64 0]) w) := by
  have c := cells_wrong_ok h i hi
  obtain ⟨va, hb, hs⟩ := h
  obtain ⟨g, cap, cur, rfl, hg, hog, h1, h2, h3, h4⟩ := hs.row (by omega)
  have P := CellsAt.put hb hs rfl i hi v
  have h2 : cap ≤ 9223372036854775807 := by simp only [maxLen] at h2; omega
  have hc : cur[i]? = some (.int .u64 xs[i]) := cur_at h4 (by simp [hi])
  have hb' := hb.heap
  clear hs h4 h3 hog hb
  generalize xs[i] = x at *
  have P := hide P
  have hx' : (x != x) = false := by simp
  go_enter Tryz.func123, Tryz.ntmps123
  go_wp2_with (go_at_call 40; refine c.mono ?_; rintro e w' ⟨rfl, rfl⟩)
  go_ret2
  exact ⟨o, rfl, P.out.1, P.out.2⟩

set_option maxHeartbeats 400000 in
theorem cells_grow_no {o : Nat → Nat} {t b : Nat} {xs : List Int} {w : World} (h : CellsAt o w t b xs) (n : Int) (hn : n < 0 ∨ 1048576 - xs.length < n) :
    Calls Tryz.prog 39 #[.pointer (some ⟨b, 0, none⟩), .int .i64 n] w fun e w' => e = .returned (.tuple #[.int .i64 (-1), .int .i64 2]) ∧ w = w' := by
  obtain ⟨v, ⟨hb, _⟩, hs⟩ := h
  obtain ⟨a, c, rfl⟩ := hs.value
  have hle := hs.le63
  clear hs
  rcases hn with hi | hi
  · go_enter Tryz.func39, Tryz.ntmps39
    go_wp2
    go_ret2
    exact ⟨rfl, rfl⟩
  · by_cases h' : n < 0
    all_goals
      go_enter Tryz.func39, Tryz.ntmps39
      go_wp2
      go_ret2
      exact ⟨rfl, rfl⟩

/-- append(xs, make([]uint64, m)...). -/
theorem zeros_u64 {w : World} {o : Nat → Nat} {tg : Nat} {ops : Array Oper} {rest : List Oper} {op : Oper} {a : Act} {Q : Exit → Act → World → Prop} (hgd : op.guard = none) (s x : Operand)
    (ho : op.op = .call { callee := .builtin .append, args := #[s, x], argTypes := #[85, 3] })
    (v : Value) (n : Nat) (xs : List Value) (hs : a.eval s = v) (hown : SlAt o w tg 38 1 v n xs) (m : Nat) (l : Int) (hx : a.eval x = .int .i64 l) (hlm : l = (m : Int)) (hb : n + m ≤ 1073741824)
    (h : ∀ v' w' o', SlAt o' w' tg 38 1 v' (n + m) (xs ++ List.replicate m (.int .u64 0)) → Ext o o' w w' (fun x => x = tg) → w.grownBy w' v.ownBlock → wpList Tryz.prog ops Q rest (a.put op.dst v') w') :
    wpList Tryz.prog ops Q (op :: rest) a w := by
  obtain ⟨i0, hi, hz0, hz1, hz2⟩ := info_parts u64_info
  exact wpList_append_zeros hgd s x 85 3 ho 38 .i64 .i64 i0 (.int .u64 0) 8 Tryz.underlying85 Tryz.underlying3 hi hz0 hz1 hz2 (.int .u64 0) rfl rfl v n xs hs hown m l hx hlm (by simp only [maxLen]; omega) (by omega) h

set_option maxHeartbeats 400000 in
theorem cells_grow_ok {o : Nat → Nat} {t b : Nat} {xs : List Int} {w : World} (h : CellsAt o w t b xs) (n : Int) (h0 : 0 ≤ n) (hn : n ≤ 1048576 - xs.length) :
    Calls Tryz.prog 39 #[.pointer (some ⟨b, 0, none⟩), .int .i64 n] w (CellsPost o t b (xs ++ List.replicate n.toNat 0) (.tuple #[.int .i64 xs.length, .int .i64 0]) w) := by
  obtain ⟨v, hb, hs⟩ := h
  obtain ⟨a, c, rfl⟩ := hs.value
  have hle := hs.le63
  have hb' := hb.heap
  have hlt := lt_of_blk hb'
  have hnn : Hid (n = (n.toNat : Int)) := hide (by omega)
  have hb1 : xs.length + n.toNat ≤ 1073741824 := by omega
  go_enter Tryz.func39, Tryz.ntmps39
  go_wp2_with (at_builtin; refine zeros_u64 rfl (.tmp 28) (.tmp 29) rfl _ _ _ rfl hs n.toNat n rfl hnn.out hb1 ?_)
  intro v' w1 o1 hs1 he hg1
  have hb1 := blk_grown hg1 hb' (hs.apart hb' (by decide))
  have hne := hs1.apart hb1 (by decide)
  have ho1 := he.tag hb' hb.tag
  clear hs hb hb'
  obtain ⟨a2, c2, rfl⟩ := hs1.value
  have hs1 := hide hs1
  go_wp2
  go_ret2
  refine ⟨o1, rfl, ⟨_, ⟨by rw [blk_put_same, hb1]; rfl, ho1⟩, ?_⟩, he.put _ (.inl ho1)⟩
  have h2 := hs1.out.put_far (i := 0) (u := .slice a2 (xs.length + n.toNat) c2) hne
  simpa using h2

/- The same, the index an Int. -/
theorem cells_load {o : Nat → Nat} {t b : Nat} {xs : List Int} {w : World} (h : CellsAt o w t b xs) (i : Int) (h0 : 0 ≤ i) (hi : i < xs.length) :
    Calls Tryz.prog 80 #[.pointer (some ⟨b, 0, none⟩), .int .i64 i] w fun e w' => e = .returned (.tuple #[.int .u64 (xs.getD i.toNat 0), .int .i64 0]) ∧ w = w' := by
  obtain ⟨n, rfl⟩ := Int.eq_ofNat_of_zero_le h0
  have hn : n < xs.length := by omega
  have := cells_load_ok h n hn
  simpa [List.getD, List.getElem?_eq_getElem hn] using this
theorem cells_store {o : Nat → Nat} {t b : Nat} {xs : List Int} {w : World} (h : CellsAt o w t b xs) (i v : Int) (h0 : 0 ≤ i) (hi : i < xs.length) :
    Calls Tryz.prog 9 #[.pointer (some ⟨b, 0, none⟩), .int .i64 i, .int .u64 v] w (CellsPost o t b (xs.set i.toNat v) (.int .i64 0) w) := by
  obtain ⟨n, rfl⟩ := Int.eq_ofNat_of_zero_le h0
  exact cells_store_ok h n v (by omega)
theorem cells_add {o : Nat → Nat} {t b : Nat} {xs : List Int} {w : World} (h : CellsAt o w t b xs) (i v : Int) (h0 : 0 ≤ i) (hi : i < xs.length) :
    Calls Tryz.prog 122 #[.pointer (some ⟨b, 0, none⟩), .int .i64 i, .int .u64 v] w
      (CellsPost o t b (xs.set i.toNat (IntKind.u64.wrap (xs.getD i.toNat 0 + v))) (.tuple #[.int .u64 (IntKind.u64.wrap (xs.getD i.toNat 0 + v)), .int .i64 0]) w) := by
  obtain ⟨n, rfl⟩ := Int.eq_ofNat_of_zero_le h0
  have hn : n < xs.length := by omega
  have := cells_add_ok h n v hn
  simpa [List.getD, List.getElem?_eq_getElem hn] using this
theorem cells_swap_other {o : Nat → Nat} {t b : Nat} {xs : List Int} {w : World} (h : CellsAt o w t b xs) (i u v : Int) (h0 : 0 ≤ i) (hi : i < xs.length) (hx : xs.getD i.toNat 0 ≠ u) :
    Calls Tryz.prog 123 #[.pointer (some ⟨b, 0, none⟩), .int .i64 i, .int .u64 u, .int .u64 v] w fun e w' => e = .returned (.tuple #[.bool false, .int .i64 0]) ∧ w = w' := by
  obtain ⟨n, rfl⟩ := Int.eq_ofNat_of_zero_le h0
  have hn : n < xs.length := by omega
  exact cells_swap_ne h n u v hn (by simpa [List.getD, List.getElem?_eq_getElem hn] using hx)
theorem cells_swap {o : Nat → Nat} {t b : Nat} {xs : List Int} {w : World} (h : CellsAt o w t b xs) (i u v : Int) (h0 : 0 ≤ i) (hi : i < xs.length) (hx : xs.getD i.toNat 0 = u) :
    Calls Tryz.prog 123 #[.pointer (some ⟨b, 0, none⟩), .int .i64 i, .int .u64 u, .int .u64 v] w (CellsPost o t b (xs.set i.toNat v) (.tuple #[.bool true, .int .i64 0]) w) := by
  obtain ⟨n, rfl⟩ := Int.eq_ofNat_of_zero_le h0
  have hn : n < xs.length := by omega
  have hx' : u = xs[n] := by rw [← hx]; simp [hn]
  subst hx'
  exact cells_swap_eq h n v hn
end Go.Proofs.YtcgfknpobifecaaGreat
