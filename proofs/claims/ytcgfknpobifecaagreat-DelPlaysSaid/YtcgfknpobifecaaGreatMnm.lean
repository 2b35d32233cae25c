/- Package mem: what its small functions come to, over a memory as one object. Condition: such an object is there. append onto slices of handles and of tables. No condition. Package mem: Retire, Take, Table, head, New, over a memory as one object. Condition: such an object is there. Package mem: Table, head, New, over a memory as one object. Condition: such an object is there. -/
import Derived.Test.YtcgfknpobifecaaGreatMkm
import Derived.Test.YtcgfknpobifecaaGreatFn
import Derived.Test.YtcgfknpobifecaaGreatProg
import Derived.Test.YtcgfknpobifecaaGreatHp
namespace Go.Proofs.YtcgfknpobifecaaGreat
open Go.RowKit

theorem mem_counter (i : Int) (h0 : 0 ≤ i) (h1 : i ≤ 1000000) (w : World) : Calls Tryz.prog 112 #[.int .i64 i] w fun e w' => e = .returned (.int .i64 (2 + i)) ∧ w = w' := by
  go_enter Tryz.func112, Tryz.ntmps112
  go_wp2
  go_ret
  exact ⟨by go_num, rfl⟩
def lockOf (sum n : Int) : Int := 1 + bucketOf sum n % 4
theorem bucketOf_lt (sum n : Int) (_h0 : 0 ≤ sum) : 0 ≤ bucketOf sum n ∧ bucketOf sum n ≤ 65536 := by
  unfold bucketOf
  split
  · rename_i h
    have := powB_lt h
    have h1 := Int.emod_nonneg sum (show n ≠ 0 by omega)
    have h2 := Int.emod_lt_of_pos sum (show 0 < n by omega)
    omega
  · omega
theorem lockOf_is (sum n : Int) (h0 : 0 ≤ sum) : 1 ≤ lockOf sum n ∧ lockOf sum n ≤ 4 := by
  have := bucketOf_lt sum n h0
  unfold lockOf
  omega
theorem mem_writerLock (sum n : Int) (h0 : 0 ≤ sum) (h1 : sum ≤ 4294967295) (w : World) : Calls Tryz.prog 107 #[.int .u32 sum, .int .i64 n] w fun e w' => e = .returned (.int .i64 (lockOf sum n)) ∧ w = w' := by
  have hb := bucketOf_lt sum n h0
  have hc := fnv_bucket sum n h0 (by omega)
  unfold lockOf
  generalize bucketOf sum n = k at *
  obtain ⟨hk0, hk1⟩ := hb
  have htm : k.tmod 4 = k % 4 := Int.tmod_eq_emod_of_nonneg hk0
  go_enter Tryz.func107, Tryz.ntmps107
  go_wp2_with fail
  refine (hc _).mono ?_
  rintro e w' ⟨rfl, rfl⟩
  go_wp2
  go_ret
  exact ⟨by go_num, rfl⟩

section
variable {l : List KObj} {w : World} {t : Nat} {m : MemS}
theorem mem_workers (h : R l w) (ht : l[t]? = some (MemK m)) : Calls Tryz.prog 168 #[.pointer (some ⟨m.b, 0, none⟩)] w fun e w' => e = .returned (.int .i64 m.workers) ∧ w = w' := by
  obtain ⟨tv, wv, hb⟩ := h.memHdr ht
  go_enter Tryz.func168, Tryz.ntmps168
  go_wp2
  go_ret
  exact ⟨rfl, rfl⟩
theorem mem_waiting (h : R l w) (ht : l[t]? = some (MemK m)) : Calls Tryz.prog 13 #[.pointer (some ⟨m.b, 0, none⟩)] w fun e w' => e = .returned (.int .i64 m.waiting.length) ∧ w = w' := by
  obtain ⟨o, hr, _, _, _, _, tv, wv, hb, _, hs⟩ := h.get ht
  have hb := hb.heap
  obtain ⟨a, c, rfl⟩ := hs.value
  go_enter Tryz.func13, Tryz.ntmps13
  go_wp2
  go_ret
  exact ⟨rfl, rfl⟩

theorem descL_len (d : Int × Int) : (descL d).length = 2 := rfl
theorem desc_at {o : Nat → Nat} {w : World} {t : Nat} {v : Value} {l : List (Int × Int)} (hs : SlAt o w t 83 2 v l.length (l.flatMap descL)) {i : Nat} (hi : i < l.length) :
    ∃ g cap cur, v = .slice (some ⟨g, 0, none⟩) l.length cap ∧ blk w g = some (.cells cur 83 (0, 0)) ∧ cap ≤ 9223372036854775807 ∧ l.length ≤ cap ∧
      cur[i * 2]? = some (.int .i64 (l.getD i (0, 0)).1) ∧ cur[i * 2 + 1]? = some (.int .i64 (l.getD i (0, 0)).2) := by
  obtain ⟨g, cap, cur, rfl, hg, hog, h1, h2, h3, h4⟩ := hs.row (by omega)
  have hgi : l[i]? = some (l.getD i (0, 0)) := by simp [hi]
  have G : ∀ j, j < 2 → ∀ u, (descL (l.getD i (0, 0)))[j]? = some u → cur[i * 2 + j]? = some u := fun j hj u hu => cur_at h4 (by rw [flat_get descL 2 descL_len _ _ _ hj, hgi]; exact hu)
  exact ⟨g, cap, cur, rfl, hg, by simp only [maxLen] at h2; omega, h1, G 0 (by decide) _ rfl, G 1 (by decide) _ rfl⟩
def descV (d : Int × Int) : Value := .agg #[.int .i64 d.1, .int .i64 d.2]
/-- The table of a number. -/
def descOf (m : MemS) (i : Int) : Int × Int := if 0 ≤ i then m.tables.getD i.toNat (0, 0) else (0, 0)
theorem mem_desc (h : R l w) (ht : l[t]? = some (MemK m)) (i : Int) :
    Calls Tryz.prog 106 #[.pointer (some ⟨m.b, 0, none⟩), .int .i64 i] w (Does l (.tuple #[descV (descOf m i), .bool (decide (0 ≤ i ∧ i < m.tables.length))])) := by
  obtain ⟨o, hr, hok, _, _, _, tv, wv, hb, hs, _⟩ := h.get ht
  replace hb := hb.heap
  have hlt := lt_of_blk hb
  by_cases h0 : 0 ≤ i
  · by_cases h1 : i < m.tables.length
    · obtain ⟨n, rfl⟩ := Int.eq_ofNat_of_zero_le h0
      have hn : n < m.tables.length := by omega
      obtain ⟨g, cap, cur, rfl, hg, hc, hle, c0, c1⟩ := desc_at hs hn
      have hgl := lt_of_blk hg
      have e1 : descOf m n = m.tables.getD n (0, 0) := by rw [descOf, if_pos h0]; rfl
      rw [e1]
      generalize m.tables.getD n (0, 0) = d at *
      generalize m.tables.length = N at *
      replace h := hide h
      clear hr hok hs e1
      go_enter Tryz.func106, Tryz.ntmps106
      go_wp2
      refine bodyPost_ret (by simp [results, Tryz.results106, go_sem]; rfl) rfl ?_
      exact ⟨by simp [descV]; omega, h.out.alloc _⟩
    · have e1 : descOf m i = (0, 0) := by rw [descOf, if_pos h0]; simp [List.getElem?_eq_none (show m.tables.length ≤ i.toNat by omega)]
      rw [e1]
      obtain ⟨a, c, rfl⟩ := hs.value
      have hle := hs.le63
      generalize m.tables.length = N at *
      replace h := hide h
      clear hr hok hs e1
      go_enter Tryz.func106, Tryz.ntmps106
      go_wp2
      refine bodyPost_ret (by simp [results, Tryz.results106, go_sem]; rfl) rfl ?_
      exact ⟨by simp [descV]; omega, h.out.alloc _⟩
  · have e1 : descOf m i = (0, 0) := by rw [descOf, if_neg h0]
    rw [e1]
    obtain ⟨a, c, rfl⟩ := hs.value
    generalize m.tables.length = N at *
    replace h := hide h
    clear hr hok hs e1
    go_enter Tryz.func106, Tryz.ntmps106
    go_wp2
    refine bodyPost_ret (by simp [results, Tryz.results106, go_sem]; rfl) rfl ?_
    exact ⟨by simp [descV]; omega, h.out.alloc _⟩
/-- The table that counts. -/
def nowOf (m : MemS) : Int × Int := m.tables.getD (m.cells.getD 1 0).toNat (0, 0)
theorem mem_now (h : R l w) (ht : l[t]? = some (MemK m)) :
    Calls Tryz.prog 47 #[.pointer (some ⟨m.b, 0, none⟩)] w (Does l (descV (nowOf m))) := by
  obtain ⟨o, hr, hok, _, _, _, tv, wv, hb, hs, _⟩ := h.get ht
  replace hb := hb.heap
  have hlt := lt_of_blk hb
  have hl : Hid (∀ w', R l w' → _) := hide fun w' h => memR_load (w := w') h ht 1 (by decide) (by have := hok.cells3; omega)
  have hu := hok.cell 1
  have hlen : m.tables.length ≤ 1048576 := by have := hok.tabLen; have := hok.cellsLen; omega
  unfold nowOf
  rw [show (1 : Int).toNat = 1 from rfl] at hl
  generalize m.cells.getD 1 0 = v at *
  obtain ⟨n, rfl⟩ := Int.eq_ofNat_of_zero_le hu.1
  have hu2 := hu.2
  clear hu hok hr
  rw [Int.toNat_natCast]
  by_cases h1 : n < m.tables.length
  · obtain ⟨g, cap, cur, rfl, hg, hc, hle, c0, c1⟩ := desc_at hs h1
    have hgl := lt_of_blk hg
    generalize m.tables.getD n (0, 0) = d at *
    generalize m.tables.length = N at *
    replace h := hide h
    clear hs
    go_enter Tryz.func47, Tryz.ntmps47
    go_wp2_with fail
    refine (hl.out _ (h.out.alloc _)).mono ?_
    rintro e w' ⟨rfl, rfl⟩
    go_wp2
    refine bodyPost_ret (by simp [results, Tryz.results47, go_sem]; rfl) rfl ?_
    exact ⟨by simp [descV], h.out.alloc _⟩
  · rw [show m.tables.getD n (0, 0) = (0, 0) by simp [List.getElem?_eq_none (Nat.le_of_not_lt h1)]]
    obtain ⟨a, c, rfl⟩ := hs.value
    have hle := hs.le63
    generalize m.tables.length = N at *
    replace h := hide h
    clear hs
    go_enter Tryz.func47, Tryz.ntmps47
    go_wp2_with fail
    refine (hl.out _ (h.out.alloc _)).mono ?_
    rintro e w' ⟨rfl, rfl⟩
    go_wp2
    refine bodyPost_ret (by simp [results, Tryz.results47, go_sem]; rfl) rfl ?_
    exact ⟨by simp [descV], h.out.alloc _⟩
end
end Go.Proofs.YtcgfknpobifecaaGreat

namespace Go.Proofs.YtcgfknpobifecaaGreat
open Go.RowKit

theorem info_handle : (Tryz.prog.info? 47).map (fun i => (i.zero, i.size, i.bytes)) = some (some (.int .u64 0), 1, 8) := by kernel_rfl
/-- append(xs, x), elements of type handle. -/
theorem push_handle {w : World} {o : Nat → Nat} {tg : Nat} {ops : Array Oper} {rest : List Oper} {op : Oper} {a : Act} {Q : Exit → Act → World → Prop} (hgd : op.guard = none) (s x : Operand)
    (ho : op.op = .call { callee := .builtin .append, args := #[s, x], argTypes := #[34, 34] })
    (v : Value) (n : Nat) (xs : List Value) (hs : a.eval s = v) (hown : SlAt o w tg 47 1 v n xs) (g c : Nat) (news : Array Value) (hx : a.eval x = .slice (some ⟨g, 0, none⟩) 1 c)
    (hg : blk w g = some (.cells news 47 (0, 0))) (hl : news.size = 1) (h1 : ∀ u ∈ news.toList, u.oneCell' = true) (hb : n + 1 ≤ 1073741824)
    (h : ∀ v' w' o', SlAt o' w' tg 47 1 v' (n + 1) (xs ++ news.toList) → Ext o o' w w' (fun x => x = tg) → w.grownBy w' v.ownBlock → v' ≠ .slice none 0 0 → wpList Tryz.prog ops Q rest (a.put op.dst v') w') :
    wpList Tryz.prog ops Q (op :: rest) a w := by
  obtain ⟨i0, hi, hz0, hz1, hz2⟩ := info_parts info_handle
  exact wpList_push hgd s x 34 ho 47 i0 (.int .u64 0) 1 8 Tryz.underlying34 hi hz0 hz1 hz2 rfl (by decide) v n xs hs hown g c news hx hg hl h1 (by simp only [maxLen]; omega) (by omega) h
/-- append(xs, ys...), elements of type handle. -/
theorem src_handle {w : World} {o : Nat → Nat} {tg tg2 : Nat} {ops : Array Oper} {rest : List Oper} {op : Oper} {a : Act} {Q : Exit → Act → World → Prop} (hgd : op.guard = none) (s x : Operand)
    (ho : op.op = .call { callee := .builtin .append, args := #[s, x], argTypes := #[34, 34] })
    (v : Value) (n : Nat) (xs : List Value) (hs : a.eval s = v) (hown : SlAt o w tg 47 1 v n xs) (v2 : Value) (m : Nat) (news : List Value) (hx : a.eval x = v2) (hsrc : SlAt o w tg2 47 1 v2 m news)
    (h1 : ∀ u ∈ news, u.oneCell' = true) (hb : n + m ≤ 1073741824)
    (h : ∀ v' w' o', SlAt o' w' tg 47 1 v' (n + m) (xs ++ news) → Ext o o' w w' (fun x => x = tg) → w.grownBy w' v.ownBlock → (v' = .slice none 0 0 ↔ v = .slice none 0 0 ∧ m = 0) → wpList Tryz.prog ops Q rest (a.put op.dst v') w') :
    wpList Tryz.prog ops Q (op :: rest) a w := by
  obtain ⟨i0, hi, hz0, hz1, hz2⟩ := info_parts info_handle
  exact wpList_append_src hgd s x 34 ho 47 i0 (.int .u64 0) 1 8 Tryz.underlying34 hi hz0 hz1 hz2 rfl (by decide) v n xs hs hown v2 m news hx hsrc h1 (by simp only [maxLen]; omega) (by omega) h
/-- append(xs, ys...), elements of type handle, ys wherever it lies. -/
theorem many_handle {w : World} {o : Nat → Nat} {tg : Nat} {ops : Array Oper} {rest : List Oper} {op : Oper} {a : Act} {Q : Exit → Act → World → Prop} (hgd : op.guard = none) (s x : Operand)
    (ho : op.op = .call { callee := .builtin .append, args := #[s, x], argTypes := #[34, 34] })
    (v : Value) (n : Nat) (xs : List Value) (hs : a.eval s = v) (hown : SlAt o w tg 47 1 v n xs) (ad : Addr) (m c : Nat) (news : List Value) (hx : a.eval x = .slice (some ad) m c) (hl : news.length = m * 1)
    (hnews : ∀ j u, news[j]? = some u → w.cell? (ad.add j) = some u) (h1 : ∀ u ∈ news, u.oneCell' = true) (hb : n + m ≤ 1073741824)
    (h : ∀ v' w' o', SlAt o' w' tg 47 1 v' (n + m) (xs ++ news) → Ext o o' w w' (fun x => x = tg) → w.grownBy w' v.ownBlock → (v' = .slice none 0 0 ↔ v = .slice none 0 0 ∧ m = 0) → wpList Tryz.prog ops Q rest (a.put op.dst v') w') :
    wpList Tryz.prog ops Q (op :: rest) a w := by
  obtain ⟨i0, hi, hz0, hz1, hz2⟩ := info_parts info_handle
  exact wpList_append_sl hgd s x 34 ho 47 i0 (.int .u64 0) 1 8 Tryz.underlying34 hi hz0 hz1 hz2 rfl (by decide) v n xs hs hown ad m c news hx hl hnews h1 (by simp only [maxLen]; omega) (by omega) h

theorem info_desc : (Tryz.prog.info? 83).map (fun i => (i.zero, i.size, i.bytes)) = some (some (.agg #[.int .i64 0, .int .i64 0]), 2, 16) := by kernel_rfl
/-- append(xs, x), elements of type desc. -/
theorem push_desc {w : World} {o : Nat → Nat} {tg : Nat} {ops : Array Oper} {rest : List Oper} {op : Oper} {a : Act} {Q : Exit → Act → World → Prop} (hgd : op.guard = none) (s x : Operand)
    (ho : op.op = .call { callee := .builtin .append, args := #[s, x], argTypes := #[33, 33] })
    (v : Value) (n : Nat) (xs : List Value) (hs : a.eval s = v) (hown : SlAt o w tg 83 2 v n xs) (g c : Nat) (news : Array Value) (hx : a.eval x = .slice (some ⟨g, 0, none⟩) 1 c)
    (hg : blk w g = some (.cells news 83 (0, 0))) (hl : news.size = 2) (h1 : ∀ u ∈ news.toList, u.oneCell' = true) (hb : n + 1 ≤ 1073741824)
    (h : ∀ v' w' o', SlAt o' w' tg 83 2 v' (n + 1) (xs ++ news.toList) → Ext o o' w w' (fun x => x = tg) → w.grownBy w' v.ownBlock → v' ≠ .slice none 0 0 → wpList Tryz.prog ops Q rest (a.put op.dst v') w') :
    wpList Tryz.prog ops Q (op :: rest) a w := by
  obtain ⟨i0, hi, hz0, hz1, hz2⟩ := info_parts info_desc
  exact wpList_push hgd s x 33 ho 83 i0 (.agg #[.int .i64 0, .int .i64 0]) 2 16 Tryz.underlying33 hi hz0 hz1 hz2 rfl (by decide) v n xs hs hown g c news hx hg hl h1 (by simp only [maxLen]; omega) (by omega) h
/-- append(xs, ys...), elements of type desc. -/
theorem src_desc {w : World} {o : Nat → Nat} {tg tg2 : Nat} {ops : Array Oper} {rest : List Oper} {op : Oper} {a : Act} {Q : Exit → Act → World → Prop} (hgd : op.guard = none) (s x : Operand)
    (ho : op.op = .call { callee := .builtin .append, args := #[s, x], argTypes := #[33, 33] })
    (v : Value) (n : Nat) (xs : List Value) (hs : a.eval s = v) (hown : SlAt o w tg 83 2 v n xs) (v2 : Value) (m : Nat) (news : List Value) (hx : a.eval x = v2) (hsrc : SlAt o w tg2 83 2 v2 m news)
    (h1 : ∀ u ∈ news, u.oneCell' = true) (hb : n + m ≤ 1073741824)
    (h : ∀ v' w' o', SlAt o' w' tg 83 2 v' (n + m) (xs ++ news) → Ext o o' w w' (fun x => x = tg) → w.grownBy w' v.ownBlock → (v' = .slice none 0 0 ↔ v = .slice none 0 0 ∧ m = 0) → wpList Tryz.prog ops Q rest (a.put op.dst v') w') :
    wpList Tryz.prog ops Q (op :: rest) a w := by
  obtain ⟨i0, hi, hz0, hz1, hz2⟩ := info_parts info_desc
  exact wpList_append_src hgd s x 33 ho 83 i0 (.agg #[.int .i64 0, .int .i64 0]) 2 16 Tryz.underlying33 hi hz0 hz1 hz2 rfl (by decide) v n xs hs hown v2 m news hx hsrc h1 (by simp only [maxLen]; omega) (by omega) h
/-- append(xs, ys...), elements of type desc, ys wherever it lies. -/
theorem many_desc {w : World} {o : Nat → Nat} {tg : Nat} {ops : Array Oper} {rest : List Oper} {op : Oper} {a : Act} {Q : Exit → Act → World → Prop} (hgd : op.guard = none) (s x : Operand)
    (ho : op.op = .call { callee := .builtin .append, args := #[s, x], argTypes := #[33, 33] })
    (v : Value) (n : Nat) (xs : List Value) (hs : a.eval s = v) (hown : SlAt o w tg 83 2 v n xs) (ad : Addr) (m c : Nat) (news : List Value) (hx : a.eval x = .slice (some ad) m c) (hl : news.length = m * 2)
    (hnews : ∀ j u, news[j]? = some u → w.cell? (ad.add j) = some u) (h1 : ∀ u ∈ news, u.oneCell' = true) (hb : n + m ≤ 1073741824)
    (h : ∀ v' w' o', SlAt o' w' tg 83 2 v' (n + m) (xs ++ news) → Ext o o' w w' (fun x => x = tg) → w.grownBy w' v.ownBlock → (v' = .slice none 0 0 ↔ v = .slice none 0 0 ∧ m = 0) → wpList Tryz.prog ops Q rest (a.put op.dst v') w') :
    wpList Tryz.prog ops Q (op :: rest) a w := by
  obtain ⟨i0, hi, hz0, hz1, hz2⟩ := info_parts info_desc
  exact wpList_append_sl hgd s x 33 ho 83 i0 (.agg #[.int .i64 0, .int .i64 0]) 2 16 Tryz.underlying33 hi hz0 hz1 hz2 rfl (by decide) v n xs hs hown ad m c news hx hl hnews h1 (by simp only [maxLen]; omega) (by omega) h

end Go.Proofs.YtcgfknpobifecaaGreat

namespace Go.Proofs.YtcgfknpobifecaaGreat
open Go.RowKit

section
variable {l : List KObj} {w : World} {t : Nat} {m : MemS}
/-- What turns the header, the tables, those that wait. -/
theorem Rp.memTail {o o' : Nat → Nat} {w' : World} {S : Nat → Prop} (h : Rp l o w) (ht : l[t]? = some (MemK m)) {ts : List (Int × Int)} {ws : List Int} (hok : MemOk { m with tables := ts, waiting := ws })
    (e : Ext o o' w w' S) (hS : ∀ x, S x → 16 * t + 4 ≤ x ∧ x ≤ 16 * t + 6) {tv wv : Value}
    (hb : StAt o' w' (16 * t + 4) m.b #[.pointer (some ⟨m.cb, 0, none⟩), .pointer (some ⟨m.lb, 0, none⟩), .pointer (some ⟨m.ab, 0, none⟩), .int .i64 m.workers, tv, wv] 36)
    (h1 : SlAt o' w' (16 * t + 5) 83 2 tv ts.length (ts.flatMap descL)) (h2 : SlAt o' w' (16 * t + 6) 47 1 wv ws.length (ws.map (Value.int .u64))) :
    R (l.set t (MemK { m with tables := ts, waiting := ws })) w' := by
  obtain ⟨_, g1, g2, g3, _⟩ := h.get ht
  exact h.step e (fun x hx => by have := hS x hx; omega) ⟨hok, g1.ext e (fun x => by have := hS _ x; omega), g2.ext e (fun x => by have := hS _ x; omega), g3.ext e (fun x => by have := hS _ x; omega) (fun x => by have := hS _ x; omega), tv, wv, hb, h1, h2⟩

set_option maxHeartbeats 400000 in
theorem mem_retire (h : R l w) (ht : l[t]? = some (MemK m)) (x : Int) (hx : U64 x) (hl : m.waiting.length ≤ 1000000) :
    Calls Tryz.prog 142 #[.pointer (some ⟨m.b, 0, none⟩), .int .u64 x] w (Does (l.set t (MemK { m with waiting := m.waiting ++ [x] })) (.tuple #[])) := by
  obtain ⟨o, hr, hok, _, _, _, tv, wv, hb, ts, ws⟩ := h.get ht
  obtain ⟨a, c, rfl⟩ := ws.value
  have hb' := hb.heap
  have hlt := hb.lt
  replace hr := hide hr
  replace hok := hide hok
  replace hb := hide hb
  replace ts := hide ts
  clear h
  go_enter Tryz.func142, Tryz.ntmps142
  go_wp2_with (at_builtin; refine push_handle rfl (.tmp 8) (.tmp 10) rfl _ _ _ rfl (ws.alloc _) w.heap.size 1 _ rfl (blk_new _ _) rfl (by simp; rfl) (by omega) ?_)
  intro v' w1 o1 hs1 he hg1 hn1
  have hb1 := (hb.out.alloc _).ext he (by omega)
  have ts1 := hide ((ts.out.alloc _).ext he (by omega))
  obtain ⟨a', c', rfl⟩ := hs1.value
  have hbh := hb1.heap
  have he1 := hide ((((Ext.refl o w (fun _ => False)).alloc (.cells #[.int .u64 x] 47)).none.trans he).mono (S2 := fun y => y = 16 * t + 4 ∨ y = 16 * t + 6) (fun y hy => .inr hy))
  replace hb1 := hide hb1
  replace hs1 := hide hs1
  clear hb' hg1 hn1 ws he
  go_wp2
  go_end0
  refine ⟨rfl, hr.out.memTail ht (S := fun y => y = 16 * t + 4 ∨ y = 16 * t + 6) ⟨hok.out.cells, hok.out.cellsLen, hok.out.cells3, hok.out.locks, hok.out.held, hok.out.work, hok.out.tab, hok.out.tabLen, fun y hy => ?_, hok.out.node⟩ (he1.out.put _ (.inl (.inl hb1.out.tag))) (fun y hy => by omega) (hb1.out.put 5 _) (ts1.out.put_far (ts1.out.apart hbh (by decide))) ?_⟩
  · rcases List.mem_append.1 hy with h1 | h1
    · exact hok.out.wait y h1
    · simp at h1; subst h1; exact hx
  · have := hs1.out.put_far (i := 5) (u := .slice a' (m.waiting.length + 1) c') (hs1.out.apart hbh (by decide))
    simpa using this

/-- What Take answers: a slice of its own. -/
def TakesPost (l : List KObj) (t : Nat) (m : MemS) (e : Ending) (w' : World) : Prop :=
  ∃ v, e = .returned v ∧ R (l.set t (MemK { m with waiting := [] }) ++ [SlK 47 1 v m.waiting.length (m.waiting.map (Value.int .u64))]) w'
theorem Rp.mem_move {o : Nat → Nat} (h : Rp l o w) (ht : l[t]? = some (MemK m)) {tv wv : Value} (hb : StAt o w (16 * t + 4) m.b #[.pointer (some ⟨m.cb, 0, none⟩), .pointer (some ⟨m.lb, 0, none⟩), .pointer (some ⟨m.ab, 0, none⟩), .int .i64 m.workers, tv, wv] 36)
    (h1 : SlAt o w (16 * t + 5) 83 2 tv m.tables.length (m.tables.flatMap descL)) (h2 : SlAt o w (16 * t + 6) 47 1 wv m.waiting.length (m.waiting.map (Value.int .u64))) :
    R (l.set t (MemK { m with waiting := [] }) ++ [SlK 47 1 wv m.waiting.length (m.waiting.map (Value.int .u64))]) (w.setCell ⟨m.b, 5, none⟩ (.slice none 0 0)) := by
  obtain ⟨hok, g1, g2, g3, _⟩ := h.get ht
  have htl : t < l.length := (List.getElem?_eq_some_iff.1 ht).1
  have hk := mv_kp o w (16 * t + 6) (16 * l.length)
  have hmv : mv o (16 * t + 6) (16 * l.length) m.b = 16 * t + 4 := (hk.kp m.b hb.lt (by rw [hb.tag]; omega)).1.trans hb.tag
  have e : Ext (mv o (16 * t + 6) (16 * l.length)) (mv o (16 * t + 6) (16 * l.length)) w (w.setCell ⟨m.b, 5, none⟩ (.slice none 0 0)) (fun y => y = 16 * t + 4) := (Ext.refl _ w _).put _ (.inl hmv)
  refine ⟨mv o (16 * t + 6) (16 * l.length), fun u p hu => ?_⟩
  have hbm := hb.kp hk (by omega)
  have tsm := h1.kp hk (by omega)
  have wsm := h2.mv (16 * l.length)
  by_cases hul : u < l.length
  · rw [List.getElem?_append_left (by simpa using hul)] at hu
    rw [List.getElem?_set] at hu
    by_cases hut : t = u
    · subst hut
      rw [if_pos rfl, if_pos hul] at hu
      cases hu
      refine ⟨⟨hok.cells, hok.cellsLen, hok.cells3, hok.locks, hok.held, hok.work, hok.tab, hok.tabLen, fun _ hx => absurd hx List.not_mem_nil, hok.node⟩, (g1.kp hk (by omega)).ext e (by omega), (g2.kp hk (by omega)).ext e (by omega), (g3.kp hk (by omega) (by omega)).ext e (by omega) (by omega), tv, .slice none 0 0, hbm.put 5 _, tsm.put_far (tsm.apart hb.heap (by decide)), SlAt.nil _ _ _ _ _⟩
    · rw [if_neg hut] at hu
      have hp := h u p hu
      exact p.keep e.kp (fun j hj => by omega) (p.keep hk (fun j hj => by omega) hp)
  · rw [List.getElem?_append_right (by simpa using Nat.le_of_not_lt hul)] at hu
    by_cases h0 : u = l.length
    · subst h0
      simp at hu
      subst hu
      exact wsm.put_far (wsm.apart hb.heap (by decide))
    · rw [List.getElem?_eq_none (by simp; omega)] at hu
      cases hu
theorem mem_take (h : R l w) (ht : l[t]? = some (MemK m)) : Calls Tryz.prog 209 #[.pointer (some ⟨m.b, 0, none⟩)] w (TakesPost l t m) := by
  obtain ⟨o, hr, _, _, _, _, tv, wv, hb, ts, ws⟩ := h.get ht
  have hm := hide (hr.mem_move ht hb ts ws)
  obtain ⟨a, c, rfl⟩ := ws.value
  replace hb := hb.heap
  clear h hr ts ws
  go_enter Tryz.func209, Tryz.ntmps209
  go_wp2
  go_ret
  exact ⟨_, rfl, hm.out⟩
end
end Go.Proofs.YtcgfknpobifecaaGreat

namespace Go.Proofs.YtcgfknpobifecaaGreat
open Go.RowKit

section
variable {l : List KObj} {w : World} {t : Nat} {m : MemS}
theorem MemOk.grow (h : MemOk m) (n : Nat) (hn : m.cells.length + n ≤ 1048576) : MemOk { m with cells := m.cells ++ List.replicate n 0 } where
  cells := fun x hx => by
    rcases List.mem_append.1 hx with h1 | h1
    · exact h.cells x h1
    · rw [List.eq_of_mem_replicate h1]; exact ⟨by decide, by decide⟩
  cellsLen := by simpa using hn
  cells3 := by have := h.cells3; simp; omega
  locks := h.locks
  held := h.held
  work := h.work
  tab := fun d hd => by have := h.tab d hd; simp; omega
  tabLen := by have := h.tabLen; simp; omega
  wait := h.wait
  node := h.node
theorem memR_grow (h : R l w) (ht : l[t]? = some (MemK m)) (n : Int) (h0 : 0 ≤ n) (hn : n ≤ 1048576 - m.cells.length) :
    Calls Tryz.prog 39 #[.pointer (some ⟨m.cb, 0, none⟩), .int .i64 n] w (Does (l.set t (MemK { m with cells := m.cells ++ List.replicate n.toNat 0 })) (.tuple #[.int .i64 m.cells.length, .int .i64 0])) := by
  obtain ⟨o, hr, hm⟩ := h.get ht
  refine (cells_grow_ok hm.2.1 n h0 hn).mono ?_
  rintro e w' ⟨o', rfl, hc, he⟩
  exact ⟨rfl, hr.memCells ht (hm.1.grow _ (by omega)) hc he⟩
theorem memR_grow_no (h : R l w) (ht : l[t]? = some (MemK m)) (n : Int) (hn : n < 0 ∨ 1048576 - m.cells.length < n) :
    Calls Tryz.prog 39 #[.pointer (some ⟨m.cb, 0, none⟩), .int .i64 n] w fun e w' => e = .returned (.tuple #[.int .i64 (-1), .int .i64 2]) ∧ w = w' := by
  obtain ⟨o, _, _, hc, _⟩ := h.get ht
  exact cells_grow_no hc n hn

/-- Behind a table more. -/
def tableM (m : MemS) (n : Int) : MemS := { m with cells := m.cells ++ List.replicate n.toNat 0, tables := m.tables ++ [(n, (m.cells.length : Int))] }
theorem mem_table_no (h : R l w) (n : Int) (hn : powB n = false) (b : Nat) : Calls Tryz.prog 8 #[.pointer (some ⟨b, 0, none⟩), .int .i64 n] w (Does l (.tuple #[.int .i64 (-1), .int .i64 5])) := by
  have hc := fnv_power n
  rw [hn] at hc
  go_enter Tryz.func8, Tryz.ntmps8
  go_wp2_with fail
  refine (hc _).mono ?_
  rintro e w' ⟨rfl, rfl⟩
  go_wp2
  go_ret2
  exact ⟨rfl, h⟩
theorem mem_table_full (h : R l w) (ht : l[t]? = some (MemK m)) (n : Int) (hn : powB n = true) (hg : 1048576 - m.cells.length < n) :
    Calls Tryz.prog 8 #[.pointer (some ⟨m.b, 0, none⟩), .int .i64 n] w (Does l (.tuple #[.int .i64 (-1), .int .i64 2])) := by
  obtain ⟨tv, wv, hb⟩ := h.memHdr ht
  have hc := fnv_power n
  rw [hn] at hc
  go_enter Tryz.func8, Tryz.ntmps8
  go_wp2_with fail
  refine (hc _).mono ?_
  rintro e w' ⟨rfl, rfl⟩
  go_wp2_with fail
  refine (memR_grow_no h ht n (.inr hg)).mono ?_
  rintro e w' ⟨rfl, rfl⟩
  go_wp2
  go_ret2
  exact ⟨rfl, h⟩
set_option maxHeartbeats 800000 in
theorem mem_table (h : R l w) (ht : l[t]? = some (MemK m)) (n : Int) (hn : powB n = true) (hg : n ≤ 1048576 - m.cells.length) :
    Calls Tryz.prog 8 #[.pointer (some ⟨m.b, 0, none⟩), .int .i64 n] w (Does (l.set t (MemK (tableM m n))) (.tuple #[.int .i64 m.tables.length, .int .i64 0])) := by
  obtain ⟨tv, wv, hb⟩ := h.memHdr ht
  have hn0 := powB_lt hn
  have hok0 := hide (h.memOk ht)
  have hc := fnv_power n
  rw [hn] at hc
  have gr := hide (memR_grow h ht n (by omega) hg)
  clear hb tv wv
  obtain ⟨tv, wv, hb⟩ := h.memHdr ht
  go_enter Tryz.func8, Tryz.ntmps8
  go_wp2_with fail
  refine (hc _).mono ?_
  rintro e w' ⟨rfl, rfl⟩
  go_wp2_with fail
  refine gr.out.mono ?_
  rintro e w1 ⟨rfl, h1⟩
  clear gr hb h tv wv
  have ht1 := set_get (q := MemK { m with cells := m.cells ++ List.replicate n.toNat 0 }) ht
  obtain ⟨o, hr, hok, _, _, _, tv, wv, hb, ts, ws⟩ := h1.get ht1
  dsimp only at hb ts ws
  obtain ⟨a, c, rfl⟩ := ts.value
  have hb' := hb.heap
  have hlt := hb.lt
  have hlen : m.tables.length ≤ 1000000000 := by have := hok.tabLen; have := hok.cellsLen; simp only at *; omega
  replace hr := hide hr
  replace hok := hide hok
  replace hb := hide hb
  replace ws := hide ws
  clear h1
  go_wp2_with (at_builtin; refine push_desc rfl (.tmp 27) (.tmp 31) rfl _ _ _ rfl (ts.alloc _) w1.heap.size 1 _ rfl (blk_new _ _) rfl (by simp; exact ⟨rfl, rfl⟩) (by omega) ?_)
  intro v' w2 o1 hs1 he hg1 hn1
  have hb1 := (hb.out.alloc _).ext he (by omega)
  have ws1 := hide ((ws.out.alloc _).ext he (by omega))
  obtain ⟨a', c', rfl⟩ := hs1.value
  have hbh := hb1.heap
  have he1 := hide ((((Ext.refl o w1 (fun _ => False)).alloc _).none.trans he).mono (S2 := fun y => y = 16 * t + 4 ∨ y = 16 * t + 5) (fun y hy => .inr hy))
  replace hb1 := hide hb1
  replace hs1 := hide hs1
  clear hb' hg1 hn1 ts he
  go_wp2
  go_ret2
  refine ⟨by go_num, ?_⟩
  have this : R _ (w2.setCell ⟨m.b, 4, none⟩ (.slice a' (m.tables.length + 1) c')) := hr.out.memTail ht1 (m := { m with cells := m.cells ++ List.replicate n.toNat 0 }) (ts := m.tables ++ [(n, (m.cells.length : Int))]) (ws := m.waiting) (S := fun y => y = 16 * t + 4 ∨ y = 16 * t + 5) ?_ (he1.out.put _ (.inl (.inl hb1.out.tag))) (fun y hy => by omega) (hb1.out.put 4 (.slice a' (m.tables.length + 1) c')) ?_ (ws1.out.put_far (ws1.out.apart hbh (by decide)))
  · rw [List.set_set] at this
    exact this
  · have hk := hok.out
    refine ⟨hk.cells, hk.cellsLen, hk.cells3, hk.locks, hk.held, hk.work, fun d hd => ?_, ?_, hk.wait, hk.node⟩
    · rcases List.mem_append.1 hd with h1 | h1
      · exact hk.tab d h1
      · simp at h1; subst h1; simp; omega
    · have := hok0.out.tabLen; have := hn0.1; simp; omega
  · have := hs1.out.put_far (i := 4) (u := .slice a' (m.tables.length + 1) c') (hs1.out.apart hbh (by decide))
    simpa [descL] using this
end
end Go.Proofs.YtcgfknpobifecaaGreat
