/- Package mem: what its small functions come to, over a memory as one object. Condition: such an object is there. -/
import Derived.Test.YtcoaemjoanbemaaMl
import Derived.Test.YtcoaemjoanbemaaFn
namespace Go.Proofs.Ytcoaemjoanbemaa
open Go.RowKit

theorem mem_counter (i : Int) (h0 : 0 ≤ i) (h1 : i ≤ 1000000) (w : World) : Calls Try.prog 67 #[.int .i64 i] w fun e w' => e = .returned (.int .i64 (2 + i)) ∧ w = w' := by
  go_enter Try.func67, Try.ntmps67
  go_wp2
  go_ret
  exact ⟨by go_num, rfl⟩
def lockOf (sum n : Int) : Int := 1 + bucketOf sum n % 4
theorem bucketOf_lt (sum n : Int) (_h0 : 0 ≤ sum) : 0 ≤ bucketOf sum n ∧ bucketOf sum n ≤ 65536 := by
  unfold bucketOf
  split
  · rename_i h
    have := powB_lt h
    have h1 := Int.emod_nonneg sum (show n ≠ 0 by omega)
    have h2 := Int.emod_lt_of_pos sum (show 0 < n by omega)
    omega
  · omega
theorem lockOf_is (sum n : Int) (h0 : 0 ≤ sum) : 1 ≤ lockOf sum n ∧ lockOf sum n ≤ 4 := by
  have := bucketOf_lt sum n h0
  unfold lockOf
  omega
section
variable {l : List KObj} {w : World} {t : Nat} {m : MemS}
theorem mem_workers (h : R l w) (ht : l[t]? = some (MemK m)) : Calls Try.prog 16 #[.pointer (some ⟨m.b, 0, none⟩)] w fun e w' => e = .returned (.int .i64 m.workers) ∧ w = w' := by
  obtain ⟨tv, wv, hb⟩ := h.memHdr ht
  go_enter Try.func16, Try.ntmps16
  go_wp2
  go_ret
  exact ⟨rfl, rfl⟩
theorem mem_waiting (h : R l w) (ht : l[t]? = some (MemK m)) : Calls Try.prog 31 #[.pointer (some ⟨m.b, 0, none⟩)] w fun e w' => e = .returned (.int .i64 m.waiting.length) ∧ w = w' := by
  obtain ⟨o, hr, _, _, _, _, tv, wv, hb, _, hs⟩ := h.get ht
  have hb := hb.heap
  obtain ⟨a, c, rfl⟩ := hs.value
  go_enter Try.func31, Try.ntmps31
  go_wp2
  go_ret
  exact ⟨rfl, rfl⟩

theorem descL_len (d : Int × Int) : (descL d).length = 2 := rfl
theorem desc_at {o : Nat → Nat} {w : World} {t : Nat} {v : Value} {l : List (Int × Int)} (hs : SlAt o w t 67 2 v l.length (l.flatMap descL)) {i : Nat} (hi : i < l.length) :
    ∃ g cap cur, v = .slice (some ⟨g, 0, none⟩) l.length cap ∧ blk w g = some (.cells cur 67 (0, 0)) ∧ cap ≤ 9223372036854775807 ∧ l.length ≤ cap ∧
      cur[i * 2]? = some (.int .i64 (l.getD i (0, 0)).1) ∧ cur[i * 2 + 1]? = some (.int .i64 (l.getD i (0, 0)).2) := by
  obtain ⟨g, cap, cur, rfl, hg, hog, h1, h2, h3, h4⟩ := hs.row (by omega)
  have hgi : l[i]? = some (l.getD i (0, 0)) := by simp [hi]
  have G : ∀ j, j < 2 → ∀ u, (descL (l.getD i (0, 0)))[j]? = some u → cur[i * 2 + j]? = some u := fun j hj u hu => cur_at h4 (by rw [flat_get descL 2 descL_len _ _ _ hj, hgi]; exact hu)
  exact ⟨g, cap, cur, rfl, hg, by simp only [maxLen] at h2; omega, h1, G 0 (by decide) _ rfl, G 1 (by decide) _ rfl⟩
def descV (d : Int × Int) : Value := .agg #[.int .i64 d.1, .int .i64 d.2]
/-- The table of a number. -/
def descOf (m : MemS) (i : Int) : Int × Int := if 0 ≤ i then m.tables.getD i.toNat (0, 0) else (0, 0)
theorem mem_desc (h : R l w) (ht : l[t]? = some (MemK m)) (i : Int) :
    Calls Try.prog 28 #[.pointer (some ⟨m.b, 0, none⟩), .int .i64 i] w (Does l (.tuple #[descV (descOf m i), .bool (decide (0 ≤ i ∧ i < m.tables.length))])) := by
  obtain ⟨o, hr, hok, _, _, _, tv, wv, hb, hs, _⟩ := h.get ht
  replace hb := hb.heap
  have hlt := lt_of_blk hb
  by_cases h0 : 0 ≤ i
  · by_cases h1 : i < m.tables.length
    · obtain ⟨n, rfl⟩ := Int.eq_ofNat_of_zero_le h0
      have hn : n < m.tables.length := by omega
      obtain ⟨g, cap, cur, rfl, hg, hc, hle, c0, c1⟩ := desc_at hs hn
      have hgl := lt_of_blk hg
      have e1 : descOf m n = m.tables.getD n (0, 0) := by rw [descOf, if_pos h0]; rfl
      rw [e1]
      generalize m.tables.getD n (0, 0) = d at *
      generalize m.tables.length = N at *
      replace h := hide h
      clear hr hok hs e1
      go_enter Try.func28, Try.ntmps28
      go_wp2
      refine bodyPost_ret (by simp [results, Try.results28, go_sem]; rfl) rfl ?_
      exact ⟨by simp [descV]; omega, h.out.alloc _⟩
    · have e1 : descOf m i = (0, 0) := by rw [descOf, if_pos h0]; simp [List.getElem?_eq_none (show m.tables.length ≤ i.toNat by omega)]
      rw [e1]
      obtain ⟨a, c, rfl⟩ := hs.value
      have hle := hs.le63
      generalize m.tables.length = N at *
      replace h := hide h
      clear hr hok hs e1
      go_enter Try.func28, Try.ntmps28
      go_wp2
      refine bodyPost_ret (by simp [results, Try.results28, go_sem]; rfl) rfl ?_
      exact ⟨by simp [descV]; omega, h.out.alloc _⟩
  · have e1 : descOf m i = (0, 0) := by rw [descOf, if_neg h0]
    rw [e1]
    obtain ⟨a, c, rfl⟩ := hs.value
    generalize m.tables.length = N at *
    replace h := hide h
    clear hr hok hs e1
    go_enter Try.func28, Try.ntmps28
    go_wp2
    refine bodyPost_ret (by simp [results, Try.results28, go_sem]; rfl) rfl ?_
    exact ⟨by simp [descV]; omega, h.out.alloc _⟩
/-- The table that counts. -/
def nowOf (m : MemS) : Int × Int := m.tables.getD (m.cells.getD 1 0).toNat (0, 0)
theorem mem_now (h : R l w) (ht : l[t]? = some (MemK m)) :
    Calls Try.prog 29 #[.pointer (some ⟨m.b, 0, none⟩)] w (Does l (descV (nowOf m))) := by
  obtain ⟨o, hr, hok, _, _, _, tv, wv, hb, hs, _⟩ := h.get ht
  replace hb := hb.heap
  have hlt := lt_of_blk hb
  have hl : Hid (∀ w', R l w' → _) := hide fun w' h => memR_load (w := w') h ht 1 (by decide) (by have := hok.cells3; omega)
  have hu := hok.cell 1
  have hlen : m.tables.length ≤ 1048576 := by have := hok.tabLen; have := hok.cellsLen; omega
  unfold nowOf
  rw [show (1 : Int).toNat = 1 from rfl] at hl
  generalize m.cells.getD 1 0 = v at *
  obtain ⟨n, rfl⟩ := Int.eq_ofNat_of_zero_le hu.1
  have hu2 := hu.2
  clear hu hok hr
  rw [Int.toNat_natCast]
  by_cases h1 : n < m.tables.length
  · obtain ⟨g, cap, cur, rfl, hg, hc, hle, c0, c1⟩ := desc_at hs h1
    have hgl := lt_of_blk hg
    generalize m.tables.getD n (0, 0) = d at *
    generalize m.tables.length = N at *
    replace h := hide h
    clear hs
    go_enter Try.func29, Try.ntmps29
    go_wp2_with fail
    refine (hl.out _ (h.out.alloc _)).mono ?_
    rintro e w' ⟨rfl, rfl⟩
    go_wp2
    refine bodyPost_ret (by simp [results, Try.results29, go_sem]; rfl) rfl ?_
    exact ⟨by simp [descV], h.out.alloc _⟩
  · rw [show m.tables.getD n (0, 0) = (0, 0) by simp [List.getElem?_eq_none (Nat.le_of_not_lt h1)]]
    obtain ⟨a, c, rfl⟩ := hs.value
    have hle := hs.le63
    generalize m.tables.length = N at *
    replace h := hide h
    clear hs
    go_enter Try.func29, Try.ntmps29
    go_wp2_with fail
    refine (hl.out _ (h.out.alloc _)).mono ?_
    rintro e w' ⟨rfl, rfl⟩
    go_wp2
    refine bodyPost_ret (by simp [results, Try.results29, go_sem]; rfl) rfl ?_
    exact ⟨by simp [descV], h.out.alloc _⟩
end
end Go.Proofs.Ytcoaemjoanbemaa
