/- Package mem: Table, head, New, over a memory as one object. Condition: such an object is there. -/
import Derived.Test.YtcoaemjoanbemaaMo
namespace Go.Proofs.Ytcoaemjoanbemaa
open Go.RowKit

section
variable {l : List KObj} {w : World} {t : Nat} {m : MemS}
theorem MemOk.grow (h : MemOk m) (n : Nat) (hn : m.cells.length + n ≤ 1048576) : MemOk { m with cells := m.cells ++ List.replicate n 0 } where
  cells := fun x hx => by
    rcases List.mem_append.1 hx with h1 | h1
    · exact h.cells x h1
    · rw [List.eq_of_mem_replicate h1]; exact ⟨by decide, by decide⟩
  cellsLen := by simpa using hn
  cells3 := by have := h.cells3; simp; omega
  locks := h.locks
  held := h.held
  work := h.work
  tab := fun d hd => by have := h.tab d hd; simp; omega
  tabLen := by have := h.tabLen; simp; omega
  wait := h.wait
  node := h.node
theorem memR_grow (h : R l w) (ht : l[t]? = some (MemK m)) (n : Int) (h0 : 0 ≤ n) (hn : n ≤ 1048576 - m.cells.length) :
    Calls Try.prog 62 #[.pointer (some ⟨m.cb, 0, none⟩), .int .i64 n] w (Does (l.set t (MemK { m with cells := m.cells ++ List.replicate n.toNat 0 })) (.tuple #[.int .i64 m.cells.length, .int .i64 0])) := by
  obtain ⟨o, hr, hm⟩ := h.get ht
  refine (cells_grow_ok hm.2.1 n h0 hn).mono ?_
  rintro e w' ⟨o', rfl, hc, he⟩
  exact ⟨rfl, hr.memCells ht (hm.1.grow _ (by omega)) hc he⟩
theorem memR_grow_no (h : R l w) (ht : l[t]? = some (MemK m)) (n : Int) (hn : n < 0 ∨ 1048576 - m.cells.length < n) :
    Calls Try.prog 62 #[.pointer (some ⟨m.cb, 0, none⟩), .int .i64 n] w fun e w' => e = .returned (.tuple #[.int .i64 (-1), .int .i64 2]) ∧ w = w' := by
  obtain ⟨o, _, _, hc, _⟩ := h.get ht
  exact cells_grow_no hc n hn

/-- Behind a table more. -/
def tableM (m : MemS) (n : Int) : MemS := { m with cells := m.cells ++ List.replicate n.toNat 0, tables := m.tables ++ [(n, (m.cells.length : Int))] }
theorem mem_table_no (h : R l w) (n : Int) (hn : powB n = false) (b : Nat) : Calls Try.prog 20 #[.pointer (some ⟨b, 0, none⟩), .int .i64 n] w (Does l (.tuple #[.int .i64 (-1), .int .i64 5])) := by
  have hc := fnv_power n
  rw [hn] at hc
  go_enter Try.func20, Try.ntmps20
  go_wp2_with fail
  refine (hc _).mono ?_
  rintro e w' ⟨rfl, rfl⟩
  go_wp2
  go_ret2
  exact ⟨rfl, h⟩
theorem mem_table_full (h : R l w) (ht : l[t]? = some (MemK m)) (n : Int) (hn : powB n = true) (hg : 1048576 - m.cells.length < n) :
    Calls Try.prog 20 #[.pointer (some ⟨m.b, 0, none⟩), .int .i64 n] w (Does l (.tuple #[.int .i64 (-1), .int .i64 2])) := by
  obtain ⟨tv, wv, hb⟩ := h.memHdr ht
  have hc := fnv_power n
  rw [hn] at hc
  go_enter Try.func20, Try.ntmps20
  go_wp2_with fail
  refine (hc _).mono ?_
  rintro e w' ⟨rfl, rfl⟩
  go_wp2_with fail
  refine (memR_grow_no h ht n (.inr hg)).mono ?_
  rintro e w' ⟨rfl, rfl⟩
  go_wp2
  go_ret2
  exact ⟨rfl, h⟩
set_option maxHeartbeats 800000 in
theorem mem_table (h : R l w) (ht : l[t]? = some (MemK m)) (n : Int) (hn : powB n = true) (hg : n ≤ 1048576 - m.cells.length) :
    Calls Try.prog 20 #[.pointer (some ⟨m.b, 0, none⟩), .int .i64 n] w (Does (l.set t (MemK (tableM m n))) (.tuple #[.int .i64 m.tables.length, .int .i64 0])) := by
  obtain ⟨tv, wv, hb⟩ := h.memHdr ht
  have hn0 := powB_lt hn
  have hok0 := hide (h.memOk ht)
  have hc := fnv_power n
  rw [hn] at hc
  have gr := hide (memR_grow h ht n (by omega) hg)
  clear hb tv wv
  obtain ⟨tv, wv, hb⟩ := h.memHdr ht
  go_enter Try.func20, Try.ntmps20
  go_wp2_with fail
  refine (hc _).mono ?_
  rintro e w' ⟨rfl, rfl⟩
  go_wp2_with fail
  refine gr.out.mono ?_
  rintro e w1 ⟨rfl, h1⟩
  clear gr hb h tv wv
  have ht1 := set_get (q := MemK { m with cells := m.cells ++ List.replicate n.toNat 0 }) ht
  obtain ⟨o, hr, hok, _, _, _, tv, wv, hb, ts, ws⟩ := h1.get ht1
  dsimp only at hb ts ws
  obtain ⟨a, c, rfl⟩ := ts.value
  have hb' := hb.heap
  have hlt := hb.lt
  have hlen : m.tables.length ≤ 1000000000 := by have := hok.tabLen; have := hok.cellsLen; simp only at *; omega
  replace hr := hide hr
  replace hok := hide hok
  replace hb := hide hb
  replace ws := hide ws
  clear h1
  go_wp2_with (at_builtin; refine push_desc rfl (.tmp 27) (.tmp 31) rfl _ _ _ rfl (ts.alloc _) w1.heap.size 1 _ rfl (blk_new _ _) rfl (by simp; exact ⟨rfl, rfl⟩) (by omega) ?_)
  intro v' w2 o1 hs1 he hg1 hn1
  have hb1 := (hb.out.alloc _).ext he (by omega)
  have ws1 := hide ((ws.out.alloc _).ext he (by omega))
  obtain ⟨a', c', rfl⟩ := hs1.value
  have hbh := hb1.heap
  have he1 := hide ((((Ext.refl o w1 (fun _ => False)).alloc _).none.trans he).mono (S2 := fun y => y = 16 * t + 4 ∨ y = 16 * t + 5) (fun y hy => .inr hy))
  replace hb1 := hide hb1
  replace hs1 := hide hs1
  clear hb' hg1 hn1 ts he
  go_wp2
  go_ret2
  refine ⟨by go_num, ?_⟩
  have this : R _ (w2.setCell ⟨m.b, 4, none⟩ (.slice a' (m.tables.length + 1) c')) := hr.out.memTail ht1 (m := { m with cells := m.cells ++ List.replicate n.toNat 0 }) (ts := m.tables ++ [(n, (m.cells.length : Int))]) (ws := m.waiting) (S := fun y => y = 16 * t + 4 ∨ y = 16 * t + 5) ?_ (he1.out.put _ (.inl (.inl hb1.out.tag))) (fun y hy => by omega) (hb1.out.put 4 (.slice a' (m.tables.length + 1) c')) ?_ (ws1.out.put_far (ws1.out.apart hbh (by decide)))
  · rw [List.set_set] at this
    exact this
  · have hk := hok.out
    refine ⟨hk.cells, hk.cellsLen, hk.cells3, hk.locks, hk.held, hk.work, fun d hd => ?_, ?_, hk.wait, hk.node⟩
    · rcases List.mem_append.1 hd with h1 | h1
      · exact hk.tab d h1
      · simp at h1; subst h1; simp; omega
    · have := hok0.out.tabLen; have := hn0.1; simp; omega
  · have := hs1.out.put_far (i := 4) (u := .slice a' (m.tables.length + 1) c') (hs1.out.apart hbh (by decide))
    simpa [descL] using this
end
end Go.Proofs.Ytcoaemjoanbemaa
