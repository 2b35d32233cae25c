/- The memory of package mem as one object: its cells, locks, arena, tables, and those that wait; what the calls of its parts come to. Condition: such an object is there. -/
import Derived.Test.YtcoaemjoanbemaaXa
import Derived.Test.YtcoaemjoanbemaaXb
import Derived.Test.YtcoaemjoanbemaaXd
namespace Go.Proofs.Ytcoaemjoanbemaa
open Go.RowKit

section
variable {o o' : Nat → Nat} {w w' : World} {M : Nat → Prop} {t t2 b : Nat}
theorem CellsAt.kp {xs : List Int} (h : CellsAt o w t b xs) (e : Kp M o o' w w') (hm : M t) : CellsAt o' w' t b xs := by
  obtain ⟨v, h1, h2⟩ := h
  exact ⟨v, h1.kp e hm, h2.kp e hm⟩
theorem LocksAt.kp {xs : List Int} (h : LocksAt o w t b xs) (e : Kp M o o' w w') (hm : M t) : LocksAt o' w' t b xs := by
  obtain ⟨v, h1, h2⟩ := h
  exact ⟨v, h1.kp e hm, h2.kp e hm⟩
theorem ArenaOk.kp {ss : List Slot} {fault : Bool} {c : Int} (h : ArenaOk o w t t2 b ss fault c) (e : Kp M o o' w w') (h1 : M t) (h2 : M t2) : ArenaOk o' w' t t2 b ss fault c := by
  obtain ⟨⟨p, sv, xs, ⟨a1, a2, ⟨pv, a3, a4⟩⟩, I⟩, hl, hg⟩ := h
  exact ⟨⟨p, sv, xs, ⟨a1.kp e h1, a2.kp e h1, ⟨pv, a3.kp e h2, a4.kp e h2⟩⟩, I⟩, hl, hg⟩
end

def U64 (x : Int) : Prop := 0 ≤ x ∧ x ≤ 18446744073709551615
def NdOk (n : Nd) : Prop := U64 n.next ∧ 0 ≤ n.sum ∧ n.sum ≤ 4294967295
/-- What a memory holds, and where its parts lie. -/
structure MemS where
  b : Nat
  cb : Nat
  lb : Nat
  ab : Nat
  cells : List Int
  locks : List Int
  ss : List Slot
  fault : Bool
  gen : Nat
  workers : Nat
  tables : List (Int × Int)
  waiting : List Int
/-- Its numbers are of their sizes. -/
structure MemOk (m : MemS) : Prop where
  cells : ∀ x ∈ m.cells, U64 x
  cellsLen : m.cells.length ≤ 1048576
  cells3 : 2 + m.workers ≤ m.cells.length
  locks : m.locks.length = 6
  held : ∀ x ∈ m.locks, -1 ≤ x ∧ x ≤ 9223372036854775807
  work : 1 ≤ m.workers ∧ m.workers ≤ 8
  tab : ∀ d ∈ m.tables, 1 ≤ d.1 ∧ d.1 ≤ 65536 ∧ 0 ≤ d.2 ∧ d.2 + d.1 ≤ m.cells.length
  tabLen : m.tables.length + 2 + m.workers ≤ m.cells.length
  wait : ∀ x ∈ m.waiting, U64 x
  node : ∀ s ∈ m.ss, NdOk s.nd
def descL (d : Int × Int) : List Value := [.int .i64 d.1, .int .i64 d.2]
def MemAt (m : MemS) (o : Nat → Nat) (w : World) (t : Nat) : Prop :=
  MemOk m ∧ CellsAt o w (16 * t) m.cb m.cells ∧ LocksAt o w (16 * t + 1) m.lb m.locks ∧ ArenaOk o w (16 * t + 2) (16 * t + 3) m.ab m.ss m.fault m.gen ∧
    ∃ tv wv, StAt o w (16 * t + 4) m.b #[.pointer (some ⟨m.cb, 0, none⟩), .pointer (some ⟨m.lb, 0, none⟩), .pointer (some ⟨m.ab, 0, none⟩), .int .i64 m.workers, tv, wv] 49 ∧
      SlAt o w (16 * t + 5) 67 2 tv m.tables.length (m.tables.flatMap descL) ∧ SlAt o w (16 * t + 6) 31 1 wv m.waiting.length (m.waiting.map (Value.int .u64))
def MemK (m : MemS) : KObj where
  holds := MemAt m
  keep e hs h := by
    obtain ⟨h0, h1, h2, h3, tv, wv, h4, h5, h6⟩ := h
    exact ⟨h0, h1.kp e (by simpa using hs 0 (by decide)), h2.kp e (hs 1 (by decide)), h3.kp e (hs 2 (by decide)) (hs 3 (by decide)), tv, wv, h4.kp e (hs 4 (by decide)), h5.kp e (hs 5 (by decide)), h6.kp e (hs 6 (by decide))⟩
def hp (b : Nat) : Value := .pointer (some ⟨b, 0, none⟩)

/-- A call that answers r and leaves these objects. -/
def Does (l : List KObj) (r : Value) (e : Ending) (w' : World) : Prop := e = .returned r ∧ R l w'

section
variable {l : List KObj} {w : World} {t : Nat} {m : MemS}
theorem R.memOk (h : R l w) (ht : l[t]? = some (MemK m)) : MemOk m := by
  obtain ⟨o, _, h⟩ := h.get ht
  exact h.1
theorem R.memHdr (h : R l w) (ht : l[t]? = some (MemK m)) : ∃ tv wv, blk w m.b = some (.cells #[.pointer (some ⟨m.cb, 0, none⟩), .pointer (some ⟨m.lb, 0, none⟩), .pointer (some ⟨m.ab, 0, none⟩), .int .i64 m.workers, tv, wv] 49 (0, 0)) := by
  obtain ⟨o, _, _, _, _, _, tv, wv, h, _⟩ := h.get ht
  exact ⟨tv, wv, h.heap⟩
theorem getD_mem_or (xs : List Int) (i : Nat) : xs.getD i 0 ∈ xs ∨ xs.getD i 0 = 0 := by
  by_cases h : i < xs.length
  · left; simp [h]
  · right; simp [List.getElem?_eq_none (Nat.le_of_not_lt h)]
theorem MemOk.cell (h : MemOk m) (i : Nat) : U64 (m.cells.getD i 0) := by
  rcases getD_mem_or m.cells i with e | e
  · exact h.cells _ e
  · rw [e]; exact ⟨by decide, by decide⟩

theorem memR_load (h : R l w) (ht : l[t]? = some (MemK m)) (i : Int) (h0 : 0 ≤ i) (h1 : i < m.cells.length) :
    Calls Try.prog 54 #[.pointer (some ⟨m.cb, 0, none⟩), .int .i64 i] w fun e w' => e = .returned (.tuple #[.int .u64 (m.cells.getD i.toNat 0), .int .i64 0]) ∧ w = w' := by
  obtain ⟨o, _, _, hc, _⟩ := h.get ht
  exact cells_load hc i h0 h1
theorem memR_load_no (h : R l w) (ht : l[t]? = some (MemK m)) (i : Int) (hi : i < 0 ∨ m.cells.length ≤ i) :
    Calls Try.prog 54 #[.pointer (some ⟨m.cb, 0, none⟩), .int .i64 i] w fun e w' => e = .returned (.tuple #[.int .u64 0, .int .i64 2]) ∧ w = w' := by
  obtain ⟨o, _, _, hc, _⟩ := h.get ht
  exact cells_load_no hc i hi
theorem memR_len (h : R l w) (ht : l[t]? = some (MemK m)) :
    Calls Try.prog 58 #[.pointer (some ⟨m.cb, 0, none⟩)] w fun e w' => e = .returned (.int .i64 m.cells.length) ∧ w = w' := by
  obtain ⟨o, _, _, hc, _⟩ := h.get ht
  exact cells_len hc
theorem mem_set_all {P : Int → Prop} {xs : List Int} (h : ∀ x ∈ xs, P x) (i : Nat) {v : Int} (hv : P v) : ∀ x ∈ xs.set i v, P x := fun x hx => by
  rcases List.mem_or_eq_of_mem_set hx with h1 | rfl
  · exact h x h1
  · exact hv
theorem MemOk.setCell (h : MemOk m) (i : Nat) {v : Int} (hv : U64 v) : MemOk { m with cells := m.cells.set i v } where
  cells := mem_set_all h.cells i hv
  cellsLen := by simpa using h.cellsLen
  cells3 := by simpa using h.cells3
  locks := h.locks
  held := h.held
  work := h.work
  tab := by simpa using h.tab
  tabLen := by simpa using h.tabLen
  wait := h.wait
  node := h.node
theorem MemOk.setLock (h : MemOk m) (i : Nat) {v : Int} (hv : -1 ≤ v ∧ v ≤ 9223372036854775807) : MemOk { m with locks := m.locks.set i v } where
  cells := h.cells
  cellsLen := h.cellsLen
  cells3 := h.cells3
  locks := by simpa using h.locks
  held := mem_set_all h.held i hv
  work := h.work
  tab := h.tab
  tabLen := h.tabLen
  wait := h.wait
  node := h.node

/-- What turns the cells alone. -/
theorem Rp.memCells {o o' : Nat → Nat} {w' : World} (h : Rp l o w) (ht : l[t]? = some (MemK m)) {xs : List Int} (hok : MemOk { m with cells := xs }) (hc : CellsAt o' w' (16 * t) m.cb xs) (e : Ext o o' w w' (fun x => x = 16 * t)) : R (l.set t (MemK { m with cells := xs })) w' := by
  obtain ⟨_, h1, h2, h3, tv, wv, h4, h5, h6⟩ := h.get ht
  exact h.step e (fun x hx => by omega) ⟨hok, hc, h2.ext e (by omega), h3.ext e (by omega) (by omega), tv, wv, h4.ext e (by omega), h5.ext e (by omega), h6.ext e (by omega)⟩
theorem Rp.memLocks {o o' : Nat → Nat} {w' : World} (h : Rp l o w) (ht : l[t]? = some (MemK m)) {xs : List Int} (hok : MemOk { m with locks := xs }) (hc : LocksAt o' w' (16 * t + 1) m.lb xs) (e : Ext o o' w w' (fun x => x = 16 * t + 1)) : R (l.set t (MemK { m with locks := xs })) w' := by
  obtain ⟨_, h1, h2, h3, tv, wv, h4, h5, h6⟩ := h.get ht
  exact h.step e (fun x hx => by omega) ⟨hok, h1.ext e (by omega), hc, h3.ext e (by omega) (by omega), tv, wv, h4.ext e (by omega), h5.ext e (by omega), h6.ext e (by omega)⟩
theorem Rp.memArena {o o' : Nat → Nat} {w' : World} {S : Nat → Prop} (h : Rp l o w) (ht : l[t]? = some (MemK m)) {ss : List Slot} {fault : Bool} {g : Nat} (hok : MemOk { m with ss := ss, fault := fault, gen := g })
    (hc : ArenaOk o' w' (16 * t + 2) (16 * t + 3) m.ab ss fault g) (e : Ext o o' w w' S) (hS : ∀ x, S x → x = 16 * t + 2 ∨ x = 16 * t + 3) : R (l.set t (MemK { m with ss := ss, fault := fault, gen := g })) w' := by
  obtain ⟨_, h1, h2, h3, tv, wv, h4, h5, h6⟩ := h.get ht
  exact h.step e (fun x hx => by have := hS x hx; omega) ⟨hok, h1.ext e (fun x => by have := hS _ x; omega), h2.ext e (fun x => by have := hS _ x; omega), hc, tv, wv, h4.ext e (fun x => by have := hS _ x; omega), h5.ext e (fun x => by have := hS _ x; omega), h6.ext e (fun x => by have := hS _ x; omega)⟩

theorem memR_store (h : R l w) (ht : l[t]? = some (MemK m)) (i v : Int) (h0 : 0 ≤ i) (h1 : i < m.cells.length) (hv : U64 v) :
    Calls Try.prog 23 #[.pointer (some ⟨m.cb, 0, none⟩), .int .i64 i, .int .u64 v] w (Does (l.set t (MemK { m with cells := m.cells.set i.toNat v })) (.int .i64 0)) := by
  obtain ⟨o, hr, hm⟩ := h.get ht
  refine (cells_store hm.2.1 i v h0 h1).mono ?_
  rintro e w' ⟨o', rfl, hc, he⟩
  exact ⟨rfl, hr.memCells ht (hm.1.setCell _ hv) hc he⟩
theorem memR_store_no (h : R l w) (ht : l[t]? = some (MemK m)) (i v : Int) (hi : i < 0 ∨ m.cells.length ≤ i) :
    Calls Try.prog 23 #[.pointer (some ⟨m.cb, 0, none⟩), .int .i64 i, .int .u64 v] w fun e w' => e = .returned (.int .i64 2) ∧ w = w' := by
  obtain ⟨o, _, _, hc, _⟩ := h.get ht
  exact cells_store_no hc i v hi
theorem u64_wrap (x : Int) : U64 (IntKind.u64.wrap x) := by
  have : IntKind.u64.wrap x = x % 18446744073709551616 := by simp [IntKind.wrap, IntKind.bits, IntKind.signed]
  rw [this]
  exact ⟨by omega, by omega⟩
theorem memR_add (h : R l w) (ht : l[t]? = some (MemK m)) (i v : Int) (h0 : 0 ≤ i) (h1 : i < m.cells.length) :
    Calls Try.prog 75 #[.pointer (some ⟨m.cb, 0, none⟩), .int .i64 i, .int .u64 v] w
      (Does (l.set t (MemK { m with cells := m.cells.set i.toNat (IntKind.u64.wrap (m.cells.getD i.toNat 0 + v)) })) (.tuple #[.int .u64 (IntKind.u64.wrap (m.cells.getD i.toNat 0 + v)), .int .i64 0])) := by
  obtain ⟨o, hr, hm⟩ := h.get ht
  refine (cells_add hm.2.1 i v h0 h1).mono ?_
  rintro e w' ⟨o', rfl, hc, he⟩
  exact ⟨rfl, hr.memCells ht (hm.1.setCell _ (u64_wrap _)) hc he⟩

theorem memR_holder (h : R l w) (ht : l[t]? = some (MemK m)) (i : Int) (h0 : 0 ≤ i) (h1 : i < 6) :
    Calls Try.prog 79 #[.pointer (some ⟨m.lb, 0, none⟩), .int .i64 i] w fun e w' => e = .returned (.int .i64 (m.locks.getD i.toNat 0)) ∧ w = w' := by
  obtain ⟨o, _, hok, _, hc, _⟩ := h.get ht
  exact locks_holder hc i h0 (by have := hok.locks; omega)
theorem memR_try (h : R l w) (ht : l[t]? = some (MemK m)) (i u : Int) (h0 : 0 ≤ i) (h1 : i < 6) (hu : 0 ≤ u) (hu2 : u ≤ 9223372036854775807) (hx : m.locks.getD i.toNat 0 = -1) :
    Calls Try.prog 77 #[.pointer (some ⟨m.lb, 0, none⟩), .int .i64 i, .int .i64 u] w (Does (l.set t (MemK { m with locks := m.locks.set i.toNat u })) (.tuple #[.bool true, .int .i64 0])) := by
  obtain ⟨o, hr, hm⟩ := h.get ht
  refine (locks_try hm.2.2.1 i u h0 (by have := hm.1.locks; omega) hu hx).mono ?_
  rintro e w' ⟨o', rfl, hc, he⟩
  exact ⟨rfl, hr.memLocks ht (hm.1.setLock _ ⟨by omega, hu2⟩) hc he⟩
theorem memR_try_held (h : R l w) (ht : l[t]? = some (MemK m)) (i u : Int) (h0 : 0 ≤ i) (h1 : i < 6) (hu : 0 ≤ u) (hx : m.locks.getD i.toNat 0 ≠ -1) :
    Calls Try.prog 77 #[.pointer (some ⟨m.lb, 0, none⟩), .int .i64 i, .int .i64 u] w fun e w' => e = .returned (.tuple #[.bool false, .int .i64 0]) ∧ w = w' := by
  obtain ⟨o, _, hok, _, hc, _⟩ := h.get ht
  exact locks_try_held hc i u h0 (by have := hok.locks; omega) hu hx
theorem memR_unlock (h : R l w) (ht : l[t]? = some (MemK m)) (i u : Int) (h0 : 0 ≤ i) (h1 : i < 6) (hu : 0 ≤ u) (hx : m.locks.getD i.toNat 0 = u) :
    Calls Try.prog 78 #[.pointer (some ⟨m.lb, 0, none⟩), .int .i64 i, .int .i64 u] w (Does (l.set t (MemK { m with locks := m.locks.set i.toNat (-1) })) (.int .i64 0)) := by
  obtain ⟨o, hr, hm⟩ := h.get ht
  refine (locks_free hm.2.2.1 i u h0 (by have := hm.1.locks; omega) hu hx).mono ?_
  rintro e w' ⟨o', rfl, hc, he⟩
  exact ⟨rfl, hr.memLocks ht (hm.1.setLock _ ⟨by omega, by omega⟩) hc he⟩
theorem memR_unlock_other (h : R l w) (ht : l[t]? = some (MemK m)) (i u : Int) (h0 : 0 ≤ i) (h1 : i < 6) (hu : 0 ≤ u) (hx : m.locks.getD i.toNat 0 ≠ u) :
    Calls Try.prog 78 #[.pointer (some ⟨m.lb, 0, none⟩), .int .i64 i, .int .i64 u] w fun e w' => e = .returned (.int .i64 7) ∧ w = w' := by
  obtain ⟨o, _, hok, _, hc, _⟩ := h.get ht
  exact locks_free_other hc i u h0 (by have := hok.locks; omega) hu hx
theorem memR_locksLen (h : R l w) (ht : l[t]? = some (MemK m)) : Calls Try.prog 17 #[.pointer (some ⟨m.lb, 0, none⟩)] w fun e w' => e = .returned (.int .i64 6) ∧ w = w' := by
  obtain ⟨o, _, hok, _, hc, _⟩ := h.get ht
  have := locks_len hc
  rw [hok.locks] at this
  exact this
end
end Go.Proofs.Ytcoaemjoanbemaa
