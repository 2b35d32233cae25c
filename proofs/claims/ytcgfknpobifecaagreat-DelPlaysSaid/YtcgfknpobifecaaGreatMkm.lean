/- The memory of package mem as one object: its cells, locks, arena, tables, and those that wait; what the calls of its parts come to. Condition: such an object is there. Plain laws on the first free place of an arena. No condition. The memory of package mem: what the calls of its arena come to. Condition: such an object is there. -/
import Derived.Test.YtcgfknpobifecaaGreatRkm
import Derived.Test.YtcgfknpobifecaaGreatCe
import Derived.Test.YtcgfknpobifecaaGreatLo
import Derived.Test.YtcgfknpobifecaaGreatAr
import Derived.Test.YtcgfknpobifecaaGreatApm
namespace Go.Proofs.YtcgfknpobifecaaGreat
open Go.RowKit

section
variable {o o' : Nat → Nat} {w w' : World} {M : Nat → Prop} {t t2 b : Nat}
theorem CellsAt.kp {xs : List Int} (h : CellsAt o w t b xs) (e : Kp M o o' w w') (hm : M t) : CellsAt o' w' t b xs := by
  obtain ⟨v, h1, h2⟩ := h
  exact ⟨v, h1.kp e hm, h2.kp e hm⟩
theorem LocksAt.kp {xs : List Int} (h : LocksAt o w t b xs) (e : Kp M o o' w w') (hm : M t) : LocksAt o' w' t b xs := by
  obtain ⟨v, h1, h2⟩ := h
  exact ⟨v, h1.kp e hm, h2.kp e hm⟩
theorem ArenaOk.kp {ss : List Slot} {fault : Bool} {c : Int} (h : ArenaOk o w t t2 b ss fault c) (e : Kp M o o' w w') (h1 : M t) (h2 : M t2) : ArenaOk o' w' t t2 b ss fault c := by
  obtain ⟨⟨p, sv, xs, ⟨a1, a2, ⟨pv, a3, a4⟩⟩, I⟩, hl, hg⟩ := h
  exact ⟨⟨p, sv, xs, ⟨a1.kp e h1, a2.kp e h1, ⟨pv, a3.kp e h2, a4.kp e h2⟩⟩, I⟩, hl, hg⟩
end

def U64 (x : Int) : Prop := 0 ≤ x ∧ x ≤ 18446744073709551615
def NdOk (n : Nd) : Prop := U64 n.next ∧ 0 ≤ n.sum ∧ n.sum ≤ 4294967295
/-- What a memory holds, and where its parts lie. -/
structure MemS where
  b : Nat
  cb : Nat
  lb : Nat
  ab : Nat
  cells : List Int
  locks : List Int
  ss : List Slot
  fault : Bool
  gen : Nat
  workers : Nat
  tables : List (Int × Int)
  waiting : List Int
/-- Its numbers are of their sizes. -/
structure MemOk (m : MemS) : Prop where
  cells : ∀ x ∈ m.cells, U64 x
  cellsLen : m.cells.length ≤ 1048576
  cells3 : 2 + m.workers ≤ m.cells.length
  locks : m.locks.length = 6
  held : ∀ x ∈ m.locks, -1 ≤ x ∧ x ≤ 9223372036854775807
  work : 1 ≤ m.workers ∧ m.workers ≤ 8
  tab : ∀ d ∈ m.tables, 1 ≤ d.1 ∧ d.1 ≤ 65536 ∧ 0 ≤ d.2 ∧ d.2 + d.1 ≤ m.cells.length
  tabLen : m.tables.length + 2 + m.workers ≤ m.cells.length
  wait : ∀ x ∈ m.waiting, U64 x
  node : ∀ s ∈ m.ss, NdOk s.nd
def descL (d : Int × Int) : List Value := [.int .i64 d.1, .int .i64 d.2]
def MemAt (m : MemS) (o : Nat → Nat) (w : World) (t : Nat) : Prop :=
  MemOk m ∧ CellsAt o w (16 * t) m.cb m.cells ∧ LocksAt o w (16 * t + 1) m.lb m.locks ∧ ArenaOk o w (16 * t + 2) (16 * t + 3) m.ab m.ss m.fault m.gen ∧
    ∃ tv wv, StAt o w (16 * t + 4) m.b #[.pointer (some ⟨m.cb, 0, none⟩), .pointer (some ⟨m.lb, 0, none⟩), .pointer (some ⟨m.ab, 0, none⟩), .int .i64 m.workers, tv, wv] 36 ∧
      SlAt o w (16 * t + 5) 83 2 tv m.tables.length (m.tables.flatMap descL) ∧ SlAt o w (16 * t + 6) 47 1 wv m.waiting.length (m.waiting.map (Value.int .u64))
def MemK (m : MemS) : KObj where
  holds := MemAt m
  keep e hs h := by
    obtain ⟨h0, h1, h2, h3, tv, wv, h4, h5, h6⟩ := h
    exact ⟨h0, h1.kp e (by simpa using hs 0 (by decide)), h2.kp e (hs 1 (by decide)), h3.kp e (hs 2 (by decide)) (hs 3 (by decide)), tv, wv, h4.kp e (hs 4 (by decide)), h5.kp e (hs 5 (by decide)), h6.kp e (hs 6 (by decide))⟩
def hp (b : Nat) : Value := .pointer (some ⟨b, 0, none⟩)

/-- A call that answers r and leaves these objects. -/
def Does (l : List KObj) (r : Value) (e : Ending) (w' : World) : Prop := e = .returned r ∧ R l w'

section
variable {l : List KObj} {w : World} {t : Nat} {m : MemS}
theorem R.memOk (h : R l w) (ht : l[t]? = some (MemK m)) : MemOk m := by
  obtain ⟨o, _, h⟩ := h.get ht
  exact h.1
theorem R.memHdr (h : R l w) (ht : l[t]? = some (MemK m)) : ∃ tv wv, blk w m.b = some (.cells #[.pointer (some ⟨m.cb, 0, none⟩), .pointer (some ⟨m.lb, 0, none⟩), .pointer (some ⟨m.ab, 0, none⟩), .int .i64 m.workers, tv, wv] 36 (0, 0)) := by
  obtain ⟨o, _, _, _, _, _, tv, wv, h, _⟩ := h.get ht
  exact ⟨tv, wv, h.heap⟩
theorem getD_mem_or (xs : List Int) (i : Nat) : xs.getD i 0 ∈ xs ∨ xs.getD i 0 = 0 := by
  by_cases h : i < xs.length
  · left; simp [h]
  · right; simp [List.getElem?_eq_none (Nat.le_of_not_lt h)]
theorem MemOk.cell (h : MemOk m) (i : Nat) : U64 (m.cells.getD i 0) := by
  rcases getD_mem_or m.cells i with e | e
  · exact h.cells _ e
  · rw [e]; exact ⟨by decide, by decide⟩

theorem memR_load (h : R l w) (ht : l[t]? = some (MemK m)) (i : Int) (h0 : 0 ≤ i) (h1 : i < m.cells.length) :
    Calls Tryz.prog 80 #[.pointer (some ⟨m.cb, 0, none⟩), .int .i64 i] w fun e w' => e = .returned (.tuple #[.int .u64 (m.cells.getD i.toNat 0), .int .i64 0]) ∧ w = w' := by
  obtain ⟨o, _, _, hc, _⟩ := h.get ht
  exact cells_load hc i h0 h1
theorem memR_load_no (h : R l w) (ht : l[t]? = some (MemK m)) (i : Int) (hi : i < 0 ∨ m.cells.length ≤ i) :
    Calls Tryz.prog 80 #[.pointer (some ⟨m.cb, 0, none⟩), .int .i64 i] w fun e w' => e = .returned (.tuple #[.int .u64 0, .int .i64 2]) ∧ w = w' := by
  obtain ⟨o, _, _, hc, _⟩ := h.get ht
  exact cells_load_no hc i hi
theorem memR_len (h : R l w) (ht : l[t]? = some (MemK m)) :
    Calls Tryz.prog 97 #[.pointer (some ⟨m.cb, 0, none⟩)] w fun e w' => e = .returned (.int .i64 m.cells.length) ∧ w = w' := by
  obtain ⟨o, _, _, hc, _⟩ := h.get ht
  exact cells_len hc
theorem mem_set_all {P : Int → Prop} {xs : List Int} (h : ∀ x ∈ xs, P x) (i : Nat) {v : Int} (hv : P v) : ∀ x ∈ xs.set i v, P x := fun x hx => by
  rcases List.mem_or_eq_of_mem_set hx with h1 | rfl
  · exact h x h1
  · exact hv
theorem MemOk.setCell (h : MemOk m) (i : Nat) {v : Int} (hv : U64 v) : MemOk { m with cells := m.cells.set i v } where
  cells := mem_set_all h.cells i hv
  cellsLen := by simpa using h.cellsLen
  cells3 := by simpa using h.cells3
  locks := h.locks
  held := h.held
  work := h.work
  tab := by simpa using h.tab
  tabLen := by simpa using h.tabLen
  wait := h.wait
  node := h.node
theorem MemOk.setLock (h : MemOk m) (i : Nat) {v : Int} (hv : -1 ≤ v ∧ v ≤ 9223372036854775807) : MemOk { m with locks := m.locks.set i v } where
  cells := h.cells
  cellsLen := h.cellsLen
  cells3 := h.cells3
  locks := by simpa using h.locks
  held := mem_set_all h.held i hv
  work := h.work
  tab := h.tab
  tabLen := h.tabLen
  wait := h.wait
  node := h.node

/-- What turns the cells alone. -/
theorem Rp.memCells {o o' : Nat → Nat} {w' : World} (h : Rp l o w) (ht : l[t]? = some (MemK m)) {xs : List Int} (hok : MemOk { m with cells := xs }) (hc : CellsAt o' w' (16 * t) m.cb xs) (e : Ext o o' w w' (fun x => x = 16 * t)) : R (l.set t (MemK { m with cells := xs })) w' := by
  obtain ⟨_, h1, h2, h3, tv, wv, h4, h5, h6⟩ := h.get ht
  exact h.step e (fun x hx => by omega) ⟨hok, hc, h2.ext e (by omega), h3.ext e (by omega) (by omega), tv, wv, h4.ext e (by omega), h5.ext e (by omega), h6.ext e (by omega)⟩
theorem Rp.memLocks {o o' : Nat → Nat} {w' : World} (h : Rp l o w) (ht : l[t]? = some (MemK m)) {xs : List Int} (hok : MemOk { m with locks := xs }) (hc : LocksAt o' w' (16 * t + 1) m.lb xs) (e : Ext o o' w w' (fun x => x = 16 * t + 1)) : R (l.set t (MemK { m with locks := xs })) w' := by
  obtain ⟨_, h1, h2, h3, tv, wv, h4, h5, h6⟩ := h.get ht
  exact h.step e (fun x hx => by omega) ⟨hok, h1.ext e (by omega), hc, h3.ext e (by omega) (by omega), tv, wv, h4.ext e (by omega), h5.ext e (by omega), h6.ext e (by omega)⟩
theorem Rp.memArena {o o' : Nat → Nat} {w' : World} {S : Nat → Prop} (h : Rp l o w) (ht : l[t]? = some (MemK m)) {ss : List Slot} {fault : Bool} {g : Nat} (hok : MemOk { m with ss := ss, fault := fault, gen := g })
    (hc : ArenaOk o' w' (16 * t + 2) (16 * t + 3) m.ab ss fault g) (e : Ext o o' w w' S) (hS : ∀ x, S x → x = 16 * t + 2 ∨ x = 16 * t + 3) : R (l.set t (MemK { m with ss := ss, fault := fault, gen := g })) w' := by
  obtain ⟨_, h1, h2, h3, tv, wv, h4, h5, h6⟩ := h.get ht
  exact h.step e (fun x hx => by have := hS x hx; omega) ⟨hok, h1.ext e (fun x => by have := hS _ x; omega), h2.ext e (fun x => by have := hS _ x; omega), hc, tv, wv, h4.ext e (fun x => by have := hS _ x; omega), h5.ext e (fun x => by have := hS _ x; omega), h6.ext e (fun x => by have := hS _ x; omega)⟩

theorem memR_store (h : R l w) (ht : l[t]? = some (MemK m)) (i v : Int) (h0 : 0 ≤ i) (h1 : i < m.cells.length) (hv : U64 v) :
    Calls Tryz.prog 9 #[.pointer (some ⟨m.cb, 0, none⟩), .int .i64 i, .int .u64 v] w (Does (l.set t (MemK { m with cells := m.cells.set i.toNat v })) (.int .i64 0)) := by
  obtain ⟨o, hr, hm⟩ := h.get ht
  refine (cells_store hm.2.1 i v h0 h1).mono ?_
  rintro e w' ⟨o', rfl, hc, he⟩
  exact ⟨rfl, hr.memCells ht (hm.1.setCell _ hv) hc he⟩
theorem memR_store_no (h : R l w) (ht : l[t]? = some (MemK m)) (i v : Int) (hi : i < 0 ∨ m.cells.length ≤ i) :
    Calls Tryz.prog 9 #[.pointer (some ⟨m.cb, 0, none⟩), .int .i64 i, .int .u64 v] w fun e w' => e = .returned (.int .i64 2) ∧ w = w' := by
  obtain ⟨o, _, _, hc, _⟩ := h.get ht
  exact cells_store_no hc i v hi
theorem u64_wrap (x : Int) : U64 (IntKind.u64.wrap x) := by
  have : IntKind.u64.wrap x = x % 18446744073709551616 := by simp [IntKind.wrap, IntKind.bits, IntKind.signed]
  rw [this]
  exact ⟨by omega, by omega⟩
theorem memR_add (h : R l w) (ht : l[t]? = some (MemK m)) (i v : Int) (h0 : 0 ≤ i) (h1 : i < m.cells.length) :
    Calls Tryz.prog 122 #[.pointer (some ⟨m.cb, 0, none⟩), .int .i64 i, .int .u64 v] w
      (Does (l.set t (MemK { m with cells := m.cells.set i.toNat (IntKind.u64.wrap (m.cells.getD i.toNat 0 + v)) })) (.tuple #[.int .u64 (IntKind.u64.wrap (m.cells.getD i.toNat 0 + v)), .int .i64 0])) := by
  obtain ⟨o, hr, hm⟩ := h.get ht
  refine (cells_add hm.2.1 i v h0 h1).mono ?_
  rintro e w' ⟨o', rfl, hc, he⟩
  exact ⟨rfl, hr.memCells ht (hm.1.setCell _ (u64_wrap _)) hc he⟩

theorem memR_holder (h : R l w) (ht : l[t]? = some (MemK m)) (i : Int) (h0 : 0 ≤ i) (h1 : i < 6) :
    Calls Tryz.prog 66 #[.pointer (some ⟨m.lb, 0, none⟩), .int .i64 i] w fun e w' => e = .returned (.int .i64 (m.locks.getD i.toNat 0)) ∧ w = w' := by
  obtain ⟨o, _, hok, _, hc, _⟩ := h.get ht
  exact locks_holder hc i h0 (by have := hok.locks; omega)
theorem memR_try (h : R l w) (ht : l[t]? = some (MemK m)) (i u : Int) (h0 : 0 ≤ i) (h1 : i < 6) (hu : 0 ≤ u) (hu2 : u ≤ 9223372036854775807) (hx : m.locks.getD i.toNat 0 = -1) :
    Calls Tryz.prog 120 #[.pointer (some ⟨m.lb, 0, none⟩), .int .i64 i, .int .i64 u] w (Does (l.set t (MemK { m with locks := m.locks.set i.toNat u })) (.tuple #[.bool true, .int .i64 0])) := by
  obtain ⟨o, hr, hm⟩ := h.get ht
  refine (locks_try hm.2.2.1 i u h0 (by have := hm.1.locks; omega) hu hx).mono ?_
  rintro e w' ⟨o', rfl, hc, he⟩
  exact ⟨rfl, hr.memLocks ht (hm.1.setLock _ ⟨by omega, hu2⟩) hc he⟩
theorem memR_try_held (h : R l w) (ht : l[t]? = some (MemK m)) (i u : Int) (h0 : 0 ≤ i) (h1 : i < 6) (hu : 0 ≤ u) (hx : m.locks.getD i.toNat 0 ≠ -1) :
    Calls Tryz.prog 120 #[.pointer (some ⟨m.lb, 0, none⟩), .int .i64 i, .int .i64 u] w fun e w' => e = .returned (.tuple #[.bool false, .int .i64 0]) ∧ w = w' := by
  obtain ⟨o, _, hok, _, hc, _⟩ := h.get ht
  exact locks_try_held hc i u h0 (by have := hok.locks; omega) hu hx
theorem memR_unlock (h : R l w) (ht : l[t]? = some (MemK m)) (i u : Int) (h0 : 0 ≤ i) (h1 : i < 6) (hu : 0 ≤ u) (hx : m.locks.getD i.toNat 0 = u) :
    Calls Tryz.prog 99 #[.pointer (some ⟨m.lb, 0, none⟩), .int .i64 i, .int .i64 u] w (Does (l.set t (MemK { m with locks := m.locks.set i.toNat (-1) })) (.int .i64 0)) := by
  obtain ⟨o, hr, hm⟩ := h.get ht
  refine (locks_free hm.2.2.1 i u h0 (by have := hm.1.locks; omega) hu hx).mono ?_
  rintro e w' ⟨o', rfl, hc, he⟩
  exact ⟨rfl, hr.memLocks ht (hm.1.setLock _ ⟨by omega, by omega⟩) hc he⟩
theorem memR_unlock_other (h : R l w) (ht : l[t]? = some (MemK m)) (i u : Int) (h0 : 0 ≤ i) (h1 : i < 6) (hu : 0 ≤ u) (hx : m.locks.getD i.toNat 0 ≠ u) :
    Calls Tryz.prog 99 #[.pointer (some ⟨m.lb, 0, none⟩), .int .i64 i, .int .i64 u] w fun e w' => e = .returned (.int .i64 7) ∧ w = w' := by
  obtain ⟨o, _, hok, _, hc, _⟩ := h.get ht
  exact locks_free_other hc i u h0 (by have := hok.locks; omega) hu hx
theorem memR_locksLen (h : R l w) (ht : l[t]? = some (MemK m)) : Calls Tryz.prog 191 #[.pointer (some ⟨m.lb, 0, none⟩)] w fun e w' => e = .returned (.int .i64 6) ∧ w = w' := by
  obtain ⟨o, _, hok, _, hc, _⟩ := h.get ht
  have := locks_len hc
  rw [hok.locks] at this
  exact this
end
end Go.Proofs.YtcgfknpobifecaaGreat

namespace Go.Proofs.YtcgfknpobifecaaGreat
open Go.RowKit

/-- The first free place. -/
def freeAt (ss : List Slot) : Option Nat := (List.range ss.length).find? fun i => !(ss.getD i slot0).used
theorem freeAt_some {ss : List Slot} {i : Nat} (h : freeAt ss = some i) : i < ss.length ∧ (ss.getD i slot0).used = false ∧ ∀ j, j < i → (ss.getD j slot0).used = true := by
  rw [freeAt, List.find?_eq_some_iff_getElem] at h
  obtain ⟨h1, k, hk, h2, h3⟩ := h
  simp at hk h2
  subst h2
  refine ⟨hk, by simpa using h1, fun j hj => ?_⟩
  have := h3 j hj
  simpa using this
theorem freeAt_none {ss : List Slot} (h : freeAt ss = none) (i : Nat) (hi : i < ss.length) : (ss.getD i slot0).used = true := by
  rw [freeAt, List.find?_eq_none] at h
  have := h i (List.mem_range.2 hi)
  simpa using this
theorem freeAt_is {ss : List Slot} {i : Nat} (hi : i < ss.length) (hu : (ss.getD i slot0).used = false) (hm : ∀ j, j < i → (ss.getD j slot0).used = true) : freeAt ss = some i := by
  rw [freeAt, List.find?_eq_some_iff_getElem]
  exact ⟨by simpa using hu, i, by simpa using hi, by simp, fun j hj => by have := hm j hj; simpa using this⟩
theorem freeAt_no {ss : List Slot} (h : ∀ i, i < ss.length → (ss.getD i slot0).used = true) : freeAt ss = none := by
  rw [freeAt, List.find?_eq_none]
  intro i hi
  have := h i (List.mem_range.1 hi)
  simpa using this
/-- The handle of a place. -/
def hnd (ss : List Slot) (i : Nat) : Int := i + 1 + 65536 * (ss.getD i slot0).gen

end Go.Proofs.YtcgfknpobifecaaGreat

namespace Go.Proofs.YtcgfknpobifecaaGreat
open Go.RowKit

section
variable {l : List KObj} {w : World} {t : Nat} {m : MemS}
theorem R.gens (h : R l w) (ht : l[t]? = some (MemK m)) : GenOk m.ss m.gen ∧ m.ss.length ≤ 1024 := by
  obtain ⟨o, _, _, _, _, hA, _⟩ := h.get ht
  exact ⟨hA.gen, hA.len⟩
theorem nd_set {ss : List Slot} (h : ∀ s ∈ ss, NdOk s.nd) (i : Nat) {x : Slot} (hx : NdOk x.nd) : ∀ s ∈ ss.set i x, NdOk s.nd := fun s hs => by
  rcases List.mem_or_eq_of_mem_set hs with h1 | rfl
  · exact h s h1
  · exact hx
theorem nd0_ok : NdOk nd0 := ⟨⟨by decide, by decide⟩, by decide, by decide⟩
theorem nd_getD {ss : List Slot} (h : ∀ s ∈ ss, NdOk s.nd) (i : Nat) : NdOk (ss.getD i slot0).nd := by
  by_cases hi : i < ss.length
  · have : ss.getD i slot0 ∈ ss := by simp [hi]
    exact h _ this
  · have : ss.getD i slot0 = slot0 := by simp [List.getElem?_eq_none (Nat.le_of_not_lt hi)]
    rw [this]; exact nd0_ok
theorem MemOk.withSS (h : MemOk m) {ss : List Slot} (hs : ∀ s ∈ ss, NdOk s.nd) (fault : Bool) (g : Nat) : MemOk { m with ss := ss, fault := fault, gen := g } :=
  ⟨h.cells, h.cellsLen, h.cells3, h.locks, h.held, h.work, h.tab, h.tabLen, h.wait, hs⟩
theorem MemOk.read (h : MemOk m) (x : Int) : NdOk (readNd m.ss x) := by
  unfold readNd
  split
  · exact nd_getD h.node _
  · exact nd0_ok

theorem memR_live (h : R l w) (ht : l[t]? = some (MemK m)) (x : Int) (hx : U64 x) :
    Calls Tryz.prog 49 #[.pointer (some ⟨m.ab, 0, none⟩), .int .u64 x] w fun e w' => e = .returned (.bool (decide (0 ≤ atA m.ss x))) ∧ w = w' := by
  obtain ⟨o, _, _, _, _, hA, _⟩ := h.get ht
  exact arena_live2 hA x hx.1 hx.2
theorem memR_fault (h : R l w) (ht : l[t]? = some (MemK m)) : Calls Tryz.prog 21 #[.pointer (some ⟨m.ab, 0, none⟩)] w fun e w' => e = .returned (.bool m.fault) ∧ w = w' := by
  obtain ⟨o, _, _, _, _, hA, _⟩ := h.get ht
  exact arena_fault2 hA
theorem memR_spare (h : R l w) (ht : l[t]? = some (MemK m)) : Calls Tryz.prog 12 #[.pointer (some ⟨m.ab, 0, none⟩)] w fun e w' => e = .returned (.int .i64 (freeTo m.ss m.ss.length).length) ∧ w = w' := by
  obtain ⟨o, _, _, _, _, hA, _⟩ := h.get ht
  exact arena_spare2 hA
theorem memR_read (h : R l w) (ht : l[t]? = some (MemK m)) (x : Int) (hx : U64 x) :
    Calls Tryz.prog 50 #[.pointer (some ⟨m.ab, 0, none⟩), .int .u64 x] w (Does (l.set t (MemK { m with fault := useFault m.ss x m.fault })) (.tuple #[ndV (readNd m.ss x), .int .i64 (useCode m.ss x)])) := by
  obtain ⟨o, hr, hm⟩ := h.get ht
  refine (arena_read2 hm.2.2.2.1 x hx.1 hx.2).mono ?_
  rintro e w' ⟨o', rfl, hA, he⟩
  exact ⟨rfl, hr.memArena ht (ss := m.ss) (g := m.gen) (hm.1.withSS hm.1.node _ _) hA he (fun _ h => .inl h)⟩
theorem linkS_ok {ss : List Slot} (h : ∀ s ∈ ss, NdOk s.nd) (x y : Int) (hy : U64 y) : ∀ s ∈ linkS ss x y, NdOk s.nd := by
  unfold linkS
  split
  · exact nd_set h _ ⟨hy, (nd_getD h _).2⟩
  · exact h
theorem memR_link (h : R l w) (ht : l[t]? = some (MemK m)) (x y : Int) (hx : U64 x) (hy : U64 y) :
    Calls Tryz.prog 133 #[.pointer (some ⟨m.ab, 0, none⟩), .int .u64 x, .int .u64 y] w (Does (l.set t (MemK { m with ss := linkS m.ss x y, fault := useFault m.ss x m.fault })) (.int .i64 (useCode m.ss x))) := by
  obtain ⟨o, hr, hm⟩ := h.get ht
  refine (arena_link2 hm.2.2.2.1 x y hx.1 hx.2).mono ?_
  rintro e w' ⟨rfl, hA, he⟩
  exact ⟨rfl, hr.memArena ht (g := m.gen) (hm.1.withSS (linkS_ok hm.1.node x y hy) _ _) hA he (fun _ h => .inl h)⟩
theorem memR_alloc (h : R l w) (ht : l[t]? = some (MemK m)) (n : Nd) (hn : NdOk n) (hg : m.gen ≤ 1000000) (i : Nat) (hi : freeAt m.ss = some i) :
    Calls Tryz.prog 124 #[.pointer (some ⟨m.ab, 0, none⟩), ndV n] w (Does (l.set t (MemK { m with ss := m.ss.set i (taken (m.ss.getD i slot0) n) })) (.tuple #[.int .u64 (hnd m.ss i), .int .i64 0])) := by
  obtain ⟨o, hr, hm⟩ := h.get ht
  obtain ⟨h1, h2, h3⟩ := freeAt_some hi
  refine (arena_take hm.2.2.2.1 (by omega) (by omega) n i h1 h2 h3).mono ?_
  rintro e w' ⟨o', rfl, hA, he⟩
  exact ⟨rfl, hr.memArena ht (g := m.gen) (fault := m.fault) (hm.1.withSS (nd_set hm.1.node _ (x := taken _ n) hn) _ _) hA he (fun _ h => h)⟩
theorem memR_alloc_no (h : R l w) (ht : l[t]? = some (MemK m)) (n : Nd) (hi : freeAt m.ss = none) :
    Calls Tryz.prog 124 #[.pointer (some ⟨m.ab, 0, none⟩), ndV n] w (Does l (.tuple #[.int .u64 0, .int .i64 4])) := by
  obtain ⟨o, hr, hm⟩ := h.get ht
  refine (arena_take_no hm.2.2.2.1 n (freeAt_none hi)).mono ?_
  rintro e w' ⟨rfl, hA, he⟩
  exact ⟨rfl, hr.same he⟩
theorem memR_free (h : R l w) (ht : l[t]? = some (MemK m)) (x : Int) (hx : U64 x) (hg : m.gen ≤ 1000000) (i : Nat) (hi : atA m.ss x = i) :
    Calls Tryz.prog 125 #[.pointer (some ⟨m.ab, 0, none⟩), .int .u64 x] w (Does (l.set t (MemK { m with ss := m.ss.set i (freed (m.ss.getD i slot0)), gen := m.gen + 1 })) (.int .i64 0)) := by
  obtain ⟨o, hr, hm⟩ := h.get ht
  refine (arena_give hm.2.2.2.1 (by omega) (by omega) x hx.1 hx.2 i hi).mono ?_
  rintro e w' ⟨o', rfl, hA, he⟩
  exact ⟨rfl, hr.memArena ht (g := m.gen + 1) (fault := m.fault) (hm.1.withSS (nd_set hm.1.node _ (x := freed _) nd0_ok) _ _) (by exact_mod_cast hA) he (fun _ h => h)⟩
theorem memR_free_no (h : R l w) (ht : l[t]? = some (MemK m)) (x : Int) (hx : U64 x) (hi : ¬ 0 ≤ atA m.ss x) :
    Calls Tryz.prog 125 #[.pointer (some ⟨m.ab, 0, none⟩), .int .u64 x] w (Does (l.set t (MemK { m with fault := true })) (.int .i64 (useCode m.ss x))) := by
  obtain ⟨o, hr, hm⟩ := h.get ht
  refine (arena_give_no hm.2.2.2.1 x hx.1 hx.2 hi).mono ?_
  rintro e w' ⟨rfl, hA, he⟩
  exact ⟨rfl, hr.memArena ht (ss := m.ss) (g := m.gen) (hm.1.withSS hm.1.node _ _) hA he (fun _ h => .inl h)⟩
end
end Go.Proofs.YtcgfknpobifecaaGreat
