/- The memory of package mem: what the calls of its arena come to. Condition: such an object is there. -/
import Derived.Test.YtcoaemjoanbemaaMk
import Derived.Test.YtcoaemjoanbemaaAf
namespace Go.Proofs.Ytcoaemjoanbemaa
open Go.RowKit

section
variable {l : List KObj} {w : World} {t : Nat} {m : MemS}
theorem R.gens (h : R l w) (ht : l[t]? = some (MemK m)) : GenOk m.ss m.gen ∧ m.ss.length ≤ 1024 := by
  obtain ⟨o, _, _, _, _, hA, _⟩ := h.get ht
  exact ⟨hA.gen, hA.len⟩
theorem nd_set {ss : List Slot} (h : ∀ s ∈ ss, NdOk s.nd) (i : Nat) {x : Slot} (hx : NdOk x.nd) : ∀ s ∈ ss.set i x, NdOk s.nd := fun s hs => by
  rcases List.mem_or_eq_of_mem_set hs with h1 | rfl
  · exact h s h1
  · exact hx
theorem nd0_ok : NdOk nd0 := ⟨⟨by decide, by decide⟩, by decide, by decide⟩
theorem nd_getD {ss : List Slot} (h : ∀ s ∈ ss, NdOk s.nd) (i : Nat) : NdOk (ss.getD i slot0).nd := by
  by_cases hi : i < ss.length
  · have : ss.getD i slot0 ∈ ss := by simp [hi]
    exact h _ this
  · have : ss.getD i slot0 = slot0 := by simp [List.getElem?_eq_none (Nat.le_of_not_lt hi)]
    rw [this]; exact nd0_ok
theorem MemOk.withSS (h : MemOk m) {ss : List Slot} (hs : ∀ s ∈ ss, NdOk s.nd) (fault : Bool) (g : Nat) : MemOk { m with ss := ss, fault := fault, gen := g } :=
  ⟨h.cells, h.cellsLen, h.cells3, h.locks, h.held, h.work, h.tab, h.tabLen, h.wait, hs⟩
theorem MemOk.read (h : MemOk m) (x : Int) : NdOk (readNd m.ss x) := by
  unfold readNd
  split
  · exact nd_getD h.node _
  · exact nd0_ok

theorem memR_live (h : R l w) (ht : l[t]? = some (MemK m)) (x : Int) (hx : U64 x) :
    Calls Try.prog 11 #[.pointer (some ⟨m.ab, 0, none⟩), .int .u64 x] w fun e w' => e = .returned (.bool (decide (0 ≤ atA m.ss x))) ∧ w = w' := by
  obtain ⟨o, _, _, _, _, hA, _⟩ := h.get ht
  exact arena_live2 hA x hx.1 hx.2
theorem memR_fault (h : R l w) (ht : l[t]? = some (MemK m)) : Calls Try.prog 12 #[.pointer (some ⟨m.ab, 0, none⟩)] w fun e w' => e = .returned (.bool m.fault) ∧ w = w' := by
  obtain ⟨o, _, _, _, _, hA, _⟩ := h.get ht
  exact arena_fault2 hA
theorem memR_room (h : R l w) (ht : l[t]? = some (MemK m)) : Calls Try.prog 18 #[.pointer (some ⟨m.ab, 0, none⟩)] w fun e w' => e = .returned (.int .i64 m.ss.length) ∧ w = w' := by
  obtain ⟨o, _, _, _, _, hA, _⟩ := h.get ht
  exact arena_room2 hA
theorem memR_spare (h : R l w) (ht : l[t]? = some (MemK m)) : Calls Try.prog 13 #[.pointer (some ⟨m.ab, 0, none⟩)] w fun e w' => e = .returned (.int .i64 (freeTo m.ss m.ss.length).length) ∧ w = w' := by
  obtain ⟨o, _, _, _, _, hA, _⟩ := h.get ht
  exact arena_spare2 hA
theorem memR_read (h : R l w) (ht : l[t]? = some (MemK m)) (x : Int) (hx : U64 x) :
    Calls Try.prog 81 #[.pointer (some ⟨m.ab, 0, none⟩), .int .u64 x] w (Does (l.set t (MemK { m with fault := useFault m.ss x m.fault })) (.tuple #[ndV (readNd m.ss x), .int .i64 (useCode m.ss x)])) := by
  obtain ⟨o, hr, hm⟩ := h.get ht
  refine (arena_read2 hm.2.2.2.1 x hx.1 hx.2).mono ?_
  rintro e w' ⟨o', rfl, hA, he⟩
  exact ⟨rfl, hr.memArena ht (ss := m.ss) (g := m.gen) (hm.1.withSS hm.1.node _ _) hA he (fun _ h => .inl h)⟩
theorem linkS_ok {ss : List Slot} (h : ∀ s ∈ ss, NdOk s.nd) (x y : Int) (hy : U64 y) : ∀ s ∈ linkS ss x y, NdOk s.nd := by
  unfold linkS
  split
  · exact nd_set h _ ⟨hy, (nd_getD h _).2⟩
  · exact h
theorem memR_link (h : R l w) (ht : l[t]? = some (MemK m)) (x y : Int) (hx : U64 x) (hy : U64 y) :
    Calls Try.prog 24 #[.pointer (some ⟨m.ab, 0, none⟩), .int .u64 x, .int .u64 y] w (Does (l.set t (MemK { m with ss := linkS m.ss x y, fault := useFault m.ss x m.fault })) (.int .i64 (useCode m.ss x))) := by
  obtain ⟨o, hr, hm⟩ := h.get ht
  refine (arena_link2 hm.2.2.2.1 x y hx.1 hx.2).mono ?_
  rintro e w' ⟨rfl, hA, he⟩
  exact ⟨rfl, hr.memArena ht (g := m.gen) (hm.1.withSS (linkS_ok hm.1.node x y hy) _ _) hA he (fun _ h => .inl h)⟩
theorem memR_alloc (h : R l w) (ht : l[t]? = some (MemK m)) (n : Nd) (hn : NdOk n) (hg : m.gen ≤ 1000000) (i : Nat) (hi : freeAt m.ss = some i) :
    Calls Try.prog 9 #[.pointer (some ⟨m.ab, 0, none⟩), ndV n] w (Does (l.set t (MemK { m with ss := m.ss.set i (taken (m.ss.getD i slot0) n) })) (.tuple #[.int .u64 (hnd m.ss i), .int .i64 0])) := by
  obtain ⟨o, hr, hm⟩ := h.get ht
  obtain ⟨h1, h2, h3⟩ := freeAt_some hi
  refine (arena_take hm.2.2.2.1 (by omega) (by omega) n i h1 h2 h3).mono ?_
  rintro e w' ⟨o', rfl, hA, he⟩
  exact ⟨rfl, hr.memArena ht (g := m.gen) (fault := m.fault) (hm.1.withSS (nd_set hm.1.node _ (x := taken _ n) hn) _ _) hA he (fun _ h => h)⟩
theorem memR_alloc_no (h : R l w) (ht : l[t]? = some (MemK m)) (n : Nd) (hi : freeAt m.ss = none) :
    Calls Try.prog 9 #[.pointer (some ⟨m.ab, 0, none⟩), ndV n] w (Does l (.tuple #[.int .u64 0, .int .i64 4])) := by
  obtain ⟨o, hr, hm⟩ := h.get ht
  refine (arena_take_no hm.2.2.2.1 n (freeAt_none hi)).mono ?_
  rintro e w' ⟨rfl, hA, he⟩
  exact ⟨rfl, hr.same he⟩
theorem memR_free (h : R l w) (ht : l[t]? = some (MemK m)) (x : Int) (hx : U64 x) (hg : m.gen ≤ 1000000) (i : Nat) (hi : atA m.ss x = i) :
    Calls Try.prog 10 #[.pointer (some ⟨m.ab, 0, none⟩), .int .u64 x] w (Does (l.set t (MemK { m with ss := m.ss.set i (freed (m.ss.getD i slot0)), gen := m.gen + 1 })) (.int .i64 0)) := by
  obtain ⟨o, hr, hm⟩ := h.get ht
  refine (arena_give hm.2.2.2.1 (by omega) (by omega) x hx.1 hx.2 i hi).mono ?_
  rintro e w' ⟨o', rfl, hA, he⟩
  exact ⟨rfl, hr.memArena ht (g := m.gen + 1) (fault := m.fault) (hm.1.withSS (nd_set hm.1.node _ (x := freed _) nd0_ok) _ _) (by exact_mod_cast hA) he (fun _ h => h)⟩
theorem memR_free_no (h : R l w) (ht : l[t]? = some (MemK m)) (x : Int) (hx : U64 x) (hi : ¬ 0 ≤ atA m.ss x) :
    Calls Try.prog 10 #[.pointer (some ⟨m.ab, 0, none⟩), .int .u64 x] w (Does (l.set t (MemK { m with fault := true })) (.int .i64 (useCode m.ss x))) := by
  obtain ⟨o, hr, hm⟩ := h.get ht
  refine (arena_give_no hm.2.2.2.1 x hx.1 hx.2 hi).mono ?_
  rintro e w' ⟨rfl, hA, he⟩
  exact ⟨rfl, hr.memArena ht (ss := m.ss) (g := m.gen) (hm.1.withSS hm.1.node _ _) hA he (fun _ h => .inl h)⟩
end
end Go.Proofs.Ytcoaemjoanbemaa
