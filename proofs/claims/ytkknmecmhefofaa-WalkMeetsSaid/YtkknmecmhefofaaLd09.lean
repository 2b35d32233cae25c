/- quietuslaw09, plain laws: a chain of a few nodes, linked past and freed ahead of a walk. No condition. -/
import Derived.Test.YtkknmecmhefofaaLb09
namespace Go.Proofs.Ytkknmecmhefofaa
open Go.RowKit

/-- A node's key is one letter; the first ones are linked. -/
def kyM (t : Nat) : ByteArray := ⟨#[UInt8.ofNat (97 + t)]⟩
def ndM (linked t : Nat) : Nd := ⟨kyM t, ⟨#[]⟩, 0, if t < linked then (t : Int) + 2 else 0⟩
def ssM (made linked : Nat) : List Slot := ((List.range made).map fun t => taken slot0 (ndM linked t)) ++ List.replicate (20 - made) slot0
theorem ssM_alloc (i : Nat) (h : i ≤ 9) : freeAt (ssM i 0) = some i ∧ hnd (ssM i 0) i = (i : Int) + 1 ∧ (ssM i 0).set i (taken ((ssM i 0).getD i slot0) (ndM 0 i)) = ssM (i + 1) 0 := by
  rcases (by omega : i = 0 ∨ i = 1 ∨ i = 2 ∨ i = 3 ∨ i = 4 ∨ i = 5 ∨ i = 6 ∨ i = 7 ∨ i = 8 ∨ i = 9) with rfl | rfl | rfl | rfl | rfl | rfl | rfl | rfl | rfl | rfl <;> exact ⟨by kernel_rfl, by kernel_rfl, by kernel_rfl⟩
theorem ssM_link (n i : Nat) (hn : n ≤ 9) (hi : i ≤ 9) : i + 1 < n → linkS (ssM n i) ((i : Int) + 1) ((i : Int) + 2) = ssM n (i + 1) ∧ useFault (ssM n i) ((i : Int) + 1) false = false ∧ useCode (ssM n i) ((i : Int) + 1) = 0 := by
  intro h
  rcases (by omega : n = 0 ∨ n = 1 ∨ n = 2 ∨ n = 3 ∨ n = 4 ∨ n = 5 ∨ n = 6 ∨ n = 7 ∨ n = 8 ∨ n = 9) with rfl | rfl | rfl | rfl | rfl | rfl | rfl | rfl | rfl | rfl <;>
    rcases (by omega : i = 0 ∨ i = 1 ∨ i = 2 ∨ i = 3 ∨ i = 4 ∨ i = 5 ∨ i = 6 ∨ i = 7 ∨ i = 8 ∨ i = 9) with rfl | rfl | rfl | rfl | rfl | rfl | rfl | rfl | rfl | rfl <;> first | omega | exact ⟨by kernel_rfl, by kernel_rfl, by kernel_rfl⟩
/-- The memory: so many nodes, so many of them linked; cell 3. -/
def memM (b cb lb ab made linked c3 : Nat) : MemS := { memNew b cb lb ab 20 1 with ss := ssM made linked, cells := [1, 0, 0, (c3 : Int)] }
/-- The walk behind so many steps. -/
def walkM (n : Nat) : Nat → WalkS
  | 0 => walk0 3 0 (kyM (n - 1))
  | a + 1 => { walk0 3 0 (kyM (n - 1)) with looking := true, first := 1, at_ := (a : Int) + 1, prev := a, read := a }
theorem walkM_step (b cb lb ab n a : Nat) (hn : n ≤ 9) (ha : a ≤ 9) : a + 1 < n → walkStep (memM b cb lb ab n (n - 1) 1) (walkM n a) = (memM b cb lb ab n (n - 1) 1, walkM n (a + 1), false) := by
  intro h
  rcases (by omega : n = 0 ∨ n = 1 ∨ n = 2 ∨ n = 3 ∨ n = 4 ∨ n = 5 ∨ n = 6 ∨ n = 7 ∨ n = 8 ∨ n = 9) with rfl | rfl | rfl | rfl | rfl | rfl | rfl | rfl | rfl | rfl <;>
    rcases (by omega : a = 0 ∨ a = 1 ∨ a = 2 ∨ a = 3 ∨ a = 4 ∨ a = 5 ∨ a = 6 ∨ a = 7 ∨ a = 8 ∨ a = 9) with rfl | rfl | rfl | rfl | rfl | rfl | rfl | rfl | rfl | rfl <;> first | omega | kernel_rfl
/-- Behind the link past the next node. -/
def memP (b cb lb ab n a : Nat) : MemS := if 0 < a then { memM b cb lb ab n (n - 1) 1 with ss := linkS (ssM n (n - 1)) (a : Int) ((a : Int) + 2) } else memM b cb lb ab n (n - 1) 1
theorem memP_ok (n a : Nat) (hn : n ≤ 9) (ha : a ≤ 9) : a + 1 < n → 0 < a → useFault (ssM n (n - 1)) (a : Int) false = false ∧ useCode (ssM n (n - 1)) (a : Int) = 0 := by
  intro h h2
  rcases (by omega : n = 0 ∨ n = 1 ∨ n = 2 ∨ n = 3 ∨ n = 4 ∨ n = 5 ∨ n = 6 ∨ n = 7 ∨ n = 8 ∨ n = 9) with rfl | rfl | rfl | rfl | rfl | rfl | rfl | rfl | rfl | rfl <;>
    rcases (by omega : a = 0 ∨ a = 1 ∨ a = 2 ∨ a = 3 ∨ a = 4 ∨ a = 5 ∨ a = 6 ∨ a = 7 ∨ a = 8 ∨ a = 9) with rfl | rfl | rfl | rfl | rfl | rfl | rfl | rfl | rfl | rfl <;> first | omega | exact ⟨by kernel_rfl, by kernel_rfl⟩
/-- Behind that node's end. -/
def memF (b cb lb ab n a : Nat) : MemS := { memP b cb lb ab n a with ss := (memP b cb lb ab n a).ss.set a (freed ((memP b cb lb ab n a).ss.getD a slot0)), gen := 1 }
theorem memP_at (b cb lb ab n a : Nat) (hn : n ≤ 9) (ha : a ≤ 9) : a + 1 < n → atA (memP b cb lb ab n a).ss ((a : Int) + 1) = a := by
  intro h
  rcases (by omega : n = 0 ∨ n = 1 ∨ n = 2 ∨ n = 3 ∨ n = 4 ∨ n = 5 ∨ n = 6 ∨ n = 7 ∨ n = 8 ∨ n = 9) with rfl | rfl | rfl | rfl | rfl | rfl | rfl | rfl | rfl | rfl <;>
    rcases (by omega : a = 0 ∨ a = 1 ∨ a = 2 ∨ a = 3 ∨ a = 4 ∨ a = 5 ∨ a = 6 ∨ a = 7 ∨ a = 8 ∨ a = 9) with rfl | rfl | rfl | rfl | rfl | rfl | rfl | rfl | rfl | rfl <;> first | omega | kernel_rfl
def finF (b cb lb ab n a : Nat) := finM (frReady fun _ _ => true) (frStep walkStep) 50 0 (memF b cb lb ab n a, walkM n (a + 1))
def finP (b cb lb ab n a : Nat) := finM (frReady fun _ _ => true) (frStep walkStep) 50 0 (memP b cb lb ab n a, walkM n (a + 1))
theorem finF_is (b cb lb ab n a : Nat) (hn : n ≤ 9) (ha : a ≤ 9) : a + 1 < n → (finF b cb lb ab n a).2.1 = true ∧ (finF b cb lb ab n a).2.2.2.found = false ∧ (finF b cb lb ab n a).2.2.1.fault = true ∧ (finF b cb lb ab n a).2.2.1.b = b ∧ (finF b cb lb ab n a).2.2.1.cb = cb ∧ (finF b cb lb ab n a).2.2.1.lb = lb ∧ (finF b cb lb ab n a).2.2.1.ab = ab := by
  intro h
  rcases (by omega : n = 0 ∨ n = 1 ∨ n = 2 ∨ n = 3 ∨ n = 4 ∨ n = 5 ∨ n = 6 ∨ n = 7 ∨ n = 8 ∨ n = 9) with rfl | rfl | rfl | rfl | rfl | rfl | rfl | rfl | rfl | rfl <;>
    rcases (by omega : a = 0 ∨ a = 1 ∨ a = 2 ∨ a = 3 ∨ a = 4 ∨ a = 5 ∨ a = 6 ∨ a = 7 ∨ a = 8 ∨ a = 9) with rfl | rfl | rfl | rfl | rfl | rfl | rfl | rfl | rfl | rfl <;> first | omega | exact ⟨by kernel_rfl, by kernel_rfl, by kernel_rfl, by kernel_rfl, by kernel_rfl, by kernel_rfl, by kernel_rfl⟩
theorem finP_is (b cb lb ab n a : Nat) (hn : n ≤ 9) (ha : a ≤ 9) : a + 1 < n → (finP b cb lb ab n a).2.1 = true ∧ (finP b cb lb ab n a).2.2.2.found = true ∧ (finP b cb lb ab n a).2.2.1.fault = false ∧ (finP b cb lb ab n a).2.2.2.at_ = (n : Int) ∧ (finP b cb lb ab n a).2.2.1.b = b ∧ (finP b cb lb ab n a).2.2.1.cb = cb ∧ (finP b cb lb ab n a).2.2.1.lb = lb ∧ (finP b cb lb ab n a).2.2.1.ab = ab := by
  intro h
  rcases (by omega : n = 0 ∨ n = 1 ∨ n = 2 ∨ n = 3 ∨ n = 4 ∨ n = 5 ∨ n = 6 ∨ n = 7 ∨ n = 8 ∨ n = 9) with rfl | rfl | rfl | rfl | rfl | rfl | rfl | rfl | rfl | rfl <;>
    rcases (by omega : a = 0 ∨ a = 1 ∨ a = 2 ∨ a = 3 ∨ a = 4 ∨ a = 5 ∨ a = 6 ∨ a = 7 ∨ a = 8 ∨ a = 9) with rfl | rfl | rfl | rfl | rfl | rfl | rfl | rfl | rfl | rfl <;> first | omega | exact ⟨by kernel_rfl, by kernel_rfl, by kernel_rfl, by kernel_rfl, by kernel_rfl, by kernel_rfl, by kernel_rfl, by kernel_rfl⟩
end Go.Proofs.Ytkknmecmhefofaa
