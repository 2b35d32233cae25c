/- Plain laws on the first free place of an arena. No condition. -/
import Derived.Test.YtcoaemjoanbemaaXd
namespace Go.Proofs.Ytcoaemjoanbemaa
open Go.RowKit

/-- The first free place. -/
def freeAt (ss : List Slot) : Option Nat := (List.range ss.length).find? fun i => !(ss.getD i slot0).used
theorem freeAt_some {ss : List Slot} {i : Nat} (h : freeAt ss = some i) : i < ss.length ∧ (ss.getD i slot0).used = false ∧ ∀ j, j < i → (ss.getD j slot0).used = true := by
  rw [freeAt, List.find?_eq_some_iff_getElem] at h
  obtain ⟨h1, k, hk, h2, h3⟩ := h
  simp at hk h2
  subst h2
  refine ⟨hk, by simpa using h1, fun j hj => ?_⟩
  have := h3 j hj
  simpa using this
theorem freeAt_none {ss : List Slot} (h : freeAt ss = none) (i : Nat) (hi : i < ss.length) : (ss.getD i slot0).used = true := by
  rw [freeAt, List.find?_eq_none] at h
  have := h i (List.mem_range.2 hi)
  simpa using this
theorem freeAt_is {ss : List Slot} {i : Nat} (hi : i < ss.length) (hu : (ss.getD i slot0).used = false) (hm : ∀ j, j < i → (ss.getD j slot0).used = true) : freeAt ss = some i := by
  rw [freeAt, List.find?_eq_some_iff_getElem]
  exact ⟨by simpa using hu, i, by simpa using hi, by simp, fun j hj => by have := hm j hj; simpa using this⟩
theorem freeAt_no {ss : List Slot} (h : ∀ i, i < ss.length → (ss.getD i slot0).used = true) : freeAt ss = none := by
  rw [freeAt, List.find?_eq_none]
  intro i hi
  have := h i (List.mem_range.1 hi)
  simpa using this
/-- The handle of a place. -/
def hnd (ss : List Slot) (i : Nat) : Int := i + 1 + 65536 * (ss.getD i slot0).gen

end Go.Proofs.Ytcoaemjoanbemaa
