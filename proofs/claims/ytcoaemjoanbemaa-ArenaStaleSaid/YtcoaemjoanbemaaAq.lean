/- Plain laws on an arena's free places. No program. -/
import Derived.Test.YtcoaemjoanbemaaAp
namespace Go.Proofs.Ytcoaemjoanbemaa
open Go.RowKit

def unusedB (ss : List Slot) (i : Nat) : Bool := !(ss.getD i slot0).used
def freeTo (ss : List Slot) (k : Nat) : List Nat := (List.range k).filter (unusedB ss)
theorem mem_freeTo (ss : List Slot) (k i : Nat) : i ∈ freeTo ss k ↔ i < k ∧ (ss.getD i slot0).used = false := by simp [freeTo, unusedB]
theorem nodup_freeTo (ss : List Slot) (k : Nat) : ((freeTo ss k).map Int.ofNat).Nodup := by
  unfold freeTo
  rw [List.Nodup, List.pairwise_map]
  exact (List.nodup_range.filter _).imp (fun h e => h (Int.ofNat_inj.1 e))
theorem mem_free (ss : List Slot) (k : Nat) (z : Int) : z ∈ (freeTo ss k).map Int.ofNat ↔ ∃ i : Nat, z = i ∧ i < k ∧ (ss.getD i slot0).used = false := by
  rw [List.mem_map]
  constructor
  · rintro ⟨i, hi, rfl⟩
    exact ⟨i, rfl, (mem_freeTo ss k i).1 hi⟩
  · rintro ⟨i, rfl, hi⟩
    exact ⟨i, (mem_freeTo ss k i).2 hi, rfl⟩
theorem freeTo_succ (ss : List Slot) (k : Nat) : (freeTo ss (k + 1)).length = (freeTo ss k).length + if (ss.getD k slot0).used then 0 else 1 := by
  unfold freeTo
  rw [List.range_succ, List.filter_append, List.length_append]
  have hb : unusedB ss k = !(ss.getD k slot0).used := rfl
  generalize (ss.getD k slot0).used = u at *
  cases u <;> simp [hb]
theorem freeTo_le (ss : List Slot) (k : Nat) : (freeTo ss k).length ≤ k := by
  have := List.length_filter_le (unusedB ss) (List.range k)
  rw [List.length_range] at this
  exact this

/-- The heap of the free places, of right places. -/
structure AInv (ss : List Slot) (xs : List Int) : Prop where
  heap : IsHeap xs
  perm : xs.Perm ((freeTo ss ss.length).map Int.ofNat)
theorem AInv.mem {ss : List Slot} {xs : List Int} (h : AInv ss xs) (z : Int) : z ∈ xs ↔ ∃ i : Nat, z = i ∧ i < ss.length ∧ (ss.getD i slot0).used = false := by rw [h.perm.mem_iff, mem_free]
theorem AInv.nodup {ss : List Slot} {xs : List Int} (h : AInv ss xs) : xs.Nodup := h.perm.nodup_iff.2 (nodup_freeTo ss _)
theorem AInv.length {ss : List Slot} {xs : List Int} (h : AInv ss xs) : xs.length = (freeTo ss ss.length).length := by rw [h.perm.length_eq, List.length_map]
theorem AInv.of {ss : List Slot} {xs : List Int} (h : IsHeap xs) (hn : xs.Nodup) (hm : ∀ z, z ∈ xs ↔ ∃ i : Nat, z = i ∧ i < ss.length ∧ (ss.getD i slot0).used = false) : AInv ss xs :=
  ⟨h, (List.perm_ext_iff_of_nodup hn (nodup_freeTo ss _)).2 fun z => by rw [hm, mem_free]⟩
theorem getD_set_slot (ss : List Slot) (i j : Nat) (x : Slot) (h : i < ss.length) : (ss.set i x).getD j slot0 = if i = j then x else ss.getD j slot0 := by
  simp only [List.getD_eq_getElem?_getD, List.getElem?_set]
  by_cases e : i = j
  · subst e; simp [h]
  · simp [e]
theorem AInv.start (n : Nat) {xs : List Int} (h : IsHeap xs) (hp : xs.Perm (ints n)) : AInv (List.replicate n slot0) xs := by
  refine ⟨h, hp.trans ?_⟩
  have : freeTo (List.replicate n slot0) (List.replicate n slot0).length = List.range n := by
    unfold freeTo
    rw [List.length_replicate, List.filter_eq_self]
    intro i hi
    rw [List.mem_range] at hi
    simp [unusedB, hi, slot0]
  rw [this]
  exact .refl _
theorem AInv.take {ss : List Slot} {xs ys : List Int} (A : AInv ss xs) {i : Nat} (hi : i < ss.length) (hp : (ys ++ [(i : Int)]).Perm xs) (hh : IsHeap ys) (x : Slot) (hx : x.used = true) : AInv (ss.set i x) ys := by
  have hnd := hp.nodup_iff.2 A.nodup
  have hnd' : ys.Nodup ∧ (i : Int) ∉ ys := by
    rw [List.nodup_append] at hnd
    exact ⟨hnd.1, fun hm => hnd.2.2 _ hm _ (by simp) rfl⟩
  refine AInv.of hh hnd'.1 fun z => ?_
  have hz : z ∈ xs ↔ z ∈ ys ∨ z = i := by rw [← hp.mem_iff]; simp
  constructor
  · intro hm
    obtain ⟨j, rfl, hj, hu⟩ := (A.mem z).1 (hz.2 (.inl hm))
    refine ⟨j, rfl, by simpa using hj, ?_⟩
    rw [getD_set_slot _ _ _ _ hi, if_neg (fun e : i = j => hnd'.2 (by rw [e]; exact hm))]
    exact hu
  · rintro ⟨j, rfl, hj, hu⟩
    rw [getD_set_slot _ _ _ _ hi] at hu
    by_cases e : i = j
    · rw [if_pos e, hx] at hu; cases hu
    · rw [if_neg e] at hu
      rcases hz.1 ((A.mem _).2 ⟨j, rfl, by simpa using hj, hu⟩) with h | h
      · exact h
      · exact absurd (Int.ofNat_inj.1 h).symm e
theorem AInv.give {ss : List Slot} {xs ys : List Int} (A : AInv ss xs) {i : Nat} (hi : i < ss.length) (hu : (ss.getD i slot0).used = true) (hp : ys.Perm (xs ++ [(i : Int)])) (hh : IsHeap ys) (x : Slot) (hx : x.used = false) : AInv (ss.set i x) ys := by
  have hni : (i : Int) ∉ xs := fun hm => by
    obtain ⟨j, e, _, h⟩ := (A.mem _).1 hm
    rw [← Int.ofNat_inj.1 e, hu] at h; cases h
  have hnd : ys.Nodup := by
    rw [hp.nodup_iff, List.nodup_append]
    exact ⟨A.nodup, by simp, fun a ha b hb e => hni (by simp at hb; rw [← hb, ← e]; exact ha)⟩
  refine AInv.of hh hnd fun z => ?_
  have hz : z ∈ ys ↔ z ∈ xs ∨ z = i := by rw [hp.mem_iff]; simp
  rw [hz]
  constructor
  · rintro (hm | rfl)
    · obtain ⟨j, rfl, hj, hu'⟩ := (A.mem z).1 hm
      refine ⟨j, rfl, by simpa using hj, ?_⟩
      rw [getD_set_slot _ _ _ _ hi]
      by_cases e : i = j
      · rw [if_pos e]; exact hx
      · rw [if_neg e]; exact hu'
    · exact ⟨i, rfl, by simpa using hi, by rw [getD_set_slot _ _ _ _ hi, if_pos rfl]; exact hx⟩
  · rintro ⟨j, rfl, hj, hu'⟩
    by_cases e : i = j
    · exact .inr (by rw [e])
    · rw [getD_set_slot _ _ _ _ hi, if_neg e] at hu'
      exact .inl ((A.mem _).2 ⟨j, rfl, by simpa using hj, hu'⟩)
/-- The least of the free places is the first one. -/
theorem AInv.first {ss : List Slot} {xs : List Int} (A : AInv ss xs) {i : Nat} (hm : (i : Int) ∈ xs) (hmin : ∀ x ∈ xs, (i : Int) ≤ x) : i < ss.length ∧ (ss.getD i slot0).used = false ∧ ∀ j, j < i → (ss.getD j slot0).used = true := by
  obtain ⟨i', e, hi, hu⟩ := (A.mem _).1 hm
  have := Int.ofNat_inj.1 e
  subst this
  refine ⟨hi, hu, fun j hj => ?_⟩
  cases h : (ss.getD j slot0).used
  · have := hmin j ((A.mem _).2 ⟨j, rfl, by omega, h⟩)
    omega
  · rfl
theorem AInv.empty {ss : List Slot} (A : AInv ss []) : ∀ i, i < ss.length → (ss.getD i slot0).used = true := fun i hi => by
  cases h : (ss.getD i slot0).used
  · have := (A.mem i).2 ⟨i, rfl, hi, h⟩
    cases this
  · rfl
theorem atA_of (ss : List Slot) (h : Int) (hl : ss.length ≤ 1024) (i : Nat) (hi : i < ss.length) (hu : (ss.getD i slot0).used = true) (hh : h = i + 1 + 65536 * (ss.getD i slot0).gen) : atA ss h = i := by
  have h1 : h % 65536 = i + 1 := by omega
  have h2 : h / 65536 = (ss.getD i slot0).gen := by omega
  unfold atA
  rw [h1, h2, show ((i : Int) + 1).toNat - 1 = i by omega, if_pos ⟨by omega, by omega, hu, rfl⟩]
  omega
theorem atA_none (ss : List Slot) (h : Int) (hn : ∀ i, i < ss.length → (ss.getD i slot0).used = true → h ≠ i + 1 + 65536 * (ss.getD i slot0).gen) : atA ss h = -1 := by
  apply atA_neg
  intro hi
  obtain ⟨i, _, hl, hu, hm, hg⟩ := atA_lt ss h hi
  exact hn i hl hu (by rw [hg]; omega)
end Go.Proofs.Ytcoaemjoanbemaa
