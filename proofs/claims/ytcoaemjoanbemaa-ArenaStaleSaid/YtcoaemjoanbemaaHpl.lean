/- Plain laws on a binary heap in a list: what up and down keep. No program. -/
namespace Go.Proofs.Ytcoaemjoanbemaa

def swapL (xs : List Int) (i j : Nat) : List Int := (xs.set i (xs.getD j 0)).set j (xs.getD i 0)
theorem swapL_length (xs : List Int) (i j : Nat) : (swapL xs i j).length = xs.length := by simp [swapL]
theorem swapL_getD (xs : List Int) (i j k : Nat) (hi : i < xs.length) (hj : j < xs.length) : (swapL xs i j).getD k 0 = if k = j then xs.getD i 0 else if k = i then xs.getD j 0 else xs.getD k 0 := by
  unfold swapL
  by_cases h1 : k = j
  · subst h1
    rw [if_pos rfl, List.getD_eq_getElem?_getD, List.getElem?_set_self (by simpa using hj)]
    rfl
  · rw [if_neg h1, List.getD_eq_getElem?_getD, List.getElem?_set_ne (fun h => h1 h.symm)]
    by_cases h2 : k = i
    · subst h2
      rw [if_pos rfl, List.getElem?_set_self hi]
      rfl
    · rw [if_neg h2, List.getElem?_set_ne (fun h => h2 h.symm), ← List.getD_eq_getElem?_getD]
theorem swapL_perm (xs : List Int) (i j : Nat) (hi : i < xs.length) (hj : j < xs.length) : (swapL xs i j).Perm xs := by
  have h := (Array.swap_perm (xs := xs.toArray) (i := i) (j := j) (by simpa using hi) (by simpa using hj)).toList
  rw [Array.toList_swap] at h
  have e : swapL xs i j = ((xs.toArray.toList.set i (xs.toArray[j]'(by simpa using hj))).set j (xs.toArray[i]'(by simpa using hi))) := by
    simp [swapL, hi, hj]
  rw [e]
  simpa using h

/-- A heap: no number is less than its parent. -/
def IsHeap (xs : List Int) : Prop := ∀ i, 0 < i → i < xs.length → xs.getD ((i - 1) / 2) 0 ≤ xs.getD i 0
/-- .. but at j, which goes up. -/
def UpInv (xs : List Int) (j : Nat) : Prop := (∀ i, 0 < i → i < xs.length → i ≠ j → xs.getD ((i - 1) / 2) 0 ≤ xs.getD i 0) ∧ (∀ i, 0 < i → i < xs.length → (i - 1) / 2 = j → 0 < j → xs.getD ((j - 1) / 2) 0 ≤ xs.getD i 0)
/-- .. among the first n, but for the children of i, which goes down. -/
def DownInv (xs : List Int) (n i : Nat) : Prop := (∀ k, 0 < k → k < n → (k - 1) / 2 ≠ i → xs.getD ((k - 1) / 2) 0 ≤ xs.getD k 0) ∧ (∀ k, 0 < k → k < n → (k - 1) / 2 = i → 0 < i → xs.getD ((i - 1) / 2) 0 ≤ xs.getD k 0)

theorem getD_snoc (xs : List Int) (x : Int) (i : Nat) (h : i < xs.length) : (xs ++ [x]).getD i 0 = xs.getD i 0 := by simp [List.getElem?_append_left, h]
theorem upInv_snoc (xs : List Int) (x : Int) (h : IsHeap xs) : UpInv (xs ++ [x]) xs.length := by
  refine ⟨fun i h0 h1 hne => ?_, fun i h0 h1 he hj => ?_⟩
  · simp at h1
    rw [getD_snoc _ _ _ (by omega), getD_snoc _ _ _ (by omega)]
    exact h i h0 (by omega)
  · simp at h1
    omega
theorem upInv_zero (xs : List Int) (h : UpInv xs 0) : IsHeap xs := fun i h0 h1 => h.1 i h0 h1 (by omega)
theorem upInv_done (xs : List Int) (j : Nat) (h : UpInv xs j) (hd : ¬ xs.getD j 0 < xs.getD ((j - 1) / 2) 0) : IsHeap xs := fun i h0 h1 => by
  by_cases e : i = j
  · subst e; omega
  · exact h.1 i h0 h1 e
theorem upInv_step (xs : List Int) (j : Nat) (h : UpInv xs j) (h0 : 0 < j) (h1 : j < xs.length) (hl : xs.getD j 0 < xs.getD ((j - 1) / 2) 0) : UpInv (swapL xs ((j - 1) / 2) j) ((j - 1) / 2) := by
  have hp : (j - 1) / 2 < j := by omega
  have G := fun k => swapL_getD xs ((j - 1) / 2) j k (by omega) h1
  refine ⟨fun i i0 i1 hne => ?_, fun i i0 i1 he hj => ?_⟩
  · rw [swapL_length] at i1
    rw [G, G]
    by_cases e : i = j
    · subst e
      rw [if_pos rfl, if_neg (by omega), if_pos rfl]
      omega
    · rw [if_neg e, if_neg hne]
      by_cases e2 : (i - 1) / 2 = j
      · rw [if_pos e2]
        exact h.2 i i0 i1 e2 h0
      · rw [if_neg e2]
        by_cases e3 : (i - 1) / 2 = (j - 1) / 2
        · rw [if_pos e3]
          have := h.1 i i0 i1 e
          rw [e3] at this
          omega
        · rw [if_neg e3]
          exact h.1 i i0 i1 e
  · rw [swapL_length] at i1
    rw [G, G]
    have a1 := h.1 ((j - 1) / 2) hj (by omega) (by omega)
    rw [if_neg (by omega), if_neg (by omega)]
    by_cases e : i = j
    · rw [if_pos e]; exact a1
    · rw [if_neg e, if_neg (by omega)]
      have a2 := h.1 i i0 i1 e
      rw [he] at a2
      omega

theorem heap_min (xs : List Int) (h : IsHeap xs) : ∀ i, i < xs.length → xs.getD 0 0 ≤ xs.getD i 0 := by
  intro i
  induction i using Nat.strongRecOn with
  | _ i ih =>
    intro hi
    rcases Nat.eq_zero_or_pos i with rfl | h0
    · exact Int.le_refl _
    · exact Int.le_trans (ih ((i - 1) / 2) (by omega) (by omega)) (h i h0 hi)
theorem downInv_start (xs : List Int) (n : Nat) (hn : xs.length = n + 1) (h : IsHeap xs) : DownInv (swapL xs 0 n) n 0 := by
  have G := fun k => swapL_getD xs 0 n k (by omega) (by omega)
  refine ⟨fun k k0 k1 hne => ?_, fun k k0 k1 he hj => by omega⟩
  rw [G, G, if_neg (by omega), if_neg (by omega), if_neg (by omega), if_neg (by omega)]
  exact h k k0 (by omega)
/-- The loop's end: no child is less. -/
theorem downInv_done (xs : List Int) (n i : Nat) (h : DownInv xs n i) (hd : ∀ k, 0 < k → k < n → (k - 1) / 2 = i → xs.getD i 0 ≤ xs.getD k 0) : ∀ k, 0 < k → k < n → xs.getD ((k - 1) / 2) 0 ≤ xs.getD k 0 := fun k k0 k1 => by
  by_cases e : (k - 1) / 2 = i
  · rw [e]; exact hd k k0 k1 e
  · exact h.1 k k0 k1 e
theorem downInv_step (xs : List Int) (n i j : Nat) (hn : n ≤ xs.length) (h : DownInv xs n i) (hj0 : 0 < j) (hj : (j - 1) / 2 = i) (hjn : j < n) (hl : xs.getD j 0 < xs.getD i 0)
    (hb : ∀ k, 0 < k → k < n → (k - 1) / 2 = i → xs.getD j 0 ≤ xs.getD k 0) : DownInv (swapL xs i j) n j := by
  have hij : i < j := by omega
  have G := fun k => swapL_getD xs i j k (by omega) (by omega)
  refine ⟨fun k k0 k1 hne => ?_, fun k k0 k1 he hjp => ?_⟩
  · rw [G, G]
    rw [if_neg hne]
    by_cases e : k = j
    · subst e
      rw [if_pos hj, if_pos rfl]
      omega
    · rw [if_neg e]
      by_cases e2 : (k - 1) / 2 = i
      · rw [if_pos e2, if_neg (by omega)]
        exact hb k k0 k1 e2
      · rw [if_neg e2]
        by_cases e3 : k = i
        · rw [if_pos e3]
          subst e3
          exact h.2 j hj0 hjn hj k0
        · rw [if_neg e3]
          exact h.1 k k0 k1 e2
  · rw [G, G, if_neg (by omega), if_pos hj, if_neg (by omega), if_neg (by omega)]
    have := h.1 k k0 k1 (by omega)
    rw [he] at this
    exact this
/-- The first n of a list that are in order make a heap. -/
theorem heap_take (xs : List Int) (n : Nat) (hn : xs.length = n + 1) (h : ∀ k, 0 < k → k < n → xs.getD ((k - 1) / 2) 0 ≤ xs.getD k 0) : IsHeap (xs.take n) := by
  intro i h0 h1
  rw [List.length_take] at h1
  have G : ∀ k, k < n → (xs.take n).getD k 0 = xs.getD k 0 := fun k hk => by simp [hk]
  rw [G _ (by omega), G _ (by omega)]
  exact h i h0 (by omega)
theorem take_last (xs : List Int) (n : Nat) (hn : xs.length = n + 1) : xs = xs.take n ++ [xs.getD n 0] := by
  have e := List.take_succ_eq_append_getElem (l := xs) (i := n) (by omega)
  rw [List.take_of_length_le (by omega)] at e
  have g : xs.getD n 0 = xs[n]'(by omega) := by simp [show n < xs.length by omega]
  rw [g]
  exact e
end Go.Proofs.Ytcoaemjoanbemaa
