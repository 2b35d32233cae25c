/- Plain laws on a binary heap in a list: what up and down keep. No program. The heap of free places (the package arena's type places, and container/heap over it), over a list of numbers. Condition: the pointer leads to such a block. -/
import Derived.Test.YtcgfknpobifecaaGreatProg
import Derived.Test.YtcgfknpobifecaaGreatHp
import Derived.StillTailTactics
import Derived.Deep.RegionLaw
namespace Go.Proofs.YtcgfknpobifecaaGreat

def swapL (xs : List Int) (i j : Nat) : List Int := (xs.set i (xs.getD j 0)).set j (xs.getD i 0)
theorem swapL_length (xs : List Int) (i j : Nat) : (swapL xs i j).length = xs.length := by simp [swapL]
theorem swapL_getD (xs : List Int) (i j k : Nat) (hi : i < xs.length) (hj : j < xs.length) : (swapL xs i j).getD k 0 = if k = j then xs.getD i 0 else if k = i then xs.getD j 0 else xs.getD k 0 := by
  unfold swapL
  by_cases h1 : k = j
  · subst h1
    rw [if_pos rfl, List.getD_eq_getElem?_getD, List.getElem?_set_self (by simpa using hj)]
    rfl
  · rw [if_neg h1, List.getD_eq_getElem?_getD, List.getElem?_set_ne (fun h => h1 h.symm)]
    by_cases h2 : k = i
    · subst h2
      rw [if_pos rfl, List.getElem?_set_self hi]
      rfl
    · rw [if_neg h2, List.getElem?_set_ne (fun h => h2 h.symm), ← List.getD_eq_getElem?_getD]
theorem swapL_perm (xs : List Int) (i j : Nat) (hi : i < xs.length) (hj : j < xs.length) : (swapL xs i j).Perm xs := by
  have h := (Array.swap_perm (xs := xs.toArray) (i := i) (j := j) (by simpa using hi) (by simpa using hj)).toList
  rw [Array.toList_swap] at h
  have e : swapL xs i j = ((xs.toArray.toList.set i (xs.toArray[j]'(by simpa using hj))).set j (xs.toArray[i]'(by simpa using hi))) := by
    simp [swapL, hi, hj]
  rw [e]
  simpa using h

/-- A heap: no number is less than its parent. -/
def IsHeap (xs : List Int) : Prop := ∀ i, 0 < i → i < xs.length → xs.getD ((i - 1) / 2) 0 ≤ xs.getD i 0
/-- .. but at j, which goes up. -/
def UpInv (xs : List Int) (j : Nat) : Prop := (∀ i, 0 < i → i < xs.length → i ≠ j → xs.getD ((i - 1) / 2) 0 ≤ xs.getD i 0) ∧ (∀ i, 0 < i → i < xs.length → (i - 1) / 2 = j → 0 < j → xs.getD ((j - 1) / 2) 0 ≤ xs.getD i 0)
/-- .. among the first n, but for the children of i, which goes down. -/
def DownInv (xs : List Int) (n i : Nat) : Prop := (∀ k, 0 < k → k < n → (k - 1) / 2 ≠ i → xs.getD ((k - 1) / 2) 0 ≤ xs.getD k 0) ∧ (∀ k, 0 < k → k < n → (k - 1) / 2 = i → 0 < i → xs.getD ((i - 1) / 2) 0 ≤ xs.getD k 0)

theorem getD_snoc (xs : List Int) (x : Int) (i : Nat) (h : i < xs.length) : (xs ++ [x]).getD i 0 = xs.getD i 0 := by simp [List.getElem?_append_left, h]
theorem upInv_snoc (xs : List Int) (x : Int) (h : IsHeap xs) : UpInv (xs ++ [x]) xs.length := by
  refine ⟨fun i h0 h1 hne => ?_, fun i h0 h1 he hj => ?_⟩
  · simp at h1
    rw [getD_snoc _ _ _ (by omega), getD_snoc _ _ _ (by omega)]
    exact h i h0 (by omega)
  · simp at h1
    omega
theorem upInv_zero (xs : List Int) (h : UpInv xs 0) : IsHeap xs := fun i h0 h1 => h.1 i h0 h1 (by omega)
theorem upInv_done (xs : List Int) (j : Nat) (h : UpInv xs j) (hd : ¬ xs.getD j 0 < xs.getD ((j - 1) / 2) 0) : IsHeap xs := fun i h0 h1 => by
  by_cases e : i = j
  · subst e; omega
  · exact h.1 i h0 h1 e
theorem upInv_step (xs : List Int) (j : Nat) (h : UpInv xs j) (h0 : 0 < j) (h1 : j < xs.length) (hl : xs.getD j 0 < xs.getD ((j - 1) / 2) 0) : UpInv (swapL xs ((j - 1) / 2) j) ((j - 1) / 2) := by
  have hp : (j - 1) / 2 < j := by omega
  have G := fun k => swapL_getD xs ((j - 1) / 2) j k (by omega) h1
  refine ⟨fun i i0 i1 hne => ?_, fun i i0 i1 he hj => ?_⟩
  · rw [swapL_length] at i1
    rw [G, G]
    by_cases e : i = j
    · subst e
      rw [if_pos rfl, if_neg (by omega), if_pos rfl]
      omega
    · rw [if_neg e, if_neg hne]
      by_cases e2 : (i - 1) / 2 = j
      · rw [if_pos e2]
        exact h.2 i i0 i1 e2 h0
      · rw [if_neg e2]
        by_cases e3 : (i - 1) / 2 = (j - 1) / 2
        · rw [if_pos e3]
          have := h.1 i i0 i1 e
          rw [e3] at this
          omega
        · rw [if_neg e3]
          exact h.1 i i0 i1 e
  · rw [swapL_length] at i1
    rw [G, G]
    have a1 := h.1 ((j - 1) / 2) hj (by omega) (by omega)
    rw [if_neg (by omega), if_neg (by omega)]
    by_cases e : i = j
    · rw [if_pos e]; exact a1
    · rw [if_neg e, if_neg (by omega)]
      have a2 := h.1 i i0 i1 e
      rw [he] at a2
      omega

theorem heap_min (xs : List Int) (h : IsHeap xs) : ∀ i, i < xs.length → xs.getD 0 0 ≤ xs.getD i 0 := by
  intro i
  induction i using Nat.strongRecOn with
  | _ i ih =>
    intro hi
    rcases Nat.eq_zero_or_pos i with rfl | h0
    · exact Int.le_refl _
    · exact Int.le_trans (ih ((i - 1) / 2) (by omega) (by omega)) (h i h0 hi)
theorem downInv_start (xs : List Int) (n : Nat) (hn : xs.length = n + 1) (h : IsHeap xs) : DownInv (swapL xs 0 n) n 0 := by
  have G := fun k => swapL_getD xs 0 n k (by omega) (by omega)
  refine ⟨fun k k0 k1 hne => ?_, fun k k0 k1 he hj => by omega⟩
  rw [G, G, if_neg (by omega), if_neg (by omega), if_neg (by omega), if_neg (by omega)]
  exact h k k0 (by omega)
/-- The loop's end: no child is less. -/
theorem downInv_done (xs : List Int) (n i : Nat) (h : DownInv xs n i) (hd : ∀ k, 0 < k → k < n → (k - 1) / 2 = i → xs.getD i 0 ≤ xs.getD k 0) : ∀ k, 0 < k → k < n → xs.getD ((k - 1) / 2) 0 ≤ xs.getD k 0 := fun k k0 k1 => by
  by_cases e : (k - 1) / 2 = i
  · rw [e]; exact hd k k0 k1 e
  · exact h.1 k k0 k1 e
theorem downInv_step (xs : List Int) (n i j : Nat) (hn : n ≤ xs.length) (h : DownInv xs n i) (hj0 : 0 < j) (hj : (j - 1) / 2 = i) (hjn : j < n) (hl : xs.getD j 0 < xs.getD i 0)
    (hb : ∀ k, 0 < k → k < n → (k - 1) / 2 = i → xs.getD j 0 ≤ xs.getD k 0) : DownInv (swapL xs i j) n j := by
  have hij : i < j := by omega
  have G := fun k => swapL_getD xs i j k (by omega) (by omega)
  refine ⟨fun k k0 k1 hne => ?_, fun k k0 k1 he hjp => ?_⟩
  · rw [G, G]
    rw [if_neg hne]
    by_cases e : k = j
    · subst e
      rw [if_pos hj, if_pos rfl]
      omega
    · rw [if_neg e]
      by_cases e2 : (k - 1) / 2 = i
      · rw [if_pos e2, if_neg (by omega)]
        exact hb k k0 k1 e2
      · rw [if_neg e2]
        by_cases e3 : k = i
        · rw [if_pos e3]
          subst e3
          exact h.2 j hj0 hjn hj k0
        · rw [if_neg e3]
          exact h.1 k k0 k1 e2
  · rw [G, G, if_neg (by omega), if_pos hj, if_neg (by omega), if_neg (by omega)]
    have := h.1 k k0 k1 (by omega)
    rw [he] at this
    exact this
/-- The first n of a list that are in order make a heap. -/
theorem heap_take (xs : List Int) (n : Nat) (hn : xs.length = n + 1) (h : ∀ k, 0 < k → k < n → xs.getD ((k - 1) / 2) 0 ≤ xs.getD k 0) : IsHeap (xs.take n) := by
  intro i h0 h1
  rw [List.length_take] at h1
  have G : ∀ k, k < n → (xs.take n).getD k 0 = xs.getD k 0 := fun k hk => by simp [hk]
  rw [G _ (by omega), G _ (by omega)]
  exact h i h0 (by omega)
theorem take_last (xs : List Int) (n : Nat) (hn : xs.length = n + 1) : xs = xs.take n ++ [xs.getD n 0] := by
  have e := List.take_succ_eq_append_getElem (l := xs) (i := n) (by omega)
  rw [List.take_of_length_le (by omega)] at e
  have g : xs.getD n 0 = xs[n]'(by omega) := by simp [show n < xs.length by omega]
  rw [g]
  exact e
end Go.Proofs.YtcgfknpobifecaaGreat

namespace Go.Proofs.YtcgfknpobifecaaGreat
open Go.RowKit

theorem info_place : (Tryz.prog.info? 3).map (fun i => (i.zero, i.size, i.bytes)) = some (some (.int .i64 0), 1, 8) := by kernel_rfl
/-- append(xs, x), elements of type place. -/
theorem push_place {w : World} {o : Nat → Nat} {tg : Nat} {ops : Array Oper} {rest : List Oper} {op : Oper} {a : Act} {Q : Exit → Act → World → Prop} (hgd : op.guard = none) (s x : Operand)
    (ho : op.op = .call { callee := .builtin .append, args := #[s, x], argTypes := #[145, 145] })
    (v : Value) (n : Nat) (xs : List Value) (hs : a.eval s = v) (hown : SlAt o w tg 3 1 v n xs) (g c : Nat) (news : Array Value) (hx : a.eval x = .slice (some ⟨g, 0, none⟩) 1 c)
    (hg : blk w g = some (.cells news 3 (0, 0))) (hl : news.size = 1) (h1 : ∀ u ∈ news.toList, u.oneCell' = true) (hb : n + 1 ≤ 1073741824)
    (h : ∀ v' w' o', SlAt o' w' tg 3 1 v' (n + 1) (xs ++ news.toList) → Ext o o' w w' (fun x => x = tg) → w.grownBy w' v.ownBlock → v' ≠ .slice none 0 0 → wpList Tryz.prog ops Q rest (a.put op.dst v') w') :
    wpList Tryz.prog ops Q (op :: rest) a w := by
  obtain ⟨i0, hi, hz0, hz1, hz2⟩ := info_parts info_place
  exact wpList_push hgd s x 145 ho 3 i0 (.int .i64 0) 1 8 Tryz.underlying145 hi hz0 hz1 hz2 rfl (by decide) v n xs hs hown g c news hx hg hl h1 (by simp only [maxLen]; omega) (by omega) h
/-- append(xs, ys...), elements of type place. -/
theorem src_place {w : World} {o : Nat → Nat} {tg tg2 : Nat} {ops : Array Oper} {rest : List Oper} {op : Oper} {a : Act} {Q : Exit → Act → World → Prop} (hgd : op.guard = none) (s x : Operand)
    (ho : op.op = .call { callee := .builtin .append, args := #[s, x], argTypes := #[145, 145] })
    (v : Value) (n : Nat) (xs : List Value) (hs : a.eval s = v) (hown : SlAt o w tg 3 1 v n xs) (v2 : Value) (m : Nat) (news : List Value) (hx : a.eval x = v2) (hsrc : SlAt o w tg2 3 1 v2 m news)
    (h1 : ∀ u ∈ news, u.oneCell' = true) (hb : n + m ≤ 1073741824)
    (h : ∀ v' w' o', SlAt o' w' tg 3 1 v' (n + m) (xs ++ news) → Ext o o' w w' (fun x => x = tg) → w.grownBy w' v.ownBlock → (v' = .slice none 0 0 ↔ v = .slice none 0 0 ∧ m = 0) → wpList Tryz.prog ops Q rest (a.put op.dst v') w') :
    wpList Tryz.prog ops Q (op :: rest) a w := by
  obtain ⟨i0, hi, hz0, hz1, hz2⟩ := info_parts info_place
  exact wpList_append_src hgd s x 145 ho 3 i0 (.int .i64 0) 1 8 Tryz.underlying145 hi hz0 hz1 hz2 rfl (by decide) v n xs hs hown v2 m news hx hsrc h1 (by simp only [maxLen]; omega) (by omega) h
/-- append(xs, ys...), elements of type place, ys wherever it lies. -/
theorem many_place {w : World} {o : Nat → Nat} {tg : Nat} {ops : Array Oper} {rest : List Oper} {op : Oper} {a : Act} {Q : Exit → Act → World → Prop} (hgd : op.guard = none) (s x : Operand)
    (ho : op.op = .call { callee := .builtin .append, args := #[s, x], argTypes := #[145, 145] })
    (v : Value) (n : Nat) (xs : List Value) (hs : a.eval s = v) (hown : SlAt o w tg 3 1 v n xs) (ad : Addr) (m c : Nat) (news : List Value) (hx : a.eval x = .slice (some ad) m c) (hl : news.length = m * 1)
    (hnews : ∀ j u, news[j]? = some u → w.cell? (ad.add j) = some u) (h1 : ∀ u ∈ news, u.oneCell' = true) (hb : n + m ≤ 1073741824)
    (h : ∀ v' w' o', SlAt o' w' tg 3 1 v' (n + m) (xs ++ news) → Ext o o' w w' (fun x => x = tg) → w.grownBy w' v.ownBlock → (v' = .slice none 0 0 ↔ v = .slice none 0 0 ∧ m = 0) → wpList Tryz.prog ops Q rest (a.put op.dst v') w') :
    wpList Tryz.prog ops Q (op :: rest) a w := by
  obtain ⟨i0, hi, hz0, hz1, hz2⟩ := info_parts info_place
  exact wpList_append_sl hgd s x 145 ho 3 i0 (.int .i64 0) 1 8 Tryz.underlying145 hi hz0 hz1 hz2 rfl (by decide) v n xs hs hown ad m c news hx hl hnews h1 (by simp only [maxLen]; omega) (by omega) h


/-- append(xs, x), elements of type int, as a step of a region that draws. -/
theorem step_place {w : World} {o : Nat → Nat} {tg : Nat} {ops : Array Oper} {op : Oper} {a : Act} {K : Act → World → Prop} {Q : Exit → Act → World → Prop} {E : Prop} (hgd : op.guard = none) (s x : Operand)
    (ho : op.op = .call { callee := .builtin .append, args := #[s, x], argTypes := #[145, 145] })
    (v : Value) (n : Nat) (xs : List Value) (hs : a.eval s = v) (hown : SlAt o w tg 3 1 v n xs) (g c : Nat) (u : Value) (hx : a.eval x = .slice (some ⟨g, 0, none⟩) 1 c)
    (hg : blk w g = some (.cells #[u] 3 (0, 0))) (h1 : u.oneCell' = true) (hb : n + 1 ≤ 1073741824)
    (h : ∀ v' w' o', SlAt o' w' tg 3 1 v' (n + 1) (xs ++ [u]) → Ext o o' w w' (fun x => x = tg) → w.grownBy w' v.ownBlock → K (a.put op.dst v') w') :
    if Region.wanted op (yielded ops a.tmps) = true then Oper.wp Tryz.prog op a w K Q else E := by
  have hw : Region.wanted op (yielded ops a.tmps) = true := by simp [Region.wanted, hgd]
  rw [if_pos hw]
  obtain ⟨i0, hi, hz0, hz1, hz2⟩ := info_parts info_place
  obtain ⟨v', w', o', hr, h2, h3, h5, h4⟩ := run_append_sl (P := Tryz.prog) 145 op.type 3 i0 (.int .i64 0) 1 8 Tryz.underlying145 hi hz0 hz1 hz2 rfl (by decide) v n xs hown ⟨g, 0, none⟩ 1 c [u] rfl
    (fun j y hj => by
      have hadd : (⟨g, 0, none⟩ : Addr).add j = ⟨g, j, none⟩ := by unfold Addr.add; split <;> simp_all
      rw [hadd]
      have hc : w.heap[g]? = some (.cells #[u] 3 (0, 0)) := hg
      rw [cell_of_row w g j _ _ _ hc]
      simpa using hj) (by simpa using h1) (by simp only [maxLen]; omega) (by omega)
  unfold Oper.wp execOp
  simp only [ho, resolve, invoke, builtin, Sem.run_bind, Sem.run_pure, Result.andThen_ok, List.map_toArray, List.map_cons, List.map_nil, hs, hx, hr]
  exact h v' w' o' h2 h3 h5

def PlacesAt (o : Nat → Nat) (w : World) (t b : Nat) (xs : List Int) : Prop :=
  ∃ v, StAt o w t b #[v] 145 ∧ SlAt o w t 3 1 v xs.length (xs.map (Value.int .i64))
theorem PlacesAt.ext {o o' : Nat → Nat} {w w' : World} {t b : Nat} {xs : List Int} {S : Nat → Prop} (h : PlacesAt o w t b xs) (e : Ext o o' w w' S) (hs : ¬ S t) : PlacesAt o' w' t b xs := by
  obtain ⟨v, h1, h2⟩ := h
  exact ⟨v, h1.ext e hs, h2.ext e hs⟩
theorem PlacesAt.drewN {o : Nat → Nat} {w : World} {t b : Nat} {xs : List Int} (h : PlacesAt o w t b xs) (n : Nat) : PlacesAt o (w.drewN n) t b xs := h.ext ((Ext.refl o w (fun _ => False)).drewN n) id

theorem place_at {o : Nat → Nat} {w : World} {t : Nat} {T : TypeId} {v : Value} {xs : List Int} {k : IntKind} (hs : SlAt o w t T 1 v xs.length (xs.map (Value.int k))) {i : Nat} (hi : i < xs.length) :
    ∃ g cap cur, v = .slice (some ⟨g, 0, none⟩) xs.length cap ∧ blk w g = some (.cells cur T (0, 0)) ∧ o g = t ∧ cap ≤ 9223372036854775807 ∧ xs.length ≤ cap ∧ cur[i]? = some (.int k (xs.getD i 0)) := by
  obtain ⟨g, cap, cur, rfl, hg, hog, h1, h2, h3, h4⟩ := hs.row (by omega)
  exact ⟨g, cap, cur, rfl, hg, hog, by simp only [maxLen] at h2; omega, h1, cur_at h4 (by simp [hi])⟩

/- What the calls through heap.Interface come to. -/
theorem nil_len (n : Nat) (a : Addr) (w : World) : (nilAhead (n + 1) 91 (.pointer (some a)) "Len").run Tryz.prog w = .ok (some false) w := by kernel_rfl
theorem nil_less (n : Nat) (a : Addr) (w : World) : (nilAhead (n + 1) 91 (.pointer (some a)) "Less").run Tryz.prog w = .ok (some false) w := by kernel_rfl
theorem nil_swap (n : Nat) (a : Addr) (w : World) : (nilAhead (n + 1) 91 (.pointer (some a)) "Swap").run Tryz.prog w = .ok (some false) w := by kernel_rfl
theorem nil_push (n : Nat) (a : Addr) (w : World) : (nilAhead (n + 1) 91 (.pointer (some a)) "Push").run Tryz.prog w = .ok (some false) w := by kernel_rfl
theorem nil_pop (n : Nat) (a : Addr) (w : World) : (nilAhead (n + 1) 91 (.pointer (some a)) "Pop").run Tryz.prog w = .ok (some false) w := by kernel_rfl
theorem m_push (n : Nat) (a : Addr) (w : World) : (method (n + 1) 91 (.pointer (some a)) "Push").run Tryz.prog w = .ok (212, .pointer (some a)) w := by kernel_rfl
theorem m_pop (n : Nat) (a : Addr) (w : World) : (method (n + 1) 91 (.pointer (some a)) "Pop").run Tryz.prog w = .ok (211, .pointer (some a)) w := by kernel_rfl
theorem m_len0 (n : Nat) (a : Addr) (w : World) : (method (n + 1) 91 (.pointer (some a)) "Len").run Tryz.prog w = (do let v ← loadVar 145 a; pure (42, v) : Sem (FuncId × Value)).run Tryz.prog w := by kernel_rfl
theorem m_less0 (n : Nat) (a : Addr) (w : World) : (method (n + 1) 91 (.pointer (some a)) "Less").run Tryz.prog w = (do let v ← loadVar 145 a; pure (210, v) : Sem (FuncId × Value)).run Tryz.prog w := by kernel_rfl
theorem m_swap0 (n : Nat) (a : Addr) (w : World) : (method (n + 1) 91 (.pointer (some a)) "Swap").run Tryz.prog w = (do let v ← loadVar 145 a; pure (213, v) : Sem (FuncId × Value)).run Tryz.prog w := by kernel_rfl
section
variable {b n c : Nat} {sa : Option Addr} {w : World}
theorem load_sl (hb : blk w b = some (.cells #[.slice sa n c] 145 (0, 0))) : (loadVar 145 ⟨b, 0, none⟩).run Tryz.prog w = .ok (.slice sa n c) w := by simp [go_sem, hb]
theorem m_len (f : Nat) (hb : blk w b = some (.cells #[.slice sa n c] 145 (0, 0))) : (method (f + 1) 91 (.pointer (some ⟨b, 0, none⟩)) "Len").run Tryz.prog w = .ok (42, .slice sa n c) w := by
  rw [m_len0]; simp [load_sl hb]
theorem m_less (f : Nat) (hb : blk w b = some (.cells #[.slice sa n c] 145 (0, 0))) : (method (f + 1) 91 (.pointer (some ⟨b, 0, none⟩)) "Less").run Tryz.prog w = .ok (210, .slice sa n c) w := by
  rw [m_less0]; simp [load_sl hb]
theorem m_swap (f : Nat) (hb : blk w b = some (.cells #[.slice sa n c] 145 (0, 0))) : (method (f + 1) 91 (.pointer (some ⟨b, 0, none⟩)) "Swap").run Tryz.prog w = .ok (213, .slice sa n c) w := by
  rw [m_swap0]; simp [load_sl hb]
end

set_option maxHeartbeats 400000 in
theorem places_len (sa : Option Addr) (n c : Nat) (w : World) : Calls Tryz.prog 42 #[.slice sa n c] w fun e w' => e = .returned (.int .i64 n) ∧ w = w' := by
  go_enter Tryz.func42, Tryz.ntmps42
  go_wp2
  go_ret
  exact ⟨rfl, rfl⟩

set_option maxHeartbeats 400000 in
theorem places_less {o : Nat → Nat} {w : World} {t : Nat} {v : Value} {xs : List Int} (hs : SlAt o w t 3 1 v xs.length (xs.map (Value.int .i64))) (i j : Int) (i0 : 0 ≤ i) (i1 : i < xs.length) (j0 : 0 ≤ j) (j1 : j < xs.length) :
    Calls Tryz.prog 210 #[v, .int .i64 i, .int .i64 j] w fun e w' => e = .returned (.bool (decide (xs.getD i.toNat 0 < xs.getD j.toNat 0))) ∧ ∃ n, w' = w.drewN n := by
  obtain ⟨g, cap, cur, rfl, hg, _, h2, h1, hc⟩ := place_at hs (i := i.toNat) (by omega)
  obtain ⟨g', cap', cur', hv, hg', _, _, _, hc'⟩ := place_at hs (i := j.toNat) (by omega)
  simp at hv
  obtain ⟨rfl, rfl⟩ := hv
  rw [hg] at hg'
  simp at hg'
  subst hg'
  clear hs
  generalize xs.getD i.toNat 0 = x at *
  generalize xs.getD j.toNat 0 = y at *
  go_enter Tryz.func210, Tryz.ntmps210
  go_wp2_with fail
  go_quiet (fail)
  go_wp2
  go_ret
  exact ⟨rfl, _, rfl⟩

set_option maxHeartbeats 800000 in
theorem places_swap {o : Nat → Nat} {w : World} {t g cap : Nat} {xs : List Int} (hs : SlAt o w t 3 1 (.slice (some ⟨g, 0, none⟩) xs.length cap) xs.length (xs.map (Value.int .i64))) (i j : Nat) (i1 : i < xs.length) (j1 : j < xs.length) :
    Calls Tryz.prog 213 #[.slice (some ⟨g, 0, none⟩) xs.length cap, .int .i64 i, .int .i64 j] w fun e w' => e = .returned (.tuple #[]) ∧ ∃ n, w' = ((w.setCell ⟨g, i, none⟩ (.int .i64 (xs.getD j 0))).setCell ⟨g, j, none⟩ (.int .i64 (xs.getD i 0))).drewN n := by
  obtain ⟨g', cap', cur, hv, hg, _, h2, h1, hc⟩ := place_at hs i1
  simp at hv
  obtain ⟨rfl, rfl⟩ := hv
  obtain ⟨g', cap', cur', hv, hg', _, _, _, hc'⟩ := place_at hs j1
  simp at hv
  obtain ⟨rfl, rfl⟩ := hv
  rw [hg] at hg'
  simp at hg'
  subst hg'
  clear hs
  have hi : i < cur.size := (Array.getElem?_eq_some_iff.1 hc).1
  have hj : j < cur.size := (Array.getElem?_eq_some_iff.1 hc').1
  have h3 : ∃ y, (cur.setIfInBounds i (.int .i64 (xs.getD j 0)))[j]? = some y := ⟨_, Array.getElem?_eq_getElem (by simpa using hj)⟩
  obtain ⟨y, h3⟩ := h3
  clear hi hj
  generalize xs.getD i 0 = x at *
  generalize xs.getD j 0 = z at *
  go_enter Tryz.func213, Tryz.ntmps213
  go_wp2_with fail
  go_region
  all_goals (go_wp2; go_end0; exact ⟨rfl, 1, rfl⟩)

/-- What an exchange leaves. -/
theorem PlacesAt.swap {o : Nat → Nat} {w : World} {t b g cap : Nat} {xs : List Int} (hb : StAt o w t b #[.slice (some ⟨g, 0, none⟩) xs.length cap] 145)
    (hs : SlAt o w t 3 1 (.slice (some ⟨g, 0, none⟩) xs.length cap) xs.length (xs.map (Value.int .i64))) (i j n : Nat) (i1 : i < xs.length) (j1 : j < xs.length) :
    StAt o (((w.setCell ⟨g, i, none⟩ (.int .i64 (xs.getD j 0))).setCell ⟨g, j, none⟩ (.int .i64 (xs.getD i 0))).drewN n) t b #[.slice (some ⟨g, 0, none⟩) xs.length cap] 145 ∧
    SlAt o (((w.setCell ⟨g, i, none⟩ (.int .i64 (xs.getD j 0))).setCell ⟨g, j, none⟩ (.int .i64 (xs.getD i 0))).drewN n) t 3 1 (.slice (some ⟨g, 0, none⟩) xs.length cap) xs.length ((swapL xs i j).map (Value.int .i64)) ∧
    Ext o o w (((w.setCell ⟨g, i, none⟩ (.int .i64 (xs.getD j 0))).setCell ⟨g, j, none⟩ (.int .i64 (xs.getD i 0))).drewN n) (fun x => x = t) := by
  obtain ⟨g', cap', cur, hv, hg, hog, _⟩ := hs.row (by omega)
  simp at hv
  obtain ⟨rfl, rfl⟩ := hv
  have hne := ne_of_type hb.heap hg (by decide)
  refine ⟨((hb.put_far hne).put_far hne).drewN n, ?_, (((Ext.refl o w _).put _ (.inl hog)).put _ (.inl hog)).drewN n⟩
  have h1 := (hs.put1 i i1 (.int .i64 (xs.getD j 0))).put1 j j1 (.int .i64 (xs.getD i 0))
  rw [← List.map_set, ← List.map_set] at h1
  exact h1

theorem assert_int (x : Int) (w : World) : (Instr.typeAssert (.iface 3 (.int .i64 x)) 20 3 false).run Tryz.prog w = .ok (.int .i64 x) w := by kernel_rfl
/-- One element fewer. -/
theorem SlAt.less {o : Nat → Nat} {w : World} {t : Nat} {T : TypeId} {g n cap : Nat} {cs : List Value} {u : Value} (h : SlAt o w t T 1 (.slice (some ⟨g, 0, none⟩) (n + 1) cap) (n + 1) (cs ++ [u])) : SlAt o w t T 1 (.slice (some ⟨g, 0, none⟩) n cap) n cs := by
  obtain ⟨g1, cap1, cur, hv, hg, hog, h1, h2, h3, h4⟩ := h.row (by omega)
  have hl := h.1
  simp at hv hl
  obtain ⟨rfl, rfl⟩ := hv
  refine ⟨by omega, .inr ⟨_, _, cur, rfl, hg, hog, by omega, h2, h3, ?_⟩⟩
  have := congrArg (List.take n) h4
  rw [List.take_take, Nat.min_eq_left (by omega), List.take_left' hl] at this
  rw [Nat.mul_one]
  exact this

theorem PlacesAt.hdr_drew {o : Nat → Nat} {w : World} {t b : Nat} {cs : Array Value} {T : TypeId} (h : StAt o w t b cs T) : StAt o w.drew t b cs T := ⟨h.heap, h.tag⟩
set_option maxRecDepth 100000 in
set_option maxHeartbeats 800000 in
theorem places_push {o : Nat → Nat} {w : World} {t b : Nat} {xs : List Int} (h : PlacesAt o w t b xs) (hl : xs.length ≤ 100000) (x : Int) :
    Calls Tryz.prog 212 #[.pointer (some ⟨b, 0, none⟩), .iface 3 (.int .i64 x)] w fun e w' => ∃ o', e = .returned (.tuple #[]) ∧ PlacesAt o' w' t b (xs ++ [x]) ∧ Ext o o' w w' (fun x => x = t) := by
  obtain ⟨v, hb, hs⟩ := h
  obtain ⟨a, c, rfl⟩ := hs.value
  have hb' := hb.heap
  have hlt := hb.lt
  replace hb := hide hb
  replace hs := hide hs
  have ta := assert_int x w.drew
  go_enter Tryz.func212, Tryz.ntmps212
  go_wp2_with fail
  go_region_law (refine step_place rfl (.tmp 7) (.tmp 10) rfl _ _ _ rfl (hs.out.drew.alloc _) w.heap.size 1 (.int .i64 x) rfl (blk_new _ _) rfl (by omega) ?_; intro v' w' o' h1 h2 h3; have hg := ((PlacesAt.hdr_drew hb.out).alloc _).grown h2 h3 (hs.out.drew.apart (PlacesAt.hdr_drew hb.out).heap (by decide)); obtain ⟨a', c', rfl⟩ := h1.value; have hg1 := hg.heap; replace h1 := hide h1; replace h2 := hide h2; clear h3; replace hg := hide hg)
  all_goals
    go_wp2
    go_end0
    rw [show [Value.int .i64 x] = [x].map (Value.int .i64) from rfl, ← List.map_append] at h1
    refine ⟨o', rfl, ⟨_, hg.out.put 0 (.slice a' (xs.length + 1) c'), ?_⟩, ?_⟩
    · rw [List.length_append]
      exact h1.out.put_far (h1.out.apart hg1 (by decide))
    · exact (((Ext.refl o w _).drew.alloc _).trans h2.out).put _ (.inl hg.out.tag)

set_option maxRecDepth 100000 in
set_option maxHeartbeats 800000 in
theorem places_pop {o : Nat → Nat} {w : World} {t b : Nat} {ys : List Int} {x : Int} (h : PlacesAt o w t b (ys ++ [x])) (hl : ys.length ≤ 100000) :
    Calls Tryz.prog 211 #[.pointer (some ⟨b, 0, none⟩)] w fun e w' => e = .returned (.iface 3 (.int .i64 x)) ∧ PlacesAt o w' t b ys ∧ Ext o o w w' (fun x => x = t) := by
  obtain ⟨v, hb, hs⟩ := h
  have hl1 : (ys ++ [x]).length = ys.length + 1 := by simp
  rw [List.map_append, hl1] at hs
  obtain ⟨g, cap, cur, rfl, hg, hog, h1, h2, h3, h4⟩ := hs.row (by omega)
  have hc : cur[ys.length]? = some (.int .i64 x) := cur_at h4 (by simp)
  have hgoal := hide (hs.less.put_far (i := 0) (u := .slice (some ⟨g, 0, none⟩) ys.length cap) (hs.less.apart hb.heap (by decide)))
  have hput := hide (hb.put 0 (.slice (some ⟨g, 0, none⟩) ys.length cap))
  have hE : Hid (Ext o o w (w.setCell ⟨b, 0, none⟩ (.slice (some ⟨g, 0, none⟩) ys.length cap)) (fun x => x = t)) := hide ((Ext.refl o w _).put _ (.inl hb.tag))
  have hb' := hb.heap
  have hlt := hb.lt
  simp only [maxLen] at h2
  have hcap : cap ≤ 9223372036854775807 := by omega
  clear hs hb h3 h4 hog hl1 h2
  generalize hn : ys.length = n at *
  replace hn := hide hn
  go_enter Tryz.func211, Tryz.ntmps211
  go_wp2
  go_ret
  exact ⟨rfl, ⟨_, hput.out, by rw [hn.out]; exact hgoal.out⟩, hE.out⟩
end Go.Proofs.YtcgfknpobifecaaGreat
