/- heap.Push and heap.Pop over the places. -/
import Derived.Test.YtcoaemjoanbemaaAi
namespace Go.Proofs.Ytcoaemjoanbemaa
open Go.RowKit

/-- What Push comes to. -/
def PushPost (o : Nat → Nat) (t b : Nat) (xs : List Int) (x : Int) (w : World) (e : Ending) (w' : World) : Prop :=
  ∃ o' ys, e = .returned (.tuple #[]) ∧ PlacesAt o' w' t b ys ∧ ys.Perm (xs ++ [x]) ∧ IsHeap ys ∧ Ext o o' w w' (fun x => x = t)
/-- What Pop comes to: the least of them. -/
def PopPost (o : Nat → Nat) (t b : Nat) (xs : List Int) (w : World) (e : Ending) (w' : World) : Prop :=
  ∃ ys m, e = .returned (.iface 3 (.int .i64 m)) ∧ PlacesAt o w' t b ys ∧ (ys ++ [m]).Perm xs ∧ (∀ x ∈ xs, m ≤ x) ∧ IsHeap ys ∧ Ext o o w w' (fun x => x = t)

set_option maxRecDepth 100000 in
set_option maxHeartbeats 800000 in
theorem heap_push {o : Nat → Nat} {w : World} {t b : Nat} {xs : List Int} (h : PlacesAt o w t b xs) (hl : xs.length < 100000) (hh : IsHeap xs) (x : Int) :
    Calls Try.prog 49 #[.iface 98 (.pointer (some ⟨b, 0, none⟩)), .iface 3 (.int .i64 x)] w (PushPost o t b xs x w) := by
  have n1 := nil_push 269 ⟨b, 0, none⟩ w
  have m1 := m_push 269 ⟨b, 0, none⟩ w
  go_enter Try.func49, Try.ntmps49
  go_wp2_with fail
  refine (places_push h (by omega) x).mono ?_
  rintro e w1 ⟨o1, rfl, h1, e1⟩
  have hlen : Hid ((xs ++ [x]).length = xs.length + 1) := hide (by simp)
  have h1' := h1
  obtain ⟨v, hb, hs⟩ := h1'
  obtain ⟨a, c, rfl⟩ := hs.value
  have hb1 := hb.heap
  clear hb hs n1 m1
  rw [hlen.out] at hb1
  have hup := hide (heap_up h1 (j := xs.length) (by have := hlen.out; omega) (by have := hlen.out; omega) (upInv_snoc _ _ hh))
  have n2 := nil_len 269 ⟨b, 0, none⟩ w1
  have m2 := m_len 269 hb1
  have hl5 : xs.length < 100000 := hl
  clear h hh hl
  replace h1 := hide h1
  go_wp2_with fail
  go_at_call 50
  refine (places_len _ _ _ _).mono ?_
  rintro e w2 ⟨rfl, rfl⟩
  clear n2 m2 hb1
  go_wp2_with fail
  refine hup.out.mono ?_
  rintro e w2 ⟨ys, rfl, h2, hp, hheap, e2⟩
  go_wp2
  go_end0
  exact ⟨o1, ys, rfl, h2, hp, hheap, e1.trans e2⟩

set_option maxRecDepth 100000 in
set_option maxHeartbeats 800000 in
theorem heap_pop {o : Nat → Nat} {w : World} {t b n : Nat} {xs : List Int} (h : PlacesAt o w t b xs) (hl : xs.length ≤ 100000) (hn : xs.length = n + 1) (hh : IsHeap xs) :
    Calls Try.prog 51 #[.iface 98 (.pointer (some ⟨b, 0, none⟩))] w (PopPost o t b xs w) := by
  have h1' := h
  obtain ⟨v, hb, hs⟩ := h1'
  obtain ⟨g, c, cur, rfl, hg, hog, hcap, _⟩ := place_at hs (i := 0) (by omega)
  have hb1 := hb.heap
  rw [hn] at hb1
  have n1 := nil_len 269 ⟨b, 0, none⟩ w
  have m1 := m_len 269 hb1
  have n2 := nil_swap 269 ⟨b, 0, none⟩ w
  have m2 := m_swap 269 hb1
  have hn5 : n < 100000 := by omega
  clear hl
  go_enter Try.func51, Try.ntmps51
  have hs0 := hide (places_swap hs 0 n (by omega) (by omega))
  have hst := hide fun m => PlacesAt.swap hb hs 0 n m (by omega) (by omega)
  have hmin := hide (heap_min _ hh)
  have hdn := hide (downInv_start _ _ hn hh)
  have hper := hide (swapL_perm xs 0 n (by omega) (by omega))
  have hlast : Hid ((swapL xs 0 n).getD n 0 = xs.getD 0 0) := hide (by rw [swapL_getD _ _ _ _ (by omega) (by omega), if_pos rfl])
  have hsl : Hid ((swapL xs 0 n).length = n + 1) := hide (by rw [swapL_length, hn])
  rw [hn] at hs0
  replace hn := hide hn
  clear h hb hs hg hh hcap hog
  go_wp2_with fail
  refine (places_len _ _ _ _).mono ?_
  rintro e w2 ⟨rfl, rfl⟩
  go_wp2_with fail
  refine hs0.out.mono ?_
  rintro e w2 ⟨rfl, m, rfl⟩
  obtain ⟨s1, s2, s3⟩ := hst.out m
  rw [← swapL_length xs 0 n] at s1 s2
  have P1 : PlacesAt o _ t b (swapL xs 0 n) := ⟨_, s1, s2⟩
  have hdown := hide (heap_down P1 (by have := hsl.out; omega) hsl.out hdn.out)
  clear s1 s2 n1 m1 n2 m2 hb1 hst hs0 P1
  generalize World.drewN _ m = w4 at s3 hdown ⊢
  replace s3 := hide s3
  go_wp2_with fail
  refine hdown.out.mono ?_
  rintro e w5 ⟨ys, bo, rfl, h5, hp5, hh5, hl5, e5⟩
  have hyl : ys.length = n + 1 := by rw [hp5.length_eq]; exact hsl.out
  have hsplit := take_last ys n hyl
  rw [hl5, hlast.out] at hsplit
  have hpop := h5
  rw [hsplit] at hpop
  have hc := hide (places_pop hpop (by rw [List.length_take]; omega))
  have hfin := hide (heap_take ys n hyl hh5)
  have hperm : Hid ((ys.take n ++ [xs.getD 0 0]).Perm xs) := hide (by rw [← hsplit]; exact hp5.trans hper.out)
  have hEE := hide (s3.out.trans e5)
  have n3 := nil_pop 269 ⟨b, 0, none⟩ w5
  have m3 := m_pop 269 ⟨b, 0, none⟩ w5
  clear hpop h5 hp5 hh5 hl5 hsplit hyl e5 s3 hdown
  go_wp2_with fail
  refine hc.out.mono ?_
  rintro e w6 ⟨rfl, h6, e6⟩
  go_wp2
  go_ret
  refine ⟨_, _, rfl, h6, hperm.out, fun x hx => ?_, hfin.out, hEE.out.trans e6⟩
  obtain ⟨i, hi, rfl⟩ := List.getElem_of_mem hx
  have := hmin.out i hi
  simpa [hi] using this
end Go.Proofs.Ytcoaemjoanbemaa
