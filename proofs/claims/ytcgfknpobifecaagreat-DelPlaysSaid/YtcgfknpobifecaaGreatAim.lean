/- container/heap over the places. heap.Push and heap.Pop over the places. -/
import Derived.Test.YtcgfknpobifecaaGreatHplm
import Derived.Deep.DeepCutAuto
import Derived.Deep.CutBlock
namespace Go.Proofs.YtcgfknpobifecaaGreat
open Go.RowKit

set_option maxRecDepth 100000 in
set_option maxHeartbeats 1600000 in
theorem heap_up {o : Nat → Nat} {w : World} {t b : Nat} {xs : List Int} {j : Nat} (h : PlacesAt o w t b xs) (hl : xs.length ≤ 100000) (hj : j < xs.length) (hi : UpInv xs j) :
    Calls Tryz.prog 126 #[.iface 91 (.pointer (some ⟨b, 0, none⟩)), .int .i64 j] w fun e w' => ∃ ys, e = .returned (.tuple #[]) ∧ PlacesAt o w' t b ys ∧ ys.Perm xs ∧ IsHeap ys ∧ Ext o o w w' (fun x => x = t) := by
  go_enter Tryz.func126, Tryz.ntmps126
  go_wp2
  go_loopw [1] (fun j wr => ∃ (k : Nat) (ys : List Int), j = .int .i64 k ∧ k < ys.length ∧ ys.Perm xs ∧ PlacesAt o wr t b ys ∧ UpInv ys k ∧ Ext o o w wr (fun x => x = t)) (fun i _ => (intOf i).toNat)
  case atStart => exact ⟨j, xs, rfl, hj, .refl _, h, hi, .refl _ _ _⟩
  case round =>
    obtain ⟨k, ys, rfl, hk, hp, hP, hu, hE⟩ := hrel
    have hk5 : k ≤ 100000 := by have := hp.length_eq; omega
    clear h hi hj
    obtain ⟨v, hb, hs⟩ := hP
    obtain ⟨g, cap, cur, rfl, hg, hog, hcap, h1, hc⟩ := place_at hs hk
    clear hg h1 hc
    have hb' := hb.heap
    have nl := nil_less 324 ⟨b, 0, none⟩ wr
    have ml := m_less 324 hb'
    by_cases h0 : k = 0
    · subst h0
      go_wp2_with fail
      go_end0
      exact ⟨ys, rfl, ⟨_, hb, hs⟩, hp, upInv_zero _ hu, hE⟩
    · obtain ⟨p, hpk⟩ : ∃ p, p = (k - 1) / 2 := ⟨_, rfl⟩
      have hq : ((k : Int) - 1).tdiv 2 = (p : Int) := by rw [Int.tdiv_eq_ediv_of_nonneg (by omega)]; omega
      have hpl : p < k := by omega
      have hless := hide (places_less hs k p (by omega) (by omega) (by omega) (by omega))
      simp only [Int.toNat_natCast] at hless
      replace hu := hide hu
      replace hpk := hide hpk
      go_wp2_with fail
      refine hless.out.mono ?_
      rintro e w' ⟨rfl, n, rfl⟩
      have hsd := hs.drewN n
      have hbd := hb.drewN n
      have hEd := hide (hE.drewN n)
      have hbd' := hbd.heap
      generalize wr.drewN n = w2 at hsd hbd hEd hbd' ⊢
      clear hless nl ml hb hs hE hb'
      have nl := nil_swap 324 ⟨b, 0, none⟩ w2
      have ml := m_swap 324 hbd'
      have hsw := hide (places_swap hsd p k (by omega) (by omega))
      have hst := hide fun n => PlacesAt.swap hbd hsd p k n (by omega) (by omega)
      cases hlt : decide (ys.getD k 0 < ys.getD p 0)
      · clear hsw
        have hd : ¬ ys.getD k 0 < ys.getD p 0 := by simpa using hlt
        go_wp2_with fail
        go_end0
        exact ⟨ys, rfl, ⟨_, hbd, hsd⟩, hp, upInv_done _ _ hu.out (by rw [← hpk.out]; omega), hEd.out⟩
      · have hd : ys.getD k 0 < ys.getD p 0 := by simpa using hlt
        have hnew := upInv_step _ _ hu.out (by omega) hk (by rw [← hpk.out]; exact hd)
        rw [← hpk.out] at hnew
        replace hnew := hide hnew
        clear hd hlt
        replace hsd := hide hsd
        go_wp2_with fail
        refine hsw.out.mono ?_
        rintro e w' ⟨rfl, n, rfl⟩
        obtain ⟨s1, s2, s3⟩ := hst.out n
        rw [← swapL_length ys p k] at s1
        generalize World.drewN _ n = w3 at s1 s2 s3 ⊢
        go_wp2_with fail
        go_roundw
        case rel => exact ⟨p, swapL ys p k, by go_num, by rw [swapL_length]; omega, (swapL_perm _ _ _ (by omega) hk).trans hp, ⟨_, s1, by rw [swapL_length]; exact s2⟩, hnew.out, hEd.out.trans s3⟩
        case measure => simp [intOf]; omega

/-- What down comes to. -/
def DownPost (o : Nat → Nat) (t b n : Nat) (xs : List Int) (w : World) (e : Ending) (w' : World) : Prop :=
  ∃ ys bo, e = .returned (.bool bo) ∧ PlacesAt o w' t b ys ∧ ys.Perm xs ∧ (∀ k, 0 < k → k < n → ys.getD ((k - 1) / 2) 0 ≤ ys.getD k 0) ∧ ys.getD n 0 = xs.getD n 0 ∧ Ext o o w w' (fun x => x = t)

set_option maxRecDepth 100000 in
set_option maxHeartbeats 1600000 in
theorem heap_down {o : Nat → Nat} {w : World} {t b n : Nat} {xs : List Int} (h : PlacesAt o w t b xs) (hl : xs.length ≤ 100000) (hn : xs.length = n + 1) (hi : DownInv xs n 0) :
    Calls Tryz.prog 147 #[.iface 91 (.pointer (some ⟨b, 0, none⟩)), .int .i64 0, .int .i64 n] w (DownPost o t b n xs w) := by
  go_enter Tryz.func147, Tryz.ntmps147
  go_wp2
  go_loopw [7] (fun j wr => ∃ (k : Nat) (ys : List Int), j = .int .i64 k ∧ k ≤ n ∧ ys.Perm xs ∧ PlacesAt o wr t b ys ∧ DownInv ys n k ∧ ys.getD n 0 = xs.getD n 0 ∧ Ext o o w wr (fun x => x = t)) (fun i _ => n - (intOf i).toNat)
  case atStart => exact ⟨0, xs, rfl, Nat.zero_le _, .refl _, h, hi, rfl, .refl _ _ _⟩
  case round =>
    obtain ⟨k, ys, rfl, hk, hp, hP, hu, hlast, hE⟩ := hrel
    have hyl : Hid (ys.length = n + 1) := hide (by rw [← hn]; exact hp.length_eq)
    have hn5 : n ≤ 100000 := by omega
    clear h hi hl
    replace hn := hide hn
    obtain ⟨v, hb, hs⟩ := hP
    obtain ⟨g, cap, cur, rfl, hg, hog, hcap, h1, hc⟩ := place_at hs (i := 0) (by have := hyl.out; omega)
    clear hg h1 hc
    replace hu := hide hu
    replace hlast := hide hlast
    replace hs := hide hs
    have hb' := hb.heap
    have nl := nil_less 324 ⟨b, 0, none⟩ wr
    have ml := m_less 324 hb'
    by_cases hbrk : n ≤ 2 * k + 1
    · go_wp2_with fail
      go_ret
      exact ⟨ys, _, rfl, ⟨_, hb, hs.out⟩, hp, downInv_done _ _ _ hu.out (fun q q0 q1 q2 => by omega), hlast.out, hE⟩
    · have x1 : Hid (2 * k + 1 < ys.length) := hide (by have := hyl.out; omega)
      have x2 : Hid (2 * k + 2 < n → 2 * k + 2 < ys.length) := hide (by have := hyl.out; omega)
      go_upto_region 6 with fail
      go_cut [33] (fun s wx => s = .bool (decide (2 * k + 2 < n ∧ ys.getD (2 * k + 2) 0 < ys.getD (2 * k + 1) 0)) ∧ ∃ m, wx = wr.drewN m)
      case first =>
        by_cases h2 : 2 * k + 2 < n
        · have hless := places_less hs.out (2 * k + 1 + 1) (2 * k + 1) (by omega) (by have := x2.out h2; omega) (by omega) (by have := x1.out; omega)
          rw [show (2 * (k : Int) + 1 + 1).toNat = 2 * k + 2 by omega, show (2 * (k : Int) + 1).toNat = 2 * k + 1 by omega] at hless
          replace hless := hide hless
          go_wp2_with fail
          refine hless.out.mono ?_
          rintro e w' ⟨rfl, n, rfl⟩
          clear hless
          generalize hle : decide (ys.getD (2 * k + 2) 0 < ys.getD (2 * k + 1) 0) = le
          replace hle := hide hle
          go_wp2_with fail
          go_meet
          case rel => exact ⟨by rw [← hle.out]; simp [h2], _, rfl⟩
        · go_wp2_with fail
          go_meet
          case rel => exact ⟨by rw [decide_eq_false (by omega)], 0, rfl⟩
      case rest =>
        obtain ⟨rfl, m, rfl⟩ := hcut
        generalize hle : decide (2 * k + 2 < n ∧ ys.getD (2 * k + 2) 0 < ys.getD (2 * k + 1) 0) = le
        replace hle := hide hle
        have hsd := hide (hs.out.drewN m)
        have hbd := hide (hb.drewN m)
        have hEd := hide (hE.drewN m)
        have hb1 := hbd.out.heap
        clear nl ml hb hs hE hb'
        generalize wr.drewN m = w2 at hsd hbd hEd hb1 ⊢
        go_upto_if 33 with fail
        go_cut [9] (fun s wx => (∃ c : Nat, s = .int .i64 c ∧ 0 < c ∧ (c - 1) / 2 = k ∧ c < n ∧ ∀ q, 0 < q → q < n → (q - 1) / 2 = k → ys.getD c 0 ≤ ys.getD q 0) ∧ wx = w2)
        case first =>
          cases le
          · have hd := of_decide_eq_false hle.out
            go_wp2_with fail
            go_meet
            case rel =>
              refine ⟨⟨2 * k + 1, by go_num, by omega, by omega, by omega, fun q q0 q1 q2 => ?_⟩, rfl⟩
              have : q = 2 * k + 1 ∨ q = 2 * k + 2 := by omega
              rcases this with rfl | rfl
              · exact Int.le_refl _
              · exact Int.not_lt.1 fun hx => hd ⟨q1, hx⟩
          · have hd := of_decide_eq_true hle.out
            obtain ⟨hd1, hd2⟩ := hd
            replace hd2 := hide hd2
            go_wp2_with fail
            go_meet
            case rel =>
              refine ⟨⟨2 * k + 2, by go_num, by omega, by omega, by omega, fun q q0 q1 q2 => ?_⟩, rfl⟩
              have : q = 2 * k + 1 ∨ q = 2 * k + 2 := by omega
              rcases this with rfl | rfl
              · exact Int.le_of_lt hd2.out
              · exact Int.le_refl _
        case rest =>
          obtain ⟨⟨c, rfl, hc0, hck, hcn, hbest⟩, rfl⟩ := hcut
          have nl := nil_less 324 ⟨b, 0, none⟩ wc
          have ml := m_less 324 hb1
          have hcl : c < ys.length := by have := hyl.out; omega
          have hkl : k < ys.length := by omega
          have hkc : k < c := by omega
          have hless := hide (places_less hsd.out c k (by omega) (by omega) (by omega) (by omega))
          simp only [Int.toNat_natCast] at hless
          replace hbest := hide hbest
          replace hck := hide hck
          clear x1 x2 hle
          go_wp2_with fail
          refine hless.out.mono ?_
          rintro e w' ⟨rfl, m, rfl⟩
          have hs2 := hide (hsd.out.drewN m)
          have hb2 := hide (hbd.out.drewN m)
          have hE2 := hide (hEd.out.drewN m)
          have hb1 := hb2.out.heap
          clear nl ml hless hsd hbd hEd
          generalize wc.drewN m = w3 at hs2 hb2 hE2 hb1 ⊢
          generalize hle : decide (ys.getD c 0 < ys.getD k 0) = le
          replace hle := hide hle
          cases le
          · go_wp2_with fail
            go_ret
            have hd := of_decide_eq_false hle.out
            exact ⟨ys, _, rfl, ⟨_, hb2.out, hs2.out⟩, hp, downInv_done _ _ _ hu.out (fun q q0 q1 q2 => Int.le_trans (Int.not_lt.1 hd) (hbest.out q q0 q1 q2)), hlast.out, hE2.out⟩
          · have nl := nil_swap 324 ⟨b, 0, none⟩ w3
            have ml := m_swap 324 hb1
            have hsw := hide (places_swap hs2.out k c hkl hcl)
            have hst := hide fun n => PlacesAt.swap hb2.out hs2.out k c n hkl hcl
            go_wp2_with fail
            refine hsw.out.mono ?_
            rintro e w' ⟨rfl, m, rfl⟩
            have hd := of_decide_eq_true hle.out
            obtain ⟨s1, s2, s3⟩ := hst.out m
            rw [← swapL_length ys k c] at s1
            clear hsw hst nl ml hs2 hb2 hb1
            generalize World.drewN _ m = w4 at s1 s2 s3 ⊢
            have hnew := downInv_step _ _ _ _ (by have := hyl.out; omega) hu.out hc0 hck.out hcn hd hbest.out
            have hl2 : (swapL ys k c).getD n 0 = xs.getD n 0 := by
              rw [swapL_getD _ _ _ _ hkl hcl, if_neg (by omega), if_neg (by omega)]
              exact hlast.out
            replace hnew := hide hnew
            replace hl2 := hide hl2
            clear hd hle
            go_wp2_with fail
            go_roundw
            case rel => exact ⟨c, swapL ys k c, by go_num, by omega, (swapL_perm _ _ _ hkl hcl).trans hp, ⟨_, s1, by rw [swapL_length]; exact s2⟩, hnew.out, hl2.out, hE2.out.trans s3⟩
            case measure => simp [intOf]; omega
end Go.Proofs.YtcgfknpobifecaaGreat

namespace Go.Proofs.YtcgfknpobifecaaGreat
open Go.RowKit

/-- What Push comes to. -/
def PushPost (o : Nat → Nat) (t b : Nat) (xs : List Int) (x : Int) (w : World) (e : Ending) (w' : World) : Prop :=
  ∃ o' ys, e = .returned (.tuple #[]) ∧ PlacesAt o' w' t b ys ∧ ys.Perm (xs ++ [x]) ∧ IsHeap ys ∧ Ext o o' w w' (fun x => x = t)
/-- What Pop comes to: the least of them. -/
def PopPost (o : Nat → Nat) (t b : Nat) (xs : List Int) (w : World) (e : Ending) (w' : World) : Prop :=
  ∃ ys m, e = .returned (.iface 3 (.int .i64 m)) ∧ PlacesAt o w' t b ys ∧ (ys ++ [m]).Perm xs ∧ (∀ x ∈ xs, m ≤ x) ∧ IsHeap ys ∧ Ext o o w w' (fun x => x = t)

set_option maxRecDepth 100000 in
set_option maxHeartbeats 800000 in
theorem heap_push {o : Nat → Nat} {w : World} {t b : Nat} {xs : List Int} (h : PlacesAt o w t b xs) (hl : xs.length < 100000) (hh : IsHeap xs) (x : Int) :
    Calls Tryz.prog 103 #[.iface 91 (.pointer (some ⟨b, 0, none⟩)), .iface 3 (.int .i64 x)] w (PushPost o t b xs x w) := by
  have n1 := nil_push 324 ⟨b, 0, none⟩ w
  have m1 := m_push 324 ⟨b, 0, none⟩ w
  go_enter Tryz.func103, Tryz.ntmps103
  go_wp2_with fail
  refine (places_push h (by omega) x).mono ?_
  rintro e w1 ⟨o1, rfl, h1, e1⟩
  have hlen : Hid ((xs ++ [x]).length = xs.length + 1) := hide (by simp)
  have h1' := h1
  obtain ⟨v, hb, hs⟩ := h1'
  obtain ⟨a, c, rfl⟩ := hs.value
  have hb1 := hb.heap
  clear hb hs n1 m1
  rw [hlen.out] at hb1
  have hup := hide (heap_up h1 (j := xs.length) (by have := hlen.out; omega) (by have := hlen.out; omega) (upInv_snoc _ _ hh))
  have n2 := nil_len 324 ⟨b, 0, none⟩ w1
  have m2 := m_len 324 hb1
  have hl5 : xs.length < 100000 := hl
  clear h hh hl
  replace h1 := hide h1
  go_wp2_with fail
  go_at_call 42
  refine (places_len _ _ _ _).mono ?_
  rintro e w2 ⟨rfl, rfl⟩
  clear n2 m2 hb1
  go_wp2_with fail
  refine hup.out.mono ?_
  rintro e w2 ⟨ys, rfl, h2, hp, hheap, e2⟩
  go_wp2
  go_end0
  exact ⟨o1, ys, rfl, h2, hp, hheap, e1.trans e2⟩

set_option maxRecDepth 100000 in
set_option maxHeartbeats 800000 in
theorem heap_pop {o : Nat → Nat} {w : World} {t b n : Nat} {xs : List Int} (h : PlacesAt o w t b xs) (hl : xs.length ≤ 100000) (hn : xs.length = n + 1) (hh : IsHeap xs) :
    Calls Tryz.prog 138 #[.iface 91 (.pointer (some ⟨b, 0, none⟩))] w (PopPost o t b xs w) := by
  have h1' := h
  obtain ⟨v, hb, hs⟩ := h1'
  obtain ⟨g, c, cur, rfl, hg, hog, hcap, _⟩ := place_at hs (i := 0) (by omega)
  have hb1 := hb.heap
  rw [hn] at hb1
  have n1 := nil_len 324 ⟨b, 0, none⟩ w
  have m1 := m_len 324 hb1
  have n2 := nil_swap 324 ⟨b, 0, none⟩ w
  have m2 := m_swap 324 hb1
  have hn5 : n < 100000 := by omega
  clear hl
  go_enter Tryz.func138, Tryz.ntmps138
  have hs0 := hide (places_swap hs 0 n (by omega) (by omega))
  have hst := hide fun m => PlacesAt.swap hb hs 0 n m (by omega) (by omega)
  have hmin := hide (heap_min _ hh)
  have hdn := hide (downInv_start _ _ hn hh)
  have hper := hide (swapL_perm xs 0 n (by omega) (by omega))
  have hlast : Hid ((swapL xs 0 n).getD n 0 = xs.getD 0 0) := hide (by rw [swapL_getD _ _ _ _ (by omega) (by omega), if_pos rfl])
  have hsl : Hid ((swapL xs 0 n).length = n + 1) := hide (by rw [swapL_length, hn])
  rw [hn] at hs0
  replace hn := hide hn
  clear h hb hs hg hh hcap hog
  go_wp2_with fail
  refine (places_len _ _ _ _).mono ?_
  rintro e w2 ⟨rfl, rfl⟩
  go_wp2_with fail
  refine hs0.out.mono ?_
  rintro e w2 ⟨rfl, m, rfl⟩
  obtain ⟨s1, s2, s3⟩ := hst.out m
  rw [← swapL_length xs 0 n] at s1 s2
  have P1 : PlacesAt o _ t b (swapL xs 0 n) := ⟨_, s1, s2⟩
  have hdown := hide (heap_down P1 (by have := hsl.out; omega) hsl.out hdn.out)
  clear s1 s2 n1 m1 n2 m2 hb1 hst hs0 P1
  generalize World.drewN _ m = w4 at s3 hdown ⊢
  replace s3 := hide s3
  go_wp2_with fail
  refine hdown.out.mono ?_
  rintro e w5 ⟨ys, bo, rfl, h5, hp5, hh5, hl5, e5⟩
  have hyl : ys.length = n + 1 := by rw [hp5.length_eq]; exact hsl.out
  have hsplit := take_last ys n hyl
  rw [hl5, hlast.out] at hsplit
  have hpop := h5
  rw [hsplit] at hpop
  have hc := hide (places_pop hpop (by rw [List.length_take]; omega))
  have hfin := hide (heap_take ys n hyl hh5)
  have hperm : Hid ((ys.take n ++ [xs.getD 0 0]).Perm xs) := hide (by rw [← hsplit]; exact hp5.trans hper.out)
  have hEE := hide (s3.out.trans e5)
  have n3 := nil_pop 324 ⟨b, 0, none⟩ w5
  have m3 := m_pop 324 ⟨b, 0, none⟩ w5
  clear hpop h5 hp5 hh5 hl5 hsplit hyl e5 s3 hdown
  go_wp2_with fail
  refine hc.out.mono ?_
  rintro e w6 ⟨rfl, h6, e6⟩
  go_wp2
  go_ret
  refine ⟨_, _, rfl, h6, hperm.out, fun x hx => ?_, hfin.out, hEE.out.trans e6⟩
  obtain ⟨i, hi, rfl⟩ := List.getElem_of_mem hx
  have := hmin.out i hi
  simpa [hi] using this
end Go.Proofs.YtcgfknpobifecaaGreat
