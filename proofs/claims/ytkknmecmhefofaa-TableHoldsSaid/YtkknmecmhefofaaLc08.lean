/- quietuslaw08: TableHolds. No condition. -/
import Derived.Test.YtkknmecmhefofaaLb08
import Derived.Deep.DeepCutAuto
import Derived.Deep.CutBlock
namespace Go.Proofs.Ytkknmecmhefofaa
open Go.RowKit

/-- What the first loop of TableHolds keeps. -/
def Rel08 (b cb lb ab hb : Nat) (w : World) (sum : Int) (k : Nat) (v : Value) (wr : World) : Prop :=
  R [BaseK w, MemK (tab08 b cb lb ab k), HoldK hb (hold0 0 sum), SlK 3 1 v (k + 1) ((sz08.take (k + 1)).map (Value.int .i64))] wr

/-- The objects of TableHolds. -/
abbrev l08 (w : World) (hb wb : Nat) (nx nu : Int) (m : MemS) (s : HoldS) (sv : Value) : List KObj :=
  [BaseK w, MemK m, HoldK hb s, SlK 3 1 sv 5 (sz08.map (Value.int .i64)), StK wb #[.int .i64 nx, .int .i64 nu] 114]
/-- What the second loop of TableHolds keeps. -/
structure Mem08 (b cb lb hb wb : Nat) (w : World) (sum c nx nu : Int) (m : MemS) (s : HoldS) (sv : Value) (wr : World) : Prop where
  r : R (l08 w hb wb nx nu m s sv) wr
  st : St8 sum c nx nu m s
  mb : m.b = b
  mcb : m.cb = cb
  mlb : m.lb = lb
theorem St8.start (b cb lb ab : Nat) (sum : Int) (h0 : 0 ≤ sum) (h1 : sum ≤ 4294967295) : St8 sum 0 1 0 (tab08 b cb lb ab 4) (hold0 0 sum) := by
  refine ⟨HoldOk.start 0 sum (by decide) h0 h1, rfl, rfl, rfl, rfl, by decide, by kernel_rfl, by decide, fun h => by simp [hold0] at h, fun _ => rfl, rfl, fun i hi => ?_, by kernel_rfl, ?_, ?_⟩
  · have : (tab08 b cb lb ab 4).locks = List.replicate 6 (-1) := by kernel_rfl
    rw [this]
    have : (List.replicate 6 (-1 : Int)).getD i 0 = -1 := by
      rcases (by omega : i = 0 ∨ i = 1 ∨ i = 2 ∨ i = 3 ∨ i = 4 ∨ i = 5) with rfl | rfl | rfl | rfl | rfl | rfl <;> rfl
    rw [this]
    show (-1 : Int) = 0 ↔ (2 ≤ 0 ∧ (i : Int) = 0)
    omega
  · have : (tab08 b cb lb ab 4).cells.length = (tab08 0 0 0 0 4).cells.length := by kernel_rfl
    rw [this]; decide
  · kernel_rfl

set_option maxRecDepth 100000 in
set_option maxHeartbeats 4000000 in
theorem law08_holds (sum : Int) (hx0 : 0 ≤ sum) (hx1 : sum ≤ 4294967295) (v : Value) (acts : List Int) (w : World) (hv : FrAt w w.heap.size 1 v (acts.map fun x => [Value.int .u8 x])) (hin : ∀ x ∈ acts, 0 ≤ x ∧ x ≤ 255) (hl : acts.length ≤ 80) :
    Calls Try.prog 9 #[.int .u32 sum, v] w fun e w' => e = .returned (.bool true) ∧ Below w.heap.size w w' := by
  obtain ⟨a, cap, rfl, hlen, _⟩ := id hv
  rw [List.length_map] at *
  replace hv := hide hv
  have hmd := hide (law05_made (R.start w) 1 2 (by decide) (by decide) (by decide) (by decide))
  go_enter Try.func9, Try.ntmps9
  go_wp2_with fail
  refine hmd.out.mono ?_
  rintro e w1 ⟨b, cb, lb, ab, rfl, R1⟩
  have hnw := hide (hold_new R1 0 sum)
  clear hmd R1
  go_wp2_with fail
  refine hnw.out.mono ?_
  rintro e w2 ⟨hb, rfl, R2⟩
  have hsz := R2.made (T := 3) #[.int .i64 1] 1 1 (by unfold maxLen; omega) rfl
  have hR : Rel08 b cb lb ab hb w sum 0 (.slice (some ⟨w2.heap.size, 0, none⟩) 1 1) (w2.alloc (.cells #[.int .i64 1] 3)) := hsz
  clear hnw R2 hsz
  go_wp2_with fail
  go_loopw [7, 8] (fun hv i wr => ∃ k : Nat, k ≤ 4 ∧ i = .int .i64 (k + 1) ∧ Rel08 b cb lb ab hb w sum k hv wr)
    (fun _ i _ => 5 - (intOf i).toNat)
  case atStart => exact ⟨0, by decide, rfl, hR⟩
  case round =>
    obtain ⟨k, hk, rfl, h5⟩ := hrel
    clear hR
    by_cases hlt : k < 4
    ·
      as_aux_lemma =>
      have hsz : (k : Int) + 1 + 1 = ((k + 2 : Nat) : Int) := by omega
      have hb5 := tab08_b b cb lb ab k
      have hl5 := tab08_len b cb lb ab k hk
      have hp : powB (sz08.getD (k + 1) 0) = true := by
        rcases (by omega : k = 0 ∨ k = 1 ∨ k = 2 ∨ k = 3) with rfl | rfl | rfl | rfl <;> decide
      have htb := mem_table h5 (t := 1) rfl (sz08.getD (k + 1) 0) hp (by
        rcases (by omega : k = 0 ∨ k = 1 ∨ k = 2 ∨ k = 3) with rfl | rfl | rfl | rfl <;> simp [sz08] <;> omega)
      rw [hb5.1, hl5.2] at htb
      have hsl : Hid (R _ _) := hide h5
      rcases (by omega : k = 0 ∨ k = 1 ∨ k = 2 ∨ k = 3) with rfl | rfl | rfl | rfl
      all_goals
        replace htb := hide htb
        simp only [sz08, List.getD_cons_succ, List.getD_cons_zero] at htb
        clear h5 hb5 hl5 hp hsl
        go_wp2_with fail
        refine htb.out.mono ?_
        rintro e w6 ⟨rfl, h6⟩
        clear htb
        obtain ⟨o, hr, hs⟩ := h6.get (t := 3) rfl
        obtain ⟨ga, gc, rfl⟩ := SlAt.value hs
        replace hr := hide hr
        clear h6
        go_wp2_with (at_builtin; refine push_int rfl (.tmp 60) (.tmp 62) rfl _ _ _ rfl (hs.alloc _) w6.heap.size 1 _ rfl (blk_new _ _) rfl (by simp; rfl) (by omega) ?_)
        intro v' w7 o1 hs1 he1 _ _
        have h7 : R _ w7 := hr.out.step (t := 3) (q := SlK 3 1 v' _ _) (((Ext.refl o w6 _).alloc _).trans he1) (fun x hx => by omega) hs1
        clear hr hs he1 hs1
      · have h8 : Rel08 b cb lb ab hb w sum 1 v' w7 := h7
        obtain ⟨⟨ga, gc, rfl⟩, _⟩ := h7.slVal (t := 3) rfl
        clear h7
        go_wp2_with fail
        exact ⟨⟨1, by decide, by go_num, h8⟩, by simp [intOf]⟩
      · have h8 : Rel08 b cb lb ab hb w sum 2 v' w7 := h7
        obtain ⟨⟨ga, gc, rfl⟩, _⟩ := h7.slVal (t := 3) rfl
        clear h7
        go_wp2_with fail
        exact ⟨⟨2, by decide, by go_num, h8⟩, by simp [intOf]⟩
      · have h8 : Rel08 b cb lb ab hb w sum 3 v' w7 := h7
        obtain ⟨⟨ga, gc, rfl⟩, _⟩ := h7.slVal (t := 3) rfl
        clear h7
        go_wp2_with fail
        exact ⟨⟨3, by decide, by go_num, h8⟩, by simp [intOf]⟩
      · have h8 : Rel08 b cb lb ab hb w sum 4 v' w7 := h7
        obtain ⟨⟨ga, gc, rfl⟩, _⟩ := h7.slVal (t := 3) rfl
        clear h7
        go_wp2_with fail
        exact ⟨⟨4, by decide, by go_num, h8⟩, by simp [intOf]⟩
    · obtain rfl : k = 4 := by omega
      have h6 := h5.new #[.int .i64 1, .int .i64 0] 114
      have hbs := tab08_b b cb lb ab 4
      have hM : Mem08 b cb lb hb wr.heap.size w sum 0 1 0 (tab08 b cb lb ab 4) (hold0 0 sum) _ _ := ⟨h6, St8.start b cb lb ab sum hx0 hx1, hbs.1, hbs.2.1, hbs.2.2.1⟩
      obtain ⟨⟨ga, gc, rfl⟩, _⟩ := hM.r.slVal (t := 3) rfl
      clear h5 h6 hbs
      go_wp2_with fail
      generalize wr.heap.size = wb at *
      go_loopw [13, 67] (fun cv i wr => ∃ (k : Nat) (c nx : Int) (nu : Nat) (m : MemS) (s : HoldS), k ≤ acts.length ∧ i = .int .i64 k ∧ cv = .int .i64 c ∧ Mem08 b cb lb hb wb w sum c nx nu m s (.slice ga 5 gc) wr)
        (fun _ i _ => acts.length - (intOf i).toNat)
      case atStart => exact ⟨0, _, _, 0, _, _, Nat.zero_le _, rfl, rfl, hM⟩
      case round =>
        obtain ⟨k, c, nx, nu, m, s, hk, rfl, rfl, M⟩ := hrel
        clear hM
        have hbel : Below w.heap.size w wr := M.r.done
        have hst := M.r.st (t := 4) rfl
        have hnu := M.st.hnu
        by_cases hlt : k < acts.length
        · obtain ⟨_, _, hv2, _, hr⟩ := hv.out.below hbel
          obtain ⟨vb, voff, ha, hvb, hc0⟩ := hr k (by simpa using hlt)
          simp at hv2
          obtain ⟨rfl, rfl⟩ := hv2
          subst ha
          have hget : (acts.map fun x => [Value.int .u8 x]).getD k [] = [Value.int .u8 (acts.getD k 0)] := by simp [hlt]
          rw [hget] at hc0
          have hxin := hin (acts.getD k 0) (by simp [hlt])
          generalize acts.getD k 0 = x at *
          obtain ⟨hx2, hx3⟩ := hxin
          obtain ⟨xv, e0, c0⟩ := hc0 0 (by decide)
          simp at e0
          subst e0
          simp only [Nat.mul_one, Nat.add_zero] at c0
          clear hr hget
          obtain ⟨g, cap2, cur, hrv, hg, hcap2, hle2, hcu⟩ := M.r.intRow (t := 3) (i := nu) rfl (by omega)
          simp at hrv
          obtain ⟨rfl, rfl⟩ := hrv
          have hnu5 : (nu : Int) < 5 := by omega
          obtain ⟨L, hL⟩ : ∃ L, lk8 sum nu = L := ⟨_, rfl⟩
          have hlk4 := lk8_is sum nu hx0
          rw [hL] at hlk4
          have hLz : lockOf sum (sz08.getD nu 0) = L := hL
          generalize sz08.getD nu 0 = z at *
          have hlo := ref05_lock sum z hx0 hx1 wr
          rw [hLz] at hlo
          replace hlo := hide hlo
          replace hL := hide hL
          clear hLz
          go_wp2_with fail
          refine hlo.out.mono ?_
          rintro e w3 ⟨rfl, rfl⟩
          clear hlo hst hg hcu
          have hst := M.r.st (t := 4) rfl
          obtain ⟨tv, wv, hmh⟩ := M.r.memHdr (t := 1) rfl
          rw [M.mb, M.mcb, M.mlb] at hmh
          by_cases h40 : x < 40
          ·
            as_aux_lemma =>
            obtain ⟨q, hq⟩ := Int.eq_ofNat_of_zero_le (Int.emod_nonneg x (show (5 : Int) ≠ 0 by decide))
            have htm : x.tmod 5 = (q : Int) := by rw [Int.tmod_eq_emod_of_nonneg hx2]; exact hq
            have hq5 : q < 5 := by omega
            have hst2 := hide (memR_store M.r (t := 1) rfl 1 q (by decide) (by have := M.st.cells; omega) ⟨by omega, by omega⟩)
            rw [M.mcb] at hst2
            have hs2 := M.st.store q (by omega)
            go_wp2_with fail
            refine hst2.out.mono ?_
            rintro e w4 ⟨rfl, h4⟩
            have M4 : Mem08 b cb lb hb wb w sum q nx nu { m with cells := m.cells.set 1 q } s (.slice (some ⟨g, 0, none⟩) 5 gc) w4 := ⟨by rw [← M.mcb] at h4; exact h4, hs2, M.mb, M.mcb, M.mlb⟩
            clear M h4 hst2 hs2 hst hmh
            go_wp2_with fail
            refine ⟨?_, ?measure⟩
            (repeat apply Exists.intro)
            refine ⟨?rel, rfl⟩
            case rel => exact ⟨k + 1, _, _, nu, _, _, by omega, by go_num, rfl, M4⟩
            case measure => simp [intOf]; omega
          · by_cases h80 : x < 80
            ·
              as_aux_lemma =>
              obtain ⟨q, hq⟩ := Int.eq_ofNat_of_zero_le (Int.emod_nonneg x (show (4 : Int) ≠ 0 by decide))
              have htm : x.tmod 4 = (q : Int) := by rw [Int.tmod_eq_emod_of_nonneg hx2]; exact hq
              have hq5 : q < 4 := by omega
              have hti : (1 + (q : Int)).toNat = 1 + q := by omega
              by_cases hx : m.locks.getD (1 + q) 0 = -1
              · have htr := memR_try M.r (t := 1) rfl (1 + q) 1 (by omega) (by omega) (by decide) (by decide) (by rw [hti]; exact hx)
                have hs2 := M.st.try_ (1 + q) (by omega) hx
                rw [M.mlb, hti] at htr
                replace htr := hide htr
                go_wp2_with fail
                refine htr.out.mono ?_
                rintro e w4 ⟨rfl, h4⟩
                have M4 : Mem08 b cb lb hb wb w sum c nx nu { m with locks := m.locks.set (1 + q) 1 } s (.slice (some ⟨g, 0, none⟩) 5 gc) w4 := ⟨by rw [← M.mlb] at h4; exact h4, hs2, M.mb, M.mcb, M.mlb⟩
                clear M h4 htr hs2 hst hmh
                go_wp2_with fail
                refine ⟨?_, ?measure⟩
                (repeat apply Exists.intro)
                refine ⟨?rel, rfl⟩
                case rel => exact ⟨k + 1, _, _, nu, _, _, by omega, by go_num, rfl, M4⟩
                case measure => simp [intOf]; omega
              · have htr := memR_try_held M.r (t := 1) rfl (1 + q) 1 (by omega) (by omega) (by decide) (by rw [hti]; exact hx)
                rw [M.mlb] at htr
                replace htr := hide htr
                go_wp2_with fail
                refine htr.out.mono ?_
                rintro e w4 ⟨rfl, rfl⟩
                clear htr hst hmh
                go_wp2_with fail
                refine ⟨?_, ?measure⟩
                (repeat apply Exists.intro)
                refine ⟨?rel, rfl⟩
                case rel => exact ⟨k + 1, _, _, nu, _, _, by omega, by go_num, rfl, M⟩
                case measure => simp [intOf]; omega
            · by_cases h120 : x < 120
              ·
                as_aux_lemma =>
                obtain ⟨q, hq⟩ := Int.eq_ofNat_of_zero_le (Int.emod_nonneg x (show (4 : Int) ≠ 0 by decide))
                have htm : x.tmod 4 = (q : Int) := by rw [Int.tmod_eq_emod_of_nonneg hx2]; exact hq
                have hq5 : q < 4 := by omega
                have htr := memR_unlockM M.r (t := 1) rfl (1 + q) 1 (by omega) (by omega)
                have hs2 := M.st.unlock (1 + q) (by omega)
                generalize (if m.locks.getD (1 + (q : Int)).toNat 0 = ((1 : Nat) : Int) then (0 : Int) else 7) = cd at htr
                rw [M.mlb] at htr
                replace htr := hide htr
                have hmb : (unlockM m (1 + q) 1).b = b ∧ (unlockM m (1 + q) 1).cb = cb ∧ (unlockM m (1 + q) 1).lb = lb := by unfold unlockM; split <;> exact ⟨M.mb, M.mcb, M.mlb⟩
                go_wp2_with fail
                refine htr.out.mono ?_
                rintro e w4 ⟨rfl, h4⟩
                have M4 : Mem08 b cb lb hb wb w sum c nx nu (unlockM m (1 + q) 1) s (.slice (some ⟨g, 0, none⟩) 5 gc) w4 := ⟨h4, hs2, hmb.1, hmb.2.1, hmb.2.2⟩
                clear M h4 htr hs2 hst hmh hmb
                go_wp2_with fail
                refine ⟨?_, ?measure⟩
                (repeat apply Exists.intro)
                refine ⟨?rel, rfl⟩
                case rel => exact ⟨k + 1, _, _, nu, _, _, by omega, by go_num, rfl, M4⟩
                case measure => simp [intOf]; omega
              · have hho := memR_holder M.r (t := 1) rfl L (by omega) (by omega)
                rw [M.mlb] at hho
                replace hho := hide hho
                go_wp2_with fail
                refine hho.out.mono ?_
                rintro e w4 ⟨rfl, rfl⟩
                obtain ⟨y, hy⟩ : ∃ y, m.locks.getD L.toNat 0 = y := ⟨_, rfl⟩
                have hfr : fr8 sum nu m = decide (y < 0) := by rw [fr8, hL.out, hy]
                have hrd : ∀ n : Nat, Calls Try.prog 68 #[.pointer (some ⟨hb, 0, none⟩), .pointer (some ⟨m.b, 0, none⟩)] (wr.drewN n) fun e w' => e = .returned (.bool (holdReady m s)) ∧ ∃ n, w' = wr.drewN n :=
                  fun n => (hold_readyN (M.r.drewN n) (t := 1) (u := 2) rfl rfl M.st.ok).mono (by rintro e w' ⟨rfl, m9, rfl⟩; exact ⟨rfl, _, World.drewN_drewN _ _ _⟩)
                rw [M.st.ready, hfr, M.mb] at hrd
                replace hrd := hide hrd
                have hnx : nx = 1 ∨ nx = 2 ∨ nx = 3 ∨ nx = 4 := by have := M.st.hnx; have := M.st.ok.phase; omega
                rw [hy]
                clear hho
                by_cases hn2 : nx = 2 ∧ ¬ y < 0
                ·
                  as_aux_lemma =>
                  obtain ⟨rfl, hy0⟩ := hn2
                  have hyf : decide (y < 0) = false := by simpa using hy0
                  rw [hyf] at hrd
                  go_wp2_with fail
                  go_quiet (exact hrd.out _)
                  go_wp2_with fail
                  refine (hrd.out _).mono ?_
                  rintro e w5 ⟨rfl, n5, rfl⟩
                  have M5 : Mem08 b cb lb hb wb w sum c 2 nu m s (.slice (some ⟨g, 0, none⟩) 5 gc) (wr.drewN n5) := ⟨M.r.drewN n5, M.st, M.mb, M.mcb, M.mlb⟩
                  clear M hrd hst hmh
                  go_wp2_with fail
                  refine ⟨?_, ?measure⟩
                  (repeat apply Exists.intro)
                  refine ⟨?rel, rfl⟩
                  case rel => exact ⟨k + 1, _, _, nu, _, _, by omega, by go_num, rfl, M5⟩
                  case measure => simp [intOf]; omega
                · have hfb : nx = 2 → y < 0 := fun h => by omega
                  have hrt : (nx != 2 || decide (y < 0)) = true := by
                    by_cases h2 : nx = 2
                    · simp [hfb h2]
                    · simp [h2]
                  have hrd1 := hrd.out
                  rw [hrt] at hrd1
                  replace hrd := hide hrd1
                  have hy2 : nx = 2 → fr8 sum nu m = true := fun h => by rw [hfr]; simpa using hfb h
                  obtain ⟨fb, hfbb⟩ : ∃ fb, decide (y < 0) = fb := ⟨_, rfl⟩
                  rw [hfbb] at hfr
                  have hff : nx = 2 → fb = true := fun h => by rw [← hfbb]; simpa using hfb h
                  clear hrd1 hrt hn2 hfb
                  replace hfr := hide hfr
                  replace hy2 := hide hy2
                  replace hnx := hide hnx
                  replace hy := hide hy
                  by_cases h2 : nx = 2
                  all_goals
                    first
                      | (obtain rfl := hff h2
                         have hq2 : (nx != 2) = false := by simp [h2]
                         replace h2 := hide h2
                         replace hff := hide hff
                         go_wp2_with fail
                         go_quiet (exact hrd.out _))
                      | (have hq2 : (nx != 2) = true := by simpa using h2
                         replace hff := hide hff
                         replace h2 := hide h2
                         go_wp2_with fail
                         go_quiet (exact hrd.out _))
                  all_goals
                    go_wp2_with fail
                    refine (hrd.out _).mono ?_
                    rintro e w5 ⟨rfl, n5, rfl⟩
                    have M5 := M.r.drewN n5
                    have hst5 := M5.st (t := 4) rfl
                    have hmo := M.r.memOk (t := 1) rfl
                    have hstp := hold_step M5 (t := 1) (u := 2) rfl rfl (by decide) M.st.ok
                    by_cases hd : nx = 3 ∧ c = nu
                    ·
                      as_aux_lemma =>
                      obtain ⟨rfl, rfl⟩ := hd
                      have hp2 : s.phase = 2 := by have := M.st.hnx; omega
                      obtain ⟨hnu1, hnu2, hnu3⟩ := M.st.num (by omega)
                      have e8 : holdStep m s = (m, { s with done := true }, true) := by
                        rw [holdStep, if_neg (by omega), if_neg (by omega), if_pos hp2, if_pos (by rw [M.st.cur, hnu1])]
                      rw [e8, M.mb] at hstp
                      have hstp' : Hid (Calls _ _ _ _ (Does (l08 w hb wb 3 nu m { s with done := true } (.slice (some ⟨g, 0, none⟩) 5 gc)) (.bool true))) := hide hstp
                      clear hst hstp hmh e8 M5
                      go_wp2_with fail
                      refine hstp'.out.mono ?_
                      rintro e w6 ⟨rfl, h6⟩
                      clear hst5 hstp' hrd
                      have hst6 := h6.st (t := 4) rfl
                      have hrf := ref08_step h6 3 nu (by decide) (fr8 sum nu m) nu
                      have hrs : refS 3 nu (fr8 sum nu m) nu = (5, (nu : Int)) := by simp [refS]
                      rw [hrs] at hrf
                      rw [hfr.out] at hrf
                      dsimp only at hrf
                      replace hrf := hide hrf
                      clear h6 hrs
                      go_wp2_with fail
                      refine hrf.out.mono ?_
                      rintro e w7 ⟨rfl, h7⟩
                      clear hst6 hrf
                      have h8 : R (l08 w hb wb 5 nu m { s with done := true } (.slice (some ⟨g, 0, none⟩) 5 gc)) ((w7.setCell ⟨wb, 0, none⟩ (.int .i64 5)).setCell ⟨wb, 1, none⟩ (.int .i64 nu)) := (h7.put (t := 4) rfl 0 (.int .i64 5)).put (t := 4) rfl 1 (.int .i64 nu)
                      have hst7 := h7.st (t := 4) rfl
                      obtain ⟨g7, cap7, cur7, hrv7, hg7, hcap7, hle7, hcu7⟩ := h7.intRow (t := 3) (i := nu) rfl (by omega)
                      simp at hrv7
                      obtain ⟨rfl, rfl⟩ := hrv7
                      have hne7 := ne_of_type hst7 hg7 (by decide)
                      have hne7' := hne7.symm
                      have hLz2 : lockOf sum (sz08.getD nu 0) = L := hL.out
                      generalize sz08.getD nu 0 = z2 at *
                      have hlo2 := fun ww => ref05_lock sum z2 hx0 hx1 ww
                      rw [hLz2] at hlo2
                      replace hlo2 := hide hlo2
                      clear hLz2 h7
                      go_wp2_with fail
                      refine (hlo2.out _).mono ?_
                      rintro e w8 ⟨rfl, rfl⟩
                      obtain ⟨tv8, wv8, hmh8⟩ := h8.memHdr (t := 1) rfl
                      have hst8 := h8.st (t := 4) rfl
                      have hhe := memR_held h8 (t := 1) rfl 0
                      rw [M.mb, M.mcb, M.mlb] at hmh8
                      rw [M.mlb, M.st.heldOne (.inl rfl), hL.out] at hhe
                      clear hst7 hg7 hcu7 hlo2 hne7 hne7'
                      replace hhe := hide hhe
                      clear h8
                      go_wp2_with fail
                      refine hhe.out.mono ?_
                      rintro e w9 ⟨v9, rfl, h9⟩
                      obtain ⟨g9, c9, cur9, rfl, hg9, hcap9, hle9, hcu9⟩ := h9.intRow (t := 5) (i := 0) rfl (by simp)
                      simp only [List.length_singleton, List.getD_cons_zero] at h9 hcu9 hle9 ⊢
                      have hst9 := h9.st (t := 4) rfl
                      have hsl : s.lock = L := hnu3.trans hL.out
                      obtain ⟨D, hD⟩ : ∃ D, tabs08.getD nu (0, 0) = D := ⟨_, rfl⟩
                      have hsd : s.desc = D := hnu2.trans hD
                      have hnow : nowOf m = D := by
                        rw [nowOf, M.st.cur, M.st.tab]
                        exact hD
                      have hdn := M.st.dropNone hp2
                      have hok' : HoldOk { s with done := true } := ⟨M.st.ok.phase, M.st.ok.sum, M.st.ok.lock, M.st.ok.lock1, M.st.ok.worker, M.st.ok.number⟩
                      have hub := unlockM_b m s.lock s.worker
                      rw [M.mb, M.mcb, M.mlb] at hub
                      clear hhe hst8 hmh8
                      obtain ⟨D1, D2⟩ := D
                      replace hD := hide hD
                      replace hsd := hide hsd
                      replace hnow := hide hnow
                      replace hdn := hide hdn
                      replace hsl := hide hsl
                      replace hub := hide hub
                      replace hnu1 := hide hnu1
                      replace hnu2 := hide hnu2
                      replace hnu3 := hide hnu3
                      replace hp2 := hide hp2
                      have hmb := hide M.mb
                      replace M := hide M
                      replace h9 := hide h9
                      go_wp2_with fail
                      refine (law08_awake _).mono ?_
                      rintro e w10 ⟨rfl, hb10⟩
                      have h10 := h9.out.below hb10
                      clear h9 hst9 hg9 hcu9 hb10
                      have hlk := hold_lock h10 (u := 2) rfl
                      rw [show holdLock { s with done := true } = L from hsl.out] at hlk
                      have hde := hold_desc h10 (u := 2) rfl
                      rw [show holdDesc { s with done := true } = (D1, D2) from hsd.out, descV] at hde
                      dsimp only at hde
                      replace hlk := hide hlk
                      replace hde := hide hde
                      clear h10
                      go_wp2_with fail
                      refine hlk.out.mono ?_
                      rintro e w11 ⟨rfl, rfl⟩
                      clear hlk
                      go_wp2_with fail
                      refine hde.out.mono ?_
                      rintro e w11 ⟨rfl, h11⟩
                      have hno := mem_now h11 (t := 1) rfl
                      rw [hnow.out, descV, hmb.out] at hno
                      dsimp only at hno
                      replace hno := hide hno
                      clear hde h11
                      go_wp2_with fail
                      refine hno.out.mono ?_
                      rintro e w12 ⟨rfl, h12⟩
                      have hdr := hold_drop h12 (t := 1) (u := 2) rfl rfl (by decide) hok' rfl
                      rw [hmb.out] at hdr
                      replace hdr := hide hdr
                      clear hno h12
                      go_wp2_with fail
                      refine hdr.out.mono ?_
                      rintro e w13 ⟨rfl, h13⟩
                      obtain ⟨tv3, wv3, hmh3⟩ := h13.memHdr (t := 1) rfl
                      have hhe := memR_held h13 (t := 1) rfl 0
                      rw [hub.out.1, hub.out.2.1, hub.out.2.2] at hmh3
                      rw [hub.out.2.2, hdn.out] at hhe
                      replace hhe := hide hhe
                      clear hdr h13
                      go_wp2_with fail
                      refine hhe.out.mono ?_
                      rintro e w14 ⟨v14, rfl, h14⟩
                      obtain ⟨⟨a14, c14, rfl⟩, _⟩ := h14.slVal (t := 6) rfl
                      have hlk : Hid (Calls _ _ _ _ (fun e w' => e = .returned (.int .i64 (-1)) ∧ w14 = w')) := hide (hold_lock h14 (u := 2) rfl)
                      have hdr := hide (hold_drop_no h14 (u := 2) rfl rfl (.pointer (some ⟨b, 0, none⟩)))
                      have hbel := h14.done
                      simp only [List.length_nil]
                      clear hhe hmh3 h14
                      go_wp2_with fail
                      refine hlk.out.mono ?_
                      rintro e w15 ⟨rfl, rfl⟩
                      clear hlk
                      go_wp2_with fail
                      refine hdr.out.mono ?_
                      rintro e w15 ⟨rfl, rfl⟩
                      clear hdr
                      go_wp2
                      go_ret
                      exact ⟨rfl, hbel⟩
                    ·
                      as_aux_lemma =>
                      obtain ⟨m', s', e8, hs8, hb1, hb2, hb3⟩ := M.st.step hmo hy2.out hd
                      rw [e8, M.mb] at hstp
                      have hstp' : Hid (Calls _ _ _ _ (Does (l08 w hb wb _ nu m' s' (.slice (some ⟨g, 0, none⟩) 5 gc)) (.bool false))) := hide hstp
                      have hbm : m'.b = b ∧ m'.cb = cb ∧ m'.lb = lb := ⟨hb1.trans M.mb, hb2.trans M.mcb, hb3.trans M.mlb⟩
                      clear hst hstp hmh e8 hb1 hb2 hb3 hmo M5
                      go_wp2_with fail
                      refine hstp'.out.mono ?_
                      rintro e w6 ⟨rfl, h6⟩
                      clear hst5 hstp' hrd
                      have hst6 := h6.st (t := 4) rfl
                      have hrf := ref08_step h6 nx nu hnx.out (fr8 sum nu m) c
                      obtain ⟨rs, hrs⟩ : ∃ rs, refS nx nu (fr8 sum nu m) c = rs := ⟨_, rfl⟩
                      rw [hrs] at hs8 hrf
                      rw [hfr.out] at hrf
                      obtain ⟨n1, n2⟩ := rs
                      dsimp only at hs8 hrf
                      clear hrs
                      have hn2 := hs8.hnu
                      have hn1 := hs8.hnx
                      have hph := hs8.ok.phase
                      obtain ⟨q2, rfl⟩ := Int.eq_ofNat_of_zero_le hn2.1
                      replace hrf := hide hrf
                      clear h6
                      go_wp2_with fail
                      refine hrf.out.mono ?_
                      rintro e w7 ⟨rfl, h7⟩
                      clear hst6 hrf
                      have h8 : R (l08 w hb wb n1 q2 m' s' (.slice (some ⟨g, 0, none⟩) 5 gc)) ((w7.setCell ⟨wb, 0, none⟩ (.int .i64 n1)).setCell ⟨wb, 1, none⟩ (.int .i64 q2)) := (h7.put (t := 4) rfl 0 (.int .i64 n1)).put (t := 4) rfl 1 (.int .i64 q2)
                      have hst7 := h7.st (t := 4) rfl
                      obtain ⟨g7, cap7, cur7, hrv7, hg7, hcap7, hle7, hcu7⟩ := h7.intRow (t := 3) (i := q2) rfl (by omega)
                      simp at hrv7
                      obtain ⟨rfl, rfl⟩ := hrv7
                      have hne7 := ne_of_type hst7 hg7 (by decide)
                      have hne7' := hne7.symm
                      obtain ⟨L2, hL2⟩ : ∃ L, lk8 sum q2 = L := ⟨_, rfl⟩
                      have hLz2 : lockOf sum (sz08.getD q2 0) = L2 := hL2
                      generalize sz08.getD q2 0 = z2 at *
                      have hlo2 := fun ww => ref05_lock sum z2 hx0 hx1 ww
                      rw [hLz2] at hlo2
                      replace hlo2 := hide hlo2
                      replace hL2 := hide hL2
                      have hq25 : (q2 : Int) < 5 := by omega
                      clear hLz2 h7
                      replace hph := hide hph
                      replace hn1 := hide hn1
                      go_wp2_with fail
                      refine (hlo2.out _).mono ?_
                      rintro e w8 ⟨rfl, rfl⟩
                      obtain ⟨tv8, wv8, hmh8⟩ := h8.memHdr (t := 1) rfl
                      have hst8 := h8.st (t := 4) rfl
                      have hhe := memR_held h8 (t := 1) rfl 0
                      rw [hbm.1, hbm.2.1, hbm.2.2] at hmh8
                      rw [hbm.2.2] at hhe
                      clear hst7 hg7 hcu7 hlo2 hne7 hne7'
                      by_cases h3 : n1 ≤ 2
                      · rw [hs8.heldNo (by have := hn1.out; omega)] at hhe
                        have hn3 : ¬ 3 ≤ n1 := by omega
                        have hn5 : (n1 == 5) = false := by simp; omega
                        replace hhe := hide hhe
                        clear h8
                        go_wp2_with fail
                        refine hhe.out.mono ?_
                        rintro e w9 ⟨v9, rfl, h9⟩
                        obtain ⟨⟨a9, c9, rfl⟩, _⟩ := h9.slVal (t := 5) rfl
                        simp only [List.length_nil] at h9 ⊢
                        have hst9 := h9.st (t := 4) rfl
                        have hlk := hold_lock h9 (u := 2) rfl
                        have hld : holdLock s' = -1 := by rw [holdLock, hs8.done]; rfl
                        have hde := hold_desc h9 (u := 2) rfl
                        have hdd : holdDesc s' = (0, 0) := by rw [holdDesc, hs8.done]; rfl
                        rw [hld] at hlk
                        rw [hdd, descV] at hde
                        dsimp only at hde
                        replace hlk := hide hlk
                        replace hde := hide hde
                        clear hhe hst8 hmh8 hld hdd
                        go_wp2_with fail
                        refine hlk.out.mono ?_
                        rintro e w10 ⟨rfl, rfl⟩
                        go_wp2_with fail
                        refine hde.out.mono ?_
                        rintro e w10 ⟨rfl, h10⟩
                        have hdr := hide (hold_drop_no h10 (u := 2) rfl hs8.done (.pointer (some ⟨b, 0, none⟩)))
                        have M10 : Mem08 b cb lb hb wb w sum c n1 q2 m' s' (.slice (some ⟨g, 0, none⟩) 5 gc) w10 := ⟨h10.left, hs8, hbm.1, hbm.2.1, hbm.2.2⟩
                        clear hst9 hlk hde h9 h10
                        go_wp2_with fail
                        refine hdr.out.mono ?_
                        rintro e w11 ⟨rfl, rfl⟩
                        clear hdr M
                        go_wp2_with fail
                        refine ⟨?_, ?measure⟩
                        (repeat apply Exists.intro)
                        refine ⟨?rel, rfl⟩
                        case rel => exact ⟨k + 1, _, n1, q2, _, _, by omega, by go_num, rfl, M10⟩
                        case measure => simp [intOf]; omega
                      · rw [hs8.heldOne (by have := hn1.out; have := hph.out; omega), hL2.out] at hhe
                        have hn3 : 3 ≤ n1 := by omega
                        have hn5 : (n1 == 5) = false := by simp; have := hn1.out; have := hph.out; omega
                        replace hhe := hide hhe
                        clear h8
                        go_wp2_with fail
                        refine hhe.out.mono ?_
                        rintro e w9 ⟨v9, rfl, h9⟩
                        obtain ⟨g9, c9, cur9, rfl, hg9, hcap9, hle9, hcu9⟩ := h9.intRow (t := 5) (i := 0) rfl (by simp)
                        simp only [List.length_singleton, List.getD_cons_zero] at h9 hcu9 hle9 ⊢
                        have hst9 := h9.st (t := 4) rfl
                        have hlk := hold_lock h9 (u := 2) rfl
                        have hld : holdLock s' = -1 := by rw [holdLock, hs8.done]; rfl
                        have hde := hold_desc h9 (u := 2) rfl
                        have hdd : holdDesc s' = (0, 0) := by rw [holdDesc, hs8.done]; rfl
                        rw [hld] at hlk
                        rw [hdd, descV] at hde
                        dsimp only at hde
                        replace hlk := hide hlk
                        replace hde := hide hde
                        clear hhe hst8 hmh8 hld hdd
                        go_wp2_with fail
                        refine hlk.out.mono ?_
                        rintro e w10 ⟨rfl, rfl⟩
                        go_wp2_with fail
                        refine hde.out.mono ?_
                        rintro e w10 ⟨rfl, h10⟩
                        have hdr := hide (hold_drop_no h10 (u := 2) rfl hs8.done (.pointer (some ⟨b, 0, none⟩)))
                        have M10 : Mem08 b cb lb hb wb w sum c n1 q2 m' s' (.slice (some ⟨g, 0, none⟩) 5 gc) w10 := ⟨h10.left, hs8, hbm.1, hbm.2.1, hbm.2.2⟩
                        clear hst9 hg9 hcu9 hlk hde h9 h10
                        go_wp2_with fail
                        refine hdr.out.mono ?_
                        rintro e w11 ⟨rfl, rfl⟩
                        clear hdr M
                        go_wp2_with fail
                        refine ⟨?_, ?measure⟩
                        (repeat apply Exists.intro)
                        refine ⟨?rel, rfl⟩
                        case rel => exact ⟨k + 1, _, n1, q2, _, _, by omega, by go_num, rfl, M10⟩
                        case measure => simp [intOf]; omega
        ·
          as_aux_lemma =>
          obtain rfl : k = acts.length := by omega
          have h6 := hide M.r
          clear hst M
          go_wp2_with fail
          refine (law08_awake _).mono ?_
          rintro e w7 ⟨rfl, hb7⟩
          have hbel7 := (h6.out.below hb7).done
          go_wp2
          go_ret
          exact ⟨rfl, hbel7⟩
end Go.Proofs.Ytkknmecmhefofaa
