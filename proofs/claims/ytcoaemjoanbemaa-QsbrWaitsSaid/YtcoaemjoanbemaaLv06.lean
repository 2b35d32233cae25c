/- quietuslaw06: QsbrWaits. No condition. -/
import Derived.Test.YtcoaemjoanbemaaLr06
import Derived.Test.YtcoaemjoanbemaaLa06
namespace Go.Proofs.Ytcoaemjoanbemaa
open Go.RowKit

/-- What the loop of QsbrWaits keeps. -/
def Rel6W (w : World) (n b fa sa ba wa : Nat) (k : Nat) (wr : World) : Prop :=
  ∃ m fb f st gb bg wb ws, m.b = b ∧ QI n k m f st bg ws ∧ Hid (R (lq n w m fa sa ba wa fb f st gb bg (fun _ => true) wb ws) wr)

theorem QI.start (b cb lb ab n : Nat) (h2 : 2 ≤ n) (h7 : n ≤ 7) : QI n 0 (memNew b cb lb ab 1 n) (fun _ => none) (fun _ => 0) (fun _ => none) fun k => ⟨k, 0, 0, 0⟩ := by
  have hcell : ∀ i, (memNew b cb lb ab 1 n).cells.getD (2 + i) 0 = 0 := fun i => by
    show ((1 : Int) :: List.replicate _ 0).getD (2 + i) 0 = 0
    rw [show 2 + i = (1 + i) + 1 by omega, List.getD_cons_succ]
    simp [List.getElem?_replicate]
    split <;> rfl
  refine ⟨rfl, ⟨by omega, by omega⟩, by simp [memNew], rfl, by simp [memNew], fun i _ => by unfold inCell; rw [hcell]; simp [memNew], fun i _ => hcell i, fun _ _ => trivial, fun _ => Nat.le_refl _, ?_, ?_, .inl rfl, fun _ _ => by simp, fun _ _ g hg => by cases hg⟩
  · intro k hk
    exact ⟨⟨by show (0 : Nat) ≤ 3; decide, fun h => by simp at h, fun _ => rfl, ⟨by show (0 : Nat) ≤ 8; decide, by show k ≤ 1000; omega⟩, ⟨Int.le_refl 0, by show (0 : Int) ≤ 18446744073709551615; decide⟩⟩, rfl⟩
  · intro k hk
    show ((0 : Nat) ≠ 0 ↔ (-1 : Int) = k)
    omega

theorem ints_nil (a : Option Addr) (n c : Nat) (W : World) : (binOp .eql 80 (.slice a n c) (.slice none 0 0)).run Try.prog W = .ok (.bool a.isNone) W := by
  cases a <;> kernel_rfl

set_option maxRecDepth 100000 in
set_option maxHeartbeats 12000000 in
theorem law06_waits (x0 : Int) (hx0 : 0 ≤ x0) (hx1 : x0 ≤ 255) (v : Value) (acts : List Int) (w : World) (hv : FrAt w w.heap.size 1 v (acts.map fun x => [Value.int .u8 x])) (hin : ∀ x ∈ acts, 0 ≤ x ∧ x ≤ 255) (hl : acts.length ≤ 120) :
    Calls Try.prog 5 #[.int .u8 x0, v] w fun e w' => e = .returned (.bool true) ∧ Below w.heap.size w w' := by
  obtain ⟨a, cap, rfl, hlen, _⟩ := id hv
  rw [List.length_map] at *
  replace hv := hide hv
  obtain ⟨n, hn⟩ : ∃ n : Nat, x0 % 6 + 2 = n := ⟨(x0 % 6 + 2).toNat, by omega⟩
  have hn1 : 2 ≤ n := by omega
  have hn7 : n ≤ 7 := by omega
  have hmd := hide (law05_made (R.start w) 1 n (by decide) (by decide) (by omega) (by omega))
  obtain ⟨i0, hi, hz0, hz1, hz2⟩ := info_parts frame_info
  have hmk := fun W => run_make (P := Try.prog) W 79 85 i0 .nilIface Try.underlying79 hi hz0 .i64 .i64 (n : Int) (n : Int) (by omega) (Int.le_refl _) (by rw [hz2]; omega) (by omega)
  rw [hz1] at hmk
  clear hi hz0 hz1 hz2
  obtain ⟨i0, hi, hz0, hz1, hz2⟩ := info_parts int_info
  have hmki := fun W => run_make (P := Try.prog) W 80 3 i0 (.int .i64 0) Try.underlying80 hi hz0 .i64 .i64 (n : Int) (n : Int) (by omega) (Int.le_refl _) (by rw [hz2]; omega) (by omega)
  rw [hz1] at hmki
  clear hi hz0 hz1 hz2
  obtain ⟨i0, hi, hz0, hz1, hz2⟩ := info_parts ints_info
  have hmks := fun W => run_make (P := Try.prog) W 81 80 i0 (.slice none 0 0) Try.underlying81 hi hz0 .i64 .i64 2 2 (by omega) (Int.le_refl _) (by rw [hz2]; omega) (by omega)
  rw [hz1] at hmks
  clear hi hz0 hz1 hz2
  go_enter Try.func5, Try.ntmps5
  go_wp2_with fail
  refine hmd.out.mono ?_
  rintro e w1 ⟨b, cb, lb, ab, rfl, R1⟩
  clear hmd
  have R2 := R1.made (T := 85) (madeCells #[Value.nilIface] n) n 1 (by unfold maxLen; omega) (by simp [madeCells])
  have R3 := R2.made (T := 3) (madeCells #[Value.int .i64 0] n) n 1 (by unfold maxLen; omega) (by simp [madeCells])
  have R4 := R3.made (T := 80) (madeCells #[Value.slice none 0 0] 2) 2 1 (by unfold maxLen; omega) (by simp [madeCells])
  have hs0 := hide (qsbr_sync R4 0)
  clear R1 R2 R3 R4
  go_wp2_with fail
  refine hs0.out.mono ?_
  rintro e w2 ⟨b0, rfl, h2⟩
  clear hs0
  have hs1 := hide (qsbr_sync h2 1)
  clear h2
  go_wp2_with fail
  refine hs1.out.mono ?_
  rintro e w3 ⟨b1, rfl, h3⟩
  clear hs1
  have R5 := h3.made (T := 85) #[Value.iface 82 (.pointer (some ⟨b0, 0, none⟩)), Value.iface 82 (.pointer (some ⟨b1, 0, none⟩))] 2 1 (by unfold maxLen; omega) rfl
  have R6 := R5.nos ([NoK, NoK] ++ (List.range n).map fun _ => NoK) (by intro p hp; simp at hp; rcases hp with rfl | ⟨_, rfl⟩ <;> rfl)
  have hM : Rel6W w n b w1.heap.size (w1.heap.size + 1) (w1.heap.size + 2) w3.heap.size 0 (w3.alloc (.cells #[Value.iface 82 (.pointer (some ⟨b0, 0, none⟩)), Value.iface 82 (.pointer (some ⟨b1, 0, none⟩))] 85)) := by
    refine ⟨_, fun _ => 0, _, _, fun _ => 0, _, fun k => if k = 0 then b0 else b1, _, rfl, QI.start b cb lb ab n hn1 hn7, ?_⟩
    have e1 : (madeCells #[Value.nilIface] n).toList = (List.range n).map fun _ => Value.nilIface := by
      have := madeCells_one .nilIface rfl n
      rw [show (Value.nilIface).cells = #[Value.nilIface] from rfl] at this
      rw [this]; symm; rw [List.eq_replicate_iff]; simp
    have e2 : (madeCells #[Value.int .i64 0] n).toList = (natsL n fun _ => 0).map (Value.int .i64) := by
      have := madeCells_one (.int .i64 0) rfl n
      rw [show (Value.int IntKind.i64 0).cells = #[Value.int IntKind.i64 0] from rfl] at this
      rw [this]; simp [natsL]; symm; rw [List.eq_replicate_iff]; simp
    have e3 : (madeCells #[Value.slice none 0 0] 2).toList = [Value.slice none 0 0, Value.slice none 0 0] := by
      have := madeCells_one (.slice none 0 0) rfl 2
      rw [show (Value.slice none 0 0).cells = #[Value.slice none 0 0] from rfl] at this
      rw [this]; rfl
    rw [e1, e2, e3] at R6
    have z1 : ∀ (W : World) (x : Obj), (W.alloc x).heap.size = W.heap.size + 1 := fun W x => by simp
    rw [z1, z1, z1] at R6
    exact hide R6
  clear h3 R5 R6
  go_wp2_with fail
  generalize w3.alloc (.cells #[Value.iface 82 (.pointer (some ⟨b0, 0, none⟩)), Value.iface 82 (.pointer (some ⟨b1, 0, none⟩))] 85) = w4 at *
  generalize w3.heap.size = wa at *
  generalize w1.heap.size = fa at *
  go_loopw [61] (fun i wr => ∃ k : Nat, k ≤ acts.length ∧ i = .int .i64 k ∧ Rel6W w n b fa (fa + 1) (fa + 2) wa k wr) (fun i _ => acts.length - (intOf i).toNat)
  case atStart => exact ⟨0, Nat.zero_le _, rfl, hM⟩
  case round =>
    obtain ⟨k, hk, rfl, m, fb, f, st, gb, bg, wb, ws, rfl, Q, hR⟩ := hrel
    clear hM
    have hbel : Below w.heap.size w wr := hR.out.done
    by_cases hlt : k < acts.length
    · obtain ⟨_, _, hv2, _, hr⟩ := hv.out.below hbel
      obtain ⟨vb, voff, ha, hvb, hc0⟩ := hr k (by simpa using hlt)
      simp at hv2
      obtain ⟨rfl, rfl⟩ := hv2
      subst ha
      have hget : (acts.map fun x => [Value.int .u8 x]).getD k [] = [Value.int .u8 (acts.getD k 0)] := by simp [hlt]
      rw [hget] at hc0
      have hxin := hin (acts.getD k 0) (by simp [hlt])
      generalize acts.getD k 0 = x at *
      obtain ⟨hx2, hx3⟩ := hxin
      obtain ⟨xv, e0, c0⟩ := hc0 0 (by decide)
      simp at e0
      subst e0
      simp only [Nat.mul_one, Nat.add_zero] at c0
      clear hr hget
      have hq0 : 0 ≤ x % ((n : Int) + 2) := Int.emod_nonneg _ (by omega)
      have hq1 : x % ((n : Int) + 2) < n + 2 := Int.emod_lt_of_pos _ (by omega)
      obtain ⟨q, hq⟩ := Int.eq_ofNat_of_zero_le hq0
      have hqn : q < n + 2 := by omega
      have htm : x.tmod ((n : Int) + 2) = (q : Int) := by rw [Int.tmod_eq_emod_of_nonneg hx2]; exact hq
      clear hq0 hq1 hq
      have hk200 : k ≤ 200 := by omega
      by_cases hq2 : q < 2
      · by_cases hx200 : 200 ≤ x
        · go_wp2_with fail
          exact ⟨⟨k + 1, by omega, by go_num, m, fb, f, st, gb, bg, wb, ws, rfl, Q.more, hR⟩, by simp [intOf]; omega⟩
        · obtain ⟨cw, hcw, hcw2⟩ := hR.out.lqWt hq2
          dsimp only [wtV] at hcw2
          have hrd := hide (wait_ready hR.out (t := 1) (u := 5 + q) rfl (lq_wait hq2) (Q.ok q hq2).1)
          have n1 := (wait_frame (wb q)).nr 269 wr
          have m1 := (wait_frame (wb q)).mr 269 wr
          have c1 := (wait_frame (wb q)).cr #[.pointer (some ⟨wb q, 0, none⟩), .pointer (some ⟨m.b, 0, none⟩)] wr
          cases hrdy : waitReady m (ws q)
          · rw [hrdy] at hrd
            go_wp2_with fail
            refine hrd.out.mono ?_
            rintro e w5 ⟨rfl, h5⟩
            replace h5 := hide h5
            go_wp2_with fail
            exact ⟨⟨k + 1, by omega, by go_num, m, fb, f, st, gb, bg, wb, ws, rfl, Q.more, h5⟩, by simp [intOf]; omega⟩
          · rw [hrdy] at hrd
            go_wp2_with fail
            refine hrd.out.mono ?_
            rintro e w5 ⟨rfl, h5⟩
            obtain ⟨cb2, hcb, hcb2⟩ := h5.lqBv hq2
            replace h5 := hide h5
            clear hrd n1 m1 c1 hcw hcw2 hR hbel
            have hnil := fun a n c => ints_nil a n c w5
            go_upto_region 18 with fail
            go_cut [96] (fun s wx => s = .bool (bg q).isNone ∧ wx = w5)
            case first =>
              cases hb : bg q
              · rw [hb] at hcb2
                dsimp only [bgV] at hcb2
                go_wp2_with fail
                go_meet
                case rel => exact ⟨by rw [hb]; rfl, rfl⟩
              · rw [hb] at hcb2
                dsimp only [bgV] at hcb2
                go_wp2_with fail
                go_meet
                case rel => exact ⟨by rw [hb]; rfl, rfl⟩
            case rest =>
              obtain ⟨rfl, hw⟩ := hcut
              replace hw := hw.symm
              subst hw
              clear hcb hcb2
              go_upto_if 96 with fail
              go_cut [13] (fun s wx => s = .int .i64 q ∧ ∃ gb2 g, (bg q = some g ∨ bg q = none ∧ g = snap m st) ∧ Hid (R (lq n w m fa (fa + 1) (fa + 1 + 1) wa fb f st gb2 (fup bg q (some g)) (fun _ => true) wb ws) wx))
              case first =>
                cases hb : bg q with
                | some g =>
                  go_wp2_with fail
                  go_meet
                  case rel =>
                    refine ⟨rfl, gb, g, .inl hb, ?_⟩
                    rw [show fup bg q (some g) = bg by rw [← hb]; funext j; unfold fup; split <;> simp_all]
                    exact h5
                | none =>
                  have hA0 := h5.out.putRow (t := 4) (g := fa + 1 + 1) (cap := 2) rfl q (.slice (some ⟨w5.heap.size, 0, none⟩) n n) (by decide)
                  have hA := hA0.made (T := 3) (madeCells #[Value.int .i64 0] n) n 1 (by unfold maxLen; omega) (by simp [madeCells])
                  have hmc := madeCells_one (.int .i64 0) rfl n
                  rw [show (Value.int IntKind.i64 0).cells = #[Value.int IntKind.i64 0] from rfl] at hmc
                  have hsz : (w5.setCell ⟨fa + 1 + 1, q, none⟩ (.slice (some ⟨w5.heap.size, 0, none⟩) n n)).heap.size = w5.heap.size := by simp
                  rw [hsz, hmc, show List.replicate n (Value.int .i64 0) = (natsL n fun i => if i < 0 then snap m st i else 0).map (Value.int .i64) by
                    simp [natsL]; symm; rw [List.eq_replicate_iff]; simp] at hA
                  have hC := hA.moveSl (u := 8 + q) (by rw [List.length_set, lq_len]; omega)
                  rw [show (SlK 3 1 (.slice (some ⟨w5.heap.size, 0, none⟩) n n) n ((natsL n fun i => if i < 0 then snap m st i else 0).map (Value.int .i64))) = bgO w5.heap.size n (some fun i => if i < 0 then snap m st i else 0) from rfl,
                    show Value.slice (some ⟨w5.heap.size, 0, none⟩) n n = bgV w5.heap.size n (some fun i => if i < 0 then snap m st i else 0) from rfl, List.set_comm _ _ (by omega), lq_newBg hq2] at hC
                  obtain ⟨cb2, hcb, hcb2⟩ := h5.out.lqBv hq2
                  have hbl := lt_of_blk hcb
                  replace hC := hide hC
                  clear hA hA0 hmc hsz
                  go_wp2_with fail
                  generalize w5.heap.size = g0 at *
                  rw [show bgV g0 n (some fun i => if i < 0 then snap m st i else 0) = .slice (some ⟨g0, 0, none⟩) n n from rfl] at hC
                  generalize (w5.setCell { block := fa + 1 + 1, off := q } (Value.slice (some { block := g0, off := 0 }) n n)).alloc (Obj.cells (madeCells #[Value.int IntKind.i64 0] n) 3) = w6 at *
                  clear hcb hcb2 hbl
                  go_loopw [103] (fun i wr => ∃ j : Nat, j ≤ n ∧ i = .int .i64 j ∧ Hid (R (lq n w m fa (fa + 1) (fa + 1 + 1) wa fb f st (fup gb q g0) (fup bg q (some fun i => if i < j then snap m st i else 0)) (fun _ => true) wb ws) wr)) (fun i _ => n - (intOf i).toNat)
                  case atStart => exact ⟨0, Nat.zero_le _, rfl, hC⟩
                  case round =>
                    obtain ⟨j, hj, rfl, h6⟩ := hrel
                    clear hC
                    by_cases hjn : j < n
                    · have hcall := hide (qsbr_in h6.out (t := 1) rfl j (by rw [Q.wk]; exact hjn))
                      have hcurr : ∀ i, i < j → (if i < j then snap m st i else 0) = snap m st i := fun i hi => if_pos hi
                      by_cases hinj : inCell m j ≠ 0
                      · rw [show decide (inCell m j ≠ 0) = true by simpa using hinj] at hcall
                        go_wp2_with fail
                        refine hcall.out.mono ?_
                        rintro e w7 ⟨rfl, h7⟩
                        obtain ⟨cs, hcs, hcs2⟩ := h7.lqSt hjn
                        obtain ⟨cv, hcv, hcv2⟩ := h7.lqBv hq2
                        obtain ⟨cg, hcg, hcg2⟩ := h7.lqBg hq2 hjn (fup_same _ _ _)
                        have hp := h7.putInt (t := 8 + q) (g := fup gb q g0 q) (cap := n) (n := n) (xs := natsL n fun i => if i < j then snap m st i else 0) (T := 3) (q := .i64) (by rw [lq_bg hq2, fup_same, fup_same]; rfl) j (st j) (by omega)
                        rw [natsL_set, show SlK 3 1 (.slice (some ⟨fup gb q g0 q, 0, none⟩) n n) n ((natsL n (fup (fun i => if i < j then snap m st i else 0) j (st j))).map (Value.int .i64)) = bgO (fup gb q g0 q) n (some (fup (fun i => if i < j then snap m st i else 0) j (st j))) from rfl,
                          lq_setBg hq2 _ _ (fup_same _ _ _), fup_twice, lq_bgCongr hq2 (b := fun i => if i < j + 1 then snap m st i else 0) (fun i _ => by
                            unfold fup
                            by_cases hij : i = j
                            · subst hij; rw [if_pos rfl, if_pos (by omega)]; unfold snap; rw [if_pos hinj]
                            · rw [if_neg hij]
                              dsimp only
                              by_cases hlt2 : i < j
                              · rw [if_pos hlt2, if_pos (by omega)]
                              · rw [if_neg hlt2, if_neg (by omega)])] at hp
                        rw [fup_same] at hcv2 hcg hp
                        rw [fup_same] at hcv2
                        dsimp only [bgV] at hcv2
                        have hne := ne_of_type hcv hcs (by decide)
                        replace hp := hide hp
                        clear h7 h6 hcall hcurr
                        go_wp2_with fail
                        go_region_with (fail)
                        all_goals
                          go_wp2_with fail
                          refine ⟨?_, by simp [intOf]; omega⟩
                          (repeat apply Exists.intro)
                          exact ⟨⟨j + 1, by omega, by go_num, hide hp.out.drew⟩, rfl⟩
                      · rw [show decide (inCell m j ≠ 0) = false by simpa using hinj] at hcall
                        go_wp2_with fail
                        refine hcall.out.mono ?_
                        rintro e w7 ⟨rfl, h7⟩
                        rw [lq_bgCongr hq2 (b := fun i => if i < j + 1 then snap m st i else 0) (fun i _ => by
                          by_cases hij : i = j
                          · subst hij; rw [if_neg (by omega), if_pos (by omega)]; unfold snap; rw [if_neg hinj]
                          · by_cases hlt2 : i < j
                            · rw [if_pos hlt2, if_pos (by omega)]
                            · rw [if_neg hlt2, if_neg (by omega)])] at h7
                        replace h7 := hide h7
                        clear h6 hcall hcurr
                        go_wp2_with fail
                        refine ⟨?_, by simp [intOf]; omega⟩
                        (repeat apply Exists.intro)
                        exact ⟨⟨j + 1, by omega, by go_num, h7⟩, rfl⟩
                    · have h8 := h6.out
                      rw [lq_bgCongr hq2 (b := snap m st) (fun i hi => if_pos (by omega))] at h8
                      replace h8 := hide h8
                      clear h6
                      go_wp2_with fail
                      go_meet
                      case rel => exact ⟨rfl, _, _, .inr ⟨hb, rfl⟩, h8⟩
              case rest =>
                as_aux_lemma =>
                obtain ⟨rfl, gb2, g, hg, h6⟩ := hcut
                have hQ := Q.wait hq2 hk200 hrdy g hg
                have hmb : (waitStep m (ws q)).1.b = m.b := waitK.blk m (ws q)
                obtain ⟨cw, hcw, hcw2⟩ := h6.out.lqWt hq2
                dsimp only [wtV] at hcw2
                have hst := wait_step h6.out (t := 1) (u := 5 + q) rfl (lq_wait hq2) (by omega) (Q.ok q hq2).1
                rw [lq_setM, lq_setWait hq2] at hst
                replace hst := hide hst
                have n2 := (wait_frame (wb q)).ns 269 wc
                have m2 := (wait_frame (wb q)).ms 269 wc
                have c2 := (wait_frame (wb q)).cs #[.pointer (some ⟨wb q, 0, none⟩), .pointer (some ⟨m.b, 0, none⟩)] wc
                clear h5
                rcases hQ with ⟨hd, Q2⟩ | ⟨hd, hno, Q2⟩
                · rw [hd] at hst
                  go_wp2_with fail
                  refine hst.out.mono ?_
                  rintro e w7 ⟨rfl, h7⟩
                  replace h7 := hide h7
                  clear hst n2 m2 c2 hcw hcw2 h6
                  go_wp2_with fail
                  exact ⟨⟨k + 1, by omega, by go_num, _, _, _, _, _, _, _, _, hmb, Q2, h7⟩, by simp [intOf]; omega⟩
                · rw [hd] at hst
                  go_wp2_with fail
                  refine hst.out.mono ?_
                  rintro e w7 ⟨rfl, h7⟩
                  clear hst n2 m2 c2 hcw hcw2 h6
                  generalize (waitStep m (ws q)).1 = m2 at *
                  generalize (waitStep m (ws q)).2.1 = s2 at *
                  replace h7 := hide h7
                  go_wp2_with fail
                  go_loopw [127] (fun i wr => ∃ j : Nat, j ≤ n ∧ i = .int .i64 j ∧ Hid (R (lq n w m2 fa (fa + 1) (fa + 1 + 1) wa fb f st gb2 (fup bg q (some g)) (fun _ => true) wb (fup ws q s2)) wr)) (fun i _ => n - (intOf i).toNat)
                  case atStart => exact ⟨0, Nat.zero_le _, rfl, h7⟩
                  case round =>
                    obtain ⟨j, hj, rfl, h8⟩ := hrel
                    clear h7
                    by_cases hjn : j < n
                    · skip
                      as_aux_lemma =>
                      have hcall := qsbr_inD h8.out (t := 1) rfl j (by rw [Q2.wk]; exact hjn)
                      rw [hmb] at hcall
                      replace hcall := hide hcall
                      obtain ⟨cs, hcs, hcs2⟩ := h8.out.lqSt hjn
                      obtain ⟨cv, hcv, hcv2⟩ := h8.out.lqBv hq2
                      obtain ⟨cg, hcg, hcg2⟩ := h8.out.lqBg hq2 hjn (fup_same _ _ _)
                      rw [fup_same] at hcv2
                      dsimp only [bgV] at hcv2
                      have hnj := hno j hjn
                      unfold Since at hnj
                      have h9 := hide fun d => h8.out.drewN d
                      clear h8
                      by_cases hinj : inCell m2 j ≠ 0
                      · rw [show decide (inCell m2 j ≠ 0) = true by simpa using hinj] at hcall
                        by_cases hgs : g j = st j
                        · have hs0 : st j = 0 := by
                            apply Classical.byContradiction
                            intro hc
                            exact hnj ⟨hinj, hgs, by omega⟩
                          rw [hs0] at hcs2
                          rw [hgs, hs0] at hcg2
                          clear hnj
                          go_wp2_with fail
                          go_quiet (exact hcall.out _)
                          go_wp2_with fail
                          exact ⟨⟨j + 1, by omega, by go_num, hide (h9.out _)⟩, by simp [intOf]; omega⟩
                        · have hgs2 : ((g j : Int) == (st j : Int)) = false := by simp; omega
                          clear hnj
                          generalize g j = gj at *
                          generalize st j = sj at *
                          go_wp2_with fail
                          go_quiet (exact hcall.out _)
                          go_wp2_with fail
                          exact ⟨⟨j + 1, by omega, by go_num, hide (h9.out _)⟩, by simp [intOf]; omega⟩
                      · rw [show decide (inCell m2 j ≠ 0) = false by simpa using hinj] at hcall
                        clear hnj
                        go_wp2_with fail
                        go_quiet (exact hcall.out _)
                        go_wp2_with fail
                        exact ⟨⟨j + 1, by omega, by go_num, hide (h9.out _)⟩, by simp [intOf]; omega⟩
                    · have hsy := hide (qsbr_sync h8.out q)
                      go_wp2_with fail
                      refine hsy.out.mono ?_
                      rintro e w9 ⟨b9, rfl, h9⟩
                      obtain ⟨cw, hcw, hcw2⟩ := h9.left.lqWt hq2
                      obtain ⟨cv, hcv, hcv2⟩ := h9.left.lqBv hq2
                      have hne := ne_of_type hcw hcv (by decide)
                      have hne2 := hne.symm
                      have hB := R.lqNewWait hq2 rfl h9
                      rw [fup_twice, fup_twice] at hB
                      replace hB := hide hB
                      clear h9 h8 hsy
                      go_upto_region 34 with fail
                      clear hcw hcw2 hcv hcv2 hne hne2
                      generalize (w9.setCell ⟨wa, q, none⟩ (Value.iface 82 (.pointer (some ⟨b9, 0, none⟩)))).setCell ⟨fa + 1 + 1, q, none⟩ (Value.slice none 0 0) = w10 at *
                      obtain ⟨cw3, hcw3, hcw4⟩ := hB.out.lqWt hq2
                      rw [fup_same] at hcw4
                      dsimp only [wtV] at hcw4
                      go_wp2_with fail
                      exact ⟨⟨k + 1, by omega, by go_num, m2, _, _, _, _, _, _, _, hmb, Q2, hB⟩, by simp [intOf]; omega⟩
      · by_cases hq4 : q < 4
        · go_wp2_with fail
          exact ⟨⟨k + 1, by omega, by go_num, m, fb, f, st, gb, bg, wb, ws, rfl, Q.more, hR⟩, by simp [intOf]; omega⟩
        · obtain ⟨i, rfl⟩ : ∃ i, q = i + 2 := ⟨q - 2, by omega⟩
          have hin2 : i < n := by omega
          obtain ⟨cf, hcf, hcf2⟩ := hR.out.lqFr hin2
          have hwk := Q.wk
          clear hbel
          go_upto_region 38 with fail
          clear c0
          go_cut [177] (fun s wx => s = .bool (f i).isNone ∧ wx = wr)
          case first =>
            as_aux_lemma =>
            cases hf : f i with
            | none =>
              rw [hf] at hcf2
              dsimp only [frV] at hcf2
              go_wp2_with fail
              go_meet
              case rel => exact ⟨by rw [hf]; rfl, rfl⟩
            | some y =>
              rw [hf] at hcf2
              cases y
              all_goals
                dsimp only [frV] at hcf2
                go_wp2_with fail
                go_meet
                case rel => exact ⟨by rw [hf]; rfl, rfl⟩
          case rest =>
            obtain ⟨rfl, hw⟩ := hcut
            replace hw := hw.symm
            subst hw
            clear hcf hcf2
            go_upto_if 177 with fail
            go_cut [16] (fun s wx => s = .int .i64 i ∧ ∃ fb f y, f i = some y ∧ QI n k m f st bg ws ∧ Hid (R (lq n w m fa (fa + 1) (fa + 1 + 1) wa fb f st gb bg (fun _ => true) wb ws) wx))
            case first =>
              as_aux_lemma =>
              cases hf : f i with
              | some y =>
                go_wp2_with fail
                go_meet
                case rel => exact ⟨rfl, fb, f, y, hf, Q, hR⟩
              | none =>
                have hen := hide (qsbr_enter hR.out i)
                clear hR
                go_wp2_with fail
                refine hen.out.mono ?_
                rintro e w5 ⟨b5, rfl, h5⟩
                obtain ⟨cf, hcf, hcf2⟩ := h5.left.lqFr hin2
                have hA := R.lqNewFr (.come false 0) hin2 rfl h5
                dsimp only [frV] at hA
                have hcall := hide (qsbr_in hA (t := 1) rfl i (by rw [hwk]; exact hin2))
                clear hen h5 hA
                go_upto_region 40 with fail
                clear hcf hcf2
                generalize w5.setCell ⟨fa, i, none⟩ (Value.iface 88 (.pointer (some ⟨b5, 0, none⟩))) = w6 at *
                by_cases hinj : inCell m i ≠ 0
                · rw [show decide (inCell m i ≠ 0) = true by simpa using hinj] at hcall
                  go_wp2_with fail
                  refine hcall.out.mono ?_
                  rintro e w7 ⟨rfl, h7⟩
                  have hlv := hide (qsbr_leave h7 i)
                  clear hcall h7
                  go_wp2_with fail
                  refine hlv.out.mono ?_
                  rintro e w8 ⟨b8, rfl, h8⟩
                  obtain ⟨cf, hcf, hcf2⟩ := h8.left.lqFr hin2
                  have hA := R.lqNewFr .gone hin2 rfl h8
                  dsimp only [frV] at hA
                  rw [fup_twice, fup_twice] at hA
                  replace hA := hide hA
                  clear hlv h8
                  go_wp2_with fail
                  go_meet
                  case rel => exact ⟨rfl, _, _, .gone, fup_same _ _ _, Q.frame _ hinj, hA⟩
                · have h0 : inCell m i = 0 := by simpa using hinj
                  rw [show decide (inCell m i ≠ 0) = false by simpa using hinj] at hcall
                  go_wp2_with fail
                  refine hcall.out.mono ?_
                  rintro e w7 ⟨rfl, h7⟩
                  replace h7 := hide h7
                  clear hcall
                  go_wp2_with fail
                  go_meet
                  case rel => exact ⟨rfl, _, _, .come false 0, fup_same _ _ _, Q.frame _ ⟨h0, ⟨by decide, by decide⟩, fun h => by cases h⟩, h7⟩
            case rest =>
              as_aux_lemma =>
              obtain ⟨rfl, fb2, f2, y, hf, Q2, h6⟩ := hcut
              clear hR Q
              have hwk := Q2.wk
              obtain ⟨cf, hcf, hcf2⟩ := h6.out.lqFr hin2
              rw [hf] at hcf2
              have hfo := Q2.fr i hin2
              rw [hf] at hfo
              cases y with
              | come ld p =>
                dsimp only [frV] at hcf2
                obtain ⟨h0, hp0, hp1⟩ : inCell m i = 0 ∧ U64 p ∧ (ld = true → 1 ≤ p ∧ p ≤ m.cells.getD 0 0) := hfo
                have r1 := (come_frame (fb2 i)).nr 269 wc
                have r2 := (come_frame (fb2 i)).mr 269 wc
                have r3 := (come_frame (fb2 i)).cr #[.pointer (some ⟨fb2 i, 0, none⟩), .pointer (some ⟨m.b, 0, none⟩)] wc
                go_wp2_with fail
                refine (come_ready _ _ _).mono ?_
                rintro e w2 ⟨rfl, rfl⟩
                clear r1 r2 r3
                have hcall := hide (qsbr_in h6.out (t := 1) rfl i (by rw [hwk]; exact hin2))
                rw [show decide (inCell m i ≠ 0) = false by simpa using h0] at hcall
                clear h6
                go_wp2_with fail
                refine hcall.out.mono ?_
                rintro e w3 ⟨rfl, h7⟩
                clear hcall hcf hcf2
                obtain ⟨cf, hcf, hcf2⟩ := h7.lqFr hin2
                rw [hf] at hcf2
                dsimp only [frV] at hcf2
                have hgt := lq_fr (n := n) (w := w) (m := m) (fa := fa) (sa := fa + 1) (ba := fa + 1 + 1) (wa := wa) (fb := fb2) (f := f2) (st := st) (gb := gb) (bg := bg) (lv := fun _ => true) (wb := wb) (ws := ws) hin2
                rw [hf] at hgt
                have hst := come_step h7 (t := 1) (u := 10 + i) (s := ⟨i, ld, p⟩) rfl hgt (by omega) (by show i < m.workers; rw [hwk]; exact hin2) hp0
                have r1 := (come_frame (fb2 i)).ns 269 w3
                have r2 := (come_frame (fb2 i)).ms 269 w3
                have r3 := (come_frame (fb2 i)).cs #[.pointer (some ⟨fb2 i, 0, none⟩), .pointer (some ⟨m.b, 0, none⟩)] w3
                cases ld with
                | false =>
                  rw [show comeStep m ⟨i, false, p⟩ = (m, ⟨i, true, m.cells.getD 0 0⟩, false) from rfl] at hst
                  dsimp only at hst
                  rw [lq_setM, show ComeK (fb2 i) ⟨i, true, m.cells.getD 0 0⟩ = frO i (fb2 i) (some (.come true (m.cells.getD 0 0))) from rfl, lq_setFr _ (by rw [hf]; rfl)] at hst
                  have Q3 := Q2.more.frame (i := i) (some (.come true (m.cells.getD 0 0))) ⟨h0, ⟨by have := Q2.per; omega, by have := Q2.per; omega⟩, fun _ => ⟨Q2.per.1, Int.le_refl _⟩⟩
                  replace hst := hide hst
                  clear h7 hgt
                  go_wp2_with fail
                  refine hst.out.mono ?_
                  rintro e w4 ⟨rfl, h8⟩
                  replace h8 := hide h8
                  clear hst hcf hcf2
                  go_wp2_with fail
                  exact ⟨⟨k + 1, by omega, by go_num, _, _, _, _, _, _, _, _, rfl, Q3, h8⟩, by simp [intOf]; omega⟩
                | true =>
                  obtain ⟨Q3, hpn⟩ := Q2.come (by omega) hin2 hf
                  have hlen := Q2.len
                  have hin3 : inCell { m with cells := m.cells.set (2 + i) p } i = p := by unfold inCell; dsimp only; rw [getD_setI, if_pos ⟨rfl, by omega⟩]
                  have hstB := Q2.stB i
                  rw [show comeStep m ⟨i, true, p⟩ = ({ m with cells := m.cells.set (2 + i) p }, ⟨i, true, p⟩, true) from rfl] at hst
                  dsimp only at hst
                  rw [lq_setM, show ComeK (fb2 i) ⟨i, true, p⟩ = frO i (fb2 i) (some (.come true p)) from rfl, lq_setFr _ (by rw [hf])] at hst
                  have hwk3 := Q3.wk
                  have hmb : ({ m with cells := m.cells.set (2 + i) p } : MemS).b = m.b := rfl
                  generalize ({ m with cells := m.cells.set (2 + i) p } : MemS) = m3 at *
                  replace hst := hide hst
                  clear h7 hgt
                  go_wp2_with fail
                  refine hst.out.mono ?_
                  rintro e w4 ⟨rfl, h8⟩
                  clear hst hcf hcf2 r1 r2 r3
                  obtain ⟨cf, hcf, hcf2⟩ := h8.lqFr hin2
                  have h9 := R.lqOffFr hin2 h8
                  rw [fup_twice] at h9
                  have hcall := qsbr_in h9 (t := 1) rfl i (by rw [hwk3]; exact hin2)
                  rw [hin3, show decide (p ≠ 0) = true by simpa using hpn, hmb] at hcall
                  replace hcall := hide hcall
                  clear h8 h9
                  go_wp2_with fail
                  refine hcall.out.mono ?_
                  rintro e w5 ⟨rfl, h10⟩
                  obtain ⟨cs, hcs, hcs2⟩ := h10.lqSt hin2
                  have h11 := R.lqPutSt hin2 (st i + 1) h10
                  rw [show ((st i + 1 : Nat) : Int) = (st i : Int) + 1 by omega] at h11
                  replace h11 := hide h11
                  clear hcall h10 hcf hcf2
                  generalize hsi : st i = si at *
                  go_wp2_with fail
                  exact ⟨⟨k + 1, by omega, by go_num, m3, _, _, _, _, _, _, _, hmb, Q3, h11⟩, by simp [intOf]; omega⟩
              | gone =>
                dsimp only [frV] at hcf2
                have hinj : inCell m i ≠ 0 := hfo
                have r1 := (gone_frame (fb2 i)).nr 269 wc
                have r2 := (gone_frame (fb2 i)).mr 269 wc
                have r3 := (gone_frame (fb2 i)).cr #[.pointer (some ⟨fb2 i, 0, none⟩), .pointer (some ⟨m.b, 0, none⟩)] wc
                go_wp2_with fail
                refine (gone_ready _ _ _).mono ?_
                rintro e w2 ⟨rfl, rfl⟩
                clear r1 r2 r3
                have hcall := hide (qsbr_in h6.out (t := 1) rfl i (by rw [hwk]; exact hin2))
                rw [show decide (inCell m i ≠ 0) = true by simpa using hinj] at hcall
                clear h6
                go_wp2_with fail
                refine hcall.out.mono ?_
                rintro e w3 ⟨rfl, h7⟩
                clear hcall hcf hcf2
                obtain ⟨cf, hcf, hcf2⟩ := h7.lqFr hin2
                rw [hf] at hcf2
                dsimp only [frV] at hcf2
                have hgt := lq_fr (n := n) (w := w) (m := m) (fa := fa) (sa := fa + 1) (ba := fa + 1 + 1) (wa := wa) (fb := fb2) (f := f2) (st := st) (gb := gb) (bg := bg) (lv := fun _ => true) (wb := wb) (ws := ws) hin2
                rw [hf] at hgt
                have hst := gone_step h7 (t := 1) (u := 10 + i) (k := i) rfl hgt (by rw [hwk]; exact hin2)
                rw [lq_setM] at hst
                have r1 := (gone_frame (fb2 i)).ns 269 w3
                have r2 := (gone_frame (fb2 i)).ms 269 w3
                have r3 := (gone_frame (fb2 i)).cs #[.pointer (some ⟨fb2 i, 0, none⟩), .pointer (some ⟨m.b, 0, none⟩)] w3
                have Q3 : QI n (k + 1) (goneStep m i) (fup f2 i none) st bg ws := (Q2.gone hin2).more
                have hlen := Q2.len
                have hin3 : inCell (goneStep m i) i = 0 := by unfold inCell goneStep; dsimp only; rw [getD_setI, if_pos ⟨rfl, by omega⟩]
                have hwk3 := Q3.wk
                have hmb : (goneStep m i).b = m.b := rfl
                generalize goneStep m i = m3 at *
                replace hst := hide hst
                clear h7 hgt
                go_wp2_with fail
                refine hst.out.mono ?_
                rintro e w4 ⟨rfl, h8⟩
                clear hst hcf hcf2 r1 r2 r3
                obtain ⟨cf, hcf, hcf2⟩ := h8.lqFr hin2
                have h9 := R.lqOffFr hin2 h8
                have hcall := qsbr_in h9 (t := 1) rfl i (by rw [hwk3]; exact hin2)
                rw [hin3, show decide ((0 : Int) ≠ 0) = false by decide, hmb] at hcall
                replace hcall := hide hcall
                clear h8 h9
                go_wp2_with fail
                refine hcall.out.mono ?_
                rintro e w5 ⟨rfl, h10⟩
                replace h10 := hide h10
                clear hcall hcf hcf2
                go_wp2_with fail
                exact ⟨⟨k + 1, by omega, by go_num, m3, _, _, _, _, _, _, _, hmb, Q3, h10⟩, by simp [intOf]; omega⟩
    ·
      as_aux_lemma =>
      obtain rfl : k = acts.length := by omega
      have hst0 : ∃ m f', m.b = m.b ∧ QI n acts.length m f' st bg ws := ⟨m, f, rfl, Q⟩
      clear hst0
      go_wp2_with fail
      go_loopw [18] (fun i wr => ∃ j : Nat, 2 ≤ j ∧ j ≤ n ∧ i = .int .i64 j ∧ ∃ m' f', m'.b = m.b ∧ QI n acts.length m' f' st bg ws ∧ (∀ i, i < j → inCell m' i = 0) ∧ Hid (R (lq n w m' fa (fa + 1) (fa + 1 + 1) wa fb f st gb bg (fun _ => true) wb ws) wr)) (fun i _ => n - (intOf i).toNat)
      case atStart => exact ⟨2, Nat.le_refl _, hn1, rfl, m, f, rfl, Q, Q.low, hR⟩
      case round =>
        obtain ⟨j, hj2, hjn, rfl, m', f', hmb, Q2, hz, h2⟩ := hrel
        clear hR
        by_cases hlt2 : j < n
        · have hlv := hide (qsbr_leave h2.out j)
          go_wp2_with fail
          refine hlv.out.mono ?_
          rintro e w5 ⟨b5, rfl, h5⟩
          have hst := gone_step h5 (t := 1) (u := (lq n w m' fa (fa + 1) (fa + 1 + 1) wa fb f st gb bg (fun _ => true) wb ws).length) (k := j) (app_get rfl) app_last (by rw [Q2.wk]; exact hlt2)
          rw [hmb] at hst
          replace hst := hide hst
          clear hlv h5 h2
          go_wp2_with fail
          refine hst.out.mono ?_
          rintro e w6 ⟨rfl, h6⟩
          rw [setL _ _ (by rw [lq_len]; omega), lq_setM] at h6
          have h7 := hide h6.left
          have Q3 := Q2.gone hlt2
          have hlen := Q2.len
          clear hst h6
          go_wp2_with fail
          refine ⟨⟨j + 1, by omega, by omega, by go_num, goneStep m' j, _, hmb, Q3, ?_, h7⟩, by simp [intOf]; omega⟩
          intro i hi
          unfold inCell goneStep
          dsimp only
          rw [getD_setI]
          split
          · rfl
          · exact hz i (by omega)
        · obtain rfl : n = j := by omega
          have hF := Q2.out hz
          clear Q Q2 hz
          go_wp2_with fail
          go_loopw [248] (fun i wr => ∃ j : Nat, j ≤ 200 ∧ i = .int .i64 j ∧ ∃ x : MemS × (Nat → WaitS) × (Nat → Bool), x.1.b = m.b ∧ QF n x.1 x.2.1 x.2.2 ∧ (mu6 n x.2.1 x.2.2 + j ≤ 20 ∨ mu6 n x.2.1 x.2.2 = 0) ∧ Hid (R (lq n w x.1 fa (fa + 1) (fa + 1 + 1) wa fb f st gb bg x.2.2 wb x.2.1) wr)) (fun i _ => 200 - (intOf i).toNat)
          case atStart => exact ⟨0, by omega, rfl, (m', ws, fun _ => true), hmb, hF, .inl (mu6_le hn7 _ _), h2⟩
          case round =>
            obtain ⟨j, hj, rfl, x, hxb, hF2, hmu, h3⟩ := hrel
            clear hF h2
            by_cases hj200 : j < 200
            · go_wp2_with fail
              rw [show decide ((j : Int) < 200) = true from decide_eq_true (by omega)]
              replace hj200 := hide hj200
              go_loopw [250] (fun i wr => ∃ kk : Nat, kk ≤ 2 ∧ i = .int .i64 kk ∧ (qfN x kk).1.b = m.b ∧ QF n (qfN x kk).1 (qfN x kk).2.1 (qfN x kk).2.2 ∧ Hid (R (lq n w (qfN x kk).1 fa (fa + 1) (fa + 1 + 1) wa fb f st gb bg (qfN x kk).2.2 wb (qfN x kk).2.1) wr)) (fun i _ => 2 - (intOf i).toNat)
              case atStart => exact ⟨0, by omega, rfl, hxb, hF2, h3⟩
              case round =>
                obtain ⟨q, hq, rfl, hyb, hF3, h4⟩ := hrel
                clear h3
                by_cases hq2 : q < 2
                · obtain ⟨hF4, _, _, _⟩ := qf_ok hF3 hq2
                  have hb4 : (qf (qfN x q) q).1.b = m.b := (qf_b _ _).trans hyb
                  have hnext : qfN x (q + 1) = qf (qfN x q) q := rfl
                  generalize qfN x q = y at *
                  obtain ⟨cw, hcw, hcw2⟩ := h4.out.lqWt hq2
                  cases hlv : y.2.2 q with
                  | false =>
                    rw [hlv] at hcw2
                    dsimp only [wtV] at hcw2
                    have e := qf_off (x := y) (k := q) (by rw [hlv]; simp)
                    rw [e] at hF4 hb4 hnext
                    go_wp2_with fail
                    refine ⟨⟨q + 1, by omega, by go_num, ?_⟩, by simp [intOf]; omega⟩
                    rw [hnext]
                    exact ⟨hb4, hF4, h4⟩
                  | true =>
                    rw [hlv] at hcw2
                    dsimp only [wtV] at hcw2
                    have hok := (hF3.ok q hq2).1
                    have hrd := wait_ready h4.out (t := 1) (u := 5 + q) rfl (lq_wait hq2) hok
                    rw [hyb] at hrd
                    replace hrd := hide hrd
                    have n1 := (wait_frame (wb q)).nr 269 wr
                    have m1 := (wait_frame (wb q)).mr 269 wr
                    have c1 := (wait_frame (wb q)).cr #[.pointer (some ⟨wb q, 0, none⟩), .pointer (some ⟨m.b, 0, none⟩)] wr
                    cases hrdy : waitReady y.1 (y.2.1 q) with
                    | false =>
                      rw [hrdy] at hrd
                      have e := qf_off (x := y) (k := q) (by rw [hrdy]; simp)
                      rw [e] at hF4 hb4 hnext
                      clear h4
                      go_wp2_with fail
                      refine hrd.out.mono ?_
                      rintro e w5 ⟨rfl, h5⟩
                      replace h5 := hide h5
                      clear hrd n1 m1 c1 hcw hcw2
                      go_wp2_with fail
                      have hZ : (qfN x (q + 1)).1.b = m.b ∧ QF n (qfN x (q + 1)).1 (qfN x (q + 1)).2.1 (qfN x (q + 1)).2.2 ∧ Hid (R (lq n w (qfN x (q + 1)).1 fa (fa + 1) (fa + 1 + 1) wa fb f st gb bg (qfN x (q + 1)).2.2 wb (qfN x (q + 1)).2.1) w5) := by rw [hnext]; exact ⟨hb4, hF4, h5⟩
                      first
                        | exact ⟨⟨q + 1, by omega, by go_num, hZ⟩, by simp [intOf]; omega⟩
                        | (refine ⟨?_, by simp [intOf]; omega⟩; (repeat apply Exists.intro); exact ⟨⟨q + 1, by omega, by go_num, hZ⟩, rfl⟩)
                    | true =>
                      rw [hrdy] at hrd
                      have e := qf_on (x := y) (k := q) hlv hrdy
                      clear h4
                      go_wp2_with fail
                      refine hrd.out.mono ?_
                      rintro e w5 ⟨rfl, h5⟩
                      clear hrd n1 m1 c1 hcw hcw2
                      obtain ⟨cw, hcw, hcw2⟩ := h5.lqWt hq2
                      rw [hlv] at hcw2
                      dsimp only [wtV] at hcw2
                      have hst := wait_step h5 (t := 1) (u := 5 + q) rfl (lq_wait hq2) (by omega) hok
                      rw [lq_setM, lq_setWait hq2, hyb] at hst
                      replace hst := hide hst
                      have n2 := (wait_frame (wb q)).ns 269 w5
                      have m2 := (wait_frame (wb q)).ms 269 w5
                      have c2 := (wait_frame (wb q)).cs #[.pointer (some ⟨wb q, 0, none⟩), .pointer (some ⟨m.b, 0, none⟩)] w5
                      rw [e] at hF4 hb4 hnext
                      clear h5
                      cases hd : (waitStep y.1 (y.2.1 q)).2.2 with
                      | false =>
                        rw [hd] at hst hF4 hb4 hnext
                        rw [if_neg (by decide)] at hF4 hb4 hnext
                        go_wp2_with fail
                        refine hst.out.mono ?_
                        rintro e w6 ⟨rfl, h6⟩
                        replace h6 := hide h6
                        clear hst n2 m2 c2 hcw hcw2
                        go_wp2_with fail
                        have hZ : (qfN x (q + 1)).1.b = m.b ∧ QF n (qfN x (q + 1)).1 (qfN x (q + 1)).2.1 (qfN x (q + 1)).2.2 ∧ Hid (R (lq n w (qfN x (q + 1)).1 fa (fa + 1) (fa + 1 + 1) wa fb f st gb bg (qfN x (q + 1)).2.2 wb (qfN x (q + 1)).2.1) w6) := by rw [hnext]; exact ⟨hb4, hF4, h6⟩
                        first
                          | exact ⟨⟨q + 1, by omega, by go_num, hZ⟩, by simp [intOf]; omega⟩
                          | (refine ⟨?_, by simp [intOf]; omega⟩; (repeat apply Exists.intro); exact ⟨⟨q + 1, by omega, by go_num, hZ⟩, rfl⟩)
                      | true =>
                        rw [hd] at hst hF4 hb4 hnext
                        rw [if_pos rfl] at hF4 hb4 hnext
                        go_wp2_with fail
                        refine hst.out.mono ?_
                        rintro e w6 ⟨rfl, h6⟩
                        clear hst n2 m2 c2 hcw hcw2
                        obtain ⟨cw, hcw, hcw2⟩ := h6.lqWt hq2
                        have h7 := hide (R.lqOffWait hq2 h6)
                        clear h6
                        go_wp2_with fail
                        have hZ : (qfN x (q + 1)).1.b = m.b ∧ QF n (qfN x (q + 1)).1 (qfN x (q + 1)).2.1 (qfN x (q + 1)).2.2 ∧ Hid (R (lq n w (qfN x (q + 1)).1 fa (fa + 1) (fa + 1 + 1) wa fb f st gb bg (qfN x (q + 1)).2.2 wb (qfN x (q + 1)).2.1) (w6.setCell ⟨wa, q, none⟩ .nilIface)) := by rw [hnext]; exact ⟨hb4, hF4, h7⟩
                        first
                          | exact ⟨⟨q + 1, by omega, by go_num, hZ⟩, by simp [intOf]; omega⟩
                          | (refine ⟨?_, by simp [intOf]; omega⟩; (repeat apply Exists.intro); exact ⟨⟨q + 1, by omega, by go_num, hZ⟩, rfl⟩)
                · obtain rfl : q = 2 := by omega
                  obtain ⟨r1, r2, r3⟩ := qf_round hF2
                  go_wp2_with fail
                  replace hj200 := hj200.out
                  exact ⟨⟨j + 1, by omega, by go_num, qfN x 2, hyb, hF3, by
                    show mu6 n (qf (qf x 0) 1).2.1 (qf (qf x 0) 1).2.2 + (j + 1) ≤ 20 ∨ mu6 n (qf (qf x 0) 1).2.1 (qf (qf x 0) 1).2.2 = 0
                    by_cases h0 : 0 < mu6 n x.2.1 x.2.2
                    · have := r3 h0
                      omega
                    · omega, h4⟩, by simp [intOf]; omega⟩
            · have hz0 : mu6 n x.2.1 x.2.2 = 0 := by omega
              obtain ⟨v0, v1⟩ := mu6_zero hz0
              go_wp2_with fail
              refine (law06_awake _).mono ?_
              rintro e w10 ⟨rfl, hb⟩
              have h10 := h3.out.below hb
              obtain ⟨cw, hcw, hcw2⟩ := h10.lqWt (k := 0) (by decide)
              obtain ⟨cw', hcw', hcw3⟩ := h10.lqWt (k := 1) (by decide)
              rw [v0] at hcw2
              rw [v1] at hcw3
              obtain rfl : cw = cw' := by rw [hcw] at hcw'; simpa using hcw'
              dsimp only [wtV] at hcw2 hcw3
              have hbel2 : Below w.heap.size w w10 := h10.done
              clear h3 h10 hb hF2 hcw'
              go_wp2_with fail
              go_ret
              exact ⟨rfl, hbel2⟩
set_option maxRecDepth 100000 in
set_option maxHeartbeats 800000 in
theorem law06_waitsMany (x0 : Int) (hx0 : 0 ≤ x0) (hx1 : x0 ≤ 255) (a : Option Addr) (len cap : Nat) (h : 120 < len) (hl : len ≤ 9223372036854775807) (w : World) :
    Calls Try.prog 5 #[.int .u8 x0, .slice a len cap] w fun e w' => e = .returned (.bool true) ∧ Below w.heap.size w w' := by
  obtain ⟨n, hn⟩ : ∃ n : Nat, x0 % 6 + 2 = n := ⟨(x0 % 6 + 2).toNat, by omega⟩
  have hn1 : 1 ≤ n := by omega
  have hn8 : n ≤ 8 := by omega
  have hmd := hide (law05_made (R.start w) 1 n (by decide) (by decide) hn1 hn8)
  go_enter Try.func5, Try.ntmps5
  go_wp2_with fail
  refine hmd.out.mono ?_
  rintro e w1 ⟨b, cb, lb, ab, rfl, R1⟩
  replace R1 := hide R1
  clear hmd
  go_wp2_with fail
  refine (law06_awake _).mono ?_
  rintro e w7 ⟨rfl, hb7⟩
  have hbel7 := (R1.out.below hb7).done
  go_wp2
  go_ret
  exact ⟨rfl, hbel7⟩
end Go.Proofs.Ytcoaemjoanbemaa
