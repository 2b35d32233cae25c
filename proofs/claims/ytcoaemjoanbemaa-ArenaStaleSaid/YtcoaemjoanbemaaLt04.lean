/- quietuslaw04: ArenaStale. No condition. -/
import Derived.Test.YtcoaemjoanbemaaLs04
namespace Go.Proofs.Ytcoaemjoanbemaa
open Go.RowKit Go.Maps

/-- The objects of ArenaStale. -/
def l4 (w : World) (b : Nat) (ss : List Slot) (c : Nat) (lv : Value) (n : Nat) (live : List Int) (dv : Value) (nd : Nat) (dead : List Int) (bm : Nat) (met : List Int) : List KObj :=
  [BaseK w, ArenaK b ss false c, SxK 31 1 lv n (live.map (Value.int .u64)), SlK 31 1 dv nd (dead.map (Value.int .u64)), single (setF bm met)]
/-- What the loop keeps. -/
def Rel4 (w : World) (room b bm : Nat) (k : Nat) (lv dv : Value) (wr : World) : Prop :=
  ∃ ss c n nd live dead met, SA room k ss live dead met c ∧ Hid (live.length = n ∧ dead.length = nd) ∧ n ≤ room ∧ nd ≤ k ∧ (∃ a cp, lv = .slice a n cp) ∧ (∃ a cp, dv = .slice a nd cp) ∧ Hid (R (l4 w b ss c lv n live dv nd dead bm met) wr)

set_option maxRecDepth 100000 in
set_option maxHeartbeats 8000000 in
theorem law04_stale (room : Nat) (h1 : 1 ≤ room) (h255 : room ≤ 255) (v : Value) (acts : List Bool) (w : World) (hv : FrAt w w.heap.size 1 v (acts.map fun x => [Value.bool x])) (hl : acts.length ≤ 200) :
    Calls Try.prog 3 #[.int .u8 room, v] w fun e w' => e = .returned (.bool true) ∧ Below w.heap.size w w' := by
  obtain ⟨a, cap, rfl, hlen, _⟩ := id hv
  rw [List.length_map] at *
  replace hv := hide hv
  have hnw := hide (arR_new (R.start w) room h1 (by omega))
  go_enter Try.func3, Try.ntmps3
  go_wp2_with fail
  refine hnw.out.mono ?_
  rintro e w1 ⟨b, rfl, R1⟩
  clear hnw
  have hM : Rel4 w room b w1.heap.size 0 (.slice none 0 0) (.slice none 0 0) (w1.alloc (.map #[] 0)) := by
    have R2 := ((R1.sxNil 31 1).slnil 31 1).setMade
    exact ⟨_, 0, 0, 0, [], [], [], SA.start room, hide ⟨rfl, rfl⟩, Nat.zero_le _, Nat.le_refl _, ⟨_, _, rfl⟩, ⟨_, _, rfl⟩, hide R2⟩
  have hmk := run_makeMap (P := Try.prog) 29 w1
  clear R1
  go_wp2_with fail
  generalize w1.heap.size = bm at *
  clear hmk
  go_loopw [7, 8, 48] (fun lv dv i wr => ∃ k : Nat, k ≤ acts.length ∧ i = .int .i64 k ∧ Rel4 w room b bm k lv dv wr) (fun _ _ i _ => acts.length - (intOf i).toNat)
  case atStart => exact ⟨0, Nat.zero_le _, rfl, hM⟩
  case round =>
    obtain ⟨k, hk, rfl, ss, c, n, nd, live, dead, met, Q, hnn, hnr, hdk, ⟨la, lc, rfl⟩, ⟨da, dc, rfl⟩, hR⟩ := hrel
    clear hM
    have hbel : Below w.heap.size w wr := hR.out.done
    by_cases hlt : k < acts.length
    · obtain ⟨_, _, hv2, _, hr⟩ := hv.out.below hbel
      obtain ⟨vb, voff, ha, hvb, hc0⟩ := hr k (by simpa using hlt)
      simp at hv2
      obtain ⟨rfl, rfl⟩ := hv2
      subst ha
      have hget : (acts.map fun x => [Value.bool x]).getD k [] = [Value.bool (acts.getD k false)] := by simp [hlt]
      rw [hget] at hc0
      generalize acts.getD k false = x at *
      obtain ⟨xv, e0, c0⟩ := hc0 0 (by decide)
      simp at e0
      subst e0
      simp only [Nat.mul_one, Nat.add_zero] at c0
      clear hr hget
      have hk200 : k ≤ 200 := by omega
      clear hbel
      go_upto_region 9 with fail
      go_cut [58] (fun s wx => s = .bool (x || ((n : Int) == 0)) ∧ wx = wr)
      case first =>
        cases x
        · go_wp2_with fail
          go_meet
          case rel => exact ⟨by simp, rfl⟩
        · go_wp2_with fail
          go_meet
          case rel => exact ⟨by simp, rfl⟩
      case rest =>
        obtain ⟨rfl, hw⟩ := hcut
        replace hw := hw.symm
        subst hw
        generalize hz : (x || ((n : Int) == 0)) = z at *
        go_upto_if 58 with fail
        go_cut [7, 8] (fun lv dv wx => Rel4 w room b bm (k + 1) lv dv wx)
        case first =>
          cases z
          · have hn0 : 0 < n := by
              have : ((n : Int) == 0) = false := by
                cases x
                · simpa using hz
                · simp at hz
              simp at this
              omega
            obtain ⟨hg, hl1024⟩ := arR_ok hR.out (t := 1) rfl
            have hcg := Q.gen
            have hln := hnn.out.1
            have hds := Q.sizes.1
            obtain ⟨j, hj⟩ : ∃ j : Nat, k % n = j := ⟨_, rfl⟩
            have hjn : j < n := by rw [← hj]; exact Nat.mod_lt _ hn0
            have htm : (k : Int).tmod (n : Int) = (j : Int) := by rw [Int.tmod_eq_emod_of_nonneg (by omega)]; omega
            have hne0 : ((n : Int) == 0) = false := by simp; omega
            obtain ⟨g, cp, cur, hv0, hgb, hncp, hcpm, hc⟩ := hR.out.sxRow (t := 2) rfl hjn
            simp at hv0
            obtain ⟨rfl, rfl⟩ := hv0
            have hcj := hc j hjn
            have hlive : live.getD j 0 ∈ live := by
              rw [show live.getD j 0 = live[j]'(by omega) by simp [show j < live.length by omega]]
              exact List.getElem_mem _
            obtain ⟨hat, hu⟩ := Q.pool.live _ hlive
            obtain ⟨i, hi, _⟩ := atA_lt ss _ hat
            have hgv := arR_give hR.out (t := 1) rfl (by omega) (live.getD j 0) hu i hi
            have Q3 := Q.give (by omega) hi
            replace hgv : Calls _ _ _ _ (Does (l4 w b (ss.set i (freed (ss.getD i slot0))) (c + 1) (.slice (some ⟨g, 0, none⟩) n lc) n live (.slice da nd dc) nd dead bm met) _) := hgv
            generalize ss.set i (freed (ss.getD i slot0)) = ss2 at *
            replace hgv := hide hgv
            replace hj := hide hj
            replace hjn0 := hide hjn
            replace hcx := hide hc
            clear hR hz hc hat hi hlive hcg
            generalize hxx : live.getD j 0 = xx at *
            replace hxx := hide hxx
            go_wp2_with fail
            refine hgv.out.mono ?_
            rintro e w5 ⟨rfl, h5⟩
            obtain ⟨g', cp', cur2, hv1, hgb2, _, _, hc2⟩ := h5.sxRow (t := 2) rfl hjn
            simp at hv1
            obtain ⟨rfl, rfl⟩ := hv1
            have hcj2 := hc2 j hjn
            rw [hxx.out] at hcj2
            obtain ⟨o, hr, hs⟩ := h5.get (t := 3) rfl
            replace hr := hide hr
            clear hgv h5 hc2 hcx hgb hcj
            go_wp2_with (at_builtin; refine push_handle rfl (.tmp 99) (.tmp 104) rfl _ _ _ rfl (hs.alloc _) w5.heap.size 1 _ rfl (blk_new _ _) rfl (by simp; rfl) (by omega) ?_)
            intro v' w7 o1 hs1 he1 _ _
            have h7 := hr.out.step (t := 3) (q := SlK 31 1 v' (nd + 1) ((dead ++ [xx]).map (Value.int .u64))) (((Ext.refl o w5 _).alloc _).trans he1) (fun y hy => by omega) (by rw [List.map_append]; exact hs1)
            obtain ⟨⟨da2, dc2, rfl⟩, _⟩ := h7.slVal (t := 3) rfl
            replace h7 := hide h7.drew
            clear hr hs hs1 he1 hgb2 hcj2
            have hsl1 := fun W => slice_cut g n lc j W (by omega)
            have hsl2 := fun W => slice_rest g n lc j W (by omega)
            have hwj : IntKind.i64.wrap ((j : Int) + 1) = (j : Int) + 1 := by rw [IntKind.wrap_i64]; omega
            go_upto_region 22 with fail
            go_still_tail 8, (by kernel_rfl)
            repeat still_step
            obtain ⟨g9, cp9, cur9, hv9, hgb9, _, _, hc9⟩ := h7.out.sxRow (t := 2) rfl hjn
            simp at hv9
            obtain ⟨rfl, rfl⟩ := hv9
            obtain ⟨o, hr, hs⟩ := h7.out.get (t := 2) rfl
            have hs2 := SxAt.cut (T := 31) (k := 1) (cs := live.map (Value.int .u64)) hs (j := j) (by omega)
            rw [Nat.mul_one, ← List.map_take] at hs2
            have hrest := restA_at (j := j) (cs := live.map (Value.int .u64)) hgb9 hncp (fun i u hi => by
              have hil : i < n := by have := (List.getElem?_eq_some_iff.1 hi).1; rw [List.length_map] at this; omega
              rw [hc9 i hil]
              rw [List.getElem?_map] at hi
              rw [← hi, List.getD_eq_getElem?_getD, List.getElem?_eq_getElem (by omega)]
              rfl) (by rw [List.length_map]; exact hln)
            rw [← List.map_drop] at hrest
            have hrl : ((live.drop (j + 1)).map (Value.int .u64)).length = n - (j + 1) := by rw [List.length_map, List.length_drop, hln]
            replace hr := hide hr
            clear h7 hc9 hgb9 hs hsl1 hsl2
            (at_builtin; refine sx_handle rfl (.tmp 109) (.tmp 113) rfl _ _ _ rfl hs2 (restA g lc j) (n - (j + 1)) (lc - (j + 1)) _ rfl hrl hrest (by intro u hu; obtain ⟨_, _, rfl⟩ := List.mem_map.1 hu; rfl) (by omega) ?_)
            intro v' w8 o1 hs3 he3
            have h8 := hr.out.step (t := 2) (q := SxK 31 1 v' (j + (n - (j + 1))) ((live.take j ++ live.drop (j + 1)).map (Value.int .u64))) he3 (fun y hy => by omega) (by rw [List.map_append]; exact hs3)
            obtain ⟨⟨la3, lc3, rfl⟩, hl3, _⟩ := h8.sxVal (t := 2) rfl
            rw [List.length_map] at hl3
            replace h8 := hide h8
            replace hl3 := hide hl3
            clear hr hs2 hs3 he3 hrest hrl
            go_wp2_with fail
            go_meet
            case rel => exact ⟨ss2, c + 1, j + (n - (j + 1)), nd + 1, live.take j ++ live.drop (j + 1), dead ++ [xx], met, Q3, hide ⟨by have := hl3.out; omega, by rw [List.length_append, List.length_singleton, hnn.out.2]⟩, by omega, by omega, ⟨_, _, rfl⟩, ⟨_, _, rfl⟩, h8⟩
          · obtain ⟨hg, hl1024⟩ := arR_ok hR.out (t := 1) rfl
            have hcg := Q.gen
            have hln := hnn.out.1
            have hms := Q.sizes.2
            cases hfr : freeAt ss with
            | none =>
              have hal := arR_take_no hR.out (t := 1) rfl ⟨⟨#[107]⟩, ⟨#[]⟩, 0, 0⟩ hfr
              rw [show ndV ⟨⟨#[107]⟩, ⟨#[]⟩, 0, 0⟩ = .agg #[.string ⟨#[107]⟩, .string ⟨#[]⟩, .int .u32 0, .int .u64 0] from rfl] at hal
              have hfull := Q.pool.full hfr
              have hrm := Q.room_
              have hne : ((n : Int) != (room : Int)) = false := by simp; omega
              replace hal := hide hal
              clear hR hfull hrm hln
              go_wp2_with fail
              refine hal.out.mono ?_
              rintro e w5 ⟨rfl, h5⟩
              replace h5 := hide h5
              clear hal
              go_wp2_with fail
              go_meet
              case rel => exact ⟨ss, c, n, nd, live, dead, met, Q.more, hnn, hnr, by omega, ⟨_, _, rfl⟩, ⟨_, _, rfl⟩, h5⟩
            | some i =>
              have hal := arR_take hR.out (t := 1) rfl (by omega) ⟨⟨#[107]⟩, ⟨#[]⟩, 0, 0⟩ i hfr
              rw [show ndV ⟨⟨#[107]⟩, ⟨#[]⟩, 0, 0⟩ = .agg #[.string ⟨#[107]⟩, .string ⟨#[]⟩, .int .u32 0, .int .u64 0] from rfl] at hal
              have Q3 := Q.take (by omega) (by omega) hg hfr ⟨⟨#[107]⟩, ⟨#[]⟩, 0, 0⟩
              have hfs := Q.fresh (by omega) hfr
              have hil := (freeAt_some hfr).1
              have hu := hnd_u64 (ss := ss) (i := i) (by omega) hg (by omega)
              have hpos : (hnd ss i == 0) = false := by
                have := hg i
                have : 0 < hnd ss i := by unfold hnd; omega
                simp; omega
              have hle2 := Q3.pool.count
              have hrm := Q3.room_
              rw [List.length_append, List.length_singleton] at hle2
              have hnr2 : n + 1 ≤ room := by omega
              clear hle2
              replace hal : Calls _ _ _ _ (Does (l4 w b (ss.set i (taken (ss.getD i slot0) ⟨⟨#[107]⟩, ⟨#[]⟩, 0, 0⟩)) c (.slice la n lc) n live (.slice da nd dc) nd dead bm met) _) := hal
              generalize hnd ss i = hd at *
              generalize ss.set i (taken (ss.getD i slot0) ⟨⟨#[107]⟩, ⟨#[]⟩, 0, 0⟩) = ss2 at *
              replace hal := hide hal
              replace hfs := hide hfs
              replace hrm := hide hrm
              clear hR hln hil hfr hz
              go_wp2_with fail
              refine hal.out.mono ?_
              rintro e w5 ⟨rfl, h5⟩
              obtain ⟨o, hr, hs⟩ := h5.get (t := 2) rfl
              replace hr := hide hr
              clear hal h5
              go_wp2_with (at_builtin; refine sx_push rfl (.tmp 67) (.tmp 69) rfl _ _ _ rfl (hs.alloc _) w5.heap.size 1 _ rfl (blk_new _ _) rfl (by omega) ?_)
              intro v' w7 o1 hs1 he1
              have h7 := hr.out.step (t := 2) (q := SxK 31 1 v' (n + 1) ((live ++ [hd]).map (Value.int .u64))) (((Ext.refl o w5 _).alloc _).trans he1) (fun y hy => by omega) (by rw [List.map_append]; exact hs1)
              obtain ⟨⟨la2, lc2, rfl⟩, _⟩ := h7.sxVal (t := 2) rfl
              have hlk := h7.setLook (u := 4) rfl hd hu
              rw [if_neg hfs.out] at hlk
              obtain ⟨o1', hr1, ho1, n1, D1, hn1, hown, hD1⟩ := h7.get (t := 4) rfl
              have hkk := keyOf_int_mk Try.underlying31 (u64_wf hu)
              replace h7 := hide h7
              replace hn1 := hide hn1
              replace hD1 := hide hD1
              clear hr hs hs1 he1 hr1 ho1
              go_wp2_with (at_mapUpdate; refine wpList_mapUpdate_own _ rfl _ _ _ 29 rfl 31 3 handle_keyed Try.underlying29 _ bm n1 D1 rfl hown (by have := hn1.out; simp only [maxLen]; omega) _ _ _ rfl rfl hkk _ [] (plainElem_int Try.underlying3 (i64_wf (by decide) (by decide))) ?_)
              intro w8 hown8 hg8
              have h8 := h7.out.setGrown (u := 4) rfl hown8 (met' := met ++ [hd]) (by have := hn1.out; rw [List.length_append, List.length_singleton]; omega) (hD1.out.put hd hu) hg8
              have hlk2 := h8.setLook (u := 4) rfl hd hu
              rw [if_pos (by simp)] at hlk2
              replace h8 := hide h8
              clear h7 hlk hown hown8 hg8 hn1 hD1
              go_wp2_with fail
              go_meet
              case rel => exact ⟨ss2, c, n + 1, nd, live ++ [hd], dead, met ++ [hd], Q3, hide ⟨by rw [List.length_append, List.length_singleton, hnn.out.1], hnn.out.2⟩, hnr2, by omega, ⟨_, _, rfl⟩, ⟨_, _, rfl⟩, h8⟩
        case rest =>
          obtain ⟨ss2, c2, n2, nd2, live2, dead2, met2, Q2, hnn2, hnr2, hdk2, ⟨la2, lc2, rfl⟩, ⟨da2, dc2, rfl⟩, h2⟩ := hcut
          clear hR Q hnn hz
          go_wp2_with fail
          go_loopw [117] (fun i wr => ∃ q : Nat, q ≤ n2 ∧ i = .int .i64 q ∧ Hid (R (l4 w b ss2 c2 (.slice la2 n2 lc2) n2 live2 (.slice da2 nd2 dc2) nd2 dead2 bm met2) wr)) (fun i _ => n2 - (intOf i).toNat)
          case atStart => exact ⟨0, Nat.zero_le _, rfl, h2⟩
          case round =>
            obtain ⟨q, hq, rfl, h3⟩ := hrel
            clear h2
            by_cases hqn : q < n2
            · obtain ⟨g, cp, cur, hv0, hgb, hncp, hcpm, hc⟩ := h3.out.sxRow (t := 2) rfl hqn
              simp at hv0
              obtain ⟨rfl, rfl⟩ := hv0
              have hcj := hc q hqn
              have hll := hnn2.out.1
              have hm : live2.getD q 0 ∈ live2 := by
                rw [show live2.getD q 0 = live2[q]'(by omega) by simp [show q < live2.length by omega]]
                exact List.getElem_mem _
              obtain ⟨hat, hu⟩ := Q2.pool.live _ hm
              have hlv := arR_live h3.out (t := 1) rfl (live2.getD q 0) hu
              rw [show decide (0 ≤ atA ss2 (live2.getD q 0)) = true by simpa using hat] at hlv
              replace hlv := hide hlv
              clear hc hat hm hll
              generalize live2.getD q 0 = y at *
              go_wp2_with fail
              refine hlv.out.mono ?_
              rintro e w5 ⟨rfl, rfl⟩
              go_wp2_with fail
              exact ⟨⟨q + 1, by omega, by go_num, h3⟩, by simp [intOf]; omega⟩
            · go_wp2_with fail
              go_loopw [128] (fun i wr => ∃ q : Nat, q ≤ nd2 ∧ i = .int .i64 q ∧ Hid (R (l4 w b ss2 c2 (.slice la2 n2 lc2) n2 live2 (.slice da2 nd2 dc2) nd2 dead2 bm met2) wr)) (fun i _ => nd2 - (intOf i).toNat)
              case atStart => exact ⟨0, Nat.zero_le _, rfl, h3⟩
              case round =>
                obtain ⟨q', hq', rfl, h4⟩ := hrel
                clear h3
                by_cases hqn' : q' < nd2
                · obtain ⟨g, cp, cur, hv0, hgb, hncp, hcpm, hcj⟩ := h4.out.intRow (t := 3) rfl hqn'
                  simp at hv0
                  obtain ⟨rfl, rfl⟩ := hv0
                  have hll := hnn2.out.2
                  have hm : dead2.getD q' 0 ∈ dead2 := by
                    rw [show dead2.getD q' 0 = dead2[q']'(by omega) by simp [show q' < dead2.length by omega]]
                    exact List.getElem_mem _
                  obtain ⟨hst, hu⟩ := Q2.stale _ hm
                  have hlv := arR_live h4.out (t := 1) rfl (dead2.getD q' 0) hu
                  rw [show decide (0 ≤ atA ss2 (dead2.getD q' 0)) = false by rw [hst.dead]; decide] at hlv
                  replace hlv := hide hlv
                  clear hst hm hll
                  generalize dead2.getD q' 0 = y at *
                  go_wp2_with fail
                  refine hlv.out.mono ?_
                  rintro e w5 ⟨rfl, rfl⟩
                  go_wp2_with fail
                  exact ⟨⟨q' + 1, by omega, by go_num, h4⟩, by simp [intOf]; omega⟩
                · go_wp2_with fail
                  exact ⟨⟨k + 1, by omega, by go_num, ss2, c2, n2, nd2, live2, dead2, met2, Q2, hnn2, hnr2, hdk2, ⟨_, _, rfl⟩, ⟨_, _, rfl⟩, h4⟩, by simp [intOf]; omega⟩
    · obtain rfl : k = acts.length := by omega
      have hcount := Q.pool.count
      have hrm := Q.room_
      have hll := hnn.out.1
      generalize hsp0 : (freeTo ss ss.length).length = sp at *
      have heq : ((sp : Int) + n == (room : Int)) = true := by simp; omega
      have hspb : sp ≤ room := by omega
      clear hcount hrm hll hbel
      go_wp2_with fail
      refine (law04_awake _).mono ?_
      rintro e w5 ⟨rfl, hb⟩
      have h5 := hR.out.below hb
      have hft := hide (arR_fault h5 (t := 1) rfl)
      have hspr := arR_spare h5 (t := 1) rfl
      rw [hsp0] at hspr
      replace hspr := hide hspr
      have hbel := h5.done
      clear hR hb h5 hsp0
      go_wp2_with fail
      refine hft.out.mono ?_
      rintro e w6 ⟨rfl, rfl⟩
      go_wp2_with fail
      refine hspr.out.mono ?_
      rintro e w6 ⟨rfl, rfl⟩
      go_wp2_with fail
      go_ret
      exact ⟨rfl, hbel⟩

set_option maxRecDepth 100000 in
set_option maxHeartbeats 800000 in
theorem law04_staleMany (room : Nat) (h1 : 1 ≤ room) (h255 : room ≤ 255) (a : Option Addr) (len cap : Nat) (h : 200 < len) (hl : len ≤ 9223372036854775807) (w : World) :
    Calls Try.prog 3 #[.int .u8 room, .slice a len cap] w fun e w' => e = .returned (.bool true) ∧ Below w.heap.size w w' := by
  have hnw := hide (arR_new (R.start w) room h1 (by omega))
  have hr0 : ((room : Int) == 0) = false := by simp; omega
  go_enter Try.func3, Try.ntmps3
  go_wp2_with fail
  refine hnw.out.mono ?_
  rintro e w1 ⟨b, rfl, R1⟩
  replace R1 := hide R1
  clear hnw
  go_wp2_with fail
  refine (law04_awake _).mono ?_
  rintro e w7 ⟨rfl, hb7⟩
  have hbel7 := (R1.out.below hb7).done
  go_wp2
  go_ret
  exact ⟨rfl, hbel7⟩
set_option maxRecDepth 100000 in
set_option maxHeartbeats 800000 in
theorem law04_staleNone (a : Option Addr) (len cap : Nat) (w : World) :
    Calls Try.prog 3 #[.int .u8 0, .slice a len cap] w fun e w' => e = .returned (.bool true) ∧ Below w.heap.size w w' := by
  have hnw := hide (arena_new_no 0 (.inl (by decide)) w)
  go_enter Try.func3, Try.ntmps3
  go_wp2_with fail
  refine hnw.out.mono ?_
  rintro e w1 ⟨rfl, rfl⟩
  clear hnw
  go_wp2_with fail
  refine (law04_awake _).mono ?_
  rintro e w7 ⟨rfl, hb7⟩
  go_wp2
  go_ret
  exact ⟨rfl, hb7⟩
end Go.Proofs.Ytcoaemjoanbemaa
