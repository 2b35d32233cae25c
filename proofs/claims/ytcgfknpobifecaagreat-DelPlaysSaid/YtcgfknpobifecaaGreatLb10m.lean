/- quietuslaw10, quietusref10: Awake, short, Get, Laid. Condition (Laid): the pairs are few. quietuslaw08: Awake. No condition. -/
import Derived.Test.YtcgfknpobifecaaGreatLa10
import Derived.Test.YtcgfknpobifecaaGreatLa06
import Derived.Test.YtcgfknpobifecaaGreatPrm
import Derived.Deep.DeepCutAuto
import Derived.Deep.CutBlock
import Derived.Deep.RegionHeld3
import Derived.Test.YtcgfknpobifecaaGreatTkm
namespace Go.Proofs.YtcgfknpobifecaaGreat
open Go.RowKit

def law10_st (b cb lb ab : Nat) : MemS × GetS := ({ memNew b cb lb ab 1 1 with cells := [1, 0, 0, 0] }, ⟨0, ⟨#[97]⟩, 3, ⟨0, true, 1⟩, some { walk0 3 (sumOf ⟨#[97]⟩) ⟨#[97]⟩ with looking := true }⟩)
theorem law10_run (b cb lb ab : Nat) : finM (frReady fun _ _ => true) (frStep getStep) 20 0 (memNew b cb lb ab 1 1, get0 0 ⟨#[97]⟩) = (5, true, law10_st b cb lb ab) := by kernel_rfl
set_option maxRecDepth 100000 in
set_option maxHeartbeats 1600000 in
theorem law10_awake (w : World) : Calls Tryz.prog 36 #[] w fun e w' => e = .returned (.bool true) ∧ Below w.heap.size w w' := by
  have hn := hide (law05_made (R.start w) 1 1 (by decide) (by decide) (by decide) (by decide))
  go_enter Tryz.func36, Tryz.ntmps36
  go_wp2_with fail
  refine hn.out.mono ?_
  rintro e w1 ⟨b, cb, lb, ab, rfl, h1⟩
  clear hn
  have hnw := hide (get_new h1 0 ⟨#[97]⟩)
  clear h1
  go_wp2_with fail
  refine hnw.out.mono ?_
  rintro e w2 ⟨b2, rfl, h2⟩
  have hfin := hide (fin_R getK h2 (t := 1) (u := 2) rfl rfl (by decide) (GetOk.start _ 0 ⟨#[97]⟩ (by show (0 : Nat) < 1; decide) (by show (1 : Nat) ≤ 9223372036854775807; decide)) 20 (by decide) (law10_run b cb lb ab))
  clear hnw h2
  go_wp2_with fail
  refine hfin.out.mono ?_
  rintro e w3 ⟨rfl, h3⟩
  clear hfin
  have hf : Hid (Calls _ _ _ _ (Does _ (.tuple #[.string ⟨#[]⟩, .bool false]))) := hide (get_val h3 (u := 2) rfl)
  clear h3
  go_wp2_with fail
  refine hf.out.mono ?_
  rintro e w4 ⟨rfl, h4⟩
  replace h4 := hide h4
  clear hf
  go_wp2_with fail
  refine (law06_awake _).mono ?_
  rintro e w5 ⟨rfl, hb5⟩
  have h5 := hide (h4.out.below hb5)
  clear h4 hb5
  go_wp2_with fail
  refine (law09_awake _).mono ?_
  rintro e w6 ⟨rfl, hb6⟩
  have hbel := (h5.out.below hb6).done
  go_wp2
  go_ret
  exact ⟨rfl, hbel⟩

set_option maxHeartbeats 800000 in
theorem ref10_get {w : World} {v : Value} {ps : List Pk} (hv : FrAt w w.heap.size 2 v (ps.map pk10)) (key : ByteArray) :
    Calls Tryz.prog 11 #[v, .string key] w fun e w' => e = .returned (.tuple #[.string (refGet key ps).1, .bool (refGet key ps).2]) ∧ w = w' := by
  obtain ⟨a, cap, rfl, hlen, hr⟩ := hv
  rw [List.length_map] at *
  go_enter Tryz.func11, Tryz.ntmps11
  replace hr := hide hr
  go_wp2_with fail
  go_loop [6] (fun i => ∃ k : Nat, k ≤ ps.length ∧ i = .int .i64 k ∧ Hid (refGet key ps = refGet key (ps.drop k))) (fun i => ps.length - (intOf i).toNat)
  case atStart => exact ⟨0, Nat.zero_le _, rfl, hide rfl⟩
  case round =>
    obtain ⟨k, hk, rfl, hg⟩ := hrel
    by_cases hlt : k < ps.length
    · obtain ⟨b, off, rfl, hbs, hc⟩ := hr.out k hlt
      have hget : (ps.map pk10).getD k [] = pk10 (ps.getD k pk0) := by simp [hlt]
      rw [hget] at hc
      obtain ⟨y0, e0, c0⟩ := hc 0 (by decide)
      obtain ⟨y1, e1, c1⟩ := hc 1 (by decide)
      obtain rfl : Value.string (ps.getD k pk0).key = y0 := Option.some.inj e0
      obtain rfl : Value.string (ps.getD k pk0).val = y1 := Option.some.inj e1
      simp only [Nat.add_zero] at c0
      have hd : ps.drop k = ps.getD k pk0 :: ps.drop (k + 1) := by
        rw [List.drop_eq_getElem_cons hlt]
        simp [hlt]
      have hg2 := hg.out
      rw [hd] at hg2
      clear hc hget e0 e1 hd
      generalize ps.getD k pk0 = p at *
      obtain ⟨pk, pv⟩ := p
      dsimp only at c0 c1
      by_cases hky : pk = key
      · rw [refGet, if_pos hky] at hg2
        subst hky
        replace hg2 := hide hg2
        clear hg
        go_wp2
        go_ret2
        exact ⟨by rw [hg2.out]; rfl, rfl⟩
      · have hk1 : (pk.toList == key.toList) = false := by
          rw [beq_eq_false_iff_ne]
          exact fun x => hky (ByteArray.toList_inj' x)
        rw [refGet, if_neg hky] at hg2
        replace hg2 := hide hg2
        clear hky hg
        go_wp2
        go_round
        case rel => exact ⟨k + 1, by omega, by go_num, hg2⟩
        case measure => simp [intOf]; omega
    · obtain rfl : k = ps.length := by omega
      have hg2 := hg.out
      rw [List.drop_length, refGet] at hg2
      replace hg2 := hide hg2
      clear hg
      go_wp2
      go_ret2
      exact ⟨by rw [hg2.out]; rfl, rfl⟩
def ShortPost (n : Nat) (w : World) (e : Ending) (w' : World) : Prop := ∃ x : Bool, e = .returned (.bool x) ∧ (x = true → n ≤ 60) ∧ Below w.heap.size w w'
/-- What Laid's loop keeps. -/
def RelL (w : World) (b cb lb ab D : Nat) (ps : List Pk) (n j : Nat) (wr : World) : Prop := R [BaseK w, MemK (laidM b cb lb ab ps n j), StK D #[.int .i64 n, .int .i64 5] 83] wr
end Go.Proofs.YtcgfknpobifecaaGreat

namespace Go.Proofs.YtcgfknpobifecaaGreat
open Go.RowKit

theorem law08_run (b cb lb ab : Nat) : finM (frReady holdReady) (frStep holdStep) 9 0 (memNew b cb lb ab 1 1, hold0 0 7) =
    (3, true, ({ memNew b cb lb ab 1 1 with locks := [-1, 0, -1, -1, -1, -1] }, ⟨0, 7, 2, 0, (1, 3), 1, true, true⟩)) := by kernel_rfl
set_option maxRecDepth 100000 in
set_option maxHeartbeats 1600000 in
theorem law08_awake (w : World) : Calls Tryz.prog 35 #[] w fun e w' => e = .returned (.bool true) ∧ Below w.heap.size w w' := by
  have hn := hide (law05_made (R.start w) 1 1 (by decide) (by decide) (by decide) (by decide))
  go_enter Tryz.func35, Tryz.ntmps35
  go_wp2_with fail
  refine hn.out.mono ?_
  rintro e w1 ⟨b, cb, lb, ab, rfl, h1⟩
  clear hn
  have hnw := hide (hold_new h1 0 7)
  clear h1
  go_wp2_with fail
  refine hnw.out.mono ?_
  rintro e w2 ⟨b2, rfl, h2⟩
  have hfin := hide (fin_R holdK h2 (t := 1) (u := 2) rfl rfl (by decide) (HoldOk.start 0 7 (by decide) (by decide) (by decide)) 9 (by decide) (law08_run b cb lb ab))
  clear hnw h2
  go_wp2_with fail
  refine hfin.out.mono ?_
  rintro e w3 ⟨rfl, h3⟩
  replace h3 := hide h3
  clear hfin
  go_wp2_with fail
  refine (law05_awake _).mono ?_
  rintro e w4 ⟨rfl, hb4⟩
  have h4 := h3.out.below hb4
  clear h3 hb4
  have hlk : Hid (Calls _ _ _ _ (fun e w' => e = .returned (.int .i64 1) ∧ w4 = w')) := hide (hold_lock h4 (u := 2) rfl)
  have hds : Hid (Calls _ _ _ _ (Does _ (.agg #[.int .i64 1, .int .i64 3]))) := hide (hold_desc h4 (u := 2) rfl)
  clear h4
  go_wp2_with fail
  refine hlk.out.mono ?_
  rintro e w5 ⟨rfl, rfl⟩
  clear hlk
  go_wp2_with fail
  refine hds.out.mono ?_
  rintro e w5 ⟨he, h5⟩
  have he' : e = .returned (.agg #[.int .i64 1, .int .i64 3]) := he
  subst he'
  clear he
  have hfd : ∀ w : World, (Instr.field 83 (.agg #[.int .i64 1, .int .i64 3]) 0).run Tryz.prog w = .ok (.int .i64 1) w := fun _ => by kernel_rfl
  obtain ⟨tv, wv, hb⟩ := h5.memHdr (t := 1) rfl
  have hho : Hid (Calls _ _ _ _ (fun e w' => e = .returned (.int .i64 0) ∧ w5 = w')) := hide (memR_holder h5 (t := 1) rfl 1 (by decide) (by decide))
  have hdr := hide (hold_drop h5 (t := 1) (u := 2) rfl rfl (by decide) ⟨by show (2 : Nat) ≤ 3; decide, by show (0 : Int) ≤ 7 ∧ (7 : Int) ≤ 4294967295; decide, by show (0 : Int) ≤ 1 ∧ (1 : Int) ≤ 4; decide, fun _ => by show (1 : Int) ≤ 1; decide, by show (0 : Nat) ≤ 1000; decide, by show (0 : Int) ≤ 0; decide, by show (0 : Int) ≤ 18446744073709551615; decide⟩ rfl)
  dsimp only [memNew] at hb
  clear h5 hds
  go_wp2_with fail
  refine hho.out.mono ?_
  rintro e w6 ⟨rfl, rfl⟩
  clear hho
  go_wp2_with fail
  refine hdr.out.mono ?_
  rintro e w6 ⟨rfl, h6⟩
  obtain ⟨tv, wv, hb6⟩ := h6.memHdr (t := 1) rfl
  have hho : Hid (Calls _ _ _ _ (fun e w' => e = .returned (.int .i64 (-1)) ∧ w6 = w')) := hide (memR_holder h6 (t := 1) rfl 1 (by decide) (by decide))
  have hb7 : blk w6 b = some (.cells #[.pointer (some ⟨cb, 0, none⟩), .pointer (some ⟨lb, 0, none⟩), .pointer (some ⟨ab, 0, none⟩), .int .i64 ((1 : Nat) : Int), tv, wv] 36 (0, 0)) := hb6
  have hbel := h6.done
  clear h6 hdr hb hb6
  go_wp2_with fail
  refine hho.out.mono ?_
  rintro e w7 ⟨rfl, rfl⟩
  go_wp2
  go_ret
  exact ⟨rfl, hbel⟩
end Go.Proofs.YtcgfknpobifecaaGreat
