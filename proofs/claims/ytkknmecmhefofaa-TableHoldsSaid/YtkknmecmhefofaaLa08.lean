/- quietuslaw08: Awake. No condition. -/
import Derived.Test.YtkknmecmhefofaaTl
namespace Go.Proofs.Ytkknmecmhefofaa
open Go.RowKit

theorem law08_run (b cb lb ab : Nat) : finM (frReady holdReady) (frStep holdStep) 9 0 (memNew b cb lb ab 1 1, hold0 0 7) =
    (3, true, ({ memNew b cb lb ab 1 1 with locks := [-1, 0, -1, -1, -1, -1] }, ⟨0, 7, 2, 0, (1, 3), 1, true, true⟩)) := by kernel_rfl
set_option maxRecDepth 100000 in
set_option maxHeartbeats 1600000 in
theorem law08_awake (w : World) : Calls Try.prog 63 #[] w fun e w' => e = .returned (.bool true) ∧ Below w.heap.size w w' := by
  have hn := hide (law05_made (R.start w) 1 1 (by decide) (by decide) (by decide) (by decide))
  go_enter Try.func63, Try.ntmps63
  go_wp2_with fail
  refine hn.out.mono ?_
  rintro e w1 ⟨b, cb, lb, ab, rfl, h1⟩
  clear hn
  have hnw := hide (hold_new h1 0 7)
  clear h1
  go_wp2_with fail
  refine hnw.out.mono ?_
  rintro e w2 ⟨b2, rfl, h2⟩
  have hfin := hide (fin_R holdK h2 (t := 1) (u := 2) rfl rfl (by decide) (HoldOk.start 0 7 (by decide) (by decide) (by decide)) 9 (by decide) (law08_run b cb lb ab))
  clear hnw h2
  go_wp2_with fail
  refine hfin.out.mono ?_
  rintro e w3 ⟨rfl, h3⟩
  replace h3 := hide h3
  clear hfin
  go_wp2_with fail
  refine (law05_awake _).mono ?_
  rintro e w4 ⟨rfl, hb4⟩
  have h4 := h3.out.below hb4
  clear h3 hb4
  have hlk : Hid (Calls _ _ _ _ (fun e w' => e = .returned (.int .i64 1) ∧ w4 = w')) := hide (hold_lock h4 (u := 2) rfl)
  have hds : Hid (Calls _ _ _ _ (Does _ (.agg #[.int .i64 1, .int .i64 3]))) := hide (hold_desc h4 (u := 2) rfl)
  clear h4
  go_wp2_with fail
  refine hlk.out.mono ?_
  rintro e w5 ⟨rfl, rfl⟩
  clear hlk
  go_wp2_with fail
  refine hds.out.mono ?_
  rintro e w5 ⟨he, h5⟩
  have he' : e = .returned (.agg #[.int .i64 1, .int .i64 3]) := he
  subst he'
  clear he
  have hfd : ∀ w : World, (Instr.field 67 (.agg #[.int .i64 1, .int .i64 3]) 0).run Try.prog w = .ok (.int .i64 1) w := fun _ => by kernel_rfl
  obtain ⟨tv, wv, hb⟩ := h5.memHdr (t := 1) rfl
  have hho : Hid (Calls _ _ _ _ (fun e w' => e = .returned (.int .i64 0) ∧ w5 = w')) := hide (memR_holder h5 (t := 1) rfl 1 (by decide) (by decide))
  have hdr := hide (hold_drop h5 (t := 1) (u := 2) rfl rfl (by decide) ⟨by show (2 : Nat) ≤ 3; decide, by show (0 : Int) ≤ 7 ∧ (7 : Int) ≤ 4294967295; decide, by show (0 : Int) ≤ 1 ∧ (1 : Int) ≤ 4; decide, fun _ => by show (1 : Int) ≤ 1; decide, by show (0 : Nat) ≤ 1000; decide, by show (0 : Int) ≤ 0; decide, by show (0 : Int) ≤ 18446744073709551615; decide⟩ rfl)
  dsimp only [memNew] at hb
  clear h5 hds
  go_wp2_with fail
  refine hho.out.mono ?_
  rintro e w6 ⟨rfl, rfl⟩
  clear hho
  go_wp2_with fail
  refine hdr.out.mono ?_
  rintro e w6 ⟨rfl, h6⟩
  obtain ⟨tv, wv, hb6⟩ := h6.memHdr (t := 1) rfl
  have hho : Hid (Calls _ _ _ _ (fun e w' => e = .returned (.int .i64 (-1)) ∧ w6 = w')) := hide (memR_holder h6 (t := 1) rfl 1 (by decide) (by decide))
  have hb7 : blk w6 b = some (.cells #[.pointer (some ⟨cb, 0, none⟩), .pointer (some ⟨lb, 0, none⟩), .pointer (some ⟨ab, 0, none⟩), .int .i64 ((1 : Nat) : Int), tv, wv] 49 (0, 0)) := hb6
  have hbel := h6.done
  clear h6 hdr hb hb6
  go_wp2_with fail
  refine hho.out.mono ?_
  rintro e w7 ⟨rfl, rfl⟩
  go_wp2
  go_ret
  exact ⟨rfl, hbel⟩
end Go.Proofs.Ytkknmecmhefofaa
