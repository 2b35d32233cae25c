/- What the statements of the package quietuslaw02 come to. No condition. -/
import Derived.Test.YthfnbklloahdkaaCe
namespace Go.Proofs.Ythfnbklloahdkaa
open Go.RowKit

set_option maxHeartbeats 400000 in
theorem law02_awake (w : World) : Calls Try.prog 16 #[] w fun e w' => e = .returned (.bool true) ∧ Below w.heap.size w w' := by
  go_enter Try.func16, Try.ntmps16
  go_wp2_with fail
  refine (cells_new_ok (fun _ => 0) 1 1 (by decide) (by decide) _).mono ?_
  rintro e w1 ⟨o1, b, rfl, hc, he⟩
  go_wp2_with fail
  refine (cells_add hc 0 3 (by decide) (by decide)).mono ?_
  rintro e w2 ⟨o2, rfl, hc2, he2⟩
  go_wp2_with fail
  refine (cells_swap hc2 0 3 9 (by decide) (by decide) (by decide)).mono ?_
  rintro e w3 ⟨o3, rfl, hc3, he3⟩
  go_wp2_with fail
  refine (cells_load hc3 0 (by decide) (by decide)).mono ?_
  rintro e w4 ⟨rfl, rfl⟩
  go_wp2
  go_ret
  exact ⟨rfl, ((he.none.trans he2).trans he3).done (by decide)⟩

set_option maxHeartbeats 400000 in
theorem law02_full (n : Int) (h0 : 0 ≤ n) (h1 : n ≤ 255) (w : World) : Calls Try.prog 3 #[.int .u8 n] w fun e w' => e = .returned (.bool true) ∧ Below w.heap.size w w' := by
  have hm0 : 0 ≤ n % 5 := by omega
  have hm1 : n % 5 < 5 := by omega
  generalize hk : n % 5 = k at *
  by_cases hk2 : 2 < k
  · go_enter Try.func3, Try.ntmps3
    go_wp2_with fail
    refine (cells_new_ok (fun _ => 0) 1 1048574 (by decide) (by decide) _).mono ?_
    rintro e w1 ⟨o1, b, rfl, hc, he⟩
    have hl : (List.replicate (Int.toNat 1048574) (0 : Int)).length = 1048574 := by rw [List.length_replicate]; rfl
    generalize List.replicate (Int.toNat 1048574) (0 : Int) = xs at *
    replace hl := hide hl
    go_wp2_with fail
    refine (cells_grow_no hc k (.inr (by rw [hl.out]; omega))).mono ?_
    rintro e w2 ⟨rfl, rfl⟩
    go_wp2_with fail
    refine (law02_awake _).mono ?_
    rintro e w2 ⟨rfl, hb⟩
    have hc2 := hc.ext (Ext.of_below hb o1 (fun _ => False)) id
    go_wp2_with fail
    refine (cells_len hc2).mono ?_
    rintro e w3 ⟨rfl, rfl⟩
    rw [hl.out]
    go_wp2
    go_ret
    exact ⟨rfl, (he.done id).trans (hb.mono (he.size))⟩
  · have h3 : k ≤ 2 := by omega
    go_enter Try.func3, Try.ntmps3
    go_wp2_with fail
    refine (cells_new_ok (fun _ => 0) 1 1048574 (by decide) (by decide) _).mono ?_
    rintro e w1 ⟨o1, b, rfl, hc, he⟩
    have hl : (List.replicate (Int.toNat 1048574) (0 : Int)).length = 1048574 := by rw [List.length_replicate]; rfl
    generalize List.replicate (Int.toNat 1048574) (0 : Int) = xs at *
    replace hl := hide hl
    go_wp2_with fail
    refine (cells_grow_ok hc k hm0 (by rw [hl.out]; omega)).mono ?_
    rintro e w2 ⟨o2, rfl, hc2, he2⟩
    rw [hl.out]
    go_wp2_with fail
    refine (law02_awake _).mono ?_
    rintro e w3 ⟨rfl, hb⟩
    have hc3 := hc2.ext (Ext.of_below hb o2 (fun _ => False)) id
    go_wp2_with fail
    refine (cells_len hc3).mono ?_
    rintro e w4 ⟨rfl, rfl⟩
    have hl2 : (((xs ++ List.replicate k.toNat 0).length : Nat) : Int) = 1048574 + k := by rw [List.length_append, hl.out, List.length_replicate]; omega
    rw [hl2]
    go_wp2
    go_ret
    exact ⟨rfl, ((he.none.trans he2).done (by decide)).trans (hb.mono (Nat.le_trans he.size he2.size))⟩
end Go.Proofs.Ythfnbklloahdkaa
