/- What the statements of the package quietuslaw01 come to. No condition but that a text is no longer than a machine bears. -/
import Derived.Test.YtcoaemjoanbemaaFn
namespace Go.Proofs.Ytcoaemjoanbemaa
open Go.RowKit

theorem sum_a : sumOf ⟨#[97]⟩ = 3826002220 := by decide +kernel
theorem pow_8 : powB 8 = true := by decide +kernel
theorem pow_0 : powB 0 = false := by decide +kernel

set_option maxHeartbeats 400000 in
theorem law01_awake (w : World) : Calls Try.prog 55 #[] w fun e w' => e = .returned (.bool true) ∧ w = w' := by
  have h1 := fnv_sum ⟨#[97]⟩ (by decide) w
  have h2 := fnv_power 8 w
  have h3 := fnv_power 0 w
  rw [sum_a] at h1
  rw [pow_8] at h2
  rw [pow_0] at h3
  replace h1 := hide h1
  replace h2 := hide h2
  replace h3 := hide h3
  go_enter Try.func55, Try.ntmps55
  go_wp2_with fail
  refine h1.out.mono ?_
  rintro e w' ⟨rfl, rfl⟩
  go_wp2_with fail
  refine h2.out.mono ?_
  rintro e w' ⟨rfl, rfl⟩
  go_wp2_with fail
  refine h3.out.mono ?_
  rintro e w' ⟨rfl, rfl⟩
  go_wp2
  go_ret
  exact ⟨rfl, rfl⟩

theorem bucket_splits (sum : Int) (k : Nat) (hk : k ≤ 15) :
    let n : Int := ((2 ^ k : Nat) : Int)
    0 ≤ bucketOf sum n ∧ bucketOf sum n < n ∧ (bucketOf sum (2 * n) = bucketOf sum n ∨ bucketOf sum (2 * n) = bucketOf sum n + n) := by
  have hp : ∀ j, j ≤ 16 → powB ((2 ^ j : Nat) : Int) = true := fun j hj => List.any_eq_true.2 ⟨j, List.mem_range.2 (by omega), decide_eq_true rfl⟩
  have h1 := hp k (by omega)
  have h2 := hp (k + 1) (by omega)
  have e : ((2 ^ (k + 1) : Nat) : Int) = 2 * ((2 ^ k : Nat) : Int) := by rw [Nat.pow_succ]; omega
  rw [e] at h2
  have hpos : 0 < 2 ^ k := Nat.two_pow_pos k
  simp only [bucketOf, if_pos h1, if_pos h2]
  generalize hn : ((2 ^ k : Nat) : Int) = n at *
  have hn0 : 0 < n := by omega
  have a1 := Int.emod_nonneg sum (show n ≠ 0 by omega)
  have a2 := Int.emod_lt_of_pos sum hn0
  have b1 := Int.emod_nonneg sum (show 2 * n ≠ 0 by omega)
  have b2 := Int.emod_lt_of_pos sum (show 0 < 2 * n by omega)
  have c : sum % n = sum % (2 * n) % n := by rw [Int.emod_emod_of_dvd _ (Int.dvd_mul_left 2 n)]
  refine ⟨a1, a2, ?_⟩
  rw [c]
  generalize sum % (2 * n) = y at *
  by_cases hy : y < n
  · rw [Int.emod_eq_of_lt b1 hy]; exact .inl rfl
  · right
    have : y % n = y - n := by
      have := Int.emod_eq_of_lt (a := y - n) (b := n) (by omega) (by omega)
      rwa [Int.sub_emod_right] at this
    omega

end Go.Proofs.Ytcoaemjoanbemaa
