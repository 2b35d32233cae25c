/- What the statements of the package quietuslaw01 come to. No condition but that a text is no longer than a machine bears. -/
import Derived.Test.YthfnbklloahdkaaFn
namespace Go.Proofs.Ythfnbklloahdkaa
open Go.RowKit

theorem sum_a : sumOf ⟨#[97]⟩ = 3826002220 := by decide +kernel
theorem pow_8 : powB 8 = true := by decide +kernel
theorem pow_0 : powB 0 = false := by decide +kernel

set_option maxHeartbeats 400000 in
theorem law01_awake (w : World) : Calls Try.prog 33 #[] w fun e w' => e = .returned (.bool true) ∧ w = w' := by
  have h1 := fnv_sum ⟨#[97]⟩ (by decide) w
  have h2 := fnv_power 8 w
  have h3 := fnv_power 0 w
  rw [sum_a] at h1
  rw [pow_8] at h2
  rw [pow_0] at h3
  replace h1 := hide h1
  replace h2 := hide h2
  replace h3 := hide h3
  go_enter Try.func33, Try.ntmps33
  go_wp2_with fail
  refine h1.out.mono ?_
  rintro e w' ⟨rfl, rfl⟩
  go_wp2_with fail
  refine h2.out.mono ?_
  rintro e w' ⟨rfl, rfl⟩
  go_wp2_with fail
  refine h3.out.mono ?_
  rintro e w' ⟨rfl, rfl⟩
  go_wp2
  go_ret
  exact ⟨rfl, rfl⟩

set_option maxHeartbeats 400000 in
theorem law01_tells (s : ByteArray) (hs : s.size ≤ 9223372036854775807) (sum n : Int) (h0 : 0 ≤ sum) (h1 : sum ≤ 4294967295) (w : World) :
    Calls Try.prog 6 #[.string s, .int .u32 sum, .int .i64 n] w fun e w' => e = .returned (.bool true) ∧ w = w' := by
  by_cases hl : 2000 < s.size
  · go_enter Try.func6, Try.ntmps6
    go_wp2_with fail
    refine (law01_awake _).mono ?_
    rintro e w' ⟨rfl, rfl⟩
    go_wp2
    go_ret
    exact ⟨rfl, rfl⟩
  · go_enter Try.func6, Try.ntmps6
    go_wp2_with fail
    refine (law01_awake _).mono ?_
    rintro e w' ⟨rfl, rfl⟩
    go_wp2_with fail
    refine (fnv_sum s hs _).mono ?_
    rintro e w' ⟨rfl, rfl⟩
    go_wp2_with fail
    refine (ref01_sum s hs _).mono ?_
    rintro e w' ⟨rfl, rfl⟩
    go_wp2_with fail
    refine (fnv_power n _).mono ?_
    rintro e w' ⟨rfl, rfl⟩
    go_wp2_with fail
    refine (ref01_power n _).mono ?_
    rintro e w' ⟨rfl, rfl⟩
    go_wp2_with fail
    refine (fnv_bucket sum n h0 (by omega) _).mono ?_
    rintro e w' ⟨rfl, rfl⟩
    go_wp2_with fail
    refine (ref01_bucket sum n h0 (by omega) _).mono ?_
    rintro e w' ⟨rfl, rfl⟩
    go_wp2
    go_ret
    exact ⟨rfl, rfl⟩

theorem bucket_splits (sum : Int) (k : Nat) (hk : k ≤ 15) :
    let n : Int := ((2 ^ k : Nat) : Int)
    0 ≤ bucketOf sum n ∧ bucketOf sum n < n ∧ (bucketOf sum (2 * n) = bucketOf sum n ∨ bucketOf sum (2 * n) = bucketOf sum n + n) := by
  have hp : ∀ j, j ≤ 16 → powB ((2 ^ j : Nat) : Int) = true := fun j hj => List.any_eq_true.2 ⟨j, List.mem_range.2 (by omega), decide_eq_true rfl⟩
  have h1 := hp k (by omega)
  have h2 := hp (k + 1) (by omega)
  have e : ((2 ^ (k + 1) : Nat) : Int) = 2 * ((2 ^ k : Nat) : Int) := by rw [Nat.pow_succ]; omega
  rw [e] at h2
  have hpos : 0 < 2 ^ k := Nat.two_pow_pos k
  simp only [bucketOf, if_pos h1, if_pos h2]
  generalize hn : ((2 ^ k : Nat) : Int) = n at *
  have hn0 : 0 < n := by omega
  have a1 := Int.emod_nonneg sum (show n ≠ 0 by omega)
  have a2 := Int.emod_lt_of_pos sum hn0
  have b1 := Int.emod_nonneg sum (show 2 * n ≠ 0 by omega)
  have b2 := Int.emod_lt_of_pos sum (show 0 < 2 * n by omega)
  have c : sum % n = sum % (2 * n) % n := by rw [Int.emod_emod_of_dvd _ (Int.dvd_mul_left 2 n)]
  refine ⟨a1, a2, ?_⟩
  rw [c]
  generalize sum % (2 * n) = y at *
  by_cases hy : y < n
  · rw [Int.emod_eq_of_lt b1 hy]; exact .inl rfl
  · right
    have : y % n = y - n := by
      have := Int.emod_eq_of_lt (a := y - n) (b := n) (by omega) (by omega)
      rwa [Int.sub_emod_right] at this
    omega

set_option maxHeartbeats 400000 in
theorem law01_splits (sum k : Int) (h0 : 0 ≤ sum) (h1 : sum ≤ 4294967295) (k0 : 0 ≤ k) (k1 : k ≤ 255) (w : World) :
    Calls Try.prog 7 #[.int .u32 sum, .int .u8 k] w fun e w' => e = .returned (.bool true) ∧ w = w' := by
  have hB := bucket_splits sum (k % 16).toNat (by omega)
  have hle : 2 ^ (k % 16).toNat ≤ 2 ^ 15 := Nat.pow_le_pow_right (by omega) (by omega)
  have hpos : 0 < 2 ^ (k % 16).toNat := Nat.two_pow_pos _
  have hw : wrap64 (2 ^ (k % 16).toNat) = ((2 ^ (k % 16).toNat : Nat) : Int) := by
    have e : (2 : Int) ^ (k % 16).toNat = ((2 ^ (k % 16).toNat : Nat) : Int) := by rw [Int.natCast_pow]; rfl
    rw [e]
    unfold wrap64
    omega
  simp only at hB
  have hn : ∃ n : Int, wrap64 (2 ^ (k % 16).toNat) = n ∧ 1 ≤ n ∧ n ≤ 32768 ∧ 0 ≤ bucketOf sum n ∧ bucketOf sum n < n ∧ (bucketOf sum (2 * n) = bucketOf sum n ∨ bucketOf sum (2 * n) = bucketOf sum n + n) :=
    ⟨_, hw, by omega, by omega, hB⟩
  clear hB hw hle hpos
  obtain ⟨n, hw, n1, n2, hb1, hb2, hb3⟩ := hn
  replace hw := hide hw
  replace hb3 := hide hb3
  go_enter Try.func7, Try.ntmps7
  go_wp2_with fail
  rw [hw.out]
  clear hw
  refine (fnv_bucket sum n h0 (by omega) _).mono ?_
  rintro e w' ⟨rfl, rfl⟩
  go_wp2_with fail
  refine (fnv_bucket sum (2 * n) h0 (by omega) _).mono ?_
  rintro e w' ⟨rfl, rfl⟩
  generalize bucketOf sum n = x at *
  generalize bucketOf sum (2 * n) = y at *
  rcases hb3.out with h | h
  · have hyx : (y == x) = true := by simp [h]
    clear hb3 h
    go_wp2_with fail
    refine (law01_awake _).mono ?_
    rintro e w' ⟨rfl, rfl⟩
    go_wp2
    go_ret
    exact ⟨rfl, rfl⟩
  · have hyx : (y == x) = false := by simp; omega
    have hyn : (y == x + n) = true := by simp [h]
    clear hb3 h
    go_wp2_with fail
    refine (law01_awake _).mono ?_
    rintro e w' ⟨rfl, rfl⟩
    go_wp2
    go_ret
    exact ⟨rfl, rfl⟩
end Go.Proofs.Ythfnbklloahdkaa
