/- What each function of the packages fnv and quietusref01 comes to. No condition but that a text is no longer than a machine bears. -/
import Derived.Test.YtcgfknpobifecaaGreatProg
import Derived.Test.YtcgfknpobifecaaGreatHp
namespace Go.Proofs.YtcgfknpobifecaaGreat
open Go.RowKit

/-- The sum of bytes, from a on. -/
def sumN (l : List UInt8) (a : Nat) : Nat := l.foldl (fun a c => ((a ^^^ c.toNat) * 16777619) % 4294967296) a
theorem sumN_cons (c : UInt8) (l : List UInt8) (a : Nat) : sumN (c :: l) a = sumN l (((a ^^^ c.toNat) * 16777619) % 4294967296) := by rw [sumN, List.foldl_cons, ← sumN]
theorem sumN_lt (l : List UInt8) (a : Nat) (h : a < 4294967296) : sumN l a < 4294967296 := by
  induction l generalizing a with
  | nil => rw [sumN, List.foldl_nil]; exact h
  | cons c l ih => rw [sumN_cons]; exact ih _ (Nat.mod_lt _ (by omega))
theorem sumN_snoc (l : List UInt8) (c : UInt8) (a : Nat) : sumN (l ++ [c]) a = ((sumN l a ^^^ c.toNat) * 16777619) % 4294967296 := by rw [sumN, List.foldl_append, List.foldl_cons, List.foldl_nil, ← sumN]
theorem take_byte (s : ByteArray) (k : Nat) (h : k < s.size) : s.data.toList.take (k + 1) = s.data.toList.take k ++ [s[k]] := by
  rw [List.take_succ_eq_append_getElem (by simpa using h)]; rfl
/-- The sum of a text. -/
def sumOf (s : ByteArray) : Nat := sumN s.data.toList 2166136261
theorem sumOf_lt (s : ByteArray) : sumOf s < 4294967296 := sumN_lt _ _ (by omega)
theorem byte_lt (c : UInt8) : c.toNat < 256 := c.toNat_lt

set_option maxHeartbeats 400000 in
theorem fnv_sum (s : ByteArray) (hs : s.size ≤ 9223372036854775807) (w : World) :
    Calls Tryz.prog 43 #[.string s] w fun e w' => e = .returned (.int .u32 (sumOf s)) ∧ w = w' := by
  go_enter Tryz.func43, Tryz.ntmps43
  go_wp2
  go_loop [3, 7] (fun x i => ∃ k : Nat, k ≤ s.size ∧ i = .int .i64 k ∧ x = .int .u32 (sumN (s.data.toList.take k) 2166136261)) (fun _ i => s.size - (intOf i).toNat)
  case atStart => exact ⟨0, Nat.zero_le _, rfl, rfl⟩
  case round =>
    obtain ⟨k, hk, rfl, rfl⟩ := hrel
    by_cases hlt : k < s.size
    · have hlt2 := sumN_lt (s.data.toList.take k) 2166136261 (by omega)
      have hsn : sumN (s.data.toList.take (k + 1)) 2166136261 = ((sumN (s.data.toList.take k) 2166136261 ^^^ s[k].toNat) * 16777619) % 4294967296 := by rw [take_byte s k hlt, sumN_snoc]
      have hb := byte_lt s[k]
      have hx := u32_xor_nat (sumN (s.data.toList.take k) 2166136261) s[k].toNat hlt2 (by omega)
      generalize h2 : sumN (s.data.toList.take (k + 1)) 2166136261 = a2 at *
      generalize h1 : sumN (s.data.toList.take k) 2166136261 = a1 at *
      have hz : (((a1 ^^^ s[k].toNat : Nat) : Int) * 16777619) % 4294967296 = (a2 : Int) := by rw [hsn]; omega
      replace hx := hide hx
      replace hz := hide hz
      replace h2 := hide h2
      replace h1 := hide h1
      clear hsn
      go_wp2
      go_round
      case rel => exact ⟨k + 1, by omega, by go_num, by rw [h2.out, ← hz.out, ← hx.out]⟩
      case measure => simp [intOf]; omega
    · have : k = s.size := by omega
      subst this
      have e : s.data.toList.take s.size = s.data.toList := List.take_of_length_le (by simp)
      rw [e]
      go_wp2
      go_ret
      exact ⟨rfl, rfl⟩

theorem xor_low (a c : Nat) (hc : c < 256) : a - a % 256 + ((a % 256) ^^^ c) = a ^^^ c := by
  have h1 : (a ^^^ c) % 256 = (a % 256) ^^^ (c % 256) := Nat.xor_mod_two_pow (n := 8)
  have h2 : (a ^^^ c) / 256 = (a / 256) ^^^ (c / 256) := Nat.xor_div_two_pow (n := 8)
  have h3 : c / 256 = 0 := by omega
  have h4 : c % 256 = c := by omega
  rw [h3, Nat.xor_zero] at h2
  rw [h4] at h1
  generalize (a % 256) ^^^ c = y at *
  generalize a ^^^ c = x at *
  omega
theorem xor_small (a c : Nat) (ha : a < 256) (hc : c < 256) : a ^^^ c < 256 := Nat.xor_lt_two_pow (n := 8) ha hc

theorem ref_step (a c a2 : Nat) (ha : a < 4294967296) (hc : c < 256) (h2 : a2 = ((a ^^^ c) * 16777619) % 4294967296) :
    (IntKind.u64.wrap (IntKind.u64.wrap ((a : Int) - (a : Int) % 256 + bits .xor .u64 ((a : Int) % 256) (c : Int)) * 16777619)).tmod 4294967296 = (a2 : Int) := by
  have hl := xor_low a c hc
  have hs1 := xor_small (a % 256) c (by omega) hc
  have hx := u64_xor_nat (a % 256) c (by omega) (by omega)
  have e : ((a : Int) % 256) = ((a % 256 : Nat) : Int) := by omega
  rw [e, hx]
  generalize (a % 256) ^^^ c = y at *
  generalize a ^^^ c = z at *
  have hz : (z : Int) = (a : Int) - ((a % 256 : Nat) : Int) + (y : Int) := by omega
  rw [← hz, IntKind.wrap_u64, IntKind.wrap_u64, Int.tmod_eq_emod_of_nonneg (by omega)]
  omega

set_option maxHeartbeats 400000 in
theorem ref01_sum (s : ByteArray) (hs : s.size ≤ 9223372036854775807) (w : World) :
    Calls Tryz.prog 51 #[.string s] w fun e w' => e = .returned (.int .u32 (sumOf s)) ∧ w = w' := by
  go_enter Tryz.func51, Tryz.ntmps51
  go_wp2
  go_loop [3, 4] (fun x i => ∃ k : Nat, k ≤ s.size ∧ i = .int .i64 k ∧ x = .int .u64 (sumN (s.data.toList.take k) 2166136261)) (fun _ i => s.size - (intOf i).toNat)
  case atStart => exact ⟨0, Nat.zero_le _, rfl, rfl⟩
  case round =>
    obtain ⟨k, hk, rfl, rfl⟩ := hrel
    have hlt2 := sumN_lt (s.data.toList.take k) 2166136261 (by omega)
    by_cases hlt : k < s.size
    · have hsn : sumN (s.data.toList.take (k + 1)) 2166136261 = ((sumN (s.data.toList.take k) 2166136261 ^^^ s[k].toNat) * 16777619) % 4294967296 := by rw [take_byte s k hlt, sumN_snoc]
      have hb := byte_lt s[k]
      generalize h2 : sumN (s.data.toList.take (k + 1)) 2166136261 = a2 at *
      generalize h1 : sumN (s.data.toList.take k) 2166136261 = a1 at *
      have hz := ref_step a1 s[k].toNat a2 hlt2 hb hsn
      replace h2 := hide h2
      replace h1 := hide h1
      replace hz := hide hz
      clear hsn
      go_wp2
      go_round
      case rel => exact ⟨k + 1, by omega, by go_num, by rw [h2.out, ← hz.out]⟩
      case measure => simp [intOf]; omega
    · have : k = s.size := by omega
      subst this
      have e : s.data.toList.take s.size = s.data.toList := List.take_of_length_le (by simp)
      rw [e] at hlt2 ⊢
      go_wp2
      go_ret
      exact ⟨rfl, rfl⟩

/-- The powers of two that may be. -/
def powB (n : Int) : Bool := (List.range 17).any fun j => decide (((2 ^ j : Nat) : Int) = n)
theorem powB_lt {n : Int} (h : powB n = true) : 1 ≤ n ∧ n ≤ 65536 := by
  obtain ⟨j, hj, he⟩ := List.any_eq_true.1 h
  have hj := List.mem_range.1 hj
  have he := of_decide_eq_true he
  have h1 : 2 ^ j ≤ 2 ^ 16 := Nat.pow_le_pow_right (by omega) (by omega)
  have h0 : 0 < 2 ^ j := Nat.two_pow_pos j
  omega
theorem powB_ex {n : Int} (h : powB n = true) : ∃ j, j ≤ 16 ∧ n = ((2 ^ j : Nat) : Int) := by
  obtain ⟨j, hj, he⟩ := List.any_eq_true.1 h
  have hj := List.mem_range.1 hj
  exact ⟨j, by omega, (of_decide_eq_true he).symm⟩

set_option maxHeartbeats 800000 in
theorem ref01_power (n : Int) (w : World) : Calls Tryz.prog 85 #[.int .i64 n] w fun e w' => e = .returned (.bool (powB n)) ∧ w = w' := by
  go_enter Tryz.func85, Tryz.ntmps85
  go_wp2
  go_loop [3] (fun x => ∃ j p : Nat, j ≤ 17 ∧ p = 2 ^ j ∧ x = .int .i64 p ∧ ∀ i, i < j → ((2 ^ i : Nat) : Int) ≠ n) (fun x => 131073 - (intOf x).toNat)
  case atStart => exact ⟨0, 1, by omega, rfl, rfl, fun _ h => by omega⟩
  case round =>
    obtain ⟨j, p, hj, hp, rfl, hno⟩ := hrel
    have hp0 : 0 < p := by rw [hp]; exact Nat.two_pow_pos j
    by_cases hj16 : j ≤ 16
    · have hp1 : p ≤ 65536 := by rw [hp]; exact Nat.pow_le_pow_right (n := 2) (by omega) hj16
      by_cases he : (p : Int) = n
      · have hB : powB n = true := List.any_eq_true.2 ⟨j, List.mem_range.2 (by omega), decide_eq_true (by rw [← hp]; exact he)⟩
        have he' : ((p : Int) == n) = true := by simp [he]
        replace hB := hide hB
        replace hno := hide hno
        clear hp he
        go_wp2
        go_ret
        exact ⟨by rw [hB.out]; rfl, rfl⟩
      · have hno2 : ∀ i, i < j + 1 → ((2 ^ i : Nat) : Int) ≠ n := fun i hi => by
          by_cases h : i = j
          · rw [h, ← hp]; exact he
          · exact hno i (by omega)
        have hp2 : 2 * p = 2 ^ (j + 1) := by rw [hp, Nat.pow_succ]; omega
        have he' : ((p : Int) == n) = false := by simp [he]
        clear hno hp he
        replace hno2 := hide hno2
        replace hp2 := hide hp2
        go_wp2
        go_round
        case rel => exact ⟨j + 1, 2 * p, by omega, hp2.out, by go_num, hno2.out⟩
        case measure => simp [intOf]; omega
    · have hp1 : 65536 < p := by
        have : j = 17 := by omega
        rw [hp, this]; omega
      have hB : powB n = false := by
        rw [powB, List.any_eq_false]
        intro i hi
        have := List.mem_range.1 hi
        simpa using hno i (by omega)
      replace hB := hide hB
      replace hno := hide hno
      clear hp
      go_wp2
      go_ret
      exact ⟨by rw [hB.out]; rfl, rfl⟩

/- math/bits.OnesCount64, as the code reckons it. -/
def oc1 (n : Int) : Int := IntKind.u64.wrap (bits .and .u64 (n / 2) 6148914691236517205 + bits .and .u64 n 6148914691236517205)
def oc2 (a : Int) : Int := IntKind.u64.wrap (bits .and .u64 (a / 4) 3689348814741910323 + bits .and .u64 a 3689348814741910323)
def oc3 (a : Int) : Int := bits .and .u64 (IntKind.u64.wrap (a / 16 + a)) 1085102592571150095
def oc4 (d a : Int) : Int := IntKind.u64.wrap (a + a / d)
def ocI (n : Int) : Int := oc4 4294967296 (oc4 65536 (oc4 256 (oc3 (oc2 (oc1 n)))))

set_option maxHeartbeats 400000 in
theorem ones64 (n : Int) (_h0 : 0 ≤ n) (_h : n ≤ 65536) (w : World) : Calls Tryz.prog 105 #[.int .u64 n] w fun e w' => e = .returned (.int .i64 (bits .and .i64 (wrap64 (ocI n)) 127)) ∧ w = w' := by
  go_enter Tryz.func105, Tryz.ntmps105
  go_wp2
  go_ret
  exact ⟨rfl, rfl⟩

def on1 (n : Nat) : Nat := ((n / 2) &&& 6148914691236517205) + (n &&& 6148914691236517205)
def on2 (a : Nat) : Nat := ((a / 4) &&& 3689348814741910323) + (a &&& 3689348814741910323)
def on3 (a : Nat) : Nat := (a / 16 + a) &&& 1085102592571150095
def on4 (d a : Nat) : Nat := a + a / d
def ocN (n : Nat) : Nat := on4 4294967296 (on4 65536 (on4 256 (on3 (on2 (on1 n)))))
theorem and_le (a b : Nat) : a &&& b ≤ a := Nat.and_le_left
theorem oc1_nat (n : Nat) (h : n ≤ 65536) : oc1 n = (on1 n : Int) ∧ on1 n ≤ 131072 := by
  have e : ((n : Int) / 2) = ((n / 2 : Nat) : Int) := by omega
  have h1 : bits .and .u64 ((n / 2 : Nat) : Int) 6148914691236517205 = (((n / 2) &&& 6148914691236517205 : Nat) : Int) := u64_and_nat (n / 2) 6148914691236517205 (by omega) (by omega)
  have h2 : bits .and .u64 (n : Int) 6148914691236517205 = ((n &&& 6148914691236517205 : Nat) : Int) := u64_and_nat n 6148914691236517205 (by omega) (by omega)
  have b1 := and_le (n / 2) 6148914691236517205
  have b2 := and_le n 6148914691236517205
  unfold oc1 on1
  rw [e]
  rw [h1, h2, IntKind.wrap_u64]
  generalize (n / 2) &&& 6148914691236517205 = x at *
  generalize n &&& 6148914691236517205 = y at *
  omega
theorem oc2_nat (n : Nat) (h : n ≤ 131072) : oc2 n = (on2 n : Int) ∧ on2 n ≤ 262144 := by
  have e : ((n : Int) / 4) = ((n / 4 : Nat) : Int) := by omega
  have h1 : bits .and .u64 ((n / 4 : Nat) : Int) 3689348814741910323 = (((n / 4) &&& 3689348814741910323 : Nat) : Int) := u64_and_nat (n / 4) 3689348814741910323 (by omega) (by omega)
  have h2 : bits .and .u64 (n : Int) 3689348814741910323 = ((n &&& 3689348814741910323 : Nat) : Int) := u64_and_nat n 3689348814741910323 (by omega) (by omega)
  have b1 := and_le (n / 4) 3689348814741910323
  have b2 := and_le n 3689348814741910323
  unfold oc2 on2
  rw [e]
  rw [h1, h2, IntKind.wrap_u64]
  generalize (n / 4) &&& 3689348814741910323 = x at *
  generalize n &&& 3689348814741910323 = y at *
  omega
theorem oc3_nat (n : Nat) (h : n ≤ 262144) : oc3 n = (on3 n : Int) ∧ on3 n ≤ 524288 := by
  have e : IntKind.u64.wrap ((n : Int) / 16 + n) = ((n / 16 + n : Nat) : Int) := by rw [IntKind.wrap_u64]; omega
  have h1 : bits .and .u64 ((n / 16 + n : Nat) : Int) 1085102592571150095 = (((n / 16 + n) &&& 1085102592571150095 : Nat) : Int) := u64_and_nat (n / 16 + n) 1085102592571150095 (by omega) (by omega)
  have b1 := and_le (n / 16 + n) 1085102592571150095
  unfold oc3 on3
  rw [e]
  rw [h1]
  exact ⟨rfl, by omega⟩
theorem oc4_nat (d n : Nat) (_hd : 0 < d) (h : n ≤ 4194304) : oc4 d n = (on4 d n : Int) ∧ on4 d n ≤ 2 * n := by
  have h1 : n / d ≤ n := Nat.div_le_self _ _
  have e : ((n : Int) / (d : Int)) = ((n / d : Nat) : Int) := by rw [Int.natCast_ediv]
  unfold oc4 on4
  rw [e, IntKind.wrap_u64]
  generalize n / d = x at *
  omega
theorem ocI_nat (n : Nat) (h : n ≤ 65536) : ocI n = (ocN n : Int) ∧ ocN n ≤ 4194304 := by
  obtain ⟨e1, b1⟩ := oc1_nat n h
  obtain ⟨e2, b2⟩ := oc2_nat _ b1
  obtain ⟨e3, b3⟩ := oc3_nat _ b2
  obtain ⟨e4', b4⟩ := oc4_nat 256 _ (by omega) (Nat.le_trans b3 (by omega))
  have e4 : oc4 256 (on3 (on2 (on1 n)) : Int) = _ := e4'
  obtain ⟨e5', b5⟩ := oc4_nat 65536 (on4 256 (on3 (on2 (on1 n)))) (by omega) (by omega)
  have e5 : oc4 65536 (on4 256 (on3 (on2 (on1 n))) : Int) = _ := e5'
  obtain ⟨e6', b6⟩ := oc4_nat 4294967296 (on4 65536 (on4 256 (on3 (on2 (on1 n))))) (by omega) (by omega)
  have e6 : oc4 4294967296 (on4 65536 (on4 256 (on3 (on2 (on1 n)))) : Int) = _ := e6'
  unfold ocI ocN
  rw [e1, e2, e3]
  rw [e4, e5, e6]
  exact ⟨rfl, by omega⟩
theorem ofInt_small (a : Nat) (ha : a < 9223372036854775808) : (BitVec.ofInt 64 (a : Int)).toNat = a := by
  rw [BitVec.ofInt_natCast, BitVec.toNat_ofNat]
  exact Nat.mod_eq_of_lt (by omega)
theorem and_int (a b : Nat) (ha : a < 9223372036854775808) (hb : b < 9223372036854775808) : bits .and .i64 (a : Int) (b : Int) = ((a &&& b : Nat) : Int) := by
  have hx := and_le a b
  show IntKind.i64.wrap ((BitVec.ofInt 64 (a : Int) &&& BitVec.ofInt 64 (b : Int)).toNat : Int) = _
  rw [BitVec.toNat_and, ofInt_small a ha, ofInt_small b hb, IntKind.wrap_i64]
  generalize a &&& b = x at *
  omega
/- A number of two bytes: each stage goes byte by byte. -/
theorem land_split (a b M m : Nat) (hb : b < 256) (hm : m < 256) : (a * 256 + b) &&& (M * 256 + m) = (a &&& M) * 256 + (b &&& m) := by
  have h1 : ((a * 256 + b) &&& (M * 256 + m)) % 256 = ((a * 256 + b) % 256) &&& ((M * 256 + m) % 256) := Nat.and_mod_two_pow (n := 8)
  have h2 : ((a * 256 + b) &&& (M * 256 + m)) / 256 = ((a * 256 + b) / 256) &&& ((M * 256 + m) / 256) := Nat.and_div_two_pow (n := 8)
  rw [show (a * 256 + b) % 256 = b by omega, show (M * 256 + m) % 256 = m by omega] at h1
  rw [show (a * 256 + b) / 256 = a by omega, show (M * 256 + m) / 256 = M by omega] at h2
  omega
theorem all256 {P : Nat → Bool} (h : (List.range 256).all P = true) (x : Nat) (hx : x < 256) : P x = true := List.all_eq_true.1 h x (List.mem_range.2 hx)
theorem mask1 (x : Nat) (hx : x < 256) : x &&& 6148914691236517205 = x &&& 85 ∧ x &&& 24019198012642645 = x &&& 85 ∧ (x % 128) &&& 85 = x &&& 85 := by
  have := all256 (P := fun x => (x &&& 6148914691236517205 == x &&& 85) && (x &&& 24019198012642645 == x &&& 85) && ((x % 128) &&& 85 == x &&& 85)) (by decide +kernel) x hx
  simpa [and_assoc] using this
theorem mask2 (x : Nat) (hx : x < 256) : x &&& 3689348814741910323 = x &&& 51 ∧ x &&& 14411518807585587 = x &&& 51 ∧ (x % 64) &&& 51 = x &&& 51 := by
  have := all256 (P := fun x => (x &&& 3689348814741910323 == x &&& 51) && (x &&& 14411518807585587 == x &&& 51) && ((x % 64) &&& 51 == x &&& 51)) (by decide +kernel) x hx
  simpa [and_assoc] using this
theorem mask3 (x : Nat) (hx : x < 256) : x &&& 1085102592571150095 = x &&& 15 ∧ x &&& 4238682002231055 = x &&& 15 ∧ x &&& 15 = x % 16 := by
  have := all256 (P := fun x => (x &&& 1085102592571150095 == x &&& 15) && (x &&& 4238682002231055 == x &&& 15) && (x &&& 15 == x % 16)) (by decide +kernel) x hx
  simpa [and_assoc] using this
theorem on1_two (a b : Nat) (ha : a < 256) (hb : b < 256) : on1 (a * 256 + b) = on1 a * 256 + on1 b := by
  have e : (a * 256 + b) / 2 = (a / 2) * 256 + (a % 2 * 128 + b / 2) := by omega
  unfold on1
  rw [e, show (6148914691236517205 : Nat) = 24019198012642645 * 256 + 85 by omega, land_split _ _ _ _ (by omega) (by omega), land_split _ _ _ _ hb (by omega)]
  rw [show (24019198012642645 * 256 + 85 : Nat) = 6148914691236517205 by omega]
  rw [(mask1 (a / 2) (by omega)).1, (mask1 a ha).1, (mask1 (b / 2) (by omega)).1, (mask1 b hb).1, (mask1 (a / 2) (by omega)).2.1, (mask1 a ha).2.1, ← (mask1 (a % 2 * 128 + b / 2) (by omega)).2.2, show (a % 2 * 128 + b / 2) % 128 = b / 2 by omega]
  omega
theorem on2_two (a b : Nat) (ha : a < 256) (hb : b < 256) : on2 (a * 256 + b) = on2 a * 256 + on2 b := by
  have e : (a * 256 + b) / 4 = (a / 4) * 256 + (a % 4 * 64 + b / 4) := by omega
  unfold on2
  rw [e, show (3689348814741910323 : Nat) = 14411518807585587 * 256 + 51 by omega, land_split _ _ _ _ (by omega) (by omega), land_split _ _ _ _ hb (by omega)]
  rw [show (14411518807585587 * 256 + 51 : Nat) = 3689348814741910323 by omega]
  rw [(mask2 (a / 4) (by omega)).1, (mask2 a ha).1, (mask2 (b / 4) (by omega)).1, (mask2 b hb).1, (mask2 (a / 4) (by omega)).2.1, (mask2 a ha).2.1, ← (mask2 (a % 4 * 64 + b / 4) (by omega)).2.2, show (a % 4 * 64 + b / 4) % 64 = b / 4 by omega]
  omega
theorem on3_two (a b : Nat) (ha : a ≤ 68) (hb : b ≤ 68) (ha4 : a % 16 ≤ 4) : on3 (a * 256 + b) = on3 a * 256 + on3 b := by
  have e : (a * 256 + b) / 16 + (a * 256 + b) = (a / 16 + a) * 256 + (a % 16 * 16 + (b / 16 + b)) := by omega
  unfold on3
  rw [e, show (1085102592571150095 : Nat) = 4238682002231055 * 256 + 15 by omega, land_split _ _ _ _ (by omega) (by omega)]
  rw [show (4238682002231055 * 256 + 15 : Nat) = 1085102592571150095 by omega]
  rw [(mask3 (a / 16 + a) (by omega)).2.1, (mask3 (a / 16 + a) (by omega)).1, (mask3 (a % 16 * 16 + (b / 16 + b)) (by omega)).2.2, (mask3 (b / 16 + b) (by omega)).1, (mask3 (b / 16 + b) (by omega)).2.2]
  omega
/-- The bits of a byte. -/
def popB (x : Nat) : Nat := on3 (on2 (on1 x))
theorem popB_is (x : Nat) (hx : x < 256) : on1 x < 256 ∧ on2 (on1 x) ≤ 68 ∧ on2 (on1 x) % 16 ≤ 4 ∧ popB x ≤ 8 ∧ (popB x = 0 ↔ x = 0) ∧ (popB x = 1 ↔ x ∈ [1, 2, 4, 8, 16, 32, 64, 128]) := by
  have := all256 (P := fun x => decide (on1 x < 256 ∧ on2 (on1 x) ≤ 68 ∧ on2 (on1 x) % 16 ≤ 4 ∧ popB x ≤ 8 ∧ (popB x = 0 ↔ x = 0) ∧ (popB x = 1 ↔ x ∈ [1, 2, 4, 8, 16, 32, 64, 128]))) (by decide +kernel) x hx
  exact of_decide_eq_true this
theorem ocN_two (a b : Nat) (ha : a < 256) (hb : b < 256) : ocN (a * 256 + b) &&& 127 = popB a + popB b := by
  obtain ⟨a1, a2, a3, a4, _⟩ := popB_is a ha
  obtain ⟨b1, b2, b3, b4, _⟩ := popB_is b hb
  unfold ocN
  rw [on1_two a b ha hb, on2_two _ _ a1 b1, on3_two _ _ a2 b2 a3]
  show on4 4294967296 (on4 65536 (on4 256 (popB a * 256 + popB b))) &&& 127 = _
  generalize popB a = p at *
  generalize popB b = q at *
  unfold on4
  rw [show p * 256 + q + (p * 256 + q) / 256 = p * 256 + (p + q) by omega, show (p * 256 + (p + q)) / 65536 = 0 by omega, Nat.add_zero, show (p * 256 + (p + q)) / 4294967296 = 0 by omega, Nat.add_zero]
  have := land_split p (p + q) 0 127 (by omega) (by omega)
  rw [Nat.zero_mul, Nat.zero_add, Nat.and_zero, Nat.zero_mul, Nat.zero_add] at this
  rw [this]
  have := all256 (P := fun x => x &&& 127 == x % 128) (by decide +kernel) (p + q) (by omega)
  simp only [beq_iff_eq] at this
  omega
theorem ocN_pow (n : Nat) (h0 : 1 ≤ n) (h : n ≤ 65536) : decide (ocN n &&& 127 = 1) = powB n := by
  by_cases hn : n = 65536
  · subst hn
    decide +kernel
  · have ha : n / 256 < 256 := by omega
    have hb : n % 256 < 256 := by omega
    have e : n = n / 256 * 256 + n % 256 := by omega
    have h1 := ocN_two (n / 256) (n % 256) ha hb
    rw [← e] at h1
    obtain ⟨_, _, _, _, a5, a6⟩ := popB_is _ ha
    obtain ⟨_, _, _, _, b5, b6⟩ := popB_is _ hb
    rw [h1, Bool.eq_iff_iff, decide_eq_true_eq]
    simp only [List.mem_cons, List.not_mem_nil, or_false] at a6 b6
    constructor
    · intro hs
      have hc : (popB (n / 256) = 1 ∧ popB (n % 256) = 0) ∨ (popB (n / 256) = 0 ∧ popB (n % 256) = 1) := by omega
      rw [a5, a6, b5, b6] at hc
      refine List.any_eq_true.2 ?_
      have hcases : n = 1 ∨ n = 2 ∨ n = 4 ∨ n = 8 ∨ n = 16 ∨ n = 32 ∨ n = 64 ∨ n = 128 ∨ n = 256 ∨ n = 512 ∨ n = 1024 ∨ n = 2048 ∨ n = 4096 ∨ n = 8192 ∨ n = 16384 ∨ n = 32768 := by omega
      rcases hcases with h | h | h | h | h | h | h | h | h | h | h | h | h | h | h | h <;> subst h
      all_goals first | exact ⟨0, by decide, rfl⟩ | exact ⟨1, by decide, rfl⟩ | exact ⟨2, by decide, rfl⟩ | exact ⟨3, by decide, rfl⟩ | exact ⟨4, by decide, rfl⟩ | exact ⟨5, by decide, rfl⟩ | exact ⟨6, by decide, rfl⟩ | exact ⟨7, by decide, rfl⟩ | exact ⟨8, by decide, rfl⟩ | exact ⟨9, by decide, rfl⟩ | exact ⟨10, by decide, rfl⟩ | exact ⟨11, by decide, rfl⟩ | exact ⟨12, by decide, rfl⟩ | exact ⟨13, by decide, rfl⟩ | exact ⟨14, by decide, rfl⟩ | exact ⟨15, by decide, rfl⟩
    · intro hp
      obtain ⟨j, hj, he⟩ := powB_ex hp
      have he : n = 2 ^ j := by omega
      have hj : j < 16 := by
        rcases Nat.lt_or_ge j 16 with h | h
        · exact h
        · have : j = 16 := by omega
          subst this
          omega
      clear h1 a5 a6 b5 b6 hp e h0 h hn ha hb
      subst he
      have all : ∀ k : Fin 16, popB (2 ^ k.1 / 256) + popB (2 ^ k.1 % 256) = 1 := by decide +kernel
      exact all ⟨j, hj⟩

theorem ones_result (n : Nat) (h : n ≤ 65536) : bits .and .i64 (wrap64 (ocI n)) 127 = ((ocN n &&& 127 : Nat) : Int) := by
  obtain ⟨e, b⟩ := ocI_nat n h
  have hw : wrap64 (ocI n) = (ocN n : Int) := by rw [e]; unfold wrap64; omega
  rw [hw]
  exact and_int (ocN n) 127 (by omega) (by omega)

set_option maxHeartbeats 400000 in
theorem ones (n m : Int) (w : World) (hc : ∀ w, Calls Tryz.prog 105 #[.int .u64 n] w fun e w' => e = .returned (.int .i64 m) ∧ w = w') :
    Calls Tryz.prog 73 #[.int .u64 n] w fun e w' => e = .returned (.int .i64 m) ∧ w = w' := by
  replace hc := hide hc
  go_enter Tryz.func73, Tryz.ntmps73
  go_wp2_with (go_at_call 105; refine (hc.out _).mono ?_; rintro e w' ⟨rfl, rfl⟩)
  go_ret
  exact ⟨rfl, rfl⟩

set_option maxHeartbeats 400000 in
theorem fnv_power (n : Int) (w : World) : Calls Tryz.prog 38 #[.int .i64 n] w fun e w' => e = .returned (.bool (powB n)) ∧ w = w' := by
  by_cases h : 1 ≤ n ∧ n ≤ 65536
  · obtain ⟨h1, h2⟩ := h
    have hc1 : ∀ w, Calls Tryz.prog 105 #[.int .u64 n] w fun e w' => e = .returned (.int .i64 ((ocN n.toNat &&& 127 : Nat) : Int)) ∧ w = w' := fun w => by
      have := ones64 n (by omega) h2 w
      obtain ⟨n, rfl⟩ := Int.eq_ofNat_of_zero_le (show 0 ≤ n by omega)
      rw [ones_result n (by omega)] at this
      exact this
    have hc : ∀ w, Calls Tryz.prog 73 #[.int .u64 n] w fun e w' => e = .returned (.int .i64 ((ocN n.toNat &&& 127 : Nat) : Int)) ∧ w = w' := fun w => ones _ _ _ hc1
    clear hc1
    have hp := ocN_pow n.toNat (by omega) (by omega)
    rw [show ((n.toNat : Nat) : Int) = n by omega] at hp
    generalize ocN n.toNat &&& 127 = m at *
    replace hc := hide hc
    cases hb : powB n with
    | true =>
      rw [hb] at hp
      have hm : m = 1 := of_decide_eq_true hp
      subst hm
      clear hb hp
      go_enter Tryz.func38, Tryz.ntmps38
      go_wp2_with (go_at_call 73; refine (hc.out _).mono ?_; rintro e w' ⟨rfl, rfl⟩)
      go_ret
      exact ⟨rfl, rfl⟩
    | false =>
      rw [hb] at hp
      have hm : m ≠ 1 := of_decide_eq_false hp
      have hm' : ((m : Int) == 1) = false := by simp; omega
      clear hb hp
      go_enter Tryz.func38, Tryz.ntmps38
      go_wp2_with (go_at_call 73; refine (hc.out _).mono ?_; rintro e w' ⟨rfl, rfl⟩)
      go_ret
      exact ⟨rfl, rfl⟩
  · have hb : powB n = false := by
      cases hb : powB n with
      | false => rfl
      | true => exact absurd (powB_lt hb) h
    rw [hb]
    clear hb
    by_cases h1 : 1 ≤ n
    · have h2 : ¬ n ≤ 65536 := by omega
      go_enter Tryz.func38, Tryz.ntmps38
      go_wp2
      go_ret
      exact ⟨rfl, rfl⟩
    · go_enter Tryz.func38, Tryz.ntmps38
      go_wp2
      go_ret
      exact ⟨rfl, rfl⟩

/-- A sum's bucket. -/
def bucketOf (sum n : Int) : Int := if powB n = true then sum % n else 0
theorem bucket_and (sum n : Int) (h0 : 0 ≤ sum) (h1 : sum < 4294967296) (hp : powB n = true) : bits .and .i64 sum (n - 1) = sum % n := by
  obtain ⟨j, hj, rfl⟩ := powB_ex hp
  obtain ⟨s, rfl⟩ := Int.eq_ofNat_of_zero_le h0
  have hpos : 0 < 2 ^ j := Nat.two_pow_pos j
  have hle : 2 ^ j ≤ 2 ^ 16 := Nat.pow_le_pow_right (by omega) hj
  have e : (((2 ^ j : Nat) : Int) - 1) = ((2 ^ j - 1 : Nat) : Int) := by omega
  rw [e, and_int s (2 ^ j - 1) (by omega) (by omega), Nat.and_two_pow_sub_one_eq_mod]
  rfl

set_option maxHeartbeats 400000 in
theorem fnv_bucket (sum n : Int) (h0 : 0 ≤ sum) (h1 : sum < 4294967296) (w : World) : Calls Tryz.prog 77 #[.int .u32 sum, .int .i64 n] w fun e w' => e = .returned (.int .i64 (bucketOf sum n)) ∧ w = w' := by
  have hc := fnv_power n w
  unfold bucketOf
  cases hp : powB n with
  | true =>
    have hl := powB_lt hp
    have hb := bucket_and sum n h0 h1 hp
    rw [hp] at hc
    rw [if_pos rfl]
    generalize sum % n = y at *
    clear hp
    replace hb := hide hb
    go_enter Tryz.func77, Tryz.ntmps77
    go_wp2_with (go_at_call 38; refine hc.mono ?_; rintro e w' ⟨rfl, rfl⟩)
    go_ret
    exact ⟨by rw [← hb.out]; rfl, rfl⟩
  | false =>
    rw [hp] at hc
    rw [if_neg (by decide)]
    clear hp
    go_enter Tryz.func77, Tryz.ntmps77
    go_wp2_with (go_at_call 38; refine hc.mono ?_; rintro e w' ⟨rfl, rfl⟩)
    go_ret
    exact ⟨rfl, rfl⟩

set_option maxHeartbeats 400000 in
theorem ref01_bucket (sum n : Int) (h0 : 0 ≤ sum) (h1 : sum < 4294967296) (w : World) : Calls Tryz.prog 52 #[.int .u32 sum, .int .i64 n] w fun e w' => e = .returned (.int .i64 (bucketOf sum n)) ∧ w = w' := by
  have hc := ref01_power n w
  unfold bucketOf
  cases hp : powB n with
  | true =>
    have hl := powB_lt hp
    rw [hp] at hc
    rw [if_pos rfl]
    have hl0 := hl.1
    have hl1 := hl.2
    have hm : n % 4294967296 = n := by omega
    have hm0 : 0 ≤ sum % n := Int.emod_nonneg _ (by omega)
    have hm1 : sum % n < n := Int.emod_lt_of_pos _ (by omega)
    clear hp hl
    go_enter Tryz.func52, Tryz.ntmps52
    go_wp2_with (go_at_call 85; refine hc.mono ?_; rintro e w' ⟨rfl, rfl⟩)
    go_ret
    exact ⟨rfl, rfl⟩
  | false =>
    rw [hp] at hc
    rw [if_neg (by decide)]
    clear hp
    go_enter Tryz.func52, Tryz.ntmps52
    go_wp2_with (go_at_call 85; refine hc.mono ?_; rintro e w' ⟨rfl, rfl⟩)
    go_ret
    exact ⟨rfl, rfl⟩
end Go.Proofs.YtcgfknpobifecaaGreat
