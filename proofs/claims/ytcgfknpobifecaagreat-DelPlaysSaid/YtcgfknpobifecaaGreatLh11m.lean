/- quietuslaw11: PutPlays, whole. No condition but its arguments' sizes. (Written by wip/gen/gen11.py from wip/gen/Lh11.body, which mk_Lh11.py wrote.) quietuslaw12: DelPlays, whole. No condition but its arguments' sizes. (Written by wip/gen/gen11.py from wip/gen/Lh12.body, which mk_Lh12.py wrote.) -/
import Derived.Test.YtcgfknpobifecaaGreatLg11
import Derived.Test.YtcgfknpobifecaaGreatLg12
namespace Go.Proofs.YtcgfknpobifecaaGreat
open Go.RowKit

def findBk (n : Nat) : Code → Option Code
  | .block m c => if m = n then some (.block m c) else findBk n c
  | .seq a b => match findBk n a with
    | some c => some c
    | none => findBk n b
  | .loop c => findBk n c
  | .scope c => findBk n c
  | .cond _ a b => match findBk n a with
    | some c => some c
    | none => findBk n b
  | _ => none
noncomputable def loopP : Code := (Tryz.f3.body.bind (findBk 0)).getD .skip
/-- What holds behind the loop. -/
def PostLP (w : World) (b room n base k : Nat) (fv lv s66 s67 : Value) : Exit → Act → World → Prop
  | .normal, a, w' => ∃ wv, StP b room fv lv wv s66 s67 a ∧ RelP w b room n base k wv w'
  | .ret, a, w' => RetP a ∧ Below w.heap.size w w'
  | _, _, _ => False
/-- What the loop keeps. -/
def InvP (w : World) (b room n base len : Nat) (fv lv : Value) (a : Act) (w' : World) : Prop :=
  ∃ (k : Nat) (wv : Value), k ≤ len ∧ StP b room fv lv wv (.int .i64 len) (.int .i64 k) a ∧ RelP w b room n base k wv w'
set_option maxRecDepth 1000000 in
theorem StP.is {b room : Nat} {fv lv wv s66 s67 : Value} {a : Act} (h : StP b room fv lv wv s66 s67 a) : a.tmps.getD 67 undef = s67 := by
  obtain ⟨l, rfl, _, _, _, _, _, _, _, z67⟩ := h
  rw [← z67]
  simp [Array.getD, List.getD_eq_getElem?_getD]
  split <;> simp_all
set_option maxRecDepth 1000000 in
set_option maxHeartbeats 4000000 in
theorem RetP.open {a : Act} (h : RetP a) : ∃ f : Nat → Value, a = ⟨#[f 0, f 1, f 2, f 3, f 4, f 5, f 6, f 7, .bool true, f 9, f 10, f 11, f 12, f 13, f 14, f 15, f 16, f 17, f 18, f 19, f 20, f 21, f 22, f 23, f 24, f 25, f 26, f 27, f 28, f 29, f 30, f 31, f 32, f 33, f 34, f 35, f 36, f 37, f 38, f 39, f 40, f 41, f 42, f 43, f 44, f 45, f 46, f 47, f 48, f 49, f 50, f 51, f 52, f 53, f 54, f 55, f 56, f 57, f 58, f 59, f 60, f 61, f 62, f 63, f 64, f 65, f 66, f 67, f 68, f 69, f 70, f 71, f 72, f 73, f 74, f 75, f 76, f 77, f 78, f 79, f 80, f 81, f 82, f 83, f 84, f 85, f 86, f 87, f 88, f 89, f 90, f 91, f 92, f 93, f 94, f 95, f 96, f 97, f 98, f 99, f 100, f 101, f 102, f 103, f 104, f 105, f 106, f 107, f 108, f 109, f 110, f 111, f 112, f 113, f 114, f 115, f 116, f 117, f 118, f 119, f 120, f 121, f 122, f 123, f 124, f 125, f 126, f 127, f 128, f 129, f 130, f 131, f 132, f 133, f 134, f 135, f 136, f 137, f 138, f 139, f 140, f 141, f 142, f 143, f 144, f 145, f 146, f 147, f 148, f 149, f 150, f 151, f 152, f 153, f 154, f 155, f 156, f 157, f 158, f 159, f 160, f 161, f 162, f 163, f 164, f 165, f 166, f 167, f 168, f 169, f 170, f 171, f 172, f 173, f 174, f 175, f 176, f 177, f 178, f 179, f 180, f 181, f 182, f 183, f 184, f 185, f 186, f 187, f 188, f 189, f 190, f 191, f 192, f 193, f 194, f 195, f 196, f 197, f 198, f 199, f 200, f 201, f 202, f 203, f 204, f 205, f 206, f 207, f 208, f 209, f 210, f 211, f 212, f 213, f 214, f 215, f 216, f 217, f 218, f 219, f 220, f 221, f 222, f 223, f 224, f 225, f 226, f 227, f 228, f 229, f 230, f 231, f 232, f 233, f 234, f 235, f 236, f 237, f 238, f 239, f 240, f 241, f 242, f 243, f 244, f 245, f 246, f 247, f 248, f 249, f 250, f 251, f 252, f 253, f 254, f 255, f 256, f 257, f 258, f 259, f 260, f 261, f 262, f 263, f 264, f 265, f 266, f 267, f 268, f 269, f 270, f 271], []⟩ := by
  obtain ⟨l, rfl, hl, z8⟩ := h
  refine ⟨fun i => l.getD i undef, ?_⟩
  have e := listP_eta l
  rw [hl, lit272] at e
  refine congrArg (fun l => (⟨List.toArray l, []⟩ : Act)) (e.trans ?_)
  simp only [z8]
set_option maxRecDepth 1000000 in
set_option maxHeartbeats 4000000 in
theorem law11_loop {w : World} {b room n base : Nat} {ls : List Pk} {frees : List Bool} {wv lv fv : Value} (hl : FrAt w w.heap.size 2 lv (ls.map pk10)) (hf : FrAt w w.heap.size 1 fv (frees.map fun x => [Value.bool x])) (hin : ∀ p ∈ ls, okPk11 p)
    (hk50 : ls.length ≤ 50) (hf50 : frees.length ≤ 50) {a0 : Act} {w0 : World} (hS0 : StP b room fv lv wv (.int .i64 ls.length) (.int .i64 (0 : Nat)) a0) (hR0 : RelP w b room n base 0 wv w0) :
    Code.wp Tryz.prog loopP (PostLP w b room n base ls.length fv lv (.int .i64 ls.length) (.int .i64 ls.length)) a0 w0 := by
  conv => arg 2; whnf
  refine wp_block ?_
  conv => arg 2; whnf
  refine wp_loop (InvP w b room n base ls.length fv lv) (fun a _ => ls.length - (intOf (a.tmps.getD 67 undef)).toNat) ⟨0, wv, Nat.zero_le _, hS0, hR0⟩ ?_
  rintro a w' ⟨k, wv, hk, hS, hR⟩
  have h67 : (intOf (a.tmps.getD 67 undef)).toNat = k := by rw [hS.is]; simp [intOf]
  obtain ⟨f, rfl⟩ := hS.open
  rw [h67]
  clear hS h67
  by_cases hlt : k < ls.length
  · have hlt' : (k : Int) < (ls.length : Int) := by omega
    have hrd := hide fun (a0 : Act) (hS : StP b room fv lv wv (.int .i64 ls.length) (.int .i64 k) a0) => law11_round hl hf hin hlt hk50 hf50 hR hS
    replace hl := hide hl
    replace hf := hide hf
    clear hR
    go_upto_block 1 with fail
    refine wp_mono (hrd.out _ StP.lit) ?_
    rintro e a2 w2 hp
    cases e with
    | normal =>
      obtain ⟨wv', hst, hrel⟩ := hp
      obtain ⟨f2, rfl⟩ := hst.open
      refine (‹∀ (a : Act) (w : World), Code.wp Tryz.prog _ _ a w → _›) _ _ ?_
      have hw1 : IntKind.i64.wrap ((k : Int) + 1) = ((k + 1 : Nat) : Int) := by rw [IntKind.wrap_i64]; omega
      go_wp2_with fail
      exact ⟨⟨k + 1, wv', by omega, StP.lit, hrel⟩, by simp [intOf]; omega⟩
    | ret => exact hp
    | exit id => exact hp.elim
    | goto l => exact hp.elim
    | panic c => exact hp.elim
    | outgrown => exact hp.elim
  · obtain rfl : k = ls.length := by omega
    replace hl := hide hl
    replace hf := hide hf
    replace hR := hide hR
    go_wp2_with fail
    exact ⟨wv, StP.lit, hR.out⟩
/-- What a table's size may be. -/
theorem law11_pow (c : Int) : ∃ n : Nat, wrap64 (2 ^ (c % 5).toNat) = (n : Int) ∧ 0 < n ∧ n ≤ 32 ∧ powB n = true := by
  rcases (by omega : c % 5 = 0 ∨ c % 5 = 1 ∨ c % 5 = 2 ∨ c % 5 = 3 ∨ c % 5 = 4) with e | e | e | e | e <;> rw [e]
  · exact ⟨1, by unfold wrap64; decide, by decide, by decide, by decide⟩
  · exact ⟨2, by unfold wrap64; decide, by decide, by decide, by decide⟩
  · exact ⟨4, by unfold wrap64; decide, by decide, by decide, by decide⟩
  · exact ⟨8, by unfold wrap64; decide, by decide, by decide, by decide⟩
  · exact ⟨16, by unfold wrap64; decide, by decide, by decide, by decide⟩
theorem RelP.start {w : World} {wr : World} (b cb lb ab room n : Nat) (hp : powB n = true) (h0 : 0 < n) (hn : n ≤ 32) (hr : room ≤ 20) (hR : R [BaseK w, MemK (startM b cb lb ab room n)] wr) : RelP w b room n 5 0 (.slice none 0 0) wr := by
  refine ⟨startM b cb lb ab room n, [], rfl, ⟨⟨_, MapM.start b cb lb ab room n hp h0 (by omega)⟩, ?_, hr, by omega, rfl, ?_, ?_, ?_, ?_, ?_⟩, hR.slnil _ _⟩
  · simp [startM, tableM, memNew]
  · simp [startM, tableM, memNew]
  · simp [startM, tableM, memNew]
  · simp [startM, tableM, memNew]
  · simp [startM, tableM, memNew]
  · intro p hp
    exact absurd hp List.not_mem_nil
end Go.Proofs.YtcgfknpobifecaaGreat

namespace Go.Proofs.YtcgfknpobifecaaGreat
open Go.RowKit

noncomputable def loopD : Code := (Tryz.f4.body.bind (findBk 0)).getD .skip
/-- What holds behind the loop. -/
def PostLD (w : World) (b n base k : Nat) (ls : List Ak) (fv lv s64 s65 : Value) : Exit → Act → World → Prop
  | .normal, a, w' => StD b fv lv s64 s65 a ∧ RelD w b n base k ls w'
  | .ret, a, w' => RetD a ∧ Below w.heap.size w w'
  | _, _, _ => False
/-- What the loop keeps. -/
def InvD (w : World) (b n base : Nat) (ls : List Ak) (fv lv : Value) (a : Act) (w' : World) : Prop :=
  ∃ (k : Nat), k ≤ ls.length ∧ StD b fv lv (.int .i64 ls.length) (.int .i64 k) a ∧ RelD w b n base k ls w'
set_option maxRecDepth 1000000 in
theorem StD.is {b : Nat} {fv lv s64 s65 : Value} {a : Act} (h : StD b fv lv s64 s65 a) : a.tmps.getD 65 undef = s65 := by
  obtain ⟨l, rfl, _, _, _, _, _, _, z65⟩ := h
  rw [← z65]
  simp [Array.getD, List.getD_eq_getElem?_getD]
  split <;> simp_all
set_option maxRecDepth 1000000 in
set_option maxHeartbeats 4000000 in
theorem RetD.open {a : Act} (h : RetD a) : ∃ f : Nat → Value, a = ⟨#[f 0, f 1, f 2, f 3, f 4, f 5, Value.bool true, f 7, f 8, f 9, f 10, f 11, f 12, f 13, f 14, f 15, f 16, f 17, f 18, f 19, f 20, f 21, f 22, f 23, f 24, f 25, f 26, f 27, f 28, f 29, f 30, f 31, f 32, f 33, f 34, f 35, f 36, f 37, f 38, f 39, f 40, f 41, f 42, f 43, f 44, f 45, f 46, f 47, f 48, f 49, f 50, f 51, f 52, f 53, f 54, f 55, f 56, f 57, f 58, f 59, f 60, f 61, f 62, f 63, f 64, f 65, f 66, f 67, f 68, f 69, f 70, f 71, f 72, f 73, f 74, f 75, f 76, f 77, f 78, f 79, f 80, f 81, f 82, f 83, f 84, f 85, f 86, f 87, f 88, f 89, f 90, f 91, f 92, f 93, f 94, f 95, f 96, f 97, f 98, f 99, f 100, f 101, f 102, f 103, f 104, f 105, f 106, f 107, f 108, f 109, f 110, f 111, f 112, f 113, f 114, f 115, f 116, f 117, f 118, f 119, f 120, f 121, f 122, f 123, f 124, f 125, f 126, f 127, f 128, f 129, f 130, f 131, f 132, f 133, f 134, f 135, f 136, f 137, f 138, f 139, f 140, f 141, f 142, f 143, f 144, f 145, f 146, f 147, f 148, f 149, f 150, f 151, f 152, f 153, f 154, f 155, f 156, f 157, f 158, f 159, f 160, f 161, f 162, f 163, f 164, f 165, f 166, f 167, f 168, f 169, f 170, f 171, f 172, f 173, f 174, f 175, f 176, f 177, f 178, f 179, f 180, f 181, f 182, f 183, f 184, f 185, f 186, f 187, f 188, f 189, f 190, f 191, f 192, f 193, f 194, f 195, f 196, f 197, f 198, f 199, f 200, f 201, f 202, f 203, f 204, f 205, f 206, f 207, f 208, f 209, f 210, f 211, f 212, f 213, f 214, f 215, f 216, f 217, f 218, f 219, f 220, f 221, f 222, f 223, f 224, f 225, f 226, f 227, f 228, f 229, f 230, f 231, f 232, f 233, f 234, f 235, f 236, f 237, f 238, f 239, f 240, f 241, f 242, f 243, f 244, f 245, f 246, f 247, f 248, f 249, f 250, f 251, f 252, f 253, f 254, f 255, f 256, f 257, f 258, f 259, f 260, f 261, f 262, f 263, f 264, f 265, f 266, f 267, f 268, f 269, f 270, f 271, f 272, f 273, f 274, f 275, f 276, f 277, f 278, f 279], []⟩ := by
  obtain ⟨l, rfl, hl, z6⟩ := h
  refine ⟨fun i => l.getD i undef, ?_⟩
  have e := listP_eta l
  rw [hl, lit280] at e
  refine congrArg (fun l => (⟨List.toArray l, []⟩ : Act)) (e.trans ?_)
  simp only [z6]
set_option maxRecDepth 1000000 in
set_option maxHeartbeats 4000000 in
theorem law12_loop {w : World} {b n base N c : Nat} {ls : List Ak} {frees : List Bool} {lv fv : Value} {a : Option Addr} (hv : lv = .slice a N c) (hcap : N ≤ c) (hc64 : c ≤ 9223372036854775807) (hl : FrAt w w.heap.size 3 lv (ls.map ak12)) (hf : FrAt w w.heap.size 1 fv (frees.map fun x => [Value.bool x])) (hin : ∀ p ∈ ls, okAk p)
    (hk50 : ls.length ≤ 50) (hf50 : frees.length ≤ 50) {a0 : Act} {w0 : World} (hS0 : StD b fv lv (.int .i64 ls.length) (.int .i64 (0 : Nat)) a0) (hR0 : RelD w b n base 0 ls w0) :
    Code.wp Tryz.prog loopD (PostLD w b n base ls.length ls fv lv (.int .i64 ls.length) (.int .i64 ls.length)) a0 w0 := by
  conv => arg 2; whnf
  refine wp_block ?_
  conv => arg 2; whnf
  refine wp_loop (InvD w b n base ls fv lv) (fun a _ => ls.length - (intOf (a.tmps.getD 65 undef)).toNat) ⟨0, Nat.zero_le _, hS0, hR0⟩ ?_
  rintro a w' ⟨k, hk, hS, hR⟩
  have h65 : (intOf (a.tmps.getD 65 undef)).toNat = k := by rw [hS.is]; simp [intOf]
  obtain ⟨f, rfl⟩ := hS.open
  rw [h65]
  clear hS h65
  by_cases hlt : k < ls.length
  · have hlt' : (k : Int) < (ls.length : Int) := by omega
    have hrd := hide fun (a0 : Act) (hS : StD b fv lv (.int .i64 ls.length) (.int .i64 k) a0) => law12_round hv hcap hc64 hl hf hin hlt hk50 hf50 hR hS
    replace hl := hide hl
    replace hf := hide hf
    replace hv := hide hv
    clear hR
    go_upto_block 1 with fail
    refine wp_mono (hrd.out _ StD.lit) ?_
    rintro e a2 w2 hp
    cases e with
    | normal =>
      obtain ⟨hst, hrel⟩ := hp
      obtain ⟨f2, rfl⟩ := hst.open
      refine (‹∀ (a : Act) (w : World), Code.wp Tryz.prog _ _ a w → _›) _ _ ?_
      have hw1 : IntKind.i64.wrap ((k : Int) + 1) = ((k + 1 : Nat) : Int) := by rw [IntKind.wrap_i64]; omega
      go_wp2_with fail
      exact ⟨⟨k + 1, by omega, StD.lit, hrel⟩, by simp [intOf]; omega⟩
    | ret => exact hp
    | exit id => exact hp.elim
    | goto l => exact hp.elim
    | panic c => exact hp.elim
    | outgrown => exact hp.elim
  · obtain rfl : k = ls.length := by omega
    replace hl := hide hl
    replace hf := hide hf
    replace hR := hide hR
    replace hv := hide hv
    go_wp2_with fail
    exact ⟨StD.lit, hR.out⟩
theorem RelD.start {w : World} {wr : World} {ls : List Ak} (b cb lb ab n : Nat) (hp : powB n = true) (h0 : 0 < n) (hn : n ≤ 32) (hR : R [BaseK w, MemK (startM b cb lb ab 60 n)] wr) : RelD w b n 5 0 ls wr := by
  refine ⟨startM b cb lb ab 60 n, rfl, ⟨⟨_, MapM.start b cb lb ab 60 n hp h0 (by omega)⟩, ?_, by omega, rfl, ?_, ?_, ?_, ?_⟩, hR⟩
  · simp [startM, tableM, memNew]
  · simp [startM, tableM, memNew]
  · simp [startM, tableM, memNew]
  · simp [startM, tableM, memNew, refPlay]
  · simp [startM, tableM, memNew]
set_option maxRecDepth 1000000 in
set_option maxHeartbeats 12000000 in
theorem law12_plays (c : Int) (hc0 : 0 ≤ c) (lv fv : Value) (a : Option Addr) (N cp : Nat) (hv : lv = .slice a N cp) (hcap : N ≤ cp) (hc64 : cp ≤ 9223372036854775807) (ls : List Ak) (frees : List Bool) (w : World) (hl : FrAt w w.heap.size 3 lv (ls.map ak12)) (hf : FrAt w w.heap.size 1 fv (frees.map fun x => [Value.bool x])) (hin : ∀ p ∈ ls, okAk p)
    (hk50 : ls.length ≤ 50) (hf50 : frees.length ≤ 50) : Calls Tryz.prog 4 #[.int .u8 c, lv, fv] w fun e w' => e = .returned (.bool true) ∧ Below w.heap.size w w' := by
  obtain ⟨a2, cap2, hv2, hlen, -⟩ := id hl
  obtain ⟨fa, fcap, rfl, hflen, -⟩ := id hf
  rw [List.length_map] at *
  rw [hv] at hv2
  simp at hv2
  obtain ⟨rfl, rfl, rfl⟩ := hv2
  have hlp := hide fun (b n base : Nat) (a0 : Act) (w0 : World) (hS0 : StD b (.slice fa frees.length fcap) lv (.int .i64 ls.length) (.int .i64 (0 : Nat)) a0) (hR0 : RelD w b n base 0 ls w0) => law12_loop hv hcap hc64 hl hf hin hk50 hf50 hS0 hR0
  have hpe := hide fun (l : List KObj) (w1 : World) (h : R (BaseK w :: l) w1) => ref12_play hl h (by omega)
  replace hl := hide hl
  replace hf := hide hf
  replace hin := hide hin
  subst hv
  have htc : c.tmod 5 = c % 5 := Int.tmod_eq_emod_of_nonneg hc0
  have hsn : ¬ c % 5 < 0 := by omega
  have hln : ¬ (50 : Int) < (ls.length : Int) := by omega
  have hfn : ¬ (50 : Int) < (frees.length : Int) := by omega
  obtain ⟨n, hn, hn0, hn32, hp⟩ := law11_pow c
  have hnw := hide (law05_made (R.start w) 60 2 (by decide) (by decide) (by decide) (by decide))
  replace hp := hide hp
  go_enter Tryz.func4, Tryz.ntmps4
  go_wp2_with fail
  refine hnw.out.mono ?_
  rintro e w1 ⟨b, cb, lb, ab, rfl, R1⟩
  have htb : Hid (Calls _ _ _ _ (Does [BaseK w, MemK (tableM (memNew b cb lb ab 60 2) n)] (.tuple #[.int .i64 1, .int .i64 0]))) := hide (mem_table R1 (t := 1) rfl n hp.out (by simp [memNew]; omega))
  clear hnw R1
  go_wp2_with fail
  refine htb.out.mono ?_
  rintro e w2 ⟨rfl, R2⟩
  obtain ⟨tv, wv, hb⟩ := R2.memHdr (t := 1) rfl
  have hst : Hid (Calls _ _ _ _ (Does [BaseK w, MemK (startM b cb lb ab 60 n)] (.int .i64 0))) := hide (memR_store R2 (t := 1) rfl 1 1 (by decide) (by simp [tableM, memNew]; omega) ⟨by decide, by decide⟩)
  dsimp only [tableM, memNew] at hb hst
  clear htb R2
  go_wp2_with fail
  refine hst.out.mono ?_
  rintro e w3 ⟨rfl, R3⟩
  have hM := hide (RelD.start (ls := ls) b cb lb ab n hp.out hn0 hn32 R3)
  clear hst hb R3 hp hn htc hsn
  go_upto_block 0 with fail
  refine wp_mono (hlp.out _ _ _ _ _ StD.lit hM.out) ?_
  rintro e a2 w4 hpo
  cases e with
  | normal =>
    obtain ⟨hS, m, rfl, hK, hR⟩ := hpo
    obtain ⟨f, rfl⟩ := hS.open
    refine (‹∀ (a : Act) (w : World), Code.wp Tryz.prog _ _ a w → _›) _ _ ?_
    clear hM hS hin hlp
    obtain ⟨chs, hMm⟩ := hK.map
    have g1 := hK.room_
    have g7 := hK.sum
    have g8 := hK.gen
    rw [List.take_length] at hMm g7
    obtain ⟨q1, q2, q3, q4, q5, q6, q7⟩ := hMm.freeAll (by omega)
    have hfr : ∀ w' : World, Below w4.heap.size w4 w' → Calls Tryz.prog 10 #[.pointer (some ⟨m.b, 0, none⟩), .int .i64 2] w' (Does [BaseK w, MemK (freeAll m)] (.bool true)) := fun w' hb => law11_free (hR.below hb) (t := 1) rfl hK.workers (hMm.freeLock (by decide)) hK.in0 hK.in1 (by omega) (by omega)
    have hsum : (freeTo (freeAll m).ss (freeAll m).ss.length).length + (refPlay ls).length = 60 := by
      have := q1.spare
      have e5 := q5.trans g1
      rw [q7] at this
      simp only [List.length_nil] at this
      omega
    rw [← q2] at hfr ⊢
    generalize freeAll m = mf at *
    replace hfr := hide hfr
    clear hK hMm q1 q2 q3 q4 q5 q6 q7 hR
    go_wp2_with fail
    refine (law12_awake _).mono ?_
    rintro e w5 ⟨rfl, hb5⟩
    dsimp only
    have hfr2 := hide (hfr.out _ hb5)
    go_wp2_with fail
    refine hfr2.out.mono ?_
    rintro e w6 ⟨rfl, R6⟩
    dsimp only
    obtain ⟨tv, wv, hb⟩ := R6.memHdr (t := 1) rfl
    have hsp := hide (memR_spare R6 (t := 1) rfl)
    have hpl := hide (hpe.out _ _ R6)
    have hwr : IntKind.i64.wrap (((freeTo mf.ss mf.ss.length).length : Int) + ((refPlay ls).length : Int)) = 60 := by rw [IntKind.wrap_i64]; omega
    clear hfr2 hfr hb5 hpe
    replace R6 := hide R6
    go_wp2_with fail
    refine hsp.out.mono ?_
    rintro e w7 ⟨rfl, rfl⟩
    dsimp only
    clear hsp
    go_wp2_with fail
    refine hpl.out.mono ?_
    rintro e w8 ⟨v8, rfl, R8⟩
    dsimp only
    obtain ⟨⟨ga, gc, rfl⟩, hwl⟩ := R8.slVal (t := 2) rfl
    have hend : Below w.heap.size w w8 := R8.done
    clear R8 hpl R6
    go_wp2_with fail
    go_ret
    exact ⟨rfl, hend⟩
  | ret =>
    obtain ⟨hr, hbel⟩ := hpo
    obtain ⟨f, rfl⟩ := hr.open
    go_ret
    exact ⟨rfl, hbel⟩
  | exit id => exact hpo.elim
  | goto l => exact hpo.elim
  | panic c => exact hpo.elim
  | outgrown => exact hpo.elim
end Go.Proofs.YtcgfknpobifecaaGreat
