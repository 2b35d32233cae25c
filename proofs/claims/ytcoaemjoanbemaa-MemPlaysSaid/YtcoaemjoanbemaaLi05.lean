/- quietuslaw05: MemPlays, whole. No condition but its arguments' sizes. (Written by wip/gen/gen5.py from wip/gen/Li05.body, which mk_Li05.py wrote.) -/
import Derived.Test.YtcoaemjoanbemaaLh05
import Derived.Deep.CutBlock
namespace Go.Proofs.Ytcoaemjoanbemaa
open Go.RowKit

noncomputable def loop5 : Code := (Try.f4.body.bind (findB 0)).getD .skip
/-- What holds behind the loop. -/
def PostL5 (w : World) : Exit → Act → World → Prop
  | .normal, a, w' => (∃ l : List Value, a = ⟨l.toArray, []⟩ ∧ l.length = 460) ∧ Below w.heap.size w w'
  | .ret, a, w' => Ret5 a ∧ Below w.heap.size w w'
  | _, _, _ => False
/-- What the loop keeps. -/
def Inv5 (w : World) (wk b nb n : Nat) (v : Value) (a : Act) (w' : World) : Prop :=
  ∃ (k : Nat) (v10 mv : Value), k ≤ n ∧ St5 b nb v10 mv v (.int .i64 n) (.int .i64 k) a ∧ Rel5 w wk b nb k mv w'
set_option maxRecDepth 1000000 in
theorem St5.is {b nb : Nat} {v10 mv s95 s96 s97 : Value} {a : Act} (h : St5 b nb v10 mv s95 s96 s97 a) : a.tmps.getD 97 undef = s97 := by
  obtain ⟨l, rfl, _, _, _, _, _, _, _, _, z97⟩ := h
  rw [← z97]
  simp [Array.getD, List.getD_eq_getElem?_getD]
  split <;> simp_all
set_option maxRecDepth 1000000 in
set_option maxHeartbeats 4000000 in
theorem law05_loop {w : World} {v : Value} {acts : List Act05} (hv : FrAt w w.heap.size 4 v (acts.map act05)) (hin : ∀ x ∈ acts, okAct05 x) (hl : acts.length ≤ 60) {wk b nb : Nat} {v10 mv : Value} {a0 : Act} {w0 : World}
    (hS0 : St5 b nb v10 mv v (.int .i64 acts.length) (.int .i64 (0 : Nat)) a0) (hR0 : Rel5 w wk b nb 0 mv w0) : Code.wp Try.prog loop5 (PostL5 w) a0 w0 := by
  conv => arg 2; whnf
  refine wp_block ?_
  conv => arg 2; whnf
  refine wp_loop (Inv5 w wk b nb acts.length v) (fun a _ => acts.length - (intOf (a.tmps.getD 97 undef)).toNat) ⟨0, v10, mv, Nat.zero_le _, hS0, hR0⟩ ?_
  rintro a w' ⟨k, v10, mv, hk, hS, m, nodes, next, made, cv, tv, nv, xv, wv, rfl, Q, hR⟩
  have h97 : (intOf (a.tmps.getD 97 undef)).toNat = k := by rw [hS.is]; simp [intOf]
  have hbel : Below w.heap.size w w' := hR.done
  obtain ⟨f, rfl⟩ := hS.open
  rw [h97]
  clear hS h97
  by_cases hlt : k < acts.length
  · have hlt' : (k : Int) < (acts.length : Int) := by omega
    have hrd := hide fun (a0 : Act) (hS : St5 m.b nb v10 mv v (.int .i64 acts.length) (.int .i64 k) a0) => law05_round hv hin hl hlt Q hR hS
    clear hR
    go_upto_block 1 with fail
    refine wp_mono (hrd.out _ St5.lit) ?_
    rintro e a2 w2 hp
    cases e with
    | normal =>
      obtain ⟨v10', mv', hst, hrel⟩ := hp
      obtain ⟨f2, rfl⟩ := hst.open
      refine (‹∀ (a : Act) (w : World), Code.wp Try.prog _ _ a w → _›) _ _ ?_
      have hw1 : IntKind.i64.wrap ((k : Int) + 1) = ((k + 1 : Nat) : Int) := by rw [IntKind.wrap_i64]; omega
      go_wp2_with fail
      exact ⟨⟨k + 1, v10', mv', by omega, St5.lit, hrel⟩, by simp [intOf]; omega⟩
    | ret => exact hp
    | exit id => exact hp.elim
    | goto l => exact hp.elim
    | panic c => exact hp.elim
    | outgrown => exact hp.elim
  · obtain rfl : k = acts.length := by omega
    clear hR
    go_wp2_with fail
    exact ⟨⟨_, rfl, by kernel_rfl⟩, hbel⟩
set_option maxRecDepth 1000000 in
set_option maxHeartbeats 4000000 in
theorem lit_open {l : List Value} (hl : l.length = 460) : ∃ f : Nat → Value, (⟨l.toArray, []⟩ : Act) = ⟨#[f 0, f 1, f 2, f 3, f 4, f 5, f 6, f 7, f 8, f 9, f 10, f 11, f 12, f 13, f 14, f 15, f 16, f 17, f 18, f 19, f 20, f 21, f 22, f 23, f 24, f 25, f 26, f 27, f 28, f 29, f 30, f 31, f 32, f 33, f 34, f 35, f 36, f 37, f 38, f 39, f 40, f 41, f 42, f 43, f 44, f 45, f 46, f 47, f 48, f 49, f 50, f 51, f 52, f 53, f 54, f 55, f 56, f 57, f 58, f 59, f 60, f 61, f 62, f 63, f 64, f 65, f 66, f 67, f 68, f 69, f 70, f 71, f 72, f 73, f 74, f 75, f 76, f 77, f 78, f 79, f 80, f 81, f 82, f 83, f 84, f 85, f 86, f 87, f 88, f 89, f 90, f 91, f 92, f 93, f 94, f 95, f 96, f 97, f 98, f 99, f 100, f 101, f 102, f 103, f 104, f 105, f 106, f 107, f 108, f 109, f 110, f 111, f 112, f 113, f 114, f 115, f 116, f 117, f 118, f 119, f 120, f 121, f 122, f 123, f 124, f 125, f 126, f 127, f 128, f 129, f 130, f 131, f 132, f 133, f 134, f 135, f 136, f 137, f 138, f 139, f 140, f 141, f 142, f 143, f 144, f 145, f 146, f 147, f 148, f 149, f 150, f 151, f 152, f 153, f 154, f 155, f 156, f 157, f 158, f 159, f 160, f 161, f 162, f 163, f 164, f 165, f 166, f 167, f 168, f 169, f 170, f 171, f 172, f 173, f 174, f 175, f 176, f 177, f 178, f 179, f 180, f 181, f 182, f 183, f 184, f 185, f 186, f 187, f 188, f 189, f 190, f 191, f 192, f 193, f 194, f 195, f 196, f 197, f 198, f 199, f 200, f 201, f 202, f 203, f 204, f 205, f 206, f 207, f 208, f 209, f 210, f 211, f 212, f 213, f 214, f 215, f 216, f 217, f 218, f 219, f 220, f 221, f 222, f 223, f 224, f 225, f 226, f 227, f 228, f 229, f 230, f 231, f 232, f 233, f 234, f 235, f 236, f 237, f 238, f 239, f 240, f 241, f 242, f 243, f 244, f 245, f 246, f 247, f 248, f 249, f 250, f 251, f 252, f 253, f 254, f 255, f 256, f 257, f 258, f 259, f 260, f 261, f 262, f 263, f 264, f 265, f 266, f 267, f 268, f 269, f 270, f 271, f 272, f 273, f 274, f 275, f 276, f 277, f 278, f 279, f 280, f 281, f 282, f 283, f 284, f 285, f 286, f 287, f 288, f 289, f 290, f 291, f 292, f 293, f 294, f 295, f 296, f 297, f 298, f 299, f 300, f 301, f 302, f 303, f 304, f 305, f 306, f 307, f 308, f 309, f 310, f 311, f 312, f 313, f 314, f 315, f 316, f 317, f 318, f 319, f 320, f 321, f 322, f 323, f 324, f 325, f 326, f 327, f 328, f 329, f 330, f 331, f 332, f 333, f 334, f 335, f 336, f 337, f 338, f 339, f 340, f 341, f 342, f 343, f 344, f 345, f 346, f 347, f 348, f 349, f 350, f 351, f 352, f 353, f 354, f 355, f 356, f 357, f 358, f 359, f 360, f 361, f 362, f 363, f 364, f 365, f 366, f 367, f 368, f 369, f 370, f 371, f 372, f 373, f 374, f 375, f 376, f 377, f 378, f 379, f 380, f 381, f 382, f 383, f 384, f 385, f 386, f 387, f 388, f 389, f 390, f 391, f 392, f 393, f 394, f 395, f 396, f 397, f 398, f 399, f 400, f 401, f 402, f 403, f 404, f 405, f 406, f 407, f 408, f 409, f 410, f 411, f 412, f 413, f 414, f 415, f 416, f 417, f 418, f 419, f 420, f 421, f 422, f 423, f 424, f 425, f 426, f 427, f 428, f 429, f 430, f 431, f 432, f 433, f 434, f 435, f 436, f 437, f 438, f 439, f 440, f 441, f 442, f 443, f 444, f 445, f 446, f 447, f 448, f 449, f 450, f 451, f 452, f 453, f 454, f 455, f 456, f 457, f 458, f 459], []⟩ := by
  refine ⟨fun i => l.getD i undef, ?_⟩
  have e := list_eta l
  rw [hl, lit460] at e
  exact congrArg (fun l => (⟨List.toArray l, []⟩ : Act)) e
set_option maxRecDepth 1000000 in
set_option maxHeartbeats 4000000 in
theorem Ret5.open {a : Act} (h : Ret5 a) : ∃ f : Nat → Value, a = ⟨#[f 0, f 1, f 2, f 3, .bool true, f 5, f 6, f 7, f 8, f 9, f 10, f 11, f 12, f 13, f 14, f 15, f 16, f 17, f 18, f 19, f 20, f 21, f 22, f 23, f 24, f 25, f 26, f 27, f 28, f 29, f 30, f 31, f 32, f 33, f 34, f 35, f 36, f 37, f 38, f 39, f 40, f 41, f 42, f 43, f 44, f 45, f 46, f 47, f 48, f 49, f 50, f 51, f 52, f 53, f 54, f 55, f 56, f 57, f 58, f 59, f 60, f 61, f 62, f 63, f 64, f 65, f 66, f 67, f 68, f 69, f 70, f 71, f 72, f 73, f 74, f 75, f 76, f 77, f 78, f 79, f 80, f 81, f 82, f 83, f 84, f 85, f 86, f 87, f 88, f 89, f 90, f 91, f 92, f 93, f 94, f 95, f 96, f 97, f 98, f 99, f 100, f 101, f 102, f 103, f 104, f 105, f 106, f 107, f 108, f 109, f 110, f 111, f 112, f 113, f 114, f 115, f 116, f 117, f 118, f 119, f 120, f 121, f 122, f 123, f 124, f 125, f 126, f 127, f 128, f 129, f 130, f 131, f 132, f 133, f 134, f 135, f 136, f 137, f 138, f 139, f 140, f 141, f 142, f 143, f 144, f 145, f 146, f 147, f 148, f 149, f 150, f 151, f 152, f 153, f 154, f 155, f 156, f 157, f 158, f 159, f 160, f 161, f 162, f 163, f 164, f 165, f 166, f 167, f 168, f 169, f 170, f 171, f 172, f 173, f 174, f 175, f 176, f 177, f 178, f 179, f 180, f 181, f 182, f 183, f 184, f 185, f 186, f 187, f 188, f 189, f 190, f 191, f 192, f 193, f 194, f 195, f 196, f 197, f 198, f 199, f 200, f 201, f 202, f 203, f 204, f 205, f 206, f 207, f 208, f 209, f 210, f 211, f 212, f 213, f 214, f 215, f 216, f 217, f 218, f 219, f 220, f 221, f 222, f 223, f 224, f 225, f 226, f 227, f 228, f 229, f 230, f 231, f 232, f 233, f 234, f 235, f 236, f 237, f 238, f 239, f 240, f 241, f 242, f 243, f 244, f 245, f 246, f 247, f 248, f 249, f 250, f 251, f 252, f 253, f 254, f 255, f 256, f 257, f 258, f 259, f 260, f 261, f 262, f 263, f 264, f 265, f 266, f 267, f 268, f 269, f 270, f 271, f 272, f 273, f 274, f 275, f 276, f 277, f 278, f 279, f 280, f 281, f 282, f 283, f 284, f 285, f 286, f 287, f 288, f 289, f 290, f 291, f 292, f 293, f 294, f 295, f 296, f 297, f 298, f 299, f 300, f 301, f 302, f 303, f 304, f 305, f 306, f 307, f 308, f 309, f 310, f 311, f 312, f 313, f 314, f 315, f 316, f 317, f 318, f 319, f 320, f 321, f 322, f 323, f 324, f 325, f 326, f 327, f 328, f 329, f 330, f 331, f 332, f 333, f 334, f 335, f 336, f 337, f 338, f 339, f 340, f 341, f 342, f 343, f 344, f 345, f 346, f 347, f 348, f 349, f 350, f 351, f 352, f 353, f 354, f 355, f 356, f 357, f 358, f 359, f 360, f 361, f 362, f 363, f 364, f 365, f 366, f 367, f 368, f 369, f 370, f 371, f 372, f 373, f 374, f 375, f 376, f 377, f 378, f 379, f 380, f 381, f 382, f 383, f 384, f 385, f 386, f 387, f 388, f 389, f 390, f 391, f 392, f 393, f 394, f 395, f 396, f 397, f 398, f 399, f 400, f 401, f 402, f 403, f 404, f 405, f 406, f 407, f 408, f 409, f 410, f 411, f 412, f 413, f 414, f 415, f 416, f 417, f 418, f 419, f 420, f 421, f 422, f 423, f 424, f 425, f 426, f 427, f 428, f 429, f 430, f 431, f 432, f 433, f 434, f 435, f 436, f 437, f 438, f 439, f 440, f 441, f 442, f 443, f 444, f 445, f 446, f 447, f 448, f 449, f 450, f 451, f 452, f 453, f 454, f 455, f 456, f 457, f 458, f 459], []⟩ := by
  obtain ⟨l, rfl, hl, z4⟩ := h
  refine ⟨fun i => l.getD i undef, ?_⟩
  have e := list_eta l
  rw [hl, lit460] at e
  refine congrArg (fun l => (⟨List.toArray l, []⟩ : Act)) (e.trans ?_)
  simp only [z4]
set_option maxRecDepth 1000000 in
set_option maxHeartbeats 12000000 in
theorem law05_plays (wk : Nat) (h1 : 1 ≤ wk) (h8 : wk ≤ 8) (v : Value) (acts : List Act05) (w : World) (hv : FrAt w w.heap.size 4 v (acts.map act05)) (hin : ∀ x ∈ acts, okAct05 x) (hl : acts.length ≤ 60) :
    Calls Try.prog 4 #[.int .i64 wk, v] w fun e w' => e = .returned (.bool true) ∧ Below w.heap.size w w' := by
  obtain ⟨a, cap, rfl, hlen, -⟩ := id hv
  rw [List.length_map] at *
  replace hv := hide hv
  replace hin := hide hin
  have hnw := hide (mem_new (R.start w) 16 wk (by decide) (by decide) h1 h8)
  have hwn : ((wk : Int) != (wk : Int)) = false := by simp
  go_enter Try.func4, Try.ntmps4
  go_wp2_with fail
  refine hnw.out.mono ?_
  rintro e w1 ⟨b, cb, lb, ab, rfl, R1⟩
  clear hnw
  obtain ⟨tv, wv, hb⟩ := R1.memHdr app_last
  have hwks := hide (mem_workers R1 app_last)
  have hll := hide (memR_locksLen R1 app_last)
  have hrm := hide (memR_room R1 app_last)
  dsimp only [memNew] at hb hwks hll hrm
  rw [List.length_replicate] at hrm
  have hn5 := hide (ref05_new R1 wk h8)
  clear R1
  go_wp2_with fail
  refine hwks.out.mono ?_
  rintro e w2 ⟨rfl, rfl⟩
  go_wp2_with fail
  refine hll.out.mono ?_
  rintro e w2 ⟨rfl, rfl⟩
  go_wp2_with fail
  refine hrm.out.mono ?_
  rintro e w2 ⟨rfl, rfl⟩
  go_wp2_with fail
  refine hn5.out.mono ?_
  rintro e w2 ⟨g, g2, rfl, R2⟩
  clear hwks hll hrm hn5 hb
  dsimp only [nilV] at R2 ⊢
  have R3 := (((((R2.sxNil 30 1).sxNil 30 1).slnil 30 1).slnil 30 1).new #[.slice (some ⟨g, 0, none⟩) (wk + 3) (wk + 3), .slice (some ⟨g2, 0, none⟩) 1 1, .slice none 0 0, .slice none 0 0, .slice none 0 0] 53)
  have hM : Rel5 w wk b w2.heap.size 0 (.slice none 0 0) (w2.alloc (.cells #[.slice (some ⟨g, 0, none⟩) (wk + 3) (wk + 3), .slice (some ⟨g2, 0, none⟩) 1 1, .slice none 0 0, .slice none 0 0, .slice none 0 0] 53)) := by
    refine ⟨_, [], [], [], .slice (some ⟨g, 0, none⟩) (wk + 3) (wk + 3), .slice (some ⟨g2, 0, none⟩) 1 1, .slice none 0 0, .slice none 0 0, .slice none 0 0, rfl, I5.start b cb lb ab wk h8, ?_⟩
    have e1 : (memNew b cb lb ab 16 wk).cells.length = wk + 3 := by simp [memNew]
    have e2 : cells5 wk = (memNew b cb lb ab 16 wk).cells := rfl
    unfold l5
    rw [e1, ← e2]
    exact R3
  replace hM := hide hM
  clear R2 R3
  go_upto_block 0 with fail
  refine wp_mono (law05_loop hv.out hin.out hl St5.lit hM.out) ?_
  rintro e a2 w3 hp
  cases e with
  | normal =>
    obtain ⟨⟨l, rfl, hl2⟩, hbel⟩ := hp
    obtain ⟨f, hf⟩ := lit_open hl2
    rw [hf]
    refine (‹∀ (a : Act) (w : World), Code.wp Try.prog _ _ a w → _›) _ _ ?_
    clear hf hM
    go_wp2_with fail
    refine (law05_awake _).mono ?_
    rintro e w4 ⟨rfl, hb4⟩
    have hbel4 := hbel.trans (hb4.mono hbel.size)
    clear hbel hb4
    go_wp2
    go_ret
    exact ⟨rfl, hbel4⟩
  | ret =>
    obtain ⟨hr, hbel⟩ := hp
    obtain ⟨f, rfl⟩ := hr.open
    go_ret
    exact ⟨rfl, hbel⟩
  | exit id => exact hp.elim
  | goto l => exact hp.elim
  | panic c => exact hp.elim
  | outgrown => exact hp.elim

set_option maxRecDepth 100000 in
set_option maxHeartbeats 4000000 in
theorem law05_many (n : Int) (a : Option Addr) (len cap : Nat) (h : 60 < len) (hl : len ≤ 9223372036854775807) (w : World) :
    Calls Try.prog 4 #[.int .i64 n, .slice a len cap] w fun e w' => e = .returned (.bool true) ∧ Below w.heap.size w w' := by
  go_enter Try.func4, Try.ntmps4
  go_wp2_with fail
  refine (law05_awake _).mono ?_
  rintro e w1 ⟨rfl, hb⟩
  go_wp2
  go_ret
  exact ⟨rfl, hb⟩
theorem mem_new_no (n : Int) (h : n < 1 ∨ 8 < n) (w : World) :
    Calls Try.prog 15 #[.int .i64 16, .int .i64 n] w fun e w' => e = .returned (.tuple #[.pointer none, .int .i64 2]) ∧ w = w' := by
  by_cases h0 : n < 1
  · clear h
    go_enter Try.func15, Try.ntmps15
    go_wp2
    go_ret2
    exact ⟨rfl, rfl⟩
  · have h1 : 8 < n := by omega
    clear h
    go_enter Try.func15, Try.ntmps15
    go_wp2
    go_ret2
    exact ⟨rfl, rfl⟩
set_option maxRecDepth 100000 in
set_option maxHeartbeats 4000000 in
theorem law05_range (n : Int) (a : Option Addr) (len cap : Nat) (h : len ≤ 60) (hn : n < 1 ∨ 8 < n) (w : World) :
    Calls Try.prog 4 #[.int .i64 n, .slice a len cap] w fun e w' => e = .returned (.bool true) ∧ Below w.heap.size w w' := by
  have hc := hide (mem_new_no n hn w)
  by_cases h0 : n < 1
  all_goals
    have hn' : n < 1 ∨ 8 < n := hn
    clear hn
    go_enter Try.func4, Try.ntmps4
    go_wp2_with fail
    refine hc.out.mono ?_
    rintro e w1 ⟨rfl, rfl⟩
    go_wp2_with fail
    refine (law05_awake _).mono ?_
    rintro e w1 ⟨rfl, hb⟩
    go_wp2
    go_ret
    exact ⟨rfl, hb⟩
end Go.Proofs.Ytcoaemjoanbemaa
