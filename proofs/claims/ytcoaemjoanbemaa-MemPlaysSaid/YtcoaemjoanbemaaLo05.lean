/- quietuslaw05: MemPlays: the end of a round. Condition: its objects are there. (Written by wip/gen/gen5.py from wip/gen/Lo05.body.) -/
import Derived.Test.YtcoaemjoanbemaaRy
import Derived.Test.YtcoaemjoanbemaaLm05
import Derived.Test.YtcoaemjoanbemaaLa05
import Derived.Deep.DeepCutAuto
import Derived.Deep.CutBlock
import Derived.Deep.RegionHeld3
namespace Go.Proofs.Ytcoaemjoanbemaa
open Go.RowKit

/-- An act of the statement's: Kind, I, K, L. -/
structure Act05 where
  kind : Int
  i : Int
  k : Int
  l : Int
def act05 (x : Act05) : List Value := [.int .u8 x.kind, .int .i64 x.i, .int .u8 x.k, .int .u8 x.l]
def okAct05 (x : Act05) : Prop := (0 ≤ x.kind ∧ x.kind ≤ 255) ∧ (-9223372036854775808 ≤ x.i ∧ x.i ≤ 9223372036854775807) ∧ (0 ≤ x.k ∧ x.k ≤ 255) ∧ (0 ≤ x.l ∧ x.l ≤ 255)
/-- The objects of MemPlays. -/
def l5 (w : World) (m : MemS) (cv tv nv xv wv mv : Value) (nb : Nat) (nodes next made : List Int) : List KObj :=
  [BaseK w, MemK m, NoK, SlK 30 1 cv m.cells.length (m.cells.map (Value.int .u64)), SlK 70 2 tv m.tables.length (m.tables.flatMap descL),
   SxK 30 1 nv nodes.length (nodes.map (Value.int .u64)), SxK 30 1 xv next.length (next.map (Value.int .u64)), SlK 30 1 wv m.waiting.length (m.waiting.map (Value.int .u64)),
   SlK 30 1 mv made.length (made.map (Value.int .u64)), StK nb #[cv, tv, nv, xv, wv] 53]
/-- What is right of the numbers. -/
structure I5 (wk k : Nat) (m : MemS) (nodes next made : List Int) : Prop where
  wk : m.workers = wk
  fault : m.fault = false
  room : m.ss.length = 16
  gen : m.gen ≤ k
  cells : m.cells.length ≤ 11 + 64 * k ∧ 3 ≤ m.cells.length
  tab : 1 ≤ m.tables.length ∧ m.tables.length ≤ 1 + k
  wait : m.waiting.length ≤ k
  ok : NodesOk m.ss nodes next
  nl : nodes.length ≤ k
  made : made.length ≤ k ∧ ∀ x ∈ made, U64 x
theorem I5.start (b cb lb ab wk : Nat) (h8 : wk ≤ 8) : I5 wk 0 (memNew b cb lb ab 16 wk) [] [] [] :=
  ⟨rfl, rfl, rfl, Nat.le_refl _, ⟨by simp [memNew]; omega, by simp [memNew]⟩, ⟨by simp [memNew], by simp [memNew]⟩, Nat.le_refl _, NodesOk.start 16, Nat.le_refl _, ⟨Nat.le_refl _, fun _ h => absurd h List.not_mem_nil⟩⟩
/-- Parts of the function's text. -/
def findSeq (n : Nat) : Code → Option Code
  | .seq a b => match a with
    | .region m x y => if m = n then some (.seq (.region m x y) b) else findSeq n b
    | a => match findSeq n a with
      | some c => some c
      | none => findSeq n b
  | .block _ c => findSeq n c
  | .loop c => findSeq n c
  | .scope c => findSeq n c
  | .cond _ a b => match findSeq n a with
    | some c => some c
    | none => findSeq n b
  | _ => none
noncomputable def tail5 : Code := (Try.f4.body.bind (findSeq 68)).getD .skip
theorem RefOk5.of {m : MemS} (h : MemOk m) : RefOk5 m.cells m.tables := by
  have h1 := h.cells3
  have h2 := h.cellsLen
  have h3 := h.tabLen
  have h4 := h.work
  exact ⟨⟨by omega, h2⟩, by omega, h.cell, nowOf_ok h⟩
def leftR : Code → Option Nat
  | .seq a _ => leftR a
  | .region n _ _ => some n
  | _ => none
def findL (n : Nat) : Code → Option Code
  | .seq a b => if leftR a = some n then some (.seq a b) else match findL n a with
    | some c => some c
    | none => findL n b
  | .block _ c => findL n c
  | .loop c => findL n c
  | .scope c => findL n c
  | .cond _ a b => match findL n a with
    | some c => some c
    | none => findL n b
  | _ => none
noncomputable def tailB5 : Code := (Try.f4.body.bind (findL 72)).getD .skip
theorem desc_neq (a b : Int) (W : World) : (binOp .neq 70 (.agg #[.int .i64 a, .int .i64 b]) (.agg #[.int .i64 a, .int .i64 b])).run Try.prog W = .ok (.bool false) W := by
  simp [go_sem]
set_option maxRecDepth 1000000 in
set_option maxHeartbeats 12000000 in
theorem law05_tailB {w : World} {m : MemS} {cv tv nv xv wv mv : Value} {nb tb wk k b21 b23 : Nat} {nodes next made : List Int} {kd I K L d1 d2 : Int} (Q : I5 wk k m nodes next made) {wr : World} (hR : R (l5 w m cv tv nv xv wv mv nb nodes next made ++ [StK tb #[.int .u8 kd, .int .i64 I, .int .u8 K, .int .u8 L] 56, StK b21 #[.int .i64 d1, .int .i64 d2] 67, StK b23 #[.int .i64 d1, .int .i64 d2] 70]) wr)
    (z : Bool) (hz : decide (0 < d1) = z)
    (c0 c1 c4 c6 c8 c11 c12 c13 c14 c15 c16 c17 c18 c19 c20 c24 c25 c26 c27 c28 c29 c30 c31 c32 c33 c34 c35 c36 c37 c38 c39 c40 c41 c42 c43 c44 c45 c46 c47 c48 c49 c50 c51 c52 c53 c54 c55 c56 c57 c58 c59 c60 c61 c62 c63 c64 c65 c66 c67 c68 c69 c70 c71 c72 c73 c74 c75 c76 c77 c78 c79 c80 c81 c82 c83 c84 c85 c86 c87 c88 c89 c90 c91 c92 c93 c94 c95 c96 c97 c98 c99 c100 c101 c102 c103 c104 c105 c106 c107 c108 c109 c110 c111 c112 c113 c114 c115 c116 c117 c118 c119 c120 c121 c122 c123 c124 c125 c126 c127 c128 c129 c130 c131 c132 c133 c134 c135 c136 c137 c138 c139 c140 c141 c142 c143 c144 c145 c146 c147 c148 c149 c150 c151 c152 c153 c154 c155 c156 c157 c158 c159 c160 c161 c162 c163 c164 c165 c166 c167 c168 c169 c170 c171 c172 c173 c174 c175 c176 c177 c178 c179 c180 c181 c182 c183 c184 c185 c186 c187 c188 c189 c190 c191 c192 c193 c194 c195 c196 c197 c198 c199 c200 c201 c202 c203 c204 c205 c206 c207 c208 c209 c210 c211 c212 c213 c214 c215 c216 c217 c218 c219 c220 c221 c222 c223 c224 c225 c226 c227 c228 c229 c230 c231 c232 c233 c234 c235 c236 c237 c238 c239 c240 c241 c242 c243 c244 c245 c246 c247 c248 c249 c250 c251 c252 c253 c254 c255 c256 c257 c258 c259 c260 c261 c262 c263 c264 c265 c266 c267 c268 c269 c270 c271 c272 c273 c274 c275 c276 c277 c278 c279 c280 c281 c282 c283 c284 c285 c286 c287 c288 c289 c290 c291 c292 c293 c294 c295 c296 c297 c298 c299 c300 c301 c302 c303 c304 c305 c306 c307 c308 c309 c310 c311 c312 c313 c314 c315 c316 c317 c318 c319 c320 c321 c322 c323 c324 c325 c326 c327 c328 c329 c330 c331 c332 c333 c334 c335 c336 c337 c338 c339 c340 c341 c342 c343 c344 c345 c346 c347 c348 c349 c350 c351 c352 c353 c354 c355 c356 c357 c358 c359 c360 c361 c362 c363 c364 c365 c366 c367 c368 c369 c370 c371 c372 c373 c374 c375 c376 c377 c378 c379 c380 c381 c382 c383 c384 c385 c386 c387 c388 c389 c390 c391 c392 c393 c394 c395 c396 c397 c398 c399 c400 c401 c402 c403 c404 c405 c406 c407 c408 c409 c410 c411 c412 c413 c414 c415 c416 c417 c418 c419 c420 c421 c422 c423 c424 c425 c426 c427 c428 c429 c430 c431 c432 c433 c434 c435 c436 c437 c438 c439 c440 c441 c442 c443 c444 c445 c446 c447 c448 c449 c450 c451 c452 c453 c454 c455 c456 c457 c458 : Value) {P : Exit → Act → World → Prop}
    (hP : ∀ (d408 d409 d410 d411 d412 d413 d414 d415 d416 d417 d418 d419 d420 d421 d422 d423 d424 d425 d426 d427 d428 d429 d430 d431 d432 d433 d434 d435 d436 d437 d438 d439 d440 d441 d442 d443 d444 d445 d446 d447 d448 d449 d450 d451 d452 d453 d454 d455 d456 d457 : Value) (w' : World), R (l5 w m cv tv nv xv wv mv nb nodes next made) w' → P .normal ⟨#[c0, c1, undef, undef, c4, .pointer (some ⟨m.b, 0, none⟩), c6, .pointer (some ⟨nb, 0, none⟩), c8, undef, .pointer (some ⟨tb, 0, none⟩), c11, c12, c13, c14, c15, c16, c17, c18, c19, c20, .pointer (some ⟨b21, 0, none⟩), .bool z, .pointer (some ⟨b23, 0, none⟩), c24, c25, c26, c27, c28, c29, c30, c31, c32, c33, c34, c35, c36, c37, c38, c39, c40, c41, c42, c43, c44, c45, c46, c47, c48, c49, c50, c51, c52, c53, c54, c55, c56, c57, c58, c59, c60, c61, c62, c63, c64, c65, c66, c67, c68, c69, c70, c71, c72, c73, c74, c75, c76, c77, c78, c79, c80, c81, c82, c83, c84, c85, c86, c87, c88, c89, c90, c91, c92, c93, c94, c95, c96, c97, c98, c99, c100, c101, c102, c103, c104, c105, c106, c107, c108, c109, c110, c111, c112, c113, c114, c115, c116, c117, c118, c119, c120, c121, c122, c123, c124, c125, c126, c127, c128, c129, c130, c131, c132, c133, c134, c135, c136, c137, c138, c139, c140, c141, c142, c143, c144, c145, c146, c147, c148, c149, c150, c151, c152, c153, c154, c155, c156, c157, c158, c159, c160, c161, c162, c163, c164, c165, c166, c167, c168, c169, c170, c171, c172, c173, c174, c175, c176, c177, c178, c179, c180, c181, c182, c183, c184, c185, c186, c187, c188, c189, c190, c191, c192, c193, c194, c195, c196, c197, c198, c199, c200, c201, c202, c203, c204, c205, c206, c207, c208, c209, c210, c211, c212, c213, c214, c215, c216, c217, c218, c219, c220, c221, c222, c223, c224, c225, c226, c227, c228, c229, c230, c231, c232, c233, c234, c235, c236, c237, c238, c239, c240, c241, c242, c243, c244, c245, c246, c247, c248, c249, c250, c251, c252, c253, c254, c255, c256, c257, c258, c259, c260, c261, c262, c263, c264, c265, c266, c267, c268, c269, c270, c271, c272, c273, c274, c275, c276, c277, c278, c279, c280, c281, c282, c283, c284, c285, c286, c287, c288, c289, c290, c291, c292, c293, c294, c295, c296, c297, c298, c299, c300, c301, c302, c303, c304, c305, c306, c307, c308, c309, c310, c311, c312, c313, c314, c315, c316, c317, c318, c319, c320, c321, c322, c323, c324, c325, c326, c327, c328, c329, c330, c331, c332, c333, c334, c335, c336, c337, c338, c339, c340, c341, c342, c343, c344, c345, c346, c347, c348, c349, c350, c351, c352, c353, c354, c355, c356, c357, c358, c359, c360, c361, c362, c363, c364, c365, c366, c367, c368, c369, c370, c371, c372, c373, c374, c375, c376, c377, c378, c379, c380, c381, c382, c383, c384, c385, c386, c387, c388, c389, c390, c391, c392, c393, c394, c395, c396, c397, c398, c399, c400, c401, c402, c403, c404, c405, c406, c407, d408, d409, d410, d411, d412, d413, d414, d415, d416, d417, d418, d419, d420, d421, d422, d423, d424, d425, d426, d427, d428, d429, d430, d431, d432, d433, d434, d435, d436, d437, d438, d439, d440, d441, d442, d443, d444, d445, d446, d447, d448, d449, d450, d451, d452, d453, d454, d455, d456, d457, c458, undef], []⟩ w') :
    Code.wp Try.prog tailB5 P ⟨#[c0, c1, undef, undef, c4, .pointer (some ⟨m.b, 0, none⟩), c6, .pointer (some ⟨nb, 0, none⟩), c8, undef, .pointer (some ⟨tb, 0, none⟩), c11, c12, c13, c14, c15, c16, c17, c18, c19, c20, .pointer (some ⟨b21, 0, none⟩), .bool z, .pointer (some ⟨b23, 0, none⟩), c24, c25, c26, c27, c28, c29, c30, c31, c32, c33, c34, c35, c36, c37, c38, c39, c40, c41, c42, c43, c44, c45, c46, c47, c48, c49, c50, c51, c52, c53, c54, c55, c56, c57, c58, c59, c60, c61, c62, c63, c64, c65, c66, c67, c68, c69, c70, c71, c72, c73, c74, c75, c76, c77, c78, c79, c80, c81, c82, c83, c84, c85, c86, c87, c88, c89, c90, c91, c92, c93, c94, c95, c96, c97, c98, c99, c100, c101, c102, c103, c104, c105, c106, c107, c108, c109, c110, c111, c112, c113, c114, c115, c116, c117, c118, c119, c120, c121, c122, c123, c124, c125, c126, c127, c128, c129, c130, c131, c132, c133, c134, c135, c136, c137, c138, c139, c140, c141, c142, c143, c144, c145, c146, c147, c148, c149, c150, c151, c152, c153, c154, c155, c156, c157, c158, c159, c160, c161, c162, c163, c164, c165, c166, c167, c168, c169, c170, c171, c172, c173, c174, c175, c176, c177, c178, c179, c180, c181, c182, c183, c184, c185, c186, c187, c188, c189, c190, c191, c192, c193, c194, c195, c196, c197, c198, c199, c200, c201, c202, c203, c204, c205, c206, c207, c208, c209, c210, c211, c212, c213, c214, c215, c216, c217, c218, c219, c220, c221, c222, c223, c224, c225, c226, c227, c228, c229, c230, c231, c232, c233, c234, c235, c236, c237, c238, c239, c240, c241, c242, c243, c244, c245, c246, c247, c248, c249, c250, c251, c252, c253, c254, c255, c256, c257, c258, c259, c260, c261, c262, c263, c264, c265, c266, c267, c268, c269, c270, c271, c272, c273, c274, c275, c276, c277, c278, c279, c280, c281, c282, c283, c284, c285, c286, c287, c288, c289, c290, c291, c292, c293, c294, c295, c296, c297, c298, c299, c300, c301, c302, c303, c304, c305, c306, c307, c308, c309, c310, c311, c312, c313, c314, c315, c316, c317, c318, c319, c320, c321, c322, c323, c324, c325, c326, c327, c328, c329, c330, c331, c332, c333, c334, c335, c336, c337, c338, c339, c340, c341, c342, c343, c344, c345, c346, c347, c348, c349, c350, c351, c352, c353, c354, c355, c356, c357, c358, c359, c360, c361, c362, c363, c364, c365, c366, c367, c368, c369, c370, c371, c372, c373, c374, c375, c376, c377, c378, c379, c380, c381, c382, c383, c384, c385, c386, c387, c388, c389, c390, c391, c392, c393, c394, c395, c396, c397, c398, c399, c400, c401, c402, c403, c404, c405, c406, c407, c408, c409, c410, c411, c412, c413, c414, c415, c416, c417, c418, c419, c420, c421, c422, c423, c424, c425, c426, c427, c428, c429, c430, c431, c432, c433, c434, c435, c436, c437, c438, c439, c440, c441, c442, c443, c444, c445, c446, c447, c448, c449, c450, c451, c452, c453, c454, c455, c456, c457, c458, undef], []⟩ wr := by
  obtain ⟨⟨ca, cc, rfl⟩, _⟩ := R.slVal hR (t := 3) rfl
  obtain ⟨⟨ta, tc, rfl⟩, _⟩ := R.slVal hR (t := 4) rfl
  obtain ⟨⟨na, nc, rfl⟩, _⟩ := R.sxVal hR (t := 5) rfl
  obtain ⟨⟨xa, xc, rfl⟩, _⟩ := R.sxVal hR (t := 6) rfl
  obtain ⟨⟨wa, wc, rfl⟩, _⟩ := R.slVal hR (t := 7) rfl
  have hmo := hR.memOk (t := 1) rfl
  have hrok := RefOk5.of hmo
  have hwl := Q.wait
  have hrow : RowsIn (l5 w m (.slice ca m.cells.length cc) (.slice ta m.tables.length tc) (.slice na nodes.length nc) (.slice xa next.length xc) (.slice wa m.waiting.length wc) mv nb nodes next made ++ [StK tb #[.int .u8 kd, .int .i64 I, .int .u8 K, .int .u8 L] 56, StK b21 #[.int .i64 d1, .int .i64 d2] 67, StK b23 #[.int .i64 d1, .int .i64 d2] 70]) 3 4 5 6 (.slice ca m.cells.length cc) (.slice ta m.tables.length tc) (.slice na nodes.length nc) (.slice xa next.length xc) m.cells m.tables nodes next := ⟨rfl, rfl, rfl, rfl⟩
  obtain ⟨LL, hLL⟩ : ∃ LL, l5 w m (.slice ca m.cells.length cc) (.slice ta m.tables.length tc) (.slice na nodes.length nc) (.slice xa next.length xc) (.slice wa m.waiting.length wc) mv nb nodes next made ++ [StK tb #[.int .u8 kd, .int .i64 I, .int .u8 K, .int .u8 L] 56, StK b21 #[.int .i64 d1, .int .i64 d2] 67, StK b23 #[.int .i64 d1, .int .i64 d2] 70] = LL := ⟨_, rfl⟩
  have hM : LL[1]? = some (MemK m) := by rw [← hLL]; rfl
  have hN : LL[9]? = some (StK nb #[.slice ca m.cells.length cc, .slice ta m.tables.length tc, .slice na nodes.length nc, .slice xa next.length xc, .slice wa m.waiting.length wc] 53) := by rw [← hLL]; rfl
  have hA : LL[10]? = some (StK tb #[.int .u8 kd, .int .i64 I, .int .u8 K, .int .u8 L] 56) := by rw [← hLL]; rfl
  have h21 : LL[11]? = some (StK b21 #[.int .i64 d1, .int .i64 d2] 67) := by rw [← hLL]; rfl
  have h23 : LL[12]? = some (StK b23 #[.int .i64 d1, .int .i64 d2] 70) := by rw [← hLL]; rfl
  rw [hLL] at hrow hR
  have hend : ∀ w', R LL w' → R (l5 w m (.slice ca m.cells.length cc) (.slice ta m.tables.length tc) (.slice na nodes.length nc) (.slice xa next.length xc) (.slice wa m.waiting.length wc) mv nb nodes next made) w' := fun w' h => by rw [← hLL] at h; exact h.left
  replace hend := hide hend
  replace hP := hide hP
  clear hLL
  have hR0 := hR.drew
  have k21 := hR0.st h21
  have k23 := hR0.st h23
  have kN := hR0.st hN
  have hnw := hide (mem_now hR0 hM)
  have hlt := hide fun w' (h : R LL w') => mem_waiting h hM
  have hft := hide fun w' (h : R LL w') => memR_fault h hM
  have hrn := hide fun w' (h : R LL w') => ref05_now (nv := .slice na nodes.length nc) (xv := .slice xa next.length xc) (wv := .slice wa m.waiting.length wc) h hrow.c hrow.t hrok.len.1 hrok.tlen (hrok.u64 1)
  have hnr : nowR m.cells m.tables = nowOf m := rfl
  rw [hnr] at hrn
  obtain ⟨n1, n2, hno⟩ : ∃ n1 n2 : Int, nowOf m = (n1, n2) := ⟨_, _, rfl⟩
  rw [hno] at hnw hrn
  dsimp only [descV] at hnw hrn
  have hq1 := fun W => desc_neq d1 d2 W
  have hq2 := fun W => desc_neq n1 n2 W
  replace hR0 := hide hR0
  rw [Q.fault] at hft
  clear hR
  obtain ⟨htv, hwv, hhm⟩ := hR0.out.memHdr hM
  have kM : cellOf (blk wr.drew m.b) 2 = some (.pointer (some ⟨m.ab, 0, none⟩)) := by rw [hhm]; rfl
  clear hhm
  conv => arg 2; whnf
  go_upto_region 72 with fail
  go_region_held3 (fun w' => blk w' b21 = some (.cells #[.int .i64 d1, .int .i64 d2] 67 (0, 0)) ∧ blk w' b23 = some (.cells #[.int .i64 d1, .int .i64 d2] 70 (0, 0)) ∧ blk w' nb = some (.cells #[.slice ca m.cells.length cc, .slice ta m.tables.length tc, .slice na nodes.length nc, .slice xa next.length xc, .slice wa m.waiting.length wc] 53 (0, 0)) ∧ cellOf (blk w' m.b) 2 = some (.pointer (some ⟨m.ab, 0, none⟩))) (first | exact ⟨k21, k23, kN, kM⟩ | exact ⟨k21a, k23a, kNa, kMa⟩ | exact ⟨k21b, k23b, kNb, kMb⟩) (first | (go_at_call 29; refine hnw.out.mono ?_; rintro e w4 ⟨rfl, h4⟩; have k21a := h4.st h21; have k23a := h4.st h23; have kNa := h4.st hN; obtain ⟨htv4, hwv4, hhm4⟩ := h4.memHdr hM; have kMa : cellOf (blk w4 m.b) 2 = some (.pointer (some ⟨m.ab, 0, none⟩)) := (by rw [hhm4]; rfl); clear hhm4; replace h4 := hide h4) | (go_at_call 30; refine (hrn.out _ h4.out).mono ?_; rintro e w5 ⟨rfl, h5⟩; have k21b := h5.st h21; have k23b := h5.st h23; have kNb := h5.st hN; obtain ⟨htv5, hwv5, hhm5⟩ := h5.memHdr hM; have kMb : cellOf (blk w5 m.b) 2 = some (.pointer (some ⟨m.ab, 0, none⟩)) := (by rw [hhm5]; rfl); clear hhm5; replace h5 := hide h5) | (go_at_call 31; refine (hlt.out _ h5.out).mono ?_; rintro e w6 ⟨rfl, rfl⟩) | (go_at_call 12; refine (hft.out _ h5.out).mono ?_; rintro e w6 ⟨rfl, rfl⟩))
  all_goals
    clear k21 k23 kN kM k21a k23a kNa kMa k21b k23b kNb kMb h4 hnw hlt hft hrn hq1 hq2
    have kA0 := h5.out.drew.st hA
    have kN0 := h5.out.drew.st hN
    have hss : m.ss.length ≤ 1024 := by rw [Q.room]; decide
    have hc1 := mem_Chain h5.out.drew hM I
    have hc2 := hide fun (w' : World) (X : KObj) (h : R (LL ++ [X]) w') => ref05_Chain h (hrow.app _) hrok Q.ok hss (.slice wa m.waiting.length wc) I
    have hheq : headR m.cells m.tables I = headOf m I := rfl
    rw [hheq] at hc2
    have hr1 := hide fun (w' : World) (h : R LL w') => mem_Reach h hM
    have hr2 := hide fun (w' : World) (X : KObj) (h : R (LL ++ [X]) w') => ref05_Reach h (hrow.app _) hrok Q.ok hss (.slice wa m.waiting.length wc)
    have hreq : rR m.ss (fun i : Nat => headR m.cells m.tables i) (nowR m.cells m.tables).1.toNat = reachL m (nowOf m).1.toNat := (reachL_is m _).symm
    rw [hreq] at hr2
    generalize chainL m.ss [] (headOf m I) = C1 at *
    generalize reachL m (nowOf m).1.toNat = C2 at *
    replace hc1 := hide hc1
    clear hheq hreq
    go_upto_region 74 with fail
    go_region_held3 (fun w' => blk w' tb = some (.cells #[.int .u8 kd, .int .i64 I, .int .u8 K, .int .u8 L] 56 (0, 0)) ∧ blk w' nb = some (.cells #[.slice ca m.cells.length cc, .slice ta m.tables.length tc, .slice na nodes.length nc, .slice xa next.length xc, .slice wa m.waiting.length wc] 53 (0, 0))) (first | exact ⟨kA0, kN0⟩ | exact ⟨kA1, kN1⟩ | exact ⟨kA2, kN2⟩ | exact ⟨kA3, kN3⟩ | exact ⟨kA4, kN4⟩ | exact ⟨kA5, kN5⟩ | exact ⟨kA6, kN6⟩) (first | (go_at_call 32; refine hc1.out.mono ?_; rintro e w4 ⟨v4, rfl, h4⟩; have kA1 := h4.st (app_get hA); have kN1 := h4.st (app_get hN); replace h4 := hide h4) | (go_at_call 33; refine (hc2.out _ _ h4.out).mono ?_; rintro e w6 ⟨v6, rfl, h6⟩; have kA2 := h6.st (app_get (app_get hA)); have kN2 := h6.st (app_get (app_get hN)); have hh1 := law05_handles (Rd.sl h6 (app_get app_last)) (Rd.sl h6 app_last); replace hh1 := hide hh1; replace h6 := hide h6) | (go_at_call 26; refine hh1.out.mono ?_; rintro e w7 ⟨rfl, n7, rfl⟩; have h7 := h6.out.left.left.drewN n7; have kA3 := h7.st hA; have kN3 := h7.st hN; clear hh1; replace h7 := hide h7) | (go_at_call 34; refine (hr1.out _ h7.out).mono ?_; rintro e w8 ⟨v8, rfl, h8⟩; have kA4 := h8.st (app_get hA); have kN4 := h8.st (app_get hN); replace h8 := hide h8) | (go_at_call 35; refine (hr2.out _ _ h8.out).mono ?_; rintro e w9 ⟨v9, rfl, h9⟩; have kA5 := h9.st (app_get (app_get hA)); have kN5 := h9.st (app_get (app_get hN)); have hh2 := law05_handles (Rd.sl h9 (app_get app_last)) (Rd.sl h9 app_last); replace hh2 := hide hh2; replace h9 := hide h9) | (go_at_call 26; refine hh2.out.mono ?_; rintro e w10 ⟨rfl, n10, rfl⟩; have h10 := h9.out.left.left.drewN n10; have kA6 := h10.st hA; have kN6 := h10.st hN; replace h10 := hide h10))
    all_goals
      have hfin := hide (hend.out _ h10.out)
      clear h4 h6 h7 h8 h9 h10
      go_wp2_with fail
      apply hP.out
      exact hfin.out
end Go.Proofs.Ytcoaemjoanbemaa
