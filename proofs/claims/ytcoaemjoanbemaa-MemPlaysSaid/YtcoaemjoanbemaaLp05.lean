/- quietuslaw05: MemPlays: the end of a round, whole. Condition: its objects are there. (Written by wip/gen/gen5.py from wip/gen/Lp05.body.) -/
import Derived.Test.YtcoaemjoanbemaaLo05
namespace Go.Proofs.Ytcoaemjoanbemaa
open Go.RowKit

noncomputable def tailA5 : Code := (Try.f4.body.bind (findL 68)).getD .skip
set_option maxRecDepth 1000000 in
set_option maxHeartbeats 12000000 in
theorem law05_tail {w : World} {m : MemS} {cv tv nv xv wv mv : Value} {nb tb wk k : Nat} {nodes next made : List Int} {kd I K L : Int} (Q : I5 wk k m nodes next made) (hk : k ≤ 100)
    (hI0 : -9223372036854775808 ≤ I) (hI1 : I ≤ 9223372036854775807) {wr : World} (hR : R (l5 w m cv tv nv xv wv mv nb nodes next made ++ [StK tb #[.int .u8 kd, .int .i64 I, .int .u8 K, .int .u8 L] 56]) wr)
    (c0 c1 c4 c6 c8 c11 c12 c13 c14 c15 c16 c17 c18 c19 c20 c21 c22 c23 c24 c25 c26 c27 c28 c29 c30 c31 c32 c33 c34 c35 c36 c37 c38 c39 c40 c41 c42 c43 c44 c45 c46 c47 c48 c49 c50 c51 c52 c53 c54 c55 c56 c57 c58 c59 c60 c61 c62 c63 c64 c65 c66 c67 c68 c69 c70 c71 c72 c73 c74 c75 c76 c77 c78 c79 c80 c81 c82 c83 c84 c85 c86 c87 c88 c89 c90 c91 c92 c93 c94 c95 c96 c97 c98 c99 c100 c101 c102 c103 c104 c105 c106 c107 c108 c109 c110 c111 c112 c113 c114 c115 c116 c117 c118 c119 c120 c121 c122 c123 c124 c125 c126 c127 c128 c129 c130 c131 c132 c133 c134 c135 c136 c137 c138 c139 c140 c141 c142 c143 c144 c145 c146 c147 c148 c149 c150 c151 c152 c153 c154 c155 c156 c157 c158 c159 c160 c161 c162 c163 c164 c165 c166 c167 c168 c169 c170 c171 c172 c173 c174 c175 c176 c177 c178 c179 c180 c181 c182 c183 c184 c185 c186 c187 c188 c189 c190 c191 c192 c193 c194 c195 c196 c197 c198 c199 c200 c201 c202 c203 c204 c205 c206 c207 c208 c209 c210 c211 c212 c213 c214 c215 c216 c217 c218 c219 c220 c221 c222 c223 c224 c225 c226 c227 c228 c229 c230 c231 c232 c233 c234 c235 c236 c237 c238 c239 c240 c241 c242 c243 c244 c245 c246 c247 c248 c249 c250 c251 c252 c253 c254 c255 c256 c257 c258 c259 c260 c261 c262 c263 c264 c265 c266 c267 c268 c269 c270 c271 c272 c273 c274 c275 c276 c277 c278 c279 c280 c281 c282 c283 c284 c285 c286 c287 c288 c289 c290 c291 c292 c293 c294 c295 c296 c297 c298 c299 c300 c301 c302 c303 c304 c305 c306 c307 c308 c309 c310 c311 c312 c313 c314 c315 c316 c317 c318 c319 c320 c321 c322 c323 c324 c325 c326 c327 c328 c329 c330 c331 c332 c333 c334 c335 c336 c337 c338 c339 c340 c341 c342 c343 c344 c345 c346 c347 c348 c349 c350 c351 c352 c353 c354 c355 c356 c357 c358 c359 c360 c361 c362 c363 c364 c365 c366 c367 c368 c369 c370 c371 c372 c373 c374 c375 c376 c377 c378 c379 c380 c381 c382 c383 c384 c385 c386 c387 c388 c389 c390 c391 c392 c393 c394 c395 c396 c397 c398 c399 c400 c401 c402 c403 c404 c405 c406 c407 c408 c409 c410 c411 c412 c413 c414 c415 c416 c417 c418 c419 c420 c421 c422 c423 c424 c425 c426 c427 c428 c429 c430 c431 c432 c433 c434 c435 c436 c437 c438 c439 c440 c441 c442 c443 c444 c445 c446 c447 c448 c449 c450 c451 c452 c453 c454 c455 c456 c457 c458 : Value) {P : Exit → Act → World → Prop}
    (hP : ∀ (d21 d22 d23 d383 d384 d385 d386 d387 d388 d389 d390 d391 d392 d393 d394 d395 d396 d397 d398 d399 d400 d401 d402 d403 d404 d405 d406 d407 d408 d409 d410 d411 d412 d413 d414 d415 d416 d417 d418 d419 d420 d421 d422 d423 d424 d425 d426 d427 d428 d429 d430 d431 d432 d433 d434 d435 d436 d437 d438 d439 d440 d441 d442 d443 d444 d445 d446 d447 d448 d449 d450 d451 d452 d453 d454 d455 d456 d457 : Value) (w' : World), R (l5 w m cv tv nv xv wv mv nb nodes next made) w' → P .normal ⟨#[c0, c1, undef, undef, c4, .pointer (some ⟨m.b, 0, none⟩), c6, .pointer (some ⟨nb, 0, none⟩), c8, undef, .pointer (some ⟨tb, 0, none⟩), c11, c12, c13, c14, c15, c16, c17, c18, c19, c20, d21, d22, d23, c24, c25, c26, c27, c28, c29, c30, c31, c32, c33, c34, c35, c36, c37, c38, c39, c40, c41, c42, c43, c44, c45, c46, c47, c48, c49, c50, c51, c52, c53, c54, c55, c56, c57, c58, c59, c60, c61, c62, c63, c64, c65, c66, c67, c68, c69, c70, c71, c72, c73, c74, c75, c76, c77, c78, c79, c80, c81, c82, c83, c84, c85, c86, c87, c88, c89, c90, c91, c92, c93, c94, c95, c96, c97, c98, c99, c100, c101, c102, c103, c104, c105, c106, c107, c108, c109, c110, c111, c112, c113, c114, c115, c116, c117, c118, c119, c120, c121, c122, c123, c124, c125, c126, c127, c128, c129, c130, c131, c132, c133, c134, c135, c136, c137, c138, c139, c140, c141, c142, c143, c144, c145, c146, c147, c148, c149, c150, c151, c152, c153, c154, c155, c156, c157, c158, c159, c160, c161, c162, c163, c164, c165, c166, c167, c168, c169, c170, c171, c172, c173, c174, c175, c176, c177, c178, c179, c180, c181, c182, c183, c184, c185, c186, c187, c188, c189, c190, c191, c192, c193, c194, c195, c196, c197, c198, c199, c200, c201, c202, c203, c204, c205, c206, c207, c208, c209, c210, c211, c212, c213, c214, c215, c216, c217, c218, c219, c220, c221, c222, c223, c224, c225, c226, c227, c228, c229, c230, c231, c232, c233, c234, c235, c236, c237, c238, c239, c240, c241, c242, c243, c244, c245, c246, c247, c248, c249, c250, c251, c252, c253, c254, c255, c256, c257, c258, c259, c260, c261, c262, c263, c264, c265, c266, c267, c268, c269, c270, c271, c272, c273, c274, c275, c276, c277, c278, c279, c280, c281, c282, c283, c284, c285, c286, c287, c288, c289, c290, c291, c292, c293, c294, c295, c296, c297, c298, c299, c300, c301, c302, c303, c304, c305, c306, c307, c308, c309, c310, c311, c312, c313, c314, c315, c316, c317, c318, c319, c320, c321, c322, c323, c324, c325, c326, c327, c328, c329, c330, c331, c332, c333, c334, c335, c336, c337, c338, c339, c340, c341, c342, c343, c344, c345, c346, c347, c348, c349, c350, c351, c352, c353, c354, c355, c356, c357, c358, c359, c360, c361, c362, c363, c364, c365, c366, c367, c368, c369, c370, c371, c372, c373, c374, c375, c376, c377, c378, c379, c380, c381, c382, d383, d384, d385, d386, d387, d388, d389, d390, d391, d392, d393, d394, d395, d396, d397, d398, d399, d400, d401, d402, d403, d404, d405, d406, d407, d408, d409, d410, d411, d412, d413, d414, d415, d416, d417, d418, d419, d420, d421, d422, d423, d424, d425, d426, d427, d428, d429, d430, d431, d432, d433, d434, d435, d436, d437, d438, d439, d440, d441, d442, d443, d444, d445, d446, d447, d448, d449, d450, d451, d452, d453, d454, d455, d456, d457, c458, undef], []⟩ w') :
    Code.wp Try.prog tailA5 P ⟨#[c0, c1, undef, undef, c4, .pointer (some ⟨m.b, 0, none⟩), c6, .pointer (some ⟨nb, 0, none⟩), c8, undef, .pointer (some ⟨tb, 0, none⟩), c11, c12, c13, c14, c15, c16, c17, c18, c19, c20, c21, c22, c23, c24, c25, c26, c27, c28, c29, c30, c31, c32, c33, c34, c35, c36, c37, c38, c39, c40, c41, c42, c43, c44, c45, c46, c47, c48, c49, c50, c51, c52, c53, c54, c55, c56, c57, c58, c59, c60, c61, c62, c63, c64, c65, c66, c67, c68, c69, c70, c71, c72, c73, c74, c75, c76, c77, c78, c79, c80, c81, c82, c83, c84, c85, c86, c87, c88, c89, c90, c91, c92, c93, c94, c95, c96, c97, c98, c99, c100, c101, c102, c103, c104, c105, c106, c107, c108, c109, c110, c111, c112, c113, c114, c115, c116, c117, c118, c119, c120, c121, c122, c123, c124, c125, c126, c127, c128, c129, c130, c131, c132, c133, c134, c135, c136, c137, c138, c139, c140, c141, c142, c143, c144, c145, c146, c147, c148, c149, c150, c151, c152, c153, c154, c155, c156, c157, c158, c159, c160, c161, c162, c163, c164, c165, c166, c167, c168, c169, c170, c171, c172, c173, c174, c175, c176, c177, c178, c179, c180, c181, c182, c183, c184, c185, c186, c187, c188, c189, c190, c191, c192, c193, c194, c195, c196, c197, c198, c199, c200, c201, c202, c203, c204, c205, c206, c207, c208, c209, c210, c211, c212, c213, c214, c215, c216, c217, c218, c219, c220, c221, c222, c223, c224, c225, c226, c227, c228, c229, c230, c231, c232, c233, c234, c235, c236, c237, c238, c239, c240, c241, c242, c243, c244, c245, c246, c247, c248, c249, c250, c251, c252, c253, c254, c255, c256, c257, c258, c259, c260, c261, c262, c263, c264, c265, c266, c267, c268, c269, c270, c271, c272, c273, c274, c275, c276, c277, c278, c279, c280, c281, c282, c283, c284, c285, c286, c287, c288, c289, c290, c291, c292, c293, c294, c295, c296, c297, c298, c299, c300, c301, c302, c303, c304, c305, c306, c307, c308, c309, c310, c311, c312, c313, c314, c315, c316, c317, c318, c319, c320, c321, c322, c323, c324, c325, c326, c327, c328, c329, c330, c331, c332, c333, c334, c335, c336, c337, c338, c339, c340, c341, c342, c343, c344, c345, c346, c347, c348, c349, c350, c351, c352, c353, c354, c355, c356, c357, c358, c359, c360, c361, c362, c363, c364, c365, c366, c367, c368, c369, c370, c371, c372, c373, c374, c375, c376, c377, c378, c379, c380, c381, c382, c383, c384, c385, c386, c387, c388, c389, c390, c391, c392, c393, c394, c395, c396, c397, c398, c399, c400, c401, c402, c403, c404, c405, c406, c407, c408, c409, c410, c411, c412, c413, c414, c415, c416, c417, c418, c419, c420, c421, c422, c423, c424, c425, c426, c427, c428, c429, c430, c431, c432, c433, c434, c435, c436, c437, c438, c439, c440, c441, c442, c443, c444, c445, c446, c447, c448, c449, c450, c451, c452, c453, c454, c455, c456, c457, c458, undef], []⟩ wr := by
  obtain ⟨⟨ca, cc, rfl⟩, _⟩ := R.slVal hR (t := 3) rfl
  obtain ⟨⟨ta, tc, rfl⟩, _⟩ := R.slVal hR (t := 4) rfl
  obtain ⟨⟨na, nc, rfl⟩, _⟩ := R.sxVal hR (t := 5) rfl
  obtain ⟨⟨xa, xc, rfl⟩, _⟩ := R.sxVal hR (t := 6) rfl
  obtain ⟨⟨wa, wc, rfl⟩, _⟩ := R.slVal hR (t := 7) rfl
  have hbA := hR.st (t := 10) rfl
  have hmo := hR.memOk (t := 1) rfl
  have hds := hide (mem_desc hR (t := 1) rfl I)
  replace hP := hide hP
  clear hR
  conv => arg 2; whnf
  go_wp2_with fail
  refine hds.out.mono ?_
  rintro e w2 ⟨rfl, h2⟩
  clear hds hbA
  have hd0 : ∃ d1 d2 : Int, descOf m I = (d1, d2) := ⟨_, _, rfl⟩
  obtain ⟨d1, d2, hd⟩ := hd0
  rw [hd]
  dsimp only [descV]
  have h3 := (h2.new #[.int .i64 d1, .int .i64 d2] 67).new #[.int .i64 0, .int .i64 0] 70
  rw [show ∀ (W : World) (x : Obj), (W.alloc x).heap.size = W.heap.size + 1 from fun W x => by simp] at h3
  rw [List.append_assoc, List.append_assoc] at h3
  have h3f := (h2.new #[.int .i64 d1, .int .i64 d2] 67).new #[.int .i64 d1, .int .i64 d2] 70
  rw [show ∀ (W : World) (x : Obj), (W.alloc x).heap.size = W.heap.size + 1 from fun W x => by simp] at h3f
  rw [List.append_assoc, List.append_assoc] at h3f
  replace h3f := hide h3f
  have hbA := h3.st (t := 10) rfl
  have hbN := h3.st (t := 9) rfl
  have hb21 := h3.st (t := 11) rfl
  have hb23 := h3.st (t := 12) rfl
  replace h3 := hide h3
  clear h2
  by_cases hIn : 0 ≤ I ∧ I < (m.tables.length : Int)
  · obtain ⟨hIa, hIb⟩ := hIn
    obtain ⟨i, rfl⟩ := Int.eq_ofNat_of_zero_le hIa
    obtain ⟨o, hr3⟩ := h3.out
    have hts : SlAt o _ (16 * 4) 70 2 (.slice ta m.tables.length tc) m.tables.length (m.tables.flatMap descL) := hr3 4 _ rfl
    obtain ⟨g, cp, cur, hvt, hg, _, _, e0, e1⟩ := rdesc_at (i := i) hts (by omega)
    simp at hvt
    obtain ⟨rfl, rfl⟩ := hvt
    have hdd : m.tables.getD i (0, 0) = (d1, d2) := by rw [← hd, descOf, if_pos hIa]; rfl
    rw [hdd] at e0 e1
    dsimp only at e0 e1
    have hd1 : 1 ≤ d1 := by
      have hmem : (d1, d2) ∈ m.tables := by
        rw [← hdd, show m.tables.getD i (0, 0) = m.tables[i]'(by omega) by simp [show i < m.tables.length by omega]]
        exact List.getElem_mem _
      exact (hmo.tab _ hmem).1
    have hz : decide (0 < d1) = true := decide_eq_true (by omega)
    have hin2 : decide (0 ≤ (i : Int) ∧ (i : Int) < (m.tables.length : Int)) = true := decide_eq_true ⟨hIa, hIb⟩
    have hiN : i < m.tables.length := by omega
    go_upto_if 401 with fail
    go_cut [23] from 402 to 407 (fun s wx => s = .pointer (some ⟨w2.heap.size + 1, 0, none⟩) ∧ Hid (R (l5 w m (.slice ca m.cells.length cc) (.slice (some ⟨g, 0, none⟩) m.tables.length tc) (.slice na nodes.length nc) (.slice xa next.length xc) (.slice wa m.waiting.length wc) mv nb nodes next made ++ [StK tb #[.int .u8 kd, .int .i64 i, .int .u8 K, .int .u8 L] 56, StK w2.heap.size #[.int .i64 d1, .int .i64 d2] 67, StK (w2.heap.size + 1) #[.int .i64 d1, .int .i64 d2] 70]) wx))
    case first =>
      clear hr3 hts
      go_wp2_with fail
      go_meet
      case rel => exact ⟨rfl, h3f⟩
    case rest =>
      obtain ⟨rfl, h5⟩ := hcut
      refine (‹∀ (a : Act) (w : World), Code.wp Try.prog _ _ a w → _›) _ _ ?_
      refine law05_tailB Q h5.out true hz _ _ _ _ _ _ _ _ _ _ _ _ _ _ _ _ _ _ _ _ _ _ _ _ _ _ _ _ _ _ _ _ _ _ _ _ _ _ _ _ _ _ _ _ _ _ _ _ _ _ _ _ _ _ _ _ _ _ _ _ _ _ _ _ _ _ _ _ _ _ _ _ _ _ _ _ _ _ _ _ _ _ _ _ _ _ _ _ _ _ _ _ _ _ _ _ _ _ _ _ _ _ _ _ _ _ _ _ _ _ _ _ _ _ _ _ _ _ _ _ _ _ _ _ _ _ _ _ _ _ _ _ _ _ _ _ _ _ _ _ _ _ _ _ _ _ _ _ _ _ _ _ _ _ _ _ _ _ _ _ _ _ _ _ _ _ _ _ _ _ _ _ _ _ _ _ _ _ _ _ _ _ _ _ _ _ _ _ _ _ _ _ _ _ _ _ _ _ _ _ _ _ _ _ _ _ _ _ _ _ _ _ _ _ _ _ _ _ _ _ _ _ _ _ _ _ _ _ _ _ _ _ _ _ _ _ _ _ _ _ _ _ _ _ _ _ _ _ _ _ _ _ _ _ _ _ _ _ _ _ _ _ _ _ _ _ _ _ _ _ _ _ _ _ _ _ _ _ _ _ _ _ _ _ _ _ _ _ _ _ _ _ _ _ _ _ _ _ _ _ _ _ _ _ _ _ _ _ _ _ _ _ _ _ _ _ _ _ _ _ _ _ _ _ _ _ _ _ _ _ _ _ _ _ _ _ _ _ _ _ _ _ _ _ _ _ _ _ _ _ _ _ _ _ _ _ _ _ _ _ _ _ _ _ _ _ _ _ _ _ _ _ _ _ _ _ _ _ _ _ _ _ _ _ _ _ _ _ _ _ _ _ _ _ _ _ _ _ _ _ _ _ _ _ _ _ _ _ _ _ _ _ _ _ _ _ _ _ _ _ _ _ _ _ _ _ _ _ _ _ _ _ _ _ _ _ _ _ _ _ _ _ _ _ _ _ _ _ _ _ ?_
      intro d408 d409 d410 d411 d412 d413 d414 d415 d416 d417 d418 d419 d420 d421 d422 d423 d424 d425 d426 d427 d428 d429 d430 d431 d432 d433 d434 d435 d436 d437 d438 d439 d440 d441 d442 d443 d444 d445 d446 d447 d448 d449 d450 d451 d452 d453 d454 d455 d456 d457 w' hw
      refine hP.out _ _ _ _ _ _ _ _ _ _ _ _ _ _ _ _ _ _ _ _ _ _ _ _ _ _ _ _ d408 d409 d410 d411 d412 d413 d414 d415 d416 d417 d418 d419 d420 d421 d422 d423 d424 d425 d426 d427 d428 d429 d430 d431 d432 d433 d434 d435 d436 d437 d438 d439 d440 d441 d442 d443 d444 d445 d446 d447 d448 d449 d450 d451 d452 d453 d454 d455 d456 d457 w' hw
  · have hin2 : decide (0 ≤ I ∧ I < (m.tables.length : Int)) = false := decide_eq_false hIn
    have hdd : d1 = 0 ∧ d2 = 0 := by
      have : descOf m I = (0, 0) := by
        unfold descOf
        by_cases h0 : 0 ≤ I
        · rw [if_pos h0, List.getD_eq_getElem?_getD, List.getElem?_eq_none (by omega)]; rfl
        · rw [if_neg h0]
      rw [hd] at this
      exact ⟨congrArg Prod.fst this, congrArg Prod.snd this⟩
    obtain ⟨rfl, rfl⟩ := hdd
    have hz : decide ((0 : Int) < 0) = false := by decide
    have hcs : I < 0 ∨ (0 ≤ I ∧ ¬ I < (m.tables.length : Int)) := by omega
    rcases hcs with hc1 | ⟨hc1, hc2⟩
    · have hc2 : ¬ 0 ≤ I := by omega
      go_upto_if 401 with fail
      go_cut [23] from 383 to 407 (fun s wx => s = .pointer (some ⟨w2.heap.size + 1, 0, none⟩) ∧ Hid (R (l5 w m (.slice ca m.cells.length cc) (.slice ta m.tables.length tc) (.slice na nodes.length nc) (.slice xa next.length xc) (.slice wa m.waiting.length wc) mv nb nodes next made ++ [StK tb #[.int .u8 kd, .int .i64 I, .int .u8 K, .int .u8 L] 56, StK w2.heap.size #[.int .i64 0, .int .i64 0] 67, StK (w2.heap.size + 1) #[.int .i64 0, .int .i64 0] 70]) wx))
      case first =>
        go_wp2_with fail
        go_meet
        case rel => exact ⟨rfl, h3f⟩
      case rest =>
        obtain ⟨rfl, h5⟩ := hcut
        refine (‹∀ (a : Act) (w : World), Code.wp Try.prog _ _ a w → _›) _ _ ?_
        refine law05_tailB Q h5.out false hz _ _ _ _ _ _ _ _ _ _ _ _ _ _ _ _ _ _ _ _ _ _ _ _ _ _ _ _ _ _ _ _ _ _ _ _ _ _ _ _ _ _ _ _ _ _ _ _ _ _ _ _ _ _ _ _ _ _ _ _ _ _ _ _ _ _ _ _ _ _ _ _ _ _ _ _ _ _ _ _ _ _ _ _ _ _ _ _ _ _ _ _ _ _ _ _ _ _ _ _ _ _ _ _ _ _ _ _ _ _ _ _ _ _ _ _ _ _ _ _ _ _ _ _ _ _ _ _ _ _ _ _ _ _ _ _ _ _ _ _ _ _ _ _ _ _ _ _ _ _ _ _ _ _ _ _ _ _ _ _ _ _ _ _ _ _ _ _ _ _ _ _ _ _ _ _ _ _ _ _ _ _ _ _ _ _ _ _ _ _ _ _ _ _ _ _ _ _ _ _ _ _ _ _ _ _ _ _ _ _ _ _ _ _ _ _ _ _ _ _ _ _ _ _ _ _ _ _ _ _ _ _ _ _ _ _ _ _ _ _ _ _ _ _ _ _ _ _ _ _ _ _ _ _ _ _ _ _ _ _ _ _ _ _ _ _ _ _ _ _ _ _ _ _ _ _ _ _ _ _ _ _ _ _ _ _ _ _ _ _ _ _ _ _ _ _ _ _ _ _ _ _ _ _ _ _ _ _ _ _ _ _ _ _ _ _ _ _ _ _ _ _ _ _ _ _ _ _ _ _ _ _ _ _ _ _ _ _ _ _ _ _ _ _ _ _ _ _ _ _ _ _ _ _ _ _ _ _ _ _ _ _ _ _ _ _ _ _ _ _ _ _ _ _ _ _ _ _ _ _ _ _ _ _ _ _ _ _ _ _ _ _ _ _ _ _ _ _ _ _ _ _ _ _ _ _ _ _ _ _ _ _ _ _ _ _ _ _ _ _ _ _ _ _ _ _ _ _ _ _ _ _ _ _ _ _ _ _ _ _ _ _ _ _ _ _ _ _ _ _ ?_
        intro d408 d409 d410 d411 d412 d413 d414 d415 d416 d417 d418 d419 d420 d421 d422 d423 d424 d425 d426 d427 d428 d429 d430 d431 d432 d433 d434 d435 d436 d437 d438 d439 d440 d441 d442 d443 d444 d445 d446 d447 d448 d449 d450 d451 d452 d453 d454 d455 d456 d457 w' hw
        refine hP.out _ _ _ _ _ _ _ _ _ _ _ _ _ _ _ _ _ _ _ _ _ _ _ _ _ _ _ _ d408 d409 d410 d411 d412 d413 d414 d415 d416 d417 d418 d419 d420 d421 d422 d423 d424 d425 d426 d427 d428 d429 d430 d431 d432 d433 d434 d435 d436 d437 d438 d439 d440 d441 d442 d443 d444 d445 d446 d447 d448 d449 d450 d451 d452 d453 d454 d455 d456 d457 w' hw
    · skip
      go_upto_if 401 with fail
      go_cut [23] from 383 to 407 (fun s wx => s = .pointer (some ⟨w2.heap.size + 1, 0, none⟩) ∧ Hid (R (l5 w m (.slice ca m.cells.length cc) (.slice ta m.tables.length tc) (.slice na nodes.length nc) (.slice xa next.length xc) (.slice wa m.waiting.length wc) mv nb nodes next made ++ [StK tb #[.int .u8 kd, .int .i64 I, .int .u8 K, .int .u8 L] 56, StK w2.heap.size #[.int .i64 0, .int .i64 0] 67, StK (w2.heap.size + 1) #[.int .i64 0, .int .i64 0] 70]) wx))
      case first =>
        go_wp2_with fail
        go_meet
        case rel => exact ⟨rfl, h3f⟩
      case rest =>
        obtain ⟨rfl, h5⟩ := hcut
        refine (‹∀ (a : Act) (w : World), Code.wp Try.prog _ _ a w → _›) _ _ ?_
        refine law05_tailB Q h5.out false hz _ _ _ _ _ _ _ _ _ _ _ _ _ _ _ _ _ _ _ _ _ _ _ _ _ _ _ _ _ _ _ _ _ _ _ _ _ _ _ _ _ _ _ _ _ _ _ _ _ _ _ _ _ _ _ _ _ _ _ _ _ _ _ _ _ _ _ _ _ _ _ _ _ _ _ _ _ _ _ _ _ _ _ _ _ _ _ _ _ _ _ _ _ _ _ _ _ _ _ _ _ _ _ _ _ _ _ _ _ _ _ _ _ _ _ _ _ _ _ _ _ _ _ _ _ _ _ _ _ _ _ _ _ _ _ _ _ _ _ _ _ _ _ _ _ _ _ _ _ _ _ _ _ _ _ _ _ _ _ _ _ _ _ _ _ _ _ _ _ _ _ _ _ _ _ _ _ _ _ _ _ _ _ _ _ _ _ _ _ _ _ _ _ _ _ _ _ _ _ _ _ _ _ _ _ _ _ _ _ _ _ _ _ _ _ _ _ _ _ _ _ _ _ _ _ _ _ _ _ _ _ _ _ _ _ _ _ _ _ _ _ _ _ _ _ _ _ _ _ _ _ _ _ _ _ _ _ _ _ _ _ _ _ _ _ _ _ _ _ _ _ _ _ _ _ _ _ _ _ _ _ _ _ _ _ _ _ _ _ _ _ _ _ _ _ _ _ _ _ _ _ _ _ _ _ _ _ _ _ _ _ _ _ _ _ _ _ _ _ _ _ _ _ _ _ _ _ _ _ _ _ _ _ _ _ _ _ _ _ _ _ _ _ _ _ _ _ _ _ _ _ _ _ _ _ _ _ _ _ _ _ _ _ _ _ _ _ _ _ _ _ _ _ _ _ _ _ _ _ _ _ _ _ _ _ _ _ _ _ _ _ _ _ _ _ _ _ _ _ _ _ _ _ _ _ _ _ _ _ _ _ _ _ _ _ _ _ _ _ _ _ _ _ _ _ _ _ _ _ _ _ _ _ _ _ _ _ _ _ _ _ _ _ _ _ _ _ _ _ _ ?_
        intro d408 d409 d410 d411 d412 d413 d414 d415 d416 d417 d418 d419 d420 d421 d422 d423 d424 d425 d426 d427 d428 d429 d430 d431 d432 d433 d434 d435 d436 d437 d438 d439 d440 d441 d442 d443 d444 d445 d446 d447 d448 d449 d450 d451 d452 d453 d454 d455 d456 d457 w' hw
        refine hP.out _ _ _ _ _ _ _ _ _ _ _ _ _ _ _ _ _ _ _ _ _ _ _ _ _ _ _ _ d408 d409 d410 d411 d412 d413 d414 d415 d416 d417 d418 d419 d420 d421 d422 d423 d424 d425 d426 d427 d428 d429 d430 d431 d432 d433 d434 d435 d436 d437 d438 d439 d440 d441 d442 d443 d444 d445 d446 d447 d448 d449 d450 d451 d452 d453 d454 d455 d456 d457 w' hw
end Go.Proofs.Ytcoaemjoanbemaa
