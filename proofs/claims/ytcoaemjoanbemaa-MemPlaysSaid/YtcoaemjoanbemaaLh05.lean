/- quietuslaw05: MemPlays: a round. Condition: its objects are there. (Written by wip/gen/gen5.py from wip/gen/Lh05.body, which mk_Lh05.py wrote.) -/
import Derived.Test.YtcoaemjoanbemaaLg05
import Derived.Deep.DeepCutAuto
import Derived.Deep.CutBlock
namespace Go.Proofs.Ytcoaemjoanbemaa
open Go.RowKit

/-- A frame's slots, written out. -/
theorem list_eta (l : List Value) : l = (List.range l.length).map (fun i => l.getD i undef) := by
  apply List.ext_getElem
  · simp
  · intro i h1 h2
    simp [h1]
set_option maxRecDepth 1000000 in
theorem lit460 (f : Nat → Value) : (List.range 460).map f = [f 0, f 1, f 2, f 3, f 4, f 5, f 6, f 7, f 8, f 9, f 10, f 11, f 12, f 13, f 14, f 15, f 16, f 17, f 18, f 19, f 20, f 21, f 22, f 23, f 24, f 25, f 26, f 27, f 28, f 29, f 30, f 31, f 32, f 33, f 34, f 35, f 36, f 37, f 38, f 39, f 40, f 41, f 42, f 43, f 44, f 45, f 46, f 47, f 48, f 49, f 50, f 51, f 52, f 53, f 54, f 55, f 56, f 57, f 58, f 59, f 60, f 61, f 62, f 63, f 64, f 65, f 66, f 67, f 68, f 69, f 70, f 71, f 72, f 73, f 74, f 75, f 76, f 77, f 78, f 79, f 80, f 81, f 82, f 83, f 84, f 85, f 86, f 87, f 88, f 89, f 90, f 91, f 92, f 93, f 94, f 95, f 96, f 97, f 98, f 99, f 100, f 101, f 102, f 103, f 104, f 105, f 106, f 107, f 108, f 109, f 110, f 111, f 112, f 113, f 114, f 115, f 116, f 117, f 118, f 119, f 120, f 121, f 122, f 123, f 124, f 125, f 126, f 127, f 128, f 129, f 130, f 131, f 132, f 133, f 134, f 135, f 136, f 137, f 138, f 139, f 140, f 141, f 142, f 143, f 144, f 145, f 146, f 147, f 148, f 149, f 150, f 151, f 152, f 153, f 154, f 155, f 156, f 157, f 158, f 159, f 160, f 161, f 162, f 163, f 164, f 165, f 166, f 167, f 168, f 169, f 170, f 171, f 172, f 173, f 174, f 175, f 176, f 177, f 178, f 179, f 180, f 181, f 182, f 183, f 184, f 185, f 186, f 187, f 188, f 189, f 190, f 191, f 192, f 193, f 194, f 195, f 196, f 197, f 198, f 199, f 200, f 201, f 202, f 203, f 204, f 205, f 206, f 207, f 208, f 209, f 210, f 211, f 212, f 213, f 214, f 215, f 216, f 217, f 218, f 219, f 220, f 221, f 222, f 223, f 224, f 225, f 226, f 227, f 228, f 229, f 230, f 231, f 232, f 233, f 234, f 235, f 236, f 237, f 238, f 239, f 240, f 241, f 242, f 243, f 244, f 245, f 246, f 247, f 248, f 249, f 250, f 251, f 252, f 253, f 254, f 255, f 256, f 257, f 258, f 259, f 260, f 261, f 262, f 263, f 264, f 265, f 266, f 267, f 268, f 269, f 270, f 271, f 272, f 273, f 274, f 275, f 276, f 277, f 278, f 279, f 280, f 281, f 282, f 283, f 284, f 285, f 286, f 287, f 288, f 289, f 290, f 291, f 292, f 293, f 294, f 295, f 296, f 297, f 298, f 299, f 300, f 301, f 302, f 303, f 304, f 305, f 306, f 307, f 308, f 309, f 310, f 311, f 312, f 313, f 314, f 315, f 316, f 317, f 318, f 319, f 320, f 321, f 322, f 323, f 324, f 325, f 326, f 327, f 328, f 329, f 330, f 331, f 332, f 333, f 334, f 335, f 336, f 337, f 338, f 339, f 340, f 341, f 342, f 343, f 344, f 345, f 346, f 347, f 348, f 349, f 350, f 351, f 352, f 353, f 354, f 355, f 356, f 357, f 358, f 359, f 360, f 361, f 362, f 363, f 364, f 365, f 366, f 367, f 368, f 369, f 370, f 371, f 372, f 373, f 374, f 375, f 376, f 377, f 378, f 379, f 380, f 381, f 382, f 383, f 384, f 385, f 386, f 387, f 388, f 389, f 390, f 391, f 392, f 393, f 394, f 395, f 396, f 397, f 398, f 399, f 400, f 401, f 402, f 403, f 404, f 405, f 406, f 407, f 408, f 409, f 410, f 411, f 412, f 413, f 414, f 415, f 416, f 417, f 418, f 419, f 420, f 421, f 422, f 423, f 424, f 425, f 426, f 427, f 428, f 429, f 430, f 431, f 432, f 433, f 434, f 435, f 436, f 437, f 438, f 439, f 440, f 441, f 442, f 443, f 444, f 445, f 446, f 447, f 448, f 449, f 450, f 451, f 452, f 453, f 454, f 455, f 456, f 457, f 458, f 459] := by kernel_rfl
set_option maxRecDepth 1000000 in
set_option maxHeartbeats 4000000 in
theorem St5.open {b nb : Nat} {v10 mv s95 s96 s97 : Value} {a : Act} (h : St5 b nb v10 mv s95 s96 s97 a) :
    ∃ f : Nat → Value, a = ⟨#[f 0, f 1, undef, undef, f 4, .pointer (some ⟨b, 0, none⟩), f 6, .pointer (some ⟨nb, 0, none⟩), mv, undef, v10, f 11, f 12, f 13, f 14, f 15, f 16, f 17, f 18, f 19, f 20, f 21, f 22, f 23, f 24, f 25, f 26, f 27, f 28, f 29, f 30, f 31, f 32, f 33, f 34, f 35, f 36, f 37, f 38, f 39, f 40, f 41, f 42, f 43, f 44, f 45, f 46, f 47, f 48, f 49, f 50, f 51, f 52, f 53, f 54, f 55, f 56, f 57, f 58, f 59, f 60, f 61, f 62, f 63, f 64, f 65, f 66, f 67, f 68, f 69, f 70, f 71, f 72, f 73, f 74, f 75, f 76, f 77, f 78, f 79, f 80, f 81, f 82, f 83, f 84, f 85, f 86, f 87, f 88, f 89, f 90, f 91, f 92, f 93, f 94, s95, s96, s97, f 98, f 99, f 100, f 101, f 102, f 103, f 104, f 105, f 106, f 107, f 108, f 109, f 110, f 111, f 112, f 113, f 114, f 115, f 116, f 117, f 118, f 119, f 120, f 121, f 122, f 123, f 124, f 125, f 126, f 127, f 128, f 129, f 130, f 131, f 132, f 133, f 134, f 135, f 136, f 137, f 138, f 139, f 140, f 141, f 142, f 143, f 144, f 145, f 146, f 147, f 148, f 149, f 150, f 151, f 152, f 153, f 154, f 155, f 156, f 157, f 158, f 159, f 160, f 161, f 162, f 163, f 164, f 165, f 166, f 167, f 168, f 169, f 170, f 171, f 172, f 173, f 174, f 175, f 176, f 177, f 178, f 179, f 180, f 181, f 182, f 183, f 184, f 185, f 186, f 187, f 188, f 189, f 190, f 191, f 192, f 193, f 194, f 195, f 196, f 197, f 198, f 199, f 200, f 201, f 202, f 203, f 204, f 205, f 206, f 207, f 208, f 209, f 210, f 211, f 212, f 213, f 214, f 215, f 216, f 217, f 218, f 219, f 220, f 221, f 222, f 223, f 224, f 225, f 226, f 227, f 228, f 229, f 230, f 231, f 232, f 233, f 234, f 235, f 236, f 237, f 238, f 239, f 240, f 241, f 242, f 243, f 244, f 245, f 246, f 247, f 248, f 249, f 250, f 251, f 252, f 253, f 254, f 255, f 256, f 257, f 258, f 259, f 260, f 261, f 262, f 263, f 264, f 265, f 266, f 267, f 268, f 269, f 270, f 271, f 272, f 273, f 274, f 275, f 276, f 277, f 278, f 279, f 280, f 281, f 282, f 283, f 284, f 285, f 286, f 287, f 288, f 289, f 290, f 291, f 292, f 293, f 294, f 295, f 296, f 297, f 298, f 299, f 300, f 301, f 302, f 303, f 304, f 305, f 306, f 307, f 308, f 309, f 310, f 311, f 312, f 313, f 314, f 315, f 316, f 317, f 318, f 319, f 320, f 321, f 322, f 323, f 324, f 325, f 326, f 327, f 328, f 329, f 330, f 331, f 332, f 333, f 334, f 335, f 336, f 337, f 338, f 339, f 340, f 341, f 342, f 343, f 344, f 345, f 346, f 347, f 348, f 349, f 350, f 351, f 352, f 353, f 354, f 355, f 356, f 357, f 358, f 359, f 360, f 361, f 362, f 363, f 364, f 365, f 366, f 367, f 368, f 369, f 370, f 371, f 372, f 373, f 374, f 375, f 376, f 377, f 378, f 379, f 380, f 381, f 382, f 383, f 384, f 385, f 386, f 387, f 388, f 389, f 390, f 391, f 392, f 393, f 394, f 395, f 396, f 397, f 398, f 399, f 400, f 401, f 402, f 403, f 404, f 405, f 406, f 407, f 408, f 409, f 410, f 411, f 412, f 413, f 414, f 415, f 416, f 417, f 418, f 419, f 420, f 421, f 422, f 423, f 424, f 425, f 426, f 427, f 428, f 429, f 430, f 431, f 432, f 433, f 434, f 435, f 436, f 437, f 438, f 439, f 440, f 441, f 442, f 443, f 444, f 445, f 446, f 447, f 448, f 449, f 450, f 451, f 452, f 453, f 454, f 455, f 456, f 457, f 458, undef], []⟩ := by
  obtain ⟨l, rfl, hl, ⟨z2, z3, z9, z459⟩, z5, z7, z8, z10, z95, z96, z97⟩ := h
  refine ⟨fun i => l.getD i undef, ?_⟩
  have e := list_eta l
  rw [hl, lit460] at e
  refine congrArg (fun l => (⟨List.toArray l, []⟩ : Act)) (e.trans ?_)
  simp only [z2, z3, z9, z459, z5, z7, z8, z10, z95, z96, z97]
set_option maxRecDepth 1000000 in
set_option maxHeartbeats 4000000 in
theorem law05_tailS {w : World} {m : MemS} {cv tv nv xv wv mv s95 s96 s97 : Value} {nb tb wk k : Nat} {nodes next made : List Int} {kd I K L : Int} {a : Act} (hS : St5 m.b nb (.pointer (some ⟨tb, 0, none⟩)) mv s95 s96 s97 a) (Q : I5 wk k m nodes next made) (hk : k ≤ 100)
    (hI0 : -9223372036854775808 ≤ I) (hI1 : I ≤ 9223372036854775807) {wr : World} (hR : R (l5 w m cv tv nv xv wv mv nb nodes next made ++ [StK tb #[.int .u8 kd, .int .i64 I, .int .u8 K, .int .u8 L] 56]) wr) {P : Exit → Act → World → Prop}
    (hP : ∀ a' w', St5 m.b nb (.pointer (some ⟨tb, 0, none⟩)) mv s95 s96 s97 a' → R (l5 w m cv tv nv xv wv mv nb nodes next made) w' → P .normal a' w') : Code.wp Try.prog tailA5 P a wr := by
  obtain ⟨f, rfl⟩ := hS.open
  exact law05_tail Q hk hI0 hI1 hR _ _ _ _ _ _ _ _ _ _ _ _ _ _ _ _ _ _ _ _ _ _ _ _ _ _ _ _ _ _ _ _ _ _ _ _ _ _ _ _ _ _ _ _ _ _ _ _ _ _ _ _ _ _ _ _ _ _ _ _ _ _ _ _ _ _ _ _ _ _ _ _ _ _ _ _ _ _ _ _ _ _ _ _ _ _ _ _ _ _ _ _ _ _ _ _ _ _ _ _ _ _ _ _ _ _ _ _ _ _ _ _ _ _ _ _ _ _ _ _ _ _ _ _ _ _ _ _ _ _ _ _ _ _ _ _ _ _ _ _ _ _ _ _ _ _ _ _ _ _ _ _ _ _ _ _ _ _ _ _ _ _ _ _ _ _ _ _ _ _ _ _ _ _ _ _ _ _ _ _ _ _ _ _ _ _ _ _ _ _ _ _ _ _ _ _ _ _ _ _ _ _ _ _ _ _ _ _ _ _ _ _ _ _ _ _ _ _ _ _ _ _ _ _ _ _ _ _ _ _ _ _ _ _ _ _ _ _ _ _ _ _ _ _ _ _ _ _ _ _ _ _ _ _ _ _ _ _ _ _ _ _ _ _ _ _ _ _ _ _ _ _ _ _ _ _ _ _ _ _ _ _ _ _ _ _ _ _ _ _ _ _ _ _ _ _ _ _ _ _ _ _ _ _ _ _ _ _ _ _ _ _ _ _ _ _ _ _ _ _ _ _ _ _ _ _ _ _ _ _ _ _ _ _ _ _ _ _ _ _ _ _ _ _ _ _ _ _ _ _ _ _ _ _ _ _ _ _ _ _ _ _ _ _ _ _ _ _ _ _ _ _ _ _ _ _ _ _ _ _ _ _ _ _ _ _ _ _ _ _ _ _ _ _ _ _ _ _ _ _ _ _ _ _ _ _ _ _ _ _ _ _ _ _ _ _ _ _ _ _ _ _ _ _ _ _ _ _ _ _ _ _ _ _ _ _ _ _ _ _ _ _ _ _ _ _ _ _ _ _ _ _ _ (fun _ _ _ _ _ _ _ _ _ _ _ _ _ _ _ _ _ _ _ _ _ _ _ _ _ _ _ _ _ _ _ _ _ _ _ _ _ _ _ _ _ _ _ _ _ _ _ _ _ _ _ _ _ _ _ _ _ _ _ _ _ _ _ _ _ _ _ _ _ _ _ _ _ _ _ _ _ _ w' h => hP _ w' St5.lit h)

noncomputable def blk1 : Code := (Try.f4.body.bind (findB 1)).getD .skip
def Rel5 (w : World) (wk b nb k : Nat) (mv : Value) (wr : World) : Prop :=
  ∃ m nodes next made cv tv nv xv wv, m.b = b ∧ I5 wk k m nodes next made ∧ R (l5 w m cv tv nv xv wv mv nb nodes next made) wr
/-- What holds behind a round. -/
def PostR5 (w : World) (wk b nb k : Nat) (s95 s96 s97 : Value) : Exit → Act → World → Prop
  | .normal, a, w' => ∃ v10 mv', St5 b nb v10 mv' s95 s96 s97 a ∧ Rel5 w wk b nb (k + 1) mv' w'
  | .ret, a, w' => Ret5 a ∧ Below w.heap.size w w'
  | _, _, _ => False
set_option maxRecDepth 1000000 in
set_option maxHeartbeats 12000000 in
theorem law05_roundL {w : World} {v v10 : Value} {acts : List Act05} (hv : FrAt w w.heap.size 4 v (acts.map act05)) (hin : ∀ x ∈ acts, okAct05 x) (hl : acts.length ≤ 60) {wk k : Nat} (hlt : k < acts.length) {m : MemS} {nodes next made : List Int} {cv tv nv xv wv mv : Value} {nb : Nat}
    (Q : I5 wk k m nodes next made) {wr : World} (hR : R (l5 w m cv tv nv xv wv mv nb nodes next made) wr) (c0 c1 c4 c6 c11 c12 c13 c14 c15 c16 c17 c18 c19 c20 c21 c22 c23 c24 c25 c26 c27 c28 c29 c30 c31 c32 c33 c34 c35 c36 c37 c38 c39 c40 c41 c42 c43 c44 c45 c46 c47 c48 c49 c50 c51 c52 c53 c54 c55 c56 c57 c58 c59 c60 c61 c62 c63 c64 c65 c66 c67 c68 c69 c70 c71 c72 c73 c74 c75 c76 c77 c78 c79 c80 c81 c82 c83 c84 c85 c86 c87 c88 c89 c90 c91 c92 c93 c94 c96 c98 c99 c100 c101 c102 c103 c104 c105 c106 c107 c108 c109 c110 c111 c112 c113 c114 c115 c116 c117 c118 c119 c120 c121 c122 c123 c124 c125 c126 c127 c128 c129 c130 c131 c132 c133 c134 c135 c136 c137 c138 c139 c140 c141 c142 c143 c144 c145 c146 c147 c148 c149 c150 c151 c152 c153 c154 c155 c156 c157 c158 c159 c160 c161 c162 c163 c164 c165 c166 c167 c168 c169 c170 c171 c172 c173 c174 c175 c176 c177 c178 c179 c180 c181 c182 c183 c184 c185 c186 c187 c188 c189 c190 c191 c192 c193 c194 c195 c196 c197 c198 c199 c200 c201 c202 c203 c204 c205 c206 c207 c208 c209 c210 c211 c212 c213 c214 c215 c216 c217 c218 c219 c220 c221 c222 c223 c224 c225 c226 c227 c228 c229 c230 c231 c232 c233 c234 c235 c236 c237 c238 c239 c240 c241 c242 c243 c244 c245 c246 c247 c248 c249 c250 c251 c252 c253 c254 c255 c256 c257 c258 c259 c260 c261 c262 c263 c264 c265 c266 c267 c268 c269 c270 c271 c272 c273 c274 c275 c276 c277 c278 c279 c280 c281 c282 c283 c284 c285 c286 c287 c288 c289 c290 c291 c292 c293 c294 c295 c296 c297 c298 c299 c300 c301 c302 c303 c304 c305 c306 c307 c308 c309 c310 c311 c312 c313 c314 c315 c316 c317 c318 c319 c320 c321 c322 c323 c324 c325 c326 c327 c328 c329 c330 c331 c332 c333 c334 c335 c336 c337 c338 c339 c340 c341 c342 c343 c344 c345 c346 c347 c348 c349 c350 c351 c352 c353 c354 c355 c356 c357 c358 c359 c360 c361 c362 c363 c364 c365 c366 c367 c368 c369 c370 c371 c372 c373 c374 c375 c376 c377 c378 c379 c380 c381 c382 c383 c384 c385 c386 c387 c388 c389 c390 c391 c392 c393 c394 c395 c396 c397 c398 c399 c400 c401 c402 c403 c404 c405 c406 c407 c408 c409 c410 c411 c412 c413 c414 c415 c416 c417 c418 c419 c420 c421 c422 c423 c424 c425 c426 c427 c428 c429 c430 c431 c432 c433 c434 c435 c436 c437 c438 c439 c440 c441 c442 c443 c444 c445 c446 c447 c448 c449 c450 c451 c452 c453 c454 c455 c456 c457 c458 : Value) :
    Code.wp Try.prog blk1 (PostR5 w wk m.b nb k v c96 (.int .i64 k)) ⟨#[c0, c1, undef, undef, c4, .pointer (some ⟨m.b, 0, none⟩), c6, .pointer (some ⟨nb, 0, none⟩), mv, undef, v10, c11, c12, c13, c14, c15, c16, c17, c18, c19, c20, c21, c22, c23, c24, c25, c26, c27, c28, c29, c30, c31, c32, c33, c34, c35, c36, c37, c38, c39, c40, c41, c42, c43, c44, c45, c46, c47, c48, c49, c50, c51, c52, c53, c54, c55, c56, c57, c58, c59, c60, c61, c62, c63, c64, c65, c66, c67, c68, c69, c70, c71, c72, c73, c74, c75, c76, c77, c78, c79, c80, c81, c82, c83, c84, c85, c86, c87, c88, c89, c90, c91, c92, c93, c94, v, c96, .int .i64 k, c98, c99, c100, c101, c102, c103, c104, c105, c106, c107, c108, c109, c110, c111, c112, c113, c114, c115, c116, c117, c118, c119, c120, c121, c122, c123, c124, c125, c126, c127, c128, c129, c130, c131, c132, c133, c134, c135, c136, c137, c138, c139, c140, c141, c142, c143, c144, c145, c146, c147, c148, c149, c150, c151, c152, c153, c154, c155, c156, c157, c158, c159, c160, c161, c162, c163, c164, c165, c166, c167, c168, c169, c170, c171, c172, c173, c174, c175, c176, c177, c178, c179, c180, c181, c182, c183, c184, c185, c186, c187, c188, c189, c190, c191, c192, c193, c194, c195, c196, c197, c198, c199, c200, c201, c202, c203, c204, c205, c206, c207, c208, c209, c210, c211, c212, c213, c214, c215, c216, c217, c218, c219, c220, c221, c222, c223, c224, c225, c226, c227, c228, c229, c230, c231, c232, c233, c234, c235, c236, c237, c238, c239, c240, c241, c242, c243, c244, c245, c246, c247, c248, c249, c250, c251, c252, c253, c254, c255, c256, c257, c258, c259, c260, c261, c262, c263, c264, c265, c266, c267, c268, c269, c270, c271, c272, c273, c274, c275, c276, c277, c278, c279, c280, c281, c282, c283, c284, c285, c286, c287, c288, c289, c290, c291, c292, c293, c294, c295, c296, c297, c298, c299, c300, c301, c302, c303, c304, c305, c306, c307, c308, c309, c310, c311, c312, c313, c314, c315, c316, c317, c318, c319, c320, c321, c322, c323, c324, c325, c326, c327, c328, c329, c330, c331, c332, c333, c334, c335, c336, c337, c338, c339, c340, c341, c342, c343, c344, c345, c346, c347, c348, c349, c350, c351, c352, c353, c354, c355, c356, c357, c358, c359, c360, c361, c362, c363, c364, c365, c366, c367, c368, c369, c370, c371, c372, c373, c374, c375, c376, c377, c378, c379, c380, c381, c382, c383, c384, c385, c386, c387, c388, c389, c390, c391, c392, c393, c394, c395, c396, c397, c398, c399, c400, c401, c402, c403, c404, c405, c406, c407, c408, c409, c410, c411, c412, c413, c414, c415, c416, c417, c418, c419, c420, c421, c422, c423, c424, c425, c426, c427, c428, c429, c430, c431, c432, c433, c434, c435, c436, c437, c438, c439, c440, c441, c442, c443, c444, c445, c446, c447, c448, c449, c450, c451, c452, c453, c454, c455, c456, c457, c458, undef], []⟩ wr := by
  have hbel : Below w.heap.size w wr := hR.done
  obtain ⟨a, cap, rfl, hlen, -⟩ := id hv
  rw [List.length_map] at hlen
  obtain ⟨_, _, hv2, -, hr⟩ := hv.below hbel
  obtain ⟨vb, voff, ha, hvb, hc0⟩ := hr k (by simpa using hlt)
  simp at hv2
  obtain ⟨rfl, rfl⟩ := hv2
  subst ha
  have hget : (acts.map act05).getD k [] = act05 (acts.getD k ⟨0, 0, 0, 0⟩) := by simp [hlt]
  rw [hget] at hc0
  have hxin := hin (acts.getD k ⟨0, 0, 0, 0⟩) (by simp [hlt])
  generalize acts.getD k ⟨0, 0, 0, 0⟩ = x at *
  obtain ⟨kd, I, K, L⟩ := x
  obtain ⟨⟨hk0, hk1⟩, ⟨hI0, hI1⟩, ⟨hK0, hK1⟩, ⟨hL0, hL1⟩⟩ := hxin
  dsimp only at *
  obtain ⟨u0, e0, c0⟩ := hc0 0 (by decide)
  obtain ⟨u1, e1, c1⟩ := hc0 1 (by decide)
  obtain ⟨u2, e2, c2⟩ := hc0 2 (by decide)
  obtain ⟨u3, e3, c3⟩ := hc0 3 (by decide)
  simp [act05] at e0 e1 e2 e3
  subst e0 e1 e2 e3
  simp only [Nat.add_zero] at c0
  clear hr hget hc0 hv hin
  rw [List.length_map]
  obtain ⟨⟨ma, mc, rfl⟩, _⟩ := hR.slVal (t := 8) rfl
  have hml := Q.made.1
  have hmu := hide Q.made.2
  have hk60 : k ≤ 60 := by omega
  have hS0 : Hid (R (l5 w m cv tv nv xv wv (.slice ma made.length mc) nb nodes next made ++ [StK wr.heap.size #[.int .u8 kd, .int .i64 I, .int .u8 K, .int .u8 L] 56]) (wr.alloc (.cells #[.int .u8 kd, .int .i64 I, .int .u8 K, .int .u8 L] 56))) := hide (hR.new _ _)
  clear hR hbel
  conv => arg 2; whnf
  go_upto_if 106 with fail
  generalize wr.alloc (.cells #[.int .u8 kd, .int .i64 I, .int .u8 K, .int .u8 L] 56) = wq at *
  generalize wr.heap.size = tb at *
  go_cut [11, 12] from 98 to 124 (fun hv kv wx => ∃ h y, hv = .int .u64 h ∧ kv = .int .u64 y ∧ U64 h ∧ U64 y ∧ Hid (R (l5 w m cv tv nv xv wv (.slice ma made.length mc) nb nodes next made ++ [StK tb #[.int .u8 kd, .int .i64 I, .int .u8 K, .int .u8 L] 56]) wx))
  case first =>
    by_cases hm0 : made.length = 0
    · have hmg : decide ((0 : Int) < (made.length : Int)) = false := decide_eq_false (by omega)
      go_wp2_with fail
      go_meet
      case rel => exact ⟨_, 0, rfl, rfl, u64_wrap I, ⟨by decide, by decide⟩, hS0⟩
    · have hmp : 0 < made.length := by omega
      obtain ⟨j1, hj1⟩ := Int.eq_ofNat_of_zero_le (Int.emod_nonneg K (by omega : (made.length : Int) ≠ 0))
      obtain ⟨j2, hj2⟩ := Int.eq_ofNat_of_zero_le (Int.emod_nonneg L (by omega : (made.length : Int) ≠ 0))
      have hj1l : j1 < made.length := by have := Int.emod_lt_of_pos K (by omega : (0 : Int) < made.length); omega
      have hj2l : j2 < made.length := by have := Int.emod_lt_of_pos L (by omega : (0 : Int) < made.length); omega
      have htm1 : K.tmod (made.length : Int) = (j1 : Int) := by rw [Int.tmod_eq_emod_of_nonneg hK0]; exact hj1
      have htm2 : L.tmod (made.length : Int) = (j2 : Int) := by rw [Int.tmod_eq_emod_of_nonneg hL0]; exact hj2
      have hbA := hS0.out.st (t := 10) rfl
      obtain ⟨g1, cp1, cur1, hv1, hg1, _, _, hc1⟩ := R.intRow hS0.out (t := 8) rfl hj1l
      obtain ⟨g2, cp2, cur2, hv2, hg2, _, _, hc2⟩ := R.intRow hS0.out (t := 8) rfl hj2l
      simp at hv1
      obtain ⟨rfl, rfl⟩ := hv1
      simp at hv2
      obtain ⟨rfl, rfl⟩ := hv2
      have hcc := hg1.symm.trans hg2
      simp at hcc
      subst hcc
      have hu1 := hmu.out _ (getD_mem' hj1l)
      have hu2 := hmu.out _ (getD_mem' hj2l)
      have hmg : decide ((0 : Int) < (made.length : Int)) = true := decide_eq_true (by omega)
      have hnz : ((made.length : Int) == 0) = false := beq_eq_false_iff_ne.2 (by omega)
      have hnil : ¬ made = [] := fun e => by rw [e] at hmp; exact absurd hmp (Nat.lt_irrefl 0)
      have hwK : IntKind.i64.wrap K = K := by rw [IntKind.wrap_i64]; omega
      have hwL : IntKind.i64.wrap L = L := by rw [IntKind.wrap_i64]; omega
      have hi1 : (j1 : Int) < (made.length : Int) := by omega
      have hi2 : (j2 : Int) < (made.length : Int) := by omega
      have hS1 := hide fun n => hS0.out.drewN n
      generalize made.getD j1 0 = y1 at *
      generalize made.getD j2 0 = y2 at *
      clear hj1 hj2 hS0 hm0
      go_wp2_with fail
      go_quiet (fail)
      go_wp2_with fail
      go_meet
      case rel => exact ⟨_, _, rfl, rfl, hu1, hu2, hide (hS1.out _)⟩
  case rest =>
    obtain ⟨h, y, rfl, rfl, hh, hy, hS⟩ := hcut
    have hbA := hS.out.st (t := 10) rfl
    clear hS0 c0 c1 c2 c3 hvb
    go_upto_block 2 with fail
    refine wp_mono (law05_act hk0 Q hk60 hI0 hI1 ⟨hK0, hK1⟩ hh hy hS.out ⟨_, _, _, rfl⟩ _ _ _ _ _ _ _ _ _ _ _ _ _ _ _ _ _ _ _ _ _ _ _ _ _ _ _ _ _ _ _ _ _ _ _ _ _ _ _ _ _ _ _ _ _ _ _ _ _ _ _ _ _ _ _ _ _ _ _ _ _ _ _ _ _ _ _ _ _ _ _ _ _ _ _ _ _ _ _ _ _ _ _ _ _ _ _ _ _ _ _ _ _ _ _ _ _ _ _ _ _ _ _ _ _ _ _ _ _ _ _ _ _ _ _ _ _ _ _ _ _ _ _ _ _ _ _ _ _ _ _ _ _ _ _ _ _ _ _ _ _ _ _ _ _ _ _ _ _ _ _ _ _ _ _ _ _ _ _ _ _ _ _ _ _ _ _ _ _ _ _ _ _ _ _ _ _ _ _ _ _ _ _ _ _ _ _ _ _ _ _ _ _ _ _ _ _ _ _ _ _ _ _ _ _ _ _ _ _ _ _ _ _ _ _ _ _ _ _ _ _ _ _ _ _ _ _ _ _ _ _ _ _ _ _ _ _ _ _ _ _ _ _ _ _ _ _ _ _ _ _ _ _ _ _ _ _ _ _ _ _ _ _ _ _ _ _ _ _ _ _ _ _ _ _ _ _ _ _ _ _ _ _ _ _ _ _ _ _ _ _ _ _ _ _ _ _ _ _ _ _ _ _ _ _ _ _ _ _ _ _ _ _ _ _ _ _ _ _ _ _ _ _ _ _ _ _ _ _ _ _ _ _ _ _ _ _ _ _ _ _ _ _ _ _ _ _ _ _ _ _ _ _ _ _ _ _ _ _ _ _ _ _ _ _ _ _ _ _ _ _ _ _ _ _ _ _ _ _ _ _ _ _ _ _ _ _ _ _ _ _ _ _ _ _ _ _ _ _ _ _ _ _ _ _ _ _ _ _ _ _ _ _ _ _ _ _ _ _ _ _ _ _ _ _ _ _ _ _ _ _ _ _ _ _ _ _ _ _ _ _ _ _ _ _ _ _ _ _) ?_
    rintro e a w' hp
    cases e with
    | normal =>
      obtain ⟨mv', hst, m', nodes', next', made', cv', tv', nv', xv', wv', hmb, Q', hR'⟩ := hp
      refine (‹∀ (a : Act) (w : World), Code.wp Try.prog _ _ a w → _›) _ _ ?_
      rw [← hmb] at hst
      refine law05_tailS hst Q' (by omega) hI0 hI1 hR' fun a' w'' hst' hR'' => ?_
      rw [hmb] at hst'
      exact ⟨_, mv', hst', m', nodes', next', made', cv', tv', nv', xv', wv', hmb, Q', hR''⟩
    | exit id =>
      obtain ⟨rfl, mv', hst, m', nodes', next', made', cv', tv', nv', xv', wv', hmb, Q', hR'⟩ := hp
      exact ⟨_, mv', hst, m', nodes', next', made', cv', tv', nv', xv', wv', hmb, Q', hR'.left⟩
    | ret => exact hp
    | goto l => exact hp.elim
    | panic c => exact hp.elim
    | outgrown => exact hp.elim
set_option maxRecDepth 1000000 in
set_option maxHeartbeats 4000000 in
theorem law05_round {w : World} {v s96 v10 : Value} {acts : List Act05} (hv : FrAt w w.heap.size 4 v (acts.map act05)) (hin : ∀ x ∈ acts, okAct05 x) (hl : acts.length ≤ 60) {wk k : Nat} (hlt : k < acts.length) {m : MemS} {nodes next made : List Int} {cv tv nv xv wv mv : Value} {nb : Nat}
    (Q : I5 wk k m nodes next made) {wr : World} (hR : R (l5 w m cv tv nv xv wv mv nb nodes next made) wr) {a0 : Act} (hS : St5 m.b nb v10 mv v s96 (.int .i64 k) a0) :
    Code.wp Try.prog blk1 (PostR5 w wk m.b nb k v s96 (.int .i64 k)) a0 wr := by
  obtain ⟨f, rfl⟩ := hS.open
  exact law05_roundL hv hin hl hlt Q hR _ _ _ _ _ _ _ _ _ _ _ _ _ _ _ _ _ _ _ _ _ _ _ _ _ _ _ _ _ _ _ _ _ _ _ _ _ _ _ _ _ _ _ _ _ _ _ _ _ _ _ _ _ _ _ _ _ _ _ _ _ _ _ _ _ _ _ _ _ _ _ _ _ _ _ _ _ _ _ _ _ _ _ _ _ _ _ _ _ _ _ _ _ _ _ _ _ _ _ _ _ _ _ _ _ _ _ _ _ _ _ _ _ _ _ _ _ _ _ _ _ _ _ _ _ _ _ _ _ _ _ _ _ _ _ _ _ _ _ _ _ _ _ _ _ _ _ _ _ _ _ _ _ _ _ _ _ _ _ _ _ _ _ _ _ _ _ _ _ _ _ _ _ _ _ _ _ _ _ _ _ _ _ _ _ _ _ _ _ _ _ _ _ _ _ _ _ _ _ _ _ _ _ _ _ _ _ _ _ _ _ _ _ _ _ _ _ _ _ _ _ _ _ _ _ _ _ _ _ _ _ _ _ _ _ _ _ _ _ _ _ _ _ _ _ _ _ _ _ _ _ _ _ _ _ _ _ _ _ _ _ _ _ _ _ _ _ _ _ _ _ _ _ _ _ _ _ _ _ _ _ _ _ _ _ _ _ _ _ _ _ _ _ _ _ _ _ _ _ _ _ _ _ _ _ _ _ _ _ _ _ _ _ _ _ _ _ _ _ _ _ _ _ _ _ _ _ _ _ _ _ _ _ _ _ _ _ _ _ _ _ _ _ _ _ _ _ _ _ _ _ _ _ _ _ _ _ _ _ _ _ _ _ _ _ _ _ _ _ _ _ _ _ _ _ _ _ _ _ _ _ _ _ _ _ _ _ _ _ _ _ _ _ _ _ _ _ _ _ _ _ _ _ _ _ _ _ _ _ _ _ _ _ _ _ _ _ _ _ _ _ _ _ _ _ _ _ _ _ _ _ _ _ _ _ _ _ _ _ _ _ _ _ _ _ _ _ _ _ _
end Go.Proofs.Ytcoaemjoanbemaa
