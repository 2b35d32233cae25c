/- quietuslaw05: MemPlays: Link of a live handle. Condition: the objects are there. (Written by wip/gen/gen5.py from wip/gen/Lz05.body.) -/
import Derived.Test.YtcoaemjoanbemaaLr05
namespace Go.Proofs.Ytcoaemjoanbemaa
open Go.RowKit

/-- A store into a row that may be longer than its room. -/
theorem R.sxPut {l : List KObj} {w : World} {t : Nat} {T : TypeId} {n g cap : Nat} {q : IntKind} {xs : List Int} (h : R l w) (ht : l[t]? = some (SxK T 1 (.slice (some ⟨g, 0, none⟩) n cap) n (xs.map (Value.int q)))) (i : Nat) (x : Int) (hn : 0 < n) :
    R (l.set t (SxK T 1 (.slice (some ⟨g, 0, none⟩) n cap) n ((xs.set i x).map (Value.int q)))) (w.setCell ⟨g, i, none⟩ (.int q x)) := by
  obtain ⟨o, h, hp⟩ := h.get ht
  have hp : SxAt o w (16 * t) T 1 (.slice (some ⟨g, 0, none⟩) n cap) n (xs.map (Value.int q)) := hp
  obtain ⟨g', cap', cur, hv, hg, hog, h1, h2, h3, h4⟩ := hp.row hn
  simp at hv
  obtain ⟨rfl, rfl⟩ := hv
  refine h.step (S := fun x => x = 16 * t) ((Ext.refl o w _).put (.int q x) (.inl hog)) (fun x hx => by omega) ?_
  refine ⟨by rw [List.length_map, List.length_set]; have := hp.1; rwa [List.length_map] at this, .inr ⟨g, cap, cur.setIfInBounds i (.int q x), rfl, ?_, hog, h1, h2, by simpa using h3, ?_⟩⟩
  · rw [blk_put_same, hg]; rfl
  · rw [List.map_set, ← h4]; simp [List.take_set]
theorem mem_getD' {xs : List Int} {x : Int} (h : x ∈ xs) : ∃ j, j < xs.length ∧ xs.getD j 0 = x := by
  obtain ⟨j, hj, rfl⟩ := List.getElem_of_mem h
  exact ⟨j, hj, by simp [hj]⟩
theorem nodup_uniq {xs : List Int} (h : xs.Nodup) {i j : Nat} (hi : i < xs.length) (hj : j < xs.length) (he : xs.getD i 0 = xs.getD j 0) : i = j := by
  have hp := List.pairwise_iff_getElem.1 h
  have e1 : xs.getD i 0 = xs[i] := by simp [hi]
  have e2 : xs.getD j 0 = xs[j] := by simp [hj]
  rw [e1, e2] at he
  rcases Nat.lt_trichotomy i j with hlt | heq | hlt
  · exact absurd he (hp i j hi hj hlt)
  · exact heq
  · exact absurd he.symm (hp j i hj hi hlt)
theorem I5.link {wk k : Nat} {m : MemS} {nodes next made : List Int} (h : I5 wk k m nodes next made) {j : Nat} (hj : j < nodes.length) {y : Int} (hy : U64 y) :
    I5 wk (k + 1) { m with ss := linkS m.ss (nodes.getD j 0) y, fault := useFault m.ss (nodes.getD j 0) m.fault } nodes (next.set j y) made := by
  have hlive : 0 ≤ atA m.ss (nodes.getD j 0) := (h.ok.mem _ (h.ok.u64 _ (getD_mem' hj))).1 (getD_mem' hj)
  refine ⟨h.wk, by dsimp only; rw [useFault, if_pos hlive]; exact h.fault, ?_, by have := h.gen; dsimp only; omega, by have := h.cells; dsimp only; omega, by have := h.tab; dsimp only; omega, by have := h.wait; dsimp only; omega,
    h.ok.link hj hy, by have := h.nl; omega, ⟨by have := h.made.1; omega, h.made.2⟩⟩
  dsimp only
  rw [linkS, if_pos hlive, List.length_set]
  exact h.room

set_option maxRecDepth 1000000 in
set_option maxHeartbeats 12000000 in
theorem law05_link {w : World} {m : MemS} {cv tv nv xv wv mv : Value} {nb tb wk k : Nat} {nodes next made : List Int} {I K L h y : Int} (hc : 0 ≤ atA m.ss h) (Q : I5 wk k m nodes next made) (hk : k ≤ 60) (hI0 : -9223372036854775808 ≤ I) (hI1 : I ≤ 9223372036854775807)
    (hK0 : 0 ≤ K ∧ K ≤ 255) (hh : U64 h) (hy : U64 y) {wr : World} (hR : R (l5 w m cv tv nv xv wv mv nb nodes next made ++ [StK tb #[.int .u8 3, .int .i64 I, .int .u8 K, .int .u8 L] 56]) wr) (hmv : ∃ a n c, mv = .slice a n c)
    (c0 c1 c4 c6 c13 c14 c15 c16 c17 c18 c19 c20 c21 c22 c23 c24 c25 c26 c27 c28 c29 c30 c31 c32 c33 c34 c35 c36 c37 c38 c39 c40 c41 c42 c43 c44 c45 c46 c47 c48 c49 c50 c51 c52 c53 c54 c55 c56 c57 c58 c59 c60 c61 c62 c63 c64 c65 c66 c67 c68 c69 c70 c71 c72 c73 c74 c75 c76 c77 c78 c79 c80 c81 c82 c83 c84 c85 c86 c87 c88 c89 c90 c91 c92 c93 c94 c95 c96 c97 c98 c99 c100 c101 c102 c103 c104 c105 c106 c107 c108 c109 c110 c111 c112 c113 c114 c115 c116 c117 c118 c119 c120 c121 c122 c123 c124 c125 c127 c128 c129 c130 c131 c132 c133 c134 c135 c136 c137 c138 c139 c140 c141 c142 c143 c144 c145 c146 c147 c148 c149 c150 c151 c152 c153 c154 c155 c156 c157 c158 c159 c160 c161 c162 c163 c164 c165 c166 c167 c168 c169 c170 c171 c172 c173 c174 c175 c176 c177 c178 c179 c180 c181 c182 c183 c184 c185 c186 c187 c188 c189 c190 c191 c192 c193 c194 c195 c196 c197 c198 c199 c200 c201 c202 c203 c204 c205 c206 c207 c208 c209 c210 c211 c212 c213 c214 c215 c216 c217 c218 c219 c220 c221 c222 c223 c224 c225 c226 c227 c228 c229 c230 c231 c232 c233 c234 c235 c236 c237 c238 c239 c240 c241 c242 c243 c244 c245 c246 c247 c248 c249 c250 c251 c252 c253 c254 c255 c256 c257 c258 c259 c260 c261 c262 c263 c264 c265 c266 c267 c268 c269 c270 c271 c272 c273 c274 c275 c276 c277 c278 c279 c280 c281 c282 c283 c284 c285 c286 c287 c288 c289 c290 c291 c292 c293 c294 c295 c296 c297 c298 c299 c300 c301 c302 c303 c304 c305 c306 c307 c308 c309 c310 c311 c312 c313 c314 c315 c316 c317 c318 c319 c320 c321 c322 c323 c324 c325 c326 c327 c328 c329 c330 c331 c332 c333 c334 c335 c336 c337 c338 c339 c340 c341 c342 c343 c344 c345 c346 c347 c348 c349 c350 c351 c352 c353 c354 c355 c356 c357 c358 c359 c360 c361 c362 c363 c364 c365 c366 c367 c368 c369 c370 c371 c372 c373 c374 c375 c376 c377 c378 c379 c380 c381 c382 c383 c384 c385 c386 c387 c388 c389 c390 c391 c392 c393 c394 c395 c396 c397 c398 c399 c400 c401 c402 c403 c404 c405 c406 c407 c408 c409 c410 c411 c412 c413 c414 c415 c416 c417 c418 c419 c420 c421 c422 c423 c424 c425 c426 c427 c428 c429 c430 c431 c432 c433 c434 c435 c436 c437 c438 c439 c440 c441 c442 c443 c444 c445 c446 c447 c448 c449 c450 c451 c452 c453 c454 c455 c456 c457 c458 : Value) {P : Exit → Act → World → Prop}
    (hP : ∀ (d13 d14 d15 d16 d17 d18 d19 d20 d127 d128 d129 d130 d131 d132 d133 d134 d135 d136 d137 d138 d139 d140 d141 d142 d143 d144 d145 d146 d147 d148 d149 d150 d151 d152 d153 d154 d155 d156 d157 d158 d159 d160 d161 d162 d163 d164 d165 d166 d167 d168 d169 d170 d171 d172 d173 d174 d175 d176 d177 d178 d179 d180 d181 d182 d183 d184 d185 d186 d187 d188 d189 d190 d191 d192 d193 d194 d195 d196 d197 d198 d199 d200 d201 d202 d203 d204 d205 d206 d207 d208 d209 d210 d211 d212 d213 d214 d215 d216 d217 d218 d219 d220 d221 d222 d223 d224 d225 d226 d227 d228 d229 d230 d231 d232 d233 d234 d235 d236 d237 d238 d239 d240 d241 d242 d243 d244 d245 d246 d247 d248 d249 d250 d251 d252 d253 d254 d255 d256 d257 d258 d259 d260 d261 d262 d263 d264 d265 d266 d267 d268 d269 d270 d271 d272 d273 d274 d275 d276 d277 d278 d279 d280 d281 d282 d283 d284 d285 d286 d287 d288 d289 d290 d291 d292 d293 d294 d295 d296 d297 d298 d299 d300 d301 d302 d303 d304 d305 d306 d307 d308 d309 d310 d311 d312 d313 d314 d315 d316 d317 d318 d319 d320 d321 d322 d323 d324 d325 d326 d327 d328 d329 d330 d331 d332 d333 d334 d335 d336 d337 d338 d339 d340 d341 d342 d343 d344 d345 d346 d347 d348 d349 d350 d351 d352 d353 d354 d355 d356 d357 d358 d359 d360 d361 d362 d363 d364 d365 d366 d367 d368 d369 d370 d371 d372 d373 d374 d375 d376 d377 d378 d379 d380 d381 d382 : Value) (mv' : Value) (w' : World), Rel5A w wk m.b nb (k + 1) tb #[.int .u8 3, .int .i64 I, .int .u8 K, .int .u8 L] mv' w' → P .normal ⟨#[c0, c1, undef, undef, c4, .pointer (some ⟨m.b, 0, none⟩), c6, .pointer (some ⟨nb, 0, none⟩), mv', undef, .pointer (some ⟨tb, 0, none⟩), .int .u64 h, .int .u64 y, d13, d14, d15, d16, d17, d18, d19, d20, c21, c22, c23, c24, c25, c26, c27, c28, c29, c30, c31, c32, c33, c34, c35, c36, c37, c38, c39, c40, c41, c42, c43, c44, c45, c46, c47, c48, c49, c50, c51, c52, c53, c54, c55, c56, c57, c58, c59, c60, c61, c62, c63, c64, c65, c66, c67, c68, c69, c70, c71, c72, c73, c74, c75, c76, c77, c78, c79, c80, c81, c82, c83, c84, c85, c86, c87, c88, c89, c90, c91, c92, c93, c94, c95, c96, c97, c98, c99, c100, c101, c102, c103, c104, c105, c106, c107, c108, c109, c110, c111, c112, c113, c114, c115, c116, c117, c118, c119, c120, c121, c122, c123, c124, c125, .int .u8 3, d127, d128, d129, d130, d131, d132, d133, d134, d135, d136, d137, d138, d139, d140, d141, d142, d143, d144, d145, d146, d147, d148, d149, d150, d151, d152, d153, d154, d155, d156, d157, d158, d159, d160, d161, d162, d163, d164, d165, d166, d167, d168, d169, d170, d171, d172, d173, d174, d175, d176, d177, d178, d179, d180, d181, d182, d183, d184, d185, d186, d187, d188, d189, d190, d191, d192, d193, d194, d195, d196, d197, d198, d199, d200, d201, d202, d203, d204, d205, d206, d207, d208, d209, d210, d211, d212, d213, d214, d215, d216, d217, d218, d219, d220, d221, d222, d223, d224, d225, d226, d227, d228, d229, d230, d231, d232, d233, d234, d235, d236, d237, d238, d239, d240, d241, d242, d243, d244, d245, d246, d247, d248, d249, d250, d251, d252, d253, d254, d255, d256, d257, d258, d259, d260, d261, d262, d263, d264, d265, d266, d267, d268, d269, d270, d271, d272, d273, d274, d275, d276, d277, d278, d279, d280, d281, d282, d283, d284, d285, d286, d287, d288, d289, d290, d291, d292, d293, d294, d295, d296, d297, d298, d299, d300, d301, d302, d303, d304, d305, d306, d307, d308, d309, d310, d311, d312, d313, d314, d315, d316, d317, d318, d319, d320, d321, d322, d323, d324, d325, d326, d327, d328, d329, d330, d331, d332, d333, d334, d335, d336, d337, d338, d339, d340, d341, d342, d343, d344, d345, d346, d347, d348, d349, d350, d351, d352, d353, d354, d355, d356, d357, d358, d359, d360, d361, d362, d363, d364, d365, d366, d367, d368, d369, d370, d371, d372, d373, d374, d375, d376, d377, d378, d379, d380, d381, d382, c383, c384, c385, c386, c387, c388, c389, c390, c391, c392, c393, c394, c395, c396, c397, c398, c399, c400, c401, c402, c403, c404, c405, c406, c407, c408, c409, c410, c411, c412, c413, c414, c415, c416, c417, c418, c419, c420, c421, c422, c423, c424, c425, c426, c427, c428, c429, c430, c431, c432, c433, c434, c435, c436, c437, c438, c439, c440, c441, c442, c443, c444, c445, c446, c447, c448, c449, c450, c451, c452, c453, c454, c455, c456, c457, c458, undef], []⟩ w')
    (hP2 : ∀ (d13 d14 d15 d16 d17 d18 d19 d20 d127 d128 d129 d130 d131 d132 d133 d134 d135 d136 d137 d138 d139 d140 d141 d142 d143 d144 d145 d146 d147 d148 d149 d150 d151 d152 d153 d154 d155 d156 d157 d158 d159 d160 d161 d162 d163 d164 d165 d166 d167 d168 d169 d170 d171 d172 d173 d174 d175 d176 d177 d178 d179 d180 d181 d182 d183 d184 d185 d186 d187 d188 d189 d190 d191 d192 d193 d194 d195 d196 d197 d198 d199 d200 d201 d202 d203 d204 d205 d206 d207 d208 d209 d210 d211 d212 d213 d214 d215 d216 d217 d218 d219 d220 d221 d222 d223 d224 d225 d226 d227 d228 d229 d230 d231 d232 d233 d234 d235 d236 d237 d238 d239 d240 d241 d242 d243 d244 d245 d246 d247 d248 d249 d250 d251 d252 d253 d254 d255 d256 d257 d258 d259 d260 d261 d262 d263 d264 d265 d266 d267 d268 d269 d270 d271 d272 d273 d274 d275 d276 d277 d278 d279 d280 d281 d282 d283 d284 d285 d286 d287 d288 d289 d290 d291 d292 d293 d294 d295 d296 d297 d298 d299 d300 d301 d302 d303 d304 d305 d306 d307 d308 d309 d310 d311 d312 d313 d314 d315 d316 d317 d318 d319 d320 d321 d322 d323 d324 d325 d326 d327 d328 d329 d330 d331 d332 d333 d334 d335 d336 d337 d338 d339 d340 d341 d342 d343 d344 d345 d346 d347 d348 d349 d350 d351 d352 d353 d354 d355 d356 d357 d358 d359 d360 d361 d362 d363 d364 d365 d366 d367 d368 d369 d370 d371 d372 d373 d374 d375 d376 d377 d378 d379 d380 d381 d382 : Value) (mv' : Value) (w' : World), Rel5A w wk m.b nb (k + 1) tb #[.int .u8 3, .int .i64 I, .int .u8 K, .int .u8 L] mv' w' → P (.exit 1) ⟨#[c0, c1, undef, undef, c4, .pointer (some ⟨m.b, 0, none⟩), c6, .pointer (some ⟨nb, 0, none⟩), mv', undef, .pointer (some ⟨tb, 0, none⟩), .int .u64 h, .int .u64 y, d13, d14, d15, d16, d17, d18, d19, d20, c21, c22, c23, c24, c25, c26, c27, c28, c29, c30, c31, c32, c33, c34, c35, c36, c37, c38, c39, c40, c41, c42, c43, c44, c45, c46, c47, c48, c49, c50, c51, c52, c53, c54, c55, c56, c57, c58, c59, c60, c61, c62, c63, c64, c65, c66, c67, c68, c69, c70, c71, c72, c73, c74, c75, c76, c77, c78, c79, c80, c81, c82, c83, c84, c85, c86, c87, c88, c89, c90, c91, c92, c93, c94, c95, c96, c97, c98, c99, c100, c101, c102, c103, c104, c105, c106, c107, c108, c109, c110, c111, c112, c113, c114, c115, c116, c117, c118, c119, c120, c121, c122, c123, c124, c125, .int .u8 3, d127, d128, d129, d130, d131, d132, d133, d134, d135, d136, d137, d138, d139, d140, d141, d142, d143, d144, d145, d146, d147, d148, d149, d150, d151, d152, d153, d154, d155, d156, d157, d158, d159, d160, d161, d162, d163, d164, d165, d166, d167, d168, d169, d170, d171, d172, d173, d174, d175, d176, d177, d178, d179, d180, d181, d182, d183, d184, d185, d186, d187, d188, d189, d190, d191, d192, d193, d194, d195, d196, d197, d198, d199, d200, d201, d202, d203, d204, d205, d206, d207, d208, d209, d210, d211, d212, d213, d214, d215, d216, d217, d218, d219, d220, d221, d222, d223, d224, d225, d226, d227, d228, d229, d230, d231, d232, d233, d234, d235, d236, d237, d238, d239, d240, d241, d242, d243, d244, d245, d246, d247, d248, d249, d250, d251, d252, d253, d254, d255, d256, d257, d258, d259, d260, d261, d262, d263, d264, d265, d266, d267, d268, d269, d270, d271, d272, d273, d274, d275, d276, d277, d278, d279, d280, d281, d282, d283, d284, d285, d286, d287, d288, d289, d290, d291, d292, d293, d294, d295, d296, d297, d298, d299, d300, d301, d302, d303, d304, d305, d306, d307, d308, d309, d310, d311, d312, d313, d314, d315, d316, d317, d318, d319, d320, d321, d322, d323, d324, d325, d326, d327, d328, d329, d330, d331, d332, d333, d334, d335, d336, d337, d338, d339, d340, d341, d342, d343, d344, d345, d346, d347, d348, d349, d350, d351, d352, d353, d354, d355, d356, d357, d358, d359, d360, d361, d362, d363, d364, d365, d366, d367, d368, d369, d370, d371, d372, d373, d374, d375, d376, d377, d378, d379, d380, d381, d382, c383, c384, c385, c386, c387, c388, c389, c390, c391, c392, c393, c394, c395, c396, c397, c398, c399, c400, c401, c402, c403, c404, c405, c406, c407, c408, c409, c410, c411, c412, c413, c414, c415, c416, c417, c418, c419, c420, c421, c422, c423, c424, c425, c426, c427, c428, c429, c430, c431, c432, c433, c434, c435, c436, c437, c438, c439, c440, c441, c442, c443, c444, c445, c446, c447, c448, c449, c450, c451, c452, c453, c454, c455, c456, c457, c458, undef], []⟩ w')
    (hP3 : ∀ (d13 d14 d15 d16 d17 d18 d19 d20 d127 d128 d129 d130 d131 d132 d133 d134 d135 d136 d137 d138 d139 d140 d141 d142 d143 d144 d145 d146 d147 d148 d149 d150 d151 d152 d153 d154 d155 d156 d157 d158 d159 d160 d161 d162 d163 d164 d165 d166 d167 d168 d169 d170 d171 d172 d173 d174 d175 d176 d177 d178 d179 d180 d181 d182 d183 d184 d185 d186 d187 d188 d189 d190 d191 d192 d193 d194 d195 d196 d197 d198 d199 d200 d201 d202 d203 d204 d205 d206 d207 d208 d209 d210 d211 d212 d213 d214 d215 d216 d217 d218 d219 d220 d221 d222 d223 d224 d225 d226 d227 d228 d229 d230 d231 d232 d233 d234 d235 d236 d237 d238 d239 d240 d241 d242 d243 d244 d245 d246 d247 d248 d249 d250 d251 d252 d253 d254 d255 d256 d257 d258 d259 d260 d261 d262 d263 d264 d265 d266 d267 d268 d269 d270 d271 d272 d273 d274 d275 d276 d277 d278 d279 d280 d281 d282 d283 d284 d285 d286 d287 d288 d289 d290 d291 d292 d293 d294 d295 d296 d297 d298 d299 d300 d301 d302 d303 d304 d305 d306 d307 d308 d309 d310 d311 d312 d313 d314 d315 d316 d317 d318 d319 d320 d321 d322 d323 d324 d325 d326 d327 d328 d329 d330 d331 d332 d333 d334 d335 d336 d337 d338 d339 d340 d341 d342 d343 d344 d345 d346 d347 d348 d349 d350 d351 d352 d353 d354 d355 d356 d357 d358 d359 d360 d361 d362 d363 d364 d365 d366 d367 d368 d369 d370 d371 d372 d373 d374 d375 d376 d377 d378 d379 d380 d381 d382 : Value) (mv' : Value) (w' : World), Below w.heap.size w w' → P .ret ⟨#[c0, c1, undef, undef, .bool true, .pointer (some ⟨m.b, 0, none⟩), c6, .pointer (some ⟨nb, 0, none⟩), mv', undef, .pointer (some ⟨tb, 0, none⟩), .int .u64 h, .int .u64 y, d13, d14, d15, d16, d17, d18, d19, d20, c21, c22, c23, c24, c25, c26, c27, c28, c29, c30, c31, c32, c33, c34, c35, c36, c37, c38, c39, c40, c41, c42, c43, c44, c45, c46, c47, c48, c49, c50, c51, c52, c53, c54, c55, c56, c57, c58, c59, c60, c61, c62, c63, c64, c65, c66, c67, c68, c69, c70, c71, c72, c73, c74, c75, c76, c77, c78, c79, c80, c81, c82, c83, c84, c85, c86, c87, c88, c89, c90, c91, c92, c93, c94, c95, c96, c97, c98, c99, c100, c101, c102, c103, c104, c105, c106, c107, c108, c109, c110, c111, c112, c113, c114, c115, c116, c117, c118, c119, c120, c121, c122, c123, c124, c125, .int .u8 3, d127, d128, d129, d130, d131, d132, d133, d134, d135, d136, d137, d138, d139, d140, d141, d142, d143, d144, d145, d146, d147, d148, d149, d150, d151, d152, d153, d154, d155, d156, d157, d158, d159, d160, d161, d162, d163, d164, d165, d166, d167, d168, d169, d170, d171, d172, d173, d174, d175, d176, d177, d178, d179, d180, d181, d182, d183, d184, d185, d186, d187, d188, d189, d190, d191, d192, d193, d194, d195, d196, d197, d198, d199, d200, d201, d202, d203, d204, d205, d206, d207, d208, d209, d210, d211, d212, d213, d214, d215, d216, d217, d218, d219, d220, d221, d222, d223, d224, d225, d226, d227, d228, d229, d230, d231, d232, d233, d234, d235, d236, d237, d238, d239, d240, d241, d242, d243, d244, d245, d246, d247, d248, d249, d250, d251, d252, d253, d254, d255, d256, d257, d258, d259, d260, d261, d262, d263, d264, d265, d266, d267, d268, d269, d270, d271, d272, d273, d274, d275, d276, d277, d278, d279, d280, d281, d282, d283, d284, d285, d286, d287, d288, d289, d290, d291, d292, d293, d294, d295, d296, d297, d298, d299, d300, d301, d302, d303, d304, d305, d306, d307, d308, d309, d310, d311, d312, d313, d314, d315, d316, d317, d318, d319, d320, d321, d322, d323, d324, d325, d326, d327, d328, d329, d330, d331, d332, d333, d334, d335, d336, d337, d338, d339, d340, d341, d342, d343, d344, d345, d346, d347, d348, d349, d350, d351, d352, d353, d354, d355, d356, d357, d358, d359, d360, d361, d362, d363, d364, d365, d366, d367, d368, d369, d370, d371, d372, d373, d374, d375, d376, d377, d378, d379, d380, d381, d382, c383, c384, c385, c386, c387, c388, c389, c390, c391, c392, c393, c394, c395, c396, c397, c398, c399, c400, c401, c402, c403, c404, c405, c406, c407, c408, c409, c410, c411, c412, c413, c414, c415, c416, c417, c418, c419, c420, c421, c422, c423, c424, c425, c426, c427, c428, c429, c430, c431, c432, c433, c434, c435, c436, c437, c438, c439, c440, c441, c442, c443, c444, c445, c446, c447, c448, c449, c450, c451, c452, c453, c454, c455, c456, c457, c458, undef], []⟩ w') :
    Code.wp Try.prog sw5 P ⟨#[c0, c1, undef, undef, c4, .pointer (some ⟨m.b, 0, none⟩), c6, .pointer (some ⟨nb, 0, none⟩), mv, undef, .pointer (some ⟨tb, 0, none⟩), .int .u64 h, .int .u64 y, c13, c14, c15, c16, c17, c18, c19, c20, c21, c22, c23, c24, c25, c26, c27, c28, c29, c30, c31, c32, c33, c34, c35, c36, c37, c38, c39, c40, c41, c42, c43, c44, c45, c46, c47, c48, c49, c50, c51, c52, c53, c54, c55, c56, c57, c58, c59, c60, c61, c62, c63, c64, c65, c66, c67, c68, c69, c70, c71, c72, c73, c74, c75, c76, c77, c78, c79, c80, c81, c82, c83, c84, c85, c86, c87, c88, c89, c90, c91, c92, c93, c94, c95, c96, c97, c98, c99, c100, c101, c102, c103, c104, c105, c106, c107, c108, c109, c110, c111, c112, c113, c114, c115, c116, c117, c118, c119, c120, c121, c122, c123, c124, c125, .int .u8 3, c127, c128, c129, c130, c131, c132, c133, c134, c135, c136, c137, c138, c139, c140, c141, c142, c143, c144, c145, c146, c147, c148, c149, c150, c151, c152, c153, c154, c155, c156, c157, c158, c159, c160, c161, c162, c163, c164, c165, c166, c167, c168, c169, c170, c171, c172, c173, c174, c175, c176, c177, c178, c179, c180, c181, c182, c183, c184, c185, c186, c187, c188, c189, c190, c191, c192, c193, c194, c195, c196, c197, c198, c199, c200, c201, c202, c203, c204, c205, c206, c207, c208, c209, c210, c211, c212, c213, c214, c215, c216, c217, c218, c219, c220, c221, c222, c223, c224, c225, c226, c227, c228, c229, c230, c231, c232, c233, c234, c235, c236, c237, c238, c239, c240, c241, c242, c243, c244, c245, c246, c247, c248, c249, c250, c251, c252, c253, c254, c255, c256, c257, c258, c259, c260, c261, c262, c263, c264, c265, c266, c267, c268, c269, c270, c271, c272, c273, c274, c275, c276, c277, c278, c279, c280, c281, c282, c283, c284, c285, c286, c287, c288, c289, c290, c291, c292, c293, c294, c295, c296, c297, c298, c299, c300, c301, c302, c303, c304, c305, c306, c307, c308, c309, c310, c311, c312, c313, c314, c315, c316, c317, c318, c319, c320, c321, c322, c323, c324, c325, c326, c327, c328, c329, c330, c331, c332, c333, c334, c335, c336, c337, c338, c339, c340, c341, c342, c343, c344, c345, c346, c347, c348, c349, c350, c351, c352, c353, c354, c355, c356, c357, c358, c359, c360, c361, c362, c363, c364, c365, c366, c367, c368, c369, c370, c371, c372, c373, c374, c375, c376, c377, c378, c379, c380, c381, c382, c383, c384, c385, c386, c387, c388, c389, c390, c391, c392, c393, c394, c395, c396, c397, c398, c399, c400, c401, c402, c403, c404, c405, c406, c407, c408, c409, c410, c411, c412, c413, c414, c415, c416, c417, c418, c419, c420, c421, c422, c423, c424, c425, c426, c427, c428, c429, c430, c431, c432, c433, c434, c435, c436, c437, c438, c439, c440, c441, c442, c443, c444, c445, c446, c447, c448, c449, c450, c451, c452, c453, c454, c455, c456, c457, c458, undef], []⟩ wr := by
  replace hP := hide hP
  replace hP2 := hide hP2
  replace hP3 := hide hP3
  have hlv := memR_live hR (t := 1) rfl h hh
  rw [decide_eq_true hc] at hlv
  obtain ⟨j, hj, hjx⟩ := mem_getD' ((Q.ok.mem h hh).2 hc)
  have huq : ∀ q, q < nodes.length → nodes.getD q 0 = h → q = j := fun q hq hx => nodup_uniq Q.ok.nd hq hj (hx.trans hjx.symm)
  have Q3 := Q.link hj hy
  rw [hjx] at Q3
  have hxl : next.length = nodes.length := Q.ok.len
  have hnl : nodes.length ≤ 60 := by have := Q.nl; omega
  obtain ⟨⟨na, nc, rfl⟩, _⟩ := R.sxVal hR (t := 5) rfl
  obtain ⟨⟨xa, xc, rfl⟩, _⟩ := R.sxVal hR (t := 6) rfl
  obtain ⟨htv, hwv, hhm⟩ := hR.memHdr (t := 1) rfl
  have hbN := hR.st (t := 9) rfl
  have hM := hide hR
  replace huq := hide huq
  replace Q3 := hide Q3
  replace hxl := hide hxl
  replace hlv := hide hlv
  replace hj := hide hj
  replace hjx := hide hjx
  clear hR hc
  conv => arg 2; whnf
  go_wp2_with fail
  refine hlv.out.mono ?_
  rintro e w2 ⟨rfl, rfl⟩
  dsimp only
  clear hlv
  go_wp2_with fail
  go_loopw [252] (fun i wq => ∃ (q : Nat) (nx : List Int), q ≤ nodes.length ∧ i = .int .i64 q ∧ Hid (nx.length = next.length ∧ nx = if j < q then next.set j y else next) ∧ Hid (R (l5 w m cv tv (.slice na nodes.length nc) (.slice xa nx.length xc) wv mv nb nodes nx made ++ [StK tb #[.int .u8 3, .int .i64 I, .int .u8 K, .int .u8 L] 56]) wq)) (fun i _ => nodes.length - (intOf i).toNat)
  case atStart => exact ⟨0, next, Nat.zero_le _, rfl, hide ⟨rfl, by simp⟩, hM⟩
  case round =>
    obtain ⟨q, nx, hq, rfl, hnx, hRq⟩ := hrel
    clear hM hbN hhm
    have hbN := hRq.out.st (t := 9) rfl
    have hbA := hRq.out.st (t := 10) rfl
    by_cases hlt : q < nodes.length
    · obtain ⟨g5, p5, u5, hv5, hg5, hn5, hp5, hc5⟩ := hRq.out.sxRow (t := 5) rfl hlt
      simp at hv5
      obtain ⟨rfl, rfl⟩ := hv5
      have hcq := hc5 q hlt
      clear hc5
      by_cases hqx : nodes.getD q 0 = h
      · obtain rfl : q = j := huq.out q hlt hqx
        rw [hqx] at hcq
        have hxq : q < nx.length := by rw [hnx.out.1, hxl.out]; exact hlt
        obtain ⟨g6, p6, u6, hv6, hg6, hn6, hp6, hc6⟩ := hRq.out.sxRow (t := 6) rfl hxq
        simp at hv6
        obtain ⟨rfl, rfl⟩ := hv6
        have hcx := hc6 q hxq
        clear hc6
        have hR2 := hRq.out.sxPut (t := 6) rfl q y (by omega)
        have e1 : (nx.set q y).length = nx.length := List.length_set ..
        rw [← e1] at hR2
        have hn2 : (nx.set q y).length = next.length ∧ nx.set q y = if q < q + 1 then next.set q y else next := by
          refine ⟨by rw [e1]; exact hnx.out.1, ?_⟩
          rw [if_pos (Nat.lt_succ_self q), hnx.out.2, if_neg (Nat.lt_irrefl q)]
        replace hR2 := hide hR2
        replace hn2 := hide hn2
        clear hqx e1 hRq hnx huq hjx
        generalize nx.getD q 0 = z at *
        go_wp2_with fail
        refine ⟨⟨q + 1, nx.set q y, by omega, by go_num, hn2, hR2⟩, by simp [intOf]; omega⟩
      · have hne : (nodes.getD q 0 == h) = false := by simpa using hqx
        have hqj : q ≠ j := fun e => hqx (by rw [e]; exact hjx.out)
        have hn2 : nx.length = next.length ∧ nx = if j < q + 1 then next.set j y else next := by
          refine ⟨hnx.out.1, ?_⟩
          by_cases h1 : j < q
          · rw [if_pos (by omega), hnx.out.2, if_pos h1]
          · rw [if_neg (by omega), hnx.out.2, if_neg h1]
        replace hn2 := hide hn2
        clear hqx hnx hqj
        generalize nodes.getD q 0 = z at *
        go_wp2_with fail
        refine ⟨⟨q + 1, nx, by omega, by go_num, hn2, hRq⟩, by simp [intOf]; omega⟩
    · obtain rfl : q = nodes.length := by omega
      have hx2 := hnx.out.2
      rw [if_pos hj.out] at hx2
      have hxe : nx.length = next.length := hnx.out.1
      have Q4 := Q3.out
      rw [← hx2] at Q4
      clear hx2 hxe hnx
      obtain ⟨htv3, hwv3, hhm3⟩ := hRq.out.memHdr (t := 1) rfl
      have hlk := memR_link hRq.out (t := 1) rfl h y hh hy
      replace hlk := hide hlk
      replace Q4 := hide Q4
      clear hRq Q3
      go_wp2_with fail
      refine hlk.out.mono ?_
      rintro e w3 ⟨rfl, h3⟩
      dsimp only
      have hfin : Rel5A w wk m.b nb (k + 1) tb #[.int .u8 3, .int .i64 I, .int .u8 K, .int .u8 L] mv w3 := ⟨{ m with ss := linkS m.ss h y, fault := useFault m.ss h m.fault }, nodes, nx, made, _, _, _, _, _, rfl, Q4.out, h3⟩
      replace hfin := hide hfin
      clear h3 hlk
      go_wp2_with fail
      apply hP2.out
      exact hfin.out
end Go.Proofs.Ytcoaemjoanbemaa
