/- quietuslaw05: MemPlays: Alloc. Condition: the objects are there. (Written by wip/gen/gen5.py from wip/gen/Lx05.body, which mk_Lx05.py wrote.) -/
import Derived.Test.YtcoaemjoanbemaaLr05
import Derived.Test.YtcoaemjoanbemaaRz
namespace Go.Proofs.Ytcoaemjoanbemaa
open Go.RowKit

theorem R.memGen {l : List KObj} {w : World} {t : Nat} {m : MemS} (h : R l w) (ht : l[t]? = some (MemK m)) : GenOk m.ss m.gen := by
  obtain ⟨o, _, hh⟩ := h.get ht
  have hh : MemAt m o w t := hh
  exact hh.2.2.2.1.gen
theorem R.setL {l m : List KObj} {w : World} {t : Nat} {p q : KObj} (h : R ((l ++ m).set t q) w) (ht : l[t]? = some p) : R (l.set t q ++ m) w := by
  rwa [List.set_append_left _ _ (List.getElem?_eq_some_iff.1 ht).1] at h
theorem set_get0 {l : List KObj} {t : Nat} {p q : KObj} (ht : l[t]? = some p) : (l.set t q)[t]? = some q := by
  rw [List.getElem?_set_self (List.getElem?_eq_some_iff.1 ht).1]
theorem set_got {l : List KObj} {t u : Nat} {p q : KObj} (ht : l[t]? = some p) (hne : u ≠ t) : (l.set u q)[t]? = some p := by
  rw [List.getElem?_set_ne hne]; exact ht
theorem I5.alloc {wk k : Nat} {m : MemS} {nodes next made : List Int} (h : I5 wk k m nodes next made) (hk : k ≤ 60) {i : Nat} (hi : freeAt m.ss = some i) (hg : GenOk m.ss m.gen) {x : Int} (hx : U64 x) :
    I5 wk (k + 1) { m with ss := m.ss.set i (taken (m.ss.getD i slot0) ⟨⟨#[]⟩, ⟨#[]⟩, 0, x⟩) } (nodes ++ [hnd m.ss i]) (next ++ [x]) (made ++ [hnd m.ss i]) := by
  have h16 := h.room
  have hgn := h.gen
  have hu := hnd_u64 (ss := m.ss) (i := i) (by have := (freeAt_some hi).1; omega) hg (by omega)
  refine ⟨h.wk, h.fault, by dsimp only; rw [List.length_set]; exact h16, by dsimp only; omega, by have := h.cells; dsimp only; omega, by have := h.tab; dsimp only; omega, by have := h.wait; dsimp only; omega,
    h.ok.alloc (by omega) hg (by omega) hi hx, by have := h.nl; rw [List.length_append, List.length_singleton]; omega, ⟨by have := h.made.1; rw [List.length_append, List.length_singleton]; omega, fun y hy => ?_⟩⟩
  rcases List.mem_append.1 hy with h1 | h1
  · exact h.made.2 y h1
  · simp only [List.mem_singleton] at h1; subst h1; exact hu
set_option maxRecDepth 1000000 in
set_option maxHeartbeats 12000000 in
theorem law05_alloc {w : World} {m : MemS} {cv tv nv xv wv mv : Value} {nb tb wk k : Nat} {nodes next made : List Int} {I K L h y : Int} (hc : True) (Q : I5 wk k m nodes next made) (hk : k ≤ 60) (hI0 : -9223372036854775808 ≤ I) (hI1 : I ≤ 9223372036854775807)
    (hK0 : 0 ≤ K ∧ K ≤ 255) (hh : U64 h) (hy : U64 y) {wr : World} (hR : R (l5 w m cv tv nv xv wv mv nb nodes next made ++ [StK tb #[.int .u8 2, .int .i64 I, .int .u8 K, .int .u8 L] 56]) wr) (hmv : ∃ a n c, mv = .slice a n c)
    (c0 c1 c4 c6 c13 c14 c15 c16 c17 c18 c19 c20 c21 c22 c23 c24 c25 c26 c27 c28 c29 c30 c31 c32 c33 c34 c35 c36 c37 c38 c39 c40 c41 c42 c43 c44 c45 c46 c47 c48 c49 c50 c51 c52 c53 c54 c55 c56 c57 c58 c59 c60 c61 c62 c63 c64 c65 c66 c67 c68 c69 c70 c71 c72 c73 c74 c75 c76 c77 c78 c79 c80 c81 c82 c83 c84 c85 c86 c87 c88 c89 c90 c91 c92 c93 c94 c95 c96 c97 c98 c99 c100 c101 c102 c103 c104 c105 c106 c107 c108 c109 c110 c111 c112 c113 c114 c115 c116 c117 c118 c119 c120 c121 c122 c123 c124 c125 c127 c128 c129 c130 c131 c132 c133 c134 c135 c136 c137 c138 c139 c140 c141 c142 c143 c144 c145 c146 c147 c148 c149 c150 c151 c152 c153 c154 c155 c156 c157 c158 c159 c160 c161 c162 c163 c164 c165 c166 c167 c168 c169 c170 c171 c172 c173 c174 c175 c176 c177 c178 c179 c180 c181 c182 c183 c184 c185 c186 c187 c188 c189 c190 c191 c192 c193 c194 c195 c196 c197 c198 c199 c200 c201 c202 c203 c204 c205 c206 c207 c208 c209 c210 c211 c212 c213 c214 c215 c216 c217 c218 c219 c220 c221 c222 c223 c224 c225 c226 c227 c228 c229 c230 c231 c232 c233 c234 c235 c236 c237 c238 c239 c240 c241 c242 c243 c244 c245 c246 c247 c248 c249 c250 c251 c252 c253 c254 c255 c256 c257 c258 c259 c260 c261 c262 c263 c264 c265 c266 c267 c268 c269 c270 c271 c272 c273 c274 c275 c276 c277 c278 c279 c280 c281 c282 c283 c284 c285 c286 c287 c288 c289 c290 c291 c292 c293 c294 c295 c296 c297 c298 c299 c300 c301 c302 c303 c304 c305 c306 c307 c308 c309 c310 c311 c312 c313 c314 c315 c316 c317 c318 c319 c320 c321 c322 c323 c324 c325 c326 c327 c328 c329 c330 c331 c332 c333 c334 c335 c336 c337 c338 c339 c340 c341 c342 c343 c344 c345 c346 c347 c348 c349 c350 c351 c352 c353 c354 c355 c356 c357 c358 c359 c360 c361 c362 c363 c364 c365 c366 c367 c368 c369 c370 c371 c372 c373 c374 c375 c376 c377 c378 c379 c380 c381 c382 c383 c384 c385 c386 c387 c388 c389 c390 c391 c392 c393 c394 c395 c396 c397 c398 c399 c400 c401 c402 c403 c404 c405 c406 c407 c408 c409 c410 c411 c412 c413 c414 c415 c416 c417 c418 c419 c420 c421 c422 c423 c424 c425 c426 c427 c428 c429 c430 c431 c432 c433 c434 c435 c436 c437 c438 c439 c440 c441 c442 c443 c444 c445 c446 c447 c448 c449 c450 c451 c452 c453 c454 c455 c456 c457 c458 : Value) {P : Exit → Act → World → Prop}
    (hP : ∀ (d13 d14 d15 d16 d17 d18 d19 d20 d127 d128 d129 d130 d131 d132 d133 d134 d135 d136 d137 d138 d139 d140 d141 d142 d143 d144 d145 d146 d147 d148 d149 d150 d151 d152 d153 d154 d155 d156 d157 d158 d159 d160 d161 d162 d163 d164 d165 d166 d167 d168 d169 d170 d171 d172 d173 d174 d175 d176 d177 d178 d179 d180 d181 d182 d183 d184 d185 d186 d187 d188 d189 d190 d191 d192 d193 d194 d195 d196 d197 d198 d199 d200 d201 d202 d203 d204 d205 d206 d207 d208 d209 d210 d211 d212 d213 d214 d215 d216 d217 d218 d219 d220 d221 d222 d223 d224 d225 d226 d227 d228 d229 d230 d231 d232 d233 d234 d235 d236 d237 d238 d239 d240 d241 d242 d243 d244 d245 d246 d247 d248 d249 d250 d251 d252 d253 d254 d255 d256 d257 d258 d259 d260 d261 d262 d263 d264 d265 d266 d267 d268 d269 d270 d271 d272 d273 d274 d275 d276 d277 d278 d279 d280 d281 d282 d283 d284 d285 d286 d287 d288 d289 d290 d291 d292 d293 d294 d295 d296 d297 d298 d299 d300 d301 d302 d303 d304 d305 d306 d307 d308 d309 d310 d311 d312 d313 d314 d315 d316 d317 d318 d319 d320 d321 d322 d323 d324 d325 d326 d327 d328 d329 d330 d331 d332 d333 d334 d335 d336 d337 d338 d339 d340 d341 d342 d343 d344 d345 d346 d347 d348 d349 d350 d351 d352 d353 d354 d355 d356 d357 d358 d359 d360 d361 d362 d363 d364 d365 d366 d367 d368 d369 d370 d371 d372 d373 d374 d375 d376 d377 d378 d379 d380 d381 d382 : Value) (mv' : Value) (w' : World), Rel5A w wk m.b nb (k + 1) tb #[.int .u8 2, .int .i64 I, .int .u8 K, .int .u8 L] mv' w' → P .normal ⟨#[c0, c1, undef, undef, c4, .pointer (some ⟨m.b, 0, none⟩), c6, .pointer (some ⟨nb, 0, none⟩), mv', undef, .pointer (some ⟨tb, 0, none⟩), .int .u64 h, .int .u64 y, d13, d14, d15, d16, d17, d18, d19, d20, c21, c22, c23, c24, c25, c26, c27, c28, c29, c30, c31, c32, c33, c34, c35, c36, c37, c38, c39, c40, c41, c42, c43, c44, c45, c46, c47, c48, c49, c50, c51, c52, c53, c54, c55, c56, c57, c58, c59, c60, c61, c62, c63, c64, c65, c66, c67, c68, c69, c70, c71, c72, c73, c74, c75, c76, c77, c78, c79, c80, c81, c82, c83, c84, c85, c86, c87, c88, c89, c90, c91, c92, c93, c94, c95, c96, c97, c98, c99, c100, c101, c102, c103, c104, c105, c106, c107, c108, c109, c110, c111, c112, c113, c114, c115, c116, c117, c118, c119, c120, c121, c122, c123, c124, c125, .int .u8 2, d127, d128, d129, d130, d131, d132, d133, d134, d135, d136, d137, d138, d139, d140, d141, d142, d143, d144, d145, d146, d147, d148, d149, d150, d151, d152, d153, d154, d155, d156, d157, d158, d159, d160, d161, d162, d163, d164, d165, d166, d167, d168, d169, d170, d171, d172, d173, d174, d175, d176, d177, d178, d179, d180, d181, d182, d183, d184, d185, d186, d187, d188, d189, d190, d191, d192, d193, d194, d195, d196, d197, d198, d199, d200, d201, d202, d203, d204, d205, d206, d207, d208, d209, d210, d211, d212, d213, d214, d215, d216, d217, d218, d219, d220, d221, d222, d223, d224, d225, d226, d227, d228, d229, d230, d231, d232, d233, d234, d235, d236, d237, d238, d239, d240, d241, d242, d243, d244, d245, d246, d247, d248, d249, d250, d251, d252, d253, d254, d255, d256, d257, d258, d259, d260, d261, d262, d263, d264, d265, d266, d267, d268, d269, d270, d271, d272, d273, d274, d275, d276, d277, d278, d279, d280, d281, d282, d283, d284, d285, d286, d287, d288, d289, d290, d291, d292, d293, d294, d295, d296, d297, d298, d299, d300, d301, d302, d303, d304, d305, d306, d307, d308, d309, d310, d311, d312, d313, d314, d315, d316, d317, d318, d319, d320, d321, d322, d323, d324, d325, d326, d327, d328, d329, d330, d331, d332, d333, d334, d335, d336, d337, d338, d339, d340, d341, d342, d343, d344, d345, d346, d347, d348, d349, d350, d351, d352, d353, d354, d355, d356, d357, d358, d359, d360, d361, d362, d363, d364, d365, d366, d367, d368, d369, d370, d371, d372, d373, d374, d375, d376, d377, d378, d379, d380, d381, d382, c383, c384, c385, c386, c387, c388, c389, c390, c391, c392, c393, c394, c395, c396, c397, c398, c399, c400, c401, c402, c403, c404, c405, c406, c407, c408, c409, c410, c411, c412, c413, c414, c415, c416, c417, c418, c419, c420, c421, c422, c423, c424, c425, c426, c427, c428, c429, c430, c431, c432, c433, c434, c435, c436, c437, c438, c439, c440, c441, c442, c443, c444, c445, c446, c447, c448, c449, c450, c451, c452, c453, c454, c455, c456, c457, c458, undef], []⟩ w')
    (hP2 : ∀ (d13 d14 d15 d16 d17 d18 d19 d20 d127 d128 d129 d130 d131 d132 d133 d134 d135 d136 d137 d138 d139 d140 d141 d142 d143 d144 d145 d146 d147 d148 d149 d150 d151 d152 d153 d154 d155 d156 d157 d158 d159 d160 d161 d162 d163 d164 d165 d166 d167 d168 d169 d170 d171 d172 d173 d174 d175 d176 d177 d178 d179 d180 d181 d182 d183 d184 d185 d186 d187 d188 d189 d190 d191 d192 d193 d194 d195 d196 d197 d198 d199 d200 d201 d202 d203 d204 d205 d206 d207 d208 d209 d210 d211 d212 d213 d214 d215 d216 d217 d218 d219 d220 d221 d222 d223 d224 d225 d226 d227 d228 d229 d230 d231 d232 d233 d234 d235 d236 d237 d238 d239 d240 d241 d242 d243 d244 d245 d246 d247 d248 d249 d250 d251 d252 d253 d254 d255 d256 d257 d258 d259 d260 d261 d262 d263 d264 d265 d266 d267 d268 d269 d270 d271 d272 d273 d274 d275 d276 d277 d278 d279 d280 d281 d282 d283 d284 d285 d286 d287 d288 d289 d290 d291 d292 d293 d294 d295 d296 d297 d298 d299 d300 d301 d302 d303 d304 d305 d306 d307 d308 d309 d310 d311 d312 d313 d314 d315 d316 d317 d318 d319 d320 d321 d322 d323 d324 d325 d326 d327 d328 d329 d330 d331 d332 d333 d334 d335 d336 d337 d338 d339 d340 d341 d342 d343 d344 d345 d346 d347 d348 d349 d350 d351 d352 d353 d354 d355 d356 d357 d358 d359 d360 d361 d362 d363 d364 d365 d366 d367 d368 d369 d370 d371 d372 d373 d374 d375 d376 d377 d378 d379 d380 d381 d382 : Value) (mv' : Value) (w' : World), Rel5A w wk m.b nb (k + 1) tb #[.int .u8 2, .int .i64 I, .int .u8 K, .int .u8 L] mv' w' → P (.exit 1) ⟨#[c0, c1, undef, undef, c4, .pointer (some ⟨m.b, 0, none⟩), c6, .pointer (some ⟨nb, 0, none⟩), mv', undef, .pointer (some ⟨tb, 0, none⟩), .int .u64 h, .int .u64 y, d13, d14, d15, d16, d17, d18, d19, d20, c21, c22, c23, c24, c25, c26, c27, c28, c29, c30, c31, c32, c33, c34, c35, c36, c37, c38, c39, c40, c41, c42, c43, c44, c45, c46, c47, c48, c49, c50, c51, c52, c53, c54, c55, c56, c57, c58, c59, c60, c61, c62, c63, c64, c65, c66, c67, c68, c69, c70, c71, c72, c73, c74, c75, c76, c77, c78, c79, c80, c81, c82, c83, c84, c85, c86, c87, c88, c89, c90, c91, c92, c93, c94, c95, c96, c97, c98, c99, c100, c101, c102, c103, c104, c105, c106, c107, c108, c109, c110, c111, c112, c113, c114, c115, c116, c117, c118, c119, c120, c121, c122, c123, c124, c125, .int .u8 2, d127, d128, d129, d130, d131, d132, d133, d134, d135, d136, d137, d138, d139, d140, d141, d142, d143, d144, d145, d146, d147, d148, d149, d150, d151, d152, d153, d154, d155, d156, d157, d158, d159, d160, d161, d162, d163, d164, d165, d166, d167, d168, d169, d170, d171, d172, d173, d174, d175, d176, d177, d178, d179, d180, d181, d182, d183, d184, d185, d186, d187, d188, d189, d190, d191, d192, d193, d194, d195, d196, d197, d198, d199, d200, d201, d202, d203, d204, d205, d206, d207, d208, d209, d210, d211, d212, d213, d214, d215, d216, d217, d218, d219, d220, d221, d222, d223, d224, d225, d226, d227, d228, d229, d230, d231, d232, d233, d234, d235, d236, d237, d238, d239, d240, d241, d242, d243, d244, d245, d246, d247, d248, d249, d250, d251, d252, d253, d254, d255, d256, d257, d258, d259, d260, d261, d262, d263, d264, d265, d266, d267, d268, d269, d270, d271, d272, d273, d274, d275, d276, d277, d278, d279, d280, d281, d282, d283, d284, d285, d286, d287, d288, d289, d290, d291, d292, d293, d294, d295, d296, d297, d298, d299, d300, d301, d302, d303, d304, d305, d306, d307, d308, d309, d310, d311, d312, d313, d314, d315, d316, d317, d318, d319, d320, d321, d322, d323, d324, d325, d326, d327, d328, d329, d330, d331, d332, d333, d334, d335, d336, d337, d338, d339, d340, d341, d342, d343, d344, d345, d346, d347, d348, d349, d350, d351, d352, d353, d354, d355, d356, d357, d358, d359, d360, d361, d362, d363, d364, d365, d366, d367, d368, d369, d370, d371, d372, d373, d374, d375, d376, d377, d378, d379, d380, d381, d382, c383, c384, c385, c386, c387, c388, c389, c390, c391, c392, c393, c394, c395, c396, c397, c398, c399, c400, c401, c402, c403, c404, c405, c406, c407, c408, c409, c410, c411, c412, c413, c414, c415, c416, c417, c418, c419, c420, c421, c422, c423, c424, c425, c426, c427, c428, c429, c430, c431, c432, c433, c434, c435, c436, c437, c438, c439, c440, c441, c442, c443, c444, c445, c446, c447, c448, c449, c450, c451, c452, c453, c454, c455, c456, c457, c458, undef], []⟩ w')
    (hP3 : ∀ (d13 d14 d15 d16 d17 d18 d19 d20 d127 d128 d129 d130 d131 d132 d133 d134 d135 d136 d137 d138 d139 d140 d141 d142 d143 d144 d145 d146 d147 d148 d149 d150 d151 d152 d153 d154 d155 d156 d157 d158 d159 d160 d161 d162 d163 d164 d165 d166 d167 d168 d169 d170 d171 d172 d173 d174 d175 d176 d177 d178 d179 d180 d181 d182 d183 d184 d185 d186 d187 d188 d189 d190 d191 d192 d193 d194 d195 d196 d197 d198 d199 d200 d201 d202 d203 d204 d205 d206 d207 d208 d209 d210 d211 d212 d213 d214 d215 d216 d217 d218 d219 d220 d221 d222 d223 d224 d225 d226 d227 d228 d229 d230 d231 d232 d233 d234 d235 d236 d237 d238 d239 d240 d241 d242 d243 d244 d245 d246 d247 d248 d249 d250 d251 d252 d253 d254 d255 d256 d257 d258 d259 d260 d261 d262 d263 d264 d265 d266 d267 d268 d269 d270 d271 d272 d273 d274 d275 d276 d277 d278 d279 d280 d281 d282 d283 d284 d285 d286 d287 d288 d289 d290 d291 d292 d293 d294 d295 d296 d297 d298 d299 d300 d301 d302 d303 d304 d305 d306 d307 d308 d309 d310 d311 d312 d313 d314 d315 d316 d317 d318 d319 d320 d321 d322 d323 d324 d325 d326 d327 d328 d329 d330 d331 d332 d333 d334 d335 d336 d337 d338 d339 d340 d341 d342 d343 d344 d345 d346 d347 d348 d349 d350 d351 d352 d353 d354 d355 d356 d357 d358 d359 d360 d361 d362 d363 d364 d365 d366 d367 d368 d369 d370 d371 d372 d373 d374 d375 d376 d377 d378 d379 d380 d381 d382 : Value) (mv' : Value) (w' : World), Below w.heap.size w w' → P .ret ⟨#[c0, c1, undef, undef, .bool true, .pointer (some ⟨m.b, 0, none⟩), c6, .pointer (some ⟨nb, 0, none⟩), mv', undef, .pointer (some ⟨tb, 0, none⟩), .int .u64 h, .int .u64 y, d13, d14, d15, d16, d17, d18, d19, d20, c21, c22, c23, c24, c25, c26, c27, c28, c29, c30, c31, c32, c33, c34, c35, c36, c37, c38, c39, c40, c41, c42, c43, c44, c45, c46, c47, c48, c49, c50, c51, c52, c53, c54, c55, c56, c57, c58, c59, c60, c61, c62, c63, c64, c65, c66, c67, c68, c69, c70, c71, c72, c73, c74, c75, c76, c77, c78, c79, c80, c81, c82, c83, c84, c85, c86, c87, c88, c89, c90, c91, c92, c93, c94, c95, c96, c97, c98, c99, c100, c101, c102, c103, c104, c105, c106, c107, c108, c109, c110, c111, c112, c113, c114, c115, c116, c117, c118, c119, c120, c121, c122, c123, c124, c125, .int .u8 2, d127, d128, d129, d130, d131, d132, d133, d134, d135, d136, d137, d138, d139, d140, d141, d142, d143, d144, d145, d146, d147, d148, d149, d150, d151, d152, d153, d154, d155, d156, d157, d158, d159, d160, d161, d162, d163, d164, d165, d166, d167, d168, d169, d170, d171, d172, d173, d174, d175, d176, d177, d178, d179, d180, d181, d182, d183, d184, d185, d186, d187, d188, d189, d190, d191, d192, d193, d194, d195, d196, d197, d198, d199, d200, d201, d202, d203, d204, d205, d206, d207, d208, d209, d210, d211, d212, d213, d214, d215, d216, d217, d218, d219, d220, d221, d222, d223, d224, d225, d226, d227, d228, d229, d230, d231, d232, d233, d234, d235, d236, d237, d238, d239, d240, d241, d242, d243, d244, d245, d246, d247, d248, d249, d250, d251, d252, d253, d254, d255, d256, d257, d258, d259, d260, d261, d262, d263, d264, d265, d266, d267, d268, d269, d270, d271, d272, d273, d274, d275, d276, d277, d278, d279, d280, d281, d282, d283, d284, d285, d286, d287, d288, d289, d290, d291, d292, d293, d294, d295, d296, d297, d298, d299, d300, d301, d302, d303, d304, d305, d306, d307, d308, d309, d310, d311, d312, d313, d314, d315, d316, d317, d318, d319, d320, d321, d322, d323, d324, d325, d326, d327, d328, d329, d330, d331, d332, d333, d334, d335, d336, d337, d338, d339, d340, d341, d342, d343, d344, d345, d346, d347, d348, d349, d350, d351, d352, d353, d354, d355, d356, d357, d358, d359, d360, d361, d362, d363, d364, d365, d366, d367, d368, d369, d370, d371, d372, d373, d374, d375, d376, d377, d378, d379, d380, d381, d382, c383, c384, c385, c386, c387, c388, c389, c390, c391, c392, c393, c394, c395, c396, c397, c398, c399, c400, c401, c402, c403, c404, c405, c406, c407, c408, c409, c410, c411, c412, c413, c414, c415, c416, c417, c418, c419, c420, c421, c422, c423, c424, c425, c426, c427, c428, c429, c430, c431, c432, c433, c434, c435, c436, c437, c438, c439, c440, c441, c442, c443, c444, c445, c446, c447, c448, c449, c450, c451, c452, c453, c454, c455, c456, c457, c458, undef], []⟩ w') :
    Code.wp Try.prog sw5 P ⟨#[c0, c1, undef, undef, c4, .pointer (some ⟨m.b, 0, none⟩), c6, .pointer (some ⟨nb, 0, none⟩), mv, undef, .pointer (some ⟨tb, 0, none⟩), .int .u64 h, .int .u64 y, c13, c14, c15, c16, c17, c18, c19, c20, c21, c22, c23, c24, c25, c26, c27, c28, c29, c30, c31, c32, c33, c34, c35, c36, c37, c38, c39, c40, c41, c42, c43, c44, c45, c46, c47, c48, c49, c50, c51, c52, c53, c54, c55, c56, c57, c58, c59, c60, c61, c62, c63, c64, c65, c66, c67, c68, c69, c70, c71, c72, c73, c74, c75, c76, c77, c78, c79, c80, c81, c82, c83, c84, c85, c86, c87, c88, c89, c90, c91, c92, c93, c94, c95, c96, c97, c98, c99, c100, c101, c102, c103, c104, c105, c106, c107, c108, c109, c110, c111, c112, c113, c114, c115, c116, c117, c118, c119, c120, c121, c122, c123, c124, c125, .int .u8 2, c127, c128, c129, c130, c131, c132, c133, c134, c135, c136, c137, c138, c139, c140, c141, c142, c143, c144, c145, c146, c147, c148, c149, c150, c151, c152, c153, c154, c155, c156, c157, c158, c159, c160, c161, c162, c163, c164, c165, c166, c167, c168, c169, c170, c171, c172, c173, c174, c175, c176, c177, c178, c179, c180, c181, c182, c183, c184, c185, c186, c187, c188, c189, c190, c191, c192, c193, c194, c195, c196, c197, c198, c199, c200, c201, c202, c203, c204, c205, c206, c207, c208, c209, c210, c211, c212, c213, c214, c215, c216, c217, c218, c219, c220, c221, c222, c223, c224, c225, c226, c227, c228, c229, c230, c231, c232, c233, c234, c235, c236, c237, c238, c239, c240, c241, c242, c243, c244, c245, c246, c247, c248, c249, c250, c251, c252, c253, c254, c255, c256, c257, c258, c259, c260, c261, c262, c263, c264, c265, c266, c267, c268, c269, c270, c271, c272, c273, c274, c275, c276, c277, c278, c279, c280, c281, c282, c283, c284, c285, c286, c287, c288, c289, c290, c291, c292, c293, c294, c295, c296, c297, c298, c299, c300, c301, c302, c303, c304, c305, c306, c307, c308, c309, c310, c311, c312, c313, c314, c315, c316, c317, c318, c319, c320, c321, c322, c323, c324, c325, c326, c327, c328, c329, c330, c331, c332, c333, c334, c335, c336, c337, c338, c339, c340, c341, c342, c343, c344, c345, c346, c347, c348, c349, c350, c351, c352, c353, c354, c355, c356, c357, c358, c359, c360, c361, c362, c363, c364, c365, c366, c367, c368, c369, c370, c371, c372, c373, c374, c375, c376, c377, c378, c379, c380, c381, c382, c383, c384, c385, c386, c387, c388, c389, c390, c391, c392, c393, c394, c395, c396, c397, c398, c399, c400, c401, c402, c403, c404, c405, c406, c407, c408, c409, c410, c411, c412, c413, c414, c415, c416, c417, c418, c419, c420, c421, c422, c423, c424, c425, c426, c427, c428, c429, c430, c431, c432, c433, c434, c435, c436, c437, c438, c439, c440, c441, c442, c443, c444, c445, c446, c447, c448, c449, c450, c451, c452, c453, c454, c455, c456, c457, c458, undef], []⟩ wr := by
  replace hP := hide hP
  replace hP2 := hide hP2
  replace hP3 := hide hP3
  have hQg := Q.gen
  have hml := Q.made.1
  have hnl := Q.nl
  have hxl : next.length ≤ 60 := by have := Q.ok.len; omega
  replace hml : made.length ≤ 60 := by omega
  replace hnl : nodes.length ≤ 60 := by omega
  obtain ⟨⟨na, nc, rfl⟩, _⟩ := R.sxVal hR (t := 5) rfl
  obtain ⟨⟨xa, xc, rfl⟩, _⟩ := R.sxVal hR (t := 6) rfl
  obtain ⟨⟨ma, mc, rfl⟩, _⟩ := R.slVal hR (t := 8) rfl
  obtain ⟨htv, hwv, hhm⟩ := hR.memHdr (t := 1) rfl
  cases hf : freeAt m.ss with
  | none =>
    have hal := hide (memR_alloc_no hR (t := 1) rfl ⟨⟨#[]⟩, ⟨#[]⟩, 0, h⟩ hf)
    replace hf := hide hf
    have Q3 := Q.more
    clear hR
    conv => arg 2; whnf
    go_wp2_with fail
    refine hal.out.mono ?_
    rintro e w2 ⟨rfl, h2⟩
    dsimp only
    have hfin : Rel5A w wk m.b nb (k + 1) tb #[.int .u8 2, .int .i64 I, .int .u8 K, .int .u8 L] (.slice ma made.length mc) w2 := ⟨m, nodes, next, made, _, _, _, _, _, rfl, Q3, h2⟩
    replace hfin := hide hfin
    clear h2
    go_wp2_with fail
    apply hP.out
    exact hfin.out
  | some i =>
    have hal := memR_alloc hR (t := 1) rfl ⟨⟨#[]⟩, ⟨#[]⟩, 0, h⟩ ⟨hh, Int.le_refl 0, show (0 : Int) ≤ 4294967295 by decide⟩ (by omega) i hf
    have Q3 := Q.alloc hk hf (hR.memGen (t := 1) rfl) hh
    have hendm : ∀ (x : Int) (a1 c1 a2 c2 : _) (W : World), I5 wk (k + 1) { m with ss := m.ss.set i (taken (m.ss.getD i slot0) ⟨⟨#[]⟩, ⟨#[]⟩, 0, h⟩) } (nodes ++ [x]) (next ++ [h]) (made ++ [x]) → ∀ mv' : Value,
        R (((((((l5 w m cv tv (.slice na nodes.length nc) (.slice xa next.length xc) wv (.slice ma made.length mc) nb nodes next made ++ [StK tb #[.int .u8 2, .int .i64 I, .int .u8 K, .int .u8 L] 56]).set 1 (MemK { m with ss := m.ss.set i (taken (m.ss.getD i slot0) ⟨⟨#[]⟩, ⟨#[]⟩, 0, h⟩) })).set 8
          (SlK 30 1 mv' (made ++ [x]).length ((made ++ [x]).map (Value.int .u64)))).set 5 (SxK 30 1 (.slice a1 (nodes.length + 1) c1) (nodes.length + 1) ((nodes ++ [x]).map (Value.int .u64)))).set 6 (SxK 30 1 (.slice a2 (next.length + 1) c2) (next.length + 1) ((next ++ [h]).map (Value.int .u64)))).set 9
          (StK nb #[cv, tv, .slice a1 (nodes.length + 1) c1, .slice xa next.length xc, wv] 53)).set 9 (StK nb #[cv, tv, .slice a1 (nodes.length + 1) c1, .slice a2 (next.length + 1) c2, wv] 53)) W →
        Rel5A w wk m.b nb (k + 1) tb #[.int .u8 2, .int .i64 I, .int .u8 K, .int .u8 L] mv' W := fun x a1 c1 a2 c2 W Q3 mv' h10 => by
      have e1 : (nodes ++ [x]).length = nodes.length + 1 := by simp
      have e2 : (next ++ [h]).length = next.length + 1 := by simp
      rw [← e1, ← e2] at h10
      exact ⟨{ m with ss := m.ss.set i (taken (m.ss.getD i slot0) ⟨⟨#[]⟩, ⟨#[]⟩, 0, h⟩) }, nodes ++ [x], next ++ [h], made ++ [x], _, _, _, _, _, rfl, Q3, h10⟩
    generalize hnd m.ss i = x at *
    replace hendm := hide fun a1 c1 a2 c2 W mv' => hendm x a1 c1 a2 c2 W Q3 mv'
    replace hal := hide hal
    replace hf := hide hf
    clear hR Q3
    conv => arg 2; whnf
    go_wp2_with fail
    refine hal.out.mono ?_
    rintro e w2 ⟨rfl, h2⟩
    dsimp only
    have hbN := h2.st (t := 9) rfl
    have hbl := lt_of_blk hbN
    obtain ⟨o, hr⟩ := h2
    have hs : SlAt o w2 (16 * 8) 30 1 (.slice ma made.length mc) made.length (made.map (Value.int .u64)) := hr 8 _ rfl
    replace hr := hide hr
    clear hal hhm
    go_wp2_with (at_builtin; refine push_u64 rfl (.tmp 223) (.tmp 225) rfl _ _ _ rfl (hs.alloc _) _ 1 _ rfl (blk_new _ _) rfl (by intro u hu; simp at hu; subst hu; rfl) (by omega) ?_)
    intro v' w7 o1 hs1 he1 _ _
    have h7 := hr.out.step (t := 8) (q := SlK 30 1 v' (made ++ [x]).length ((made ++ [x]).map (Value.int .u64))) (((Ext.refl o _ _).alloc _).trans he1) (fun y hy => by omega) (by rw [List.length_append, List.map_append]; exact hs1)
    obtain ⟨⟨ma2, mc2, rfl⟩, _⟩ := h7.slVal (t := 8) rfl
    clear hr hs hs1 he1 hbN hbl
    have hend := hide fun a1 c1 a2 c2 W => hendm.out a1 c1 a2 c2 W (.slice ma2 (made ++ [x]).length mc2)
    have e3 : (made ++ [x]).length = made.length + 1 := by simp
    obtain ⟨LL, hLL⟩ : ∃ LL, (((l5 w m cv tv (.slice na nodes.length nc) (.slice xa next.length xc) wv (.slice ma made.length mc) nb nodes next made ++ [StK tb #[.int .u8 2, .int .i64 I, .int .u8 K, .int .u8 L] 56]).set 1 (MemK { m with ss := m.ss.set i (taken (m.ss.getD i slot0) ⟨⟨#[]⟩, ⟨#[]⟩, 0, h⟩) })).set 8
          (SlK 30 1 (.slice ma2 (made ++ [x]).length mc2) (made ++ [x]).length ((made ++ [x]).map (Value.int .u64)))) = LL := ⟨_, rfl⟩
    rw [hLL] at h7 hend
    have h5 : LL[5]? = some (SxK 30 1 (.slice na nodes.length nc) nodes.length (nodes.map (Value.int .u64))) := by rw [← hLL]; rfl
    have h6 : LL[6]? = some (SxK 30 1 (.slice xa next.length xc) next.length (next.map (Value.int .u64))) := by rw [← hLL]; rfl
    have h9 : LL[9]? = some (StK nb #[cv, tv, .slice na nodes.length nc, .slice xa next.length xc, wv] 53) := by rw [← hLL]; rfl
    rw [e3] at hend
    clear hLL hendm
    rw [e3]
    go_upto_region 37 with fail
    have hR0 := h7.drew
    have hS0 := hR0.st h9
    clear h7 e3
    refine wp_region_G (S := fun w' => blk w' nb = some (.cells #[cv, tv, .slice na nodes.length nc, .slice xa next.length xc, wv] 53 (0, 0))) (B := 11) rfl ?_
    generalize w7.drew = W0 at *
    refine wpAnyG_take (i := 0) (v := ?_) rfl (by kernel_rfl) (by kernel_rfl) (by kernel_rfl) (by kernel_rfl) (fun _ _ _ h => h) (by rfl) ?_ hS0 ?_
    rotate_left
    · intro w' hSw
      try dsimp only at hSw
      go_simp
      try with_reducible rfl
    try simp only [Act.put, List.setIfInBounds_toArray, List.set_cons_zero, List.set_cons_succ]
    refine wpAnyG_take (i := 1) (v := ?_) rfl (by kernel_rfl) (by kernel_rfl) (by kernel_rfl) (by kernel_rfl) (fun _ _ _ h => h) (by rfl) ?_ hS0 ?_
    rotate_left
    · intro w' hSw
      try dsimp only at hSw
      go_simp
      try with_reducible rfl
    try simp only [Act.put, List.setIfInBounds_toArray, List.set_cons_zero, List.set_cons_succ]
    refine wpAnyG_take (i := 2) (v := ?_) rfl (by kernel_rfl) (by kernel_rfl) (by kernel_rfl) (by kernel_rfl) (fun _ _ _ h => h) (by rfl) ?_ hS0 ?_
    rotate_left
    · intro w' hSw
      try dsimp only at hSw
      go_simp
      try with_reducible rfl
    try simp only [Act.put, List.setIfInBounds_toArray, List.set_cons_zero, List.set_cons_succ]
    refine wpAnyG_take (i := 5) (v := ?_) rfl (by kernel_rfl) (by kernel_rfl) (by kernel_rfl) (by kernel_rfl) (fun _ _ _ h => h) (by rfl) ?_ hS0 ?_
    rotate_left
    · intro w' hSw
      try dsimp only at hSw
      go_simp
      try with_reducible rfl
    try simp only [Act.put, List.setIfInBounds_toArray, List.set_cons_zero, List.set_cons_succ]
    refine wpAnyG_take (i := 6) (v := ?_) rfl (by kernel_rfl) (by kernel_rfl) (by kernel_rfl) (by kernel_rfl) (fun _ _ _ h => h) (by rfl) ?_ hS0 ?_
    rotate_left
    · intro w' hSw
      try dsimp only at hSw
      go_simp
      try with_reducible rfl
    try simp only [Act.put, List.setIfInBounds_toArray, List.set_cons_zero, List.set_cons_succ]
    refine wpAnyG_take (i := 7) (v := ?_) rfl (by kernel_rfl) (by kernel_rfl) (by kernel_rfl) (by kernel_rfl) (fun _ _ _ h => h) (by rfl) ?_ hS0 ?_
    rotate_left
    · intro w' hSw
      try dsimp only at hSw
      go_simp
      try with_reducible rfl
    try simp only [Act.put, List.setIfInBounds_toArray, List.set_cons_zero, List.set_cons_succ]
    refine wpAnyG_two (i := 3) (j := 8) (by kernel_rfl) rfl rfl (fun K hK => ?_) (fun K hK => ?_)
    · go_simp
      have hR1 := hR0.new #[.int .u64 x] 30
      have hbx := hR1.st app_last
      have hS1 := hR1.st (app_get h9)
      refine hK.out _ _ (fun _ => hS1) ?_
      clear hK K
      try simp only [Act.put, List.setIfInBounds_toArray, List.set_cons_zero, List.set_cons_succ]
      generalize W0.alloc (.cells #[.int .u64 x] 30) = W1 at *
      generalize W0.heap.size = gx at *
      refine wpAnyG_two (i := 4) (j := 8) (by kernel_rfl) rfl rfl (fun K hK => ?_) (fun K hK => ?_)
      · refine stepR_push rfl (.tmp 228) (.tmp 230) rfl hR1 (app_get h5) rfl gx 1 x rfl hbx (by omega) ?_
        rintro v2 W2 ⟨a2, c2, rfl⟩ hR2 _
        have hR3 := (hR2.setL h5).left
        have h9b := set_got (q := SxK 30 1 (.slice a2 (nodes.length + 1) c2) (nodes.length + 1) ((nodes ++ [x]).map (Value.int .u64))) h9 (show 5 ≠ 9 by decide)
        have h6b := set_got (q := SxK 30 1 (.slice a2 (nodes.length + 1) c2) (nodes.length + 1) ((nodes ++ [x]).map (Value.int .u64))) h6 (show 5 ≠ 6 by decide)
        have hS3 := hR3.st h9b
        refine hK.out _ _ (fun _ => hS3) ?_
        clear hK K
        try simp only [Act.put, List.setIfInBounds_toArray, List.set_cons_zero, List.set_cons_succ]
        clear hR1 hR2 hbx hS0 hS1
        refine wpAnyG_take (i := 10) (v := ?_) rfl (by kernel_rfl) (by kernel_rfl) (by kernel_rfl) (by kernel_rfl) (fun _ _ _ h => h) (by rfl) ?_ hS3 ?_
        rotate_left
        · intro w' hSw
          try dsimp only at hSw
          go_simp
          try with_reducible rfl
        try simp only [Act.put, List.setIfInBounds_toArray, List.set_cons_zero, List.set_cons_succ]
        refine wpAnyG_one (i := 8) (by kernel_rfl) rfl (fun K hK => ?_)
        go_simp
        have hR4 := hR3.new #[.int .u64 h] 30
        have hbh := hR4.st app_last
        have hS4 := hR4.st (app_get h9b)
        refine hK.out _ _ (fun _ => hS4) ?_
        clear hK K
        try simp only [Act.put, List.setIfInBounds_toArray, List.set_cons_zero, List.set_cons_succ]
        generalize W2.alloc (.cells #[.int .u64 h] 30) = W4 at *
        generalize W2.heap.size = gh at *
        refine wpAnyG_one (i := 9) (by kernel_rfl) rfl (fun K hK => ?_)
        refine stepR_push rfl (.tmp 233) (.tmp 235) rfl hR4 (app_get h6b) rfl gh 1 h rfl hbh (by omega) ?_
        rintro v5 W5 ⟨a5, c5, rfl⟩ hR5 _
        have hR6 := (hR5.setL h6b).left
        have h9c := set_got (q := SxK 30 1 (.slice a5 (next.length + 1) c5) (next.length + 1) ((next ++ [h]).map (Value.int .u64))) h9b (show 6 ≠ 9 by decide)
        have hS6 := hR6.st h9c
        refine hK.out _ _ (fun _ => hS6) ?_
        clear hK K
        try simp only [Act.put, List.setIfInBounds_toArray, List.set_cons_zero, List.set_cons_succ]
        clear hR3 hR4 hR5 hbh hS3 hS4
        have hS := hR6.st h9c
        have hbl := lt_of_blk hS
        refine wpAnyG_one (i := 11) (by kernel_rfl) rfl (fun K hK => ?_)
        go_simp
        refine hK.out _ _ (fun hlt => absurd hlt (by decide)) ?_
        clear hK K
        try simp only [Act.put, List.setIfInBounds_toArray, List.set_cons_zero, List.set_cons_succ]
        have hQ := hR6.put h9c 2 (.slice a2 (nodes.length + 1) c2)
        have hSq := hQ.st (set_get0 h9c)
        have hQ2 := hQ.put (set_get0 h9c) 3 (.slice a5 (next.length + 1) c5)
        refine wpAnyG_one (i := 12) (by kernel_rfl) rfl (fun K hK => ?_)
        go_simp
        refine hK.out _ _ (fun hlt => absurd hlt (by decide)) ?_
        clear hK K
        try simp only [Act.put, List.setIfInBounds_toArray, List.set_cons_zero, List.set_cons_succ]
        refine wpAnyG_one (i := 13) (by kernel_rfl) rfl (fun K hK => ?_)
        go_simp
        refine hK.out _ _ (fun hlt => absurd hlt (by decide)) ?_
        clear hK K
        try simp only [Act.put, List.setIfInBounds_toArray, List.set_cons_zero, List.set_cons_succ]
        refine wpAnyG_done (by kernel_rfl) ?_ _
        refine NoPanic.normal ?_
        have hfin := hend.out _ _ _ _ _ hQ2
        replace hfin := hide hfin
        clear hQ hQ2 hS hSq hR6 hbl
        go_wp2_with fail
        apply hP.out
        exact hfin.out
      · go_simp
        have hR2 := hR1.new #[.int .u64 h] 30
        have hbh := hR2.st app_last
        have hS2 := hR2.st (app_get (app_get h9))
        refine hK.out _ _ (fun _ => hS2) ?_
        clear hK K
        try simp only [Act.put, List.setIfInBounds_toArray, List.set_cons_zero, List.set_cons_succ]
        generalize W1.alloc (.cells #[.int .u64 h] 30) = W2 at *
        generalize W1.heap.size = gh at *
        replace hbx := hR2.st (app_get app_last)
        refine wpAnyG_one (i := 4) (by kernel_rfl) rfl (fun K hK => ?_)
        refine stepR_push rfl (.tmp 228) (.tmp 230) rfl hR2 (app_get (app_get h5)) rfl gx 1 x rfl hbx (by omega) ?_
        rintro v3 W3 ⟨a3, c3, rfl⟩ hR3 _
        have hR4 := hR3.setL (app_get h5)
        rw [List.set_append_left _ _ (List.getElem?_eq_some_iff.1 h5).1] at hR4
        have h9b := set_got (q := SxK 30 1 (.slice a3 (nodes.length + 1) c3) (nodes.length + 1) ((nodes ++ [x]).map (Value.int .u64))) h9 (show 5 ≠ 9 by decide)
        have h6b := set_got (q := SxK 30 1 (.slice a3 (nodes.length + 1) c3) (nodes.length + 1) ((nodes ++ [x]).map (Value.int .u64))) h6 (show 5 ≠ 6 by decide)
        have hS4 := hR4.st (app_get (app_get h9b))
        replace hbh := hR4.st app_last
        refine hK.out _ _ (fun _ => hS4) ?_
        clear hK K
        try simp only [Act.put, List.setIfInBounds_toArray, List.set_cons_zero, List.set_cons_succ]
        clear hS0 hS1 hS2 hbx
        refine wpAnyG_take (i := 10) (v := ?_) rfl (by kernel_rfl) (by kernel_rfl) (by kernel_rfl) (by kernel_rfl) (fun _ _ _ h => h) (by rfl) ?_ hS4 ?_
        rotate_left
        · intro w' hSw
          try dsimp only at hSw
          go_simp
          try with_reducible rfl
        try simp only [Act.put, List.setIfInBounds_toArray, List.set_cons_zero, List.set_cons_succ]
        refine wpAnyG_one (i := 9) (by kernel_rfl) rfl (fun K hK => ?_)
        refine stepR_push rfl (.tmp 233) (.tmp 235) rfl hR4 (app_get (app_get h6b)) rfl gh 1 h rfl hbh (by omega) ?_
        rintro v5 W5 ⟨a5, c5, rfl⟩ hR5 _
        have hR6 := hR5.setL (app_get h6b)
        rw [List.set_append_left _ _ (List.getElem?_eq_some_iff.1 h6b).1] at hR6
        have hR7 := hR6.left.left
        have h9c := set_got (q := SxK 30 1 (.slice a5 (next.length + 1) c5) (next.length + 1) ((next ++ [h]).map (Value.int .u64))) h9b (show 6 ≠ 9 by decide)
        have hS7 := hR7.st h9c
        refine hK.out _ _ (fun _ => hS7) ?_
        clear hK K
        try simp only [Act.put, List.setIfInBounds_toArray, List.set_cons_zero, List.set_cons_succ]
        clear hR1 hR2 hR3 hR4 hR5 hR6 hbh hS4
        have hS := hR7.st h9c
        have hbl := lt_of_blk hS
        refine wpAnyG_one (i := 11) (by kernel_rfl) rfl (fun K hK => ?_)
        go_simp
        refine hK.out _ _ (fun hlt => absurd hlt (by decide)) ?_
        clear hK K
        try simp only [Act.put, List.setIfInBounds_toArray, List.set_cons_zero, List.set_cons_succ]
        have hQ := hR7.put h9c 2 (.slice a3 (nodes.length + 1) c3)
        have hSq := hQ.st (set_get0 h9c)
        have hQ2 := hQ.put (set_get0 h9c) 3 (.slice a5 (next.length + 1) c5)
        refine wpAnyG_one (i := 12) (by kernel_rfl) rfl (fun K hK => ?_)
        go_simp
        refine hK.out _ _ (fun hlt => absurd hlt (by decide)) ?_
        clear hK K
        try simp only [Act.put, List.setIfInBounds_toArray, List.set_cons_zero, List.set_cons_succ]
        refine wpAnyG_one (i := 13) (by kernel_rfl) rfl (fun K hK => ?_)
        go_simp
        refine hK.out _ _ (fun hlt => absurd hlt (by decide)) ?_
        clear hK K
        try simp only [Act.put, List.setIfInBounds_toArray, List.set_cons_zero, List.set_cons_succ]
        refine wpAnyG_done (by kernel_rfl) ?_ _
        refine NoPanic.normal ?_
        have hfin := hend.out _ _ _ _ _ hQ2
        replace hfin := hide hfin
        clear hQ hQ2 hS hSq hR7 hbl
        go_wp2_with fail
        apply hP.out
        exact hfin.out
    · go_simp
      have hR1 := hR0.new #[.int .u64 h] 30
      have hbh := hR1.st app_last
      have hS1 := hR1.st (app_get h9)
      refine hK.out _ _ (fun _ => hS1) ?_
      clear hK K
      try simp only [Act.put, List.setIfInBounds_toArray, List.set_cons_zero, List.set_cons_succ]
      generalize W0.alloc (.cells #[.int .u64 h] 30) = W1 at *
      generalize W0.heap.size = gh at *
      refine wpAnyG_one (i := 3) (by kernel_rfl) rfl (fun K hK => ?_)
      go_simp
      have hR2 := hR1.new #[.int .u64 x] 30
      have hbx := hR2.st app_last
      have hS2 := hR2.st (app_get (app_get h9))
      refine hK.out _ _ (fun _ => hS2) ?_
      clear hK K
      try simp only [Act.put, List.setIfInBounds_toArray, List.set_cons_zero, List.set_cons_succ]
      generalize W1.alloc (.cells #[.int .u64 x] 30) = W2 at *
      generalize W1.heap.size = gx at *
      refine wpAnyG_one (i := 4) (by kernel_rfl) rfl (fun K hK => ?_)
      refine stepR_push rfl (.tmp 228) (.tmp 230) rfl hR2 (app_get (app_get h5)) rfl gx 1 x rfl hbx (by omega) ?_
      rintro v3 W3 ⟨a3, c3, rfl⟩ hR3 _
      have hR4 := hR3.setL (app_get h5)
      rw [List.set_append_left _ _ (List.getElem?_eq_some_iff.1 h5).1] at hR4
      have h9b := set_got (q := SxK 30 1 (.slice a3 (nodes.length + 1) c3) (nodes.length + 1) ((nodes ++ [x]).map (Value.int .u64))) h9 (show 5 ≠ 9 by decide)
      have h6b := set_got (q := SxK 30 1 (.slice a3 (nodes.length + 1) c3) (nodes.length + 1) ((nodes ++ [x]).map (Value.int .u64))) h6 (show 5 ≠ 6 by decide)
      have hS4 := hR4.st (app_get (app_get h9b))
      replace hbh := hR4.st (app_get app_last)
      refine hK.out _ _ (fun _ => hS4) ?_
      clear hK K
      try simp only [Act.put, List.setIfInBounds_toArray, List.set_cons_zero, List.set_cons_succ]
      clear hS0 hS1 hS2 hbx
      refine wpAnyG_take (i := 10) (v := ?_) rfl (by kernel_rfl) (by kernel_rfl) (by kernel_rfl) (by kernel_rfl) (fun _ _ _ h => h) (by rfl) ?_ hS4 ?_
      rotate_left
      · intro w' hSw
        try dsimp only at hSw
        go_simp
        try with_reducible rfl
      try simp only [Act.put, List.setIfInBounds_toArray, List.set_cons_zero, List.set_cons_succ]
      refine wpAnyG_one (i := 9) (by kernel_rfl) rfl (fun K hK => ?_)
      refine stepR_push rfl (.tmp 233) (.tmp 235) rfl hR4 (app_get (app_get h6b)) rfl gh 1 h rfl hbh (by omega) ?_
      rintro v5 W5 ⟨a5, c5, rfl⟩ hR5 _
      have hR6 := hR5.setL (app_get h6b)
      rw [List.set_append_left _ _ (List.getElem?_eq_some_iff.1 h6b).1] at hR6
      have hR7 := hR6.left.left
      have h9c := set_got (q := SxK 30 1 (.slice a5 (next.length + 1) c5) (next.length + 1) ((next ++ [h]).map (Value.int .u64))) h9b (show 6 ≠ 9 by decide)
      have hS7 := hR7.st h9c
      refine hK.out _ _ (fun _ => hS7) ?_
      clear hK K
      try simp only [Act.put, List.setIfInBounds_toArray, List.set_cons_zero, List.set_cons_succ]
      clear hR1 hR2 hR3 hR4 hR5 hR6 hbh hS4
      have hS := hR7.st h9c
      have hbl := lt_of_blk hS
      refine wpAnyG_one (i := 11) (by kernel_rfl) rfl (fun K hK => ?_)
      go_simp
      refine hK.out _ _ (fun hlt => absurd hlt (by decide)) ?_
      clear hK K
      try simp only [Act.put, List.setIfInBounds_toArray, List.set_cons_zero, List.set_cons_succ]
      have hQ := hR7.put h9c 2 (.slice a3 (nodes.length + 1) c3)
      have hSq := hQ.st (set_get0 h9c)
      have hQ2 := hQ.put (set_get0 h9c) 3 (.slice a5 (next.length + 1) c5)
      refine wpAnyG_one (i := 12) (by kernel_rfl) rfl (fun K hK => ?_)
      go_simp
      refine hK.out _ _ (fun hlt => absurd hlt (by decide)) ?_
      clear hK K
      try simp only [Act.put, List.setIfInBounds_toArray, List.set_cons_zero, List.set_cons_succ]
      refine wpAnyG_one (i := 13) (by kernel_rfl) rfl (fun K hK => ?_)
      go_simp
      refine hK.out _ _ (fun hlt => absurd hlt (by decide)) ?_
      clear hK K
      try simp only [Act.put, List.setIfInBounds_toArray, List.set_cons_zero, List.set_cons_succ]
      refine wpAnyG_done (by kernel_rfl) ?_ _
      refine NoPanic.normal ?_
      have hfin := hend.out _ _ _ _ _ hQ2
      replace hfin := hide hfin
      clear hQ hQ2 hS hSq hR7 hbl
      go_wp2_with fail
      apply hP.out
      exact hfin.out
end Go.Proofs.Ytcoaemjoanbemaa
