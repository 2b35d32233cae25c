/- quietuslaw11: PutPlays: a round's end, regions 33 to 42. Condition: its objects are there. (Written by wip/gen/gen11.py from wip/gen/Lc11.body.) -/
import Derived.Test.YtcgfknpobifecaaGreatLa07m
namespace Go.Proofs.YtcgfknpobifecaaGreat
open Go.RowKit

def leftG : Code → Option Nat
  | .seq a _ => leftG a
  | .region n _ _ => some n
  | _ => none
def findG (n : Nat) : Code → Option Code
  | .seq a b => if leftG a = some n then some (.seq a b) else match findG n a with
    | some c => some c
    | none => findG n b
  | .block _ c => findG n c
  | .loop c => findG n c
  | .scope c => findG n c
  | .cond _ a b => match findG n a with
    | some c => some c
    | none => findG n b
  | _ => none
noncomputable def part33 : Code := (Tryz.f3.body.bind (findG 33)).getD .skip
noncomputable def part35 : Code := (Tryz.f3.body.bind (findG 35)).getD .skip
def fstC : Code → Code
  | .seq a _ => a
  | c => c
noncomputable def stat33 : Code := fstC part33
set_option maxRecDepth 1000000 in
set_option maxHeartbeats 6400000 in
theorem law11_endC2 {L : List KObj} {wr : World} {m : MemS} {n base room k pb : Nat} {chs : Nat → List Int} {want : List Pk} {wv : Value} {key val : ByteArray} (hR : R L wr) (hm : L[1]? = some (MemK m)) (hw : L[2]? = some (PairsK wv want)) (hx : L[3]? = some (StK pb #[.string key, .string val] 40))
    (hM : MapM m n base chs want) (_hks : ∀ p ∈ want, p.key.size ≤ 9223372036854775807) (hky : key.size ≤ 9223372036854775807) (_hn : n ≤ 65536) (hroom : m.ss.length = room) (hr50 : room ≤ 50) (h2 : m.workers = 2) (hi0 : m.cells.getD 2 0 = 0)
    (c0 c1 c2 c3 c4 c5 c6 c7 c8 c11 c12 c16 c17 c18 c19 c20 c21 c22 c23 c24 c25 c26 c27 c28 c29 c30 c31 c32 c33 c34 c35 c36 c37 c38 c39 c40 c41 c42 c43 c44 c45 c46 c47 c48 c49 c50 c51 c52 c53 c54 c55 c56 c57 c58 c59 c60 c61 c62 c63 c64 c65 c66 c67 c68 c69 c70 c71 c72 c73 c74 c75 c76 c77 c78 c79 c80 c81 c82 c83 c84 c85 c86 c87 c88 c89 c90 c91 c92 c93 c94 c95 c96 c97 c98 c99 c100 c101 c102 c103 c104 c105 c106 c107 c108 c109 c110 c111 c112 c113 c114 c115 c116 c117 c118 c119 c120 c121 c122 c123 c124 c125 c126 c127 c128 c129 c130 c131 c132 c133 c134 c135 c136 c137 c138 c139 c140 c141 c142 c143 c144 c145 c146 c147 c148 c149 c150 c151 c152 c153 c154 c155 c156 c157 c158 c159 c160 c161 c162 c163 c164 c165 c166 c167 c168 c169 c170 c171 c172 c173 c174 c175 c176 c177 c178 c179 c180 c181 c182 c183 c184 c185 c186 c187 c188 c189 c190 c191 c192 c193 c194 c195 c196 c197 c198 c199 c200 c201 c202 c203 c204 c205 c206 c207 c208 c209 c210 c211 c212 c213 c214 c215 c216 c217 c218 c219 c220 c221 c222 c223 c224 c225 c226 c227 c228 c229 c230 c231 c232 c233 c234 c235 c236 c237 c238 c239 c240 c241 c242 c243 c244 c245 c246 c247 c248 c249 c250 c251 c252 c253 c254 c255 c256 c257 c258 c259 c260 c261 c262 c263 c264 c265 c266 c267 c268 c269 c270 c271 : Value) {P : Exit → Act → World → Prop}
    (hP : ∀ (d23 d24 d25 d26 d27 d225 d226 d227 d228 d229 d230 d231 d232 d233 d234 d235 d236 d237 d238 d239 d240 d241 d242 d243 d244 d245 d246 d247 d248 d249 d250 d251 d252 d253 : Value) (w' : World), R L w' → P .normal ⟨#[c0, c1, c2, c3, c4, c5, c6, c7, c8, .int .i64 room, .pointer (some ⟨m.b, 0, none⟩), c11, c12, wv, .int .i64 k, .pointer (some ⟨pb, 0, none⟩), c16, c17, c18, c19, c20, c21, c22, d23, d24, d25, d26, d27, c28, c29, c30, c31, c32, c33, c34, c35, c36, c37, c38, c39, c40, c41, c42, c43, c44, c45, c46, c47, c48, c49, c50, c51, c52, c53, c54, c55, c56, c57, c58, c59, c60, c61, c62, c63, c64, c65, c66, c67, c68, c69, c70, c71, c72, c73, c74, c75, c76, c77, c78, c79, c80, c81, c82, c83, c84, c85, c86, c87, c88, c89, c90, c91, c92, c93, c94, c95, c96, c97, c98, c99, c100, c101, c102, c103, c104, c105, c106, c107, c108, c109, c110, c111, c112, c113, c114, c115, c116, c117, c118, c119, c120, c121, c122, c123, c124, c125, c126, c127, c128, c129, c130, c131, c132, c133, c134, c135, c136, c137, c138, c139, c140, c141, c142, c143, c144, c145, c146, c147, c148, c149, c150, c151, c152, c153, c154, c155, c156, c157, c158, c159, c160, c161, c162, c163, c164, c165, c166, c167, c168, c169, c170, c171, c172, c173, c174, c175, c176, c177, c178, c179, c180, c181, c182, c183, c184, c185, c186, c187, c188, c189, c190, c191, c192, c193, c194, c195, c196, c197, c198, c199, c200, c201, c202, c203, c204, c205, c206, c207, c208, c209, c210, c211, c212, c213, c214, c215, c216, c217, c218, c219, c220, c221, c222, c223, c224, d225, d226, d227, d228, d229, d230, d231, d232, d233, d234, d235, d236, d237, d238, d239, d240, d241, d242, d243, d244, d245, d246, d247, d248, d249, d250, d251, d252, d253, c254, c255, c256, c257, c258, c259, c260, c261, c262, c263, c264, c265, c266, c267, c268, c269, c270, c271], []⟩ w') :
    Code.wp Tryz.prog part35 P ⟨#[c0, c1, c2, c3, c4, c5, c6, c7, c8, .int .i64 room, .pointer (some ⟨m.b, 0, none⟩), c11, c12, wv, .int .i64 k, .pointer (some ⟨pb, 0, none⟩), c16, c17, c18, c19, c20, c21, c22, c23, c24, c25, c26, c27, c28, c29, c30, c31, c32, c33, c34, c35, c36, c37, c38, c39, c40, c41, c42, c43, c44, c45, c46, c47, c48, c49, c50, c51, c52, c53, c54, c55, c56, c57, c58, c59, c60, c61, c62, c63, c64, c65, c66, c67, c68, c69, c70, c71, c72, c73, c74, c75, c76, c77, c78, c79, c80, c81, c82, c83, c84, c85, c86, c87, c88, c89, c90, c91, c92, c93, c94, c95, c96, c97, c98, c99, c100, c101, c102, c103, c104, c105, c106, c107, c108, c109, c110, c111, c112, c113, c114, c115, c116, c117, c118, c119, c120, c121, c122, c123, c124, c125, c126, c127, c128, c129, c130, c131, c132, c133, c134, c135, c136, c137, c138, c139, c140, c141, c142, c143, c144, c145, c146, c147, c148, c149, c150, c151, c152, c153, c154, c155, c156, c157, c158, c159, c160, c161, c162, c163, c164, c165, c166, c167, c168, c169, c170, c171, c172, c173, c174, c175, c176, c177, c178, c179, c180, c181, c182, c183, c184, c185, c186, c187, c188, c189, c190, c191, c192, c193, c194, c195, c196, c197, c198, c199, c200, c201, c202, c203, c204, c205, c206, c207, c208, c209, c210, c211, c212, c213, c214, c215, c216, c217, c218, c219, c220, c221, c222, c223, c224, c225, c226, c227, c228, c229, c230, c231, c232, c233, c234, c235, c236, c237, c238, c239, c240, c241, c242, c243, c244, c245, c246, c247, c248, c249, c250, c251, c252, c253, c254, c255, c256, c257, c258, c259, c260, c261, c262, c263, c264, c265, c266, c267, c268, c269, c270, c271], []⟩ wr := by
  obtain ⟨⟨wa, wc, rfl⟩, _⟩ := hR.slVal hw
  obtain ⟨N, s', hgr, hgv⟩ := hM.getRun (by omega) hi0 key
  replace hP := hide hP
  replace hgr := hide hgr
  replace hgv := hide hgv
  have hx3 := hR.st hx
  have hgn := hide (get_new hR 0 key)
  clear hR
  conv => arg 2; whnf
  go_wp2_with fail
  refine hgn.out.mono ?_
  rintro e w4 ⟨gb, rfl, h4⟩
  dsimp only
  have hfin := fin_R getK h4 (app_get hm) (u := L.length) app_last (by have := lt_of_get hm; omega) (GetOk.start m 0 key (by omega) hky) 100 (by decide) hgr.out
  rw [set_same (app_get hm), List.set_append_right _ _ (Nat.le_refl _), Nat.sub_self, List.set_cons_zero] at hfin
  replace hfin := hide hfin
  clear hgn h4 hx3
  go_wp2_with fail
  refine hfin.out.mono ?_
  rintro e w5 ⟨rfl, h5⟩
  dsimp only
  have hvl := hide (get_val h5 app_last)
  rw [hgv.out] at hvl
  clear hfin h5
  go_wp2_with fail
  refine hvl.out.mono ?_
  rintro e w6 ⟨rfl, h6⟩
  dsimp only
  have hx6 := h6.st (app_get hx)
  have hrg := hide (ref10_get (R.frAt (f := pk10) (fun _ => rfl) h6 (app_get hw)) key)
  have hfin := hide h6.left
  clear hvl h6
  go_wp2_with fail
  refine hrg.out.mono ?_
  rintro e w7 ⟨rfl, rfl⟩
  dsimp only
  clear hrg
  go_wp2_with fail
  apply hP.out
  exact hfin.out
set_option maxRecDepth 1000000 in
set_option maxHeartbeats 6400000 in
theorem law11_endC1 {L : List KObj} {wr : World} {m : MemS} {n base room k pb : Nat} {chs : Nat → List Int} {want : List Pk} {wv : Value} {key val : ByteArray} (hR : R L wr) (hm : L[1]? = some (MemK m)) (hw : L[2]? = some (PairsK wv want)) (_hx : L[3]? = some (StK pb #[.string key, .string val] 40))
    (hM : MapM m n base chs want) (hks : ∀ p ∈ want, p.key.size ≤ 9223372036854775807) (_hky : key.size ≤ 9223372036854775807) (hn : n ≤ 65536) (hroom : m.ss.length = room) (hr50 : room ≤ 50) (h2 : m.workers = 2) (_hi0 : m.cells.getD 2 0 = 0)
    (c0 c1 c2 c3 c4 c5 c6 c7 c8 c11 c12 c16 c17 c18 c19 c20 c21 c22 c23 c24 c25 c26 c27 c28 c29 c30 c31 c32 c33 c34 c35 c36 c37 c38 c39 c40 c41 c42 c43 c44 c45 c46 c47 c48 c49 c50 c51 c52 c53 c54 c55 c56 c57 c58 c59 c60 c61 c62 c63 c64 c65 c66 c67 c68 c69 c70 c71 c72 c73 c74 c75 c76 c77 c78 c79 c80 c81 c82 c83 c84 c85 c86 c87 c88 c89 c90 c91 c92 c93 c94 c95 c96 c97 c98 c99 c100 c101 c102 c103 c104 c105 c106 c107 c108 c109 c110 c111 c112 c113 c114 c115 c116 c117 c118 c119 c120 c121 c122 c123 c124 c125 c126 c127 c128 c129 c130 c131 c132 c133 c134 c135 c136 c137 c138 c139 c140 c141 c142 c143 c144 c145 c146 c147 c148 c149 c150 c151 c152 c153 c154 c155 c156 c157 c158 c159 c160 c161 c162 c163 c164 c165 c166 c167 c168 c169 c170 c171 c172 c173 c174 c175 c176 c177 c178 c179 c180 c181 c182 c183 c184 c185 c186 c187 c188 c189 c190 c191 c192 c193 c194 c195 c196 c197 c198 c199 c200 c201 c202 c203 c204 c205 c206 c207 c208 c209 c210 c211 c212 c213 c214 c215 c216 c217 c218 c219 c220 c221 c222 c223 c224 c225 c226 c227 c228 c229 c230 c231 c232 c233 c234 c235 c236 c237 c238 c239 c240 c241 c242 c243 c244 c245 c246 c247 c248 c249 c250 c251 c252 c253 c254 c255 c256 c257 c258 c259 c260 c261 c262 c263 c264 c265 c266 c267 c268 c269 c270 c271 : Value) {P : Exit → Act → World → Prop}
    (hP : ∀ (d188 d189 d190 d191 d192 d193 d194 d195 d196 d197 d198 d199 d200 d201 d202 d203 d204 d205 d206 d207 d208 d209 d210 d211 d212 d213 d214 d215 d216 d217 d218 d219 d220 d221 d222 d223 d224 : Value) (w' : World), R L w' → P .normal ⟨#[c0, c1, c2, c3, c4, c5, c6, c7, c8, .int .i64 room, .pointer (some ⟨m.b, 0, none⟩), c11, c12, wv, .int .i64 k, .pointer (some ⟨pb, 0, none⟩), c16, c17, c18, c19, c20, c21, c22, c23, c24, c25, c26, c27, c28, c29, c30, c31, c32, c33, c34, c35, c36, c37, c38, c39, c40, c41, c42, c43, c44, c45, c46, c47, c48, c49, c50, c51, c52, c53, c54, c55, c56, c57, c58, c59, c60, c61, c62, c63, c64, c65, c66, c67, c68, c69, c70, c71, c72, c73, c74, c75, c76, c77, c78, c79, c80, c81, c82, c83, c84, c85, c86, c87, c88, c89, c90, c91, c92, c93, c94, c95, c96, c97, c98, c99, c100, c101, c102, c103, c104, c105, c106, c107, c108, c109, c110, c111, c112, c113, c114, c115, c116, c117, c118, c119, c120, c121, c122, c123, c124, c125, c126, c127, c128, c129, c130, c131, c132, c133, c134, c135, c136, c137, c138, c139, c140, c141, c142, c143, c144, c145, c146, c147, c148, c149, c150, c151, c152, c153, c154, c155, c156, c157, c158, c159, c160, c161, c162, c163, c164, c165, c166, c167, c168, c169, c170, c171, c172, c173, c174, c175, c176, c177, c178, c179, c180, c181, c182, c183, c184, c185, c186, c187, d188, d189, d190, d191, d192, d193, d194, d195, d196, d197, d198, d199, d200, d201, d202, d203, d204, d205, d206, d207, d208, d209, d210, d211, d212, d213, d214, d215, d216, d217, d218, d219, d220, d221, d222, d223, d224, c225, c226, c227, c228, c229, c230, c231, c232, c233, c234, c235, c236, c237, c238, c239, c240, c241, c242, c243, c244, c245, c246, c247, c248, c249, c250, c251, c252, c253, c254, c255, c256, c257, c258, c259, c260, c261, c262, c263, c264, c265, c266, c267, c268, c269, c270, c271], []⟩ w') :
    Code.wp Tryz.prog stat33 P ⟨#[c0, c1, c2, c3, c4, c5, c6, c7, c8, .int .i64 room, .pointer (some ⟨m.b, 0, none⟩), c11, c12, wv, .int .i64 k, .pointer (some ⟨pb, 0, none⟩), c16, c17, c18, c19, c20, c21, c22, c23, c24, c25, c26, c27, c28, c29, c30, c31, c32, c33, c34, c35, c36, c37, c38, c39, c40, c41, c42, c43, c44, c45, c46, c47, c48, c49, c50, c51, c52, c53, c54, c55, c56, c57, c58, c59, c60, c61, c62, c63, c64, c65, c66, c67, c68, c69, c70, c71, c72, c73, c74, c75, c76, c77, c78, c79, c80, c81, c82, c83, c84, c85, c86, c87, c88, c89, c90, c91, c92, c93, c94, c95, c96, c97, c98, c99, c100, c101, c102, c103, c104, c105, c106, c107, c108, c109, c110, c111, c112, c113, c114, c115, c116, c117, c118, c119, c120, c121, c122, c123, c124, c125, c126, c127, c128, c129, c130, c131, c132, c133, c134, c135, c136, c137, c138, c139, c140, c141, c142, c143, c144, c145, c146, c147, c148, c149, c150, c151, c152, c153, c154, c155, c156, c157, c158, c159, c160, c161, c162, c163, c164, c165, c166, c167, c168, c169, c170, c171, c172, c173, c174, c175, c176, c177, c178, c179, c180, c181, c182, c183, c184, c185, c186, c187, c188, c189, c190, c191, c192, c193, c194, c195, c196, c197, c198, c199, c200, c201, c202, c203, c204, c205, c206, c207, c208, c209, c210, c211, c212, c213, c214, c215, c216, c217, c218, c219, c220, c221, c222, c223, c224, c225, c226, c227, c228, c229, c230, c231, c232, c233, c234, c235, c236, c237, c238, c239, c240, c241, c242, c243, c244, c245, c246, c247, c248, c249, c250, c251, c252, c253, c254, c255, c256, c257, c258, c259, c260, c261, c262, c263, c264, c265, c266, c267, c268, c269, c270, c271], []⟩ wr := by
  obtain ⟨⟨wa, wc, rfl⟩, _⟩ := hR.slVal hw
  have hhd := hide (law11_holds hR hm hw hM hks hn)
  have hsp := hM.spare
  have hlks := hM.locks
  have hflt := hM.fault
  obtain ⟨fr, hfr⟩ : ∃ fr, (freeTo m.ss m.ss.length).length = fr := ⟨_, rfl⟩
  rw [hfr, hroom] at hsp
  obtain ⟨S, hS⟩ : ∃ S : Int, (fr : Int) + (want.length : Int) = S := ⟨_, rfl⟩
  have e1 : IntKind.i64.wrap ((fr : Int) + (want.length : Int)) = S := by rw [IntKind.wrap_i64]; omega
  have e2 : IntKind.i64.wrap (S + (m.waiting.length : Int)) = (room : Int) := by rw [IntKind.wrap_i64]; omega
  have e3 : ((room : Int) != (room : Int)) = false := by simp
  obtain ⟨u, hu⟩ : ∃ u, (k : Int).tmod 2 = u := ⟨_, rfl⟩
  have e4 : 0 ≤ u := by rw [← hu, Int.tmod_eq_emod_of_nonneg (by omega)]; omega
  replace hP := hide hP
  replace hfr := hide hfr
  replace hS := hide hS
  clear hR hsp
  conv => arg 2; whnf
  go_wp2_with fail
  refine hhd.out.mono ?_
  rintro e w2 ⟨rfl, h2⟩
  dsimp only
  obtain ⟨tv, wv2, hhm⟩ := h2.memHdr hm
  have hft := memR_fault h2 hm
  rw [hflt] at hft
  have hs1 := memR_spare h2 hm
  rw [hfr.out] at hs1
  have hwt := mem_waiting h2 hm
  have hhe := memR_held h2 hm u
  rw [hlks, List.length_replicate, held_none u e4] at hhe
  replace h2 := hide h2
  replace hft := hide hft
  replace hs1 := hide hs1
  replace hwt := hide hwt
  replace hhe := hide hhe
  clear hhd hflt hlks
  go_wp2_with fail
  refine hft.out.mono ?_
  rintro e w3 ⟨rfl, rfl⟩
  dsimp only
  go_wp2_with fail
  refine hs1.out.mono ?_
  rintro e w3 ⟨rfl, rfl⟩
  dsimp only
  go_wp2_with fail
  refine hwt.out.mono ?_
  rintro e w3 ⟨rfl, rfl⟩
  dsimp only
  go_wp2_with fail
  refine hhe.out.mono ?_
  rintro e w3 ⟨ha, hc, rfl, h3⟩
  dsimp only
  replace h3 := hide h3
  clear h2 hft hs1 hwt hhe hhm
  go_wp2_with fail
  apply hP.out
  exact h3.out
set_option maxRecDepth 1000000 in
set_option maxHeartbeats 6400000 in
theorem law11_endC {L : List KObj} {wr : World} {m : MemS} {n base room k pb : Nat} {chs : Nat → List Int} {want : List Pk} {wv : Value} {key val : ByteArray} (hR : R L wr) (hm : L[1]? = some (MemK m)) (hw : L[2]? = some (PairsK wv want)) (hx : L[3]? = some (StK pb #[.string key, .string val] 40))
    (hM : MapM m n base chs want) (hks : ∀ p ∈ want, p.key.size ≤ 9223372036854775807) (hky : key.size ≤ 9223372036854775807) (hn : n ≤ 65536) (hroom : m.ss.length = room) (hr50 : room ≤ 50) (h2 : m.workers = 2) (hi0 : m.cells.getD 2 0 = 0)
    (c0 c1 c2 c3 c4 c5 c6 c7 c8 c11 c12 c16 c17 c18 c19 c20 c21 c22 c23 c24 c25 c26 c27 c28 c29 c30 c31 c32 c33 c34 c35 c36 c37 c38 c39 c40 c41 c42 c43 c44 c45 c46 c47 c48 c49 c50 c51 c52 c53 c54 c55 c56 c57 c58 c59 c60 c61 c62 c63 c64 c65 c66 c67 c68 c69 c70 c71 c72 c73 c74 c75 c76 c77 c78 c79 c80 c81 c82 c83 c84 c85 c86 c87 c88 c89 c90 c91 c92 c93 c94 c95 c96 c97 c98 c99 c100 c101 c102 c103 c104 c105 c106 c107 c108 c109 c110 c111 c112 c113 c114 c115 c116 c117 c118 c119 c120 c121 c122 c123 c124 c125 c126 c127 c128 c129 c130 c131 c132 c133 c134 c135 c136 c137 c138 c139 c140 c141 c142 c143 c144 c145 c146 c147 c148 c149 c150 c151 c152 c153 c154 c155 c156 c157 c158 c159 c160 c161 c162 c163 c164 c165 c166 c167 c168 c169 c170 c171 c172 c173 c174 c175 c176 c177 c178 c179 c180 c181 c182 c183 c184 c185 c186 c187 c188 c189 c190 c191 c192 c193 c194 c195 c196 c197 c198 c199 c200 c201 c202 c203 c204 c205 c206 c207 c208 c209 c210 c211 c212 c213 c214 c215 c216 c217 c218 c219 c220 c221 c222 c223 c224 c225 c226 c227 c228 c229 c230 c231 c232 c233 c234 c235 c236 c237 c238 c239 c240 c241 c242 c243 c244 c245 c246 c247 c248 c249 c250 c251 c252 c253 c254 c255 c256 c257 c258 c259 c260 c261 c262 c263 c264 c265 c266 c267 c268 c269 c270 c271 : Value) {P : Exit → Act → World → Prop}
    (hP : ∀ (d23 d24 d25 d26 d27 d188 d189 d190 d191 d192 d193 d194 d195 d196 d197 d198 d199 d200 d201 d202 d203 d204 d205 d206 d207 d208 d209 d210 d211 d212 d213 d214 d215 d216 d217 d218 d219 d220 d221 d222 d223 d224 d225 d226 d227 d228 d229 d230 d231 d232 d233 d234 d235 d236 d237 d238 d239 d240 d241 d242 d243 d244 d245 d246 d247 d248 d249 d250 d251 d252 d253 : Value) (w' : World), R L w' → P .normal ⟨#[c0, c1, c2, c3, c4, c5, c6, c7, c8, .int .i64 room, .pointer (some ⟨m.b, 0, none⟩), c11, c12, wv, .int .i64 k, .pointer (some ⟨pb, 0, none⟩), c16, c17, c18, c19, c20, c21, c22, d23, d24, d25, d26, d27, c28, c29, c30, c31, c32, c33, c34, c35, c36, c37, c38, c39, c40, c41, c42, c43, c44, c45, c46, c47, c48, c49, c50, c51, c52, c53, c54, c55, c56, c57, c58, c59, c60, c61, c62, c63, c64, c65, c66, c67, c68, c69, c70, c71, c72, c73, c74, c75, c76, c77, c78, c79, c80, c81, c82, c83, c84, c85, c86, c87, c88, c89, c90, c91, c92, c93, c94, c95, c96, c97, c98, c99, c100, c101, c102, c103, c104, c105, c106, c107, c108, c109, c110, c111, c112, c113, c114, c115, c116, c117, c118, c119, c120, c121, c122, c123, c124, c125, c126, c127, c128, c129, c130, c131, c132, c133, c134, c135, c136, c137, c138, c139, c140, c141, c142, c143, c144, c145, c146, c147, c148, c149, c150, c151, c152, c153, c154, c155, c156, c157, c158, c159, c160, c161, c162, c163, c164, c165, c166, c167, c168, c169, c170, c171, c172, c173, c174, c175, c176, c177, c178, c179, c180, c181, c182, c183, c184, c185, c186, c187, d188, d189, d190, d191, d192, d193, d194, d195, d196, d197, d198, d199, d200, d201, d202, d203, d204, d205, d206, d207, d208, d209, d210, d211, d212, d213, d214, d215, d216, d217, d218, d219, d220, d221, d222, d223, d224, d225, d226, d227, d228, d229, d230, d231, d232, d233, d234, d235, d236, d237, d238, d239, d240, d241, d242, d243, d244, d245, d246, d247, d248, d249, d250, d251, d252, d253, c254, c255, c256, c257, c258, c259, c260, c261, c262, c263, c264, c265, c266, c267, c268, c269, c270, c271], []⟩ w') :
    Code.wp Tryz.prog part33 P ⟨#[c0, c1, c2, c3, c4, c5, c6, c7, c8, .int .i64 room, .pointer (some ⟨m.b, 0, none⟩), c11, c12, wv, .int .i64 k, .pointer (some ⟨pb, 0, none⟩), c16, c17, c18, c19, c20, c21, c22, c23, c24, c25, c26, c27, c28, c29, c30, c31, c32, c33, c34, c35, c36, c37, c38, c39, c40, c41, c42, c43, c44, c45, c46, c47, c48, c49, c50, c51, c52, c53, c54, c55, c56, c57, c58, c59, c60, c61, c62, c63, c64, c65, c66, c67, c68, c69, c70, c71, c72, c73, c74, c75, c76, c77, c78, c79, c80, c81, c82, c83, c84, c85, c86, c87, c88, c89, c90, c91, c92, c93, c94, c95, c96, c97, c98, c99, c100, c101, c102, c103, c104, c105, c106, c107, c108, c109, c110, c111, c112, c113, c114, c115, c116, c117, c118, c119, c120, c121, c122, c123, c124, c125, c126, c127, c128, c129, c130, c131, c132, c133, c134, c135, c136, c137, c138, c139, c140, c141, c142, c143, c144, c145, c146, c147, c148, c149, c150, c151, c152, c153, c154, c155, c156, c157, c158, c159, c160, c161, c162, c163, c164, c165, c166, c167, c168, c169, c170, c171, c172, c173, c174, c175, c176, c177, c178, c179, c180, c181, c182, c183, c184, c185, c186, c187, c188, c189, c190, c191, c192, c193, c194, c195, c196, c197, c198, c199, c200, c201, c202, c203, c204, c205, c206, c207, c208, c209, c210, c211, c212, c213, c214, c215, c216, c217, c218, c219, c220, c221, c222, c223, c224, c225, c226, c227, c228, c229, c230, c231, c232, c233, c234, c235, c236, c237, c238, c239, c240, c241, c242, c243, c244, c245, c246, c247, c248, c249, c250, c251, c252, c253, c254, c255, c256, c257, c258, c259, c260, c261, c262, c263, c264, c265, c266, c267, c268, c269, c270, c271], []⟩ wr := by
  have e : part33 = .seq stat33 part35 := by kernel_rfl
  rw [e]
  refine wp_seq (law11_endC1 hR hm hw hx hM hks hky hn hroom hr50 h2 hi0 _ _ _ _ _ _ _ _ _ _ _ _ _ _ _ _ _ _ _ _ _ _ _ _ _ _ _ _ _ _ _ _ _ _ _ _ _ _ _ _ _ _ _ _ _ _ _ _ _ _ _ _ _ _ _ _ _ _ _ _ _ _ _ _ _ _ _ _ _ _ _ _ _ _ _ _ _ _ _ _ _ _ _ _ _ _ _ _ _ _ _ _ _ _ _ _ _ _ _ _ _ _ _ _ _ _ _ _ _ _ _ _ _ _ _ _ _ _ _ _ _ _ _ _ _ _ _ _ _ _ _ _ _ _ _ _ _ _ _ _ _ _ _ _ _ _ _ _ _ _ _ _ _ _ _ _ _ _ _ _ _ _ _ _ _ _ _ _ _ _ _ _ _ _ _ _ _ _ _ _ _ _ _ _ _ _ _ _ _ _ _ _ _ _ _ _ _ _ _ _ _ _ _ _ _ _ _ _ _ _ _ _ _ _ _ _ _ _ _ _ _ _ _ _ _ _ _ _ _ _ _ _ _ _ _ _ _ _ _ _ _ _ _ _ _ _ _ _ _ _ _ _ _ _ _ _ _ _ _ _ _ _ _ _ _ _ _ ?_)
  intro d188 d189 d190 d191 d192 d193 d194 d195 d196 d197 d198 d199 d200 d201 d202 d203 d204 d205 d206 d207 d208 d209 d210 d211 d212 d213 d214 d215 d216 d217 d218 d219 d220 d221 d222 d223 d224 w' hw'
  refine law11_endC2 hw' hm hw hx hM hks hky hn hroom hr50 h2 hi0 _ _ _ _ _ _ _ _ _ _ _ _ _ _ _ _ _ _ _ _ _ _ _ _ _ _ _ _ _ _ _ _ _ _ _ _ _ _ _ _ _ _ _ _ _ _ _ _ _ _ _ _ _ _ _ _ _ _ _ _ _ _ _ _ _ _ _ _ _ _ _ _ _ _ _ _ _ _ _ _ _ _ _ _ _ _ _ _ _ _ _ _ _ _ _ _ _ _ _ _ _ _ _ _ _ _ _ _ _ _ _ _ _ _ _ _ _ _ _ _ _ _ _ _ _ _ _ _ _ _ _ _ _ _ _ _ _ _ _ _ _ _ _ _ _ _ _ _ _ _ _ _ _ _ _ _ _ _ _ _ _ _ _ _ _ _ _ _ _ _ _ _ _ _ _ _ _ _ _ _ _ _ _ _ _ _ _ _ _ _ _ _ _ _ _ _ _ _ _ _ _ _ _ _ _ _ _ _ _ _ _ _ _ _ _ _ _ _ _ _ _ _ _ _ _ _ _ _ _ _ _ _ _ _ _ _ _ _ _ _ _ _ _ _ _ _ _ _ _ _ _ _ _ _ _ _ _ _ _ _ _ _ _ _ _ _ _ ?_
  intro d23 d24 d25 d26 d27 d225 d226 d227 d228 d229 d230 d231 d232 d233 d234 d235 d236 d237 d238 d239 d240 d241 d242 d243 d244 d245 d246 d247 d248 d249 d250 d251 d252 d253 w'' hw''
  exact hP d23 d24 d25 d26 d27 d188 d189 d190 d191 d192 d193 d194 d195 d196 d197 d198 d199 d200 d201 d202 d203 d204 d205 d206 d207 d208 d209 d210 d211 d212 d213 d214 d215 d216 d217 d218 d219 d220 d221 d222 d223 d224 d225 d226 d227 d228 d229 d230 d231 d232 d233 d234 d235 d236 d237 d238 d239 d240 d241 d242 d243 d244 d245 d246 d247 d248 d249 d250 d251 d252 d253 w'' hw''
end Go.Proofs.YtcgfknpobifecaaGreat
