/- quietuslaw11: PutPlays: a round's put, regions 18 to 26. Condition: its objects are there. (Written by wip/gen/gen11.py from wip/gen/Ld11.body, which mk_Ld11.py wrote.) quietuslaw11: PutPlays: what a put answered, and the pairs behind it, regions 27 to 32. Condition: its objects are there. (Written by wip/gen/gen11.py from wip/gen/Le11.body, which mk_Le11.py wrote.) -/
import Derived.Test.YtcgfknpobifecaaGreatLc11
namespace Go.Proofs.YtcgfknpobifecaaGreat
open Go.RowKit

noncomputable def part18 : Code := (Tryz.f3.body.bind (findG 18)).getD .skip
noncomputable def part27 : Code := (Tryz.f3.body.bind (findG 27)).getD .skip
theorem refGet_had {want : List Pk} (key : ByteArray) : (refGet key want).2 = true ↔ key ∈ want.map Pk.key := by
  induction want with
  | nil => simp [refGet]
  | cons p r ih =>
    rw [refGet, List.map_cons, List.mem_cons]
    by_cases h : p.key = key
    · rw [if_pos h]; simp [h]
    · rw [if_neg h, ih]
      constructor
      · exact .inr
      · rintro (e | e)
        · exact absurd e.symm h
        · exact e
set_option maxRecDepth 1000000 in
set_option maxHeartbeats 6400000 in
theorem law11_putB {L : List KObj} {wr : World} {m : MemS} {n base room k pb : Nat} {chs : Nat → List Int} {want : List Pk} {wv : Value} {key val : ByteArray} (hR : R L wr) (hm : L[1]? = some (MemK m)) (hw : L[2]? = some (PairsK wv want)) (hx : L[3]? = some (StK pb #[.string key, .string val] 40))
    (hM : MapM m n base chs want) (hky : key.size ≤ 9223372036854775807) (hroom : m.ss.length = room) (hr50 : room ≤ 50) (hk50 : k ≤ 50) (hwt : m.waiting.length ≤ 100) (hgn : m.gen ≤ 10000)
    (c0 c1 c2 c3 c4 c5 c6 c7 c8 c11 c12 c16 c17 c18 c19 c20 c21 c22 c23 c24 c25 c26 c27 c28 c29 c30 c31 c32 c33 c34 c35 c36 c37 c38 c39 c40 c41 c42 c43 c44 c45 c46 c47 c48 c49 c50 c51 c52 c53 c54 c55 c56 c57 c58 c59 c60 c61 c62 c63 c64 c65 c66 c67 c68 c69 c70 c71 c72 c73 c74 c75 c76 c77 c78 c79 c80 c81 c82 c83 c84 c85 c86 c87 c88 c89 c90 c91 c92 c93 c94 c95 c96 c97 c98 c99 c100 c101 c102 c103 c104 c105 c106 c107 c108 c109 c110 c111 c112 c113 c114 c115 c116 c117 c118 c119 c120 c121 c122 c123 c124 c125 c126 c127 c128 c129 c130 c131 c132 c133 c134 c135 c136 c137 c138 c139 c140 c141 c142 c143 c144 c145 c146 c147 c148 c149 c150 c151 c152 c153 c154 c155 c156 c157 c158 c159 c160 c161 c162 c163 c164 c165 c166 c167 c168 c169 c170 c171 c172 c173 c174 c175 c176 c177 c178 c179 c180 c181 c182 c183 c184 c185 c186 c187 c188 c189 c190 c191 c192 c193 c194 c195 c196 c197 c198 c199 c200 c201 c202 c203 c204 c205 c206 c207 c208 c209 c210 c211 c212 c213 c214 c215 c216 c217 c218 c219 c220 c221 c222 c223 c224 c225 c226 c227 c228 c229 c230 c231 c232 c233 c234 c235 c236 c237 c238 c239 c240 c241 c242 c243 c244 c245 c246 c247 c248 c249 c250 c251 c252 c253 c254 c255 c256 c257 c258 c259 c260 c261 c262 c263 c264 c265 c266 c267 c268 c269 c270 c271 : Value) {P : Exit → Act → World → Prop}
    (hP : ∀ (d16 d21 d22 d96 d97 d98 d99 d100 d101 d102 d103 d104 d105 d106 d107 d108 d109 d110 d111 d112 d113 d114 d115 d116 d117 d118 d119 d120 d121 d122 d123 d124 d125 d126 d127 d128 d129 d130 d131 d132 d133 d134 d135 d136 d137 d138 d139 d140 d141 d142 d143 d144 d145 d146 d147 d148 : Value) (b20 : Nat) (fu : Bool) (m' : MemS) (s' : PutS) (w' : World), fu = decide (freeAt m.ss = none) → PutPost m n base want key val m' s' → R (L.set 1 (MemK m') ++ [PutK b20 s']) w' → Code.wp Tryz.prog part27 P ⟨#[c0, c1, c2, c3, c4, c5, c6, c7, c8, .int .i64 room, .pointer (some ⟨m.b, 0, none⟩), c11, c12, wv, .int .i64 k, .pointer (some ⟨pb, 0, none⟩), d16, .bool (refGet key want).2, .bool fu, .int .i64 m.waiting.length, .pointer (some ⟨b20, 0, none⟩), d21, d22, c23, c24, c25, c26, c27, c28, c29, c30, c31, c32, c33, c34, c35, c36, c37, c38, c39, c40, c41, c42, c43, c44, c45, c46, c47, c48, c49, c50, c51, c52, c53, c54, c55, c56, c57, c58, c59, c60, c61, c62, c63, c64, c65, c66, c67, c68, c69, c70, c71, c72, c73, c74, c75, c76, c77, c78, c79, c80, c81, c82, c83, c84, c85, c86, c87, c88, c89, c90, c91, c92, c93, c94, c95, d96, d97, d98, d99, d100, d101, d102, d103, d104, d105, d106, d107, d108, d109, d110, d111, d112, d113, d114, d115, d116, d117, d118, d119, d120, d121, d122, d123, d124, d125, d126, d127, d128, d129, d130, d131, d132, d133, d134, d135, d136, d137, d138, d139, d140, d141, d142, d143, d144, d145, d146, d147, d148, c149, c150, c151, c152, c153, c154, c155, c156, c157, c158, c159, c160, c161, c162, c163, c164, c165, c166, c167, c168, c169, c170, c171, c172, c173, c174, c175, c176, c177, c178, c179, c180, c181, c182, c183, c184, c185, c186, c187, c188, c189, c190, c191, c192, c193, c194, c195, c196, c197, c198, c199, c200, c201, c202, c203, c204, c205, c206, c207, c208, c209, c210, c211, c212, c213, c214, c215, c216, c217, c218, c219, c220, c221, c222, c223, c224, c225, c226, c227, c228, c229, c230, c231, c232, c233, c234, c235, c236, c237, c238, c239, c240, c241, c242, c243, c244, c245, c246, c247, c248, c249, c250, c251, c252, c253, c254, c255, c256, c257, c258, c259, c260, c261, c262, c263, c264, c265, c266, c267, c268, c269, c270, c271], []⟩ w') :
    Code.wp Tryz.prog part18 P ⟨#[c0, c1, c2, c3, c4, c5, c6, c7, c8, .int .i64 room, .pointer (some ⟨m.b, 0, none⟩), c11, c12, wv, .int .i64 k, .pointer (some ⟨pb, 0, none⟩), c16, c17, c18, c19, c20, c21, c22, c23, c24, c25, c26, c27, c28, c29, c30, c31, c32, c33, c34, c35, c36, c37, c38, c39, c40, c41, c42, c43, c44, c45, c46, c47, c48, c49, c50, c51, c52, c53, c54, c55, c56, c57, c58, c59, c60, c61, c62, c63, c64, c65, c66, c67, c68, c69, c70, c71, c72, c73, c74, c75, c76, c77, c78, c79, c80, c81, c82, c83, c84, c85, c86, c87, c88, c89, c90, c91, c92, c93, c94, c95, c96, c97, c98, c99, c100, c101, c102, c103, c104, c105, c106, c107, c108, c109, c110, c111, c112, c113, c114, c115, c116, c117, c118, c119, c120, c121, c122, c123, c124, c125, c126, c127, c128, c129, c130, c131, c132, c133, c134, c135, c136, c137, c138, c139, c140, c141, c142, c143, c144, c145, c146, c147, c148, c149, c150, c151, c152, c153, c154, c155, c156, c157, c158, c159, c160, c161, c162, c163, c164, c165, c166, c167, c168, c169, c170, c171, c172, c173, c174, c175, c176, c177, c178, c179, c180, c181, c182, c183, c184, c185, c186, c187, c188, c189, c190, c191, c192, c193, c194, c195, c196, c197, c198, c199, c200, c201, c202, c203, c204, c205, c206, c207, c208, c209, c210, c211, c212, c213, c214, c215, c216, c217, c218, c219, c220, c221, c222, c223, c224, c225, c226, c227, c228, c229, c230, c231, c232, c233, c234, c235, c236, c237, c238, c239, c240, c241, c242, c243, c244, c245, c246, c247, c248, c249, c250, c251, c252, c253, c254, c255, c256, c257, c258, c259, c260, c261, c262, c263, c264, c265, c266, c267, c268, c269, c270, c271], []⟩ wr := by
  obtain ⟨⟨wa, wc, rfl⟩, _⟩ := hR.slVal hw
  obtain ⟨N, m', s', hrun, hpost⟩ := hM.put (by omega) (k % 2) key val
  obtain ⟨p1, p2, p3, p4⟩ := id hpost
  have hhad : wFound s' = (refGet key want).2 := by
    have h1 := refGet_had (want := want) key
    cases ha : (refGet key want).2
    · cases hb : wFound s'
      · rfl
      · have := h1.2 (p3.1 hb); rw [ha] at this; cases this
    · exact p3.2 (h1.1 ha)
  have hsp := spare_iff m.ss
  have hrg := hide (ref10_get (R.frAt (f := pk10) (fun _ => rfl) hR hw) key)
  have hxb := hR.st hx
  obtain ⟨tv, wv2, hhm⟩ := hR.memHdr hm
  have hs1 := memR_spare hR hm
  have hw1 := hide (mem_waiting hR hm)
  obtain ⟨fu, hfu⟩ : ∃ fu, decide (freeAt m.ss = none) = fu := ⟨_, rfl⟩
  obtain ⟨fr, hfr⟩ : ∃ fr, (freeTo m.ss m.ss.length).length = fr := ⟨_, rfl⟩
  rw [hfr] at hs1 hsp
  have hfe : ((fr : Int) == 0) = fu := by
    rw [← hfu]
    by_cases h0 : fr = 0
    · rw [decide_eq_true (hsp.1 h0), h0]; rfl
    · rw [decide_eq_false fun e => h0 (hsp.2 e)]; exact beq_eq_false_iff_ne.2 (by omega)
  have e4 : (k : Int).tmod 2 = ((k % 2 : Nat) : Int) := by rw [Int.tmod_eq_emod_of_nonneg (by omega)]; omega
  have hnw := hide (put_new hR (k % 2) key val hky)
  have hok := PutOk.start m (k % 2) key val (by omega) hky (by omega) hM.gen.1 hM.len (by omega)
  obtain ⟨hadv, hhv⟩ : ∃ x, (refGet key want).2 = x := ⟨_, rfl⟩
  rw [hhv] at hhad
  have hml := lt_of_get hm
  replace hs1 := hide hs1
  replace hrun := hide hrun
  replace hpost := hide hpost
  replace hhad := hide hhad
  replace hfr := hide hfr
  replace hfu := hide hfu
  replace hP := hide hP
  replace hok := hide hok
  clear p1 p3 p4 hsp hR
  conv => arg 2; whnf
  go_wp2_with fail
  refine hrg.out.mono ?_
  rintro e w2 ⟨rfl, rfl⟩
  dsimp only
  rw [hhv]
  replace hhv := hide hhv
  go_wp2_with fail
  refine hs1.out.mono ?_
  rintro e w2 ⟨rfl, rfl⟩
  dsimp only
  go_wp2_with fail
  refine hw1.out.mono ?_
  rintro e w2 ⟨rfl, rfl⟩
  dsimp only
  go_wp2_with fail
  refine hnw.out.mono ?_
  rintro e w3 ⟨b20, rfl, h3⟩
  dsimp only
  have hh0 : Hid (Calls _ _ _ _ (Does _ (.bool false))) := hide (put_had h3 app_last)
  clear hrg hs1 hw1 hnw hxb hhm
  go_wp2_with fail
  refine hh0.out.mono ?_
  rintro e w4 ⟨rfl, h4⟩
  dsimp only
  have hmn : Hid (Calls _ _ _ _ fun e w' => e = .returned (.int .u64 0) ∧ w4 = w') := hide (put_mine h4 app_last)
  have hfin := fin_R putK h4 (app_get hm) (u := L.length) app_last (by omega) hok.out 200 (by decide) hrun.out
  rw [setL' _ _ hml, List.set_append_right _ _ (by simp), List.length_set, Nat.sub_self, List.set_cons_zero] at hfin
  replace hfin := hide hfin
  clear hh0 h3 h4
  go_wp2_with fail
  refine hmn.out.mono ?_
  rintro e w5 ⟨rfl, rfl⟩
  dsimp only
  clear hmn
  go_wp2_with fail
  refine hfin.out.mono ?_
  rintro e w6 ⟨rfl, h6⟩
  dsimp only
  have hh6 := put_had h6 (u := (L.set 1 (MemK m')).length) app_last
  rw [hhad.out] at hh6
  have hneq : (hadv != hadv) = false := by cases hadv <;> rfl
  replace hh6 := hide hh6
  clear hfin h6
  go_wp2_with fail
  refine hh6.out.mono ?_
  rintro e w7 ⟨rfl, h7⟩
  dsimp only
  have hm7 := put_mine h7 (u := (L.set 1 (MemK m')).length) app_last
  rw [p2] at hm7
  replace hm7 := hide hm7
  replace h7 := hide h7
  clear hh6
  go_wp2_with fail
  refine hm7.out.mono ?_
  rintro e w8 ⟨rfl, rfl⟩
  dsimp only
  clear hm7
  go_upto_if 148 with fail
  refine wp_cond_false rfl ?_
  refine wp_skip ?_
  refine (‹∀ (a : Act) (w : World), Code.wp Tryz.prog _ _ a w → _›) _ _ ?_
  obtain rfl := hhv.out
  exact hP.out _ _ _ _ _ _ _ _ _ _ _ _ _ _ _ _ _ _ _ _ _ _ _ _ _ _ _ _ _ _ _ _ _ _ _ _ _ _ _ _ _ _ _ _ _ _ _ _ _ _ _ _ _ _ _ _ b20 fu m' s' w7 hfu.out.symm hpost.out h7.out
end Go.Proofs.YtcgfknpobifecaaGreat

namespace Go.Proofs.YtcgfknpobifecaaGreat
open Go.RowKit

noncomputable def stat27 : Code := fstC part27
theorem filter_key {W : List Pk} {key : ByteArray} (h : key ∉ W.map Pk.key) : W.filter (fun p => decide (p.key ≠ key)) = W := by
  rw [List.filter_eq_self]
  intro p hp
  exact decide_eq_true fun e => h (by rw [← e]; exact List.mem_map.2 ⟨p, hp, rfl⟩)
/-- The pairs behind a put are the document's. -/
theorem put_pairs {want W : List Pk} {key val : ByteArray} (hn : ((⟨key, val⟩ :: W : List Pk).map Pk.key).Nodup) (h : (key ∉ want.map Pk.key ∧ want.Perm W) ∨ ∃ v0, want.Perm (⟨key, v0⟩ :: W)) : (refPut key val false want).Perm (⟨key, val⟩ :: W) := by
  refine (refPut_perm key val want).trans (List.Perm.cons _ ?_)
  have hW : key ∉ W.map Pk.key := by
    rw [List.map_cons, List.nodup_cons] at hn
    exact hn.1
  rcases h with ⟨h1, h2⟩ | ⟨v0, h2⟩
  · rw [filter_key h1]; exact h2
  · refine (h2.filter _).trans ?_
    rw [List.filter_cons_of_neg (by simp), filter_key hW]
/-- What is so behind a round's put. -/
structure Kept (m : MemS) (n base : Nat) (want : List Pk) (m' : MemS) (want' : List Pk) : Prop where
  map : ∃ chs', MapM m' n base chs' want'
  same : SameM m m'
  wait : m'.waiting.length ≤ m.waiting.length + 1
  keys : (∀ p ∈ want, p.key.size ≤ 9223372036854775807) → ∀ p ∈ want', p.key.size ≤ 9223372036854775807
set_option maxRecDepth 1000000 in
set_option maxHeartbeats 6400000 in
theorem law11_putC {L : List KObj} {wr : World} {m m' : MemS} {s' : PutS} {n base room k pb b20 : Nat} {chs : Nat → List Int} {want : List Pk} {wv : Value} {key val : ByteArray} {fu : Bool} (hlen : 3 < L.length) (hw : L[2]? = some (PairsK wv want)) (hx : L[3]? = some (StK pb #[.string key, .string val] 40))
    (hM : MapM m n base chs want) (hky : key.size ≤ 9223372036854775807) (hwl : want.length ≤ 1000) (hwt : m.waiting.length ≤ 100) (hfu : fu = decide (freeAt m.ss = none)) (hpost : PutPost m n base want key val m' s') (hR : R (L.set 1 (MemK m') ++ [PutK b20 s']) wr)
    (c0 c1 c2 c3 c4 c5 c6 c7 c8 c11 c12 c16 c21 c22 c23 c24 c25 c26 c27 c28 c29 c30 c31 c32 c33 c34 c35 c36 c37 c38 c39 c40 c41 c42 c43 c44 c45 c46 c47 c48 c49 c50 c51 c52 c53 c54 c55 c56 c57 c58 c59 c60 c61 c62 c63 c64 c65 c66 c67 c68 c69 c70 c71 c72 c73 c74 c75 c76 c77 c78 c79 c80 c81 c82 c83 c84 c85 c86 c87 c88 c89 c90 c91 c92 c93 c94 c95 c96 c97 c98 c99 c100 c101 c102 c103 c104 c105 c106 c107 c108 c109 c110 c111 c112 c113 c114 c115 c116 c117 c118 c119 c120 c121 c122 c123 c124 c125 c126 c127 c128 c129 c130 c131 c132 c133 c134 c135 c136 c137 c138 c139 c140 c141 c142 c143 c144 c145 c146 c147 c148 c149 c150 c151 c152 c153 c154 c155 c156 c157 c158 c159 c160 c161 c162 c163 c164 c165 c166 c167 c168 c169 c170 c171 c172 c173 c174 c175 c176 c177 c178 c179 c180 c181 c182 c183 c184 c185 c186 c187 c188 c189 c190 c191 c192 c193 c194 c195 c196 c197 c198 c199 c200 c201 c202 c203 c204 c205 c206 c207 c208 c209 c210 c211 c212 c213 c214 c215 c216 c217 c218 c219 c220 c221 c222 c223 c224 c225 c226 c227 c228 c229 c230 c231 c232 c233 c234 c235 c236 c237 c238 c239 c240 c241 c242 c243 c244 c245 c246 c247 c248 c249 c250 c251 c252 c253 c254 c255 c256 c257 c258 c259 c260 c261 c262 c263 c264 c265 c266 c267 c268 c269 c270 c271 : Value) {P : Exit → Act → World → Prop}
    (hP : ∀ (d149 d150 d151 d152 d153 d154 d155 d156 d157 d158 d159 d160 d161 d162 d163 d164 d165 d166 d167 d168 d169 d170 d171 d172 d173 d174 d175 d176 d177 d178 d179 d180 d181 d182 d183 d184 d185 d186 d187 : Value) (wv' : Value) (want' : List Pk) (w' : World), Kept m n base want m' want' → R ((L.set 1 (MemK m')).set 2 (PairsK wv' want')) w' → P .normal ⟨#[c0, c1, c2, c3, c4, c5, c6, c7, c8, .int .i64 room, .pointer (some ⟨m.b, 0, none⟩), c11, c12, wv', .int .i64 k, .pointer (some ⟨pb, 0, none⟩), c16, .bool (refGet key want).2, .bool fu, .int .i64 m.waiting.length, .pointer (some ⟨b20, 0, none⟩), c21, c22, c23, c24, c25, c26, c27, c28, c29, c30, c31, c32, c33, c34, c35, c36, c37, c38, c39, c40, c41, c42, c43, c44, c45, c46, c47, c48, c49, c50, c51, c52, c53, c54, c55, c56, c57, c58, c59, c60, c61, c62, c63, c64, c65, c66, c67, c68, c69, c70, c71, c72, c73, c74, c75, c76, c77, c78, c79, c80, c81, c82, c83, c84, c85, c86, c87, c88, c89, c90, c91, c92, c93, c94, c95, c96, c97, c98, c99, c100, c101, c102, c103, c104, c105, c106, c107, c108, c109, c110, c111, c112, c113, c114, c115, c116, c117, c118, c119, c120, c121, c122, c123, c124, c125, c126, c127, c128, c129, c130, c131, c132, c133, c134, c135, c136, c137, c138, c139, c140, c141, c142, c143, c144, c145, c146, c147, c148, d149, d150, d151, d152, d153, d154, d155, d156, d157, d158, d159, d160, d161, d162, d163, d164, d165, d166, d167, d168, d169, d170, d171, d172, d173, d174, d175, d176, d177, d178, d179, d180, d181, d182, d183, d184, d185, d186, d187, c188, c189, c190, c191, c192, c193, c194, c195, c196, c197, c198, c199, c200, c201, c202, c203, c204, c205, c206, c207, c208, c209, c210, c211, c212, c213, c214, c215, c216, c217, c218, c219, c220, c221, c222, c223, c224, c225, c226, c227, c228, c229, c230, c231, c232, c233, c234, c235, c236, c237, c238, c239, c240, c241, c242, c243, c244, c245, c246, c247, c248, c249, c250, c251, c252, c253, c254, c255, c256, c257, c258, c259, c260, c261, c262, c263, c264, c265, c266, c267, c268, c269, c270, c271], []⟩ w') :
    Code.wp Tryz.prog stat27 P ⟨#[c0, c1, c2, c3, c4, c5, c6, c7, c8, .int .i64 room, .pointer (some ⟨m.b, 0, none⟩), c11, c12, wv, .int .i64 k, .pointer (some ⟨pb, 0, none⟩), c16, .bool (refGet key want).2, .bool fu, .int .i64 m.waiting.length, .pointer (some ⟨b20, 0, none⟩), c21, c22, c23, c24, c25, c26, c27, c28, c29, c30, c31, c32, c33, c34, c35, c36, c37, c38, c39, c40, c41, c42, c43, c44, c45, c46, c47, c48, c49, c50, c51, c52, c53, c54, c55, c56, c57, c58, c59, c60, c61, c62, c63, c64, c65, c66, c67, c68, c69, c70, c71, c72, c73, c74, c75, c76, c77, c78, c79, c80, c81, c82, c83, c84, c85, c86, c87, c88, c89, c90, c91, c92, c93, c94, c95, c96, c97, c98, c99, c100, c101, c102, c103, c104, c105, c106, c107, c108, c109, c110, c111, c112, c113, c114, c115, c116, c117, c118, c119, c120, c121, c122, c123, c124, c125, c126, c127, c128, c129, c130, c131, c132, c133, c134, c135, c136, c137, c138, c139, c140, c141, c142, c143, c144, c145, c146, c147, c148, c149, c150, c151, c152, c153, c154, c155, c156, c157, c158, c159, c160, c161, c162, c163, c164, c165, c166, c167, c168, c169, c170, c171, c172, c173, c174, c175, c176, c177, c178, c179, c180, c181, c182, c183, c184, c185, c186, c187, c188, c189, c190, c191, c192, c193, c194, c195, c196, c197, c198, c199, c200, c201, c202, c203, c204, c205, c206, c207, c208, c209, c210, c211, c212, c213, c214, c215, c216, c217, c218, c219, c220, c221, c222, c223, c224, c225, c226, c227, c228, c229, c230, c231, c232, c233, c234, c235, c236, c237, c238, c239, c240, c241, c242, c243, c244, c245, c246, c247, c248, c249, c250, c251, c252, c253, c254, c255, c256, c257, c258, c259, c260, c261, c262, c263, c264, c265, c266, c267, c268, c269, c270, c271], []⟩ wr := by
  obtain ⟨p1, p2, p3, p4⟩ := hpost
  have hmb := p1.b
  have hm1 : (L.set 1 (MemK m'))[1]? = some (MemK m') := List.getElem?_set_self (by omega)
  have hw2 : (L.set 1 (MemK m'))[2]? = some (PairsK wv want) := set_other hw (by decide)
  have hx2 : (L.set 1 (MemK m'))[3]? = some (StK pb #[.string key, .string val] 40) := set_other hx (by decide)
  have her := hide (put_err hR app_last)
  have hwt1 := hide (mem_waiting hR (app_get hm1))
  rw [hmb] at hwt1
  replace hP := hide hP
  rcases p4 with ⟨q1, q2, q3⟩ | ⟨q1, q2, chs', W, q3, q4⟩
  · have hfu1 : fu = true := by rw [hfu, decide_eq_true q1]
    subst hfu1
    rw [q2] at her
    have hwe : m'.waiting.length = m.waiting.length := by rw [q3]
    rw [hwe] at hwt1
    have hK : Kept m n base want m' want := ⟨⟨chs, by rw [q3]; exact hM⟩, p1, by omega, id⟩
    have hfin : R ((L.set 1 (MemK m')).set 2 (PairsK wv want)) wr := by rw [set_same hw2]; exact hR.left
    have hne : ((m.waiting.length : Int) != (m.waiting.length : Int)) = false := by simp
    replace hfin := hide hfin
    clear hR q1 q2 q3 hfu p3
    conv => arg 2; whnf
    go_wp2_with fail
    refine her.out.mono ?_
    rintro e w2 ⟨rfl, rfl⟩
    dsimp only
    go_wp2_with fail
    refine hwt1.out.mono ?_
    rintro e w2 ⟨rfl, rfl⟩
    dsimp only
    go_wp2_with fail
    exact hP.out _ _ _ _ _ _ _ _ _ _ _ _ _ _ _ _ _ _ _ _ _ _ _ _ _ _ _ _ _ _ _ _ _ _ _ _ _ _ _ wv want _ hK hfin.out
  · have hfu1 : fu = false := by rw [hfu, decide_eq_false q1]
    subst hfu1
    rw [q2] at her
    have hpp : (refPut key val false want).Perm (⟨key, val⟩ :: W) := put_pairs q3.keys (by
      rcases q4 with ⟨a1, a2, _⟩ | ⟨_, a2, _⟩
      · exact .inl ⟨a1, a2⟩
      · exact .inr a2)
    have hsubW : ∀ p ∈ W, p ∈ want := fun p hp => by
      rcases q4 with ⟨_, a2, _⟩ | ⟨_, ⟨v0, a2⟩, _⟩
      · exact a2.mem_iff.2 hp
      · exact a2.mem_iff.2 (List.mem_cons_of_mem _ hp)
    have hK : Kept m n base want m' (refPut key val false want) := ⟨⟨chs', q3.perm hpp⟩, p1, by rcases q4 with ⟨_, _, a3⟩ | ⟨_, _, a3⟩ <;> omega, fun hk p hp => by
      rcases List.mem_cons.1 (hpp.mem_iff.1 hp) with e | e
      · rw [e]; exact hky
      · exact hk p (hsubW p e)⟩
    obtain ⟨⟨wa, wc, rfl⟩, _⟩ := hR.slVal (app_get hw2)
    have hxb := hR.st (app_get hx2)
    have hrp := hide (ref11_put hR (app_get hw2) key val (by omega))
    have hhad : (refGet key want).2 = true ∧ m'.waiting.length = m.waiting.length + 1 ∨ (refGet key want).2 = false ∧ m'.waiting.length = m.waiting.length := by
      rcases q4 with ⟨a1, _, a3⟩ | ⟨a1, _, a3⟩
      · refine .inr ⟨?_, a3⟩
        cases hh : (refGet key want).2
        · rfl
        · exact absurd ((refGet_had key).1 hh) a1
      · exact .inl ⟨(refGet_had key).2 a1, a3⟩
    have hend : ∀ (v' : Value) (w' : World), R (L.set 1 (MemK m') ++ [PutK b20 s'] ++ [PairsK v' (refPut key val false want)]) w' → R ((L.set 1 (MemK m')).set 2 (PairsK v' (refPut key val false want))) w' := fun v' w' h => by
      have h2 := h.movePairs (u := 2) (by simp; omega)
      rw [setL' _ _ (by simp; omega)] at h2
      exact h2.left
    have her2 := hide fun (v' : Value) (w' : World) (h : R (L.set 1 (MemK m') ++ [PutK b20 s'] ++ [PairsK v' (refPut key val false want)]) w') => put_err h (app_get app_last)
    rw [q2] at her2
    have hwt2 := hide fun (v' : Value) (w' : World) (h : R (L.set 1 (MemK m') ++ [PutK b20 s'] ++ [PairsK v' (refPut key val false want)]) w') => mem_waiting h (app_get (app_get hm1))
    rw [hmb] at hwt2
    have e1 : IntKind.i64.wrap ((m.waiting.length : Int) + 1) = ((m.waiting.length + 1 : Nat) : Int) := by rw [IntKind.wrap_i64]; omega
    have e2 : (((m.waiting.length + 1 : Nat) : Int) != ((m.waiting.length + 1 : Nat) : Int)) = false := by simp
    have e3 : ((m.waiting.length : Int) != (m.waiting.length : Int)) = false := by simp
    replace hend := hide hend
    replace hK := hide hK
    clear hR q1 q2 q3 q4 hfu p3 hpp hsubW her hwt1
    rcases hhad with ⟨g1, g2⟩ | ⟨g1, g2⟩
    all_goals
      rw [g2] at hwt2
      obtain ⟨hadv, hhv⟩ : ∃ x, (refGet key want).2 = x := ⟨_, rfl⟩
      rw [hhv] at g1
      subst g1
      rw [hhv]
      rw [hhv] at hP
      replace g2 := hide g2
      replace hhv := hide hhv
      conv => arg 2; whnf
      go_wp2_with fail
      refine hrp.out.mono ?_
      rintro e w2 ⟨v', rfl, h2⟩
      dsimp only
      have her3 := hide (her2.out _ _ h2)
      have hwt3 := hide (hwt2.out _ _ h2)
      have hfin := hide (hend.out _ _ h2)
      clear h2 hrp
      go_wp2_with fail
      refine her3.out.mono ?_
      rintro e w3 ⟨rfl, rfl⟩
      dsimp only
      go_wp2_with fail
      refine hwt3.out.mono ?_
      rintro e w3 ⟨rfl, rfl⟩
      dsimp only
      go_wp2_with fail
      exact hP.out _ _ _ _ _ _ _ _ _ _ _ _ _ _ _ _ _ _ _ _ _ _ _ _ _ _ _ _ _ _ _ _ _ _ _ _ _ _ _ v' _ _ hK.out hfin.out
end Go.Proofs.YtcgfknpobifecaaGreat
