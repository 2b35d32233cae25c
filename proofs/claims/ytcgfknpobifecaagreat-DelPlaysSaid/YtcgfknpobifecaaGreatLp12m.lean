/- quietuslaw12: what a round's act leaves: plain laws. No condition. quietuslaw12: DelPlays: a key taken out, regions 18 to 28. Condition: its objects are there. (Written by wip/gen/gen11.py from wip/gen/Ld12.body, which mk_Ld12.py wrote.) quietuslaw12: DelPlays: a put, regions 18, 29 to 34. Condition: its objects are there. (Written by wip/gen/gen11.py from wip/gen/Le12.body, which mk_Le12.py wrote.) -/
import Derived.Test.YtcgfknpobifecaaGreatLc12m
import Derived.Test.YtcgfknpobifecaaGreatRqm
import Derived.Test.YtcgfknpobifecaaGreatLd11m
namespace Go.Proofs.YtcgfknpobifecaaGreat
open Go.RowKit

/-- What is so behind a round's act. -/
structure Kept12 (m : MemS) (n base : Nat) (want : List Pk) (p : Ak) (m' : MemS) : Prop where
  map : ∃ chs', MapM m' n base chs' (play1 want p)
  same : SameM m m'
  wait : m'.waiting.length = m.waiting.length + (if (refGet p.key want).2 = true then 1 else 0)
  sum : (play1 want p).length + m'.waiting.length ≤ want.length + m.waiting.length + 1
theorem del_kept {m m' : MemS} {n base : Nat} {chs : Nat → List Int} {want : List Pk} {key val : ByteArray} {s' : DelS} (hM : MapM m n base chs want) (h : DelPost m n base want key m' s') :
    Kept12 m n base want ⟨true, key, val⟩ m' ∧ fndVal s'.wk = (refGet key want).1 ∧ fnd s'.wk = (refGet key want).2 := by
  obtain ⟨p1, -, p3⟩ := h
  have e : play1 want ⟨true, key, val⟩ = refWithout key want := rfl
  rcases p3 with ⟨q1, q2, q3, q4⟩ | ⟨q1, q2, chs', W, q3, q4, q5⟩
  · have e2 : refWithout key want = want := filter_key q1
    have e3 : refGet key want = (⟨#[]⟩, false) := refGet_no q1
    subst q4
    refine ⟨⟨⟨chs, by rw [e, e2]; exact hM⟩, p1, ?_, by rw [e, e2]; omega⟩, by rw [e3]; exact q3, by rw [e3]; exact q2⟩
    show _ = _ + (if (refGet key want).2 = true then 1 else 0)
    rw [e3]
    rfl
  · have e3 : refGet key want = (fndVal s'.wk, true) := refGet_mem hM.keys (q4.mem_iff.2 List.mem_cons_self)
    have hnd := ((q4.map Pk.key).nodup_iff).1 hM.keys
    rw [List.map_cons, List.nodup_cons] at hnd
    have hpp : (refWithout key want).Perm W := by
      refine (q4.filter _).trans ?_
      rw [List.filter_cons_of_neg (by simp), filter_key hnd.1]
    have h1 := hpp.length_eq
    have h2 := q4.length_eq
    rw [List.length_cons] at h2
    refine ⟨⟨⟨chs', by rw [e]; exact q3.perm hpp⟩, p1, ?_, by rw [e]; omega⟩, by rw [e3], by rw [e3]; exact q2⟩
    show _ = _ + (if (refGet key want).2 = true then 1 else 0)
    rw [e3, q5]
    rfl
theorem put_kept {m m' : MemS} {n base : Nat} {chs : Nat → List Int} {want : List Pk} {key val : ByteArray} {s' : PutS} (hM : MapM m n base chs want) (h : PutPost m n base want key val m' s') (hroom : want.length + m.waiting.length < m.ss.length) :
    Kept12 m n base want ⟨false, key, val⟩ m' ∧ s'.err = 0 ∧ wFound s' = (refGet key want).2 := by
  obtain ⟨p1, -, p3, p4⟩ := h
  have e : play1 want ⟨false, key, val⟩ = refPut key val false want := rfl
  have hne : freeAt m.ss ≠ none := fun hn => by
    have h1 := (spare_iff m.ss).2 hn
    have h2 := hM.spare
    omega
  have hhad : wFound s' = (refGet key want).2 := by
    cases hb : wFound s'
    · have : key ∉ want.map Pk.key := fun hm => by have := p3.2 hm; rw [hb] at this; cases this
      rw [refGet_no this]
    · obtain ⟨q, hq, hqk⟩ := List.mem_map.1 (p3.1 hb)
      obtain ⟨qk, qv⟩ := q
      have hqk : qk = key := hqk
      subst hqk
      rw [refGet_mem hM.keys hq]
  rcases p4 with ⟨q1, -⟩ | ⟨-, q2, chs', W, q3, q4⟩
  · exact absurd q1 hne
  · have hpp : (refPut key val false want).Perm (⟨key, val⟩ :: W) := put_pairs q3.keys (by
      rcases q4 with ⟨a1, a2, _⟩ | ⟨_, a2, _⟩
      · exact .inl ⟨a1, a2⟩
      · exact .inr a2)
    have h1 := hpp.length_eq
    rw [List.length_cons] at h1
    refine ⟨⟨⟨chs', by rw [e]; exact q3.perm hpp⟩, p1, ?_, ?_⟩, q2, hhad⟩
    · show _ = _ + (if (refGet key want).2 = true then 1 else 0)
      rcases q4 with ⟨a1, a2, a3⟩ | ⟨a1, ⟨v0, a2⟩, a3⟩
      · rw [refGet_no a1, a3]; rfl
      · rw [refGet_mem hM.keys (a2.mem_iff.2 List.mem_cons_self), a3]; rfl
    · rw [e]
      rcases q4 with ⟨a1, a2, a3⟩ | ⟨a1, ⟨v0, a2⟩, a3⟩
      · have := a2.length_eq; omega
      · have := a2.length_eq; rw [List.length_cons] at this; omega
end Go.Proofs.YtcgfknpobifecaaGreat

namespace Go.Proofs.YtcgfknpobifecaaGreat
open Go.RowKit

set_option maxRecDepth 1000000 in
set_option maxHeartbeats 6400000 in
theorem law12_del {w wr : World} {m : MemS} {k pb n base : Nat} {chs : Nat → List Int} {want : List Pk} {key val was : ByteArray} {had : Bool} {lv fv : Value} (hR : R [BaseK w, MemK m, StK pb (actC ⟨true, key, val⟩) 62] wr) (hwas : (refGet key want).1 = was) (hhad : (refGet key want).2 = had)
    (hM : MapM m n base chs want) (hky : key.size ≤ 9223372036854775807) (hroom : m.ss.length = 60) (hk50 : k ≤ 50) (hwt : m.waiting.length ≤ 100) (hgn : m.gen ≤ 10000)
    (c0 c3 c4 c5 c6 c8 c9 c15 c16 c17 c18 c19 c20 c21 c22 c23 c24 c25 c26 c27 c28 c29 c30 c31 c32 c33 c34 c35 c36 c37 c38 c39 c40 c41 c42 c43 c44 c45 c46 c47 c48 c49 c50 c51 c52 c53 c54 c55 c56 c57 c58 c59 c60 c61 c62 c64 c66 c67 c68 c69 c70 c71 c72 c73 c74 c75 c76 c77 c78 c79 c80 c81 c82 c83 c84 c85 c86 c87 c88 c89 c90 c91 c92 c93 c94 c95 c96 c97 c98 c99 c100 c101 c102 c103 c104 c105 c106 c107 c108 c109 c110 c111 c112 c113 c114 c115 c116 c117 c118 c119 c120 c121 c122 c123 c124 c125 c126 c127 c128 c129 c130 c131 c132 c133 c134 c135 c136 c137 c138 c139 c140 c141 c142 c143 c144 c145 c146 c147 c148 c149 c150 c151 c152 c153 c154 c155 c156 c157 c158 c159 c160 c161 c162 c163 c164 c165 c166 c167 c168 c169 c170 c171 c172 c173 c174 c175 c176 c177 c178 c179 c180 c181 c182 c183 c184 c185 c186 c187 c188 c189 c190 c191 c192 c193 c194 c195 c196 c197 c198 c199 c200 c201 c202 c203 c204 c205 c206 c207 c208 c209 c210 c211 c212 c213 c214 c215 c216 c217 c218 c219 c220 c221 c222 c223 c224 c225 c226 c227 c228 c229 c230 c231 c232 c233 c234 c235 c236 c237 c238 c239 c240 c241 c242 c243 c244 c245 c246 c247 c248 c249 c250 c251 c252 c253 c254 c255 c256 c257 c258 c259 c260 c261 c262 c263 c264 c265 c266 c267 c268 c269 c270 c271 c272 c273 c274 c275 c276 c277 c278 c279 : Value) {P : Exit → Act → World → Prop}
    (hP : ∀ (d15 d16 d17 d18 d19 d20 d21 d106 d107 d108 d109 d110 d111 d112 d113 d114 d115 d116 d117 d118 d119 d120 d121 d122 d123 d124 d125 d126 d127 d128 d129 d130 d131 d132 d133 d134 d135 d136 d137 d138 d139 d140 d141 d142 d143 d144 d145 d146 d147 d148 d149 d150 d151 d152 d153 d154 : Value) (m' : MemS) (w' : World), Kept12 m n base want ⟨true, key, val⟩ m' → R [BaseK w, MemK m', StK pb (actC ⟨true, key, val⟩) 62] w' → P .normal ⟨#[c0, lv, fv, c3, c4, c5, c6, .pointer (some ⟨m.b, 0, none⟩), c8, c9, .int .i64 k, .pointer (some ⟨pb, 0, none⟩), .string was, .bool had, .int .i64 m.waiting.length, d15, d16, d17, d18, d19, d20, d21, c22, c23, c24, c25, c26, c27, c28, c29, c30, c31, c32, c33, c34, c35, c36, c37, c38, c39, c40, c41, c42, c43, c44, c45, c46, c47, c48, c49, c50, c51, c52, c53, c54, c55, c56, c57, c58, c59, c60, c61, c62, lv, c64, .int .i64 k, c66, c67, c68, c69, c70, c71, c72, c73, c74, c75, c76, c77, c78, c79, c80, c81, c82, c83, c84, c85, c86, c87, c88, c89, c90, c91, c92, c93, c94, c95, c96, c97, c98, c99, c100, c101, c102, c103, c104, c105, d106, d107, d108, d109, d110, d111, d112, d113, d114, d115, d116, d117, d118, d119, d120, d121, d122, d123, d124, d125, d126, d127, d128, d129, d130, d131, d132, d133, d134, d135, d136, d137, d138, d139, d140, d141, d142, d143, d144, d145, d146, d147, d148, d149, d150, d151, d152, d153, d154, c155, c156, c157, c158, c159, c160, c161, c162, c163, c164, c165, c166, c167, c168, c169, c170, c171, c172, c173, c174, c175, c176, c177, c178, c179, c180, c181, c182, c183, c184, c185, c186, c187, c188, c189, c190, c191, c192, c193, c194, c195, c196, c197, c198, c199, c200, c201, c202, c203, c204, c205, c206, c207, c208, c209, c210, c211, c212, c213, c214, c215, c216, c217, c218, c219, c220, c221, c222, c223, c224, c225, c226, c227, c228, c229, c230, c231, c232, c233, c234, c235, c236, c237, c238, c239, c240, c241, c242, c243, c244, c245, c246, c247, c248, c249, c250, c251, c252, c253, c254, c255, c256, c257, c258, c259, c260, c261, c262, c263, c264, c265, c266, c267, c268, c269, c270, c271, c272, c273, c274, c275, c276, c277, c278, c279], []⟩ w') :
    Code.wp Tryz.prog (fstC (dPart 18)) P ⟨#[c0, lv, fv, c3, c4, c5, c6, .pointer (some ⟨m.b, 0, none⟩), c8, c9, .int .i64 k, .pointer (some ⟨pb, 0, none⟩), .string was, .bool had, .int .i64 m.waiting.length, c15, c16, c17, c18, c19, c20, c21, c22, c23, c24, c25, c26, c27, c28, c29, c30, c31, c32, c33, c34, c35, c36, c37, c38, c39, c40, c41, c42, c43, c44, c45, c46, c47, c48, c49, c50, c51, c52, c53, c54, c55, c56, c57, c58, c59, c60, c61, c62, lv, c64, .int .i64 k, c66, c67, c68, c69, c70, c71, c72, c73, c74, c75, c76, c77, c78, c79, c80, c81, c82, c83, c84, c85, c86, c87, c88, c89, c90, c91, c92, c93, c94, c95, c96, c97, c98, c99, c100, c101, c102, c103, c104, c105, c106, c107, c108, c109, c110, c111, c112, c113, c114, c115, c116, c117, c118, c119, c120, c121, c122, c123, c124, c125, c126, c127, c128, c129, c130, c131, c132, c133, c134, c135, c136, c137, c138, c139, c140, c141, c142, c143, c144, c145, c146, c147, c148, c149, c150, c151, c152, c153, c154, c155, c156, c157, c158, c159, c160, c161, c162, c163, c164, c165, c166, c167, c168, c169, c170, c171, c172, c173, c174, c175, c176, c177, c178, c179, c180, c181, c182, c183, c184, c185, c186, c187, c188, c189, c190, c191, c192, c193, c194, c195, c196, c197, c198, c199, c200, c201, c202, c203, c204, c205, c206, c207, c208, c209, c210, c211, c212, c213, c214, c215, c216, c217, c218, c219, c220, c221, c222, c223, c224, c225, c226, c227, c228, c229, c230, c231, c232, c233, c234, c235, c236, c237, c238, c239, c240, c241, c242, c243, c244, c245, c246, c247, c248, c249, c250, c251, c252, c253, c254, c255, c256, c257, c258, c259, c260, c261, c262, c263, c264, c265, c266, c267, c268, c269, c270, c271, c272, c273, c274, c275, c276, c277, c278, c279], []⟩ wr := by
  obtain ⟨N, m', s', hrun, hpost⟩ := hM.del (by omega) (k % 2) key
  obtain ⟨hK, hv, hd⟩ := del_kept (val := val) hM hpost
  have hmn := hpost.2.1
  rw [hwas] at hv
  rw [hhad] at hd
  have e4 : (k : Int).tmod 2 = ((k % 2 : Nat) : Int) := by rw [Int.tmod_eq_emod_of_nonneg (by omega)]; omega
  have hnw := hide (del_new hR (k % 2) key hky)
  have hok := DelOk.start m (k % 2) key (by omega) hky (by omega) hM.gen.1 hM.len (by omega)
  have hxb := hR.st (t := 2) rfl
  unfold actC at hxb
  dsimp only at hxb
  have hneq : (had != had) = false := by cases had <;> rfl
  have hend : ∀ (b15 : Nat) (w' : World), R ((([BaseK w, MemK m, StK pb (actC ⟨true, key, val⟩) 62] ++ [DelK b15 (del0 (k % 2) key)]).set 1 (MemK m')).set 3 (DelK b15 s')) w' → R [BaseK w, MemK m', StK pb (actC ⟨true, key, val⟩) 62] w' := fun b15 w' h => R.left (m := [DelK b15 s']) h
  replace hend := hide hend
  replace hrun := hide hrun
  replace hK := hide hK
  replace hv := hide hv
  replace hd := hide hd
  replace hmn := hide hmn
  replace hP := hide hP
  replace hok := hide hok
  clear hR hpost hwas hhad hroom
  conv => arg 2; whnf
  go_wp2_with fail
  refine hnw.out.mono ?_
  rintro e w3 ⟨b15, rfl, h3⟩
  dsimp only
  have hm0 : Hid (Calls _ _ _ _ fun e w' => e = .returned (.int .u64 0) ∧ w3 = w') := hide (del_mine h3 app_last)
  have hh0 : Hid (Calls _ _ _ _ (Does _ (.tuple #[.string ⟨#[]⟩, .bool false]))) := hide (del_had h3 app_last)
  clear hnw hxb h3
  go_wp2_with fail
  refine hm0.out.mono ?_
  rintro e w4 ⟨rfl, rfl⟩
  dsimp only
  clear hm0
  go_wp2_with fail
  refine hh0.out.mono ?_
  rintro e w4 ⟨rfl, h4⟩
  dsimp only
  have hfin := hide (fin_R delK h4 (t := 1) (u := 3) rfl rfl (by decide) hok.out 300 (by decide) hrun.out)
  clear hh0 h4
  go_wp2_with fail
  refine hfin.out.mono ?_
  rintro e w6 ⟨rfl, h6⟩
  dsimp only
  have hh6 := del_had h6 (u := 3) rfl
  rw [hv.out, hd.out] at hh6
  replace hh6 := hide hh6
  clear hfin h6
  go_wp2_with fail
  refine hh6.out.mono ?_
  rintro e w7 ⟨rfl, h7⟩
  dsimp only
  have hm7 := del_mine h7 (u := 3) rfl
  rw [hmn.out] at hm7
  replace hm7 := hide hm7
  have h8 := hide (hend.out _ _ h7)
  clear hh6 h7
  go_wp2_with fail
  refine hm7.out.mono ?_
  rintro e w8 ⟨rfl, rfl⟩
  dsimp only
  clear hm7
  go_wp2_with fail
  exact hP.out _ _ _ _ _ _ _ _ _ _ _ _ _ _ _ _ _ _ _ _ _ _ _ _ _ _ _ _ _ _ _ _ _ _ _ _ _ _ _ _ _ _ _ _ _ _ _ _ _ _ _ _ _ _ _ _ m' _ hK.out h8.out
end Go.Proofs.YtcgfknpobifecaaGreat

namespace Go.Proofs.YtcgfknpobifecaaGreat
open Go.RowKit

set_option maxRecDepth 1000000 in
set_option maxHeartbeats 6400000 in
theorem law12_put {w wr : World} {m : MemS} {k pb n base : Nat} {chs : Nat → List Int} {want : List Pk} {key val was : ByteArray} {had : Bool} {lv fv : Value} (hR : R [BaseK w, MemK m, StK pb (actC ⟨false, key, val⟩) 62] wr) (hhad : (refGet key want).2 = had)
    (hM : MapM m n base chs want) (hky : key.size ≤ 9223372036854775807) (hroom : m.ss.length = 60) (hsum : want.length + m.waiting.length < 60) (hk50 : k ≤ 50) (hwt : m.waiting.length ≤ 100) (hgn : m.gen ≤ 10000)
    (c0 c3 c4 c5 c6 c8 c9 c15 c16 c17 c18 c19 c20 c21 c22 c23 c24 c25 c26 c27 c28 c29 c30 c31 c32 c33 c34 c35 c36 c37 c38 c39 c40 c41 c42 c43 c44 c45 c46 c47 c48 c49 c50 c51 c52 c53 c54 c55 c56 c57 c58 c59 c60 c61 c62 c64 c66 c67 c68 c69 c70 c71 c72 c73 c74 c75 c76 c77 c78 c79 c80 c81 c82 c83 c84 c85 c86 c87 c88 c89 c90 c91 c92 c93 c94 c95 c96 c97 c98 c99 c100 c101 c102 c103 c104 c105 c106 c107 c108 c109 c110 c111 c112 c113 c114 c115 c116 c117 c118 c119 c120 c121 c122 c123 c124 c125 c126 c127 c128 c129 c130 c131 c132 c133 c134 c135 c136 c137 c138 c139 c140 c141 c142 c143 c144 c145 c146 c147 c148 c149 c150 c151 c152 c153 c154 c155 c156 c157 c158 c159 c160 c161 c162 c163 c164 c165 c166 c167 c168 c169 c170 c171 c172 c173 c174 c175 c176 c177 c178 c179 c180 c181 c182 c183 c184 c185 c186 c187 c188 c189 c190 c191 c192 c193 c194 c195 c196 c197 c198 c199 c200 c201 c202 c203 c204 c205 c206 c207 c208 c209 c210 c211 c212 c213 c214 c215 c216 c217 c218 c219 c220 c221 c222 c223 c224 c225 c226 c227 c228 c229 c230 c231 c232 c233 c234 c235 c236 c237 c238 c239 c240 c241 c242 c243 c244 c245 c246 c247 c248 c249 c250 c251 c252 c253 c254 c255 c256 c257 c258 c259 c260 c261 c262 c263 c264 c265 c266 c267 c268 c269 c270 c271 c272 c273 c274 c275 c276 c277 c278 c279 : Value) {P : Exit → Act → World → Prop}
    (hP : ∀ (d22 d23 d24 d106 d107 d155 d156 d157 d158 d159 d160 d161 d162 d163 d164 d165 d166 d167 d168 d169 d170 d171 d172 d173 d174 d175 d176 d177 d178 d179 d180 d181 d182 d183 : Value) (m' : MemS) (w' : World), Kept12 m n base want ⟨false, key, val⟩ m' → R [BaseK w, MemK m', StK pb (actC ⟨false, key, val⟩) 62] w' → P .normal ⟨#[c0, lv, fv, c3, c4, c5, c6, .pointer (some ⟨m.b, 0, none⟩), c8, c9, .int .i64 k, .pointer (some ⟨pb, 0, none⟩), .string was, .bool had, .int .i64 m.waiting.length, c15, c16, c17, c18, c19, c20, c21, d22, d23, d24, c25, c26, c27, c28, c29, c30, c31, c32, c33, c34, c35, c36, c37, c38, c39, c40, c41, c42, c43, c44, c45, c46, c47, c48, c49, c50, c51, c52, c53, c54, c55, c56, c57, c58, c59, c60, c61, c62, lv, c64, .int .i64 k, c66, c67, c68, c69, c70, c71, c72, c73, c74, c75, c76, c77, c78, c79, c80, c81, c82, c83, c84, c85, c86, c87, c88, c89, c90, c91, c92, c93, c94, c95, c96, c97, c98, c99, c100, c101, c102, c103, c104, c105, d106, d107, c108, c109, c110, c111, c112, c113, c114, c115, c116, c117, c118, c119, c120, c121, c122, c123, c124, c125, c126, c127, c128, c129, c130, c131, c132, c133, c134, c135, c136, c137, c138, c139, c140, c141, c142, c143, c144, c145, c146, c147, c148, c149, c150, c151, c152, c153, c154, d155, d156, d157, d158, d159, d160, d161, d162, d163, d164, d165, d166, d167, d168, d169, d170, d171, d172, d173, d174, d175, d176, d177, d178, d179, d180, d181, d182, d183, c184, c185, c186, c187, c188, c189, c190, c191, c192, c193, c194, c195, c196, c197, c198, c199, c200, c201, c202, c203, c204, c205, c206, c207, c208, c209, c210, c211, c212, c213, c214, c215, c216, c217, c218, c219, c220, c221, c222, c223, c224, c225, c226, c227, c228, c229, c230, c231, c232, c233, c234, c235, c236, c237, c238, c239, c240, c241, c242, c243, c244, c245, c246, c247, c248, c249, c250, c251, c252, c253, c254, c255, c256, c257, c258, c259, c260, c261, c262, c263, c264, c265, c266, c267, c268, c269, c270, c271, c272, c273, c274, c275, c276, c277, c278, c279], []⟩ w') :
    Code.wp Tryz.prog (fstC (dPart 18)) P ⟨#[c0, lv, fv, c3, c4, c5, c6, .pointer (some ⟨m.b, 0, none⟩), c8, c9, .int .i64 k, .pointer (some ⟨pb, 0, none⟩), .string was, .bool had, .int .i64 m.waiting.length, c15, c16, c17, c18, c19, c20, c21, c22, c23, c24, c25, c26, c27, c28, c29, c30, c31, c32, c33, c34, c35, c36, c37, c38, c39, c40, c41, c42, c43, c44, c45, c46, c47, c48, c49, c50, c51, c52, c53, c54, c55, c56, c57, c58, c59, c60, c61, c62, lv, c64, .int .i64 k, c66, c67, c68, c69, c70, c71, c72, c73, c74, c75, c76, c77, c78, c79, c80, c81, c82, c83, c84, c85, c86, c87, c88, c89, c90, c91, c92, c93, c94, c95, c96, c97, c98, c99, c100, c101, c102, c103, c104, c105, c106, c107, c108, c109, c110, c111, c112, c113, c114, c115, c116, c117, c118, c119, c120, c121, c122, c123, c124, c125, c126, c127, c128, c129, c130, c131, c132, c133, c134, c135, c136, c137, c138, c139, c140, c141, c142, c143, c144, c145, c146, c147, c148, c149, c150, c151, c152, c153, c154, c155, c156, c157, c158, c159, c160, c161, c162, c163, c164, c165, c166, c167, c168, c169, c170, c171, c172, c173, c174, c175, c176, c177, c178, c179, c180, c181, c182, c183, c184, c185, c186, c187, c188, c189, c190, c191, c192, c193, c194, c195, c196, c197, c198, c199, c200, c201, c202, c203, c204, c205, c206, c207, c208, c209, c210, c211, c212, c213, c214, c215, c216, c217, c218, c219, c220, c221, c222, c223, c224, c225, c226, c227, c228, c229, c230, c231, c232, c233, c234, c235, c236, c237, c238, c239, c240, c241, c242, c243, c244, c245, c246, c247, c248, c249, c250, c251, c252, c253, c254, c255, c256, c257, c258, c259, c260, c261, c262, c263, c264, c265, c266, c267, c268, c269, c270, c271, c272, c273, c274, c275, c276, c277, c278, c279], []⟩ wr := by
  obtain ⟨N, m', s', hrun0, hpost⟩ := hM.put (by omega) (k % 2) key val
  have hrun := finM_more 100 hrun0
  obtain ⟨hK, herr, hd⟩ := put_kept hM hpost (by omega)
  rw [hhad] at hd
  have e4 : (k : Int).tmod 2 = ((k % 2 : Nat) : Int) := by rw [Int.tmod_eq_emod_of_nonneg (by omega)]; omega
  have hnw := hide (put_new hR (k % 2) key val hky)
  have hok := PutOk.start m (k % 2) key val (by omega) hky (by omega) hM.gen.1 hM.len (by omega)
  have hxb := hR.st (t := 2) rfl
  unfold actC at hxb
  dsimp only at hxb
  have hneq : (had != had) = false := by cases had <;> rfl
  have hend : ∀ (b15 : Nat) (w' : World), R ((([BaseK w, MemK m, StK pb (actC ⟨false, key, val⟩) 62] ++ [PutK b15 (put0 (k % 2) key val)]).set 1 (MemK m')).set 3 (PutK b15 s')) w' → R [BaseK w, MemK m', StK pb (actC ⟨false, key, val⟩) 62] w' := fun b15 w' h => R.left (m := [PutK b15 s']) h
  replace hend := hide hend
  replace hrun := hide hrun
  replace hK := hide hK
  replace hd := hide hd
  replace herr := hide herr
  replace hP := hide hP
  replace hok := hide hok
  clear hR hpost hhad hroom hrun0 hsum
  conv => arg 2; whnf
  go_wp2_with fail
  refine hnw.out.mono ?_
  rintro e w3 ⟨b15, rfl, h3⟩
  dsimp only
  have hfin := hide (fin_R putK h3 (t := 1) (u := 3) rfl rfl (by decide) hok.out 300 (by decide) hrun.out)
  clear hnw h3
  go_wp2_with fail
  refine hfin.out.mono ?_
  rintro e w6 ⟨rfl, h6⟩
  dsimp only
  have hh6 := put_had h6 (u := 3) rfl
  have he6 := put_err h6 (u := 3) rfl
  rw [hd.out] at hh6
  rw [herr.out] at he6
  replace hh6 := hide hh6
  replace he6 := hide he6
  clear hfin h6
  go_wp2_with fail
  refine he6.out.mono ?_
  rintro e w7 ⟨rfl, rfl⟩
  dsimp only
  clear he6
  go_wp2_with fail
  refine hh6.out.mono ?_
  rintro e w7 ⟨rfl, h7⟩
  dsimp only
  have h8 := hide (hend.out _ _ h7)
  clear hh6 h7 hxb
  go_wp2_with fail
  exact hP.out _ _ _ _ _ _ _ _ _ _ _ _ _ _ _ _ _ _ _ _ _ _ _ _ _ _ _ _ _ _ _ _ _ _ m' _ hK.out h8.out
end Go.Proofs.YtcgfknpobifecaaGreat
