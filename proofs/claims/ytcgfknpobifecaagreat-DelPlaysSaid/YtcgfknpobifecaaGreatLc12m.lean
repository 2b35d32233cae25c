/- quietuslaw12: DelPlays: what there was, regions 16, 17. Condition: its objects are there. (Written by wip/gen/gen11.py from wip/gen/Lc12.body, which mk_Lc12.py wrote.) A del from a memory that holds a map, from its first step to its last one. Plain law; condition: at most 100 places. -/
import Derived.Test.YtcgfknpobifecaaGreatRqm
import Derived.Test.YtcgfknpobifecaaGreatDq
namespace Go.Proofs.YtcgfknpobifecaaGreat
open Go.RowKit

theorem frAt_take {w : World} {B k n j c : Nat} {a : Option Addr} {rows : List (List Value)} (h : FrAt w B k (.slice a n c) rows) (hj : j ≤ rows.length) (c' : Nat) : FrAt w B k (.slice a j c') (rows.take j) := by
  obtain ⟨a2, cap, hv, hn, hr⟩ := h
  simp at hv
  obtain ⟨rfl, rfl, rfl⟩ := hv
  refine ⟨a, c', by rw [List.length_take, Nat.min_eq_left hj], by rw [List.length_take]; omega, fun i hi => ?_⟩
  rw [List.length_take] at hi
  obtain ⟨b, off, ha, hlt, hc⟩ := hr i (by omega)
  refine ⟨b, off, ha, hlt, fun q hq => ?_⟩
  obtain ⟨x, h1, h2⟩ := hc q hq
  refine ⟨x, ?_, h2⟩
  rw [← h1]
  congr 1
  rw [List.getD_eq_getElem?_getD, List.getD_eq_getElem?_getD, List.getElem?_take_of_lt (by omega)]
set_option maxRecDepth 1000000 in
set_option maxHeartbeats 6400000 in
theorem law12_was {w wr : World} {m : MemS} {k pb n c : Nat} {p : Ak} {ls : List Ak} {lv fv : Value} {a : Option Addr} (hv : lv = .slice a n c) (hcap : n ≤ c) (_hc64 : c ≤ 9223372036854775807) (hl : FrAt w w.heap.size 3 lv (ls.map ak12)) (hk : k < ls.length) (hk50 : ls.length ≤ 50)
    (hR : R [BaseK w, MemK m, StK pb (actC p) 62] wr)
    (c0 c3 c4 c5 c6 c8 c9 c12 c13 c14 c15 c16 c17 c18 c19 c20 c21 c22 c23 c24 c25 c26 c27 c28 c29 c30 c31 c32 c33 c34 c35 c36 c37 c38 c39 c40 c41 c42 c43 c44 c45 c46 c47 c48 c49 c50 c51 c52 c53 c54 c55 c56 c57 c58 c59 c60 c61 c62 c64 c66 c67 c68 c69 c70 c71 c72 c73 c74 c75 c76 c77 c78 c79 c80 c81 c82 c83 c84 c85 c86 c87 c88 c89 c90 c91 c92 c93 c94 c95 c96 c97 c98 c99 c100 c101 c102 c103 c104 c105 c106 c107 c108 c109 c110 c111 c112 c113 c114 c115 c116 c117 c118 c119 c120 c121 c122 c123 c124 c125 c126 c127 c128 c129 c130 c131 c132 c133 c134 c135 c136 c137 c138 c139 c140 c141 c142 c143 c144 c145 c146 c147 c148 c149 c150 c151 c152 c153 c154 c155 c156 c157 c158 c159 c160 c161 c162 c163 c164 c165 c166 c167 c168 c169 c170 c171 c172 c173 c174 c175 c176 c177 c178 c179 c180 c181 c182 c183 c184 c185 c186 c187 c188 c189 c190 c191 c192 c193 c194 c195 c196 c197 c198 c199 c200 c201 c202 c203 c204 c205 c206 c207 c208 c209 c210 c211 c212 c213 c214 c215 c216 c217 c218 c219 c220 c221 c222 c223 c224 c225 c226 c227 c228 c229 c230 c231 c232 c233 c234 c235 c236 c237 c238 c239 c240 c241 c242 c243 c244 c245 c246 c247 c248 c249 c250 c251 c252 c253 c254 c255 c256 c257 c258 c259 c260 c261 c262 c263 c264 c265 c266 c267 c268 c269 c270 c271 c272 c273 c274 c275 c276 c277 c278 c279 : Value) {P : Exit → Act → World → Prop}
    (hP : ∀ (d94 d95 d96 d97 d98 d99 d100 d101 d102 d103 : Value) (w' : World), R [BaseK w, MemK m, StK pb (actC p) 62] w' → P .normal ⟨#[c0, lv, fv, c3, c4, c5, c6, .pointer (some ⟨m.b, 0, none⟩), c8, c9, .int .i64 k, .pointer (some ⟨pb, 0, none⟩), .string (refGet p.key (refPlay (ls.take k))).1, .bool (refGet p.key (refPlay (ls.take k))).2, c14, c15, c16, c17, c18, c19, c20, c21, c22, c23, c24, c25, c26, c27, c28, c29, c30, c31, c32, c33, c34, c35, c36, c37, c38, c39, c40, c41, c42, c43, c44, c45, c46, c47, c48, c49, c50, c51, c52, c53, c54, c55, c56, c57, c58, c59, c60, c61, c62, lv, c64, .int .i64 k, c66, c67, c68, c69, c70, c71, c72, c73, c74, c75, c76, c77, c78, c79, c80, c81, c82, c83, c84, c85, c86, c87, c88, c89, c90, c91, c92, c93, d94, d95, d96, d97, d98, d99, d100, d101, d102, d103, c104, c105, c106, c107, c108, c109, c110, c111, c112, c113, c114, c115, c116, c117, c118, c119, c120, c121, c122, c123, c124, c125, c126, c127, c128, c129, c130, c131, c132, c133, c134, c135, c136, c137, c138, c139, c140, c141, c142, c143, c144, c145, c146, c147, c148, c149, c150, c151, c152, c153, c154, c155, c156, c157, c158, c159, c160, c161, c162, c163, c164, c165, c166, c167, c168, c169, c170, c171, c172, c173, c174, c175, c176, c177, c178, c179, c180, c181, c182, c183, c184, c185, c186, c187, c188, c189, c190, c191, c192, c193, c194, c195, c196, c197, c198, c199, c200, c201, c202, c203, c204, c205, c206, c207, c208, c209, c210, c211, c212, c213, c214, c215, c216, c217, c218, c219, c220, c221, c222, c223, c224, c225, c226, c227, c228, c229, c230, c231, c232, c233, c234, c235, c236, c237, c238, c239, c240, c241, c242, c243, c244, c245, c246, c247, c248, c249, c250, c251, c252, c253, c254, c255, c256, c257, c258, c259, c260, c261, c262, c263, c264, c265, c266, c267, c268, c269, c270, c271, c272, c273, c274, c275, c276, c277, c278, c279], []⟩ w') :
    Code.wp Tryz.prog (fstC (dPart 16)) P ⟨#[c0, lv, fv, c3, c4, c5, c6, .pointer (some ⟨m.b, 0, none⟩), c8, c9, .int .i64 k, .pointer (some ⟨pb, 0, none⟩), c12, c13, c14, c15, c16, c17, c18, c19, c20, c21, c22, c23, c24, c25, c26, c27, c28, c29, c30, c31, c32, c33, c34, c35, c36, c37, c38, c39, c40, c41, c42, c43, c44, c45, c46, c47, c48, c49, c50, c51, c52, c53, c54, c55, c56, c57, c58, c59, c60, c61, c62, lv, c64, .int .i64 k, c66, c67, c68, c69, c70, c71, c72, c73, c74, c75, c76, c77, c78, c79, c80, c81, c82, c83, c84, c85, c86, c87, c88, c89, c90, c91, c92, c93, c94, c95, c96, c97, c98, c99, c100, c101, c102, c103, c104, c105, c106, c107, c108, c109, c110, c111, c112, c113, c114, c115, c116, c117, c118, c119, c120, c121, c122, c123, c124, c125, c126, c127, c128, c129, c130, c131, c132, c133, c134, c135, c136, c137, c138, c139, c140, c141, c142, c143, c144, c145, c146, c147, c148, c149, c150, c151, c152, c153, c154, c155, c156, c157, c158, c159, c160, c161, c162, c163, c164, c165, c166, c167, c168, c169, c170, c171, c172, c173, c174, c175, c176, c177, c178, c179, c180, c181, c182, c183, c184, c185, c186, c187, c188, c189, c190, c191, c192, c193, c194, c195, c196, c197, c198, c199, c200, c201, c202, c203, c204, c205, c206, c207, c208, c209, c210, c211, c212, c213, c214, c215, c216, c217, c218, c219, c220, c221, c222, c223, c224, c225, c226, c227, c228, c229, c230, c231, c232, c233, c234, c235, c236, c237, c238, c239, c240, c241, c242, c243, c244, c245, c246, c247, c248, c249, c250, c251, c252, c253, c254, c255, c256, c257, c258, c259, c260, c261, c262, c263, c264, c265, c266, c267, c268, c269, c270, c271, c272, c273, c274, c275, c276, c277, c278, c279], []⟩ wr := by
  subst hv
  obtain ⟨a2, cap2, hv2, hlen, -⟩ := id hl
  rw [List.length_map] at hv2 hlen
  simp at hv2
  obtain ⟨rfl, rfl, rfl⟩ := hv2
  have hft := frAt_take hl (j := k) (by rw [List.length_map]; omega) c
  rw [← List.map_take] at hft
  have hpl := hide (ref12_play hft hR.drew (by rw [List.length_take]; omega))
  have hb3 := hR.st (t := 2) rfl
  have hwl := refPlay_len k (ls := ls) (by omega)
  obtain ⟨out, key, val⟩ := p
  unfold actC at hb3 hpl hP hR
  dsimp only at hb3 hpl hP hR
  have hki : (k : Int) < (ls.length : Int) := by omega
  have hkc : (k : Int) ≤ (c : Int) := by omega
  have hk0 : (0 : Int) ≤ (k : Int) := by omega
  generalize refPlay (ls.take k) = want at *
  have kA0 : blk wr.drew pb = some (.cells #[.bool out, .string key, .string val] 62 (0, 0)) := hb3
  replace hP := hide hP
  clear hl hft hR
  conv => arg 2; whnf
  go_region_held3 (fun w' => blk w' pb = some (.cells #[.bool out, .string key, .string val] 62 (0, 0))) (first | exact kA0 | exact kA1) (first | (go_at_call 26; refine hpl.out.mono ?_; rintro e w4 ⟨v4, rfl, h4⟩; dsimp only; have kA1 := h4.st (t := 2) rfl; have hg1 := hide (ref10_get (R.frAt (f := pk10) (fun _ => rfl) h4 (app_last (l := [BaseK w, MemK m, StK pb #[.bool out, .string key, .string val] 62]))) key); have h5 := hide (R.left h4); clear h4) | (go_at_call 11; refine hg1.out.mono ?_; rintro e w5 ⟨rfl, rfl⟩; dsimp only))
  exact hP.out _ _ _ _ _ _ _ _ _ _ _ h5.out
set_option maxRecDepth 1000000 in
set_option maxHeartbeats 6400000 in
theorem law12_waits {w wr : World} {m : MemS} {k pb : Nat} {p : Ak} {lv fv : Value} (hR : R [BaseK w, MemK m, StK pb (actC p) 62] wr)
    (c0 c3 c4 c5 c6 c8 c9 c12 c13 c14 c15 c16 c17 c18 c19 c20 c21 c22 c23 c24 c25 c26 c27 c28 c29 c30 c31 c32 c33 c34 c35 c36 c37 c38 c39 c40 c41 c42 c43 c44 c45 c46 c47 c48 c49 c50 c51 c52 c53 c54 c55 c56 c57 c58 c59 c60 c61 c62 c64 c66 c67 c68 c69 c70 c71 c72 c73 c74 c75 c76 c77 c78 c79 c80 c81 c82 c83 c84 c85 c86 c87 c88 c89 c90 c91 c92 c93 c94 c95 c96 c97 c98 c99 c100 c101 c102 c103 c104 c105 c106 c107 c108 c109 c110 c111 c112 c113 c114 c115 c116 c117 c118 c119 c120 c121 c122 c123 c124 c125 c126 c127 c128 c129 c130 c131 c132 c133 c134 c135 c136 c137 c138 c139 c140 c141 c142 c143 c144 c145 c146 c147 c148 c149 c150 c151 c152 c153 c154 c155 c156 c157 c158 c159 c160 c161 c162 c163 c164 c165 c166 c167 c168 c169 c170 c171 c172 c173 c174 c175 c176 c177 c178 c179 c180 c181 c182 c183 c184 c185 c186 c187 c188 c189 c190 c191 c192 c193 c194 c195 c196 c197 c198 c199 c200 c201 c202 c203 c204 c205 c206 c207 c208 c209 c210 c211 c212 c213 c214 c215 c216 c217 c218 c219 c220 c221 c222 c223 c224 c225 c226 c227 c228 c229 c230 c231 c232 c233 c234 c235 c236 c237 c238 c239 c240 c241 c242 c243 c244 c245 c246 c247 c248 c249 c250 c251 c252 c253 c254 c255 c256 c257 c258 c259 c260 c261 c262 c263 c264 c265 c266 c267 c268 c269 c270 c271 c272 c273 c274 c275 c276 c277 c278 c279 : Value) {P : Exit → Act → World → Prop}
    (hP : ∀ (d104 d105 : Value) (w' : World), R [BaseK w, MemK m, StK pb (actC p) 62] w' → P .normal ⟨#[c0, lv, fv, c3, c4, c5, c6, .pointer (some ⟨m.b, 0, none⟩), c8, c9, .int .i64 k, .pointer (some ⟨pb, 0, none⟩), c12, c13, .int .i64 m.waiting.length, c15, c16, c17, c18, c19, c20, c21, c22, c23, c24, c25, c26, c27, c28, c29, c30, c31, c32, c33, c34, c35, c36, c37, c38, c39, c40, c41, c42, c43, c44, c45, c46, c47, c48, c49, c50, c51, c52, c53, c54, c55, c56, c57, c58, c59, c60, c61, c62, lv, c64, .int .i64 k, c66, c67, c68, c69, c70, c71, c72, c73, c74, c75, c76, c77, c78, c79, c80, c81, c82, c83, c84, c85, c86, c87, c88, c89, c90, c91, c92, c93, c94, c95, c96, c97, c98, c99, c100, c101, c102, c103, d104, d105, c106, c107, c108, c109, c110, c111, c112, c113, c114, c115, c116, c117, c118, c119, c120, c121, c122, c123, c124, c125, c126, c127, c128, c129, c130, c131, c132, c133, c134, c135, c136, c137, c138, c139, c140, c141, c142, c143, c144, c145, c146, c147, c148, c149, c150, c151, c152, c153, c154, c155, c156, c157, c158, c159, c160, c161, c162, c163, c164, c165, c166, c167, c168, c169, c170, c171, c172, c173, c174, c175, c176, c177, c178, c179, c180, c181, c182, c183, c184, c185, c186, c187, c188, c189, c190, c191, c192, c193, c194, c195, c196, c197, c198, c199, c200, c201, c202, c203, c204, c205, c206, c207, c208, c209, c210, c211, c212, c213, c214, c215, c216, c217, c218, c219, c220, c221, c222, c223, c224, c225, c226, c227, c228, c229, c230, c231, c232, c233, c234, c235, c236, c237, c238, c239, c240, c241, c242, c243, c244, c245, c246, c247, c248, c249, c250, c251, c252, c253, c254, c255, c256, c257, c258, c259, c260, c261, c262, c263, c264, c265, c266, c267, c268, c269, c270, c271, c272, c273, c274, c275, c276, c277, c278, c279], []⟩ w') :
    Code.wp Tryz.prog (fstC (dPart 17)) P ⟨#[c0, lv, fv, c3, c4, c5, c6, .pointer (some ⟨m.b, 0, none⟩), c8, c9, .int .i64 k, .pointer (some ⟨pb, 0, none⟩), c12, c13, c14, c15, c16, c17, c18, c19, c20, c21, c22, c23, c24, c25, c26, c27, c28, c29, c30, c31, c32, c33, c34, c35, c36, c37, c38, c39, c40, c41, c42, c43, c44, c45, c46, c47, c48, c49, c50, c51, c52, c53, c54, c55, c56, c57, c58, c59, c60, c61, c62, lv, c64, .int .i64 k, c66, c67, c68, c69, c70, c71, c72, c73, c74, c75, c76, c77, c78, c79, c80, c81, c82, c83, c84, c85, c86, c87, c88, c89, c90, c91, c92, c93, c94, c95, c96, c97, c98, c99, c100, c101, c102, c103, c104, c105, c106, c107, c108, c109, c110, c111, c112, c113, c114, c115, c116, c117, c118, c119, c120, c121, c122, c123, c124, c125, c126, c127, c128, c129, c130, c131, c132, c133, c134, c135, c136, c137, c138, c139, c140, c141, c142, c143, c144, c145, c146, c147, c148, c149, c150, c151, c152, c153, c154, c155, c156, c157, c158, c159, c160, c161, c162, c163, c164, c165, c166, c167, c168, c169, c170, c171, c172, c173, c174, c175, c176, c177, c178, c179, c180, c181, c182, c183, c184, c185, c186, c187, c188, c189, c190, c191, c192, c193, c194, c195, c196, c197, c198, c199, c200, c201, c202, c203, c204, c205, c206, c207, c208, c209, c210, c211, c212, c213, c214, c215, c216, c217, c218, c219, c220, c221, c222, c223, c224, c225, c226, c227, c228, c229, c230, c231, c232, c233, c234, c235, c236, c237, c238, c239, c240, c241, c242, c243, c244, c245, c246, c247, c248, c249, c250, c251, c252, c253, c254, c255, c256, c257, c258, c259, c260, c261, c262, c263, c264, c265, c266, c267, c268, c269, c270, c271, c272, c273, c274, c275, c276, c277, c278, c279], []⟩ wr := by
  have hwt := hide (mem_waiting hR (t := 1) rfl)
  replace hP := hide hP
  replace hR := hide hR
  conv => arg 2; whnf
  go_wp2_with fail
  refine hwt.out.mono ?_
  rintro e w6 ⟨rfl, rfl⟩
  dsimp only
  go_wp2_with fail
  exact hP.out _ _ _ hR.out
end Go.Proofs.YtcgfknpobifecaaGreat

namespace Go.Proofs.YtcgfknpobifecaaGreat
open Go.RowKit

section
variable {m m' : MemS} {n base B : Nat} {chs : Nat → List Int} {want W : List Pk} {ys : List Int}
theorem MapM.cut (h : MapM m n base chs want) (hc1 : m'.cells.length = m.cells.length) (hc2 : m'.cells.getD 1 0 = m.cells.getD 1 0) (hc3 : m'.tables = m.tables)
    (hc4 : ∀ B', B' < n → B' ≠ B → m'.cells.getD (base + B') 0 = m.cells.getD (base + B') 0)
    (hold : ∀ y ∈ nodesC n chs, (readNd m'.ss y).key = (readNd m.ss y).key ∧ (readNd m'.ss y).val = (readNd m.ss y).val ∧ (readNd m'.ss y).sum = (readNd m.ss y).sum)
    (hch : Chn m'.ss (m'.cells.getD (base + B) 0) ys) (hoth : ∀ B', B' < n → B' ≠ B → Chn m'.ss (m.cells.getD (base + B') 0) (chs B'))
    (hsub : ∀ y ∈ ys, y ∈ chs B)
    (hp : Pool m'.ss (nodesC n (updC chs B ys) ++ m'.waiting)) (hW : ((nodesC n (updC chs B ys)).map (entC m.ss)).Perm W) (hWn : (W.map Pk.key).Nodup)
    (hlk : m'.locks = m.locks) (hf : m'.fault = false) (hln : m'.ss.length ≤ 1024) (hg : GenOk m'.ss m'.gen ∧ m'.gen ≤ 1000000) :
    MapM m' n base (updC chs B ys) W := by
  have hR : ∀ y ∈ nodesC n (updC chs B ys), y ∈ nodesC n chs := fun y hy => by
    obtain ⟨B', hB', hy'⟩ := mem_nodesC.1 hy
    by_cases he : B' = B
    · subst he
      rw [updC_at] at hy'
      exact mem_nodesC.2 ⟨B', hB', hsub y hy'⟩
    · rw [updC_ne _ _ he] at hy'
      exact mem_nodesC.2 ⟨B', hB', hy'⟩
  have hold' : ∀ B', B' < n → ∀ y ∈ chs B', (readNd m'.ss y).sum = sumOf (readNd m'.ss y).key ∧ sumOf (readNd m'.ss y).key % n = B' := fun B' hB' y hy => by
    obtain ⟨e1, _, e3⟩ := hold y (mem_nodesC.2 ⟨B', hB', hy⟩)
    rw [e1, e3]
    exact h.right B' hB' y hy
  refine ⟨h.pw, h.n0, ?_, h.lo, by rw [hc1]; exact h.hi, fun B' hB' => ?_, fun B' hB' y hy => ?_, hp, ?_, hWn, hlk.trans h.locks, hf, hln, hg⟩
  · rw [hc2, descOf_tab hc3]; exact h.tab
  · by_cases he : B' = B
    · subst he; rw [updC_at]; exact hch
    · rw [updC_ne _ _ he, hc4 B' hB' he]; exact hoth B' hB' he
  · by_cases he : B' = B
    · subst he
      rw [updC_at] at hy
      exact hold' B' hB' y (hsub y hy)
    · rw [updC_ne _ _ he] at hy
      exact hold' B' hB' y hy
  · rw [List.map_congr_left (g := entC m.ss) fun y hy => by
      obtain ⟨e1, e2, _⟩ := hold y (hR y hy)
      unfold entC
      rw [e1, e2]]
    exact hW
end
section
variable {m : MemS} {n base B : Nat} {chs : Nat → List Int} {want : List Pk} {key : ByteArray} {ws : WalkS}
theorem MapM.delOld (h : MapM m n base chs want) (hB : sumOf key % n = B) {x0 : Int} {pre post : List Int} (hx : chs B = pre ++ x0 :: post) (hkey : (readNd m.ss x0).key = key) (hf : ws.found = true) (hat : ws.at_ = x0) (hnode : ws.node = readNd m.ss x0) (hprev : ws.prev = lastD pre 0) :
    ∃ W, MapM (delDone m ((base + B : Nat) : Int) ws) n base (updC chs B (pre ++ post)) W ∧ want.Perm (⟨key, (readNd m.ss x0).val⟩ :: W) ∧ SameM m (delDone m ((base + B : Nat) : Int) ws) ∧ (delDone m ((base + B : Nat) : Int) ws).waiting = m.waiting ++ [x0] := by
  have hBn : B < n := by rw [← hB]; exact Nat.mod_lt _ h.n0
  have hhi := h.hi
  have hlo := h.lo
  have hlive : ∀ y ∈ nodesC n chs, 0 ≤ atA m.ss y := fun y hy => (h.pool.live y (List.mem_append.2 (.inl hy))).1
  have hperm : (nodesC n chs).Perm (x0 :: nodesC n (updC chs B (pre ++ post))) := by
    have := flat_ins (updC chs B (pre ++ post)) x0 (updC_at _ _ _) n hBn
    rw [updC_updC, ← hx, updC_same] at this
    exact this
  have hw : want.Perm (⟨key, (readNd m.ss x0).val⟩ :: (nodesC n (updC chs B (pre ++ post))).map (entC m.ss)) := by
    refine h.ents.symm.trans ((hperm.map _).trans ?_)
    rw [List.map_cons, show entC m.ss x0 = ⟨key, (readNd m.ss x0).val⟩ by unfold entC; rw [hkey]]
  have hwk := ((hw.map Pk.key).nodup_iff).1 h.keys
  rw [List.map_cons, List.nodup_cons] at hwk
  have hsub : ∀ y ∈ pre ++ post, y ∈ chs B := fun y hy => by
    rw [hx]
    rcases List.mem_append.1 hy with h1 | h1
    · exact List.mem_append.2 (.inl h1)
    · exact List.mem_append.2 (.inr (List.mem_cons_of_mem _ h1))
  have hpool : Pool m.ss (nodesC n (updC chs B (pre ++ post)) ++ (m.waiting ++ [x0])) := by
    refine h.pool.perm ?_
    rw [← List.append_assoc]
    exact (List.perm_append_singleton _ _).trans (hperm.symm.append_right m.waiting)
  have hchain := h.chain B hBn
  rw [hx] at hchain
  refine ⟨(nodesC n (updC chs B (pre ++ post))).map (entC m.ss), ?_⟩
  cases hpre : pre with
  | nil =>
    subst hpre
    have hp0 : ws.prev = 0 := hprev
    have e : delDone m ((base + B : Nat) : Int) ws = { m with cells := m.cells.set (base + B) (readNd m.ss x0).next, waiting := m.waiting ++ [x0] } := by
      rw [delDone, if_pos hf, overM, if_neg (fun h => h hp0), storeAt, if_pos ⟨by omega, by omega⟩, Int.toNat_natCast, hat, if_pos hf, hnode]
    rw [e]
    refine ⟨?_, hw, ⟨rfl, rfl, rfl, rfl, rfl, rfl, rfl, rfl, fun k hk => getD_set_no' _ _ (by omega)⟩, rfl⟩
    refine MapM.cut (m' := { m with cells := m.cells.set (base + B) (readNd m.ss x0).next, waiting := m.waiting ++ [x0] }) h (List.length_set ..) (getD_set_no' _ _ (by omega)) rfl
      (fun B' hB' hne => getD_set_no' _ _ (by omega)) (fun y hy => ⟨rfl, rfl, rfl⟩) ?_ (fun B' hB' hne => h.chain B' hB') hsub hpool (List.Perm.refl _) hwk.2 rfl h.fault h.len h.gen
    dsimp only
    rw [getD_set_at' _ _ (by omega), List.nil_append]
    exact Chn.tail (pre := []) hchain
  | cons y0 pre' =>
    have hpne : pre ≠ [] := by rw [hpre]; simp
    rw [← hpre]
    clear hpre
    have hpm : ws.prev ∈ pre := by rw [hprev]; exact lastD_mem hpne
    have hpB : ws.prev ∈ chs B := hsub _ (List.mem_append.2 (.inl hpm))
    have hpl := h.live hBn hpB
    have hp0 : ws.prev ≠ 0 := ((h.chain B hBn).live _ hpB).1
    obtain ⟨j, hj, _⟩ := atA_lt m.ss ws.prev hpl
    have hnB := h.nodupB hBn
    rw [hx] at hnB
    have hnp := List.nodup_append.1 hnB
    have hppost : ws.prev ∉ post := fun hm => (hnp.2.2 ws.prev hpm ws.prev (List.mem_cons_of_mem _ hm)) rfl
    have e : delDone m ((base + B : Nat) : Int) ws = { m with ss := m.ss.set j (nextS (m.ss.getD j slot0) (readNd m.ss x0).next), waiting := m.waiting ++ [x0] } := by
      rw [delDone, if_pos hf, overM, if_pos hp0, hat, linkM, if_pos hf, hnode]
      dsimp only
      rw [linkS_is hj, useFault, if_pos (by rw [hj]; omega)]
    rw [e]
    refine ⟨?_, hw, ⟨rfl, rfl, rfl, rfl, rfl, rfl, by show (m.ss.set j _).length = _; rw [List.length_set], rfl, fun k hk => rfl⟩, rfl⟩
    refine MapM.cut (m' := { m with ss := m.ss.set j (nextS (m.ss.getD j slot0) (readNd m.ss x0).next), waiting := m.waiting ++ [x0] }) h rfl rfl rfl (fun _ _ _ => rfl) (fun y hy => ?_) ?_ (fun B' hB' hne => (h.chain B' hB').besides hj fun hm => ?_) hsub (hpool.next hj)
      (List.Perm.refl _) hwk.2 rfl h.fault (by dsimp only; rw [List.length_set]; exact h.len) ⟨h.gen.1.set _ _ (h.gen.1 j), h.gen.2⟩
    · have hy0 := hlive y hy
      dsimp only
      rw [link_rd hj hy0]
      by_cases hyp : y = ws.prev
      · rw [if_pos hyp, hyp]; exact ⟨rfl, rfl, rfl⟩
      · rw [if_neg hyp]; exact ⟨rfl, rfl, rfl⟩
    · exact Chn.link hj (hchain.tail.besides hj hppost) hpne (fun d => (lastD_any d 0 hpne).trans hprev.symm) hnp.1 hchain
    · have h1 := (h.right B' hB' _ hm).2
      have h2 := (h.right B hBn _ hpB).2
      exact hne (h1.symm.trans h2)
/-- What is so behind a del. -/
def DelPost (m : MemS) (n base : Nat) (want : List Pk) (key : ByteArray) (m' : MemS) (s' : DelS) : Prop :=
  SameM m m' ∧ s'.mine = 0 ∧ ((key ∉ want.map Pk.key ∧ fnd s'.wk = false ∧ fndVal s'.wk = ⟨#[]⟩ ∧ m' = m) ∨
    (key ∈ want.map Pk.key ∧ fnd s'.wk = true ∧ ∃ chs' W, MapM m' n base chs' W ∧ want.Perm (⟨key, fndVal s'.wk⟩ :: W) ∧ m'.waiting.length = m.waiting.length + 1))
theorem MapM.del (h : MapM m n base chs want) (hl : m.ss.length ≤ 100) (k : Nat) (key : ByteArray) :
    ∃ N m' s', finM (frReady delReady) (frStep delStep) 300 0 (m, del0 k key) = (N, true, m', s') ∧ DelPost m n base want key m' s' := by
  obtain ⟨B, hB⟩ : ∃ B, sumOf key % n = B := ⟨_, rfl⟩
  have hBn : B < n := by rw [← hB]; exact Nat.mod_lt _ h.n0
  have hcell : ((base + B : Nat) : Int) = ((n : Int), (base : Int)).2 + bucketOf (sumOf key) ((n : Int), (base : Int)).1 := by
    show _ = (base : Int) + bucketOf (sumOf key) (n : Int)
    rw [bucketOf_nat _ _ h.pw, hB]
    omega
  have hlk := lockOf_is (sumOf key) (n : Int) (Int.natCast_nonneg _)
  have hx : Chn m.ss (cellAt m ((base + B : Nat) : Int)) (chs B) := by rw [cellAt_nat]; exact h.chain B hBn
  have hlen : (chs B).length ≤ 100 := by
    have h1 := (flat_sub chs n hBn).length_le
    have h2 := h.pool.count
    rw [List.length_append] at h2
    have : (nodesC n chs).length = ((List.range n).flatMap chs).length := rfl
    omega
  have hfl : m.locks.getD (lockOf (sumOf key) (n : Int)).toNat 0 = -1 := h.freeLock (by omega)
  obtain ⟨N, s', h1, h2, h3⟩ := del_run (k := k) h.tab hfl hcell hx hlen
  have hsc := h.scan hB
  generalize wScan m.ss key (chs B) (wLook ((base + B : Nat) : Int) key (cellAt m ((base + B : Nat) : Int))) = ws at *
  refine ⟨N, _, s', h1, ?_⟩
  rcases hsc with ⟨c1, c2, _⟩ | ⟨pre, x0, post, c1, c2, c3, c4, c5, c6, c7⟩
  · have e : delDone m ((base + B : Nat) : Int) ws = m := by rw [delDone, c2]; rfl
    rw [e]
    exact ⟨⟨rfl, rfl, rfl, rfl, rfl, rfl, rfl, rfl, fun _ _ => rfl⟩, h2, .inl ⟨c1, by rw [h3]; exact c2, by rw [h3]; simp [fndVal, c2], rfl⟩⟩
  · obtain ⟨W, e1, e2, e3, e4⟩ := h.delOld hB c1 c2 c4 c5 c6 c7
    have ev : fndVal s'.wk = (readNd m.ss x0).val := by rw [h3]; simp [fndVal, c4, c6]
    exact ⟨e3, h2, .inr ⟨c3, by rw [h3]; exact c4, _, W, e1, by rw [ev]; exact e2, by rw [e4]; simp⟩⟩
end
theorem finM_more {σ : Type} {r : σ → Bool} {st : σ → σ × Bool} : ∀ {f n : Nat} {s : σ} {N : Nat} {s' : σ} (k : Nat), finM r st f n s = (N, true, s') → finM r st (f + k) n s = (N, true, s')
  | 0, n, s, N, s', k, h => by
    have h : (n, false, s) = (N, true, s') := h
    simp at h
  | f + 1, n, s, N, s', k, h => by
    have e : ∀ g, finM r st (g + 1) n s = if r s then (if (st s).2 then (n + 1, true, (st s).1) else finM r st g (n + 1) (st s).1) else (n, false, s) := fun _ => rfl
    rw [show f + 1 + k = f + k + 1 by omega, e]
    rw [e] at h
    split
    · rename_i hr
      rw [if_pos hr] at h
      split
      · rename_i hs
        rw [if_pos hs] at h
        exact h
      · rename_i hs
        rw [if_neg hs] at h
        exact finM_more k h
    · rename_i hr
      rw [if_neg hr] at h
      exact h
end Go.Proofs.YtcgfknpobifecaaGreat
