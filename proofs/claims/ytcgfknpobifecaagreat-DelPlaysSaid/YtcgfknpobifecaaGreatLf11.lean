/- quietuslaw11: PutPlays: a round's beginning, regions 13 to 17. Condition: its objects are there. (Written by wip/gen/gen11.py from wip/gen/Lf11.body, which mk_Lf11.py wrote.) -/
import Derived.Test.YtcgfknpobifecaaGreatLd11m
namespace Go.Proofs.YtcgfknpobifecaaGreat
open Go.RowKit

noncomputable def part13 : Code := (Tryz.f3.body.bind (findG 13)).getD .skip
def okPk11 (p : Pk) : Prop := p.key.size ≤ 140737488355328 ∧ p.val.size ≤ 140737488355328
set_option maxRecDepth 1000000 in
set_option maxHeartbeats 6400000 in
theorem law11_begin {w wr : World} {m : MemS} {n base room k : Nat} {chs : Nat → List Int} {want ls : List Pk} {frees : List Bool} {wv lv fv : Value} (hl : FrAt w w.heap.size 2 lv (ls.map pk10)) (hf : FrAt w w.heap.size 1 fv (frees.map fun x => [Value.bool x])) (hin : ∀ p ∈ ls, okPk11 p) (hk : k < ls.length)
    (hR : R [BaseK w, MemK m, PairsK wv want] wr) (hM : MapM m n base chs want) (_hk50 : ls.length ≤ 50) (_hf50 : frees.length ≤ 50) (h2 : m.workers = 2) (hi0 : m.cells.getD 2 0 = 0) (hi1 : m.cells.getD 3 0 = 0) (hwt : m.waiting.length ≤ 100) (hgn : m.gen ≤ 10000)
    (c0 c1 c2 c4 c5 c6 c7 c8 c11 c12 c14 c15 c16 c17 c18 c19 c20 c21 c22 c23 c24 c25 c26 c27 c28 c29 c30 c31 c32 c33 c34 c35 c36 c37 c38 c39 c40 c41 c42 c43 c44 c45 c46 c47 c48 c49 c50 c51 c52 c53 c54 c55 c56 c57 c58 c59 c60 c61 c62 c63 c64 c66 c68 c69 c70 c71 c72 c73 c74 c75 c76 c77 c78 c79 c80 c81 c82 c83 c84 c85 c86 c87 c88 c89 c90 c91 c92 c93 c94 c95 c96 c97 c98 c99 c100 c101 c102 c103 c104 c105 c106 c107 c108 c109 c110 c111 c112 c113 c114 c115 c116 c117 c118 c119 c120 c121 c122 c123 c124 c125 c126 c127 c128 c129 c130 c131 c132 c133 c134 c135 c136 c137 c138 c139 c140 c141 c142 c143 c144 c145 c146 c147 c148 c149 c150 c151 c152 c153 c154 c155 c156 c157 c158 c159 c160 c161 c162 c163 c164 c165 c166 c167 c168 c169 c170 c171 c172 c173 c174 c175 c176 c177 c178 c179 c180 c181 c182 c183 c184 c185 c186 c187 c188 c189 c190 c191 c192 c193 c194 c195 c196 c197 c198 c199 c200 c201 c202 c203 c204 c205 c206 c207 c208 c209 c210 c211 c212 c213 c214 c215 c216 c217 c218 c219 c220 c221 c222 c223 c224 c225 c226 c227 c228 c229 c230 c231 c232 c233 c234 c235 c236 c237 c238 c239 c240 c241 c242 c243 c244 c245 c246 c247 c248 c249 c250 c251 c252 c253 c254 c255 c256 c257 c258 c259 c260 c261 c262 c263 c264 c265 c266 c267 c268 c269 c270 c271 : Value) {P : Exit → Act → World → Prop}
    (hP : ∀ (d69 d70 d71 d72 d73 d74 d75 d76 d77 d78 d79 d80 d81 d82 d83 d84 d85 d86 d87 d88 d89 d90 d91 d92 d93 d94 d95 : Value) (pb : Nat) (p : Pk) (m' : MemS) (w' : World), p ∈ ls → m' = m ∨ m' = freeAll m → R [BaseK w, MemK m', PairsK wv want, StK pb #[.string p.key, .string p.val] 40] w' → Code.wp Tryz.prog part18 P ⟨#[c0, c1, c2, fv, c4, c5, c6, c7, c8, .int .i64 room, .pointer (some ⟨m.b, 0, none⟩), c11, c12, wv, .int .i64 k, .pointer (some ⟨pb, 0, none⟩), c16, c17, c18, c19, c20, c21, c22, c23, c24, c25, c26, c27, c28, c29, c30, c31, c32, c33, c34, c35, c36, c37, c38, c39, c40, c41, c42, c43, c44, c45, c46, c47, c48, c49, c50, c51, c52, c53, c54, c55, c56, c57, c58, c59, c60, c61, c62, c63, c64, lv, c66, .int .i64 k, c68, d69, d70, d71, d72, d73, d74, d75, d76, d77, d78, d79, d80, d81, d82, d83, d84, d85, d86, d87, d88, d89, d90, d91, d92, d93, d94, d95, c96, c97, c98, c99, c100, c101, c102, c103, c104, c105, c106, c107, c108, c109, c110, c111, c112, c113, c114, c115, c116, c117, c118, c119, c120, c121, c122, c123, c124, c125, c126, c127, c128, c129, c130, c131, c132, c133, c134, c135, c136, c137, c138, c139, c140, c141, c142, c143, c144, c145, c146, c147, c148, c149, c150, c151, c152, c153, c154, c155, c156, c157, c158, c159, c160, c161, c162, c163, c164, c165, c166, c167, c168, c169, c170, c171, c172, c173, c174, c175, c176, c177, c178, c179, c180, c181, c182, c183, c184, c185, c186, c187, c188, c189, c190, c191, c192, c193, c194, c195, c196, c197, c198, c199, c200, c201, c202, c203, c204, c205, c206, c207, c208, c209, c210, c211, c212, c213, c214, c215, c216, c217, c218, c219, c220, c221, c222, c223, c224, c225, c226, c227, c228, c229, c230, c231, c232, c233, c234, c235, c236, c237, c238, c239, c240, c241, c242, c243, c244, c245, c246, c247, c248, c249, c250, c251, c252, c253, c254, c255, c256, c257, c258, c259, c260, c261, c262, c263, c264, c265, c266, c267, c268, c269, c270, c271], []⟩ w')
    (hP3 : ∀ (d69 d70 d71 d72 d73 d74 d75 d76 d77 d78 d79 d80 d81 d82 d83 d84 d85 d86 d87 d88 d89 d90 d91 d92 d93 d94 d95 : Value) (pb : Nat) (w' : World), Below w.heap.size w w' → P .ret ⟨#[c0, c1, c2, fv, c4, c5, c6, c7, .bool true, .int .i64 room, .pointer (some ⟨m.b, 0, none⟩), c11, c12, wv, .int .i64 k, .pointer (some ⟨pb, 0, none⟩), c16, c17, c18, c19, c20, c21, c22, c23, c24, c25, c26, c27, c28, c29, c30, c31, c32, c33, c34, c35, c36, c37, c38, c39, c40, c41, c42, c43, c44, c45, c46, c47, c48, c49, c50, c51, c52, c53, c54, c55, c56, c57, c58, c59, c60, c61, c62, c63, c64, lv, c66, .int .i64 k, c68, d69, d70, d71, d72, d73, d74, d75, d76, d77, d78, d79, d80, d81, d82, d83, d84, d85, d86, d87, d88, d89, d90, d91, d92, d93, d94, d95, c96, c97, c98, c99, c100, c101, c102, c103, c104, c105, c106, c107, c108, c109, c110, c111, c112, c113, c114, c115, c116, c117, c118, c119, c120, c121, c122, c123, c124, c125, c126, c127, c128, c129, c130, c131, c132, c133, c134, c135, c136, c137, c138, c139, c140, c141, c142, c143, c144, c145, c146, c147, c148, c149, c150, c151, c152, c153, c154, c155, c156, c157, c158, c159, c160, c161, c162, c163, c164, c165, c166, c167, c168, c169, c170, c171, c172, c173, c174, c175, c176, c177, c178, c179, c180, c181, c182, c183, c184, c185, c186, c187, c188, c189, c190, c191, c192, c193, c194, c195, c196, c197, c198, c199, c200, c201, c202, c203, c204, c205, c206, c207, c208, c209, c210, c211, c212, c213, c214, c215, c216, c217, c218, c219, c220, c221, c222, c223, c224, c225, c226, c227, c228, c229, c230, c231, c232, c233, c234, c235, c236, c237, c238, c239, c240, c241, c242, c243, c244, c245, c246, c247, c248, c249, c250, c251, c252, c253, c254, c255, c256, c257, c258, c259, c260, c261, c262, c263, c264, c265, c266, c267, c268, c269, c270, c271], []⟩ w') :
    Code.wp Tryz.prog part13 P ⟨#[c0, c1, c2, fv, c4, c5, c6, c7, c8, .int .i64 room, .pointer (some ⟨m.b, 0, none⟩), c11, c12, wv, c14, c15, c16, c17, c18, c19, c20, c21, c22, c23, c24, c25, c26, c27, c28, c29, c30, c31, c32, c33, c34, c35, c36, c37, c38, c39, c40, c41, c42, c43, c44, c45, c46, c47, c48, c49, c50, c51, c52, c53, c54, c55, c56, c57, c58, c59, c60, c61, c62, c63, c64, lv, c66, .int .i64 k, c68, c69, c70, c71, c72, c73, c74, c75, c76, c77, c78, c79, c80, c81, c82, c83, c84, c85, c86, c87, c88, c89, c90, c91, c92, c93, c94, c95, c96, c97, c98, c99, c100, c101, c102, c103, c104, c105, c106, c107, c108, c109, c110, c111, c112, c113, c114, c115, c116, c117, c118, c119, c120, c121, c122, c123, c124, c125, c126, c127, c128, c129, c130, c131, c132, c133, c134, c135, c136, c137, c138, c139, c140, c141, c142, c143, c144, c145, c146, c147, c148, c149, c150, c151, c152, c153, c154, c155, c156, c157, c158, c159, c160, c161, c162, c163, c164, c165, c166, c167, c168, c169, c170, c171, c172, c173, c174, c175, c176, c177, c178, c179, c180, c181, c182, c183, c184, c185, c186, c187, c188, c189, c190, c191, c192, c193, c194, c195, c196, c197, c198, c199, c200, c201, c202, c203, c204, c205, c206, c207, c208, c209, c210, c211, c212, c213, c214, c215, c216, c217, c218, c219, c220, c221, c222, c223, c224, c225, c226, c227, c228, c229, c230, c231, c232, c233, c234, c235, c236, c237, c238, c239, c240, c241, c242, c243, c244, c245, c246, c247, c248, c249, c250, c251, c252, c253, c254, c255, c256, c257, c258, c259, c260, c261, c262, c263, c264, c265, c266, c267, c268, c269, c270, c271], []⟩ wr := by
  have hbel : Below w.heap.size w wr := hR.done
  obtain ⟨a, cap, rfl, hlen, -⟩ := id hl
  obtain ⟨_, _, hv2, -, hr⟩ := hl.below hbel
  obtain ⟨vb, voff, ha, hvb, hc0⟩ := hr k (by simpa using hk)
  simp at hv2
  obtain ⟨rfl, rfl⟩ := hv2
  subst ha
  have hget : (ls.map pk10).getD k [] = pk10 (ls.getD k pk0) := by simp [hk]
  rw [hget] at hc0
  have hpm : ls.getD k pk0 ∈ ls := by
    rw [show ls.getD k pk0 = ls[k] by simp [hk]]
    exact List.getElem_mem _
  obtain ⟨z1, z2⟩ := hin _ hpm
  generalize ls.getD k pk0 = p at *
  obtain ⟨key, val⟩ := p
  dsimp only at z1 z2
  obtain ⟨u0, e0, c0⟩ := hc0 0 (by decide)
  obtain ⟨u1, e1, c1⟩ := hc0 1 (by decide)
  obtain rfl : Value.string key = u0 := Option.some.inj e0
  obtain rfl : Value.string val = u1 := Option.some.inj e1
  simp only [Nat.add_zero] at c0
  obtain ⟨fa, fcap, rfl, hflen, -⟩ := id hf
  rw [List.length_map] at hlen hflen hP hP3 ⊢
  rw [List.length_map] at hP hP3 ⊢
  have h3 := hR.new #[.string key, .string val] 40
  have hb3 := blk_new wr (.cells #[.string key, .string val] 40)
  have hki : (k : Int) < (ls.length : Int) := by omega
  replace hP := hide hP
  replace hP3 := hide hP3
  replace hpm := hide hpm
  replace hf := hide hf
  replace h3 := hide h3
  clear hr hget hc0 e0 e1 hR hin hl
  conv => arg 2; whnf
  go_upto_region 14 with fail
  generalize wr.alloc (.cells #[.string key, .string val] 40) = w3 at *
  generalize wr.heap.size = pb at *
  have es : IntKind.i64.wrap ((key.size : Int) + (val.size : Int)) = ((key.size + val.size : Nat) : Int) := by rw [IntKind.wrap_i64]; omega
  by_cases hbig : 200 < key.size + val.size
  · have hgt : decide ((200 : Int) < ((key.size + val.size : Nat) : Int)) = true := decide_eq_true (by omega)
    have hgt2 : (200 : Int) < ((key.size + val.size : Nat) : Int) := by omega
    go_wp2_with fail
    refine (law11_awake _).mono ?_
    rintro e w4 ⟨rfl, hb4⟩
    dsimp only
    have hbel4 := hide ((h3.out.below hb4).done)
    clear hb4
    go_wp2_with fail
    apply hP3.out
    exact hbel4.out
  · have hgt : decide ((200 : Int) < ((key.size + val.size : Nat) : Int)) = false := decide_eq_false (by omega)
    have hgt2 : ¬ (200 : Int) < ((key.size + val.size : Nat) : Int) := by omega
    by_cases hkf : k < frees.length
    · have hkf2 : (k : Int) < (frees.length : Int) := by omega
      have hbel3 := h3.out.done
      obtain ⟨_, _, hv3, -, hr3⟩ := hf.out.below hbel3
      obtain ⟨fb, foff, ha3, hfb, hc3⟩ := hr3 k (by simpa using hkf)
      simp at hv3
      obtain ⟨rfl, rfl⟩ := hv3
      subst ha3
      have hget3 : (frees.map fun x => [Value.bool x]).getD k [] = [Value.bool (frees.getD k false)] := by simp [hkf]
      rw [hget3] at hc3
      generalize frees.getD k false = x at *
      obtain ⟨xv, ex, cx⟩ := hc3 0 (by decide)
      obtain rfl : Value.bool x = xv := Option.some.inj ex
      simp only [Nat.mul_one, Nat.add_zero] at cx
      clear hr3 hget3 hc3 ex hbel3
      cases x
      · go_upto_if 95 with fail
        refine wp_cond_false rfl ?_
        refine wp_skip ?_
        refine (‹∀ (a : Act) (w : World), Code.wp Tryz.prog _ _ a w → _›) _ _ ?_
        exact hP.out _ _ _ _ _ _ _ _ _ _ _ _ _ _ _ _ _ _ _ _ _ _ _ _ _ _ _ pb ⟨key, val⟩ m _ hpm.out (.inl rfl) h3.out
      · have hfr := hide (law11_free h3.out (t := 1) rfl h2 (hM.freeLock (by decide)) hi0 hi1 (by omega) (by omega))
        have hend : ∀ w', R (([BaseK w, MemK m, PairsK wv want] ++ [StK pb #[.string key, .string val] 40]).set 1 (MemK (freeAll m))) w' → R [BaseK w, MemK (freeAll m), PairsK wv want, StK pb #[.string key, .string val] 40] w' := fun w' h => h
        replace hend := hide hend
        clear h3
        go_wp2_with fail
        refine hfr.out.mono ?_
        rintro e w4 ⟨rfl, h4⟩
        dsimp only
        have h5 := hide (hend.out _ h4)
        clear h4 hfr
        go_upto_if 95 with fail
        refine wp_cond_false rfl ?_
        refine wp_skip ?_
        refine (‹∀ (a : Act) (w : World), Code.wp Tryz.prog _ _ a w → _›) _ _ ?_
        exact hP.out _ _ _ _ _ _ _ _ _ _ _ _ _ _ _ _ _ _ _ _ _ _ _ _ _ _ _ pb ⟨key, val⟩ (freeAll m) _ hpm.out (.inr rfl) h5.out
    · have hkf2 : ¬ (k : Int) < (frees.length : Int) := by omega
      go_upto_if 95 with fail
      refine wp_cond_false rfl ?_
      refine wp_skip ?_
      refine (‹∀ (a : Act) (w : World), Code.wp Tryz.prog _ _ a w → _›) _ _ ?_
      exact hP.out _ _ _ _ _ _ _ _ _ _ _ _ _ _ _ _ _ _ _ _ _ _ _ _ _ _ _ pb ⟨key, val⟩ m _ hpm.out (.inl rfl) h3.out
end Go.Proofs.YtcgfknpobifecaaGreat
