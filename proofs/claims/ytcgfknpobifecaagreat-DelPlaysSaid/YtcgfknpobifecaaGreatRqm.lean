/- quietusref11: Without; quietusref12: Play. Condition: the pairs, the acts are there, and few. quietuslaw12: DelPlays: a round's beginning, regions 11 to 15. Condition: its objects are there. (Written by wip/gen/gen11.py from wip/gen/Lb12.body, which mk_Lb12.py wrote.) -/
import Derived.Test.YtcgfknpobifecaaGreatRpm
import Derived.Test.YtcgfknpobifecaaGreatLa07m
import Derived.Test.YtcgfknpobifecaaGreatLa11m
import Derived.Test.YtcgfknpobifecaaGreatLc11
namespace Go.Proofs.YtcgfknpobifecaaGreat
open Go.RowKit

/-- What ref11.Without comes to. -/
def refWithout (key : ByteArray) (l : List Pk) : List Pk := l.filter fun p => decide (p.key ≠ key)
set_option maxRecDepth 100000 in
set_option maxHeartbeats 3200000 in
theorem ref11_without {l : List KObj} {w : World} {u : Nat} {v : Value} {ps : List Pk} (h : R l w) (hu : l[u]? = some (PairsK v ps)) (key : ByteArray) (hn : ps.length ≤ 1000000) :
    Calls Tryz.prog 56 #[v, .string key] w fun e w' => ∃ v', e = .returned v' ∧ R (l ++ [PairsK v' (refWithout key ps)]) w' := by
  obtain ⟨⟨a, cap, rfl⟩, _⟩ := h.slVal hu
  have hR0 := hide (h.slnil 40 2)
  clear h
  go_enter Tryz.func56, Tryz.ntmps56
  go_wp2_with fail
  go_loopw [5, 6] (fun ov i wr => ∃ (k : Nat) (o : List Pk), k ≤ ps.length ∧ i = .int .i64 k ∧ Hid (o ++ refWithout key (ps.drop k) = refWithout key ps ∧ o.length ≤ k) ∧ Hid (R (l ++ [PairsK ov o]) wr)) (fun _ i _ => ps.length - (intOf i).toNat)
  case atStart => exact ⟨0, [], Nat.zero_le _, rfl, hide ⟨rfl, Nat.le_refl _⟩, hR0⟩
  case round =>
    obtain ⟨k, o, hk, rfl, ho, hR⟩ := hrel
    clear hR0
    obtain ⟨⟨oa, oc, rfl⟩, _⟩ := hR.out.slVal app_last
    by_cases hlt : k < ps.length
    · obtain ⟨_, _, hv2, _, hr⟩ := R.frAt (f := pk10) (fun _ => rfl) hR.out (app_get hu)
      obtain ⟨vb, voff, ha, hvb, hc⟩ := hr k (by simpa using hlt)
      simp at hv2
      obtain ⟨rfl, rfl⟩ := hv2
      subst ha
      have hget : (ps.map pk10).getD k [] = pk10 (ps.getD k pk0) := by simp [hlt]
      have hd : ps.drop k = ps.getD k pk0 :: ps.drop (k + 1) := by
        rw [List.drop_eq_getElem_cons hlt]
        simp [hlt]
      rw [hget] at hc
      obtain ⟨y0, e0, c0⟩ := hc 0 (by decide)
      obtain ⟨y1, e1, c1⟩ := hc 1 (by decide)
      obtain rfl : Value.string (ps.getD k pk0).key = y0 := Option.some.inj e0
      obtain rfl : Value.string (ps.getD k pk0).val = y1 := Option.some.inj e1
      simp only [Nat.add_zero] at c0
      have ho2 := ho.out
      rw [hd, refWithout, List.filter_cons] at ho2
      have hol := ho.out.2
      clear hr hc ho hget hd e0 e1
      generalize ps.getD k pk0 = pp at *
      obtain ⟨pk, pv⟩ := pp
      dsimp only at c0 c1 ho2
      have hw1 : IntKind.i64.wrap ((k : Int) + 1) = ((k + 1 : Nat) : Int) := by rw [IntKind.wrap_i64]; omega
      have hki : (k : Int) < (ps.length : Int) := by omega
      by_cases hky : pk = key
      · rw [if_neg (by simp [hky])] at ho2
        replace ho2 := hide ho2
        subst hky
        go_wp2_with fail
        exact ⟨⟨k + 1, o, by omega, rfl, hide ⟨ho2.out.1, by omega⟩, hR⟩, by simp [intOf]; omega⟩
      · have hk1 : (pk.toList == key.toList) = false := by
          rw [beq_eq_false_iff_ne]
          exact fun x => hky (ByteArray.toList_inj' x)
        rw [if_pos (by simpa using hky)] at ho2
        have hdn : (o ++ [⟨pk, pv⟩]) ++ refWithout key (ps.drop (k + 1)) = refWithout key ps := by
          rw [← ho2.1]; simp [refWithout]
        replace hdn := hide hdn
        clear ho2 hky
        obtain ⟨o1, hr1, hs1⟩ := hR.out.get app_last
        replace hr1 := hide hr1
        clear hR
        go_wp2_with (at_builtin; refine push_pair rfl (.tmp 20) (.tmp 25) rfl _ _ _ rfl (SlAt.alloc hs1 _) _ 1 _ rfl (blk_new _ _) rfl (by intro u hu; simp at hu; rcases hu with rfl | rfl <;> rfl) (by omega) ?_)
        intro v7 w7 o2 hs2 he2 _ _
        have h7 := hr1.out.step (t := l.length) (q := PairsK v7 (o ++ [⟨pk, pv⟩])) (((Ext.refl o1 _ _).alloc _).trans he2) (fun y hy => by omega) (by unfold PairsK; rw [List.length_append, List.flatMap_append]; exact hs2)
        rw [List.set_append_right _ _ (Nat.le_refl _), Nat.sub_self, List.set_cons_zero] at h7
        replace h7 := hide h7
        clear hr1 hs1 hs2 he2
        go_wp2_with fail
        exact ⟨⟨k + 1, _, by omega, rfl, hide ⟨hdn.out, by rw [List.length_append]; simp; omega⟩, h7⟩, by simp [intOf]; omega⟩
    · obtain rfl : k = ps.length := by omega
      have ho2 := ho.out.1
      rw [List.drop_length, refWithout, List.filter_nil, List.append_nil] at ho2
      replace ho2 := hide ho2
      clear ho
      go_wp2_with fail
      go_ret
      exact ⟨_, rfl, by rw [← ho2.out]; exact hR.out⟩

/-- An act: a put, or a key taken out. -/
structure Ak where
  out : Bool
  key : ByteArray
  val : ByteArray
def ak0 : Ak := ⟨false, ⟨#[]⟩, ⟨#[]⟩⟩
def ak12 (a : Ak) : List Value := [.bool a.out, .string a.key, .string a.val]
def play1 (o : List Pk) (a : Ak) : List Pk := if a.out then refWithout a.key o else refPut a.key a.val false o
/-- What ref12.Play comes to. -/
def refPlay (ls : List Ak) : List Pk := ls.foldl play1 []
theorem refPlay_snoc (ls : List Ak) (a : Ak) : refPlay (ls ++ [a]) = play1 (refPlay ls) a := by simp [refPlay, List.foldl_append]
theorem play1_len (o : List Pk) (a : Ak) : (play1 o a).length ≤ o.length + 1 := by
  unfold play1
  split
  · have := List.length_filter_le (fun p : Pk => decide (p.key ≠ a.key)) o
    unfold refWithout
    omega
  · exact refPut_len _ _ _
theorem refPlay_take {ls : List Ak} {k : Nat} (h : k < ls.length) : refPlay (ls.take (k + 1)) = play1 (refPlay (ls.take k)) (ls.getD k ak0) := by
  rw [List.take_succ_eq_append_getElem h, refPlay_snoc]
  simp [h]
theorem refPlay_len {ls : List Ak} : ∀ k, k ≤ ls.length → (refPlay (ls.take k)).length ≤ k
  | 0, _ => by simp [refPlay]
  | k + 1, h => by
    rw [refPlay_take (by omega)]
    have := play1_len (refPlay (ls.take k)) (ls.getD k ak0)
    have := refPlay_len k (ls := ls) (by omega)
    omega
set_option maxRecDepth 100000 in
set_option maxHeartbeats 3200000 in
theorem ref12_play {w0 : World} {l : List KObj} {w : World} {v : Value} {ls : List Ak} (hv : FrAt w0 w0.heap.size 3 v (ls.map ak12)) (h : R (BaseK w0 :: l) w) (hn : ls.length ≤ 1000) :
    Calls Tryz.prog 26 #[v] w fun e w' => ∃ v', e = .returned v' ∧ R ((BaseK w0 :: l) ++ [PairsK v' (refPlay ls)]) w' := by
  obtain ⟨a, cap, rfl, hlen, -⟩ := id hv
  rw [List.length_map] at *
  have hR0 := hide (h.slnil 40 2)
  replace hv := hide hv
  clear h
  go_enter Tryz.func26, Tryz.ntmps26
  go_wp2_with fail
  go_loopw [3, 4] (fun ov i wr => ∃ (k : Nat), k ≤ ls.length ∧ i = .int .i64 k ∧ Hid (R ((BaseK w0 :: l) ++ [PairsK ov (refPlay (ls.take k))]) wr)) (fun _ i _ => ls.length - (intOf i).toNat)
  case atStart => exact ⟨0, Nat.zero_le _, rfl, hR0⟩
  case round =>
    obtain ⟨k, hk, rfl, hR⟩ := hrel
    clear hR0
    obtain ⟨⟨oa, oc, rfl⟩, _⟩ := hR.out.slVal app_last
    by_cases hlt : k < ls.length
    · have hbel : Below w0.heap.size w0 _ := hR.out.done
      obtain ⟨_, _, hv2, -, hr⟩ := hv.out.below hbel
      obtain ⟨vb, voff, ha, hvb, hc⟩ := hr k (by simpa using hlt)
      simp at hv2
      obtain ⟨rfl, rfl⟩ := hv2
      subst ha
      have hget : (ls.map ak12).getD k [] = ak12 (ls.getD k ak0) := by simp [hlt]
      rw [hget] at hc
      have hnx := refPlay_take hlt
      have hpl := refPlay_len k hk
      obtain ⟨y0, e0, c0⟩ := hc 0 (by decide)
      obtain ⟨y1, e1, c1⟩ := hc 1 (by decide)
      obtain ⟨y2, e2, c2⟩ := hc 2 (by decide)
      obtain rfl : Value.bool (ls.getD k ak0).out = y0 := Option.some.inj e0
      obtain rfl : Value.string (ls.getD k ak0).key = y1 := Option.some.inj e1
      obtain rfl : Value.string (ls.getD k ak0).val = y2 := Option.some.inj e2
      simp only [Nat.add_zero] at c0
      clear hr hc hget e0 e1 e2 hbel
      generalize ls.getD k ak0 = x at *
      obtain ⟨xo, xk, xv⟩ := x
      dsimp only at c0 c1 c2
      generalize refPlay (ls.take k) = o at *
      have hw1 : IntKind.i64.wrap ((k : Int) + 1) = ((k + 1 : Nat) : Int) := by rw [IntKind.wrap_i64]; omega
      have hki : (k : Int) < (ls.length : Int) := by omega
      have hmv : ∀ (v' : Value) (o' : List Pk) (wx : World), R ((BaseK w0 :: l) ++ [PairsK (.slice oa o.length oc) o] ++ [PairsK v' o']) wx → R ((BaseK w0 :: l) ++ [PairsK v' o']) wx := fun v' o' wx hx => by
        have h2 := hx.movePairs (u := (BaseK w0 :: l).length) (by simp)
        rwa [List.set_append_right _ _ (Nat.le_refl _), Nat.sub_self, List.set_cons_zero] at h2
      replace hmv := hide hmv
      cases xo
      · have hpo : play1 o ⟨false, xk, xv⟩ = refPut xk xv false o := rfl
        rw [hpo] at hnx
        replace hnx := hide hnx
        have hput := hide (ref11_put hR.out.drew app_last xk xv (by omega))
        clear hR hpo
        go_upto_region 7 with fail
        go_still_tail 11, (by kernel_rfl)
        go_wp2_with fail
        refine hput.out.mono ?_
        rintro e w2 ⟨v', rfl, h2⟩
        have h3 := hide (hmv.out _ _ _ h2)
        clear h2 hput
        go_wp2_with fail
        exact ⟨⟨k + 1, by omega, rfl, hide (by rw [hnx.out]; exact h3.out)⟩, by simp [intOf]; omega⟩
      · have hpo : play1 o ⟨true, xk, xv⟩ = refWithout xk o := rfl
        rw [hpo] at hnx
        replace hnx := hide hnx
        have hput := hide (ref11_without hR.out app_last xk (by omega))
        clear hR hpo
        go_wp2_with fail
        refine hput.out.mono ?_
        rintro e w2 ⟨v', rfl, h2⟩
        have h3 := hide (hmv.out _ _ _ h2)
        clear h2 hput
        go_wp2_with fail
        exact ⟨⟨k + 1, by omega, rfl, hide (by rw [hnx.out]; exact h3.out)⟩, by simp [intOf]; omega⟩
    · obtain rfl : k = ls.length := by omega
      go_wp2_with fail
      go_ret
      refine ⟨_, rfl, ?_⟩
      have h2 := hR.out
      rw [List.take_length] at h2 ⊢
      exact h2
end Go.Proofs.YtcgfknpobifecaaGreat

namespace Go.Proofs.YtcgfknpobifecaaGreat
open Go.RowKit

noncomputable def dPart (n : Nat) : Code := (Tryz.f4.body.bind (findG n)).getD .skip
def okAk (p : Ak) : Prop := p.key.size ≤ 140737488355328 ∧ p.val.size ≤ 140737488355328
def actC (p : Ak) : Array Value := #[.bool p.out, .string p.key, .string p.val]
set_option maxRecDepth 1000000 in
set_option maxHeartbeats 6400000 in
theorem law12_begin {w wr : World} {m : MemS} {n base k : Nat} {chs : Nat → List Int} {want : List Pk} {ls : List Ak} {frees : List Bool} {lv fv : Value} (hl : FrAt w w.heap.size 3 lv (ls.map ak12)) (hf : FrAt w w.heap.size 1 fv (frees.map fun x => [Value.bool x])) (hin : ∀ p ∈ ls, okAk p) (hk : k < ls.length)
    (hR : R [BaseK w, MemK m] wr) (hM : MapM m n base chs want) (_hk50 : ls.length ≤ 50) (_hf50 : frees.length ≤ 50) (h2 : m.workers = 2) (hi0 : m.cells.getD 2 0 = 0) (hi1 : m.cells.getD 3 0 = 0) (hwt : m.waiting.length ≤ 100) (hgn : m.gen ≤ 10000)
    (c0 c3 c4 c5 c6 c8 c9 c10 c11 c12 c13 c14 c15 c16 c17 c18 c19 c20 c21 c22 c23 c24 c25 c26 c27 c28 c29 c30 c31 c32 c33 c34 c35 c36 c37 c38 c39 c40 c41 c42 c43 c44 c45 c46 c47 c48 c49 c50 c51 c52 c53 c54 c55 c56 c57 c58 c59 c60 c61 c62 c64 c66 c67 c68 c69 c70 c71 c72 c73 c74 c75 c76 c77 c78 c79 c80 c81 c82 c83 c84 c85 c86 c87 c88 c89 c90 c91 c92 c93 c94 c95 c96 c97 c98 c99 c100 c101 c102 c103 c104 c105 c106 c107 c108 c109 c110 c111 c112 c113 c114 c115 c116 c117 c118 c119 c120 c121 c122 c123 c124 c125 c126 c127 c128 c129 c130 c131 c132 c133 c134 c135 c136 c137 c138 c139 c140 c141 c142 c143 c144 c145 c146 c147 c148 c149 c150 c151 c152 c153 c154 c155 c156 c157 c158 c159 c160 c161 c162 c163 c164 c165 c166 c167 c168 c169 c170 c171 c172 c173 c174 c175 c176 c177 c178 c179 c180 c181 c182 c183 c184 c185 c186 c187 c188 c189 c190 c191 c192 c193 c194 c195 c196 c197 c198 c199 c200 c201 c202 c203 c204 c205 c206 c207 c208 c209 c210 c211 c212 c213 c214 c215 c216 c217 c218 c219 c220 c221 c222 c223 c224 c225 c226 c227 c228 c229 c230 c231 c232 c233 c234 c235 c236 c237 c238 c239 c240 c241 c242 c243 c244 c245 c246 c247 c248 c249 c250 c251 c252 c253 c254 c255 c256 c257 c258 c259 c260 c261 c262 c263 c264 c265 c266 c267 c268 c269 c270 c271 c272 c273 c274 c275 c276 c277 c278 c279 : Value) {P : Exit → Act → World → Prop}
    (hP : ∀ (d67 d68 d69 d70 d71 d72 d73 d74 d75 d76 d77 d78 d79 d80 d81 d82 d83 d84 d85 d86 d87 d88 d89 d90 d91 d92 d93 : Value) (pb : Nat) (m' : MemS) (w' : World), m' = m ∨ m' = freeAll m → R [BaseK w, MemK m', StK pb (actC (ls.getD k ak0)) 62] w' → Code.wp Tryz.prog (dPart 16) P ⟨#[c0, lv, fv, c3, c4, c5, c6, .pointer (some ⟨m.b, 0, none⟩), c8, c9, .int .i64 k, .pointer (some ⟨pb, 0, none⟩), c12, c13, c14, c15, c16, c17, c18, c19, c20, c21, c22, c23, c24, c25, c26, c27, c28, c29, c30, c31, c32, c33, c34, c35, c36, c37, c38, c39, c40, c41, c42, c43, c44, c45, c46, c47, c48, c49, c50, c51, c52, c53, c54, c55, c56, c57, c58, c59, c60, c61, c62, lv, c64, .int .i64 k, c66, d67, d68, d69, d70, d71, d72, d73, d74, d75, d76, d77, d78, d79, d80, d81, d82, d83, d84, d85, d86, d87, d88, d89, d90, d91, d92, d93, c94, c95, c96, c97, c98, c99, c100, c101, c102, c103, c104, c105, c106, c107, c108, c109, c110, c111, c112, c113, c114, c115, c116, c117, c118, c119, c120, c121, c122, c123, c124, c125, c126, c127, c128, c129, c130, c131, c132, c133, c134, c135, c136, c137, c138, c139, c140, c141, c142, c143, c144, c145, c146, c147, c148, c149, c150, c151, c152, c153, c154, c155, c156, c157, c158, c159, c160, c161, c162, c163, c164, c165, c166, c167, c168, c169, c170, c171, c172, c173, c174, c175, c176, c177, c178, c179, c180, c181, c182, c183, c184, c185, c186, c187, c188, c189, c190, c191, c192, c193, c194, c195, c196, c197, c198, c199, c200, c201, c202, c203, c204, c205, c206, c207, c208, c209, c210, c211, c212, c213, c214, c215, c216, c217, c218, c219, c220, c221, c222, c223, c224, c225, c226, c227, c228, c229, c230, c231, c232, c233, c234, c235, c236, c237, c238, c239, c240, c241, c242, c243, c244, c245, c246, c247, c248, c249, c250, c251, c252, c253, c254, c255, c256, c257, c258, c259, c260, c261, c262, c263, c264, c265, c266, c267, c268, c269, c270, c271, c272, c273, c274, c275, c276, c277, c278, c279], []⟩ w')
    (hP3 : ∀ (d67 d68 d69 d70 d71 d72 d73 d74 d75 d76 d77 d78 d79 d80 d81 d82 d83 d84 d85 d86 d87 d88 d89 d90 d91 d92 d93 : Value) (pb : Nat) (w' : World), Below w.heap.size w w' → P .ret ⟨#[c0, lv, fv, c3, c4, c5, .bool true, .pointer (some ⟨m.b, 0, none⟩), c8, c9, .int .i64 k, .pointer (some ⟨pb, 0, none⟩), c12, c13, c14, c15, c16, c17, c18, c19, c20, c21, c22, c23, c24, c25, c26, c27, c28, c29, c30, c31, c32, c33, c34, c35, c36, c37, c38, c39, c40, c41, c42, c43, c44, c45, c46, c47, c48, c49, c50, c51, c52, c53, c54, c55, c56, c57, c58, c59, c60, c61, c62, lv, c64, .int .i64 k, c66, d67, d68, d69, d70, d71, d72, d73, d74, d75, d76, d77, d78, d79, d80, d81, d82, d83, d84, d85, d86, d87, d88, d89, d90, d91, d92, d93, c94, c95, c96, c97, c98, c99, c100, c101, c102, c103, c104, c105, c106, c107, c108, c109, c110, c111, c112, c113, c114, c115, c116, c117, c118, c119, c120, c121, c122, c123, c124, c125, c126, c127, c128, c129, c130, c131, c132, c133, c134, c135, c136, c137, c138, c139, c140, c141, c142, c143, c144, c145, c146, c147, c148, c149, c150, c151, c152, c153, c154, c155, c156, c157, c158, c159, c160, c161, c162, c163, c164, c165, c166, c167, c168, c169, c170, c171, c172, c173, c174, c175, c176, c177, c178, c179, c180, c181, c182, c183, c184, c185, c186, c187, c188, c189, c190, c191, c192, c193, c194, c195, c196, c197, c198, c199, c200, c201, c202, c203, c204, c205, c206, c207, c208, c209, c210, c211, c212, c213, c214, c215, c216, c217, c218, c219, c220, c221, c222, c223, c224, c225, c226, c227, c228, c229, c230, c231, c232, c233, c234, c235, c236, c237, c238, c239, c240, c241, c242, c243, c244, c245, c246, c247, c248, c249, c250, c251, c252, c253, c254, c255, c256, c257, c258, c259, c260, c261, c262, c263, c264, c265, c266, c267, c268, c269, c270, c271, c272, c273, c274, c275, c276, c277, c278, c279], []⟩ w') :
    Code.wp Tryz.prog (dPart 11) P ⟨#[c0, lv, fv, c3, c4, c5, c6, .pointer (some ⟨m.b, 0, none⟩), c8, c9, c10, c11, c12, c13, c14, c15, c16, c17, c18, c19, c20, c21, c22, c23, c24, c25, c26, c27, c28, c29, c30, c31, c32, c33, c34, c35, c36, c37, c38, c39, c40, c41, c42, c43, c44, c45, c46, c47, c48, c49, c50, c51, c52, c53, c54, c55, c56, c57, c58, c59, c60, c61, c62, lv, c64, .int .i64 k, c66, c67, c68, c69, c70, c71, c72, c73, c74, c75, c76, c77, c78, c79, c80, c81, c82, c83, c84, c85, c86, c87, c88, c89, c90, c91, c92, c93, c94, c95, c96, c97, c98, c99, c100, c101, c102, c103, c104, c105, c106, c107, c108, c109, c110, c111, c112, c113, c114, c115, c116, c117, c118, c119, c120, c121, c122, c123, c124, c125, c126, c127, c128, c129, c130, c131, c132, c133, c134, c135, c136, c137, c138, c139, c140, c141, c142, c143, c144, c145, c146, c147, c148, c149, c150, c151, c152, c153, c154, c155, c156, c157, c158, c159, c160, c161, c162, c163, c164, c165, c166, c167, c168, c169, c170, c171, c172, c173, c174, c175, c176, c177, c178, c179, c180, c181, c182, c183, c184, c185, c186, c187, c188, c189, c190, c191, c192, c193, c194, c195, c196, c197, c198, c199, c200, c201, c202, c203, c204, c205, c206, c207, c208, c209, c210, c211, c212, c213, c214, c215, c216, c217, c218, c219, c220, c221, c222, c223, c224, c225, c226, c227, c228, c229, c230, c231, c232, c233, c234, c235, c236, c237, c238, c239, c240, c241, c242, c243, c244, c245, c246, c247, c248, c249, c250, c251, c252, c253, c254, c255, c256, c257, c258, c259, c260, c261, c262, c263, c264, c265, c266, c267, c268, c269, c270, c271, c272, c273, c274, c275, c276, c277, c278, c279], []⟩ wr := by
  have hbel : Below w.heap.size w wr := hR.done
  obtain ⟨a, cap, rfl, hlen, -⟩ := id hl
  obtain ⟨_, _, hv2, -, hr⟩ := hl.below hbel
  obtain ⟨vb, voff, ha, hvb, hc0⟩ := hr k (by simpa using hk)
  simp at hv2
  obtain ⟨rfl, rfl⟩ := hv2
  subst ha
  have hget : (ls.map ak12).getD k [] = ak12 (ls.getD k ak0) := by simp [hk]
  rw [hget] at hc0
  have hpm : ls.getD k ak0 ∈ ls := by
    rw [show ls.getD k ak0 = ls[k] by simp [hk]]
    exact List.getElem_mem _
  obtain ⟨z1, z2⟩ := hin _ hpm
  generalize ls.getD k ak0 = p at *
  obtain ⟨out, key, val⟩ := p
  dsimp only at z1 z2
  unfold actC at hP
  dsimp only at hP
  obtain ⟨u0, e0, c0⟩ := hc0 0 (by decide)
  obtain ⟨u1, e1, c1⟩ := hc0 1 (by decide)
  obtain ⟨u2, e2, c2⟩ := hc0 2 (by decide)
  obtain rfl : Value.bool out = u0 := Option.some.inj e0
  obtain rfl : Value.string key = u1 := Option.some.inj e1
  obtain rfl : Value.string val = u2 := Option.some.inj e2
  simp only [Nat.add_zero] at c0
  obtain ⟨fa, fcap, rfl, hflen, -⟩ := id hf
  rw [List.length_map] at hlen hflen hP hP3 ⊢
  rw [List.length_map] at hP hP3 ⊢
  have h3 := hR.new #[.bool out, .string key, .string val] 62
  have hb3 := blk_new wr (.cells #[.bool out, .string key, .string val] 62)
  have hki : (k : Int) < (ls.length : Int) := by omega
  replace hP := hide hP
  replace hP3 := hide hP3
  replace hf := hide hf
  replace h3 := hide h3
  clear hr hget hc0 e0 e1 e2 hR hin hl
  conv => arg 2; whnf
  go_upto_region 12 with fail
  generalize wr.alloc (.cells #[.bool out, .string key, .string val] 62) = w3 at *
  generalize wr.heap.size = pb at *
  have es : IntKind.i64.wrap ((key.size : Int) + (val.size : Int)) = ((key.size + val.size : Nat) : Int) := by rw [IntKind.wrap_i64]; omega
  by_cases hbig : 200 < key.size + val.size
  · have hgt : decide ((200 : Int) < ((key.size + val.size : Nat) : Int)) = true := decide_eq_true (by omega)
    have hgt2 : (200 : Int) < ((key.size + val.size : Nat) : Int) := by omega
    go_wp2_with fail
    refine (law12_awake _).mono ?_
    rintro e w4 ⟨rfl, hb4⟩
    dsimp only
    have hbel4 := hide ((h3.out.below hb4).done)
    clear hb4
    go_wp2_with fail
    apply hP3.out
    exact hbel4.out
  · have hgt : decide ((200 : Int) < ((key.size + val.size : Nat) : Int)) = false := decide_eq_false (by omega)
    have hgt2 : ¬ (200 : Int) < ((key.size + val.size : Nat) : Int) := by omega
    by_cases hkf : k < frees.length
    · have hkf2 : (k : Int) < (frees.length : Int) := by omega
      have hbel3 := h3.out.done
      obtain ⟨_, _, hv3, -, hr3⟩ := hf.out.below hbel3
      obtain ⟨fb, foff, ha3, hfb, hc3⟩ := hr3 k (by simpa using hkf)
      simp at hv3
      obtain ⟨rfl, rfl⟩ := hv3
      subst ha3
      have hget3 : (frees.map fun x => [Value.bool x]).getD k [] = [Value.bool (frees.getD k false)] := by simp [hkf]
      rw [hget3] at hc3
      generalize frees.getD k false = x at *
      obtain ⟨xv, ex, cx⟩ := hc3 0 (by decide)
      obtain rfl : Value.bool x = xv := Option.some.inj ex
      simp only [Nat.mul_one, Nat.add_zero] at cx
      clear hr3 hget3 hc3 ex hbel3
      cases x
      · go_upto_if 93 with fail
        refine wp_cond_false rfl ?_
        refine wp_skip ?_
        refine (‹∀ (a : Act) (w : World), Code.wp Tryz.prog _ _ a w → _›) _ _ ?_
        exact hP.out _ _ _ _ _ _ _ _ _ _ _ _ _ _ _ _ _ _ _ _ _ _ _ _ _ _ _ pb m _ (.inl rfl) h3.out
      · have hfr := hide (law11_free h3.out (t := 1) rfl h2 (hM.freeLock (by decide)) hi0 hi1 (by omega) (by omega))
        have hend : ∀ w', R (([BaseK w, MemK m] ++ [StK pb #[.bool out, .string key, .string val] 62]).set 1 (MemK (freeAll m))) w' → R [BaseK w, MemK (freeAll m), StK pb #[.bool out, .string key, .string val] 62] w' := fun w' h => h
        replace hend := hide hend
        clear h3
        go_wp2_with fail
        refine hfr.out.mono ?_
        rintro e w4 ⟨rfl, h4⟩
        dsimp only
        have h5 := hide (hend.out _ h4)
        clear h4 hfr
        go_upto_if 93 with fail
        refine wp_cond_false rfl ?_
        refine wp_skip ?_
        refine (‹∀ (a : Act) (w : World), Code.wp Tryz.prog _ _ a w → _›) _ _ ?_
        exact hP.out _ _ _ _ _ _ _ _ _ _ _ _ _ _ _ _ _ _ _ _ _ _ _ _ _ _ _ pb (freeAll m) _ (.inr rfl) h5.out
    · have hkf2 : ¬ (k : Int) < (frees.length : Int) := by omega
      go_upto_if 93 with fail
      refine wp_cond_false rfl ?_
      refine wp_skip ?_
      refine (‹∀ (a : Act) (w : World), Code.wp Tryz.prog _ _ a w → _›) _ _ ?_
      exact hP.out _ _ _ _ _ _ _ _ _ _ _ _ _ _ _ _ _ _ _ _ _ _ _ _ _ _ _ pb m _ (.inl rfl) h3.out
end Go.Proofs.YtcgfknpobifecaaGreat
