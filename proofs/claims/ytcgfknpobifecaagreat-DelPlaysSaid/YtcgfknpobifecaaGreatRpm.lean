/- quietusref11: Put. Condition: the pairs are there, and few. A memory that holds a map: its chains, its table, its pairs, as the calls tell them. Plain law, no condition. -/
import Derived.Test.YtcgfknpobifecaaGreatLb10m
import Derived.Test.YtcgfknpobifecaaGreatMtm
import Derived.Test.YtcgfknpobifecaaGreatCh
namespace Go.Proofs.YtcgfknpobifecaaGreat
open Go.RowKit

theorem info_pair : (Tryz.prog.info? 40).map (fun i => (i.zero, i.size, i.bytes)) = some (some (.agg #[.string ⟨#[]⟩, .string ⟨#[]⟩]), 2, 32) := by kernel_rfl
/-- append(xs, x), elements of type pair. -/
theorem push_pair {w : World} {o : Nat → Nat} {tg : Nat} {ops : Array Oper} {rest : List Oper} {op : Oper} {a : Act} {Q : Exit → Act → World → Prop} (hgd : op.guard = none) (s x : Operand)
    (ho : op.op = .call { callee := .builtin .append, args := #[s, x], argTypes := #[22, 22] })
    (v : Value) (n : Nat) (xs : List Value) (hs : a.eval s = v) (hown : SlAt o w tg 40 2 v n xs) (g c : Nat) (news : Array Value) (hx : a.eval x = .slice (some ⟨g, 0, none⟩) 1 c)
    (hg : blk w g = some (.cells news 40 (0, 0))) (hl : news.size = 2) (h1 : ∀ u ∈ news.toList, u.oneCell' = true) (hb : n + 1 ≤ 1073741824)
    (h : ∀ v' w' o', SlAt o' w' tg 40 2 v' (n + 1) (xs ++ news.toList) → Ext o o' w w' (fun x => x = tg) → w.grownBy w' v.ownBlock → v' ≠ .slice none 0 0 → wpList Tryz.prog ops Q rest (a.put op.dst v') w') :
    wpList Tryz.prog ops Q (op :: rest) a w := by
  obtain ⟨i0, hi, hz0, hz1, hz2⟩ := info_parts info_pair
  exact wpList_push hgd s x 22 ho 40 i0 (.agg #[.string ⟨#[]⟩, .string ⟨#[]⟩]) 2 32 Tryz.underlying22 hi hz0 hz1 hz2 rfl (by decide) v n xs hs hown g c news hx hg hl h1 (by simp only [maxLen]; omega) (by omega) h
/-- append(xs, ys...), elements of type pair. -/
theorem src_pair {w : World} {o : Nat → Nat} {tg tg2 : Nat} {ops : Array Oper} {rest : List Oper} {op : Oper} {a : Act} {Q : Exit → Act → World → Prop} (hgd : op.guard = none) (s x : Operand)
    (ho : op.op = .call { callee := .builtin .append, args := #[s, x], argTypes := #[22, 22] })
    (v : Value) (n : Nat) (xs : List Value) (hs : a.eval s = v) (hown : SlAt o w tg 40 2 v n xs) (v2 : Value) (m : Nat) (news : List Value) (hx : a.eval x = v2) (hsrc : SlAt o w tg2 40 2 v2 m news)
    (h1 : ∀ u ∈ news, u.oneCell' = true) (hb : n + m ≤ 1073741824)
    (h : ∀ v' w' o', SlAt o' w' tg 40 2 v' (n + m) (xs ++ news) → Ext o o' w w' (fun x => x = tg) → w.grownBy w' v.ownBlock → (v' = .slice none 0 0 ↔ v = .slice none 0 0 ∧ m = 0) → wpList Tryz.prog ops Q rest (a.put op.dst v') w') :
    wpList Tryz.prog ops Q (op :: rest) a w := by
  obtain ⟨i0, hi, hz0, hz1, hz2⟩ := info_parts info_pair
  exact wpList_append_src hgd s x 22 ho 40 i0 (.agg #[.string ⟨#[]⟩, .string ⟨#[]⟩]) 2 32 Tryz.underlying22 hi hz0 hz1 hz2 rfl (by decide) v n xs hs hown v2 m news hx hsrc h1 (by simp only [maxLen]; omega) (by omega) h
/-- append(xs, ys...), elements of type pair, ys wherever it lies. -/
theorem many_pair {w : World} {o : Nat → Nat} {tg : Nat} {ops : Array Oper} {rest : List Oper} {op : Oper} {a : Act} {Q : Exit → Act → World → Prop} (hgd : op.guard = none) (s x : Operand)
    (ho : op.op = .call { callee := .builtin .append, args := #[s, x], argTypes := #[22, 22] })
    (v : Value) (n : Nat) (xs : List Value) (hs : a.eval s = v) (hown : SlAt o w tg 40 2 v n xs) (ad : Addr) (m c : Nat) (news : List Value) (hx : a.eval x = .slice (some ad) m c) (hl : news.length = m * 2)
    (hnews : ∀ j u, news[j]? = some u → w.cell? (ad.add j) = some u) (h1 : ∀ u ∈ news, u.oneCell' = true) (hb : n + m ≤ 1073741824)
    (h : ∀ v' w' o', SlAt o' w' tg 40 2 v' (n + m) (xs ++ news) → Ext o o' w w' (fun x => x = tg) → w.grownBy w' v.ownBlock → (v' = .slice none 0 0 ↔ v = .slice none 0 0 ∧ m = 0) → wpList Tryz.prog ops Q rest (a.put op.dst v') w') :
    wpList Tryz.prog ops Q (op :: rest) a w := by
  obtain ⟨i0, hi, hz0, hz1, hz2⟩ := info_parts info_pair
  exact wpList_append_sl hgd s x 22 ho 40 i0 (.agg #[.string ⟨#[]⟩, .string ⟨#[]⟩]) 2 32 Tryz.underlying22 hi hz0 hz1 hz2 rfl (by decide) v n xs hs hown ad m c news hx hl hnews h1 (by simp only [maxLen]; omega) (by omega) h


theorem R.frAt {α : Type} {f : α → List Value} {L : List KObj} {w : World} {u k : Nat} {T : TypeId} {v : Value} {xs : List α} (hf : ∀ x, (f x).length = k) (h : R L w) (hu : L[u]? = some (SlK T k v xs.length (xs.flatMap f))) : FrAt w w.heap.size k v (xs.map f) := by
  obtain ⟨⟨a, c, rfl⟩, _, hn⟩ := h.slVal hu
  refine ⟨a, c, by rw [List.length_map], by rw [List.length_map]; exact hn, fun i hi => ?_⟩
  rw [List.length_map] at hi
  obtain ⟨g, cap, cur, hv, hg, _, _, hc⟩ := h.slRow hu (by omega)
  simp at hv
  obtain ⟨rfl, rfl⟩ := hv
  refine ⟨g, 0, rfl, lt_of_blk hg, fun j hj => ?_⟩
  have hfl := flat_get f k hf xs i j hj
  rw [List.getElem?_eq_getElem hi] at hfl
  have hlt : j < (f xs[i]).length := by rw [hf]; exact hj
  have e2 : ((xs.map f).getD i []) = f xs[i] := by simp [hi]
  refine ⟨(f xs[i])[j], by rw [e2, List.getElem?_eq_getElem hlt], ?_⟩
  rw [hg, Nat.zero_add]
  refine hc _ _ (hfl.trans ?_)
  simp [hlt]
/-- What ref11.Put comes to. -/
def geK (a b : ByteArray) : Bool := !Op.bytesLess a.toList b.toList
def refPut (key val : ByteArray) : Bool → List Pk → List Pk
  | d, [] => if d then [] else [⟨key, val⟩]
  | d, p :: r => (if !d && geK p.key key then [⟨key, val⟩] else []) ++ ((if p.key = key then [] else [p]) ++ refPut key val (d || geK p.key key) r)
theorem refPut_true (key val : ByteArray) : ∀ l : List Pk, refPut key val true l = l.filter fun p => decide (p.key ≠ key)
  | [] => rfl
  | p :: r => by
    rw [refPut]
    simp only [Bool.not_true, Bool.false_and, Bool.false_eq_true, if_false, List.nil_append, Bool.true_or]
    rw [refPut_true key val r, List.filter_cons]
    by_cases h : p.key = key
    · rw [if_pos h, if_neg (by simpa using h)]; rfl
    · rw [if_neg h, if_pos (by simpa using h)]; rfl
theorem refPut_perm (key val : ByteArray) : ∀ l : List Pk, (refPut key val false l).Perm (⟨key, val⟩ :: l.filter fun p => decide (p.key ≠ key))
  | [] => List.Perm.refl _
  | p :: r => by
    rw [refPut]
    simp only [Bool.not_false, Bool.true_and, Bool.false_or]
    cases hg : geK p.key key
    · simp only [Bool.false_eq_true, if_false, List.nil_append]
      have ih := refPut_perm key val r
      rw [List.filter_cons]
      by_cases h : p.key = key
      · rw [if_pos h, if_neg (by simpa using h)]; exact ih
      · rw [if_neg h, if_pos (by simpa using h)]
        exact (List.Perm.cons p ih).trans (List.Perm.swap _ _ _)
    · simp only [if_true]
      rw [refPut_true, List.filter_cons]
      by_cases h : p.key = key
      · rw [if_pos h, if_neg (by simpa using h)]; exact List.Perm.refl _
      · rw [if_neg h, if_pos (by simpa using h)]; exact List.Perm.refl _
theorem refPut_len (key val : ByteArray) (l : List Pk) : (refPut key val false l).length ≤ l.length + 1 := by
  rw [(refPut_perm key val l).length_eq, List.length_cons]
  have := List.length_filter_le (fun p : Pk => decide (p.key ≠ key)) l
  omega

def pairV (p : Pk) : Value := .agg #[.string p.key, .string p.val]
def PairsK (v : Value) (ps : List Pk) : KObj := SlK 40 2 v ps.length (ps.flatMap pk10)
set_option maxRecDepth 100000 in
set_option maxHeartbeats 3200000 in
theorem ref11_put {l : List KObj} {w : World} {u : Nat} {v : Value} {ps : List Pk} (h : R l w) (hu : l[u]? = some (PairsK v ps)) (key val : ByteArray) (hn : ps.length ≤ 1000000) :
    Calls Tryz.prog 19 #[v, .string key, .string val] w fun e w' => ∃ v', e = .returned v' ∧ R (l ++ [PairsK v' (refPut key val false ps)]) w' := by
  obtain ⟨⟨a, cap, rfl⟩, _⟩ := h.slVal hu
  have hR0 := hide (h.slnil 40 2)
  clear h
  go_enter Tryz.func19, Tryz.ntmps19
  go_wp2_with fail
  go_loopw [7, 8, 9] (fun ov dv i wr => ∃ (k : Nat) (o : List Pk) (d : Bool), k ≤ ps.length ∧ i = .int .i64 k ∧ dv = .bool d ∧ Hid (o ++ refPut key val d (ps.drop k) = refPut key val false ps ∧ o.length ≤ 2 * k) ∧ Hid (R (l ++ [PairsK ov o]) wr)) (fun _ _ i _ => ps.length - (intOf i).toNat)
  case atStart => exact ⟨0, [], false, Nat.zero_le _, rfl, rfl, hide ⟨rfl, Nat.le_refl _⟩, hR0⟩
  case round =>
    obtain ⟨k, o, d, hk, rfl, rfl, ho, hR⟩ := hrel
    clear hR0
    obtain ⟨⟨oa, oc, rfl⟩, _⟩ := hR.out.slVal app_last
    by_cases hlt : k < ps.length
    · obtain ⟨_, _, hv2, _, hr⟩ := R.frAt (f := pk10) (fun _ => rfl) hR.out (app_get hu)
      obtain ⟨vb, voff, ha, hvb, hc⟩ := hr k (by simpa using hlt)
      simp at hv2
      obtain ⟨rfl, rfl⟩ := hv2
      subst ha
      have hget : (ps.map pk10).getD k [] = pk10 (ps.getD k pk0) := by simp [hlt]
      have hd : ps.drop k = ps.getD k pk0 :: ps.drop (k + 1) := by
        rw [List.drop_eq_getElem_cons hlt]
        simp [hlt]
      have hfc : ∀ (w' : World) (X : KObj), R (l ++ [X]) w' → cellOf (blk w' vb) (voff + k * 2) = some (.string (ps.getD k pk0).key) ∧ cellOf (blk w' vb) (voff + k * 2 + 1) = some (.string (ps.getD k pk0).val) := fun w' X h' => by
        obtain ⟨_, _, hv3, _, hr3⟩ := R.frAt (f := pk10) (fun _ => rfl) h' (app_get hu)
        obtain ⟨vb3, voff3, ha3, _, hc3⟩ := hr3 k (by simpa using hlt)
        simp at hv3
        obtain ⟨rfl, _⟩ := hv3
        simp at ha3
        obtain ⟨rfl, rfl⟩ := ha3
        rw [hget] at hc3
        obtain ⟨y0, e0, c0⟩ := hc3 0 (by decide)
        obtain ⟨y1, e1, c1⟩ := hc3 1 (by decide)
        obtain rfl : Value.string (ps.getD k pk0).key = y0 := Option.some.inj e0
        obtain rfl : Value.string (ps.getD k pk0).val = y1 := Option.some.inj e1
        exact ⟨c0, c1⟩
      have ho2 := ho.out
      rw [hd, refPut] at ho2
      have hol := ho.out.2
      clear hr hc ho hget hd
      generalize ps.getD k pk0 = pp at *
      obtain ⟨pk, pv⟩ := pp
      dsimp only at hfc ho2
      replace ho2 := hide ho2
      replace hfc := hide hfc
      obtain ⟨c0, c1⟩ := hfc.out _ _ hR.out
      go_upto_region 6 with fail
      go_cut [26] (fun s wx => s = .bool (!d && geK pk key) ∧ wx = wr)
      case first =>
        cases d
        · cases hg : geK pk key
          all_goals
            have hbl : Op.bytesLess pk.toList key.toList = !(geK pk key) := by unfold geK; simp
            rw [hg] at hbl
            replace hg := hide hg
            simp only [Bool.not_true, Bool.not_false] at hbl
            go_wp2_with fail
            go_meet
            case rel => exact ⟨by rw [hg.out]; rfl, rfl⟩
        · go_wp2_with fail
          go_meet
          case rel => exact ⟨rfl, rfl⟩
      case rest =>
      obtain ⟨rfl, hwx⟩ := hcut
      replace hwx := hwx.symm
      subst hwx
      obtain ⟨z, hz⟩ : ∃ z, (!d && geK pk key) = z := ⟨_, rfl⟩
      rw [hz]
      replace hz := hide hz
      go_upto_if 26 with fail
      go_cut [7, 8] (fun ov2 dv2 wx => ∃ (o2 : List Pk), dv2 = .bool (d || geK pk key) ∧ Hid (o2 = o ++ (if !d && geK pk key then [⟨key, val⟩] else [])) ∧ Hid (R (l ++ [PairsK ov2 o2]) wx))
      case first =>
        cases z
        · have hz2 : (d || geK pk key) = d := by
            have := hz.out
            cases d <;> simp_all
          go_wp2_with fail
          go_meet
          case rel => exact ⟨o, by rw [hz2], hide (by rw [hz.out]; simp), hR⟩
        · have hz2 : (d || geK pk key) = true := by
            have := hz.out
            cases d <;> simp_all
          have hR2 := hR
          clear hR
          obtain ⟨o1, hr1, hs1⟩ := hR2.out.get app_last
          replace hr1 := hide hr1
          clear hR2
          go_wp2_with (at_builtin; refine push_pair rfl (.tmp 27) (.tmp 31) rfl _ _ _ rfl (SlAt.alloc hs1 _) _ 1 _ rfl (blk_new _ _) rfl (by intro u hu; simp at hu; rcases hu with rfl | rfl <;> rfl) (by omega) ?_)
          intro v7 w7 o2 hs2 he2 _ _
          have h7 := hr1.out.step (t := l.length) (q := PairsK v7 (o ++ [⟨key, val⟩])) (((Ext.refl o1 _ _).alloc _).trans he2) (fun y hy => by omega) (by unfold PairsK; rw [List.length_append, List.flatMap_append]; exact hs2)
          rw [List.set_append_right _ _ (Nat.le_refl _), Nat.sub_self, List.set_cons_zero] at h7
          replace h7 := hide h7
          clear hr1 hs1 hs2 he2
          go_wp2_with fail
          go_meet
          case rel => exact ⟨_, by rw [hz2], hide (by rw [hz.out]; rfl), h7⟩
      case rest =>
        obtain ⟨o', rfl, ho', hR2⟩ := hcut
        clear c0 c1 hR
        obtain ⟨c0, c1⟩ := hfc.out _ _ hR2.out
        have hol2 : o'.length ≤ 2 * k + 1 := by rw [ho'.out, List.length_append]; split <;> simp <;> omega
        obtain ⟨⟨oa2, oc2, rfl⟩, _⟩ := hR2.out.slVal app_last
        have hdone : ∀ q : List Pk, q = (if pk = key then [] else [⟨pk, pv⟩]) → (o' ++ q) ++ refPut key val (d || geK pk key) (ps.drop (k + 1)) = refPut key val false ps := fun q hq => by
          rw [hq, ho'.out, ← ho2.out.1]; simp
        replace hdone := hide hdone
        have hw1 : IntKind.i64.wrap ((k : Int) + 1) = ((k + 1 : Nat) : Int) := by rw [IntKind.wrap_i64]; omega
        by_cases hky : pk = key
        · have hdn := hdone.out [] (by rw [if_pos hky])
          rw [List.append_nil] at hdn
          replace hdn := hide hdn
          clear ho2 ho' hdone
          subst hky
          generalize (d || geK pk pk) = d2 at *
          go_wp2_with fail
          exact ⟨⟨k + 1, o', d2, by omega, rfl, rfl, hide ⟨hdn.out, by omega⟩, hR2⟩, by simp [intOf]; omega⟩
        · have hk1 : (pk.toList == key.toList) = false := by
            rw [beq_eq_false_iff_ne]
            exact fun x => hky (ByteArray.toList_inj' x)
          have hdn := hide (hdone.out [⟨pk, pv⟩] (by rw [if_neg hky]))
          clear ho2 ho' hdone hky
          generalize (d || geK pk key) = d2 at *
          obtain ⟨o1, hr1, hs1⟩ := hR2.out.get app_last
          replace hr1 := hide hr1
          clear hR2
          go_wp2_with (at_builtin; refine push_pair rfl (.tmp 40) (.tmp 45) rfl _ _ _ rfl (SlAt.alloc hs1 _) _ 1 _ rfl (blk_new _ _) rfl (by intro u hu; simp at hu; rcases hu with rfl | rfl <;> rfl) (by omega) ?_)
          intro v7 w7 o2 hs2 he2 _ _
          have h7 := hr1.out.step (t := l.length) (q := PairsK v7 (o' ++ [⟨pk, pv⟩])) (((Ext.refl o1 _ _).alloc _).trans he2) (fun y hy => by omega) (by unfold PairsK; rw [List.length_append, List.flatMap_append]; exact hs2)
          rw [List.set_append_right _ _ (Nat.le_refl _), Nat.sub_self, List.set_cons_zero] at h7
          replace h7 := hide h7
          clear hr1 hs1 hs2 he2
          go_wp2_with fail
          exact ⟨⟨k + 1, _, d2, by omega, rfl, rfl, hide ⟨hdn.out, by rw [List.length_append]; simp; omega⟩, h7⟩, by simp [intOf]; omega⟩
    · obtain rfl : k = ps.length := by omega
      have ho2 := ho.out.1
      rw [List.drop_length, refPut] at ho2
      have hol := ho.out.2
      clear ho
      cases d
      · simp only [Bool.false_eq_true, if_false] at ho2
        replace ho2 := hide ho2
        have hR2 := hR
        clear hR
        obtain ⟨o1, hr1, hs1⟩ := hR2.out.get app_last
        replace hr1 := hide hr1
        clear hR2
        go_wp2_with (at_builtin; refine push_pair rfl (.tmp 49) (.tmp 53) rfl _ _ _ rfl (SlAt.alloc hs1 _) _ 1 _ rfl (blk_new _ _) rfl (by intro u hu; simp at hu; rcases hu with rfl | rfl <;> rfl) (by omega) ?_)
        intro v7 w7 o2 hs2 he2 _ _
        have h7 := hr1.out.step (t := l.length) (q := PairsK v7 (o ++ [⟨key, val⟩])) (((Ext.refl o1 _ _).alloc _).trans he2) (fun y hy => by omega) (by unfold PairsK; rw [List.length_append, List.flatMap_append]; exact hs2)
        rw [List.set_append_right _ _ (Nat.le_refl _), Nat.sub_self, List.set_cons_zero] at h7
        replace h7 := hide h7
        clear hr1 hs1 hs2 he2
        go_wp2_with fail
        go_ret
        exact ⟨_, rfl, by rw [← ho2.out]; exact h7.out⟩
      · simp only [if_true, List.append_nil] at ho2
        replace ho2 := hide ho2
        go_wp2_with fail
        go_ret
        exact ⟨_, rfl, by rw [← ho2.out]; exact hR.out⟩
end Go.Proofs.YtcgfknpobifecaaGreat

namespace Go.Proofs.YtcgfknpobifecaaGreat
open Go.RowKit

theorem Chn.chainL {ss : List Slot} : ∀ {xs : List Int} {h : Int} {met : List Int}, Chn ss h xs → xs.Nodup → (∀ x ∈ xs, x ∉ met) → chainL ss met h = xs
  | [], h, met, hc, _, _ => by
    have hc : h = 0 := hc
    subst hc
    exact chainL_stop fun h => by
      have := h.1
      simp [liveB, atA] at this
  | x :: xs, h, met, hc, hn, hm => by
    obtain ⟨h1, h2, h3, h4⟩ := hc
    subst h1
    rw [chainL_cons (by simpa [liveB] using h3) (hm h List.mem_cons_self)]
    congr 1
    refine h4.chainL (List.nodup_cons.1 hn).2 fun y hy hym => ?_
    rcases List.mem_append.1 hym with h5 | h5
    · exact hm y (List.mem_cons_of_mem _ hy) h5
    · simp only [List.mem_singleton] at h5
      subst h5
      exact (List.nodup_cons.1 hn).1 hy
section
variable {m : MemS} {n base : Nat} {chs : Nat → List Int} {want : List Pk}
theorem MapM.now (h : MapM m n base chs want) (hv : U64 (m.cells.getD 1 0)) : nowOf m = ((n : Int), (base : Int)) := by
  have ht := h.tab
  have hn := h.n0
  obtain ⟨v0, v1⟩ := hv
  unfold descOf at ht
  unfold nowOf
  by_cases h0 : 0 ≤ wrap64 (m.cells.getD 1 0)
  · rw [if_pos h0] at ht
    have e : wrap64 (m.cells.getD 1 0) = m.cells.getD 1 0 := by
      revert h0
      unfold wrap64
      omega
    rw [e] at ht
    exact ht
  · rw [if_neg h0] at ht
    have := congrArg Prod.fst ht
    simp at this
    omega
theorem MapM.head (h : MapM m n base chs want) (hv : U64 (m.cells.getD 1 0)) {B : Nat} (hB : B < n) : headOf m B = m.cells.getD (base + B) 0 := by
  unfold headOf
  rw [h.now hv, if_pos ⟨by omega, by dsimp only; omega⟩]
  dsimp only
  rw [show ((base : Int) + (B : Int)).toNat = base + B by omega]
theorem MapM.chainOf (h : MapM m n base chs want) (hv : U64 (m.cells.getD 1 0)) {B : Nat} (hB : B < n) : chainL m.ss [] (headOf m B) = chs B := by
  rw [h.head hv hB]
  exact (h.chain B hB).chainL (h.nodupB hB) fun _ _ => List.not_mem_nil
theorem MapM.reachOf (h : MapM m n base chs want) (hv : U64 (m.cells.getD 1 0)) : ∀ k, k ≤ n → reachL m k = (List.range k).flatMap chs
  | 0, _ => rfl
  | k + 1, hk => by
    rw [reachL, h.reachOf hv k (by omega), List.range_succ, List.flatMap_append]
    simp only [List.flatMap_cons, List.flatMap_nil, List.append_nil]
    congr 1
    rw [h.head hv (by omega)]
    refine (h.chain k (by omega)).chainL (h.nodupB (by omega)) fun x hx hm => ?_
    obtain ⟨B, hB, hxB⟩ := List.mem_flatMap.1 hm
    have hB := List.mem_range.1 hB
    have h1 := (h.right B (by omega) x hxB).2
    have h2 := (h.right k (by omega) x hx).2
    omega
theorem refGet_mem {key val : ByteArray} : ∀ {l : List Pk}, (l.map Pk.key).Nodup → (⟨key, val⟩ : Pk) ∈ l → refGet key l = (val, true)
  | [], _, hm => absurd hm List.not_mem_nil
  | p :: l, hn, hm => by
    rw [List.map_cons, List.nodup_cons] at hn
    rw [refGet]
    rcases List.mem_cons.1 hm with h1 | h1
    · rw [← h1, if_pos rfl]
    · have : p.key ≠ key := fun e => hn.1 (by rw [e]; exact List.mem_map.2 ⟨_, h1, rfl⟩)
      rw [if_neg this]
      exact refGet_mem hn.2 h1
theorem refGet_no {key : ByteArray} : ∀ {l : List Pk}, key ∉ l.map Pk.key → refGet key l = (⟨#[]⟩, false)
  | [], _ => rfl
  | p :: l, hn => by
    rw [refGet, if_neg fun e => hn (by rw [← e]; exact List.mem_map.2 ⟨p, List.mem_cons_self, rfl⟩)]
    exact refGet_no fun hm => hn (by rw [List.map_cons]; exact List.mem_cons_of_mem _ hm)
/-- What the pairs tell of a node's key. -/
theorem MapM.get (h : MapM m n base chs want) {B : Nat} (hB : B < n) {x : Int} (hx : x ∈ chs B) : refGet (readNd m.ss x).key want = ((readNd m.ss x).val, true) :=
  refGet_mem h.keys ((h.ents.mem_iff).1 (List.mem_map.2 ⟨x, mem_nodesC.2 ⟨B, hB, hx⟩, rfl⟩))
end
end Go.Proofs.YtcgfknpobifecaaGreat
