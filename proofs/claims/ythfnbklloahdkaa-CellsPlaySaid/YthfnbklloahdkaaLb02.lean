/- What the statement CellsPlay comes to. No condition but that the acts are numbers of their kinds. -/
import Derived.Test.YthfnbklloahdkaaLa02
import Derived.Deep.DeepCutAuto
import Derived.Deep.CutBlock
import Derived.StillTailTactics
namespace Go.Proofs.Ythfnbklloahdkaa
open Go.RowKit

theorem info_u64 : (Try.prog.info? 51).map (fun i => (i.zero, i.size, i.bytes)) = some (some (.int .u64 0), 1, 8) := by kernel_rfl
/-- append(xs, x), elements of type u64. -/
theorem push_u64 {w : World} {o : Nat → Nat} {tg : Nat} {ops : Array Oper} {rest : List Oper} {op : Oper} {a : Act} {Q : Exit → Act → World → Prop} (hgd : op.guard = none) (s x : Operand)
    (ho : op.op = .call { callee := .builtin .append, args := #[s, x], argTypes := #[50, 50] })
    (v : Value) (n : Nat) (xs : List Value) (hs : a.eval s = v) (hown : SlAt o w tg 51 1 v n xs) (g c : Nat) (news : Array Value) (hx : a.eval x = .slice (some ⟨g, 0, none⟩) 1 c)
    (hg : blk w g = some (.cells news 51 (0, 0))) (hl : news.size = 1) (h1 : ∀ u ∈ news.toList, u.oneCell' = true) (hb : n + 1 ≤ 1073741824)
    (h : ∀ v' w' o', SlAt o' w' tg 51 1 v' (n + 1) (xs ++ news.toList) → Ext o o' w w' (fun x => x = tg) → w.grownBy w' v.ownBlock → v' ≠ .slice none 0 0 → wpList Try.prog ops Q rest (a.put op.dst v') w') :
    wpList Try.prog ops Q (op :: rest) a w := by
  obtain ⟨i0, hi, hz0, hz1, hz2⟩ := info_parts info_u64
  exact wpList_push hgd s x 50 ho 51 i0 (.int .u64 0) 1 8 Try.underlying50 hi hz0 hz1 hz2 rfl (by decide) v n xs hs hown g c news hx hg hl h1 (by simp only [maxLen]; omega) (by omega) h
/-- append(xs, ys...), elements of type u64. -/
theorem src_u64 {w : World} {o : Nat → Nat} {tg tg2 : Nat} {ops : Array Oper} {rest : List Oper} {op : Oper} {a : Act} {Q : Exit → Act → World → Prop} (hgd : op.guard = none) (s x : Operand)
    (ho : op.op = .call { callee := .builtin .append, args := #[s, x], argTypes := #[50, 50] })
    (v : Value) (n : Nat) (xs : List Value) (hs : a.eval s = v) (hown : SlAt o w tg 51 1 v n xs) (v2 : Value) (m : Nat) (news : List Value) (hx : a.eval x = v2) (hsrc : SlAt o w tg2 51 1 v2 m news)
    (h1 : ∀ u ∈ news, u.oneCell' = true) (hb : n + m ≤ 1073741824)
    (h : ∀ v' w' o', SlAt o' w' tg 51 1 v' (n + m) (xs ++ news) → Ext o o' w w' (fun x => x = tg) → w.grownBy w' v.ownBlock → (v' = .slice none 0 0 ↔ v = .slice none 0 0 ∧ m = 0) → wpList Try.prog ops Q rest (a.put op.dst v') w') :
    wpList Try.prog ops Q (op :: rest) a w := by
  obtain ⟨i0, hi, hz0, hz1, hz2⟩ := info_parts info_u64
  exact wpList_append_src hgd s x 50 ho 51 i0 (.int .u64 0) 1 8 Try.underlying50 hi hz0 hz1 hz2 rfl (by decide) v n xs hs hown v2 m news hx hsrc h1 (by simp only [maxLen]; omega) (by omega) h


theorem ints_one (xs : List Int) (k : IntKind) : ∀ u ∈ xs.map (Value.int k), u.oneCell' = true := by
  intro u hu
  obtain ⟨x, _, rfl⟩ := List.mem_map.1 hu
  rfl

theorem row_int {o : Nat → Nat} {w : World} {t : Nat} {T : TypeId} {v : Value} {xs : List Int} {k : IntKind} (hs : SlAt o w t T 1 v xs.length (xs.map (Value.int k))) {i : Nat} (hi : i < xs.length) :
    ∃ g cap cur, v = .slice (some ⟨g, 0, none⟩) xs.length cap ∧ blk w g = some (.cells cur T (0, 0)) ∧ o g = t ∧ cap ≤ 9223372036854775807 ∧ xs.length ≤ cap ∧ cur[i]? = some (.int k (xs.getD i 0)) := by
  obtain ⟨g, cap, cur, rfl, hg, hog, h1, h2, h3, h4⟩ := hs.row (by omega)
  exact ⟨g, cap, cur, rfl, hg, hog, by simp only [maxLen] at h2; omega, h1, cur_at h4 (by simp [hi])⟩

set_option maxHeartbeats 400000 in
theorem ref02_may {o : Nat → Nat} {w : World} {t n : Nat} {v : Value} {cs : List Value} (hs : SlAt o w t 51 1 v n cs) (i : Int) :
    Calls Try.prog 27 #[v, .int .i64 i] w fun e w' => e = .returned (.bool (decide (0 ≤ i ∧ i < n))) ∧ w = w' := by
  obtain ⟨a, c, rfl⟩ := hs.value
  have hle := hs.le63
  clear hs
  by_cases h0 : 0 ≤ i
  · by_cases h1 : i < n
    · rw [decide_eq_true ⟨h0, h1⟩]
      go_enter Try.func27, Try.ntmps27
      go_wp2
      go_ret
      exact ⟨by simp, rfl⟩
    · rw [decide_eq_false (fun h => h1 h.2)]
      go_enter Try.func27, Try.ntmps27
      go_wp2
      go_ret
      exact ⟨by simp, rfl⟩
  · rw [decide_eq_false (fun h => h0 h.1)]
    go_enter Try.func27, Try.ntmps27
    go_wp2
    go_ret
    exact ⟨rfl, rfl⟩

def IntsPost (o : Nat → Nat) (t2 : Nat) (T : TypeId) (k : IntKind) (l : List Int) (w : World) (e : Ending) (w' : World) : Prop :=
  ∃ o' v, e = .returned v ∧ SlAt o' w' t2 T 1 v l.length (l.map (Value.int k)) ∧ Ext o o' w w' (fun x => x = t2)

set_option maxHeartbeats 400000 in
theorem ref02_set {o : Nat → Nat} {w : World} {t t2 : Nat} {v : Value} {xs : List Int} (hs : SlAt o w t 51 1 v xs.length (xs.map (Value.int .u64))) (hb : xs.length ≤ 1073741824) (i x : Int) (h0 : 0 ≤ i) (hi : i < xs.length) :
    Calls Try.prog 30 #[v, .int .i64 i, .int .u64 x] w (IntsPost o t2 51 .u64 (xs.set i.toNat x) w) := by
  obtain ⟨i, rfl⟩ := Int.eq_ofNat_of_zero_le h0
  rw [Int.toNat_natCast]
  have hi' : i < xs.length := by omega
  obtain ⟨a, c, rfl⟩ := hs.value
  have hR := (Ext.refl o w (fun x => x = t2)).retag t2
  have hs0 : SlAt (upd o w.heap.size t2) (w.alloc (.cells #[] 51)) t2 51 1 (.slice (some ⟨w.heap.size, 0, none⟩) 0 0) 0 [] := SlAt.made _ _ _ (Nat.le_refl _) (Nat.zero_le _) rfl rfl (upd_new (Nat.le_refl _))
  have hs1 := (hs.ext ((Ext.refl o w (fun _ => False)).retag t2) id).alloc (.cells #[] 51)
  have hE := hR.alloc (.cells #[] 51)
  go_enter Try.func30, Try.ntmps30
  go_wp2_with (at_builtin; refine src_u64 rfl (.tmp 8) (.tmp 9) rfl _ _ _ rfl hs0 _ _ _ rfl hs1 (ints_one _ _) (by omega) ?_)
  intro v' w1 o1 hs2 he1 _ _
  try simp only [List.nil_append, Nat.zero_add] at hs2
  obtain ⟨g, cap, cur, rfl, hg, hog, h2, h1, hc⟩ := row_int hs2 hi'
  have hs3 := hs2.put1 i hi' (.int .u64 x)
  rw [← List.map_set] at hs3
  have hE2 : Ext o o1 w (w1.setCell ⟨g, i, none⟩ (.int .u64 x)) (fun x => x = t2) := (hE.trans he1).put _ (.inl hog)
  clear hs0 hs1 hs2 hE hR he1 hs
  generalize xs.getD i 0 = y at *
  replace hs3 := hide hs3
  go_wp2
  go_ret
  exact ⟨o1, _, rfl, by rw [List.length_set]; exact hs3.out, hE2⟩

/-- An act of the statement's: Kind, I, A, B. -/
def act02 (x : Int × Int × Int × Int) : List Value := [.int .u8 x.1, .int .i64 x.2.1, .int .u64 x.2.2.1, .int .u64 x.2.2.2]
def okAct02 (x : Int × Int × Int × Int) : Prop := (0 ≤ x.1 ∧ x.1 ≤ 255) ∧ (-9223372036854775808 ≤ x.2.1 ∧ x.2.1 ≤ 9223372036854775807) ∧ (0 ≤ x.2.2.1 ∧ x.2.2.1 ≤ 18446744073709551615)

structure Mem02 (tm b : Nat) (xs : List Int) (v : Value) (w wr : World) (o1 : Nat → Nat) : Prop where
  cells : CellsAt o1 wr 1 b xs
  tags : 6 ≤ tm
  m : SlAt o1 wr tm 51 1 v xs.length (xs.map (Value.int .u64))
  ext : Ext (fun _ => 0) o1 w wr (fun x => x ≠ 0)
theorem getD_set_self (xs : List Int) (i : Nat) (v : Int) (h : i < xs.length) : (xs.set i v).getD i 0 = v := by simp [h]
theorem may_no {a b : Prop} [Decidable a] [Decidable b] (h : (decide a && decide b) = false) : ¬ (a ∧ b) := fun ⟨x, y⟩ => by simp [x, y] at h
theorem may_yes {a b : Prop} [Decidable a] [Decidable b] (h : (decide a && decide b) = true) : a ∧ b := by simpa using h
theorem Mem02.step {tm tm' b : Nat} {xs xs' : List Int} {v v' : Value} {w wr w2 : World} {o1 o2 : Nat → Nat} (M : Mem02 tm b xs v w wr o1) (e : Ext o1 o2 wr w2 (fun x => x ≠ 0)) (hl : CellsAt o2 w2 1 b xs') (ht : 6 ≤ tm') (hp : SlAt o2 w2 tm' 51 1 v' xs'.length (xs'.map (Value.int .u64))) :
    Mem02 tm' b xs' v' w w2 o2 := ⟨hl, ht, hp, M.ext.trans e⟩

set_option maxRecDepth 100000 in
set_option maxHeartbeats 20000000 in
theorem law02_play (n : Int) (v : Value) (acts : List (Int × Int × Int × Int)) (w : World) (hv : FrAt w w.heap.size 4 v (acts.map act02)) (hin : ∀ x ∈ acts, okAct02 x) (hn : 0 ≤ n ∧ n ≤ 5000) (hl : acts.length ≤ 80) :
    Calls Try.prog 5 #[.int .i64 n, v] w fun e w' => e = .returned (.bool true) ∧ Below w.heap.size w w' := by
  obtain ⟨hn0, hn1⟩ := hn
  obtain ⟨i0, hi, hz0, hz1, hz2⟩ := info_parts u64_info
  have hmk := fun W => run_make (P := Try.prog) W 50 51 i0 (.int .u64 0) Try.underlying50 hi hz0 .i64 .i64 n n hn0 (Int.le_refl _) (by rw [hz2]; omega) (by omega)
  rw [hz1] at hmk
  clear hi hz0 hz1 hz2
  obtain ⟨a, cap, rfl, hlen, _⟩ := id hv
  rw [List.length_map] at *
  replace hv := hide hv
  go_enter Try.func5, Try.ntmps5
  go_wp2_with fail
  refine (cells_new_ok (fun _ => 0) 1 n hn0 (by omega) _).mono ?_
  rintro e w1 ⟨o1, b, rfl, hc, he⟩
  have hll : (List.replicate n.toNat (0 : Int)).length = n.toNat := List.length_replicate
  generalize hxs : List.replicate n.toNat (0 : Int) = xs0 at *
  go_wp2_with fail
  have hm0 : SlAt (upd o1 w1.heap.size 6) (w1.alloc (.cells (madeCells #[.int .u64 0] n.toNat) 51)) 6 51 1 (.slice (some ⟨w1.heap.size, 0, none⟩) n.toNat n.toNat) xs0.length (xs0.map (Value.int .u64)) := by
    rw [hll]
    refine SlAt.made _ _ _ (Nat.le_refl _) ?_ ?_ ?_ (upd_new (Nat.le_refl _))
    · simp only [maxLen]; omega
    · simp [madeCells]
    · have := madeCells_one (.int .u64 0) rfl n.toNat
      show List.take _ (madeCells (Value.int IntKind.u64 0).cells n.toNat).toList = _
      rw [this, ← hxs]; simp
  have hE0 : Ext o1 (upd o1 w1.heap.size 6) w1 (w1.alloc (.cells (madeCells #[.int .u64 0] n.toNat) 51)) (fun _ => False) := ((Ext.refl o1 w1 _).retag 6).alloc _
  have hM : Mem02 6 b xs0 (.slice (some ⟨w1.heap.size, 0, none⟩) n.toNat n.toNat) w (w1.alloc (.cells (madeCells #[.int .u64 0] n.toNat) 51)) (upd o1 w1.heap.size 6) :=
    ⟨hc.ext hE0 id, Nat.le_refl _, hm0, (he.none.trans hE0.none)⟩
  have hx5 : xs0.length ≤ 5000 := by rw [hll]; omega
  clear hxs hll hm0 hE0 hc he hmk
  replace hM := hide hM
  go_loopw [7, 67] (fun m i wr => ∃ (k : Nat) (xs : List Int) (o1 : Nat → Nat) (tm : Nat), k ≤ acts.length ∧ i = .int .i64 k ∧ xs.length ≤ 5000 * (k + 1) ∧ Mem02 tm b xs m w wr o1)
    (fun _ i _ => acts.length - (intOf i).toNat)
  case atStart => exact ⟨0, _, _, 6, Nat.zero_le _, rfl, by omega, hM.out⟩
  case round =>
    obtain ⟨k, xs, o2, tm, hk, rfl, hx, M⟩ := hrel
    clear hM
    have htm := M.tags
    by_cases hlt : k < acts.length
    · have hbel : Below w.heap.size w wr := M.ext.done (by decide)
      obtain ⟨_, _, hv2, _, hr⟩ := hv.out.below hbel
      obtain ⟨ab, aoff, ha, hab, hcell⟩ := hr k (by simpa using hlt)
      simp at hv2
      obtain ⟨rfl, rfl⟩ := hv2
      subst ha
      have hget : (acts.map act02).getD k [] = act02 (acts.getD k (0, 0, 0, 0)) := by simp [hlt]
      rw [hget] at hcell
      have hmem : acts.getD k (0, 0, 0, 0) ∈ acts := by simp [hlt]
      have hin' := hin _ hmem
      generalize acts.getD k (0, 0, 0, 0) = x at *
      obtain ⟨kd, i, u, z⟩ := x
      obtain ⟨_, e0, c0⟩ := hcell 0 (by omega)
      obtain ⟨_, e1, c1⟩ := hcell 1 (by omega)
      obtain ⟨_, e2, c2⟩ := hcell 2 (by omega)
      obtain ⟨_, e3, c3⟩ := hcell 3 (by omega)
      simp [act02] at e0 e1 e2 e3
      subst e0 e1 e2 e3
      clear hr hcell hget hmem
      rw [Nat.add_zero] at c0
      obtain ⟨ma, mc, rfl⟩ := M.m.value
      have hnb : ab < wr.heap.size := Nat.lt_of_lt_of_le hab hbel.size
      have St : StAt (upd o2 wr.heap.size 3) (wr.alloc (.cells #[.int .u8 kd, .int .i64 i, .int .u64 u, .int .u64 z] 53)) 3 wr.heap.size #[.int .u8 kd, .int .i64 i, .int .u64 u, .int .u64 z] 53 := ⟨blk_new _ _, upd_new (Nat.le_refl _)⟩
      have E0 : Ext o2 (upd o2 wr.heap.size 3) wr (wr.alloc (.cells #[.int .u8 kd, .int .i64 i, .int .u64 u, .int .u64 z] 53)) (fun _ => False) := ((Ext.refl o2 wr _).retag 3).alloc _
      have M0 : Mem02 tm b xs _ w (wr.alloc (.cells #[.int .u8 kd, .int .i64 i, .int .u64 u, .int .u64 z] 53)) (upd o2 wr.heap.size 3) := M.step E0.none (M.cells.ext E0 id) htm (M.m.ext E0 id)
      have hst := St.heap
      have hxb : xs.length ≤ 405000 := by omega
      obtain ⟨⟨hkd0, hkd1⟩, ⟨hi0, hi1⟩, hu0, hu1⟩ := hin'
      go_upto_block 2 with (go_at_call 27; refine (ref02_may (M.m.alloc _) _).mono ?_; rintro e w' ⟨rfl, rfl⟩)
      clear M E0 c0 c1 c2 c3
      generalize wr.alloc (.cells #[.int .u8 kd, .int .i64 i, .int .u64 u, .int .u64 z] 53) = wa at *
      generalize upd o2 wr.heap.size 3 = oa at *
      obtain ⟨may, hmay⟩ : ∃ may : Bool, (decide (0 ≤ i) && decide (i < (xs.length : Int))) = may := ⟨_, rfl⟩
      rw [hmay]
      replace hmay := hide hmay
      go_cut [7] (fun m' wx => ∃ xs' o3 tm', xs'.length ≤ 5000 * (k + 2) ∧ Mem02 tm' b xs' m' w wx o3)
      case first =>
        have hxk : xs.length ≤ 5000 * (k + 2) := by omega
        have hlen63 : xs.length ≤ 9223372036854775807 := by omega
        rcases (by omega : kd = 0 ∨ kd = 1 ∨ kd = 2 ∨ kd = 3 ∨ kd = 4 ∨ 4 < kd) with rfl | rfl | rfl | rfl | rfl | hkd
        · --[dev
          cases may
          · as_aux_lemma =>
            have hno := may_no hmay.out
            have hload := hide (cells_load_no M0.cells i (by omega))
            replace hno := hide hno
            go_wp2_with fail
            refine hload.out.mono ?_
            rintro e w3 ⟨rfl, rfl⟩
            go_wp2_with fail
            go_meet
            case rel => exact ⟨xs, oa, tm, hxk, M0⟩
          · as_aux_lemma =>
            obtain ⟨hm0, hm1⟩ := may_yes hmay.out
            have hload := hide (cells_load M0.cells i hm0 hm1)
            obtain ⟨g1, cap1, cur1, hv1, hg1, _, ha1, hb1, hc1⟩ := row_int M0.m (i := i.toNat) (by omega)
            simp at hv1
            obtain ⟨rfl, rfl⟩ := hv1
            generalize xs.getD i.toNat 0 = y at hload hc1
            have hyy : (y != y) = false := by simp
            go_wp2_with fail
            refine hload.out.mono ?_
            rintro e w3 ⟨rfl, rfl⟩
            go_wp2_with fail
            go_meet
            case rel => exact ⟨xs, oa, tm, hxk, M0⟩
        · --[dev
          cases may
          · as_aux_lemma =>
            have hno := may_no hmay.out
            have hstore := hide (cells_store_no M0.cells i u (by omega))
            replace hno := hide hno
            go_wp2_with fail
            refine hstore.out.mono ?_
            rintro e w3 ⟨rfl, rfl⟩
            go_wp2_with fail
            go_meet
            case rel => exact ⟨xs, oa, tm, hxk, M0⟩
          · as_aux_lemma =>
            obtain ⟨hm0, hm1⟩ := may_yes hmay.out
            have hstore := hide (cells_store M0.cells i u hm0 hm1)
            go_wp2_with fail
            refine hstore.out.mono ?_
            rintro e w3 ⟨o3, rfl, hc3, e3⟩
            have hst3 := St.ext e3 (by decide)
            have hst3' := hst3.heap
            have hm3 := M0.m.ext e3 (by omega)
            go_wp2_with fail
            refine (ref02_set (t2 := tm + 1) hm3 (by omega) i u hm0 hm1).mono ?_
            rintro e w4 ⟨o4, v4, rfl, hm4, e4⟩
            have hE := (e3.mono (S2 := fun x => x ≠ 0) (by simp)).trans (e4.mono (fun x h => by omega))
            have hM := M0.step hE (hc3.ext e4 (by omega)) (by omega) hm4
            go_wp2_with fail
            go_meet
            case rel => exact ⟨_, _, _, by rw [List.length_set]; exact hxk, hM⟩
        · cases may
          · as_aux_lemma =>
            have hno := may_no hmay.out
            have hadd := hide (cells_add_no M0.cells i u (by omega))
            replace hno := hide hno
            go_wp2_with fail
            refine hadd.out.mono ?_
            rintro e w3 ⟨rfl, rfl⟩
            go_wp2_with fail
            go_meet
            case rel => exact ⟨xs, oa, tm, hxk, M0⟩
          · as_aux_lemma =>
            obtain ⟨hm0, hm1⟩ := may_yes hmay.out
            have hadd := hide (cells_add M0.cells i u hm0 hm1)
            go_wp2_with fail
            refine hadd.out.mono ?_
            rintro e w3 ⟨o3, rfl, hc3, e3⟩
            have hst3 := St.ext e3 (by decide)
            have hst3' := hst3.heap
            have hm3 := M0.m.ext e3 (by omega)
            obtain ⟨g1, cap1, cur1, hv1, hg1, _, ha1, hb1, hc1⟩ := row_int hm3 (i := i.toNat) (by omega)
            simp at hv1
            obtain ⟨rfl, rfl⟩ := hv1
            generalize xs.getD i.toNat 0 = y at hc3 hc1 ⊢
            go_wp2_with fail
            go_still_tail 11, (by kernel_rfl)
            have e3d := e3.drew
            have hm3d := hm3.drew
            have hc3d := hc3.ext ((Ext.refl o3 w3 (fun _ => False)).drew) id
            have hst3d : blk w3.drew wr.heap.size = some _ := hst3'
            clear e3 hm3 hc3 hst3' hst3 hg1 hc1
            go_wp2_with fail
            refine (ref02_set (t2 := tm + 1) hm3d (by omega) i (IntKind.u64.wrap (y + u)) hm0 hm1).mono ?_
            rintro e w4 ⟨o4, v4, rfl, hm4, e4⟩
            have hst4 := e4.keep hst3d
            have hE := (e3d.mono (S2 := fun x => x ≠ 0) (by simp)).trans (e4.mono (fun x h => by omega))
            have hM := hide (M0.step hE (hc3d.ext e4 (by omega)) (by omega) hm4)
            obtain ⟨g2, cap2, cur2, rfl, hg2, _, ha2, hb2, hc2⟩ := row_int hm4 (i := i.toNat) (by rw [List.length_set]; omega)
            rw [getD_set_self _ _ _ (by omega)] at hc2
            rw [List.length_set] at hb2 hM ⊢
            have hst4' : blk w4 wr.heap.size = some (.cells #[.int .u8 2, .int .i64 i, .int .u64 u, .int .u64 z] 53 (0, 0)) := hst4 (by rw [e3d.tag hst St.tag]; omega)
            clear hm4 e4 hst4 hm3d hc3d hst3d
            generalize IntKind.u64.wrap (y + u) = V at hc2 hM ⊢
            have hvv : (V != V) = false := by simp
            go_wp2_with fail
            go_meet
            case rel => exact ⟨_, _, _, by rw [List.length_set]; exact hxk, hM.out⟩
        · cases may
          · as_aux_lemma =>
            have hno := may_no hmay.out
            have hsw := hide (cells_swap_no M0.cells i u z (by omega))
            replace hno := hide hno
            go_wp2_with fail
            refine hsw.out.mono ?_
            rintro e w3 ⟨rfl, rfl⟩
            go_wp2_with fail
            go_quiet (fail)
            have M1 : Mem02 tm b xs _ w _ oa := M0.step ((Ext.refl oa _ _).drewN nq) (M0.cells.ext ((Ext.refl oa _ (fun _ => False)).drewN nq) id) htm (M0.m.drewN nq)
            go_wp2_with fail
            go_meet
            case rel => exact ⟨xs, oa, tm, hxk, M1⟩
          · obtain ⟨hm0, hm1⟩ := may_yes hmay.out
            by_cases hy : xs.getD i.toNat 0 = u
            · as_aux_lemma =>
              have hsw := hide (cells_swap M0.cells i u z hm0 hm1 hy)
              go_wp2_with fail
              refine hsw.out.mono ?_
              rintro e w3 ⟨o3, rfl, hc3, e3⟩
              have hst3 := St.ext e3 (by decide)
              have hst3' := hst3.heap
              have hm3 := M0.m.ext e3 (by omega)
              obtain ⟨g1, cap1, cur1, hv1, hg1, _, ha1, hb1, hcc⟩ := row_int hm3 (i := i.toNat) (by omega)
              simp at hv1
              obtain ⟨rfl, rfl⟩ := hv1
              rw [hy] at hcc
              have huu : (u == u) = true := by simp
              clear hy
              go_wp2_with fail
              go_quiet (fail)
              have hm3d := hm3.drewN nq
              have hc3d := hc3.ext ((Ext.refl o3 w3 (fun _ => False)).drewN nq) id
              have e3d := e3.drewN nq
              have hst3d : blk (w3.drewN nq) wr.heap.size = some (.cells #[.int .u8 3, .int .i64 i, .int .u64 u, .int .u64 z] 53 (0, 0)) := hst3'
              clear hm3 hc3 e3 hst3' hst3 hg1 hcc
              generalize w3.drewN nq = wd at hm3d hc3d e3d hst3d ⊢
              go_wp2_with fail
              refine (ref02_set (t2 := tm + 1) hm3d (by omega) i z hm0 hm1).mono ?_
              rintro e w4 ⟨o4, v4, rfl, hm4, e4⟩
              have hE := (e3d.mono (S2 := fun x => x ≠ 0) (by simp)).trans (e4.mono (fun x h => by omega))
              have hM := M0.step hE (hc3d.ext e4 (by omega)) (by omega) hm4
              go_wp2_with fail
              go_meet
              case rel => exact ⟨_, _, _, by rw [List.length_set]; exact hxk, hM⟩
            · as_aux_lemma =>
              have hsw := hide (cells_swap_other M0.cells i u z hm0 hm1 hy)
              obtain ⟨g1, cap1, cur1, hv1, hg1, _, ha1, hb1, hcc⟩ := row_int M0.m (i := i.toNat) (by omega)
              simp at hv1
              obtain ⟨rfl, rfl⟩ := hv1
              have hyy : (xs.getD i.toNat 0 == u) = false := by simpa using hy
              generalize xs.getD i.toNat 0 = y at hsw hcc hyy
              clear hy
              go_wp2_with fail
              refine hsw.out.mono ?_
              rintro e w3 ⟨rfl, rfl⟩
              go_wp2_with fail
              go_quiet (fail)
              have M1 : Mem02 tm b xs _ w _ oa := M0.step ((Ext.refl oa _ _).drewN nq) (M0.cells.ext ((Ext.refl oa _ (fun _ => False)).drewN nq) id) htm (M0.m.drewN nq)
              go_wp2_with fail
              go_meet
              case rel => exact ⟨xs, oa, tm, hxk, M1⟩
        · clear hmay
          by_cases hbig : 5000 < i ∧ i ≤ 1048576
          · as_aux_lemma =>
            obtain ⟨hb1, hb2⟩ := hbig
            go_wp2_with fail
            refine (law02_awake _).mono ?_
            rintro e w7 ⟨rfl, hb7⟩
            go_wp2
            go_ret
            exact ⟨rfl, (M0.ext.done (by decide)).trans (hb7.mono M0.ext.size)⟩
          · by_cases hneg : i < 0 ∨ 1048576 < i
            · as_aux_lemma =>
              have hg := hide (cells_grow_no M0.cells i (by omega))
              by_cases h0 : i < 0
              all_goals
                have hbig' : ¬ 5000 < i ∨ 1048576 < i := by omega
                go_wp2_with fail
                refine hg.out.mono ?_
                rintro e w3 ⟨rfl, rfl⟩
                go_wp2_with fail
                go_meet
                case rel => exact ⟨xs, oa, tm, hxk, M0⟩
            · as_aux_lemma =>
              have h0 : 0 ≤ i := by omega
              have h5 : i ≤ 5000 := by omega
              have hg := hide (cells_grow_ok M0.cells i h0 (by omega))
              clear hbig hneg
              go_wp2_with fail
              refine hg.out.mono ?_
              rintro e w3 ⟨o3, rfl, hc3, e3⟩
              have hst3 := St.ext e3 (by decide)
              have hst3' := hst3.heap
              have hm3 := M0.m.ext e3 (by omega)
              have hnn : Hid (i = (i.toNat : Int)) := hide (by omega)
              have hb1 : xs.length + i.toNat ≤ 1073741824 := by omega
              go_wp2_with (at_builtin; refine zeros_u64 rfl (.tmp 277) (.tmp 279) rfl _ _ _ rfl hm3 i.toNat i rfl hnn.out hb1 ?_)
              intro v' w4 o4 hm4 e4 hg4
              obtain ⟨va, vc, rfl⟩ := hm4.value
              have hE := (e3.mono (S2 := fun x => x ≠ 0) (by simp)).trans (e4.mono (fun x h => by omega))
              have hM := hide (M0.step hE (hc3.ext e4 (by omega)) htm (v' := .slice va (xs.length + i.toNat) vc) (by simpa using hm4))
              clear hm4 hm3 hc3 e3 e4 hg4 hst3 hst3'
              go_wp2_with fail
              go_meet
              case rel => exact ⟨_, _, _, by rw [List.length_append, List.length_replicate]; omega, hM.out⟩
        · go_wp2_with fail
          go_meet
          case rel => exact ⟨xs, oa, tm, hxk, M0⟩
      case rest =>
        clear M0 St hst
        obtain ⟨xs', o3, tm', hx', M'⟩ := hcut
        obtain ⟨ma', mc', rfl⟩ := M'.m.value
        have hle := M'.m.le63
        go_wp2_with fail
        refine (cells_len M'.cells).mono ?_
        rintro e w3 ⟨rfl, rfl⟩
        go_wp2
        go_roundw
        case rel => exact ⟨k + 1, xs', o3, tm', by omega, by go_num, by omega, M'⟩
        case measure => simp [intOf]; omega
    · have : k = acts.length := by omega
      subst this
      obtain ⟨ma, mc, rfl⟩ := M.m.value
      have hle := M.m.le63
      have hxb : xs.length ≤ 405000 := by omega
      go_wp2_with fail
      go_loopw [289] (fun i wr3 => ∃ q : Nat, q ≤ xs.length ∧ i = .int .i64 q ∧ wr3 = wr) (fun i _ => xs.length - (intOf i).toNat)
      case atStart => exact ⟨0, Nat.zero_le _, rfl, rfl⟩
      case round =>
        obtain ⟨q, hq, rfl, rfl⟩ := hrel
        by_cases hltq : q < xs.length
        · obtain ⟨g1, cap1, cur1, hv1, hg1, _, ha1, hb1, hc1⟩ := row_int M.m hltq
          simp at hv1
          obtain ⟨rfl, rfl⟩ := hv1
          have hload := hide (cells_load M.cells q (by omega) (by omega))
          clear M
          rw [Int.toNat_natCast] at hload
          generalize xs.getD q 0 = x at *
          have hxx : (x != x) = false := by simp
          go_wp2_with fail
          refine hload.out.mono ?_
          rintro e w3 ⟨rfl, rfl⟩
          go_wp2
          go_roundw
          case rel => exact ⟨q + 1, by omega, by go_num, trivial⟩
          case measure => simp [intOf]; omega
        · have : q = xs.length := by omega
          subst this
          go_wp2_with fail
          refine (law02_awake _).mono ?_
          rintro e w7 ⟨rfl, hb7⟩
          go_wp2
          go_ret
          exact ⟨rfl, (M.ext.done (by decide)).trans (hb7.mono M.ext.size)⟩
end Go.Proofs.Ythfnbklloahdkaa
