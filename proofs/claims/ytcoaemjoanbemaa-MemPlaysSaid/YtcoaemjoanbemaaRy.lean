/- The document's answer of layer 5: Table. Condition: its rows are there. -/
import Derived.Test.YtcoaemjoanbemaaXe
namespace Go.Proofs.Ytcoaemjoanbemaa
open Go.RowKit

theorem info_rdesc : (Try.prog.info? 70).map (fun i => (i.zero, i.size, i.bytes)) = some (some (.agg #[.int .i64 0, .int .i64 0]), 2, 16) := by kernel_rfl
/-- append(xs, x), elements of type rdesc. -/
theorem push_rdesc {w : World} {o : Nat → Nat} {tg : Nat} {ops : Array Oper} {rest : List Oper} {op : Oper} {a : Act} {Q : Exit → Act → World → Prop} (hgd : op.guard = none) (s x : Operand)
    (ho : op.op = .call { callee := .builtin .append, args := #[s, x], argTypes := #[51, 51] })
    (v : Value) (n : Nat) (xs : List Value) (hs : a.eval s = v) (hown : SlAt o w tg 70 2 v n xs) (g c : Nat) (news : Array Value) (hx : a.eval x = .slice (some ⟨g, 0, none⟩) 1 c)
    (hg : blk w g = some (.cells news 70 (0, 0))) (hl : news.size = 2) (h1 : ∀ u ∈ news.toList, u.oneCell' = true) (hb : n + 1 ≤ 1073741824)
    (h : ∀ v' w' o', SlAt o' w' tg 70 2 v' (n + 1) (xs ++ news.toList) → Ext o o' w w' (fun x => x = tg) → w.grownBy w' v.ownBlock → v' ≠ .slice none 0 0 → wpList Try.prog ops Q rest (a.put op.dst v') w') :
    wpList Try.prog ops Q (op :: rest) a w := by
  obtain ⟨i0, hi, hz0, hz1, hz2⟩ := info_parts info_rdesc
  exact wpList_push hgd s x 51 ho 70 i0 (.agg #[.int .i64 0, .int .i64 0]) 2 16 Try.underlying51 hi hz0 hz1 hz2 rfl (by decide) v n xs hs hown g c news hx hg hl h1 (by simp only [maxLen]; omega) (by omega) h
/-- append(xs, ys...), elements of type rdesc. -/
theorem src_rdesc {w : World} {o : Nat → Nat} {tg tg2 : Nat} {ops : Array Oper} {rest : List Oper} {op : Oper} {a : Act} {Q : Exit → Act → World → Prop} (hgd : op.guard = none) (s x : Operand)
    (ho : op.op = .call { callee := .builtin .append, args := #[s, x], argTypes := #[51, 51] })
    (v : Value) (n : Nat) (xs : List Value) (hs : a.eval s = v) (hown : SlAt o w tg 70 2 v n xs) (v2 : Value) (m : Nat) (news : List Value) (hx : a.eval x = v2) (hsrc : SlAt o w tg2 70 2 v2 m news)
    (h1 : ∀ u ∈ news, u.oneCell' = true) (hb : n + m ≤ 1073741824)
    (h : ∀ v' w' o', SlAt o' w' tg 70 2 v' (n + m) (xs ++ news) → Ext o o' w w' (fun x => x = tg) → w.grownBy w' v.ownBlock → (v' = .slice none 0 0 ↔ v = .slice none 0 0 ∧ m = 0) → wpList Try.prog ops Q rest (a.put op.dst v') w') :
    wpList Try.prog ops Q (op :: rest) a w := by
  obtain ⟨i0, hi, hz0, hz1, hz2⟩ := info_parts info_rdesc
  exact wpList_append_src hgd s x 51 ho 70 i0 (.agg #[.int .i64 0, .int .i64 0]) 2 16 Try.underlying51 hi hz0 hz1 hz2 rfl (by decide) v n xs hs hown v2 m news hx hsrc h1 (by simp only [maxLen]; omega) (by omega) h
/-- append(xs, ys...), elements of type rdesc, ys wherever it lies. -/
theorem many_rdesc {w : World} {o : Nat → Nat} {tg : Nat} {ops : Array Oper} {rest : List Oper} {op : Oper} {a : Act} {Q : Exit → Act → World → Prop} (hgd : op.guard = none) (s x : Operand)
    (ho : op.op = .call { callee := .builtin .append, args := #[s, x], argTypes := #[51, 51] })
    (v : Value) (n : Nat) (xs : List Value) (hs : a.eval s = v) (hown : SlAt o w tg 70 2 v n xs) (ad : Addr) (m c : Nat) (news : List Value) (hx : a.eval x = .slice (some ad) m c) (hl : news.length = m * 2)
    (hnews : ∀ j u, news[j]? = some u → w.cell? (ad.add j) = some u) (h1 : ∀ u ∈ news, u.oneCell' = true) (hb : n + m ≤ 1073741824)
    (h : ∀ v' w' o', SlAt o' w' tg 70 2 v' (n + m) (xs ++ news) → Ext o o' w w' (fun x => x = tg) → w.grownBy w' v.ownBlock → (v' = .slice none 0 0 ↔ v = .slice none 0 0 ∧ m = 0) → wpList Try.prog ops Q rest (a.put op.dst v') w') :
    wpList Try.prog ops Q (op :: rest) a w := by
  obtain ⟨i0, hi, hz0, hz1, hz2⟩ := info_parts info_rdesc
  exact wpList_append_sl hgd s x 51 ho 70 i0 (.agg #[.int .i64 0, .int .i64 0]) 2 16 Try.underlying51 hi hz0 hz1 hz2 rfl (by decide) v n xs hs hown ad m c news hx hl hnews h1 (by simp only [maxLen]; omega) (by omega) h

section
variable {l : List KObj} {w : World} {t n : Nat} {ops : Array Oper} {op : Oper} {a : Act} {K : Act → World → Prop} {Q : Exit → Act → World → Prop} {E : Prop}
/-- append([]Desc{}, xs...), xs an object that is not empty. -/
theorem stepR_copyD {v : Value} {xs : List (Int × Int)} (hgd : op.guard = none) (s x : Operand)
    (ho : op.op = .call { callee := .builtin .append, args := #[s, x], argTypes := #[51, 51] })
    (h : R l w) (ht : l[t]? = some (SlK 70 2 v xs.length (xs.flatMap descL))) (hn : 0 < xs.length) (g : Nat) (hs : a.eval s = .slice (some ⟨g, 0, none⟩) 0 0) (hx : a.eval x = v) (hb : xs.length ≤ 1048576)
    (hk : ∀ v' w', (∃ g c, v' = .slice (some ⟨g, 0, none⟩) xs.length c ∧ w.heap.size ≤ g) → R (l ++ [SlK 70 2 v' xs.length (xs.flatMap descL)]) w' → (∀ k c, blk w k = some c → blk w' k = some c) → K (a.put op.dst v') w') :
    if Region.wanted op (yielded ops a.tmps) = true then Oper.wp Try.prog op a w K Q else E := by
  have hw : Region.wanted op (yielded ops a.tmps) = true := by simp [Region.wanted, hgd]
  rw [if_pos hw]
  obtain ⟨o, hr0, hown⟩ := h.get ht
  have hown : SlAt o w (16 * t) 70 2 v xs.length (xs.flatMap descL) := hown
  obtain ⟨g2, cap, cur, rfl, hg, hog, h1, h2, h3, h4⟩ := hown.row hn
  obtain ⟨i0, hi, hz0, hz1, hz2⟩ := info_parts info_rdesc
  have hlen := hown.1
  have hr := run_append_grow (P := Try.prog) w 51 op.type 70 i0 (.agg #[.int .i64 0, .int .i64 0]) Try.underlying51 hi hz0 ⟨g, 0, none⟩ 0 0 [] (by simp) (fun j v hj => by simp at hj) ⟨g2, 0, none⟩ xs.length cap (xs.flatMap descL) (by rw [hz1]; exact hlen) (hown.to_owns.cells (g := g2) rfl) (by omega) (by omega) (by rw [hz2]; exact growslice_fits (by omega) (by omega))
  have hge := grownCap_ge w (0 + xs.length) 0 70
  have hcm : grownCap w (0 + xs.length) 0 70 ≤ maxLen := grownCap_le_maxLen w (0 + xs.length) 0 70 (by simp only [maxLen]; omega)
  have hR := h.drew.madeC (T := 70) ([].toArray ++ (xs.flatMap descL).toArray ++ Builtin.zeroCells (Value.agg #[.int .i64 0, .int .i64 0]).cells (grownCap w (0 + xs.length) 0 70 - (0 + xs.length))) xs.length (grownCap w (0 + xs.length) 0 70) 2 (xs.flatMap descL) (by omega) hcm (by
    simp only [Array.size_append, List.size_toArray, size_zeroCells, hlen, List.length_nil]
    rw [show (Value.agg #[Value.int .i64 0, .int .i64 0]).cells.size = 2 from rfl]
    omega) (by
    simp only [Array.toList_append, List.append_assoc, List.nil_append]
    rw [← hlen]
    exact List.take_left)
  unfold Oper.wp execOp
  simp only [ho, resolve, invoke, builtin, Sem.run_bind, Sem.run_pure, Result.andThen_ok, List.map_toArray, List.map_cons, List.map_nil, hs, hx, hr]
  refine hk _ _ ⟨_, _, by rw [Nat.zero_add], Nat.le_refl _⟩ ?_ fun k c hc => ?_
  · rw [Nat.zero_add] at hR ⊢
    exact hR
  · rw [blk_old w.drew _ _ (lt_of_blk hc)]; exact hc
/-- append(xs, x), tables, xs an object. -/
theorem stepR_pushD {v : Value} {xs : List (Int × Int)} (hgd : op.guard = none) (s x : Operand)
    (ho : op.op = .call { callee := .builtin .append, args := #[s, x], argTypes := #[51, 51] })
    (h : R l w) (ht : l[t]? = some (SlK 70 2 v n (xs.flatMap descL))) (hs : a.eval s = v) (g c : Nat) (d : Int × Int) (hx : a.eval x = .slice (some ⟨g, 0, none⟩) 1 c)
    (hg : blk w g = some (.cells #[.int .i64 d.1, .int .i64 d.2] 70 (0, 0))) (hb : n + 1 ≤ 1073741824)
    (hk : ∀ v' w', (∃ a c, v' = .slice a (n + 1) c) → R (l.set t (SlK 70 2 v' (n + 1) ((xs ++ [d]).flatMap descL))) w' → K (a.put op.dst v') w') :
    if Region.wanted op (yielded ops a.tmps) = true then Oper.wp Try.prog op a w K Q else E := by
  have hw : Region.wanted op (yielded ops a.tmps) = true := by simp [Region.wanted, hgd]
  rw [if_pos hw]
  obtain ⟨o, hr0, hown⟩ := h.get ht
  obtain ⟨i0, hi, hz0, hz1, hz2⟩ := info_parts info_rdesc
  obtain ⟨v', w', o', hr, h2, h3, h4, _⟩ := run_append_sl (P := Try.prog) 51 op.type 70 i0 (.agg #[.int .i64 0, .int .i64 0]) 2 16 Try.underlying51 hi hz0 hz1 hz2 rfl (by decide) v n (xs.flatMap descL) hown ⟨g, 0, none⟩ 1 c [.int .i64 d.1, .int .i64 d.2] rfl (fun j u' hj => by
    rw [addr_add, cellq, hg]
    match j, hj with
    | 0, hj => simp at hj; subst hj; rfl
    | 1, hj => simp at hj; subst hj; rfl
    | j + 2, hj => simp at hj) (fun u' hu => by simp at hu; rcases hu with rfl | rfl <;> rfl) (by simp only [maxLen]; omega) (by omega)
  unfold Oper.wp execOp
  simp only [ho, resolve, invoke, builtin, Sem.run_bind, Sem.run_pure, Result.andThen_ok, List.map_toArray, List.map_cons, List.map_nil, hs, hx, hr]
  refine hk v' w' h2.value (hr0.step h3 (fun z hz => by omega) ?_)
  rw [List.flatMap_append]
  exact h2
end
section
variable {l : List KObj} {w : World} {tc tt tn tx : Nat} {cv tv nv xv : Value} {cells : List Int} {tables : List (Int × Int)} {nodes next : List Int}
def TablePost5 (l : List KObj) (tc tt : Nat) (nv xv wv : Value) (cells : List Int) (tables : List (Int × Int)) (n : Nat) (e : Ending) (w' : World) : Prop :=
  ∃ cv' tv', e = .returned (.agg #[cv', tv', nv, xv, wv]) ∧
    R ((l.set tc (SlK 30 1 cv' (cells.length + n) ((cells ++ List.replicate n 0).map (Value.int .u64)))).set tt (SlK 70 2 tv' (tables.length + 1) ((tables ++ [((n : Int), (cells.length : Int))]).flatMap descL))) w'
set_option maxRecDepth 100000 in
set_option maxHeartbeats 3200000 in
theorem ref05_table (h : R l w) (hc : l[tc]? = some (SlK 30 1 cv cells.length (cells.map (Value.int .u64)))) (ht : l[tt]? = some (SlK 70 2 tv tables.length (tables.flatMap descL))) (hne : tc ≠ tt)
    (hc1 : 1 ≤ cells.length ∧ cells.length ≤ 1048576) (ht1 : 1 ≤ tables.length ∧ tables.length ≤ 1048575) (wv : Value) (n : Nat) (hn : n ≤ 65536) (hnv : ∃ a n c, nv = .slice a n c) (hxv : ∃ a n c, xv = .slice a n c) (hwv : ∃ a n c, wv = .slice a n c) :
    Calls Try.prog 22 #[.agg #[cv, tv, nv, xv, wv], .int .i64 n] w (TablePost5 l tc tt nv xv wv cells tables n) := by
  obtain ⟨⟨ca, cc, rfl⟩, _⟩ := h.slVal hc
  obtain ⟨⟨ta, tcap, rfl⟩, _⟩ := h.slVal ht
  obtain ⟨n1, n2, n3, rfl⟩ := hnv
  obtain ⟨x1, x2, x3, rfl⟩ := hxv
  obtain ⟨w1', w2', w3', rfl⟩ := hwv
  have h1 := (h.new #[.slice ca cells.length cc, .slice ta tables.length tcap, .slice n1 n2 n3, .slice x1 x2 x3, .slice w1' w2' w3'] 53).new #[.slice none 0 0, .slice none 0 0, .slice none 0 0, .slice none 0 0, .slice none 0 0] 53
  rw [show ∀ (W : World) (x : Obj), (W.alloc x).heap.size = W.heap.size + 1 from fun W x => by simp] at h1
  have hb1 := h1.st (t := l.length) (app_get app_last)
  have hb2 := h1.st (t := (l ++ [StK w.heap.size #[.slice ca cells.length cc, .slice ta tables.length tcap, .slice n1 n2 n3, .slice x1 x2 x3, .slice w1' w2' w3'] 53]).length) app_last
  obtain ⟨hc1a, hc1b⟩ := hc1
  obtain ⟨ht1a, ht1b⟩ := ht1
  clear h
  go_enter Try.func22, Try.ntmps22
  go_upto_region 1 with fail
  generalize (w.alloc (.cells #[.slice ca cells.length cc, .slice ta tables.length tcap, .slice n1 n2 n3, .slice x1 x2 x3, .slice w1' w2' w3'] 53)).alloc (.cells #[.slice none 0 0, .slice none 0 0, .slice none 0 0, .slice none 0 0, .slice none 0 0] 53) = w1 at *
  generalize w.heap.size = bx at *
  have hlt1 := lt_of_blk hb1
  have hlt2 := lt_of_blk hb2
  replace h1 := hide h1
  obtain ⟨L0, hL0⟩ : ∃ L0, l ++ [StK bx #[.slice ca cells.length cc, .slice ta tables.length tcap, .slice n1 n2 n3, .slice x1 x2 x3, .slice w1' w2' w3'] 53] ++ [StK (bx + 1) #[.slice none 0 0, .slice none 0 0, .slice none 0 0, .slice none 0 0, .slice none 0 0] 53] = L0 := ⟨_, rfl⟩
  rw [hL0] at h1
  have htL : L0[tt]? = some (SlK 70 2 (.slice ta tables.length tcap) tables.length (tables.flatMap descL)) := by rw [← hL0]; exact app_get (app_get ht)
  have hbxL : L0[l.length]? = some (StK bx #[.slice ca cells.length cc, .slice ta tables.length tcap, .slice n1 n2 n3, .slice x1 x2 x3, .slice w1' w2' w3'] 53) := by rw [← hL0]; exact app_get app_last
  have hbyL : L0[l.length + 1]? = some (StK (bx + 1) #[.slice none 0 0, .slice none 0 0, .slice none 0 0, .slice none 0 0, .slice none 0 0] 53) := by
    rw [← hL0]
    simp
  have hLl : l.length < L0.length := lt_of_get hbxL
  go_cut [15] (fun s wx => ∃ v9, (∃ a c, v9 = .slice a (tables.length + 1) c) ∧ Hid (R (L0.set l.length (StK bx #[.slice ca cells.length cc, v9, .slice n1 n2 n3, .slice x1 x2 x3, .slice w1' w2' w3'] 53) ++ [SlK 70 2 v9 (tables.length + 1) ((tables ++ [((n : Int), (cells.length : Int))]).flatMap descL)]) wx))
  case first =>
    go_region_law (first | (refine stepR_copyD (l := L0) rfl (.tmp 5) (.tmp 7) rfl (by repeat (first | exact h1.out | apply R.alloc | apply R.drew)) htL ht1a _ rfl rfl (by omega) ?_; rintro v7 w7 ⟨g7, c7, rfl, hg7⟩ h7 kp7; have hb17 := h7.st (app_get hbxL); have hlt17 := lt_of_blk hb17; replace h7 := hide h7) | (refine stepR_pushD (l := L0 ++ [SlK 70 2 (.slice (some ⟨g7, 0, none⟩) tables.length c7) tables.length (tables.flatMap descL)]) rfl (.tmp 8) (.tmp 14) rfl (by repeat (first | exact h7.out | apply R.alloc | apply R.drew)) (t := L0.length) app_last rfl _ _ ((n : Int), (cells.length : Int)) rfl (by first | exact blk_new _ _ | exact kp7 _ _ (blk_new _ _) | (refine kp7 _ _ ?_; simp [go_sem]; done) | (simp [go_sem]; done)) (by omega) ?_; rintro v9 w9 ⟨a9, c9, rfl⟩ h9; rw [List.set_append_right _ _ (Nat.le_refl _), Nat.sub_self, List.set_cons_zero] at h9; have hb19 := h9.st (app_get hbxL); replace h9 := hide h9; clear hb17 kp7 h7))
    all_goals
      have h10 := h9.out.put (app_get hbxL) 1 (.slice a9 (tables.length + 1) c9)
      rw [List.set_append_left _ _ hLl] at h10
      replace h10 := hide h10
      clear h9
      go_wp2_with fail
      go_meet
      case rel => exact ⟨_, ⟨_, _, rfl⟩, h10⟩
  case rest =>
    obtain ⟨v9, ⟨a9, c9, rfl⟩, h3⟩ := hcut
    clear h1 hb1 hb2 hlt1 hlt2
    obtain ⟨L1, hL1⟩ : ∃ L1, L0.set l.length (StK bx #[.slice ca cells.length cc, .slice a9 (tables.length + 1) c9, .slice n1 n2 n3, .slice x1 x2 x3, .slice w1' w2' w3'] 53) ++ [SlK 70 2 (.slice a9 (tables.length + 1) c9) (tables.length + 1) ((tables ++ [((n : Int), (cells.length : Int))]).flatMap descL)] = L1 := ⟨_, rfl⟩
    rw [hL1] at h3
    have htcl := lt_of_get hc
    have httl := lt_of_get ht
    have hcL : L1[tc]? = some (SlK 30 1 (.slice ca cells.length cc) cells.length (cells.map (Value.int .u64))) := by
      rw [← hL1, ← hL0]
      exact app_get (set_other (app_get (app_get hc)) (by omega))
    have hbxL1 : L1[l.length]? = some (StK bx #[.slice ca cells.length cc, .slice a9 (tables.length + 1) c9, .slice n1 n2 n3, .slice x1 x2 x3, .slice w1' w2' w3'] 53) := by
      rw [← hL1]; exact app_get (set_get hbxL)
    have hbyL1 : L1[l.length + 1]? = some (StK (bx + 1) #[.slice none 0 0, .slice none 0 0, .slice none 0 0, .slice none 0 0, .slice none 0 0] 53) := by
      rw [← hL1]; exact app_get (set_other hbyL (by omega))
    have hb0 := h3.out.st hbxL1
    have hbl := lt_of_blk hb0
    have h4 := h3.out.madeC (T := 30) #[] 0 0 1 [] (Nat.le_refl _) (Nat.zero_le _) rfl rfl
    obtain ⟨o, hr⟩ := h4
    have hs0 := hr _ _ app_last
    have hs1 := hr tc _ (app_get hcL)
    replace hr := hide hr
    go_wp2_with (at_builtin; refine src_u64 rfl (.tmp 17) (.tmp 19) rfl _ _ _ rfl hs0 _ _ _ rfl hs1 (ints_one' _) (by omega) ?_)
    intro v7 w7 o1 hs2 he1 _ _
    have h7 := hr.out.step (t := L1.length) (q := SlK 30 1 v7 cells.length (cells.map (Value.int .u64))) he1 (fun y hy => by omega) hs2
    rw [List.set_append_right _ _ (Nat.le_refl _), Nat.sub_self, List.set_cons_zero] at h7
    have hb7 := h7.st (app_get hbxL1)
    obtain ⟨o2, hr2⟩ := h7
    have hs3 := hr2 _ _ app_last
    replace hr2 := hide hr2
    clear hr hs0 hs1 hs2 he1 hb0 hbl h3
    go_wp2_with (at_builtin; refine zeros_u64 rfl (.tmp 20) (.tmp 21) rfl _ _ _ rfl hs3 n n rfl rfl (by omega) ?_)
    intro v8 w8 o3 hs4 he2 _
    have h8 := hr2.out.step (t := L1.length) (q := SlK 30 1 v8 (cells.length + n) ((cells ++ List.replicate n 0).map (Value.int .u64))) he2 (fun y hy => by omega) (by rw [List.map_append, List.map_replicate]; exact hs4)
    rw [List.set_append_right _ _ (Nat.le_refl _), Nat.sub_self, List.set_cons_zero] at h8
    obtain ⟨⟨a8, c8, rfl⟩, _⟩ := h8.slVal app_last
    have hb8 := h8.st (app_get hbxL1)
    have hb9 := h8.st (app_get hbyL1)
    have hne1 : bx ≠ bx + 1 := by omega
    have hne2 : bx + 1 ≠ bx := by omega
    have h9 := h8.put (app_get hbxL1) 0 (.slice a8 (cells.length + n) c8)
    have hby2 : ((L1 ++ [SlK 30 1 (.slice a8 (cells.length + n) c8) (cells.length + n) ((cells ++ List.replicate n 0).map (Value.int .u64))]).set l.length (StK bx (#[.slice ca cells.length cc, .slice a9 (tables.length + 1) c9, .slice n1 n2 n3, .slice x1 x2 x3, .slice w1' w2' w3'].setIfInBounds 0 (.slice a8 (cells.length + n) c8)) 53))[l.length + 1]? = some (StK (bx + 1) #[.slice none 0 0, .slice none 0 0, .slice none 0 0, .slice none 0 0, .slice none 0 0] 53) := set_other (app_get hbyL1) (by omega)
    have h10 := (((((h9.put hby2 0 (.slice a8 (cells.length + n) c8)).put (set_get hby2) 1 (.slice a9 (tables.length + 1) c9)).put (set_get (set_get hby2)) 2 (.slice n1 n2 n3)).put (set_get (set_get (set_get hby2))) 3 (.slice x1 x2 x3)).put (set_get (set_get (set_get (set_get hby2)))) 4 (.slice w1' w2' w3'))
    have hb10 := h10.st (set_get (set_get (set_get (set_get (set_get hby2)))))
    simp only [List.set_set] at h10
    replace h10 := hide h10
    replace hb10 := hide hb10
    clear hr2 hs3 hs4 he2 hb7 h8 h9
    go_wp2_with fail
    refine bodyPost_ret (by simp [results, Try.results22, go_sem, hb9]; rfl) rfl ?_
    refine ⟨_, _, rfl, ?_⟩
    have h11 := (h10.out.drop l.length).drop (l.length + 1)
    rw [List.set_comm _ _ (by omega : l.length + 1 ≠ l.length), List.set_set, List.set_set] at h11
    have e : ((((L1 ++ [SlK 30 1 (.slice a8 (cells.length + n) c8) (cells.length + n) ((cells ++ List.replicate n 0).map (Value.int .u64))]).set l.length NoK).set (l.length + 1) NoK)) = l ++ [NoK, NoK, SlK 70 2 (.slice a9 (tables.length + 1) c9) (tables.length + 1) ((tables ++ [((n : Int), (cells.length : Int))]).flatMap descL)] ++ [SlK 30 1 (.slice a8 (cells.length + n) c8) (cells.length + n) ((cells ++ List.replicate n 0).map (Value.int .u64))] := by
      rw [← hL1, ← hL0]
      simp [List.set_append]
    rw [e] at h11
    have h13 := R.moveSl5 (u := tc) h11 (by rw [List.length_append]; omega)
    rw [List.set_append_left _ _ htcl] at h13
    rw [show ∀ (A : List KObj) (D : KObj), A ++ [NoK, NoK, D] = A ++ [NoK, NoK] ++ [D] from fun A D => by simp] at h13
    have h15 := R.moveSl5 (u := tt) h13 (by rw [List.length_append, List.length_set]; omega)
    rw [List.set_append_left _ _ (by rw [List.length_set]; exact httl)] at h15
    exact h15.left
end
end Go.Proofs.Ytcoaemjoanbemaa
