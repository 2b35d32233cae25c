/- What the statements of the package quietuslaw03 come to. No condition. -/
import Derived.Test.YthfnbklloahdkaaLo
import Derived.Deep.DeepCutAuto
namespace Go.Proofs.Ythfnbklloahdkaa
open Go.RowKit

theorem info_held : (Try.prog.info? 44).map (fun i => (i.zero, i.size, i.bytes)) = some (some (.agg #[.int .i64 0, .int .i64 0]), 2, 16) := by kernel_rfl
/-- append(xs, x), elements of type held. -/
theorem push_held {w : World} {o : Nat → Nat} {tg : Nat} {ops : Array Oper} {rest : List Oper} {op : Oper} {a : Act} {Q : Exit → Act → World → Prop} (hgd : op.guard = none) (s x : Operand)
    (ho : op.op = .call { callee := .builtin .append, args := #[s, x], argTypes := #[35, 35] })
    (v : Value) (n : Nat) (xs : List Value) (hs : a.eval s = v) (hown : SlAt o w tg 44 2 v n xs) (g c : Nat) (news : Array Value) (hx : a.eval x = .slice (some ⟨g, 0, none⟩) 1 c)
    (hg : blk w g = some (.cells news 44 (0, 0))) (hl : news.size = 2) (h1 : ∀ u ∈ news.toList, u.oneCell' = true) (hb : n + 1 ≤ 1073741824)
    (h : ∀ v' w' o', SlAt o' w' tg 44 2 v' (n + 1) (xs ++ news.toList) → Ext o o' w w' (fun x => x = tg) → w.grownBy w' v.ownBlock → v' ≠ .slice none 0 0 → wpList Try.prog ops Q rest (a.put op.dst v') w') :
    wpList Try.prog ops Q (op :: rest) a w := by
  obtain ⟨i0, hi, hz0, hz1, hz2⟩ := info_parts info_held
  exact wpList_push hgd s x 35 ho 44 i0 (.agg #[.int .i64 0, .int .i64 0]) 2 16 Try.underlying35 hi hz0 hz1 hz2 rfl (by decide) v n xs hs hown g c news hx hg hl h1 (by simp only [maxLen]; omega) (by omega) h
/-- append(xs, ys...), elements of type held. -/
theorem src_held {w : World} {o : Nat → Nat} {tg tg2 : Nat} {ops : Array Oper} {rest : List Oper} {op : Oper} {a : Act} {Q : Exit → Act → World → Prop} (hgd : op.guard = none) (s x : Operand)
    (ho : op.op = .call { callee := .builtin .append, args := #[s, x], argTypes := #[35, 35] })
    (v : Value) (n : Nat) (xs : List Value) (hs : a.eval s = v) (hown : SlAt o w tg 44 2 v n xs) (v2 : Value) (m : Nat) (news : List Value) (hx : a.eval x = v2) (hsrc : SlAt o w tg2 44 2 v2 m news)
    (h1 : ∀ u ∈ news, u.oneCell' = true) (hb : n + m ≤ 1073741824)
    (h : ∀ v' w' o', SlAt o' w' tg 44 2 v' (n + m) (xs ++ news) → Ext o o' w w' (fun x => x = tg) → w.grownBy w' v.ownBlock → (v' = .slice none 0 0 ↔ v = .slice none 0 0 ∧ m = 0) → wpList Try.prog ops Q rest (a.put op.dst v') w') :
    wpList Try.prog ops Q (op :: rest) a w := by
  obtain ⟨i0, hi, hz0, hz1, hz2⟩ := info_parts info_held
  exact wpList_append_src hgd s x 35 ho 44 i0 (.agg #[.int .i64 0, .int .i64 0]) 2 16 Try.underlying35 hi hz0 hz1 hz2 rfl (by decide) v n xs hs hown v2 m news hx hsrc h1 (by simp only [maxLen]; omega) (by omega) h


/-- Pairs of numbers, laid flat. -/
def flat2 (l : List (Int × Int)) : List Value := l.flatMap fun p => [.int .i64 p.1, .int .i64 p.2]
theorem flat2_length (l : List (Int × Int)) : (flat2 l).length = l.length * 2 := by
  induction l with
  | nil => rfl
  | cons p l ih => simp only [flat2, List.flatMap_cons, List.length_append, List.length_cons, List.length_nil] at ih ⊢; omega
theorem flat2_at (l : List (Int × Int)) (k : Nat) (h : k < l.length) : (flat2 l)[k * 2]? = some (.int .i64 (l.getD k (0, 0)).1) ∧ (flat2 l)[k * 2 + 1]? = some (.int .i64 (l.getD k (0, 0)).2) := by
  induction l generalizing k with
  | nil => simp at h
  | cons p l ih =>
    cases k with
    | zero => simp [flat2]
    | succ k =>
      have := ih k (by simpa using h)
      have e : flat2 (p :: l) = .int .i64 p.1 :: .int .i64 p.2 :: flat2 l := rfl
      rw [e, show (k + 1) * 2 = k * 2 + 1 + 1 by omega, List.getElem?_cons_succ, List.getElem?_cons_succ, List.getElem?_cons_succ, List.getElem?_cons_succ]
      simpa using this

theorem row2_at {o : Nat → Nat} {w : World} {t : Nat} {T : TypeId} {v : Value} {l : List (Int × Int)} (hs : SlAt o w t T 2 v l.length (flat2 l)) {k : Nat} (h : k < l.length) :
    ∃ g cap cur, v = .slice (some ⟨g, 0, none⟩) l.length cap ∧ blk w g = some (.cells cur T (0, 0)) ∧ cap ≤ 9223372036854775807 ∧ l.length ≤ cap ∧ cur[k * 2]? = some (.int .i64 (l.getD k (0, 0)).1) ∧ cur[k * 2 + 1]? = some (.int .i64 (l.getD k (0, 0)).2) := by
  obtain ⟨g, cap, cur, rfl, hg, hog, h1, h2, h3, h4⟩ := hs.row (by omega)
  have h5 := flat2_at l k h
  exact ⟨g, cap, cur, rfl, hg, by simp only [maxLen] at h2; omega, h1, cur_at h4 h5.1, cur_at h4 h5.2⟩

/-- Who holds lock i. -/
def holderOf : List (Int × Int) → Int → Int
  | [], _ => -1
  | (a, b) :: l, i => if a = i then b else holderOf l i
theorem holderOf_drop (l : List (Int × Int)) (i : Int) (k : Nat) (h : k < l.length) :
    holderOf (l.drop k) i = if (l.getD k (0, 0)).1 = i then (l.getD k (0, 0)).2 else holderOf (l.drop (k + 1)) i := by
  rw [List.drop_eq_getElem_cons h]
  have e : l.getD k (0, 0) = l[k] := by simp [h]
  rw [e]
  rcases hq : l[k] with ⟨a, b⟩
  rfl

set_option maxHeartbeats 400000 in
theorem ref03_holder {o : Nat → Nat} {w : World} {t : Nat} {v : Value} {l : List (Int × Int)} (hs : SlAt o w t 44 2 v l.length (flat2 l)) (i : Int) :
    Calls Try.prog 21 #[v, .int .i64 i] w fun e w' => e = .returned (.int .i64 (holderOf l i)) ∧ w = w' := by
  obtain ⟨a, c, rfl⟩ := hs.value
  have hle := hs.le63
  go_enter Try.func21, Try.ntmps21
  go_wp2
  go_loop [5] (fun x => ∃ k : Nat, k ≤ l.length ∧ x = .int .i64 k ∧ holderOf l i = holderOf (l.drop k) i) (fun x => l.length - (intOf x).toNat)
  case atStart => exact ⟨0, Nat.zero_le _, rfl, rfl⟩
  case round =>
    obtain ⟨k, hk, rfl, hH⟩ := hrel
    by_cases hlt : k < l.length
    · obtain ⟨g, cap, cur, hv, hg, h2, h1, c0, c1⟩ := row2_at hs hlt
      simp at hv
      obtain ⟨rfl, rfl⟩ := hv
      rw [holderOf_drop l i k hlt] at hH
      generalize l.getD k (0, 0) = p at *
      obtain ⟨p1, p2⟩ := p
      simp only at c0 c1 hH
      clear hs
      by_cases hp : p1 = i
      · rw [if_pos hp] at hH
        subst hp
        replace hH := hide hH
        go_wp2
        go_ret
        exact ⟨by rw [hH.out]; rfl, rfl⟩
      · rw [if_neg hp] at hH
        have hp' : (p1 == i) = false := by simp [hp]
        clear hp
        replace hH := hide hH
        go_wp2
        go_round
        case rel => exact ⟨k + 1, by omega, by go_num, hH.out⟩
        case measure => simp [intOf]; omega
    · have : k = l.length := by omega
      subst this
      rw [List.drop_length] at hH
      replace hH := hide hH
      go_wp2
      go_ret
      exact ⟨by rw [hH.out]; rfl, rfl⟩

/-- All but lock i. -/
def withoutOf (l : List (Int × Int)) (i : Int) : List (Int × Int) := l.filter fun p => decide (p.1 ≠ i)
theorem withoutOf_take (l : List (Int × Int)) (i : Int) (k : Nat) (h : k < l.length) :
    withoutOf (l.take (k + 1)) i = withoutOf (l.take k) i ++ (if (l.getD k (0, 0)).1 ≠ i then [l.getD k (0, 0)] else []) := by
  unfold withoutOf
  have e : l.getD k (0, 0) = l[k] := by simp [h]
  rw [List.take_succ_eq_append_getElem h, List.filter_append, e]
  by_cases hp : l[k].1 ≠ i
  · rw [if_pos hp, List.filter_cons_of_pos (by rw [decide_eq_true_eq]; exact hp)]; rfl
  · rw [if_neg hp, List.filter_cons_of_neg (by rw [decide_eq_true_eq]; exact hp)]; rfl
theorem withoutOf_le (l : List (Int × Int)) (i : Int) : (withoutOf l i).length ≤ l.length := List.length_filter_le _ _
theorem flat2_snoc (l : List (Int × Int)) (p : Int × Int) : flat2 (l ++ [p]) = flat2 l ++ [.int .i64 p.1, .int .i64 p.2] := by simp [flat2]

def PairsPost (o : Nat → Nat) (t2 : Nat) (T : TypeId) (l : List (Int × Int)) (w : World) (e : Ending) (w' : World) : Prop :=
  ∃ o' v, e = .returned v ∧ SlAt o' w' t2 T 2 v l.length (flat2 l) ∧ Ext o o' w w' (fun x => x = t2)
def PairsRel (o : Nat → Nat) (t2 : Nat) (T : TypeId) (w : World) (l : List (Int × Int)) (v : Value) (wr : World) : Prop :=
  ∃ o1, SlAt o1 wr t2 T 2 v l.length (flat2 l) ∧ Ext o o1 w wr (fun x => x = t2)

set_option maxHeartbeats 400000 in
theorem ref03_without {o : Nat → Nat} {w : World} {t t2 : Nat} {v : Value} {l : List (Int × Int)} (hs : SlAt o w t 44 2 v l.length (flat2 l)) (ht : t ≠ t2) (hb : l.length ≤ 1000) (i : Int) :
    Calls Try.prog 22 #[v, .int .i64 i] w (PairsPost o t2 44 (withoutOf l i) w) := by
  obtain ⟨a, c, rfl⟩ := hs.value
  replace hs := hide hs
  go_enter Try.func22, Try.ntmps22
  go_wp2
  go_loopw [5, 6] (fun v x wr => ∃ k : Nat, k ≤ l.length ∧ x = .int .i64 k ∧ PairsRel o t2 44 w (withoutOf (l.take k) i) v wr) (fun _ x _ => l.length - (intOf x).toNat)
  case atStart => exact ⟨0, Nat.zero_le _, rfl, o, SlAt.nil _ _ _ _ _, Ext.refl _ _ _⟩
  case round =>
    obtain ⟨k, hk, rfl, o1, hsl, he⟩ := hrel
    by_cases hlt : k < l.length
    · have hs1 := hs.out.ext he ht
      obtain ⟨g, cap, cur, hv, hg, h2, h1, c0, c1⟩ := row2_at hs1 hlt
      simp at hv
      obtain ⟨rfl, rfl⟩ := hv
      have hsucc := withoutOf_take l i k hlt
      have hL := withoutOf_le (l.take k) i
      rw [List.length_take] at hL
      generalize hl2 : withoutOf (l.take (k + 1)) i = l2 at *
      generalize l.getD k (0, 0) = p at *
      obtain ⟨p1, p2⟩ := p
      simp only at c0 c1 hsucc
      clear hs hs1
      generalize withoutOf (l.take k) i = l1 at *
      replace hl2 := hide hl2
      have hL : l1.length ≤ 1000 := by omega
      by_cases hp : p1 = i
      · rw [if_neg (fun h => h hp), List.append_nil] at hsucc
        subst hp
        have hr : PairsRel o t2 44 w l2 _ wr := ⟨o1, by rw [hsucc]; exact hsl, he⟩
        clear hsl he hsucc
        replace hr := hide hr
        go_wp2
        go_roundw
        case rel => exact ⟨k + 1, by omega, by go_num, by rw [hl2.out]; exact hr.out⟩
        case measure => simp [intOf]; omega
      · rw [if_pos hp] at hsucc
        have hp' : (p1 != i) = true := by simp [hp]
        clear hp
        replace hsucc := hide hsucc
        go_wp2_with (at_builtin; refine push_held rfl (.tmp 20) (.tmp 25) rfl _ _ _ rfl (hsl.alloc _) wr.heap.size 1 _ rfl (blk_new _ _) rfl (by simp; exact ⟨rfl, rfl⟩) (by omega) ?_)
        intro v' w1 o2 hs1 he1 _ _
        obtain ⟨va', vc', rfl⟩ := hs1.value
        have hr : PairsRel o t2 44 w l2 (.slice va' (l1.length + 1) vc') w1 := ⟨o2, by rw [hsucc.out, flat2_snoc]; simpa using hs1, (he.alloc _).trans he1⟩
        clear hsl hs1 he he1
        replace hr := hide hr
        go_wp2
        go_roundw
        case rel => exact ⟨k + 1, by omega, by go_num, by rw [hl2.out]; exact hr.out⟩
        case measure => simp [intOf]; omega
    · have : k = l.length := by omega
      subst this
      rw [List.take_length] at hsl
      replace hsl := hide hsl
      go_wp2
      go_ret
      exact ⟨o1, _, rfl, hsl.out, he⟩

set_option maxHeartbeats 400000 in
theorem law03_awake (w : World) : Calls Try.prog 18 #[] w fun e w' => e = .returned (.bool true) ∧ Below w.heap.size w w' := by
  go_enter Try.func18, Try.ntmps18
  go_wp2_with fail
  refine (locks_new_ok (fun _ => 0) 1 1 (by decide) (by decide) _).mono ?_
  rintro e w1 ⟨o1, b, rfl, hc, he⟩
  go_wp2_with fail
  refine (locks_try hc 0 5 (by decide) (by decide) (by decide) (by decide)).mono ?_
  rintro e w2 ⟨o2, rfl, hc2, he2⟩
  go_wp2_with fail
  refine (locks_try_held hc2 0 6 (by decide) (by decide) (by decide) (by decide)).mono ?_
  rintro e w3 ⟨rfl, rfl⟩
  go_wp2_with fail
  refine (locks_free_other hc2 0 6 (by decide) (by decide) (by decide) (by decide)).mono ?_
  rintro e w3 ⟨rfl, rfl⟩
  go_wp2_with fail
  refine (locks_holder hc2 0 (by decide) (by decide)).mono ?_
  rintro e w3 ⟨rfl, rfl⟩
  go_wp2
  go_ret
  exact ⟨rfl, (he.trans he2).done (by decide)⟩

/-- An act of the statement's: Out, I, Worker. -/
def act03 (x : Bool × Int × Int) : List Value := [.bool x.1, .int .i64 x.2.1, .int .i64 x.2.2]

/-- What holds between two acts: the locks at b, the document's pairs. -/
structure Rel03 (n : Nat) (xs : List Int) (l : List (Int × Int)) (k : Nat) : Prop where
  len : xs.length = n
  few : l.length ≤ k
  all : ∀ i : Nat, i < n → xs.getD i 0 = holderOf l i
  pos : ∀ p ∈ l, 0 ≤ p.2
structure Mem03 (tm b : Nat) (xs : List Int) (v : Value) (l : List (Int × Int)) (w wr : World) (o1 : Nat → Nat) : Prop where
  locks : LocksAt o1 wr 1 b xs
  tags : 6 ≤ tm
  pairs : SlAt o1 wr tm 44 2 v l.length (flat2 l)
  ext : Ext (fun _ => 0) o1 w wr (fun x => x ≠ 0)

theorem holderOf_without (l : List (Int × Int)) (i j : Int) : holderOf (withoutOf l i) j = if j = i then -1 else holderOf l j := by
  induction l with
  | nil => simp [withoutOf, holderOf]
  | cons p l ih =>
    obtain ⟨a, c⟩ := p
    unfold withoutOf at ih ⊢
    by_cases ha : a = i
    · rw [List.filter_cons_of_neg (by simp [ha]), ih]
      by_cases hj : j = i
      · simp [hj]
      · rw [if_neg hj, if_neg hj]; simp only [holderOf]; rw [if_neg (by omega)]
    · rw [List.filter_cons_of_pos (by simp [ha])]
      simp only [holderOf]
      rw [ih]
      by_cases hj : j = i
      · rw [if_neg (by omega), if_pos hj, if_pos hj]
      · simp [hj]
theorem holderOf_snoc (l : List (Int × Int)) (i u j : Int) (h : holderOf l i = -1) (hp : ∀ p ∈ l, 0 ≤ p.2) : holderOf (l ++ [(i, u)]) j = if j = i then u else holderOf l j := by
  induction l with
  | nil => simp only [List.nil_append, holderOf]; by_cases hj : j = i <;> simp [hj]; intro h; omega
  | cons p l ih =>
    obtain ⟨a, c⟩ := p
    have hc : 0 ≤ c := hp (a, c) (by simp)
    simp only [List.cons_append, holderOf] at h ⊢
    by_cases ha : a = i
    · rw [if_pos ha] at h; omega
    · rw [if_neg ha] at h
      rw [ih h (fun p hq => hp p (by simp [hq]))]
      by_cases hj : j = i
      · rw [if_neg (by omega), if_pos hj, if_pos hj]
      · rw [if_neg hj, if_neg hj]
theorem holderOf_neg (l : List (Int × Int)) (i : Int) (hp : ∀ p ∈ l, 0 ≤ p.2) : holderOf l i = -1 ∨ 0 ≤ holderOf l i := by
  induction l with
  | nil => exact .inl rfl
  | cons p l ih =>
    obtain ⟨a, c⟩ := p
    simp only [holderOf]
    split
    · exact .inr (hp (a, c) (by simp))
    · exact ih fun p hq => hp p (by simp [hq])

theorem getD_set (xs : List Int) (i j : Nat) (v : Int) (hj : j < xs.length) : (xs.set i v).getD j 0 = if j = i then v else xs.getD j 0 := by
  simp only [List.getD, List.getElem?_set]
  by_cases h : i = j
  · subst h; simp [hj]
  · rw [if_neg h, if_neg (fun e => h e.symm)]

theorem Rel03.same {n : Nat} {xs : List Int} {l : List (Int × Int)} {k : Nat} (R : Rel03 n xs l k) : Rel03 n xs l (k + 1) := ⟨R.len, Nat.le_succ_of_le R.few, R.all, R.pos⟩
theorem Rel03.free {n : Nat} {xs : List Int} {l : List (Int × Int)} {k : Nat} (R : Rel03 n xs l k) (i : Int) (h0 : 0 ≤ i) (_h1 : i < n) : Rel03 n (xs.set i.toNat (-1)) (withoutOf l i) (k + 1) :=
  ⟨by rw [List.length_set]; exact R.len, Nat.le_trans (withoutOf_le l i) (Nat.le_succ_of_le R.few), fun j hj => by
    rw [getD_set _ _ _ _ (by rw [R.len]; exact hj), holderOf_without]
    by_cases e : j = i.toNat
    · rw [if_pos e, if_pos (by omega)]
    · rw [if_neg e, if_neg (by omega)]; exact R.all j hj, fun p hp => R.pos p (List.mem_filter.1 hp).1⟩
theorem Rel03.take {n : Nat} {xs : List Int} {l : List (Int × Int)} {k : Nat} (R : Rel03 n xs l k) (i u : Int) (h0 : 0 ≤ i) (_h1 : i < n) (hu : 0 ≤ u) (hh : holderOf l i = -1) : Rel03 n (xs.set i.toNat u) (l ++ [(i, u)]) (k + 1) :=
  ⟨by rw [List.length_set]; exact R.len, by rw [List.length_append]; exact Nat.succ_le_succ R.few, fun j hj => by
    rw [getD_set _ _ _ _ (by rw [R.len]; exact hj), holderOf_snoc l i u j hh R.pos]
    by_cases e : j = i.toNat
    · rw [if_pos e, if_pos (by omega)]
    · rw [if_neg e, if_neg (by omega)]; exact R.all j hj, fun p hp => by
      rcases List.mem_append.1 hp with h | h
      · exact R.pos p h
      · simp at h; subst h; exact hu⟩

theorem Mem03.step {tm tm' b : Nat} {xs xs' : List Int} {v v' : Value} {l l' : List (Int × Int)} {w wr w2 : World} {o1 o2 : Nat → Nat} (M : Mem03 tm b xs v l w wr o1) (e : Ext o1 o2 wr w2 (fun x => x ≠ 0)) (hl : LocksAt o2 w2 1 b xs') (ht : 6 ≤ tm') (hp : SlAt o2 w2 tm' 44 2 v' l'.length (flat2 l')) :
    Mem03 tm' b xs' v' l' w w2 o2 := ⟨hl, ht, hp, M.ext.trans e⟩

set_option maxRecDepth 100000 in
set_option maxHeartbeats 1000000 in
theorem law03_play (n : Int) (v : Value) (acts : List (Bool × Int × Int)) (w : World) (hv : FrAt w w.heap.size 3 v (acts.map act03)) (hin : ∀ x ∈ acts, -9223372036854775808 ≤ x.2.1 ∧ x.2.1 ≤ 9223372036854775807)
    (hn : 0 ≤ n ∧ n ≤ 64) (hl : acts.length ≤ 100) :
    Calls Try.prog 4 #[.int .i64 n, v] w fun e w' => e = .returned (.bool true) ∧ Below w.heap.size w w' := by
  obtain ⟨n, rfl⟩ := Int.eq_ofNat_of_zero_le hn.1
  have hn2 : (n : Int) ≤ 64 := hn.2
  obtain ⟨a, cap, rfl, hlen, hrows⟩ := id hv
  rw [List.length_map] at *
  replace hrows := hide hrows
  replace hv := hide hv
  clear hn
  go_enter Try.func4, Try.ntmps4
  go_wp2_with fail
  refine (locks_new_ok (fun _ => 0) 1 n (by omega) (by omega) _).mono ?_
  rintro e w1 ⟨o1, b, rfl, hc, he⟩
  have hll : (List.replicate (n : Int).toNat (-1 : Int)).length = n := by rw [List.length_replicate]; rfl
  go_wp2_with fail
  refine (locks_len hc).mono ?_
  rintro e w2 ⟨rfl, rfl⟩
  rw [hll]
  clear hll
  go_wp2_with fail
  go_loopw [7, 57] (fun m i wr => ∃ (k : Nat) (xs : List Int) (l : List (Int × Int)) (o1 : Nat → Nat) (tm : Nat), k ≤ acts.length ∧ i = .int .i64 k ∧ Rel03 n xs l k ∧ Mem03 tm b xs m l w wr o1)
    (fun _ i _ => acts.length - (intOf i).toNat)
  case atStart =>
    refine ⟨0, _, [], o1, 6, Nat.zero_le _, rfl, ⟨by rw [List.length_replicate]; rfl, Nat.le_refl _, fun i hi => ?_, fun _ h => by cases h⟩, hc, Nat.le_refl _, SlAt.nil _ _ _ _ _, he.mono (by simp)⟩
    simp [hi, holderOf]
  case round =>
    obtain ⟨k, xs, l, o2, tm, hk, rfl, R, M⟩ := hrel
    have htm := M.tags
    clear hc he
    by_cases hlt : k < acts.length
    · have hbel : Below w.heap.size w wr := M.ext.done (by decide)
      obtain ⟨_, _, hv2, _, hr⟩ := hv.out.below hbel
      obtain ⟨ab, aoff, ha, hab, hcell⟩ := hr k (by simpa using hlt)
      simp at hv2
      obtain ⟨rfl, rfl⟩ := hv2
      subst ha
      have hget : (acts.map act03).getD k [] = act03 (acts.getD k (false, 0, 0)) := by simp [hlt]
      rw [hget] at hcell
      have hmem : acts.getD k (false, 0, 0) ∈ acts := by simp [hlt]
      have hin' := hin _ hmem
      generalize acts.getD k (false, 0, 0) = x at *
      obtain ⟨out, i, u⟩ := x
      obtain ⟨_, e0, c0⟩ := hcell 0 (by omega)
      obtain ⟨_, e1, c1⟩ := hcell 1 (by omega)
      obtain ⟨_, e2, c2⟩ := hcell 2 (by omega)
      simp [act03] at e0 e1 e2
      subst e0 e1 e2
      clear hr hcell hget hmem
      rw [Nat.add_zero] at c0
      obtain ⟨ma, mc, rfl⟩ := M.pairs.value
      have hnb : ab < wr.heap.size := Nat.lt_of_lt_of_le hab hbel.size
      have St : StAt (upd o2 wr.heap.size 3) (wr.alloc (.cells #[.bool out, .int .i64 i, .int .i64 u] 37)) 3 wr.heap.size #[.bool out, .int .i64 i, .int .i64 u] 37 := ⟨blk_new _ _, upd_new (Nat.le_refl _)⟩
      have E0 : Ext o2 (upd o2 wr.heap.size 3) wr (wr.alloc (.cells #[.bool out, .int .i64 i, .int .i64 u] 37)) (fun _ => False) := ((Ext.refl o2 wr _).retag 3).alloc _
      have M0 : Mem03 tm b xs _ l w (wr.alloc (.cells #[.bool out, .int .i64 i, .int .i64 u] 37)) (upd o2 wr.heap.size 3) := M.step E0.none (M.locks.ext E0 id) htm (M.pairs.ext E0 id)
      have hR := R.len
      have hdisj : holderOf l i = -1 ∨ 0 ≤ holderOf l i := holderOf_neg l i R.pos
      have hxi : 0 ≤ i → i < n → xs.getD i.toNat 0 = holderOf l i := fun h0 h1 => by rw [R.all i.toNat (by omega)]; congr 1; omega
      replace hxi := hide hxi
      replace R := hide R
      replace hR := hide hR
      have hst := St.heap
      go_upto_region 12 with fail
      clear c0 c1 c2
      generalize wr.alloc (.cells #[.bool out, .int .i64 i, .int .i64 u] 37) = wa at *
      generalize upd o2 wr.heap.size 3 = oa at *
      go_cut [10] (fun s wx => s = .bool (decide (0 ≤ i ∧ i < n ∧ 0 ≤ u)) ∧ wx = wa)
      case first =>
        clear M M0 E0 St hdisj
        by_cases h0 : 0 ≤ i
        · by_cases h1 : i < n
          · by_cases h2 : 0 ≤ u
            · go_wp2_with fail
              go_meet
              case rel => exact ⟨by rw [decide_eq_true (by omega)], rfl⟩
            · go_wp2_with fail
              go_meet
              case rel => exact ⟨by rw [decide_eq_false (by omega)], rfl⟩
          · go_wp2_with fail
            go_meet
            case rel => exact ⟨by rw [decide_eq_false (by omega)], rfl⟩
        · go_wp2_with fail
          go_meet
          case rel => exact ⟨by rw [decide_eq_false (by omega)], rfl⟩
      case rest =>
        obtain ⟨rfl, rfl⟩ := hcut
        generalize hmay : decide (0 ≤ i ∧ i < n ∧ 0 ≤ u) = may
        replace hmay := hide hmay
        go_upto_if 80 with (go_at_call 21; refine (ref03_holder M0.pairs _).mono ?_; rintro e w' ⟨rfl, rfl⟩)
        clear M E0
        go_cut [7] (fun m' wx => ∃ xs' l' o3 tm', Rel03 n xs' l' (k + 1) ∧ Mem03 tm' b xs' m' l' w wx o3 ∧ StAt o3 wx 3 wr.heap.size #[.bool out, .int .i64 i, .int .i64 u] 37)
        case first =>
          cases may
          · have hno : i < 0 ∨ (xs.length : Int) ≤ i ∨ u < 0 := by
              have := of_decide_eq_false hmay.out
              rw [hR.out]; omega
            clear hdisj
            replace hno := hide hno
            cases out
            · go_wp2_with fail
              refine (locks_try_no M0.locks i u hno.out).mono ?_
              rintro e w3 ⟨rfl, rfl⟩
              go_wp2_with fail
              go_meet
              case rel => exact ⟨_, _, _, _, R.out.same, M0, St⟩
            · go_wp2_with fail
              refine (locks_free_no M0.locks i u hno.out).mono ?_
              rintro e w3 ⟨rfl, rfl⟩
              go_wp2_with fail
              go_meet
              case rel => exact ⟨_, _, _, _, R.out.same, M0, St⟩
          · obtain ⟨hm0, hm1, hm2⟩ := of_decide_eq_true hmay.out
            cases out
            · by_cases hh : holderOf l i = -1
              · have hneg : holderOf l i < 0 := by omega
                have hx0 : xs.getD i.toNat 0 = -1 := (hxi.out hm0 hm1).trans hh
                have hRt := hide (R.out.take i u hm0 hm1 hm2 hh)
                replace hx0 := hide hx0
                clear hh hdisj
                generalize holderOf l i = who at *
                go_wp2_with fail
                refine (locks_try M0.locks i u hm0 (by rw [hR.out]; exact hm1) hm2 hx0.out).mono ?_
                rintro e w3 ⟨o3, rfl, hl3, e3⟩
                have hst3 := St.ext e3 (by decide)
                have hp3 := M0.pairs.ext e3 (by omega)
                have hst3' := hst3.heap
                have hfew := R.out.few
                go_wp2_with (at_builtin; refine push_held rfl (.tmp 132) (.tmp 138) rfl _ _ _ rfl (hp3.alloc _) w3.heap.size 1 _ rfl (blk_new _ _) rfl (by simp; exact ⟨rfl, rfl⟩) (by omega) ?_)
                intro v' w4 o4 hp4 e4 _ _
                have E4 := (Ext.refl o3 w3 (fun x => x = tm)).alloc (.cells #[.int .i64 i, .int .i64 u] 44) |>.trans e4
                have hl4 := hl3.ext E4 (by omega)
                have hst4 := hst3.ext E4 (by omega)
                have hE := (e3.mono (S2 := fun x => x ≠ 0) (by simp)).trans (E4.mono (fun x h => by omega))
                have hM := M0.step hE hl4 htm (v' := v') (l' := l ++ [(i, u)]) (by rw [flat2_snoc]; simpa using hp4)
                go_wp2_with fail
                go_meet
                case rel => exact ⟨_, _, _, _, hRt.out, hM, hst4⟩
              · have hneg : ¬ holderOf l i < 0 := by omega
                have hx0 : xs.getD i.toNat 0 ≠ -1 := by rw [hxi.out hm0 hm1]; exact hh
                replace hx0 := hide hx0
                clear hh hdisj
                generalize holderOf l i = who at *
                go_wp2_with fail
                refine (locks_try_held M0.locks i u hm0 (by rw [hR.out]; exact hm1) hm2 hx0.out).mono ?_
                rintro e w3 ⟨rfl, rfl⟩
                go_wp2_with fail
                go_meet
                case rel => exact ⟨_, _, _, _, R.out.same, M0, St⟩
            · by_cases hh : holderOf l i = u
              · have hx0 : xs.getD i.toNat 0 = u := (hxi.out hm0 hm1).trans hh
                have hRt := hide (R.out.free i hm0 hm1)
                have hfew := R.out.few
                replace hx0 := hide hx0
                have hne : (holderOf l i != u) = false := by simp [hh]
                clear hh hdisj
                generalize holderOf l i = who at *
                go_wp2_with fail
                refine (ref03_without (t2 := tm + 1) M0.pairs (by omega) (by omega) i).mono ?_
                rintro e w3 ⟨o3, v3, rfl, hp3, e3⟩
                have hl3 := M0.locks.ext e3 (by omega)
                have hst3 := St.ext e3 (by omega)
                have hst3' := hst3.heap
                go_wp2_with fail
                refine (locks_free hl3 i u hm0 (by rw [hR.out]; exact hm1) hm2 hx0.out).mono ?_
                rintro e w4 ⟨o4, rfl, hl4, e4⟩
                have hp4 := hp3.ext e4 (by omega)
                have hst4 := hst3.ext e4 (by decide)
                have hE := (e3.mono (S2 := fun x => x ≠ 0) (fun x h => by omega)).trans (e4.mono (fun x h => by omega))
                have hM := M0.step hE hl4 (by omega) hp4
                go_wp2_with fail
                go_meet
                case rel => exact ⟨_, _, _, _, hRt.out, hM, hst4⟩
              · have hx0 : xs.getD i.toNat 0 ≠ u := by rw [hxi.out hm0 hm1]; exact hh
                replace hx0 := hide hx0
                have hne : (holderOf l i != u) = true := by simp [hh]
                clear hh hdisj
                generalize holderOf l i = who at *
                go_wp2_with fail
                refine (locks_free_other M0.locks i u hm0 (by rw [hR.out]; exact hm1) hm2 hx0.out).mono ?_
                rintro e w3 ⟨rfl, rfl⟩
                go_wp2_with fail
                go_meet
                case rel => exact ⟨_, _, _, _, R.out.same, M0, St⟩
        case rest =>
          clear M0 St hxi hR R hdisj hst
          obtain ⟨xs', l', o3, tm', R', M', St'⟩ := hcut
          have hL := R'.len
          have htm' := M'.tags
          obtain ⟨ma', mc', rfl⟩ := M'.pairs.value
          have hst := St'.heap
          replace R' := hide R'
          replace hL := hide hL
          go_wp2_with fail
          go_loopw [15, 141] (fun hv i wr2 => ∃ (j : Nat) (o4 : Nat → Nat), j ≤ n ∧ i = .int .i64 j ∧ SlAt o4 wr2 4 3 1 hv (heldBy xs' u j).length ((heldBy xs' u j).map (Value.int .i64)) ∧ Ext o3 o4 wc wr2 (fun x => x = 4))
            (fun _ i _ => n - (intOf i).toNat)
          case atStart => exact ⟨0, o3, Nat.zero_le _, rfl, SlAt.nil _ _ _ _ _, Ext.refl _ _ _⟩
          case round =>
            obtain ⟨j, o4, hj, rfl, hsl, he4⟩ := hrel
            have hlk := M'.locks.ext he4 (by decide)
            have hpr := M'.pairs.ext he4 (by omega)
            have hst2 := (St'.ext he4 (by decide)).heap
            clear hst
            by_cases hltj : j < n
            · --[dev
              have hall := R'.out.all j hltj
              have hLj := heldBy_le xs' u j
              have hsucc := heldBy_succ xs' u j
              rw [hall] at hsucc
              generalize hl2 : heldBy xs' u (j + 1) = l2 at *
              generalize hl1 : heldBy xs' u j = l1 at *
              replace hall := hide hall
              replace hl2 := hide hl2
              replace hsucc := hide hsucc
              clear hl1
              go_wp2_with fail
              refine (locks_holder hlk j (by omega) (by rw [hL.out]; omega)).mono ?_
              rintro e w3 ⟨rfl, rfl⟩
              rw [Int.toNat_natCast, hall.out]
              go_wp2_with fail
              refine (ref03_holder hpr j).mono ?_
              rintro e w3 ⟨rfl, rfl⟩
              go_wp2_with fail
              by_cases hu : 0 ≤ u
              · have hd : decide (0 ≤ u) = true := by simpa using hu
                by_cases hx : holderOf l' j = u
                · rw [if_pos ⟨hu, hx⟩] at hsucc
                  have hx' : (holderOf l' j == u) = true := by simp [hx]
                  clear hx
                  go_quiet ((go_at_call 21; exact quiet_left (ref03_holder (hpr.drewN _) _)))
                  have hsl' := hsl.drewN nq
                  have he' := he4.drewN nq
                  clear hsl he4
                  generalize wr.drewN nq = wq at *
                  go_wp2_with (at_builtin; refine push_int rfl (.tmp 162) (.tmp 164) rfl _ _ _ rfl (hsl'.alloc _) wq.heap.size 1 _ rfl (blk_new _ _) rfl (by simp; rfl) (by omega) ?_)
                  intro v' w4 o5 hs5 he5 _ _
                  obtain ⟨va', vc', rfl⟩ := hs5.value
                  have hE5 := (he'.alloc _).trans he5
                  have hs5' : SlAt o5 w4 4 3 1 (.slice va' (l1.length + 1) vc') l2.length (l2.map (Value.int .i64)) := by rw [hsucc.out]; simpa using hs5
                  clear hsl' he' hs5 he5
                  go_wp2
                  go_roundw
                  case rel => exact ⟨j + 1, o5, by omega, by go_num, by rw [hl2.out]; exact hs5', hE5⟩
                  case measure => simp [intOf]; omega
                · rw [if_neg (fun h => hx h.2), List.append_nil] at hsucc
                  have hx' : (holderOf l' j == u) = false := by simp [hx]
                  clear hx
                  go_quiet ((go_at_call 21; exact quiet_left (ref03_holder (hpr.drewN _) _)))
                  have hsl' := hsl.drewN nq
                  have he' := he4.drewN nq
                  clear hsl he4
                  generalize wr.drewN nq = wq at *
                  go_wp2
                  go_roundw
                  case rel => exact ⟨j + 1, o4, by omega, by go_num, by rw [hl2.out, hsucc.out]; exact hsl', he'⟩
                  case measure => simp [intOf]; omega
              · rw [if_neg (fun h => hu h.1), List.append_nil] at hsucc
                have hd : decide (0 ≤ u) = false := by simpa using hu
                go_quiet (fail)
                have hsl' := hsl.drewN nq
                have he' := he4.drewN nq
                clear hsl he4
                generalize wr.drewN nq = wq at *
                go_wp2
                go_roundw
                case rel => exact ⟨j + 1, o4, by omega, by go_num, by rw [hl2.out, hsucc.out]; exact hsl', he'⟩
                case measure => simp [intOf]; omega
            · have : j = n := by omega
              subst this
              go_wp2_with fail
              refine (locks_held hlk 5 (by decide) (by rw [hL.out]; omega) u).mono ?_
              rintro e w5 ⟨o5, gv, rfl, hgs, he5⟩
              rw [hL.out] at hgs
              have hs5 := hsl.ext he5 (by decide)
              have hE5 := (he4.mono (S2 := fun x => x ≠ 0) (fun x h => by omega)).trans (he5.mono (fun x h => by omega))
              have hM5 := M'.step hE5 (hlk.ext he5 (by decide)) htm' (hpr.ext he5 (by omega))
              clear hsl hlk hpr hst2 he4 he5 hE5 M' St'
              have hLj := heldBy_le xs' u j
              generalize heldBy xs' u j = l1 at *
              obtain ⟨ga, gc, rfl⟩ := hgs.value
              obtain ⟨sa, sc, rfl⟩ := hs5.value
              go_wp2_with fail
              go_loopw [178] (fun i wr3 => ∃ (q m : Nat), q ≤ l1.length ∧ i = .int .i64 q ∧ wr3 = w5.drewN m) (fun i _ => l1.length - (intOf i).toNat)
              case atStart => exact ⟨0, 0, Nat.zero_le _, rfl, rfl⟩
              case round =>
                obtain ⟨q, m, hq, rfl, rfl⟩ := hrel
                by_cases hltq : q < l1.length
                · obtain ⟨g1, cap1, cur1, hv1, hg1, _, ha1, hb1, hc1⟩ := row_at hgs hltq
                  obtain ⟨g2, cap2, cur2, hv2, hg2, _, ha2, hb2, hc2⟩ := row_at hs5 hltq
                  simp at hv1 hv2
                  obtain ⟨rfl, rfl⟩ := hv1
                  obtain ⟨rfl, rfl⟩ := hv2
                  have hqi : (q : Int) < l1.length := by omega
                  have hqi0 : (0 : Int) ≤ q := by omega
                  generalize l1.getD q 0 = x at *
                  have hxx : (x != x) = false := by simp
                  clear hgs hs5 hM5
                  go_wp2_with fail
                  go_quiet (fail)
                  go_wp2
                  go_roundw
                  case rel => exact ⟨q + 1, _, by omega, by go_num, rfl⟩
                  case measure => simp [intOf]; omega
                · have : q = l1.length := by omega
                  subst this
                  have hM6 : Mem03 tm' b xs' (.slice ma' l'.length mc') l' w (w5.drewN m) o5 := ⟨hM5.locks.ext ((Ext.refl _ _ (fun _ => False)).drewN m) id, hM5.tags, hM5.pairs.drewN m, hM5.ext.drewN m⟩
                  clear hgs hs5 hM5
                  replace hM6 := hide hM6
                  generalize w5.drewN m = w6 at *
                  go_wp2
                  go_roundw
                  case rel => exact ⟨k + 1, xs', l', o5, tm', by omega, by go_num, R'.out, hM6.out⟩
                  case measure => simp [intOf]; omega
    · have : k = acts.length := by omega
      subst this
      go_wp2_with fail
      refine (law03_awake _).mono ?_
      rintro e w7 ⟨rfl, hb7⟩
      have hlk := M.locks.ext (Ext.of_below hb7 o2 (fun _ => False)) id
      have hL := R.len
      go_wp2_with fail
      refine (locks_holder_no hlk (-1) (.inl (by decide))).mono ?_
      rintro e w8 ⟨rfl, rfl⟩
      go_wp2_with fail
      refine (locks_holder_no hlk n (.inr (by rw [hL]; omega))).mono ?_
      rintro e w8 ⟨rfl, rfl⟩
      go_wp2
      go_ret
      exact ⟨rfl, (M.ext.done (by decide)).trans (hb7.mono M.ext.size)⟩

set_option maxRecDepth 100000 in
set_option maxHeartbeats 400000 in
theorem law03_many (n : Int) (a : Option Addr) (len cap : Nat) (h : 100 < len) (hl : len ≤ 9223372036854775807) (w : World) :
    Calls Try.prog 4 #[.int .i64 n, .slice a len cap] w fun e w' => e = .returned (.bool true) ∧ Below w.heap.size w w' := by
  go_enter Try.func4, Try.ntmps4
  go_wp2_with fail
  refine (law03_awake _).mono ?_
  rintro e w1 ⟨rfl, hb⟩
  go_wp2
  go_ret
  exact ⟨rfl, hb⟩

set_option maxRecDepth 100000 in
set_option maxHeartbeats 400000 in
theorem law03_range (n : Int) (a : Option Addr) (len cap : Nat) (h : len ≤ 100) (hn : n < 0 ∨ 64 < n) (w : World) :
    Calls Try.prog 4 #[.int .i64 n, .slice a len cap] w fun e w' => e = .returned (.bool true) ∧ Below w.heap.size w w' := by
  have hc := hide (locks_new_no n hn w)
  by_cases h0 : n < 0
  all_goals
    have hn' : n < 0 ∨ 64 < n := hn
    clear hn
    go_enter Try.func4, Try.ntmps4
    go_wp2_with fail
    refine hc.out.mono ?_
    rintro e w1 ⟨rfl, rfl⟩
    go_wp2_with fail
    refine (law03_awake _).mono ?_
    rintro e w1 ⟨rfl, hb⟩
    go_wp2
    go_ret
    exact ⟨rfl, hb⟩
end Go.Proofs.Ythfnbklloahdkaa
