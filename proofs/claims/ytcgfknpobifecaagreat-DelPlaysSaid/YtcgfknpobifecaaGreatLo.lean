/- What each function of the package locks comes to, over an abstract list of holders. Condition: the receiver is such a block. -/
import Derived.Test.YtcgfknpobifecaaGreatProg
import Derived.Test.YtcgfknpobifecaaGreatHp
namespace Go.Proofs.YtcgfknpobifecaaGreat
open Go.RowKit

theorem info_int : (Tryz.prog.info? 3).map (fun i => (i.zero, i.size, i.bytes)) = some (some (.int .i64 0), 1, 8) := by kernel_rfl
/-- append(xs, x), elements of type int. -/
theorem push_int {w : World} {o : Nat → Nat} {tg : Nat} {ops : Array Oper} {rest : List Oper} {op : Oper} {a : Act} {Q : Exit → Act → World → Prop} (hgd : op.guard = none) (s x : Operand)
    (ho : op.op = .call { callee := .builtin .append, args := #[s, x], argTypes := #[54, 54] })
    (v : Value) (n : Nat) (xs : List Value) (hs : a.eval s = v) (hown : SlAt o w tg 3 1 v n xs) (g c : Nat) (news : Array Value) (hx : a.eval x = .slice (some ⟨g, 0, none⟩) 1 c)
    (hg : blk w g = some (.cells news 3 (0, 0))) (hl : news.size = 1) (h1 : ∀ u ∈ news.toList, u.oneCell' = true) (hb : n + 1 ≤ 1073741824)
    (h : ∀ v' w' o', SlAt o' w' tg 3 1 v' (n + 1) (xs ++ news.toList) → Ext o o' w w' (fun x => x = tg) → w.grownBy w' v.ownBlock → v' ≠ .slice none 0 0 → wpList Tryz.prog ops Q rest (a.put op.dst v') w') :
    wpList Tryz.prog ops Q (op :: rest) a w := by
  obtain ⟨i0, hi, hz0, hz1, hz2⟩ := info_parts info_int
  exact wpList_push hgd s x 54 ho 3 i0 (.int .i64 0) 1 8 Tryz.underlying54 hi hz0 hz1 hz2 rfl (by decide) v n xs hs hown g c news hx hg hl h1 (by simp only [maxLen]; omega) (by omega) h
/-- append(xs, ys...), elements of type int. -/
theorem src_int {w : World} {o : Nat → Nat} {tg tg2 : Nat} {ops : Array Oper} {rest : List Oper} {op : Oper} {a : Act} {Q : Exit → Act → World → Prop} (hgd : op.guard = none) (s x : Operand)
    (ho : op.op = .call { callee := .builtin .append, args := #[s, x], argTypes := #[54, 54] })
    (v : Value) (n : Nat) (xs : List Value) (hs : a.eval s = v) (hown : SlAt o w tg 3 1 v n xs) (v2 : Value) (m : Nat) (news : List Value) (hx : a.eval x = v2) (hsrc : SlAt o w tg2 3 1 v2 m news)
    (h1 : ∀ u ∈ news, u.oneCell' = true) (hb : n + m ≤ 1073741824)
    (h : ∀ v' w' o', SlAt o' w' tg 3 1 v' (n + m) (xs ++ news) → Ext o o' w w' (fun x => x = tg) → w.grownBy w' v.ownBlock → (v' = .slice none 0 0 ↔ v = .slice none 0 0 ∧ m = 0) → wpList Tryz.prog ops Q rest (a.put op.dst v') w') :
    wpList Tryz.prog ops Q (op :: rest) a w := by
  obtain ⟨i0, hi, hz0, hz1, hz2⟩ := info_parts info_int
  exact wpList_append_src hgd s x 54 ho 3 i0 (.int .i64 0) 1 8 Tryz.underlying54 hi hz0 hz1 hz2 rfl (by decide) v n xs hs hown v2 m news hx hsrc h1 (by simp only [maxLen]; omega) (by omega) h
/-- append(xs, ys...), elements of type int, ys wherever it lies. -/
theorem many_int {w : World} {o : Nat → Nat} {tg : Nat} {ops : Array Oper} {rest : List Oper} {op : Oper} {a : Act} {Q : Exit → Act → World → Prop} (hgd : op.guard = none) (s x : Operand)
    (ho : op.op = .call { callee := .builtin .append, args := #[s, x], argTypes := #[54, 54] })
    (v : Value) (n : Nat) (xs : List Value) (hs : a.eval s = v) (hown : SlAt o w tg 3 1 v n xs) (ad : Addr) (m c : Nat) (news : List Value) (hx : a.eval x = .slice (some ad) m c) (hl : news.length = m * 1)
    (hnews : ∀ j u, news[j]? = some u → w.cell? (ad.add j) = some u) (h1 : ∀ u ∈ news, u.oneCell' = true) (hb : n + m ≤ 1073741824)
    (h : ∀ v' w' o', SlAt o' w' tg 3 1 v' (n + m) (xs ++ news) → Ext o o' w w' (fun x => x = tg) → w.grownBy w' v.ownBlock → (v' = .slice none 0 0 ↔ v = .slice none 0 0 ∧ m = 0) → wpList Tryz.prog ops Q rest (a.put op.dst v') w') :
    wpList Tryz.prog ops Q (op :: rest) a w := by
  obtain ⟨i0, hi, hz0, hz1, hz2⟩ := info_parts info_int
  exact wpList_append_sl hgd s x 54 ho 3 i0 (.int .i64 0) 1 8 Tryz.underlying54 hi hz0 hz1 hz2 rfl (by decide) v n xs hs hown ad m c news hx hl hnews h1 (by simp only [maxLen]; omega) (by omega) h


/-- Locks at block b: the holders xs. -/
def LocksAt (o : Nat → Nat) (w : World) (t b : Nat) (xs : List Int) : Prop :=
  ∃ v, StAt o w t b #[v] 116 ∧ SlAt o w t 3 1 v xs.length (xs.map (Value.int .i64))

theorem LocksAt.ext {o o' : Nat → Nat} {w w' : World} {t b : Nat} {xs : List Int} {S : Nat → Prop} (h : LocksAt o w t b xs) (e : Ext o o' w w' S) (hs : ¬ S t) : LocksAt o' w' t b xs := by
  obtain ⟨v, h1, h2⟩ := h
  exact ⟨v, h1.ext e hs, h2.ext e hs⟩

theorem snocs (v : Value) (k : Nat) : List.replicate k v ++ [v] = List.replicate (k + 1) v := by rw [List.replicate_succ']

set_option maxHeartbeats 400000 in
theorem locks_new_no (n : Int) (h : n < 0 ∨ 64 < n) (w : World) :
    Calls Tryz.prog 72 #[.int .i64 n] w fun e w' => e = .returned (.tuple #[.pointer none, .int .i64 2]) ∧ w = w' := by
  rcases h with h | h
  · go_enter Tryz.func72, Tryz.ntmps72
    go_wp2
    go_ret2
    exact ⟨rfl, rfl⟩
  · have h' : ¬ n < 0 := by omega
    go_enter Tryz.func72, Tryz.ntmps72
    go_wp2
    go_ret2
    exact ⟨rfl, rfl⟩

def LocksNew (o : Nat → Nat) (t : Nat) (n : Int) (w : World) (e : Ending) (w' : World) : Prop :=
  ∃ o' b, e = .returned (.tuple #[.pointer (some ⟨b, 0, none⟩), .int .i64 0]) ∧ LocksAt o' w' t b (List.replicate n.toNat (-1)) ∧ Ext o o' w w' (fun x => x = t)

/-- The loop that lays the locks: k of them lie. -/
def NewRel (o : Nat → Nat) (t : Nat) (w : World) (k : Nat) (wr : World) : Prop :=
  ∃ o1 v, StAt o1 wr t w.heap.size #[v] 116 ∧ SlAt o1 wr t 3 1 v k (List.replicate k (.int .i64 (-1))) ∧ Ext o o1 w wr (fun x => x = t)

set_option maxHeartbeats 800000 in
theorem locks_new_ok (o : Nat → Nat) (t : Nat) (n : Int) (h0 : 0 ≤ n) (h1 : n ≤ 64) (w : World) :
    Calls Tryz.prog 72 #[.int .i64 n] w (LocksNew o t n w) := by
  obtain ⟨n, rfl⟩ := Int.eq_ofNat_of_zero_le h0
  go_enter Tryz.func72, Tryz.ntmps72
  go_wp2
  go_loopw [14] (fun i wr => ∃ k : Nat, k ≤ n ∧ i = .int .i64 k ∧ NewRel o t w k wr) (fun i _ => n - (intOf i).toNat)
  case atStart =>
    refine ⟨0, Nat.zero_le _, rfl, upd o w.heap.size t, .slice none 0 0, ⟨blk_new _ _, upd_new (Nat.le_refl _)⟩, SlAt.nil _ _ _ _ _, ((Ext.refl o w _).retag t).alloc _⟩
  case round =>
    obtain ⟨k, hk, rfl, o1, v, hst, hsl, he⟩ := hrel
    obtain ⟨va, vc, rfl⟩ := hsl.value
    have hb := hst.heap
    by_cases hlt : k < n
    · have hlt2 := hst.lt
      go_wp2_with (at_builtin; refine push_int rfl (.tmp 20) (.tmp 21) rfl _ _ _ rfl (hsl.alloc _) wr.heap.size 1 _ rfl (blk_new _ _) rfl (by simp; rfl) (by omega) ?_)
      intro v' w1 o2 hs1 he1 hg1 _
      have hst1 := (hst.alloc _).grown he1 hg1 (hsl.apart hst.heap (by decide))
      have hap := hs1.apart hst1.heap (by decide)
      have hE := (he.alloc (.cells #[.int .i64 (-1)] 3)).trans he1
      obtain ⟨va', vc', rfl⟩ := hs1.value
      rw [snocs] at hs1
      have hb1 := hst1.heap
      have hput := hst1.put 0 (.slice va' (k + 1) vc')
      have hsp := hs1.put_far (i := 0) (u := .slice va' (k + 1) vc') hap
      have hE2 : Ext o o2 w (w1.setCell ⟨w.heap.size, 0, none⟩ (.slice va' (k + 1) vc')) (fun x => x = t) := hE.put _ (.inr (Nat.le_refl _))
      clear hst hsl hb he he1 hg1 hlt2
      replace hput := hide hput
      replace hsp := hide hsp
      replace hE2 := hide hE2
      go_wp2
      go_roundw
      case rel => exact ⟨k + 1, by omega, by go_num, o2, _, hput.out, hsp.out, hE2.out⟩
      case measure => simp [intOf]; omega
    · have : k = n := by omega
      subst this
      go_wp2
      go_ret2
      exact ⟨o1, _, rfl, ⟨_, hst, by simpa using hsl⟩, he⟩

set_option maxHeartbeats 400000 in
theorem locks_len {o : Nat → Nat} {t b : Nat} {xs : List Int} {w : World} (h : LocksAt o w t b xs) :
    Calls Tryz.prog 191 #[.pointer (some ⟨b, 0, none⟩)] w fun e w' => e = .returned (.int .i64 xs.length) ∧ w = w' := by
  obtain ⟨v, ⟨hb, _⟩, hs⟩ := h
  obtain ⟨a, c, rfl⟩ := hs.value
  clear hs
  go_enter Tryz.func191, Tryz.ntmps191
  go_wp2
  go_ret
  exact ⟨rfl, rfl⟩

set_option maxHeartbeats 400000 in
theorem locks_has_no {o : Nat → Nat} {t b : Nat} {xs : List Int} {w : World} (h : LocksAt o w t b xs) (i : Int) (hi : i < 0 ∨ xs.length ≤ i) :
    Calls Tryz.prog 98 #[.pointer (some ⟨b, 0, none⟩), .int .i64 i] w fun e w' => e = .returned (.bool false) ∧ w = w' := by
  obtain ⟨v, ⟨hb, _⟩, hs⟩ := h
  obtain ⟨a, c, rfl⟩ := hs.value
  have hle := hs.le63
  clear hs
  rcases hi with hi | hi
  · have h' : ¬ 0 ≤ i := by omega
    go_enter Tryz.func98, Tryz.ntmps98
    go_wp2
    go_ret
    exact ⟨rfl, rfl⟩
  · have h' : 0 ≤ i := by omega
    have h'' : ¬ i < xs.length := by omega
    go_enter Tryz.func98, Tryz.ntmps98
    go_wp2
    go_ret
    exact ⟨by simp, rfl⟩

set_option maxHeartbeats 400000 in
theorem locks_has_ok {o : Nat → Nat} {t b : Nat} {xs : List Int} {w : World} (h : LocksAt o w t b xs) (i : Int) (h0 : 0 ≤ i) (hi : i < xs.length) :
    Calls Tryz.prog 98 #[.pointer (some ⟨b, 0, none⟩), .int .i64 i] w fun e w' => e = .returned (.bool true) ∧ w = w' := by
  obtain ⟨v, ⟨hb, _⟩, hs⟩ := h
  obtain ⟨a, c, rfl⟩ := hs.value
  have hle := hs.le63
  clear hs
  go_enter Tryz.func98, Tryz.ntmps98
  go_wp2
  go_ret
  exact ⟨by simp, rfl⟩

set_option maxHeartbeats 400000 in
theorem locks_holder_no {o : Nat → Nat} {t b : Nat} {xs : List Int} {w : World} (h : LocksAt o w t b xs) (i : Int) (hi : i < 0 ∨ xs.length ≤ i) :
    Calls Tryz.prog 66 #[.pointer (some ⟨b, 0, none⟩), .int .i64 i] w fun e w' => e = .returned (.int .i64 (-1)) ∧ w = w' := by
  have c := locks_has_no h i hi
  go_enter Tryz.func66, Tryz.ntmps66
  go_wp2_with (go_at_call 98; refine c.mono ?_; rintro e w' ⟨rfl, rfl⟩)
  go_ret
  exact ⟨rfl, rfl⟩

theorem row_at {o : Nat → Nat} {w : World} {t : Nat} {T : TypeId} {v : Value} {xs : List Int} {k : IntKind} (hs : SlAt o w t T 1 v xs.length (xs.map (Value.int k))) {i : Nat} (hi : i < xs.length) :
    ∃ g cap cur, v = .slice (some ⟨g, 0, none⟩) xs.length cap ∧ blk w g = some (.cells cur T (0, 0)) ∧ o g = t ∧ cap ≤ 9223372036854775807 ∧ xs.length ≤ cap ∧ cur[i]? = some (.int k (xs.getD i 0)) := by
  obtain ⟨g, cap, cur, rfl, hg, hog, h1, h2, h3, h4⟩ := hs.row (by omega)
  exact ⟨g, cap, cur, rfl, hg, hog, by simp only [maxLen] at h2; omega, h1, cur_at h4 (by simp [hi])⟩

theorem LocksAt.put {o : Nat → Nat} {w : World} {t b g n cap : Nat} {xs : List Int} (hb : StAt o w t b #[.slice (some ⟨g, 0, none⟩) n cap] 116) (hs : SlAt o w t 3 1 (.slice (some ⟨g, 0, none⟩) n cap) n (xs.map (Value.int .i64)))
    (hn : n = xs.length) (i : Nat) (hi : i < n) (v : Int) : LocksAt o (w.setCell ⟨g, i, none⟩ (.int .i64 v)) t b (xs.set i v) ∧ Ext o o w (w.setCell ⟨g, i, none⟩ (.int .i64 v)) (fun x => x = t) := by
  subst hn
  obtain ⟨g', cap', cur, hv, hg, hog, _⟩ := hs.row (by omega)
  simp at hv
  obtain ⟨rfl, rfl⟩ := hv
  refine ⟨⟨.slice (some ⟨g, 0, none⟩) xs.length cap, hb.put_far (ne_of_type hb.heap hg (by decide)), ?_⟩, (Ext.refl _ _ _).put _ (.inl hog)⟩
  have h2 := hs.put1 i hi (.int .i64 v)
  rw [← List.map_set] at h2
  simpa using h2

/-- What a write of locks leaves. -/
def LocksPost (o : Nat → Nat) (t b : Nat) (xs : List Int) (r : Value) (w : World) (e : Ending) (w' : World) : Prop :=
  ∃ o', e = .returned r ∧ LocksAt o' w' t b xs ∧ Ext o o' w w' (fun x => x = t)

set_option maxHeartbeats 400000 in
theorem locks_holder {o : Nat → Nat} {t b : Nat} {xs : List Int} {w : World} (h : LocksAt o w t b xs) (i : Int) (h0 : 0 ≤ i) (hi : i < xs.length) :
    Calls Tryz.prog 66 #[.pointer (some ⟨b, 0, none⟩), .int .i64 i] w fun e w' => e = .returned (.int .i64 (xs.getD i.toNat 0)) ∧ w = w' := by
  have c := locks_has_ok h i h0 hi
  obtain ⟨v, ⟨hb, _⟩, hs⟩ := h
  obtain ⟨i, rfl⟩ := Int.eq_ofNat_of_zero_le h0
  obtain ⟨g, cap, cur, rfl, hg, _, h2, h1, hc⟩ := row_at hs (i := i) (by omega)
  clear hs
  rw [Int.toNat_natCast]
  generalize xs.getD i 0 = x at *
  go_enter Tryz.func66, Tryz.ntmps66
  go_wp2_with (go_at_call 98; refine c.mono ?_; rintro e w' ⟨rfl, rfl⟩)
  go_ret
  exact ⟨rfl, rfl⟩

set_option maxHeartbeats 400000 in
theorem locks_try_no {o : Nat → Nat} {t b : Nat} {xs : List Int} {w : World} (h : LocksAt o w t b xs) (i u : Int) (hi : i < 0 ∨ xs.length ≤ i ∨ u < 0) :
    Calls Tryz.prog 120 #[.pointer (some ⟨b, 0, none⟩), .int .i64 i, .int .i64 u] w fun e w' => e = .returned (.tuple #[.bool false, .int .i64 2]) ∧ w = w' := by
  by_cases hr : i < 0 ∨ xs.length ≤ i
  · have c := locks_has_no h i hr
    clear hi hr
    go_enter Tryz.func120, Tryz.ntmps120
    go_wp2_with (go_at_call 98; refine c.mono ?_; rintro e w' ⟨rfl, rfl⟩)
    go_ret2
    exact ⟨rfl, rfl⟩
  · have c := locks_has_ok h i (by omega) (by omega)
    have hu : u < 0 := by omega
    clear hi hr
    go_enter Tryz.func120, Tryz.ntmps120
    go_wp2_with (go_at_call 98; refine c.mono ?_; rintro e w' ⟨rfl, rfl⟩)
    go_ret2
    exact ⟨rfl, rfl⟩

set_option maxHeartbeats 400000 in
theorem locks_try_held {o : Nat → Nat} {t b : Nat} {xs : List Int} {w : World} (h : LocksAt o w t b xs) (i u : Int) (h0 : 0 ≤ i) (hi : i < xs.length) (hu : 0 ≤ u) (hx : xs.getD i.toNat 0 ≠ -1) :
    Calls Tryz.prog 120 #[.pointer (some ⟨b, 0, none⟩), .int .i64 i, .int .i64 u] w fun e w' => e = .returned (.tuple #[.bool false, .int .i64 0]) ∧ w = w' := by
  have c := locks_has_ok h i h0 hi
  obtain ⟨v, ⟨hb, _⟩, hs⟩ := h
  obtain ⟨i, rfl⟩ := Int.eq_ofNat_of_zero_le h0
  obtain ⟨g, cap, cur, rfl, hg, _, h2, h1, hc⟩ := row_at hs (i := i) (by omega)
  clear hs
  rw [Int.toNat_natCast] at hx
  generalize xs.getD i 0 = x at *
  have hx' : (x != -1) = true := by simp [hx]
  go_enter Tryz.func120, Tryz.ntmps120
  go_wp2_with (go_at_call 98; refine c.mono ?_; rintro e w' ⟨rfl, rfl⟩)
  go_ret2
  exact ⟨rfl, rfl⟩

set_option maxHeartbeats 400000 in
theorem locks_try {o : Nat → Nat} {t b : Nat} {xs : List Int} {w : World} (h : LocksAt o w t b xs) (i u : Int) (h0 : 0 ≤ i) (hi : i < xs.length) (hu : 0 ≤ u) (hx : xs.getD i.toNat 0 = -1) :
    Calls Tryz.prog 120 #[.pointer (some ⟨b, 0, none⟩), .int .i64 i, .int .i64 u] w (LocksPost o t b (xs.set i.toNat u) (.tuple #[.bool true, .int .i64 0]) w) := by
  have c := locks_has_ok h i h0 hi
  obtain ⟨v, hb, hs⟩ := h
  obtain ⟨i, rfl⟩ := Int.eq_ofNat_of_zero_le h0
  obtain ⟨g, cap, cur, rfl, hg, _, h2, h1, hc⟩ := row_at hs (i := i) (by omega)
  have P := hide (LocksAt.put hb hs rfl i (by omega) u)
  have hb' := hb.heap
  clear hs hb
  rw [Int.toNat_natCast] at hx ⊢
  rw [hx] at hc
  clear hx
  go_enter Tryz.func120, Tryz.ntmps120
  go_wp2_with (go_at_call 98; refine c.mono ?_; rintro e w' ⟨rfl, rfl⟩)
  go_ret2
  exact ⟨o, rfl, P.out.1, P.out.2⟩

set_option maxHeartbeats 400000 in
theorem locks_free_no {o : Nat → Nat} {t b : Nat} {xs : List Int} {w : World} (h : LocksAt o w t b xs) (i u : Int) (hi : i < 0 ∨ xs.length ≤ i ∨ u < 0) :
    Calls Tryz.prog 99 #[.pointer (some ⟨b, 0, none⟩), .int .i64 i, .int .i64 u] w fun e w' => e = .returned (.int .i64 2) ∧ w = w' := by
  by_cases hr : i < 0 ∨ xs.length ≤ i
  · have c := locks_has_no h i hr
    clear hi hr
    go_enter Tryz.func99, Tryz.ntmps99
    go_wp2_with (go_at_call 98; refine c.mono ?_; rintro e w' ⟨rfl, rfl⟩)
    go_ret
    exact ⟨rfl, rfl⟩
  · have c := locks_has_ok h i (by omega) (by omega)
    have hu : u < 0 := by omega
    clear hi hr
    go_enter Tryz.func99, Tryz.ntmps99
    go_wp2_with (go_at_call 98; refine c.mono ?_; rintro e w' ⟨rfl, rfl⟩)
    go_ret
    exact ⟨rfl, rfl⟩

set_option maxHeartbeats 400000 in
theorem locks_free_other {o : Nat → Nat} {t b : Nat} {xs : List Int} {w : World} (h : LocksAt o w t b xs) (i u : Int) (h0 : 0 ≤ i) (hi : i < xs.length) (hu : 0 ≤ u) (hx : xs.getD i.toNat 0 ≠ u) :
    Calls Tryz.prog 99 #[.pointer (some ⟨b, 0, none⟩), .int .i64 i, .int .i64 u] w fun e w' => e = .returned (.int .i64 7) ∧ w = w' := by
  have c := locks_has_ok h i h0 hi
  obtain ⟨v, ⟨hb, _⟩, hs⟩ := h
  obtain ⟨i, rfl⟩ := Int.eq_ofNat_of_zero_le h0
  obtain ⟨g, cap, cur, rfl, hg, _, h2, h1, hc⟩ := row_at hs (i := i) (by omega)
  clear hs
  rw [Int.toNat_natCast] at hx
  generalize xs.getD i 0 = x at *
  have hx' : (x != u) = true := by simp [hx]
  go_enter Tryz.func99, Tryz.ntmps99
  go_wp2_with (go_at_call 98; refine c.mono ?_; rintro e w' ⟨rfl, rfl⟩)
  go_ret
  exact ⟨rfl, rfl⟩

set_option maxHeartbeats 400000 in
theorem locks_free {o : Nat → Nat} {t b : Nat} {xs : List Int} {w : World} (h : LocksAt o w t b xs) (i u : Int) (h0 : 0 ≤ i) (hi : i < xs.length) (hu : 0 ≤ u) (hx : xs.getD i.toNat 0 = u) :
    Calls Tryz.prog 99 #[.pointer (some ⟨b, 0, none⟩), .int .i64 i, .int .i64 u] w (LocksPost o t b (xs.set i.toNat (-1)) (.int .i64 0) w) := by
  have c := locks_has_ok h i h0 hi
  obtain ⟨v, hb, hs⟩ := h
  obtain ⟨i, rfl⟩ := Int.eq_ofNat_of_zero_le h0
  obtain ⟨g, cap, cur, rfl, hg, _, h2, h1, hc⟩ := row_at hs (i := i) (by omega)
  have P := hide (LocksAt.put hb hs rfl i (by omega) (-1))
  have hb' := hb.heap
  clear hs hb
  rw [Int.toNat_natCast] at hx ⊢
  rw [hx] at hc
  clear hx
  go_enter Tryz.func99, Tryz.ntmps99
  go_wp2_with (go_at_call 98; refine c.mono ?_; rintro e w' ⟨rfl, rfl⟩)
  go_ret
  exact ⟨o, rfl, P.out.1, P.out.2⟩

/-- The locks among the first k that u holds. -/
def heldBy (xs : List Int) (u : Int) (k : Nat) : List Int := ((List.range k).filter fun i => decide (0 ≤ u ∧ xs.getD i 0 = u)).map fun i : Nat => (i : Int)
theorem heldBy_succ (xs : List Int) (u : Int) (k : Nat) : heldBy xs u (k + 1) = heldBy xs u k ++ (if 0 ≤ u ∧ xs.getD k 0 = u then [(k : Int)] else []) := by
  unfold heldBy
  rw [List.range_succ, List.filter_append, List.map_append]
  by_cases h : 0 ≤ u ∧ xs.getD k 0 = u
  · rw [if_pos h, List.filter_cons_of_pos (by rw [decide_eq_true_eq]; exact h)]; rfl
  · rw [if_neg h, List.filter_cons_of_neg (by rw [decide_eq_true_eq]; exact h)]; rfl
theorem heldBy_le (xs : List Int) (u : Int) (k : Nat) : (heldBy xs u k).length ≤ k := by
  unfold heldBy
  rw [List.length_map]
  exact Nat.le_trans (List.length_filter_le _ _) (by simp)

def HeldPost (o : Nat → Nat) (t2 : Nat) (l : List Int) (w : World) (e : Ending) (w' : World) : Prop :=
  ∃ o' v, e = .returned v ∧ SlAt o' w' t2 3 1 v l.length (l.map (Value.int .i64)) ∧ Ext o o' w w' (fun x => x = t2)

/-- The loop of Held. -/
def HeldRel (o : Nat → Nat) (t2 : Nat) (w : World) (l : List Int) (v : Value) (wr : World) : Prop :=
  ∃ o1, SlAt o1 wr t2 3 1 v l.length (l.map (Value.int .i64)) ∧ Ext o o1 w wr (fun x => x = t2)

set_option maxHeartbeats 1000000 in
theorem locks_held {o : Nat → Nat} {t b : Nat} {xs : List Int} {w : World} (h : LocksAt o w t b xs) (t2 : Nat) (ht : t ≠ t2) (hx : xs.length ≤ 64) (u : Int) :
    Calls Tryz.prog 22 #[.pointer (some ⟨b, 0, none⟩), .int .i64 u] w (HeldPost o t2 (heldBy xs u xs.length) w) := by
  obtain ⟨v, hb, hs⟩ := h
  obtain ⟨a, c, rfl⟩ := hs.value
  have hb' := hb.heap
  have hH := hide (And.intro hb hs)
  clear hb hs
  go_enter Tryz.func22, Tryz.ntmps22
  go_wp2
  clear hb'
  go_loopw [5, 6, 12] (fun v _ i wr => ∃ k : Nat, k ≤ xs.length ∧ i = .int .i64 k ∧ HeldRel o t2 w (heldBy xs u k) v wr) (fun _ _ i _ => xs.length - (intOf i).toNat)
  case atStart => exact ⟨0, Nat.zero_le _, rfl, o, SlAt.nil _ _ _ _ _, Ext.refl _ _ _⟩
  case round =>
    obtain ⟨k, hk, rfl, o1, hsl, he⟩ := hrel
    by_cases hlt : k < xs.length
    · have hst := hH.out.1.ext he ht
      have hs := hH.out.2.ext he ht
      have hb' := hst.heap
      have hL := heldBy_le xs u k
      obtain ⟨g, cap, cur, hv, hg, _, h2, h1, hc⟩ := row_at hs hlt
      simp at hv
      obtain ⟨rfl, rfl⟩ := hv
      have hsucc := heldBy_succ xs u k
      clear hst hs hH
      generalize hl2 : heldBy xs u (k + 1) = l2 at *
      by_cases hu : 0 ≤ u
      · by_cases hxk : xs.getD k 0 = u
        · rw [if_pos ⟨hu, hxk⟩] at hsucc
          rw [hxk] at hc
          replace hsucc := hide hsucc
          replace hl2 := hide hl2
          clear hxk
          go_wp2_with (at_builtin; refine push_int rfl (.tmp 28) (.tmp 30) rfl _ _ _ rfl (hsl.alloc _) wr.heap.size 1 _ rfl (blk_new _ _) rfl (by simp; rfl) (by omega) ?_)
          intro v' w1 o2 hs1 he1 _ _
          obtain ⟨va', vc', rfl⟩ := hs1.value
          have hsl2 : HeldRel o t2 w l2 (.slice va' ((heldBy xs u k).length + 1) vc') w1 := ⟨o2, by rw [hsucc.out]; simpa using hs1, (he.alloc _).trans he1⟩
          clear hsl hs1 he he1
          replace hsl2 := hide hsl2
          go_wp2
          go_roundw
          case rel => exact ⟨k + 1, by omega, by go_num, by rw [hl2.out]; exact hsl2.out⟩
          case measure => simp [intOf]; omega
        · rw [if_neg (fun h => hxk h.2), List.append_nil] at hsucc
          generalize xs.getD k 0 = x at *
          have hx' : (x == u) = false := by simp [hxk]
          clear hxk
          replace hsucc := hide hsucc
          replace hl2 := hide hl2
          have hsl2 : HeldRel o t2 w (heldBy xs u k) _ wr := ⟨o1, hsl, he⟩
          clear hsl he
          replace hsl2 := hide hsl2
          go_wp2
          go_roundw
          case rel => exact ⟨k + 1, by omega, by go_num, by rw [hl2.out, hsucc.out]; exact hsl2.out⟩
          case measure => simp [intOf]; omega
      · rw [if_neg (fun h => hu h.1), List.append_nil] at hsucc
        replace hsucc := hide hsucc
        replace hl2 := hide hl2
        have hsl2 : HeldRel o t2 w (heldBy xs u k) _ wr := ⟨o1, hsl, he⟩
        clear hsl he
        replace hsl2 := hide hsl2
        go_wp2
        go_roundw
        case rel => exact ⟨k + 1, by omega, by go_num, by rw [hl2.out, hsucc.out]; exact hsl2.out⟩
        case measure => simp [intOf]; omega
    · have : k = xs.length := by omega
      subst this
      go_wp2
      go_ret
      exact ⟨o1, _, rfl, hsl, he⟩
end Go.Proofs.YtcgfknpobifecaaGreat
