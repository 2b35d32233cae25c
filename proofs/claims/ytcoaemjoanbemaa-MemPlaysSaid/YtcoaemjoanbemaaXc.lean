/- The heap of free places (the package arena's type places, and container/heap over it), over a list of numbers. Condition: the pointer leads to such a block. container/heap over the places. heap.Push and heap.Pop over the places. -/
import Derived.Test.YtcoaemjoanbemaaProg
import Derived.Test.YtcoaemjoanbemaaHp
import Derived.Test.YtcoaemjoanbemaaXb
import Derived.StillTailTactics
import Derived.Deep.RegionLaw
import Derived.Deep.DeepCutAuto
import Derived.Deep.CutBlock
namespace Go.Proofs.Ytcoaemjoanbemaa
open Go.RowKit

theorem info_place : (Try.prog.info? 3).map (fun i => (i.zero, i.size, i.bytes)) = some (some (.int .i64 0), 1, 8) := by kernel_rfl
/-- append(xs, x), elements of type place. -/
theorem push_place {w : World} {o : Nat → Nat} {tg : Nat} {ops : Array Oper} {rest : List Oper} {op : Oper} {a : Act} {Q : Exit → Act → World → Prop} (hgd : op.guard = none) (s x : Operand)
    (ho : op.op = .call { callee := .builtin .append, args := #[s, x], argTypes := #[99, 99] })
    (v : Value) (n : Nat) (xs : List Value) (hs : a.eval s = v) (hown : SlAt o w tg 3 1 v n xs) (g c : Nat) (news : Array Value) (hx : a.eval x = .slice (some ⟨g, 0, none⟩) 1 c)
    (hg : blk w g = some (.cells news 3 (0, 0))) (hl : news.size = 1) (h1 : ∀ u ∈ news.toList, u.oneCell' = true) (hb : n + 1 ≤ 1073741824)
    (h : ∀ v' w' o', SlAt o' w' tg 3 1 v' (n + 1) (xs ++ news.toList) → Ext o o' w w' (fun x => x = tg) → w.grownBy w' v.ownBlock → v' ≠ .slice none 0 0 → wpList Try.prog ops Q rest (a.put op.dst v') w') :
    wpList Try.prog ops Q (op :: rest) a w := by
  obtain ⟨i0, hi, hz0, hz1, hz2⟩ := info_parts info_place
  exact wpList_push hgd s x 99 ho 3 i0 (.int .i64 0) 1 8 Try.underlying99 hi hz0 hz1 hz2 rfl (by decide) v n xs hs hown g c news hx hg hl h1 (by simp only [maxLen]; omega) (by omega) h
/-- append(xs, ys...), elements of type place. -/
theorem src_place {w : World} {o : Nat → Nat} {tg tg2 : Nat} {ops : Array Oper} {rest : List Oper} {op : Oper} {a : Act} {Q : Exit → Act → World → Prop} (hgd : op.guard = none) (s x : Operand)
    (ho : op.op = .call { callee := .builtin .append, args := #[s, x], argTypes := #[99, 99] })
    (v : Value) (n : Nat) (xs : List Value) (hs : a.eval s = v) (hown : SlAt o w tg 3 1 v n xs) (v2 : Value) (m : Nat) (news : List Value) (hx : a.eval x = v2) (hsrc : SlAt o w tg2 3 1 v2 m news)
    (h1 : ∀ u ∈ news, u.oneCell' = true) (hb : n + m ≤ 1073741824)
    (h : ∀ v' w' o', SlAt o' w' tg 3 1 v' (n + m) (xs ++ news) → Ext o o' w w' (fun x => x = tg) → w.grownBy w' v.ownBlock → (v' = .slice none 0 0 ↔ v = .slice none 0 0 ∧ m = 0) → wpList Try.prog ops Q rest (a.put op.dst v') w') :
    wpList Try.prog ops Q (op :: rest) a w := by
  obtain ⟨i0, hi, hz0, hz1, hz2⟩ := info_parts info_place
  exact wpList_append_src hgd s x 99 ho 3 i0 (.int .i64 0) 1 8 Try.underlying99 hi hz0 hz1 hz2 rfl (by decide) v n xs hs hown v2 m news hx hsrc h1 (by simp only [maxLen]; omega) (by omega) h
/-- append(xs, ys...), elements of type place, ys wherever it lies. -/
theorem many_place {w : World} {o : Nat → Nat} {tg : Nat} {ops : Array Oper} {rest : List Oper} {op : Oper} {a : Act} {Q : Exit → Act → World → Prop} (hgd : op.guard = none) (s x : Operand)
    (ho : op.op = .call { callee := .builtin .append, args := #[s, x], argTypes := #[99, 99] })
    (v : Value) (n : Nat) (xs : List Value) (hs : a.eval s = v) (hown : SlAt o w tg 3 1 v n xs) (ad : Addr) (m c : Nat) (news : List Value) (hx : a.eval x = .slice (some ad) m c) (hl : news.length = m * 1)
    (hnews : ∀ j u, news[j]? = some u → w.cell? (ad.add j) = some u) (h1 : ∀ u ∈ news, u.oneCell' = true) (hb : n + m ≤ 1073741824)
    (h : ∀ v' w' o', SlAt o' w' tg 3 1 v' (n + m) (xs ++ news) → Ext o o' w w' (fun x => x = tg) → w.grownBy w' v.ownBlock → (v' = .slice none 0 0 ↔ v = .slice none 0 0 ∧ m = 0) → wpList Try.prog ops Q rest (a.put op.dst v') w') :
    wpList Try.prog ops Q (op :: rest) a w := by
  obtain ⟨i0, hi, hz0, hz1, hz2⟩ := info_parts info_place
  exact wpList_append_sl hgd s x 99 ho 3 i0 (.int .i64 0) 1 8 Try.underlying99 hi hz0 hz1 hz2 rfl (by decide) v n xs hs hown ad m c news hx hl hnews h1 (by simp only [maxLen]; omega) (by omega) h


/-- append(xs, x), elements of type int, as a step of a region that draws. -/
theorem step_place {w : World} {o : Nat → Nat} {tg : Nat} {ops : Array Oper} {op : Oper} {a : Act} {K : Act → World → Prop} {Q : Exit → Act → World → Prop} {E : Prop} (hgd : op.guard = none) (s x : Operand)
    (ho : op.op = .call { callee := .builtin .append, args := #[s, x], argTypes := #[99, 99] })
    (v : Value) (n : Nat) (xs : List Value) (hs : a.eval s = v) (hown : SlAt o w tg 3 1 v n xs) (g c : Nat) (u : Value) (hx : a.eval x = .slice (some ⟨g, 0, none⟩) 1 c)
    (hg : blk w g = some (.cells #[u] 3 (0, 0))) (h1 : u.oneCell' = true) (hb : n + 1 ≤ 1073741824)
    (h : ∀ v' w' o', SlAt o' w' tg 3 1 v' (n + 1) (xs ++ [u]) → Ext o o' w w' (fun x => x = tg) → w.grownBy w' v.ownBlock → K (a.put op.dst v') w') :
    if Region.wanted op (yielded ops a.tmps) = true then Oper.wp Try.prog op a w K Q else E := by
  have hw : Region.wanted op (yielded ops a.tmps) = true := by simp [Region.wanted, hgd]
  rw [if_pos hw]
  obtain ⟨i0, hi, hz0, hz1, hz2⟩ := info_parts info_place
  obtain ⟨v', w', o', hr, h2, h3, h5, h4⟩ := run_append_sl (P := Try.prog) 99 op.type 3 i0 (.int .i64 0) 1 8 Try.underlying99 hi hz0 hz1 hz2 rfl (by decide) v n xs hown ⟨g, 0, none⟩ 1 c [u] rfl
    (fun j y hj => by
      have hadd : (⟨g, 0, none⟩ : Addr).add j = ⟨g, j, none⟩ := by unfold Addr.add; split <;> simp_all
      rw [hadd]
      have hc : w.heap[g]? = some (.cells #[u] 3 (0, 0)) := hg
      rw [cell_of_row w g j _ _ _ hc]
      simpa using hj) (by simpa using h1) (by simp only [maxLen]; omega) (by omega)
  unfold Oper.wp execOp
  simp only [ho, resolve, invoke, builtin, Sem.run_bind, Sem.run_pure, Result.andThen_ok, List.map_toArray, List.map_cons, List.map_nil, hs, hx, hr]
  exact h v' w' o' h2 h3 h5

def PlacesAt (o : Nat → Nat) (w : World) (t b : Nat) (xs : List Int) : Prop :=
  ∃ v, StAt o w t b #[v] 99 ∧ SlAt o w t 3 1 v xs.length (xs.map (Value.int .i64))
theorem PlacesAt.ext {o o' : Nat → Nat} {w w' : World} {t b : Nat} {xs : List Int} {S : Nat → Prop} (h : PlacesAt o w t b xs) (e : Ext o o' w w' S) (hs : ¬ S t) : PlacesAt o' w' t b xs := by
  obtain ⟨v, h1, h2⟩ := h
  exact ⟨v, h1.ext e hs, h2.ext e hs⟩
theorem PlacesAt.drewN {o : Nat → Nat} {w : World} {t b : Nat} {xs : List Int} (h : PlacesAt o w t b xs) (n : Nat) : PlacesAt o (w.drewN n) t b xs := h.ext ((Ext.refl o w (fun _ => False)).drewN n) id

theorem place_at {o : Nat → Nat} {w : World} {t : Nat} {T : TypeId} {v : Value} {xs : List Int} {k : IntKind} (hs : SlAt o w t T 1 v xs.length (xs.map (Value.int k))) {i : Nat} (hi : i < xs.length) :
    ∃ g cap cur, v = .slice (some ⟨g, 0, none⟩) xs.length cap ∧ blk w g = some (.cells cur T (0, 0)) ∧ o g = t ∧ cap ≤ 9223372036854775807 ∧ xs.length ≤ cap ∧ cur[i]? = some (.int k (xs.getD i 0)) := by
  obtain ⟨g, cap, cur, rfl, hg, hog, h1, h2, h3, h4⟩ := hs.row (by omega)
  exact ⟨g, cap, cur, rfl, hg, hog, by simp only [maxLen] at h2; omega, h1, cur_at h4 (by simp [hi])⟩

/- What the calls through heap.Interface come to. -/
theorem nil_len (n : Nat) (a : Addr) (w : World) : (nilAhead (n + 1) 98 (.pointer (some a)) "Len").run Try.prog w = .ok (some false) w := by kernel_rfl
theorem nil_less (n : Nat) (a : Addr) (w : World) : (nilAhead (n + 1) 98 (.pointer (some a)) "Less").run Try.prog w = .ok (some false) w := by kernel_rfl
theorem nil_swap (n : Nat) (a : Addr) (w : World) : (nilAhead (n + 1) 98 (.pointer (some a)) "Swap").run Try.prog w = .ok (some false) w := by kernel_rfl
theorem nil_push (n : Nat) (a : Addr) (w : World) : (nilAhead (n + 1) 98 (.pointer (some a)) "Push").run Try.prog w = .ok (some false) w := by kernel_rfl
theorem nil_pop (n : Nat) (a : Addr) (w : World) : (nilAhead (n + 1) 98 (.pointer (some a)) "Pop").run Try.prog w = .ok (some false) w := by kernel_rfl
theorem m_push (n : Nat) (a : Addr) (w : World) : (method (n + 1) 98 (.pointer (some a)) "Push").run Try.prog w = .ok (115, .pointer (some a)) w := by kernel_rfl
theorem m_pop (n : Nat) (a : Addr) (w : World) : (method (n + 1) 98 (.pointer (some a)) "Pop").run Try.prog w = .ok (114, .pointer (some a)) w := by kernel_rfl
theorem m_len0 (n : Nat) (a : Addr) (w : World) : (method (n + 1) 98 (.pointer (some a)) "Len").run Try.prog w = (do let v ← loadVar 99 a; pure (50, v) : Sem (FuncId × Value)).run Try.prog w := by kernel_rfl
theorem m_less0 (n : Nat) (a : Addr) (w : World) : (method (n + 1) 98 (.pointer (some a)) "Less").run Try.prog w = (do let v ← loadVar 99 a; pure (113, v) : Sem (FuncId × Value)).run Try.prog w := by kernel_rfl
theorem m_swap0 (n : Nat) (a : Addr) (w : World) : (method (n + 1) 98 (.pointer (some a)) "Swap").run Try.prog w = (do let v ← loadVar 99 a; pure (116, v) : Sem (FuncId × Value)).run Try.prog w := by kernel_rfl
section
variable {b n c : Nat} {sa : Option Addr} {w : World}
theorem load_sl (hb : blk w b = some (.cells #[.slice sa n c] 99 (0, 0))) : (loadVar 99 ⟨b, 0, none⟩).run Try.prog w = .ok (.slice sa n c) w := by simp [go_sem, hb]
theorem m_len (f : Nat) (hb : blk w b = some (.cells #[.slice sa n c] 99 (0, 0))) : (method (f + 1) 98 (.pointer (some ⟨b, 0, none⟩)) "Len").run Try.prog w = .ok (50, .slice sa n c) w := by
  rw [m_len0]; simp [load_sl hb]
theorem m_less (f : Nat) (hb : blk w b = some (.cells #[.slice sa n c] 99 (0, 0))) : (method (f + 1) 98 (.pointer (some ⟨b, 0, none⟩)) "Less").run Try.prog w = .ok (113, .slice sa n c) w := by
  rw [m_less0]; simp [load_sl hb]
theorem m_swap (f : Nat) (hb : blk w b = some (.cells #[.slice sa n c] 99 (0, 0))) : (method (f + 1) 98 (.pointer (some ⟨b, 0, none⟩)) "Swap").run Try.prog w = .ok (116, .slice sa n c) w := by
  rw [m_swap0]; simp [load_sl hb]
end

set_option maxHeartbeats 400000 in
theorem places_len (sa : Option Addr) (n c : Nat) (w : World) : Calls Try.prog 50 #[.slice sa n c] w fun e w' => e = .returned (.int .i64 n) ∧ w = w' := by
  go_enter Try.func50, Try.ntmps50
  go_wp2
  go_ret
  exact ⟨rfl, rfl⟩

set_option maxHeartbeats 400000 in
theorem places_less {o : Nat → Nat} {w : World} {t : Nat} {v : Value} {xs : List Int} (hs : SlAt o w t 3 1 v xs.length (xs.map (Value.int .i64))) (i j : Int) (i0 : 0 ≤ i) (i1 : i < xs.length) (j0 : 0 ≤ j) (j1 : j < xs.length) :
    Calls Try.prog 113 #[v, .int .i64 i, .int .i64 j] w fun e w' => e = .returned (.bool (decide (xs.getD i.toNat 0 < xs.getD j.toNat 0))) ∧ ∃ n, w' = w.drewN n := by
  obtain ⟨g, cap, cur, rfl, hg, _, h2, h1, hc⟩ := place_at hs (i := i.toNat) (by omega)
  obtain ⟨g', cap', cur', hv, hg', _, _, _, hc'⟩ := place_at hs (i := j.toNat) (by omega)
  simp at hv
  obtain ⟨rfl, rfl⟩ := hv
  rw [hg] at hg'
  simp at hg'
  subst hg'
  clear hs
  generalize xs.getD i.toNat 0 = x at *
  generalize xs.getD j.toNat 0 = y at *
  go_enter Try.func113, Try.ntmps113
  go_wp2_with fail
  go_quiet (fail)
  go_wp2
  go_ret
  exact ⟨rfl, _, rfl⟩

set_option maxHeartbeats 800000 in
theorem places_swap {o : Nat → Nat} {w : World} {t g cap : Nat} {xs : List Int} (hs : SlAt o w t 3 1 (.slice (some ⟨g, 0, none⟩) xs.length cap) xs.length (xs.map (Value.int .i64))) (i j : Nat) (i1 : i < xs.length) (j1 : j < xs.length) :
    Calls Try.prog 116 #[.slice (some ⟨g, 0, none⟩) xs.length cap, .int .i64 i, .int .i64 j] w fun e w' => e = .returned (.tuple #[]) ∧ ∃ n, w' = ((w.setCell ⟨g, i, none⟩ (.int .i64 (xs.getD j 0))).setCell ⟨g, j, none⟩ (.int .i64 (xs.getD i 0))).drewN n := by
  obtain ⟨g', cap', cur, hv, hg, _, h2, h1, hc⟩ := place_at hs i1
  simp at hv
  obtain ⟨rfl, rfl⟩ := hv
  obtain ⟨g', cap', cur', hv, hg', _, _, _, hc'⟩ := place_at hs j1
  simp at hv
  obtain ⟨rfl, rfl⟩ := hv
  rw [hg] at hg'
  simp at hg'
  subst hg'
  clear hs
  have hi : i < cur.size := (Array.getElem?_eq_some_iff.1 hc).1
  have hj : j < cur.size := (Array.getElem?_eq_some_iff.1 hc').1
  have h3 : ∃ y, (cur.setIfInBounds i (.int .i64 (xs.getD j 0)))[j]? = some y := ⟨_, Array.getElem?_eq_getElem (by simpa using hj)⟩
  obtain ⟨y, h3⟩ := h3
  clear hi hj
  generalize xs.getD i 0 = x at *
  generalize xs.getD j 0 = z at *
  go_enter Try.func116, Try.ntmps116
  go_wp2_with fail
  go_region
  all_goals (go_wp2; go_end0; exact ⟨rfl, 1, rfl⟩)

/-- What an exchange leaves. -/
theorem PlacesAt.swap {o : Nat → Nat} {w : World} {t b g cap : Nat} {xs : List Int} (hb : StAt o w t b #[.slice (some ⟨g, 0, none⟩) xs.length cap] 99)
    (hs : SlAt o w t 3 1 (.slice (some ⟨g, 0, none⟩) xs.length cap) xs.length (xs.map (Value.int .i64))) (i j n : Nat) (i1 : i < xs.length) (j1 : j < xs.length) :
    StAt o (((w.setCell ⟨g, i, none⟩ (.int .i64 (xs.getD j 0))).setCell ⟨g, j, none⟩ (.int .i64 (xs.getD i 0))).drewN n) t b #[.slice (some ⟨g, 0, none⟩) xs.length cap] 99 ∧
    SlAt o (((w.setCell ⟨g, i, none⟩ (.int .i64 (xs.getD j 0))).setCell ⟨g, j, none⟩ (.int .i64 (xs.getD i 0))).drewN n) t 3 1 (.slice (some ⟨g, 0, none⟩) xs.length cap) xs.length ((swapL xs i j).map (Value.int .i64)) ∧
    Ext o o w (((w.setCell ⟨g, i, none⟩ (.int .i64 (xs.getD j 0))).setCell ⟨g, j, none⟩ (.int .i64 (xs.getD i 0))).drewN n) (fun x => x = t) := by
  obtain ⟨g', cap', cur, hv, hg, hog, _⟩ := hs.row (by omega)
  simp at hv
  obtain ⟨rfl, rfl⟩ := hv
  have hne := ne_of_type hb.heap hg (by decide)
  refine ⟨((hb.put_far hne).put_far hne).drewN n, ?_, (((Ext.refl o w _).put _ (.inl hog)).put _ (.inl hog)).drewN n⟩
  have h1 := (hs.put1 i i1 (.int .i64 (xs.getD j 0))).put1 j j1 (.int .i64 (xs.getD i 0))
  rw [← List.map_set, ← List.map_set] at h1
  exact h1

theorem assert_int (x : Int) (w : World) : (Instr.typeAssert (.iface 3 (.int .i64 x)) 20 3 false).run Try.prog w = .ok (.int .i64 x) w := by kernel_rfl
/-- One element fewer. -/
theorem SlAt.less {o : Nat → Nat} {w : World} {t : Nat} {T : TypeId} {g n cap : Nat} {cs : List Value} {u : Value} (h : SlAt o w t T 1 (.slice (some ⟨g, 0, none⟩) (n + 1) cap) (n + 1) (cs ++ [u])) : SlAt o w t T 1 (.slice (some ⟨g, 0, none⟩) n cap) n cs := by
  obtain ⟨g1, cap1, cur, hv, hg, hog, h1, h2, h3, h4⟩ := h.row (by omega)
  have hl := h.1
  simp at hv hl
  obtain ⟨rfl, rfl⟩ := hv
  refine ⟨by omega, .inr ⟨_, _, cur, rfl, hg, hog, by omega, h2, h3, ?_⟩⟩
  have := congrArg (List.take n) h4
  rw [List.take_take, Nat.min_eq_left (by omega), List.take_left' hl] at this
  rw [Nat.mul_one]
  exact this

theorem PlacesAt.hdr_drew {o : Nat → Nat} {w : World} {t b : Nat} {cs : Array Value} {T : TypeId} (h : StAt o w t b cs T) : StAt o w.drew t b cs T := ⟨h.heap, h.tag⟩
set_option maxRecDepth 100000 in
set_option maxHeartbeats 800000 in
theorem places_push {o : Nat → Nat} {w : World} {t b : Nat} {xs : List Int} (h : PlacesAt o w t b xs) (hl : xs.length ≤ 100000) (x : Int) :
    Calls Try.prog 115 #[.pointer (some ⟨b, 0, none⟩), .iface 3 (.int .i64 x)] w fun e w' => ∃ o', e = .returned (.tuple #[]) ∧ PlacesAt o' w' t b (xs ++ [x]) ∧ Ext o o' w w' (fun x => x = t) := by
  obtain ⟨v, hb, hs⟩ := h
  obtain ⟨a, c, rfl⟩ := hs.value
  have hb' := hb.heap
  have hlt := hb.lt
  replace hb := hide hb
  replace hs := hide hs
  have ta := assert_int x w.drew
  go_enter Try.func115, Try.ntmps115
  go_wp2_with fail
  go_region_law (refine step_place rfl (.tmp 7) (.tmp 10) rfl _ _ _ rfl (hs.out.drew.alloc _) w.heap.size 1 (.int .i64 x) rfl (blk_new _ _) rfl (by omega) ?_; intro v' w' o' h1 h2 h3; have hg := ((PlacesAt.hdr_drew hb.out).alloc _).grown h2 h3 (hs.out.drew.apart (PlacesAt.hdr_drew hb.out).heap (by decide)); obtain ⟨a', c', rfl⟩ := h1.value; have hg1 := hg.heap; replace h1 := hide h1; replace h2 := hide h2; clear h3; replace hg := hide hg)
  all_goals
    go_wp2
    go_end0
    rw [show [Value.int .i64 x] = [x].map (Value.int .i64) from rfl, ← List.map_append] at h1
    refine ⟨o', rfl, ⟨_, hg.out.put 0 (.slice a' (xs.length + 1) c'), ?_⟩, ?_⟩
    · rw [List.length_append]
      exact h1.out.put_far (h1.out.apart hg1 (by decide))
    · exact (((Ext.refl o w _).drew.alloc _).trans h2.out).put _ (.inl hg.out.tag)

set_option maxRecDepth 100000 in
set_option maxHeartbeats 800000 in
theorem places_pop {o : Nat → Nat} {w : World} {t b : Nat} {ys : List Int} {x : Int} (h : PlacesAt o w t b (ys ++ [x])) (hl : ys.length ≤ 100000) :
    Calls Try.prog 114 #[.pointer (some ⟨b, 0, none⟩)] w fun e w' => e = .returned (.iface 3 (.int .i64 x)) ∧ PlacesAt o w' t b ys ∧ Ext o o w w' (fun x => x = t) := by
  obtain ⟨v, hb, hs⟩ := h
  have hl1 : (ys ++ [x]).length = ys.length + 1 := by simp
  rw [List.map_append, hl1] at hs
  obtain ⟨g, cap, cur, rfl, hg, hog, h1, h2, h3, h4⟩ := hs.row (by omega)
  have hc : cur[ys.length]? = some (.int .i64 x) := cur_at h4 (by simp)
  have hgoal := hide (hs.less.put_far (i := 0) (u := .slice (some ⟨g, 0, none⟩) ys.length cap) (hs.less.apart hb.heap (by decide)))
  have hput := hide (hb.put 0 (.slice (some ⟨g, 0, none⟩) ys.length cap))
  have hE : Hid (Ext o o w (w.setCell ⟨b, 0, none⟩ (.slice (some ⟨g, 0, none⟩) ys.length cap)) (fun x => x = t)) := hide ((Ext.refl o w _).put _ (.inl hb.tag))
  have hb' := hb.heap
  have hlt := hb.lt
  simp only [maxLen] at h2
  have hcap : cap ≤ 9223372036854775807 := by omega
  clear hs hb h3 h4 hog hl1 h2
  generalize hn : ys.length = n at *
  replace hn := hide hn
  go_enter Try.func114, Try.ntmps114
  go_wp2
  go_ret
  exact ⟨rfl, ⟨_, hput.out, by rw [hn.out]; exact hgoal.out⟩, hE.out⟩
end Go.Proofs.Ytcoaemjoanbemaa

namespace Go.Proofs.Ytcoaemjoanbemaa
open Go.RowKit

set_option maxRecDepth 100000 in
set_option maxHeartbeats 1600000 in
theorem heap_up {o : Nat → Nat} {w : World} {t b : Nat} {xs : List Int} {j : Nat} (h : PlacesAt o w t b xs) (hl : xs.length ≤ 100000) (hj : j < xs.length) (hi : UpInv xs j) :
    Calls Try.prog 72 #[.iface 98 (.pointer (some ⟨b, 0, none⟩)), .int .i64 j] w fun e w' => ∃ ys, e = .returned (.tuple #[]) ∧ PlacesAt o w' t b ys ∧ ys.Perm xs ∧ IsHeap ys ∧ Ext o o w w' (fun x => x = t) := by
  go_enter Try.func72, Try.ntmps72
  go_wp2
  go_loopw [1] (fun j wr => ∃ (k : Nat) (ys : List Int), j = .int .i64 k ∧ k < ys.length ∧ ys.Perm xs ∧ PlacesAt o wr t b ys ∧ UpInv ys k ∧ Ext o o w wr (fun x => x = t)) (fun i _ => (intOf i).toNat)
  case atStart => exact ⟨j, xs, rfl, hj, .refl _, h, hi, .refl _ _ _⟩
  case round =>
    obtain ⟨k, ys, rfl, hk, hp, hP, hu, hE⟩ := hrel
    have hk5 : k ≤ 100000 := by have := hp.length_eq; omega
    clear h hi hj
    obtain ⟨v, hb, hs⟩ := hP
    obtain ⟨g, cap, cur, rfl, hg, hog, hcap, h1, hc⟩ := place_at hs hk
    clear hg h1 hc
    have hb' := hb.heap
    have nl := nil_less 269 ⟨b, 0, none⟩ wr
    have ml := m_less 269 hb'
    by_cases h0 : k = 0
    · subst h0
      go_wp2_with fail
      go_end0
      exact ⟨ys, rfl, ⟨_, hb, hs⟩, hp, upInv_zero _ hu, hE⟩
    · obtain ⟨p, hpk⟩ : ∃ p, p = (k - 1) / 2 := ⟨_, rfl⟩
      have hq : ((k : Int) - 1).tdiv 2 = (p : Int) := by rw [Int.tdiv_eq_ediv_of_nonneg (by omega)]; omega
      have hpl : p < k := by omega
      have hless := hide (places_less hs k p (by omega) (by omega) (by omega) (by omega))
      simp only [Int.toNat_natCast] at hless
      replace hu := hide hu
      replace hpk := hide hpk
      go_wp2_with fail
      refine hless.out.mono ?_
      rintro e w' ⟨rfl, n, rfl⟩
      have hsd := hs.drewN n
      have hbd := hb.drewN n
      have hEd := hide (hE.drewN n)
      have hbd' := hbd.heap
      generalize wr.drewN n = w2 at hsd hbd hEd hbd' ⊢
      clear hless nl ml hb hs hE hb'
      have nl := nil_swap 269 ⟨b, 0, none⟩ w2
      have ml := m_swap 269 hbd'
      have hsw := hide (places_swap hsd p k (by omega) (by omega))
      have hst := hide fun n => PlacesAt.swap hbd hsd p k n (by omega) (by omega)
      cases hlt : decide (ys.getD k 0 < ys.getD p 0)
      · clear hsw
        have hd : ¬ ys.getD k 0 < ys.getD p 0 := by simpa using hlt
        go_wp2_with fail
        go_end0
        exact ⟨ys, rfl, ⟨_, hbd, hsd⟩, hp, upInv_done _ _ hu.out (by rw [← hpk.out]; omega), hEd.out⟩
      · have hd : ys.getD k 0 < ys.getD p 0 := by simpa using hlt
        have hnew := upInv_step _ _ hu.out (by omega) hk (by rw [← hpk.out]; exact hd)
        rw [← hpk.out] at hnew
        replace hnew := hide hnew
        clear hd hlt
        replace hsd := hide hsd
        go_wp2_with fail
        refine hsw.out.mono ?_
        rintro e w' ⟨rfl, n, rfl⟩
        obtain ⟨s1, s2, s3⟩ := hst.out n
        rw [← swapL_length ys p k] at s1
        generalize World.drewN _ n = w3 at s1 s2 s3 ⊢
        go_wp2_with fail
        go_roundw
        case rel => exact ⟨p, swapL ys p k, by go_num, by rw [swapL_length]; omega, (swapL_perm _ _ _ (by omega) hk).trans hp, ⟨_, s1, by rw [swapL_length]; exact s2⟩, hnew.out, hEd.out.trans s3⟩
        case measure => simp [intOf]; omega

/-- What down comes to. -/
def DownPost (o : Nat → Nat) (t b n : Nat) (xs : List Int) (w : World) (e : Ending) (w' : World) : Prop :=
  ∃ ys bo, e = .returned (.bool bo) ∧ PlacesAt o w' t b ys ∧ ys.Perm xs ∧ (∀ k, 0 < k → k < n → ys.getD ((k - 1) / 2) 0 ≤ ys.getD k 0) ∧ ys.getD n 0 = xs.getD n 0 ∧ Ext o o w w' (fun x => x = t)

set_option maxRecDepth 100000 in
set_option maxHeartbeats 1600000 in
theorem heap_down {o : Nat → Nat} {w : World} {t b n : Nat} {xs : List Int} (h : PlacesAt o w t b xs) (hl : xs.length ≤ 100000) (hn : xs.length = n + 1) (hi : DownInv xs n 0) :
    Calls Try.prog 73 #[.iface 98 (.pointer (some ⟨b, 0, none⟩)), .int .i64 0, .int .i64 n] w (DownPost o t b n xs w) := by
  go_enter Try.func73, Try.ntmps73
  go_wp2
  go_loopw [7] (fun j wr => ∃ (k : Nat) (ys : List Int), j = .int .i64 k ∧ k ≤ n ∧ ys.Perm xs ∧ PlacesAt o wr t b ys ∧ DownInv ys n k ∧ ys.getD n 0 = xs.getD n 0 ∧ Ext o o w wr (fun x => x = t)) (fun i _ => n - (intOf i).toNat)
  case atStart => exact ⟨0, xs, rfl, Nat.zero_le _, .refl _, h, hi, rfl, .refl _ _ _⟩
  case round =>
    obtain ⟨k, ys, rfl, hk, hp, hP, hu, hlast, hE⟩ := hrel
    have hyl : Hid (ys.length = n + 1) := hide (by rw [← hn]; exact hp.length_eq)
    have hn5 : n ≤ 100000 := by omega
    clear h hi hl
    replace hn := hide hn
    obtain ⟨v, hb, hs⟩ := hP
    obtain ⟨g, cap, cur, rfl, hg, hog, hcap, h1, hc⟩ := place_at hs (i := 0) (by have := hyl.out; omega)
    clear hg h1 hc
    replace hu := hide hu
    replace hlast := hide hlast
    replace hs := hide hs
    have hb' := hb.heap
    have nl := nil_less 269 ⟨b, 0, none⟩ wr
    have ml := m_less 269 hb'
    by_cases hbrk : n ≤ 2 * k + 1
    · go_wp2_with fail
      go_ret
      exact ⟨ys, _, rfl, ⟨_, hb, hs.out⟩, hp, downInv_done _ _ _ hu.out (fun q q0 q1 q2 => by omega), hlast.out, hE⟩
    · have x1 : Hid (2 * k + 1 < ys.length) := hide (by have := hyl.out; omega)
      have x2 : Hid (2 * k + 2 < n → 2 * k + 2 < ys.length) := hide (by have := hyl.out; omega)
      go_upto_region 6 with fail
      go_cut [33] (fun s wx => s = .bool (decide (2 * k + 2 < n ∧ ys.getD (2 * k + 2) 0 < ys.getD (2 * k + 1) 0)) ∧ ∃ m, wx = wr.drewN m)
      case first =>
        by_cases h2 : 2 * k + 2 < n
        · have hless := places_less hs.out (2 * k + 1 + 1) (2 * k + 1) (by omega) (by have := x2.out h2; omega) (by omega) (by have := x1.out; omega)
          rw [show (2 * (k : Int) + 1 + 1).toNat = 2 * k + 2 by omega, show (2 * (k : Int) + 1).toNat = 2 * k + 1 by omega] at hless
          replace hless := hide hless
          go_wp2_with fail
          refine hless.out.mono ?_
          rintro e w' ⟨rfl, n, rfl⟩
          clear hless
          generalize hle : decide (ys.getD (2 * k + 2) 0 < ys.getD (2 * k + 1) 0) = le
          replace hle := hide hle
          go_wp2_with fail
          go_meet
          case rel => exact ⟨by rw [← hle.out]; simp [h2], _, rfl⟩
        · go_wp2_with fail
          go_meet
          case rel => exact ⟨by rw [decide_eq_false (by omega)], 0, rfl⟩
      case rest =>
        obtain ⟨rfl, m, rfl⟩ := hcut
        generalize hle : decide (2 * k + 2 < n ∧ ys.getD (2 * k + 2) 0 < ys.getD (2 * k + 1) 0) = le
        replace hle := hide hle
        have hsd := hide (hs.out.drewN m)
        have hbd := hide (hb.drewN m)
        have hEd := hide (hE.drewN m)
        have hb1 := hbd.out.heap
        clear nl ml hb hs hE hb'
        generalize wr.drewN m = w2 at hsd hbd hEd hb1 ⊢
        go_upto_if 33 with fail
        go_cut [9] (fun s wx => (∃ c : Nat, s = .int .i64 c ∧ 0 < c ∧ (c - 1) / 2 = k ∧ c < n ∧ ∀ q, 0 < q → q < n → (q - 1) / 2 = k → ys.getD c 0 ≤ ys.getD q 0) ∧ wx = w2)
        case first =>
          cases le
          · have hd := of_decide_eq_false hle.out
            go_wp2_with fail
            go_meet
            case rel =>
              refine ⟨⟨2 * k + 1, by go_num, by omega, by omega, by omega, fun q q0 q1 q2 => ?_⟩, rfl⟩
              have : q = 2 * k + 1 ∨ q = 2 * k + 2 := by omega
              rcases this with rfl | rfl
              · exact Int.le_refl _
              · exact Int.not_lt.1 fun hx => hd ⟨q1, hx⟩
          · have hd := of_decide_eq_true hle.out
            obtain ⟨hd1, hd2⟩ := hd
            replace hd2 := hide hd2
            go_wp2_with fail
            go_meet
            case rel =>
              refine ⟨⟨2 * k + 2, by go_num, by omega, by omega, by omega, fun q q0 q1 q2 => ?_⟩, rfl⟩
              have : q = 2 * k + 1 ∨ q = 2 * k + 2 := by omega
              rcases this with rfl | rfl
              · exact Int.le_of_lt hd2.out
              · exact Int.le_refl _
        case rest =>
          obtain ⟨⟨c, rfl, hc0, hck, hcn, hbest⟩, rfl⟩ := hcut
          have nl := nil_less 269 ⟨b, 0, none⟩ wc
          have ml := m_less 269 hb1
          have hcl : c < ys.length := by have := hyl.out; omega
          have hkl : k < ys.length := by omega
          have hkc : k < c := by omega
          have hless := hide (places_less hsd.out c k (by omega) (by omega) (by omega) (by omega))
          simp only [Int.toNat_natCast] at hless
          replace hbest := hide hbest
          replace hck := hide hck
          clear x1 x2 hle
          go_wp2_with fail
          refine hless.out.mono ?_
          rintro e w' ⟨rfl, m, rfl⟩
          have hs2 := hide (hsd.out.drewN m)
          have hb2 := hide (hbd.out.drewN m)
          have hE2 := hide (hEd.out.drewN m)
          have hb1 := hb2.out.heap
          clear nl ml hless hsd hbd hEd
          generalize wc.drewN m = w3 at hs2 hb2 hE2 hb1 ⊢
          generalize hle : decide (ys.getD c 0 < ys.getD k 0) = le
          replace hle := hide hle
          cases le
          · go_wp2_with fail
            go_ret
            have hd := of_decide_eq_false hle.out
            exact ⟨ys, _, rfl, ⟨_, hb2.out, hs2.out⟩, hp, downInv_done _ _ _ hu.out (fun q q0 q1 q2 => Int.le_trans (Int.not_lt.1 hd) (hbest.out q q0 q1 q2)), hlast.out, hE2.out⟩
          · have nl := nil_swap 269 ⟨b, 0, none⟩ w3
            have ml := m_swap 269 hb1
            have hsw := hide (places_swap hs2.out k c hkl hcl)
            have hst := hide fun n => PlacesAt.swap hb2.out hs2.out k c n hkl hcl
            go_wp2_with fail
            refine hsw.out.mono ?_
            rintro e w' ⟨rfl, m, rfl⟩
            have hd := of_decide_eq_true hle.out
            obtain ⟨s1, s2, s3⟩ := hst.out m
            rw [← swapL_length ys k c] at s1
            clear hsw hst nl ml hs2 hb2 hb1
            generalize World.drewN _ m = w4 at s1 s2 s3 ⊢
            have hnew := downInv_step _ _ _ _ (by have := hyl.out; omega) hu.out hc0 hck.out hcn hd hbest.out
            have hl2 : (swapL ys k c).getD n 0 = xs.getD n 0 := by
              rw [swapL_getD _ _ _ _ hkl hcl, if_neg (by omega), if_neg (by omega)]
              exact hlast.out
            replace hnew := hide hnew
            replace hl2 := hide hl2
            clear hd hle
            go_wp2_with fail
            go_roundw
            case rel => exact ⟨c, swapL ys k c, by go_num, by omega, (swapL_perm _ _ _ hkl hcl).trans hp, ⟨_, s1, by rw [swapL_length]; exact s2⟩, hnew.out, hl2.out, hE2.out.trans s3⟩
            case measure => simp [intOf]; omega
end Go.Proofs.Ytcoaemjoanbemaa

namespace Go.Proofs.Ytcoaemjoanbemaa
open Go.RowKit

/-- What Push comes to. -/
def PushPost (o : Nat → Nat) (t b : Nat) (xs : List Int) (x : Int) (w : World) (e : Ending) (w' : World) : Prop :=
  ∃ o' ys, e = .returned (.tuple #[]) ∧ PlacesAt o' w' t b ys ∧ ys.Perm (xs ++ [x]) ∧ IsHeap ys ∧ Ext o o' w w' (fun x => x = t)
/-- What Pop comes to: the least of them. -/
def PopPost (o : Nat → Nat) (t b : Nat) (xs : List Int) (w : World) (e : Ending) (w' : World) : Prop :=
  ∃ ys m, e = .returned (.iface 3 (.int .i64 m)) ∧ PlacesAt o w' t b ys ∧ (ys ++ [m]).Perm xs ∧ (∀ x ∈ xs, m ≤ x) ∧ IsHeap ys ∧ Ext o o w w' (fun x => x = t)

set_option maxRecDepth 100000 in
set_option maxHeartbeats 800000 in
theorem heap_push {o : Nat → Nat} {w : World} {t b : Nat} {xs : List Int} (h : PlacesAt o w t b xs) (hl : xs.length < 100000) (hh : IsHeap xs) (x : Int) :
    Calls Try.prog 49 #[.iface 98 (.pointer (some ⟨b, 0, none⟩)), .iface 3 (.int .i64 x)] w (PushPost o t b xs x w) := by
  have n1 := nil_push 269 ⟨b, 0, none⟩ w
  have m1 := m_push 269 ⟨b, 0, none⟩ w
  go_enter Try.func49, Try.ntmps49
  go_wp2_with fail
  refine (places_push h (by omega) x).mono ?_
  rintro e w1 ⟨o1, rfl, h1, e1⟩
  have hlen : Hid ((xs ++ [x]).length = xs.length + 1) := hide (by simp)
  have h1' := h1
  obtain ⟨v, hb, hs⟩ := h1'
  obtain ⟨a, c, rfl⟩ := hs.value
  have hb1 := hb.heap
  clear hb hs n1 m1
  rw [hlen.out] at hb1
  have hup := hide (heap_up h1 (j := xs.length) (by have := hlen.out; omega) (by have := hlen.out; omega) (upInv_snoc _ _ hh))
  have n2 := nil_len 269 ⟨b, 0, none⟩ w1
  have m2 := m_len 269 hb1
  have hl5 : xs.length < 100000 := hl
  clear h hh hl
  replace h1 := hide h1
  go_wp2_with fail
  go_at_call 50
  refine (places_len _ _ _ _).mono ?_
  rintro e w2 ⟨rfl, rfl⟩
  clear n2 m2 hb1
  go_wp2_with fail
  refine hup.out.mono ?_
  rintro e w2 ⟨ys, rfl, h2, hp, hheap, e2⟩
  go_wp2
  go_end0
  exact ⟨o1, ys, rfl, h2, hp, hheap, e1.trans e2⟩

set_option maxRecDepth 100000 in
set_option maxHeartbeats 800000 in
theorem heap_pop {o : Nat → Nat} {w : World} {t b n : Nat} {xs : List Int} (h : PlacesAt o w t b xs) (hl : xs.length ≤ 100000) (hn : xs.length = n + 1) (hh : IsHeap xs) :
    Calls Try.prog 51 #[.iface 98 (.pointer (some ⟨b, 0, none⟩))] w (PopPost o t b xs w) := by
  have h1' := h
  obtain ⟨v, hb, hs⟩ := h1'
  obtain ⟨g, c, cur, rfl, hg, hog, hcap, _⟩ := place_at hs (i := 0) (by omega)
  have hb1 := hb.heap
  rw [hn] at hb1
  have n1 := nil_len 269 ⟨b, 0, none⟩ w
  have m1 := m_len 269 hb1
  have n2 := nil_swap 269 ⟨b, 0, none⟩ w
  have m2 := m_swap 269 hb1
  have hn5 : n < 100000 := by omega
  clear hl
  go_enter Try.func51, Try.ntmps51
  have hs0 := hide (places_swap hs 0 n (by omega) (by omega))
  have hst := hide fun m => PlacesAt.swap hb hs 0 n m (by omega) (by omega)
  have hmin := hide (heap_min _ hh)
  have hdn := hide (downInv_start _ _ hn hh)
  have hper := hide (swapL_perm xs 0 n (by omega) (by omega))
  have hlast : Hid ((swapL xs 0 n).getD n 0 = xs.getD 0 0) := hide (by rw [swapL_getD _ _ _ _ (by omega) (by omega), if_pos rfl])
  have hsl : Hid ((swapL xs 0 n).length = n + 1) := hide (by rw [swapL_length, hn])
  rw [hn] at hs0
  replace hn := hide hn
  clear h hb hs hg hh hcap hog
  go_wp2_with fail
  refine (places_len _ _ _ _).mono ?_
  rintro e w2 ⟨rfl, rfl⟩
  go_wp2_with fail
  refine hs0.out.mono ?_
  rintro e w2 ⟨rfl, m, rfl⟩
  obtain ⟨s1, s2, s3⟩ := hst.out m
  rw [← swapL_length xs 0 n] at s1 s2
  have P1 : PlacesAt o _ t b (swapL xs 0 n) := ⟨_, s1, s2⟩
  have hdown := hide (heap_down P1 (by have := hsl.out; omega) hsl.out hdn.out)
  clear s1 s2 n1 m1 n2 m2 hb1 hst hs0 P1
  generalize World.drewN _ m = w4 at s3 hdown ⊢
  replace s3 := hide s3
  go_wp2_with fail
  refine hdown.out.mono ?_
  rintro e w5 ⟨ys, bo, rfl, h5, hp5, hh5, hl5, e5⟩
  have hyl : ys.length = n + 1 := by rw [hp5.length_eq]; exact hsl.out
  have hsplit := take_last ys n hyl
  rw [hl5, hlast.out] at hsplit
  have hpop := h5
  rw [hsplit] at hpop
  have hc := hide (places_pop hpop (by rw [List.length_take]; omega))
  have hfin := hide (heap_take ys n hyl hh5)
  have hperm : Hid ((ys.take n ++ [xs.getD 0 0]).Perm xs) := hide (by rw [← hsplit]; exact hp5.trans hper.out)
  have hEE := hide (s3.out.trans e5)
  have n3 := nil_pop 269 ⟨b, 0, none⟩ w5
  have m3 := m_pop 269 ⟨b, 0, none⟩ w5
  clear hpop h5 hp5 hh5 hl5 hsplit hyl e5 s3 hdown
  go_wp2_with fail
  refine hc.out.mono ?_
  rintro e w6 ⟨rfl, h6, e6⟩
  go_wp2
  go_ret
  refine ⟨_, _, rfl, h6, hperm.out, fun x hx => ?_, hfin.out, hEE.out.trans e6⟩
  obtain ⟨i, hi, rfl⟩ := List.getElem_of_mem hx
  have := hmin.out i hi
  simpa [hi] using this
end Go.Proofs.Ytcoaemjoanbemaa
