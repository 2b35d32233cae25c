/- A row that may be longer than its slice's room: 'xs[:k:k]', and append onto it. No condition. -/
import Derived.Test.YtcoaemjoanbemaaRj
import Derived.Test.YtcoaemjoanbemaaHh
namespace Go.Proofs.Ytcoaemjoanbemaa
open Go.RowKit

def SxAt (o : Nat → Nat) (w : World) (t : Nat) (T : TypeId) (k : Nat) (v : Value) (n : Nat) (cs : List Value) : Prop :=
  cs.length = n * k ∧ ((v = .slice none 0 0 ∧ n = 0) ∨
    ∃ g cap cur, v = .slice (some ⟨g, 0, none⟩) n cap ∧ blk w g = some (.cells cur T (0, 0)) ∧ o g = t ∧ n ≤ cap ∧ cap ≤ maxLen ∧ cap * k ≤ cur.size ∧ cur.toList.take (n * k) = cs)
section
variable {o o' : Nat → Nat} {w w' : World} {S : Nat → Prop} {t : Nat} {T : TypeId} {k : Nat} {v : Value} {n : Nat} {cs : List Value}
theorem SxAt.of_sl (h : SlAt o w t T k v n cs) : SxAt o w t T k v n cs := by
  refine ⟨h.1, ?_⟩
  rcases h.2 with hn | ⟨g, cap, cur, hv, hg, hog, h1, h2, h3, h4⟩
  · exact .inl hn
  · exact .inr ⟨g, cap, cur, hv, hg, hog, h1, h2, Nat.le_of_eq h3.symm, h4⟩
theorem SxAt.nil (o : Nat → Nat) (w : World) (t : Nat) (T : TypeId) (k : Nat) : SxAt o w t T k (.slice none 0 0) 0 [] := ⟨by simp, .inl ⟨rfl, rfl⟩⟩
theorem SxAt.ext (h : SxAt o w t T k v n cs) (e : Ext o o' w w' S) (hs : ¬ S t) : SxAt o' w' t T k v n cs := by
  refine ⟨h.1, ?_⟩
  rcases h.2 with hn | ⟨g, cap, cur, hv, hg, hog, h1, h2, h3, h4⟩
  · exact .inl hn
  · exact .inr ⟨g, cap, cur, hv, e.keep hg (by rw [hog]; exact hs), e.tag hg hog, h1, h2, h3, h4⟩
theorem SxAt.alloc (h : SxAt o w t T k v n cs) (x : Obj) : SxAt o (w.alloc x) t T k v n cs := h.ext ((Ext.refl _ _ (fun _ => False)).alloc x) id
theorem SxAt.kp {M : Nat → Prop} (h : SxAt o w t T k v n cs) (e : Kp M o o' w w') (hm : M t) : SxAt o' w' t T k v n cs := by
  refine ⟨h.1, ?_⟩
  rcases h.2 with hn | ⟨g, cap, cur, hv, hg, hog, h1, h2, h3, h4⟩
  · exact .inl hn
  · obtain ⟨h5, h6⟩ := e.kp g (lt_of_blk hg) (by rw [hog]; exact hm)
    exact .inr ⟨g, cap, cur, hv, h6.trans hg, h5.trans hog, h1, h2, h3, h4⟩
theorem SxAt.le (h : SxAt o w t T k v n cs) : n ≤ maxLen := by
  rcases h.2 with ⟨_, rfl⟩ | ⟨g, cap, cur, hv, hg, hog, h1, h2, h3, h4⟩
  · exact Nat.zero_le _
  · exact Nat.le_trans h1 h2
theorem SxAt.value (h : SxAt o w t T k v n cs) : ∃ a c, v = .slice a n c := by
  rcases h.2 with ⟨rfl, rfl⟩ | ⟨g, cap, cur, hv, _⟩
  · exact ⟨_, _, rfl⟩
  · exact ⟨_, _, hv⟩
theorem SxAt.row (h : SxAt o w t T k v n cs) (hn : 0 < n) : ∃ g cap cur, v = .slice (some ⟨g, 0, none⟩) n cap ∧ blk w g = some (.cells cur T (0, 0)) ∧ o g = t ∧ n ≤ cap ∧ cap ≤ maxLen ∧ cap * k ≤ cur.size ∧ cur.toList.take (n * k) = cs := by
  rcases h.2 with ⟨_, rfl⟩ | h
  · omega
  · exact h
/-- xs[:j:j]. -/
theorem SxAt.cut {g cap j : Nat} (h : SxAt o w t T k (.slice (some ⟨g, 0, none⟩) n cap) n cs) (hj : j ≤ n) : SxAt o w t T k (.slice (some ⟨g, 0, none⟩) j j) j (cs.take (j * k)) := by
  have hjk : j * k ≤ n * k := Nat.mul_le_mul_right _ hj
  refine ⟨by rw [List.length_take, h.1]; exact Nat.min_eq_left hjk, ?_⟩
  rcases h.2 with ⟨h0, _⟩ | ⟨g', cap', cur, hv, hg, hog, h1, h2, h3, h4⟩
  · cases h0
  · simp at hv
    obtain ⟨rfl, rfl⟩ := hv
    refine .inr ⟨g, j, cur, rfl, hg, hog, Nat.le_refl _, by omega, Nat.le_trans (Nat.mul_le_mul_right _ (Nat.le_trans hj h1)) h3, ?_⟩
    rw [← h4, List.take_take, Nat.min_eq_left hjk]
end
section
variable {P : Program} {w : World}
/-- What append comes to. -/
theorem run_append_sx {o : Nat → Nat} {tg : Nat} (t ty e : TypeId) (i : TypeInfo) (z : Value) (size bytes : Nat) (ht : P.underlying t = some (.slice e)) (hi : P.info? e = some i) (hz : i.zero = some z)
    (hsize : i.size = size) (hby : i.bytes = bytes) (hzs : z.cells.size = size) (_hsz : 0 < size)
    (v : Value) (n : Nat) (xs : List Value) (hown : SxAt o w tg e size v n xs)
    (a : Addr) (m c : Nat) (news : List Value) (hl : news.length = m * size) (hnews : ∀ j u, news[j]? = some u → w.cell? (a.add j) = some u) (h1 : ∀ u ∈ news, u.oneCell' = true)
    (h63 : n + m ≤ maxLen) (hbytes : (n + m) * bytes ≤ 140737488355328) :
    ∃ v' w' o', (Builtin.append_ #[t, t] ty #[v, .slice (some a) m c]).run P w = .ok v' w' ∧ SxAt o' w' tg e size v' (n + m) (xs ++ news) ∧ Ext o o' w w' (fun x => x = tg) := by
  subst hsize
  subst hby
  have hsmall : n + m ≤ 9223372036854775807 := by simp only [maxLen] at h63; omega
  have hlen : (xs ++ news).length = (n + m) * i.size := by rw [List.length_append, hown.1, hl, Nat.add_mul]
  have grown : ∀ (old : Nat), old < n + m →
      SxAt (upd o w.heap.size tg) (w.drew.alloc (.cells (xs.toArray ++ news.toArray ++ Builtin.zeroCells z.cells (grownCap w (n + m) old e - (n + m))) e)) tg e i.size
        (.slice (some ⟨w.heap.size, 0, none⟩) (n + m) (grownCap w (n + m) old e)) (n + m) (xs ++ news) ∧
      Ext o (upd o w.heap.size tg) w (w.drew.alloc (.cells (xs.toArray ++ news.toArray ++ Builtin.zeroCells z.cells (grownCap w (n + m) old e - (n + m))) e)) (fun x => x = tg) := by
    intro old ho
    have hge := grownCap_ge w (n + m) old e
    have hcm : grownCap w (n + m) old e ≤ maxLen := grownCap_le_maxLen w (n + m) old e h63
    refine ⟨⟨hlen, .inr ⟨w.heap.size, _, _, rfl, heap_alloc_new w.drew _, upd_new (Nat.le_refl _), hge, hcm, ?_, ?_⟩⟩, (((Ext.refl o w _).retag tg).drew).alloc _⟩
    · apply Nat.le_of_eq
      simp only [Array.size_append, List.size_toArray, size_zeroCells, hzs, hown.1, hl, ← Nat.add_mul]
      congr 1
      omega
    · simp only [Array.toList_append, List.append_assoc]
      rw [← List.append_assoc, ← hlen]
      exact List.take_left
  rcases hown.2 with ⟨rfl, rfl⟩ | ⟨g, cap, cur, rfl, hg, hog, hnc, hcm, hcs, htake⟩
  · have hx : xs = [] := List.eq_nil_of_length_eq_zero (by simpa using hown.1)
    subst hx
    by_cases hm : m = 0
    · subst hm
      have hn : news = [] := List.eq_nil_of_length_eq_zero (by simpa using hl)
      subst hn
      refine ⟨.slice none 0 0, w, o, ?_, SxAt.nil o w tg e i.size, Ext.refl _ _ _⟩
      simp [Builtin.append_, run_underlying ht, sizeOf, typeInfo, hi, Builtin.lenOf, Builtin.firstCells, loadCells, loadCellsFrom]
    · have hr := run_append_nil (P := P) w t ty e i z ht hi hz a m c news hl hnews (by omega) (by omega) (by have hb := hbytes; simp only [Nat.zero_add] at hb; omega)
      have hgr := grown 0 (by omega)
      simp only [Nat.zero_add, List.nil_append, Array.empty_append] at hgr ⊢
      exact ⟨_, _, _, hr, hgr.1, hgr.2⟩
  · by_cases hroom : n + m ≤ cap
    · have hfit : n * i.size + news.length ≤ cur.size := by rw [hl, ← Nat.add_mul]; exact Nat.le_trans (Nat.mul_le_mul_right _ hroom) hcs
      have hr := run_append_room (P := P) w t ty e i ht hi g n cap cur hg a m c news hl hnews h1 hroom hfit
      refine ⟨_, _, o, hr, ⟨hlen, .inr ⟨g, cap, _, rfl, setRow_heap w g cur _ e _ hg, hog, hroom, hcm, ?_, ?_⟩⟩, (Ext.refl o w _).row _ (.inl hog)⟩
      · simp only [List.size_toArray, List.length_append, List.length_take, List.length_drop, Array.length_toList]
        omega
      · rw [htake, ← hlen]
        exact List.take_left
    · have holds : ∀ j u, xs[j]? = some u → w.cell? ((⟨g, 0, none⟩ : Addr).add j) = some u := fun j u hj => by
        have hadd : (⟨g, 0, none⟩ : Addr).add j = ⟨g, j, none⟩ := by unfold Addr.add; split <;> simp_all
        rw [hadd, cellq, hg]
        exact cur_at htake hj
      have hr := run_append_grow (P := P) w t ty e i z ht hi hz ⟨g, 0, none⟩ n cap xs hown.1 holds a m c news hl hnews (by omega) (by omega) (growslice_fits (by omega) hbytes)
      have hgr := grown cap (by omega)
      exact ⟨_, _, _, hr, hgr.1, hgr.2⟩

theorem wpList_append_sx {o : Nat → Nat} {tg : Nat} {ops : Array Oper} {rest : List Oper} {op : Oper} {a : Act} {Q : Exit → Act → World → Prop} (hgd : op.guard = none) (s x : Operand) (t : TypeId)
    (ho : op.op = .call { callee := .builtin .append, args := #[s, x], argTypes := #[t, t] })
    (e : TypeId) (i : TypeInfo) (z : Value) (size bytes : Nat) (ht : P.underlying t = some (.slice e)) (hi : P.info? e = some i) (hz : i.zero = some z)
    (hsize : i.size = size) (hby : i.bytes = bytes) (hzs : z.cells.size = size) (hsz : 0 < size)
    (v : Value) (n : Nat) (xs : List Value) (hs : a.eval s = v) (hown : SxAt o w tg e size v n xs)
    (ad : Addr) (m c : Nat) (news : List Value) (hx : a.eval x = .slice (some ad) m c) (hl : news.length = m * size) (hnews : ∀ j u, news[j]? = some u → w.cell? (ad.add j) = some u) (h1 : ∀ u ∈ news, u.oneCell' = true)
    (h63 : n + m ≤ maxLen) (hbytes : (n + m) * bytes ≤ 140737488355328)
    (h : ∀ v' w' o', SxAt o' w' tg e size v' (n + m) (xs ++ news) → Ext o o' w w' (fun x => x = tg) → wpList P ops Q rest (a.put op.dst v') w') :
    wpList P ops Q (op :: rest) a w := by
  refine wpList_plain hgd fun K hK => ?_
  obtain ⟨v', w', o', hr, h2, h3⟩ := run_append_sx (P := P) t op.type e i z size bytes ht hi hz hsize hby hzs hsz v n xs hown ad m c news hl hnews h1 h63 hbytes
  unfold Oper.wp execOp
  simp only [ho, resolve, invoke, builtin, Sem.run_bind, Sem.run_pure, Result.andThen_ok, List.map_toArray, List.map_cons, List.map_nil, hs, hx, hr]
  exact hK _ _ (h v' w' o' h2 h3)
end
/-- append(xs, ys...), handles, ys wherever it lies. -/
theorem sx_handle {w : World} {o : Nat → Nat} {tg : Nat} {ops : Array Oper} {rest : List Oper} {op : Oper} {a : Act} {Q : Exit → Act → World → Prop} (hgd : op.guard = none) (s x : Operand)
    (ho : op.op = .call { callee := .builtin .append, args := #[s, x], argTypes := #[28, 28] })
    (v : Value) (n : Nat) (xs : List Value) (hs : a.eval s = v) (hown : SxAt o w tg 31 1 v n xs) (ad : Addr) (m c : Nat) (news : List Value) (hx : a.eval x = .slice (some ad) m c) (hl : news.length = m)
    (hnews : ∀ j u, news[j]? = some u → w.cell? (ad.add j) = some u) (h1 : ∀ u ∈ news, u.oneCell' = true) (hb : n + m ≤ 1073741824)
    (h : ∀ v' w' o', SxAt o' w' tg 31 1 v' (n + m) (xs ++ news) → Ext o o' w w' (fun x => x = tg) → wpList Try.prog ops Q rest (a.put op.dst v') w') :
    wpList Try.prog ops Q (op :: rest) a w := by
  obtain ⟨i0, hi, hz0, hz1, hz2⟩ := info_parts info_handle
  exact wpList_append_sx hgd s x 28 ho 31 i0 (.int .u64 0) 1 8 Try.underlying28 hi hz0 hz1 hz2 rfl (by decide) v n xs hs hown ad m c news hx (by omega) hnews h1 (by simp only [maxLen]; omega) (by omega) h
/-- append(xs, x), handles. -/
theorem sx_push {w : World} {o : Nat → Nat} {tg : Nat} {ops : Array Oper} {rest : List Oper} {op : Oper} {a : Act} {Q : Exit → Act → World → Prop} (hgd : op.guard = none) (s x : Operand)
    (ho : op.op = .call { callee := .builtin .append, args := #[s, x], argTypes := #[28, 28] })
    (v : Value) (n : Nat) (xs : List Value) (hs : a.eval s = v) (hown : SxAt o w tg 31 1 v n xs) (g c : Nat) (u : Value) (hx : a.eval x = .slice (some ⟨g, 0, none⟩) 1 c)
    (hg : blk w g = some (.cells #[u] 31 (0, 0))) (h1 : u.oneCell' = true) (hb : n + 1 ≤ 1073741824)
    (h : ∀ v' w' o', SxAt o' w' tg 31 1 v' (n + 1) (xs ++ [u]) → Ext o o' w w' (fun x => x = tg) → wpList Try.prog ops Q rest (a.put op.dst v') w') :
    wpList Try.prog ops Q (op :: rest) a w := by
  refine sx_handle hgd s x ho v n xs hs hown ⟨g, 0, none⟩ 1 c [u] hx rfl (fun j u' hj => ?_) (fun u' hu => by simp at hu; subst hu; exact h1) hb h
  have hadd : (⟨g, 0, none⟩ : Addr).add j = ⟨g, j, none⟩ := by unfold Addr.add; split <;> simp_all
  rw [hadd, cellq, hg]
  match j, hj with
  | 0, hj => simp at hj; subst hj; rfl
  | j + 1, hj => simp at hj
theorem handle_size (w : World) : (sizeOf (Try.prog.elem 28)).run Try.prog w = .ok 1 w := by kernel_rfl
theorem handles_elem : Try.prog.underlying 28 = some (.slice (Try.prog.elem 28)) := by kernel_rfl
theorem addr_add (g off i : Nat) : (⟨g, off, none⟩ : Addr).add i = ⟨g, off + i, none⟩ := by unfold Addr.add; split <;> simp_all
theorem slice_cut (g n cap j : Nat) (w : World) (h : j ≤ cap) :
    (Instr.slice 28 (.slice (some ⟨g, 0, none⟩) n cap) none (some (.int .i64 j)) (some (.int .i64 j))).run Try.prog w = .ok (.slice (some ⟨g, 0, none⟩) j j) w := by
  rw [run_slice_hm w _ _ _ _ handles_elem .i64 .i64 j j (by omega) (Int.le_refl _) (by omega), handle_size]
  simp only [Result.andThen, sliced, Int.toNat_natCast, Nat.sub_zero, Option.map, Nat.zero_mul, addr_add, Nat.add_zero]
  split <;> rfl
/-- Where 'xs[j + 1:]' begins. -/
def restA (g cap j : Nat) : Addr := if cap = j + 1 then ⟨g, 0, none⟩ else ⟨g, j + 1, none⟩
theorem slice_rest (g n cap j : Nat) (w : World) (h : j + 1 ≤ n) :
    (Instr.slice 28 (.slice (some ⟨g, 0, none⟩) n cap) (some (.int .i64 ((j : Int) + 1))) none none).run Try.prog w = .ok (.slice (some (restA g cap j)) (n - (j + 1)) (cap - (j + 1))) w := by
  rw [run_slice_l w _ _ _ _ handles_elem .i64 ((j : Int) + 1) (by omega) (by omega), handle_size]
  simp only [Result.andThen, sliced, show ((j : Int) + 1).toNat = j + 1 by omega, Option.map, Nat.mul_one, addr_add, Nat.zero_add, restA]
  split <;> rfl
theorem restA_at {w : World} {g cap n j : Nat} {cur : Array Value} {T : TypeId} {cs : List Value} (hg : blk w g = some (.cells cur T (0, 0))) (hn : n ≤ cap) (hc : ∀ (i : Nat) (u : Value), cs[i]? = some u → cur[i]? = some u) (hl : cs.length = n) :
    ∀ (i : Nat) (u : Value), (cs.drop (j + 1))[i]? = some u → w.cell? ((restA g cap j).add i) = some u := fun i u hu => by
  rw [List.getElem?_drop] at hu
  have hlt := (List.getElem?_eq_some_iff.1 hu).1
  unfold restA
  rw [if_neg (by omega), addr_add, cellq, hg]
  exact hc _ _ hu
/-- The object. -/
def SxK (T : TypeId) (k : Nat) (v : Value) (n : Nat) (cs : List Value) : KObj where
  holds o w t := SxAt o w (16 * t) T k v n cs
  keep e hs h := h.kp e (by simpa using hs 0 (by decide))
section
variable {l : List KObj} {w : World} {t : Nat} {T : TypeId} {v : Value} {n : Nat}
theorem R.sxVal {cs : List Value} {k : Nat} (h : R l w) (ht : l[t]? = some (SxK T k v n cs)) : (∃ a c, v = .slice a n c) ∧ cs.length = n * k ∧ n ≤ 9223372036854775807 := by
  obtain ⟨o, _, hs⟩ := h.get ht
  have hs : SxAt o w (16 * t) T k v n cs := hs
  have := hs.le
  simp only [maxLen] at this
  exact ⟨hs.value, hs.1, by omega⟩
/-- What the walk reads of a row of numbers. -/
theorem R.sxRow {q : IntKind} {xs : List Int} (h : R l w) (ht : l[t]? = some (SxK T 1 v n (xs.map (Value.int q)))) {i : Nat} (hi : i < n) :
    ∃ g cap cur, v = .slice (some ⟨g, 0, none⟩) n cap ∧ blk w g = some (.cells cur T (0, 0)) ∧ n ≤ cap ∧ cap ≤ 9223372036854775807 ∧ ∀ j, j < n → cur[j]? = some (.int q (xs.getD j 0)) := by
  obtain ⟨o, _, hs⟩ := h.get ht
  have hs : SxAt o w (16 * t) T 1 v n (xs.map (Value.int q)) := hs
  have hlen : xs.length = n := by have := hs.1; simpa using this
  obtain ⟨g, cap, cur, hv, hg, _, h1, h2, _, h4⟩ := hs.row (by omega)
  refine ⟨g, cap, cur, hv, hg, h1, by simp only [maxLen] at h2; omega, fun j hj => cur_at h4 ?_⟩
  simp [hlen, hj]
theorem R.sxNil (h : R l w) (T : TypeId) (k : Nat) : R (l ++ [SxK T k (.slice none 0 0) 0 []]) w := by
  obtain ⟨o, hr⟩ := h.slnil T k
  refine ⟨o, fun u p hu => ?_⟩
  by_cases hul : u < l.length
  · exact hr u p (by rw [List.getElem?_append_left hul] at hu ⊢; exact hu)
  · rw [List.getElem?_append_right (by omega)] at hu
    obtain ⟨i, rfl⟩ : ∃ i, u = l.length + i := ⟨u - l.length, by omega⟩
    rw [Nat.add_sub_cancel_left] at hu
    match i, hu with
    | 0, hu => simp at hu; subst hu; exact SxAt.nil _ _ _ _ _
    | i + 1, hu => simp at hu
end
end Go.Proofs.Ytcoaemjoanbemaa
