/- The document's answer of layer 5: has, handles, chain, Now, Chain, Reach. Condition: its rows are there. The document's answer of layer 5: chain. Condition: its rows are there, and are the arena's. The document's answer of layer 5: Now, Chain, Reach. Condition: its rows are there. The document's answer of layer 5: Chain, Reach. Condition: its rows are there, and are the arena's. The document's answer of layer 5: New. Condition: none. append as a step of a region that draws, over a list of objects. No condition. -/
import Derived.Test.YtcoaemjoanbemaaXa
import Derived.Test.YtcoaemjoanbemaaCh
namespace Go.Proofs.Ytcoaemjoanbemaa
open Go.RowKit

/-- A row of numbers that can be read. -/
def Rd (T : TypeId) (w : World) (v : Value) (xs : List Int) : Prop :=
  ∃ a c, v = .slice a xs.length c ∧ xs.length ≤ 9223372036854775807 ∧ (xs = [] ∨ ∃ g cur, a = some ⟨g, 0, none⟩ ∧ blk w g = some (.cells cur T (0, 0)) ∧ ∀ j, j < xs.length → cur[j]? = some (.int .u64 (xs.getD j 0)))
section
variable {l : List KObj} {w : World} {t n : Nat} {T : TypeId} {v : Value} {xs : List Int}
theorem Rd.sx (h : R l w) (ht : l[t]? = some (SxK T 1 v n (xs.map (Value.int .u64)))) : Rd T w v xs := by
  obtain ⟨⟨a, c, rfl⟩, hl, hb⟩ := h.sxVal ht
  simp at hl
  subst hl
  refine ⟨a, c, rfl, hb, ?_⟩
  by_cases h0 : xs = []
  · exact .inl h0
  · have hp : 0 < xs.length := List.length_pos_iff.2 h0
    obtain ⟨g, cap, cur, hv, hg, _, _, _⟩ := h.sxRow ht hp
    simp at hv
    obtain ⟨rfl, rfl⟩ := hv
    refine .inr ⟨g, cur, rfl, hg, fun j hj => ?_⟩
    obtain ⟨g2, cap2, cur2, hv2, hg2, _, _, hc2⟩ := h.sxRow ht hj
    simp at hv2
    obtain ⟨rfl, rfl⟩ := hv2
    rw [hg] at hg2
    simp at hg2
    subst hg2
    exact hc2 j hj
theorem Rd.sl (h : R l w) (ht : l[t]? = some (SlK T 1 v n (xs.map (Value.int .u64)))) : Rd T w v xs := by
  obtain ⟨⟨a, c, rfl⟩, hl, hb⟩ := h.slVal ht
  simp at hl
  subst hl
  refine ⟨a, c, rfl, hb, ?_⟩
  by_cases h0 : xs = []
  · exact .inl h0
  · have hp : 0 < xs.length := List.length_pos_iff.2 h0
    obtain ⟨g, cap, cur, hv, hg, _, _, _⟩ := h.intRow ht hp
    simp at hv
    obtain ⟨rfl, rfl⟩ := hv
    refine .inr ⟨g, cur, rfl, hg, fun j hj => ?_⟩
    obtain ⟨g2, cap2, cur2, hv2, hg2, _, _, hc2⟩ := h.intRow ht hj
    simp at hv2
    obtain ⟨rfl, rfl⟩ := hv2
    rw [hg] at hg2
    simp at hg2
    subst hg2
    exact hc2
theorem Rd.nil (T : TypeId) (w : World) : Rd T w (.slice none 0 0) [] := ⟨none, 0, rfl, Nat.zero_le _, .inl rfl⟩
theorem Rd.at_ (h : Rd T w v xs) {i : Nat} (hi : i < xs.length) : ∃ g c cur, v = .slice (some ⟨g, 0, none⟩) xs.length c ∧ blk w g = some (.cells cur T (0, 0)) ∧ cur[i]? = some (.int .u64 (xs.getD i 0)) := by
  obtain ⟨a, c, rfl, _, h0 | ⟨g, cur, rfl, hg, hc⟩⟩ := h
  · subst h0; simp at hi
  · exact ⟨g, c, cur, rfl, hg, hc i hi⟩
end

theorem ref05_has {w : World} {v : Value} {xs : List Int} (h : Rd 30 w v xs) (x : Int) :
    Calls Try.prog 82 #[v, .int .u64 x] w fun e w' => e = .returned (.bool (decide (x ∈ xs))) ∧ w = w' := by
  obtain ⟨a, c, rfl, hlen, _⟩ := id h
  replace h := hide h
  go_enter Try.func82, Try.ntmps82
  go_wp2_with fail
  go_loopw [5] (fun i wr => ∃ k : Nat, k ≤ xs.length ∧ i = .int .i64 k ∧ Hid (∀ j, j < k → xs.getD j 0 ≠ x) ∧ wr = w) (fun i _ => xs.length - (intOf i).toNat)
  case atStart => exact ⟨0, Nat.zero_le _, rfl, fun j hj => absurd hj (Nat.not_lt_zero _), rfl⟩
  case round =>
    obtain ⟨k, hk, rfl, hno, rfl⟩ := hrel
    by_cases hlt : k < xs.length
    · obtain ⟨g, c2, cur, hv, hg, hc⟩ := h.out.at_ hlt
      simp at hv
      obtain ⟨rfl, rfl⟩ := hv
      by_cases hx : xs.getD k 0 = x
      · rw [hx] at hc
        have hm : x ∈ xs := by
          rw [← hx, show xs.getD k 0 = xs[k] by simp [hlt]]
          exact List.getElem_mem _
        replace hm := hide hm
        clear hx
        go_wp2
        go_ret
        exact ⟨by rw [decide_eq_true hm.out]; rfl, rfl⟩
      · have hne : (xs.getD k 0 == x) = false := by simpa using hx
        replace hx := hide hx
        generalize hy : xs.getD k 0 = y at *
        replace hy := hide hy
        go_wp2_with fail
        refine ⟨⟨k + 1, by omega, by go_num, fun j hj => ?_, trivial⟩, by simp [intOf]; omega⟩
        by_cases hjk : j = k
        · subst hjk; rw [hy.out]; exact hx.out
        · exact hno.out j (by omega)
    · obtain rfl : k = xs.length := by omega
      have hm : x ∉ xs := fun hm => by
        obtain ⟨j, hj, rfl⟩ := List.getElem_of_mem hm
        exact hno.out j hj (by simp [hj])
      replace hm := hide hm
      go_wp2
      go_ret
      exact ⟨by rw [decide_eq_false hm.out]; rfl, rfl⟩

theorem law05_handles {w : World} {v v2 : Value} {xs : List Int} (h : Rd 31 w v xs) (h2 : Rd 30 w v2 xs) :
    Calls Try.prog 26 #[v, v2] w fun e w' => e = .returned (.bool true) ∧ ∃ n, w' = w.drewN n := by
  obtain ⟨a, c, rfl, hlen, _⟩ := id h
  obtain ⟨a2, c2, rfl, _, _⟩ := id h2
  replace h := hide h
  replace h2 := hide h2
  go_enter Try.func26, Try.ntmps26
  go_wp2_with fail
  go_loopw [13] (fun i wr => ∃ k : Nat, k ≤ xs.length ∧ i = .int .i64 k ∧ ∃ n, wr = w.drewN n) (fun i _ => xs.length - (intOf i).toNat)
  case atStart => exact ⟨0, Nat.zero_le _, rfl, 0, rfl⟩
  case round =>
    obtain ⟨k, hk, rfl, m, rfl⟩ := hrel
    by_cases hlt : k < xs.length
    · obtain ⟨g, c3, cur, hv, hg, hc⟩ := h.out.at_ hlt
      obtain ⟨g2, c4, cur2, hv2, hg2, hc2⟩ := h2.out.at_ hlt
      simp at hv hv2
      obtain ⟨rfl, rfl⟩ := hv
      obtain ⟨rfl, rfl⟩ := hv2
      generalize xs.getD k 0 = y at *
      go_wp2_with fail
      go_quiet (fail)
      go_wp2_with fail
      exact ⟨⟨k + 1, by omega, by go_num, _, rfl⟩, by simp [intOf]; omega⟩
    · obtain rfl : k = xs.length := by omega
      go_wp2
      go_ret
      exact ⟨rfl, _, rfl⟩
end Go.Proofs.Ytcoaemjoanbemaa

namespace Go.Proofs.Ytcoaemjoanbemaa
open Go.RowKit

theorem info_u64 : (Try.prog.info? 30).map (fun i => (i.zero, i.size, i.bytes)) = some (some (.int .u64 0), 1, 8) := by kernel_rfl
/-- append(xs, x), elements of type u64. -/
theorem push_u64 {w : World} {o : Nat → Nat} {tg : Nat} {ops : Array Oper} {rest : List Oper} {op : Oper} {a : Act} {Q : Exit → Act → World → Prop} (hgd : op.guard = none) (s x : Operand)
    (ho : op.op = .call { callee := .builtin .append, args := #[s, x], argTypes := #[50, 50] })
    (v : Value) (n : Nat) (xs : List Value) (hs : a.eval s = v) (hown : SlAt o w tg 30 1 v n xs) (g c : Nat) (news : Array Value) (hx : a.eval x = .slice (some ⟨g, 0, none⟩) 1 c)
    (hg : blk w g = some (.cells news 30 (0, 0))) (hl : news.size = 1) (h1 : ∀ u ∈ news.toList, u.oneCell' = true) (hb : n + 1 ≤ 1073741824)
    (h : ∀ v' w' o', SlAt o' w' tg 30 1 v' (n + 1) (xs ++ news.toList) → Ext o o' w w' (fun x => x = tg) → w.grownBy w' v.ownBlock → v' ≠ .slice none 0 0 → wpList Try.prog ops Q rest (a.put op.dst v') w') :
    wpList Try.prog ops Q (op :: rest) a w := by
  obtain ⟨i0, hi, hz0, hz1, hz2⟩ := info_parts info_u64
  exact wpList_push hgd s x 50 ho 30 i0 (.int .u64 0) 1 8 Try.underlying50 hi hz0 hz1 hz2 rfl (by decide) v n xs hs hown g c news hx hg hl h1 (by simp only [maxLen]; omega) (by omega) h
/-- append(xs, ys...), elements of type u64. -/
theorem src_u64 {w : World} {o : Nat → Nat} {tg tg2 : Nat} {ops : Array Oper} {rest : List Oper} {op : Oper} {a : Act} {Q : Exit → Act → World → Prop} (hgd : op.guard = none) (s x : Operand)
    (ho : op.op = .call { callee := .builtin .append, args := #[s, x], argTypes := #[50, 50] })
    (v : Value) (n : Nat) (xs : List Value) (hs : a.eval s = v) (hown : SlAt o w tg 30 1 v n xs) (v2 : Value) (m : Nat) (news : List Value) (hx : a.eval x = v2) (hsrc : SlAt o w tg2 30 1 v2 m news)
    (h1 : ∀ u ∈ news, u.oneCell' = true) (hb : n + m ≤ 1073741824)
    (h : ∀ v' w' o', SlAt o' w' tg 30 1 v' (n + m) (xs ++ news) → Ext o o' w w' (fun x => x = tg) → w.grownBy w' v.ownBlock → (v' = .slice none 0 0 ↔ v = .slice none 0 0 ∧ m = 0) → wpList Try.prog ops Q rest (a.put op.dst v') w') :
    wpList Try.prog ops Q (op :: rest) a w := by
  obtain ⟨i0, hi, hz0, hz1, hz2⟩ := info_parts info_u64
  exact wpList_append_src hgd s x 50 ho 30 i0 (.int .u64 0) 1 8 Try.underlying50 hi hz0 hz1 hz2 rfl (by decide) v n xs hs hown v2 m news hx hsrc h1 (by simp only [maxLen]; omega) (by omega) h
/-- append(xs, ys...), elements of type u64, ys wherever it lies. -/
theorem many_u64 {w : World} {o : Nat → Nat} {tg : Nat} {ops : Array Oper} {rest : List Oper} {op : Oper} {a : Act} {Q : Exit → Act → World → Prop} (hgd : op.guard = none) (s x : Operand)
    (ho : op.op = .call { callee := .builtin .append, args := #[s, x], argTypes := #[50, 50] })
    (v : Value) (n : Nat) (xs : List Value) (hs : a.eval s = v) (hown : SlAt o w tg 30 1 v n xs) (ad : Addr) (m c : Nat) (news : List Value) (hx : a.eval x = .slice (some ad) m c) (hl : news.length = m * 1)
    (hnews : ∀ j u, news[j]? = some u → w.cell? (ad.add j) = some u) (h1 : ∀ u ∈ news, u.oneCell' = true) (hb : n + m ≤ 1073741824)
    (h : ∀ v' w' o', SlAt o' w' tg 30 1 v' (n + m) (xs ++ news) → Ext o o' w w' (fun x => x = tg) → w.grownBy w' v.ownBlock → (v' = .slice none 0 0 ↔ v = .slice none 0 0 ∧ m = 0) → wpList Try.prog ops Q rest (a.put op.dst v') w') :
    wpList Try.prog ops Q (op :: rest) a w := by
  obtain ⟨i0, hi, hz0, hz1, hz2⟩ := info_parts info_u64
  exact wpList_append_sl hgd s x 50 ho 30 i0 (.int .u64 0) 1 8 Try.underlying50 hi hz0 hz1 hz2 rfl (by decide) v n xs hs hown ad m c news hx hl hnews h1 (by simp only [maxLen]; omega) (by omega) h

/-- append(xs, ys...), numbers, as a step of a region that draws. -/
theorem step_src_u64 {w : World} {o : Nat → Nat} {tg tg2 : Nat} {ops : Array Oper} {op : Oper} {a : Act} {K : Act → World → Prop} {Q : Exit → Act → World → Prop} {E : Prop} (hgd : op.guard = none) (s x : Operand)
    (ho : op.op = .call { callee := .builtin .append, args := #[s, x], argTypes := #[50, 50] })
    (v : Value) (n : Nat) (xs : List Value) (hs : a.eval s = v) (hown : SlAt o w tg 30 1 v n xs) (v2 : Value) (m : Nat) (news : List Value) (hx : a.eval x = v2) (hsrc : SlAt o w tg2 30 1 v2 m news)
    (h1 : ∀ u ∈ news, u.oneCell' = true) (hb : n + m ≤ 1073741824)
    (h : ∀ v' w' o', SlAt o' w' tg 30 1 v' (n + m) (xs ++ news) → Ext o o' w w' (fun x => x = tg) → K (a.put op.dst v') w') :
    if Region.wanted op (yielded ops a.tmps) = true then Oper.wp Try.prog op a w K Q else E := by
  have hw : Region.wanted op (yielded ops a.tmps) = true := by simp [Region.wanted, hgd]
  rw [if_pos hw]
  obtain ⟨i0, hi, hz0, hz1, hz2⟩ := info_parts info_u64
  obtain ⟨v', w', o', hr, h2, h3, _, _⟩ := run_append_src (P := Try.prog) 50 op.type 30 i0 (.int .u64 0) 1 8 Try.underlying50 hi hz0 hz1 hz2 rfl (by decide) v n xs hown v2 m news hsrc h1 (by simp only [maxLen]; omega) (by omega)
  unfold Oper.wp execOp
  simp only [ho, resolve, invoke, builtin, Sem.run_bind, Sem.run_pure, Result.andThen_ok, List.map_toArray, List.map_cons, List.map_nil, hs, hx, hr]
  exact h v' w' o' h2 h3
/-- The document's nodes are those that live. -/
structure NodesOk (ss : List Slot) (nodes next : List Int) : Prop where
  nd : nodes.Nodup
  mem : ∀ x, U64 x → (x ∈ nodes ↔ 0 ≤ atA ss x)
  u64 : ∀ x ∈ nodes, U64 x
  len : next.length = nodes.length
  nx : ∀ i, i < nodes.length → next.getD i 0 = (readNd ss (nodes.getD i 0)).next
  nxu : ∀ i, U64 (next.getD i 0)
def SomeU (l : List KObj) (out : List Int) (e : Ending) (w' : World) : Prop := ∃ v, e = .returned v ∧ R (l ++ [SlK 30 1 v out.length (out.map (Value.int .u64))]) w'
section
variable {l : List KObj} {w : World} {tn tx tm nn nx nm : Nat} {ss : List Slot} {nodes next met : List Int}
/-- What chain's loop keeps. -/
structure RelD (l : List KObj) (bx : Nat) (cs : Array Value) (ss : List Slot) (met : List Int) (x0 : Int) (out : List Int) (x : Int) (v : Value) (wr : World) : Prop where
  r : R (l ++ [StK bx cs 53] ++ [SlK 30 1 v out.length (out.map (Value.int .u64))]) wr
  xok : U64 x
  is : chainL ss met x0 = out ++ chainL ss (met ++ out) x
  small : out.length + cntU ss (met ++ out) ≤ cntU ss met
set_option maxRecDepth 100000 in
set_option maxHeartbeats 3200000 in
theorem ref05_chain (h : R l w) {cv tv nv xv wv mv : Value} (hn : l[tn]? = some (SxK 30 1 nv nn (nodes.map (Value.int .u64)))) (hx : l[tx]? = some (SxK 30 1 xv nx (next.map (Value.int .u64))))
    (hm : l[tm]? = some (SlK 30 1 mv nm (met.map (Value.int .u64)))) (ok : NodesOk ss nodes next) (hss : ss.length ≤ 1024) (x0 : Int) (hx0 : U64 x0) :
    Calls Try.prog 66 #[.agg #[cv, tv, nv, xv, wv], .int .u64 x0, mv] w (SomeU l (chainL ss met x0)) := by
  have hcl := cntU_le ss met
  have h1 := h.new #[cv, tv, nv, xv, wv] 53
  have hR : RelD l w.heap.size #[cv, tv, nv, xv, wv] ss met x0 [] x0 (.slice none 0 0) (w.alloc (.cells #[cv, tv, nv, xv, wv] 53)) := ⟨h1.slnil _ _, hx0, by simp, by simp⟩
  obtain ⟨na, nc, hnv, hnlen, _⟩ := Rd.sx h hn
  obtain ⟨xa, xc, hxv, hxlen, _⟩ := Rd.sx h hx
  obtain ⟨ma, mc, hmv, hmlen, _⟩ := Rd.sl h hm
  subst hnv hxv hmv
  replace hR := hide hR
  clear h h1
  go_enter Try.func66, Try.ntmps66
  go_wp2_with fail
  generalize w.alloc (.cells #[cv, tv, .slice na nodes.length nc, .slice xa next.length xc, wv] 53) = w1 at *
  generalize w.heap.size = bx at *
  go_loopw [1, 7] (fun xv v wr => ∃ (x : Int) (out : List Int), xv = .int .u64 x ∧ (∃ a c, v = .slice a out.length c) ∧ Hid (RelD l bx #[cv, tv, .slice na nodes.length nc, .slice xa next.length xc, wv] ss met x0 out x v wr))
    (fun _ v _ => ss.length - (match v with | .slice _ n _ => n | _ => 0))
  case atStart => exact ⟨x0, [], rfl, ⟨_, _, rfl⟩, hR⟩
  case round =>
    obtain ⟨x, out, rfl, ⟨oa, oc, rfl⟩, C⟩ := hrel
    clear hR
    have hxu := C.out.xok
    have hb := C.out.r.st (t := l.length) (app_get app_last)
    have hrn := Rd.sx C.out.r (app_get (app_get hn))
    have hrm := Rd.sl C.out.r (app_get (app_get hm))
    have hro := Rd.sl C.out.r (t := (l ++ [StK bx #[cv, tv, .slice na nodes.length nc, .slice xa next.length xc, wv] 53]).length) app_last
    have c1 := hide (ref05_has hrn x)
    have c2 := hide (ref05_has hrm x)
    have c3 := hide (ref05_has hro x)
    replace hrn := hide hrn
    clear hrm hro
    have stop : ¬ (x ∈ nodes ∧ x ∉ met ∧ x ∉ out) → chainL ss met x0 = out := fun hc => by
      rw [C.out.is, chainL_stop, List.append_nil]
      rintro ⟨hl, hmo⟩
      refine hc ⟨(ok.mem x hxu).2 (by simpa [liveB] using hl), fun h => hmo (List.mem_append.2 (.inl h)), fun h => hmo (List.mem_append.2 (.inr h))⟩
    have ends : chainL ss met x0 = out → SomeU l (chainL ss met x0) (.returned (.slice oa out.length oc)) wr := fun e => by
      rw [e]
      exact ⟨_, rfl, R.dropMid (q := NoK) C.out.r⟩
    by_cases g1 : x ∈ nodes
    · rw [decide_eq_true g1] at c1
      by_cases g2 : x ∈ met
      · rw [decide_eq_true g2] at c2
        have e := hide (ends (stop fun h => h.2.1 g2))
        clear stop ends c3
        replace g1 := hide g1
        replace g2 := hide g2
        go_wp2_with fail
        refine c1.out.mono ?_
        rintro e1 w2 ⟨rfl, rfl⟩
        go_wp2_with fail
        refine c2.out.mono ?_
        rintro e1 w2 ⟨rfl, rfl⟩
        go_wp2
        go_ret
        exact e.out
      · rw [decide_eq_false g2] at c2
        by_cases g3 : x ∈ out
        · rw [decide_eq_true g3] at c3
          have e := hide (ends (stop fun h => h.2.2 g3))
          clear stop ends
          replace g1 := hide g1
          replace g2 := hide g2
          replace g3 := hide g3
          go_wp2_with fail
          refine c1.out.mono ?_
          rintro e1 w2 ⟨rfl, rfl⟩
          go_wp2_with fail
          refine c2.out.mono ?_
          rintro e1 w2 ⟨rfl, rfl⟩
          go_wp2_with fail
          refine c3.out.mono ?_
          rintro e1 w2 ⟨rfl, rfl⟩
          go_wp2
          go_ret
          exact e.out
        · rw [decide_eq_false g3] at c3
          have hlb : liveB ss x = true := by simpa [liveB] using (ok.mem x hxu).1 g1
          have hmo : x ∉ met ++ out := fun h => (List.mem_append.1 h).elim g2 g3
          have hcons := chainL_cons hlb hmo
          have hclt := cntU_lt hlb hmo
          have hsm := C.out.small
          have hol : out.length ≤ 1024 := by omega
          obtain ⟨o, hr, hs⟩ := C.out.r.get (t := (l ++ [StK bx #[cv, tv, .slice na nodes.length nc, .slice xa next.length xc, wv] 53]).length) app_last
          replace hr := hide hr
          replace g1 := hide g1
          replace g2 := hide g2
          replace g3 := hide g3
          replace hmo := hide hmo
          replace hlb := hide hlb
          replace hcons := hide hcons
          replace hclt := hide hclt
          replace hsm := hide hsm
          have his := hide C.out.is
          clear stop ends C
          go_wp2_with fail
          refine c1.out.mono ?_
          rintro e1 w2 ⟨rfl, rfl⟩
          go_wp2_with fail
          refine c2.out.mono ?_
          rintro e1 w2 ⟨rfl, rfl⟩
          go_wp2_with fail
          refine c3.out.mono ?_
          rintro e1 w2 ⟨rfl, rfl⟩
          clear c1 c2 c3
          go_wp2_with (at_builtin; refine push_u64 rfl (.tmp 25) (.tmp 27) rfl _ _ _ rfl (hs.alloc _) wr.heap.size 1 _ rfl (blk_new _ _) rfl (by simp; rfl) (by omega) ?_)
          intro v' w7 o1 hs1 he1 _ _
          have hL : (l ++ [StK bx #[cv, tv, .slice na nodes.length nc, .slice xa next.length xc, wv] 53]).length = l.length + 1 := by simp
          have h7 := hr.out.step (t := (l ++ [StK bx #[cv, tv, .slice na nodes.length nc, .slice xa next.length xc, wv] 53]).length) (q := SlK 30 1 v' (out ++ [x]).length ((out ++ [x]).map (Value.int .u64))) (((Ext.refl o wr _).alloc _).trans he1) (fun y hy => by omega) (by
            rw [show (out ++ [x]).length = out.length + 1 by simp, List.map_append, hL]; exact hs1)
          rw [List.set_append_right _ _ (Nat.le_refl _), Nat.sub_self, List.set_cons_zero] at h7
          obtain ⟨⟨oa2, oc2, rfl⟩, _⟩ := h7.slVal (t := (l ++ [StK bx #[cv, tv, .slice na nodes.length nc, .slice xa next.length xc, wv] 53]).length) app_last
          have hb7 := h7.st (t := l.length) (app_get app_last)
          have hrn7 := hide (Rd.sx h7 (app_get (app_get hn)))
          have hrx7 := hide (Rd.sx h7 (app_get (app_get hx)))
          replace h7 := hide h7
          clear hr hs hs1 he1 hb hrn
          have hdone : ∀ j, j < nodes.length → nodes.getD j 0 = x → RelD l bx #[cv, tv, .slice na nodes.length nc, .slice xa next.length xc, wv] ss met x0 (out ++ [x]) (next.getD j 0) (.slice oa2 (out ++ [x]).length oc2) w7 := fun j hj hjx => by
            have h1 := hclt.out
            have h2 := hsm.out
            rw [List.append_assoc] at h1
            refine ⟨h7.out, ok.nxu j, ?_, by rw [List.length_append, List.length_singleton]; omega⟩
            rw [his.out, hcons.out, ok.nx j hj, hjx]
            simp
          replace hdone := hide hdone
          have hlen9 : (out ++ [x]).length = out.length + 1 := by simp
          replace hlen9 := hide hlen9
          go_wp2_with fail
          go_loopw [1, 8] (fun xv i wr => ∃ j : Nat, j ≤ nodes.length ∧ i = .int .i64 j ∧ xv = .int .u64 x ∧ Hid (∀ q, q < j → nodes.getD q 0 ≠ x) ∧ wr = w7) (fun _ i _ => nodes.length - (intOf i).toNat)
          case atStart => exact ⟨0, Nat.zero_le _, rfl, rfl, fun q hq => absurd hq (Nat.not_lt_zero _), rfl⟩
          case round =>
            obtain ⟨j, hj, rfl, rfl, hno, rfl⟩ := hrel
            by_cases hjn : j < nodes.length
            · obtain ⟨g, c9, cur, hv, hg, hc⟩ := hrn7.out.at_ hjn
              obtain ⟨g', c9', cur', hv', hg', hc'⟩ := hrx7.out.at_ (i := j) (by rw [ok.len]; exact hjn)
              simp at hv hv'
              obtain ⟨rfl, rfl⟩ := hv
              obtain ⟨rfl, rfl⟩ := hv'
              by_cases hjx : nodes.getD j 0 = x
              · have hd := hide (hdone.out j hjn hjx)
                have hjn2 : j < next.length := by rw [ok.len]; exact hjn
                rw [hjx] at hc
                generalize next.getD j 0 = y at *
                replace hjx := hide hjx
                go_wp2_with fail
                have h9 := hsm.out
                have h10 := hclt.out
                have h11 := hlen9.out
                exact ⟨⟨y, out ++ [x], rfl, ⟨_, _, rfl⟩, hd⟩, by dsimp only; omega⟩
              · have hne : (nodes.getD j 0 == x) = false := by simpa using hjx
                replace hjx := hide hjx
                generalize hy : nodes.getD j 0 = y at *
                replace hy := hide hy
                go_wp2_with fail
                refine ⟨⟨j + 1, by omega, by go_num, rfl, fun q hq => ?_, trivial⟩, by simp [intOf]; omega⟩
                by_cases hqj : q = j
                · subst hqj; rw [hy.out]; exact hjx.out
                · exact hno.out q (by omega)
            · obtain rfl : j = nodes.length := by omega
              exfalso
              obtain ⟨q, hq, hqx⟩ := List.getElem_of_mem g1.out
              exact hno.out q hq (by simp [hq, hqx])
    · rw [decide_eq_false g1] at c1
      have e := hide (ends (stop fun h => g1 h.1))
      clear stop ends c2 c3
      replace g1 := hide g1
      go_wp2_with fail
      refine c1.out.mono ?_
      rintro e1 w2 ⟨rfl, rfl⟩
      go_wp2
      go_ret
      exact e.out
end
end Go.Proofs.Ytcoaemjoanbemaa

namespace Go.Proofs.Ytcoaemjoanbemaa
open Go.RowKit

theorem rdesc_at {o : Nat → Nat} {w : World} {t : Nat} {v : Value} {l : List (Int × Int)} (hs : SlAt o w t 70 2 v l.length (l.flatMap descL)) {i : Nat} (hi : i < l.length) :
    ∃ g cap cur, v = .slice (some ⟨g, 0, none⟩) l.length cap ∧ blk w g = some (.cells cur 70 (0, 0)) ∧ cap ≤ 9223372036854775807 ∧ l.length ≤ cap ∧
      cur[i * 2]? = some (.int .i64 (l.getD i (0, 0)).1) ∧ cur[i * 2 + 1]? = some (.int .i64 (l.getD i (0, 0)).2) := by
  obtain ⟨g, cap, cur, rfl, hg, hog, h1, h2, h3, h4⟩ := hs.row (by omega)
  have hgi : l[i]? = some (l.getD i (0, 0)) := by simp [hi]
  have G : ∀ j, j < 2 → ∀ u, (descL (l.getD i (0, 0)))[j]? = some u → cur[i * 2 + j]? = some u := fun j hj u hu => cur_at h4 (by rw [flat_get descL 2 descL_len _ _ _ hj, hgi]; exact hu)
  exact ⟨g, cap, cur, rfl, hg, by simp only [maxLen] at h2; omega, h1, G 0 (by decide) _ rfl, G 1 (by decide) _ rfl⟩
def nowR (cells : List Int) (tables : List (Int × Int)) : Int × Int := tables.getD (cells.getD 1 0).toNat (0, 0)
section
variable {l : List KObj} {w : World} {tc tt nc : Nat} {cells : List Int} {tables : List (Int × Int)}
set_option maxRecDepth 100000 in
set_option maxHeartbeats 1600000 in
theorem ref05_now (h : R l w) {cv tv nv xv wv : Value} (hc : l[tc]? = some (SlK 30 1 cv nc (cells.map (Value.int .u64)))) (ht : l[tt]? = some (SlK 70 2 tv tables.length (tables.flatMap descL)))
    (h2 : 2 ≤ cells.length) (hl : tables.length ≤ 1048576) (hu : U64 (cells.getD 1 0)) :
    Calls Try.prog 30 #[.agg #[cv, tv, nv, xv, wv]] w (Does l (descV (nowR cells tables))) := by
  obtain ⟨g, c, cur, rfl, hg, hcc⟩ := (Rd.sl h hc).at_ (i := 1) (by omega)
  have hgl := lt_of_blk hg
  obtain ⟨o, _, hs⟩ := h.get ht
  have hs : SlAt o w (16 * tt) 70 2 tv tables.length (tables.flatMap descL) := hs
  unfold nowR
  have h2' : 1 < cells.length := by omega
  have h63 := h.slVal hc
  have hcl : cells.length ≤ 9223372036854775807 := (Rd.sl h hc).choose_spec.choose_spec.2.1
  generalize cells.getD 1 0 = v at *
  obtain ⟨n, rfl⟩ := Int.eq_ofNat_of_zero_le hu.1
  have hu2 := hu.2
  rw [Int.toNat_natCast]
  generalize cells.length = L at *
  replace h63 := hide h63
  by_cases h1 : n < tables.length
  · obtain ⟨g2, cap, cur2, rfl, hg2, hc2, hle, c0, c1⟩ := rdesc_at hs h1
    have hgl2 := lt_of_blk hg2
    generalize tables.getD n (0, 0) = d at *
    generalize tables.length = N at *
    have hge : decide ((n : Int) ≥ (N : Int)) = false := by simp; omega
    replace h := hide h
    clear hs ht hc
    go_enter Try.func30, Try.ntmps30
    go_wp2_with fail
    go_quiet (fail)
    go_wp2_with fail
    have h3 := ((h.out.new #[.slice (some ⟨g, 0, none⟩) L c, .slice (some ⟨g2, 0, none⟩) N cap, nv, xv, wv] 53).new #[.int .i64 0, .int .i64 0] 70).drewN nq
    have e1 : (w.alloc (.cells #[.slice (some ⟨g, 0, none⟩) L c, .slice (some ⟨g2, 0, none⟩) N cap, nv, xv, wv] 53)).heap.size = w.heap.size + 1 := by simp
    rw [e1] at h3
    have hb1 := h3.st (t := l.length) (app_get app_last)
    have hb2 := h3.st (t := (l ++ [StK w.heap.size #[.slice (some ⟨g, 0, none⟩) L c, .slice (some ⟨g2, 0, none⟩) N cap, nv, xv, wv] 53]).length) app_last
    have hg' : blk (((w.alloc (.cells #[.slice (some ⟨g, 0, none⟩) L c, .slice (some ⟨g2, 0, none⟩) N cap, nv, xv, wv] 53)).alloc (.cells #[.int .i64 0, .int .i64 0] 70)).drewN nq) g = some (.cells cur 30 (0, 0)) := by
      rw [blk_drewN, blk_old _ _ _ (by simp; omega), blk_old _ _ _ hgl]; exact hg
    have hg2' : blk (((w.alloc (.cells #[.slice (some ⟨g, 0, none⟩) L c, .slice (some ⟨g2, 0, none⟩) N cap, nv, xv, wv] 53)).alloc (.cells #[.int .i64 0, .int .i64 0] 70)).drewN nq) g2 = some (.cells cur2 70 (0, 0)) := by
      rw [blk_drewN, blk_old _ _ _ (by simp; omega), blk_old _ _ _ hgl2]; exact hg2
    have h4 := hide (((h3.put (t := (l ++ [StK w.heap.size #[.slice (some ⟨g, 0, none⟩) L c, .slice (some ⟨g2, 0, none⟩) N cap, nv, xv, wv] 53]).length) app_last 0 (.int .i64 d.1)).put (set_get app_last) 1 (.int .i64 d.2)).drew)
    generalize ((w.alloc (.cells #[.slice (some ⟨g, 0, none⟩) L c, .slice (some ⟨g2, 0, none⟩) N cap, nv, xv, wv] 53)).alloc (.cells #[.int .i64 0, .int .i64 0] 70)).drewN nq = w2 at *
    generalize w.heap.size = bx at *
    clear h3 h hg hg2 e1 hgl hgl2
    go_still_tail 8, (by kernel_rfl)
    have hL1 : (1 : Int) < (L : Int) := by omega
    have hN1 : (n : Int) < (N : Int) := by omega
    repeat still_step
    try refine wpStill_nil ?_
    go_wp2_with fail
    have hb4 := h4.out.st (t := (l ++ [StK bx #[.slice (some ⟨g, 0, none⟩) L c, .slice (some ⟨g2, 0, none⟩) N cap, nv, xv, wv] 53]).length) (set_get (set_get app_last))
    refine bodyPost_ret (by simp [results, Try.results30, go_sem, hb2]; rfl) rfl ?_
    refine ⟨by simp [descV], ?_⟩
    have h5 := h4.out
    rw [List.append_assoc, List.set_append_right _ _ (by simp), List.set_append_right _ _ (by simp)] at h5
    exact h5.left
  · rw [show tables.getD n (0, 0) = (0, 0) by simp [List.getElem?_eq_none (Nat.le_of_not_lt h1)]]
    obtain ⟨ta, tcap, rfl⟩ := hs.value
    have hle := hs.le63
    generalize tables.length = N at *
    replace h := hide h
    clear hs ht hc
    go_enter Try.func30, Try.ntmps30
    go_wp2_with fail
    go_quiet (fail)
    have h3 := ((h.out.new #[.slice (some ⟨g, 0, none⟩) L c, .slice ta N tcap, nv, xv, wv] 53).new #[.int .i64 0, .int .i64 0] 70).drewN nq
    have e1 : (w.alloc (.cells #[.slice (some ⟨g, 0, none⟩) L c, .slice ta N tcap, nv, xv, wv] 53)).heap.size = w.heap.size + 1 := by simp
    rw [e1] at h3
    have hb2 := h3.st (t := (l ++ [StK w.heap.size #[.slice (some ⟨g, 0, none⟩) L c, .slice ta N tcap, nv, xv, wv] 53]).length) app_last
    have h4 := hide (((h3.put (t := (l ++ [StK w.heap.size #[.slice (some ⟨g, 0, none⟩) L c, .slice ta N tcap, nv, xv, wv] 53]).length) app_last 0 (.int .i64 0)).put (set_get app_last) 1 (.int .i64 0)))
    generalize ((w.alloc (.cells #[.slice (some ⟨g, 0, none⟩) L c, .slice ta N tcap, nv, xv, wv] 53)).alloc (.cells #[.int .i64 0, .int .i64 0] 70)).drewN nq = w2 at *
    generalize w.heap.size = bx at *
    clear h3 h hg e1 hgl
    go_wp2_with fail
    have hb4 := h4.out.st (t := (l ++ [StK bx #[.slice (some ⟨g, 0, none⟩) L c, .slice ta N tcap, nv, xv, wv] 53]).length) (set_get (set_get app_last))
    refine bodyPost_ret (by simp [results, Try.results30, go_sem, hb2]; rfl) rfl ?_
    refine ⟨by simp [descV], ?_⟩
    have h5 := h4.out
    rw [List.append_assoc, List.set_append_right _ _ (by simp), List.set_append_right _ _ (by simp)] at h5
    exact h5.left
end
end Go.Proofs.Ytcoaemjoanbemaa

namespace Go.Proofs.Ytcoaemjoanbemaa
open Go.RowKit

/-- The document's rows, in a list of objects. -/
structure RowsIn (l : List KObj) (tc tt tn tx : Nat) (cv tv nv xv : Value) (cells : List Int) (tables : List (Int × Int)) (nodes next : List Int) : Prop where
  c : l[tc]? = some (SlK 30 1 cv cells.length (cells.map (Value.int .u64)))
  t : l[tt]? = some (SlK 70 2 tv tables.length (tables.flatMap descL))
  n : l[tn]? = some (SxK 30 1 nv nodes.length (nodes.map (Value.int .u64)))
  x : l[tx]? = some (SxK 30 1 xv next.length (next.map (Value.int .u64)))
theorem RowsIn.app {l : List KObj} {tc tt tn tx : Nat} {cv tv nv xv : Value} {cells : List Int} {tables : List (Int × Int)} {nodes next : List Int} (h : RowsIn l tc tt tn tx cv tv nv xv cells tables nodes next) (m : List KObj) : RowsIn (l ++ m) tc tt tn tx cv tv nv xv cells tables nodes next :=
  ⟨app_get h.c, app_get h.t, app_get h.n, app_get h.x⟩
/-- What is right of its numbers. -/
structure RefOk5 (cells : List Int) (tables : List (Int × Int)) : Prop where
  len : 2 ≤ cells.length ∧ cells.length ≤ 1048576
  tlen : tables.length ≤ 1048576
  u64 : ∀ i, U64 (cells.getD i 0)
  now : 0 ≤ (nowR cells tables).1 ∧ (nowR cells tables).1 ≤ 65536 ∧ 0 ≤ (nowR cells tables).2 ∧ (nowR cells tables).2 + (nowR cells tables).1 ≤ cells.length
def headR (cells : List Int) (tables : List (Int × Int)) (b : Int) : Int := if 0 ≤ b ∧ b < (nowR cells tables).1 then cells.getD ((nowR cells tables).2 + b).toNat 0 else 0
section
variable {l : List KObj} {w : World} {tc tt tn tx : Nat} {cv tv nv xv : Value} {cells : List Int} {tables : List (Int × Int)} {nodes next : List Int} {ss : List Slot}
theorem chainL_zero (ss : List Slot) (met : List Int) : chainL ss met 0 = [] := chainL_stop fun h => by
  have := h.1
  simp [liveB, atA] at this
set_option maxRecDepth 100000 in
set_option maxHeartbeats 1600000 in
theorem ref05_Chain (h : R l w) (rw_ : RowsIn l tc tt tn tx cv tv nv xv cells tables nodes next) (ok : RefOk5 cells tables) (nok : NodesOk ss nodes next) (hss : ss.length ≤ 1024) (wv : Value) (b : Int) :
    Calls Try.prog 33 #[.agg #[cv, tv, nv, xv, wv], .int .i64 b] w (SomeU l (chainL ss [] (headR cells tables b))) := by
  obtain ⟨hn0, hn1, hb0, hb1⟩ := ok.now
  have hlen := ok.len
  have h1 := h.new #[cv, tv, nv, xv, wv] 53
  have hnow := ref05_now (nv := nv) (xv := xv) (wv := wv) h1 (app_get rw_.c) (app_get rw_.t) hlen.1 ok.tlen (ok.u64 1)
  have hu : ∀ i, U64 (cells.getD i 0) := ok.u64
  unfold headR
  generalize nowR cells tables = d at *
  obtain ⟨N, base⟩ := d
  dsimp only at *
  replace hnow := hide hnow
  obtain ⟨out, hout⟩ : ∃ out, chainL ss [] (if 0 ≤ b ∧ b < N then cells.getD (base + b).toNat 0 else 0) = out := ⟨_, rfl⟩
  rw [hout]
  replace hout := hide hout
  clear h h1
  go_enter Try.func33, Try.ntmps33
  go_wp2_with fail
  refine hnow.out.mono ?_
  rintro e w2 ⟨rfl, h2⟩
  clear hnow
  generalize w.heap.size = bx at *
  dsimp only [descV]
  have h3 := h2.new #[.int .i64 N, .int .i64 base] 70
  have hb := h3.st (t := l.length) (app_get app_last)
  have hb2 := h3.st (t := (l ++ [StK bx #[cv, tv, nv, xv, wv] 53]).length) app_last
  by_cases hc : 0 ≤ b ∧ b < N
  · have hout := hout.out
    rw [if_pos hc] at hout
    obtain ⟨hc0, hc1⟩ := hc
    obtain ⟨g, cc, cur, hcv, hg, hcc⟩ := (Rd.sl h3 (app_get (app_get rw_.c))).at_ (i := (base + b).toNat) (by omega)
    subst hcv
    have hlt : base + b < (cells.length : Int) := by omega
    have hge : 0 ≤ base + b := by omega
    have hnn : ¬ b < 0 := by omega
    have hnN : ¬ N ≤ b := by omega
    have h4 := (h3.slnil 30 1).drew
    have hch := ref05_chain (cv := .slice (some ⟨g, 0, none⟩) cells.length cc) (tv := tv) (wv := wv) h4 (app_get (app_get (app_get rw_.n))) (app_get (app_get (app_get rw_.x))) (tm := (l ++ [StK bx #[.slice (some ⟨g, 0, none⟩) cells.length cc, tv, nv, xv, wv] 53] ++ [StK w2.heap.size #[.int .i64 N, .int .i64 base] 70]).length) (met := []) app_last nok hss (cells.getD (base + b).toNat 0) (hu _)
    rw [hout] at hch
    clear hout
    generalize cells.getD (base + b).toNat 0 = y at *
    have hcl : cells.length ≤ 1048576 := hlen.2
    replace hch := hide hch
    replace hlen := hide hlen
    clear h2 h3 h4 hu
    go_wp2_with fail
    generalize w2.alloc (.cells #[.int .i64 N, .int .i64 base] 70) = w3 at *
    generalize w2.heap.size = bd at *
    have hwb : IntKind.i64.wrap (base + b) = base + b := by rw [IntKind.wrap_i64]; omega
    go_still_tail 9, (by kernel_rfl)
    repeat still_step
    try refine wpStill_nil ?_
    go_wp2_with fail
    refine hch.out.mono ?_
    rintro e w5 ⟨v, rfl, h5⟩
    have h6 := hide (R.dropMid (q := NoK) (R.dropMid (q := NoK) (R.dropMid (q := NoK) h5)))
    clear hch h5
    go_wp2
    go_ret
    exact ⟨v, rfl, h6.out⟩
  · have hout := hout.out
    rw [if_neg hc, chainL_zero] at hout
    subst hout
    have hend : SomeU l [] (.returned (.slice none 0 0)) (w2.alloc (.cells #[.int .i64 N, .int .i64 base] 70)) := ⟨_, rfl, (h3.left.left).slnil _ _⟩
    replace hend := hide hend
    clear h2 h3 hu
    by_cases hb0 : b < 0
    · go_wp2
      go_ret
      exact hend.out
    · have hNb : N ≤ b := by omega
      go_wp2
      go_ret
      exact hend.out
theorem ints_one' (xs : List Int) : ∀ u ∈ xs.map (Value.int .u64), u.oneCell' = true := fun u hu => by obtain ⟨_, _, rfl⟩ := List.mem_map.1 hu; rfl
/-- The handles of the first k chains. -/
def rR (ss : List Slot) (hd : Nat → Int) : Nat → List Int
  | 0 => []
  | k + 1 => rR ss hd k ++ chainL ss (rR ss hd k) (hd k)
theorem rR_len (ss : List Slot) (hd : Nat → Int) (k : Nat) : (rR ss hd k).length + cntU ss (rR ss hd k) ≤ ss.length := by
  induction k with
  | zero =>
    have := cntU_le ss []
    simpa [rR] using this
  | succ k ih =>
    have := chainL_len ss (rR ss hd k) (hd k)
    rw [rR, List.length_append]
    omega
theorem reachL_is (m : MemS) (k : Nat) : reachL m k = rR m.ss (fun i => headOf m i) k := by
  induction k with
  | zero => rfl
  | succ k ih => rw [reachL, rR, ih]
set_option maxRecDepth 100000 in
set_option maxHeartbeats 3200000 in
theorem ref05_Reach (h : R l w) (rw_ : RowsIn l tc tt tn tx cv tv nv xv cells tables nodes next) (ok : RefOk5 cells tables) (nok : NodesOk ss nodes next) (hss : ss.length ≤ 1024) (wv : Value) :
    Calls Try.prog 35 #[.agg #[cv, tv, nv, xv, wv]] w (SomeU l (rR ss (fun i => headR cells tables i) (nowR cells tables).1.toNat)) := by
  obtain ⟨hn0, hn1, hb0, hb1⟩ := ok.now
  have hlen := ok.len
  have h1 := h.new #[cv, tv, nv, xv, wv] 53
  have hnow := ref05_now (nv := nv) (xv := xv) (wv := wv) h1 (app_get rw_.c) (app_get rw_.t) hlen.1 ok.tlen (ok.u64 1)
  have hu : ∀ i, U64 (cells.getD i 0) := ok.u64
  have hhd : ∀ k : Nat, (k : Int) < (nowR cells tables).1 → headR cells tables k = cells.getD ((nowR cells tables).2 + k).toNat 0 := fun k hk => by
    unfold headR
    rw [if_pos ⟨by omega, hk⟩]
  obtain ⟨hd, hhe⟩ : ∃ hd : Nat → Int, (fun i : Nat => headR cells tables i) = hd := ⟨_, rfl⟩
  have hhd2 : ∀ k : Nat, (k : Int) < (nowR cells tables).1 → hd k = cells.getD ((nowR cells tables).2 + k).toNat 0 := fun k hk => by rw [← hhe]; exact hhd k hk
  rw [hhe]
  clear hhd hhe
  generalize nowR cells tables = d at *
  obtain ⟨N0, base⟩ := d
  dsimp only at *
  obtain ⟨N, rfl⟩ := Int.eq_ofNat_of_zero_le hn0
  rw [Int.toNat_natCast]
  replace hnow := hide hnow
  replace hhd2 := hide hhd2
  clear h h1
  go_enter Try.func35, Try.ntmps35
  go_wp2_with fail
  refine hnow.out.mono ?_
  rintro e w2 ⟨rfl, h2⟩
  clear hnow
  generalize w.heap.size = bx at *
  dsimp only [descV]
  have h3 := (h2.new #[.int .i64 N, .int .i64 base] 70).slnil 30 1
  replace h3 := hide h3
  clear h2
  go_wp2_with fail
  generalize w2.alloc (.cells #[.int .i64 N, .int .i64 base] 70) = w3 at *
  generalize w2.heap.size = bd at *
  go_loopw [4, 5] (fun v i wr => ∃ k : Nat, k ≤ N ∧ i = .int .i64 k ∧ (∃ a c, v = .slice a (rR ss hd k).length c) ∧ Hid (R (l ++ [StK bx #[cv, tv, nv, xv, wv] 53] ++ [StK bd #[.int .i64 N, .int .i64 base] 70] ++ [SlK 30 1 v (rR ss hd k).length ((rR ss hd k).map (Value.int .u64))]) wr))
    (fun _ i _ => N - (intOf i).toNat)
  case atStart => exact ⟨0, Nat.zero_le _, rfl, ⟨_, _, rfl⟩, h3⟩
  case round =>
    obtain ⟨k, hk, rfl, ⟨oa, oc, rfl⟩, h4⟩ := hrel
    clear h3
    have hb := h4.out.st (t := l.length) (app_get (app_get app_last))
    have hb2 := h4.out.st (t := (l ++ [StK bx #[cv, tv, nv, xv, wv] 53]).length) (app_get app_last)
    by_cases hlt : k < N
    · have hrl := rR_len ss hd k
      have hcl := chainL_len ss (rR ss hd k) (hd k)
      have hhk := hhd2.out k (by omega)
      obtain ⟨g, cc, cur, hcv, hg, hcc⟩ := (Rd.sl h4.out (app_get (app_get (app_get rw_.c)))).at_ (i := (base + k).toNat) (by omega)
      subst hcv
      have hltb : base + (k : Int) < (cells.length : Int) := by omega
      have hgeb : 0 ≤ base + (k : Int) := by omega
      have hwb : IntKind.i64.wrap (base + (k : Int)) = base + (k : Int) := by rw [IntKind.wrap_i64]; omega
      have hkN : (k : Int) < N := by omega
      have hch := ref05_chain (cv := .slice (some ⟨g, 0, none⟩) cells.length cc) (tv := tv) (wv := wv) h4.out.drew (app_get (app_get (app_get rw_.n))) (app_get (app_get (app_get rw_.x))) (tm := (l ++ [StK bx #[.slice (some ⟨g, 0, none⟩) cells.length cc, tv, nv, xv, wv] 53] ++ [StK bd #[.int .i64 N, .int .i64 base] 70]).length) (met := rR ss hd k) app_last nok hss (cells.getD (base + k).toNat 0) (hu _)
      rw [← hhk] at hch hcc
      have hsucc : rR ss hd (k + 1) = rR ss hd k ++ chainL ss (rR ss hd k) (hd k) := rfl
      generalize chainL ss (rR ss hd k) (hd k) = C at *
      generalize hd k = y at *
      generalize rR ss hd k = out at *
      replace hsucc := hide hsucc
      replace hch := hide hch
      have hcl2 : cells.length ≤ 1048576 := hlen.2
      replace hlen := hide hlen
      clear hu hhk
      go_wp2_with fail
      have hL : (l ++ [StK bx #[.slice (some ⟨g, 0, none⟩) cells.length cc, tv, nv, xv, wv] 53] ++ [StK bd #[.int .i64 N, .int .i64 base] 70]).length = l.length + 2 := by simp
      replace hL := hide hL
      replace h4 := hide h4
      go_region_law (first | (refine step_src_u64 rfl (.tmp 14) (.tmp 25) rfl _ _ _ rfl hs1 _ _ _ rfl hs2 (ints_one' _) (by omega) ?_; intro v' w7 o1 hs3 he1; obtain ⟨a7, c7, rfl⟩ := hs3.value; have h7 := hide (hr.out.step (t := (l ++ [StK bx #[.slice (some ⟨g, 0, none⟩) cells.length cc, tv, nv, xv, wv] 53] ++ [StK bd #[.int .i64 N, .int .i64 base] 70]).length) (q := SlK 30 1 _ _ _) he1 (fun y hy => by omega) hs3); clear hr hs1 hs2 hs3 he1) | (go_simp; go_wp2_with (go_at_call 66; refine hch.out.mono ?_; rintro e w5 ⟨v5, rfl, h5⟩; obtain ⟨⟨ga5, gc5, rfl⟩, _⟩ := R.slVal h5 (t := (l ++ [StK bx #[.slice (some ⟨g, 0, none⟩) cells.length cc, tv, nv, xv, wv] 53] ++ [StK bd #[.int .i64 N, .int .i64 base] 70] ++ [SlK 30 1 (.slice oa out.length oc) out.length (out.map (Value.int .u64))]).length) app_last; obtain ⟨o, hr⟩ := h5; have hs1 := hr (l ++ [StK bx #[.slice (some ⟨g, 0, none⟩) cells.length cc, tv, nv, xv, wv] 53] ++ [StK bd #[.int .i64 N, .int .i64 base] 70]).length _ (app_get app_last); have hs2 := hr _ _ app_last; replace hr := hide hr)))
      all_goals
        have h8 := h7.out
        rw [List.set_append_left _ _ (by simp), List.set_append_right _ _ (Nat.le_refl _), Nat.sub_self, List.set_cons_zero] at h8
        have h9 := h8.left
        rw [← List.length_append, ← List.map_append, ← hsucc.out] at h9
        have hle : out.length + C.length = (rR ss hd (k + 1)).length := by rw [hsucc.out, List.length_append]
        rw [hle]
        replace h9 := hide h9
        replace hle := hide hle
        clear h7 h8
        go_wp2_with fail
        exact ⟨⟨k + 1, by omega, by go_num, ⟨_, _, rfl⟩, h9⟩, by simp [intOf]; omega⟩
    · obtain rfl : k = N := by omega
      have hfin : SomeU l (rR ss hd k) (.returned (.slice oa (rR ss hd k).length oc)) wr := ⟨_, rfl, R.dropMid (q := NoK) (R.dropMid (q := NoK) h4.out)⟩
      replace hfin := hide hfin
      clear h4
      go_wp2
      go_ret
      exact hfin.out
end
end Go.Proofs.Ytcoaemjoanbemaa

namespace Go.Proofs.Ytcoaemjoanbemaa
open Go.RowKit

def cells5 (wk : Nat) : List Int := 1 :: List.replicate (wk + 2) 0
def nilV : Value := .slice none 0 0
def NewPost5 (l : List KObj) (wk : Nat) (e : Ending) (w' : World) : Prop :=
  ∃ g g2, e = .returned (.agg #[.slice (some ⟨g, 0, none⟩) (wk + 3) (wk + 3), .slice (some ⟨g2, 0, none⟩) 1 1, nilV, nilV, nilV]) ∧
    R (l ++ [NoK, SlK 30 1 (.slice (some ⟨g, 0, none⟩) (wk + 3) (wk + 3)) (wk + 3) ((cells5 wk).map (Value.int .u64)), SlK 70 2 (.slice (some ⟨g2, 0, none⟩) 1 1) 1 (descL (1, (wk : Int) + 2))]) w'
theorem u64_info5 : (Try.prog.info? 30).map (fun i => (i.zero, i.size, i.bytes)) = some (some (.int .u64 0), 1, 8) := by kernel_rfl
set_option maxRecDepth 100000 in
set_option maxHeartbeats 800000 in
theorem ref05_new {l : List KObj} {w : World} (h : R l w) (wk : Nat) (h8 : wk ≤ 8) : Calls Try.prog 19 #[.int .i64 wk] w (NewPost5 l wk) := by
  obtain ⟨i0, hi, hz0, hz1, hz2⟩ := info_parts u64_info5
  have hmk := fun W => run_make (P := Try.prog) W 50 30 i0 (.int .u64 0) Try.underlying50 hi hz0 .i64 .i64 ((wk : Int) + 3) ((wk : Int) + 3) (by omega) (Int.le_refl _) (by rw [hz2]; omega) (by omega)
  rw [hz1] at hmk
  clear hi hz0 hz1 hz2
  have h1 := h.new #[nilV, nilV, nilV, nilV, nilV] 53
  have hb2 := h1.st (t := l.length) app_last
  have hlt := lt_of_blk hb2
  dsimp only [nilV] at *
  clear h
  go_enter Try.func19, Try.ntmps19
  go_upto_region 1 with fail
  generalize w.alloc (.cells #[.slice none 0 0, .slice none 0 0, .slice none 0 0, .slice none 0 0, .slice none 0 0] 53) = w1 at *
  generalize w.heap.size = b2 at *
  have R2 := h1.made (T := 30) (madeCells #[Value.int .u64 0] (wk + 3)) (wk + 3) 1 (by unfold maxLen; omega) (by simp [madeCells])
  have R3 := R2.made (T := 70) #[.int .i64 1, .int .i64 ((wk : Int) + 2)] 1 2 (by unfold maxLen; omega) rfl
  have z1 : ∀ (W : World) (x : Obj), (W.alloc x).heap.size = W.heap.size + 1 := fun W x => by simp
  have hmc := madeCells_one (.int .u64 0) rfl (wk + 3)
  rw [show (Value.int IntKind.u64 0).cells = #[Value.int IntKind.u64 0] from rfl] at hmc
  have R4 := R3.new #[.slice (some ⟨w1.heap.size, 0, none⟩) (wk + 3) (wk + 3), .slice (some ⟨w1.heap.size + 1, 0, none⟩) 1 1, .slice none 0 0, .slice none 0 0, .slice none 0 0] 53
  rw [z1, z1, z1, hmc] at R4
  rw [List.append_assoc, List.append_assoc, List.append_assoc] at R4
  have R5 : R (l ++ [StK b2 #[.slice none 0 0, .slice none 0 0, .slice none 0 0, .slice none 0 0, .slice none 0 0] 53, SlK 30 1 (.slice (some ⟨w1.heap.size, 0, none⟩) (wk + 3) (wk + 3)) (wk + 3) (List.replicate (wk + 3) (.int .u64 0)), SlK 70 2 (.slice (some ⟨w1.heap.size + 1, 0, none⟩) 1 1) 1 [.int .i64 1, .int .i64 ((wk : Int) + 2)], StK (w1.heap.size + 1 + 1) #[.slice (some ⟨w1.heap.size, 0, none⟩) (wk + 3) (wk + 3), .slice (some ⟨w1.heap.size + 1, 0, none⟩) 1 1, .slice none 0 0, .slice none 0 0, .slice none 0 0] 53]) _ := R4
  clear R2 R3 R4 z1
  have hb3 := R5.st (getP (i := 3) rfl)
  have hb2' := R5.st (getP (i := 0) rfl)
  obtain ⟨g', cap', cur, hv', hg, _, _, hcc⟩ := R5.slRow (getP (i := 1) rfl) (by omega)
  simp at hv'
  obtain ⟨rfl, rfl⟩ := hv'
  have hc0 := hcc 0 (.int .u64 0) (by simp [List.replicate_succ])
  have R6 := R5.putRow (getP (i := 1) rfl) 0 (.int .u64 1) (by omega)
  rw [setP] at R6
  have R7 := (((((R6.put (getP (i := 0) rfl) 0 (.slice (some ⟨w1.heap.size, 0, none⟩) (wk + 3) (wk + 3))).put (set_get (getP (i := 0) rfl)) 1 (.slice (some ⟨w1.heap.size + 1, 0, none⟩) 1 1)).put (set_get (set_get (getP (i := 0) rfl))) 2 (.slice none 0 0)).put (set_get (set_get (set_get (getP (i := 0) rfl)))) 3 (.slice none 0 0)).put (set_get (set_get (set_get (set_get (getP (i := 0) rfl))))) 4 (.slice none 0 0))
  replace R7 := hide R7
  have hlt2 := lt_of_blk hb2
  go_upto_region 2 with fail
  generalize ((w1.alloc (.cells (madeCells #[Value.int .u64 0] (wk + 3)) 30)).alloc (.cells #[.int .i64 1, .int .i64 ((wk : Int) + 2)] 70)).alloc (.cells #[.slice (some ⟨w1.heap.size, 0, none⟩) (wk + 3) (wk + 3), .slice (some ⟨w1.heap.size + 1, 0, none⟩) 1 1, .slice none 0 0, .slice none 0 0, .slice none 0 0] 53) = w4 at *
  generalize w1.heap.size = s at *
  have hn1 : b2 ≠ s := by omega
  have hn2 : b2 ≠ s + 1 + 1 := by omega
  have hn3 := hn1.symm
  have hn4 := hn2.symm
  have hn5 : s + 1 + 1 ≠ s := by omega
  have hw3 : ((wk : Int) + 3).toNat = wk + 3 := by omega
  clear hb2 h1 hlt2 hcc hmc hmk
  go_wp2_with fail
  have hb9 := R7.out.st (set_get (set_get (set_get (set_get (set_get (getP (i := 0) rfl))))))
  simp only [List.setIfInBounds_toArray, List.set_cons_zero, List.set_cons_succ] at hb9
  refine bodyPost_ret (by simp [results, Try.results19, go_sem, hb2', hn1, hn3]; rfl) rfl ?_
  refine ⟨s, s + 1, rfl, ?_⟩
  have h9 := R7.out.drop (l.length + 0)
  simp only [setP, List.set_cons_zero, List.set_cons_succ] at h9
  have h10 := R.left (m := [StK (s + 1 + 1) #[.slice (some ⟨s, 0, none⟩) (wk + 3) (wk + 3), .slice (some ⟨s + 1, 0, none⟩) 1 1, .slice none 0 0, .slice none 0 0, .slice none 0 0] 53]) (l := l ++ [NoK, SlK 30 1 (.slice (some ⟨s, 0, none⟩) (wk + 3) (wk + 3)) (wk + 3) ((List.replicate (wk + 3) (.int .u64 0)).set (0 * 1) (.int .u64 1)), SlK 70 2 (.slice (some ⟨s + 1, 0, none⟩) 1 1) 1 [.int .i64 1, .int .i64 ((wk : Int) + 2)]]) (by rw [List.append_assoc]; exact h9)
  have e : (cells5 wk).map (Value.int .u64) = (List.replicate (wk + 3) (Value.int .u64 0)).set (0 * 1) (.int .u64 1) := by
    simp [cells5, List.replicate_succ]
  rw [e]
  exact h10
end Go.Proofs.Ytcoaemjoanbemaa

namespace Go.Proofs.Ytcoaemjoanbemaa
open Go.RowKit

theorem R.moveSl5 {l : List KObj} {w : World} {u : Nat} {T : TypeId} {k : Nat} {v : Value} {n : Nat} {cs : List Value} (h : R (l ++ [SlK T k v n cs]) w) (hu : u < l.length) : R (l.set u (SlK T k v n cs)) w :=
  h.join (parts := [SlK T k v n cs]) hu id fun o o' hk hm => SlAt.re (hk 0 _ rfl) fun k hk2 => by simpa using hm k 0 (by simp) hk2
theorem R.madeC {l : List KObj} {w : World} {T : TypeId} (h : R l w) (cur : Array Value) (n cap k : Nat) (cs : List Value) (hn : n ≤ cap) (hm : cap ≤ maxLen) (hs : cur.size = cap * k) (hcs : cur.toList.take (n * k) = cs) :
    R (l ++ [SlK T k (.slice (some ⟨w.heap.size, 0, none⟩) n cap) n cs]) (w.alloc (.cells cur T)) := by
  obtain ⟨o, h⟩ := h
  exact h.add (((Ext.refl o w (fun _ => False)).retag (16 * l.length)).alloc _) (fun _ => False.elim) (SlAt.made cur n cap hn hm hs hcs (upd_new (Nat.le_refl _)))

section
variable {l : List KObj} {w : World} {t n : Nat} {ops : Array Oper} {op : Oper} {a : Act} {K : Act → World → Prop} {Q : Exit → Act → World → Prop} {E : Prop}
/-- append(xs, x), numbers, xs an object. -/
theorem stepR_push {v : Value} {xs : List Int} (hgd : op.guard = none) (s x : Operand)
    (ho : op.op = .call { callee := .builtin .append, args := #[s, x], argTypes := #[50, 50] })
    (h : R l w) (ht : l[t]? = some (SxK 30 1 v n (xs.map (Value.int .u64)))) (hs : a.eval s = v) (g c : Nat) (y : Int) (hx : a.eval x = .slice (some ⟨g, 0, none⟩) 1 c)
    (hg : blk w g = some (.cells #[.int .u64 y] 30 (0, 0))) (hb : n + 1 ≤ 1073741824)
    (hk : ∀ v' w', (∃ a c, v' = .slice a (n + 1) c) → R (l.set t (SxK 30 1 v' (n + 1) ((xs ++ [y]).map (Value.int .u64)))) w' → (∀ k c, v.ownBlock ≠ some k → blk w k = some c → blk w' k = some c) → K (a.put op.dst v') w') :
    if Region.wanted op (yielded ops a.tmps) = true then Oper.wp Try.prog op a w K Q else E := by
  have hw : Region.wanted op (yielded ops a.tmps) = true := by simp [Region.wanted, hgd]
  rw [if_pos hw]
  obtain ⟨o, hr0, hown⟩ := h.get ht
  obtain ⟨i0, hi, hz0, hz1, hz2⟩ := info_parts info_u64
  obtain ⟨v', w', o', hr, h2, h3, h4⟩ := run_append_sx (P := Try.prog) 50 op.type 30 i0 (.int .u64 0) 1 8 Try.underlying50 hi hz0 hz1 hz2 rfl (by decide) v n (xs.map (Value.int .u64)) hown ⟨g, 0, none⟩ 1 c [.int .u64 y] rfl (fun j u' hj => by
    rw [addr_add, cellq, hg]
    match j, hj with
    | 0, hj => simp at hj; subst hj; rfl
    | j + 1, hj => simp at hj) (fun u' hu => by simp at hu; subst hu; rfl) (by simp only [maxLen]; omega) (by omega)
  unfold Oper.wp execOp
  simp only [ho, resolve, invoke, builtin, Sem.run_bind, Sem.run_pure, Result.andThen_ok, List.map_toArray, List.map_cons, List.map_nil, hs, hx, hr]
  refine hk v' w' ?_ (hr0.step h3 (fun z hz => by omega) (by rw [List.map_append]; exact h2)) fun k c hne hc => (h4.block k (lt_of_blk hc) (fun e => hne e.symm)).trans hc
  exact h2.value
/-- append(xs[:j:j], xs[j + 1:]...), xs an object. -/
theorem stepR_cut {g cap : Nat} {xs : List Int} (hgd : op.guard = none) (s x : Operand)
    (ho : op.op = .call { callee := .builtin .append, args := #[s, x], argTypes := #[50, 50] })
    (h : R l w) (ht : l[t]? = some (SxK 30 1 (.slice (some ⟨g, 0, none⟩) n cap) n (xs.map (Value.int .u64)))) (j : Nat) (hj : j < n) (hs : a.eval s = .slice (some ⟨g, 0, none⟩) j j) (hx : a.eval x = .slice (some (restA g cap j)) (n - (j + 1)) (cap - (j + 1)))
    (hb : n ≤ 1073741824)
    (hk : ∀ v' w', (∃ a c, v' = .slice a (j + (n - (j + 1))) c) → R (l.set t (SxK 30 1 v' (j + (n - (j + 1))) ((xs.take j ++ xs.drop (j + 1)).map (Value.int .u64)))) w' → (∀ k c, g ≠ k → blk w k = some c → blk w' k = some c) → K (a.put op.dst v') w') :
    if Region.wanted op (yielded ops a.tmps) = true then Oper.wp Try.prog op a w K Q else E := by
  have hw : Region.wanted op (yielded ops a.tmps) = true := by simp [Region.wanted, hgd]
  rw [if_pos hw]
  obtain ⟨_, hln, _⟩ := h.sxVal ht
  rw [List.length_map, Nat.mul_one] at hln
  obtain ⟨g9, cp9, cur9, hv9, hgb9, hncp, _, hc9⟩ := h.sxRow ht hj
  simp at hv9
  obtain ⟨rfl, rfl⟩ := hv9
  obtain ⟨o, hr0, hs0⟩ := h.get ht
  have hs2 := SxAt.cut (T := 30) (k := 1) (cs := xs.map (Value.int .u64)) hs0 (j := j) (by omega)
  rw [Nat.mul_one, ← List.map_take] at hs2
  have hrest := restA_at (j := j) (cs := xs.map (Value.int .u64)) hgb9 hncp (fun i u hi => by
    have hil : i < n := by have := (List.getElem?_eq_some_iff.1 hi).1; rw [List.length_map] at this; omega
    rw [hc9 i hil]
    rw [List.getElem?_map] at hi
    rw [← hi, List.getD_eq_getElem?_getD, List.getElem?_eq_getElem (by omega)]
    rfl) (by rw [List.length_map]; exact hln)
  rw [← List.map_drop] at hrest
  have hrl : ((xs.drop (j + 1)).map (Value.int .u64)).length = (n - (j + 1)) * 1 := by rw [List.length_map, List.length_drop, hln]; omega
  obtain ⟨i0, hi, hz0, hz1, hz2⟩ := info_parts info_u64
  obtain ⟨v', w', o', hr, h2, h3, h4⟩ := run_append_sx (P := Try.prog) 50 op.type 30 i0 (.int .u64 0) 1 8 Try.underlying50 hi hz0 hz1 hz2 rfl (by decide) _ j _ hs2 (restA g cap j) (n - (j + 1)) (cap - (j + 1)) _ hrl hrest (by intro u hu; obtain ⟨_, _, rfl⟩ := List.mem_map.1 hu; rfl) (by simp only [maxLen]; omega) (by omega)
  unfold Oper.wp execOp
  simp only [ho, resolve, invoke, builtin, Sem.run_bind, Sem.run_pure, Result.andThen_ok, List.map_toArray, List.map_cons, List.map_nil, hs, hx, hr]
  refine hk v' w' ?_ (hr0.step h3 (fun z hz => by omega) (by rw [List.map_append]; exact h2)) fun k c hne hc => (h4.block k (lt_of_blk hc) (fun e => hne (by simp [Value.ownBlock] at e; exact e.symm))).trans hc
  exact h2.value
end
end Go.Proofs.Ytcoaemjoanbemaa
