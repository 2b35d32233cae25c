/- Package walk: a walk as one object; what its calls come to. Condition: the memory and the walk are there. Package walk: Step, Found, Prev, First, Read over a walk; a walk as a kind of frame. Condition: the memory and the walk are there. -/
import Derived.Test.YtcgfknpobifecaaGreatLa02m
import Derived.Laws.EntriesVeiled
import Derived.Deep.RegionHeld3
import Derived.Deep.DeepCutAuto
import Derived.Deep.CutBlock
namespace Go.Proofs.YtcgfknpobifecaaGreat
open Go.RowKit

structure WalkS where
  cell : Int
  sum : Int
  key : ByteArray
  looking : Bool
  first : Int
  prev : Int
  at_ : Int
  node : Nd
  found : Bool
  read : Int
def walkC (b : Nat) (s : WalkS) : Array Value := #[.int .i64 s.cell, .int .u32 s.sum, .string s.key, .func (.func (if s.looking then 128 else 109)) #[.pointer (some ⟨b, 0, none⟩)] #[], .int .u64 s.first, .int .u64 s.prev, .int .u64 s.at_,
  .string s.node.key, .string s.node.val, .int .u32 s.node.sum, .int .u64 s.node.next, .bool s.found, .int .i64 s.read]
def WalkK (b : Nat) (s : WalkS) : KObj := StK b (walkC b s) 150
def cellAt (m : MemS) (i : Int) : Int := if 0 ≤ i then m.cells.getD i.toNat 0 else 0
def walkStep (m : MemS) (s : WalkS) : MemS × WalkS × Bool :=
  if s.looking then
    if useCode m.ss s.at_ = 0 then
      let n := readNd m.ss s.at_
      if n.sum = s.sum ∧ n.key = s.key then (m, { s with node := n, found := true, read := wrap64 (s.read + 1) }, true)
      else (m, { s with prev := s.at_, at_ := n.next, read := wrap64 (s.read + 1) }, decide (n.next = 0))
    else ({ m with fault := true }, s, true)
  else (m, { s with first := cellAt m s.cell, at_ := cellAt m s.cell, looking := true }, decide (cellAt m s.cell = 0))
structure WalkOk (s : WalkS) : Prop where
  at_ : U64 s.at_
def walk0 (cell sum : Int) (key : ByteArray) : WalkS := ⟨cell, sum, key, false, 0, 0, 0, nd0, false, 0⟩
theorem cellAt_u64 {m : MemS} (h : MemOk m) (i : Int) : U64 (cellAt m i) := by
  unfold cellAt
  split
  · exact h.cell _
  · exact ⟨by decide, by decide⟩

theorem ByteArray.toList_inj' {a b : ByteArray} (h : a.toList = b.toList) : a = b := by
  rw [ByteArray.toList_eq, ByteArray.toList_eq] at h
  exact ByteArray.ext (Array.toList_inj.1 h)
theorem lt_of_at' {l : List KObj} {t : Nat} {p : KObj} (h : l[t]? = some p) : t < l.length := (List.getElem?_eq_some_iff.1 h).1
theorem setL' (L P : List KObj) {t : Nat} (h : t < L.length) (p : KObj) : (L ++ P).set t p = L.set t p ++ P := List.set_append_left _ _ h
theorem R.putA {l P : List KObj} {w : World} {u b : Nat} {cs : Array Value} {T : TypeId} (h : R (l ++ P) w) (hu : l[u]? = some (StK b cs T)) (i : Nat) (v : Value) : R (l.set u (StK b (cs.setIfInBounds i v) T) ++ P) (w.setCell ⟨b, i, none⟩ v) := by
  have := h.put (app_get hu) i v
  rwa [setL' _ _ (lt_of_at' hu)] at this
theorem R.put4 {l : List KObj} {w : World} {B : Nat} {T : TypeId} {a0 a1 a2 a3 : Value} (h : R (l ++ [StK B #[a0, a1, a2, a3] T]) w) (x y z v : Value) :
    R (l ++ [StK B #[x, y, z, v] T]) ((((w.setCell ⟨B, 0, none⟩ x).setCell ⟨B, 1, none⟩ y).setCell ⟨B, 2, none⟩ z).setCell ⟨B, 3, none⟩ v) := by
  have := (((h.put app_last 0 x).put (set_get app_last) 1 y).put (set_get (set_get app_last)) 2 z).put (set_get (set_get (set_get app_last))) 3 v
  simp only [List.set_set] at this
  rw [List.set_append_right _ _ (Nat.le_refl _), Nat.sub_self, List.set_cons_zero] at this
  exact this
section
variable {l : List KObj} {w : World} {t u b : Nat} {m : MemS} {s : WalkS}
def cellCode (m : MemS) (i : Int) : Int := if 0 ≤ i ∧ i < m.cells.length then 0 else 2
theorem memR_loadAt (h : R l w) (ht : l[t]? = some (MemK m)) (i : Int) :
    Calls Tryz.prog 80 #[.pointer (some ⟨m.cb, 0, none⟩), .int .i64 i] w fun e w' => e = .returned (.tuple #[.int .u64 (cellAt m i), .int .i64 (cellCode m i)]) ∧ w = w' := by
  unfold cellAt cellCode
  by_cases h0 : 0 ≤ i
  · by_cases h1 : i < m.cells.length
    · rw [if_pos h0, if_pos ⟨h0, h1⟩]
      exact memR_load h ht i h0 h1
    · rw [if_pos h0, if_neg (fun x => h1 x.2), List.getD_eq_getElem?_getD, List.getElem?_eq_none (by omega)]
      exact memR_load_no h ht i (.inr (by omega))
  · rw [if_neg h0, if_neg (fun x => h0 x.1)]
    exact memR_load_no h ht i (.inl (by omega))

set_option maxHeartbeats 400000 in
theorem walk_new (h : R l w) (cell sum : Int) (key : ByteArray) : Calls Tryz.prog 78 #[.int .i64 cell, .int .u32 sum, .string key] w fun e w' => ∃ b, e = .returned (.pointer (some ⟨b, 0, none⟩)) ∧ R (l ++ [WalkK b (walk0 cell sum key)]) w' := by
  have hn := hide (h.new (walkC w.heap.size (walk0 cell sum key)) 150)
  clear h
  go_enter Tryz.func78, Tryz.ntmps78
  go_wp2
  go_ret
  exact ⟨_, rfl, hn.out⟩

set_option maxHeartbeats 800000 in
theorem walk_load (h : R l w) (ht : l[t]? = some (MemK m)) (hu : l[u]? = some (WalkK b s)) (hk : s.looking = false) :
    Calls Tryz.prog 109 #[.pointer (some ⟨b, 0, none⟩), .pointer (some ⟨m.b, 0, none⟩)] w (Does ((l.set t (MemK (walkStep m s).1)).set u (WalkK b (walkStep m s).2.1)) (.bool (walkStep m s).2.2)) := by
  have e : walkStep m s = (m, { s with first := cellAt m s.cell, at_ := cellAt m s.cell, looking := true }, decide (cellAt m s.cell = 0)) := by rw [walkStep, if_neg (by rw [hk]; decide)]
  rw [e]
  dsimp only
  rw [set_same ht]
  obtain ⟨tv, wv, hm⟩ := h.memHdr ht
  have hs := h.st hu
  have hld := hide fun k => (memR_loadAt (h.drewN k) ht s.cell)
  generalize hv : cellAt m s.cell = v at *
  have hp := hide fun k => ((((h.drewN k).put hu 4 (.int .u64 v)).put (set_get hu) 6 (.int .u64 v)).put (set_get (set_get hu)) 3 (.func (.func 128) #[.pointer (some ⟨b, 0, none⟩)] #[]))
  dsimp only [walkC] at hs
  clear h e
  go_enter Tryz.func109, Tryz.ntmps109
  go_wp2_with fail
  go_quiet (exact quiet_left (hld.out _))
  go_wp2
  go_ret
  have := hp.out nq
  rw [List.set_set, List.set_set] at this
  exact ⟨by congr 2, this⟩

set_option maxHeartbeats 1600000 in
theorem walk_look (h : R l w) (ht : l[t]? = some (MemK m)) (hu : l[u]? = some (WalkK b s)) (hne : t ≠ u) (hk : s.looking = true) (hok : WalkOk s) :
    Calls Tryz.prog 128 #[.pointer (some ⟨b, 0, none⟩), .pointer (some ⟨m.b, 0, none⟩)] w (Does ((l.set t (MemK (walkStep m s).1)).set u (WalkK b (walkStep m s).2.1)) (.bool (walkStep m s).2.2)) := by
  obtain ⟨tv, wv, hm⟩ := h.memHdr ht
  have hs := h.st hu
  dsimp only [walkC] at hs
  have hrd := memR_read (l := l ++ [StK w.heap.size #[.string ⟨#[]⟩, .string ⟨#[]⟩, .int .u32 0, .int .u64 0] 103]) (w := (w.alloc (.cells #[.string ⟨#[]⟩, .string ⟨#[]⟩, .int .u32 0, .int .u64 0] 103)).drew) (h.new _ _).drew (app_get ht) s.at_ hok.at_
  rw [setL' _ _ (lt_of_at' ht)] at hrd
  have hrd2 := memR_read (w := w.drew) h.drew ht s.at_ hok.at_
  dsimp only [ndV] at hrd hrd2
  have hlt := lt_of_blk hs
  have hlm := lt_of_blk hm
  by_cases hc : useCode m.ss s.at_ = 0
  · have hi : 0 ≤ atA m.ss s.at_ := by
      unfold useCode at hc
      split at hc
      · assumption
      · split at hc <;> omega
    have hf : useFault m.ss s.at_ m.fault = m.fault := by rw [useFault, if_pos hi]
    have hnok := (h.memOk ht).read s.at_
    rw [hc, hf, set_same ht] at hrd hrd2
    generalize hn : readNd m.ss s.at_ = n at *
    replace hrd := hide hrd
    replace hrd2 := hide hrd2
    generalize hQ : Does ((l.set t (MemK (walkStep m s).1)).set u (WalkK b (walkStep m s).2.1)) (.bool (walkStep m s).2.2) = Q
    replace hQ := hide hQ
    go_enter Tryz.func128, Tryz.ntmps128
    go_upto_region 1 with fail
    go_cut [5, 6] (fun p c wx => ∃ B, p = .pointer (some ⟨B, 0, none⟩) ∧ c = .int .i64 0 ∧ R (l ++ [StK B #[.string n.key, .string n.val, .int .u32 n.sum, .int .u64 n.next] 103]) wx)
    case first =>
      go_region_with (first | (go_at_call 50; refine hrd.out.mono ?_; rintro e w2 ⟨rfl, h2⟩; have hz := h2.st (t := l.length) app_last) | (go_at_call 50; refine hrd2.out.mono ?_; rintro e w2 ⟨rfl, h2⟩))
      all_goals
        go_wp2_with fail
        go_meet
        case rel => first | exact ⟨_, rfl, rfl, h2.new _ _⟩ | exact ⟨_, rfl, rfl, h2.put4 _ _ _ _⟩
    case rest =>
      obtain ⟨B, rfl, rfl, h3⟩ := hcut
      clear hm hs hrd hrd2 h hlt hlm
      have hs3 := h3.st (app_get hu)
      have hn3 := h3.st app_last
      dsimp only [walkC] at hs3
      have hneB := ne_of_type hn3 hs3 (by decide)
      have hneB2 := hneB.symm
      have hp1 := h3.putA hu 12 (.int .i64 (wrap64 (s.read + 1)))
      by_cases hmt : n.sum = s.sum ∧ n.key = s.key
      · have e : walkStep m s = (m, { s with node := n, found := true, read := wrap64 (s.read + 1) }, true) := by
          rw [walkStep, if_pos hk, if_pos hc, hn]; exact if_pos hmt
        obtain ⟨hm1, hm2⟩ := hmt
        have hQ2 := hQ.out
        rw [e] at hQ2
        dsimp only at hQ2
        rw [set_same ht] at hQ2
        have hp2 := fun k => ((((((hp1.drewN k).putA (set_get hu) 7 (.string n.key)).putA (set_get (set_get hu)) 8 (.string n.val)).putA (set_get (set_get (set_get hu))) 9 (.int .u32 n.sum)).putA (set_get (set_get (set_get (set_get hu)))) 10 (.int .u64 n.next)).putA (set_get (set_get (set_get (set_get (set_get hu))))) 11 (.bool true)).left
        simp only [List.set_set] at hp2
        replace hQ2 := hide hQ2
        clear h3 hp1 hnok hQ e hn
        obtain ⟨nk, nv, ns, nx⟩ := n
        dsimp only at hm1 hm2 hp2 hn3 hQ2
        subst hm1 hm2
        replace hp2 := hide hp2
        go_wp2_with fail
        go_quiet (fail)
        go_wp2
        rw [← hQ2.out]
        exact ⟨rfl, hp2.out _⟩
      · have e : walkStep m s = (m, { s with prev := s.at_, at_ := n.next, read := wrap64 (s.read + 1) }, decide (n.next = 0)) := by
          rw [walkStep, if_pos hk, if_pos hc, hn]; exact if_neg hmt
        have hQ2 := hQ.out
        rw [e] at hQ2
        dsimp only at hQ2
        rw [set_same ht] at hQ2
        have hp2 := fun k => (((hp1.drewN k).putA (set_get hu) 5 (.int .u64 s.at_)).putA (set_get (set_get hu)) 6 (.int .u64 n.next)).left
        simp only [List.set_set] at hp2
        replace hQ2 := hide hQ2
        replace hp2 := hide hp2
        clear h3 hp1 hnok hQ e hn
        by_cases hsm : n.sum = s.sum
        · have hky : n.key ≠ s.key := fun x => hmt ⟨hsm, x⟩
          have hk1 : (n.key.toList == s.key.toList) = false := by
            rw [beq_eq_false_iff_ne]
            exact fun x => hky (ByteArray.toList_inj' x)
          clear hmt
          rw [hsm] at hn3
          go_wp2_with fail
          go_quiet (fail)
          go_wp2_with fail
          go_region
          all_goals
            go_wp2
            rw [← hQ2.out]
            exact ⟨by congr 2, hp2.out _⟩
        · have hs1 : (n.sum == s.sum) = false := by simp [hsm]
          clear hmt
          go_wp2_with fail
          go_quiet (fail)
          go_wp2_with fail
          go_region
          all_goals
            go_wp2
            rw [← hQ2.out]
            exact ⟨by congr 2, hp2.out _⟩
  · have hi : ¬ 0 ≤ atA m.ss s.at_ := fun x => hc (by rw [useCode, if_pos x])
    have hf : useFault m.ss s.at_ m.fault = true := by rw [useFault, if_neg hi]
    have e : walkStep m s = ({ m with fault := true }, s, true) := by rw [walkStep, if_pos hk, if_neg hc]
    rw [e]
    dsimp only
    rw [set_same (set_other hu hne)]
    have hcode : useCode m.ss s.at_ = 3 ∨ useCode m.ss s.at_ = 6 := by
      rw [useCode, if_neg hi]
      by_cases hz : s.at_ = 0
      · exact .inl (if_pos hz)
      · exact .inr (if_neg hz)
    rw [hf] at hrd hrd2
    generalize useCode m.ss s.at_ = cd at *
    generalize readNd m.ss s.at_ = n at *
    replace hrd := hide hrd
    replace hrd2 := hide hrd2
    have hcd : (cd != 0) = true := by rcases hcode with rfl | rfl <;> rfl
    clear e hc hi hf hcode
    go_enter Tryz.func128, Tryz.ntmps128
    go_upto_region 1 with fail
    go_cut [6] (fun c wx => c = .int .i64 cd ∧ R (l.set t (MemK { m with fault := true })) wx)
    case first =>
      go_region_with (first | (go_at_call 50; refine hrd.out.mono ?_; rintro e w2 ⟨rfl, h2⟩; have hz := h2.st (t := (l.set t (MemK { m with fault := true })).length) app_last) | (go_at_call 50; refine hrd2.out.mono ?_; rintro e w2 ⟨rfl, h2⟩))
      all_goals
        go_wp2_with fail
        go_meet
        case rel => first | exact ⟨rfl, h2.alloc _⟩ | exact ⟨rfl, (h2.put4 _ _ _ _).left⟩
    case rest =>
      obtain ⟨rfl, h3⟩ := hcut
      replace h3 := hide h3
      clear hm hs hrd hrd2 h hlt hlm
      go_wp2
      go_ret
      exact ⟨rfl, h3.out⟩
end
end Go.Proofs.YtcgfknpobifecaaGreat

namespace Go.Proofs.YtcgfknpobifecaaGreat
open Go.RowKit

section
variable {l : List KObj} {w : World} {t u b : Nat} {m : MemS} {s : WalkS}
theorem walk_ready (a p : Value) (w : World) : Calls Tryz.prog 215 #[a, p] w fun e w' => e = .returned (.bool true) ∧ w = w' := by
  go_enter Tryz.func215, Tryz.ntmps215
  go_wp2
  go_ret
  exact ⟨rfl, rfl⟩
set_option maxHeartbeats 400000 in
theorem walk_step (h : R l w) (ht : l[t]? = some (MemK m)) (hu : l[u]? = some (WalkK b s)) (hne : t ≠ u) (hok : WalkOk s) :
    Calls Tryz.prog 110 #[.pointer (some ⟨b, 0, none⟩), .pointer (some ⟨m.b, 0, none⟩)] w (Does ((l.set t (MemK (walkStep m s).1)).set u (WalkK b (walkStep m s).2.1)) (.bool (walkStep m s).2.2)) := by
  have hs := h.st hu
  dsimp only [walkC] at hs
  cases hk : s.looking
  · have hc := hide (walk_load h ht hu hk)
    rw [hk] at hs
    simp only [Bool.false_eq_true, if_false] at hs
    replace hk := hide hk
    clear h
    go_enter Tryz.func110, Tryz.ntmps110
    go_wp2_with fail
    refine hc.out.mono ?_
    rintro e w2 ⟨rfl, h2⟩
    replace h2 := hide h2
    go_wp2
    go_ret
    exact ⟨rfl, h2.out⟩
  · have hc := hide (walk_look h ht hu hne hk hok)
    rw [hk] at hs
    simp only [if_true] at hs
    replace hk := hide hk
    clear h
    go_enter Tryz.func110, Tryz.ntmps110
    go_wp2_with fail
    refine hc.out.mono ?_
    rintro e w2 ⟨rfl, h2⟩
    replace h2 := hide h2
    go_wp2
    go_ret
    exact ⟨rfl, h2.out⟩

def foundV (s : WalkS) : Value := if s.found then .tuple #[.int .u64 s.at_, ndV s.node, .bool true] else .tuple #[.int .u64 0, ndV nd0, .bool false]
set_option maxHeartbeats 800000 in
theorem walk_found (h : R l w) (hu : l[u]? = some (WalkK b s)) : Calls Tryz.prog 46 #[.pointer (some ⟨b, 0, none⟩)] w (Does l (foundV s)) := by
  have hs := h.st hu
  have hlt := lt_of_blk hs
  dsimp only [walkC] at hs
  unfold foundV
  cases hk : s.found
  · rw [hk] at hs
    have hR := hide (h.alloc (.cells #[.string ⟨#[]⟩, .string ⟨#[]⟩, .int .u32 0, .int .u64 0] 103))
    clear hk h
    dsimp only [ndV, nd0]
    go_enter Tryz.func46, Tryz.ntmps46
    go_wp2
    refine bodyPost_ret (by simp [results, Tryz.results46, go_sem]; rfl) rfl ?_
    exact ⟨by simp, hR.out⟩
  · rw [hk] at hs
    have hR := hide (h.alloc (.cells #[.string s.node.key, .string s.node.val, .int .u32 s.node.sum, .int .u64 s.node.next] 103)).drew
    clear hk h
    dsimp only [ndV, nd0]
    go_enter Tryz.func46, Tryz.ntmps46
    go_wp2_with fail
    go_region
    all_goals
      go_wp2
      refine bodyPost_ret (by simp [results, Tryz.results46, go_sem]; rfl) rfl ?_
      exact ⟨by simp, hR.out⟩
set_option maxHeartbeats 400000 in
theorem walk_prev (h : R l w) (hu : l[u]? = some (WalkK b s)) : Calls Tryz.prog 132 #[.pointer (some ⟨b, 0, none⟩)] w fun e w' => e = .returned (.int .u64 s.prev) ∧ w = w' := by
  have hs := h.st hu
  dsimp only [walkC] at hs
  go_enter Tryz.func132, Tryz.ntmps132
  go_wp2
  go_ret
  exact ⟨rfl, rfl⟩
set_option maxHeartbeats 400000 in
theorem walk_first (h : R l w) (hu : l[u]? = some (WalkK b s)) : Calls Tryz.prog 102 #[.pointer (some ⟨b, 0, none⟩)] w fun e w' => e = .returned (.int .u64 s.first) ∧ w = w' := by
  have hs := h.st hu
  dsimp only [walkC] at hs
  go_enter Tryz.func102, Tryz.ntmps102
  go_wp2
  go_ret
  exact ⟨rfl, rfl⟩
end
theorem walk_frame (b : Nat) : FrameAt 98 215 110 b := ⟨fun n w => by kernel_rfl, fun n w => by kernel_rfl, fun n w => by kernel_rfl, fun a w => by kernel_rfl, fun a w => by kernel_rfl, fun n w => by kernel_rfl⟩
theorem walkK : FrameK 98 215 110 WalkK (fun _ s => WalkOk s) (fun _ _ => true) walkStep where
  at_ := walk_frame
  ready_ h _ _ _ _ := (walk_ready _ _ _).mono fun e w' ⟨h1, h2⟩ => ⟨h1, h2 ▸ h⟩
  step_ h ht hu hne hi _ := walk_step h ht hu hne hi
  inv {m s} hm hi _ := by
    unfold walkStep
    split
    · split
      · dsimp only
        split
        · exact ⟨hi.at_⟩
        · exact ⟨(hm.read s.at_).1⟩
      · exact hi
    · exact ⟨cellAt_u64 hm _⟩
  blk m s := by
    unfold walkStep
    split
    · split
      · dsimp only; split <;> rfl
      · rfl
    · rfl
theorem WalkOk.start (c x : Int) (k : ByteArray) : WalkOk (walk0 c x k) := ⟨⟨by show (0 : Int) ≤ 0; decide, by show (0 : Int) ≤ 18446744073709551615; decide⟩⟩
end Go.Proofs.YtcgfknpobifecaaGreat
