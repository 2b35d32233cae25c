/- Package del: New, look, retire, drop, Had, Mine. Condition: the memory and the del are there. -/
import Derived.Test.YtcgfknpobifecaaGreatDtm
namespace Go.Proofs.YtcgfknpobifecaaGreat
open Go.RowKit

section
variable {l : List KObj} {w : World} {t u b : Nat} {m : MemS} {s : DelS}
set_option maxHeartbeats 800000 in
theorem del_new (h : R l w) (k : Nat) (key : ByteArray) (hk : key.size ≤ 9223372036854775807) : Calls Tryz.prog 27 #[.int .i64 k, .string key] w fun e w' => ∃ b, e = .returned (.pointer (some ⟨b, 0, none⟩)) ∧ R (l ++ [DelK b (del0 k key)]) w' := by
  have hsm := hide fun W => fnv_sum key hk W
  have h1 := h.new #[.string key, .int .u32 (sumOf key), .nilFunc, .pointer none, .bool false, .int .i64 0, .pointer none, .int .u64 0] 123
  have hn := hide (hold_new h1 k (sumOf key))
  have hsl := sumOf_lt key
  clear h h1
  go_enter Tryz.func27, Tryz.ntmps27
  go_wp2_with fail
  refine (hsm.out _).mono ?_
  rintro e w1 ⟨rfl, rfl⟩
  go_wp2_with fail
  refine hn.out.mono ?_
  rintro e w2 ⟨hb, rfl, h2⟩
  have h2' : R (l ++ [stF w.heap.size #[.string key, .int .u32 (sumOf key), .nilFunc, .pointer none, .bool false, .int .i64 0, .pointer none, .int .u64 0] 123, stF hb (holdC hb (hold0 k (sumOf key))) 147].map single) w2 := by rw [List.append_assoc] at h2; exact h2
  have hs2 := h2'.stP (i := 0) (b := w.heap.size) (cs := #[.string key, .int .u32 (sumOf key), .nilFunc, .pointer none, .bool false, .int .i64 0, .pointer none, .int .u64 0]) (T := 123) rfl
  have h3 := (h2'.putP (i := 0) (b := w.heap.size) (cs := #[.string key, .int .u32 (sumOf key), .nilFunc, .pointer none, .bool false, .int .i64 0, .pointer none, .int .u64 0]) (T := 123) rfl 3 (.pointer (some ⟨hb, 0, none⟩))).putP (i := 0) (b := w.heap.size) (cs := (#[.string key, .int .u32 (sumOf key), .nilFunc, .pointer none, .bool false, .int .i64 0, .pointer none, .int .u64 0] : Array Value).setIfInBounds 3 (.pointer (some ⟨hb, 0, none⟩))) (T := 123) rfl 2 (.func (.func 57) #[.pointer (some ⟨w.heap.size, 0, none⟩)] #[])
  have h4 : R (l ++ [DelK w.heap.size (del0 k key)]) _ := R.toExEnd (f := fun a => CompK (delParts w.heap.size (del0 k key) a)) (hb, 0) (R.packSelEnd (ps := [stF w.heap.size (delC w.heap.size hb 0 (del0 k key)) 123, stF hb (holdC hb (hold0 k (sumOf key))) 147]) h3 (fun j => j) (fun i q hq hi => by
    match i, hq with
    | 0, hq => exact .inl ⟨0, hq, rfl⟩
    | 1, hq => exact .inl ⟨1, hq, rfl⟩
    | 2, hq => exact .inr (Option.some.inj hq).symm
    | i + 3, hq => simp [delParts] at hq))
  replace h4 := hide h4
  clear hn h2 h2' h3 hsm
  go_wp2
  go_ret
  exact ⟨_, rfl, h4.out⟩
set_option maxHeartbeats 800000 in
theorem del_retire (h : R l w) (ht : l[t]? = some (MemK m)) (hu : l[u]? = some (DelK b s)) (hne : t ≠ u) (hok : DelOk m s) (hk : s.phase = 3) :
    Calls Tryz.prog 134 #[.pointer (some ⟨b, 0, none⟩), .pointer (some ⟨m.b, 0, none⟩)] w (Does ((l.set t (MemK (delStep m s).1)).set u (DelK b (delStep m s).2.1)) (.bool (delStep m s).2.2)) := by
  have hul := lt_of_get hu
  have htl := lt_of_get ht
  obtain ⟨⟨hb, wb⟩, h1⟩ := DelK.open_ h hu
  have hs := h1.stP (i := 0) (b := b) (cs := delC b hb wb s) (T := 123) rfl
  have hc := mem_retire h1 (memU ht hne) s.mine hok.mine (hok.wait (by omega))
  rw [setL' _ _ (by simpa using htl)] at hc
  dsimp only [delC] at hs
  rw [hk, show delF 3 = 134 from rfl] at hs
  have e : delStep m s = ({ m with waiting := m.waiting ++ [s.mine] }, { s with mine := 0, phase := 4 }, false) := by rw [delStep, if_neg (by omega), if_neg (by omega), if_neg (by omega), if_pos hk]
  rw [e]
  dsimp only
  replace hc := hide hc
  replace hk := hide hk
  clear h h1 e hok
  go_enter Tryz.func134, Tryz.ntmps134
  go_wp2_with fail
  refine hc.out.mono ?_
  rintro _ w2 ⟨rfl, h2⟩
  have hs2 := h2.stP (i := 0) (b := b) (cs := delC b hb wb s) (T := 123) rfl
  have h3 := DelK.close (b := b) (s := { s with mine := 0, phase := 4 }) (l := (l.set u NoK).set t (MemK { m with waiting := m.waiting ++ [s.mine] })) (u := u) (hb, wb)
    ((h2.putP (i := 0) (b := b) (cs := delC b hb wb s) (T := 123) rfl 7 (.int .u64 0)).putP (i := 0) (b := b) (cs := (delC b hb wb s).setIfInBounds 7 (.int .u64 0)) (T := 123) rfl 2 (.func (.func 114) #[.pointer (some ⟨b, 0, none⟩)] #[])) (by simpa using hul)
  rw [foldU _ hne] at h3
  dsimp only [delC] at hs2
  replace h3 := hide h3
  clear h2 hc hs
  go_wp2
  go_ret
  exact ⟨rfl, h3.out⟩

set_option maxHeartbeats 800000 in
theorem del_look (h : R l w) (ht : l[t]? = some (MemK m)) (hu : l[u]? = some (DelK b s)) (hne : t ≠ u) (hok : DelOk m s) (hk : s.phase = 1) :
    Calls Tryz.prog 88 #[.pointer (some ⟨b, 0, none⟩), .pointer (some ⟨m.b, 0, none⟩)] w (Does ((l.set t (MemK (delStep m s).1)).set u (DelK b (delStep m s).2.1)) (.bool (delStep m s).2.2)) := by
  have hul := lt_of_get hu
  have htl := lt_of_get ht
  obtain ⟨ws, hws⟩ := Option.isSome_iff_exists.1 (hok.has (by omega))
  obtain ⟨key, ph, hd, held, cell, wko, mine⟩ := s
  dsimp only at hk hws
  subst hk hws
  obtain ⟨⟨hb, wb⟩, h1⟩ := DelK.open_ h hu
  have hs := h1.stP (i := 0) (b := b) (cs := delC b hb wb ⟨key, 1, hd, held, cell, some ws, mine⟩) (T := 123) rfl
  have hc := walk_step h1 (memU ht hne) (u := (l.set u NoK).length + 2) (b := wb) (s := ws) (getP rfl) (by simp; omega) (hok.walk ws rfl).1
  rw [set2P _ _ _ (by simpa using htl)] at hc
  dsimp only [delC] at hs
  rw [show delF 1 = 88 from rfl] at hs
  have e : delStep m ⟨key, 1, hd, held, cell, some ws, mine⟩ = ((walkStep m ws).1, ⟨key, if (walkStep m ws).2.2 then (if (walkStep m ws).2.1.found then 2 else 4) else 1, hd, held, cell, some (walkStep m ws).2.1, mine⟩, false) := rfl
  rw [e]
  dsimp only
  generalize walkStep m ws = r at *
  obtain ⟨m', c', ld⟩ := r
  dsimp only at hc ⊢
  replace hc := hide hc
  cases ld
  · simp only [Bool.false_eq_true, if_false]
    clear h h1 e hok
    go_enter Tryz.func88, Tryz.ntmps88
    go_wp2_with fail
    refine hc.out.mono ?_
    rintro e w2 ⟨rfl, h2⟩
    have h3 := DelK.close (b := b) (s := ⟨key, 1, hd, held, cell, some c', mine⟩) (l := (l.set u NoK).set t (MemK m')) (u := u) (hb, wb) h2 (by simpa using hul)
    rw [foldU _ hne] at h3
    replace h3 := hide h3
    clear h2 hc hs
    go_wp2
    go_ret
    exact ⟨rfl, h3.out⟩
  · simp only [if_true]
    obtain ⟨ph0, hph⟩ : ∃ ph0, (if c'.found = true then 2 else 4) = ph0 := ⟨_, rfl⟩
    rw [hph]
    replace hph := hide hph
    have hcl : ∀ (ph' : Nat) (w' : World), R ((l.set u NoK).set t (MemK m') ++ ((delParts b ⟨key, 4, hd, held, cell, some c', mine⟩ (hb, wb)).map single)) w' → R ((l.set t (MemK m')).set u (DelK b ⟨key, ph', hd, held, cell, some c', mine⟩)) (w'.setCell ⟨b, 2, none⟩ (.func (.func (delF ph')) #[.pointer (some ⟨b, 0, none⟩)] #[])) := fun ph' w' h2 => by
      have h3 := DelK.close (b := b) (s := ⟨key, ph', hd, held, cell, some c', mine⟩) (l := (l.set u NoK).set t (MemK m')) (u := u) (hb, wb)
        (h2.putP (i := 0) (b := b) (cs := delC b hb wb ⟨key, 4, hd, held, cell, some c', mine⟩) (T := 123) rfl 2 (.func (.func (delF ph')) #[.pointer (some ⟨b, 0, none⟩)] #[])) (by simpa using hul)
      rwa [foldU _ hne] at h3
    replace hcl := hide hcl
    clear h h1 e hok
    go_enter Tryz.func88, Tryz.ntmps88
    go_wp2_with fail
    refine hc.out.mono ?_
    rintro e w2 ⟨rfl, h2⟩
    have hs2 := h2.stP (i := 0) (b := b) (cs := delC b hb wb ⟨key, 1, hd, held, cell, some ws, mine⟩) (T := 123) rfl
    have h3 : R ((l.set u NoK).set t (MemK m') ++ ((delParts b ⟨key, 4, hd, held, cell, some c', mine⟩ (hb, wb)).map single)) _ := h2.putP (i := 0) (b := b) (cs := delC b hb wb ⟨key, 1, hd, held, cell, some ws, mine⟩) (T := 123) rfl 2 (.func (.func (delF 4)) #[.pointer (some ⟨b, 0, none⟩)] #[])
    have hf := walk_found h3 (u := ((l.set u NoK).set t (MemK m')).length + 2) (b := wb) (s := c') (getP rfl)
    rw [foundV] at hf
    dsimp only [delC] at hs2
    rw [show delF 1 = 88 from rfl] at hs2
    rw [show delF 4 = 114 from rfl] at hf
    clear h2 h3 hs hc
    have hno : ∀ (w' : World) (o : Obj), R ((l.set u NoK).set t (MemK m') ++ ((delParts b ⟨key, 4, hd, held, cell, some c', mine⟩ (hb, wb)).map single)) w' → R ((l.set t (MemK m')).set u (DelK b ⟨key, 4, hd, held, cell, some c', mine⟩)) (w'.alloc o) := fun w' o h' => by
      have h3 := DelK.close (b := b) (s := ⟨key, 4, hd, held, cell, some c', mine⟩) (l := (l.set u NoK).set t (MemK m')) (u := u) (hb, wb) h' (by simpa using hul)
      rw [foldU _ hne] at h3
      exact h3.alloc o
    replace hno := hide hno
    cases hfo : c'.found
    · rw [hfo] at hf hph
      simp only [Bool.false_eq_true, if_false, ndV, nd0] at hf hph ⊢
      obtain rfl := hph.out
      replace hf := hide hf
      replace hfo := hide hfo
      go_wp2_with fail
      refine hf.out.mono ?_
      rintro e w3 ⟨rfl, h4⟩
      have h5 := hide fun o => hno.out _ o h4
      clear h4 hf hs2 hcl hno
      go_wp2
      go_ret
      exact ⟨rfl, h5.out _⟩
    · rw [hfo] at hf hph
      simp only [if_true, ndV] at hf hph ⊢
      obtain rfl := hph.out
      replace hf := hide hf
      replace hfo := hide hfo
      go_wp2_with fail
      refine hf.out.mono ?_
      rintro e w3 ⟨rfl, h4⟩
      have h5 := h4.new #[.string c'.node.key, .string c'.node.val, .int .u32 c'.node.sum, .int .u64 c'.node.next] 103
      have hs5 := h5.left.stP (i := 0) (b := b) (cs := delC b hb wb ⟨key, 4, hd, held, cell, some c', mine⟩) (T := 123) rfl
      have h6 := hcl.out 2 _ h5.left
      dsimp only [delC] at hs5
      rw [show delF 4 = 114 from rfl] at hs5
      rw [show delF 2 = 115 from rfl] at h6
      replace h6 := hide h6
      clear h4 h5 hf hs2 hcl hno
      go_wp2
      go_ret
      exact ⟨rfl, h6.out⟩

set_option maxHeartbeats 800000 in
theorem del_drop (h : R l w) (ht : l[t]? = some (MemK m)) (hu : l[u]? = some (DelK b s)) (hne : t ≠ u) (hok : DelOk m s) (hk : s.phase = 4) :
    Calls Tryz.prog 114 #[.pointer (some ⟨b, 0, none⟩), .pointer (some ⟨m.b, 0, none⟩)] w (Does ((l.set t (MemK (delStep m s).1)).set u (DelK b (delStep m s).2.1)) (.bool (delStep m s).2.2)) := by
  have hul := lt_of_get hu
  have htl := lt_of_get ht
  obtain ⟨⟨hb, wb⟩, h1⟩ := DelK.open_ h hu
  have hs := h1.stP (i := 0) (b := b) (cs := delC b hb wb s) (T := 123) rfl
  have hc : Calls Tryz.prog 67 #[.pointer (some ⟨hb, 0, none⟩), .pointer (some ⟨m.b, 0, none⟩)] w (Does (((l.set u NoK).set t (MemK (holdDrop m s.hold).1)) ++ ((delParts b s (hb, wb)).map single).set 1 (HoldK hb (holdDrop m s.hold).2.1)) (.bool (holdDrop m s.hold).2.2)) := by
    unfold holdDrop
    cases hd : s.hold.done
    · simp only [Bool.false_eq_true, if_false]
      refine (hold_drop_no h1 (u := (l.set u NoK).length + 1) (b := hb) (s := s.hold) (getP rfl) hd _).mono ?_
      rintro e w' ⟨rfl, rfl⟩
      refine ⟨rfl, ?_⟩
      rw [set_same (set_other ht hne.symm)]
      exact h1
    · simp only [if_true]
      have hc := hold_drop h1 (memU ht hne) (u := (l.set u NoK).length + 1) (b := hb) (s := s.hold) (getP rfl) (by simp; omega) hok.hold hd
      rw [set2P _ _ _ (by simpa using htl)] at hc
      exact hc
  dsimp only [delC] at hs
  rw [hk, show delF 4 = 114 from rfl] at hs
  have e : delStep m s = ((holdDrop m s.hold).1, { s with hold := (holdDrop m s.hold).2.1 }, (holdDrop m s.hold).2.2) := by rw [delStep, if_neg (by omega), if_neg (by omega), if_neg (by omega), if_neg (by omega)]
  rw [e]
  dsimp only
  generalize holdDrop m s.hold = r at *
  obtain ⟨m', c', ld⟩ := r
  dsimp only at hc ⊢
  replace hc := hide hc
  replace hk := hide hk
  clear h h1 e hok
  go_enter Tryz.func114, Tryz.ntmps114
  go_wp2_with fail
  refine hc.out.mono ?_
  rintro e w2 ⟨rfl, h2⟩
  have h3 := DelK.close (b := b) (s := { s with hold := c' }) (l := (l.set u NoK).set t (MemK m')) (u := u) (hb, wb) h2 (by simpa using hul)
  rw [foldU _ hne] at h3
  replace h3 := hide h3
  clear h2 hc hs
  go_wp2
  go_ret
  exact ⟨rfl, h3.out⟩

theorem del_mine (h : R l w) (hu : l[u]? = some (DelK b s)) : Calls Tryz.prog 28 #[.pointer (some ⟨b, 0, none⟩)] w fun e w' => e = .returned (.int .u64 s.mine) ∧ w = w' := by
  obtain ⟨⟨hb, wb⟩, h1⟩ := DelK.open_ h hu
  have hs := h1.stP (i := 0) (b := b) (cs := delC b hb wb s) (T := 123) rfl
  dsimp only [delC] at hs
  go_enter Tryz.func28, Tryz.ntmps28
  go_wp2
  go_ret
  exact ⟨rfl, rfl⟩
set_option maxHeartbeats 800000 in
theorem del_had (h : R l w) (hu : l[u]? = some (DelK b s)) : Calls Tryz.prog 29 #[.pointer (some ⟨b, 0, none⟩)] w (Does l (.tuple #[.string (fndVal s.wk), .bool (fnd s.wk)])) := by
  have hul := lt_of_get hu
  obtain ⟨⟨hb, wb⟩, h1⟩ := DelK.open_ h hu
  have hs := h1.stP (i := 0) (b := b) (cs := delC b hb wb s) (T := 123) rfl
  dsimp only [delC] at hs
  unfold fnd fndVal
  obtain ⟨key, ph, hd, held, cell, wko, mine⟩ := s
  cases wko with
  | none =>
    replace h := hide h
    dsimp only at hs ⊢
    clear h1
    go_enter Tryz.func29, Tryz.ntmps29
    go_wp2
    go_ret2
    exact ⟨rfl, h.out⟩
  | some ws =>
    dsimp only at hs ⊢
    have hf := walk_found h1 (u := (l.set u NoK).length + 2) (b := wb) (s := ws) (getP rfl)
    rw [foundV] at hf
    have hcl : ∀ w', R (l.set u NoK ++ (delParts b ⟨key, ph, hd, held, cell, some ws, mine⟩ (hb, wb)).map single) w' → R l w' := fun w' h' => by
      have := DelK.close (b := b) (s := ⟨key, ph, hd, held, cell, some ws, mine⟩) (u := u) (hb, wb) h' (by simpa using hul)
      rwa [List.set_set, set_same hu] at this
    replace hcl := hide hcl
    cases hfo : ws.found
    all_goals
      rw [hfo] at hf
      simp only [Bool.false_eq_true, if_false, if_true, ndV, nd0] at hf ⊢
      replace hf := hide hf
      replace hfo := hide hfo
      clear h h1
      go_enter Tryz.func29, Tryz.ntmps29
      go_wp2_with fail
      refine hf.out.mono ?_
      rintro e w2 ⟨rfl, h2⟩
      have h3 := hide fun o => (hcl.out _ h2).alloc o
      clear h2 hf hs
      go_wp2
      go_ret2
      exact ⟨rfl, h3.out _⟩
end
end Go.Proofs.YtcgfknpobifecaaGreat
