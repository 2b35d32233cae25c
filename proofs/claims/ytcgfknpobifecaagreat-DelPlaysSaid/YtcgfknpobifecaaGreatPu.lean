/- Package put: New, look, retire, drop, Had, Err, Mine. Condition: the memory and the put are there. -/
import Derived.Test.YtcgfknpobifecaaGreatPt
namespace Go.Proofs.YtcgfknpobifecaaGreat
open Go.RowKit

section
variable {l : List KObj} {w : World} {t u b : Nat} {m : MemS} {s : PutS}
set_option maxHeartbeats 800000 in
theorem put_new (h : R l w) (k : Nat) (key val : ByteArray) (hk : key.size ≤ 9223372036854775807) : Calls Tryz.prog 14 #[.int .i64 k, .string key, .string val] w fun e w' => ∃ b, e = .returned (.pointer (some ⟨b, 0, none⟩)) ∧ R (l ++ [PutK b (put0 k key val)]) w' := by
  have hsm := hide fun W => fnv_sum key hk W
  have h1 := h.new #[.string key, .string val, .int .u32 (sumOf key), .nilFunc, .pointer none, .bool false, .int .i64 0, .pointer none, .int .u64 0, .int .i64 0] 100
  have hn := hide (hold_new h1 k (sumOf key))
  have hsl := sumOf_lt key
  clear h h1
  go_enter Tryz.func14, Tryz.ntmps14
  go_wp2_with fail
  refine (hsm.out _).mono ?_
  rintro e w1 ⟨rfl, rfl⟩
  go_wp2_with fail
  refine hn.out.mono ?_
  rintro e w2 ⟨hb, rfl, h2⟩
  have h2' : R (l ++ [stF w.heap.size #[.string key, .string val, .int .u32 (sumOf key), .nilFunc, .pointer none, .bool false, .int .i64 0, .pointer none, .int .u64 0, .int .i64 0] 100, stF hb (holdC hb (hold0 k (sumOf key))) 147].map single) w2 := by rw [List.append_assoc] at h2; exact h2
  have hs2 := h2'.stP (i := 0) (b := w.heap.size) (cs := #[.string key, .string val, .int .u32 (sumOf key), .nilFunc, .pointer none, .bool false, .int .i64 0, .pointer none, .int .u64 0, .int .i64 0]) (T := 100) rfl
  have h3 := (h2'.putP (i := 0) (b := w.heap.size) (cs := #[.string key, .string val, .int .u32 (sumOf key), .nilFunc, .pointer none, .bool false, .int .i64 0, .pointer none, .int .u64 0, .int .i64 0]) (T := 100) rfl 4 (.pointer (some ⟨hb, 0, none⟩))).putP (i := 0) (b := w.heap.size) (cs := (#[.string key, .string val, .int .u32 (sumOf key), .nilFunc, .pointer none, .bool false, .int .i64 0, .pointer none, .int .u64 0, .int .i64 0] : Array Value).setIfInBounds 4 (.pointer (some ⟨hb, 0, none⟩))) (T := 100) rfl 3 (.func (.func 45) #[.pointer (some ⟨w.heap.size, 0, none⟩)] #[])
  have h4 : R (l ++ [PutK w.heap.size (put0 k key val)]) _ := R.toExEnd (f := fun a => CompK (putParts w.heap.size (put0 k key val) a)) (hb, 0) (R.packSelEnd (ps := [stF w.heap.size (putC w.heap.size hb 0 (put0 k key val)) 100, stF hb (holdC hb (hold0 k (sumOf key))) 147]) h3 (fun j => j) (fun i q hq hi => by
    match i, hq with
    | 0, hq => exact .inl ⟨0, hq, rfl⟩
    | 1, hq => exact .inl ⟨1, hq, rfl⟩
    | 2, hq => exact .inr (Option.some.inj hq).symm
    | i + 3, hq => simp [putParts] at hq))
  replace h4 := hide h4
  clear hn h2 h2' h3 hsm
  go_wp2
  go_ret
  exact ⟨_, rfl, h4.out⟩
set_option maxHeartbeats 800000 in
theorem put_retire (h : R l w) (ht : l[t]? = some (MemK m)) (hu : l[u]? = some (PutK b s)) (hne : t ≠ u) (hok : PutOk m s) (hk : s.phase = 4) :
    Calls Tryz.prog 140 #[.pointer (some ⟨b, 0, none⟩), .pointer (some ⟨m.b, 0, none⟩)] w (Does ((l.set t (MemK (putStep m s).1)).set u (PutK b (putStep m s).2.1)) (.bool (putStep m s).2.2)) := by
  have hul := lt_of_get hu
  have htl := lt_of_get ht
  obtain ⟨⟨hb, wb⟩, h1⟩ := PutK.open_ h hu
  have hs := h1.stP (i := 0) (b := b) (cs := putC b hb wb s) (T := 100) rfl
  have hc := mem_retire h1 (memU ht hne) s.mine hok.mine (hok.wait (by omega))
  rw [setL' _ _ (by simpa using htl)] at hc
  dsimp only [putC] at hs
  rw [hk, show putF 4 = 140 from rfl] at hs
  have e : putStep m s = ({ m with waiting := m.waiting ++ [s.mine] }, { s with mine := 0, phase := 5 }, false) := by rw [putStep, if_neg (by omega), if_neg (by omega), if_neg (by omega), if_neg (by omega), if_pos hk]
  rw [e]
  dsimp only
  replace hc := hide hc
  replace hk := hide hk
  clear h h1 e hok
  go_enter Tryz.func140, Tryz.ntmps140
  go_wp2_with fail
  refine hc.out.mono ?_
  rintro _ w2 ⟨rfl, h2⟩
  have hs2 := h2.stP (i := 0) (b := b) (cs := putC b hb wb s) (T := 100) rfl
  have h3 := PutK.close (b := b) (s := { s with mine := 0, phase := 5 }) (l := (l.set u NoK).set t (MemK { m with waiting := m.waiting ++ [s.mine] })) (u := u) (hb, wb)
    ((h2.putP (i := 0) (b := b) (cs := putC b hb wb s) (T := 100) rfl 8 (.int .u64 0)).putP (i := 0) (b := b) (cs := (putC b hb wb s).setIfInBounds 8 (.int .u64 0)) (T := 100) rfl 3 (.func (.func 130) #[.pointer (some ⟨b, 0, none⟩)] #[])) (by simpa using hul)
  rw [foldU _ hne] at h3
  dsimp only [putC] at hs2
  replace h3 := hide h3
  clear h2 hc hs
  go_wp2
  go_ret
  exact ⟨rfl, h3.out⟩

set_option maxHeartbeats 800000 in
theorem put_look (h : R l w) (ht : l[t]? = some (MemK m)) (hu : l[u]? = some (PutK b s)) (hne : t ≠ u) (hok : PutOk m s) (hk : s.phase = 1) :
    Calls Tryz.prog 79 #[.pointer (some ⟨b, 0, none⟩), .pointer (some ⟨m.b, 0, none⟩)] w (Does ((l.set t (MemK (putStep m s).1)).set u (PutK b (putStep m s).2.1)) (.bool (putStep m s).2.2)) := by
  have hul := lt_of_get hu
  have htl := lt_of_get ht
  obtain ⟨ws, hws⟩ := Option.isSome_iff_exists.1 (hok.has (by omega))
  obtain ⟨key, val, ph, hd, held, cell, wko, mine, err⟩ := s
  dsimp only at hk hws
  subst hk hws
  obtain ⟨⟨hb, wb⟩, h1⟩ := PutK.open_ h hu
  have hs := h1.stP (i := 0) (b := b) (cs := putC b hb wb ⟨key, val, 1, hd, held, cell, some ws, mine, err⟩) (T := 100) rfl
  have hc := walk_step h1 (memU ht hne) (u := (l.set u NoK).length + 2) (b := wb) (s := ws) (getP rfl) (by simp; omega) (hok.walk ws rfl).1
  rw [set2P _ _ _ (by simpa using htl)] at hc
  dsimp only [putC] at hs
  rw [show putF 1 = 79 from rfl] at hs
  have e : putStep m ⟨key, val, 1, hd, held, cell, some ws, mine, err⟩ = ((walkStep m ws).1, ⟨key, val, if (walkStep m ws).2.2 then 2 else 1, hd, held, cell, some (walkStep m ws).2.1, mine, err⟩, false) := rfl
  rw [e]
  dsimp only
  generalize walkStep m ws = r at *
  obtain ⟨m', c', ld⟩ := r
  dsimp only at hc ⊢
  replace hc := hide hc
  cases ld
  · simp only [Bool.false_eq_true, if_false]
    clear h h1 e hok
    go_enter Tryz.func79, Tryz.ntmps79
    go_wp2_with fail
    refine hc.out.mono ?_
    rintro e w2 ⟨rfl, h2⟩
    have h3 := PutK.close (b := b) (s := ⟨key, val, 1, hd, held, cell, some c', mine, err⟩) (l := (l.set u NoK).set t (MemK m')) (u := u) (hb, wb) h2 (by simpa using hul)
    rw [foldU _ hne] at h3
    replace h3 := hide h3
    clear h2 hc hs
    go_wp2
    go_ret
    exact ⟨rfl, h3.out⟩
  · simp only [if_true]
    clear h h1 e hok
    go_enter Tryz.func79, Tryz.ntmps79
    go_wp2_with fail
    refine hc.out.mono ?_
    rintro e w2 ⟨rfl, h2⟩
    have hs2 := h2.stP (i := 0) (b := b) (cs := putC b hb wb ⟨key, val, 1, hd, held, cell, some ws, mine, err⟩) (T := 100) rfl
    have h3 := PutK.close (b := b) (s := ⟨key, val, 2, hd, held, cell, some c', mine, err⟩) (l := (l.set u NoK).set t (MemK m')) (u := u) (hb, wb) (h2.putP (i := 0) (b := b) (cs := putC b hb wb ⟨key, val, 1, hd, held, cell, some ws, mine, err⟩) (T := 100) rfl 3 (.func (.func 111) #[.pointer (some ⟨b, 0, none⟩)] #[])) (by simpa using hul)
    rw [foldU _ hne] at h3
    dsimp only [putC] at hs2
    replace h3 := hide h3
    clear h2 hc hs
    go_wp2
    go_ret
    exact ⟨rfl, h3.out⟩

set_option maxHeartbeats 800000 in
theorem put_drop (h : R l w) (ht : l[t]? = some (MemK m)) (hu : l[u]? = some (PutK b s)) (hne : t ≠ u) (hok : PutOk m s) (hk : s.phase = 5) :
    Calls Tryz.prog 130 #[.pointer (some ⟨b, 0, none⟩), .pointer (some ⟨m.b, 0, none⟩)] w (Does ((l.set t (MemK (putStep m s).1)).set u (PutK b (putStep m s).2.1)) (.bool (putStep m s).2.2)) := by
  have hul := lt_of_get hu
  have htl := lt_of_get ht
  obtain ⟨⟨hb, wb⟩, h1⟩ := PutK.open_ h hu
  have hs := h1.stP (i := 0) (b := b) (cs := putC b hb wb s) (T := 100) rfl
  have hc : Calls Tryz.prog 67 #[.pointer (some ⟨hb, 0, none⟩), .pointer (some ⟨m.b, 0, none⟩)] w (Does (((l.set u NoK).set t (MemK (holdDrop m s.hold).1)) ++ ((putParts b s (hb, wb)).map single).set 1 (HoldK hb (holdDrop m s.hold).2.1)) (.bool (holdDrop m s.hold).2.2)) := by
    unfold holdDrop
    cases hd : s.hold.done
    · simp only [Bool.false_eq_true, if_false]
      refine (hold_drop_no h1 (u := (l.set u NoK).length + 1) (b := hb) (s := s.hold) (getP rfl) hd _).mono ?_
      rintro e w' ⟨rfl, rfl⟩
      refine ⟨rfl, ?_⟩
      rw [set_same (set_other ht hne.symm)]
      exact h1
    · simp only [if_true]
      have hc := hold_drop h1 (memU ht hne) (u := (l.set u NoK).length + 1) (b := hb) (s := s.hold) (getP rfl) (by simp; omega) hok.hold hd
      rw [set2P _ _ _ (by simpa using htl)] at hc
      exact hc
  dsimp only [putC] at hs
  rw [hk, show putF 5 = 130 from rfl] at hs
  have e : putStep m s = ((holdDrop m s.hold).1, { s with hold := (holdDrop m s.hold).2.1 }, (holdDrop m s.hold).2.2) := by rw [putStep, if_neg (by omega), if_neg (by omega), if_neg (by omega), if_neg (by omega), if_neg (by omega)]
  rw [e]
  dsimp only
  generalize holdDrop m s.hold = r at *
  obtain ⟨m', c', ld⟩ := r
  dsimp only at hc ⊢
  replace hc := hide hc
  replace hk := hide hk
  clear h h1 e hok
  go_enter Tryz.func130, Tryz.ntmps130
  go_wp2_with fail
  refine hc.out.mono ?_
  rintro e w2 ⟨rfl, h2⟩
  have h3 := PutK.close (b := b) (s := { s with hold := c' }) (l := (l.set u NoK).set t (MemK m')) (u := u) (hb, wb) h2 (by simpa using hul)
  rw [foldU _ hne] at h3
  replace h3 := hide h3
  clear h2 hc hs
  go_wp2
  go_ret
  exact ⟨rfl, h3.out⟩

theorem put_err (h : R l w) (hu : l[u]? = some (PutK b s)) : Calls Tryz.prog 18 #[.pointer (some ⟨b, 0, none⟩)] w fun e w' => e = .returned (.int .i64 s.err) ∧ w = w' := by
  obtain ⟨⟨hb, wb⟩, h1⟩ := PutK.open_ h hu
  have hs := h1.stP (i := 0) (b := b) (cs := putC b hb wb s) (T := 100) rfl
  dsimp only [putC] at hs
  go_enter Tryz.func18, Tryz.ntmps18
  go_wp2
  go_ret
  exact ⟨rfl, rfl⟩
theorem put_mine (h : R l w) (hu : l[u]? = some (PutK b s)) : Calls Tryz.prog 16 #[.pointer (some ⟨b, 0, none⟩)] w fun e w' => e = .returned (.int .u64 s.mine) ∧ w = w' := by
  obtain ⟨⟨hb, wb⟩, h1⟩ := PutK.open_ h hu
  have hs := h1.stP (i := 0) (b := b) (cs := putC b hb wb s) (T := 100) rfl
  dsimp only [putC] at hs
  go_enter Tryz.func16, Tryz.ntmps16
  go_wp2
  go_ret
  exact ⟨rfl, rfl⟩
set_option maxHeartbeats 800000 in
theorem put_had (h : R l w) (hu : l[u]? = some (PutK b s)) : Calls Tryz.prog 15 #[.pointer (some ⟨b, 0, none⟩)] w (Does l (.bool (wFound s))) := by
  have hul := lt_of_get hu
  obtain ⟨⟨hb, wb⟩, h1⟩ := PutK.open_ h hu
  have hs := h1.stP (i := 0) (b := b) (cs := putC b hb wb s) (T := 100) rfl
  dsimp only [putC] at hs
  unfold wFound
  obtain ⟨key, val, ph, hd, held, cell, wko, mine, err⟩ := s
  cases wko with
  | none =>
    replace h := hide h
    dsimp only at hs ⊢
    clear h1
    go_enter Tryz.func15, Tryz.ntmps15
    go_wp2
    go_ret
    exact ⟨rfl, h.out⟩
  | some ws =>
    dsimp only at hs ⊢
    have hf := walk_found h1 (u := (l.set u NoK).length + 2) (b := wb) (s := ws) (getP rfl)
    rw [foundV] at hf
    have hcl : ∀ w', R (l.set u NoK ++ (putParts b ⟨key, val, ph, hd, held, cell, some ws, mine, err⟩ (hb, wb)).map single) w' → R l w' := fun w' h' => by
      have := PutK.close (b := b) (s := ⟨key, val, ph, hd, held, cell, some ws, mine, err⟩) (u := u) (hb, wb) h' (by simpa using hul)
      rwa [List.set_set, set_same hu] at this
    replace hcl := hide hcl
    cases hfo : ws.found
    all_goals
      rw [hfo] at hf
      simp only [Bool.false_eq_true, if_false, if_true, ndV, nd0] at hf ⊢
      replace hf := hide hf
      replace hfo := hide hfo
      clear h h1
      go_enter Tryz.func15, Tryz.ntmps15
      go_wp2_with fail
      refine hf.out.mono ?_
      rintro e w2 ⟨rfl, h2⟩
      have h3 := hide fun o => (hcl.out _ h2).alloc o
      clear h2 hf hs
      go_wp2
      go_ret
      exact ⟨rfl, h3.out _⟩
end
end Go.Proofs.YtcgfknpobifecaaGreat
