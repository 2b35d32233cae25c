/- Package put: take, link. Condition: the memory and the put are there. -/
import Derived.Test.YtcgfknpobifecaaGreatPu
import Derived.Test.YtcgfknpobifecaaGreatDtm
namespace Go.Proofs.YtcgfknpobifecaaGreat
open Go.RowKit

/-- What lies open when the walk is made. -/
def takeParts (b hb wb D wb4 : Nat) (s : PutS) (c' : HoldS) (C : Array Value) (d1 d2 : Int) (ws : WalkS) : List FObj := [stF b C 100, stF hb (holdC hb c') 147, (match s.wk with | none => noF | some ws => stF wb (walkC wb ws) 150), stF D #[.int .i64 d1, .int .i64 d2] 83, stF wb4 (walkC wb4 ws) 150]
section
variable {l : List KObj} {w : World} {t u b : Nat} {m : MemS} {s : PutS}
theorem memR_storeAt (h : R l w) (ht : l[t]? = some (MemK m)) (i v : Int) (hv : U64 v) :
    Calls Tryz.prog 9 #[.pointer (some ⟨m.cb, 0, none⟩), .int .i64 i, .int .u64 v] w (Does (l.set t (MemK (storeAt m i v))) (.int .i64 (if 0 ≤ i ∧ i < m.cells.length then 0 else 2))) := by
  unfold storeAt
  by_cases hi : 0 ≤ i ∧ i < m.cells.length
  · rw [if_pos hi, if_pos hi]
    exact memR_store h ht i v hi.1 hi.2 hv
  · rw [if_neg hi, if_neg hi, set_same ht]
    refine (memR_store_no h ht i v (by omega)).mono ?_
    rintro e w' ⟨rfl, rfl⟩
    exact ⟨rfl, h⟩
set_option maxRecDepth 100000 in
set_option maxHeartbeats 3200000 in
theorem put_take (h : R l w) (ht : l[t]? = some (MemK m)) (hu : l[u]? = some (PutK b s)) (hne : t ≠ u) (hok : PutOk m s) (hk : s.phase = 0) :
    Calls Tryz.prog 45 #[.pointer (some ⟨b, 0, none⟩), .pointer (some ⟨m.b, 0, none⟩)] w (Does ((l.set t (MemK (putStep m s).1)).set u (PutK b (putStep m s).2.1)) (.bool (putStep m s).2.2)) := by
  have hul := lt_of_get hu
  have htl := lt_of_get ht
  have hmo := h.memOk ht
  obtain ⟨⟨hb, wb⟩, h1⟩ := PutK.open_ h hu
  have hs := h1.stP (i := 0) (b := b) (cs := putC b hb wb s) (T := 100) rfl
  have hc := hold_step h1 (memU ht hne) (u := (l.set u NoK).length + 1) (b := hb) (s := s.hold) (getP rfl) (by simp; omega) hok.hold
  rw [set2P _ _ _ (by simpa using htl)] at hc
  dsimp only [putC] at hs
  rw [hk, show putF 0 = 45 from rfl] at hs
  have hdo := holdDesc_ok (holdStep_desc hmo hok.desc)
  have en := fun (m' : MemS) (c' : HoldS) => putStep_0n (m := m) (m' := m') (s := s) (c' := c') hk
  have ey := fun (m' : MemS) (c' : HoldS) (d : Int × Int) => putStep_0y (m := m) (m' := m') (s := s) (c' := c') (d := d) hk
  generalize holdStep m s.hold = r at *
  obtain ⟨m', c', ld⟩ := r
  dsimp only at hc hdo
  replace hc := hide hc
  cases ld
  · rw [en m' c' rfl]
    dsimp only
    clear h h1 en ey hok hdo
    replace hk := hide hk
    go_enter Tryz.func45, Tryz.ntmps45
    go_wp2_with fail
    refine hc.out.mono ?_
    rintro e w2 ⟨rfl, h2⟩
    have h3 := PutK.close (b := b) (s := { s with hold := c' }) (l := (l.set u NoK).set t (MemK m')) (u := u) (hb, wb) h2 (by simpa using hul)
    rw [foldU _ hne] at h3
    replace h3 := hide h3
    clear h2 hc hs
    go_wp2
    go_ret
    exact ⟨rfl, h3.out⟩
  · obtain ⟨⟨d1, d2⟩, hd⟩ : ∃ d, holdDesc c' = d := ⟨_, rfl⟩
    rw [ey m' c' _ rfl hd]
    rw [hd] at hdo
    dsimp only at hdo ⊢
    have hky := hok.key
    have hsl := sumOf_lt s.key
    have hs0 : (0 : Int) ≤ (sumOf s.key : Int) := Int.natCast_nonneg _
    have hbl := bucketOf_lt (sumOf s.key) d1 hs0
    have hbk := hide fun W => fnv_bucket (sumOf s.key) d1 hs0 (by omega) W
    generalize bucketOf (sumOf s.key) d1 = bk at *
    have e1 : IntKind.i64.wrap (d2 + bk) = d2 + bk := by rw [IntKind.wrap_i64]; omega
    replace hk := hide hk
    clear h h1 en ey hok
    go_enter Tryz.func45, Tryz.ntmps45
    go_wp2_with fail
    refine hc.out.mono ?_
    rintro e w2 ⟨rfl, h2⟩
    have hs2 := h2.stP (i := 0) (b := b) (cs := putC b hb wb s) (T := 100) rfl
    have hds := hold_desc h2 (u := ((l.set u NoK).set t (MemK m')).length + 1) (b := hb) (s := c') (getP rfl)
    rw [hd] at hds
    dsimp only [putC, descV] at hs2 hds
    rw [hk.out, show putF 0 = 45 from rfl] at hs2
    replace hds := hide hds
    clear hc hs h2
    go_wp2_with fail
    refine hds.out.mono ?_
    rintro e w3 ⟨rfl, h3⟩
    have hs3 := h3.stP (i := 0) (b := b) (cs := putC b hb wb s) (T := 100) rfl
    have hlt3 := lt_of_blk hs3
    have h4 := h3.new #[.int .i64 d1, .int .i64 d2] 83
    have hD4 := blk_new w3 (.cells #[.int .i64 d1, .int .i64 d2] 83)
    have hs4 := (blk_old w3 (.cells #[.int .i64 d1, .int .i64 d2] 83) b hlt3).trans hs3
    dsimp only [putC] at hs3 hs4
    rw [hk.out, show putF 0 = 45 from rfl] at hs3 hs4
    rw [List.append_assoc] at h4
    clear hds hs2 h3
    go_upto_region 3 with fail
    generalize w3.alloc (.cells #[.int .i64 d1, .int .i64 d2] 83) = w4 at *
    generalize w3.heap.size = D at *
    have h5 := h4.putP (i := 0) (b := b) (cs := putC b hb wb s) (T := 100) rfl 5 (.bool true)
    have hs5 := h5.stP (i := 0) (b := b) (cs := (putC b hb wb s).setIfInBounds 5 (.bool true)) (T := 100) rfl
    have hD5 := h5.stP (i := 3) (b := D) (cs := #[.int .i64 d1, .int .i64 d2]) (T := 83) rfl
    simp only [putC, List.setIfInBounds_toArray, List.set_cons_succ, List.set_cons_zero] at hs5
    rw [hk.out, show putF 0 = 45 from rfl] at hs5
    clear h4 hs3 hlt3
    go_upto_region 4 with fail
    generalize w4.setCell ⟨b, 5, none⟩ (.bool true) = w5 at *
    clear hs4 hD4
    have h6 := (h5.drewN 1).putP (i := 0) (b := b) (cs := (putC b hb wb s).setIfInBounds 5 (.bool true)) (T := 100) rfl 6 (.int .i64 (d2 + bk))
    replace h6 := hide h6
    go_still_tail 13, (by kernel_rfl)
    still_call ((hbk.out _).mono fun _ _ h => ⟨h.1, h.2.symm⟩)
    repeat still_step
    refine wpStill_nil ?_
    go_upto_region 5 with fail
    have h6' : R _ ((w5.setCell ⟨b, 6, none⟩ (.int .i64 (d2 + bk))).drew) := h6.out
    clear h6 h5 hs5 hD5 hbk
    generalize (w5.setCell ⟨b, 6, none⟩ (.int .i64 (d2 + bk))).drew = w6 at *
    have hs6 := h6'.stP (i := 0) (b := b) (cs := ((putC b hb wb s).setIfInBounds 5 (.bool true)).setIfInBounds 6 (.int .i64 (d2 + bk))) (T := 100) rfl
    have k6 : cellOf (blk w6.drew b) 6 = some (.int .i64 (d2 + bk)) := by show cellOf (blk w6 b) 6 = _; rw [hs6]; rfl
    have k2 : cellOf (blk w6.drew b) 2 = some (.int .u32 (sumOf s.key)) := by show cellOf (blk w6 b) 2 = _; rw [hs6]; rfl
    have k0 : cellOf (blk w6.drew b) 0 = some (.string s.key) := by show cellOf (blk w6 b) 0 = _; rw [hs6]; rfl
    have hwn := hide (walk_new h6'.drew (d2 + bk) (sumOf s.key) s.key)
    clear hs6 h6'
    go_region_held3 (fun w' => cellOf (blk w' b) 6 = some (.int .i64 (d2 + bk)) ∧ cellOf (blk w' b) 2 = some (.int .u32 (sumOf s.key)) ∧ cellOf (blk w' b) 0 = some (.string s.key)) (first | exact ⟨k6, k2, k0⟩ | exact ⟨m6, m2, m0⟩ | exact ⟨n6, n2, n0⟩)
      (first | (go_at_call 78; refine hwn.out.mono ?_; rintro e w7 ⟨wb4, rfl, h7⟩; have h8 : Hid (R ((l.set u NoK).set t (MemK m') ++ (takeParts b hb wb D wb4 s c' (((putC b hb wb s).setIfInBounds 5 (.bool true)).setIfInBounds 6 (.int .i64 (d2 + bk))) d1 d2 (walk0 (d2 + bk) (sumOf s.key) s.key)).map single) w7) := hide (by rw [List.append_assoc] at h7; exact h7); clear h7; have hs8 := h8.out.stP (i := 0) (b := b) (cs := ((putC b hb wb s).setIfInBounds 5 (.bool true)).setIfInBounds 6 (.int .i64 (d2 + bk))) (T := 100) rfl; simp only [putC, List.setIfInBounds_toArray, List.set_cons_succ, List.set_cons_zero] at hs8; have n6 : cellOf (blk w7 b) 6 = some (.int .i64 (d2 + bk)) := (by rw [hs8]; rfl); have n2 : cellOf (blk w7 b) 2 = some (.int .u32 (sumOf s.key)) := (by rw [hs8]; rfl); have n0 : cellOf (blk w7 b) 0 = some (.string s.key) := (by rw [hs8]; rfl); have m6 : cellOf (blk (w7.setCell ⟨b, 7, none⟩ (.pointer (some ⟨wb4, 0, none⟩))) b) 6 = some (.int .i64 (d2 + bk)) := (by rw [blk_put_same, hs8]; rfl); have m2 : cellOf (blk (w7.setCell ⟨b, 7, none⟩ (.pointer (some ⟨wb4, 0, none⟩))) b) 2 = some (.int .u32 (sumOf s.key)) := (by rw [blk_put_same, hs8]; rfl); have m0 : cellOf (blk (w7.setCell ⟨b, 7, none⟩ (.pointer (some ⟨wb4, 0, none⟩))) b) 0 = some (.string s.key) := (by rw [blk_put_same, hs8]; rfl)))
    have hp := (h8.out.putP (i := 0) (b := b) (cs := ((putC b hb wb s).setIfInBounds 5 (.bool true)).setIfInBounds 6 (.int .i64 (d2 + bk))) (T := 100) rfl 7 (.pointer (some ⟨wb4, 0, none⟩))).putP (i := 0) (b := b) (cs := (((putC b hb wb s).setIfInBounds 5 (.bool true)).setIfInBounds 6 (.int .i64 (d2 + bk))).setIfInBounds 7 (.pointer (some ⟨wb4, 0, none⟩))) (T := 100) rfl 3 (.func (.func 79) #[.pointer (some ⟨b, 0, none⟩)] #[])
    have h9 := R.packSel (l := (l.set u NoK).set t (MemK m')) (u := u) (qs := putParts b { s with hold := c', held := true, cell := d2 + bk, wk := some (walk0 (d2 + bk) (sumOf s.key) s.key), phase := 1 } (hb, wb4))
      (ps := takeParts b hb wb D wb4 s c' ((((putC b hb wb s).setIfInBounds 5 (.bool true)).setIfInBounds 6 (.int .i64 (d2 + bk))).setIfInBounds 7 (.pointer (some ⟨wb4, 0, none⟩)) |>.setIfInBounds 3 (.func (.func 79) #[.pointer (some ⟨b, 0, none⟩)] #[])) d1 d2 (walk0 (d2 + bk) (sumOf s.key) s.key)) hp (by simpa using hul)
      (fun j => if j = 4 then 2 else if j < 2 then j else 15) (fun i q hq hi => by
        match i, hq with
        | 0, hq => exact .inl ⟨0, hq, rfl⟩
        | 1, hq => exact .inl ⟨1, hq, rfl⟩
        | 2, hq => exact .inl ⟨4, hq, rfl⟩
        | i + 3, hq => simp [putParts] at hq)
    have h10 := R.toEx (f := fun a => CompK (putParts b { s with hold := c', held := true, cell := d2 + bk, wk := some (walk0 (d2 + bk) (sumOf s.key) s.key), phase := 1 } a)) (u := u) (hb, wb4) h9 (List.getElem?_set_self (by simpa using hul))
    rw [List.set_set, foldU _ hne] at h10
    replace h10 := hide h10
    clear h8 hp h9 hwn n0 n2 n6 m0 m2 m6 k0 k2 k6
    go_wp2
    go_ret
    exact ⟨rfl, h10.out⟩

theorem linkM_is (m : MemS) (x y : Int) : linkM m x y = { m with ss := linkS m.ss x y, fault := useFault m.ss x m.fault } := rfl
set_option maxRecDepth 100000 in
set_option maxHeartbeats 3200000 in
theorem put_link (h : R l w) (ht : l[t]? = some (MemK m)) (hu : l[u]? = some (PutK b s)) (hne : t ≠ u) (hok : PutOk m s) (hk : s.phase = 3) :
    Calls Tryz.prog 129 #[.pointer (some ⟨b, 0, none⟩), .pointer (some ⟨m.b, 0, none⟩)] w (Does ((l.set t (MemK (putStep m s).1)).set u (PutK b (putStep m s).2.1)) (.bool (putStep m s).2.2)) := by
  have hul := lt_of_get hu
  have htl := lt_of_get ht
  obtain ⟨ws, hws⟩ := Option.isSome_iff_exists.1 (hok.has (by omega))
  have hmn := hok.mine
  have hwok := hok.walk ws hws
  obtain ⟨key, val, ph, hd, held, cell, wko, mine, err⟩ := s
  dsimp only at hk hws hmn
  subst hk hws
  obtain ⟨⟨hb, wb⟩, h1⟩ := PutK.open_ h hu
  have hs := h1.stP (i := 0) (b := b) (cs := putC b hb wb ⟨key, val, 3, hd, held, cell, some ws, mine, err⟩) (T := 100) rfl
  have hf := walk_found h1 (u := (l.set u NoK).length + 2) (b := wb) (s := ws) (getP rfl)
  dsimp only [putC] at hs
  rw [show putF 3 = 129 from rfl] at hs
  rw [foundV] at hf
  clear h h1
  have hcl : ∀ (m' : MemS) (mine' : Int) (ph' : Nat) (N : KObj) (w' : World), R ((l.set u NoK).set t (MemK m') ++ ((putParts b ⟨key, val, 3, hd, held, cell, some ws, mine, err⟩ (hb, wb)).map single) ++ [N]) w' →
      R ((l.set t (MemK m')).set u (PutK b ⟨key, val, ph', hd, held, cell, some ws, mine', err⟩)) ((w'.setCell ⟨b, 8, none⟩ (.int .u64 mine')).setCell ⟨b, 3, none⟩ (.func (.func (putF ph')) #[.pointer (some ⟨b, 0, none⟩)] #[])) := fun m' mine' ph' N w' h2 => by
    have h3 := PutK.close (b := b) (s := ⟨key, val, ph', hd, held, cell, some ws, mine', err⟩) (l := (l.set u NoK).set t (MemK m')) (u := u) (hb, wb)
      ((h2.left.putP (i := 0) (b := b) (cs := putC b hb wb ⟨key, val, 3, hd, held, cell, some ws, mine, err⟩) (T := 100) rfl 8 (.int .u64 mine')).putP (i := 0) (b := b) (cs := (putC b hb wb ⟨key, val, 3, hd, held, cell, some ws, mine, err⟩).setIfInBounds 8 (.int .u64 mine')) (T := 100) rfl 3 (.func (.func (putF ph')) #[.pointer (some ⟨b, 0, none⟩)] #[])) (by simpa using hul)
    rwa [foldU _ hne] at h3
  have hcl2 : ∀ (m' : MemS) (mine' : Int) (N : KObj) (w' : World), R ((l.set u NoK).set t (MemK m') ++ ((putParts b ⟨key, val, 3, hd, held, cell, some ws, mine, err⟩ (hb, wb)).map single) ++ [N]) w' →
      R ((l.set t (MemK m')).set u (PutK b ⟨key, val, 4, hd, held, cell, some ws, mine', err⟩)) (((w'.setCell ⟨b, 8, none⟩ (.int .u64 mine')).setCell ⟨b, 3, none⟩ (.func (.func 130) #[.pointer (some ⟨b, 0, none⟩)] #[])).setCell ⟨b, 3, none⟩ (.func (.func 140) #[.pointer (some ⟨b, 0, none⟩)] #[])) := fun m' mine' N w' h2 => by
    have h3 := PutK.close (b := b) (s := ⟨key, val, 4, hd, held, cell, some ws, mine', err⟩) (l := (l.set u NoK).set t (MemK m')) (u := u) (hb, wb)
      (((h2.left.putP (i := 0) (b := b) (cs := putC b hb wb ⟨key, val, 3, hd, held, cell, some ws, mine, err⟩) (T := 100) rfl 8 (.int .u64 mine')).putP (i := 0) (b := b) (cs := (putC b hb wb ⟨key, val, 3, hd, held, cell, some ws, mine, err⟩).setIfInBounds 8 (.int .u64 mine')) (T := 100) rfl 3 (.func (.func 130) #[.pointer (some ⟨b, 0, none⟩)] #[])).putP (i := 0) (b := b)
        (cs := ((putC b hb wb ⟨key, val, 3, hd, held, cell, some ws, mine, err⟩).setIfInBounds 8 (.int .u64 mine')).setIfInBounds 3 (.func (.func 130) #[.pointer (some ⟨b, 0, none⟩)] #[])) (T := 100) rfl 3 (.func (.func 140) #[.pointer (some ⟨b, 0, none⟩)] #[])) (by simpa using hul)
    rwa [foldU _ hne] at h3
  replace hcl2 := hide hcl2
  have hst2 : ∀ (m' : MemS) (N : KObj) (w' : World), R ((l.set u NoK).set t (MemK m') ++ ((putParts b ⟨key, val, 3, hd, held, cell, some ws, mine, err⟩ (hb, wb)).map single) ++ [N]) w' → blk w' b = some (.cells (putC b hb wb ⟨key, val, 3, hd, held, cell, some ws, mine, err⟩) 100 (0, 0)) := fun m' N w' h2 =>
    h2.left.stP (i := 0) (b := b) (cs := putC b hb wb ⟨key, val, 3, hd, held, cell, some ws, mine, err⟩) (T := 100) rfl
  replace hcl := hide hcl
  replace hst2 := hide hst2
  cases hfo : ws.found
  · have e : putStep m ⟨key, val, 3, hd, held, cell, some ws, mine, err⟩ = (storeAt m cell mine, ⟨key, val, 5, hd, held, cell, some ws, 0, err⟩, false) := by
      simp [putStep, wFound, wAt, hfo]
    rw [e]
    dsimp only
    rw [hfo] at hf
    simp only [Bool.false_eq_true, if_false, ndV, nd0] at hf
    replace hf := hide hf
    replace hfo := hide hfo
    clear e hok
    go_enter Tryz.func129, Tryz.ntmps129
    go_wp2_with fail
    refine hf.out.mono ?_
    rintro e w2 ⟨rfl, h2⟩
    have h3 := h2.new #[.string ⟨#[]⟩, .string ⟨#[]⟩, .int .u32 0, .int .u64 0] 103
    obtain ⟨tv, wv, hm3⟩ := h3.memHdr (app_get (memU ht hne))
    have hs3 := h3.left.stP (i := 0) (b := b) (cs := putC b hb wb ⟨key, val, 3, hd, held, cell, some ws, mine, err⟩) (T := 100) rfl
    have hst := memR_storeAt h3.drew (app_get (memU ht hne)) cell mine hmn
    rw [setL' _ _ (by simp; omega), setL' _ _ (by simpa using htl)] at hst
    dsimp only [putC] at hs3
    rw [show putF 3 = 129 from rfl] at hs3
    generalize (if 0 ≤ cell ∧ cell < (m.cells.length : Int) then (0 : Int) else 2) = cd at hst
    replace hst := hide hst
    clear h2 h3 hf hs
    go_upto_region 4 with fail
    generalize w2.alloc (.cells #[.string ⟨#[]⟩, .string ⟨#[]⟩, .int .u32 0, .int .u64 0] 103) = w3 at *
    generalize w2.heap.size = N3 at *
    go_still_tail 12, (by kernel_rfl)
    go_wp2_with fail
    refine hst.out.mono ?_
    rintro e w4 ⟨rfl, h4⟩
    have hs4 := hst2.out _ _ _ h4
    have h5 := hcl.out _ 0 5 _ _ h4
    dsimp only [putC] at hs4
    rw [show putF 3 = 129 from rfl] at hs4
    replace h5 := hide h5
    clear h4 hst hs3 hm3
    go_wp2
    go_ret
    exact ⟨rfl, h5.out⟩
  · have hwa := hwok.2.2.1
    by_cases hp : ws.prev = 0
    · have e : putStep m ⟨key, val, 3, hd, held, cell, some ws, mine, err⟩ = (storeAt m cell mine, ⟨key, val, 4, hd, held, cell, some ws, ws.at_, err⟩, false) := by
        simp [putStep, wFound, wAt, wPrev, hfo, hp]
      rw [e]
      dsimp only
      rw [hfo] at hf
      simp only [if_true, ndV] at hf
      replace hf := hide hf
      replace hfo := hide hfo
      clear e hok
      go_enter Tryz.func129, Tryz.ntmps129
      go_wp2_with fail
      refine hf.out.mono ?_
      rintro e w2 ⟨rfl, h2⟩
      have h3 := h2.new #[.string ws.node.key, .string ws.node.val, .int .u32 ws.node.sum, .int .u64 ws.node.next] 103
      obtain ⟨tv, wv, hm3⟩ := h3.memHdr (app_get (memU ht hne))
      have hs3 := h3.left.stP (i := 0) (b := b) (cs := putC b hb wb ⟨key, val, 3, hd, held, cell, some ws, mine, err⟩) (T := 100) rfl
      have hpv := hide fun k => walk_prev (h3.drewN k) (u := (l.set u NoK).length + 2) (b := wb) (s := ws) (app_get (getP rfl))
      have hpv0 := hide (walk_prev h3 (u := (l.set u NoK).length + 2) (b := wb) (s := ws) (app_get (getP rfl)))
      have hst := memR_storeAt h3.drew (app_get (memU ht hne)) cell mine hmn
      rw [setL' _ _ (by simp; omega), setL' _ _ (by simpa using htl)] at hst
      dsimp only [putC] at hs3
      rw [show putF 3 = 129 from rfl] at hs3
      rw [hp] at hpv0
      clear hpv
      generalize (if 0 ≤ cell ∧ cell < (m.cells.length : Int) then (0 : Int) else 2) = cd at hst
      replace hst := hide hst
      replace hp := hide hp
      clear h2 h3 hf hs
      go_upto_region 2 with fail
      generalize w2.alloc (.cells #[.string ws.node.key, .string ws.node.val, .int .u32 ws.node.sum, .int .u64 ws.node.next] 103) = w3 at *
      generalize w2.heap.size = N3 at *
      go_wp2_with fail
      refine hpv0.out.mono ?_
      rintro e w3' ⟨rfl, rfl⟩
      go_upto_region 4 with fail
      go_still_tail 12, (by kernel_rfl)
      go_wp2_with fail
      refine hst.out.mono ?_
      rintro e w4 ⟨rfl, h4⟩
      have hs4 := hst2.out _ _ _ h4
      have h5 := hcl2.out _ ws.at_ _ _ h4
      dsimp only [putC] at hs4
      rw [show putF 3 = 129 from rfl] at hs4
      replace h5 := hide h5
      clear h4 hst hs3 hm3
      go_wp2
      go_ret
      exact ⟨rfl, h5.out⟩
    · have e : putStep m ⟨key, val, 3, hd, held, cell, some ws, mine, err⟩ = (linkM m ws.prev mine, ⟨key, val, 4, hd, held, cell, some ws, ws.at_, err⟩, false) := by
        simp [putStep, wFound, wAt, wPrev, hfo, hp]
      rw [e]
      dsimp only
      rw [hfo] at hf
      simp only [if_true, ndV] at hf
      replace hf := hide hf
      replace hfo := hide hfo
      clear e hok
      go_enter Tryz.func129, Tryz.ntmps129
      go_wp2_with fail
      refine hf.out.mono ?_
      rintro e w2 ⟨rfl, h2⟩
      have h3 := h2.new #[.string ws.node.key, .string ws.node.val, .int .u32 ws.node.sum, .int .u64 ws.node.next] 103
      obtain ⟨tv, wv, hm3⟩ := h3.memHdr (app_get (memU ht hne))
      have hs3 := h3.left.stP (i := 0) (b := b) (cs := putC b hb wb ⟨key, val, 3, hd, held, cell, some ws, mine, err⟩) (T := 100) rfl
      have hpv := hide fun k => walk_prev (h3.drewN k) (u := (l.set u NoK).length + 2) (b := wb) (s := ws) (app_get (getP rfl))
      have hpv0 := hide (walk_prev h3 (u := (l.set u NoK).length + 2) (b := wb) (s := ws) (app_get (getP rfl)))
      have hst := memR_link (h3.drewN 1) (app_get (memU ht hne)) ws.prev mine hwa hmn
      rw [← linkM_is, setL' _ _ (by simp; omega), setL' _ _ (by simpa using htl)] at hst
      dsimp only [putC] at hs3
      rw [show putF 3 = 129 from rfl] at hs3
      have hpn : (ws.prev != 0) = true := by simpa using hp
      generalize useCode m.ss ws.prev = cd at hst
      replace hst := hide hst
      replace hp := hide hp
      clear h2 h3 hf hs
      go_upto_region 2 with fail
      generalize w2.alloc (.cells #[.string ws.node.key, .string ws.node.val, .int .u32 ws.node.sum, .int .u64 ws.node.next] 103) = w3 at *
      generalize w2.heap.size = N3 at *
      go_wp2_with fail
      refine hpv0.out.mono ?_
      rintro e w3' ⟨rfl, rfl⟩
      go_upto_region 3 with fail
      go_still_tail 13, (by kernel_rfl)
      still_call ((hpv.out 1).mono fun _ _ h => ⟨h.1, h.2.symm⟩)
      repeat still_step
      refine wpStill_nil ?_
      go_wp2_with fail
      refine hst.out.mono ?_
      rintro e w4 ⟨rfl, h4⟩
      have hs4 := hst2.out _ _ _ h4
      have h5 := hcl2.out _ ws.at_ _ _ h4
      dsimp only [putC] at hs4
      rw [show putF 3 = 129 from rfl] at hs4
      replace h5 := hide h5
      clear h4 hst hs3 hm3
      go_wp2
      go_ret
      exact ⟨rfl, h5.out⟩
end
end Go.Proofs.YtcgfknpobifecaaGreat
