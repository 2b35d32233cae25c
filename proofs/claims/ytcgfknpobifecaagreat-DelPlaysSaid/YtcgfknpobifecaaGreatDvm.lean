/- Package del: take. Condition: the memory and the del are there. Package del: pass. Condition: the memory and the del are there. Package del: Step, Ready over a del; a del as a kind of frame. Condition: the memory and the put are there. -/
import Derived.Test.YtcgfknpobifecaaGreatDq
import Derived.Test.YtcgfknpobifecaaGreatDu
import Derived.Test.YtcgfknpobifecaaGreatPv
namespace Go.Proofs.YtcgfknpobifecaaGreat
open Go.RowKit

/-- What lies open when the walk is made. -/
def takePartsD (b hb wb D wb4 : Nat) (s : DelS) (c' : HoldS) (C : Array Value) (d1 d2 : Int) (ws : WalkS) : List FObj := [stF b C 123, stF hb (holdC hb c') 147, (match s.wk with | none => noF | some ws => stF wb (walkC wb ws) 150), stF D #[.int .i64 d1, .int .i64 d2] 83, stF wb4 (walkC wb4 ws) 150]
section
variable {l : List KObj} {w : World} {t u b : Nat} {m : MemS} {s : DelS}
set_option maxRecDepth 100000 in
set_option maxHeartbeats 3200000 in
theorem del_take (h : R l w) (ht : l[t]? = some (MemK m)) (hu : l[u]? = some (DelK b s)) (hne : t ≠ u) (hok : DelOk m s) (hk : s.phase = 0) :
    Calls Tryz.prog 57 #[.pointer (some ⟨b, 0, none⟩), .pointer (some ⟨m.b, 0, none⟩)] w (Does ((l.set t (MemK (delStep m s).1)).set u (DelK b (delStep m s).2.1)) (.bool (delStep m s).2.2)) := by
  have hul := lt_of_get hu
  have htl := lt_of_get ht
  have hmo := h.memOk ht
  obtain ⟨⟨hb, wb⟩, h1⟩ := DelK.open_ h hu
  have hs := h1.stP (i := 0) (b := b) (cs := delC b hb wb s) (T := 123) rfl
  have hc := hold_step h1 (memU ht hne) (u := (l.set u NoK).length + 1) (b := hb) (s := s.hold) (getP rfl) (by simp; omega) hok.hold
  rw [set2P _ _ _ (by simpa using htl)] at hc
  dsimp only [delC] at hs
  rw [hk, show delF 0 = 57 from rfl] at hs
  have hdo := holdDesc_ok (holdStep_desc hmo hok.desc)
  have en := fun (m' : MemS) (c' : HoldS) => delStep_0n (m := m) (m' := m') (s := s) (c' := c') hk
  have ey := fun (m' : MemS) (c' : HoldS) (d : Int × Int) => delStep_0y (m := m) (m' := m') (s := s) (c' := c') (d := d) hk
  generalize holdStep m s.hold = r at *
  obtain ⟨m', c', ld⟩ := r
  dsimp only at hc hdo
  replace hc := hide hc
  cases ld
  · rw [en m' c' rfl]
    dsimp only
    clear h h1 en ey hok hdo
    replace hk := hide hk
    go_enter Tryz.func57, Tryz.ntmps57
    go_wp2_with fail
    refine hc.out.mono ?_
    rintro e w2 ⟨rfl, h2⟩
    have h3 := DelK.close (b := b) (s := { s with hold := c' }) (l := (l.set u NoK).set t (MemK m')) (u := u) (hb, wb) h2 (by simpa using hul)
    rw [foldU _ hne] at h3
    replace h3 := hide h3
    clear h2 hc hs
    go_wp2
    go_ret
    exact ⟨rfl, h3.out⟩
  · obtain ⟨⟨d1, d2⟩, hd⟩ : ∃ d, holdDesc c' = d := ⟨_, rfl⟩
    rw [ey m' c' _ rfl hd]
    rw [hd] at hdo
    dsimp only at hdo ⊢
    have hky := hok.key
    have hsl := sumOf_lt s.key
    have hs0 : (0 : Int) ≤ (sumOf s.key : Int) := Int.natCast_nonneg _
    have hbl := bucketOf_lt (sumOf s.key) d1 hs0
    have hbk := hide fun W => fnv_bucket (sumOf s.key) d1 hs0 (by omega) W
    generalize bucketOf (sumOf s.key) d1 = bk at *
    have e1 : IntKind.i64.wrap (d2 + bk) = d2 + bk := by rw [IntKind.wrap_i64]; omega
    replace hk := hide hk
    clear h h1 en ey hok
    go_enter Tryz.func57, Tryz.ntmps57
    go_wp2_with fail
    refine hc.out.mono ?_
    rintro e w2 ⟨rfl, h2⟩
    have hs2 := h2.stP (i := 0) (b := b) (cs := delC b hb wb s) (T := 123) rfl
    have hds := hold_desc h2 (u := ((l.set u NoK).set t (MemK m')).length + 1) (b := hb) (s := c') (getP rfl)
    rw [hd] at hds
    dsimp only [delC, descV] at hs2 hds
    rw [hk.out, show delF 0 = 57 from rfl] at hs2
    replace hds := hide hds
    clear hc hs h2
    go_wp2_with fail
    refine hds.out.mono ?_
    rintro e w3 ⟨rfl, h3⟩
    have hs3 := h3.stP (i := 0) (b := b) (cs := delC b hb wb s) (T := 123) rfl
    have hlt3 := lt_of_blk hs3
    have h4 := h3.new #[.int .i64 d1, .int .i64 d2] 83
    have hD4 := blk_new w3 (.cells #[.int .i64 d1, .int .i64 d2] 83)
    have hs4 := (blk_old w3 (.cells #[.int .i64 d1, .int .i64 d2] 83) b hlt3).trans hs3
    dsimp only [delC] at hs3 hs4
    rw [hk.out, show delF 0 = 57 from rfl] at hs3 hs4
    rw [List.append_assoc] at h4
    clear hds hs2 h3
    go_upto_region 3 with fail
    generalize w3.alloc (.cells #[.int .i64 d1, .int .i64 d2] 83) = w4 at *
    generalize w3.heap.size = D at *
    have h5 := h4.putP (i := 0) (b := b) (cs := delC b hb wb s) (T := 123) rfl 4 (.bool true)
    have hs5 := h5.stP (i := 0) (b := b) (cs := (delC b hb wb s).setIfInBounds 4 (.bool true)) (T := 123) rfl
    have hD5 := h5.stP (i := 3) (b := D) (cs := #[.int .i64 d1, .int .i64 d2]) (T := 83) rfl
    simp only [delC, List.setIfInBounds_toArray, List.set_cons_succ, List.set_cons_zero] at hs5
    rw [hk.out, show delF 0 = 57 from rfl] at hs5
    clear h4 hs3 hlt3
    go_upto_region 4 with fail
    generalize w4.setCell ⟨b, 4, none⟩ (.bool true) = w5 at *
    clear hs4 hD4
    have h6 := (h5.drewN 1).putP (i := 0) (b := b) (cs := (delC b hb wb s).setIfInBounds 4 (.bool true)) (T := 123) rfl 5 (.int .i64 (d2 + bk))
    replace h6 := hide h6
    go_still_tail 13, (by kernel_rfl)
    still_call ((hbk.out _).mono fun _ _ h => ⟨h.1, h.2.symm⟩)
    repeat still_step
    refine wpStill_nil ?_
    go_upto_region 5 with fail
    have h6' : R _ ((w5.setCell ⟨b, 5, none⟩ (.int .i64 (d2 + bk))).drew) := h6.out
    clear h6 h5 hs5 hD5 hbk
    generalize (w5.setCell ⟨b, 5, none⟩ (.int .i64 (d2 + bk))).drew = w6 at *
    have hs6 := h6'.stP (i := 0) (b := b) (cs := ((delC b hb wb s).setIfInBounds 4 (.bool true)).setIfInBounds 5 (.int .i64 (d2 + bk))) (T := 123) rfl
    have k6 : cellOf (blk w6.drew b) 5 = some (.int .i64 (d2 + bk)) := by show cellOf (blk w6 b) 5 = _; rw [hs6]; rfl
    have k2 : cellOf (blk w6.drew b) 1 = some (.int .u32 (sumOf s.key)) := by show cellOf (blk w6 b) 1 = _; rw [hs6]; rfl
    have k0 : cellOf (blk w6.drew b) 0 = some (.string s.key) := by show cellOf (blk w6 b) 0 = _; rw [hs6]; rfl
    have hwn := hide (walk_new h6'.drew (d2 + bk) (sumOf s.key) s.key)
    clear hs6 h6'
    go_region_held3 (fun w' => cellOf (blk w' b) 5 = some (.int .i64 (d2 + bk)) ∧ cellOf (blk w' b) 1 = some (.int .u32 (sumOf s.key)) ∧ cellOf (blk w' b) 0 = some (.string s.key)) (first | exact ⟨k6, k2, k0⟩ | exact ⟨m6, m2, m0⟩ | exact ⟨n6, n2, n0⟩)
      (first | (go_at_call 78; refine hwn.out.mono ?_; rintro e w7 ⟨wb4, rfl, h7⟩; have h8 : Hid (R ((l.set u NoK).set t (MemK m') ++ (takePartsD b hb wb D wb4 s c' (((delC b hb wb s).setIfInBounds 4 (.bool true)).setIfInBounds 5 (.int .i64 (d2 + bk))) d1 d2 (walk0 (d2 + bk) (sumOf s.key) s.key)).map single) w7) := hide (by rw [List.append_assoc] at h7; exact h7); clear h7; have hs8 := h8.out.stP (i := 0) (b := b) (cs := ((delC b hb wb s).setIfInBounds 4 (.bool true)).setIfInBounds 5 (.int .i64 (d2 + bk))) (T := 123) rfl; simp only [delC, List.setIfInBounds_toArray, List.set_cons_succ, List.set_cons_zero] at hs8; have n6 : cellOf (blk w7 b) 5 = some (.int .i64 (d2 + bk)) := (by rw [hs8]; rfl); have n2 : cellOf (blk w7 b) 1 = some (.int .u32 (sumOf s.key)) := (by rw [hs8]; rfl); have n0 : cellOf (blk w7 b) 0 = some (.string s.key) := (by rw [hs8]; rfl); have m6 : cellOf (blk (w7.setCell ⟨b, 6, none⟩ (.pointer (some ⟨wb4, 0, none⟩))) b) 5 = some (.int .i64 (d2 + bk)) := (by rw [blk_put_same, hs8]; rfl); have m2 : cellOf (blk (w7.setCell ⟨b, 6, none⟩ (.pointer (some ⟨wb4, 0, none⟩))) b) 1 = some (.int .u32 (sumOf s.key)) := (by rw [blk_put_same, hs8]; rfl); have m0 : cellOf (blk (w7.setCell ⟨b, 6, none⟩ (.pointer (some ⟨wb4, 0, none⟩))) b) 0 = some (.string s.key) := (by rw [blk_put_same, hs8]; rfl)))
    have hp := (h8.out.putP (i := 0) (b := b) (cs := ((delC b hb wb s).setIfInBounds 4 (.bool true)).setIfInBounds 5 (.int .i64 (d2 + bk))) (T := 123) rfl 6 (.pointer (some ⟨wb4, 0, none⟩))).putP (i := 0) (b := b) (cs := (((delC b hb wb s).setIfInBounds 4 (.bool true)).setIfInBounds 5 (.int .i64 (d2 + bk))).setIfInBounds 6 (.pointer (some ⟨wb4, 0, none⟩))) (T := 123) rfl 2 (.func (.func 88) #[.pointer (some ⟨b, 0, none⟩)] #[])
    have h9 := R.packSel (l := (l.set u NoK).set t (MemK m')) (u := u) (qs := delParts b { s with hold := c', held := true, cell := d2 + bk, wk := some (walk0 (d2 + bk) (sumOf s.key) s.key), phase := 1 } (hb, wb4))
      (ps := takePartsD b hb wb D wb4 s c' ((((delC b hb wb s).setIfInBounds 4 (.bool true)).setIfInBounds 5 (.int .i64 (d2 + bk))).setIfInBounds 6 (.pointer (some ⟨wb4, 0, none⟩)) |>.setIfInBounds 2 (.func (.func 88) #[.pointer (some ⟨b, 0, none⟩)] #[])) d1 d2 (walk0 (d2 + bk) (sumOf s.key) s.key)) hp (by simpa using hul)
      (fun j => if j = 4 then 2 else if j < 2 then j else 15) (fun i q hq hi => by
        match i, hq with
        | 0, hq => exact .inl ⟨0, hq, rfl⟩
        | 1, hq => exact .inl ⟨1, hq, rfl⟩
        | 2, hq => exact .inl ⟨4, hq, rfl⟩
        | i + 3, hq => simp [delParts] at hq)
    have h10 := R.toEx (f := fun a => CompK (delParts b { s with hold := c', held := true, cell := d2 + bk, wk := some (walk0 (d2 + bk) (sumOf s.key) s.key), phase := 1 } a)) (u := u) (hb, wb4) h9 (List.getElem?_set_self (by simpa using hul))
    rw [List.set_set, foldU _ hne] at h10
    replace h10 := hide h10
    clear h8 hp h9 hwn n0 n2 n6 m0 m2 m6 k0 k2 k6
    go_wp2
    go_ret
    exact ⟨rfl, h10.out⟩

end
end Go.Proofs.YtcgfknpobifecaaGreat

namespace Go.Proofs.YtcgfknpobifecaaGreat
open Go.RowKit

section
variable {l : List KObj} {w : World} {t u b : Nat} {m : MemS} {s : DelS}
def fAt (ws : WalkS) : Int := if ws.found then ws.at_ else 0
def fNd (ws : WalkS) : Nd := if ws.found then ws.node else nd0
theorem foundV_is (ws : WalkS) : foundV ws = .tuple #[.int .u64 (fAt ws), ndV (fNd ws), .bool ws.found] := by
  unfold foundV fAt fNd
  cases ws.found <;> rfl
set_option maxRecDepth 100000 in
set_option maxHeartbeats 3200000 in
theorem del_pass (h : R l w) (ht : l[t]? = some (MemK m)) (hu : l[u]? = some (DelK b s)) (hne : t ≠ u) (hok : DelOk m s) (hk : s.phase = 2) :
    Calls Tryz.prog 115 #[.pointer (some ⟨b, 0, none⟩), .pointer (some ⟨m.b, 0, none⟩)] w (Does ((l.set t (MemK (delStep m s).1)).set u (DelK b (delStep m s).2.1)) (.bool (delStep m s).2.2)) := by
  have hul := lt_of_get hu
  have htl := lt_of_get ht
  obtain ⟨ws, hws⟩ := Option.isSome_iff_exists.1 (hok.has (by omega))
  have hwok := hok.walk ws hws
  obtain ⟨key, ph, hd, held, cell, wko, mine⟩ := s
  dsimp only at hk hws
  subst hk hws
  obtain ⟨⟨hb, wb⟩, h1⟩ := DelK.open_ h hu
  have hs := h1.stP (i := 0) (b := b) (cs := delC b hb wb ⟨key, 2, hd, held, cell, some ws, mine⟩) (T := 123) rfl
  have hf := walk_found h1 (u := (l.set u NoK).length + 2) (b := wb) (s := ws) (getP rfl)
  rw [foundV_is] at hf
  have hnx : U64 (fNd ws).next := by
    unfold fNd
    split
    · exact hwok.2.2.2
    · exact ⟨by decide, by decide⟩
  have e : delStep m ⟨key, 2, hd, held, cell, some ws, mine⟩ = (if ws.prev ≠ 0 then linkM m ws.prev (fNd ws).next else storeAt m cell (fNd ws).next, ⟨key, 3, hd, held, cell, some ws, fAt ws⟩, false) := by
    have e1 : (fNd ws).next = if ws.found then ws.node.next else 0 := by unfold fNd; split <;> rfl
    rw [e1]
    rfl
  dsimp only [delC] at hs
  rw [show delF 2 = 115 from rfl] at hs
  rw [e]
  dsimp only
  clear h h1 e
  have hcl : ∀ (m' : MemS) (N : KObj) (w' : World), R ((l.set u NoK).set t (MemK m') ++ ((delParts b ⟨key, 2, hd, held, cell, some ws, mine⟩ (hb, wb)).map single) ++ [N]) w' →
      R ((l.set t (MemK m')).set u (DelK b ⟨key, 3, hd, held, cell, some ws, fAt ws⟩)) ((w'.setCell ⟨b, 7, none⟩ (.int .u64 (fAt ws))).setCell ⟨b, 2, none⟩ (.func (.func 134) #[.pointer (some ⟨b, 0, none⟩)] #[])) := fun m' N w' h2 => by
    have h3 := DelK.close (b := b) (s := ⟨key, 3, hd, held, cell, some ws, fAt ws⟩) (l := (l.set u NoK).set t (MemK m')) (u := u) (hb, wb)
      ((h2.left.putP (i := 0) (b := b) (cs := delC b hb wb ⟨key, 2, hd, held, cell, some ws, mine⟩) (T := 123) rfl 7 (.int .u64 (fAt ws))).putP (i := 0) (b := b) (cs := (delC b hb wb ⟨key, 2, hd, held, cell, some ws, mine⟩).setIfInBounds 7 (.int .u64 (fAt ws))) (T := 123) rfl 2 (.func (.func 134) #[.pointer (some ⟨b, 0, none⟩)] #[])) (by simpa using hul)
    rwa [foldU _ hne] at h3
  have hst2 : ∀ (m' : MemS) (N : KObj) (w' : World), R ((l.set u NoK).set t (MemK m') ++ ((delParts b ⟨key, 2, hd, held, cell, some ws, mine⟩ (hb, wb)).map single) ++ [N]) w' → blk w' b = some (.cells (delC b hb wb ⟨key, 2, hd, held, cell, some ws, mine⟩) 123 (0, 0)) := fun m' N w' h2 =>
    h2.left.stP (i := 0) (b := b) (cs := delC b hb wb ⟨key, 2, hd, held, cell, some ws, mine⟩) (T := 123) rfl
  replace hcl := hide hcl
  replace hst2 := hide hst2
  have hwa := hwok.2.2.1
  generalize fAt ws = hat at *
  generalize fNd ws = nd at *
  obtain ⟨nk, nv, ns, nn⟩ := nd
  generalize ws.found = fo at *
  dsimp only [ndV] at hf hnx ⊢
  replace hf := hide hf
  clear hok hwok
  by_cases hp : ws.prev = 0
  · rw [if_neg (fun x => x hp)]
    go_enter Tryz.func115, Tryz.ntmps115
    go_wp2_with fail
    refine hf.out.mono ?_
    rintro e w2 ⟨rfl, h2⟩
    have h3 := h2.new #[.string nk, .string nv, .int .u32 ns, .int .u64 nn] 103
    have hN3 := blk_new w2 (.cells #[.string nk, .string nv, .int .u32 ns, .int .u64 nn] 103)
    obtain ⟨tv, wv, hm3⟩ := h3.memHdr (app_get (memU ht hne))
    have hs3 := h3.left.stP (i := 0) (b := b) (cs := delC b hb wb ⟨key, 2, hd, held, cell, some ws, mine⟩) (T := 123) rfl
    have hpv0 := hide (walk_prev h3 (u := (l.set u NoK).length + 2) (b := wb) (s := ws) (app_get (getP rfl)))
    have hst := memR_storeAt h3.drew (app_get (memU ht hne)) cell nn hnx
    rw [setL' _ _ (by simp; omega), setL' _ _ (by simpa using htl)] at hst
    dsimp only [delC] at hs3
    rw [show delF 2 = 115 from rfl] at hs3
    rw [hp] at hpv0
    generalize (if 0 ≤ cell ∧ cell < (m.cells.length : Int) then (0 : Int) else 2) = cd at hst
    replace hst := hide hst
    replace hp := hide hp
    clear h2 h3 hf hs
    go_upto_region 2 with fail
    generalize w2.alloc (.cells #[.string nk, .string nv, .int .u32 ns, .int .u64 nn] 103) = w3 at *
    generalize w2.heap.size = N3 at *
    go_wp2_with fail
    refine hpv0.out.mono ?_
    rintro e w3' ⟨rfl, rfl⟩
    go_upto_region 4 with fail
    go_still_tail 10, (by kernel_rfl)
    go_wp2_with fail
    refine hst.out.mono ?_
    rintro e w4 ⟨rfl, h4⟩
    have hs4 := hst2.out _ _ _ h4
    have h5 := hcl.out _ _ _ h4
    dsimp only [delC] at hs4
    rw [show delF 2 = 115 from rfl] at hs4
    replace h5 := hide h5
    clear h4 hst hs3 hm3 hN3
    go_wp2
    go_ret
    exact ⟨rfl, h5.out⟩
  · rw [if_pos hp]
    go_enter Tryz.func115, Tryz.ntmps115
    go_wp2_with fail
    refine hf.out.mono ?_
    rintro e w2 ⟨rfl, h2⟩
    have h3 := h2.new #[.string nk, .string nv, .int .u32 ns, .int .u64 nn] 103
    have hN3 := blk_new w2 (.cells #[.string nk, .string nv, .int .u32 ns, .int .u64 nn] 103)
    obtain ⟨tv, wv, hm3⟩ := h3.memHdr (app_get (memU ht hne))
    have hs3 := h3.left.stP (i := 0) (b := b) (cs := delC b hb wb ⟨key, 2, hd, held, cell, some ws, mine⟩) (T := 123) rfl
    have hpv := hide fun k => walk_prev (h3.drewN k) (u := (l.set u NoK).length + 2) (b := wb) (s := ws) (app_get (getP rfl))
    have hpv0 := hide (walk_prev h3 (u := (l.set u NoK).length + 2) (b := wb) (s := ws) (app_get (getP rfl)))
    have hst := memR_link (h3.drewN 1) (app_get (memU ht hne)) ws.prev nn hwa hnx
    rw [← linkM_is, setL' _ _ (by simp; omega), setL' _ _ (by simpa using htl)] at hst
    dsimp only [delC] at hs3
    rw [show delF 2 = 115 from rfl] at hs3
    have hpn : (ws.prev != 0) = true := by simpa using hp
    generalize useCode m.ss ws.prev = cd at hst
    replace hst := hide hst
    replace hp := hide hp
    clear h2 h3 hf hs
    go_upto_region 2 with fail
    generalize w2.alloc (.cells #[.string nk, .string nv, .int .u32 ns, .int .u64 nn] 103) = w3 at *
    generalize w2.heap.size = N3 at *
    go_wp2_with fail
    refine hpv0.out.mono ?_
    rintro e w3' ⟨rfl, rfl⟩
    go_upto_region 3 with fail
    go_still_tail 11, (by kernel_rfl)
    still_call ((hpv.out 1).mono fun _ _ h => ⟨h.1, h.2.symm⟩)
    repeat still_step
    refine wpStill_nil ?_
    go_wp2_with fail
    refine hst.out.mono ?_
    rintro e w4 ⟨rfl, h4⟩
    have hs4 := hst2.out _ _ _ h4
    have h5 := hcl.out _ _ _ h4
    dsimp only [delC] at hs4
    rw [show delF 2 = 115 from rfl] at hs4
    replace h5 := hide h5
    clear h4 hst hs3 hm3 hN3
    go_wp2
    go_ret
    exact ⟨rfl, h5.out⟩
end
end Go.Proofs.YtcgfknpobifecaaGreat

namespace Go.Proofs.YtcgfknpobifecaaGreat
open Go.RowKit

section
variable {l : List KObj} {w : World} {t u b : Nat} {m : MemS} {s : DelS}
set_option maxHeartbeats 800000 in
theorem del_step (h : R l w) (ht : l[t]? = some (MemK m)) (hu : l[u]? = some (DelK b s)) (hne : t ≠ u) (hok : DelOk m s) :
    Calls Tryz.prog 200 #[.pointer (some ⟨b, 0, none⟩), .pointer (some ⟨m.b, 0, none⟩)] w (Does ((l.set t (MemK (delStep m s).1)).set u (DelK b (delStep m s).2.1)) (.bool (delStep m s).2.2)) := by
  obtain ⟨⟨hb, wb⟩, h1⟩ := DelK.open_ h hu
  have hs := h1.stP (i := 0) (b := b) (cs := delC b hb wb s) (T := 123) rfl
  dsimp only [delC] at hs
  clear h1
  rcases (by have := hok.phase; omega : s.phase = 0 ∨ s.phase = 1 ∨ s.phase = 2 ∨ s.phase = 3 ∨ s.phase = 4) with h0 | h0 | h0 | h0 | h0
  · have hc := hide (del_take h ht hu hne hok h0)
    rw [h0, show delF 0 = 57 from rfl] at hs
    replace h0 := hide h0
    clear h hok
    go_enter Tryz.func200, Tryz.ntmps200
    go_wp2_with fail
    refine hc.out.mono ?_
    rintro e w2 ⟨rfl, h2⟩
    replace h2 := hide h2
    go_wp2
    go_ret
    exact ⟨rfl, h2.out⟩
  · have hc := hide (del_look h ht hu hne hok h0)
    rw [h0, show delF 1 = 88 from rfl] at hs
    replace h0 := hide h0
    clear h hok
    go_enter Tryz.func200, Tryz.ntmps200
    go_wp2_with fail
    refine hc.out.mono ?_
    rintro e w2 ⟨rfl, h2⟩
    replace h2 := hide h2
    go_wp2
    go_ret
    exact ⟨rfl, h2.out⟩
  · have hc := hide (del_pass h ht hu hne hok h0)
    rw [h0, show delF 2 = 115 from rfl] at hs
    replace h0 := hide h0
    clear h hok
    go_enter Tryz.func200, Tryz.ntmps200
    go_wp2_with fail
    refine hc.out.mono ?_
    rintro e w2 ⟨rfl, h2⟩
    replace h2 := hide h2
    go_wp2
    go_ret
    exact ⟨rfl, h2.out⟩
  · have hc := hide (del_retire h ht hu hne hok h0)
    rw [h0, show delF 3 = 134 from rfl] at hs
    replace h0 := hide h0
    clear h hok
    go_enter Tryz.func200, Tryz.ntmps200
    go_wp2_with fail
    refine hc.out.mono ?_
    rintro e w2 ⟨rfl, h2⟩
    replace h2 := hide h2
    go_wp2
    go_ret
    exact ⟨rfl, h2.out⟩
  · have hc := hide (del_drop h ht hu hne hok h0)
    rw [h0, show delF 4 = 114 from rfl] at hs
    replace h0 := hide h0
    clear h hok
    go_enter Tryz.func200, Tryz.ntmps200
    go_wp2_with fail
    refine hc.out.mono ?_
    rintro e w2 ⟨rfl, h2⟩
    replace h2 := hide h2
    go_wp2
    go_ret
    exact ⟨rfl, h2.out⟩

set_option maxHeartbeats 800000 in
theorem del_ready (h : R l w) (ht : l[t]? = some (MemK m)) (hu : l[u]? = some (DelK b s)) (hne : t ≠ u) (hok : DelOk m s) :
    Calls Tryz.prog 199 #[.pointer (some ⟨b, 0, none⟩), .pointer (some ⟨m.b, 0, none⟩)] w (Does l (.bool (delReady m s))) := by
  have hul := lt_of_get hu
  obtain ⟨⟨hb, wb⟩, h1⟩ := DelK.open_ h hu
  have hs := h1.stP (i := 0) (b := b) (cs := delC b hb wb s) (T := 123) rfl
  have hrd := hold_ready h1 (memU ht hne) (u := (l.set u NoK).length + 1) (b := hb) (s := s.hold) (getP rfl) hok.hold
  have hcl : ∀ w', R (l.set u NoK ++ (delParts b s (hb, wb)).map single) w' → R l w' := fun w' h' => by
    have := DelK.close (b := b) (s := s) (u := u) (hb, wb) h' (by simpa using hul)
    rwa [List.set_set, set_same hu] at this
  replace hcl := hide hcl
  dsimp only [delC] at hs
  unfold delReady
  cases hh : s.held
  · rw [hh] at hs
    rw [Bool.false_or]
    generalize holdReady m s.hold = x at *
    replace hrd := hide hrd
    replace hh := hide hh
    clear h h1 hok
    go_enter Tryz.func199, Tryz.ntmps199
    go_wp2_with fail
    refine hrd.out.mono ?_
    rintro e w2 ⟨rfl, h2⟩
    have h3 := hide (hcl.out _ h2)
    clear h2 hs hrd
    cases x
    all_goals
      go_wp2
      go_ret
      exact ⟨rfl, h3.out⟩
  · rw [hh] at hs
    rw [Bool.true_or]
    replace hh := hide hh
    replace h := hide h
    clear h1 hok hrd
    go_enter Tryz.func199, Tryz.ntmps199
    go_wp2
    go_ret
    exact ⟨rfl, h.out⟩
end
theorem del_frame (b : Nat) : FrameAt 64 199 200 b := ⟨fun n w => by kernel_rfl, fun n w => by kernel_rfl, fun n w => by kernel_rfl, fun a w => by kernel_rfl, fun a w => by kernel_rfl, fun n w => by kernel_rfl⟩
theorem delK : FrameK 64 199 200 DelK DelOk delReady delStep where
  at_ := del_frame
  ready_ h ht hu hne hi := del_ready h ht hu hne hi
  step_ h ht hu hne hi _ := del_step h ht hu hne hi
  inv hm hi _ := del_inv hm hi
  blk m s := delStep_b m s
end Go.Proofs.YtcgfknpobifecaaGreat
