/- Package put: alloc. Condition: the memory and the put are there. -/
import Derived.Test.YtcgfknpobifecaaGreatPv
namespace Go.Proofs.YtcgfknpobifecaaGreat
open Go.RowKit

theorem blk_newC {w : World} {b i : Nat} {v : Value} (x : Obj) (h : cellOf (blk w b) i = some v) : cellOf (blk (w.alloc x) b) i = some v := by
  have hb : b < w.heap.size := by
    cases hx : blk w b with
    | none => rw [hx] at h; cases h
    | some c => exact lt_of_blk hx
  rw [blk_old w x b hb]; exact h
theorem cell_put {w : World} {b g i j : Nat} {v x : Value} (hne : g ≠ b) (h : cellOf (blk w b) i = some v) : cellOf (blk (w.setCell ⟨g, j, none⟩ x) b) i = some v := by
  rw [blk_put_other _ _ _ _ _ hne.symm]; exact h
section
variable {l : List KObj} {w : World} {t u b : Nat} {m : MemS} {s : PutS}
set_option maxRecDepth 100000 in
set_option maxHeartbeats 3200000 in
theorem put_alloc (h : R l w) (ht : l[t]? = some (MemK m)) (hu : l[u]? = some (PutK b s)) (hne : t ≠ u) (hok : PutOk m s) (hk : s.phase = 2) :
    Calls Tryz.prog 111 #[.pointer (some ⟨b, 0, none⟩), .pointer (some ⟨m.b, 0, none⟩)] w (Does ((l.set t (MemK (putStep m s).1)).set u (PutK b (putStep m s).2.1)) (.bool (putStep m s).2.2)) := by
  have hul := lt_of_get hu
  have htl := lt_of_get ht
  obtain ⟨ws, hws⟩ := Option.isSome_iff_exists.1 (hok.has (by omega))
  have hNd := putNd_ok hok
  have hgen := hok.gen
  obtain ⟨key, val, ph, hd, held, cell, wko, mine, err⟩ := s
  dsimp only at hk hws
  subst hk hws
  obtain ⟨⟨hb, wb⟩, h1⟩ := PutK.open_ h hu
  have hs := h1.stP (i := 0) (b := b) (cs := putC b hb wb ⟨key, val, 2, hd, held, cell, some ws, mine, err⟩) (T := 100) rfl
  have hlt := lt_of_blk hs
  have hZ := h1.drew.new #[.string ⟨#[]⟩, .string ⟨#[]⟩, .int .u32 0, .int .u64 0] 103
  have hF := fun x : Int => h1.drew.new #[.string key, .string val, .int .u32 (sumOf key), .int .u64 x] 103
  have hfi1 := hide (walk_first h1.drew (u := (l.set u NoK).length + 2) (b := wb) (s := ws) (getP rfl))
  have hfi2 := hide (walk_first hZ (u := (l.set u NoK).length + 2) (b := wb) (s := ws) (app_get (getP rfl)))
  have k0 : cellOf (blk w.drew b) 0 = some (.string key) := by show cellOf (blk w b) 0 = _; rw [hs]; rfl
  have k1 : cellOf (blk w.drew b) 1 = some (.string val) := by show cellOf (blk w b) 1 = _; rw [hs]; rfl
  have k2 : cellOf (blk w.drew b) 2 = some (.int .u32 (sumOf key)) := by show cellOf (blk w b) 2 = _; rw [hs]; rfl
  have k7 : cellOf (blk w.drew b) 7 = some (.pointer (some ⟨wb, 0, none⟩)) := by show cellOf (blk w b) 7 = _; rw [hs]; rfl
  have a0 := blk_newC (.cells #[.string ⟨#[]⟩, .string ⟨#[]⟩, .int .u32 0, .int .u64 0] 103) k0
  have a1 := blk_newC (.cells #[.string ⟨#[]⟩, .string ⟨#[]⟩, .int .u32 0, .int .u64 0] 103) k1
  have a2 := blk_newC (.cells #[.string ⟨#[]⟩, .string ⟨#[]⟩, .int .u32 0, .int .u64 0] 103) k2
  have a7 := blk_newC (.cells #[.string ⟨#[]⟩, .string ⟨#[]⟩, .int .u32 0, .int .u64 0] 103) k7
  have b0 := fun x : Obj => blk_newC x k0
  have b1 := fun x : Obj => blk_newC x k1
  have b2 := fun x : Obj => blk_newC x k2
  have b7 := fun x : Obj => blk_newC x k7
  have hNb : w.drew.heap.size ≠ b := Nat.ne_of_gt hlt
  replace hNd := hide hNd
  replace hZ := hide hZ
  replace hF := hide hF
  replace b0 := hide b0
  replace b1 := hide b1
  replace b2 := hide b2
  replace b7 := hide b7
  dsimp only [putC] at hs
  rw [show putF 2 = 111 from rfl] at hs
  go_enter Tryz.func111, Tryz.ntmps111
  go_upto_region 1 with fail
  go_cut [5] (fun p wx => ∃ N, p = .pointer (some ⟨N, 0, none⟩) ∧ Hid (R (l.set u NoK ++ (putParts b ⟨key, val, 2, hd, held, cell, some ws, mine, err⟩ (hb, wb)).map single ++ [StK N #[.string key, .string val, .int .u32 (sumOf key), .int .u64 ws.first] 103]) wx))
  case first =>
    go_region_held3 (fun w' => cellOf (blk w' b) 0 = some (.string key) ∧ cellOf (blk w' b) 1 = some (.string val) ∧ cellOf (blk w' b) 2 = some (.int .u32 (sumOf key)) ∧ cellOf (blk w' b) 7 = some (.pointer (some ⟨wb, 0, none⟩)))
      (first | exact ⟨k0, k1, k2, k7⟩ | exact ⟨a0, a1, a2, a7⟩ | exact ⟨b0.out _, b1.out _, b2.out _, b7.out _⟩ | exact ⟨cell_put hNb (cell_put hNb (cell_put hNb (cell_put hNb a0))), cell_put hNb (cell_put hNb (cell_put hNb (cell_put hNb a1))), cell_put hNb (cell_put hNb (cell_put hNb (cell_put hNb a2))), cell_put hNb (cell_put hNb (cell_put hNb (cell_put hNb a7)))⟩)
      (first | (go_at_call 102; refine hfi1.out.mono ?_; rintro e w2 ⟨rfl, rfl⟩) | (go_at_call 102; refine hfi2.out.mono ?_; rintro e w2 ⟨rfl, rfl⟩))
    all_goals
      go_wp2_with fail
      go_meet
      case rel => first | exact ⟨_, rfl, hide (hF.out ws.first)⟩ | exact ⟨_, rfl, hide (hZ.out.put4 _ _ _ _)⟩
  case rest =>
    obtain ⟨N5, rfl, h2⟩ := hcut
    clear hs hlt hZ hF hfi1 hfi2 k0 k1 k2 k7 a0 a1 a2 a7 b0 b1 b2 b7 hNb h h1
    have hf := walk_found h2.out (u := (l.set u NoK).length + 2) (b := wb) (s := ws) (app_get (getP rfl))
    have hs2 := h2.out.left.stP (i := 0) (b := b) (cs := putC b hb wb ⟨key, val, 2, hd, held, cell, some ws, mine, err⟩) (T := 100) rfl
    rw [foundV] at hf
    dsimp only [putC] at hs2
    rw [show putF 2 = 111 from rfl] at hs2
    cases hfo : ws.found
    · rw [hfo] at hf
      have hNd : Hid (NdOk ⟨key, val, sumOf key, ws.first⟩) := by have := hNd.out; simp only [putNd, wNext, hfo, Bool.false_eq_true, if_false] at this; exact hide this
      simp only [Bool.false_eq_true, if_false, ndV, nd0] at hf
      replace hf := hide hf
      replace hfo := hide hfo
      clear h2
      go_wp2_with fail
      refine hf.out.mono ?_
      rintro e w3 ⟨rfl, h3⟩
      have h5 := h3.new #[.string ⟨#[]⟩, .string ⟨#[]⟩, .int .u32 0, .int .u64 0] 103
      clear hf hs2
      have hs3 := h5.left.left.stP (i := 0) (b := b) (cs := putC b hb wb ⟨key, val, 2, hd, held, cell, some ws, mine, err⟩) (T := 100) rfl
      dsimp only [putC] at hs3
      rw [show putF 2 = 111 from rfl] at hs3
      go_upto_region 5 with fail
      generalize w3.alloc (.cells #[.string ⟨#[]⟩, .string ⟨#[]⟩, .int .u32 0, .int .u64 0] 103) = w5 at *
      generalize w3.heap.size = N7 at *
      clear hs3 h3
      replace hfo := hfo.out
      cases hfr : freeAt m.ss with
      | none =>
        have hs5 := h5.left.left.stP (i := 0) (b := b) (cs := putC b hb wb ⟨key, val, 2, hd, held, cell, some ws, mine, err⟩) (T := 100) rfl
        obtain ⟨tv, wv, hm5⟩ := h5.memHdr (app_get (app_get (memU ht hne)))
        have q2 : cellOf (blk w5.drew m.b) 2 = some (.pointer (some ⟨m.ab, 0, none⟩)) := by show cellOf (blk w5 m.b) 2 = _; rw [hm5]; rfl
        have qN := h5.drew.st (app_get app_last)
        have hbm := ne_of_type hs5 hm5 (by decide)
        have hbN := ne_of_type (h5.st (app_get app_last)) hs5 (by decide)
        have hal := memR_alloc_no h5.drew (app_get (app_get (memU ht hne))) ⟨key, val, sumOf key, ws.first⟩ hfr
        have e : putStep m ⟨key, val, 2, hd, held, cell, some ws, mine, err⟩ = (m, ⟨key, val, 5, hd, held, cell, some ws, 0, 4⟩, false) := by simp [putStep, hfr]
        dsimp only [ndV] at hal
        replace e := hide e
        replace hfr := hide hfr
        replace hfo := hide hfo
        replace hal := hide hal
        dsimp only [putC] at hs5
        rw [show putF 2 = 111 from rfl] at hs5
        clear h5
        go_region_held3 (fun w' => cellOf (blk w' m.b) 2 = some (.pointer (some ⟨m.ab, 0, none⟩)) ∧ blk w' N5 = some (.cells #[.string key, .string val, .int .u32 (sumOf key), .int .u64 ws.first] 103 (0, 0))) (first | exact ⟨q2, qN⟩ | exact ⟨r2, rN⟩ | exact ⟨cell_put hbm r2, (blk_put_other _ _ _ _ _ hbN).trans rN⟩ | exact ⟨cell_put hbm (cell_put hbm r2), (blk_put_other _ _ _ _ _ hbN).trans ((blk_put_other _ _ _ _ _ hbN).trans rN)⟩) (first | (go_at_call 124; refine hal.out.mono ?_; rintro _ w6 ⟨rfl, h6⟩; have hs6 := h6.left.left.stP (i := 0) (b := b) (cs := putC b hb wb ⟨key, val, 2, hd, held, cell, some ws, mine, err⟩) (T := 100) rfl; obtain ⟨tv6, wv6, hm6⟩ := h6.memHdr (app_get (app_get (memU ht hne))); have r2 : cellOf (blk w6 m.b) 2 = some (.pointer (some ⟨m.ab, 0, none⟩)) := (by have hm6' := hm6; (try dsimp only at hm6'); rw [hm6']; rfl); have rN := h6.st (app_get app_last); clear hm6; replace h6 := hide h6; dsimp only [putC] at hs6; rw [show putF 2 = 111 from rfl] at hs6))
        have hp := ((h6.out.left.left.putP (i := 0) (b := b) (cs := putC b hb wb ⟨key, val, 2, hd, held, cell, some ws, mine, err⟩) (T := 100) rfl 8 (.int .u64 0)).putP (i := 0) (b := b) (cs := (putC b hb wb ⟨key, val, 2, hd, held, cell, some ws, mine, err⟩).setIfInBounds 8 (.int .u64 0)) (T := 100) rfl 9 (.int .i64 4)).putP (i := 0) (b := b) (cs := ((putC b hb wb ⟨key, val, 2, hd, held, cell, some ws, mine, err⟩).setIfInBounds 8 (.int .u64 0)).setIfInBounds 9 (.int .i64 4)) (T := 100) rfl 3 (.func (.func 129) #[.pointer (some ⟨b, 0, none⟩)] #[])
        have hp := hp.putP (i := 0) (b := b) (cs := (((putC b hb wb ⟨key, val, 2, hd, held, cell, some ws, mine, err⟩).setIfInBounds 8 (.int .u64 0)).setIfInBounds 9 (.int .i64 4)).setIfInBounds 3 (.func (.func 129) #[.pointer (some ⟨b, 0, none⟩)] #[])) (T := 100) rfl 3 (.func (.func 130) #[.pointer (some ⟨b, 0, none⟩)] #[])
        have h7 := PutK.close (b := b) (s := ⟨key, val, 5, hd, held, cell, some ws, 0, 4⟩) (l := (l.set u NoK)) (u := u) (hb, wb) hp (by simpa using hul)
        rw [List.set_set] at h7
        replace h7 := hide h7
        clear h6 hp hal q2 qN r2 rN hm5 hs5
        go_wp2
        go_ret
        rw [e.out]
        dsimp only
        rw [set_same ht]
        exact ⟨rfl, h7.out⟩
      | some i =>
        have hs5 := h5.left.left.stP (i := 0) (b := b) (cs := putC b hb wb ⟨key, val, 2, hd, held, cell, some ws, mine, err⟩) (T := 100) rfl
        obtain ⟨tv, wv, hm5⟩ := h5.memHdr (app_get (app_get (memU ht hne)))
        have q2 : cellOf (blk w5.drew m.b) 2 = some (.pointer (some ⟨m.ab, 0, none⟩)) := by show cellOf (blk w5 m.b) 2 = _; rw [hm5]; rfl
        have qN := h5.drew.st (app_get app_last)
        have hbm := ne_of_type hs5 hm5 (by decide)
        have hbN := ne_of_type (h5.st (app_get app_last)) hs5 (by decide)
        have hal := memR_alloc h5.drew (app_get (app_get (memU ht hne))) ⟨key, val, sumOf key, ws.first⟩ hNd.out hgen i hfr
        rw [setL' _ _ (by simp; omega), setL' _ _ (by simp; omega), setL' _ _ (by simpa using htl)] at hal
        generalize hx : hnd m.ss i = x at *
        have e : putStep m ⟨key, val, 2, hd, held, cell, some ws, mine, err⟩ = ({ m with ss := m.ss.set i (taken (m.ss.getD i slot0) ⟨key, val, sumOf key, ws.first⟩) }, ⟨key, val, 3, hd, held, cell, some ws, x, 0⟩, false) := by rw [← hx]; simp [putStep, hfr, putNd, wNext, hfo]
        dsimp only [ndV] at hal
        replace e := hide e
        replace hfr := hide hfr
        replace hfo := hide hfo
        replace hx := hide hx
        replace hal := hide hal
        dsimp only [putC] at hs5
        rw [show putF 2 = 111 from rfl] at hs5
        clear h5
        go_region_held3 (fun w' => cellOf (blk w' m.b) 2 = some (.pointer (some ⟨m.ab, 0, none⟩)) ∧ blk w' N5 = some (.cells #[.string key, .string val, .int .u32 (sumOf key), .int .u64 ws.first] 103 (0, 0))) (first | exact ⟨q2, qN⟩ | exact ⟨r2, rN⟩ | exact ⟨cell_put hbm r2, (blk_put_other _ _ _ _ _ hbN).trans rN⟩ | exact ⟨cell_put hbm (cell_put hbm r2), (blk_put_other _ _ _ _ _ hbN).trans ((blk_put_other _ _ _ _ _ hbN).trans rN)⟩) (first | (go_at_call 124; refine hal.out.mono ?_; rintro _ w6 ⟨rfl, h6⟩; have hs6 := h6.left.left.stP (i := 0) (b := b) (cs := putC b hb wb ⟨key, val, 2, hd, held, cell, some ws, mine, err⟩) (T := 100) rfl; obtain ⟨tv6, wv6, hm6⟩ := h6.memHdr (app_get (app_get (app_get (set_get (set_other ht hne.symm))))); have r2 : cellOf (blk w6 m.b) 2 = some (.pointer (some ⟨m.ab, 0, none⟩)) := (by have hm6' := hm6; (try dsimp only at hm6'); rw [hm6']; rfl); have rN := h6.st (app_get app_last); clear hm6; replace h6 := hide h6; dsimp only [putC] at hs6; rw [show putF 2 = 111 from rfl] at hs6))
        have hp := ((h6.out.left.left.putP (i := 0) (b := b) (cs := putC b hb wb ⟨key, val, 2, hd, held, cell, some ws, mine, err⟩) (T := 100) rfl 8 (.int .u64 x)).putP (i := 0) (b := b) (cs := (putC b hb wb ⟨key, val, 2, hd, held, cell, some ws, mine, err⟩).setIfInBounds 8 (.int .u64 x)) (T := 100) rfl 9 (.int .i64 0)).putP (i := 0) (b := b) (cs := ((putC b hb wb ⟨key, val, 2, hd, held, cell, some ws, mine, err⟩).setIfInBounds 8 (.int .u64 x)).setIfInBounds 9 (.int .i64 0)) (T := 100) rfl 3 (.func (.func 129) #[.pointer (some ⟨b, 0, none⟩)] #[])
        have h7 := PutK.close (b := b) (s := ⟨key, val, 3, hd, held, cell, some ws, x, 0⟩) (l := (l.set u NoK).set t (MemK { m with ss := m.ss.set i (taken (m.ss.getD i slot0) ⟨key, val, sumOf key, ws.first⟩) })) (u := u) (hb, wb) hp (by simpa using hul)
        rw [foldU _ hne] at h7
        replace h7 := hide h7
        clear h6 hp hal q2 qN r2 rN hm5 hs5
        go_wp2
        go_ret
        rw [e.out]
        exact ⟨rfl, h7.out⟩
    · rw [hfo] at hf
      have hNd : Hid (NdOk ⟨key, val, sumOf key, ws.node.next⟩) := by have := hNd.out; simp only [putNd, wNext, hfo, if_true] at this; exact hide this
      simp only [if_true, ndV] at hf
      replace hf := hide hf
      replace hfo := hide hfo
      clear h2
      go_wp2_with fail
      refine hf.out.mono ?_
      rintro e w3 ⟨rfl, h3⟩
      have h4 := h3.new #[.string ws.node.key, .string ws.node.val, .int .u32 ws.node.sum, .int .u64 ws.node.next] 103
      have hN5 := h4.st (app_get app_last)
      have hN7 := h4.st app_last
      have h5 := h4.put (app_get app_last) 3 (.int .u64 ws.node.next)
      rw [setL' _ _ (by simp), List.set_append_right _ _ (Nat.le_refl _), Nat.sub_self, List.set_cons_zero] at h5
      clear hf hs2
      have hs3 := h4.left.left.stP (i := 0) (b := b) (cs := putC b hb wb ⟨key, val, 2, hd, held, cell, some ws, mine, err⟩) (T := 100) rfl
      dsimp only [putC] at hs3
      rw [show putF 2 = 111 from rfl] at hs3
      go_upto_region 3 with fail
      generalize w3.alloc (.cells #[.string ws.node.key, .string ws.node.val, .int .u32 ws.node.sum, .int .u64 ws.node.next] 103) = w4 at *
      generalize w3.heap.size = N7 at *
      go_upto_region 5 with fail
      generalize w4.setCell ⟨N5, 3, none⟩ (.int .u64 ws.node.next) = w5 at *
      clear hs3 h3 h4 hN5 hN7
      replace hfo := hfo.out
      cases hfr : freeAt m.ss with
      | none =>
        have hs5 := h5.left.left.stP (i := 0) (b := b) (cs := putC b hb wb ⟨key, val, 2, hd, held, cell, some ws, mine, err⟩) (T := 100) rfl
        obtain ⟨tv, wv, hm5⟩ := h5.memHdr (app_get (app_get (memU ht hne)))
        have q2 : cellOf (blk w5.drew m.b) 2 = some (.pointer (some ⟨m.ab, 0, none⟩)) := by show cellOf (blk w5 m.b) 2 = _; rw [hm5]; rfl
        have qN := h5.drew.st (app_get app_last)
        have hbm := ne_of_type hs5 hm5 (by decide)
        have hbN := ne_of_type (h5.st (app_get app_last)) hs5 (by decide)
        have hal := memR_alloc_no h5.drew (app_get (app_get (memU ht hne))) ⟨key, val, sumOf key, ws.node.next⟩ hfr
        have e : putStep m ⟨key, val, 2, hd, held, cell, some ws, mine, err⟩ = (m, ⟨key, val, 5, hd, held, cell, some ws, 0, 4⟩, false) := by simp [putStep, hfr]
        dsimp only [ndV] at hal
        replace e := hide e
        replace hfr := hide hfr
        replace hfo := hide hfo
        replace hal := hide hal
        dsimp only [putC] at hs5
        rw [show putF 2 = 111 from rfl] at hs5
        clear h5
        go_region_held3 (fun w' => cellOf (blk w' m.b) 2 = some (.pointer (some ⟨m.ab, 0, none⟩)) ∧ blk w' N5 = some (.cells #[.string key, .string val, .int .u32 (sumOf key), .int .u64 ws.node.next] 103 (0, 0))) (first | exact ⟨q2, qN⟩ | exact ⟨r2, rN⟩ | exact ⟨cell_put hbm r2, (blk_put_other _ _ _ _ _ hbN).trans rN⟩ | exact ⟨cell_put hbm (cell_put hbm r2), (blk_put_other _ _ _ _ _ hbN).trans ((blk_put_other _ _ _ _ _ hbN).trans rN)⟩) (first | (go_at_call 124; refine hal.out.mono ?_; rintro _ w6 ⟨rfl, h6⟩; have hs6 := h6.left.left.stP (i := 0) (b := b) (cs := putC b hb wb ⟨key, val, 2, hd, held, cell, some ws, mine, err⟩) (T := 100) rfl; obtain ⟨tv6, wv6, hm6⟩ := h6.memHdr (app_get (app_get (memU ht hne))); have r2 : cellOf (blk w6 m.b) 2 = some (.pointer (some ⟨m.ab, 0, none⟩)) := (by have hm6' := hm6; (try dsimp only at hm6'); rw [hm6']; rfl); have rN := h6.st (app_get app_last); clear hm6; replace h6 := hide h6; dsimp only [putC] at hs6; rw [show putF 2 = 111 from rfl] at hs6))
        have hp := ((h6.out.left.left.putP (i := 0) (b := b) (cs := putC b hb wb ⟨key, val, 2, hd, held, cell, some ws, mine, err⟩) (T := 100) rfl 8 (.int .u64 0)).putP (i := 0) (b := b) (cs := (putC b hb wb ⟨key, val, 2, hd, held, cell, some ws, mine, err⟩).setIfInBounds 8 (.int .u64 0)) (T := 100) rfl 9 (.int .i64 4)).putP (i := 0) (b := b) (cs := ((putC b hb wb ⟨key, val, 2, hd, held, cell, some ws, mine, err⟩).setIfInBounds 8 (.int .u64 0)).setIfInBounds 9 (.int .i64 4)) (T := 100) rfl 3 (.func (.func 129) #[.pointer (some ⟨b, 0, none⟩)] #[])
        have hp := hp.putP (i := 0) (b := b) (cs := (((putC b hb wb ⟨key, val, 2, hd, held, cell, some ws, mine, err⟩).setIfInBounds 8 (.int .u64 0)).setIfInBounds 9 (.int .i64 4)).setIfInBounds 3 (.func (.func 129) #[.pointer (some ⟨b, 0, none⟩)] #[])) (T := 100) rfl 3 (.func (.func 130) #[.pointer (some ⟨b, 0, none⟩)] #[])
        have h7 := PutK.close (b := b) (s := ⟨key, val, 5, hd, held, cell, some ws, 0, 4⟩) (l := (l.set u NoK)) (u := u) (hb, wb) hp (by simpa using hul)
        rw [List.set_set] at h7
        replace h7 := hide h7
        clear h6 hp hal q2 qN r2 rN hm5 hs5
        go_wp2
        go_ret
        rw [e.out]
        dsimp only
        rw [set_same ht]
        exact ⟨rfl, h7.out⟩
      | some i =>
        have hs5 := h5.left.left.stP (i := 0) (b := b) (cs := putC b hb wb ⟨key, val, 2, hd, held, cell, some ws, mine, err⟩) (T := 100) rfl
        obtain ⟨tv, wv, hm5⟩ := h5.memHdr (app_get (app_get (memU ht hne)))
        have q2 : cellOf (blk w5.drew m.b) 2 = some (.pointer (some ⟨m.ab, 0, none⟩)) := by show cellOf (blk w5 m.b) 2 = _; rw [hm5]; rfl
        have qN := h5.drew.st (app_get app_last)
        have hbm := ne_of_type hs5 hm5 (by decide)
        have hbN := ne_of_type (h5.st (app_get app_last)) hs5 (by decide)
        have hal := memR_alloc h5.drew (app_get (app_get (memU ht hne))) ⟨key, val, sumOf key, ws.node.next⟩ hNd.out hgen i hfr
        rw [setL' _ _ (by simp; omega), setL' _ _ (by simp; omega), setL' _ _ (by simpa using htl)] at hal
        generalize hx : hnd m.ss i = x at *
        have e : putStep m ⟨key, val, 2, hd, held, cell, some ws, mine, err⟩ = ({ m with ss := m.ss.set i (taken (m.ss.getD i slot0) ⟨key, val, sumOf key, ws.node.next⟩) }, ⟨key, val, 3, hd, held, cell, some ws, x, 0⟩, false) := by rw [← hx]; simp [putStep, hfr, putNd, wNext, hfo]
        dsimp only [ndV] at hal
        replace e := hide e
        replace hfr := hide hfr
        replace hfo := hide hfo
        replace hx := hide hx
        replace hal := hide hal
        dsimp only [putC] at hs5
        rw [show putF 2 = 111 from rfl] at hs5
        clear h5
        go_region_held3 (fun w' => cellOf (blk w' m.b) 2 = some (.pointer (some ⟨m.ab, 0, none⟩)) ∧ blk w' N5 = some (.cells #[.string key, .string val, .int .u32 (sumOf key), .int .u64 ws.node.next] 103 (0, 0))) (first | exact ⟨q2, qN⟩ | exact ⟨r2, rN⟩ | exact ⟨cell_put hbm r2, (blk_put_other _ _ _ _ _ hbN).trans rN⟩ | exact ⟨cell_put hbm (cell_put hbm r2), (blk_put_other _ _ _ _ _ hbN).trans ((blk_put_other _ _ _ _ _ hbN).trans rN)⟩) (first | (go_at_call 124; refine hal.out.mono ?_; rintro _ w6 ⟨rfl, h6⟩; have hs6 := h6.left.left.stP (i := 0) (b := b) (cs := putC b hb wb ⟨key, val, 2, hd, held, cell, some ws, mine, err⟩) (T := 100) rfl; obtain ⟨tv6, wv6, hm6⟩ := h6.memHdr (app_get (app_get (app_get (set_get (set_other ht hne.symm))))); have r2 : cellOf (blk w6 m.b) 2 = some (.pointer (some ⟨m.ab, 0, none⟩)) := (by have hm6' := hm6; (try dsimp only at hm6'); rw [hm6']; rfl); have rN := h6.st (app_get app_last); clear hm6; replace h6 := hide h6; dsimp only [putC] at hs6; rw [show putF 2 = 111 from rfl] at hs6))
        have hp := ((h6.out.left.left.putP (i := 0) (b := b) (cs := putC b hb wb ⟨key, val, 2, hd, held, cell, some ws, mine, err⟩) (T := 100) rfl 8 (.int .u64 x)).putP (i := 0) (b := b) (cs := (putC b hb wb ⟨key, val, 2, hd, held, cell, some ws, mine, err⟩).setIfInBounds 8 (.int .u64 x)) (T := 100) rfl 9 (.int .i64 0)).putP (i := 0) (b := b) (cs := ((putC b hb wb ⟨key, val, 2, hd, held, cell, some ws, mine, err⟩).setIfInBounds 8 (.int .u64 x)).setIfInBounds 9 (.int .i64 0)) (T := 100) rfl 3 (.func (.func 129) #[.pointer (some ⟨b, 0, none⟩)] #[])
        have h7 := PutK.close (b := b) (s := ⟨key, val, 3, hd, held, cell, some ws, x, 0⟩) (l := (l.set u NoK).set t (MemK { m with ss := m.ss.set i (taken (m.ss.getD i slot0) ⟨key, val, sumOf key, ws.node.next⟩) })) (u := u) (hb, wb) hp (by simpa using hul)
        rw [foldU _ hne] at h7
        replace h7 := hide h7
        clear h6 hp hal q2 qN r2 rN hm5 hs5
        go_wp2
        go_ret
        rw [e.out]
        exact ⟨rfl, h7.out⟩
end
end Go.Proofs.YtcgfknpobifecaaGreat
