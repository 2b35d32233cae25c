/- What a put does to a memory that holds a map. Plain law, no condition. A put into a memory that holds a map, from its first step to its last one. Plain law; condition: at most 100 places. -/
import Derived.Test.YtcgfknpobifecaaGreatMs
namespace Go.Proofs.YtcgfknpobifecaaGreat
open Go.RowKit

theorem Pool.next {ss : List Slot} {L : List Int} (h : Pool ss L) {p y : Int} {j : Nat} (hj : atA ss p = j) : Pool (ss.set j (nextS (ss.getD j slot0) y)) L := by
  obtain ⟨i, hi, hil, hu, _⟩ := atA_lt ss p (by omega)
  obtain rfl : i = j := by omega
  refine ⟨h.nd, fun x hx => ⟨by rw [link_at hj]; exact (h.live x hx).1, (h.live x hx).2⟩, ?_⟩
  have := freeTo_setAll ss i (nextS (ss.getD i slot0) y) hil
  rw [show (nextS (ss.getD i slot0) y).used = (ss.getD i slot0).used from rfl] at this
  have h2 := h.count
  rw [List.length_set] at this ⊢
  omega
section
variable {m m' : MemS} {n base B : Nat} {chs : Nat → List Int} {want W : List Pk} {x : Int} {pre post : List Int} {key val : ByteArray}
theorem descOf_tab (h : m'.tables = m.tables) (z : Int) : descOf m' z = descOf m z := by
  unfold descOf
  rw [h]
theorem MapM.ins (h : MapM m n base chs want) (hB : sumOf key % n = B) (hc1 : m'.cells.length = m.cells.length) (hc2 : m'.cells.getD 1 0 = m.cells.getD 1 0) (hc3 : m'.tables = m.tables)
    (hc4 : ∀ B', B' < n → B' ≠ B → m'.cells.getD (base + B') 0 = m.cells.getD (base + B') 0)
    (hold : ∀ y ∈ nodesC n chs, (readNd m'.ss y).key = (readNd m.ss y).key ∧ (readNd m'.ss y).val = (readNd m.ss y).val ∧ (readNd m'.ss y).sum = (readNd m.ss y).sum)
    (hch : Chn m'.ss (m'.cells.getD (base + B) 0) (pre ++ x :: post)) (hoth : ∀ B', B' < n → B' ≠ B → Chn m'.ss (m.cells.getD (base + B') 0) (chs B'))
    (hx : (readNd m'.ss x).sum = sumOf key ∧ (readNd m'.ss x).key = key ∧ (readNd m'.ss x).val = val) (hsub : ∀ y ∈ pre ++ post, y ∈ chs B)
    (hp : Pool m'.ss (x :: nodesC n (updC chs B (pre ++ post)) ++ m'.waiting)) (hW : ((nodesC n (updC chs B (pre ++ post))).map (entC m.ss)).Perm W) (hWk : key ∉ W.map Pk.key) (hWn : (W.map Pk.key).Nodup)
    (hlk : m'.locks = m.locks) (hf : m'.fault = false) (hln : m'.ss.length ≤ 1024) (hg : GenOk m'.ss m'.gen ∧ m'.gen ≤ 1000000) :
    MapM m' n base (updC chs B (pre ++ x :: post)) (⟨key, val⟩ :: W) := by
  have hBn : B < n := by rw [← hB]; exact Nat.mod_lt _ h.n0
  have hperm : (nodesC n (updC chs B (pre ++ x :: post))).Perm (x :: nodesC n (updC chs B (pre ++ post))) := by
    have := flat_ins (updC chs B (pre ++ post)) x (updC_at _ _ _) n hBn
    rwa [updC_updC] at this
  have hR : ∀ y ∈ nodesC n (updC chs B (pre ++ post)), y ∈ nodesC n chs := fun y hy => by
    obtain ⟨B', hB', hy'⟩ := mem_nodesC.1 hy
    by_cases he : B' = B
    · subst he
      rw [updC_at] at hy'
      exact mem_nodesC.2 ⟨B', hB', hsub y hy'⟩
    · rw [updC_ne _ _ he] at hy'
      exact mem_nodesC.2 ⟨B', hB', hy'⟩
  refine ⟨h.pw, h.n0, ?_, h.lo, by rw [hc1]; exact h.hi, fun B' hB' => ?_, fun B' hB' y hy => ?_, ?_, ?_, ?_, hlk.trans h.locks, hf, hln, hg⟩
  · rw [hc2, descOf_tab hc3]; exact h.tab
  · by_cases he : B' = B
    · subst he; rw [updC_at]; exact hch
    · rw [updC_ne _ _ he, hc4 B' hB' he]; exact hoth B' hB' he
  · have hold' : ∀ y ∈ chs B', (readNd m'.ss y).sum = sumOf (readNd m'.ss y).key ∧ sumOf (readNd m'.ss y).key % n = B' := fun y hy => by
      obtain ⟨e1, _, e3⟩ := hold y (mem_nodesC.2 ⟨B', hB', hy⟩)
      rw [e1, e3]
      exact h.right B' hB' y hy
    by_cases he : B' = B
    · subst he
      rw [updC_at] at hy
      rcases List.mem_append.1 hy with h1 | h1
      · exact hold' y (hsub y (List.mem_append.2 (.inl h1)))
      · rcases List.mem_cons.1 h1 with h2 | h2
        · rw [h2, hx.1, hx.2.1]; exact ⟨rfl, hB⟩
        · exact hold' y (hsub y (List.mem_append.2 (.inr h2)))
    · rw [updC_ne _ _ he] at hy
      exact hold' y hy
  · exact hp.perm (hperm.append_right _)
  · refine (hperm.map _).trans ?_
    rw [List.map_cons, show entC m'.ss x = ⟨key, val⟩ by unfold entC; rw [hx.2.1, hx.2.2]]
    refine List.Perm.cons _ ?_
    rw [List.map_congr_left (g := entC m.ss) fun y hy => by
      obtain ⟨e1, e2, _⟩ := hold y (hR y hy)
      unfold entC
      rw [e1, e2]]
    exact hW
  · rw [List.map_cons, List.nodup_cons]
    exact ⟨hWk, hWn⟩
end
/-- A place taken: what it turns, and what stays. -/
theorem take_facts {ss : List Slot} {i : Nat} (hi : freeAt ss = some i) (hl : ss.length ≤ 1024) (nd : Nd) :
    atA (ss.set i (taken (ss.getD i slot0) nd)) (hnd ss i) = i ∧ readNd (ss.set i (taken (ss.getD i slot0) nd)) (hnd ss i) = nd ∧ hnd ss i ≠ 0 ∧
      ∀ y, 0 ≤ atA ss y → y % 65536 ≠ i + 1 ∧ atA (ss.set i (taken (ss.getD i slot0) nd)) y = atA ss y ∧ readNd (ss.set i (taken (ss.getD i slot0) nd)) y = readNd ss y := by
  obtain ⟨h1, h2, _⟩ := freeAt_some hi
  have hat : atA (ss.set i (taken (ss.getD i slot0) nd)) (hnd ss i) = i :=
    atA_of _ _ (by rw [List.length_set]; exact hl) i (by rw [List.length_set]; exact h1) (by rw [getD_set_at _ _ _ h1]; rfl) (by rw [getD_set_at _ _ _ h1]; rfl)
  have hm := hnd_mod (ss := ss) (i := i) (by omega)
  refine ⟨hat, ?_, fun e => by rw [e] at hm; omega, fun y hy => ⟨free_apart hy hi, atA_set _ _ _ _ (free_apart hy hi), rdNd_set (free_apart hy hi)⟩⟩
  rw [rdNd_at hat, getD_set_at _ _ _ h1]
  rfl

/-- What a put leaves of the rest. -/
structure SameM (m m' : MemS) : Prop where
  b : m'.b = m.b
  cb : m'.cb = m.cb
  lb : m'.lb = m.lb
  ab : m'.ab = m.ab
  workers : m'.workers = m.workers
  tables : m'.tables = m.tables
  room : m'.ss.length = m.ss.length
  gen : m'.gen = m.gen
  low : ∀ i, i < 5 → m'.cells.getD i 0 = m.cells.getD i 0
section
variable {m : MemS} {n base B i : Nat} {chs : Nat → List Int} {want : List Pk} {key val : ByteArray} {ws : WalkS}
theorem getD_set_no' (xs : List Int) (v : Int) {i j : Nat} (h : i ≠ j) : (xs.set i v).getD j 0 = xs.getD j 0 := by
  rw [List.getD_eq_getElem?_getD, List.getElem?_set_ne h, ← List.getD_eq_getElem?_getD]
theorem getD_set_at' (xs : List Int) (v : Int) {i : Nat} (h : i < xs.length) : (xs.set i v).getD i 0 = v := by simp [h]
theorem putDone_no {c : Int} {nd : Nd} (hf : ws.found = false) : putDone m c nd ws i = storeAt { m with ss := m.ss.set i (taken (m.ss.getD i slot0) nd) } c (hnd m.ss i) := by
  simp [putDone, hf]
theorem putDone_first {c : Int} {nd : Nd} (hf : ws.found = true) (hp : ws.prev = 0) : putDone m c nd ws i = { storeAt { m with ss := m.ss.set i (taken (m.ss.getD i slot0) nd) } c (hnd m.ss i) with waiting := (storeAt { m with ss := m.ss.set i (taken (m.ss.getD i slot0) nd) } c (hnd m.ss i)).waiting ++ [ws.at_] } := by
  simp [putDone, hf, hp]
theorem putDone_link {c : Int} {nd : Nd} (hf : ws.found = true) (hp : ws.prev ≠ 0) : putDone m c nd ws i = { linkM { m with ss := m.ss.set i (taken (m.ss.getD i slot0) nd) } ws.prev (hnd m.ss i) with waiting := m.waiting ++ [ws.at_] } := by
  simp [putDone, hf, hp]
  rfl
theorem MapM.putNew (h : MapM m n base chs want) (hB : sumOf key % n = B) (hi : freeAt m.ss = some i) (hk : key ∉ want.map Pk.key) (hf : ws.found = false) (hfi : ws.first = m.cells.getD (base + B) 0) :
    MapM (putDone m ((base + B : Nat) : Int) ⟨key, val, sumOf key, ws.first⟩ ws i) n base (updC chs B (hnd m.ss i :: chs B)) (⟨key, val⟩ :: want) ∧ SameM m (putDone m ((base + B : Nat) : Int) ⟨key, val, sumOf key, ws.first⟩ ws i) ∧
      (putDone m ((base + B : Nat) : Int) ⟨key, val, sumOf key, ws.first⟩ ws i).waiting = m.waiting := by
  have hBn : B < n := by rw [← hB]; exact Nat.mod_lt _ h.n0
  have hhi := h.hi
  have hlo := h.lo
  have e : putDone m ((base + B : Nat) : Int) ⟨key, val, sumOf key, ws.first⟩ ws i = { m with ss := m.ss.set i (taken (m.ss.getD i slot0) ⟨key, val, sumOf key, ws.first⟩), cells := m.cells.set (base + B) (hnd m.ss i) } := by
    rw [putDone_no hf, storeAt, if_pos ⟨by omega, by dsimp only; omega⟩, Int.toNat_natCast]
  rw [e]
  obtain ⟨f1, f2, f3, f4⟩ := take_facts hi h.len ⟨key, val, sumOf key, ws.first⟩
  have hlive : ∀ y ∈ nodesC n chs, 0 ≤ atA m.ss y := fun y hy => (h.pool.live y (List.mem_append.2 (.inl hy))).1
  refine ⟨?_, ⟨rfl, rfl, rfl, rfl, rfl, rfl, List.length_set .., rfl, fun k hk => getD_set_no' _ _ (by omega)⟩, rfl⟩
  have := MapM.ins (m' := { m with ss := m.ss.set i (taken (m.ss.getD i slot0) ⟨key, val, sumOf key, ws.first⟩), cells := m.cells.set (base + B) (hnd m.ss i) }) (val := val) (x := hnd m.ss i) (pre := []) (post := chs B) (W := want) h hB (List.length_set ..) (getD_set_no' _ _ (by omega)) rfl
    (fun B' hB' hne => getD_set_no' _ _ (by omega)) (fun y hy => by dsimp only; rw [(f4 y (hlive y hy)).2.2]; exact ⟨rfl, rfl, rfl⟩) ?_ (fun B' hB' hne => (h.chain B' hB').set fun y hy => (f4 y (h.live hB' hy)).1) (by dsimp only; rw [f2]; exact ⟨rfl, rfl, rfl⟩) (fun y hy => hy)
    (by dsimp only; rw [List.nil_append, updC_same]; exact h.pool.alloc h.len h.gen.1 (by have := h.gen.2; omega) hi _) (by rw [List.nil_append, updC_same]; exact h.ents) hk h.keys rfl h.fault (by dsimp only; rw [List.length_set]; exact h.len) ⟨h.gen.1.take _ _, h.gen.2⟩
  · exact this
  · dsimp only
    rw [getD_set_at' _ _ (by omega), List.nil_append]
    refine ⟨rfl, f3, by rw [f1]; omega, ?_⟩
    rw [f2, hfi]
    exact (h.chain B hBn).set fun y hy => (f4 y (h.live hBn hy)).1
theorem MapM.putOld (h : MapM m n base chs want) (hB : sumOf key % n = B) (hi : freeAt m.ss = some i) {x0 : Int} {pre post : List Int} (hx : chs B = pre ++ x0 :: post) (hkey : (readNd m.ss x0).key = key) (hf : ws.found = true) (hat : ws.at_ = x0) (hnode : ws.node = readNd m.ss x0) (hprev : ws.prev = lastD pre 0) :
    ∃ W, MapM (putDone m ((base + B : Nat) : Int) ⟨key, val, sumOf key, ws.node.next⟩ ws i) n base (updC chs B (pre ++ hnd m.ss i :: post)) (⟨key, val⟩ :: W) ∧ want.Perm (⟨key, (readNd m.ss x0).val⟩ :: W) ∧ SameM m (putDone m ((base + B : Nat) : Int) ⟨key, val, sumOf key, ws.node.next⟩ ws i) ∧
      (putDone m ((base + B : Nat) : Int) ⟨key, val, sumOf key, ws.node.next⟩ ws i).waiting = m.waiting ++ [x0] := by
  have hBn : B < n := by rw [← hB]; exact Nat.mod_lt _ h.n0
  have hhi := h.hi
  have hlo := h.lo
  obtain ⟨f1, f2, f3, f4⟩ := take_facts hi h.len ⟨key, val, sumOf key, ws.node.next⟩
  have hlive : ∀ y ∈ nodesC n chs, 0 ≤ atA m.ss y := fun y hy => (h.pool.live y (List.mem_append.2 (.inl hy))).1
  have hperm : (nodesC n chs).Perm (x0 :: nodesC n (updC chs B (pre ++ post))) := by
    have := flat_ins (updC chs B (pre ++ post)) x0 (updC_at _ _ _) n hBn
    rw [updC_updC, ← hx, updC_same] at this
    exact this
  have hw : want.Perm (⟨key, (readNd m.ss x0).val⟩ :: (nodesC n (updC chs B (pre ++ post))).map (entC m.ss)) := by
    refine h.ents.symm.trans ((hperm.map _).trans ?_)
    rw [List.map_cons, show entC m.ss x0 = ⟨key, (readNd m.ss x0).val⟩ by unfold entC; rw [hkey]]
  have hwk := ((hw.map Pk.key).nodup_iff).1 h.keys
  rw [List.map_cons, List.nodup_cons] at hwk
  have hsub : ∀ y ∈ pre ++ post, y ∈ chs B := fun y hy => by
    rw [hx]
    rcases List.mem_append.1 hy with h1 | h1
    · exact List.mem_append.2 (.inl h1)
    · exact List.mem_append.2 (.inr (List.mem_cons_of_mem _ h1))
  have hpool : Pool (m.ss.set i (taken (m.ss.getD i slot0) ⟨key, val, sumOf key, ws.node.next⟩)) (hnd m.ss i :: nodesC n (updC chs B (pre ++ post)) ++ (m.waiting ++ [x0])) := by
    refine (h.pool.alloc h.len h.gen.1 (by have := h.gen.2; omega) hi _).perm ?_
    rw [List.cons_append]
    refine List.Perm.cons _ ?_
    refine List.Perm.trans ?_ (hperm.symm.append_right _)
    rw [← List.append_assoc]
    exact List.perm_append_singleton _ _
  have hchain := h.chain B hBn
  rw [hx] at hchain
  have hset : ∀ y ∈ chs B, y % 65536 ≠ i + 1 := fun y hy => (f4 y (h.live hBn hy)).1
  have htl : Chn (m.ss.set i (taken (m.ss.getD i slot0) ⟨key, val, sumOf key, ws.node.next⟩)) (hnd m.ss i) (hnd m.ss i :: post) := by
    refine ⟨rfl, f3, by rw [f1]; omega, ?_⟩
    rw [f2, hnode]
    exact hchain.tail.set fun y hy => hset y (hsub y (List.mem_append.2 (.inr hy)))
  refine ⟨(nodesC n (updC chs B (pre ++ post))).map (entC m.ss), ?_⟩
  cases hpre : pre with
  | nil =>
    subst hpre
    have hp0 : ws.prev = 0 := hprev
    have e : putDone m ((base + B : Nat) : Int) ⟨key, val, sumOf key, ws.node.next⟩ ws i = { m with ss := m.ss.set i (taken (m.ss.getD i slot0) ⟨key, val, sumOf key, ws.node.next⟩), cells := m.cells.set (base + B) (hnd m.ss i), waiting := m.waiting ++ [x0] } := by
      rw [putDone_first hf hp0, storeAt, if_pos ⟨by omega, by dsimp only; omega⟩, Int.toNat_natCast, hat]
    rw [e]
    refine ⟨?_, hw, ⟨rfl, rfl, rfl, rfl, rfl, rfl, List.length_set .., rfl, fun k hk => getD_set_no' _ _ (by omega)⟩, rfl⟩
    refine MapM.ins (m' := { m with ss := m.ss.set i (taken (m.ss.getD i slot0) ⟨key, val, sumOf key, ws.node.next⟩), cells := m.cells.set (base + B) (hnd m.ss i), waiting := m.waiting ++ [x0] }) h hB (List.length_set ..) (getD_set_no' _ _ (by omega)) rfl
      (fun B' hB' hne => getD_set_no' _ _ (by omega)) (fun y hy => by dsimp only; rw [(f4 y (hlive y hy)).2.2]; exact ⟨rfl, rfl, rfl⟩) ?_ (fun B' hB' hne => (h.chain B' hB').set fun y hy => (f4 y (h.live hB' hy)).1) (by dsimp only; rw [f2]; exact ⟨rfl, rfl, rfl⟩) hsub hpool
      (List.Perm.refl _) hwk.1 hwk.2 rfl h.fault (by dsimp only; rw [List.length_set]; exact h.len) ⟨h.gen.1.take _ _, h.gen.2⟩
    dsimp only
    rw [getD_set_at' _ _ (by omega), List.nil_append]
    exact htl
  | cons y0 pre' =>
    have hpne : pre ≠ [] := by rw [hpre]; simp
    rw [← hpre]
    clear hpre
    have hpm : ws.prev ∈ pre := by rw [hprev]; exact lastD_mem hpne
    have hpB : ws.prev ∈ chs B := hsub _ (List.mem_append.2 (.inl hpm))
    have hpl := h.live hBn hpB
    have hp0 : ws.prev ≠ 0 := ((h.chain B hBn).live _ hpB).1
    obtain ⟨j, hj, _⟩ := atA_lt m.ss ws.prev hpl
    have hj1 : atA (m.ss.set i (taken (m.ss.getD i slot0) ⟨key, val, sumOf key, ws.node.next⟩)) ws.prev = j := (f4 _ hpl).2.1.trans hj
    have hxp : hnd m.ss i ≠ ws.prev := fun e => h.pool.fresh h.len hi (by rw [e]; exact List.mem_append.2 (.inl (mem_nodesC.2 ⟨B, hBn, hpB⟩)))
    have hnB := h.nodupB hBn
    rw [hx] at hnB
    have hnp := List.nodup_append.1 hnB
    have hppost : ws.prev ∉ post := fun hm => (hnp.2.2 ws.prev hpm ws.prev (List.mem_cons_of_mem _ hm)) rfl
    have hg1 : GenOk (m.ss.set i (taken (m.ss.getD i slot0) ⟨key, val, sumOf key, ws.node.next⟩)) m.gen := h.gen.1.take _ _
    have hch1 : Chn (m.ss.set i (taken (m.ss.getD i slot0) ⟨key, val, sumOf key, ws.node.next⟩)) (m.cells.getD (base + B) 0) (pre ++ x0 :: post) := hchain.set fun y hy => hset y (by rw [hx]; exact hy)
    have hoth1 : ∀ B', B' < n → B' ≠ B → Chn (m.ss.set i (taken (m.ss.getD i slot0) ⟨key, val, sumOf key, ws.node.next⟩)) (m.cells.getD (base + B') 0) (chs B') := fun B' hB' hne => (h.chain B' hB').set fun y hy => (f4 y (h.live hB' hy)).1
    have hl1 : (m.ss.set i (taken (m.ss.getD i slot0) ⟨key, val, sumOf key, ws.node.next⟩)).length = m.ss.length := List.length_set ..
    have e : putDone m ((base + B : Nat) : Int) ⟨key, val, sumOf key, ws.node.next⟩ ws i = { m with ss := (m.ss.set i (taken (m.ss.getD i slot0) ⟨key, val, sumOf key, ws.node.next⟩)).set j (nextS ((m.ss.set i (taken (m.ss.getD i slot0) ⟨key, val, sumOf key, ws.node.next⟩)).getD j slot0) (hnd m.ss i)), waiting := m.waiting ++ [x0] } := by
      rw [putDone_link hf hp0, hat, linkM]
      dsimp only
      rw [linkS_is hj1, useFault, if_pos (by rw [hj1]; omega)]
    rw [e]
    have hrd : ∀ y, 0 ≤ atA m.ss y → readNd (m.ss.set i (taken (m.ss.getD i slot0) ⟨key, val, sumOf key, ws.node.next⟩)) y = readNd m.ss y := fun y hy => (f4 y hy).2.2
    have hat1 : ∀ y, 0 ≤ atA m.ss y → 0 ≤ atA (m.ss.set i (taken (m.ss.getD i slot0) ⟨key, val, sumOf key, ws.node.next⟩)) y := fun y hy => by rw [(f4 y hy).2.1]; exact hy
    clear e hset
    generalize m.ss.set i (taken (m.ss.getD i slot0) ⟨key, val, sumOf key, ws.node.next⟩) = ss1 at *
    have hx2 : readNd (ss1.set j (nextS (ss1.getD j slot0) (hnd m.ss i))) (hnd m.ss i) = ⟨key, val, sumOf key, ws.node.next⟩ := by
      rw [link_rd hj1 (by rw [f1]; omega), if_neg hxp, f2]
    refine ⟨?_, hw, ⟨rfl, rfl, rfl, rfl, rfl, rfl, by show (ss1.set j _).length = _; rw [List.length_set]; exact hl1, rfl, fun k hk => rfl⟩, rfl⟩
    refine MapM.ins (m' := { m with ss := ss1.set j (nextS (ss1.getD j slot0) (hnd m.ss i)), waiting := m.waiting ++ [x0] }) h hB rfl rfl rfl (fun _ _ _ => rfl) (fun y hy => ?_) ?_ (fun B' hB' hne => (hoth1 B' hB' hne).besides hj1 fun hm => ?_) (by dsimp only; rw [hx2]; exact ⟨rfl, rfl, rfl⟩) hsub (hpool.next hj1)
      (List.Perm.refl _) hwk.1 hwk.2 rfl h.fault (by dsimp only; rw [List.length_set, hl1]; exact h.len) ⟨hg1.set _ _ (hg1 j), h.gen.2⟩
    · have hy0 := hlive y hy
      dsimp only
      rw [link_rd hj1 (hat1 y hy0)]
      by_cases hyp : y = ws.prev
      · rw [if_pos hyp, hrd _ hpl, hyp]; exact ⟨rfl, rfl, rfl⟩
      · rw [if_neg hyp, hrd y hy0]; exact ⟨rfl, rfl, rfl⟩
    · dsimp only
      refine Chn.link hj1 ?_ hpne (fun d => (lastD_any d 0 hpne).trans hprev.symm) hnp.1 hch1
      refine ⟨rfl, f3, by rw [link_at hj1, f1]; omega, ?_⟩
      rw [hx2]
      have h4 := htl.2.2.2
      rw [f2] at h4
      exact h4.besides hj1 hppost
    · have h1 := (h.right B' hB' _ hm).2
      have h2 := (h.right B hBn _ hpB).2
      exact hne (h1.symm.trans h2)
end
end Go.Proofs.YtcgfknpobifecaaGreat

namespace Go.Proofs.YtcgfknpobifecaaGreat
open Go.RowKit

section
variable {m : MemS} {n base B : Nat} {chs : Nat → List Int} {want : List Pk} {key : ByteArray}
theorem cellAt_nat (m : MemS) (c : Nat) : cellAt m (c : Int) = m.cells.getD c 0 := by
  rw [cellAt, if_pos (by omega), Int.toNat_natCast]
theorem MapM.scan (h : MapM m n base chs want) (hB : sumOf key % n = B) :
    (key ∉ want.map Pk.key ∧ (wScan m.ss key (chs B) (wLook ((base + B : Nat) : Int) key (cellAt m ((base + B : Nat) : Int)))).found = false ∧ (wScan m.ss key (chs B) (wLook ((base + B : Nat) : Int) key (cellAt m ((base + B : Nat) : Int)))).first = m.cells.getD (base + B) 0) ∨
    (∃ pre x0 post, chs B = pre ++ x0 :: post ∧ (readNd m.ss x0).key = key ∧ key ∈ want.map Pk.key ∧ (wScan m.ss key (chs B) (wLook ((base + B : Nat) : Int) key (cellAt m ((base + B : Nat) : Int)))).found = true ∧
      (wScan m.ss key (chs B) (wLook ((base + B : Nat) : Int) key (cellAt m ((base + B : Nat) : Int)))).at_ = x0 ∧ (wScan m.ss key (chs B) (wLook ((base + B : Nat) : Int) key (cellAt m ((base + B : Nat) : Int)))).node = readNd m.ss x0 ∧
      (wScan m.ss key (chs B) (wLook ((base + B : Nat) : Int) key (cellAt m ((base + B : Nat) : Int)))).prev = lastD pre 0) := by
  have hBn : B < n := by rw [← hB]; exact Nat.mod_lt _ h.n0
  have hmk := h.mem_key key
  rw [hB] at hmk
  by_cases hk : key ∈ want.map Pk.key
  · obtain ⟨x0, hx0, hkx⟩ := hmk.1 hk
    obtain ⟨pre, post, hsp⟩ := List.append_of_mem hx0
    have hnd := h.nodupB hBn
    have hc := h.chain B hBn
    have hno : ∀ y ∈ pre, ¬ isK m.ss key y := fun y hy hi => by
      have hyB : y ∈ chs B := by rw [hsp]; exact List.mem_append.2 (.inl hy)
      have e := h.uniq (mem_nodesC.2 ⟨B, hBn, hyB⟩) (mem_nodesC.2 ⟨B, hBn, hx0⟩) (hi.2.trans hkx.symm)
      rw [hsp] at hnd
      exact (List.nodup_append.1 hnd).2.2 y hy x0 List.mem_cons_self e
    rw [hsp] at hc
    obtain ⟨r1, r2, r3, r4, r5⟩ := wScan_yes (key := key) ((h.isK_iff hBn hx0 key).2 hkx) (pre := pre) (post := post) (wLook ((base + B : Nat) : Int) key (cellAt m ((base + B : Nat) : Int))) hno (by
      show Chn m.ss (cellAt m ((base + B : Nat) : Int)) _
      rw [cellAt_nat]; exact hc)
    rw [← hsp] at r1 r3 r4 r5
    exact .inr ⟨pre, x0, post, hsp, hkx, hk, r1, r3, r4, r5⟩
  · have hno : ∀ y ∈ chs B, ¬ isK m.ss key y := fun y hy hi => hk (hmk.2 ⟨y, hy, hi.2⟩)
    obtain ⟨r1, r2⟩ := wScan_no (wLook ((base + B : Nat) : Int) key (cellAt m ((base + B : Nat) : Int))) hno
    exact .inl ⟨hk, r1, by rw [r2]; exact cellAt_nat _ _⟩
theorem MapM.freeLock (h : MapM m n base chs want) {i : Nat} (hi : i < 6) : m.locks.getD i 0 = -1 := by
  rw [h.locks, List.getD_eq_getElem?_getD, List.getElem?_replicate, if_pos hi]
  rfl
/-- What is so behind a put. -/
def PutPost (m : MemS) (n base : Nat) (want : List Pk) (key val : ByteArray) (m' : MemS) (s' : PutS) : Prop :=
  SameM m m' ∧ s'.mine = 0 ∧ (wFound s' = true ↔ key ∈ want.map Pk.key) ∧
    ((freeAt m.ss = none ∧ s'.err = 4 ∧ m' = m) ∨
     (freeAt m.ss ≠ none ∧ s'.err = 0 ∧ ∃ chs' W, MapM m' n base chs' (⟨key, val⟩ :: W) ∧
        ((key ∉ want.map Pk.key ∧ want.Perm W ∧ m'.waiting.length = m.waiting.length) ∨ (key ∈ want.map Pk.key ∧ (∃ v0, want.Perm (⟨key, v0⟩ :: W)) ∧ m'.waiting.length = m.waiting.length + 1))))
theorem MapM.put (h : MapM m n base chs want) (hl : m.ss.length ≤ 100) (k : Nat) (key val : ByteArray) :
    ∃ N m' s', finM (frReady putReady) (frStep putStep) 200 0 (m, put0 k key val) = (N, true, m', s') ∧ PutPost m n base want key val m' s' := by
  obtain ⟨B, hB⟩ : ∃ B, sumOf key % n = B := ⟨_, rfl⟩
  have hBn : B < n := by rw [← hB]; exact Nat.mod_lt _ h.n0
  have hcell : ((base + B : Nat) : Int) = ((n : Int), (base : Int)).2 + bucketOf (sumOf key) ((n : Int), (base : Int)).1 := by
    show _ = (base : Int) + bucketOf (sumOf key) (n : Int)
    rw [bucketOf_nat _ _ h.pw, hB]
    omega
  have hlk := lockOf_is (sumOf key) (n : Int) (Int.natCast_nonneg _)
  have hx : Chn m.ss (cellAt m ((base + B : Nat) : Int)) (chs B) := by rw [cellAt_nat]; exact h.chain B hBn
  have hlen : (chs B).length ≤ 100 := by
    have h1 := (flat_sub chs n hBn).length_le
    have h2 := h.pool.count
    rw [List.length_append] at h2
    have : (nodesC n chs).length = ((List.range n).flatMap chs).length := rfl
    omega
  have hfl : m.locks.getD (lockOf (sumOf key) (n : Int)).toNat 0 = -1 := h.freeLock (by omega)
  obtain ⟨N, s', h1, h2, h3, h4⟩ := put_run (k := k) (val := val) h.tab hfl hcell hx hlen
  have hsc := h.scan hB
  generalize wScan m.ss key (chs B) (wLook ((base + B : Nat) : Int) key (cellAt m ((base + B : Nat) : Int))) = ws at *
  refine ⟨N, _, s', h1, ?_⟩
  cases hf : freeAt m.ss with
  | none =>
    refine ⟨⟨rfl, rfl, rfl, rfl, rfl, rfl, rfl, rfl, fun _ _ => rfl⟩, h2, ?_, .inl ⟨hf, by rw [h3, if_pos hf], rfl⟩⟩
    rcases hsc with ⟨c1, c2, _⟩ | ⟨pre, x0, post, c1, c2, c3, c4, _⟩
    · rw [h4, c2]; exact ⟨fun e => absurd e (by decide), fun e => absurd e c1⟩
    · rw [h4, c4]; exact ⟨fun _ => c3, fun _ => rfl⟩
  | some i =>
    have hne : freeAt m.ss ≠ none := by rw [hf]; simp
    rcases hsc with ⟨c1, c2, c3⟩ | ⟨pre, x0, post, c1, c2, c3, c4, c5, c6, c7⟩
    · have he := h.putNew (val := val) hB hf c1 c2 c3
      dsimp only
      rw [c2]
      simp only [Bool.false_eq_true, if_false]
      exact ⟨he.2.1, h2, by rw [h4, c2]; exact ⟨fun e => absurd e (by decide), fun e => absurd e c1⟩, .inr ⟨hne, by rw [h3, if_neg hne], _, want, he.1, .inl ⟨c1, List.Perm.refl _, by rw [he.2.2]⟩⟩⟩
    · obtain ⟨W, e1, e2, e3, e4⟩ := h.putOld (val := val) hB hf c1 c2 c4 c5 c6 c7
      dsimp only
      rw [c4]
      simp only [if_true]
      exact ⟨e3, h2, by rw [h4, c4]; exact ⟨fun _ => c3, fun _ => rfl⟩, .inr ⟨hne, by rw [h3, if_neg hne], _, W, e1, .inr ⟨c3, ⟨_, e2⟩, by rw [e4]; simp⟩⟩⟩
end
end Go.Proofs.YtcgfknpobifecaaGreat
