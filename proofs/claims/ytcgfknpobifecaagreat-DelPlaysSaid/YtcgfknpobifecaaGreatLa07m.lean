/- quietuslaw07: Awake, RetireSteps. No condition. quietuslaw11: Free. Condition: the memory holds a map, two workers, nobody in. A memory that holds a map: as it begins; a get over it. Plain law, no condition. quietuslaw11: what PutPlays' round asks besides. Condition: the memory holds a map. -/
import Derived.Test.YtcgfknpobifecaaGreatRvm
import Derived.Test.YtcgfknpobifecaaGreatRpm
import Derived.Test.YtcgfknpobifecaaGreatMwm
import Derived.Test.YtcgfknpobifecaaGreatLa11m
namespace Go.Proofs.YtcgfknpobifecaaGreat
open Go.RowKit

def usedS : Slot := taken slot0 nd0
def doneS : Slot := ⟨nd0, false, 1⟩
/-- A memory of whose room the first i places are taken, and wait. -/
def memW (b cb lb ab room wk i : Nat) : MemS := { memNew b cb lb ab room wk with ss := List.replicate i usedS ++ List.replicate (room - i) slot0, waiting := (List.range i).map fun j : Nat => (j : Int) + 1 }
theorem memW_0 (b cb lb ab room wk : Nat) : memW b cb lb ab room wk 0 = memNew b cb lb ab room wk := by simp [memW, memNew]
theorem ssN_free (room i : Nat) (h : i < room) : freeAt (List.replicate i usedS ++ List.replicate (room - i) slot0) = some i := by
  refine freeAt_is (by simp; omega) ?_ fun j hj => ?_
  · rw [List.getD_eq_getElem?_getD, List.getElem?_append_right (by simp)]
    simp [List.getElem?_replicate]
    rw [if_pos (by omega)]; rfl
  · rw [List.getD_eq_getElem?_getD, List.getElem?_append_left (by simpa using hj)]
    simp [hj]; rfl
theorem ssN_get (room i : Nat) : (List.replicate i usedS ++ List.replicate (room - i) slot0).getD i slot0 = slot0 := by
  rw [List.getD_eq_getElem?_getD, List.getElem?_append_right (by simp)]
  simp only [List.length_replicate, Nat.sub_self, List.getElem?_replicate]
  split <;> rfl
theorem ssN_set (room i : Nat) (h : i < room) : (List.replicate i usedS ++ List.replicate (room - i) slot0).set i usedS = List.replicate (i + 1) usedS ++ List.replicate (room - (i + 1)) slot0 := by
  rw [List.set_append_right _ _ (by simp), List.length_replicate, Nat.sub_self, show room - i = (room - (i + 1)) + 1 by omega, List.replicate_succ, List.set_cons_zero, List.replicate_succ', List.append_assoc]
  rfl
theorem memW_alloc (b cb lb ab room wk i : Nat) (h : i < room) : hnd (memW b cb lb ab room wk i).ss i = (i : Int) + 1 ∧
    { memW b cb lb ab room wk i with ss := (memW b cb lb ab room wk i).ss.set i (taken ((memW b cb lb ab room wk i).ss.getD i slot0) nd0), waiting := (memW b cb lb ab room wk i).waiting ++ [(i : Int) + 1] } = memW b cb lb ab room wk (i + 1) := by
  constructor
  · simp only [memW, hnd, ssN_get]; rfl
  · simp only [memW, ssN_get]
    rw [show taken slot0 nd0 = usedS from rfl, ssN_set room i h]
    simp [List.range_succ]

theorem DrainInv.start (m : MemS) (wb k : Nat) (hk : k ≤ 1000) (hg : m.waiting.length + m.gen ≤ 1000000) : DrainInv m ⟨wb, [], ⟨k, 0, 0, 0⟩, false, false⟩ := by
  refine ⟨⟨⟨?_, fun h => ?_, fun _ => rfl, ⟨?_, hk⟩, ?_, ?_⟩, fun _ hx => absurd hx List.not_mem_nil, by omega, fun _ => rfl⟩, by simpa using hg⟩
  · show (0 : Nat) ≤ 3; decide
  · simp at h
  · show (0 : Nat) ≤ 8; decide
  · show (0 : Int) ≤ 0; decide
  · show (0 : Int) ≤ 18446744073709551615; decide
theorem law07_run (b cb lb ab wb : Nat) : finM (frReady drainReady) (frStep drainStep) 20 0 (memW b cb lb ab 1 2 1, ⟨wb, [], ⟨2, 0, 0, 0⟩, false, false⟩) =
    (7, true, ({ memNew b cb lb ab 1 2 with cells := [2, 0, 0, 0, 0], ss := [doneS], gen := 1 }, ⟨wb, [], ⟨2, 3, 2, 2⟩, true, true⟩)) := by kernel_rfl
end Go.Proofs.YtcgfknpobifecaaGreat

namespace Go.Proofs.YtcgfknpobifecaaGreat
open Go.RowKit

/-- The memory behind Free. -/
def freeAll (m : MemS) : MemS := if m.waiting = [] then m else m.waiting.foldl freeM (passM m)
theorem MapM.freeAll {m : MemS} {n base : Nat} {chs : Nat → List Int} {want : List Pk} (h : MapM m n base chs want) (hg : m.gen + m.waiting.length ≤ 1000000) :
    MapM (freeAll m) n base chs want ∧ (freeAll m).b = m.b ∧ (freeAll m).workers = m.workers ∧ (∀ i, i ≠ 0 → (freeAll m).cells.getD i 0 = m.cells.getD i 0) ∧ (freeAll m).ss.length = m.ss.length ∧ (freeAll m).gen ≤ m.gen + m.waiting.length ∧ (freeAll m).waiting = [] := by
  unfold Proofs.YtcgfknpobifecaaGreat.freeAll
  by_cases hw : m.waiting = []
  · rw [if_pos hw]
    exact ⟨h, rfl, rfl, fun _ _ => rfl, rfl, by omega, hw⟩
  · rw [if_neg hw]
    obtain ⟨r1, r2, r3, r4, r5, r6, r7⟩ := MapM.frees m.waiting (passM m) h.pass rfl hg
    refine ⟨r1, r2, r3, fun i hi => ?_, r5, r6, r7⟩
    rw [r4]
    exact getD_set_no' _ _ (Ne.symm hi)
set_option maxRecDepth 100000 in
set_option maxHeartbeats 1600000 in
theorem law11_free {l : List KObj} {w : World} {t : Nat} {m : MemS} (h : R l w) (ht : l[t]? = some (MemK m)) (h2 : m.workers = 2) (hl : m.locks.getD 0 0 = -1) (hi0 : inCell m 0 = 0) (hi1 : inCell m 1 = 0) (hwl : m.waiting.length ≤ 4000) (hg : m.waiting.length + m.gen ≤ 1000000) :
    Calls Tryz.prog 10 #[.pointer (some ⟨m.b, 0, none⟩), .int .i64 2] w (Does (l.set t (MemK (freeAll m))) (.bool true)) := by
  have hwt := hide (mem_waiting h ht)
  unfold freeAll
  by_cases hw : m.waiting = []
  · rw [if_pos hw, set_same ht]
    rw [hw] at hwt
    replace h := hide h
    clear hl
    go_enter Tryz.func10, Tryz.ntmps10
    go_wp2_with fail
    refine hwt.out.mono ?_
    rintro e w2 ⟨rfl, rfl⟩
    go_wp2
    go_ret
    exact ⟨rfl, h.out⟩
  · rw [if_neg hw]
    have hlp : 0 < m.waiting.length := List.length_pos_iff.2 hw
    have hne : ((m.waiting.length : Int) == 0) = false := beq_eq_false_iff_ne.2 (by omega)
    have hnw := hide (retire_new h 2)
    have hrun := fun wb => drain_run (m := m) (wb := wb) (k := 2) hw h2 hl hi0 hi1
    have htl := lt_of_get ht
    have hdi := hide fun wb => DrainInv.start m wb 2 (by decide) hg
    obtain ⟨wl, hwl2⟩ : ∃ wl, m.waiting.length = wl := ⟨_, rfl⟩
    rw [hwl2] at hwt hne hwl hlp
    have hrun2 : ∀ wb, finM (frReady drainReady) (frStep drainStep) 5000 0 (m, ⟨wb, [], ws0 2, false, false⟩) = (6 + wl, true, m.waiting.foldl freeM (passM m), ⟨wb, [], ⟨2, 3, IntKind.u64.wrap (m.cells.getD 0 0 + 1), 2⟩, true, true⟩) := fun wb => by
      have := hrun wb (5000 - (m.waiting.length + 6))
      rw [show 5000 - (m.waiting.length + 6) + (m.waiting.length + 6) = 5000 by omega, hwl2] at this
      exact this
    generalize m.waiting.foldl freeM (passM m) = m' at *
    replace hrun2 := hide hrun2
    replace hwl2 := hide hwl2
    clear h hrun hw
    go_enter Tryz.func10, Tryz.ntmps10
    go_wp2_with fail
    refine hwt.out.mono ?_
    rintro e w2 ⟨rfl, rfl⟩
    have hnil : ¬ wl = 0 := by omega
    go_wp2_with fail
    refine hnw.out.mono ?_
    rintro e w3 ⟨b2, wb2, rfl, h3⟩
    have hfin := fin_R drainK h3 (app_get ht) (u := l.length) app_last (by omega) (hdi.out wb2) 5000 (by decide) (hrun2.out wb2)
    rw [setL' _ _ htl, List.set_append_right _ _ (by simp), List.length_set, Nat.sub_self, List.set_cons_zero] at hfin
    replace hfin := hide hfin
    clear hnw h3 hrun2 hdi
    go_wp2_with fail
    refine hfin.out.mono ?_
    rintro e w4 ⟨rfl, h4⟩
    have h5 := hide h4.left
    clear hfin h4
    go_wp2
    go_ret
    exact ⟨rfl, h5.out⟩
end Go.Proofs.YtcgfknpobifecaaGreat

namespace Go.Proofs.YtcgfknpobifecaaGreat
open Go.RowKit

def startM (b cb lb ab room n : Nat) : MemS := { tableM (memNew b cb lb ab room 2) n with cells := (tableM (memNew b cb lb ab room 2) n).cells.set 1 1 }
theorem flat_nil : ∀ n : Nat, (List.range n).flatMap (fun _ => ([] : List Int)) = []
  | 0 => rfl
  | n + 1 => by rw [List.range_succ, List.flatMap_append, flat_nil n]; rfl
theorem MapM.start (b cb lb ab room n : Nat) (hp : powB n = true) (h0 : 0 < n) (hr : room ≤ 1024) : MapM (startM b cb lb ab room n) n 5 (fun _ => []) [] := by
  have e : (startM b cb lb ab room n).cells = [1, 1, 0, 0, 0] ++ List.replicate n 0 := by simp [startM, tableM, memNew]
  refine ⟨hp, h0, ?_, Nat.le_refl _, by rw [e]; simp; omega, fun B hB => ?_, fun B hB x hx => absurd hx List.not_mem_nil, ?_, ?_, by simp, rfl, rfl, by simp [startM, tableM, memNew]; exact hr, ⟨GenOk.start room, Nat.zero_le _⟩⟩
  · rw [e]
    show descOf (startM b cb lb ab room n) (wrap64 1) = _
    have : wrap64 1 = 1 := by unfold wrap64; omega
    rw [this]
    simp [descOf, startM, tableM, memNew]
  · rw [e, List.getD_eq_getElem?_getD, List.getElem?_append_right (by simp)]
    simp [hB, Chn]
  · show Pool _ (nodesC n (fun _ => []) ++ [])
    rw [nodesC, flat_nil]
    exact Pool.start room
  · rw [nodesC, flat_nil]
    exact List.Perm.refl _
section
variable {m : MemS} {key : ByteArray}
theorem gt_one {m m' : MemS} {s s' : GetS} (h : getStep m s = (m', s', false)) : GoN (frReady fun _ _ => true) (frStep getStep) 1 (m, s) (m', s') := by
  refine ⟨rfl, by show (getStep m s).2.2 = false; rw [h], ?_⟩
  show ((getStep m s).1, (getStep m s).2.1) = (m', s')
  rw [h]
theorem get_walk {k : Nat} {c : ComeS} : ∀ {xs : List Int} {ws : WalkS}, xs ≠ [] → ws.looking = true → ws.sum = sumOf key → ws.key = key → Chn m.ss ws.at_ xs →
    ∃ j, j ≤ xs.length ∧ GoN (frReady fun _ _ => true) (frStep getStep) j (m, ⟨k, key, 2, c, some ws⟩) (m, ⟨k, key, 3, c, some (wScan m.ss key xs ws)⟩)
  | [], _, h0, _, _, _, _ => absurd rfl h0
  | x :: xs, ws, _, hl, hs, hk, hc => by
    obtain ⟨h1, h2, h3, h4⟩ := hc
    have hcode : useCode m.ss ws.at_ = 0 := by rw [useCode, h1, if_pos h3]
    have hws : walkStep m ws = if isK m.ss key x then (m, { ws with node := readNd m.ss x, found := true, read := wrap64 (ws.read + 1) }, true) else (m, { ws with prev := ws.at_, at_ := (readNd m.ss x).next, read := wrap64 (ws.read + 1) }, decide ((readNd m.ss x).next = 0)) := by
      rw [walkStep, if_pos hl, if_pos hcode, hs, hk, h1]
      rfl
    by_cases hx : isK m.ss key x
    · rw [if_pos hx] at hws
      rw [wScan, if_pos hx]
      exact ⟨1, by simp, gt_one (by rw [getStep_2, hws]; rfl)⟩
    · rw [if_neg hx] at hws
      rw [wScan, if_neg hx]
      by_cases hz : (readNd m.ss x).next = 0
      · have hnil : xs = [] := by
          cases xs with
          | nil => rfl
          | cons y ys => exact absurd (h4.1.symm.trans hz) h4.2.1
        subst hnil
        exact ⟨1, by simp, gt_one (by rw [getStep_2, hws, decide_eq_true hz]; rfl)⟩
      · have hne : xs ≠ [] := fun e => by subst e; exact hz h4
        obtain ⟨j, hj1, hj2⟩ := get_walk (xs := xs) (ws := { ws with prev := ws.at_, at_ := (readNd m.ss x).next, read := wrap64 (ws.read + 1) }) hne hl hs hk h4
        refine ⟨1 + j, by simp; omega, (gt_one ?_).add hj2⟩
        rw [getStep_2, hws, decide_eq_false hz]
        rfl
end
theorem in_back {cells : List Int} {i : Nat} (p : Int) (h : cells.getD i 0 = 0) : (cells.set i p).set i 0 = cells := by
  rw [List.set_set]
  apply List.ext_getElem
  · simp
  · intro j h1 h2
    by_cases hij : i = j
    · subst hij
      rw [List.getElem_set_self]
      rw [List.getD_eq_getElem?_getD, List.getElem?_eq_getElem h2] at h
      exact h.symm
    · rw [List.getElem_set_ne hij]
/-- A get over a memory that holds a map. -/
theorem MapM.getRun {m : MemS} {n base : Nat} {chs : Nat → List Int} {want : List Pk} (h : MapM m n base chs want) (hl : m.ss.length ≤ 90) (hi : m.cells.getD 2 0 = 0) (key : ByteArray) :
    ∃ N s', finM (frReady fun _ _ => true) (frStep getStep) 100 0 (m, get0 0 key) = (N, true, m, s') ∧ getVal s' = refGet key want := by
  obtain ⟨B, hB⟩ : ∃ B, sumOf key % n = B := ⟨_, rfl⟩
  have hBn : B < n := by rw [← hB]; exact Nat.mod_lt _ h.n0
  have hlo := h.lo
  have hhi := h.hi
  obtain ⟨p, hp⟩ : ∃ p, m.cells.getD 0 0 = p := ⟨_, rfl⟩
  let m1 : MemS := { m with cells := m.cells.set 2 p }
  have hc1 : ∀ i, i ≠ 2 → m1.cells.getD i 0 = m.cells.getD i 0 := fun i hi => getD_set_no' _ _ (Ne.symm hi)
  have hlen : (chs B).length ≤ 90 := by
    have h1 := (flat_sub chs n hBn).length_le
    have h2 := h.pool.count
    rw [List.length_append] at h2
    have : (nodesC n chs).length = ((List.range n).flatMap chs).length := rfl
    omega
  have e1 : getStep m (get0 0 key) = (m, ⟨0, key, 0, ⟨0, true, p⟩, none⟩, false) := by subst hp; rfl
  have e2 : getStep m ⟨0, key, 0, ⟨0, true, p⟩, none⟩ = (m1, ⟨0, key, 1, ⟨0, true, p⟩, none⟩, false) := rfl
  have htab : descOf m1 (wrap64 (m1.cells.getD 1 0)) = ((n : Int), (base : Int)) := by rw [hc1 1 (by decide)]; exact h.tab
  have hcell : (base : Int) + bucketOf (sumOf key) (n : Int) = ((base + B : Nat) : Int) := by
    rw [bucketOf_nat _ _ h.pw, hB]
    omega
  have e3 : getStep m1 ⟨0, key, 1, ⟨0, true, p⟩, none⟩ = (m1, ⟨0, key, 2, ⟨0, true, p⟩, some (walk0 ((base + B : Nat) : Int) (sumOf key) key)⟩, false) := by
    rw [getStep_1, htab]
    dsimp only
    rw [hcell]
  have hat : cellAt m1 ((base + B : Nat) : Int) = m.cells.getD (base + B) 0 := by rw [cellAt_nat]; exact hc1 _ (by omega)
  have hws : walkStep m1 (walk0 ((base + B : Nat) : Int) (sumOf key) key) = (m1, wLook ((base + B : Nat) : Int) key (m.cells.getD (base + B) 0), decide (m.cells.getD (base + B) 0 = 0)) := by
    rw [walkStep, if_neg (by simp [walk0])]
    show (m1, ({ walk0 ((base + B : Nat) : Int) (sumOf key) key with first := cellAt m1 ((base + B : Nat) : Int), at_ := cellAt m1 ((base + B : Nat) : Int), looking := true } : WalkS), decide (cellAt m1 ((base + B : Nat) : Int) = 0)) = _
    rw [hat]
    rfl
  have hch := h.chain B hBn
  have g1 := ((gt_one e1).add (gt_one e2)).add (gt_one e3)
  obtain ⟨j, hj, g2⟩ : ∃ j, j ≤ 91 ∧ GoN (frReady fun _ _ => true) (frStep getStep) j (m1, ⟨0, key, 2, ⟨0, true, p⟩, some (walk0 ((base + B : Nat) : Int) (sumOf key) key)⟩) (m1, ⟨0, key, 3, ⟨0, true, p⟩, some (wScan m.ss key (chs B) (wLook ((base + B : Nat) : Int) key (m.cells.getD (base + B) 0)))⟩) := by
    cases hxs : chs B with
    | nil =>
      rw [hxs] at hch
      have h0 : m.cells.getD (base + B) 0 = 0 := hch
      refine ⟨1, by omega, gt_one ?_⟩
      rw [getStep_2, hws, decide_eq_true h0]
      rfl
    | cons x xs =>
      have hne : m.cells.getD (base + B) 0 ≠ 0 := by rw [hxs] at hch; rw [hch.1]; exact hch.2.1
      obtain ⟨j, hj1, hj2⟩ := get_walk (m := m1) (key := key) (k := 0) (c := ⟨0, true, p⟩) (xs := chs B) (ws := wLook ((base + B : Nat) : Int) key (m.cells.getD (base + B) 0)) (by rw [hxs]; simp) rfl rfl rfl hch
      rw [← hxs]
      refine ⟨1 + j, by omega, (gt_one ?_).add hj2⟩
      rw [getStep_2, hws, decide_eq_false hne]
      rfl
  have hsc := h.scan hB
  rw [cellAt_nat] at hsc
  generalize wScan m.ss key (chs B) (wLook ((base + B : Nat) : Int) key (m.cells.getD (base + B) 0)) = ws at *
  have g3 := g1.add g2
  have e4 : getStep m1 ⟨0, key, 3, ⟨0, true, p⟩, some ws⟩ = (m, ⟨0, key, 3, ⟨0, true, p⟩, some ws⟩, true) := by
    rw [getStep_3]
    show (({ m with cells := (m.cells.set 2 p).set 2 0 } : MemS), _, _) = _
    rw [in_back p hi]
  refine ⟨0 + (1 + 1 + 1 + j) + 1, ⟨0, key, 3, ⟨0, true, p⟩, some ws⟩, ?_, ?_⟩
  · rw [show 100 = (100 - 1 - (1 + 1 + 1 + j)) + 1 + (1 + 1 + 1 + j) by omega, finM_go g3, finM_end (r := frReady fun _ _ => true) (st := frStep getStep) rfl (by show (getStep _ _).2.2 = true; rw [e4])]
    show (_, _, (getStep _ _).1, (getStep _ _).2.1) = _
    rw [e4]
  · rcases hsc with ⟨c1, c2, _⟩ | ⟨pre, x0, post, c1, c2, c3, c4, c5, c6, _⟩
    · rw [refGet_no c1]
      simp [getVal, c2]
    · have hx0 : x0 ∈ chs B := by rw [c1]; simp
      have := h.get hBn hx0
      rw [c2] at this
      rw [this]
      simp [getVal, c4, c6]
end Go.Proofs.YtcgfknpobifecaaGreat

namespace Go.Proofs.YtcgfknpobifecaaGreat
open Go.RowKit

theorem memR_held {l : List KObj} {w : World} {t : Nat} {m : MemS} (h : R l w) (ht : l[t]? = some (MemK m)) (u : Int) :
    Calls Tryz.prog 22 #[.pointer (some ⟨m.lb, 0, none⟩), .int .i64 u] w fun e w' => ∃ a c, e = .returned (.slice a (heldBy m.locks u m.locks.length).length c) ∧ R l w' := by
  obtain ⟨o, hr, hA⟩ := h.get ht
  have hA : MemAt m o w t := hA
  have htl := lt_of_get ht
  refine (locks_held hA.2.2.1 (16 * l.length) (by omega) (by rw [hA.1.locks]; decide) u).mono ?_
  rintro e w' ⟨o', v, rfl, hs, he⟩
  obtain ⟨a, c, rfl⟩ := hs.value
  exact ⟨a, c, rfl, (hr.add (q := SlK 3 1 (.slice a _ c) _ _) he (fun x hx => by omega) hs).left⟩
theorem held_none (u : Int) (hu : 0 ≤ u) : (heldBy (List.replicate 6 (-1)) u 6).length = 0 := by
  have h : heldBy (List.replicate 6 (-1)) u 6 = [] := by
    unfold heldBy
    rw [List.map_eq_nil_iff, List.filter_eq_nil_iff]
    intro i hi
    have hi := List.mem_range.1 hi
    rw [decide_eq_true_eq, List.getD_eq_getElem?_getD, List.getElem?_replicate, if_pos hi]
    simp
    omega
  rw [h]
  rfl
theorem spare_iff (ss : List Slot) : (freeTo ss ss.length).length = 0 ↔ freeAt ss = none := by
  constructor
  · intro h
    cases hf : freeAt ss with
    | none => rfl
    | some i =>
      obtain ⟨h1, h2, _⟩ := freeAt_some hf
      have : i ∈ freeTo ss ss.length := (mem_freeTo ss ss.length i).2 ⟨h1, h2⟩
      rw [List.length_eq_zero_iff.1 h] at this
      cases this
  · intro hf
    rw [List.length_eq_zero_iff]
    apply List.eq_nil_iff_forall_not_mem.2
    intro i hi
    obtain ⟨h1, h2⟩ := (mem_freeTo ss ss.length i).1 hi
    rw [freeAt_none hf i h1] at h2
    cases h2
theorem MapM.spare {m : MemS} {n base : Nat} {chs : Nat → List Int} {want : List Pk} (h : MapM m n base chs want) : (freeTo m.ss m.ss.length).length + want.length + m.waiting.length = m.ss.length := by
  have h1 := h.pool.count
  have h2 := h.count
  rw [List.length_append] at h1
  omega
theorem R.movePairs {l : List KObj} {w : World} {u : Nat} {v : Value} {ps : List Pk} (h : R (l ++ [PairsK v ps]) w) (hu : u < l.length) : R (l.set u (PairsK v ps)) w :=
  h.join (parts := [PairsK v ps]) hu id fun o o' hk hm => SlAt.re (hk 0 _ rfl) fun k hk2 => by simpa using hm k 0 (by simp) hk2
end Go.Proofs.YtcgfknpobifecaaGreat
