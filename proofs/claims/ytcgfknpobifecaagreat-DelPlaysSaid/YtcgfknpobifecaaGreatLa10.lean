/- quietuslaw10, plain laws: pairs laid into buckets; what a get over them comes to, step by step. No condition. -/
import Derived.Test.YtcgfknpobifecaaGreatGt
import Derived.Test.YtcgfknpobifecaaGreatPrm
namespace Go.Proofs.YtcgfknpobifecaaGreat
open Go.RowKit

structure Pk where
  key : ByteArray
  val : ByteArray
def pk0 : Pk := ⟨⟨#[]⟩, ⟨#[]⟩⟩
def pk10 (p : Pk) : List Value := [.string p.key, .string p.val]
def okPk (p : Pk) : Prop := p.key.size ≤ 9223372036854775807 ∧ p.val.size ≤ 9223372036854775807
/-- The document's answer. -/
def refGet (key : ByteArray) : List Pk → ByteArray × Bool
  | [] => (⟨#[]⟩, false)
  | x :: r => if x.key = key then (x.val, true) else refGet key r
def bkt (n : Nat) (x : Pk) : Nat := sumOf x.key % n
/-- The first handle of a bucket, of pairs laid from the last one on. -/
def hdP (n B : Nat) : List Pk → Int
  | [] => 0
  | x :: r => if bkt n x = B then (r.length : Int) + 1 else hdP n B r
def sfx (ps : List Pk) (j : Nat) : List Pk := ps.drop (ps.length - j)
def ndP (n : Nat) : List Pk → Nd
  | [] => nd0
  | x :: r => ⟨x.key, x.val, sumOf x.key, hdP n (bkt n x) r⟩
def ssP (ps : List Pk) (room n j : Nat) : List Slot := ((List.range j).map fun t => taken slot0 (ndP n (sfx ps (t + 1)))) ++ List.replicate (room - j) slot0
def cellsP (ps : List Pk) (n j : Nat) : List Int := [1, 1, 0, 0, 0] ++ (List.range n).map fun B => hdP n B (sfx ps j)
theorem hdP_le (n B : Nat) (xs : List Pk) : 0 ≤ hdP n B xs ∧ hdP n B xs ≤ xs.length := by
  induction xs with
  | nil => simp [hdP]
  | cons x r ih => rw [hdP]; split <;> simp <;> omega
theorem sfx_len (ps : List Pk) (j : Nat) (h : j ≤ ps.length) : (sfx ps j).length = j := by simp [sfx]; omega
theorem sfx_succ (ps : List Pk) (j : Nat) (h : j < ps.length) : sfx ps (j + 1) = ps.getD (ps.length - 1 - j) pk0 :: sfx ps j := by
  unfold sfx
  have h1 : ps.length - (j + 1) < ps.length := by omega
  rw [List.drop_eq_getElem_cons h1, show ps.length - (j + 1) + 1 = ps.length - j by omega]
  congr 1
  rw [List.getD_eq_getElem?_getD, ← show ps.length - (j + 1) = ps.length - 1 - j by omega, List.getElem?_eq_getElem h1]
  rfl
theorem sfx_all (ps : List Pk) : sfx ps ps.length = ps := by simp [sfx]
section
variable (ps : List Pk) (room n j t : Nat)
theorem ssP_len (h : j ≤ room) : (ssP ps room n j).length = room := by simp [ssP]; omega
theorem ssP_old (h : t < j) : (ssP ps room n j).getD t slot0 = taken slot0 (ndP n (sfx ps (t + 1))) := by
  rw [ssP, List.getD_eq_getElem?_getD, List.getElem?_append_left (by simpa using h)]
  simp [h]
theorem ssP_new (h : j ≤ t) : (ssP ps room n j).getD t slot0 = slot0 := by
  rw [ssP, List.getD_eq_getElem?_getD, List.getElem?_append_right (by simpa using h), List.getElem?_replicate]
  split <;> rfl
theorem ssP_free (h : j < room) : freeAt (ssP ps room n j) = some j := by
  refine freeAt_is (by rw [ssP_len _ _ _ _ (by omega)]; exact h) (by rw [ssP_new _ _ _ _ _ (Nat.le_refl _)]; rfl) fun i hi => ?_
  rw [ssP_old _ _ _ _ _ hi]; rfl
theorem ssP_set (h : j < room) : (ssP ps room n j).set j (taken slot0 (ndP n (sfx ps (j + 1)))) = ssP ps room n (j + 1) := by
  unfold ssP
  rw [List.set_append_right _ _ (by simp), List.length_map, List.length_range, Nat.sub_self, show room - j = (room - (j + 1)) + 1 by omega, List.replicate_succ, List.set_cons_zero, List.range_succ, List.map_append, List.append_assoc]
  rfl
theorem ssP_at (h : t < j) (hr : j ≤ room) (h2 : room ≤ 1024) : useCode (ssP ps room n j) ((t : Int) + 1) = 0 ∧ readNd (ssP ps room n j) ((t : Int) + 1) = ndP n (sfx ps (t + 1)) := by
  have h3 : ((t : Int) + 1) % 65536 = t + 1 := by omega
  have h4 : ((t : Int) + 1) / 65536 = 0 := by omega
  have h5 : ((t : Int) + 1).toNat - 1 = t := by omega
  have h6 : atA (ssP ps room n j) ((t : Int) + 1) = t := by
    rw [atA, h3, h4, h5, ssP_old _ _ _ _ _ h, ssP_len _ _ _ _ hr, if_pos ⟨by omega, by omega, rfl, rfl⟩]
    omega
  constructor
  · rw [useCode, h6, if_pos (by omega)]
  · rw [readNd, h6, if_pos (by omega), Int.toNat_natCast, ssP_old _ _ _ _ _ h]; rfl
theorem cellsP_set (h : j < ps.length) (hn : 0 < n) :
    (cellsP ps n j).set (5 + bkt n (ps.getD (ps.length - 1 - j) pk0)) ((j : Int) + 1) = cellsP ps n (j + 1) := by
  have hb : bkt n (ps.getD (ps.length - 1 - j) pk0) < n := Nat.mod_lt _ hn
  unfold cellsP
  rw [List.set_append_right _ _ (by simp), show 5 + bkt n (ps.getD (ps.length - 1 - j) pk0) - [1, 1, 0, 0, (0 : Int)].length = bkt n (ps.getD (ps.length - 1 - j) pk0) by simp]
  congr 1
  apply List.ext_getElem?
  intro B
  rw [List.getElem?_set]
  by_cases hB : B < n
  · rw [sfx_succ ps j h]
    simp only [List.getElem?_map, List.getElem?_range hB, Option.map_some, List.length_map, List.length_range, hdP, sfx_len ps j (by omega)]
    by_cases e : bkt n (ps.getD (ps.length - 1 - j) pk0) = B
    · rw [if_pos e, if_pos hb, if_pos e]
    · rw [if_neg e, if_neg e]
  · rw [if_neg (by omega)]
    simp [hB]
theorem cellsP_get (B : Nat) (hB : B < n) : (cellsP ps n j).getD (5 + B) 0 = hdP n B (sfx ps j) := by
  rw [cellsP, List.getD_eq_getElem?_getD, List.getElem?_append_right (by simp), show 5 + B - [1, 1, 0, 0, (0 : Int)].length = B by simp]
  simp [hB]
end
/-- The memory when j pairs are laid. -/
def laidM (b cb lb ab : Nat) (ps : List Pk) (n j : Nat) : MemS :=
  { memNew b cb lb ab (max ps.length 1) 2 with cells := cellsP ps n j, tables := [(1, 4), ((n : Int), 5)], ss := ssP ps (max ps.length 1) n j }
theorem laidM_0 (b cb lb ab : Nat) (ps : List Pk) (n : Nat) : { tableM (memNew b cb lb ab (max ps.length 1) 2) n with cells := (tableM (memNew b cb lb ab (max ps.length 1) 2) n).cells.set 1 1 } = laidM b cb lb ab ps n 0 := by
  have e : (List.range n).map (fun B => hdP n B (sfx ps 0)) = List.replicate n 0 := by
    apply List.ext_getElem?
    intro i
    by_cases h : i < n
    · simp [h, sfx, hdP]
    · simp [h]
  simp [laidM, tableM, memNew, cellsP, ssP, e]

/-- The memory with worker 1 in. -/
def inM (m : MemS) (x : Int) : MemS := { m with cells := m.cells.set 3 x }
/-- A get's state behind j steps, not done; c: how many more there are at most. -/
inductive G10 (M : MemS) (ps : List Pk) (n : Nat) (key : ByteArray) : Nat → MemS → GetS → Nat → Prop where
  | c0 : G10 M ps n key 0 M (get0 1 key) (ps.length + 9)
  | c1 : G10 M ps n key 1 M ⟨1, key, 0, ⟨1, true, 1⟩, none⟩ (ps.length + 8)
  | c2 : G10 M ps n key 2 (inM M 1) ⟨1, key, 1, ⟨1, true, 1⟩, none⟩ (ps.length + 7)
  | c3 : G10 M ps n key 3 (inM M 1) ⟨1, key, 2, ⟨1, true, 1⟩, some (walk0 (5 + (sumOf key % n : Nat)) (sumOf key) key)⟩ (ps.length + 6)
  | look (x : Pk) (r : List Pk) (k : Nat) (ws : WalkS) (hx : sfx ps (r.length + 1) = x :: r) (hl : r.length + 1 ≤ ps.length) (hb : bkt n x = sumOf key % n) (hg : refGet key (x :: r) = refGet key ps)
      (h1 : ws.looking = true) (h2 : ws.at_ = (r.length : Int) + 1) (h3 : ws.sum = sumOf key) (h4 : ws.key = key) (h5 : ws.found = false) (h6 : ws.read = k) (hk : k + r.length + 1 ≤ ps.length) :
      G10 M ps n key (4 + k) (inM M 1) ⟨1, key, 2, ⟨1, true, 1⟩, some ws⟩ (r.length + 3)
  | out (k : Nat) (ws : WalkS) (hg : getVal ⟨1, key, 3, ⟨1, true, 1⟩, some ws⟩ = refGet key ps) (h6 : ws.read = k) (hok : WalkOk ws) (hk : k ≤ ps.length) : G10 M ps n key (4 + k) (inM M 1) ⟨1, key, 3, ⟨1, true, 1⟩, some ws⟩ 1
/-- Where the chain of a bucket goes on. -/
theorem hdP_at (n B : Nat) (key : ByteArray) (hB : B = sumOf key % n) : ∀ xs : List Pk, (hdP n B xs = 0 ∧ refGet key xs = (⟨#[]⟩, false)) ∨ ∃ pre x r, xs = pre ++ x :: r ∧ hdP n B xs = (r.length : Int) + 1 ∧ bkt n x = B ∧ refGet key xs = refGet key (x :: r)
  | [] => .inl ⟨rfl, rfl⟩
  | y :: s => by
    by_cases h : bkt n y = B
    · exact .inr ⟨[], y, s, rfl, by rw [hdP, if_pos h], h, rfl⟩
    · have hk : y.key ≠ key := fun e => h (by rw [bkt, e, hB])
      have e1 : hdP n B (y :: s) = hdP n B s := by rw [hdP, if_neg h]
      have e2 : refGet key (y :: s) = refGet key s := by rw [refGet, if_neg hk]
      rw [e1, e2]
      rcases hdP_at n B key hB s with h0 | ⟨pre, x, r, hs, h1, h2, h3⟩
      · exact .inl h0
      · exact .inr ⟨y :: pre, x, r, by rw [hs]; rfl, h1, h2, h3⟩
theorem sfx_of {ps xs pre r : List Pk} {x : Pk} {j : Nat} (hx : sfx ps j = xs) (hs : xs = pre ++ x :: r) (hj : j ≤ ps.length) : sfx ps (r.length + 1) = x :: r ∧ r.length + 1 ≤ j := by
  have hl := sfx_len ps j hj
  rw [hx, hs] at hl
  simp at hl
  refine ⟨?_, by omega⟩
  have : sfx ps (r.length + 1) = (sfx ps j).drop pre.length := by
    unfold sfx
    rw [List.drop_drop]
    congr 1
    omega
  rw [this, hx, hs]
  simp

theorem u64_0 : U64 0 := ⟨Int.le_refl 0, by decide⟩
theorem bucketOf_nat (s : ByteArray) (n : Nat) (hn : powB n = true) : bucketOf (sumOf s : Nat) n = ((sumOf s % n : Nat) : Int) := by
  rw [bucketOf, if_pos hn]; omega
section
variable {b cb lb ab : Nat} {ps : List Pk} {n : Nat} {key : ByteArray}
theorem laidM_in (b cb lb ab : Nat) (ps : List Pk) (n : Nat) (x : Int) (i : Nat) : (inM (laidM b cb lb ab ps n ps.length) x).cells.getD i 0 = if i = 3 then x else (cellsP ps n ps.length).getD i 0 := by
  have : 3 < (cellsP ps n ps.length).length := by rw [cellsP, List.length_append]; simp; omega
  show ((cellsP ps n ps.length).set 3 x).getD i 0 = _
  by_cases h : i = 3
  · subst h; simp [this]
  · rw [if_neg h, List.getD_eq_getElem?_getD, List.getElem?_set_ne (by omega), ← List.getD_eq_getElem?_getD]
theorem getStep_1 (m : MemS) (k : Nat) (key : ByteArray) (c : ComeS) (o : Option WalkS) : getStep m ⟨k, key, 1, c, o⟩ = (m, ⟨k, key, 2, c, some (walk0 ((descOf m (wrap64 (m.cells.getD 1 0))).2 + bucketOf (sumOf key) (descOf m (wrap64 (m.cells.getD 1 0))).1) (sumOf key) key)⟩, false) := rfl
theorem getStep_2 (m : MemS) (k : Nat) (key : ByteArray) (c : ComeS) (ws : WalkS) : getStep m ⟨k, key, 2, c, some ws⟩ = ((walkStep m ws).1, ⟨k, key, if (walkStep m ws).2.2 then 3 else 2, c, some (walkStep m ws).2.1⟩, false) := rfl
theorem getStep_3 (m : MemS) (k : Nat) (key : ByteArray) (c : ComeS) (o : Option WalkS) : getStep m ⟨k, key, 3, c, o⟩ = (goneStep m k, ⟨k, key, 3, c, o⟩, true) := rfl
theorem G10.step {j c : Nat} {m : MemS} {s : GetS} (hn0 : 0 < n) (hn : powB n = true) (hl : ps.length ≤ 60) (g : G10 (laidM b cb lb ab ps n ps.length) ps n key j m s c) :
    (∃ m' s' c', getStep m s = (m', s', false) ∧ G10 (laidM b cb lb ab ps n ps.length) ps n key (j + 1) m' s' c' ∧ c' < c ∧ (inCell m' 1 ≠ 0 ↔ 1 ≤ j) ∧ inCell m' 0 = 0) ∨
    (getStep m s = (inM (laidM b cb lb ab ps n ps.length) 0, s, true) ∧ (j : Int) = 4 + getRead s ∧ 4 ≤ j ∧ getVal s = refGet key ps) := by
  have hin0 : ∀ x, inCell (inM (laidM b cb lb ab ps n ps.length) x) 0 = 0 := fun x => by rw [inCell, laidM_in, if_neg (by decide)]; rfl
  have hin1 : ∀ x, inCell (inM (laidM b cb lb ab ps n ps.length) x) 1 = x := fun x => by rw [inCell, laidM_in, if_pos (by decide)]
  cases g with
  | c0 => exact .inl ⟨_, _, _, rfl, .c1, by omega, ⟨fun h => absurd rfl h, fun h => by omega⟩, rfl⟩
  | c1 => exact .inl ⟨inM (laidM b cb lb ab ps n ps.length) 1, _, _, rfl, .c2, by omega, ⟨fun _ => by omega, fun _ => by rw [hin1]; decide⟩, hin0 1⟩
  | c2 =>
    refine .inl ⟨_, _, _, ?_, .c3, by omega, ⟨fun _ => by omega, fun _ => by rw [hin1]; decide⟩, hin0 1⟩
    have e1 : (inM (laidM b cb lb ab ps n ps.length) 1).cells.getD 1 0 = 1 := by rw [laidM_in, if_neg (by decide)]; rfl
    have e2 : descOf (inM (laidM b cb lb ab ps n ps.length) 1) (wrap64 1) = ((n : Int), 5) := by rw [show wrap64 1 = 1 by unfold wrap64; omega]; rfl
    rw [getStep_1, e1, e2]
    dsimp only
    rw [bucketOf_nat key n hn]
  | c3 =>
    have hB : sumOf key % n < n := Nat.mod_lt _ hn0
    have hc : cellAt (inM (laidM b cb lb ab ps n ps.length) 1) (5 + (sumOf key % n : Nat)) = hdP n (sumOf key % n) ps := by
      rw [cellAt, if_pos (by omega), show (5 + ((sumOf key % n : Nat) : Int)).toNat = 5 + sumOf key % n by omega, laidM_in, if_neg (by omega), cellsP_get _ _ _ _ hB, sfx_all]
    have e : getStep (inM (laidM b cb lb ab ps n ps.length) 1) ⟨1, key, 2, ⟨1, true, 1⟩, some (walk0 (5 + (sumOf key % n : Nat)) (sumOf key) key)⟩ =
        (inM (laidM b cb lb ab ps n ps.length) 1, ⟨1, key, if decide (hdP n (sumOf key % n) ps = 0) then 3 else 2, ⟨1, true, 1⟩, some { walk0 (5 + (sumOf key % n : Nat)) (sumOf key) key with first := hdP n (sumOf key % n) ps, at_ := hdP n (sumOf key % n) ps, looking := true }⟩, false) := by
      rw [getStep_2]
      rw [walkStep, if_neg (by simp [walk0]), show (walk0 (5 + (sumOf key % n : Nat)) (sumOf key) key).cell = 5 + (sumOf key % n : Nat) from rfl, hc]
      rfl
    rcases hdP_at n (sumOf key % n) key rfl ps with ⟨h0, h1⟩ | ⟨pre, x, r, hs, h1, h2, h3⟩
    · rw [h0] at e
      refine .inl ⟨_, _, _, e, .out 0 _ (by rw [h1]; rfl) rfl ⟨u64_0⟩ (by omega), by omega, ⟨fun _ => by omega, fun _ => by rw [hin1]; decide⟩, hin0 1⟩
    · have hx := sfx_of (sfx_all ps) hs (Nat.le_refl _)
      rw [h1, show decide ((r.length : Int) + 1 = 0) = false by simp; omega] at e
      refine .inl ⟨_, _, _, e, .look x r 0 _ hx.1 hx.2 h2 h3.symm rfl rfl rfl rfl rfl rfl (by omega), by omega, ⟨fun _ => by omega, fun _ => by rw [hin1]; decide⟩, hin0 1⟩
  | look x r k ws hx hl2 hb hg h1 h2 h3 h4 h5 h6 hk =>
    have hrd := ssP_at ps (max ps.length 1) n ps.length r.length (by omega) (by omega) (by omega)
    rw [hx] at hrd
    have hw : wrap64 (ws.read + 1) = (k : Int) + 1 := by rw [h6]; unfold wrap64; omega
    obtain ⟨wc, wsm, wky, wlk, wfi, wpv, wat, wnd, wfo, wrd⟩ := ws
    dsimp only at h1 h2 h3 h4 h5 h6 hw
    subst h1 h2 h3 h4 h5 h6
    have ew : walkStep (inM (laidM b cb lb ab ps n ps.length) 1) ⟨wc, sumOf wky, wky, true, wfi, wpv, (r.length : Int) + 1, wnd, false, k⟩ =
        if x.key = wky then (inM (laidM b cb lb ab ps n ps.length) 1, ⟨wc, sumOf wky, wky, true, wfi, wpv, (r.length : Int) + 1, ndP n (x :: r), true, (k : Int) + 1⟩, true)
        else (inM (laidM b cb lb ab ps n ps.length) 1, ⟨wc, sumOf wky, wky, true, wfi, (r.length : Int) + 1, hdP n (bkt n x) r, wnd, false, (k : Int) + 1⟩, decide (hdP n (bkt n x) r = 0)) := by
      rw [walkStep, if_pos rfl]
      dsimp only
      rw [show (inM (laidM b cb lb ab ps n ps.length) 1).ss = ssP ps (max ps.length 1) n ps.length from rfl, hrd.1, hrd.2, if_pos rfl, hw]
      dsimp only [ndP]
      by_cases hkey : x.key = wky
      · rw [if_pos hkey]
        exact if_pos ⟨by rw [hkey], hkey⟩
      · rw [if_neg hkey]
        exact if_neg (fun h => hkey h.2)
    have e0 : getStep (inM (laidM b cb lb ab ps n ps.length) 1) ⟨1, wky, 2, ⟨1, true, 1⟩, some ⟨wc, sumOf wky, wky, true, wfi, wpv, (r.length : Int) + 1, wnd, false, k⟩⟩ =
        if (x.key = wky) then (inM (laidM b cb lb ab ps n ps.length) 1, ⟨1, wky, 3, ⟨1, true, 1⟩, some ⟨wc, sumOf wky, wky, true, wfi, wpv, (r.length : Int) + 1, ndP n (x :: r), true, (k : Int) + 1⟩⟩, false)
        else (inM (laidM b cb lb ab ps n ps.length) 1, ⟨1, wky, if decide (hdP n (bkt n x) r = 0) then 3 else 2, ⟨1, true, 1⟩, some ⟨wc, sumOf wky, wky, true, wfi, (r.length : Int) + 1, hdP n (bkt n x) r, wnd, false, (k : Int) + 1⟩⟩, false) := by
      rw [getStep_2, ew]
      by_cases hkey : x.key = wky
      · simp only [if_pos hkey, if_true]
      · simp only [if_neg hkey]
    by_cases hkey : x.key = wky
    · rw [if_pos hkey] at e0
      refine .inl ⟨_, _, _, e0, .out (k + 1) _ ?_ (by dsimp only; omega) ⟨⟨by dsimp only; omega, by dsimp only; omega⟩⟩ (by omega), by omega, ⟨fun _ => by omega, fun _ => by rw [hin1]; decide⟩, hin0 1⟩
      rw [← hg, refGet, if_pos hkey]
      rfl
    · rw [if_neg hkey] at e0
      rw [refGet, if_neg hkey] at hg
      rcases hdP_at n (bkt n x) wky hb r with ⟨q0, q1⟩ | ⟨pre, y, r2, hs, q1, q2, q3⟩
      · rw [q0] at e0
        refine .inl ⟨_, _, _, e0, .out (k + 1) _ ?_ (by dsimp only; omega) ⟨u64_0⟩ (by omega), by omega, ⟨fun _ => by omega, fun _ => by rw [hin1]; decide⟩, hin0 1⟩
        rw [← hg, q1]
        rfl
      · have hsr : sfx ps r.length = r := by
          have := sfx_succ ps r.length (by omega)
          rw [hx] at this
          exact (List.cons.inj this).2.symm
        have hy := sfx_of hsr hs (by omega)
        rw [q1, show decide ((r2.length : Int) + 1 = 0) = false by simp; omega] at e0
        refine .inl ⟨_, _, _, e0, .look y r2 (k + 1) _ hy.1 (by omega) (by rw [q2, hb]) (by rw [← q3, hg]) rfl rfl rfl rfl rfl (by dsimp only; omega) (by omega), by omega, ⟨fun _ => by omega, fun _ => by rw [hin1]; decide⟩, hin0 1⟩
  | out k ws hg h6 hok hk =>
    refine .inr ⟨?_, by rw [getRead]; dsimp only; omega, by omega, hg⟩
    rw [getStep_3]
    dsimp only [goneStep, inM]
    rw [List.set_set]
end
end Go.Proofs.YtcgfknpobifecaaGreat
