/- RetireWaits: its objects. No condition. -/
import Derived.Test.YtcoaemjoanbemaaLr06
import Derived.Test.YtcoaemjoanbemaaLq07
namespace Go.Proofs.Ytcoaemjoanbemaa
open Go.RowKit

theorem R.moveDr {l : List KObj} {w : World} {b u : Nat} {s : DrainS} (h : R (l ++ [DrainK b s]) w) (hu : u < l.length) : R (l.set u (DrainK b s)) w :=
  h.join (parts := [DrainK b s]) hu id fun o o' hk hm => by
    obtain ⟨lv, h1, h2, h3⟩ := hk 0 _ rfl
    exact ⟨lv, StAt.re h1 fun k hk2 => by simpa using hm k 0 (by simp) hk2, StAt.re h2 fun k hk2 => by simpa using hm k 1 (by simp) hk2, LfAt.re h3 fun k hk2 => by simpa using hm k 2 (by simp) hk2⟩

/-- The objects of RetireWaits. -/
def ld (n : Nat) (w : World) (m : MemS) (fa sa : Nat) (fb : Nat → Nat) (f : Nat → Option FrQ) (st : Nat → Nat) (gb : Nat) (bg : Option (Nat → Nat)) (db : Nat) (d : DrainS) : List KObj :=
  [BaseK w, MemK m, SlK 3 1 (.slice (some ⟨sa, 0, none⟩) n n) n ((natsL n st).map (Value.int .i64)),
   SlK 85 1 (.slice (some ⟨fa, 0, none⟩) n n) n ((List.range n).map fun i => frV (fb i) (f i)), DrainK db d, bgO gb n bg] ++ (List.range n).map fun i => frO i (fb i) (f i)

section
variable {n : Nat} {w : World} {m : MemS} {fa sa : Nat} {fb : Nat → Nat} {f : Nat → Option FrQ} {st : Nat → Nat} {gb : Nat} {bg : Option (Nat → Nat)} {db : Nat} {d : DrainS}
theorem ld_len : (ld n w m fa sa fb f st gb bg db d).length = 6 + n := by simp [ld]; omega
theorem ld_fr {i : Nat} (h : i < n) : (ld n w m fa sa fb f st gb bg db d)[6 + i]? = some (frO i (fb i) (f i)) := by
  rw [ld, List.getElem?_append_right (by simp)]; simp [h]
theorem ld_setM (m' : MemS) : (ld n w m fa sa fb f st gb bg db d).set 1 (MemK m') = ld n w m' fa sa fb f st gb bg db d := rfl
theorem ld_setD (b : Nat) (d' : DrainS) : (ld n w m fa sa fb f st gb bg db d).set 4 (DrainK b d') = ld n w m fa sa fb f st gb bg b d' := rfl
theorem ld_newBg (g : Nat) (h : Option (Nat → Nat)) : (ld n w m fa sa fb f st gb bg db d).set 5 (bgO g n h) = ld n w m fa sa fb f st g h db d := rfl
theorem ld_offBg : (ld n w m fa sa fb f st gb bg db d).set 5 NoK = ld n w m fa sa fb f st gb none db d := rfl
theorem ld_newFr {i : Nat} (b : Nat) (x : Option FrQ) :
    ((ld n w m fa sa fb f st gb bg db d).set (6 + i) (frO i b x)).set 3 (SlK 85 1 (.slice (some ⟨fa, 0, none⟩) n n) n (((List.range n).map fun i => frV (fb i) (f i)).set i (frV b x))) =
      ld n w m fa sa (fup fb i b) (fup f i x) st gb bg db d := by
  have e1 : (fun j => frV (fup fb i b j) (fup f i x j)) = fup (fun j => frV (fb j) (f j)) i (frV b x) := by funext j; unfold fup; split <;> rfl
  have e2 : (fun j => frO j (fup fb i b j) (fup f i x j)) = fup (fun j => frO j (fb j) (f j)) i (frO i b x) := by
    funext j; unfold fup; split
    · subst j; rfl
    · rfl
  unfold ld
  rw [e1, e2, rangeSet, ← rangeSet n i (fun j => frO j (fb j) (f j)), List.set_append_right _ _ (by simp)]
  simp
theorem ld_setFr {i : Nat} (x : Option FrQ) (hx : frV (fb i) x = frV (fb i) (f i)) :
    (ld n w m fa sa fb f st gb bg db d).set (6 + i) (frO i (fb i) x) = ld n w m fa sa fb (fup f i x) st gb bg db d := by
  have e1 : (fun j => frV (fb j) (fup f i x j)) = fun j => frV (fb j) (f j) := by
    funext j; unfold fup; split
    · subst j; exact hx
    · rfl
  have e2 : (fun j => frO j (fb j) (fup f i x j)) = fup (fun j => frO j (fb j) (f j)) i (frO i (fb i) x) := by
    funext j; unfold fup; split
    · subst j; rfl
    · rfl
  unfold ld
  rw [e1, e2, ← rangeSet n i (fun j => frO j (fb j) (f j)), List.set_append_right _ _ (by simp)]
  simp
theorem ld_offFr {i : Nat} :
    ((ld n w m fa sa fb f st gb bg db d).set 3 (SlK 85 1 (.slice (some ⟨fa, 0, none⟩) n n) n (((List.range n).map fun i => frV (fb i) (f i)).set i .nilIface))).set (6 + i) NoK =
      ld n w m fa sa fb (fup f i none) st gb bg db d := by
  have := ld_newFr (n := n) (w := w) (m := m) (fa := fa) (sa := sa) (fb := fb) (f := f) (st := st) (gb := gb) (bg := bg) (db := db) (d := d) (i := i) (fb i) none
  rw [show fup fb i (fb i) = fb by funext j; unfold fup; split <;> simp_all] at this
  rw [← this, List.set_comm _ _ (by omega)]
  rfl
theorem ld_setSt {i : Nat} (v : Nat) :
    (ld n w m fa sa fb f st gb bg db d).set 2 (SlK 3 1 (.slice (some ⟨sa, 0, none⟩) n n) n (((natsL n st).set i (v : Int)).map (Value.int .i64))) = ld n w m fa sa fb f (fup st i v) gb bg db d := by
  rw [natsL_set]; rfl
theorem ld_bgCongr {a b : Nat → Nat} (h : ∀ i, i < n → a i = b i) :
    ld n w m fa sa fb f st gb (some a) db d = ld n w m fa sa fb f st gb (some b) db d := by
  have e : ∀ g, bgO g n (some a) = bgO g n (some b) := fun g => by simp only [bgO, natsL_congr h]
  unfold ld
  rw [e]
/-- A new drain in the place of an ended one. -/
theorem R.ldNewDr {wr : World} {b : Nat} {s : DrainS} (h : R (ld n w m fa sa fb f st gb bg db d ++ [DrainK b s]) wr) : R (ld n w m fa sa fb f st gb none b s) wr := by
  have h1 := (R.moveDr (u := 4) h (by rw [ld_len]; omega)).drop 5
  rw [ld_setD, ld_offBg] at h1
  exact h1
/-- A new frame. -/
theorem R.ldNewFr {wr : World} {i b : Nat} {cs : Array Value} {T : TypeId} (x : FrQ) (hi : i < n) (hx : frO i b (some x) = StK b cs T) (h : R (ld n w m fa sa fb f st gb bg db d ++ [StK b cs T]) wr) :
    R (ld n w m fa sa (fup fb i b) (fup f i (some x)) st gb bg db d) (wr.setCell ⟨fa, i, none⟩ (frV b (some x))) := by
  have hA := (R.moveSt (u := 6 + i) h (by rw [ld_len]; omega)).putRow (t := 3) (g := fa) (cap := n) (set_other rfl (by omega)) i (frV b (some x)) (by omega)
  rw [← ld_newFr b (some x), hx]
  exact hA
/-- A frame that has ended. -/
theorem R.ldOffFr {wr : World} {i : Nat} (hi : i < n) (h : R (ld n w m fa sa fb f st gb bg db d) wr) :
    R (ld n w m fa sa fb (fup f i none) st gb bg db d) (wr.setCell ⟨fa, i, none⟩ .nilIface) := by
  have hB := (h.putRow (t := 3) (g := fa) (cap := n) rfl i .nilIface (by omega)).drop (6 + i)
  rw [← ld_offFr]
  exact hB
theorem R.ldPutSt {wr : World} {i : Nat} (hi : i < n) (v : Nat) (h : R (ld n w m fa sa fb f st gb bg db d) wr) :
    R (ld n w m fa sa fb f (fup st i v) gb bg db d) (wr.setCell ⟨sa, i, none⟩ (.int .i64 v)) := by
  have hB := h.putInt (t := 2) (g := sa) (cap := n) (n := n) (T := 3) (q := .i64) (xs := natsL n st) rfl i v (by omega)
  rw [← ld_setSt]
  exact hB
theorem R.ldPutBg {wr : World} {i : Nat} {g : Nat → Nat} (hi : i < n) (v : Nat) (h : R (ld n w m fa sa fb f st gb (some g) db d) wr) :
    R (ld n w m fa sa fb f st gb (some (fup g i v)) db d) (wr.setCell ⟨gb, i, none⟩ (.int .i64 v)) := by
  have hB := h.putInt (t := 5) (g := gb) (cap := n) (n := n) (T := 3) (q := .i64) (xs := natsL n g) rfl i v (by omega)
  rw [natsL_set] at hB
  exact hB
/-- What the walk reads of the rows. -/
theorem R.ldFr {wr : World} (h : R (ld n w m fa sa fb f st gb bg db d) wr) {i : Nat} (hi : i < n) : ∃ cur, blk wr fa = some (.cells cur 85 (0, 0)) ∧ cur[i]? = some (frV (fb i) (f i)) := by
  obtain ⟨g, cap, cur, hv, hg, _, _, hc⟩ := h.slRow (t := 3) rfl (by omega)
  simp at hv
  obtain ⟨rfl, rfl⟩ := hv
  exact ⟨cur, hg, hc i _ (by simp [hi])⟩
theorem R.ldSt {wr : World} (h : R (ld n w m fa sa fb f st gb bg db d) wr) {i : Nat} (hi : i < n) : ∃ cur, blk wr sa = some (.cells cur 3 (0, 0)) ∧ cur[i]? = some (.int .i64 (st i)) := by
  obtain ⟨g, cap, cur, hv, hg, _, _, hc⟩ := h.intRow (t := 2) rfl hi
  rw [natsL_get hi] at hc
  simp at hv
  obtain ⟨rfl, rfl⟩ := hv
  exact ⟨cur, hg, hc⟩
theorem R.ldBg {wr : World} {g : Nat → Nat} (h : R (ld n w m fa sa fb f st gb (some g) db d) wr) {i : Nat} (hi : i < n) : ∃ cur, blk wr gb = some (.cells cur 3 (0, 0)) ∧ cur[i]? = some (.int .i64 (g i)) := by
  obtain ⟨g2, cap, cur, hv, hg, _, _, hc⟩ := h.intRow (t := 5) rfl hi
  rw [natsL_get hi] at hc
  simp at hv
  obtain ⟨rfl, rfl⟩ := hv
  exact ⟨cur, hg, hc⟩
end
end Go.Proofs.Ytcoaemjoanbemaa
