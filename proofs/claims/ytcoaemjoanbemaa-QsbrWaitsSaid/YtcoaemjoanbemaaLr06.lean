/- QsbrWaits: its objects. No condition. -/
import Derived.Test.YtcoaemjoanbemaaLq06
import Derived.Test.YtcoaemjoanbemaaRl
import Derived.Test.YtcoaemjoanbemaaRj
import Derived.Deep.DeepCutAuto
import Derived.Deep.CutBlock
namespace Go.Proofs.Ytcoaemjoanbemaa
open Go.RowKit

theorem R.moveSt {l : List KObj} {w : World} {b u : Nat} {cs : Array Value} {T : TypeId} (h : R (l ++ [StK b cs T]) w) (hu : u < l.length) : R (l.set u (StK b cs T)) w :=
  h.join (parts := [StK b cs T]) hu id fun o o' hk hm => StAt.re (hk 0 _ rfl) fun k hk2 => by simpa using hm k 0 (by simp) hk2
theorem R.moveSl {l : List KObj} {w : World} {u : Nat} {T : TypeId} {k : Nat} {v : Value} {n : Nat} {cs : List Value} (h : R (l ++ [SlK T k v n cs]) w) (hu : u < l.length) : R (l.set u (SlK T k v n cs)) w :=
  h.join (parts := [SlK T k v n cs]) hu id fun o o' hk hm => SlAt.re (hk 0 _ rfl) fun k hk2 => by simpa using hm k 0 (by simp) hk2

theorem R.nos {l : List KObj} {w : World} (h : R l w) (m : List KObj) (hm : ∀ p ∈ m, p = NoK) : R (l ++ m) w := by
  obtain ⟨o, h⟩ := h
  refine ⟨o, fun u p hu => ?_⟩
  by_cases hul : u < l.length
  · rw [List.getElem?_append_left hul] at hu
    exact h u p hu
  · rw [List.getElem?_append_right (by omega)] at hu
    rw [hm p (List.mem_of_getElem? hu)]
    trivial
theorem frame_info : (Try.prog.info? 85).map (fun i => (i.zero, i.size, i.bytes)) = some (some .nilIface, 1, 16) := by kernel_rfl
theorem int_info : (Try.prog.info? 3).map (fun i => (i.zero, i.size, i.bytes)) = some (some (.int .i64 0), 1, 8) := by kernel_rfl
theorem ints_info : (Try.prog.info? 80).map (fun i => (i.zero, i.size, i.bytes)) = some (some (.slice none 0 0), 1, 24) := by kernel_rfl

set_option maxHeartbeats 400000 in
theorem qsbr_inN {l : List KObj} {w : World} {t : Nat} {m : MemS} (h : R l w) (ht : l[t]? = some (MemK m)) (k : Nat) (hk : k < m.workers) :
    Calls Try.prog 39 #[.pointer (some ⟨m.b, 0, none⟩), .int .i64 k] w fun e w' => e = .returned (.bool (decide (inCell m k ≠ 0))) ∧ ∃ n, w' = w.drewN n := by
  obtain ⟨tv, wv, hm⟩ := h.memHdr ht
  have hmo := h.memOk ht
  have hld := hide fun j => memR_load (h.drewN j) ht (2 + (k : Int)) (by omega) (by have := hmo.cells3; omega)
  rw [show (2 + (k : Int)).toNat = 2 + k by omega] at hld
  have hcnt := hide fun j => mem_counter k (by omega) (by have := hmo.work; omega) (w.drewN j)
  unfold inCell
  generalize m.cells.getD (2 + k) 0 = v at *
  clear hmo h
  go_enter Try.func39, Try.ntmps39
  go_wp2_with fail
  go_quiet (first | exact quiet_left (hcnt.out _) | exact quiet_left (hld.out _))
  go_wp2
  go_ret
  refine ⟨?_, _, rfl⟩
  congr 2
  by_cases h0 : v = 0 <;> simp [h0]

theorem qsbr_inD {l : List KObj} {w : World} {t : Nat} {m : MemS} (h : R l w) (ht : l[t]? = some (MemK m)) (k : Nat) (hk : k < m.workers) (d : Nat) :
    Calls Try.prog 39 #[.pointer (some ⟨m.b, 0, none⟩), .int .i64 k] (w.drewN d) fun e w' => e = .returned (.bool (decide (inCell m k ≠ 0))) ∧ ∃ n, w' = w.drewN n :=
  (qsbr_inN (h.drewN d) ht k hk).mono (by rintro e w' ⟨rfl, m9, rfl⟩; exact ⟨rfl, _, World.drewN_drewN _ _ _⟩)

def frV (b : Nat) : Option FrQ → Value
  | none => .nilIface
  | some (.come _ _) => .iface 88 (.pointer (some ⟨b, 0, none⟩))
  | some .gone => .iface 90 (.pointer (some ⟨b, 0, none⟩))
def frO (i b : Nat) : Option FrQ → KObj
  | none => NoK
  | some (.come ld p) => ComeK b ⟨i, ld, p⟩
  | some .gone => GoneK b i
def bgV (g n : Nat) : Option (Nat → Nat) → Value
  | none => .slice none 0 0
  | some _ => .slice (some ⟨g, 0, none⟩) n n
def natsL (n : Nat) (h : Nat → Nat) : List Int := (List.range n).map fun i => (h i : Int)
def bgO (g n : Nat) : Option (Nat → Nat) → KObj
  | none => NoK
  | some h => SlK 3 1 (.slice (some ⟨g, 0, none⟩) n n) n ((natsL n h).map (Value.int .i64))
def wtV (b : Nat) : Bool → Value
  | true => .iface 82 (.pointer (some ⟨b, 0, none⟩))
  | false => .nilIface
/-- The objects of QsbrWaits. -/
def lq (n : Nat) (w : World) (m : MemS) (fa sa ba wa : Nat) (fb : Nat → Nat) (f : Nat → Option FrQ) (st : Nat → Nat) (gb : Nat → Nat) (bg : Nat → Option (Nat → Nat)) (lv : Nat → Bool) (wb : Nat → Nat) (ws : Nat → WaitS) : List KObj :=
  [BaseK w, MemK m, SlK 85 1 (.slice (some ⟨fa, 0, none⟩) n n) n ((List.range n).map fun i => frV (fb i) (f i)),
   SlK 3 1 (.slice (some ⟨sa, 0, none⟩) n n) n ((natsL n st).map (Value.int .i64)),
   SlK 80 1 (.slice (some ⟨ba, 0, none⟩) 2 2) 2 [bgV (gb 0) n (bg 0), bgV (gb 1) n (bg 1)],
   WaitK (wb 0) (ws 0), WaitK (wb 1) (ws 1), SlK 85 1 (.slice (some ⟨wa, 0, none⟩) 2 2) 2 [wtV (wb 0) (lv 0), wtV (wb 1) (lv 1)], bgO (gb 0) n (bg 0), bgO (gb 1) n (bg 1)] ++ (List.range n).map fun i => frO i (fb i) (f i)

theorem rangeSet {α : Type} (n i : Nat) (g : Nat → α) (x : α) : ((List.range n).map g).set i x = (List.range n).map (fup g i x) := by
  apply List.ext_getElem?
  intro j
  by_cases h : i = j
  · subst h
    by_cases hl : i < n
    · simp [hl, fup_same]
    · simp [hl]
  · rw [List.getElem?_set_ne h]
    by_cases hl : j < n
    · simp [hl, fup_other g x (Ne.symm h)]
    · simp [hl]
section
variable {n : Nat} {w : World} {m : MemS} {fa sa ba wa : Nat} {fb : Nat → Nat} {f : Nat → Option FrQ} {st gb : Nat → Nat} {bg : Nat → Option (Nat → Nat)} {lv : Nat → Bool} {wb : Nat → Nat} {ws : Nat → WaitS}
theorem lq_len : (lq n w m fa sa ba wa fb f st gb bg lv wb ws).length = 10 + n := by simp [lq]; omega
theorem lq_fr {i : Nat} (h : i < n) : (lq n w m fa sa ba wa fb f st gb bg lv wb ws)[10 + i]? = some (frO i (fb i) (f i)) := by
  rw [lq, List.getElem?_append_right (by simp)]; simp [h]
theorem lq_wait {k : Nat} (hk : k < 2) : (lq n w m fa sa ba wa fb f st gb bg lv wb ws)[5 + k]? = some (WaitK (wb k) (ws k)) := by
  rcases (by omega : k = 0 ∨ k = 1) with rfl | rfl <;> rfl
theorem lq_bg {k : Nat} (hk : k < 2) : (lq n w m fa sa ba wa fb f st gb bg lv wb ws)[8 + k]? = some (bgO (gb k) n (bg k)) := by
  rcases (by omega : k = 0 ∨ k = 1) with rfl | rfl <;> rfl
theorem lq_setM (m' : MemS) : (lq n w m fa sa ba wa fb f st gb bg lv wb ws).set 1 (MemK m') = lq n w m' fa sa ba wa fb f st gb bg lv wb ws := rfl
theorem lq_setWait {k : Nat} (hk : k < 2) (s : WaitS) : (lq n w m fa sa ba wa fb f st gb bg lv wb ws).set (5 + k) (WaitK (wb k) s) = lq n w m fa sa ba wa fb f st gb bg lv wb (fup ws k s) := by
  rcases (by omega : k = 0 ∨ k = 1) with rfl | rfl <;> rfl
theorem lq_newWait {k : Nat} (hk : k < 2) (b : Nat) (s : WaitS) (hl : lv k = true) :
    ((lq n w m fa sa ba wa fb f st gb bg lv wb ws).set (5 + k) (WaitK b s)).set 7 (SlK 85 1 (.slice (some ⟨wa, 0, none⟩) 2 2) 2 ([wtV (wb 0) (lv 0), wtV (wb 1) (lv 1)].set k (wtV b true))) =
      lq n w m fa sa ba wa fb f st gb bg lv (fup wb k b) (fup ws k s) := by
  rcases (by omega : k = 0 ∨ k = 1) with rfl | rfl <;> simp [lq, fup, hl]
theorem lq_offWait {k : Nat} (hk : k < 2) :
    (lq n w m fa sa ba wa fb f st gb bg lv wb ws).set 7 (SlK 85 1 (.slice (some ⟨wa, 0, none⟩) 2 2) 2 ([wtV (wb 0) (lv 0), wtV (wb 1) (lv 1)].set k .nilIface)) =
      lq n w m fa sa ba wa fb f st gb bg (fup lv k false) wb ws := by
  rcases (by omega : k = 0 ∨ k = 1) with rfl | rfl <;> rfl
theorem lq_newBg {k : Nat} (hk : k < 2) (g : Nat) (h : Nat → Nat) :
    ((lq n w m fa sa ba wa fb f st gb bg lv wb ws).set (8 + k) (bgO g n (some h))).set 4 (SlK 80 1 (.slice (some ⟨ba, 0, none⟩) 2 2) 2 ([bgV (gb 0) n (bg 0), bgV (gb 1) n (bg 1)].set k (bgV g n (some h)))) =
      lq n w m fa sa ba wa fb f st (fup gb k g) (fup bg k (some h)) lv wb ws := by
  rcases (by omega : k = 0 ∨ k = 1) with rfl | rfl <;> rfl
theorem lq_setBg {k : Nat} (hk : k < 2) (h h' : Nat → Nat) (hb : bg k = some h') :
    (lq n w m fa sa ba wa fb f st gb bg lv wb ws).set (8 + k) (bgO (gb k) n (some h)) = lq n w m fa sa ba wa fb f st gb (fup bg k (some h)) lv wb ws := by
  rcases (by omega : k = 0 ∨ k = 1) with rfl | rfl <;> simp [lq, fup, bgV, hb]
theorem lq_offBg {k : Nat} (hk : k < 2) :
    ((lq n w m fa sa ba wa fb f st gb bg lv wb ws).set 4 (SlK 80 1 (.slice (some ⟨ba, 0, none⟩) 2 2) 2 ([bgV (gb 0) n (bg 0), bgV (gb 1) n (bg 1)].set k (.slice none 0 0)))).set (8 + k) NoK =
      lq n w m fa sa ba wa fb f st gb (fup bg k none) lv wb ws := by
  rcases (by omega : k = 0 ∨ k = 1) with rfl | rfl <;> rfl
theorem lq_newFr {i : Nat} (b : Nat) (x : Option FrQ) :
    ((lq n w m fa sa ba wa fb f st gb bg lv wb ws).set (10 + i) (frO i b x)).set 2 (SlK 85 1 (.slice (some ⟨fa, 0, none⟩) n n) n (((List.range n).map fun i => frV (fb i) (f i)).set i (frV b x))) =
      lq n w m fa sa ba wa (fup fb i b) (fup f i x) st gb bg lv wb ws := by
  have e1 : (fun j => frV (fup fb i b j) (fup f i x j)) = fup (fun j => frV (fb j) (f j)) i (frV b x) := by funext j; unfold fup; split <;> rfl
  have e2 : (fun j => frO j (fup fb i b j) (fup f i x j)) = fup (fun j => frO j (fb j) (f j)) i (frO i b x) := by
    funext j; unfold fup; split
    · subst j; rfl
    · rfl
  unfold lq
  rw [e1, e2, rangeSet, ← rangeSet n i (fun j => frO j (fb j) (f j)), List.set_append_right _ _ (by simp)]
  simp
theorem lq_setFr {i : Nat} (x : Option FrQ) (hx : frV (fb i) x = frV (fb i) (f i)) :
    (lq n w m fa sa ba wa fb f st gb bg lv wb ws).set (10 + i) (frO i (fb i) x) = lq n w m fa sa ba wa fb (fup f i x) st gb bg lv wb ws := by
  have e1 : (fun j => frV (fb j) (fup f i x j)) = fun j => frV (fb j) (f j) := by
    funext j; unfold fup; split
    · subst j; exact hx
    · rfl
  have e2 : (fun j => frO j (fb j) (fup f i x j)) = fup (fun j => frO j (fb j) (f j)) i (frO i (fb i) x) := by
    funext j; unfold fup; split
    · subst j; rfl
    · rfl
  unfold lq
  rw [e1, e2, ← rangeSet n i (fun j => frO j (fb j) (f j)), List.set_append_right _ _ (by simp)]
  simp
theorem lq_offFr {i : Nat} :
    ((lq n w m fa sa ba wa fb f st gb bg lv wb ws).set 2 (SlK 85 1 (.slice (some ⟨fa, 0, none⟩) n n) n (((List.range n).map fun i => frV (fb i) (f i)).set i .nilIface))).set (10 + i) NoK =
      lq n w m fa sa ba wa fb (fup f i none) st gb bg lv wb ws := by
  have := lq_newFr (n := n) (w := w) (m := m) (fa := fa) (sa := sa) (ba := ba) (wa := wa) (fb := fb) (f := f) (st := st) (gb := gb) (bg := bg) (lv := lv) (wb := wb) (ws := ws) (i := i) (fb i) none
  rw [show fup fb i (fb i) = fb by funext j; unfold fup; split <;> simp_all] at this
  rw [← this, List.set_comm _ _ (by omega)]
  rfl
theorem natsL_set {i : Nat} (h : Nat → Nat) (v : Nat) : (natsL n h).set i (v : Int) = natsL n (fup h i v) := by
  unfold natsL
  rw [rangeSet]
  congr 1
  funext j; unfold fup; split <;> rfl
theorem natsL_get {i : Nat} (hi : i < n) (h : Nat → Nat) : (natsL n h).getD i 0 = h i := by simp [natsL, hi]
theorem natsL_len (h : Nat → Nat) : (natsL n h).length = n := by simp [natsL]
theorem lq_setSt {i : Nat} (v : Nat) :
    (lq n w m fa sa ba wa fb f st gb bg lv wb ws).set 3 (SlK 3 1 (.slice (some ⟨sa, 0, none⟩) n n) n (((natsL n st).set i (v : Int)).map (Value.int .i64))) = lq n w m fa sa ba wa fb f (fup st i v) gb bg lv wb ws := by
  rw [natsL_set]; rfl
theorem natsL_congr {a b : Nat → Nat} (h : ∀ i, i < n → a i = b i) : natsL n a = natsL n b := by
  unfold natsL
  apply List.map_congr_left
  intro i hi
  rw [h i (List.mem_range.1 hi)]
theorem lq_bgCongr {k : Nat} (hk : k < 2) {a b : Nat → Nat} (h : ∀ i, i < n → a i = b i) :
    lq n w m fa sa ba wa fb f st gb (fup bg k (some a)) lv wb ws = lq n w m fa sa ba wa fb f st gb (fup bg k (some b)) lv wb ws := by
  have e : ∀ g, bgO g n (some a) = bgO g n (some b) := fun g => by simp only [bgO, natsL_congr h]
  rcases (by omega : k = 0 ∨ k = 1) with rfl | rfl <;> simp [lq, fup, bgV, e]
theorem fup_twice {α : Type} (f : Nat → α) (k : Nat) (x y : α) : fup (fup f k x) k y = fup f k y := by funext j; unfold fup; split <;> rfl
/-- A new wait in the place of an ended one. -/
theorem R.lqNewWait {wr : World} {k b : Nat} {s : WaitS} (hk : k < 2) (hl : lv k = true) (h : R (lq n w m fa sa ba wa fb f st gb bg lv wb ws ++ [WaitK b s]) wr) :
    R (lq n w m fa sa ba wa fb f st gb (fup bg k none) lv (fup wb k b) (fup ws k s)) ((wr.setCell ⟨wa, k, none⟩ (.iface 82 (.pointer (some ⟨b, 0, none⟩)))).setCell ⟨ba, k, none⟩ (.slice none 0 0)) := by
  have hA := (R.moveSt (u := 5 + k) h (by rw [lq_len]; omega)).putRow (t := 7) (g := wa) (cap := 2) (set_other rfl (by omega)) k (wtV b true) (by decide)
  have hA2 : R (lq n w m fa sa ba wa fb f st gb bg lv (fup wb k b) (fup ws k s)) (wr.setCell ⟨wa, k, none⟩ (.iface 82 (.pointer (some ⟨b, 0, none⟩)))) := by
    rw [← lq_newWait hk b s hl]; exact hA
  have hB := (hA2.putRow (t := 4) (g := ba) (cap := 2) rfl k (.slice none 0 0) (by decide)).drop (8 + k)
  rw [← lq_offBg hk]
  exact hB
theorem R.lqOffWait {wr : World} {k : Nat} (hk : k < 2) (h : R (lq n w m fa sa ba wa fb f st gb bg lv wb ws) wr) :
    R (lq n w m fa sa ba wa fb f st gb bg (fup lv k false) wb ws) (wr.setCell ⟨wa, k, none⟩ .nilIface) := by
  have hB := h.putRow (t := 7) (g := wa) (cap := 2) rfl k .nilIface (by decide)
  rw [← lq_offWait hk]
  exact hB
/-- A new frame. -/
theorem R.lqNewFr {wr : World} {i b : Nat} {cs : Array Value} {T : TypeId} (x : FrQ) (hi : i < n) (hx : frO i b (some x) = StK b cs T) (h : R (lq n w m fa sa ba wa fb f st gb bg lv wb ws ++ [StK b cs T]) wr) :
    R (lq n w m fa sa ba wa (fup fb i b) (fup f i (some x)) st gb bg lv wb ws) (wr.setCell ⟨fa, i, none⟩ (frV b (some x))) := by
  have hA := (R.moveSt (u := 10 + i) h (by rw [lq_len]; omega)).putRow (t := 2) (g := fa) (cap := n) (set_other rfl (by omega)) i (frV b (some x)) (by omega)
  rw [← lq_newFr b (some x), hx]
  exact hA
/-- A frame that has ended. -/
theorem R.lqOffFr {wr : World} {i : Nat} (hi : i < n) (h : R (lq n w m fa sa ba wa fb f st gb bg lv wb ws) wr) :
    R (lq n w m fa sa ba wa fb (fup f i none) st gb bg lv wb ws) (wr.setCell ⟨fa, i, none⟩ .nilIface) := by
  have hB := (h.putRow (t := 2) (g := fa) (cap := n) rfl i .nilIface (by omega)).drop (10 + i)
  rw [← lq_offFr]
  exact hB
theorem R.lqPutSt {wr : World} {i : Nat} (hi : i < n) (v : Nat) (h : R (lq n w m fa sa ba wa fb f st gb bg lv wb ws) wr) :
    R (lq n w m fa sa ba wa fb f (fup st i v) gb bg lv wb ws) (wr.setCell ⟨sa, i, none⟩ (.int .i64 v)) := by
  have hB := h.putInt (t := 3) (g := sa) (cap := n) (n := n) (T := 3) (q := .i64) (xs := natsL n st) rfl i v (by omega)
  rw [← lq_setSt]
  exact hB
/-- What the walk reads of the rows. -/
theorem R.lqFr {wr : World} (h : R (lq n w m fa sa ba wa fb f st gb bg lv wb ws) wr) {i : Nat} (hi : i < n) : ∃ cur, blk wr fa = some (.cells cur 85 (0, 0)) ∧ cur[i]? = some (frV (fb i) (f i)) := by
  obtain ⟨g, cap, cur, hv, hg, _, _, hc⟩ := h.slRow (t := 2) rfl (by omega)
  simp at hv
  obtain ⟨rfl, rfl⟩ := hv
  exact ⟨cur, hg, hc i _ (by simp [hi])⟩
theorem R.lqSt {wr : World} (h : R (lq n w m fa sa ba wa fb f st gb bg lv wb ws) wr) {i : Nat} (hi : i < n) : ∃ cur, blk wr sa = some (.cells cur 3 (0, 0)) ∧ cur[i]? = some (.int .i64 (st i)) := by
  obtain ⟨g, cap, cur, hv, hg, _, _, hc⟩ := h.intRow (t := 3) rfl hi
  rw [natsL_get hi] at hc
  simp at hv
  obtain ⟨rfl, rfl⟩ := hv
  exact ⟨cur, hg, hc⟩
theorem R.lqWt {wr : World} (h : R (lq n w m fa sa ba wa fb f st gb bg lv wb ws) wr) {k : Nat} (hk : k < 2) : ∃ cur, blk wr wa = some (.cells cur 85 (0, 0)) ∧ cur[k]? = some (wtV (wb k) (lv k)) := by
  obtain ⟨g, cap, cur, hv, hg, _, _, hc⟩ := h.slRow (t := 7) rfl (by omega)
  simp at hv
  obtain ⟨rfl, rfl⟩ := hv
  exact ⟨cur, hg, hc k _ (by rcases (by omega : k = 0 ∨ k = 1) with rfl | rfl <;> rfl)⟩
theorem R.lqBv {wr : World} (h : R (lq n w m fa sa ba wa fb f st gb bg lv wb ws) wr) {k : Nat} (hk : k < 2) : ∃ cur, blk wr ba = some (.cells cur 80 (0, 0)) ∧ cur[k]? = some (bgV (gb k) n (bg k)) := by
  obtain ⟨g, cap, cur, hv, hg, _, _, hc⟩ := h.slRow (t := 4) rfl (by omega)
  simp at hv
  obtain ⟨rfl, rfl⟩ := hv
  exact ⟨cur, hg, hc k _ (by rcases (by omega : k = 0 ∨ k = 1) with rfl | rfl <;> rfl)⟩
theorem R.lqBg {wr : World} (h : R (lq n w m fa sa ba wa fb f st gb bg lv wb ws) wr) {k i : Nat} (hk : k < 2) (hi : i < n) {g : Nat → Nat} (hb : bg k = some g) : ∃ cur, blk wr (gb k) = some (.cells cur 3 (0, 0)) ∧ cur[i]? = some (.int .i64 (g i)) := by
  have ht := lq_bg (w := w) (m := m) (fa := fa) (sa := sa) (ba := ba) (wa := wa) (fb := fb) (f := f) (st := st) (gb := gb) (bg := bg) (lv := lv) (wb := wb) (ws := ws) (n := n) hk
  rw [hb] at ht
  obtain ⟨g, cap, cur, hv, hg, _, _, hc⟩ := h.intRow ht hi
  rw [natsL_get hi] at hc
  simp at hv
  obtain ⟨rfl, rfl⟩ := hv
  exact ⟨cur, hg, hc⟩
end
end Go.Proofs.Ytcoaemjoanbemaa
