/- Plain law of RetireWaits. No condition. -/
import Derived.Test.YtcoaemjoanbemaaLq06
import Derived.Test.YtcoaemjoanbemaaPl
import Derived.Test.YtcoaemjoanbemaaRv
namespace Go.Proofs.Ytcoaemjoanbemaa
open Go.RowKit

/-- What the workers keep. -/
structure WI (n B : Nat) (m : MemS) (f : Nat → Option FrQ) (st : Nat → Nat) : Prop where
  wk : m.workers = n
  small : n ≤ 4 ∧ 0 < n
  len : m.cells.length = n + 3
  locks : m.locks.length = 6
  per : 1 ≤ m.cells.getD 0 0 ∧ m.cells.getD 0 0 ≤ 1 + B
  cnt : ∀ i, i < n → 0 ≤ inCell m i ∧ inCell m i ≤ m.cells.getD 0 0
  fr : ∀ i, i < n → FrQOk m i (f i)
  stB : ∀ i, st i ≤ B

theorem inCell_same {m m' : MemS} (hc : m'.cells = m.cells) (i : Nat) : inCell m' i = inCell m i := by unfold inCell; rw [hc]
theorem FrQOk.same {m m' : MemS} (hc : m'.cells = m.cells) {i : Nat} {x : Option FrQ} (h : FrQOk m i x) : FrQOk m' i x := by
  revert h; unfold FrQOk inCell; rw [hc]; exact id
theorem Since.same {m m' : MemS} (hc : m'.cells = m.cells) {g st : Nat → Nat} {i : Nat} (h : Since m' g st i) : Since m g st i := by
  unfold Since at *; rw [inCell_same hc] at h; exact h
section
variable {n B : Nat} {m : MemS} {f : Nat → Option FrQ} {st : Nat → Nat} {bg : Option (Nat → Nat)} {d : DrainS}
theorem WI.same (h : WI n B m f st) {m' : MemS} (hc : m'.cells = m.cells) (hw : m'.workers = m.workers) (hl : m'.locks.length = m.locks.length) : WI n B m' f st := by
  refine ⟨hw.trans h.wk, h.small, by rw [hc]; exact h.len, hl.trans h.locks, by rw [hc]; exact h.per, fun i hi => ?_, fun i hi => (h.fr i hi).same hc, h.stB⟩
  rw [inCell_same hc, hc]; exact h.cnt i hi
theorem WI.more (h : WI n B m f st) : WI n (B + 1) m f st :=
  ⟨h.wk, h.small, h.len, h.locks, by have := h.per; omega, h.cnt, h.fr, fun i => by have := h.stB i; omega⟩
theorem WI.next (h : WI n B m f st) : WI n (B + 1) { m with cells := m.cells.set 0 (m.cells.getD 0 0 + 1) } f st := by
  have hper := h.per
  have hcnt := h.cnt
  have hlen := h.len
  generalize hP : m.cells.getD 0 0 = P at *
  have h00 : (m.cells.set 0 (P + 1)).getD 0 0 = P + 1 := by rw [getD_setI, if_pos (by omega)]
  have hin : ∀ i, inCell { m with cells := m.cells.set 0 (P + 1) } i = inCell m i := fun i => by unfold inCell; dsimp only; rw [getD_setI, if_neg (by omega)]
  refine ⟨h.wk, h.small, by simpa using hlen, h.locks, ?_, ?_, ?_, fun i => by have := h.stB i; omega⟩
  · dsimp only; rw [h00]; omega
  · intro i hi
    rw [hin]
    dsimp only
    rw [h00]
    have := hcnt i hi
    omega
  · intro i hi
    have := h.fr i hi
    revert this
    match f i with
    | none => exact fun _ => trivial
    | some (.come ld p) =>
      intro hf
      refine ⟨by rw [hin]; exact hf.1, hf.2.1, fun hl => ?_⟩
      have := hf.2.2 hl
      rw [hP] at this
      dsimp only
      rw [h00]
      omega
    | some .gone =>
      intro hf
      show inCell _ i ≠ 0
      rw [hin]; exact hf
theorem WI.frame (h : WI n B m f st) {i : Nat} (x : Option FrQ) (hx : FrQOk m i x) : WI n B m (fup f i x) st :=
  ⟨h.wk, h.small, h.len, h.locks, h.per, h.cnt, fun j hj => by
    by_cases hji : j = i
    · subst hji; rw [fup_same]; exact hx
    · rw [fup_other _ _ hji]; exact h.fr j hj, h.stB⟩

/-- What RetireWaits keeps. -/
structure DI (n B : Nat) (m : MemS) (f : Nat → Option FrQ) (st : Nat → Nat) (bg : Option (Nat → Nat)) (d : DrainS) : Prop where
  base : WI n B m f st
  ok : WaitOk m d.ws ∧ d.ws.worker = n
  lock : m.locks.getD 0 0 = if d.ws.at_ ≠ 0 ∧ d.past = false then (n : Int) else -1
  early : d.taken = false → d.left = [] ∧ d.ws.at_ = 0 ∧ d.past = false
  bg0 : bg = none ↔ d.taken = false
  bg1 : ∀ g, bg = some g → ∀ i, i < n → g i ≤ st i ∧ (Since m g st i → d.past = false ∧ d.ws.at_ ≠ 3 ∧ (d.ws.at_ = 2 → inCell m i < d.ws.period ∧ d.ws.next ≤ i))
  pool : Pool m.ss (m.waiting ++ d.left)
  fault : m.fault = false
  room : m.ss.length = 40
  gen : m.gen ≤ B

theorem Pool.le {ss : List Slot} {L : List Int} (h : Pool ss L) : L.length ≤ ss.length := by have := h.count; omega
theorem DI.inv (h : DI n B m f st bg d) (hB : B ≤ 200) : DrainInv m d := by
  have h1 := h.pool.le
  rw [h.room, List.length_append] at h1
  have := h.gen
  exact ⟨⟨h.ok.1, fun x hx => (h.pool.live x (List.mem_append.2 (.inr hx))).2, by omega, fun ht => (h.early ht).1⟩, by omega⟩
theorem DI.more (h : DI n B m f st bg d) : DI n (B + 1) m f st bg d :=
  ⟨h.base.more, h.ok, h.lock, h.early, h.bg0, h.bg1, h.pool, h.fault, h.room, by have := h.gen; omega⟩
theorem DI.frame (h : DI n B m f st bg d) {i : Nat} (x : Option FrQ) (hx : FrQOk m i x) : DI n B m (fup f i x) st bg d :=
  ⟨h.base.frame x hx, h.ok, h.lock, h.early, h.bg0, h.bg1, h.pool, h.fault, h.room, h.gen⟩
theorem DI.fresh (h : DI n B m f st bg d) (hl : d.left = []) (hp : d.past = true) (wb : Nat) : DI n B m f st none ⟨wb, [], ⟨n, 0, 0, 0⟩, false, false⟩ := by
  have hsm := h.base.small
  have hlk := h.lock
  have hpool := h.pool
  rw [hl] at hpool
  rw [if_neg (by rw [hp]; simp)] at hlk
  refine ⟨h.base, ⟨⟨?_, fun h => by simp at h, fun _ => rfl, ⟨?_, ?_⟩, ?_, ?_⟩, rfl⟩, ?_, fun _ => ⟨rfl, rfl, rfl⟩, by simp, fun g hg => (by cases hg), hpool, h.fault, h.room, h.gen⟩
  · show (0 : Nat) ≤ 3; decide
  · show (0 : Nat) ≤ 8; decide
  · show n ≤ 1000; omega
  · show (0 : Int) ≤ 0; decide
  · show (0 : Int) ≤ 18446744073709551615; decide
  · rw [hlk]; simp
theorem freeM_is {m : MemS} {x : Int} {i : Nat} (h : atA m.ss x = i) : freeM m x = { m with ss := m.ss.set i (freed (m.ss.getD i slot0)), gen := m.gen + 1 } := by
  unfold freeM
  rw [h, if_pos (by omega)]
  rfl
/-- A step of the drain. -/
theorem DI.drain (h : DI n B m f st bg d) (hB : B ≤ 200) (hr : drainReady m d = true) (g : Nat → Nat) (hg : bg = some g ∨ (bg = none ∧ g = snap m st)) :
    DI n (B + 1) (drainStep m d).1 f st (some g) (drainStep m d).2.1 ∧ ((drainStep m d).2.2 = true → (drainStep m d).2.1.left = [] ∧ (drainStep m d).2.1.past = true) ∧
      ((freeTo m.ss m.ss.length).length < (freeTo (drainStep m d).1.ss (drainStep m d).1.ss.length).length → ∀ i, i < n → ¬ Since (drainStep m d).1 g st i) := by
  obtain ⟨hok, hw⟩ := h.ok
  have hlk := h.lock
  have hper := h.base.per
  have hlocks := h.base.locks
  have hsmall := h.base.small
  have hgen := h.gen
  cases htk : d.taken
  · obtain ⟨e1, e2, e3⟩ := h.early htk
    have e : drainStep m d = ({ m with waiting := [] }, { d with left := m.waiting, taken := true }, false) := by rw [drainStep, if_neg (by rw [htk]; decide)]
    rw [e]
    have hgs : g = snap m st := by
      rcases hg with hg | hg
      · rw [h.bg0.2 htk] at hg; cases hg
      · exact hg.2
    have hpool := h.pool
    rw [e1, List.append_nil] at hpool
    refine ⟨⟨h.base.more.same rfl rfl rfl, ⟨⟨hok.at_, hok.next, hok.early, hok.small, hok.period⟩, hw⟩, hlk, fun h => by simp at h, by simp, ?_, hpool, h.fault, h.room, by dsimp only; omega⟩, fun h => by simp at h, fun h => absurd h (Nat.lt_irrefl _)⟩
    intro g2 hg2 i hi
    cases hg2
    refine ⟨?_, fun _ => ⟨e3, by dsimp only; omega, fun h => ?_⟩⟩
    · rw [hgs]; unfold snap; split <;> omega
    · dsimp only at h; omega
  · have hgk : bg = some g := by
      rcases hg with hg | hg
      · exact hg
      · rw [h.bg0.1 hg.1] at htk; cases htk
    have hbg1 := h.bg1 g hgk
    cases hps : d.past
    · have e : drainStep m d = ((waitStep m d.ws).1, { d with ws := (waitStep m d.ws).2.1, past := (waitStep m d.ws).2.2 }, (waitStep m d.ws).2.2 && decide (d.left = [])) := by
        rw [drainStep, if_pos htk, if_neg (by rw [hps]; decide)]
      rw [e]
      have hrw : waitReady m d.ws = true := by rw [drainReady, if_pos htk, if_neg (by rw [hps]; decide)] at hr; exact hr
      rw [hps] at hlk
      rcases (by have := hok.at_; omega : d.ws.at_ = 0 ∨ d.ws.at_ = 1 ∨ d.ws.at_ = 2 ∨ d.ws.at_ = 3) with h0 | h0 | h0 | h0
      · rw [if_neg (by rw [h0]; simp)] at hlk
        have e2 : waitStep m d.ws = ({ m with locks := m.locks.set 0 d.ws.worker }, { d.ws with at_ := 1 }, false) := by rw [waitStep, if_pos h0, if_pos hlk]
        rw [e2, hw]
        refine ⟨⟨h.base.more.same rfl rfl (by simp), ⟨⟨by show (1 : Nat) ≤ 3; decide, fun h => by simp at h, fun _ => hok.early (by omega), hok.small, hok.period⟩, hw⟩, ?_, fun h => by simp [htk] at h, by simp [htk], ?_, h.pool, h.fault, h.room, by dsimp only; omega⟩, fun h => by simp at h, fun h => absurd h (Nat.lt_irrefl _)⟩
        · dsimp only
          rw [getD_setI, if_pos (by omega)]
          simp
        · intro g2 hg2 i hi
          cases hg2
          exact ⟨(hbg1 i hi).1, fun _ => ⟨rfl, by simp, fun h => by simp at h⟩⟩
      · have hwr : IntKind.u64.wrap (m.cells.getD 0 0 + 1) = m.cells.getD 0 0 + 1 := by
          have := hper.1
          have := hper.2
          rw [show ∀ x : Int, IntKind.u64.wrap x = x % 18446744073709551616 from fun x => by rfl]
          omega
        have e2 : waitStep m d.ws = ({ m with cells := m.cells.set 0 (m.cells.getD 0 0 + 1) }, { d.ws with at_ := 2, period := m.cells.getD 0 0 + 1 }, false) := by rw [waitStep, if_neg (by omega), if_pos h0, hwr]
        rw [e2]
        have hcnt := h.base.cnt
        have hin : ∀ i, inCell { m with cells := m.cells.set 0 (m.cells.getD 0 0 + 1) } i = inCell m i := fun i => by unfold inCell; dsimp only; rw [getD_setI, if_neg (by omega)]
        refine ⟨⟨h.base.next, ⟨⟨by show (2 : Nat) ≤ 3; decide, fun _ => ?_, fun h => by simp at h, hok.small, by dsimp only; constructor <;> omega⟩, hw⟩, ?_, fun h => by simp [htk] at h, by simp [htk], ?_, h.pool, h.fault, h.room, by dsimp only; omega⟩, fun h => by simp at h, fun h => absurd h (Nat.lt_irrefl _)⟩
        · have := hok.early (by omega)
          show d.ws.next < m.workers
          rw [h.base.wk, this]
          exact hsmall.2
        · dsimp only
          rw [hlk, if_pos (by simp [h0]), if_pos (by simp)]
        · intro g2 hg2 i hi
          cases hg2
          refine ⟨(hbg1 i hi).1, fun hs => ⟨rfl, by simp, fun _ => ?_⟩⟩
          rw [hin]
          have := hcnt i hi
          have := hok.early (by omega)
          dsimp only
          omega
      · have hpass : waitPassed m d.ws = true := by rw [waitReady, if_neg (by omega), if_pos h0] at hrw; exact hrw
        have e2 : waitStep m d.ws = (m, { d.ws with next := d.ws.next + 1, at_ := if m.workers ≤ d.ws.next + 1 then 3 else 2 }, false) := by rw [waitStep, if_neg (by omega), if_neg (by omega), if_pos h0, hpass]; rfl
        rw [e2]
        have hnx := hok.next h0
        have hwk := h.base.wk
        refine ⟨⟨h.base.more, ⟨⟨?_, ?_, ?_, ?_, hok.period⟩, hw⟩, ?_, fun h => by simp [htk] at h, by simp [htk], ?_, h.pool, h.fault, h.room, by dsimp only; omega⟩, fun h => by simp at h, fun h => absurd h (Nat.lt_irrefl _)⟩
        · dsimp only; split <;> omega
        · dsimp only; split <;> omega
        · dsimp only; split <;> omega
        · dsimp only; have := hok.small; omega
        · dsimp only
          rw [hlk, if_pos (by simp [h0]), if_pos ⟨by split <;> omega, rfl⟩]
        · intro g2 hg2 i hi
          cases hg2
          obtain ⟨h1, h2⟩ := hbg1 i hi
          refine ⟨h1, fun hs => ⟨rfl, ?_⟩⟩
          obtain ⟨_, _, h3⟩ := h2 hs
          obtain ⟨h4, h5⟩ := h3 h0
          have hne : d.ws.next ≠ i := by
            intro he
            unfold waitPassed at hpass
            rw [he] at hpass
            have := hs.1
            simp [this] at hpass
            omega
          dsimp only
          split
          · omega
          · exact ⟨by decide, fun _ => ⟨h4, by omega⟩⟩
      · rw [if_pos (by simp [h0])] at hlk
        have e2 : waitStep m d.ws = ({ m with locks := m.locks.set 0 (-1) }, d.ws, true) := by rw [waitStep, if_neg (by omega), if_neg (by omega), if_neg (by omega), if_pos (by rw [hlk, hw])]
        rw [e2]
        refine ⟨⟨h.base.more.same rfl rfl (by simp), ⟨⟨hok.at_, hok.next, hok.early, hok.small, hok.period⟩, hw⟩, ?_, fun h => by simp [htk] at h, by simp [htk], ?_, h.pool, h.fault, h.room, by dsimp only; omega⟩, fun h => ?_, fun h => absurd h (Nat.lt_irrefl _)⟩
        · dsimp only
          rw [getD_setI, if_pos (by omega)]
          simp
        · intro g2 hg2 i hi
          cases hg2
          exact ⟨(hbg1 i hi).1, fun hs => absurd h0 ((hbg1 i hi).2 hs).2.1⟩
        · simp at h
          exact ⟨h, rfl⟩
    · have hno : ∀ i, i < n → ¬ Since m g st i := fun i hi hs => by
        have := ((hbg1 i hi).2 hs).1
        rw [hps] at this; cases this
      cases hlf : d.left with
      | nil =>
        have e : drainStep m d = (m, d, true) := by rw [drainStep, if_pos htk, if_pos hps, hlf]
        rw [e]
        refine ⟨⟨h.base.more, h.ok, h.lock, fun h => by simp [htk] at h, by simp [htk], fun g2 hg2 i hi => ?_, h.pool, h.fault, h.room, by dsimp only; omega⟩, fun _ => ⟨hlf, hps⟩, fun h => absurd h (Nat.lt_irrefl _)⟩
        cases hg2
        exact hbg1 i hi
      | cons x tl =>
        have e : drainStep m d = (freeM m x, { d with left := tl }, decide (tl = [])) := by rw [drainStep, if_pos htk, if_pos hps, hlf]
        have hpool := h.pool
        rw [hlf] at hpool
        have hp2 := hpool.perm (L' := x :: (m.waiting ++ tl)) List.perm_middle.symm
        obtain ⟨i, hi, hil, _⟩ := atA_lt m.ss x (hp2.live x List.mem_cons_self).1
        rw [e, freeM_is hi]
        refine ⟨⟨h.base.more.same rfl rfl rfl, ⟨⟨hok.at_, hok.next, hok.early, hok.small, hok.period⟩, hw⟩, hlk, fun h => by simp [htk] at h, by simp [htk], fun g2 hg2 j hj => ?_, hp2.free hi, h.fault, by simpa using h.room, by dsimp only; omega⟩, fun hd => ⟨of_decide_eq_true hd, hps⟩, fun _ j hj hs => hno j hj (hs.same rfl)⟩
        cases hg2
        exact ⟨(hbg1 j hj).1, fun hs => absurd (hs.same rfl) (hno j hj)⟩
/-- Another one comes to wait. -/
theorem DI.retire (h : DI n B m f st bg d) (hB : B ≤ 200) (hg : GenOk m.ss m.gen) {i : Nat} (hi : freeAt m.ss = some i) (nd : Nd) :
    DI n (B + 1) { m with ss := m.ss.set i (taken (m.ss.getD i slot0) nd), waiting := m.waiting ++ [hnd m.ss i] } f st bg d := by
  have hgen := h.gen
  have hroom := h.room
  have hp := h.pool.alloc (by omega) hg (by omega) hi nd
  refine ⟨h.base.more.same rfl rfl rfl, ⟨⟨h.ok.1.at_, h.ok.1.next, h.ok.1.early, h.ok.1.small, h.ok.1.period⟩, h.ok.2⟩, h.lock, h.early, h.bg0, fun g hgb j hj => ?_, ?_, h.fault, by simpa using hroom, by dsimp only; omega⟩
  · exact ⟨(h.bg1 g hgb j hj).1, fun hs => (h.bg1 g hgb j hj).2 (hs.same rfl)⟩
  · refine hp.perm ?_
    dsimp only
    rw [List.append_assoc]
    exact List.perm_middle
/-- A worker has come in. -/
theorem DI.come (h : DI n B m f st bg d) {i : Nat} (hi : i < n) {p : Int} (hf : f i = some (.come true p)) :
    DI n (B + 1) { m with cells := m.cells.set (2 + i) p } (fup f i none) (fup st i (st i + 1)) bg d ∧ p ≠ 0 := by
  have hlen := h.base.len
  obtain ⟨f1, f2, f3⟩ : inCell m i = 0 ∧ U64 p ∧ ((true : Bool) = true → 1 ≤ p ∧ p ≤ m.cells.getD 0 0) := by have := h.base.fr i hi; rw [hf] at this; exact this
  replace f3 := f3 rfl
  have h00 : (m.cells.set (2 + i) p).getD 0 0 = m.cells.getD 0 0 := by rw [getD_setI, if_neg (by omega)]
  have hin : ∀ j, inCell { m with cells := m.cells.set (2 + i) p } j = if j = i then p else inCell m j := fun j => by
    unfold inCell; dsimp only; rw [getD_setI]
    by_cases hji : j = i
    · subst hji; rw [if_pos (by omega), if_pos rfl]
    · rw [if_neg (by omega), if_neg hji]
  refine ⟨⟨⟨h.base.wk, h.base.small, by simpa using hlen, h.base.locks, ?_, ?_, ?_, ?_⟩, ⟨⟨h.ok.1.at_, h.ok.1.next, h.ok.1.early, h.ok.1.small, h.ok.1.period⟩, h.ok.2⟩, h.lock, h.early, h.bg0, ?_, h.pool, h.fault, h.room, by have := h.gen; dsimp only; omega⟩, by omega⟩
  · dsimp only; rw [h00]; have := h.base.per; omega
  · intro j hj
    rw [hin]
    dsimp only
    rw [h00]
    split
    · omega
    · exact h.base.cnt j hj
  · intro j hj
    by_cases hji : j = i
    · subst hji; rw [fup_same]; trivial
    · rw [fup_other _ _ hji]
      have := h.base.fr j hj
      revert this
      match f j with
      | none => exact fun _ => trivial
      | some (.come ld q) =>
        intro hf
        refine ⟨by rw [hin, if_neg hji]; exact hf.1, hf.2.1, fun hl => ?_⟩
        dsimp only
        rw [h00]
        exact hf.2.2 hl
      | some .gone =>
        intro hf
        show inCell _ j ≠ 0
        rw [hin, if_neg hji]; exact hf
  · intro j
    unfold fup
    have := h.base.stB j
    split
    · subst j; omega
    · omega
  · intro g hg v hv
    obtain ⟨h3, h4⟩ := h.bg1 g hg v hv
    by_cases hvi : v = i
    · subst hvi
      rw [fup_same]
      refine ⟨by omega, fun hs => ?_⟩
      have := hs.2.1
      rw [fup_same] at this
      omega
    · rw [fup_other _ _ hvi]
      refine ⟨h3, fun hs => ?_⟩
      have h5 : Since m g st v := ⟨by have := hs.1; rw [hin, if_neg hvi] at this; exact this, by have := hs.2; rw [fup_other _ _ hvi] at this; exact this⟩
      rw [hin, if_neg hvi]
      exact h4 h5
/-- A worker has gone out. -/
theorem DI.gone (h : DI n B m f st bg d) {i : Nat} (hi : i < n) : DI n B { m with cells := m.cells.set (2 + i) 0 } (fup f i none) st bg d := by
  have hlen := h.base.len
  have h00 : (m.cells.set (2 + i) 0).getD 0 0 = m.cells.getD 0 0 := by rw [getD_setI, if_neg (by omega)]
  have hin : ∀ j, inCell { m with cells := m.cells.set (2 + i) 0 } j = if j = i then 0 else inCell m j := fun j => by
    unfold inCell; dsimp only; rw [getD_setI]
    by_cases hji : j = i
    · subst hji; rw [if_pos (by omega), if_pos rfl]
    · rw [if_neg (by omega), if_neg hji]
  refine ⟨⟨h.base.wk, h.base.small, by simpa using hlen, h.base.locks, ?_, ?_, ?_, h.base.stB⟩, ⟨⟨h.ok.1.at_, h.ok.1.next, h.ok.1.early, h.ok.1.small, h.ok.1.period⟩, h.ok.2⟩, h.lock, h.early, h.bg0, ?_, h.pool, h.fault, h.room, h.gen⟩
  · dsimp only; rw [h00]; exact h.base.per
  · intro j hj
    rw [hin]
    dsimp only
    rw [h00]
    have := h.base.per
    split
    · omega
    · exact h.base.cnt j hj
  · intro j hj
    by_cases hji : j = i
    · subst hji; rw [fup_same]; trivial
    · rw [fup_other _ _ hji]
      have := h.base.fr j hj
      revert this
      match f j with
      | none => exact fun _ => trivial
      | some (.come ld q) =>
        intro hf
        refine ⟨by rw [hin, if_neg hji]; exact hf.1, hf.2.1, fun hl => ?_⟩
        dsimp only
        rw [h00]
        exact hf.2.2 hl
      | some .gone =>
        intro hf
        show inCell _ j ≠ 0
        rw [hin, if_neg hji]; exact hf
  · intro g hg v hv
    obtain ⟨h3, h4⟩ := h.bg1 g hg v hv
    refine ⟨h3, fun hs => ?_⟩
    by_cases hvi : v = i
    · subst hvi
      have := hs.1
      rw [hin, if_pos rfl] at this
      exact absurd rfl this
    · have h5 : Since m g st v := ⟨by have := hs.1; rw [hin, if_neg hvi] at this; exact this, hs.2⟩
      rw [hin, if_neg hvi]
      exact h4 h5
end

/-- The end: all are out. -/
structure DF (n : Nat) (m : MemS) (d : DrainS) : Prop where
  wk : m.workers = n
  small : n ≤ 4 ∧ 0 < n
  locks : m.locks.length = 6
  zero : ∀ i, i < n → inCell m i = 0
  ok : WaitOk m d.ws ∧ d.ws.worker = n
  lock : m.locks.getD 0 0 = if d.ws.at_ ≠ 0 ∧ d.past = false then (n : Int) else -1
  early : d.taken = false → d.left = [] ∧ d.ws.at_ = 0 ∧ d.past = false
  pool : Pool m.ss (m.waiting ++ d.left)
  fault : m.fault = false
  room : m.ss.length = 40
  gen : m.gen + (m.waiting ++ d.left).length ≤ 1000000
def muD (n : Nat) (d : DrainS) : Nat := if d.past = true then max 1 d.left.length else rem6 n d.ws + d.left.length
section
variable {n : Nat} {m : MemS} {d : DrainS}
theorem DI.out {B : Nat} {f : Nat → Option FrQ} {st : Nat → Nat} {bg : Option (Nat → Nat)} (h : DI n B m f st bg d) (hB : B ≤ 200) (hz : ∀ i, i < n → inCell m i = 0) : DF n m d :=
  ⟨h.base.wk, h.base.small, h.base.locks, hz, h.ok, h.lock, h.early, h.pool, h.fault, h.room, by have := h.pool.le; have := h.room; have := h.gen; omega⟩
theorem DF.inv (h : DF n m d) : DrainInv m d := by
  have h1 := h.gen
  rw [List.length_append] at h1
  exact ⟨⟨h.ok.1, fun x hx => (h.pool.live x (List.mem_append.2 (.inr hx))).2, by omega, fun ht => (h.early ht).1⟩, by omega⟩
theorem DF.fresh (h : DF n m d) (hl : d.left = []) (hp : d.past = true) (wb : Nat) : DF n m ⟨wb, [], ⟨n, 0, 0, 0⟩, false, false⟩ := by
  have hsm := h.small
  have hlk := h.lock
  have hpool := h.pool
  have hgen := h.gen
  rw [hl] at hpool hgen
  rw [if_neg (by rw [hp]; simp)] at hlk
  refine ⟨h.wk, h.small, h.locks, h.zero, ⟨⟨?_, fun h => by simp at h, fun _ => rfl, ⟨?_, ?_⟩, ?_, ?_⟩, rfl⟩, ?_, fun _ => ⟨rfl, rfl, rfl⟩, hpool, h.fault, h.room, hgen⟩
  · show (0 : Nat) ≤ 3; decide
  · show (0 : Nat) ≤ 8; decide
  · show n ≤ 1000; omega
  · show (0 : Int) ≤ 0; decide
  · show (0 : Int) ≤ 18446744073709551615; decide
  · rw [hlk]; simp
theorem muD_pos (n : Nat) (d : DrainS) : 0 < muD n d := by
  unfold muD
  have := rem6_pos (n := n) d.ws
  split <;> omega
theorem muD_le (h : DF n m d) : muD n d ≤ 60 := by
  have h1 := h.pool.le
  have h2 := h.room
  have h3 := h.small
  rw [List.length_append] at h1
  have : rem6 n d.ws ≤ 10 := by unfold rem6; split <;> (try split) <;> (try split) <;> omega
  unfold muD
  split <;> omega
theorem DF.step (h : DF n m d) (htk : d.taken = true) :
    drainReady m d = true ∧ DF n (drainStep m d).1 (drainStep m d).2.1 ∧ (drainStep m d).2.1.taken = true ∧ (drainStep m d).1.waiting = m.waiting ∧ (drainStep m d).1.b = m.b ∧
      ((drainStep m d).2.2 = true → (drainStep m d).2.1.left = [] ∧ (drainStep m d).2.1.past = true) ∧ ((drainStep m d).2.2 = false → muD n (drainStep m d).2.1 < muD n d) := by
  obtain ⟨hok, hw⟩ := h.ok
  have hlk := h.lock
  have hlocks := h.locks
  have hsmall := h.small
  have hgen := h.gen
  have hwk := h.wk
  cases hps : d.past
  · have e : drainStep m d = ((waitStep m d.ws).1, { d with ws := (waitStep m d.ws).2.1, past := (waitStep m d.ws).2.2 }, (waitStep m d.ws).2.2 && decide (d.left = [])) := by
      rw [drainStep, if_pos htk, if_neg (by rw [hps]; decide)]
    have er : drainReady m d = waitReady m d.ws := by rw [drainReady, if_pos htk, if_neg (by rw [hps]; decide)]
    have emu : muD n d = rem6 n d.ws + d.left.length := by rw [muD, if_neg (by rw [hps]; decide)]
    rw [e, er, emu]
    rw [hps] at hlk
    rcases (by have := hok.at_; omega : d.ws.at_ = 0 ∨ d.ws.at_ = 1 ∨ d.ws.at_ = 2 ∨ d.ws.at_ = 3) with h0 | h0 | h0 | h0
    · rw [if_neg (by rw [h0]; simp)] at hlk
      have e2 : waitStep m d.ws = ({ m with locks := m.locks.set 0 d.ws.worker }, { d.ws with at_ := 1 }, false) := by rw [waitStep, if_pos h0, if_pos hlk]
      rw [e2, hw]
      refine ⟨?_, ⟨h.wk, h.small, by simpa using hlocks, h.zero, ⟨⟨by show (1 : Nat) ≤ 3; decide, fun h => by simp at h, fun _ => hok.early (by omega), hok.small, hok.period⟩, hw⟩, ?_, fun h => by simp [htk] at h, h.pool, h.fault, h.room, hgen⟩, htk, rfl, rfl, fun h => by simp at h, fun _ => ?_⟩
      · rw [waitReady, if_pos h0, hlk]; decide
      · dsimp only
        rw [getD_setI, if_pos (by omega)]
        simp
      · simp [muD, rem6, h0]
    · have e2 : waitStep m d.ws = ({ m with cells := m.cells.set 0 (IntKind.u64.wrap (m.cells.getD 0 0 + 1)) }, { d.ws with at_ := 2, period := IntKind.u64.wrap (m.cells.getD 0 0 + 1) }, false) := by rw [waitStep, if_neg (by omega), if_pos h0]
      rw [e2]
      have hwv := u64_wrap (m.cells.getD 0 0 + 1)
      generalize IntKind.u64.wrap (m.cells.getD 0 0 + 1) = V at *
      have hin : ∀ i, inCell { m with cells := m.cells.set 0 V } i = inCell m i := fun i => by unfold inCell; dsimp only; rw [getD_setI, if_neg (by omega)]
      have hear := hok.early (by omega)
      refine ⟨?_, ⟨h.wk, h.small, hlocks, fun i hi => by rw [hin]; exact h.zero i hi, ⟨⟨by show (2 : Nat) ≤ 3; decide, fun _ => by show d.ws.next < m.workers; omega, fun h => by simp at h, hok.small, hwv⟩, hw⟩, ?_, fun h => by simp [htk] at h, h.pool, h.fault, h.room, hgen⟩, htk, rfl, rfl, fun h => by simp at h, fun _ => ?_⟩
      · rw [waitReady, if_neg (by omega), if_neg (by omega)]
      · dsimp only
        rw [hlk, if_pos (by simp [h0]), if_pos (by simp)]
      · simp [muD, rem6, h0]; omega
    · have hpass : waitPassed m d.ws = true := by
        have := h.zero _ (by have := hok.next h0; rw [hwk] at this; exact this)
        unfold waitPassed
        simp [this]
      have e2 : waitStep m d.ws = (m, { d.ws with next := d.ws.next + 1, at_ := if m.workers ≤ d.ws.next + 1 then 3 else 2 }, false) := by rw [waitStep, if_neg (by omega), if_neg (by omega), if_pos h0, hpass]; rfl
      rw [e2]
      have hnx := hok.next h0
      refine ⟨?_, ⟨h.wk, h.small, hlocks, h.zero, ⟨⟨?_, ?_, ?_, ?_, hok.period⟩, hw⟩, ?_, fun h => by simp [htk] at h, h.pool, h.fault, h.room, hgen⟩, htk, rfl, rfl, fun h => by simp at h, fun _ => ?_⟩
      · rw [waitReady, if_neg (by omega), if_pos h0]; exact hpass
      · dsimp only; split <;> omega
      · dsimp only; split <;> omega
      · dsimp only; split <;> omega
      · dsimp only; have := hok.small; omega
      · dsimp only
        rw [hlk, if_pos (by simp [h0]), if_pos ⟨by split <;> omega, rfl⟩]
      · by_cases hle : m.workers ≤ d.ws.next + 1
        · simp [muD, rem6, h0, hle]
          omega
        · simp [muD, rem6, h0, hle]
          omega
    · rw [if_pos (by simp [h0])] at hlk
      have e2 : waitStep m d.ws = ({ m with locks := m.locks.set 0 (-1) }, d.ws, true) := by rw [waitStep, if_neg (by omega), if_neg (by omega), if_neg (by omega), if_pos (by rw [hlk, hw])]
      rw [e2]
      refine ⟨?_, ⟨h.wk, h.small, by simpa using hlocks, h.zero, ⟨⟨hok.at_, hok.next, hok.early, hok.small, hok.period⟩, hw⟩, ?_, fun h => by simp [htk] at h, h.pool, h.fault, h.room, hgen⟩, htk, rfl, rfl, fun hd => ?_, fun hd => ?_⟩
      · rw [waitReady, if_neg (by omega), if_neg (by omega)]
      · dsimp only
        rw [getD_setI, if_pos (by omega)]
        simp
      · simp at hd
        exact ⟨hd, rfl⟩
      · simp at hd
        have : 0 < d.left.length := List.length_pos_iff.2 hd
        simp [muD, rem6, h0]
        omega
  · have emu : muD n d = max 1 d.left.length := by rw [muD, if_pos hps]
    have er : drainReady m d = true := by rw [drainReady, if_pos htk, if_pos hps]
    rw [er, emu]
    cases hlf : d.left with
    | nil =>
      have e : drainStep m d = (m, d, true) := by rw [drainStep, if_pos htk, if_pos hps, hlf]
      rw [e]
      exact ⟨rfl, h, htk, rfl, rfl, fun _ => ⟨hlf, hps⟩, fun h => by simp at h⟩
    | cons x tl =>
      have e : drainStep m d = (freeM m x, { d with left := tl }, decide (tl = [])) := by rw [drainStep, if_pos htk, if_pos hps, hlf]
      have hpool := h.pool
      rw [hlf] at hpool hgen
      have hp2 := hpool.perm (L' := x :: (m.waiting ++ tl)) List.perm_middle.symm
      obtain ⟨i, hi, hil, _⟩ := atA_lt m.ss x (hp2.live x List.mem_cons_self).1
      rw [e, freeM_is hi]
      refine ⟨rfl, ⟨h.wk, h.small, hlocks, h.zero, ⟨⟨hok.at_, hok.next, hok.early, hok.small, hok.period⟩, hw⟩, hlk, fun h => by simp [htk] at h, hp2.free hi, h.fault, by simpa using h.room, ?_⟩, htk, rfl, rfl, fun hd => ⟨of_decide_eq_true hd, hps⟩, fun hd => ?_⟩
      · rw [List.length_append, List.length_cons] at hgen
        dsimp only
        rw [List.length_append]
        omega
      · have hd := of_decide_eq_false hd
        have : 0 < tl.length := List.length_pos_iff.2 hd
        rw [muD, if_pos hps, List.length_cons]
        dsimp only
        omega
theorem finM_drain : ∀ (k c : Nat) (m : MemS) (d : DrainS), DF n m d → d.taken = true → muD n d ≤ k →
    ∃ c' m' d', finM (frReady drainReady) (frStep drainStep) k c (m, d) = (c', true, m', d') ∧ DF n m' d' ∧ d'.left = [] ∧ d'.past = true ∧ m'.waiting = m.waiting ∧ m'.b = m.b ∧ c' ≤ c + k := by
  intro k
  induction k with
  | zero =>
    intro c m d h ht hk
    have := muD_pos n d
    omega
  | succ k ih =>
    intro c m d h ht hk
    obtain ⟨h1, h2, h3, h4, h5, h6, h7⟩ := h.step ht
    rw [finM, if_pos (show frReady drainReady (m, d) = true from h1)]
    cases hd : (drainStep m d).2.2
    · rw [if_neg (by show ¬ (drainStep m d).2.2 = true; rw [hd]; decide)]
      obtain ⟨c', m', d', e, g1, g2, g3, g4, g5, g6⟩ := ih (c + 1) _ _ h2 h3 (by have := h7 hd; omega)
      exact ⟨c', m', d', e, g1, g2, g3, g4.trans h4, g5.trans h5, by omega⟩
    · rw [if_pos (show (frStep drainStep (m, d)).2 = true from hd)]
      obtain ⟨g1, g2⟩ := h6 hd
      exact ⟨_, _, _, rfl, h2, g1, g2, h4, h5, by omega⟩
/-- What a Finish of the drain comes to, where all are out. -/
theorem fin_drain (h : DF n m d) :
    (∃ c m' d', finM (frReady drainReady) (frStep drainStep) 200 0 (m, d) = (c, true, m', d') ∧ (∀ wb, DF n m' ⟨wb, [], ⟨n, 0, 0, 0⟩, false, false⟩) ∧ (d.taken = false → m'.waiting = []) ∧ m'.b = m.b) ∨
      (finM (frReady drainReady) (frStep drainStep) 200 0 (m, d) = (0, false, m, d) ∧ d.taken = false ∧ m.waiting = []) := by
  cases ht : d.taken
  · obtain ⟨e1, e2, e3⟩ := h.early ht
    cases hwt : m.waiting with
    | nil =>
      refine .inr ⟨?_, rfl, rfl⟩
      rw [finM, if_neg]
      show ¬ drainReady m d = true
      rw [drainReady, if_neg (by rw [ht]; decide), hwt]
      decide
    | cons x xs =>
      have er : drainReady m d = true := by
        rw [drainReady, if_neg (by rw [ht]; decide), hwt]
        simp
      have e : drainStep m d = ({ m with waiting := [] }, { d with left := m.waiting, taken := true }, false) := by rw [drainStep, if_neg (by rw [ht]; decide)]
      have hpool := h.pool
      have hgen := h.gen
      rw [e1, List.append_nil] at hpool hgen
      have h2 : DF n { m with waiting := [] } { d with left := m.waiting, taken := true } :=
        ⟨h.wk, h.small, h.locks, h.zero, ⟨⟨h.ok.1.at_, h.ok.1.next, h.ok.1.early, h.ok.1.small, h.ok.1.period⟩, h.ok.2⟩, h.lock, fun h => by simp at h, hpool, h.fault, h.room, hgen⟩
      obtain ⟨c', m', d', e', g1, g2, g3, g4, g5, g6⟩ := finM_drain 199 1 _ _ h2 rfl (by have := muD_le h2; omega)
      refine .inl ⟨c', m', d', ?_, fun wb => g1.fresh g2 g3 wb, fun _ => g4, g5⟩
      rw [finM, if_pos (show frReady drainReady (m, d) = true from er), if_neg (by show ¬ (drainStep m d).2.2 = true; rw [e]; exact Bool.false_ne_true)]
      show finM _ _ 199 1 ((drainStep m d).1, (drainStep m d).2.1) = _
      rw [e]
      exact e'
  · obtain ⟨c', m', d', e', g1, g2, g3, g4, g5, g6⟩ := finM_drain 200 0 m d h ht (by have := muD_le h; omega)
    exact .inl ⟨c', m', d', e', fun wb => g1.fresh g2 g3 wb, fun h => (by cases h), g5⟩
end
end Go.Proofs.Ytcoaemjoanbemaa
