/- Plain law of QsbrWaits. No condition. -/
import Derived.Test.YtcoaemjoanbemaaQu
namespace Go.Proofs.Ytcoaemjoanbemaa
open Go.RowKit

inductive FrQ where
  | come (loaded : Bool) (period : Int)
  | gone
def fup {α : Type} (f : Nat → α) (k : Nat) (x : α) : Nat → α := fun j => if j = k then x else f j
theorem fup_same {α : Type} (f : Nat → α) (k : Nat) (x : α) : fup f k x k = x := if_pos rfl
theorem fup_other {α : Type} (f : Nat → α) {k j : Nat} (x : α) (h : j ≠ k) : fup f k x j = f j := if_neg h
def FrQOk (m : MemS) (i : Nat) : Option FrQ → Prop
  | none => True
  | some (.come ld p) => inCell m i = 0 ∧ U64 p ∧ (ld = true → 1 ≤ p ∧ p ≤ m.cells.getD 0 0)
  | some .gone => inCell m i ≠ 0
/-- In since. -/
def Since (m : MemS) (g st : Nat → Nat) (i : Nat) : Prop := inCell m i ≠ 0 ∧ g i = st i ∧ 0 < st i
def snap (m : MemS) (st : Nat → Nat) : Nat → Nat := fun i => if inCell m i ≠ 0 then st i else 0

/-- What QsbrWaits keeps. -/
structure QI (n B : Nat) (m : MemS) (f : Nat → Option FrQ) (st : Nat → Nat) (bg : Nat → Option (Nat → Nat)) (ws : Nat → WaitS) : Prop where
  wk : m.workers = n
  small : n ≤ 8 ∧ 0 < n
  len : m.cells.length = n + 3
  locks : m.locks.length = 6
  per : 1 ≤ m.cells.getD 0 0 ∧ m.cells.getD 0 0 ≤ 1 + B
  cnt : ∀ i, i < n → 0 ≤ inCell m i ∧ inCell m i ≤ m.cells.getD 0 0
  low : ∀ i, i < 2 → inCell m i = 0
  fr : ∀ i, i < n → FrQOk m i (f i)
  stB : ∀ i, st i ≤ B
  ok : ∀ k, k < 2 → WaitOk m (ws k) ∧ (ws k).worker = k
  lock : ∀ k : Nat, k < 2 → ((ws k).at_ ≠ 0 ↔ m.locks.getD 0 0 = k)
  lock3 : m.locks.getD 0 0 = -1 ∨ m.locks.getD 0 0 = 0 ∨ m.locks.getD 0 0 = 1
  bg0 : ∀ k, k < 2 → (bg k = none ↔ (ws k).at_ = 0)
  bg1 : ∀ k, k < 2 → ∀ g, bg k = some g → ∀ i, i < n → g i ≤ st i ∧ (Since m g st i → (ws k).at_ ≠ 3 ∧ ((ws k).at_ = 2 → inCell m i < (ws k).period ∧ (ws k).next ≤ i))

theorem getD_setI (xs : List Int) (i j : Nat) (v : Int) : (xs.set i v).getD j 0 = if i = j ∧ j < xs.length then v else xs.getD j 0 := by
  by_cases h : i = j
  · subst h
    by_cases hl : i < xs.length
    · simp [hl]
    · simp [hl]
  · simp [h, List.getElem?_set_ne h]

section
variable {n B : Nat} {m : MemS} {f : Nat → Option FrQ} {st : Nat → Nat} {bg : Nat → Option (Nat → Nat)} {ws : Nat → WaitS}

theorem two {k j : Nat} (hk : k < 2) (hj : j < 2) (h : j ≠ k) : k = 0 ∧ j = 1 ∨ k = 1 ∧ j = 0 := by omega

/-- A step of a wait, that does not end it or ends it. -/
theorem QI.wait (h : QI n B m f st bg ws) {k : Nat} (hk : k < 2) (hB : B ≤ 200) (hr : waitReady m (ws k) = true) (g : Nat → Nat) (hg : bg k = some g ∨ (bg k = none ∧ g = snap m st)) :
    ((waitStep m (ws k)).2.2 = false ∧ QI n (B + 1) (waitStep m (ws k)).1 f st (fup bg k (some g)) (fup ws k (waitStep m (ws k)).2.1)) ∨
    ((waitStep m (ws k)).2.2 = true ∧ (∀ i, i < n → ¬ Since (waitStep m (ws k)).1 g st i) ∧ QI n (B + 1) (waitStep m (ws k)).1 f st (fup bg k none) (fup ws k ⟨k, 0, 0, 0⟩)) := by
  obtain ⟨hok, hw⟩ := h.ok k hk
  have hlk := h.lock k hk
  have hl3 := h.lock3
  have hbg := h.bg0 k hk
  have hst := h.stB
  have hper := h.per
  have hlocks := h.locks
  rcases (by have := hok.at_; omega : (ws k).at_ = 0 ∨ (ws k).at_ = 1 ∨ (ws k).at_ = 2 ∨ (ws k).at_ = 3) with h0 | h0 | h0 | h0
  · have hf : m.locks.getD 0 0 = -1 := by
      rw [waitReady, if_pos h0] at hr
      have := of_decide_eq_true hr
      omega
    have e : waitStep m (ws k) = ({ m with locks := m.locks.set 0 (ws k).worker }, { ws k with at_ := 1 }, false) := by rw [waitStep, if_pos h0, if_pos hf]
    rw [e, hw]
    have hgs : g = snap m st := by
      rcases hg with hg | hg
      · rw [hbg.2 h0] at hg; cases hg
      · exact hg.2
    have hl0 : (m.locks.set 0 (k : Int)).getD 0 0 = k := by rw [getD_setI, if_pos (by omega)]
    refine .inl ⟨rfl, h.wk, h.small, h.len, by simpa using hlocks, by dsimp only; omega, h.cnt, h.low, h.fr, fun i => by have := hst i; omega, ?_, ?_, ?_, ?_, ?_⟩
    · intro j hj
      by_cases hjk : j = k
      · subst hjk
        rw [fup_same]
        exact ⟨⟨by show (1 : Nat) ≤ 3; decide, fun h => by simp at h, fun _ => hok.early (by omega), hok.small, hok.period⟩, hw⟩
      · rw [fup_other _ _ hjk]
        obtain ⟨a, b⟩ := h.ok j hj
        exact ⟨⟨a.at_, a.next, a.early, a.small, a.period⟩, b⟩
    · intro j hj
      dsimp only
      rw [hl0]
      by_cases hjk : j = k
      · subst hjk
        rw [fup_same]
        simp
      · rw [fup_other _ _ hjk]
        have := h.lock j hj
        have := two hk hj hjk
        omega
    · dsimp only
      rw [hl0]
      omega
    · intro j hj
      by_cases hjk : j = k
      · subst hjk
        rw [fup_same, fup_same]
        simp
      · rw [fup_other _ _ hjk, fup_other _ _ hjk]
        exact h.bg0 j hj
    · intro j hj g2 hg2 i hi
      by_cases hjk : j = k
      · subst hjk
        rw [fup_same] at hg2 ⊢
        cases hg2
        refine ⟨?_, fun _ => ⟨by simp, fun h => by simp at h⟩⟩
        rw [hgs]
        unfold snap
        split <;> omega
      · rw [fup_other _ _ hjk] at hg2 ⊢
        exact h.bg1 j hj g2 hg2 i hi
  · have hgk : bg k = some g := by
      rcases hg with hg | hg
      · exact hg
      · rw [hbg.1 hg.1] at h0; cases h0
    have hwr : IntKind.u64.wrap (m.cells.getD 0 0 + 1) = m.cells.getD 0 0 + 1 := by
      have := hper.1
      have := hper.2
      rw [show ∀ x : Int, IntKind.u64.wrap x = x % 18446744073709551616 from fun x => by rfl]
      omega
    have e : waitStep m (ws k) = ({ m with cells := m.cells.set 0 (m.cells.getD 0 0 + 1) }, { ws k with at_ := 2, period := m.cells.getD 0 0 + 1 }, false) := by rw [waitStep, if_neg (by omega), if_pos h0, hwr]
    rw [e]
    generalize hP : m.cells.getD 0 0 = P at *
    replace hper := h.per
    rw [hP] at hper
    have hlen := h.len
    have h00 : (m.cells.set 0 (P + 1)).getD 0 0 = P + 1 := by rw [getD_setI, if_pos (by omega)]
    have hin : ∀ i, inCell { m with cells := m.cells.set 0 (P + 1) } i = inCell m i := fun i => by unfold inCell; dsimp only; rw [getD_setI, if_neg (by omega)]
    have hcnt := h.cnt
    rw [hP] at hcnt
    have hsmall := h.small
    refine .inl ⟨rfl, h.wk, h.small, by simpa using hlen, hlocks, ?_, ?_, ?_, ?_, fun i => by have := hst i; omega, ?_, ?_, hl3, ?_, ?_⟩
    · dsimp only; rw [h00]; omega
    · intro i hi
      rw [hin]
      dsimp only
      rw [h00]
      have := hcnt i hi
      omega
    · intro i hi; rw [hin]; exact h.low i hi
    · intro i hi
      have := h.fr i hi
      revert this
      match f i with
      | none => exact fun _ => trivial
      | some (.come ld p) =>
        intro hf
        refine ⟨by rw [hin]; exact hf.1, hf.2.1, fun hl => ?_⟩
        have := hf.2.2 hl
        rw [hP] at this
        dsimp only
        rw [h00]
        omega
      | some .gone =>
        intro hf
        show inCell _ i ≠ 0
        rw [hin]; exact hf
    · intro j hj
      by_cases hjk : j = k
      · subst hjk
        rw [fup_same]
        refine ⟨⟨by show (2 : Nat) ≤ 3; decide, fun _ => ?_, fun h => by simp at h, hok.small, by dsimp only; constructor <;> omega⟩, hw⟩
        have := hok.early (by omega)
        show (ws j).next < m.workers
        rw [h.wk, this]
        exact hsmall.2
      · rw [fup_other _ _ hjk]
        obtain ⟨a, b⟩ := h.ok j hj
        exact ⟨⟨a.at_, a.next, a.early, a.small, a.period⟩, b⟩
    · intro j hj
      by_cases hjk : j = k
      · subst hjk
        rw [fup_same]
        exact ⟨fun _ => hlk.1 (by omega), fun _ => by show (2 : Nat) ≠ 0; decide⟩
      · rw [fup_other _ _ hjk]
        exact h.lock j hj
    · intro j hj
      by_cases hjk : j = k
      · subst hjk
        rw [fup_same, fup_same]
        simp
      · rw [fup_other _ _ hjk, fup_other _ _ hjk]
        exact h.bg0 j hj
    · intro j hj g2 hg2 i hi
      by_cases hjk : j = k
      · subst hjk
        rw [fup_same] at hg2 ⊢
        cases hg2
        refine ⟨(h.bg1 j hj _ hgk i hi).1, fun hs => ⟨by simp, fun _ => ?_⟩⟩
        rw [hin]
        have := hcnt i hi
        have := hok.early (by omega)
        dsimp only
        omega
      · rw [fup_other _ _ hjk] at hg2 ⊢
        have := h.bg1 j hj g2 hg2 i hi
        unfold Since at this ⊢
        rw [hin]
        exact this
  · have hgk : bg k = some g := by
      rcases hg with hg | hg
      · exact hg
      · rw [hbg.1 hg.1] at h0; cases h0
    have hpass : waitPassed m (ws k) = true := by rw [waitReady, if_neg (by omega), if_pos h0] at hr; exact hr
    have e : waitStep m (ws k) = (m, { ws k with next := (ws k).next + 1, at_ := if m.workers ≤ (ws k).next + 1 then 3 else 2 }, false) := by rw [waitStep, if_neg (by omega), if_neg (by omega), if_pos h0, hpass]; rfl
    rw [e]
    have hnx := hok.next h0
    have hsmall := h.small
    have hwk := h.wk
    refine .inl ⟨rfl, h.wk, h.small, h.len, hlocks, by dsimp only; omega, h.cnt, h.low, h.fr, fun i => by have := hst i; omega, ?_, ?_, hl3, ?_, ?_⟩
    · intro j hj
      by_cases hjk : j = k
      · subst hjk
        rw [fup_same]
        refine ⟨⟨?_, ?_, ?_, ?_, hok.period⟩, hw⟩
        · dsimp only; split <;> omega
        · dsimp only; split <;> omega
        · dsimp only; split <;> omega
        · dsimp only; have := hok.small; omega
      · rw [fup_other _ _ hjk]
        exact h.ok j hj
    · intro j hj
      by_cases hjk : j = k
      · subst hjk
        rw [fup_same]
        have := h.lock j hj
        dsimp only
        split <;> omega
      · rw [fup_other _ _ hjk]
        exact h.lock j hj
    · intro j hj
      by_cases hjk : j = k
      · subst hjk
        rw [fup_same, fup_same]
        dsimp only
        split <;> simp
      · rw [fup_other _ _ hjk, fup_other _ _ hjk]
        exact h.bg0 j hj
    · intro j hj g2 hg2 i hi
      by_cases hjk : j = k
      · subst hjk
        rw [fup_same] at hg2 ⊢
        cases hg2
        obtain ⟨h1, h2⟩ := h.bg1 j hj _ hgk i hi
        refine ⟨h1, fun hs => ?_⟩
        obtain ⟨_, h3⟩ := h2 hs
        obtain ⟨h4, h5⟩ := h3 h0
        have hne : (ws j).next ≠ i := by
          intro he
          unfold waitPassed at hpass
          rw [he] at hpass
          have := hs.1
          simp [this] at hpass
          omega
        dsimp only
        split
        · omega
        · exact ⟨by decide, fun _ => ⟨h4, by omega⟩⟩
      · rw [fup_other _ _ hjk] at hg2 ⊢
        exact h.bg1 j hj g2 hg2 i hi
  · have hgk : bg k = some g := by
      rcases hg with hg | hg
      · exact hg
      · rw [hbg.1 hg.1] at h0; cases h0
    have hlkk : m.locks.getD 0 0 = k := hlk.1 (by omega)
    have e : waitStep m (ws k) = ({ m with locks := m.locks.set 0 (-1) }, ws k, true) := by rw [waitStep, if_neg (by omega), if_neg (by omega), if_neg (by omega), if_pos (by rw [hlkk, hw])]
    rw [e]
    have hl0 : (m.locks.set 0 (-1)).getD 0 0 = -1 := by rw [getD_setI, if_pos (by omega)]
    refine .inr ⟨rfl, fun i hi hs => ((h.bg1 k hk g hgk i hi).2 hs).1 h0, h.wk, h.small, h.len, by simpa using hlocks, by dsimp only; omega, h.cnt, h.low, h.fr, fun i => by have := hst i; omega, ?_, ?_, ?_, ?_, ?_⟩
    · intro j hj
      by_cases hjk : j = k
      · subst hjk
        rw [fup_same]
        exact ⟨⟨by show (0 : Nat) ≤ 3; decide, fun h => by simp at h, fun _ => rfl, ⟨by show (0 : Nat) ≤ 8; decide, by show j ≤ 1000; omega⟩, ⟨Int.le_refl 0, by show (0 : Int) ≤ 18446744073709551615; decide⟩⟩, rfl⟩
      · rw [fup_other _ _ hjk]
        obtain ⟨a, b⟩ := h.ok j hj
        exact ⟨⟨a.at_, a.next, a.early, a.small, a.period⟩, b⟩
    · intro j hj
      dsimp only
      rw [hl0]
      by_cases hjk : j = k
      · subst hjk
        rw [fup_same]
        refine ⟨fun h => ?_, fun h => by omega⟩
        simp at h
      · rw [fup_other _ _ hjk]
        have := h.lock j hj
        have := two hk hj hjk
        omega
    · dsimp only
      rw [hl0]
      omega
    · intro j hj
      by_cases hjk : j = k
      · subst hjk
        rw [fup_same, fup_same]
        simp
      · rw [fup_other _ _ hjk, fup_other _ _ hjk]
        exact h.bg0 j hj
    · intro j hj g2 hg2 i hi
      by_cases hjk : j = k
      · subst hjk
        rw [fup_same] at hg2
        cases hg2
      · rw [fup_other _ _ hjk] at hg2 ⊢
        exact h.bg1 j hj g2 hg2 i hi
theorem QI.frame (h : QI n B m f st bg ws) {i : Nat} (x : Option FrQ) (hx : FrQOk m i x) : QI n B m (fup f i x) st bg ws :=
  ⟨h.wk, h.small, h.len, h.locks, h.per, h.cnt, h.low, fun j hj => by
    by_cases hji : j = i
    · subst hji; rw [fup_same]; exact hx
    · rw [fup_other _ _ hji]; exact h.fr j hj, h.stB, h.ok, h.lock, h.lock3, h.bg0, h.bg1⟩
theorem QI.more (h : QI n B m f st bg ws) : QI n (B + 1) m f st bg ws :=
  ⟨h.wk, h.small, h.len, h.locks, by have := h.per; omega, h.cnt, h.low, h.fr, fun i => by have := h.stB i; omega, h.ok, h.lock, h.lock3, h.bg0, h.bg1⟩
/-- A worker has come in. -/
theorem QI.come (h : QI n B m f st bg ws) {i : Nat} (h2 : 2 ≤ i) (hi : i < n) {p : Int} (hf : f i = some (.come true p)) :
    QI n (B + 1) { m with cells := m.cells.set (2 + i) p } (fup f i none) (fup st i (st i + 1)) bg ws ∧ p ≠ 0 := by
  have hlen := h.len
  obtain ⟨f1, f2, f3⟩ : inCell m i = 0 ∧ U64 p ∧ ((true : Bool) = true → 1 ≤ p ∧ p ≤ m.cells.getD 0 0) := by have := h.fr i hi; rw [hf] at this; exact this
  replace f3 := f3 rfl
  have h00 : (m.cells.set (2 + i) p).getD 0 0 = m.cells.getD 0 0 := by rw [getD_setI, if_neg (by omega)]
  have hin : ∀ j, inCell { m with cells := m.cells.set (2 + i) p } j = if j = i then p else inCell m j := fun j => by
    unfold inCell; dsimp only; rw [getD_setI]
    by_cases hji : j = i
    · subst hji; rw [if_pos (by omega), if_pos rfl]
    · rw [if_neg (by omega), if_neg hji]
  refine ⟨⟨h.wk, h.small, by simpa using hlen, h.locks, ?_, ?_, ?_, ?_, ?_, ?_, h.lock, h.lock3, h.bg0, ?_⟩, by omega⟩
  · dsimp only; rw [h00]; have := h.per; omega
  · intro j hj
    rw [hin]
    dsimp only
    rw [h00]
    split
    · omega
    · exact h.cnt j hj
  · intro j hj
    rw [hin, if_neg (by omega)]
    exact h.low j hj
  · intro j hj
    by_cases hji : j = i
    · subst hji; rw [fup_same]; trivial
    · rw [fup_other _ _ hji]
      have := h.fr j hj
      revert this
      match f j with
      | none => exact fun _ => trivial
      | some (.come ld q) =>
        intro hf
        refine ⟨by rw [hin, if_neg hji]; exact hf.1, hf.2.1, fun hl => ?_⟩
        dsimp only
        rw [h00]
        exact hf.2.2 hl
      | some .gone =>
        intro hf
        show inCell _ j ≠ 0
        rw [hin, if_neg hji]; exact hf
  · intro j
    unfold fup
    have := h.stB j
    split
    · subst j; omega
    · omega
  · intro j hj
    obtain ⟨a, b⟩ := h.ok j hj
    exact ⟨⟨a.at_, a.next, a.early, a.small, a.period⟩, b⟩
  · intro j hj g hg v hv
    obtain ⟨h3, h4⟩ := h.bg1 j hj g hg v hv
    by_cases hvi : v = i
    · subst hvi
      rw [fup_same]
      refine ⟨by omega, fun hs => ?_⟩
      have := hs.2.1
      rw [fup_same] at this
      omega
    · rw [fup_other _ _ hvi]
      refine ⟨h3, fun hs => ?_⟩
      have h5 : Since m g st v := ⟨by have := hs.1; rw [hin, if_neg hvi] at this; exact this, by have := hs.2; rw [fup_other _ _ hvi] at this; exact this⟩
      rw [hin, if_neg hvi]
      exact h4 h5
/-- A worker has gone out. -/
theorem QI.gone (h : QI n B m f st bg ws) {i : Nat} (hi : i < n) : QI n B { m with cells := m.cells.set (2 + i) 0 } (fup f i none) st bg ws := by
  have hlen := h.len
  have h00 : (m.cells.set (2 + i) 0).getD 0 0 = m.cells.getD 0 0 := by rw [getD_setI, if_neg (by omega)]
  have hin : ∀ j, inCell { m with cells := m.cells.set (2 + i) 0 } j = if j = i then 0 else inCell m j := fun j => by
    unfold inCell; dsimp only; rw [getD_setI]
    by_cases hji : j = i
    · subst hji; rw [if_pos (by omega), if_pos rfl]
    · rw [if_neg (by omega), if_neg hji]
  refine ⟨h.wk, h.small, by simpa using hlen, h.locks, ?_, ?_, ?_, ?_, h.stB, ?_, h.lock, h.lock3, h.bg0, ?_⟩
  · dsimp only; rw [h00]; exact h.per
  · intro j hj
    rw [hin]
    dsimp only
    rw [h00]
    have := h.per
    split
    · omega
    · exact h.cnt j hj
  · intro j hj
    rw [hin]
    split
    · rfl
    · exact h.low j hj
  · intro j hj
    by_cases hji : j = i
    · subst hji; rw [fup_same]; trivial
    · rw [fup_other _ _ hji]
      have := h.fr j hj
      revert this
      match f j with
      | none => exact fun _ => trivial
      | some (.come ld q) =>
        intro hf
        refine ⟨by rw [hin, if_neg hji]; exact hf.1, hf.2.1, fun hl => ?_⟩
        dsimp only
        rw [h00]
        exact hf.2.2 hl
      | some .gone =>
        intro hf
        show inCell _ j ≠ 0
        rw [hin, if_neg hji]; exact hf
  · intro j hj
    obtain ⟨a, b⟩ := h.ok j hj
    exact ⟨⟨a.at_, a.next, a.early, a.small, a.period⟩, b⟩
  · intro j hj g hg v hv
    obtain ⟨h3, h4⟩ := h.bg1 j hj g hg v hv
    refine ⟨h3, fun hs => ?_⟩
    by_cases hvi : v = i
    · subst hvi
      have := hs.1
      rw [hin, if_pos rfl] at this
      exact absurd rfl this
    · have h5 : Since m g st v := ⟨by have := hs.1; rw [hin, if_neg hvi] at this; exact this, hs.2⟩
      rw [hin, if_neg hvi]
      exact h4 h5
end

/-- The end: all are out, the waits go on. -/
structure QF (n : Nat) (m : MemS) (ws : Nat → WaitS) (lv : Nat → Bool) : Prop where
  wk : m.workers = n
  small : n ≤ 8 ∧ 0 < n
  locks : m.locks.length = 6
  zero : ∀ i, i < n → inCell m i = 0
  ok : ∀ k, k < 2 → WaitOk m (ws k) ∧ (ws k).worker = k
  lock : ∀ k : Nat, k < 2 → (lv k = true ∧ (ws k).at_ ≠ 0 ↔ m.locks.getD 0 0 = k)
  lock3 : m.locks.getD 0 0 = -1 ∨ m.locks.getD 0 0 = 0 ∨ m.locks.getD 0 0 = 1
def rem6 (n : Nat) (s : WaitS) : Nat := if s.at_ = 0 then n + 3 else if s.at_ = 1 then n + 2 else if s.at_ = 2 then n - s.next + 1 else 1
def mu6 (n : Nat) (ws : Nat → WaitS) (lv : Nat → Bool) : Nat := (if lv 0 = true then rem6 n (ws 0) else 0) + (if lv 1 = true then rem6 n (ws 1) else 0)
section
variable {n : Nat} {m : MemS} {ws : Nat → WaitS} {lv : Nat → Bool}
theorem QF.pass (h : QF n m ws lv) {k : Nat} (hk : k < 2) (h0 : (ws k).at_ = 2) : waitPassed m (ws k) = true := by
  have := h.zero _ (by have := (h.ok k hk).1.next h0; rw [h.wk] at this; exact this)
  unfold waitPassed
  simp [this]
/-- Who holds the lock can go on; so can who waits for it where it is free. -/
theorem QF.ready (h : QF n m ws lv) {k : Nat} (hk : k < 2) : waitReady m (ws k) = (if (ws k).at_ = 0 then decide (m.locks.getD 0 0 < 0) else true) := by
  unfold waitReady
  split
  · rfl
  · split
    · rename_i h1
      exact h.pass hk h1
    · rfl
theorem rem6_pos (s : WaitS) : 0 < rem6 n s := by unfold rem6; split <;> (try split) <;> (try split) <;> omega
theorem QF.step (h : QF n m ws lv) {k : Nat} (hk : k < 2) (hl : lv k = true) (hr : waitReady m (ws k) = true) :
    QF n (waitStep m (ws k)).1 (fup ws k (waitStep m (ws k)).2.1) (if (waitStep m (ws k)).2.2 = true then fup lv k false else lv) ∧
    mu6 n (fup ws k (waitStep m (ws k)).2.1) (if (waitStep m (ws k)).2.2 = true then fup lv k false else lv) < mu6 n ws lv := by
  obtain ⟨hok, hw⟩ := h.ok k hk
  have hlk := h.lock k hk
  have hl3 := h.lock3
  have hlocks := h.locks
  have hsmall := h.small
  have hwk := h.wk
  have hmu : ∀ (s' : WaitS), rem6 n s' < rem6 n (ws k) → mu6 n (fup ws k s') lv < mu6 n ws lv := by
    intro s' hs
    unfold mu6
    rcases (by omega : k = 0 ∨ k = 1) with rfl | rfl
    · rw [fup_same, fup_other _ _ (by decide), if_pos hl, if_pos hl]; omega
    · rw [fup_same, fup_other _ _ (by decide), if_pos hl, if_pos hl]; omega
  rw [hl] at hlk
  simp only [true_and] at hlk
  rcases (by have := hok.at_; omega : (ws k).at_ = 0 ∨ (ws k).at_ = 1 ∨ (ws k).at_ = 2 ∨ (ws k).at_ = 3) with h0 | h0 | h0 | h0
  · have hf : m.locks.getD 0 0 = -1 := by
      rw [waitReady, if_pos h0] at hr
      have := of_decide_eq_true hr
      omega
    have e : waitStep m (ws k) = ({ m with locks := m.locks.set 0 (ws k).worker }, { ws k with at_ := 1 }, false) := by rw [waitStep, if_pos h0, if_pos hf]
    rw [e, hw]
    have hl0 : (m.locks.set 0 (k : Int)).getD 0 0 = k := by rw [getD_setI, if_pos (by omega)]
    refine ⟨⟨h.wk, h.small, by simpa using hlocks, h.zero, ?_, ?_, ?_⟩, hmu _ ?_⟩
    · intro j hj
      by_cases hjk : j = k
      · subst hjk
        rw [fup_same]
        exact ⟨⟨by show (1 : Nat) ≤ 3; decide, fun h => by simp at h, fun _ => hok.early (by omega), hok.small, hok.period⟩, hw⟩
      · rw [fup_other _ _ hjk]
        obtain ⟨a, b⟩ := h.ok j hj
        exact ⟨⟨a.at_, a.next, a.early, a.small, a.period⟩, b⟩
    · intro j hj
      simp only [Bool.false_eq_true, if_false]
      rw [hl0]
      by_cases hjk : j = k
      · subst hjk
        rw [fup_same, hl]
        simp
      · rw [fup_other _ _ hjk]
        have := two hk hj hjk
        refine ⟨fun hx => ?_, fun hx => by omega⟩
        have := (h.lock j hj).1 hx
        omega
    · dsimp only
      rw [hl0]
      omega
    · unfold rem6; simp [h0]
  · have e : waitStep m (ws k) = ({ m with cells := m.cells.set 0 (IntKind.u64.wrap (m.cells.getD 0 0 + 1)) }, { ws k with at_ := 2, period := IntKind.u64.wrap (m.cells.getD 0 0 + 1) }, false) := by rw [waitStep, if_neg (by omega), if_pos h0]
    rw [e]
    have hwv := u64_wrap (m.cells.getD 0 0 + 1)
    generalize IntKind.u64.wrap (m.cells.getD 0 0 + 1) = V at *
    have hin : ∀ i, inCell { m with cells := m.cells.set 0 V } i = inCell m i := fun i => by unfold inCell; dsimp only; rw [getD_setI, if_neg (by omega)]
    have hear := hok.early (by omega)
    refine ⟨⟨h.wk, h.small, hlocks, fun i hi => by rw [hin]; exact h.zero i hi, ?_, ?_, hl3⟩, hmu _ ?_⟩
    · intro j hj
      by_cases hjk : j = k
      · subst hjk
        rw [fup_same]
        exact ⟨⟨by show (2 : Nat) ≤ 3; decide, fun _ => by show (ws j).next < m.workers; omega, fun h => by simp at h, hok.small, hwv⟩, hw⟩
      · rw [fup_other _ _ hjk]
        obtain ⟨a, b⟩ := h.ok j hj
        exact ⟨⟨a.at_, a.next, a.early, a.small, a.period⟩, b⟩
    · intro j hj
      simp only [Bool.false_eq_true, if_false]
      by_cases hjk : j = k
      · subst hjk
        rw [fup_same, hl]
        exact ⟨fun _ => hlk.1 (by omega), fun _ => ⟨rfl, by show (2 : Nat) ≠ 0; decide⟩⟩
      · rw [fup_other _ _ hjk]
        exact h.lock j hj
    · unfold rem6; simp [h0]; omega
  · have hpass := h.pass hk h0
    have e : waitStep m (ws k) = (m, { ws k with next := (ws k).next + 1, at_ := if m.workers ≤ (ws k).next + 1 then 3 else 2 }, false) := by rw [waitStep, if_neg (by omega), if_neg (by omega), if_pos h0, hpass]; rfl
    rw [e]
    have hnx := hok.next h0
    refine ⟨⟨h.wk, h.small, hlocks, h.zero, ?_, ?_, hl3⟩, hmu _ ?_⟩
    · intro j hj
      by_cases hjk : j = k
      · subst hjk
        rw [fup_same]
        refine ⟨⟨?_, ?_, ?_, ?_, hok.period⟩, hw⟩
        · dsimp only; split <;> omega
        · dsimp only; split <;> omega
        · dsimp only; split <;> omega
        · dsimp only; have := hok.small; omega
      · rw [fup_other _ _ hjk]
        exact h.ok j hj
    · intro j hj
      simp only [Bool.false_eq_true, if_false]
      by_cases hjk : j = k
      · subst hjk
        rw [fup_same, hl]
        simp only [true_and]
        split <;> omega
      · rw [fup_other _ _ hjk]
        exact h.lock j hj
    · unfold rem6
      by_cases hle : m.workers ≤ (ws k).next + 1
      · simp [h0, hle]
        omega
      · simp [h0, hle]
        omega
  · have hlkk : m.locks.getD 0 0 = k := hlk.1 (by omega)
    have e : waitStep m (ws k) = ({ m with locks := m.locks.set 0 (-1) }, ws k, true) := by rw [waitStep, if_neg (by omega), if_neg (by omega), if_neg (by omega), if_pos (by rw [hlkk, hw])]
    rw [e]
    have hl0 : (m.locks.set 0 (-1)).getD 0 0 = -1 := by rw [getD_setI, if_pos (by omega)]
    have hfw : fup ws k (ws k) = ws := by funext j; unfold fup; split <;> simp_all
    dsimp only
    rw [hfw, if_pos rfl]
    refine ⟨⟨h.wk, h.small, by simpa using hlocks, h.zero, ?_, ?_, ?_⟩, ?_⟩
    · intro j hj
      obtain ⟨a, b⟩ := h.ok j hj
      exact ⟨⟨a.at_, a.next, a.early, a.small, a.period⟩, b⟩
    · intro j hj
      dsimp only
      rw [hl0]
      by_cases hjk : j = k
      · subst hjk
        rw [fup_same]
        refine ⟨fun h => ?_, fun h => by omega⟩
        simp at h
      · rw [fup_other _ _ hjk]
        have := two hk hj hjk
        refine ⟨fun hx => ?_, fun hx => by omega⟩
        have := (h.lock j hj).1 hx
        omega
    · dsimp only
      rw [hl0]
      omega
    · have hp := rem6_pos (n := n) (ws k)
      unfold mu6
      rcases (by omega : k = 0 ∨ k = 1) with rfl | rfl
      · rw [fup_same, fup_other _ _ (by decide), if_pos hl]; simp; omega
      · rw [fup_same, fup_other _ _ (by decide), if_pos hl]; simp; omega
end
def qf (x : MemS × (Nat → WaitS) × (Nat → Bool)) (k : Nat) : MemS × (Nat → WaitS) × (Nat → Bool) :=
  if x.2.2 k = true ∧ waitReady x.1 (x.2.1 k) = true then
    ((waitStep x.1 (x.2.1 k)).1, fup x.2.1 k (waitStep x.1 (x.2.1 k)).2.1, if (waitStep x.1 (x.2.1 k)).2.2 = true then fup x.2.2 k false else x.2.2)
  else x
theorem qf_ok {n : Nat} {x : MemS × (Nat → WaitS) × (Nat → Bool)} (h : QF n x.1 x.2.1 x.2.2) {k : Nat} (hk : k < 2) :
    QF n (qf x k).1 (qf x k).2.1 (qf x k).2.2 ∧ mu6 n (qf x k).2.1 (qf x k).2.2 ≤ mu6 n x.2.1 x.2.2 ∧ ((x.2.2 k = true ∧ waitReady x.1 (x.2.1 k) = true) → mu6 n (qf x k).2.1 (qf x k).2.2 < mu6 n x.2.1 x.2.2) ∧ (¬ (x.2.2 k = true ∧ waitReady x.1 (x.2.1 k) = true) → qf x k = x) := by
  by_cases hc : x.2.2 k = true ∧ waitReady x.1 (x.2.1 k) = true
  · obtain ⟨h1, h2⟩ := h.step hk hc.1 hc.2
    have e : qf x k = ((waitStep x.1 (x.2.1 k)).1, fup x.2.1 k (waitStep x.1 (x.2.1 k)).2.1, if (waitStep x.1 (x.2.1 k)).2.2 = true then fup x.2.2 k false else x.2.2) := by unfold qf; rw [if_pos hc]
    rw [e]
    exact ⟨h1, Nat.le_of_lt h2, fun _ => h2, fun hn => absurd hc hn⟩
  · have e : qf x k = x := by unfold qf; rw [if_neg hc]
    rw [e]
    exact ⟨h, Nat.le_refl _, fun hn => absurd hn hc, fun _ => rfl⟩
/-- A round of both. -/
theorem qf_round {n : Nat} {x : MemS × (Nat → WaitS) × (Nat → Bool)} (h : QF n x.1 x.2.1 x.2.2) :
    QF n (qf (qf x 0) 1).1 (qf (qf x 0) 1).2.1 (qf (qf x 0) 1).2.2 ∧ mu6 n (qf (qf x 0) 1).2.1 (qf (qf x 0) 1).2.2 ≤ mu6 n x.2.1 x.2.2 ∧ (0 < mu6 n x.2.1 x.2.2 → mu6 n (qf (qf x 0) 1).2.1 (qf (qf x 0) 1).2.2 < mu6 n x.2.1 x.2.2) := by
  obtain ⟨a1, a2, a3, a4⟩ := qf_ok h (k := 0) (by decide)
  obtain ⟨b1, b2, b3, _⟩ := qf_ok a1 (k := 1) (by decide)
  refine ⟨b1, Nat.le_trans b2 a2, fun hm => ?_⟩
  by_cases h0 : x.2.2 0 = true ∧ waitReady x.1 (x.2.1 0) = true
  · have := a3 h0
    omega
  · rw [a4 h0] at b3 ⊢
    have hl0 := h.lock 0 (by decide)
    have hl1 := h.lock 1 (by decide)
    have hr0 := h.ready (k := 0) (by decide)
    have hr1 := h.ready (k := 1) (by decide)
    have hl3 := h.lock3
    apply b3
    generalize x.1.locks.getD 0 0 = L at *
    generalize waitReady x.1 (x.2.1 0) = r0 at *
    generalize waitReady x.1 (x.2.1 1) = r1 at *
    unfold mu6 at hm
    by_cases v0 : x.2.2 0 = true
    · by_cases at0 : (x.2.1 0).at_ = 0
      · rw [if_pos at0] at hr0
        by_cases hL : L < 0
        · exact absurd ⟨v0, by rw [hr0]; exact decide_eq_true hL⟩ h0
        · have hL1 : L = 1 := by
            rcases hl3 with rfl | rfl | rfl
            · exact absurd (by decide) hL
            · exact absurd at0 (hl0.2 rfl).2
            · rfl
          obtain ⟨c1, c2⟩ := hl1.2 hL1
          exact ⟨c1, by rw [hr1, if_neg c2]⟩
      · exact absurd ⟨v0, by rw [hr0, if_neg at0]⟩ h0
    · have hL0 : L ≠ 0 := fun h => v0 (hl0.2 h).1
      have v1 : x.2.2 1 = true := by
        by_cases v1 : x.2.2 1 = true
        · exact v1
        · rw [if_neg v0, if_neg v1] at hm; exact absurd hm (by decide)
      refine ⟨v1, ?_⟩
      by_cases at1 : (x.2.1 1).at_ = 0
      · rw [hr1, if_pos at1]
        rcases hl3 with rfl | rfl | rfl
        · rfl
        · exact absurd rfl hL0
        · exact absurd at1 (hl1.2 rfl).2
      · rw [hr1, if_neg at1]
theorem mu6_zero {n : Nat} {ws : Nat → WaitS} {lv : Nat → Bool} (h : mu6 n ws lv = 0) : lv 0 = false ∧ lv 1 = false := by
  unfold mu6 at h
  have h0 := rem6_pos (n := n) (ws 0)
  have h1 := rem6_pos (n := n) (ws 1)
  cases e0 : lv 0 <;> cases e1 : lv 1 <;> simp [e0, e1] at h <;> first | exact ⟨rfl, rfl⟩ | omega
theorem mu6_le {n : Nat} (hn : n ≤ 7) (ws : Nat → WaitS) (lv : Nat → Bool) : mu6 n ws lv ≤ 20 := by
  have : ∀ s, rem6 n s ≤ 10 := fun s => by unfold rem6; split <;> (try split) <;> (try split) <;> omega
  have h0 := this (ws 0)
  have h1 := this (ws 1)
  unfold mu6
  split <;> split <;> omega
def qfN (x : MemS × (Nat → WaitS) × (Nat → Bool)) : Nat → MemS × (Nat → WaitS) × (Nat → Bool)
  | 0 => x
  | k + 1 => qf (qfN x k) k
theorem qf_b (x : MemS × (Nat → WaitS) × (Nat → Bool)) (k : Nat) : (qf x k).1.b = x.1.b := by
  unfold qf
  split
  · exact waitK.blk _ _
  · rfl
theorem qf_off {x : MemS × (Nat → WaitS) × (Nat → Bool)} {k : Nat} (h : ¬ (x.2.2 k = true ∧ waitReady x.1 (x.2.1 k) = true)) : qf x k = x := by unfold qf; rw [if_neg h]
theorem qf_on {x : MemS × (Nat → WaitS) × (Nat → Bool)} {k : Nat} (h1 : x.2.2 k = true) (h2 : waitReady x.1 (x.2.1 k) = true) :
    qf x k = ((waitStep x.1 (x.2.1 k)).1, fup x.2.1 k (waitStep x.1 (x.2.1 k)).2.1, if (waitStep x.1 (x.2.1 k)).2.2 = true then fup x.2.2 k false else x.2.2) := by unfold qf; rw [if_pos ⟨h1, h2⟩]
/-- All are out. -/
theorem QI.out {n B : Nat} {m : MemS} {f : Nat → Option FrQ} {st : Nat → Nat} {bg : Nat → Option (Nat → Nat)} {ws : Nat → WaitS} (h : QI n B m f st bg ws) (hz : ∀ i, i < n → inCell m i = 0) : QF n m ws (fun _ => true) :=
  ⟨h.wk, h.small, h.locks, hz, h.ok, fun k hk => by rw [← h.lock k hk]; simp, h.lock3⟩
end Go.Proofs.Ytcoaemjoanbemaa
