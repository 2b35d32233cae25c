/- Plain laws on objects of several parts: a list of flat parts as one object, and its parts laid side by side; an object some of whose addresses are not told. No condition. -/
import Derived.Test.YtcgfknpobifecaaGreatRkm
namespace Go.Proofs.YtcgfknpobifecaaGreat
open Go.RowKit

theorem SlAt.re' {o o' : Nat → Nat} {w : World} {a a' : Nat} {T : TypeId} {k : Nat} {v : Value} {n : Nat} {cs : List Value} (h : SlAt o w a T k v n cs) (hm : ∀ k, o k = a → o' k = a') : SlAt o' w a' T k v n cs := h.re hm
/-- A part with one mark. -/
structure FObj where
  at_ : (Nat → Nat) → World → Nat → Prop
  keep : ∀ {o o' : Nat → Nat} {w w' : World} {M : Nat → Prop} {a : Nat}, Kp M o o' w w' → M a → at_ o w a → at_ o' w' a
  re : ∀ {o o' : Nat → Nat} {w : World} {a a' : Nat}, at_ o w a → (∀ k, o k = a → o' k = a') → at_ o' w a'
def stF (b : Nat) (cs : Array Value) (T : TypeId) : FObj := ⟨fun o w a => StAt o w a b cs T, fun e hm h => h.kp e hm, fun h hm => h.re hm⟩
def slF (T : TypeId) (k : Nat) (v : Value) (n : Nat) (cs : List Value) : FObj := ⟨fun o w a => SlAt o w a T k v n cs, fun e hm h => h.kp e hm, fun h hm => h.re hm⟩
def lfF (q : IntKind) (T : TypeId) (v : Value) (xs : List Int) : FObj := ⟨fun o w a => LfAt q T o w a v xs, fun e hm h => h.kp e hm, fun h hm => h.re hm⟩
def noF : FObj := ⟨fun _ _ _ => True, fun _ _ _ => trivial, fun _ _ => trivial⟩
def single (p : FObj) : KObj where
  holds o w t := p.at_ o w (16 * t)
  keep e hs h := p.keep e (by simpa using hs 0 (by decide)) h
/-- All parts as one object: part i has the mark 16 t + i. -/
def CompK (ps : List FObj) : KObj where
  holds o w t := ∀ (i : Nat) (p : FObj), ps[i]? = some p → i < 16 → p.at_ o w (16 * t + i)
  keep e hs h := fun i p hp hi => p.keep e (hs i hi) (h i p hp hi)
section
variable {l : List KObj} {w : World} {u : Nat} {ps : List FObj}
theorem R.unpack (h : R l w) (hu : l[u]? = some (CompK ps)) (hl : ps.length ≤ 16) : R (l.set u NoK ++ ps.map single) w := by
  refine h.split hu (fun j => 16 * j) fun o o' hk hm i p hp => ?_
  rw [List.getElem?_map] at hp
  obtain ⟨q, hq, rfl⟩ := Option.map_eq_some_iff.1 hp
  have hi : i < ps.length := (List.getElem?_eq_some_iff.1 hq).1
  have := hk i q hq (by omega)
  refine q.re this fun k hk2 => ?_
  rw [hm k i (by omega) hk2]
  omega
theorem R.pack (h : R (l ++ ps.map single) w) (hul : u < l.length) (_hl : ps.length ≤ 16) : R (l.set u (CompK ps)) w := by
  refine h.join hul (fun x => x / 16) fun o o' hk hm i p hp hi => ?_
  have := hk i (single p) (by rw [List.getElem?_map, hp]; rfl)
  have hil : i < ps.length := (List.getElem?_eq_some_iff.1 hp).1
  refine p.re (a := 16 * (l.length + i)) this fun k hk2 => ?_
  rw [hm k (16 * i) (by simp; omega) (by omega)]
  omega
/-- Parts at the list's end, chosen anew, become one object. -/
theorem R.packSel {qs : List FObj} (h : R (l ++ ps.map single) w) (hul : u < l.length) (g : Nat → Nat) (hq : ∀ (i : Nat) (q : FObj), qs[i]? = some q → i < 16 → (∃ j, ps[j]? = some q ∧ g j = i) ∨ q = noF) : R (l.set u (CompK qs)) w := by
  refine h.join hul (fun x => g (x / 16)) fun o o' hk hm i q hp hi => ?_
  rcases hq i q hp hi with ⟨j, hj, hg⟩ | rfl
  · have := hk j (single q) (by rw [List.getElem?_map, hj]; rfl)
    have hjl : j < ps.length := (List.getElem?_eq_some_iff.1 hj).1
    refine q.re (a := 16 * (l.length + j)) this fun k hk2 => ?_
    rw [hm k (16 * j) (by simp; omega) (by omega), show 16 * j / 16 = j by omega, hg]
  · trivial
theorem R.packSelEnd {qs : List FObj} (h : R (l ++ ps.map single) w) (g : Nat → Nat) (hq : ∀ (i : Nat) (q : FObj), qs[i]? = some q → i < 16 → (∃ j, ps[j]? = some q ∧ g j = i) ∨ q = noF) : R (l ++ [CompK qs]) w := by
  obtain ⟨o, hR⟩ := h
  refine ⟨joinO o l.length l.length ps.length (fun x => g (x / 16)), fun v p hv => ?_⟩
  have hkp : Kp (fun x => ¬ (16 * l.length ≤ x ∧ x < 16 * l.length + 16 * ps.length)) o (joinO o l.length l.length ps.length (fun x => g (x / 16))) w w := ⟨rfl, rfl, rfl, Nat.le_refl _, fun _ _ hm => ⟨if_neg hm, rfl⟩⟩
  by_cases hvl : v < l.length
  · rw [List.getElem?_append_left hvl] at hv
    exact p.keep hkp (fun j hj => by omega) (hR v p (by rw [List.getElem?_append_left hvl]; exact hv))
  · rw [List.getElem?_append_right (by omega)] at hv
    by_cases h0 : v = l.length
    · subst h0
      simp at hv
      subst hv
      intro i q hp hi
      rcases hq i q hp hi with ⟨j, hj, hg⟩ | rfl
      · have hjl : j < ps.length := (List.getElem?_eq_some_iff.1 hj).1
        have := hR (l.length + j) (single q) (by rw [List.getElem?_append_right (by omega)]; simp [hj])
        refine q.re (a := 16 * (l.length + j)) this fun k hk2 => ?_
        rw [joinO_at (x := 16 * j) (by omega) (by omega), show 16 * j / 16 = j by omega, hg]
      · trivial
    · rw [List.getElem?_eq_none (by simp; omega)] at hv
      cases hv
/-- An object is put at the list's end. -/
theorem R.snoc (h : R l w) (q : KObj) (hq : ∀ o, Rp l o w → ∃ o', Rp l o' w ∧ q.holds o' w l.length) : R (l ++ [q]) w := by
  obtain ⟨o, h⟩ := h
  obtain ⟨o', h1, h2⟩ := hq o h
  refine ⟨o', fun v p hv => ?_⟩
  by_cases hvl : v < l.length
  · rw [List.getElem?_append_left hvl] at hv
    exact h1 v p hv
  · rw [List.getElem?_append_right (by omega)] at hv
    by_cases h0 : v = l.length
    · subst h0
      simp at hv
      subst hv
      exact h2
    · rw [List.getElem?_eq_none (by simp; omega)] at hv
      cases hv
theorem R.no (h : R l w) : R (l ++ [NoK]) w := h.snoc NoK fun o ho => ⟨o, ho, trivial⟩
theorem R.packEnd (h : R (l ++ ps.map single) w) (hl : ps.length ≤ 16) : R (l ++ [CompK ps]) w := by
  refine ⟨joinO h.choose l.length l.length ps.length (fun x => x / 16), fun v p hv => ?_⟩
  obtain ⟨o, hr⟩ : ∃ o, o = h.choose := ⟨_, rfl⟩
  have hR : Rp (l ++ ps.map single) o w := hr ▸ h.choose_spec
  rw [← hr]
  have hkp : Kp (fun x => ¬ (16 * l.length ≤ x ∧ x < 16 * l.length + 16 * ps.length)) o (joinO o l.length l.length ps.length (fun x => x / 16)) w w := ⟨rfl, rfl, rfl, Nat.le_refl _, fun _ _ hm => ⟨if_neg hm, rfl⟩⟩
  by_cases hvl : v < l.length
  · rw [List.getElem?_append_left hvl] at hv
    exact p.keep hkp (fun j hj => by omega) (hR v p (by rw [List.getElem?_append_left hvl]; exact hv))
  · rw [List.getElem?_append_right (by omega)] at hv
    by_cases h0 : v = l.length
    · subst h0
      simp at hv
      subst hv
      intro i p hp hi
      have hil : i < ps.length := (List.getElem?_eq_some_iff.1 hp).1
      have := hR (l.length + i) (single p) (by rw [List.getElem?_append_right (by omega)]; simp [hp])
      refine p.re (a := 16 * (l.length + i)) this fun k hk2 => ?_
      rw [joinO_at (x := 16 * i) (by omega) (by omega)]
      omega
    · rw [List.getElem?_eq_none (by simp; omega)] at hv
      cases hv
theorem R.unpackEnd (h : R (l ++ [CompK ps]) w) (hl : ps.length ≤ 16) : R (l ++ ps.map single) w := by
  obtain ⟨o, hR⟩ := h
  refine ⟨splitO o l.length l.length (fun j => 16 * j), fun v p hv => ?_⟩
  have hkp : Kp (fun x => ¬ (16 * l.length ≤ x ∧ x < 16 * l.length + 16)) o (splitO o l.length l.length (fun j => 16 * j)) w w := ⟨rfl, rfl, rfl, Nat.le_refl _, fun _ _ hm => ⟨if_neg hm, rfl⟩⟩
  by_cases hvl : v < l.length
  · rw [List.getElem?_append_left hvl] at hv
    exact p.keep hkp (fun j hj => by omega) (hR v p (by rw [List.getElem?_append_left hvl]; exact hv))
  · rw [List.getElem?_append_right (by omega), List.getElem?_map] at hv
    obtain ⟨q, hq, rfl⟩ := Option.map_eq_some_iff.1 hv
    have hi : v - l.length < ps.length := (List.getElem?_eq_some_iff.1 hq).1
    have h1 := hR l.length (CompK ps) (by simp)
    have h2 := h1 _ q hq (by omega)
    refine q.re h2 fun k hk2 => ?_
    rw [splitO_at (j := v - l.length) (by omega) hk2]
    omega
end
section
variable {L P : List KObj} {w : World} {i b : Nat} {cs : Array Value} {T : TypeId}
theorem R.stP (h : R (L ++ P) w) (hP : P[i]? = some (StK b cs T)) : blk w b = some (.cells cs T (0, 0)) := h.st (getP hP)
theorem R.putP (h : R (L ++ P) w) (hP : P[i]? = some (StK b cs T)) (j : Nat) (v : Value) : R (L ++ P.set i (StK b (cs.setIfInBounds j v) T)) (w.setCell ⟨b, j, none⟩ v) := by
  have := h.put (getP hP) j v
  rwa [setP] at this
theorem set2P (L P : List KObj) {t : Nat} (i : Nat) (ht : t < L.length) (x p : KObj) : ((L ++ P).set t x).set (L.length + i) p = L.set t x ++ P.set i p := by
  rw [setL _ _ ht]
  have e : L.length = (L.set t x).length := by simp
  rw [e, setP]
end
theorem lt_of_get {l : List KObj} {t : Nat} {p : KObj} (h : l[t]? = some p) : t < l.length := (List.getElem?_eq_some_iff.1 h).1
/-- An object some of whose addresses are not told. -/
def ExK {α : Type} (f : α → KObj) : KObj where
  holds o w t := ∃ a, (f a).holds o w t
  keep e hs h := h.imp fun a ha => (f a).keep e hs ha
theorem R.ex {α : Type} {f : α → KObj} {l : List KObj} {w : World} {u : Nat} (h : R l w) (hu : l[u]? = some (ExK f)) : ∃ a, R (l.set u (f a)) w := by
  obtain ⟨o, hr, a, ha⟩ := h.get hu
  exact ⟨a, hr.step (Ext.refl o w (fun _ => False)) (fun _ => False.elim) ha⟩
theorem R.toEx {α : Type} {f : α → KObj} {l : List KObj} {w : World} {u : Nat} (a : α) (h : R l w) (hu : l[u]? = some (f a)) : R (l.set u (ExK f)) w := by
  obtain ⟨o, hr, ha⟩ := h.get hu
  exact hr.step (Ext.refl o w (fun _ => False)) (fun _ => False.elim) ⟨a, ha⟩
theorem R.toExEnd {α : Type} {f : α → KObj} {l : List KObj} {w : World} (a : α) (h : R (l ++ [f a]) w) : R (l ++ [ExK f]) w := by
  have := R.toEx (f := f) (u := l.length) a h (by simp)
  rwa [List.set_append_right _ _ (Nat.le_refl _), Nat.sub_self, List.set_cons_zero] at this
end Go.Proofs.YtcgfknpobifecaaGreat
