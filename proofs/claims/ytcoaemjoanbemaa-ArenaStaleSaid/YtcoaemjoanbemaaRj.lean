/- Plain laws: an object parted into its parts, and put together again. No condition. -/
import Derived.Test.YtcoaemjoanbemaaRl
namespace Go.Proofs.Ytcoaemjoanbemaa
open Go.RowKit

theorem StAt.re {o o' : Nat → Nat} {w : World} {a a' b : Nat} {cs : Array Value} {T : TypeId} (h : StAt o w a b cs T) (hm : ∀ k, o k = a → o' k = a') : StAt o' w a' b cs T := ⟨h.heap, hm _ h.tag⟩
theorem SlAt.re {o o' : Nat → Nat} {w : World} {a a' : Nat} {T : TypeId} {k : Nat} {v : Value} {n : Nat} {cs : List Value} (h : SlAt o w a T k v n cs) (hm : ∀ k, o k = a → o' k = a') : SlAt o' w a' T k v n cs := by
  refine ⟨h.1, ?_⟩
  rcases h.2 with hn | ⟨g, cap, cur, hv, hg, hog, h1, h2, h3, h4⟩
  · exact .inl hn
  · exact .inr ⟨g, cap, cur, hv, hg, hm _ hog, h1, h2, h3, h4⟩

def splitO (o : Nat → Nat) (u n : Nat) (f : Nat → Nat) : Nat → Nat := fun k => if 16 * u ≤ o k ∧ o k < 16 * u + 16 then 16 * n + f (o k - 16 * u) else o k
def joinO (o : Nat → Nat) (u n c : Nat) (g : Nat → Nat) : Nat → Nat := fun k => if 16 * n ≤ o k ∧ o k < 16 * n + 16 * c then 16 * u + g (o k - 16 * n) else o k
theorem splitO_at {o : Nat → Nat} {u n : Nat} {f : Nat → Nat} {k j : Nat} (hj : j < 16) (hk : o k = 16 * u + j) : splitO o u n f k = 16 * n + f j := by
  rw [splitO, if_pos (by omega), hk]; congr 2; omega
theorem joinO_at {o : Nat → Nat} {u n c : Nat} {g : Nat → Nat} {k x : Nat} (hx : x < 16 * c) (hk : o k = 16 * n + x) : joinO o u n c g k = 16 * u + g x := by
  rw [joinO, if_pos (by omega), hk]; congr 2; omega
section
variable {l parts : List KObj} {w : World} {u : Nat} {K : KObj}
/-- An object's parts become objects of their own, at the list's end: the mark 16 u + j becomes 16 n + f j. -/
theorem R.split (h : R l w) (hu : l[u]? = some K) (f : Nat → Nat)
    (hs : ∀ (o o' : Nat → Nat), K.holds o w u → (∀ k j, j < 16 → o k = 16 * u + j → o' k = 16 * l.length + f j) → ∀ (i : Nat) (p : KObj), parts[i]? = some p → p.holds o' w (l.length + i)) :
    R (l.set u NoK ++ parts) w := by
  obtain ⟨o, hr, hk⟩ := h.get hu
  have hul : u < l.length := (List.getElem?_eq_some_iff.1 hu).1
  refine ⟨splitO o u l.length f, fun v p hv => ?_⟩
  have hkp : Kp (fun x => ¬ (16 * u ≤ x ∧ x < 16 * u + 16)) o (splitO o u l.length f) w w := ⟨rfl, rfl, rfl, Nat.le_refl _, fun _ _ hm => ⟨if_neg hm, rfl⟩⟩
  by_cases hvl : v < l.length
  · rw [List.getElem?_append_left (by simpa using hvl), List.getElem?_set] at hv
    by_cases huv : u = v
    · subst huv
      rw [if_pos rfl, if_pos hul] at hv
      cases hv
      trivial
    · rw [if_neg huv] at hv
      exact p.keep hkp (fun j hj => by omega) (hr v p hv)
  · rw [List.getElem?_append_right (by simpa using Nat.le_of_not_lt hvl), List.length_set] at hv
    have := hs o _ hk (fun k j hj hk => splitO_at hj hk) (v - l.length) p hv
    rwa [show l.length + (v - l.length) = v by omega] at this
/-- Objects at the list's end become the parts of one: the mark 16 n + x becomes 16 u + g x. -/
theorem R.join (h : R (l ++ parts) w) (hul : u < l.length) (g : Nat → Nat)
    (hs : ∀ (o o' : Nat → Nat), (∀ (i : Nat) (p : KObj), parts[i]? = some p → p.holds o w (l.length + i)) → (∀ k x, x < 16 * parts.length → o k = 16 * l.length + x → o' k = 16 * u + g x) → K.holds o' w u) :
    R (l.set u K) w := by
  obtain ⟨o, hr⟩ := h
  refine ⟨joinO o u l.length parts.length g, fun v p hv => ?_⟩
  have hkp : Kp (fun x => ¬ (16 * l.length ≤ x ∧ x < 16 * l.length + 16 * parts.length)) o (joinO o u l.length parts.length g) w w := ⟨rfl, rfl, rfl, Nat.le_refl _, fun _ _ hm => ⟨if_neg hm, rfl⟩⟩
  rw [List.getElem?_set] at hv
  by_cases huv : u = v
  · subst huv
    rw [if_pos rfl, if_pos hul] at hv
    cases hv
    refine hs o _ (fun i p hp => hr (l.length + i) p (by rw [List.getElem?_append_right (by omega)]; simpa using hp)) (fun k x hx hk => joinO_at hx hk)
  · rw [if_neg huv] at hv
    have hvl : v < l.length := (List.getElem?_eq_some_iff.1 hv).1
    exact p.keep hkp (fun j hj => by omega) (hr v p (by rw [List.getElem?_append_left hvl]; exact hv))
end

/-- A slice of numbers that is only read: it may begin within its row. -/
def LfAt (q : IntKind) (T : TypeId) (o : Nat → Nat) (w : World) (t : Nat) (v : Value) (xs : List Int) : Prop :=
  (∃ a c, v = .slice a xs.length c) ∧ xs.length ≤ 9223372036854775807 ∧ (xs = [] ∨ ∃ g off cap cur, v = .slice (some ⟨g, off, none⟩) xs.length cap ∧ xs.length ≤ cap ∧ cap ≤ 9223372036854775807 ∧ blk w g = some (.cells cur T (0, 0)) ∧ o g = t ∧
    ∀ (j : Nat) (x : Int), xs[j]? = some x → cur[off + j]? = some (.int q x))
theorem LfAt.kp {q : IntKind} {T : TypeId} {o o' : Nat → Nat} {w w' : World} {M : Nat → Prop} {t : Nat} {v : Value} {xs : List Int} (h : LfAt q T o w t v xs) (e : Kp M o o' w w') (hm : M t) : LfAt q T o' w' t v xs := by
  refine ⟨h.1, h.2.1, ?_⟩
  rcases h.2.2 with h0 | ⟨g, off, cap, cur, hv, h1, h2, hg, hog, h3⟩
  · exact .inl h0
  · obtain ⟨h5, h6⟩ := e.kp g (lt_of_blk hg) (by rw [hog]; exact hm)
    exact .inr ⟨g, off, cap, cur, hv, h1, h2, h6.trans hg, h5.trans hog, h3⟩
theorem LfAt.re {q : IntKind} {T : TypeId} {o o' : Nat → Nat} {w : World} {a a' : Nat} {v : Value} {xs : List Int} (h : LfAt q T o w a v xs) (hm : ∀ k, o k = a → o' k = a') : LfAt q T o' w a' v xs := by
  refine ⟨h.1, h.2.1, ?_⟩
  rcases h.2.2 with h0 | ⟨g, off, cap, cur, hv, h1, h2, hg, hog, h3⟩
  · exact .inl h0
  · exact .inr ⟨g, off, cap, cur, hv, h1, h2, hg, hm _ hog, h3⟩
theorem LfAt.of_sl {q : IntKind} {T : TypeId} {o : Nat → Nat} {w : World} {t : Nat} {v : Value} {n : Nat} {xs : List Int} (h : SlAt o w t T 1 v n (xs.map (Value.int q))) : LfAt q T o w t v xs := by
  have hl := h.1
  simp at hl
  subst hl
  refine ⟨h.value, h.le63, ?_⟩
  rcases h.2 with ⟨_, h0⟩ | ⟨g, cap, cur, hv, hg, hog, h1, h2, h3, h4⟩
  · exact .inl (List.eq_nil_of_length_eq_zero h0)
  · refine .inr ⟨g, 0, cap, cur, hv, h1, by simp only [maxLen] at h2; omega, hg, hog, fun j x hx => ?_⟩
    rw [Nat.zero_add]
    exact cur_at h4 (by simp [hx])
def LfK (q : IntKind) (T : TypeId) (v : Value) (xs : List Int) : KObj where
  holds o w t := LfAt q T o w (16 * t) v xs
  keep e hs h := h.kp e (by simpa using hs 0 (by decide))
theorem R.lf {l : List KObj} {w : World} {t : Nat} {q : IntKind} {T : TypeId} {v : Value} {xs : List Int} (h : R l w) (ht : l[t]? = some (LfK q T v xs)) :
    (∃ a c, v = .slice a xs.length c) ∧ xs.length ≤ 9223372036854775807 ∧ (xs = [] ∨ ∃ g off cap cur, v = .slice (some ⟨g, off, none⟩) xs.length cap ∧ xs.length ≤ cap ∧ cap ≤ 9223372036854775807 ∧ blk w g = some (.cells cur T (0, 0)) ∧
      ∀ (j : Nat) (x : Int), xs[j]? = some x → cur[off + j]? = some (.int q x)) := by
  obtain ⟨o, _, h1, h2, h3⟩ := h.get ht
  refine ⟨h1, h2, h3.imp id ?_⟩
  rintro ⟨g, off, cap, cur, a1, a2, a3, a4, _, a5⟩
  exact ⟨g, off, cap, cur, a1, a2, a3, a4, a5⟩
theorem R.lfTail {l : List KObj} {w : World} {t : Nat} {q : IntKind} {T : TypeId} {g off cap : Nat} {x : Int} {xs : List Int} (h : R l w) (ht : l[t]? = some (LfK q T (.slice (some ⟨g, off, none⟩) (xs.length + 1) cap) (x :: xs))) :
    R (l.set t (LfK q T (.slice (some ⟨g, off + 1, none⟩) xs.length (cap - 1)) xs)) w := by
  obtain ⟨o, hr, h1, h2, h3⟩ := h.get ht
  refine hr.step (Ext.refl o w (fun _ => False)) (fun _ => False.elim) ⟨⟨_, _, rfl⟩, by simp at h2; omega, ?_⟩
  rcases h3 with h0 | ⟨g', off', cap', cur, hv, a1, a2, a3, a4, a5⟩
  · simp at h0
  · simp at hv
    obtain ⟨⟨rfl, rfl⟩, rfl⟩ := hv
    simp at a1
    refine .inr ⟨g, off + 1, cap - 1, cur, rfl, by omega, by omega, a3, a4, fun j y hy => ?_⟩
    have := a5 (j + 1) y (by simpa using hy)
    rwa [show off + 1 + j = off + (j + 1) by omega]
theorem R.lfNil {l : List KObj} {w : World} {t : Nat} {q : IntKind} {T : TypeId} {v : Value} {ys : List Int} (h : R l w) (ht : l[t]? = some (LfK q T v ys)) (v' : Value) (hv : ∃ a c, v' = .slice a 0 c) :
    R (l.set t (LfK q T v' [])) w := by
  obtain ⟨o, hr, _⟩ := h.get ht
  exact hr.step (Ext.refl o w (fun _ => False)) (fun _ => False.elim) ⟨hv, by simp, .inl rfl⟩
theorem getP {L P : List KObj} {i : Nat} {p : KObj} (h : P[i]? = some p) : (L ++ P)[L.length + i]? = some p := by
  rw [List.getElem?_append_right (by omega)]; simpa using h
theorem setP (L P : List KObj) (i : Nat) (p : KObj) : (L ++ P).set (L.length + i) p = L ++ P.set i p := by
  rw [List.set_append_right _ _ (by omega)]; simp
theorem setL (L P : List KObj) {t : Nat} (h : t < L.length) (p : KObj) : (L ++ P).set t p = L.set t p ++ P := List.set_append_left _ _ h
theorem foldU (l : List KObj) {t u : Nat} (h : t ≠ u) (X K Z : KObj) : ((l.set u Z).set t X).set u K = (l.set t X).set u K := by
  rw [List.set_comm _ _ h.symm, List.set_set]
end Go.Proofs.Ytcoaemjoanbemaa
