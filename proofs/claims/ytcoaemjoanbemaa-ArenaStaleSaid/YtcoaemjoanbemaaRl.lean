/- Plain laws on rows among the objects. No condition. -/
import Derived.Test.YtcoaemjoanbemaaRk
namespace Go.Proofs.Ytcoaemjoanbemaa
open Go.RowKit

section
variable {l : List KObj} {w : World} {t : Nat} {T : TypeId} {k : Nat} {v : Value} {n : Nat} {cs : List Value}
theorem R.slVal (h : R l w) (ht : l[t]? = some (SlK T k v n cs)) : (∃ a c, v = .slice a n c) ∧ cs.length = n * k ∧ n ≤ 9223372036854775807 := by
  obtain ⟨o, _, h⟩ := h.get ht
  exact ⟨SlAt.value h, h.1, SlAt.le63 h⟩
/-- A row that is not empty, as the walk reads it. -/
theorem R.slRow (h : R l w) (ht : l[t]? = some (SlK T k v n cs)) (hn : 0 < n) :
    ∃ g cap cur, v = .slice (some ⟨g, 0, none⟩) n cap ∧ blk w g = some (.cells cur T (0, 0)) ∧ cap ≤ 9223372036854775807 ∧ n ≤ cap ∧ ∀ (j : Nat) (u : Value), cs[j]? = some u → cur[j]? = some u := by
  obtain ⟨o, _, h⟩ := h.get ht
  obtain ⟨g, cap, cur, rfl, hg, hog, h1, h2, h3, h4⟩ := SlAt.row h hn
  exact ⟨g, cap, cur, rfl, hg, by simp only [maxLen] at h2; omega, h1, fun j u hu => cur_at h4 hu⟩
theorem R.intRow {q : IntKind} {xs : List Int} (h : R l w) (ht : l[t]? = some (SlK T 1 v n (xs.map (Value.int q)))) {i : Nat} (hi : i < n) :
    ∃ g cap cur, v = .slice (some ⟨g, 0, none⟩) n cap ∧ blk w g = some (.cells cur T (0, 0)) ∧ cap ≤ 9223372036854775807 ∧ n ≤ cap ∧ cur[i]? = some (.int q (xs.getD i 0)) := by
  obtain ⟨_, hl, _⟩ := h.slVal ht
  obtain ⟨g, cap, cur, rfl, hg, h1, h2, h3⟩ := h.slRow ht (by omega)
  simp at hl
  have hix : i < xs.length := by omega
  exact ⟨g, cap, cur, rfl, hg, h1, h2, h3 i _ (by simp [hix])⟩
theorem R.putRow {g cap : Nat} (h : R l w) (ht : l[t]? = some (SlK T k (.slice (some ⟨g, 0, none⟩) n cap) n cs)) (i : Nat) (u : Value) (hn : 0 < n) :
    R (l.set t (SlK T k (.slice (some ⟨g, 0, none⟩) n cap) n (cs.set i u))) (w.setCell ⟨g, i, none⟩ u) := by
  obtain ⟨o, h, hp⟩ := h.get ht
  obtain ⟨g', cap', cur, hv, hg, hog, h1, h2, h3, h4⟩ := SlAt.row hp hn
  simp at hv
  obtain ⟨rfl, rfl⟩ := hv
  refine h.step (S := fun x => x = 16 * t) ((Ext.refl o w _).put u (.inl hog)) (fun x hx => by omega) ?_
  refine ⟨by rw [List.length_set]; exact hp.1, .inr ⟨g, cap, cur.setIfInBounds i u, rfl, ?_, hog, h1, h2, by simpa using h3, ?_⟩⟩
  · rw [blk_put_same, hg]; rfl
  · rw [← h4]; simp [List.take_set]
theorem R.putInt {q : IntKind} {g cap : Nat} {xs : List Int} (h : R l w) (ht : l[t]? = some (SlK T 1 (.slice (some ⟨g, 0, none⟩) n cap) n (xs.map (Value.int q)))) (i : Nat) (x : Int) (hn : 0 < n) :
    R (l.set t (SlK T 1 (.slice (some ⟨g, 0, none⟩) n cap) n ((xs.set i x).map (Value.int q)))) (w.setCell ⟨g, i, none⟩ (.int q x)) := by
  have := h.putRow ht i (.int q x) hn
  rwa [← List.map_set] at this
theorem R.made (h : R l w) (cur : Array Value) (n k : Nat) (hm : n ≤ maxLen) (hs : cur.size = n * k) : R (l ++ [SlK T k (.slice (some ⟨w.heap.size, 0, none⟩) n n) n cur.toList]) (w.alloc (.cells cur T)) := by
  obtain ⟨o, h⟩ := h
  refine h.add (((Ext.refl o w (fun _ => False)).retag (16 * l.length)).alloc _) (fun _ => False.elim) ?_
  exact SlAt.made cur n n (Nat.le_refl _) hm hs (by rw [← hs, ← Array.length_toList, List.take_length]) (upd_new (Nat.le_refl _))
end
end Go.Proofs.Ytcoaemjoanbemaa
