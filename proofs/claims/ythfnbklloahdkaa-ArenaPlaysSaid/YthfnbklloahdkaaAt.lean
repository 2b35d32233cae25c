/- quietusref04: Alloc, Free, New. Condition: the pointer leads to such blocks. -/
import Derived.Test.YthfnbklloahdkaaAs
namespace Go.Proofs.Ythfnbklloahdkaa
open Go.RowKit

theorem map_set_same {α β : Type} (f : α → β) (l : List α) (i : Nat) (x : α) (u : β) (hu : f x = u) : (l.map f).set i u = (l.set i x).map f := by rw [List.map_set, hu]
theorem map_set_keep {α β : Type} (f : α → β) (l : List α) (i : Nat) (x d : α) (h : f x = f (l.getD i d)) : (l.set i x).map f = l.map f := by
  by_cases hi : i < l.length
  · rw [List.map_set, h]
    apply List.ext_getElem?
    intro j
    rw [List.getElem?_set]
    by_cases e : i = j
    · subst e; simp [hi]
    · simp [e]
  · rw [List.set_eq_of_length_le (by omega)]

section
variable {o : Nat → Nat} {w : World} {t b g1 c1 g2 c2 g3 c3 : Nat} {ss : List Slot} {fault : Bool}
theorem RefAt.put1 (A : RefAt o w t b (.slice (some ⟨g1, 0, none⟩) ss.length c1) (.slice (some ⟨g2, 0, none⟩) ss.length c2) (.slice (some ⟨g3, 0, none⟩) ss.length c3) ss fault) {i j : Nat} (hj : j < 4) (hi : i < ss.length) (x : Slot) (u : Value)
    (h1 : ndL x.nd = (ndL (ss.getD i slot0).nd).set j u) (h2 : x.used = (ss.getD i slot0).used) (h3 : x.gen = (ss.getD i slot0).gen) :
    RefAt o (w.setCell ⟨g1, i * 4 + j, none⟩ u) t b (.slice (some ⟨g1, 0, none⟩) (ss.set i x).length c1) (.slice (some ⟨g2, 0, none⟩) (ss.set i x).length c2) (.slice (some ⟨g3, 0, none⟩) (ss.set i x).length c3) (ss.set i x) fault ∧
      Ext o o w (w.setCell ⟨g1, i * 4 + j, none⟩ u) (fun x => x = t) := by
  obtain ⟨g', cap', cur, hv, hg, hog, _⟩ := A.nodes.row (by omega)
  simp at hv
  obtain ⟨rfl, rfl⟩ := hv
  have hgi : (ss.map Slot.nd)[i]? = some (ss.getD i slot0).nd := by simp [hi]
  have hl : (ss.set i x).length = ss.length := List.length_set
  have hu : usedL (ss.set i x) = usedL ss := map_set_keep _ _ _ _ slot0 (by rw [h2])
  have hgn : gensL (ss.set i x) = gensL ss := map_set_keep _ _ _ _ slot0 (by rw [h3])
  refine ⟨⟨?_, ?_, ?_, ?_⟩, (Ext.refl o w _).put _ (.inl hog)⟩
  · rw [hl]; exact A.hdr.put_far (ne_of_type A.hdr.heap hg (by decide))
  · have := SlAt.putf ndL A.nodes ndL_len hj hgi x.nd u h1
    rw [← List.map_set] at this
    rw [hl]; exact this
  · rw [hl, hu]; exact A.used.put_far (A.used.apart hg (by decide))
  · rw [hl, hgn]; exact A.gens.put_far (A.gens.apart hg (by decide))
theorem RefAt.put2 (A : RefAt o w t b (.slice (some ⟨g1, 0, none⟩) ss.length c1) (.slice (some ⟨g2, 0, none⟩) ss.length c2) (.slice (some ⟨g3, 0, none⟩) ss.length c3) ss fault) {i : Nat} (hi : i < ss.length) (x : Slot)
    (h1 : x.nd = (ss.getD i slot0).nd) (h3 : x.gen = (ss.getD i slot0).gen) :
    RefAt o (w.setCell ⟨g2, i, none⟩ (.bool x.used)) t b (.slice (some ⟨g1, 0, none⟩) (ss.set i x).length c1) (.slice (some ⟨g2, 0, none⟩) (ss.set i x).length c2) (.slice (some ⟨g3, 0, none⟩) (ss.set i x).length c3) (ss.set i x) fault ∧
      Ext o o w (w.setCell ⟨g2, i, none⟩ (.bool x.used)) (fun x => x = t) := by
  obtain ⟨g', cap', cur, hv, hg, hog, _⟩ := A.used.row (by omega)
  simp at hv
  obtain ⟨rfl, rfl⟩ := hv
  have hl : (ss.set i x).length = ss.length := List.length_set
  have hn : nodesL (ss.set i x) = nodesL ss := by unfold nodesL; rw [map_set_keep Slot.nd ss i x slot0 h1]
  have hgn : gensL (ss.set i x) = gensL ss := map_set_keep _ _ _ _ slot0 (by rw [h3])
  refine ⟨⟨?_, ?_, ?_, ?_⟩, (Ext.refl o w _).put _ (.inl hog)⟩
  · rw [hl]; exact A.hdr.put_far (ne_of_type A.hdr.heap hg (by decide))
  · rw [hl, hn]; exact A.nodes.put_far (A.nodes.apart hg (by decide))
  · have := A.used.put1 i hi (.bool x.used)
    unfold usedL at this
    rw [map_set_same (fun s : Slot => Value.bool s.used) ss i x _ rfl] at this
    rw [hl]; exact this
  · rw [hl, hgn]; exact A.gens.put_far (A.gens.apart hg (by decide))
theorem RefAt.put3 (A : RefAt o w t b (.slice (some ⟨g1, 0, none⟩) ss.length c1) (.slice (some ⟨g2, 0, none⟩) ss.length c2) (.slice (some ⟨g3, 0, none⟩) ss.length c3) ss fault) {i : Nat} (hi : i < ss.length) (x : Slot)
    (h1 : x.nd = (ss.getD i slot0).nd) (h2 : x.used = (ss.getD i slot0).used) :
    RefAt o (w.setCell ⟨g3, i, none⟩ (.int .u64 x.gen)) t b (.slice (some ⟨g1, 0, none⟩) (ss.set i x).length c1) (.slice (some ⟨g2, 0, none⟩) (ss.set i x).length c2) (.slice (some ⟨g3, 0, none⟩) (ss.set i x).length c3) (ss.set i x) fault ∧
      Ext o o w (w.setCell ⟨g3, i, none⟩ (.int .u64 x.gen)) (fun x => x = t) := by
  obtain ⟨g', cap', cur, hv, hg, hog, _⟩ := A.gens.row (by omega)
  simp at hv
  obtain ⟨rfl, rfl⟩ := hv
  have hl : (ss.set i x).length = ss.length := List.length_set
  have hn : nodesL (ss.set i x) = nodesL ss := by unfold nodesL; rw [map_set_keep Slot.nd ss i x slot0 h1]
  have hu : usedL (ss.set i x) = usedL ss := map_set_keep _ _ _ _ slot0 (by rw [h2])
  refine ⟨⟨?_, ?_, ?_, ?_⟩, (Ext.refl o w _).put _ (.inl hog)⟩
  · rw [hl]; exact A.hdr.put_far (ne_of_type A.hdr.heap hg (by decide))
  · rw [hl, hn]; exact A.nodes.put_far (A.nodes.apart hg (by decide))
  · rw [hl, hu]; exact A.used.put_far (A.used.apart hg (by decide))
  · have := A.gens.put1 i hi (.int .u64 x.gen)
    unfold gensL at this
    rw [map_set_same (fun s : Slot => Value.int .u64 s.gen) ss i x _ rfl] at this
    rw [hl]; exact this

/-- A node over place i. -/
theorem RefAt.node (A : RefAt o w t b (.slice (some ⟨g1, 0, none⟩) ss.length c1) (.slice (some ⟨g2, 0, none⟩) ss.length c2) (.slice (some ⟨g3, 0, none⟩) ss.length c3) ss fault) {i : Nat} (hi : i < ss.length) (n : Nd) :
    RefAt o ((((w.setCell ⟨g1, i * 4, none⟩ (.string n.key)).setCell ⟨g1, i * 4 + 1, none⟩ (.string n.val)).setCell ⟨g1, i * 4 + 2, none⟩ (.int .u32 n.sum)).setCell ⟨g1, i * 4 + 3, none⟩ (.int .u64 n.next)) t b
      (.slice (some ⟨g1, 0, none⟩) ss.length c1) (.slice (some ⟨g2, 0, none⟩) ss.length c2) (.slice (some ⟨g3, 0, none⟩) ss.length c3) (ss.set i { ss.getD i slot0 with nd := n }) fault ∧
    Ext o o w ((((w.setCell ⟨g1, i * 4, none⟩ (.string n.key)).setCell ⟨g1, i * 4 + 1, none⟩ (.string n.val)).setCell ⟨g1, i * 4 + 2, none⟩ (.int .u32 n.sum)).setCell ⟨g1, i * 4 + 3, none⟩ (.int .u64 n.next)) (fun x => x = t) := by
  obtain ⟨A1, E1⟩ := A.put1 (j := 0) (by decide) hi { ss.getD i slot0 with nd := { (ss.getD i slot0).nd with key := n.key } } (.string n.key) rfl rfl rfl
  obtain ⟨A2, E2⟩ := A1.put1 (i := i) (j := 1) (by decide) (by simpa using hi) { ss.getD i slot0 with nd := { (ss.getD i slot0).nd with key := n.key, val := n.val } } (.string n.val) (by rw [getD_set_at _ _ _ hi]; rfl) (by rw [getD_set_at _ _ _ hi]) (by rw [getD_set_at _ _ _ hi])
  rw [List.set_set] at A2
  obtain ⟨A3, E3⟩ := A2.put1 (i := i) (j := 2) (by decide) (by simpa using hi) { ss.getD i slot0 with nd := { (ss.getD i slot0).nd with key := n.key, val := n.val, sum := n.sum } } (.int .u32 n.sum) (by rw [getD_set_at _ _ _ hi]; rfl) (by rw [getD_set_at _ _ _ hi]) (by rw [getD_set_at _ _ _ hi])
  rw [List.set_set] at A3
  obtain ⟨A4, E4⟩ := A3.put1 (i := i) (j := 3) (by decide) (by simpa using hi) { ss.getD i slot0 with nd := n } (.int .u64 n.next) (by rw [getD_set_at _ _ _ hi]; rfl) (by rw [getD_set_at _ _ _ hi]) (by rw [getD_set_at _ _ _ hi])
  rw [List.set_set, List.length_set] at A4
  exact ⟨A4, ((E1.trans E2).trans E3).trans E4⟩
end
end Go.Proofs.Ythfnbklloahdkaa
