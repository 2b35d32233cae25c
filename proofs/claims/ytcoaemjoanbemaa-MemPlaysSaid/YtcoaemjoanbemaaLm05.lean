/- MemPlays: what it keeps of nodes. No condition. -/
import Derived.Test.YtcoaemjoanbemaaXe
import Derived.Test.YtcoaemjoanbemaaPl
namespace Go.Proofs.Ytcoaemjoanbemaa
open Go.RowKit

theorem readNd_at {ss : List Slot} {x : Int} {i : Nat} (h : atA ss x = i) : readNd ss x = (ss.getD i slot0).nd := by
  unfold readNd
  rw [if_pos (by omega), h]
  rfl
theorem readNd_set {ss : List Slot} {i : Nat} {x : Slot} {h : Int} (hne : h % 65536 ≠ i + 1) : readNd (ss.set i x) h = readNd ss h := by
  unfold readNd
  rw [atA_set _ _ _ _ hne]
  by_cases h0 : 0 ≤ atA ss h
  · rw [if_pos h0, if_pos h0]
    obtain ⟨j, hj, _, _, hm, _⟩ := atA_lt ss h h0
    rw [hj, Int.toNat_natCast, getD_set_no ss x (show i ≠ j by omega)]
  · rw [if_neg h0, if_neg h0]
theorem getD_mem' {xs : List Int} {j : Nat} (hj : j < xs.length) : xs.getD j 0 ∈ xs := by
  rw [show xs.getD j 0 = xs[j] by simp [hj]]
  exact List.getElem_mem _
theorem NodesOk.start (n : Nat) : NodesOk (List.replicate n slot0) [] [] := by
  refine ⟨List.nodup_nil, fun x _ => ⟨fun h => absurd h List.not_mem_nil, fun h => ?_⟩, fun x h => absurd h List.not_mem_nil, rfl, fun i h => absurd h (Nat.not_lt_zero _), fun i => ⟨by simp, by simp⟩⟩
  obtain ⟨j, _, _, hu, _⟩ := atA_lt _ _ h
  have : (List.replicate n slot0).getD j slot0 = slot0 := by
    rw [List.getD_eq_getElem?_getD, List.getElem?_replicate]; split <;> rfl
  rw [this] at hu
  cases hu
section
variable {ss : List Slot} {nodes next : List Int}
theorem NodesOk.alloc (h : NodesOk ss nodes next) {c : Int} (hl : ss.length ≤ 1024) (hg : GenOk ss c) (hc : c ≤ 1000000) {i : Nat} (hi : freeAt ss = some i) {nd : Nd} (hn : U64 nd.next) :
    NodesOk (ss.set i (taken (ss.getD i slot0) nd)) (nodes ++ [hnd ss i]) (next ++ [nd.next]) := by
  obtain ⟨h1, h2, _⟩ := freeAt_some hi
  have hmod := hnd_mod (ss := ss) (i := i) (by omega)
  have hdiv := hnd_div (ss := ss) (i := i) (by omega)
  have hu := hnd_u64 (ss := ss) (i := i) (by omega) hg hc
  have hno : ∀ x, 0 ≤ atA ss x → x % 65536 ≠ i + 1 := fun x hx he => by
    obtain ⟨j, _, _, hu, hj, _⟩ := atA_lt ss x hx
    obtain rfl : i = j := by omega
    rw [h2] at hu; cases hu
  have hfr : hnd ss i ∉ nodes := fun hm => hno _ ((h.mem _ hu).1 hm) hmod
  have hnew : atA (ss.set i (taken (ss.getD i slot0) nd)) (hnd ss i) = i :=
    atA_of _ _ (by rw [List.length_set]; exact hl) i (by rw [List.length_set]; exact h1) (by rw [getD_set_at _ _ _ h1]; rfl) (by rw [getD_set_at _ _ _ h1]; rfl)
  refine ⟨?_, fun x hx => ?_, fun x hx => ?_, by simp [h.len], fun k hk => ?_, fun k => ?_⟩
  · rw [List.nodup_append]
    refine ⟨h.nd, by simp, fun a ha b hb => ?_⟩
    simp only [List.mem_singleton] at hb
    subst hb
    exact fun e => hfr (e ▸ ha)
  · rw [List.mem_append, List.mem_singleton]
    by_cases he : x % 65536 = i + 1
    · constructor
      · rintro (h3 | rfl)
        · exact absurd he (hno x ((h.mem x hx).1 h3))
        · rw [hnew]; omega
      · intro h3
        obtain ⟨j, hj, _, _, hm, hgen⟩ := atA_lt _ x h3
        obtain rfl : i = j := by omega
        rw [getD_set_at _ _ _ h1] at hgen
        have hgen : (ss.getD i slot0).gen = x / 65536 := hgen
        exact .inr (by omega)
    · rw [atA_set _ _ _ _ he, ← h.mem x hx]
      constructor
      · rintro (h3 | rfl)
        · exact h3
        · exact absurd hmod he
      · exact .inl
  · rcases List.mem_append.1 hx with h3 | h3
    · exact h.u64 x h3
    · simp only [List.mem_singleton] at h3; subst h3; exact hu
  · by_cases hkl : k < nodes.length
    · have e1 : (next ++ [nd.next]).getD k 0 = next.getD k 0 := by simp [List.getElem?_append_left, h.len, hkl]
      have e2 : (nodes ++ [hnd ss i]).getD k 0 = nodes.getD k 0 := by simp [List.getElem?_append_left, hkl]
      rw [e1, e2, readNd_set (hno _ ((h.mem _ (h.u64 _ (getD_mem' hkl))).1 (getD_mem' hkl))), h.nx k hkl]
    · obtain rfl : k = nodes.length := by simp at hk; omega
      have e1 : (next ++ [nd.next]).getD nodes.length 0 = nd.next := by rw [← h.len]; simp
      have e2 : (nodes ++ [hnd ss i]).getD nodes.length 0 = hnd ss i := by simp
      rw [e1, e2, readNd_at hnew, getD_set_at _ _ _ h1]
      rfl
  · by_cases hkl : k < next.length
    · have e1 : (next ++ [nd.next]).getD k 0 = next.getD k 0 := by simp [List.getElem?_append_left, hkl]
      rw [e1]; exact h.nxu k
    · by_cases hk : k = next.length
      · subst hk
        have e1 : (next ++ [nd.next]).getD next.length 0 = nd.next := by simp
        rw [e1]; exact hn
      · have e1 : (next ++ [nd.next]).getD k 0 = 0 := by
          rw [List.getD_eq_getElem?_getD, List.getElem?_eq_none (by simp; omega)]; rfl
        rw [e1]; exact ⟨by decide, by decide⟩
/-- The places of two nodes differ. -/
theorem NodesOk.apart (h : NodesOk ss nodes next) {j k : Nat} (hj : j < nodes.length) (hk : k < nodes.length) (hjk : j ≠ k) {i : Nat} (hi : atA ss (nodes.getD j 0) = i) : nodes.getD k 0 % 65536 ≠ i + 1 := fun he => by
  obtain ⟨i1, h1, _, _, hm1, hg1⟩ := atA_lt ss _ (by omega : 0 ≤ atA ss (nodes.getD j 0))
  obtain ⟨i2, h2, _, _, hm2, hg2⟩ := atA_lt ss _ ((h.mem _ (h.u64 _ (getD_mem' hk))).1 (getD_mem' hk))
  obtain rfl : i1 = i := by omega
  obtain rfl : i2 = i1 := by omega
  have he2 : nodes.getD j 0 = nodes.getD k 0 := by omega
  have hp := List.pairwise_iff_getElem.1 h.nd
  have e1 : nodes.getD j 0 = nodes[j] := by simp [hj]
  have e2 : nodes.getD k 0 = nodes[k] := by simp [hk]
  rw [e1, e2] at he2
  rcases Nat.lt_or_gt_of_ne hjk with hlt | hlt
  · exact hp j k hj hk hlt he2
  · exact hp k j hk hj hlt he2.symm
theorem NodesOk.link (h : NodesOk ss nodes next) {j : Nat} (hj : j < nodes.length) {y : Int} (hy : U64 y) :
    NodesOk (linkS ss (nodes.getD j 0) y) nodes (next.set j y) := by
  have h0 : 0 ≤ atA ss (nodes.getD j 0) := (h.mem _ (h.u64 _ (getD_mem' hj))).1 (getD_mem' hj)
  obtain ⟨i, hi, hil, hu, hm, hg⟩ := atA_lt ss _ h0
  have hat : ∀ x, atA (linkS ss (nodes.getD j 0) y) x = atA ss x := fun x => by
    rw [linkS, if_pos h0, hi, Int.toNat_natCast]
    by_cases he : x % 65536 = i + 1
    · unfold atA
      rw [List.length_set, show (x % 65536).toNat - 1 = i by omega, getD_set_at _ _ _ hil]
    · exact atA_set _ _ _ _ he
  refine ⟨h.nd, fun x hx => by rw [hat]; exact h.mem x hx, h.u64, by simpa using h.len, fun k hk => ?_, fun k => ?_⟩
  · by_cases hjk : j = k
    · subst hjk
      have e1 : (next.set j y).getD j 0 = y := by simp [h.len, hj]
      rw [e1, readNd_at ((hat _).trans hi), linkS, if_pos h0, hi, Int.toNat_natCast, getD_set_at _ _ _ hil]
    · have e1 : (next.set j y).getD k 0 = next.getD k 0 := by simp [List.getElem?_set_ne hjk]
      rw [e1, h.nx k hk, linkS, if_pos h0, hi, Int.toNat_natCast, readNd_set (h.apart hj hk hjk hi)]
  · by_cases hjk : j = k
    · subst hjk
      by_cases hjl : j < next.length
      · have e1 : (next.set j y).getD j 0 = y := by simp [hjl]
        rw [e1]; exact hy
      · rw [List.set_eq_of_length_le (by omega)]; exact h.nxu j
    · have e1 : (next.set j y).getD k 0 = next.getD k 0 := by simp [List.getElem?_set_ne hjk]
      rw [e1]; exact h.nxu k
theorem cutD (xs : List Int) (j k : Nat) (hj : j < xs.length) : (xs.take j ++ xs.drop (j + 1)).getD k 0 = if k < j then xs.getD k 0 else xs.getD (k + 1) 0 := by
  have hlt : (xs.take j).length = j := by rw [List.length_take]; omega
  by_cases h : k < j
  · rw [if_pos h, List.getD_eq_getElem?_getD, List.getElem?_append_left (by omega), List.getElem?_take, if_pos h, List.getD_eq_getElem?_getD]
  · rw [if_neg h, List.getD_eq_getElem?_getD, List.getElem?_append_right (by omega), hlt, List.getElem?_drop, List.getD_eq_getElem?_getD, show j + 1 + (k - j) = k + 1 by omega]
theorem NodesOk.free (h : NodesOk ss nodes next) {j : Nat} (hj : j < nodes.length) {i : Nat} (hi : atA ss (nodes.getD j 0) = i) :
    NodesOk (ss.set i (freed (ss.getD i slot0))) (nodes.take j ++ nodes.drop (j + 1)) (next.take j ++ next.drop (j + 1)) := by
  have hxs : nodes = nodes.take j ++ nodes.getD j 0 :: nodes.drop (j + 1) := by
    rw [show nodes.getD j 0 = nodes[j] by simp [hj], List.getElem_cons_drop, List.take_append_drop]
  have hp : (nodes.getD j 0 :: (nodes.take j ++ nodes.drop (j + 1))).Perm nodes := by
    conv => rhs; rw [hxs]
    exact List.perm_middle.symm
  obtain ⟨i', hi', hil, hu, hm, hg⟩ := atA_lt ss _ (by omega : 0 ≤ atA ss (nodes.getD j 0))
  obtain rfl : i = i' := by omega
  have hnd := (hp.nodup_iff).2 h.nd
  obtain ⟨hx, hL⟩ := List.nodup_cons.1 hnd
  have hst := stale_freed hi
  have hlen : (nodes.take j ++ nodes.drop (j + 1)).length = nodes.length - 1 := by rw [List.length_append, List.length_take, List.length_drop]; omega
  refine ⟨hL, fun x hxu => ?_, fun x hxm => h.u64 x (hp.mem_iff.1 (List.mem_cons_of_mem _ hxm)), ?_, fun k hk => ?_, fun k => ?_⟩
  · constructor
    · intro hxm
      have h1 := (h.mem x hxu).1 (hp.mem_iff.1 (List.mem_cons_of_mem _ hxm))
      rw [atA_set]
      · exact h1
      · intro he
        obtain ⟨i2, h2, _, _, hm2, hg2⟩ := atA_lt ss x h1
        obtain rfl : i2 = i := by omega
        have : x = nodes.getD j 0 := by omega
        rw [this] at hxm
        exact hx hxm
    · intro hxa
      by_cases he : x % 65536 = i + 1
      · obtain ⟨i2, h2, _, hu2, hm2, hg2⟩ := atA_lt _ x hxa
        obtain rfl : i2 = i := by omega
        rw [getD_set_at _ _ _ hil] at hu2
        cases hu2
      · rw [atA_set _ _ _ _ he] at hxa
        rcases List.mem_cons.1 (hp.mem_iff.2 ((h.mem x hxu).2 hxa)) with h3 | h3
        · rw [h3] at he; exact absurd hm he
        · exact h3
  · rw [List.length_append, List.length_append, List.length_take, List.length_take, List.length_drop, List.length_drop, h.len]
  · rw [hlen] at hk
    rw [cutD _ _ _ hj, cutD _ _ _ (by rw [h.len]; exact hj)]
    by_cases hkj : k < j
    · rw [if_pos hkj, if_pos hkj, h.nx k (by omega), readNd_set (h.apart hj (by omega) (by omega) hi)]
    · rw [if_neg hkj, if_neg hkj, h.nx (k + 1) (by omega), readNd_set (h.apart hj (by omega) (by omega) hi)]
  · rw [cutD _ _ _ (by rw [h.len]; exact hj)]
    split
    · exact h.nxu k
    · exact h.nxu (k + 1)
end
end Go.Proofs.Ytcoaemjoanbemaa
