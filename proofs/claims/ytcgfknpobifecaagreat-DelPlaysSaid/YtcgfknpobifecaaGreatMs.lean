/- A memory holds a map: chains of buckets; what a put does to it. Plain law, no condition. -/
import Derived.Test.YtcgfknpobifecaaGreatPrm
import Derived.Test.YtcgfknpobifecaaGreatLa10
namespace Go.Proofs.YtcgfknpobifecaaGreat
open Go.RowKit

section
variable {α : Type} {β : Type}
def updC (f : Nat → β) (i : Nat) (x : β) : Nat → β := fun j => if j = i then x else f j
theorem updC_at (f : Nat → β) (i : Nat) (x : β) : updC f i x i = x := if_pos rfl
theorem updC_ne (f : Nat → β) {i j : Nat} (x : β) (h : j ≠ i) : updC f i x j = f j := if_neg h
theorem flat_updC_ge (f : Nat → List α) (i : Nat) (x : List α) : ∀ n, n ≤ i → (List.range n).flatMap (updC f i x) = (List.range n).flatMap f
  | 0, _ => rfl
  | n + 1, h => by
    rw [List.range_succ, List.flatMap_append, List.flatMap_append, flat_updC_ge f i x n (by omega)]
    simp [updC_ne f x (show n ≠ i by omega)]
/-- One more in a bucket's chain is one more in all. -/
theorem flat_ins (f : Nat → List α) {B : Nat} {pre post : List α} (x : α) (h : f B = pre ++ post) : ∀ n, B < n → ((List.range n).flatMap (updC f B (pre ++ x :: post))).Perm (x :: (List.range n).flatMap f)
  | 0, hB => absurd hB (Nat.not_lt_zero _)
  | n + 1, hB => by
    rw [List.range_succ, List.flatMap_append, List.flatMap_append]
    simp only [List.flatMap_cons, List.flatMap_nil, List.append_nil]
    by_cases hn : B = n
    · subst hn
      rw [flat_updC_ge f B _ B (Nat.le_refl _), updC_at, h]
      exact (List.Perm.append_left _ List.perm_middle).trans List.perm_middle
    · rw [updC_ne f _ (show n ≠ B by omega)]
      exact (flat_ins f x h n (by omega)).append_right _
theorem updC_updC (f : Nat → β) (i : Nat) (x y : β) : updC (updC f i x) i y = updC f i y := by
  funext j
  unfold updC
  split <;> rfl
theorem updC_same (f : Nat → β) (i : Nat) : updC f i (f i) = f := by
  funext j
  unfold updC
  split
  · rename_i h; rw [h]
  · rfl
end
theorem lastD_mem : ∀ {xs : List Int} {d : Int}, xs ≠ [] → lastD xs d ∈ xs
  | [], _, h => absurd rfl h
  | [x], d, _ => by simp [lastD]
  | x :: y :: xs, d, _ => by
    show lastD (y :: xs) x ∈ _
    exact List.mem_cons_of_mem _ (lastD_mem (by simp))
theorem lastD_any : ∀ {xs : List Int} (d e : Int), xs ≠ [] → lastD xs d = lastD xs e
  | [], _, _, h => absurd rfl h
  | _ :: _, _, _, _ => rfl
/-- The places of two live handles differ. -/
theorem live_apart {ss : List Slot} {x y : Int} (hx : 0 ≤ atA ss x) (hy : 0 ≤ atA ss y) (hne : y ≠ x) {j : Nat} (hj : atA ss x = j) : y % 65536 ≠ j + 1 := fun he => by
  obtain ⟨i1, h1, _, _, hm1, hg1⟩ := atA_lt ss x hx
  obtain ⟨i2, h2, _, _, hm2, hg2⟩ := atA_lt ss y hy
  obtain rfl : i1 = j := by omega
  obtain rfl : i2 = i1 := by omega
  exact hne (by omega)
theorem free_apart {ss : List Slot} {y : Int} (hy : 0 ≤ atA ss y) {i : Nat} (hi : freeAt ss = some i) : y % 65536 ≠ i + 1 := fun he => by
  obtain ⟨i2, h2, _, hu, hm2, _⟩ := atA_lt ss y hy
  obtain rfl : i2 = i := by omega
  rw [(freeAt_some hi).2.1] at hu
  cases hu
theorem rdNd_at {ss : List Slot} {x : Int} {i : Nat} (h : atA ss x = i) : readNd ss x = (ss.getD i slot0).nd := by
  unfold readNd
  rw [if_pos (by omega), h]
  rfl
section
variable {ss : List Slot}
/-- A slot whose node's next one is turned. -/
def nextS (x : Slot) (y : Int) : Slot := { x with nd := { x.nd with next := y } }
theorem linkS_is {p y : Int} {j : Nat} (hj : atA ss p = j) : linkS ss p y = ss.set j (nextS (ss.getD j slot0) y) := by
  rw [linkS, if_pos (by omega), hj, Int.toNat_natCast]
  rfl
theorem link_at {p y : Int} {j : Nat} (hj : atA ss p = j) (z : Int) : atA (ss.set j (nextS (ss.getD j slot0) y)) z = atA ss z := by
  obtain ⟨i, hi, hil, _⟩ := atA_lt ss p (by omega)
  obtain rfl : i = j := by omega
  by_cases he : z % 65536 = i + 1
  · unfold atA
    rw [List.length_set, show (z % 65536).toNat - 1 = i by omega, getD_set_at _ _ _ hil]
    rfl
  · exact atA_set _ _ _ _ he
theorem link_rd {p y : Int} {j : Nat} (hj : atA ss p = j) {z : Int} (hz : 0 ≤ atA ss z) : readNd (ss.set j (nextS (ss.getD j slot0) y)) z = if z = p then { readNd ss p with next := y } else readNd ss z := by
  obtain ⟨i, hi, hil, _⟩ := atA_lt ss p (by omega)
  obtain rfl : i = j := by omega
  by_cases he : z = p
  · subst he
    rw [if_pos rfl, rdNd_at ((link_at hj z).trans hj), getD_set_at _ _ _ hil, rdNd_at hj]
    rfl
  · rw [if_neg he]
    exact rdNd_set (live_apart (by omega) hz he hj)
/-- A chain behind one of its links is turned. -/
theorem Chn.link {p x : Int} {j : Nat} (hj : atA ss p = j) {tl : List Int} (ht : Chn (ss.set j (nextS (ss.getD j slot0) x)) x tl) {rest : List Int} : ∀ {pre : List Int} {h : Int}, pre ≠ [] → (∀ d, lastD pre d = p) → pre.Nodup → Chn ss h (pre ++ rest) → Chn (ss.set j (nextS (ss.getD j slot0) x)) h (pre ++ tl)
  | [], _, h, _, _, _ => absurd rfl h
  | [y], h, _, hl, _, hc => by
    have hyp : y = p := hl 0
    subst hyp
    obtain ⟨h1, h2, h3, _⟩ := hc
    refine ⟨h1, h2, by rw [link_at hj]; exact h3, ?_⟩
    rw [link_rd hj h3, if_pos rfl]
    exact ht
  | y :: z :: pre, h, _, hl, hn, hc => by
    obtain ⟨h1, h2, h3, h4⟩ := hc
    have hyn := (List.nodup_cons.1 hn).1
    have hpm : p ∈ z :: pre := by
      rw [← hl 0]
      exact lastD_mem (xs := z :: pre) (d := y) (by simp)
    have hyp : y ≠ p := fun e => hyn (e ▸ hpm)
    refine ⟨h1, h2, by rw [link_at hj]; exact h3, ?_⟩
    rw [link_rd hj h3, if_neg hyp]
    exact Chn.link hj ht (by simp) (fun d => (lastD_any d y (by simp)).trans (hl 0)) (List.nodup_cons.1 hn).2 h4
/-- A chain in which the turned one isn't. -/
theorem Chn.besides {p x : Int} {j : Nat} (hj : atA ss p = j) : ∀ {xs : List Int} {h : Int}, Chn ss h xs → p ∉ xs → Chn (ss.set j (nextS (ss.getD j slot0) x)) h xs
  | [], h, hc, _ => hc
  | y :: xs, h, hc, hn => by
    obtain ⟨h1, h2, h3, h4⟩ := hc
    refine ⟨h1, h2, by rw [link_at hj]; exact h3, ?_⟩
    have hyp : y ≠ p := fun e => hn (by rw [e]; exact List.mem_cons_self)
    rw [link_rd hj h3, if_neg hyp]
    exact h4.besides hj fun hm => hn (List.mem_cons_of_mem _ hm)
end
/-- The part of a chain behind its beginning. -/
theorem Chn.tail {ss : List Slot} {x : Int} {post : List Int} : ∀ {pre : List Int} {h : Int}, Chn ss h (pre ++ x :: post) → Chn ss (readNd ss x).next post
  | [], _, hc => hc.2.2.2
  | _ :: _, _, hc => Chn.tail (hc.2.2.2)

theorem inj_nodup {α β : Type} {f : α → β} : ∀ {l : List α}, (l.map f).Nodup → ∀ x ∈ l, ∀ y ∈ l, f x = f y → x = y
  | [], _, _, hx, _, _, _ => absurd hx List.not_mem_nil
  | a :: l, h, x, hx, y, hy, he => by
    rw [List.map_cons, List.nodup_cons] at h
    rcases List.mem_cons.1 hx with hx1 | hx1
    · rcases List.mem_cons.1 hy with hy1 | hy1
      · rw [hx1, hy1]
      · exact absurd (List.mem_map.2 ⟨y, hy1, by rw [← he, hx1]⟩) h.1
    · rcases List.mem_cons.1 hy with hy1 | hy1
      · exact absurd (List.mem_map.2 ⟨x, hx1, by rw [he, hy1]⟩) h.1
      · exact inj_nodup h.2 x hx1 y hy1 he
def nodesC (n : Nat) (chs : Nat → List Int) : List Int := (List.range n).flatMap chs
def entC (ss : List Slot) (x : Int) : Pk := ⟨(readNd ss x).key, (readNd ss x).val⟩
/-- A memory holds a map: n buckets from the cell base on, their chains. -/
structure MapM (m : MemS) (n base : Nat) (chs : Nat → List Int) (want : List Pk) : Prop where
  pw : powB n = true
  n0 : 0 < n
  tab : descOf m (wrap64 (m.cells.getD 1 0)) = ((n : Int), (base : Int))
  lo : 5 ≤ base
  hi : base + n ≤ m.cells.length
  chain : ∀ B, B < n → Chn m.ss (m.cells.getD (base + B) 0) (chs B)
  right : ∀ B, B < n → ∀ x ∈ chs B, (readNd m.ss x).sum = sumOf (readNd m.ss x).key ∧ sumOf (readNd m.ss x).key % n = B
  pool : Pool m.ss (nodesC n chs ++ m.waiting)
  ents : ((nodesC n chs).map (entC m.ss)).Perm want
  keys : (want.map Pk.key).Nodup
  locks : m.locks = List.replicate 6 (-1)
  fault : m.fault = false
  len : m.ss.length ≤ 1024
  gen : GenOk m.ss m.gen ∧ m.gen ≤ 1000000
section
variable {m : MemS} {n base : Nat} {chs : Nat → List Int} {want : List Pk}
theorem mem_nodesC {x : Int} : x ∈ nodesC n chs ↔ ∃ B, B < n ∧ x ∈ chs B := by
  simp [nodesC, List.mem_flatMap]
theorem MapM.perm (h : MapM m n base chs want) {want' : List Pk} (p : want'.Perm want) : MapM m n base chs want' :=
  { h with ents := h.ents.trans p.symm, keys := (p.map Pk.key).nodup_iff.2 h.keys }
theorem MapM.live (h : MapM m n base chs want) {B : Nat} (hB : B < n) {x : Int} (hx : x ∈ chs B) : 0 ≤ atA m.ss x := ((h.chain B hB).live x hx).2
theorem MapM.isK_iff (h : MapM m n base chs want) {B : Nat} (hB : B < n) {x : Int} (hx : x ∈ chs B) (key : ByteArray) : isK m.ss key x ↔ (readNd m.ss x).key = key := by
  constructor
  · exact fun h => h.2
  · intro he
    refine ⟨?_, he⟩
    rw [(h.right B hB x hx).1, he]
/-- Nodes of a key are in its bucket. -/
theorem MapM.bucket (h : MapM m n base chs want) {x : Int} (hx : x ∈ nodesC n chs) : x ∈ chs (sumOf (readNd m.ss x).key % n) := by
  obtain ⟨B, hB, hxB⟩ := mem_nodesC.1 hx
  rw [(h.right B hB x hxB).2]
  exact hxB
theorem MapM.mem_key (h : MapM m n base chs want) (key : ByteArray) : key ∈ want.map Pk.key ↔ ∃ x ∈ chs (sumOf key % n), (readNd m.ss x).key = key := by
  have hp := (h.ents.map Pk.key).mem_iff (a := key)
  rw [← hp]
  constructor
  · intro hm
    obtain ⟨p, hp1, hp2⟩ := List.mem_map.1 hm
    obtain ⟨x, hx, rfl⟩ := List.mem_map.1 hp1
    have hk : (readNd m.ss x).key = key := hp2
    have := h.bucket hx
    rw [hk] at this
    exact ⟨x, this, hk⟩
  · rintro ⟨x, hx, hk⟩
    exact List.mem_map.2 ⟨entC m.ss x, List.mem_map.2 ⟨x, mem_nodesC.2 ⟨_, Nat.mod_lt _ h.n0, hx⟩, rfl⟩, hk⟩
theorem MapM.nodup (h : MapM m n base chs want) : (nodesC n chs).Nodup := (List.nodup_append.1 h.pool.nd).1
theorem flat_sub (f : Nat → List Int) {B : Nat} : ∀ n, B < n → (f B).Sublist ((List.range n).flatMap f)
  | 0, hB => absurd hB (Nat.not_lt_zero _)
  | n + 1, hB => by
    rw [List.range_succ, List.flatMap_append]
    simp only [List.flatMap_cons, List.flatMap_nil, List.append_nil]
    by_cases hn : B = n
    · subst hn; exact List.sublist_append_right _ _
    · exact (flat_sub f n (by omega)).trans (List.sublist_append_left _ _)
theorem MapM.nodupB (h : MapM m n base chs want) {B : Nat} (hB : B < n) : (chs B).Nodup := (flat_sub chs n hB).nodup h.nodup
/-- Two nodes of one key are one. -/
theorem MapM.uniq (h : MapM m n base chs want) {x y : Int} (hx : x ∈ nodesC n chs) (hy : y ∈ nodesC n chs) (he : (readNd m.ss x).key = (readNd m.ss y).key) : x = y := by
  have hn : ((nodesC n chs).map fun x => (readNd m.ss x).key).Nodup := by
    have := ((h.ents.map Pk.key).nodup_iff).2 h.keys
    rwa [List.map_map] at this
  exact inj_nodup hn x hx y hy he
theorem MapM.count (h : MapM m n base chs want) : (nodesC n chs).length = want.length := by
  have := h.ents.length_eq
  rwa [List.length_map] at this
end
end Go.Proofs.YtcgfknpobifecaaGreat
