/- arena.New. Plain laws on an arena's free places. No program. -/
import Derived.Test.YtcgfknpobifecaaGreatAmm
namespace Go.Proofs.YtcgfknpobifecaaGreat
open Go.RowKit

theorem slot_info : (Tryz.prog.info? 159).map (fun i => (i.zero, i.size, i.bytes)) = some (some (.agg #[.string ⟨#[]⟩, .string ⟨#[]⟩, .int .u32 0, .int .u64 0, .bool false, .int .u64 0]), 6, 64) := by kernel_rfl

theorem madeCells_flat {α : Type} (f : α → List Value) (k : Nat) (hk : ∀ x, (f x).length = k) (h0 : 0 < k) (x : α) (z : Array Value) (hz : z.toList = f x) (n : Nat) : (madeCells z (n * k)).toList = (List.replicate n x).flatMap f := by
  have hzs : z.size = k := by rw [← hk x, ← hz]; rfl
  apply List.ext_getElem?
  intro p
  have hp : p = (p / k) * k + p % k := by rw [Nat.mul_comm]; exact (Nat.div_add_mod p k).symm
  have hlt : p % k < k := Nat.mod_lt _ h0
  rw [hp, flat_get f k hk _ _ _ hlt, ← hp]
  simp only [madeCells, Array.getElem?_toList, List.getElem?_replicate]
  by_cases h : p < n * k
  · have h2 : p / k < n := Nat.div_lt_of_lt_mul (by rw [Nat.mul_comm]; exact h)
    have hidx : p % k < z.size := by omega
    rw [if_pos h2]
    simp only [Option.bind_some, ← hz, Array.getElem?_toList]
    rw [Array.getElem?_map, Array.getElem?_range, if_pos h, hzs]
    simp [hidx]
  · have h2 : ¬ p / k < n := fun hq => h (by
      have := Nat.lt_mul_of_div_lt hq h0
      rw [Nat.mul_comm] at this; first | exact this | (rw [Nat.mul_comm]; exact this))
    rw [if_neg h2]
    simp [h]

def ints (n : Nat) : List Int := (List.range n).map Int.ofNat
def NewPost (o : Nat → Nat) (t t2 n : Nat) (w : World) (e : Ending) (w' : World) : Prop :=
  ∃ o' b p sv xs, e = .returned (.tuple #[.pointer (some ⟨b, 0, none⟩), .int .i64 0]) ∧ ArenaAt o' w' t t2 b p sv (List.replicate n slot0) xs false ∧ IsHeap xs ∧ xs.Perm (ints n) ∧ Ext o o' w w' (fun x => x = t2)

set_option maxHeartbeats 400000 in
theorem arena_new_no (n : Int) (h : n < 1 ∨ 1024 < n) (w : World) :
    Calls Tryz.prog 70 #[.int .i64 n] w fun e w' => e = .returned (.tuple #[.pointer none, .int .i64 2]) ∧ w = w' := by
  by_cases h0 : n < 1
  · clear h
    go_enter Tryz.func70, Tryz.ntmps70
    go_wp2
    go_ret2
    exact ⟨rfl, rfl⟩
  · have h1 : 1024 < n := by omega
    clear h
    go_enter Tryz.func70, Tryz.ntmps70
    go_wp2
    go_ret2
    exact ⟨rfl, rfl⟩

/-- A new arena, its heap empty. -/
theorem arena_made (o : Nat → Nat) (t t2 n : Nat) (h1 : n ≤ 1024) (w : World) (cur : Array Value) (hcur : cur.toList = (List.replicate n slot0).flatMap slotL) :
    ∃ o', ArenaAt o' ((((w.alloc (.cells cur 159)).alloc (.cells #[] 3)).alloc (.cells #[.slice (some ⟨w.heap.size + 1, 0, none⟩) 0 0] 145)).alloc
      (.cells #[.slice (some ⟨w.heap.size, 0, none⟩) n n, .pointer (some ⟨w.heap.size + 1 + 1, 0, none⟩), .bool false] 93)) t t2 (w.heap.size + 1 + 1 + 1) (w.heap.size + 1 + 1) (.slice (some ⟨w.heap.size, 0, none⟩) n n) (List.replicate n slot0) [] false ∧
      Ext o o' w ((((w.alloc (.cells cur 159)).alloc (.cells #[] 3)).alloc (.cells #[.slice (some ⟨w.heap.size + 1, 0, none⟩) 0 0] 145)).alloc
      (.cells #[.slice (some ⟨w.heap.size, 0, none⟩) n n, .pointer (some ⟨w.heap.size + 1 + 1, 0, none⟩), .bool false] 93)) (fun x => x = t2) := by
  have z1 : (w.alloc (.cells cur 159)).heap.size = w.heap.size + 1 := by simp
  have hlen : cur.size = n * 6 := by
    have := congrArg List.length hcur
    rw [flat_len slotL 6 slotL_len, List.length_replicate] at this
    simpa using this
  have hrl : (List.replicate n slot0).length = n := List.length_replicate
  have e1 := ((Ext.refl o w (fun _ => False)).retag t).alloc (.cells cur 159)
  have s1 : SlAt (upd o w.heap.size t) (w.alloc (.cells cur 159)) t 159 6 (.slice (some ⟨w.heap.size, 0, none⟩) n n) (List.replicate n slot0).length ((List.replicate n slot0).flatMap slotL) := by
    rw [hrl]
    exact SlAt.made cur n n (Nat.le_refl _) (by unfold maxLen; omega) hlen (by rw [← hcur, List.take_of_length_le]; rw [Array.length_toList, hlen]; exact Nat.le_refl _) (upd_new (Nat.le_refl _))
  generalize w.alloc (.cells cur 159) = w1 at *
  have e2 := ((Ext.refl (upd o w.heap.size t) w1 (fun _ => False)).retag t2).alloc (.cells #[] 3)
  have s2 : SlAt (upd (upd o w.heap.size t) w1.heap.size t2) (w1.alloc (.cells #[] 3)) t2 3 1 (.slice (some ⟨w1.heap.size, 0, none⟩) 0 0) 0 [] := SlAt.made #[] 0 0 (Nat.le_refl _) (Nat.zero_le _) rfl rfl (upd_new (Nat.le_refl _))
  have z2 : (w1.alloc (.cells #[] 3)).heap.size = w.heap.size + 1 + 1 := by simp [z1]
  rw [z1] at s2 e2
  generalize w1.alloc (.cells #[] 3) = w2 at *
  generalize upd (upd o w.heap.size t) (w.heap.size + 1) t2 = o2 at *
  have e3 := ((Ext.refl o2 w2 (fun _ => False)).retag t2).alloc (.cells #[.slice (some ⟨w.heap.size + 1, 0, none⟩) 0 0] 145)
  have s3 : StAt (upd o2 w2.heap.size t2) (w2.alloc (.cells #[.slice (some ⟨w.heap.size + 1, 0, none⟩) 0 0] 145)) t2 w2.heap.size #[.slice (some ⟨w.heap.size + 1, 0, none⟩) 0 0] 145 := ⟨blk_new _ _, upd_new (Nat.le_refl _)⟩
  have z3 : (w2.alloc (.cells #[.slice (some ⟨w.heap.size + 1, 0, none⟩) 0 0] 145)).heap.size = w.heap.size + 1 + 1 + 1 := by simp [z2]
  rw [z2] at s3 e3
  generalize w2.alloc (.cells #[.slice (some ⟨w.heap.size + 1, 0, none⟩) 0 0] 145) = w3 at *
  generalize upd o2 (w.heap.size + 1 + 1) t2 = o3 at *
  have e4 := ((Ext.refl o3 w3 (fun _ => False)).retag t).alloc (.cells #[.slice (some ⟨w.heap.size, 0, none⟩) n n, .pointer (some ⟨w.heap.size + 1 + 1, 0, none⟩), .bool false] 93)
  have s4 : StAt (upd o3 w3.heap.size t) (w3.alloc (.cells #[.slice (some ⟨w.heap.size, 0, none⟩) n n, .pointer (some ⟨w.heap.size + 1 + 1, 0, none⟩), .bool false] 93)) t w3.heap.size #[.slice (some ⟨w.heap.size, 0, none⟩) n n, .pointer (some ⟨w.heap.size + 1 + 1, 0, none⟩), .bool false] 93 := ⟨blk_new _ _, upd_new (Nat.le_refl _)⟩
  rw [z3] at s4 e4
  refine ⟨_, ⟨s4, ((s1.ext e2 id).ext e3 id).ext e4 id, _, (s3.ext e4 id), (s2.ext e3 id).ext e4 id⟩, (((e1.trans e2).trans e3).trans e4).none⟩

theorem ints_succ (k : Nat) : ints (k + 1) = ints k ++ [(k : Int)] := by simp [ints, List.range_succ]

set_option maxRecDepth 100000 in
set_option maxHeartbeats 800000 in
theorem arena_new (o : Nat → Nat) (t t2 n : Nat) (ht : t ≠ t2) (h0 : 1 ≤ n) (h1 : n ≤ 1024) (w : World) : Calls Tryz.prog 70 #[.int .i64 n] w (NewPost o t t2 n w) := by
  obtain ⟨i0, hi, hz0, hz1, hz2⟩ := info_parts slot_info
  have hmk := fun W => run_make (P := Tryz.prog) W 90 159 i0 _ Tryz.underlying90 hi hz0 .i64 .i64 n n (by omega) (Int.le_refl _) (by rw [hz2]; omega) (by omega)
  rw [hz1, Int.toNat_natCast] at hmk
  clear hi hz0 hz1 hz2
  go_enter Tryz.func70, Tryz.ntmps70
  go_wp2
  obtain ⟨o1, A0, e0⟩ := arena_made o t t2 n h1 w (madeCells #[.string ⟨#[]⟩, .string ⟨#[]⟩, .int .u32 0, .int .u64 0, .bool false, .int .u64 0] (n * 6)) (madeCells_flat slotL 6 slotL_len (by decide) slot0 _ rfl n)
  clear hmk
  generalize World.alloc _ _ = w4 at A0 e0 ⊢
  generalize w.heap.size + 1 + 1 + 1 = b at A0 ⊢
  generalize w.heap.size + 1 + 1 = p at A0 ⊢
  generalize Value.slice (some ⟨w.heap.size, 0, none⟩) n n = sv at A0 ⊢
  go_loopw [19] (fun i wr => ∃ (k : Nat) (o1 : Nat → Nat) (xs : List Int), k ≤ n ∧ i = .int .i64 k ∧ ArenaAt o1 wr t t2 b p sv (List.replicate n slot0) xs false ∧ IsHeap xs ∧ xs.Perm (ints k) ∧ Ext o o1 w wr (fun x => x = t2)) (fun i _ => n - (intOf i).toNat)
  case atStart => exact ⟨0, o1, [], Nat.zero_le _, rfl, A0, fun i _ h => by simp at h, .refl _, e0⟩
  case round =>
    obtain ⟨k, o1, xs, hk, rfl, A, hh, hp, e⟩ := hrel
    have hhd := A.hdr.heap
    have hxl : xs.length = k := by rw [hp.length_eq]; simp [ints]
    have HP := hide (heap_push A.free (by omega) hh (k : Int))
    replace A := hide A
    clear A0 e0
    replace hxl := hide hxl
    by_cases hlt : k < n
    · go_wp2_with fail
      refine HP.out.mono ?_
      rintro e1 w5 ⟨o2, ys, rfl, hp2, hperm, hheap, e2⟩
      go_wp2
      go_roundw
      case rel => exact ⟨k + 1, o2, ys, by omega, by go_num, ⟨A.out.hdr.ext e2 (by simpa using ht), A.out.slots.ext e2 (by simpa using ht), hp2⟩, hheap, by rw [ints_succ]; exact hperm.trans (hp.append_right _), e.trans e2⟩
      case measure => simp [intOf]; omega
    · have : k = n := by omega
      subst this
      go_wp2
      go_ret2
      exact ⟨o1, b, p, sv, xs, rfl, A.out, hh, hp, e⟩
end Go.Proofs.YtcgfknpobifecaaGreat

namespace Go.Proofs.YtcgfknpobifecaaGreat
open Go.RowKit

def unusedB (ss : List Slot) (i : Nat) : Bool := !(ss.getD i slot0).used
def freeTo (ss : List Slot) (k : Nat) : List Nat := (List.range k).filter (unusedB ss)
theorem mem_freeTo (ss : List Slot) (k i : Nat) : i ∈ freeTo ss k ↔ i < k ∧ (ss.getD i slot0).used = false := by simp [freeTo, unusedB]
theorem nodup_freeTo (ss : List Slot) (k : Nat) : ((freeTo ss k).map Int.ofNat).Nodup := by
  unfold freeTo
  rw [List.Nodup, List.pairwise_map]
  exact (List.nodup_range.filter _).imp (fun h e => h (Int.ofNat_inj.1 e))
theorem mem_free (ss : List Slot) (k : Nat) (z : Int) : z ∈ (freeTo ss k).map Int.ofNat ↔ ∃ i : Nat, z = i ∧ i < k ∧ (ss.getD i slot0).used = false := by
  rw [List.mem_map]
  constructor
  · rintro ⟨i, hi, rfl⟩
    exact ⟨i, rfl, (mem_freeTo ss k i).1 hi⟩
  · rintro ⟨i, rfl, hi⟩
    exact ⟨i, (mem_freeTo ss k i).2 hi, rfl⟩
theorem freeTo_succ (ss : List Slot) (k : Nat) : (freeTo ss (k + 1)).length = (freeTo ss k).length + if (ss.getD k slot0).used then 0 else 1 := by
  unfold freeTo
  rw [List.range_succ, List.filter_append, List.length_append]
  have hb : unusedB ss k = !(ss.getD k slot0).used := rfl
  generalize (ss.getD k slot0).used = u at *
  cases u <;> simp [hb]
theorem freeTo_le (ss : List Slot) (k : Nat) : (freeTo ss k).length ≤ k := by
  have := List.length_filter_le (unusedB ss) (List.range k)
  rw [List.length_range] at this
  exact this

/-- The heap of the free places, of right places. -/
structure AInv (ss : List Slot) (xs : List Int) : Prop where
  heap : IsHeap xs
  perm : xs.Perm ((freeTo ss ss.length).map Int.ofNat)
theorem AInv.mem {ss : List Slot} {xs : List Int} (h : AInv ss xs) (z : Int) : z ∈ xs ↔ ∃ i : Nat, z = i ∧ i < ss.length ∧ (ss.getD i slot0).used = false := by rw [h.perm.mem_iff, mem_free]
theorem AInv.nodup {ss : List Slot} {xs : List Int} (h : AInv ss xs) : xs.Nodup := h.perm.nodup_iff.2 (nodup_freeTo ss _)
theorem AInv.length {ss : List Slot} {xs : List Int} (h : AInv ss xs) : xs.length = (freeTo ss ss.length).length := by rw [h.perm.length_eq, List.length_map]
theorem AInv.of {ss : List Slot} {xs : List Int} (h : IsHeap xs) (hn : xs.Nodup) (hm : ∀ z, z ∈ xs ↔ ∃ i : Nat, z = i ∧ i < ss.length ∧ (ss.getD i slot0).used = false) : AInv ss xs :=
  ⟨h, (List.perm_ext_iff_of_nodup hn (nodup_freeTo ss _)).2 fun z => by rw [hm, mem_free]⟩
theorem getD_set_slot (ss : List Slot) (i j : Nat) (x : Slot) (h : i < ss.length) : (ss.set i x).getD j slot0 = if i = j then x else ss.getD j slot0 := by
  simp only [List.getD_eq_getElem?_getD, List.getElem?_set]
  by_cases e : i = j
  · subst e; simp [h]
  · simp [e]
theorem AInv.start (n : Nat) {xs : List Int} (h : IsHeap xs) (hp : xs.Perm (ints n)) : AInv (List.replicate n slot0) xs := by
  refine ⟨h, hp.trans ?_⟩
  have : freeTo (List.replicate n slot0) (List.replicate n slot0).length = List.range n := by
    unfold freeTo
    rw [List.length_replicate, List.filter_eq_self]
    intro i hi
    rw [List.mem_range] at hi
    simp [unusedB, hi, slot0]
  rw [this]
  exact .refl _
theorem AInv.take {ss : List Slot} {xs ys : List Int} (A : AInv ss xs) {i : Nat} (hi : i < ss.length) (hp : (ys ++ [(i : Int)]).Perm xs) (hh : IsHeap ys) (x : Slot) (hx : x.used = true) : AInv (ss.set i x) ys := by
  have hnd := hp.nodup_iff.2 A.nodup
  have hnd' : ys.Nodup ∧ (i : Int) ∉ ys := by
    rw [List.nodup_append] at hnd
    exact ⟨hnd.1, fun hm => hnd.2.2 _ hm _ (by simp) rfl⟩
  refine AInv.of hh hnd'.1 fun z => ?_
  have hz : z ∈ xs ↔ z ∈ ys ∨ z = i := by rw [← hp.mem_iff]; simp
  constructor
  · intro hm
    obtain ⟨j, rfl, hj, hu⟩ := (A.mem z).1 (hz.2 (.inl hm))
    refine ⟨j, rfl, by simpa using hj, ?_⟩
    rw [getD_set_slot _ _ _ _ hi, if_neg (fun e : i = j => hnd'.2 (by rw [e]; exact hm))]
    exact hu
  · rintro ⟨j, rfl, hj, hu⟩
    rw [getD_set_slot _ _ _ _ hi] at hu
    by_cases e : i = j
    · rw [if_pos e, hx] at hu; cases hu
    · rw [if_neg e] at hu
      rcases hz.1 ((A.mem _).2 ⟨j, rfl, by simpa using hj, hu⟩) with h | h
      · exact h
      · exact absurd (Int.ofNat_inj.1 h).symm e
theorem AInv.give {ss : List Slot} {xs ys : List Int} (A : AInv ss xs) {i : Nat} (hi : i < ss.length) (hu : (ss.getD i slot0).used = true) (hp : ys.Perm (xs ++ [(i : Int)])) (hh : IsHeap ys) (x : Slot) (hx : x.used = false) : AInv (ss.set i x) ys := by
  have hni : (i : Int) ∉ xs := fun hm => by
    obtain ⟨j, e, _, h⟩ := (A.mem _).1 hm
    rw [← Int.ofNat_inj.1 e, hu] at h; cases h
  have hnd : ys.Nodup := by
    rw [hp.nodup_iff, List.nodup_append]
    exact ⟨A.nodup, by simp, fun a ha b hb e => hni (by simp at hb; rw [← hb, ← e]; exact ha)⟩
  refine AInv.of hh hnd fun z => ?_
  have hz : z ∈ ys ↔ z ∈ xs ∨ z = i := by rw [hp.mem_iff]; simp
  rw [hz]
  constructor
  · rintro (hm | rfl)
    · obtain ⟨j, rfl, hj, hu'⟩ := (A.mem z).1 hm
      refine ⟨j, rfl, by simpa using hj, ?_⟩
      rw [getD_set_slot _ _ _ _ hi]
      by_cases e : i = j
      · rw [if_pos e]; exact hx
      · rw [if_neg e]; exact hu'
    · exact ⟨i, rfl, by simpa using hi, by rw [getD_set_slot _ _ _ _ hi, if_pos rfl]; exact hx⟩
  · rintro ⟨j, rfl, hj, hu'⟩
    by_cases e : i = j
    · exact .inr (by rw [e])
    · rw [getD_set_slot _ _ _ _ hi, if_neg e] at hu'
      exact .inl ((A.mem _).2 ⟨j, rfl, by simpa using hj, hu'⟩)
/-- The least of the free places is the first one. -/
theorem AInv.first {ss : List Slot} {xs : List Int} (A : AInv ss xs) {i : Nat} (hm : (i : Int) ∈ xs) (hmin : ∀ x ∈ xs, (i : Int) ≤ x) : i < ss.length ∧ (ss.getD i slot0).used = false ∧ ∀ j, j < i → (ss.getD j slot0).used = true := by
  obtain ⟨i', e, hi, hu⟩ := (A.mem _).1 hm
  have := Int.ofNat_inj.1 e
  subst this
  refine ⟨hi, hu, fun j hj => ?_⟩
  cases h : (ss.getD j slot0).used
  · have := hmin j ((A.mem _).2 ⟨j, rfl, by omega, h⟩)
    omega
  · rfl
theorem AInv.empty {ss : List Slot} (A : AInv ss []) : ∀ i, i < ss.length → (ss.getD i slot0).used = true := fun i hi => by
  cases h : (ss.getD i slot0).used
  · have := (A.mem i).2 ⟨i, rfl, hi, h⟩
    cases this
  · rfl
theorem atA_of (ss : List Slot) (h : Int) (hl : ss.length ≤ 1024) (i : Nat) (hi : i < ss.length) (hu : (ss.getD i slot0).used = true) (hh : h = i + 1 + 65536 * (ss.getD i slot0).gen) : atA ss h = i := by
  have h1 : h % 65536 = i + 1 := by omega
  have h2 : h / 65536 = (ss.getD i slot0).gen := by omega
  unfold atA
  rw [h1, h2, show ((i : Int) + 1).toNat - 1 = i by omega, if_pos ⟨by omega, by omega, hu, rfl⟩]
  omega
theorem atA_none (ss : List Slot) (h : Int) (hn : ∀ i, i < ss.length → (ss.getD i slot0).used = true → h ≠ i + 1 + 65536 * (ss.getD i slot0).gen) : atA ss h = -1 := by
  apply atA_neg
  intro hi
  obtain ⟨i, _, hl, hu, hm, hg⟩ := atA_lt ss h hi
  exact hn i hl hu (by rw [hg]; omega)
end Go.Proofs.YtcgfknpobifecaaGreat
