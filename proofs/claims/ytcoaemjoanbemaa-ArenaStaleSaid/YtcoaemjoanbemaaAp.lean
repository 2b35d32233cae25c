/- arena.New. -/
import Derived.Test.YtcoaemjoanbemaaAo
namespace Go.Proofs.Ytcoaemjoanbemaa
open Go.RowKit

theorem slot_info : (Try.prog.info? 105).map (fun i => (i.zero, i.size, i.bytes)) = some (some (.agg #[.string ⟨#[]⟩, .string ⟨#[]⟩, .int .u32 0, .int .u64 0, .bool false, .int .u64 0]), 6, 64) := by kernel_rfl

theorem madeCells_flat {α : Type} (f : α → List Value) (k : Nat) (hk : ∀ x, (f x).length = k) (h0 : 0 < k) (x : α) (z : Array Value) (hz : z.toList = f x) (n : Nat) : (madeCells z (n * k)).toList = (List.replicate n x).flatMap f := by
  have hzs : z.size = k := by rw [← hk x, ← hz]; rfl
  apply List.ext_getElem?
  intro p
  have hp : p = (p / k) * k + p % k := by rw [Nat.mul_comm]; exact (Nat.div_add_mod p k).symm
  have hlt : p % k < k := Nat.mod_lt _ h0
  rw [hp, flat_get f k hk _ _ _ hlt, ← hp]
  simp only [madeCells, Array.getElem?_toList, List.getElem?_replicate]
  by_cases h : p < n * k
  · have h2 : p / k < n := Nat.div_lt_of_lt_mul (by rw [Nat.mul_comm]; exact h)
    have hidx : p % k < z.size := by omega
    rw [if_pos h2]
    simp only [Option.bind_some, ← hz, Array.getElem?_toList]
    rw [Array.getElem?_map, Array.getElem?_range, if_pos h, hzs]
    simp [hidx]
  · have h2 : ¬ p / k < n := fun hq => h (by
      have := Nat.lt_mul_of_div_lt hq h0
      rw [Nat.mul_comm] at this; first | exact this | (rw [Nat.mul_comm]; exact this))
    rw [if_neg h2]
    simp [h]

def ints (n : Nat) : List Int := (List.range n).map Int.ofNat
def NewPost (o : Nat → Nat) (t t2 n : Nat) (w : World) (e : Ending) (w' : World) : Prop :=
  ∃ o' b p sv xs, e = .returned (.tuple #[.pointer (some ⟨b, 0, none⟩), .int .i64 0]) ∧ ArenaAt o' w' t t2 b p sv (List.replicate n slot0) xs false ∧ IsHeap xs ∧ xs.Perm (ints n) ∧ Ext o o' w w' (fun x => x = t2)

set_option maxHeartbeats 400000 in
theorem arena_new_no (n : Int) (h : n < 1 ∨ 1024 < n) (w : World) :
    Calls Try.prog 7 #[.int .i64 n] w fun e w' => e = .returned (.tuple #[.pointer none, .int .i64 2]) ∧ w = w' := by
  by_cases h0 : n < 1
  · clear h
    go_enter Try.func7, Try.ntmps7
    go_wp2
    go_ret2
    exact ⟨rfl, rfl⟩
  · have h1 : 1024 < n := by omega
    clear h
    go_enter Try.func7, Try.ntmps7
    go_wp2
    go_ret2
    exact ⟨rfl, rfl⟩

/-- A new arena, its heap empty. -/
theorem arena_made (o : Nat → Nat) (t t2 n : Nat) (h1 : n ≤ 1024) (w : World) (cur : Array Value) (hcur : cur.toList = (List.replicate n slot0).flatMap slotL) :
    ∃ o', ArenaAt o' ((((w.alloc (.cells cur 105)).alloc (.cells #[] 3)).alloc (.cells #[.slice (some ⟨w.heap.size + 1, 0, none⟩) 0 0] 99)).alloc
      (.cells #[.slice (some ⟨w.heap.size, 0, none⟩) n n, .pointer (some ⟨w.heap.size + 1 + 1, 0, none⟩), .bool false] 101)) t t2 (w.heap.size + 1 + 1 + 1) (w.heap.size + 1 + 1) (.slice (some ⟨w.heap.size, 0, none⟩) n n) (List.replicate n slot0) [] false ∧
      Ext o o' w ((((w.alloc (.cells cur 105)).alloc (.cells #[] 3)).alloc (.cells #[.slice (some ⟨w.heap.size + 1, 0, none⟩) 0 0] 99)).alloc
      (.cells #[.slice (some ⟨w.heap.size, 0, none⟩) n n, .pointer (some ⟨w.heap.size + 1 + 1, 0, none⟩), .bool false] 101)) (fun x => x = t2) := by
  have z1 : (w.alloc (.cells cur 105)).heap.size = w.heap.size + 1 := by simp
  have hlen : cur.size = n * 6 := by
    have := congrArg List.length hcur
    rw [flat_len slotL 6 slotL_len, List.length_replicate] at this
    simpa using this
  have hrl : (List.replicate n slot0).length = n := List.length_replicate
  have e1 := ((Ext.refl o w (fun _ => False)).retag t).alloc (.cells cur 105)
  have s1 : SlAt (upd o w.heap.size t) (w.alloc (.cells cur 105)) t 105 6 (.slice (some ⟨w.heap.size, 0, none⟩) n n) (List.replicate n slot0).length ((List.replicate n slot0).flatMap slotL) := by
    rw [hrl]
    exact SlAt.made cur n n (Nat.le_refl _) (by unfold maxLen; omega) hlen (by rw [← hcur, List.take_of_length_le]; rw [Array.length_toList, hlen]; exact Nat.le_refl _) (upd_new (Nat.le_refl _))
  generalize w.alloc (.cells cur 105) = w1 at *
  have e2 := ((Ext.refl (upd o w.heap.size t) w1 (fun _ => False)).retag t2).alloc (.cells #[] 3)
  have s2 : SlAt (upd (upd o w.heap.size t) w1.heap.size t2) (w1.alloc (.cells #[] 3)) t2 3 1 (.slice (some ⟨w1.heap.size, 0, none⟩) 0 0) 0 [] := SlAt.made #[] 0 0 (Nat.le_refl _) (Nat.zero_le _) rfl rfl (upd_new (Nat.le_refl _))
  have z2 : (w1.alloc (.cells #[] 3)).heap.size = w.heap.size + 1 + 1 := by simp [z1]
  rw [z1] at s2 e2
  generalize w1.alloc (.cells #[] 3) = w2 at *
  generalize upd (upd o w.heap.size t) (w.heap.size + 1) t2 = o2 at *
  have e3 := ((Ext.refl o2 w2 (fun _ => False)).retag t2).alloc (.cells #[.slice (some ⟨w.heap.size + 1, 0, none⟩) 0 0] 99)
  have s3 : StAt (upd o2 w2.heap.size t2) (w2.alloc (.cells #[.slice (some ⟨w.heap.size + 1, 0, none⟩) 0 0] 99)) t2 w2.heap.size #[.slice (some ⟨w.heap.size + 1, 0, none⟩) 0 0] 99 := ⟨blk_new _ _, upd_new (Nat.le_refl _)⟩
  have z3 : (w2.alloc (.cells #[.slice (some ⟨w.heap.size + 1, 0, none⟩) 0 0] 99)).heap.size = w.heap.size + 1 + 1 + 1 := by simp [z2]
  rw [z2] at s3 e3
  generalize w2.alloc (.cells #[.slice (some ⟨w.heap.size + 1, 0, none⟩) 0 0] 99) = w3 at *
  generalize upd o2 (w.heap.size + 1 + 1) t2 = o3 at *
  have e4 := ((Ext.refl o3 w3 (fun _ => False)).retag t).alloc (.cells #[.slice (some ⟨w.heap.size, 0, none⟩) n n, .pointer (some ⟨w.heap.size + 1 + 1, 0, none⟩), .bool false] 101)
  have s4 : StAt (upd o3 w3.heap.size t) (w3.alloc (.cells #[.slice (some ⟨w.heap.size, 0, none⟩) n n, .pointer (some ⟨w.heap.size + 1 + 1, 0, none⟩), .bool false] 101)) t w3.heap.size #[.slice (some ⟨w.heap.size, 0, none⟩) n n, .pointer (some ⟨w.heap.size + 1 + 1, 0, none⟩), .bool false] 101 := ⟨blk_new _ _, upd_new (Nat.le_refl _)⟩
  rw [z3] at s4 e4
  refine ⟨_, ⟨s4, ((s1.ext e2 id).ext e3 id).ext e4 id, _, (s3.ext e4 id), (s2.ext e3 id).ext e4 id⟩, (((e1.trans e2).trans e3).trans e4).none⟩

theorem ints_succ (k : Nat) : ints (k + 1) = ints k ++ [(k : Int)] := by simp [ints, List.range_succ]

set_option maxRecDepth 100000 in
set_option maxHeartbeats 800000 in
theorem arena_new (o : Nat → Nat) (t t2 n : Nat) (ht : t ≠ t2) (h0 : 1 ≤ n) (h1 : n ≤ 1024) (w : World) : Calls Try.prog 7 #[.int .i64 n] w (NewPost o t t2 n w) := by
  obtain ⟨i0, hi, hz0, hz1, hz2⟩ := info_parts slot_info
  have hmk := fun W => run_make (P := Try.prog) W 97 105 i0 _ Try.underlying97 hi hz0 .i64 .i64 n n (by omega) (Int.le_refl _) (by rw [hz2]; omega) (by omega)
  rw [hz1, Int.toNat_natCast] at hmk
  clear hi hz0 hz1 hz2
  go_enter Try.func7, Try.ntmps7
  go_wp2
  obtain ⟨o1, A0, e0⟩ := arena_made o t t2 n h1 w (madeCells #[.string ⟨#[]⟩, .string ⟨#[]⟩, .int .u32 0, .int .u64 0, .bool false, .int .u64 0] (n * 6)) (madeCells_flat slotL 6 slotL_len (by decide) slot0 _ rfl n)
  clear hmk
  generalize World.alloc _ _ = w4 at A0 e0 ⊢
  generalize w.heap.size + 1 + 1 + 1 = b at A0 ⊢
  generalize w.heap.size + 1 + 1 = p at A0 ⊢
  generalize Value.slice (some ⟨w.heap.size, 0, none⟩) n n = sv at A0 ⊢
  go_loopw [19] (fun i wr => ∃ (k : Nat) (o1 : Nat → Nat) (xs : List Int), k ≤ n ∧ i = .int .i64 k ∧ ArenaAt o1 wr t t2 b p sv (List.replicate n slot0) xs false ∧ IsHeap xs ∧ xs.Perm (ints k) ∧ Ext o o1 w wr (fun x => x = t2)) (fun i _ => n - (intOf i).toNat)
  case atStart => exact ⟨0, o1, [], Nat.zero_le _, rfl, A0, fun i _ h => by simp at h, .refl _, e0⟩
  case round =>
    obtain ⟨k, o1, xs, hk, rfl, A, hh, hp, e⟩ := hrel
    have hhd := A.hdr.heap
    have hxl : xs.length = k := by rw [hp.length_eq]; simp [ints]
    have HP := hide (heap_push A.free (by omega) hh (k : Int))
    replace A := hide A
    clear A0 e0
    replace hxl := hide hxl
    by_cases hlt : k < n
    · go_wp2_with fail
      refine HP.out.mono ?_
      rintro e1 w5 ⟨o2, ys, rfl, hp2, hperm, hheap, e2⟩
      go_wp2
      go_roundw
      case rel => exact ⟨k + 1, o2, ys, by omega, by go_num, ⟨A.out.hdr.ext e2 (by simpa using ht), A.out.slots.ext e2 (by simpa using ht), hp2⟩, hheap, by rw [ints_succ]; exact hperm.trans (hp.append_right _), e.trans e2⟩
      case measure => simp [intOf]; omega
    · have : k = n := by omega
      subst this
      go_wp2
      go_ret2
      exact ⟨o1, b, p, sv, xs, rfl, A.out, hh, hp, e⟩
end Go.Proofs.Ytcoaemjoanbemaa
