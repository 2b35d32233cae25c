/- The arena: Alloc, Free. -/
import Derived.Test.YtcoaemjoanbemaaAm
namespace Go.Proofs.Ytcoaemjoanbemaa
open Go.RowKit

/-- What Alloc comes to where a place is free. -/
def AllocPost (o : Nat → Nat) (t t2 b p : Nat) (sv : Value) (ss : List Slot) (xs : List Int) (fault : Bool) (n : Nd) (w : World) (e : Ending) (w' : World) : Prop :=
  ∃ o' ys, ∃ i : Nat, e = .returned (.tuple #[.int .u64 (i + 1 + 65536 * (ss.getD i slot0).gen), .int .i64 0]) ∧ ArenaAt o' w' t t2 b p sv (ss.set i (taken (ss.getD i slot0) n)) ys fault ∧ (ys ++ [(i : Int)]).Perm xs ∧ (∀ x ∈ xs, (i : Int) ≤ x) ∧ IsHeap ys ∧ i < ss.length ∧
    Ext o o' w w' (fun x => x = t ∨ x = t2)

section
variable {o : Nat → Nat} {w : World} {t t2 b p : Nat} {sv : Value} {ss : List Slot} {xs : List Int} {fault : Bool}
set_option maxRecDepth 100000 in
set_option maxHeartbeats 1600000 in
theorem arena_alloc_full (A : ArenaAt o w t t2 b p sv ss [] fault) (n : Nd) :
    Calls Try.prog 9 #[.pointer (some ⟨b, 0, none⟩), ndV n] w fun e w' => e = .returned (.tuple #[.int .u64 0, .int .i64 4]) ∧ Ext o o w w' (fun _ => False) := by
  have hh := A.hdr.heap
  have hlt := A.hdr.lt
  obtain ⟨v, hp, hs⟩ := A.free
  have hpl := hp.lt
  obtain ⟨a, c, rfl⟩ := hs.value
  have hph := hp.heap
  have E0 := hide ((Ext.refl o w (fun _ => False)).alloc (.cells #[.string n.key, .string n.val, .int .u32 n.sum, .int .u64 n.next] 36))
  clear A hp hs
  unfold ndV
  go_enter Try.func9, Try.ntmps9
  go_wp2_with fail
  refine (places_len _ _ _ _).mono ?_
  rintro e w' ⟨rfl, rfl⟩
  go_wp2
  go_ret2
  exact ⟨rfl, E0.out⟩

set_option maxRecDepth 100000 in
set_option maxHeartbeats 1600000 in
theorem arena_alloc (A : ArenaAt o w t t2 b p sv ss xs fault) (ht : t ≠ t2) (hl : xs.length ≤ 100000) {k : Nat} (hk : xs.length = k + 1) (hh : IsHeap xs) (hin : ∀ x ∈ xs, 0 ≤ x ∧ x < ss.length) (hg : ∀ i, 0 ≤ (ss.getD i slot0).gen ∧ (ss.getD i slot0).gen ≤ 1000000) (h5 : ss.length ≤ 100000) (n : Nd) :
    Calls Try.prog 9 #[.pointer (some ⟨b, 0, none⟩), ndV n] w (AllocPost o t t2 b p sv ss xs fault n w) := by
  have E0 : Ext o (upd o w.heap.size (t + t2 + 1)) w (w.alloc (.cells #[.string n.key, .string n.val, .int .u32 n.sum, .int .u64 n.next] 36)) (fun _ => False) := ((Ext.refl o w _).retag (t + t2 + 1)).alloc _
  have A1 := A.ext E0 id id
  have S1 : StAt (upd o w.heap.size (t + t2 + 1)) (w.alloc (.cells #[.string n.key, .string n.val, .int .u32 n.sum, .int .u64 n.next] 36)) (t + t2 + 1) w.heap.size #[.string n.key, .string n.val, .int .u32 n.sum, .int .u64 n.next] 36 := ⟨blk_new _ _, upd_new (Nat.le_refl _)⟩
  have hhd := A1.hdr.heap
  obtain ⟨v, hp, hs⟩ := A1.free
  obtain ⟨a, c, rfl⟩ := hs.value
  have hph := hp.heap
  rw [hk] at hph
  have HP := hide (heap_pop A1.free hl hk hh)
  have hk5 : k < 100000 := by omega
  replace E0 := hide E0
  replace hh := hide hh
  replace hk := hide hk
  replace hin := hide hin
  replace hg := hide hg
  clear A hp hs
  replace S1 := hide S1
  replace A1 := hide A1
  have X : (w.alloc (.cells #[.string n.key, .string n.val, .int .u32 n.sum, .int .u64 n.next] 36)).heap.size = w.heap.size + 1 := by simp
  replace X := hide X
  unfold ndV
  go_enter Try.func9, Try.ntmps9
  go_wp2_with fail
  refine (places_len _ _ _ _).mono ?_
  rintro e w' ⟨rfl, rfl⟩
  go_wp2_with fail
  refine HP.out.mono ?_
  rintro e w2 ⟨ys, m, rfl, hp2, hperm, hmin, hheap, e2⟩
  have hmem : m ∈ xs := hperm.mem_iff.1 (by simp)
  obtain ⟨hm0, hm1⟩ := hin.out m hmem
  obtain ⟨i, rfl⟩ := Int.eq_ofNat_of_zero_le hm0
  have hi : i < ss.length := by omega
  have A2 : ArenaAt _ w2 t t2 b p sv ss ys fault := ⟨A1.out.hdr.ext e2 (by simpa using ht), A1.out.slots.ext e2 (by simpa using ht), hp2⟩
  have S2 := S1.out.ext e2 (by omega)
  have hh2 := A2.hdr.heap
  have hs2 := S2.heap
  obtain ⟨g, cap, cur, rfl, hgb, _, ha1, hb1, c0, c1, c2, c3, c4, c5⟩ := slot_at A2.slots hi
  have hne1 := ne_of_type hh2 hgb (by decide)
  have hne2 := ne_of_type hs2 hgb (by decide)
  have hta := assert_int i w2
  have hgg := hg.out i
  have hsz : i * 6 + 5 < cur.size := (Array.getElem?_eq_some_iff.1 c5).1
  clear A1 HP S1 hhd hph hm0 hm1
  replace hin := hide hin
  replace A2 := hide A2
  replace e2 := hide e2
  replace hp2 := hide hp2
  replace hperm := hide hperm
  replace hmin := hide hmin
  replace hheap := hide hheap
  replace hmem := hide hmem
  replace S2 := hide S2
  generalize hgen : (ss.getD i slot0).gen = gen at hgg c5
  obtain ⟨hg0, hg1⟩ := hgg
  replace hgen := hide hgen
  go_wp2_with fail
  go_region
  all_goals
    obtain ⟨R1, R2⟩ := A2.out.taken hi n
    replace R1 := R1.ext ((Ext.refl _ _ (fun _ => False)).drew) id id
    replace R2 := R2.drew
    clear hgb c0 c1 c2 c3 c4 c5 hs2 hh2 hsz hne1 hne2 hta
    generalize World.drew _ = w3 at R1 R2 ⊢
    rw [show ss.length = (ss.set i (taken (ss.getD i slot0) n)).length by rw [List.length_set]] at R1
    obtain ⟨g', cap', cur', hv, hgb, _, _, _, c0, c1, c2, c3, c4, c5⟩ := slot_at R1.slots (i := i) (by rw [List.length_set]; exact hi)
    simp at hv
    obtain ⟨rfl, rfl⟩ := hv
    rw [List.length_set] at R1
    rw [getD_set_at _ _ _ hi] at c5
    have c6 : cur'[i * 6 + 5]? = some (.int .u64 gen) := by rw [c5, ← hgen.out]; rfl
    have hh3 := R1.hdr.heap
    clear c0 c1 c2 c3 c4 c5
    replace R1 := hide R1
    replace R2 := hide R2
    go_wp2
    go_ret2
    refine ⟨_, ys, i, ?_, R1.out, hperm.out, hmin.out, hheap.out, hi, ?_⟩
    · rw [hgen.out]; go_num
    · exact ((E0.out.mono (fun _ h => h.elim)).trans (e2.out.mono (fun _ h => .inr h))).trans (R2.out.mono (fun _ h => .inl h))
end
end Go.Proofs.Ytcoaemjoanbemaa
