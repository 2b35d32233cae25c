/- The arena: Link, Alloc, Free. The arena: Alloc, Free. The arena: Free, New. -/
import Derived.Test.YtcgfknpobifecaaGreatAkm
import Derived.Deep.CutBlock
namespace Go.Proofs.YtcgfknpobifecaaGreat
open Go.RowKit

theorem ArenaAt.put {o : Nat → Nat} {w : World} {t t2 b p g cap : Nat} {ss : List Slot} {xs : List Int} {fault : Bool} (A : ArenaAt o w t t2 b p (.slice (some ⟨g, 0, none⟩) ss.length cap) ss xs fault) {i j : Nat} (hj : j < 6) (hi : i < ss.length)
    (x : Slot) (u : Value) (hx : slotL x = (slotL (ss.getD i slot0)).set j u) :
    ArenaAt o (w.setCell ⟨g, i * 6 + j, none⟩ u) t t2 b p (.slice (some ⟨g, 0, none⟩) (ss.set i x).length cap) (ss.set i x) xs fault ∧ Ext o o w (w.setCell ⟨g, i * 6 + j, none⟩ u) (fun x => x = t) := by
  obtain ⟨g', cap', cur, hv, hg, hog, _⟩ := A.slots.row (by omega)
  simp at hv
  obtain ⟨rfl, rfl⟩ := hv
  have hgi : ss[i]? = some (ss.getD i slot0) := by simp [hi]
  obtain ⟨v, hp, hs⟩ := A.free
  have hl : (ss.set i x).length = ss.length := List.length_set
  refine ⟨⟨?_, ?_, ?_⟩, (Ext.refl o w _).put _ (.inl hog)⟩
  · rw [hl]; exact A.hdr.put_far (ne_of_type A.hdr.heap hg (by decide))
  · rw [hl]; exact A.slots.putf slotL slotL_len hj hgi x u hx
  · exact ⟨v, hp.put_far (ne_of_type hp.heap hg (by decide)), hs.put_far (hs.apart hg (by decide))⟩

theorem getD_set_at (ss : List Slot) (i : Nat) (x : Slot) (h : i < ss.length) : (ss.set i x).getD i slot0 = x := by simp [h]

/-- A place taken. -/
def taken (x : Slot) (n : Nd) : Slot := { x with nd := n, used := true }
/-- A place freed. -/
def freed (x : Slot) : Slot := ⟨nd0, false, x.gen + 1⟩

section
variable {o : Nat → Nat} {w : World} {t t2 b p : Nat} {sv : Value} {ss : List Slot} {xs : List Int} {fault : Bool}

theorem ArenaAt.taken {g cap i : Nat} (A : ArenaAt o w t t2 b p (.slice (some ⟨g, 0, none⟩) ss.length cap) ss xs fault) (hi : i < ss.length) (n : Nd) :
    ArenaAt o (((((w.setCell ⟨g, i * 6, none⟩ (.string n.key)).setCell ⟨g, i * 6 + 1, none⟩ (.string n.val)).setCell ⟨g, i * 6 + 2, none⟩ (.int .u32 n.sum)).setCell ⟨g, i * 6 + 3, none⟩ (.int .u64 n.next)).setCell ⟨g, i * 6 + 4, none⟩ (.bool true))
      t t2 b p (.slice (some ⟨g, 0, none⟩) ss.length cap) (ss.set i (taken (ss.getD i slot0) n)) xs fault ∧
    Ext o o w (((((w.setCell ⟨g, i * 6, none⟩ (.string n.key)).setCell ⟨g, i * 6 + 1, none⟩ (.string n.val)).setCell ⟨g, i * 6 + 2, none⟩ (.int .u32 n.sum)).setCell ⟨g, i * 6 + 3, none⟩ (.int .u64 n.next)).setCell ⟨g, i * 6 + 4, none⟩ (.bool true)) (fun x => x = t) := by
  obtain ⟨A1, E1⟩ := A.put (j := 0) (by decide) hi { ss.getD i slot0 with nd := { (ss.getD i slot0).nd with key := n.key } } (.string n.key) rfl
  obtain ⟨A2, E2⟩ := A1.put (i := i) (j := 1) (by decide) (by simpa using hi) { ss.getD i slot0 with nd := { (ss.getD i slot0).nd with key := n.key, val := n.val } } (.string n.val) (by rw [getD_set_at _ _ _ hi]; rfl)
  rw [List.set_set] at A2
  obtain ⟨A3, E3⟩ := A2.put (i := i) (j := 2) (by decide) (by simpa using hi) { ss.getD i slot0 with nd := { (ss.getD i slot0).nd with key := n.key, val := n.val, sum := n.sum } } (.int .u32 n.sum) (by rw [getD_set_at _ _ _ hi]; rfl)
  rw [List.set_set] at A3
  obtain ⟨A4, E4⟩ := A3.put (i := i) (j := 3) (by decide) (by simpa using hi) { ss.getD i slot0 with nd := n } (.int .u64 n.next) (by rw [getD_set_at _ _ _ hi]; rfl)
  rw [List.set_set] at A4
  obtain ⟨A5, E5⟩ := A4.put (i := i) (j := 4) (by decide) (by simpa using hi) (Go.Proofs.YtcgfknpobifecaaGreat.taken (ss.getD i slot0) n) (.bool true) (by rw [getD_set_at _ _ _ hi]; rfl)
  rw [List.set_set, List.length_set] at A5
  exact ⟨A5, (((E1.trans E2).trans E3).trans E4).trans E5⟩

theorem ArenaAt.freed {g cap i : Nat} (A : ArenaAt o w t t2 b p (.slice (some ⟨g, 0, none⟩) ss.length cap) ss xs fault) (hi : i < ss.length) :
    ArenaAt o ((((((w.setCell ⟨g, i * 6, none⟩ (.string ⟨#[]⟩)).setCell ⟨g, i * 6 + 1, none⟩ (.string ⟨#[]⟩)).setCell ⟨g, i * 6 + 2, none⟩ (.int .u32 0)).setCell ⟨g, i * 6 + 3, none⟩ (.int .u64 0)).setCell ⟨g, i * 6 + 4, none⟩ (.bool false)).setCell ⟨g, i * 6 + 5, none⟩ (.int .u64 ((ss.getD i slot0).gen + 1)))
      t t2 b p (.slice (some ⟨g, 0, none⟩) ss.length cap) (ss.set i (freed (ss.getD i slot0))) xs fault ∧
    Ext o o w ((((((w.setCell ⟨g, i * 6, none⟩ (.string ⟨#[]⟩)).setCell ⟨g, i * 6 + 1, none⟩ (.string ⟨#[]⟩)).setCell ⟨g, i * 6 + 2, none⟩ (.int .u32 0)).setCell ⟨g, i * 6 + 3, none⟩ (.int .u64 0)).setCell ⟨g, i * 6 + 4, none⟩ (.bool false)).setCell ⟨g, i * 6 + 5, none⟩ (.int .u64 ((ss.getD i slot0).gen + 1))) (fun x => x = t) := by
  obtain ⟨A1, E1⟩ := A.put (j := 0) (by decide) hi { ss.getD i slot0 with nd := { (ss.getD i slot0).nd with key := ⟨#[]⟩ } } (.string ⟨#[]⟩) rfl
  obtain ⟨A2, E2⟩ := A1.put (i := i) (j := 1) (by decide) (by simpa using hi) { ss.getD i slot0 with nd := { (ss.getD i slot0).nd with key := ⟨#[]⟩, val := ⟨#[]⟩ } } (.string ⟨#[]⟩) (by rw [getD_set_at _ _ _ hi]; rfl)
  rw [List.set_set] at A2
  obtain ⟨A3, E3⟩ := A2.put (i := i) (j := 2) (by decide) (by simpa using hi) { ss.getD i slot0 with nd := { (ss.getD i slot0).nd with key := ⟨#[]⟩, val := ⟨#[]⟩, sum := 0 } } (.int .u32 0) (by rw [getD_set_at _ _ _ hi]; rfl)
  rw [List.set_set] at A3
  obtain ⟨A4, E4⟩ := A3.put (i := i) (j := 3) (by decide) (by simpa using hi) { ss.getD i slot0 with nd := nd0 } (.int .u64 0) (by rw [getD_set_at _ _ _ hi]; rfl)
  rw [List.set_set] at A4
  obtain ⟨A5, E5⟩ := A4.put (i := i) (j := 4) (by decide) (by simpa using hi) { ss.getD i slot0 with nd := nd0, used := false } (.bool false) (by rw [getD_set_at _ _ _ hi]; rfl)
  rw [List.set_set] at A5
  obtain ⟨A6, E6⟩ := A5.put (i := i) (j := 5) (by decide) (by simpa using hi) (Go.Proofs.YtcgfknpobifecaaGreat.freed (ss.getD i slot0)) (.int .u64 ((ss.getD i slot0).gen + 1)) (by rw [getD_set_at _ _ _ hi]; rfl)
  rw [List.set_set, List.length_set] at A6
  exact ⟨A6, ((((E1.trans E2).trans E3).trans E4).trans E5).trans E6⟩

set_option maxHeartbeats 800000 in
theorem arena_link (A : ArenaAt o w t t2 b p sv ss xs fault) (h next : Int) (h0 : 0 ≤ h) (h1 : h ≤ 18446744073709551615) :
    Calls Tryz.prog 133 #[.pointer (some ⟨b, 0, none⟩), .int .u64 h, .int .u64 next] w fun e w' => e = .returned (.int .i64 (useCode ss h)) ∧ ArenaAt o w' t t2 b p sv (linkS ss h next) xs (useFault ss h fault) ∧ Ext o o w w' (fun x => x = t) := by
  have F := hide (arena_find A h h0 h1)
  by_cases hi : 0 ≤ atA ss h
  · obtain ⟨i, hia, hil, hused, hm, hgen⟩ := atA_lt ss h hi
    have e1 : useCode ss h = 0 := by rw [useCode, if_pos hi]
    have e2 : useFault ss h fault = fault := by rw [useFault, if_pos hi]
    have e3 : linkS ss h next = ss.set i { ss.getD i slot0 with nd := { (ss.getD i slot0).nd with next := next } } := by rw [linkS, if_pos hi, hia]; rfl
    rw [e1, e2, e3]
    rw [e1, e2, hia] at F
    clear e1 e2 e3 hi hia hused hm hgen
    go_enter Tryz.func133, Tryz.ntmps133
    go_wp2_with fail
    refine F.out.mono ?_
    rintro e w2 ⟨rfl, A2, e2⟩
    have hh := A2.hdr.heap
    obtain ⟨g, cap, cur, rfl, hg, _, ha1, hb1, c0, c1, c2, c3, c4, c5⟩ := slot_at A2.slots hil
    have P := hide (A2.put (i := i) (j := 3) (by decide) hil { ss.getD i slot0 with nd := { (ss.getD i slot0).nd with next := next } } (.int .u64 next) rfl)
    have E2 := hide e2
    clear c0 c1 c2 c4 c5 A2 e2 F A
    go_wp2
    go_ret
    obtain ⟨P1, P2⟩ := P.out
    rw [List.length_set] at P1
    exact ⟨rfl, P1, E2.out.trans P2⟩
  · have hn := atA_neg ss h hi
    have e3 : linkS ss h next = ss := by rw [linkS, if_neg hi]
    rw [e3]
    have hcode : useCode ss h = 3 ∨ useCode ss h = 6 := by
      rw [useCode, if_neg hi]
      by_cases hz : h = 0
      · exact .inl (if_pos hz)
      · exact .inr (if_neg hz)
    rw [hn] at F
    generalize useCode ss h = c at *
    generalize useFault ss h fault = fa at *
    clear e3 hi hn A
    rcases hcode with rfl | rfl
    all_goals
      go_enter Tryz.func133, Tryz.ntmps133
      go_wp2_with fail
      refine F.out.mono ?_
      rintro e w2 ⟨rfl, A2, e2⟩
      go_wp2
      go_ret
      exact ⟨rfl, A2, e2⟩
end
end Go.Proofs.YtcgfknpobifecaaGreat

namespace Go.Proofs.YtcgfknpobifecaaGreat
open Go.RowKit

/-- What Alloc comes to where a place is free. -/
def AllocPost (o : Nat → Nat) (t t2 b p : Nat) (sv : Value) (ss : List Slot) (xs : List Int) (fault : Bool) (n : Nd) (w : World) (e : Ending) (w' : World) : Prop :=
  ∃ o' ys, ∃ i : Nat, e = .returned (.tuple #[.int .u64 (i + 1 + 65536 * (ss.getD i slot0).gen), .int .i64 0]) ∧ ArenaAt o' w' t t2 b p sv (ss.set i (taken (ss.getD i slot0) n)) ys fault ∧ (ys ++ [(i : Int)]).Perm xs ∧ (∀ x ∈ xs, (i : Int) ≤ x) ∧ IsHeap ys ∧ i < ss.length ∧
    Ext o o' w w' (fun x => x = t ∨ x = t2)

section
variable {o : Nat → Nat} {w : World} {t t2 b p : Nat} {sv : Value} {ss : List Slot} {xs : List Int} {fault : Bool}
set_option maxRecDepth 100000 in
set_option maxHeartbeats 1600000 in
theorem arena_alloc_full (A : ArenaAt o w t t2 b p sv ss [] fault) (n : Nd) :
    Calls Tryz.prog 124 #[.pointer (some ⟨b, 0, none⟩), ndV n] w fun e w' => e = .returned (.tuple #[.int .u64 0, .int .i64 4]) ∧ Ext o o w w' (fun _ => False) := by
  have hh := A.hdr.heap
  have hlt := A.hdr.lt
  obtain ⟨v, hp, hs⟩ := A.free
  have hpl := hp.lt
  obtain ⟨a, c, rfl⟩ := hs.value
  have hph := hp.heap
  have E0 := hide ((Ext.refl o w (fun _ => False)).alloc (.cells #[.string n.key, .string n.val, .int .u32 n.sum, .int .u64 n.next] 103))
  clear A hp hs
  unfold ndV
  go_enter Tryz.func124, Tryz.ntmps124
  go_wp2_with fail
  refine (places_len _ _ _ _).mono ?_
  rintro e w' ⟨rfl, rfl⟩
  go_wp2
  go_ret2
  exact ⟨rfl, E0.out⟩

set_option maxRecDepth 100000 in
set_option maxHeartbeats 1600000 in
theorem arena_alloc (A : ArenaAt o w t t2 b p sv ss xs fault) (ht : t ≠ t2) (hl : xs.length ≤ 100000) {k : Nat} (hk : xs.length = k + 1) (hh : IsHeap xs) (hin : ∀ x ∈ xs, 0 ≤ x ∧ x < ss.length) (hg : ∀ i, 0 ≤ (ss.getD i slot0).gen ∧ (ss.getD i slot0).gen ≤ 1000000) (h5 : ss.length ≤ 100000) (n : Nd) :
    Calls Tryz.prog 124 #[.pointer (some ⟨b, 0, none⟩), ndV n] w (AllocPost o t t2 b p sv ss xs fault n w) := by
  have E0 : Ext o (upd o w.heap.size (t + t2 + 1)) w (w.alloc (.cells #[.string n.key, .string n.val, .int .u32 n.sum, .int .u64 n.next] 103)) (fun _ => False) := ((Ext.refl o w _).retag (t + t2 + 1)).alloc _
  have A1 := A.ext E0 id id
  have S1 : StAt (upd o w.heap.size (t + t2 + 1)) (w.alloc (.cells #[.string n.key, .string n.val, .int .u32 n.sum, .int .u64 n.next] 103)) (t + t2 + 1) w.heap.size #[.string n.key, .string n.val, .int .u32 n.sum, .int .u64 n.next] 103 := ⟨blk_new _ _, upd_new (Nat.le_refl _)⟩
  have hhd := A1.hdr.heap
  obtain ⟨v, hp, hs⟩ := A1.free
  obtain ⟨a, c, rfl⟩ := hs.value
  have hph := hp.heap
  rw [hk] at hph
  have HP := hide (heap_pop A1.free hl hk hh)
  have hk5 : k < 100000 := by omega
  replace E0 := hide E0
  replace hh := hide hh
  replace hk := hide hk
  replace hin := hide hin
  replace hg := hide hg
  clear A hp hs
  replace S1 := hide S1
  replace A1 := hide A1
  have X : (w.alloc (.cells #[.string n.key, .string n.val, .int .u32 n.sum, .int .u64 n.next] 103)).heap.size = w.heap.size + 1 := by simp
  replace X := hide X
  unfold ndV
  go_enter Tryz.func124, Tryz.ntmps124
  go_wp2_with fail
  refine (places_len _ _ _ _).mono ?_
  rintro e w' ⟨rfl, rfl⟩
  go_wp2_with fail
  refine HP.out.mono ?_
  rintro e w2 ⟨ys, m, rfl, hp2, hperm, hmin, hheap, e2⟩
  have hmem : m ∈ xs := hperm.mem_iff.1 (by simp)
  obtain ⟨hm0, hm1⟩ := hin.out m hmem
  obtain ⟨i, rfl⟩ := Int.eq_ofNat_of_zero_le hm0
  have hi : i < ss.length := by omega
  have A2 : ArenaAt _ w2 t t2 b p sv ss ys fault := ⟨A1.out.hdr.ext e2 (by simpa using ht), A1.out.slots.ext e2 (by simpa using ht), hp2⟩
  have S2 := S1.out.ext e2 (by omega)
  have hh2 := A2.hdr.heap
  have hs2 := S2.heap
  obtain ⟨g, cap, cur, rfl, hgb, _, ha1, hb1, c0, c1, c2, c3, c4, c5⟩ := slot_at A2.slots hi
  have hne1 := ne_of_type hh2 hgb (by decide)
  have hne2 := ne_of_type hs2 hgb (by decide)
  have hta := assert_int i w2
  have hgg := hg.out i
  have hsz : i * 6 + 5 < cur.size := (Array.getElem?_eq_some_iff.1 c5).1
  clear A1 HP S1 hhd hph hm0 hm1
  replace hin := hide hin
  replace A2 := hide A2
  replace e2 := hide e2
  replace hp2 := hide hp2
  replace hperm := hide hperm
  replace hmin := hide hmin
  replace hheap := hide hheap
  replace hmem := hide hmem
  replace S2 := hide S2
  generalize hgen : (ss.getD i slot0).gen = gen at hgg c5
  obtain ⟨hg0, hg1⟩ := hgg
  replace hgen := hide hgen
  go_wp2_with fail
  go_region
  all_goals
    obtain ⟨R1, R2⟩ := A2.out.taken hi n
    replace R1 := R1.ext ((Ext.refl _ _ (fun _ => False)).drew) id id
    replace R2 := R2.drew
    clear hgb c0 c1 c2 c3 c4 c5 hs2 hh2 hsz hne1 hne2 hta
    generalize World.drew _ = w3 at R1 R2 ⊢
    rw [show ss.length = (ss.set i (taken (ss.getD i slot0) n)).length by rw [List.length_set]] at R1
    obtain ⟨g', cap', cur', hv, hgb, _, _, _, c0, c1, c2, c3, c4, c5⟩ := slot_at R1.slots (i := i) (by rw [List.length_set]; exact hi)
    simp at hv
    obtain ⟨rfl, rfl⟩ := hv
    rw [List.length_set] at R1
    rw [getD_set_at _ _ _ hi] at c5
    have c6 : cur'[i * 6 + 5]? = some (.int .u64 gen) := by rw [c5, ← hgen.out]; rfl
    have hh3 := R1.hdr.heap
    clear c0 c1 c2 c3 c4 c5
    replace R1 := hide R1
    replace R2 := hide R2
    go_wp2
    go_ret2
    refine ⟨_, ys, i, ?_, R1.out, hperm.out, hmin.out, hheap.out, hi, ?_⟩
    · rw [hgen.out]; go_num
    · exact ((E0.out.mono (fun _ h => h.elim)).trans (e2.out.mono (fun _ h => .inr h))).trans (R2.out.mono (fun _ h => .inl h))
end
end Go.Proofs.YtcgfknpobifecaaGreat

namespace Go.Proofs.YtcgfknpobifecaaGreat
open Go.RowKit

/-- What Free comes to. -/
def FreePost (o : Nat → Nat) (t t2 b p : Nat) (sv : Value) (ss : List Slot) (xs : List Int) (fault : Bool) (i : Nat) (w : World) (e : Ending) (w' : World) : Prop :=
  ∃ o' ys, e = .returned (.int .i64 0) ∧ ArenaAt o' w' t t2 b p sv (ss.set i (freed (ss.getD i slot0))) ys fault ∧ ys.Perm (xs ++ [(i : Int)]) ∧ IsHeap ys ∧ Ext o o' w w' (fun x => x = t ∨ x = t2)

section
variable {o : Nat → Nat} {w : World} {t t2 b p : Nat} {sv : Value} {ss : List Slot} {xs : List Int} {fault : Bool}
set_option maxHeartbeats 800000 in
theorem arena_free_no (A : ArenaAt o w t t2 b p sv ss xs fault) (h : Int) (h0 : 0 ≤ h) (h1 : h ≤ 18446744073709551615) (hi : ¬ 0 ≤ atA ss h) :
    Calls Tryz.prog 125 #[.pointer (some ⟨b, 0, none⟩), .int .u64 h] w fun e w' => e = .returned (.int .i64 (useCode ss h)) ∧ ArenaAt o w' t t2 b p sv ss xs true ∧ Ext o o w w' (fun x => x = t) := by
  have F := hide (arena_find A h h0 h1)
  have hn := atA_neg ss h hi
  have e2 : useFault ss h fault = true := by rw [useFault, if_neg hi]
  have hcode : useCode ss h = 3 ∨ useCode ss h = 6 := by
    rw [useCode, if_neg hi]
    by_cases hz : h = 0
    · exact .inl (if_pos hz)
    · exact .inr (if_neg hz)
  rw [hn, e2] at F
  generalize useCode ss h = c at *
  clear hi hn A e2
  rcases hcode with rfl | rfl
  all_goals
    go_enter Tryz.func125, Tryz.ntmps125
    go_wp2_with fail
    refine F.out.mono ?_
    rintro e w2 ⟨rfl, A2, e2⟩
    go_wp2
    go_ret
    exact ⟨rfl, A2, e2⟩

set_option maxRecDepth 100000 in
set_option maxHeartbeats 1600000 in
theorem arena_free (A : ArenaAt o w t t2 b p sv ss xs fault) (ht : t ≠ t2) (hl : xs.length < 100000) (hh : IsHeap xs) (hg : ∀ i, 0 ≤ (ss.getD i slot0).gen ∧ (ss.getD i slot0).gen ≤ 1000000) (h : Int) (h0 : 0 ≤ h) (h1 : h ≤ 18446744073709551615)
    (i : Nat) (hia : atA ss h = i) :
    Calls Tryz.prog 125 #[.pointer (some ⟨b, 0, none⟩), .int .u64 h] w (FreePost o t t2 b p sv ss xs fault i w) := by
  have F := hide (arena_find A h h0 h1)
  have hi0 : 0 ≤ atA ss h := by omega
  have e1 : useCode ss h = 0 := by rw [useCode, if_pos hi0]
  have e2 : useFault ss h fault = fault := by rw [useFault, if_pos hi0]
  obtain ⟨i', hia', hil, _⟩ := atA_lt ss h hi0
  have : i' = i := by omega
  subst this
  rw [e1, e2, hia] at F
  clear e1 e2 hi0 hia' hia
  have hgg := hg i'
  generalize hgen : (ss.getD i' slot0).gen = gen at hgg
  replace hgen := hide hgen
  obtain ⟨hg0, hg1⟩ := hgg
  replace hg := hide hg
  go_enter Tryz.func125, Tryz.ntmps125
  go_wp2_with fail
  refine F.out.mono ?_
  rintro e w2 ⟨rfl, A2, e2⟩
  have hh2 := A2.hdr.heap
  obtain ⟨g, cap, cur, rfl, hgb, _, ha1, hb1, c0, c1, c2, c3, c4, c5⟩ := slot_at A2.slots hil
  rw [hgen.out] at c5
  have hne1 := ne_of_type hh2 hgb (by decide)
  replace A2 := hide A2
  replace e2 := hide e2
  clear A F
  go_wp2_with fail
  go_region
  all_goals
    obtain ⟨R1, R2⟩ := A2.out.freed hil
    rw [hgen.out] at R1 R2
    replace R1 := R1.ext ((Ext.refl _ _ (fun _ => False)).drew) id id
    replace R2 := R2.drew
    clear hgb c0 c1 c2 c3 c4 c5 hh2 hne1
    generalize World.drew _ = w3 at R1 R2 ⊢
    have hh3 := R1.hdr.heap
    have HP := hide (heap_push R1.free hl hh (i' : Int))
    replace R1 := hide R1
    replace R2 := hide R2
    go_wp2_with fail
    refine HP.out.mono ?_
    rintro e w4 ⟨o4, ys, rfl, hp4, hperm, hheap, e4⟩
    go_wp2
    go_ret
    refine ⟨o4, ys, rfl, ⟨R1.out.hdr.ext e4 (by simpa using ht), R1.out.slots.ext e4 (by simpa using ht), hp4⟩, hperm, hheap, ?_⟩
    exact ((e2.out.mono (fun _ h => .inl h)).trans (R2.out.mono (fun _ h => .inl h))).trans (e4.mono (fun _ h => .inr h))
end
end Go.Proofs.YtcgfknpobifecaaGreat
