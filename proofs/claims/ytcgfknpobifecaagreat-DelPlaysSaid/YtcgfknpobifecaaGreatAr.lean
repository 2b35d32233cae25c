/- quietuslaw04: Awake. No condition. -/
import Derived.Test.YtcgfknpobifecaaGreatApm
namespace Go.Proofs.YtcgfknpobifecaaGreat
open Go.RowKit

/-- Generations of right size. -/
def GenOk (ss : List Slot) (c : Int) : Prop := ∀ i, 0 ≤ (ss.getD i slot0).gen ∧ (ss.getD i slot0).gen ≤ c
theorem GenOk.start (n : Nat) : GenOk (List.replicate n slot0) 0 := fun i => by
  have : (List.replicate n slot0).getD i slot0 = slot0 := by
    simp only [List.getD_eq_getElem?_getD, List.getElem?_replicate]
    split <;> rfl
  rw [this]; exact ⟨by decide, by decide⟩
theorem GenOk.mono {ss : List Slot} {c d : Int} (h : GenOk ss c) (hd : c ≤ d) : GenOk ss d := fun i => ⟨(h i).1, Int.le_trans (h i).2 hd⟩
theorem GenOk.set {ss : List Slot} {c : Int} (h : GenOk ss c) (i : Nat) (x : Slot) (hx : 0 ≤ x.gen ∧ x.gen ≤ c) : GenOk (ss.set i x) c := fun j => by
  by_cases hi : i < ss.length
  · rw [getD_set_slot _ _ _ _ hi]
    split
    · exact hx
    · exact h j
  · rw [List.set_eq_of_length_le (by omega)]; exact h j
theorem GenOk.take {ss : List Slot} {c : Int} (h : GenOk ss c) (i : Nat) (n : Nd) : GenOk (ss.set i (taken (ss.getD i slot0) n)) c := h.set i _ (h i)
theorem GenOk.give {ss : List Slot} {c : Int} (h : GenOk ss c) (i : Nat) : GenOk (ss.set i (freed (ss.getD i slot0))) (c + 1) := (h.mono (by omega)).set i _ (by have := h i; simp only [freed]; omega)

/-- The whole of an arena: what it holds is right. -/
structure ArenaOk (o : Nat → Nat) (w : World) (t t2 b : Nat) (ss : List Slot) (fault : Bool) (c : Int) : Prop where
  at_ : ∃ p sv xs, ArenaAt o w t t2 b p sv ss xs fault ∧ AInv ss xs
  len : ss.length ≤ 1024
  gen : GenOk ss c
theorem ArenaOk.ext {o o' : Nat → Nat} {w w' : World} {t t2 b : Nat} {ss : List Slot} {fault : Bool} {c : Int} {S : Nat → Prop} (h : ArenaOk o w t t2 b ss fault c) (e : Ext o o' w w' S) (h1 : ¬ S t) (h2 : ¬ S t2) : ArenaOk o' w' t t2 b ss fault c := by
  obtain ⟨⟨p, sv, xs, A, I⟩, hl, hg⟩ := h
  exact ⟨⟨p, sv, xs, A.ext e h1 h2, I⟩, hl, hg⟩

def TakePost (o : Nat → Nat) (t t2 b : Nat) (ss : List Slot) (fault : Bool) (c : Int) (n : Nd) (i : Nat) (w : World) (e : Ending) (w' : World) : Prop :=
  ∃ o', e = .returned (.tuple #[.int .u64 (i + 1 + 65536 * (ss.getD i slot0).gen), .int .i64 0]) ∧ ArenaOk o' w' t t2 b (ss.set i (taken (ss.getD i slot0) n)) fault c ∧ Ext o o' w w' (fun x => x = t ∨ x = t2)
/-- Alloc, where i is the first free place. -/
theorem arena_take {o : Nat → Nat} {w : World} {t t2 b : Nat} {ss : List Slot} {fault : Bool} {c : Int} (A : ArenaOk o w t t2 b ss fault c) (ht : t ≠ t2) (hc : c ≤ 1000000) (n : Nd) (i : Nat) (hi : i < ss.length) (hu : (ss.getD i slot0).used = false)
    (hmin : ∀ j, j < i → (ss.getD j slot0).used = true) : Calls Tryz.prog 124 #[.pointer (some ⟨b, 0, none⟩), ndV n] w (TakePost o t t2 b ss fault c n i w) := by
  obtain ⟨⟨p, sv, xs, A, I⟩, hl, hg⟩ := A
  have hlen := I.length
  have hle := freeTo_le ss ss.length
  have hmem : (i : Int) ∈ xs := (I.mem _).2 ⟨i, rfl, hi, hu⟩
  obtain ⟨k, hk⟩ : ∃ k, xs.length = k + 1 := ⟨xs.length - 1, by have := List.length_pos_of_mem hmem; omega⟩
  refine (arena_alloc A ht (by omega) hk I.heap (fun x hx => ?_) (hg.mono hc) (by omega) n).mono ?_
  · obtain ⟨j, rfl, hj, _⟩ := (I.mem x).1 hx
    omega
  · rintro e w' ⟨o', ys, i', rfl, A', hp, hm, hh, hi', e'⟩
    obtain ⟨h1, h2, h3⟩ := I.first (hp.mem_iff.1 (by simp)) hm
    have : i' = i := by
      rcases Nat.lt_trichotomy i' i with h | h | h
      · rw [hmin _ h] at h2; cases h2
      · exact h
      · rw [h3 _ h] at hu; cases hu
    subst this
    exact ⟨o', rfl, ⟨⟨p, sv, ys, A', I.take hi hp hh _ rfl⟩, by simpa using hl, hg.take _ _⟩, e'⟩
theorem arena_take_no {o : Nat → Nat} {w : World} {t t2 b : Nat} {ss : List Slot} {fault : Bool} {c : Int} (A : ArenaOk o w t t2 b ss fault c) (n : Nd) (hu : ∀ j, j < ss.length → (ss.getD j slot0).used = true) :
    Calls Tryz.prog 124 #[.pointer (some ⟨b, 0, none⟩), ndV n] w fun e w' => e = .returned (.tuple #[.int .u64 0, .int .i64 4]) ∧ ArenaOk o w' t t2 b ss fault c ∧ Ext o o w w' (fun _ => False) := by
  obtain ⟨⟨p, sv, xs, A, I⟩, hl, hg⟩ := A
  have hx : xs = [] := by
    cases xs with
    | nil => rfl
    | cons z xs =>
      obtain ⟨i, _, hi, h⟩ := (I.mem z).1 (by simp)
      rw [hu i hi] at h; cases h
  subst hx
  refine (arena_alloc_full A n).mono ?_
  rintro e w' ⟨rfl, he⟩
  exact ⟨rfl, ⟨⟨p, sv, [], A.ext he id id, I⟩, hl, hg⟩, he⟩
def GivePost (o : Nat → Nat) (t t2 b : Nat) (ss : List Slot) (fault : Bool) (c : Int) (i : Nat) (w : World) (e : Ending) (w' : World) : Prop :=
  ∃ o', e = .returned (.int .i64 0) ∧ ArenaOk o' w' t t2 b (ss.set i (freed (ss.getD i slot0))) fault (c + 1) ∧ Ext o o' w w' (fun x => x = t ∨ x = t2)
theorem arena_give {o : Nat → Nat} {w : World} {t t2 b : Nat} {ss : List Slot} {fault : Bool} {c : Int} (A : ArenaOk o w t t2 b ss fault c) (ht : t ≠ t2) (hc : c ≤ 1000000) (h : Int) (h0 : 0 ≤ h) (h1 : h ≤ 18446744073709551615) (i : Nat) (hia : atA ss h = i) :
    Calls Tryz.prog 125 #[.pointer (some ⟨b, 0, none⟩), .int .u64 h] w (GivePost o t t2 b ss fault c i w) := by
  obtain ⟨⟨p, sv, xs, A, I⟩, hl, hg⟩ := A
  have hlen := I.length
  have hle := freeTo_le ss ss.length
  refine (arena_free A ht (by omega) I.heap (hg.mono hc) h h0 h1 i hia).mono ?_
  rintro e w' ⟨o', ys, rfl, A', hp, hh, e'⟩
  obtain ⟨i', hi', hil, hu, _⟩ := atA_lt ss h (by omega)
  have : i' = i := by omega
  subst this
  exact ⟨o', rfl, ⟨⟨p, sv, ys, A', I.give hil hu hp hh _ rfl⟩, by simpa using hl, hg.give _⟩, e'⟩
theorem arena_give_no {o : Nat → Nat} {w : World} {t t2 b : Nat} {ss : List Slot} {fault : Bool} {c : Int} (A : ArenaOk o w t t2 b ss fault c) (h : Int) (h0 : 0 ≤ h) (h1 : h ≤ 18446744073709551615) (hi : ¬ 0 ≤ atA ss h) :
    Calls Tryz.prog 125 #[.pointer (some ⟨b, 0, none⟩), .int .u64 h] w fun e w' => e = .returned (.int .i64 (useCode ss h)) ∧ ArenaOk o w' t t2 b ss true c ∧ Ext o o w w' (fun x => x = t) := by
  obtain ⟨⟨p, sv, xs, A, I⟩, hl, hg⟩ := A
  refine (arena_free_no A h h0 h1 hi).mono ?_
  rintro e w' ⟨rfl, A', e'⟩
  exact ⟨rfl, ⟨⟨p, sv, xs, A', I⟩, hl, hg⟩, e'⟩
def MadePost (o : Nat → Nat) (t t2 n : Nat) (w : World) (e : Ending) (w' : World) : Prop :=
  ∃ o' b, e = .returned (.tuple #[.pointer (some ⟨b, 0, none⟩), .int .i64 0]) ∧ ArenaOk o' w' t t2 b (List.replicate n slot0) false 0 ∧ Ext o o' w w' (fun x => x = t2)
theorem arena_make (o : Nat → Nat) (t t2 n : Nat) (ht : t ≠ t2) (h0 : 1 ≤ n) (h1 : n ≤ 1024) (w : World) : Calls Tryz.prog 70 #[.int .i64 n] w (MadePost o t t2 n w) := by
  refine (arena_new o t t2 n ht h0 h1 w).mono ?_
  rintro e w' ⟨o', b, p, sv, xs, rfl, A, hh, hp, he⟩
  exact ⟨o', b, rfl, ⟨⟨p, sv, xs, A, .start n hh hp⟩, by rw [List.length_replicate]; exact h1, .start n⟩, he⟩
theorem arena_live2 {o : Nat → Nat} {w : World} {t t2 b : Nat} {ss : List Slot} {fault : Bool} {c : Int} (A : ArenaOk o w t t2 b ss fault c) (h : Int) (h0 : 0 ≤ h) (h1 : h ≤ 18446744073709551615) :
    Calls Tryz.prog 49 #[.pointer (some ⟨b, 0, none⟩), .int .u64 h] w fun e w' => e = .returned (.bool (decide (0 ≤ atA ss h))) ∧ w = w' := by
  obtain ⟨⟨p, sv, xs, A, I⟩, hl, hg⟩ := A
  exact arena_live A h h0 h1
theorem arena_fault2 {o : Nat → Nat} {w : World} {t t2 b : Nat} {ss : List Slot} {fault : Bool} {c : Int} (A : ArenaOk o w t t2 b ss fault c) :
    Calls Tryz.prog 21 #[.pointer (some ⟨b, 0, none⟩)] w fun e w' => e = .returned (.bool fault) ∧ w = w' := by
  obtain ⟨⟨p, sv, xs, A, I⟩, hl, hg⟩ := A
  exact arena_fault A
theorem arena_spare2 {o : Nat → Nat} {w : World} {t t2 b : Nat} {ss : List Slot} {fault : Bool} {c : Int} (A : ArenaOk o w t t2 b ss fault c) :
    Calls Tryz.prog 12 #[.pointer (some ⟨b, 0, none⟩)] w fun e w' => e = .returned (.int .i64 (freeTo ss ss.length).length) ∧ w = w' := by
  obtain ⟨⟨p, sv, xs, A, I⟩, hl, hg⟩ := A
  rw [← I.length]
  exact arena_spare A
theorem arena_read2 {o : Nat → Nat} {w : World} {t t2 b : Nat} {ss : List Slot} {fault : Bool} {c : Int} (A : ArenaOk o w t t2 b ss fault c) (h : Int) (h0 : 0 ≤ h) (h1 : h ≤ 18446744073709551615) :
    Calls Tryz.prog 50 #[.pointer (some ⟨b, 0, none⟩), .int .u64 h] w fun e w' => ∃ o', e = .returned (.tuple #[ndV (readNd ss h), .int .i64 (useCode ss h)]) ∧ ArenaOk o' w' t t2 b ss (useFault ss h fault) c ∧ Ext o o' w w' (fun x => x = t) := by
  obtain ⟨⟨p, sv, xs, A, I⟩, hl, hg⟩ := A
  refine (arena_read A h h0 h1).mono ?_
  rintro e w' ⟨o', rfl, A', e'⟩
  exact ⟨o', rfl, ⟨⟨p, sv, xs, A', I⟩, hl, hg⟩, e'⟩
theorem AInv.same {ss : List Slot} {xs : List Int} (A : AInv ss xs) {i : Nat} (hi : i < ss.length) (x : Slot) (hx : x.used = (ss.getD i slot0).used) : AInv (ss.set i x) xs := by
  refine AInv.of A.heap A.nodup fun z => ?_
  rw [A.mem]
  constructor
  · rintro ⟨j, rfl, hj, hu⟩
    refine ⟨j, rfl, by simpa using hj, ?_⟩
    rw [getD_set_slot _ _ _ _ hi]
    by_cases e : i = j
    · rw [if_pos e, hx, e]; exact hu
    · rw [if_neg e]; exact hu
  · rintro ⟨j, rfl, hj, hu⟩
    refine ⟨j, rfl, by simpa using hj, ?_⟩
    rw [getD_set_slot _ _ _ _ hi] at hu
    by_cases e : i = j
    · rw [if_pos e, hx, e] at hu; exact hu
    · rw [if_neg e] at hu; exact hu
theorem arena_link2 {o : Nat → Nat} {w : World} {t t2 b : Nat} {ss : List Slot} {fault : Bool} {c : Int} (A : ArenaOk o w t t2 b ss fault c) (h next : Int) (h0 : 0 ≤ h) (h1 : h ≤ 18446744073709551615) :
    Calls Tryz.prog 133 #[.pointer (some ⟨b, 0, none⟩), .int .u64 h, .int .u64 next] w fun e w' => e = .returned (.int .i64 (useCode ss h)) ∧ ArenaOk o w' t t2 b (linkS ss h next) (useFault ss h fault) c ∧ Ext o o w w' (fun x => x = t) := by
  obtain ⟨⟨p, sv, xs, A, I⟩, hl, hg⟩ := A
  refine (arena_link A h next h0 h1).mono ?_
  rintro e w' ⟨rfl, A', e'⟩
  by_cases hi : 0 ≤ atA ss h
  · obtain ⟨i, hia, hil, _⟩ := atA_lt ss h hi
    have : linkS ss h next = ss.set i { ss.getD i slot0 with nd := { (ss.getD i slot0).nd with next := next } } := by rw [linkS, if_pos hi, hia]; rfl
    rw [this] at A' ⊢
    exact ⟨rfl, ⟨⟨p, sv, xs, A', I.same hil _ rfl⟩, by simpa using hl, hg.set _ _ (hg i)⟩, e'⟩
  · have : linkS ss h next = ss := by rw [linkS, if_neg hi]
    rw [this] at A' ⊢
    exact ⟨rfl, ⟨⟨p, sv, xs, A', I⟩, hl, hg⟩, e'⟩

set_option maxRecDepth 100000 in
set_option maxHeartbeats 800000 in
theorem law04_awake (w : World) : Calls Tryz.prog 96 #[] w fun e w' => e = .returned (.bool true) ∧ Below w.heap.size w w' := by
  go_enter Tryz.func96, Tryz.ntmps96
  go_wp2_with fail
  refine (arena_make (fun _ => 0) 1 2 2 (by decide) (by decide) (by decide) w).mono ?_
  rintro e w1 ⟨o1, b, rfl, A1, e1⟩
  go_wp2_with fail
  refine (arena_take A1 (by decide) (by decide) nd0 0 (by decide) rfl (fun j h => by omega)).mono ?_
  rintro e w2 ⟨o2, rfl, A2, e2⟩
  go_wp2_with fail
  refine (arena_take A2 (by decide) (by decide) nd0 1 (by decide) rfl (fun j h => by rw [show j = 0 by omega]; rfl)).mono ?_
  rintro e w3 ⟨o3, rfl, A3, e3⟩
  go_wp2_with fail
  refine (arena_give A3 (by decide) (by decide) _ (by decide) (by decide) 0 rfl).mono ?_
  rintro e w4 ⟨o4, rfl, A4, e4⟩
  go_wp2_with fail
  refine (arena_take A4 (by decide) (by decide) nd0 0 (by decide) rfl (fun j h => by omega)).mono ?_
  rintro e w5 ⟨o5, rfl, A5, e5⟩
  go_wp2_with fail
  refine (arena_fault2 A5).mono ?_
  rintro e w6 ⟨rfl, rfl⟩
  go_wp2
  go_ret
  exact ⟨rfl, (((((e1.mono (fun _ h => .inr h)).trans e2).trans e3).trans e4).trans e5).done (by decide)⟩
end Go.Proofs.YtcgfknpobifecaaGreat
