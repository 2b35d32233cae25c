/- The arena: Free, New. -/
import Derived.Test.YtcoaemjoanbemaaAn
namespace Go.Proofs.Ytcoaemjoanbemaa
open Go.RowKit

/-- What Free comes to. -/
def FreePost (o : Nat → Nat) (t t2 b p : Nat) (sv : Value) (ss : List Slot) (xs : List Int) (fault : Bool) (i : Nat) (w : World) (e : Ending) (w' : World) : Prop :=
  ∃ o' ys, e = .returned (.int .i64 0) ∧ ArenaAt o' w' t t2 b p sv (ss.set i (freed (ss.getD i slot0))) ys fault ∧ ys.Perm (xs ++ [(i : Int)]) ∧ IsHeap ys ∧ Ext o o' w w' (fun x => x = t ∨ x = t2)

section
variable {o : Nat → Nat} {w : World} {t t2 b p : Nat} {sv : Value} {ss : List Slot} {xs : List Int} {fault : Bool}
set_option maxHeartbeats 800000 in
theorem arena_free_no (A : ArenaAt o w t t2 b p sv ss xs fault) (h : Int) (h0 : 0 ≤ h) (h1 : h ≤ 18446744073709551615) (hi : ¬ 0 ≤ atA ss h) :
    Calls Try.prog 10 #[.pointer (some ⟨b, 0, none⟩), .int .u64 h] w fun e w' => e = .returned (.int .i64 (useCode ss h)) ∧ ArenaAt o w' t t2 b p sv ss xs true ∧ Ext o o w w' (fun x => x = t) := by
  have F := hide (arena_find A h h0 h1)
  have hn := atA_neg ss h hi
  have e2 : useFault ss h fault = true := by rw [useFault, if_neg hi]
  have hcode : useCode ss h = 3 ∨ useCode ss h = 6 := by
    rw [useCode, if_neg hi]
    by_cases hz : h = 0
    · exact .inl (if_pos hz)
    · exact .inr (if_neg hz)
  rw [hn, e2] at F
  generalize useCode ss h = c at *
  clear hi hn A e2
  rcases hcode with rfl | rfl
  all_goals
    go_enter Try.func10, Try.ntmps10
    go_wp2_with fail
    refine F.out.mono ?_
    rintro e w2 ⟨rfl, A2, e2⟩
    go_wp2
    go_ret
    exact ⟨rfl, A2, e2⟩

set_option maxRecDepth 100000 in
set_option maxHeartbeats 1600000 in
theorem arena_free (A : ArenaAt o w t t2 b p sv ss xs fault) (ht : t ≠ t2) (hl : xs.length < 100000) (hh : IsHeap xs) (hg : ∀ i, 0 ≤ (ss.getD i slot0).gen ∧ (ss.getD i slot0).gen ≤ 1000000) (h : Int) (h0 : 0 ≤ h) (h1 : h ≤ 18446744073709551615)
    (i : Nat) (hia : atA ss h = i) :
    Calls Try.prog 10 #[.pointer (some ⟨b, 0, none⟩), .int .u64 h] w (FreePost o t t2 b p sv ss xs fault i w) := by
  have F := hide (arena_find A h h0 h1)
  have hi0 : 0 ≤ atA ss h := by omega
  have e1 : useCode ss h = 0 := by rw [useCode, if_pos hi0]
  have e2 : useFault ss h fault = fault := by rw [useFault, if_pos hi0]
  obtain ⟨i', hia', hil, _⟩ := atA_lt ss h hi0
  have : i' = i := by omega
  subst this
  rw [e1, e2, hia] at F
  clear e1 e2 hi0 hia' hia
  have hgg := hg i'
  generalize hgen : (ss.getD i' slot0).gen = gen at hgg
  replace hgen := hide hgen
  obtain ⟨hg0, hg1⟩ := hgg
  replace hg := hide hg
  go_enter Try.func10, Try.ntmps10
  go_wp2_with fail
  refine F.out.mono ?_
  rintro e w2 ⟨rfl, A2, e2⟩
  have hh2 := A2.hdr.heap
  obtain ⟨g, cap, cur, rfl, hgb, _, ha1, hb1, c0, c1, c2, c3, c4, c5⟩ := slot_at A2.slots hil
  rw [hgen.out] at c5
  have hne1 := ne_of_type hh2 hgb (by decide)
  replace A2 := hide A2
  replace e2 := hide e2
  clear A F
  go_wp2_with fail
  go_region
  all_goals
    obtain ⟨R1, R2⟩ := A2.out.freed hil
    rw [hgen.out] at R1 R2
    replace R1 := R1.ext ((Ext.refl _ _ (fun _ => False)).drew) id id
    replace R2 := R2.drew
    clear hgb c0 c1 c2 c3 c4 c5 hh2 hne1
    generalize World.drew _ = w3 at R1 R2 ⊢
    have hh3 := R1.hdr.heap
    have HP := hide (heap_push R1.free hl hh (i' : Int))
    replace R1 := hide R1
    replace R2 := hide R2
    go_wp2_with fail
    refine HP.out.mono ?_
    rintro e w4 ⟨o4, ys, rfl, hp4, hperm, hheap, e4⟩
    go_wp2
    go_ret
    refine ⟨o4, ys, rfl, ⟨R1.out.hdr.ext e4 (by simpa using ht), R1.out.slots.ext e4 (by simpa using ht), hp4⟩, hperm, hheap, ?_⟩
    exact ((e2.out.mono (fun _ h => .inl h)).trans (R2.out.mono (fun _ h => .inl h))).trans (e4.mono (fun _ h => .inr h))
end
end Go.Proofs.Ytcoaemjoanbemaa
