/- quietuslaw04: of, the short ways of ArenaPlays; quietusref04 over 'RefOk'. -/
import Derived.Test.YthfnbklloahdkaaAw
namespace Go.Proofs.Ythfnbklloahdkaa
open Go.RowKit

section
variable {o : Nat → Nat} {w : World} {t b : Nat} {ss : List Slot} {fault : Bool}
theorem RefOk.ext {o o' : Nat → Nat} {w w' : World} {t b : Nat} {ss : List Slot} {fault : Bool} {S : Nat → Prop} (h : RefOk o w t b ss fault) (e : Ext o o' w w' S) (h1 : ¬ S t) : RefOk o' w' t b ss fault := by
  obtain ⟨v1, v2, v3, A⟩ := h
  exact ⟨v1, v2, v3, A.ext e h1⟩
theorem rat (A : RefOk o w t b ss fault) (hl : ss.length ≤ 1024) (hg : GenOk ss 1000000) (h : Int) : Calls Try.prog 54 #[.pointer (some ⟨b, 0, none⟩), .int .u64 h] w fun e w' => e = .returned (.int .i64 (atA ss h)) ∧ w = w' := by
  obtain ⟨v1, v2, v3, A⟩ := A
  exact ref04_at A hl hg h
theorem ruse (A : RefOk o w t b ss fault) (hl : ss.length ≤ 1024) (hg : GenOk ss 1000000) (h : Int) :
    Calls Try.prog 51 #[.pointer (some ⟨b, 0, none⟩), .int .u64 h] w fun e w' => e = .returned (.tuple #[.int .i64 (atA ss h), .int .i64 (useCode ss h)]) ∧ RefOk o w' t b ss (useFault ss h fault) ∧ Ext o o w w' (fun x => x = t) := by
  obtain ⟨v1, v2, v3, A⟩ := A
  refine (ref04_use A hl hg h).mono ?_
  rintro e w' ⟨rfl, A', e'⟩
  exact ⟨rfl, ⟨v1, v2, v3, A'⟩, e'⟩
theorem rspare (A : RefOk o w t b ss fault) : Calls Try.prog 55 #[.pointer (some ⟨b, 0, none⟩)] w fun e w' => e = .returned (.int .i64 (freeTo ss ss.length).length) ∧ w = w' := by
  obtain ⟨v1, v2, v3, A⟩ := A
  exact ref04_spare A
theorem rtake (A : RefOk o w t b ss fault) (hl : ss.length ≤ 1024) (hg : GenOk ss 1000000) (n : Nd) (i : Nat) (hi : i < ss.length) (hu : (ss.getD i slot0).used = false) (hmin : ∀ j, j < i → (ss.getD j slot0).used = true) :
    Calls Try.prog 48 #[.pointer (some ⟨b, 0, none⟩), ndV n] w (RTakePost o t b ss fault n i w) := by
  obtain ⟨v1, v2, v3, A⟩ := A
  exact ref04_take A hl hg n i hi hu hmin
theorem rtake_no (A : RefOk o w t b ss fault) (hu : ∀ j, j < ss.length → (ss.getD j slot0).used = true) (n : Nd) :
    Calls Try.prog 48 #[.pointer (some ⟨b, 0, none⟩), ndV n] w fun e w' => e = .returned (.tuple #[.int .u64 0, .int .i64 4]) ∧ RefOk o w' t b ss fault ∧ Ext o o w w' (fun _ => False) := by
  obtain ⟨v1, v2, v3, A⟩ := A
  refine (ref04_take_no A hu n).mono ?_
  rintro e w' ⟨rfl, A', e'⟩
  exact ⟨rfl, ⟨v1, v2, v3, A'⟩, e'⟩
theorem rgive (A : RefOk o w t b ss fault) (hl : ss.length ≤ 1024) (hg : GenOk ss 1000000) (h : Int) (i : Nat) (hia : atA ss h = i) :
    Calls Try.prog 53 #[.pointer (some ⟨b, 0, none⟩), .int .u64 h] w (RGivePost o t b ss fault i w) := by
  obtain ⟨v1, v2, v3, A⟩ := A
  exact ref04_give A hl hg h i hia
set_option maxHeartbeats 400000 in
theorem rgive_no (A : RefOk o w t b ss fault) (hl : ss.length ≤ 1024) (hg : GenOk ss 1000000) (h : Int) (hi : ¬ 0 ≤ atA ss h) :
    Calls Try.prog 53 #[.pointer (some ⟨b, 0, none⟩), .int .u64 h] w fun e w' => e = .returned (.int .i64 (useCode ss h)) ∧ RefOk o w' t b ss true ∧ Ext o o w w' (fun x => x = t) := by
  have F := hide (ruse A hl hg h)
  have hn := atA_neg ss h hi
  have e2 : useFault ss h fault = true := by rw [useFault, if_neg hi]
  have hcode : useCode ss h = 3 ∨ useCode ss h = 6 := by
    rw [useCode, if_neg hi]
    by_cases hz : h = 0
    · exact .inl (if_pos hz)
    · exact .inr (if_neg hz)
  rw [hn, e2] at F
  generalize useCode ss h = c at *
  clear hi hn A e2
  replace hg := hide hg
  rcases hcode with rfl | rfl
  all_goals
    go_enter Try.func53, Try.ntmps53
    go_wp2_with fail
    refine F.out.mono ?_
    rintro e w2 ⟨rfl, A2, e2⟩
    go_wp2
    go_ret
    exact ⟨rfl, A2, e2⟩
end

set_option maxHeartbeats 400000 in
theorem law04_of (n : Nd) (w : World) : Calls Try.prog 49 #[ndV n] w fun e w' => e = .returned (ndV n) ∧ ∀ o, Ext o o w w' (fun _ => False) := by
  unfold ndV
  go_enter Try.func49, Try.ntmps49
  go_wp2
  refine bodyPost_ret (by simp [results, Try.results49, go_sem]; rfl) rfl ?_
  exact ⟨rfl, fun o => ((Ext.refl o w _).alloc _).alloc _⟩

set_option maxRecDepth 100000 in
set_option maxHeartbeats 400000 in
theorem law04_many (n : Int) (a : Option Addr) (len cap : Nat) (h : 120 < len) (hl : len ≤ 9223372036854775807) (w : World) :
    Calls Try.prog 9 #[.int .i64 n, .slice a len cap] w fun e w' => e = .returned (.bool true) ∧ Below w.heap.size w w' := by
  go_enter Try.func9, Try.ntmps9
  go_wp2_with fail
  refine (law04_awake _).mono ?_
  rintro e w1 ⟨rfl, hb⟩
  go_wp2
  go_ret
  exact ⟨rfl, hb⟩

set_option maxRecDepth 100000 in
set_option maxHeartbeats 400000 in
theorem law04_range (n : Int) (a : Option Addr) (len cap : Nat) (h : len ≤ 120) (hn : n < 1 ∨ 1024 < n) (w : World) :
    Calls Try.prog 9 #[.int .i64 n, .slice a len cap] w fun e w' => e = .returned (.bool true) ∧ Below w.heap.size w w' := by
  have hc := hide (arena_new_no n hn w)
  by_cases h0 : n < 1
  all_goals
    have hn' : n < 1 ∨ 1024 < n := hn
    clear hn
    go_enter Try.func9, Try.ntmps9
    go_wp2_with fail
    refine hc.out.mono ?_
    rintro e w1 ⟨rfl, rfl⟩
    go_wp2_with fail
    refine (law04_awake _).mono ?_
    rintro e w1 ⟨rfl, hb⟩
    go_wp2
    go_ret
    exact ⟨rfl, hb⟩
end Go.Proofs.Ythfnbklloahdkaa
