/- ArenaStale: its objects, and what it keeps. No condition. -/
import Derived.Test.YtcoaemjoanbemaaSx
import Derived.Test.YtcoaemjoanbemaaPl
import Derived.Test.YtcoaemjoanbemaaCh
namespace Go.Proofs.Ytcoaemjoanbemaa
open Go.RowKit

def ArenaK (b : Nat) (ss : List Slot) (fault : Bool) (c : Int) : KObj where
  holds o w t := ArenaOk o w (16 * t) (16 * t + 1) b ss fault c
  keep e hs h := h.kp e (by simpa using hs 0 (by decide)) (hs 1 (by decide))
section
variable {l : List KObj} {w : World} {t b : Nat} {ss : List Slot} {fault : Bool} {c : Int}
theorem arR_new (h : R l w) (n : Nat) (h0 : 1 ≤ n) (h1 : n ≤ 1024) :
    Calls Try.prog 7 #[.int .i64 n] w fun e w' => ∃ b, e = .returned (.tuple #[.pointer (some ⟨b, 0, none⟩), .int .i64 0]) ∧ R (l ++ [ArenaK b (List.replicate n slot0) false 0]) w' := by
  obtain ⟨o, hr⟩ := h
  refine (arena_make o (16 * l.length) (16 * l.length + 1) n (by omega) h0 h1 w).mono ?_
  rintro e w' ⟨o', b, rfl, hA, he⟩
  exact ⟨b, rfl, hr.add he (fun x hx => by omega) hA⟩
theorem arR_ok (h : R l w) (ht : l[t]? = some (ArenaK b ss fault c)) : GenOk ss c ∧ ss.length ≤ 1024 := by
  obtain ⟨o, _, hA⟩ := h.get ht
  have hA : ArenaOk o w (16 * t) (16 * t + 1) b ss fault c := hA
  exact ⟨hA.gen, hA.len⟩
theorem arR_take (h : R l w) (ht : l[t]? = some (ArenaK b ss fault c)) (hc : c ≤ 1000000) (n : Nd) (i : Nat) (hi : freeAt ss = some i) :
    Calls Try.prog 9 #[.pointer (some ⟨b, 0, none⟩), ndV n] w (Does (l.set t (ArenaK b (ss.set i (taken (ss.getD i slot0) n)) fault c)) (.tuple #[.int .u64 (hnd ss i), .int .i64 0])) := by
  obtain ⟨o, hr, hA⟩ := h.get ht
  obtain ⟨h1, h2, h3⟩ := freeAt_some hi
  refine (arena_take hA (by omega) hc n i h1 h2 h3).mono ?_
  rintro e w' ⟨o', rfl, hA', he⟩
  exact ⟨rfl, hr.step he (fun x hx => by omega) hA'⟩
theorem arR_take_no (h : R l w) (ht : l[t]? = some (ArenaK b ss fault c)) (n : Nd) (hi : freeAt ss = none) :
    Calls Try.prog 9 #[.pointer (some ⟨b, 0, none⟩), ndV n] w (Does l (.tuple #[.int .u64 0, .int .i64 4])) := by
  obtain ⟨o, hr, hA⟩ := h.get ht
  refine (arena_take_no hA n (freeAt_none hi)).mono ?_
  rintro e w' ⟨rfl, hA', he⟩
  exact ⟨rfl, hr.same he⟩
theorem arR_give (h : R l w) (ht : l[t]? = some (ArenaK b ss fault c)) (hc : c ≤ 1000000) (x : Int) (hx : U64 x) (i : Nat) (hi : atA ss x = i) :
    Calls Try.prog 10 #[.pointer (some ⟨b, 0, none⟩), .int .u64 x] w (Does (l.set t (ArenaK b (ss.set i (freed (ss.getD i slot0))) fault (c + 1))) (.int .i64 0)) := by
  obtain ⟨o, hr, hA⟩ := h.get ht
  refine (arena_give hA (by omega) hc x hx.1 hx.2 i hi).mono ?_
  rintro e w' ⟨o', rfl, hA', he⟩
  exact ⟨rfl, hr.step he (fun x hx => by omega) hA'⟩
theorem arR_live (h : R l w) (ht : l[t]? = some (ArenaK b ss fault c)) (x : Int) (hx : U64 x) :
    Calls Try.prog 11 #[.pointer (some ⟨b, 0, none⟩), .int .u64 x] w fun e w' => e = .returned (.bool (decide (0 ≤ atA ss x))) ∧ w = w' := by
  obtain ⟨o, _, hA⟩ := h.get ht
  exact arena_live2 hA x hx.1 hx.2
theorem arR_fault (h : R l w) (ht : l[t]? = some (ArenaK b ss fault c)) : Calls Try.prog 12 #[.pointer (some ⟨b, 0, none⟩)] w fun e w' => e = .returned (.bool fault) ∧ w = w' := by
  obtain ⟨o, _, hA⟩ := h.get ht
  exact arena_fault2 hA
theorem arR_spare (h : R l w) (ht : l[t]? = some (ArenaK b ss fault c)) : Calls Try.prog 13 #[.pointer (some ⟨b, 0, none⟩)] w fun e w' => e = .returned (.int .i64 (freeTo ss ss.length).length) ∧ w = w' := by
  obtain ⟨o, _, hA⟩ := h.get ht
  exact arena_spare2 hA
end

/-- What ArenaStale keeps. -/
structure SA (room k : Nat) (ss : List Slot) (live dead met : List Int) (c : Nat) : Prop where
  pool : Pool ss live
  stale : ∀ h ∈ dead, Stale ss h ∧ U64 h
  met_ : ∀ x, x ∈ met → x ∈ live ∨ x ∈ dead
  room_ : ss.length = room
  sizes : dead.length ≤ k ∧ met.length ≤ k
  gen : c ≤ k
section
variable {room k : Nat} {ss : List Slot} {live dead met : List Int} {c : Nat}
theorem SA.start (room : Nat) : SA room 0 (List.replicate room slot0) [] [] [] 0 :=
  ⟨Pool.start room, fun _ h => absurd h List.not_mem_nil, fun _ h => absurd h List.not_mem_nil, by simp, ⟨Nat.le_refl _, Nat.le_refl _⟩, Nat.le_refl _⟩
theorem SA.more (h : SA room k ss live dead met c) : SA room (k + 1) ss live dead met c :=
  ⟨h.pool, h.stale, h.met_, h.room_, ⟨by have := h.sizes; omega, by have := h.sizes; omega⟩, by have := h.gen; omega⟩
theorem SA.fresh (h : SA room k ss live dead met c) (hr : room ≤ 1024) {i : Nat} (hi : freeAt ss = some i) : hnd ss i ∉ met := fun hm => by
  have hl := h.room_
  have hil := (freeAt_some hi).1
  rcases h.met_ _ hm with h1 | h1
  · exact h.pool.fresh (by omega) hi h1
  · exact hnd_notStale (by omega) (h.stale _ h1).1
theorem SA.take (h : SA room k ss live dead met c) (hr : room ≤ 1024) (hk : k ≤ 1000) (hg : GenOk ss c) {i : Nat} (hi : freeAt ss = some i) (n : Nd) :
    SA room (k + 1) (ss.set i (taken (ss.getD i slot0) n)) (live ++ [hnd ss i]) dead (met ++ [hnd ss i]) c := by
  have hl := h.room_
  have hgen := h.gen
  have hsz := h.sizes
  have hil := (freeAt_some hi).1
  refine ⟨(h.pool.alloc (by omega) hg (by omega) hi n).perm (List.perm_append_singleton _ _), fun x hx => ⟨(h.stale x hx).1.set hil _ (Int.le_refl _), (h.stale x hx).2⟩, fun x hx => ?_, by simpa using hl, ⟨by omega, by rw [List.length_append, List.length_singleton]; omega⟩, by omega⟩
  rcases List.mem_append.1 hx with h1 | h1
  · rcases h.met_ x h1 with h2 | h2
    · exact .inl (List.mem_append.2 (.inl h2))
    · exact .inr h2
  · exact .inl (List.mem_append.2 (.inr h1))
theorem SA.give (h : SA room k ss live dead met c) {j : Nat} (hj : j < live.length) {i : Nat} (hi : atA ss (live.getD j 0) = i) :
    SA room (k + 1) (ss.set i (freed (ss.getD i slot0))) (live.take j ++ live.drop (j + 1)) (dead ++ [live.getD j 0]) met (c + 1) := by
  have hl := h.room_
  have hgen := h.gen
  have hsz := h.sizes
  have hgd : live.getD j 0 = live[j] := by simp [hj]
  have hsp : live = live.take j ++ live.getD j 0 :: live.drop (j + 1) := by
    rw [hgd, List.getElem_cons_drop, List.take_append_drop]
  have hp : (live.getD j 0 :: (live.take j ++ live.drop (j + 1))).Perm live := by
    conv => rhs; rw [hsp]
    exact List.perm_middle.symm
  have hmem : live.getD j 0 ∈ live := hp.mem_iff.1 List.mem_cons_self
  obtain ⟨i', hi', hil, _⟩ := atA_lt ss (live.getD j 0) (by omega)
  obtain rfl : i = i' := by omega
  refine ⟨(h.pool.perm hp).free hi, fun x hx => ?_, fun x hx => ?_, by simpa using hl, ⟨by rw [List.length_append, List.length_singleton]; omega, by omega⟩, by omega⟩
  · rcases List.mem_append.1 hx with h1 | h1
    · exact ⟨(h.stale x h1).1.set hil _ (by simp only [freed]; omega), (h.stale x h1).2⟩
    · simp only [List.mem_singleton] at h1
      subst h1
      exact ⟨stale_freed hi, (h.pool.live _ hmem).2⟩
  · rcases h.met_ x hx with h2 | h2
    · rcases List.mem_cons.1 (hp.mem_iff.2 h2) with h3 | h3
      · exact .inr (List.mem_append.2 (.inr (by simp only [List.mem_singleton]; exact h3)))
      · exact .inl h3
    · exact .inr (List.mem_append.2 (.inl h2))
end
end Go.Proofs.Ytcoaemjoanbemaa
