/- The arena. Condition: the pointer leads to such a block. The arena: Read, Link. The arena: Link, Alloc, Free. The arena: Alloc, Free. The arena: Free, New. arena.New. Plain laws on an arena's free places. No program. quietuslaw04: Awake. No condition. -/
import Derived.Test.YtcoaemjoanbemaaXc
import Derived.Handy
import Derived.Deep.CutBlock
namespace Go.Proofs.Ytcoaemjoanbemaa
open Go.RowKit

section
variable {α : Type} (f : α → List Value) (k : Nat)
theorem flat_len (hk : ∀ x, (f x).length = k) (l : List α) : (l.flatMap f).length = l.length * k := by
  induction l with
  | nil => simp
  | cons a l ih => rw [List.flatMap_cons, List.length_append, ih, hk, List.length_cons, Nat.add_mul, Nat.one_mul, Nat.add_comm]
theorem flat_get (hk : ∀ x, (f x).length = k) (l : List α) (i j : Nat) (hj : j < k) : (l.flatMap f)[i * k + j]? = l[i]?.bind fun x => (f x)[j]? := by
  induction l generalizing i with
  | nil => simp
  | cons a l ih =>
    rw [List.flatMap_cons]
    cases i with
    | zero => rw [List.getElem?_append_left (by rw [hk]; omega)]; simp
    | succ i =>
      rw [List.getElem?_append_right (by rw [hk, Nat.add_mul]; omega), hk, show (i + 1) * k + j - k = i * k + j by rw [Nat.add_mul]; omega, ih]
      simp
theorem flat_set (hk : ∀ x, (f x).length = k) (l : List α) (i j : Nat) (hj : j < k) (a : α) (ha : l[i]? = some a) (x : α) (u : Value) (hx : f x = (f a).set j u) : (l.set i x).flatMap f = (l.flatMap f).set (i * k + j) u := by
  induction l generalizing i with
  | nil => simp at ha
  | cons c l ih =>
    cases i with
    | zero =>
      simp at ha
      subst ha
      rw [List.set_cons_zero, List.flatMap_cons, List.flatMap_cons, hx, List.set_append_left _ _ (by rw [hk]; omega)]
      simp
    | succ i =>
      simp at ha
      rw [List.set_cons_succ, List.flatMap_cons, List.flatMap_cons, ih i ha, List.set_append_right _ _ (by rw [hk, Nat.add_mul]; omega), hk, show (i + 1) * k + j - k = i * k + j by rw [Nat.add_mul]; omega]
/-- A store into an owned row. -/
theorem SlAt.putk {o : Nat → Nat} {w : World} {t : Nat} {T : TypeId} {g n k cap : Nat} {cs : List Value} (h : SlAt o w t T k (.slice (some ⟨g, 0, none⟩) n cap) n cs) (i : Nat) (u : Value) :
    SlAt o (w.setCell ⟨g, i, none⟩ u) t T k (.slice (some ⟨g, 0, none⟩) n cap) n (cs.set i u) := by
  refine ⟨by rw [List.length_set]; exact h.1, ?_⟩
  rcases h.2 with ⟨h0, _⟩ | ⟨g', cap', cur, hv, hg, hog, h1, h2, h3, h4⟩
  · simp at h0
  · simp at hv
    obtain ⟨rfl, rfl⟩ := hv
    refine .inr ⟨g, cap, cur.setIfInBounds i u, rfl, ?_, hog, h1, h2, by simpa using h3, ?_⟩
    · rw [blk_put_same, hg]; rfl
    · rw [← h4]
      simp [List.take_set]
/-- A store into a part of an element. -/
theorem SlAt.putf {o : Nat → Nat} {w : World} {t : Nat} {T : TypeId} {g k cap n : Nat} {l : List α} (h : SlAt o w t T k (.slice (some ⟨g, 0, none⟩) n cap) n (l.flatMap f)) (hk : ∀ x, (f x).length = k) {i j : Nat} (hj : j < k) {a : α} (ha : l[i]? = some a) (x : α) (u : Value) (hx : f x = (f a).set j u) :
    SlAt o (w.setCell ⟨g, i * k + j, none⟩ u) t T k (.slice (some ⟨g, 0, none⟩) n cap) n ((l.set i x).flatMap f) := by
  rw [flat_set f k hk l i j hj a ha x u hx]
  exact h.putk _ _
end

/-- A node. -/
structure Nd where
  key : ByteArray
  val : ByteArray
  sum : Int
  next : Int
/-- A place: its node, whether it has one, its generation. -/
structure Slot where
  nd : Nd
  used : Bool
  gen : Int
def ndL (x : Nd) : List Value := [.string x.key, .string x.val, .int .u32 x.sum, .int .u64 x.next]
def slotL (s : Slot) : List Value := [.string s.nd.key, .string s.nd.val, .int .u32 s.nd.sum, .int .u64 s.nd.next, .bool s.used, .int .u64 s.gen]
/-- No node. -/
def nd0 : Nd := ⟨⟨#[]⟩, ⟨#[]⟩, 0, 0⟩
def slot0 : Slot := ⟨nd0, false, 0⟩
theorem slotL_len (s : Slot) : (slotL s).length = 6 := rfl

/-- An arena: its places, the heap of the free ones, the flag. -/
structure ArenaAt (o : Nat → Nat) (w : World) (t t2 b p : Nat) (sv : Value) (ss : List Slot) (xs : List Int) (fault : Bool) : Prop where
  hdr : StAt o w t b #[sv, .pointer (some ⟨p, 0, none⟩), .bool fault] 101
  slots : SlAt o w t 105 6 sv ss.length (ss.flatMap slotL)
  free : PlacesAt o w t2 p xs
theorem ArenaAt.ext {o o' : Nat → Nat} {w w' : World} {t t2 b p : Nat} {sv : Value} {ss : List Slot} {xs : List Int} {fault : Bool} {S : Nat → Prop} (h : ArenaAt o w t t2 b p sv ss xs fault) (e : Ext o o' w w' S) (h1 : ¬ S t) (h2 : ¬ S t2) :
    ArenaAt o' w' t t2 b p sv ss xs fault := ⟨h.hdr.ext e h1, h.slots.ext e h1, h.free.ext e h2⟩

theorem slot_at {o : Nat → Nat} {w : World} {t : Nat} {v : Value} {ss : List Slot} (hs : SlAt o w t 105 6 v ss.length (ss.flatMap slotL)) {i : Nat} (hi : i < ss.length) :
    ∃ g cap cur, v = .slice (some ⟨g, 0, none⟩) ss.length cap ∧ blk w g = some (.cells cur 105 (0, 0)) ∧ o g = t ∧ cap ≤ 9223372036854775807 ∧ ss.length ≤ cap ∧
      cur[i * 6]? = some (.string (ss.getD i slot0).nd.key) ∧ cur[i * 6 + 1]? = some (.string (ss.getD i slot0).nd.val) ∧ cur[i * 6 + 2]? = some (.int .u32 (ss.getD i slot0).nd.sum) ∧ cur[i * 6 + 3]? = some (.int .u64 (ss.getD i slot0).nd.next) ∧
      cur[i * 6 + 4]? = some (.bool (ss.getD i slot0).used) ∧ cur[i * 6 + 5]? = some (.int .u64 (ss.getD i slot0).gen) := by
  obtain ⟨g, cap, cur, rfl, hg, hog, h1, h2, h3, h4⟩ := hs.row (by omega)
  have hgi : ss[i]? = some (ss.getD i slot0) := by simp [hi]
  have G : ∀ j, j < 6 → ∀ u, (slotL (ss.getD i slot0))[j]? = some u → cur[i * 6 + j]? = some u := fun j hj u hu => cur_at h4 (by rw [flat_get slotL 6 slotL_len _ _ _ hj, hgi]; exact hu)
  exact ⟨g, cap, cur, rfl, hg, hog, by simp only [maxLen] at h2; omega, h1, G 0 (by decide) _ rfl, G 1 (by decide) _ rfl, G 2 (by decide) _ rfl, G 3 (by decide) _ rfl, G 4 (by decide) _ rfl, G 5 (by decide) _ rfl⟩

/-- The place of a handle, or -1. -/
def atA (ss : List Slot) (h : Int) : Int :=
  if 0 < h % 65536 ∧ h % 65536 ≤ ss.length ∧ (ss.getD ((h % 65536).toNat - 1) slot0).used = true ∧ (ss.getD ((h % 65536).toNat - 1) slot0).gen = h / 65536 then h % 65536 - 1 else -1

set_option maxRecDepth 100000 in
set_option maxHeartbeats 800000 in
theorem arena_at {o : Nat → Nat} {w : World} {t t2 b p : Nat} {sv : Value} {ss : List Slot} {xs : List Int} {fault : Bool} (A : ArenaAt o w t t2 b p sv ss xs fault) (h : Int) (h0 : 0 ≤ h) (h1 : h ≤ 18446744073709551615) :
    Calls Try.prog 53 #[.pointer (some ⟨b, 0, none⟩), .int .u64 h] w fun e w' => e = .returned (.int .i64 (atA ss h)) ∧ w = w' := by
  have hb := A.hdr.heap
  have hlt := A.hdr.lt
  have hr0 : 0 ≤ h % 65536 := by omega
  have hr1 : h % 65536 < 65536 := by omega
  have hd : h / 65536 ≤ 18446744073709551615 ∧ 0 ≤ h / 65536 := by omega
  obtain ⟨hd1, hd0⟩ := hd
  obtain ⟨sa, sc, rfl⟩ := A.slots.value
  have hle := A.slots.le63
  by_cases hi0 : h % 65536 = 0
  · have hres : atA ss h = -1 := by simp [atA, hi0]
    rw [hres]
    go_enter Try.func53, Try.ntmps53
    go_wp2
    go_ret
    exact ⟨rfl, rfl⟩
  · by_cases hi1 : h % 65536 ≤ ss.length
    · obtain ⟨i, hi⟩ : ∃ i : Nat, h % 65536 = i + 1 := ⟨(h % 65536 - 1).toNat, by omega⟩
      have hi2 : i < ss.length := by omega
      obtain ⟨g, cap, cur, hv, hg, _, ha1, hb1, c0, c1, c2, c3, c4, c5⟩ := slot_at A.slots hi2
      simp at hv
      obtain ⟨rfl, rfl⟩ := hv
      clear c0 c1 c2 c3
      have hat : atA ss h = if (ss.getD i slot0).used = true ∧ (ss.getD i slot0).gen = h / 65536 then (i : Int) else -1 := by
        rw [atA, hi, show ((i : Int) + 1).toNat - 1 = i by omega]
        by_cases hc : (ss.getD i slot0).used = true ∧ (ss.getD i slot0).gen = h / 65536
        · rw [if_pos hc, if_pos ⟨by omega, by omega, hc⟩]; omega
        · rw [if_neg hc, if_neg (fun x => hc x.2.2)]
      rw [hat]
      generalize ss.getD i slot0 = s at *
      generalize hq : h / 65536 = q at *
      clear A hat hi0 hi1
      have hnum : ((i : Int) + 1 - 1) = i := by omega
      cases hu : s.used
      · rw [hu] at c4
        rw [if_neg (by simp)]
        clear hu
        go_enter Try.func53, Try.ntmps53
        go_wp2
        go_ret
        exact ⟨rfl, rfl⟩
      · rw [hu] at c4
        generalize s.gen = gn at *
        clear hu
        by_cases hg : gn = q
        · subst hg
          rw [if_pos ⟨rfl, rfl⟩]
          go_enter Try.func53, Try.ntmps53
          go_wp2
          go_ret
          exact ⟨rfl, rfl⟩
        · rw [if_neg (fun x => hg x.2)]
          have hne : (gn != q) = true := by simpa using hg
          go_enter Try.func53, Try.ntmps53
          go_wp2
          go_ret
          exact ⟨rfl, rfl⟩
    · have hres : atA ss h = -1 := by rw [atA, if_neg (fun x => hi1 x.2.1)]
      rw [hres]
      go_enter Try.func53, Try.ntmps53
      go_wp2
      go_ret
      exact ⟨rfl, rfl⟩

theorem atA_lt (ss : List Slot) (h : Int) (hi : 0 ≤ atA ss h) : ∃ i : Nat, atA ss h = i ∧ i < ss.length ∧ (ss.getD i slot0).used = true ∧ h % 65536 = i + 1 ∧ (ss.getD i slot0).gen = h / 65536 := by
  unfold atA at hi ⊢
  by_cases hc : 0 < h % 65536 ∧ h % 65536 ≤ ss.length ∧ (ss.getD ((h % 65536).toNat - 1) slot0).used = true ∧ (ss.getD ((h % 65536).toNat - 1) slot0).gen = h / 65536
  · rw [if_pos hc]
    exact ⟨(h % 65536).toNat - 1, by omega, by omega, hc.2.2.1, by omega, hc.2.2.2⟩
  · rw [if_neg hc] at hi; omega
theorem atA_neg (ss : List Slot) (h : Int) (hi : ¬ 0 ≤ atA ss h) : atA ss h = -1 := by
  unfold atA at hi ⊢
  split at hi
  · omega
  · rename_i hc
    rw [if_neg hc]

/-- The code of a use. -/
def useCode (ss : List Slot) (h : Int) : Int := if 0 ≤ atA ss h then 0 else if h = 0 then 3 else 6
def useFault (ss : List Slot) (h : Int) (fault : Bool) : Bool := if 0 ≤ atA ss h then fault else true

section
variable {o : Nat → Nat} {w : World} {t t2 b p : Nat} {sv : Value} {ss : List Slot} {xs : List Int} {fault : Bool}
set_option maxHeartbeats 400000 in
theorem arena_live (A : ArenaAt o w t t2 b p sv ss xs fault) (h : Int) (h0 : 0 ≤ h) (h1 : h ≤ 18446744073709551615) :
    Calls Try.prog 11 #[.pointer (some ⟨b, 0, none⟩), .int .u64 h] w fun e w' => e = .returned (.bool (decide (0 ≤ atA ss h))) ∧ w = w' := by
  go_enter Try.func11, Try.ntmps11
  go_wp2_with fail
  refine (arena_at A h h0 h1).mono ?_
  rintro e w' ⟨rfl, rfl⟩
  go_wp2
  go_ret
  exact ⟨rfl, rfl⟩
set_option maxHeartbeats 400000 in
theorem arena_fault (A : ArenaAt o w t t2 b p sv ss xs fault) :
    Calls Try.prog 12 #[.pointer (some ⟨b, 0, none⟩)] w fun e w' => e = .returned (.bool fault) ∧ w = w' := by
  have hb := A.hdr.heap
  go_enter Try.func12, Try.ntmps12
  go_wp2
  go_ret
  exact ⟨rfl, rfl⟩
set_option maxHeartbeats 400000 in
theorem arena_room (A : ArenaAt o w t t2 b p sv ss xs fault) :
    Calls Try.prog 18 #[.pointer (some ⟨b, 0, none⟩)] w fun e w' => e = .returned (.int .i64 ss.length) ∧ w = w' := by
  have hb := A.hdr.heap
  obtain ⟨sa, sc, rfl⟩ := A.slots.value
  go_enter Try.func18, Try.ntmps18
  go_wp2
  go_ret
  exact ⟨rfl, rfl⟩
set_option maxHeartbeats 400000 in
theorem arena_spare (A : ArenaAt o w t t2 b p sv ss xs fault) :
    Calls Try.prog 13 #[.pointer (some ⟨b, 0, none⟩)] w fun e w' => e = .returned (.int .i64 xs.length) ∧ w = w' := by
  have hb := A.hdr.heap
  obtain ⟨v, hp, hs⟩ := A.free
  obtain ⟨a, c, rfl⟩ := hs.value
  have hp' := hp.heap
  go_enter Try.func13, Try.ntmps13
  go_wp2_with fail
  refine (places_len _ _ _ _).mono ?_
  rintro e w' ⟨rfl, rfl⟩
  go_wp2
  go_ret
  exact ⟨rfl, rfl⟩
set_option maxHeartbeats 400000 in
theorem arena_find (A : ArenaAt o w t t2 b p sv ss xs fault) (h : Int) (h0 : 0 ≤ h) (h1 : h ≤ 18446744073709551615) :
    Calls Try.prog 52 #[.pointer (some ⟨b, 0, none⟩), .int .u64 h] w fun e w' => e = .returned (.tuple #[.int .i64 (atA ss h), .int .i64 (useCode ss h)]) ∧ ArenaAt o w' t t2 b p sv ss xs (useFault ss h fault) ∧ Ext o o w w' (fun x => x = t) := by
  have hb := A.hdr.heap
  have hat := hide (arena_at A h h0 h1)
  by_cases hi : 0 ≤ atA ss h
  · have e1 : useCode ss h = 0 := by rw [useCode, if_pos hi]
    have e2 : useFault ss h fault = fault := by rw [useFault, if_pos hi]
    rw [e1, e2]
    generalize atA ss h = i at *
    go_enter Try.func52, Try.ntmps52
    go_wp2_with fail
    refine hat.out.mono ?_
    rintro e w' ⟨rfl, rfl⟩
    go_wp2
    go_ret2
    exact ⟨rfl, A, .refl _ _ _⟩
  · have e2 : useFault ss h fault = true := by rw [useFault, if_neg hi]
    have hput : Hid (ArenaAt o (w.setCell ⟨b, 2, none⟩ (.bool true)) t t2 b p sv ss xs true ∧ Ext o o w (w.setCell ⟨b, 2, none⟩ (.bool true)) (fun x => x = t)) := by
      refine hide ⟨⟨A.hdr.put 2 (.bool true), A.slots.put_far (A.slots.apart A.hdr.heap (by decide)), ?_⟩, (Ext.refl o w _).put _ (.inl A.hdr.tag)⟩
      obtain ⟨v, hp, hs⟩ := A.free
      exact ⟨v, hp.put_far (ne_of_type hp.heap A.hdr.heap (by decide)), hs.put_far (hs.apart A.hdr.heap (by decide))⟩
    rw [e2]
    by_cases hz : h = 0
    · have e1 : useCode ss h = 3 := by rw [useCode, if_neg hi, if_pos hz]
      rw [e1]
      have hn := atA_neg ss h hi
      rw [hn] at hat ⊢
      clear hi hn A e1 e2
      subst hz
      go_enter Try.func52, Try.ntmps52
      go_wp2_with fail
      refine hat.out.mono ?_
      rintro e w' ⟨rfl, rfl⟩
      go_wp2
      go_ret2
      exact ⟨rfl, hput.out⟩
    · have e1 : useCode ss h = 6 := by rw [useCode, if_neg hi, if_neg hz]
      rw [e1]
      have hn := atA_neg ss h hi
      rw [hn] at hat ⊢
      clear hi hn A e1 e2
      go_enter Try.func52, Try.ntmps52
      go_wp2_with fail
      refine hat.out.mono ?_
      rintro e w' ⟨rfl, rfl⟩
      go_wp2
      go_ret2
      exact ⟨rfl, hput.out⟩
end
end Go.Proofs.Ytcoaemjoanbemaa

namespace Go.Proofs.Ytcoaemjoanbemaa
open Go.RowKit

def ndV (x : Nd) : Value := .agg #[.string x.key, .string x.val, .int .u32 x.sum, .int .u64 x.next]
/-- What Read answers. -/
def readNd (ss : List Slot) (h : Int) : Nd := if 0 ≤ atA ss h then (ss.getD (atA ss h).toNat slot0).nd else nd0
/-- The places behind a Link. -/
def linkS (ss : List Slot) (h next : Int) : List Slot := if 0 ≤ atA ss h then ss.set (atA ss h).toNat { ss.getD (atA ss h).toNat slot0 with nd := { (ss.getD (atA ss h).toNat slot0).nd with next := next } } else ss

/-- Four cells of a block written. -/
abbrev put4 (w : World) (H : Nat) (a b c d : Value) : World := (((w.setCell ⟨H, 0, none⟩ a).setCell ⟨H, 1, none⟩ b).setCell ⟨H, 2, none⟩ c).setCell ⟨H, 3, none⟩ d
theorem Ext.put4 {o o' : Nat → Nat} {w w' : World} {S : Nat → Prop} (e : Ext o o' w w' S) {H : Nat} (a b c d : Value) (h : S (o' H) ∨ w.heap.size ≤ H) : Ext o o' w (put4 w' H a b c d) S := (((e.put a h).put b h).put c h).put d h
/-- Beside an arena. -/
theorem ArenaAt.put4 {o : Nat → Nat} {w : World} {t t2 b p : Nat} {sv : Value} {ss : List Slot} {xs : List Int} {fault : Bool} (A : ArenaAt o w t t2 b p sv ss xs fault) {H : Nat} (x y z u : Value) (h1 : o H ≠ t) (h2 : o H ≠ t2) :
    ArenaAt o (Go.Proofs.Ytcoaemjoanbemaa.put4 w H x y z u) t t2 b p sv ss xs fault := A.ext ((Ext.refl o w (fun x => x = o H)).put4 x y z u (.inl rfl)) (fun e => h1 e.symm) (fun e => h2 e.symm)

section
variable {o : Nat → Nat} {w : World} {t t2 b p : Nat} {sv : Value} {ss : List Slot} {xs : List Int} {fault : Bool}
set_option maxHeartbeats 800000 in
theorem arena_read (A : ArenaAt o w t t2 b p sv ss xs fault) (h : Int) (h0 : 0 ≤ h) (h1 : h ≤ 18446744073709551615) :
    Calls Try.prog 81 #[.pointer (some ⟨b, 0, none⟩), .int .u64 h] w fun e w' => ∃ o', e = .returned (.tuple #[ndV (readNd ss h), .int .i64 (useCode ss h)]) ∧ ArenaAt o' w' t t2 b p sv ss xs (useFault ss h fault) ∧ Ext o o' w w' (fun x => x = t) := by
  have E0 : Ext o (upd o w.heap.size (t + t2 + 1)) w (w.alloc (.cells #[.string ⟨#[]⟩, .string ⟨#[]⟩, .int .u32 0, .int .u64 0] 36)) (fun _ => False) := ((Ext.refl o w (fun _ => False)).retag (t + t2 + 1)).alloc _
  have A1 := A.ext E0 id id
  have S1 : StAt (upd o w.heap.size (t + t2 + 1)) (w.alloc (.cells #[.string ⟨#[]⟩, .string ⟨#[]⟩, .int .u32 0, .int .u64 0] 36)) (t + t2 + 1) w.heap.size #[.string ⟨#[]⟩, .string ⟨#[]⟩, .int .u32 0, .int .u64 0] 36 := ⟨blk_new _ _, upd_new (Nat.le_refl _)⟩
  replace E0 := hide (E0.none (S := fun x => x = t))
  have F := hide (arena_find A1 h h0 h1)
  clear A
  by_cases hi : 0 ≤ atA ss h
  · obtain ⟨i, hia, hil, hused, hm, hgen⟩ := atA_lt ss h hi
    have e1 : useCode ss h = 0 := by rw [useCode, if_pos hi]
    have e2 : useFault ss h fault = fault := by rw [useFault, if_pos hi]
    have e3 : readNd ss h = (ss.getD i slot0).nd := by rw [readNd, if_pos hi, hia]; rfl
    rw [e1, e2, e3]
    rw [e1, e2, hia] at F
    clear e1 e2 e3 hi hia hused hm hgen
    generalize hn : (ss.getD i slot0).nd = n
    replace hn := hide hn
    go_enter Try.func81, Try.ntmps81
    go_wp2_with fail
    refine F.out.mono ?_
    rintro e w2 ⟨rfl, A2, e2⟩
    have S2 := S1.ext e2 (by omega)
    have hh := A2.hdr.heap
    obtain ⟨g, cap, cur, rfl, hg, _, ha1, hb1, c0, c1, c2, c3, c4, c5⟩ := slot_at A2.slots hil
    clear c4 c5
    rw [hn.out] at c0 c1 c2 c3
    have htag := hide S2.tag
    have S2h := S2.heap
    have A3 := hide A2
    have E2 := hide e2
    have hne := ne_of_type S2h hg (by decide)
    have hlt : w.heap.size < w2.heap.size := S2.lt
    clear A2 e2 S2 S1 A1 F
    go_wp2_with fail
    refine bodyPost_ret (by simp [results, Try.results81, go_sem, S2h]; rfl) rfl ?_
    exact ⟨_, rfl, A3.out.put4 _ _ _ _ (by rw [htag.out]; omega) (by rw [htag.out]; omega), (E0.out.trans E2.out).put4 _ _ _ _ (.inr (Nat.le_refl _))⟩
  · have hn := atA_neg ss h hi
    have e3 : readNd ss h = nd0 := by rw [readNd, if_neg hi]
    rw [e3]
    have hcode : useCode ss h = 3 ∨ useCode ss h = 6 := by
      rw [useCode, if_neg hi]
      by_cases hz : h = 0
      · exact .inl (if_pos hz)
      · exact .inr (if_neg hz)
    rw [hn] at F
    generalize useCode ss h = c at *
    generalize useFault ss h fault = fa at *
    clear e3 hi hn
    rcases hcode with rfl | rfl
    all_goals
      go_enter Try.func81, Try.ntmps81
      go_wp2_with fail
      refine F.out.mono ?_
      rintro e w2 ⟨rfl, A2, e2⟩
      have S2 := S1.ext e2 (by omega)
      have htag := hide S2.tag
      have S2h := S2.heap
      have A3 := hide A2
      have E2 := hide e2
      have hlt : w.heap.size < w2.heap.size := S2.lt
      clear A2 e2 S2 S1 A1 F
      go_wp2_with fail
      refine bodyPost_ret (by simp [results, Try.results81, go_sem, S2h]; rfl) rfl ?_
      exact ⟨_, rfl, A3.out.put4 _ _ _ _ (by rw [htag.out]; omega) (by rw [htag.out]; omega), (E0.out.trans E2.out).put4 _ _ _ _ (.inr (Nat.le_refl _))⟩
end
end Go.Proofs.Ytcoaemjoanbemaa

namespace Go.Proofs.Ytcoaemjoanbemaa
open Go.RowKit

theorem ArenaAt.put {o : Nat → Nat} {w : World} {t t2 b p g cap : Nat} {ss : List Slot} {xs : List Int} {fault : Bool} (A : ArenaAt o w t t2 b p (.slice (some ⟨g, 0, none⟩) ss.length cap) ss xs fault) {i j : Nat} (hj : j < 6) (hi : i < ss.length)
    (x : Slot) (u : Value) (hx : slotL x = (slotL (ss.getD i slot0)).set j u) :
    ArenaAt o (w.setCell ⟨g, i * 6 + j, none⟩ u) t t2 b p (.slice (some ⟨g, 0, none⟩) (ss.set i x).length cap) (ss.set i x) xs fault ∧ Ext o o w (w.setCell ⟨g, i * 6 + j, none⟩ u) (fun x => x = t) := by
  obtain ⟨g', cap', cur, hv, hg, hog, _⟩ := A.slots.row (by omega)
  simp at hv
  obtain ⟨rfl, rfl⟩ := hv
  have hgi : ss[i]? = some (ss.getD i slot0) := by simp [hi]
  obtain ⟨v, hp, hs⟩ := A.free
  have hl : (ss.set i x).length = ss.length := List.length_set
  refine ⟨⟨?_, ?_, ?_⟩, (Ext.refl o w _).put _ (.inl hog)⟩
  · rw [hl]; exact A.hdr.put_far (ne_of_type A.hdr.heap hg (by decide))
  · rw [hl]; exact A.slots.putf slotL slotL_len hj hgi x u hx
  · exact ⟨v, hp.put_far (ne_of_type hp.heap hg (by decide)), hs.put_far (hs.apart hg (by decide))⟩

theorem getD_set_at (ss : List Slot) (i : Nat) (x : Slot) (h : i < ss.length) : (ss.set i x).getD i slot0 = x := by simp [h]

/-- A place taken. -/
def taken (x : Slot) (n : Nd) : Slot := { x with nd := n, used := true }
/-- A place freed. -/
def freed (x : Slot) : Slot := ⟨nd0, false, x.gen + 1⟩

section
variable {o : Nat → Nat} {w : World} {t t2 b p : Nat} {sv : Value} {ss : List Slot} {xs : List Int} {fault : Bool}

theorem ArenaAt.taken {g cap i : Nat} (A : ArenaAt o w t t2 b p (.slice (some ⟨g, 0, none⟩) ss.length cap) ss xs fault) (hi : i < ss.length) (n : Nd) :
    ArenaAt o (((((w.setCell ⟨g, i * 6, none⟩ (.string n.key)).setCell ⟨g, i * 6 + 1, none⟩ (.string n.val)).setCell ⟨g, i * 6 + 2, none⟩ (.int .u32 n.sum)).setCell ⟨g, i * 6 + 3, none⟩ (.int .u64 n.next)).setCell ⟨g, i * 6 + 4, none⟩ (.bool true))
      t t2 b p (.slice (some ⟨g, 0, none⟩) ss.length cap) (ss.set i (taken (ss.getD i slot0) n)) xs fault ∧
    Ext o o w (((((w.setCell ⟨g, i * 6, none⟩ (.string n.key)).setCell ⟨g, i * 6 + 1, none⟩ (.string n.val)).setCell ⟨g, i * 6 + 2, none⟩ (.int .u32 n.sum)).setCell ⟨g, i * 6 + 3, none⟩ (.int .u64 n.next)).setCell ⟨g, i * 6 + 4, none⟩ (.bool true)) (fun x => x = t) := by
  obtain ⟨A1, E1⟩ := A.put (j := 0) (by decide) hi { ss.getD i slot0 with nd := { (ss.getD i slot0).nd with key := n.key } } (.string n.key) rfl
  obtain ⟨A2, E2⟩ := A1.put (i := i) (j := 1) (by decide) (by simpa using hi) { ss.getD i slot0 with nd := { (ss.getD i slot0).nd with key := n.key, val := n.val } } (.string n.val) (by rw [getD_set_at _ _ _ hi]; rfl)
  rw [List.set_set] at A2
  obtain ⟨A3, E3⟩ := A2.put (i := i) (j := 2) (by decide) (by simpa using hi) { ss.getD i slot0 with nd := { (ss.getD i slot0).nd with key := n.key, val := n.val, sum := n.sum } } (.int .u32 n.sum) (by rw [getD_set_at _ _ _ hi]; rfl)
  rw [List.set_set] at A3
  obtain ⟨A4, E4⟩ := A3.put (i := i) (j := 3) (by decide) (by simpa using hi) { ss.getD i slot0 with nd := n } (.int .u64 n.next) (by rw [getD_set_at _ _ _ hi]; rfl)
  rw [List.set_set] at A4
  obtain ⟨A5, E5⟩ := A4.put (i := i) (j := 4) (by decide) (by simpa using hi) (Go.Proofs.Ytcoaemjoanbemaa.taken (ss.getD i slot0) n) (.bool true) (by rw [getD_set_at _ _ _ hi]; rfl)
  rw [List.set_set, List.length_set] at A5
  exact ⟨A5, (((E1.trans E2).trans E3).trans E4).trans E5⟩

theorem ArenaAt.freed {g cap i : Nat} (A : ArenaAt o w t t2 b p (.slice (some ⟨g, 0, none⟩) ss.length cap) ss xs fault) (hi : i < ss.length) :
    ArenaAt o ((((((w.setCell ⟨g, i * 6, none⟩ (.string ⟨#[]⟩)).setCell ⟨g, i * 6 + 1, none⟩ (.string ⟨#[]⟩)).setCell ⟨g, i * 6 + 2, none⟩ (.int .u32 0)).setCell ⟨g, i * 6 + 3, none⟩ (.int .u64 0)).setCell ⟨g, i * 6 + 4, none⟩ (.bool false)).setCell ⟨g, i * 6 + 5, none⟩ (.int .u64 ((ss.getD i slot0).gen + 1)))
      t t2 b p (.slice (some ⟨g, 0, none⟩) ss.length cap) (ss.set i (freed (ss.getD i slot0))) xs fault ∧
    Ext o o w ((((((w.setCell ⟨g, i * 6, none⟩ (.string ⟨#[]⟩)).setCell ⟨g, i * 6 + 1, none⟩ (.string ⟨#[]⟩)).setCell ⟨g, i * 6 + 2, none⟩ (.int .u32 0)).setCell ⟨g, i * 6 + 3, none⟩ (.int .u64 0)).setCell ⟨g, i * 6 + 4, none⟩ (.bool false)).setCell ⟨g, i * 6 + 5, none⟩ (.int .u64 ((ss.getD i slot0).gen + 1))) (fun x => x = t) := by
  obtain ⟨A1, E1⟩ := A.put (j := 0) (by decide) hi { ss.getD i slot0 with nd := { (ss.getD i slot0).nd with key := ⟨#[]⟩ } } (.string ⟨#[]⟩) rfl
  obtain ⟨A2, E2⟩ := A1.put (i := i) (j := 1) (by decide) (by simpa using hi) { ss.getD i slot0 with nd := { (ss.getD i slot0).nd with key := ⟨#[]⟩, val := ⟨#[]⟩ } } (.string ⟨#[]⟩) (by rw [getD_set_at _ _ _ hi]; rfl)
  rw [List.set_set] at A2
  obtain ⟨A3, E3⟩ := A2.put (i := i) (j := 2) (by decide) (by simpa using hi) { ss.getD i slot0 with nd := { (ss.getD i slot0).nd with key := ⟨#[]⟩, val := ⟨#[]⟩, sum := 0 } } (.int .u32 0) (by rw [getD_set_at _ _ _ hi]; rfl)
  rw [List.set_set] at A3
  obtain ⟨A4, E4⟩ := A3.put (i := i) (j := 3) (by decide) (by simpa using hi) { ss.getD i slot0 with nd := nd0 } (.int .u64 0) (by rw [getD_set_at _ _ _ hi]; rfl)
  rw [List.set_set] at A4
  obtain ⟨A5, E5⟩ := A4.put (i := i) (j := 4) (by decide) (by simpa using hi) { ss.getD i slot0 with nd := nd0, used := false } (.bool false) (by rw [getD_set_at _ _ _ hi]; rfl)
  rw [List.set_set] at A5
  obtain ⟨A6, E6⟩ := A5.put (i := i) (j := 5) (by decide) (by simpa using hi) (Go.Proofs.Ytcoaemjoanbemaa.freed (ss.getD i slot0)) (.int .u64 ((ss.getD i slot0).gen + 1)) (by rw [getD_set_at _ _ _ hi]; rfl)
  rw [List.set_set, List.length_set] at A6
  exact ⟨A6, ((((E1.trans E2).trans E3).trans E4).trans E5).trans E6⟩

set_option maxHeartbeats 800000 in
theorem arena_link (A : ArenaAt o w t t2 b p sv ss xs fault) (h next : Int) (h0 : 0 ≤ h) (h1 : h ≤ 18446744073709551615) :
    Calls Try.prog 24 #[.pointer (some ⟨b, 0, none⟩), .int .u64 h, .int .u64 next] w fun e w' => e = .returned (.int .i64 (useCode ss h)) ∧ ArenaAt o w' t t2 b p sv (linkS ss h next) xs (useFault ss h fault) ∧ Ext o o w w' (fun x => x = t) := by
  have F := hide (arena_find A h h0 h1)
  by_cases hi : 0 ≤ atA ss h
  · obtain ⟨i, hia, hil, hused, hm, hgen⟩ := atA_lt ss h hi
    have e1 : useCode ss h = 0 := by rw [useCode, if_pos hi]
    have e2 : useFault ss h fault = fault := by rw [useFault, if_pos hi]
    have e3 : linkS ss h next = ss.set i { ss.getD i slot0 with nd := { (ss.getD i slot0).nd with next := next } } := by rw [linkS, if_pos hi, hia]; rfl
    rw [e1, e2, e3]
    rw [e1, e2, hia] at F
    clear e1 e2 e3 hi hia hused hm hgen
    go_enter Try.func24, Try.ntmps24
    go_wp2_with fail
    refine F.out.mono ?_
    rintro e w2 ⟨rfl, A2, e2⟩
    have hh := A2.hdr.heap
    obtain ⟨g, cap, cur, rfl, hg, _, ha1, hb1, c0, c1, c2, c3, c4, c5⟩ := slot_at A2.slots hil
    have P := hide (A2.put (i := i) (j := 3) (by decide) hil { ss.getD i slot0 with nd := { (ss.getD i slot0).nd with next := next } } (.int .u64 next) rfl)
    have E2 := hide e2
    clear c0 c1 c2 c4 c5 A2 e2 F A
    go_wp2
    go_ret
    obtain ⟨P1, P2⟩ := P.out
    rw [List.length_set] at P1
    exact ⟨rfl, P1, E2.out.trans P2⟩
  · have hn := atA_neg ss h hi
    have e3 : linkS ss h next = ss := by rw [linkS, if_neg hi]
    rw [e3]
    have hcode : useCode ss h = 3 ∨ useCode ss h = 6 := by
      rw [useCode, if_neg hi]
      by_cases hz : h = 0
      · exact .inl (if_pos hz)
      · exact .inr (if_neg hz)
    rw [hn] at F
    generalize useCode ss h = c at *
    generalize useFault ss h fault = fa at *
    clear e3 hi hn A
    rcases hcode with rfl | rfl
    all_goals
      go_enter Try.func24, Try.ntmps24
      go_wp2_with fail
      refine F.out.mono ?_
      rintro e w2 ⟨rfl, A2, e2⟩
      go_wp2
      go_ret
      exact ⟨rfl, A2, e2⟩
end
end Go.Proofs.Ytcoaemjoanbemaa

namespace Go.Proofs.Ytcoaemjoanbemaa
open Go.RowKit

/-- What Alloc comes to where a place is free. -/
def AllocPost (o : Nat → Nat) (t t2 b p : Nat) (sv : Value) (ss : List Slot) (xs : List Int) (fault : Bool) (n : Nd) (w : World) (e : Ending) (w' : World) : Prop :=
  ∃ o' ys, ∃ i : Nat, e = .returned (.tuple #[.int .u64 (i + 1 + 65536 * (ss.getD i slot0).gen), .int .i64 0]) ∧ ArenaAt o' w' t t2 b p sv (ss.set i (taken (ss.getD i slot0) n)) ys fault ∧ (ys ++ [(i : Int)]).Perm xs ∧ (∀ x ∈ xs, (i : Int) ≤ x) ∧ IsHeap ys ∧ i < ss.length ∧
    Ext o o' w w' (fun x => x = t ∨ x = t2)

section
variable {o : Nat → Nat} {w : World} {t t2 b p : Nat} {sv : Value} {ss : List Slot} {xs : List Int} {fault : Bool}
set_option maxRecDepth 100000 in
set_option maxHeartbeats 1600000 in
theorem arena_alloc_full (A : ArenaAt o w t t2 b p sv ss [] fault) (n : Nd) :
    Calls Try.prog 9 #[.pointer (some ⟨b, 0, none⟩), ndV n] w fun e w' => e = .returned (.tuple #[.int .u64 0, .int .i64 4]) ∧ Ext o o w w' (fun _ => False) := by
  have hh := A.hdr.heap
  have hlt := A.hdr.lt
  obtain ⟨v, hp, hs⟩ := A.free
  have hpl := hp.lt
  obtain ⟨a, c, rfl⟩ := hs.value
  have hph := hp.heap
  have E0 := hide ((Ext.refl o w (fun _ => False)).alloc (.cells #[.string n.key, .string n.val, .int .u32 n.sum, .int .u64 n.next] 36))
  clear A hp hs
  unfold ndV
  go_enter Try.func9, Try.ntmps9
  go_wp2_with fail
  refine (places_len _ _ _ _).mono ?_
  rintro e w' ⟨rfl, rfl⟩
  go_wp2
  go_ret2
  exact ⟨rfl, E0.out⟩

set_option maxRecDepth 100000 in
set_option maxHeartbeats 1600000 in
theorem arena_alloc (A : ArenaAt o w t t2 b p sv ss xs fault) (ht : t ≠ t2) (hl : xs.length ≤ 100000) {k : Nat} (hk : xs.length = k + 1) (hh : IsHeap xs) (hin : ∀ x ∈ xs, 0 ≤ x ∧ x < ss.length) (hg : ∀ i, 0 ≤ (ss.getD i slot0).gen ∧ (ss.getD i slot0).gen ≤ 1000000) (h5 : ss.length ≤ 100000) (n : Nd) :
    Calls Try.prog 9 #[.pointer (some ⟨b, 0, none⟩), ndV n] w (AllocPost o t t2 b p sv ss xs fault n w) := by
  have E0 : Ext o (upd o w.heap.size (t + t2 + 1)) w (w.alloc (.cells #[.string n.key, .string n.val, .int .u32 n.sum, .int .u64 n.next] 36)) (fun _ => False) := ((Ext.refl o w _).retag (t + t2 + 1)).alloc _
  have A1 := A.ext E0 id id
  have S1 : StAt (upd o w.heap.size (t + t2 + 1)) (w.alloc (.cells #[.string n.key, .string n.val, .int .u32 n.sum, .int .u64 n.next] 36)) (t + t2 + 1) w.heap.size #[.string n.key, .string n.val, .int .u32 n.sum, .int .u64 n.next] 36 := ⟨blk_new _ _, upd_new (Nat.le_refl _)⟩
  have hhd := A1.hdr.heap
  obtain ⟨v, hp, hs⟩ := A1.free
  obtain ⟨a, c, rfl⟩ := hs.value
  have hph := hp.heap
  rw [hk] at hph
  have HP := hide (heap_pop A1.free hl hk hh)
  have hk5 : k < 100000 := by omega
  replace E0 := hide E0
  replace hh := hide hh
  replace hk := hide hk
  replace hin := hide hin
  replace hg := hide hg
  clear A hp hs
  replace S1 := hide S1
  replace A1 := hide A1
  have X : (w.alloc (.cells #[.string n.key, .string n.val, .int .u32 n.sum, .int .u64 n.next] 36)).heap.size = w.heap.size + 1 := by simp
  replace X := hide X
  unfold ndV
  go_enter Try.func9, Try.ntmps9
  go_wp2_with fail
  refine (places_len _ _ _ _).mono ?_
  rintro e w' ⟨rfl, rfl⟩
  go_wp2_with fail
  refine HP.out.mono ?_
  rintro e w2 ⟨ys, m, rfl, hp2, hperm, hmin, hheap, e2⟩
  have hmem : m ∈ xs := hperm.mem_iff.1 (by simp)
  obtain ⟨hm0, hm1⟩ := hin.out m hmem
  obtain ⟨i, rfl⟩ := Int.eq_ofNat_of_zero_le hm0
  have hi : i < ss.length := by omega
  have A2 : ArenaAt _ w2 t t2 b p sv ss ys fault := ⟨A1.out.hdr.ext e2 (by simpa using ht), A1.out.slots.ext e2 (by simpa using ht), hp2⟩
  have S2 := S1.out.ext e2 (by omega)
  have hh2 := A2.hdr.heap
  have hs2 := S2.heap
  obtain ⟨g, cap, cur, rfl, hgb, _, ha1, hb1, c0, c1, c2, c3, c4, c5⟩ := slot_at A2.slots hi
  have hne1 := ne_of_type hh2 hgb (by decide)
  have hne2 := ne_of_type hs2 hgb (by decide)
  have hta := assert_int i w2
  have hgg := hg.out i
  have hsz : i * 6 + 5 < cur.size := (Array.getElem?_eq_some_iff.1 c5).1
  clear A1 HP S1 hhd hph hm0 hm1
  replace hin := hide hin
  replace A2 := hide A2
  replace e2 := hide e2
  replace hp2 := hide hp2
  replace hperm := hide hperm
  replace hmin := hide hmin
  replace hheap := hide hheap
  replace hmem := hide hmem
  replace S2 := hide S2
  generalize hgen : (ss.getD i slot0).gen = gen at hgg c5
  obtain ⟨hg0, hg1⟩ := hgg
  replace hgen := hide hgen
  go_wp2_with fail
  go_region
  all_goals
    obtain ⟨R1, R2⟩ := A2.out.taken hi n
    replace R1 := R1.ext ((Ext.refl _ _ (fun _ => False)).drew) id id
    replace R2 := R2.drew
    clear hgb c0 c1 c2 c3 c4 c5 hs2 hh2 hsz hne1 hne2 hta
    generalize World.drew _ = w3 at R1 R2 ⊢
    rw [show ss.length = (ss.set i (taken (ss.getD i slot0) n)).length by rw [List.length_set]] at R1
    obtain ⟨g', cap', cur', hv, hgb, _, _, _, c0, c1, c2, c3, c4, c5⟩ := slot_at R1.slots (i := i) (by rw [List.length_set]; exact hi)
    simp at hv
    obtain ⟨rfl, rfl⟩ := hv
    rw [List.length_set] at R1
    rw [getD_set_at _ _ _ hi] at c5
    have c6 : cur'[i * 6 + 5]? = some (.int .u64 gen) := by rw [c5, ← hgen.out]; rfl
    have hh3 := R1.hdr.heap
    clear c0 c1 c2 c3 c4 c5
    replace R1 := hide R1
    replace R2 := hide R2
    go_wp2
    go_ret2
    refine ⟨_, ys, i, ?_, R1.out, hperm.out, hmin.out, hheap.out, hi, ?_⟩
    · rw [hgen.out]; go_num
    · exact ((E0.out.mono (fun _ h => h.elim)).trans (e2.out.mono (fun _ h => .inr h))).trans (R2.out.mono (fun _ h => .inl h))
end
end Go.Proofs.Ytcoaemjoanbemaa

namespace Go.Proofs.Ytcoaemjoanbemaa
open Go.RowKit

/-- What Free comes to. -/
def FreePost (o : Nat → Nat) (t t2 b p : Nat) (sv : Value) (ss : List Slot) (xs : List Int) (fault : Bool) (i : Nat) (w : World) (e : Ending) (w' : World) : Prop :=
  ∃ o' ys, e = .returned (.int .i64 0) ∧ ArenaAt o' w' t t2 b p sv (ss.set i (freed (ss.getD i slot0))) ys fault ∧ ys.Perm (xs ++ [(i : Int)]) ∧ IsHeap ys ∧ Ext o o' w w' (fun x => x = t ∨ x = t2)

section
variable {o : Nat → Nat} {w : World} {t t2 b p : Nat} {sv : Value} {ss : List Slot} {xs : List Int} {fault : Bool}
set_option maxHeartbeats 800000 in
theorem arena_free_no (A : ArenaAt o w t t2 b p sv ss xs fault) (h : Int) (h0 : 0 ≤ h) (h1 : h ≤ 18446744073709551615) (hi : ¬ 0 ≤ atA ss h) :
    Calls Try.prog 10 #[.pointer (some ⟨b, 0, none⟩), .int .u64 h] w fun e w' => e = .returned (.int .i64 (useCode ss h)) ∧ ArenaAt o w' t t2 b p sv ss xs true ∧ Ext o o w w' (fun x => x = t) := by
  have F := hide (arena_find A h h0 h1)
  have hn := atA_neg ss h hi
  have e2 : useFault ss h fault = true := by rw [useFault, if_neg hi]
  have hcode : useCode ss h = 3 ∨ useCode ss h = 6 := by
    rw [useCode, if_neg hi]
    by_cases hz : h = 0
    · exact .inl (if_pos hz)
    · exact .inr (if_neg hz)
  rw [hn, e2] at F
  generalize useCode ss h = c at *
  clear hi hn A e2
  rcases hcode with rfl | rfl
  all_goals
    go_enter Try.func10, Try.ntmps10
    go_wp2_with fail
    refine F.out.mono ?_
    rintro e w2 ⟨rfl, A2, e2⟩
    go_wp2
    go_ret
    exact ⟨rfl, A2, e2⟩

set_option maxRecDepth 100000 in
set_option maxHeartbeats 1600000 in
theorem arena_free (A : ArenaAt o w t t2 b p sv ss xs fault) (ht : t ≠ t2) (hl : xs.length < 100000) (hh : IsHeap xs) (hg : ∀ i, 0 ≤ (ss.getD i slot0).gen ∧ (ss.getD i slot0).gen ≤ 1000000) (h : Int) (h0 : 0 ≤ h) (h1 : h ≤ 18446744073709551615)
    (i : Nat) (hia : atA ss h = i) :
    Calls Try.prog 10 #[.pointer (some ⟨b, 0, none⟩), .int .u64 h] w (FreePost o t t2 b p sv ss xs fault i w) := by
  have F := hide (arena_find A h h0 h1)
  have hi0 : 0 ≤ atA ss h := by omega
  have e1 : useCode ss h = 0 := by rw [useCode, if_pos hi0]
  have e2 : useFault ss h fault = fault := by rw [useFault, if_pos hi0]
  obtain ⟨i', hia', hil, _⟩ := atA_lt ss h hi0
  have : i' = i := by omega
  subst this
  rw [e1, e2, hia] at F
  clear e1 e2 hi0 hia' hia
  have hgg := hg i'
  generalize hgen : (ss.getD i' slot0).gen = gen at hgg
  replace hgen := hide hgen
  obtain ⟨hg0, hg1⟩ := hgg
  replace hg := hide hg
  go_enter Try.func10, Try.ntmps10
  go_wp2_with fail
  refine F.out.mono ?_
  rintro e w2 ⟨rfl, A2, e2⟩
  have hh2 := A2.hdr.heap
  obtain ⟨g, cap, cur, rfl, hgb, _, ha1, hb1, c0, c1, c2, c3, c4, c5⟩ := slot_at A2.slots hil
  rw [hgen.out] at c5
  have hne1 := ne_of_type hh2 hgb (by decide)
  replace A2 := hide A2
  replace e2 := hide e2
  clear A F
  go_wp2_with fail
  go_region
  all_goals
    obtain ⟨R1, R2⟩ := A2.out.freed hil
    rw [hgen.out] at R1 R2
    replace R1 := R1.ext ((Ext.refl _ _ (fun _ => False)).drew) id id
    replace R2 := R2.drew
    clear hgb c0 c1 c2 c3 c4 c5 hh2 hne1
    generalize World.drew _ = w3 at R1 R2 ⊢
    have hh3 := R1.hdr.heap
    have HP := hide (heap_push R1.free hl hh (i' : Int))
    replace R1 := hide R1
    replace R2 := hide R2
    go_wp2_with fail
    refine HP.out.mono ?_
    rintro e w4 ⟨o4, ys, rfl, hp4, hperm, hheap, e4⟩
    go_wp2
    go_ret
    refine ⟨o4, ys, rfl, ⟨R1.out.hdr.ext e4 (by simpa using ht), R1.out.slots.ext e4 (by simpa using ht), hp4⟩, hperm, hheap, ?_⟩
    exact ((e2.out.mono (fun _ h => .inl h)).trans (R2.out.mono (fun _ h => .inl h))).trans (e4.mono (fun _ h => .inr h))
end
end Go.Proofs.Ytcoaemjoanbemaa

namespace Go.Proofs.Ytcoaemjoanbemaa
open Go.RowKit

theorem slot_info : (Try.prog.info? 105).map (fun i => (i.zero, i.size, i.bytes)) = some (some (.agg #[.string ⟨#[]⟩, .string ⟨#[]⟩, .int .u32 0, .int .u64 0, .bool false, .int .u64 0]), 6, 64) := by kernel_rfl

theorem madeCells_flat {α : Type} (f : α → List Value) (k : Nat) (hk : ∀ x, (f x).length = k) (h0 : 0 < k) (x : α) (z : Array Value) (hz : z.toList = f x) (n : Nat) : (madeCells z (n * k)).toList = (List.replicate n x).flatMap f := by
  have hzs : z.size = k := by rw [← hk x, ← hz]; rfl
  apply List.ext_getElem?
  intro p
  have hp : p = (p / k) * k + p % k := by rw [Nat.mul_comm]; exact (Nat.div_add_mod p k).symm
  have hlt : p % k < k := Nat.mod_lt _ h0
  rw [hp, flat_get f k hk _ _ _ hlt, ← hp]
  simp only [madeCells, Array.getElem?_toList, List.getElem?_replicate]
  by_cases h : p < n * k
  · have h2 : p / k < n := Nat.div_lt_of_lt_mul (by rw [Nat.mul_comm]; exact h)
    have hidx : p % k < z.size := by omega
    rw [if_pos h2]
    simp only [Option.bind_some, ← hz, Array.getElem?_toList]
    rw [Array.getElem?_map, Array.getElem?_range, if_pos h, hzs]
    simp [hidx]
  · have h2 : ¬ p / k < n := fun hq => h (by
      have := Nat.lt_mul_of_div_lt hq h0
      rw [Nat.mul_comm] at this; first | exact this | (rw [Nat.mul_comm]; exact this))
    rw [if_neg h2]
    simp [h]

def ints (n : Nat) : List Int := (List.range n).map Int.ofNat
def NewPost (o : Nat → Nat) (t t2 n : Nat) (w : World) (e : Ending) (w' : World) : Prop :=
  ∃ o' b p sv xs, e = .returned (.tuple #[.pointer (some ⟨b, 0, none⟩), .int .i64 0]) ∧ ArenaAt o' w' t t2 b p sv (List.replicate n slot0) xs false ∧ IsHeap xs ∧ xs.Perm (ints n) ∧ Ext o o' w w' (fun x => x = t2)

set_option maxHeartbeats 400000 in
theorem arena_new_no (n : Int) (h : n < 1 ∨ 1024 < n) (w : World) :
    Calls Try.prog 7 #[.int .i64 n] w fun e w' => e = .returned (.tuple #[.pointer none, .int .i64 2]) ∧ w = w' := by
  by_cases h0 : n < 1
  · clear h
    go_enter Try.func7, Try.ntmps7
    go_wp2
    go_ret2
    exact ⟨rfl, rfl⟩
  · have h1 : 1024 < n := by omega
    clear h
    go_enter Try.func7, Try.ntmps7
    go_wp2
    go_ret2
    exact ⟨rfl, rfl⟩

/-- A new arena, its heap empty. -/
theorem arena_made (o : Nat → Nat) (t t2 n : Nat) (h1 : n ≤ 1024) (w : World) (cur : Array Value) (hcur : cur.toList = (List.replicate n slot0).flatMap slotL) :
    ∃ o', ArenaAt o' ((((w.alloc (.cells cur 105)).alloc (.cells #[] 3)).alloc (.cells #[.slice (some ⟨w.heap.size + 1, 0, none⟩) 0 0] 99)).alloc
      (.cells #[.slice (some ⟨w.heap.size, 0, none⟩) n n, .pointer (some ⟨w.heap.size + 1 + 1, 0, none⟩), .bool false] 101)) t t2 (w.heap.size + 1 + 1 + 1) (w.heap.size + 1 + 1) (.slice (some ⟨w.heap.size, 0, none⟩) n n) (List.replicate n slot0) [] false ∧
      Ext o o' w ((((w.alloc (.cells cur 105)).alloc (.cells #[] 3)).alloc (.cells #[.slice (some ⟨w.heap.size + 1, 0, none⟩) 0 0] 99)).alloc
      (.cells #[.slice (some ⟨w.heap.size, 0, none⟩) n n, .pointer (some ⟨w.heap.size + 1 + 1, 0, none⟩), .bool false] 101)) (fun x => x = t2) := by
  have z1 : (w.alloc (.cells cur 105)).heap.size = w.heap.size + 1 := by simp
  have hlen : cur.size = n * 6 := by
    have := congrArg List.length hcur
    rw [flat_len slotL 6 slotL_len, List.length_replicate] at this
    simpa using this
  have hrl : (List.replicate n slot0).length = n := List.length_replicate
  have e1 := ((Ext.refl o w (fun _ => False)).retag t).alloc (.cells cur 105)
  have s1 : SlAt (upd o w.heap.size t) (w.alloc (.cells cur 105)) t 105 6 (.slice (some ⟨w.heap.size, 0, none⟩) n n) (List.replicate n slot0).length ((List.replicate n slot0).flatMap slotL) := by
    rw [hrl]
    exact SlAt.made cur n n (Nat.le_refl _) (by unfold maxLen; omega) hlen (by rw [← hcur, List.take_of_length_le]; rw [Array.length_toList, hlen]; exact Nat.le_refl _) (upd_new (Nat.le_refl _))
  generalize w.alloc (.cells cur 105) = w1 at *
  have e2 := ((Ext.refl (upd o w.heap.size t) w1 (fun _ => False)).retag t2).alloc (.cells #[] 3)
  have s2 : SlAt (upd (upd o w.heap.size t) w1.heap.size t2) (w1.alloc (.cells #[] 3)) t2 3 1 (.slice (some ⟨w1.heap.size, 0, none⟩) 0 0) 0 [] := SlAt.made #[] 0 0 (Nat.le_refl _) (Nat.zero_le _) rfl rfl (upd_new (Nat.le_refl _))
  have z2 : (w1.alloc (.cells #[] 3)).heap.size = w.heap.size + 1 + 1 := by simp [z1]
  rw [z1] at s2 e2
  generalize w1.alloc (.cells #[] 3) = w2 at *
  generalize upd (upd o w.heap.size t) (w.heap.size + 1) t2 = o2 at *
  have e3 := ((Ext.refl o2 w2 (fun _ => False)).retag t2).alloc (.cells #[.slice (some ⟨w.heap.size + 1, 0, none⟩) 0 0] 99)
  have s3 : StAt (upd o2 w2.heap.size t2) (w2.alloc (.cells #[.slice (some ⟨w.heap.size + 1, 0, none⟩) 0 0] 99)) t2 w2.heap.size #[.slice (some ⟨w.heap.size + 1, 0, none⟩) 0 0] 99 := ⟨blk_new _ _, upd_new (Nat.le_refl _)⟩
  have z3 : (w2.alloc (.cells #[.slice (some ⟨w.heap.size + 1, 0, none⟩) 0 0] 99)).heap.size = w.heap.size + 1 + 1 + 1 := by simp [z2]
  rw [z2] at s3 e3
  generalize w2.alloc (.cells #[.slice (some ⟨w.heap.size + 1, 0, none⟩) 0 0] 99) = w3 at *
  generalize upd o2 (w.heap.size + 1 + 1) t2 = o3 at *
  have e4 := ((Ext.refl o3 w3 (fun _ => False)).retag t).alloc (.cells #[.slice (some ⟨w.heap.size, 0, none⟩) n n, .pointer (some ⟨w.heap.size + 1 + 1, 0, none⟩), .bool false] 101)
  have s4 : StAt (upd o3 w3.heap.size t) (w3.alloc (.cells #[.slice (some ⟨w.heap.size, 0, none⟩) n n, .pointer (some ⟨w.heap.size + 1 + 1, 0, none⟩), .bool false] 101)) t w3.heap.size #[.slice (some ⟨w.heap.size, 0, none⟩) n n, .pointer (some ⟨w.heap.size + 1 + 1, 0, none⟩), .bool false] 101 := ⟨blk_new _ _, upd_new (Nat.le_refl _)⟩
  rw [z3] at s4 e4
  refine ⟨_, ⟨s4, ((s1.ext e2 id).ext e3 id).ext e4 id, _, (s3.ext e4 id), (s2.ext e3 id).ext e4 id⟩, (((e1.trans e2).trans e3).trans e4).none⟩

theorem ints_succ (k : Nat) : ints (k + 1) = ints k ++ [(k : Int)] := by simp [ints, List.range_succ]

set_option maxRecDepth 100000 in
set_option maxHeartbeats 800000 in
theorem arena_new (o : Nat → Nat) (t t2 n : Nat) (ht : t ≠ t2) (h0 : 1 ≤ n) (h1 : n ≤ 1024) (w : World) : Calls Try.prog 7 #[.int .i64 n] w (NewPost o t t2 n w) := by
  obtain ⟨i0, hi, hz0, hz1, hz2⟩ := info_parts slot_info
  have hmk := fun W => run_make (P := Try.prog) W 97 105 i0 _ Try.underlying97 hi hz0 .i64 .i64 n n (by omega) (Int.le_refl _) (by rw [hz2]; omega) (by omega)
  rw [hz1, Int.toNat_natCast] at hmk
  clear hi hz0 hz1 hz2
  go_enter Try.func7, Try.ntmps7
  go_wp2
  obtain ⟨o1, A0, e0⟩ := arena_made o t t2 n h1 w (madeCells #[.string ⟨#[]⟩, .string ⟨#[]⟩, .int .u32 0, .int .u64 0, .bool false, .int .u64 0] (n * 6)) (madeCells_flat slotL 6 slotL_len (by decide) slot0 _ rfl n)
  clear hmk
  generalize World.alloc _ _ = w4 at A0 e0 ⊢
  generalize w.heap.size + 1 + 1 + 1 = b at A0 ⊢
  generalize w.heap.size + 1 + 1 = p at A0 ⊢
  generalize Value.slice (some ⟨w.heap.size, 0, none⟩) n n = sv at A0 ⊢
  go_loopw [19] (fun i wr => ∃ (k : Nat) (o1 : Nat → Nat) (xs : List Int), k ≤ n ∧ i = .int .i64 k ∧ ArenaAt o1 wr t t2 b p sv (List.replicate n slot0) xs false ∧ IsHeap xs ∧ xs.Perm (ints k) ∧ Ext o o1 w wr (fun x => x = t2)) (fun i _ => n - (intOf i).toNat)
  case atStart => exact ⟨0, o1, [], Nat.zero_le _, rfl, A0, fun i _ h => by simp at h, .refl _, e0⟩
  case round =>
    obtain ⟨k, o1, xs, hk, rfl, A, hh, hp, e⟩ := hrel
    have hhd := A.hdr.heap
    have hxl : xs.length = k := by rw [hp.length_eq]; simp [ints]
    have HP := hide (heap_push A.free (by omega) hh (k : Int))
    replace A := hide A
    clear A0 e0
    replace hxl := hide hxl
    by_cases hlt : k < n
    · go_wp2_with fail
      refine HP.out.mono ?_
      rintro e1 w5 ⟨o2, ys, rfl, hp2, hperm, hheap, e2⟩
      go_wp2
      go_roundw
      case rel => exact ⟨k + 1, o2, ys, by omega, by go_num, ⟨A.out.hdr.ext e2 (by simpa using ht), A.out.slots.ext e2 (by simpa using ht), hp2⟩, hheap, by rw [ints_succ]; exact hperm.trans (hp.append_right _), e.trans e2⟩
      case measure => simp [intOf]; omega
    · have : k = n := by omega
      subst this
      go_wp2
      go_ret2
      exact ⟨o1, b, p, sv, xs, rfl, A.out, hh, hp, e⟩
end Go.Proofs.Ytcoaemjoanbemaa

namespace Go.Proofs.Ytcoaemjoanbemaa
open Go.RowKit

def unusedB (ss : List Slot) (i : Nat) : Bool := !(ss.getD i slot0).used
def freeTo (ss : List Slot) (k : Nat) : List Nat := (List.range k).filter (unusedB ss)
theorem mem_freeTo (ss : List Slot) (k i : Nat) : i ∈ freeTo ss k ↔ i < k ∧ (ss.getD i slot0).used = false := by simp [freeTo, unusedB]
theorem nodup_freeTo (ss : List Slot) (k : Nat) : ((freeTo ss k).map Int.ofNat).Nodup := by
  unfold freeTo
  rw [List.Nodup, List.pairwise_map]
  exact (List.nodup_range.filter _).imp (fun h e => h (Int.ofNat_inj.1 e))
theorem mem_free (ss : List Slot) (k : Nat) (z : Int) : z ∈ (freeTo ss k).map Int.ofNat ↔ ∃ i : Nat, z = i ∧ i < k ∧ (ss.getD i slot0).used = false := by
  rw [List.mem_map]
  constructor
  · rintro ⟨i, hi, rfl⟩
    exact ⟨i, rfl, (mem_freeTo ss k i).1 hi⟩
  · rintro ⟨i, rfl, hi⟩
    exact ⟨i, (mem_freeTo ss k i).2 hi, rfl⟩
theorem freeTo_succ (ss : List Slot) (k : Nat) : (freeTo ss (k + 1)).length = (freeTo ss k).length + if (ss.getD k slot0).used then 0 else 1 := by
  unfold freeTo
  rw [List.range_succ, List.filter_append, List.length_append]
  have hb : unusedB ss k = !(ss.getD k slot0).used := rfl
  generalize (ss.getD k slot0).used = u at *
  cases u <;> simp [hb]
theorem freeTo_le (ss : List Slot) (k : Nat) : (freeTo ss k).length ≤ k := by
  have := List.length_filter_le (unusedB ss) (List.range k)
  rw [List.length_range] at this
  exact this

/-- The heap of the free places, of right places. -/
structure AInv (ss : List Slot) (xs : List Int) : Prop where
  heap : IsHeap xs
  perm : xs.Perm ((freeTo ss ss.length).map Int.ofNat)
theorem AInv.mem {ss : List Slot} {xs : List Int} (h : AInv ss xs) (z : Int) : z ∈ xs ↔ ∃ i : Nat, z = i ∧ i < ss.length ∧ (ss.getD i slot0).used = false := by rw [h.perm.mem_iff, mem_free]
theorem AInv.nodup {ss : List Slot} {xs : List Int} (h : AInv ss xs) : xs.Nodup := h.perm.nodup_iff.2 (nodup_freeTo ss _)
theorem AInv.length {ss : List Slot} {xs : List Int} (h : AInv ss xs) : xs.length = (freeTo ss ss.length).length := by rw [h.perm.length_eq, List.length_map]
theorem AInv.of {ss : List Slot} {xs : List Int} (h : IsHeap xs) (hn : xs.Nodup) (hm : ∀ z, z ∈ xs ↔ ∃ i : Nat, z = i ∧ i < ss.length ∧ (ss.getD i slot0).used = false) : AInv ss xs :=
  ⟨h, (List.perm_ext_iff_of_nodup hn (nodup_freeTo ss _)).2 fun z => by rw [hm, mem_free]⟩
theorem getD_set_slot (ss : List Slot) (i j : Nat) (x : Slot) (h : i < ss.length) : (ss.set i x).getD j slot0 = if i = j then x else ss.getD j slot0 := by
  simp only [List.getD_eq_getElem?_getD, List.getElem?_set]
  by_cases e : i = j
  · subst e; simp [h]
  · simp [e]
theorem AInv.start (n : Nat) {xs : List Int} (h : IsHeap xs) (hp : xs.Perm (ints n)) : AInv (List.replicate n slot0) xs := by
  refine ⟨h, hp.trans ?_⟩
  have : freeTo (List.replicate n slot0) (List.replicate n slot0).length = List.range n := by
    unfold freeTo
    rw [List.length_replicate, List.filter_eq_self]
    intro i hi
    rw [List.mem_range] at hi
    simp [unusedB, hi, slot0]
  rw [this]
  exact .refl _
theorem AInv.take {ss : List Slot} {xs ys : List Int} (A : AInv ss xs) {i : Nat} (hi : i < ss.length) (hp : (ys ++ [(i : Int)]).Perm xs) (hh : IsHeap ys) (x : Slot) (hx : x.used = true) : AInv (ss.set i x) ys := by
  have hnd := hp.nodup_iff.2 A.nodup
  have hnd' : ys.Nodup ∧ (i : Int) ∉ ys := by
    rw [List.nodup_append] at hnd
    exact ⟨hnd.1, fun hm => hnd.2.2 _ hm _ (by simp) rfl⟩
  refine AInv.of hh hnd'.1 fun z => ?_
  have hz : z ∈ xs ↔ z ∈ ys ∨ z = i := by rw [← hp.mem_iff]; simp
  constructor
  · intro hm
    obtain ⟨j, rfl, hj, hu⟩ := (A.mem z).1 (hz.2 (.inl hm))
    refine ⟨j, rfl, by simpa using hj, ?_⟩
    rw [getD_set_slot _ _ _ _ hi, if_neg (fun e : i = j => hnd'.2 (by rw [e]; exact hm))]
    exact hu
  · rintro ⟨j, rfl, hj, hu⟩
    rw [getD_set_slot _ _ _ _ hi] at hu
    by_cases e : i = j
    · rw [if_pos e, hx] at hu; cases hu
    · rw [if_neg e] at hu
      rcases hz.1 ((A.mem _).2 ⟨j, rfl, by simpa using hj, hu⟩) with h | h
      · exact h
      · exact absurd (Int.ofNat_inj.1 h).symm e
theorem AInv.give {ss : List Slot} {xs ys : List Int} (A : AInv ss xs) {i : Nat} (hi : i < ss.length) (hu : (ss.getD i slot0).used = true) (hp : ys.Perm (xs ++ [(i : Int)])) (hh : IsHeap ys) (x : Slot) (hx : x.used = false) : AInv (ss.set i x) ys := by
  have hni : (i : Int) ∉ xs := fun hm => by
    obtain ⟨j, e, _, h⟩ := (A.mem _).1 hm
    rw [← Int.ofNat_inj.1 e, hu] at h; cases h
  have hnd : ys.Nodup := by
    rw [hp.nodup_iff, List.nodup_append]
    exact ⟨A.nodup, by simp, fun a ha b hb e => hni (by simp at hb; rw [← hb, ← e]; exact ha)⟩
  refine AInv.of hh hnd fun z => ?_
  have hz : z ∈ ys ↔ z ∈ xs ∨ z = i := by rw [hp.mem_iff]; simp
  rw [hz]
  constructor
  · rintro (hm | rfl)
    · obtain ⟨j, rfl, hj, hu'⟩ := (A.mem z).1 hm
      refine ⟨j, rfl, by simpa using hj, ?_⟩
      rw [getD_set_slot _ _ _ _ hi]
      by_cases e : i = j
      · rw [if_pos e]; exact hx
      · rw [if_neg e]; exact hu'
    · exact ⟨i, rfl, by simpa using hi, by rw [getD_set_slot _ _ _ _ hi, if_pos rfl]; exact hx⟩
  · rintro ⟨j, rfl, hj, hu'⟩
    by_cases e : i = j
    · exact .inr (by rw [e])
    · rw [getD_set_slot _ _ _ _ hi, if_neg e] at hu'
      exact .inl ((A.mem _).2 ⟨j, rfl, by simpa using hj, hu'⟩)
/-- The least of the free places is the first one. -/
theorem AInv.first {ss : List Slot} {xs : List Int} (A : AInv ss xs) {i : Nat} (hm : (i : Int) ∈ xs) (hmin : ∀ x ∈ xs, (i : Int) ≤ x) : i < ss.length ∧ (ss.getD i slot0).used = false ∧ ∀ j, j < i → (ss.getD j slot0).used = true := by
  obtain ⟨i', e, hi, hu⟩ := (A.mem _).1 hm
  have := Int.ofNat_inj.1 e
  subst this
  refine ⟨hi, hu, fun j hj => ?_⟩
  cases h : (ss.getD j slot0).used
  · have := hmin j ((A.mem _).2 ⟨j, rfl, by omega, h⟩)
    omega
  · rfl
theorem AInv.empty {ss : List Slot} (A : AInv ss []) : ∀ i, i < ss.length → (ss.getD i slot0).used = true := fun i hi => by
  cases h : (ss.getD i slot0).used
  · have := (A.mem i).2 ⟨i, rfl, hi, h⟩
    cases this
  · rfl
theorem atA_of (ss : List Slot) (h : Int) (hl : ss.length ≤ 1024) (i : Nat) (hi : i < ss.length) (hu : (ss.getD i slot0).used = true) (hh : h = i + 1 + 65536 * (ss.getD i slot0).gen) : atA ss h = i := by
  have h1 : h % 65536 = i + 1 := by omega
  have h2 : h / 65536 = (ss.getD i slot0).gen := by omega
  unfold atA
  rw [h1, h2, show ((i : Int) + 1).toNat - 1 = i by omega, if_pos ⟨by omega, by omega, hu, rfl⟩]
  omega
theorem atA_none (ss : List Slot) (h : Int) (hn : ∀ i, i < ss.length → (ss.getD i slot0).used = true → h ≠ i + 1 + 65536 * (ss.getD i slot0).gen) : atA ss h = -1 := by
  apply atA_neg
  intro hi
  obtain ⟨i, _, hl, hu, hm, hg⟩ := atA_lt ss h hi
  exact hn i hl hu (by rw [hg]; omega)
end Go.Proofs.Ytcoaemjoanbemaa

namespace Go.Proofs.Ytcoaemjoanbemaa
open Go.RowKit

/-- Generations of right size. -/
def GenOk (ss : List Slot) (c : Int) : Prop := ∀ i, 0 ≤ (ss.getD i slot0).gen ∧ (ss.getD i slot0).gen ≤ c
theorem GenOk.start (n : Nat) : GenOk (List.replicate n slot0) 0 := fun i => by
  have : (List.replicate n slot0).getD i slot0 = slot0 := by
    simp only [List.getD_eq_getElem?_getD, List.getElem?_replicate]
    split <;> rfl
  rw [this]; exact ⟨by decide, by decide⟩
theorem GenOk.mono {ss : List Slot} {c d : Int} (h : GenOk ss c) (hd : c ≤ d) : GenOk ss d := fun i => ⟨(h i).1, Int.le_trans (h i).2 hd⟩
theorem GenOk.set {ss : List Slot} {c : Int} (h : GenOk ss c) (i : Nat) (x : Slot) (hx : 0 ≤ x.gen ∧ x.gen ≤ c) : GenOk (ss.set i x) c := fun j => by
  by_cases hi : i < ss.length
  · rw [getD_set_slot _ _ _ _ hi]
    split
    · exact hx
    · exact h j
  · rw [List.set_eq_of_length_le (by omega)]; exact h j
theorem GenOk.take {ss : List Slot} {c : Int} (h : GenOk ss c) (i : Nat) (n : Nd) : GenOk (ss.set i (taken (ss.getD i slot0) n)) c := h.set i _ (h i)
theorem GenOk.give {ss : List Slot} {c : Int} (h : GenOk ss c) (i : Nat) : GenOk (ss.set i (freed (ss.getD i slot0))) (c + 1) := (h.mono (by omega)).set i _ (by have := h i; simp only [freed]; omega)

/-- The whole of an arena: what it holds is right. -/
structure ArenaOk (o : Nat → Nat) (w : World) (t t2 b : Nat) (ss : List Slot) (fault : Bool) (c : Int) : Prop where
  at_ : ∃ p sv xs, ArenaAt o w t t2 b p sv ss xs fault ∧ AInv ss xs
  len : ss.length ≤ 1024
  gen : GenOk ss c
theorem ArenaOk.ext {o o' : Nat → Nat} {w w' : World} {t t2 b : Nat} {ss : List Slot} {fault : Bool} {c : Int} {S : Nat → Prop} (h : ArenaOk o w t t2 b ss fault c) (e : Ext o o' w w' S) (h1 : ¬ S t) (h2 : ¬ S t2) : ArenaOk o' w' t t2 b ss fault c := by
  obtain ⟨⟨p, sv, xs, A, I⟩, hl, hg⟩ := h
  exact ⟨⟨p, sv, xs, A.ext e h1 h2, I⟩, hl, hg⟩

def TakePost (o : Nat → Nat) (t t2 b : Nat) (ss : List Slot) (fault : Bool) (c : Int) (n : Nd) (i : Nat) (w : World) (e : Ending) (w' : World) : Prop :=
  ∃ o', e = .returned (.tuple #[.int .u64 (i + 1 + 65536 * (ss.getD i slot0).gen), .int .i64 0]) ∧ ArenaOk o' w' t t2 b (ss.set i (taken (ss.getD i slot0) n)) fault c ∧ Ext o o' w w' (fun x => x = t ∨ x = t2)
/-- Alloc, where i is the first free place. -/
theorem arena_take {o : Nat → Nat} {w : World} {t t2 b : Nat} {ss : List Slot} {fault : Bool} {c : Int} (A : ArenaOk o w t t2 b ss fault c) (ht : t ≠ t2) (hc : c ≤ 1000000) (n : Nd) (i : Nat) (hi : i < ss.length) (hu : (ss.getD i slot0).used = false)
    (hmin : ∀ j, j < i → (ss.getD j slot0).used = true) : Calls Try.prog 9 #[.pointer (some ⟨b, 0, none⟩), ndV n] w (TakePost o t t2 b ss fault c n i w) := by
  obtain ⟨⟨p, sv, xs, A, I⟩, hl, hg⟩ := A
  have hlen := I.length
  have hle := freeTo_le ss ss.length
  have hmem : (i : Int) ∈ xs := (I.mem _).2 ⟨i, rfl, hi, hu⟩
  obtain ⟨k, hk⟩ : ∃ k, xs.length = k + 1 := ⟨xs.length - 1, by have := List.length_pos_of_mem hmem; omega⟩
  refine (arena_alloc A ht (by omega) hk I.heap (fun x hx => ?_) (hg.mono hc) (by omega) n).mono ?_
  · obtain ⟨j, rfl, hj, _⟩ := (I.mem x).1 hx
    omega
  · rintro e w' ⟨o', ys, i', rfl, A', hp, hm, hh, hi', e'⟩
    obtain ⟨h1, h2, h3⟩ := I.first (hp.mem_iff.1 (by simp)) hm
    have : i' = i := by
      rcases Nat.lt_trichotomy i' i with h | h | h
      · rw [hmin _ h] at h2; cases h2
      · exact h
      · rw [h3 _ h] at hu; cases hu
    subst this
    exact ⟨o', rfl, ⟨⟨p, sv, ys, A', I.take hi hp hh _ rfl⟩, by simpa using hl, hg.take _ _⟩, e'⟩
theorem arena_take_no {o : Nat → Nat} {w : World} {t t2 b : Nat} {ss : List Slot} {fault : Bool} {c : Int} (A : ArenaOk o w t t2 b ss fault c) (n : Nd) (hu : ∀ j, j < ss.length → (ss.getD j slot0).used = true) :
    Calls Try.prog 9 #[.pointer (some ⟨b, 0, none⟩), ndV n] w fun e w' => e = .returned (.tuple #[.int .u64 0, .int .i64 4]) ∧ ArenaOk o w' t t2 b ss fault c ∧ Ext o o w w' (fun _ => False) := by
  obtain ⟨⟨p, sv, xs, A, I⟩, hl, hg⟩ := A
  have hx : xs = [] := by
    cases xs with
    | nil => rfl
    | cons z xs =>
      obtain ⟨i, _, hi, h⟩ := (I.mem z).1 (by simp)
      rw [hu i hi] at h; cases h
  subst hx
  refine (arena_alloc_full A n).mono ?_
  rintro e w' ⟨rfl, he⟩
  exact ⟨rfl, ⟨⟨p, sv, [], A.ext he id id, I⟩, hl, hg⟩, he⟩
def GivePost (o : Nat → Nat) (t t2 b : Nat) (ss : List Slot) (fault : Bool) (c : Int) (i : Nat) (w : World) (e : Ending) (w' : World) : Prop :=
  ∃ o', e = .returned (.int .i64 0) ∧ ArenaOk o' w' t t2 b (ss.set i (freed (ss.getD i slot0))) fault (c + 1) ∧ Ext o o' w w' (fun x => x = t ∨ x = t2)
theorem arena_give {o : Nat → Nat} {w : World} {t t2 b : Nat} {ss : List Slot} {fault : Bool} {c : Int} (A : ArenaOk o w t t2 b ss fault c) (ht : t ≠ t2) (hc : c ≤ 1000000) (h : Int) (h0 : 0 ≤ h) (h1 : h ≤ 18446744073709551615) (i : Nat) (hia : atA ss h = i) :
    Calls Try.prog 10 #[.pointer (some ⟨b, 0, none⟩), .int .u64 h] w (GivePost o t t2 b ss fault c i w) := by
  obtain ⟨⟨p, sv, xs, A, I⟩, hl, hg⟩ := A
  have hlen := I.length
  have hle := freeTo_le ss ss.length
  refine (arena_free A ht (by omega) I.heap (hg.mono hc) h h0 h1 i hia).mono ?_
  rintro e w' ⟨o', ys, rfl, A', hp, hh, e'⟩
  obtain ⟨i', hi', hil, hu, _⟩ := atA_lt ss h (by omega)
  have : i' = i := by omega
  subst this
  exact ⟨o', rfl, ⟨⟨p, sv, ys, A', I.give hil hu hp hh _ rfl⟩, by simpa using hl, hg.give _⟩, e'⟩
theorem arena_give_no {o : Nat → Nat} {w : World} {t t2 b : Nat} {ss : List Slot} {fault : Bool} {c : Int} (A : ArenaOk o w t t2 b ss fault c) (h : Int) (h0 : 0 ≤ h) (h1 : h ≤ 18446744073709551615) (hi : ¬ 0 ≤ atA ss h) :
    Calls Try.prog 10 #[.pointer (some ⟨b, 0, none⟩), .int .u64 h] w fun e w' => e = .returned (.int .i64 (useCode ss h)) ∧ ArenaOk o w' t t2 b ss true c ∧ Ext o o w w' (fun x => x = t) := by
  obtain ⟨⟨p, sv, xs, A, I⟩, hl, hg⟩ := A
  refine (arena_free_no A h h0 h1 hi).mono ?_
  rintro e w' ⟨rfl, A', e'⟩
  exact ⟨rfl, ⟨⟨p, sv, xs, A', I⟩, hl, hg⟩, e'⟩
def MadePost (o : Nat → Nat) (t t2 n : Nat) (w : World) (e : Ending) (w' : World) : Prop :=
  ∃ o' b, e = .returned (.tuple #[.pointer (some ⟨b, 0, none⟩), .int .i64 0]) ∧ ArenaOk o' w' t t2 b (List.replicate n slot0) false 0 ∧ Ext o o' w w' (fun x => x = t2)
theorem arena_make (o : Nat → Nat) (t t2 n : Nat) (ht : t ≠ t2) (h0 : 1 ≤ n) (h1 : n ≤ 1024) (w : World) : Calls Try.prog 7 #[.int .i64 n] w (MadePost o t t2 n w) := by
  refine (arena_new o t t2 n ht h0 h1 w).mono ?_
  rintro e w' ⟨o', b, p, sv, xs, rfl, A, hh, hp, he⟩
  exact ⟨o', b, rfl, ⟨⟨p, sv, xs, A, .start n hh hp⟩, by rw [List.length_replicate]; exact h1, .start n⟩, he⟩
theorem arena_live2 {o : Nat → Nat} {w : World} {t t2 b : Nat} {ss : List Slot} {fault : Bool} {c : Int} (A : ArenaOk o w t t2 b ss fault c) (h : Int) (h0 : 0 ≤ h) (h1 : h ≤ 18446744073709551615) :
    Calls Try.prog 11 #[.pointer (some ⟨b, 0, none⟩), .int .u64 h] w fun e w' => e = .returned (.bool (decide (0 ≤ atA ss h))) ∧ w = w' := by
  obtain ⟨⟨p, sv, xs, A, I⟩, hl, hg⟩ := A
  exact arena_live A h h0 h1
theorem arena_fault2 {o : Nat → Nat} {w : World} {t t2 b : Nat} {ss : List Slot} {fault : Bool} {c : Int} (A : ArenaOk o w t t2 b ss fault c) :
    Calls Try.prog 12 #[.pointer (some ⟨b, 0, none⟩)] w fun e w' => e = .returned (.bool fault) ∧ w = w' := by
  obtain ⟨⟨p, sv, xs, A, I⟩, hl, hg⟩ := A
  exact arena_fault A
theorem arena_room2 {o : Nat → Nat} {w : World} {t t2 b : Nat} {ss : List Slot} {fault : Bool} {c : Int} (A : ArenaOk o w t t2 b ss fault c) :
    Calls Try.prog 18 #[.pointer (some ⟨b, 0, none⟩)] w fun e w' => e = .returned (.int .i64 ss.length) ∧ w = w' := by
  obtain ⟨⟨p, sv, xs, A, I⟩, hl, hg⟩ := A
  exact arena_room A
theorem arena_spare2 {o : Nat → Nat} {w : World} {t t2 b : Nat} {ss : List Slot} {fault : Bool} {c : Int} (A : ArenaOk o w t t2 b ss fault c) :
    Calls Try.prog 13 #[.pointer (some ⟨b, 0, none⟩)] w fun e w' => e = .returned (.int .i64 (freeTo ss ss.length).length) ∧ w = w' := by
  obtain ⟨⟨p, sv, xs, A, I⟩, hl, hg⟩ := A
  rw [← I.length]
  exact arena_spare A
theorem arena_read2 {o : Nat → Nat} {w : World} {t t2 b : Nat} {ss : List Slot} {fault : Bool} {c : Int} (A : ArenaOk o w t t2 b ss fault c) (h : Int) (h0 : 0 ≤ h) (h1 : h ≤ 18446744073709551615) :
    Calls Try.prog 81 #[.pointer (some ⟨b, 0, none⟩), .int .u64 h] w fun e w' => ∃ o', e = .returned (.tuple #[ndV (readNd ss h), .int .i64 (useCode ss h)]) ∧ ArenaOk o' w' t t2 b ss (useFault ss h fault) c ∧ Ext o o' w w' (fun x => x = t) := by
  obtain ⟨⟨p, sv, xs, A, I⟩, hl, hg⟩ := A
  refine (arena_read A h h0 h1).mono ?_
  rintro e w' ⟨o', rfl, A', e'⟩
  exact ⟨o', rfl, ⟨⟨p, sv, xs, A', I⟩, hl, hg⟩, e'⟩
theorem AInv.same {ss : List Slot} {xs : List Int} (A : AInv ss xs) {i : Nat} (hi : i < ss.length) (x : Slot) (hx : x.used = (ss.getD i slot0).used) : AInv (ss.set i x) xs := by
  refine AInv.of A.heap A.nodup fun z => ?_
  rw [A.mem]
  constructor
  · rintro ⟨j, rfl, hj, hu⟩
    refine ⟨j, rfl, by simpa using hj, ?_⟩
    rw [getD_set_slot _ _ _ _ hi]
    by_cases e : i = j
    · rw [if_pos e, hx, e]; exact hu
    · rw [if_neg e]; exact hu
  · rintro ⟨j, rfl, hj, hu⟩
    refine ⟨j, rfl, by simpa using hj, ?_⟩
    rw [getD_set_slot _ _ _ _ hi] at hu
    by_cases e : i = j
    · rw [if_pos e, hx, e] at hu; exact hu
    · rw [if_neg e] at hu; exact hu
theorem arena_link2 {o : Nat → Nat} {w : World} {t t2 b : Nat} {ss : List Slot} {fault : Bool} {c : Int} (A : ArenaOk o w t t2 b ss fault c) (h next : Int) (h0 : 0 ≤ h) (h1 : h ≤ 18446744073709551615) :
    Calls Try.prog 24 #[.pointer (some ⟨b, 0, none⟩), .int .u64 h, .int .u64 next] w fun e w' => e = .returned (.int .i64 (useCode ss h)) ∧ ArenaOk o w' t t2 b (linkS ss h next) (useFault ss h fault) c ∧ Ext o o w w' (fun x => x = t) := by
  obtain ⟨⟨p, sv, xs, A, I⟩, hl, hg⟩ := A
  refine (arena_link A h next h0 h1).mono ?_
  rintro e w' ⟨rfl, A', e'⟩
  by_cases hi : 0 ≤ atA ss h
  · obtain ⟨i, hia, hil, _⟩ := atA_lt ss h hi
    have : linkS ss h next = ss.set i { ss.getD i slot0 with nd := { (ss.getD i slot0).nd with next := next } } := by rw [linkS, if_pos hi, hia]; rfl
    rw [this] at A' ⊢
    exact ⟨rfl, ⟨⟨p, sv, xs, A', I.same hil _ rfl⟩, by simpa using hl, hg.set _ _ (hg i)⟩, e'⟩
  · have : linkS ss h next = ss := by rw [linkS, if_neg hi]
    rw [this] at A' ⊢
    exact ⟨rfl, ⟨⟨p, sv, xs, A', I⟩, hl, hg⟩, e'⟩

set_option maxRecDepth 100000 in
set_option maxHeartbeats 800000 in
theorem law04_awake (w : World) : Calls Try.prog 8 #[] w fun e w' => e = .returned (.bool true) ∧ Below w.heap.size w w' := by
  go_enter Try.func8, Try.ntmps8
  go_wp2_with fail
  refine (arena_make (fun _ => 0) 1 2 2 (by decide) (by decide) (by decide) w).mono ?_
  rintro e w1 ⟨o1, b, rfl, A1, e1⟩
  go_wp2_with fail
  refine (arena_take A1 (by decide) (by decide) nd0 0 (by decide) rfl (fun j h => by omega)).mono ?_
  rintro e w2 ⟨o2, rfl, A2, e2⟩
  go_wp2_with fail
  refine (arena_take A2 (by decide) (by decide) nd0 1 (by decide) rfl (fun j h => by rw [show j = 0 by omega]; rfl)).mono ?_
  rintro e w3 ⟨o3, rfl, A3, e3⟩
  go_wp2_with fail
  refine (arena_give A3 (by decide) (by decide) _ (by decide) (by decide) 0 rfl).mono ?_
  rintro e w4 ⟨o4, rfl, A4, e4⟩
  go_wp2_with fail
  refine (arena_take A4 (by decide) (by decide) nd0 0 (by decide) rfl (fun j h => by omega)).mono ?_
  rintro e w5 ⟨o5, rfl, A5, e5⟩
  go_wp2_with fail
  refine (arena_fault2 A5).mono ?_
  rintro e w6 ⟨rfl, rfl⟩
  go_wp2
  go_ret
  exact ⟨rfl, (((((e1.mono (fun _ h => .inr h)).trans e2).trans e3).trans e4).trans e5).done (by decide)⟩
end Go.Proofs.Ytcoaemjoanbemaa
