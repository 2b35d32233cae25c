/- The arena. Condition: the pointer leads to such a block. The arena: Read, Link. -/
import Derived.Test.YtcgfknpobifecaaGreatAim
import Derived.Handy
namespace Go.Proofs.YtcgfknpobifecaaGreat
open Go.RowKit

section
variable {α : Type} (f : α → List Value) (k : Nat)
theorem flat_len (hk : ∀ x, (f x).length = k) (l : List α) : (l.flatMap f).length = l.length * k := by
  induction l with
  | nil => simp
  | cons a l ih => rw [List.flatMap_cons, List.length_append, ih, hk, List.length_cons, Nat.add_mul, Nat.one_mul, Nat.add_comm]
theorem flat_get (hk : ∀ x, (f x).length = k) (l : List α) (i j : Nat) (hj : j < k) : (l.flatMap f)[i * k + j]? = l[i]?.bind fun x => (f x)[j]? := by
  induction l generalizing i with
  | nil => simp
  | cons a l ih =>
    rw [List.flatMap_cons]
    cases i with
    | zero => rw [List.getElem?_append_left (by rw [hk]; omega)]; simp
    | succ i =>
      rw [List.getElem?_append_right (by rw [hk, Nat.add_mul]; omega), hk, show (i + 1) * k + j - k = i * k + j by rw [Nat.add_mul]; omega, ih]
      simp
theorem flat_set (hk : ∀ x, (f x).length = k) (l : List α) (i j : Nat) (hj : j < k) (a : α) (ha : l[i]? = some a) (x : α) (u : Value) (hx : f x = (f a).set j u) : (l.set i x).flatMap f = (l.flatMap f).set (i * k + j) u := by
  induction l generalizing i with
  | nil => simp at ha
  | cons c l ih =>
    cases i with
    | zero =>
      simp at ha
      subst ha
      rw [List.set_cons_zero, List.flatMap_cons, List.flatMap_cons, hx, List.set_append_left _ _ (by rw [hk]; omega)]
      simp
    | succ i =>
      simp at ha
      rw [List.set_cons_succ, List.flatMap_cons, List.flatMap_cons, ih i ha, List.set_append_right _ _ (by rw [hk, Nat.add_mul]; omega), hk, show (i + 1) * k + j - k = i * k + j by rw [Nat.add_mul]; omega]
/-- A store into an owned row. -/
theorem SlAt.putk {o : Nat → Nat} {w : World} {t : Nat} {T : TypeId} {g n k cap : Nat} {cs : List Value} (h : SlAt o w t T k (.slice (some ⟨g, 0, none⟩) n cap) n cs) (i : Nat) (u : Value) :
    SlAt o (w.setCell ⟨g, i, none⟩ u) t T k (.slice (some ⟨g, 0, none⟩) n cap) n (cs.set i u) := by
  refine ⟨by rw [List.length_set]; exact h.1, ?_⟩
  rcases h.2 with ⟨h0, _⟩ | ⟨g', cap', cur, hv, hg, hog, h1, h2, h3, h4⟩
  · simp at h0
  · simp at hv
    obtain ⟨rfl, rfl⟩ := hv
    refine .inr ⟨g, cap, cur.setIfInBounds i u, rfl, ?_, hog, h1, h2, by simpa using h3, ?_⟩
    · rw [blk_put_same, hg]; rfl
    · rw [← h4]
      simp [List.take_set]
/-- A store into a part of an element. -/
theorem SlAt.putf {o : Nat → Nat} {w : World} {t : Nat} {T : TypeId} {g k cap n : Nat} {l : List α} (h : SlAt o w t T k (.slice (some ⟨g, 0, none⟩) n cap) n (l.flatMap f)) (hk : ∀ x, (f x).length = k) {i j : Nat} (hj : j < k) {a : α} (ha : l[i]? = some a) (x : α) (u : Value) (hx : f x = (f a).set j u) :
    SlAt o (w.setCell ⟨g, i * k + j, none⟩ u) t T k (.slice (some ⟨g, 0, none⟩) n cap) n ((l.set i x).flatMap f) := by
  rw [flat_set f k hk l i j hj a ha x u hx]
  exact h.putk _ _
end

/-- A node. -/
structure Nd where
  key : ByteArray
  val : ByteArray
  sum : Int
  next : Int
/-- A place: its node, whether it has one, its generation. -/
structure Slot where
  nd : Nd
  used : Bool
  gen : Int
def ndL (x : Nd) : List Value := [.string x.key, .string x.val, .int .u32 x.sum, .int .u64 x.next]
def slotL (s : Slot) : List Value := [.string s.nd.key, .string s.nd.val, .int .u32 s.nd.sum, .int .u64 s.nd.next, .bool s.used, .int .u64 s.gen]
/-- No node. -/
def nd0 : Nd := ⟨⟨#[]⟩, ⟨#[]⟩, 0, 0⟩
def slot0 : Slot := ⟨nd0, false, 0⟩
theorem slotL_len (s : Slot) : (slotL s).length = 6 := rfl

/-- An arena: its places, the heap of the free ones, the flag. -/
structure ArenaAt (o : Nat → Nat) (w : World) (t t2 b p : Nat) (sv : Value) (ss : List Slot) (xs : List Int) (fault : Bool) : Prop where
  hdr : StAt o w t b #[sv, .pointer (some ⟨p, 0, none⟩), .bool fault] 93
  slots : SlAt o w t 159 6 sv ss.length (ss.flatMap slotL)
  free : PlacesAt o w t2 p xs
theorem ArenaAt.ext {o o' : Nat → Nat} {w w' : World} {t t2 b p : Nat} {sv : Value} {ss : List Slot} {xs : List Int} {fault : Bool} {S : Nat → Prop} (h : ArenaAt o w t t2 b p sv ss xs fault) (e : Ext o o' w w' S) (h1 : ¬ S t) (h2 : ¬ S t2) :
    ArenaAt o' w' t t2 b p sv ss xs fault := ⟨h.hdr.ext e h1, h.slots.ext e h1, h.free.ext e h2⟩

theorem slot_at {o : Nat → Nat} {w : World} {t : Nat} {v : Value} {ss : List Slot} (hs : SlAt o w t 159 6 v ss.length (ss.flatMap slotL)) {i : Nat} (hi : i < ss.length) :
    ∃ g cap cur, v = .slice (some ⟨g, 0, none⟩) ss.length cap ∧ blk w g = some (.cells cur 159 (0, 0)) ∧ o g = t ∧ cap ≤ 9223372036854775807 ∧ ss.length ≤ cap ∧
      cur[i * 6]? = some (.string (ss.getD i slot0).nd.key) ∧ cur[i * 6 + 1]? = some (.string (ss.getD i slot0).nd.val) ∧ cur[i * 6 + 2]? = some (.int .u32 (ss.getD i slot0).nd.sum) ∧ cur[i * 6 + 3]? = some (.int .u64 (ss.getD i slot0).nd.next) ∧
      cur[i * 6 + 4]? = some (.bool (ss.getD i slot0).used) ∧ cur[i * 6 + 5]? = some (.int .u64 (ss.getD i slot0).gen) := by
  obtain ⟨g, cap, cur, rfl, hg, hog, h1, h2, h3, h4⟩ := hs.row (by omega)
  have hgi : ss[i]? = some (ss.getD i slot0) := by simp [hi]
  have G : ∀ j, j < 6 → ∀ u, (slotL (ss.getD i slot0))[j]? = some u → cur[i * 6 + j]? = some u := fun j hj u hu => cur_at h4 (by rw [flat_get slotL 6 slotL_len _ _ _ hj, hgi]; exact hu)
  exact ⟨g, cap, cur, rfl, hg, hog, by simp only [maxLen] at h2; omega, h1, G 0 (by decide) _ rfl, G 1 (by decide) _ rfl, G 2 (by decide) _ rfl, G 3 (by decide) _ rfl, G 4 (by decide) _ rfl, G 5 (by decide) _ rfl⟩

/-- The place of a handle, or -1. -/
def atA (ss : List Slot) (h : Int) : Int :=
  if 0 < h % 65536 ∧ h % 65536 ≤ ss.length ∧ (ss.getD ((h % 65536).toNat - 1) slot0).used = true ∧ (ss.getD ((h % 65536).toNat - 1) slot0).gen = h / 65536 then h % 65536 - 1 else -1

set_option maxRecDepth 100000 in
set_option maxHeartbeats 800000 in
theorem arena_at {o : Nat → Nat} {w : World} {t t2 b p : Nat} {sv : Value} {ss : List Slot} {xs : List Int} {fault : Bool} (A : ArenaAt o w t t2 b p sv ss xs fault) (h : Int) (h0 : 0 ≤ h) (h1 : h ≤ 18446744073709551615) :
    Calls Tryz.prog 83 #[.pointer (some ⟨b, 0, none⟩), .int .u64 h] w fun e w' => e = .returned (.int .i64 (atA ss h)) ∧ w = w' := by
  have hb := A.hdr.heap
  have hlt := A.hdr.lt
  have hr0 : 0 ≤ h % 65536 := by omega
  have hr1 : h % 65536 < 65536 := by omega
  have hd : h / 65536 ≤ 18446744073709551615 ∧ 0 ≤ h / 65536 := by omega
  obtain ⟨hd1, hd0⟩ := hd
  obtain ⟨sa, sc, rfl⟩ := A.slots.value
  have hle := A.slots.le63
  by_cases hi0 : h % 65536 = 0
  · have hres : atA ss h = -1 := by simp [atA, hi0]
    rw [hres]
    go_enter Tryz.func83, Tryz.ntmps83
    go_wp2
    go_ret
    exact ⟨rfl, rfl⟩
  · by_cases hi1 : h % 65536 ≤ ss.length
    · obtain ⟨i, hi⟩ : ∃ i : Nat, h % 65536 = i + 1 := ⟨(h % 65536 - 1).toNat, by omega⟩
      have hi2 : i < ss.length := by omega
      obtain ⟨g, cap, cur, hv, hg, _, ha1, hb1, c0, c1, c2, c3, c4, c5⟩ := slot_at A.slots hi2
      simp at hv
      obtain ⟨rfl, rfl⟩ := hv
      clear c0 c1 c2 c3
      have hat : atA ss h = if (ss.getD i slot0).used = true ∧ (ss.getD i slot0).gen = h / 65536 then (i : Int) else -1 := by
        rw [atA, hi, show ((i : Int) + 1).toNat - 1 = i by omega]
        by_cases hc : (ss.getD i slot0).used = true ∧ (ss.getD i slot0).gen = h / 65536
        · rw [if_pos hc, if_pos ⟨by omega, by omega, hc⟩]; omega
        · rw [if_neg hc, if_neg (fun x => hc x.2.2)]
      rw [hat]
      generalize ss.getD i slot0 = s at *
      generalize hq : h / 65536 = q at *
      clear A hat hi0 hi1
      have hnum : ((i : Int) + 1 - 1) = i := by omega
      cases hu : s.used
      · rw [hu] at c4
        rw [if_neg (by simp)]
        clear hu
        go_enter Tryz.func83, Tryz.ntmps83
        go_wp2
        go_ret
        exact ⟨rfl, rfl⟩
      · rw [hu] at c4
        generalize s.gen = gn at *
        clear hu
        by_cases hg : gn = q
        · subst hg
          rw [if_pos ⟨rfl, rfl⟩]
          go_enter Tryz.func83, Tryz.ntmps83
          go_wp2
          go_ret
          exact ⟨rfl, rfl⟩
        · rw [if_neg (fun x => hg x.2)]
          have hne : (gn != q) = true := by simpa using hg
          go_enter Tryz.func83, Tryz.ntmps83
          go_wp2
          go_ret
          exact ⟨rfl, rfl⟩
    · have hres : atA ss h = -1 := by rw [atA, if_neg (fun x => hi1 x.2.1)]
      rw [hres]
      go_enter Tryz.func83, Tryz.ntmps83
      go_wp2
      go_ret
      exact ⟨rfl, rfl⟩

theorem atA_lt (ss : List Slot) (h : Int) (hi : 0 ≤ atA ss h) : ∃ i : Nat, atA ss h = i ∧ i < ss.length ∧ (ss.getD i slot0).used = true ∧ h % 65536 = i + 1 ∧ (ss.getD i slot0).gen = h / 65536 := by
  unfold atA at hi ⊢
  by_cases hc : 0 < h % 65536 ∧ h % 65536 ≤ ss.length ∧ (ss.getD ((h % 65536).toNat - 1) slot0).used = true ∧ (ss.getD ((h % 65536).toNat - 1) slot0).gen = h / 65536
  · rw [if_pos hc]
    exact ⟨(h % 65536).toNat - 1, by omega, by omega, hc.2.2.1, by omega, hc.2.2.2⟩
  · rw [if_neg hc] at hi; omega
theorem atA_neg (ss : List Slot) (h : Int) (hi : ¬ 0 ≤ atA ss h) : atA ss h = -1 := by
  unfold atA at hi ⊢
  split at hi
  · omega
  · rename_i hc
    rw [if_neg hc]

/-- The code of a use. -/
def useCode (ss : List Slot) (h : Int) : Int := if 0 ≤ atA ss h then 0 else if h = 0 then 3 else 6
def useFault (ss : List Slot) (h : Int) (fault : Bool) : Bool := if 0 ≤ atA ss h then fault else true

section
variable {o : Nat → Nat} {w : World} {t t2 b p : Nat} {sv : Value} {ss : List Slot} {xs : List Int} {fault : Bool}
set_option maxHeartbeats 400000 in
theorem arena_live (A : ArenaAt o w t t2 b p sv ss xs fault) (h : Int) (h0 : 0 ≤ h) (h1 : h ≤ 18446744073709551615) :
    Calls Tryz.prog 49 #[.pointer (some ⟨b, 0, none⟩), .int .u64 h] w fun e w' => e = .returned (.bool (decide (0 ≤ atA ss h))) ∧ w = w' := by
  go_enter Tryz.func49, Tryz.ntmps49
  go_wp2_with fail
  refine (arena_at A h h0 h1).mono ?_
  rintro e w' ⟨rfl, rfl⟩
  go_wp2
  go_ret
  exact ⟨rfl, rfl⟩
set_option maxHeartbeats 400000 in
theorem arena_fault (A : ArenaAt o w t t2 b p sv ss xs fault) :
    Calls Tryz.prog 21 #[.pointer (some ⟨b, 0, none⟩)] w fun e w' => e = .returned (.bool fault) ∧ w = w' := by
  have hb := A.hdr.heap
  go_enter Tryz.func21, Tryz.ntmps21
  go_wp2
  go_ret
  exact ⟨rfl, rfl⟩
set_option maxHeartbeats 400000 in
theorem arena_spare (A : ArenaAt o w t t2 b p sv ss xs fault) :
    Calls Tryz.prog 12 #[.pointer (some ⟨b, 0, none⟩)] w fun e w' => e = .returned (.int .i64 xs.length) ∧ w = w' := by
  have hb := A.hdr.heap
  obtain ⟨v, hp, hs⟩ := A.free
  obtain ⟨a, c, rfl⟩ := hs.value
  have hp' := hp.heap
  go_enter Tryz.func12, Tryz.ntmps12
  go_wp2_with fail
  refine (places_len _ _ _ _).mono ?_
  rintro e w' ⟨rfl, rfl⟩
  go_wp2
  go_ret
  exact ⟨rfl, rfl⟩
set_option maxHeartbeats 400000 in
theorem arena_find (A : ArenaAt o w t t2 b p sv ss xs fault) (h : Int) (h0 : 0 ≤ h) (h1 : h ≤ 18446744073709551615) :
    Calls Tryz.prog 84 #[.pointer (some ⟨b, 0, none⟩), .int .u64 h] w fun e w' => e = .returned (.tuple #[.int .i64 (atA ss h), .int .i64 (useCode ss h)]) ∧ ArenaAt o w' t t2 b p sv ss xs (useFault ss h fault) ∧ Ext o o w w' (fun x => x = t) := by
  have hb := A.hdr.heap
  have hat := hide (arena_at A h h0 h1)
  by_cases hi : 0 ≤ atA ss h
  · have e1 : useCode ss h = 0 := by rw [useCode, if_pos hi]
    have e2 : useFault ss h fault = fault := by rw [useFault, if_pos hi]
    rw [e1, e2]
    generalize atA ss h = i at *
    go_enter Tryz.func84, Tryz.ntmps84
    go_wp2_with fail
    refine hat.out.mono ?_
    rintro e w' ⟨rfl, rfl⟩
    go_wp2
    go_ret2
    exact ⟨rfl, A, .refl _ _ _⟩
  · have e2 : useFault ss h fault = true := by rw [useFault, if_neg hi]
    have hput : Hid (ArenaAt o (w.setCell ⟨b, 2, none⟩ (.bool true)) t t2 b p sv ss xs true ∧ Ext o o w (w.setCell ⟨b, 2, none⟩ (.bool true)) (fun x => x = t)) := by
      refine hide ⟨⟨A.hdr.put 2 (.bool true), A.slots.put_far (A.slots.apart A.hdr.heap (by decide)), ?_⟩, (Ext.refl o w _).put _ (.inl A.hdr.tag)⟩
      obtain ⟨v, hp, hs⟩ := A.free
      exact ⟨v, hp.put_far (ne_of_type hp.heap A.hdr.heap (by decide)), hs.put_far (hs.apart A.hdr.heap (by decide))⟩
    rw [e2]
    by_cases hz : h = 0
    · have e1 : useCode ss h = 3 := by rw [useCode, if_neg hi, if_pos hz]
      rw [e1]
      have hn := atA_neg ss h hi
      rw [hn] at hat ⊢
      clear hi hn A e1 e2
      subst hz
      go_enter Tryz.func84, Tryz.ntmps84
      go_wp2_with fail
      refine hat.out.mono ?_
      rintro e w' ⟨rfl, rfl⟩
      go_wp2
      go_ret2
      exact ⟨rfl, hput.out⟩
    · have e1 : useCode ss h = 6 := by rw [useCode, if_neg hi, if_neg hz]
      rw [e1]
      have hn := atA_neg ss h hi
      rw [hn] at hat ⊢
      clear hi hn A e1 e2
      go_enter Tryz.func84, Tryz.ntmps84
      go_wp2_with fail
      refine hat.out.mono ?_
      rintro e w' ⟨rfl, rfl⟩
      go_wp2
      go_ret2
      exact ⟨rfl, hput.out⟩
end
end Go.Proofs.YtcgfknpobifecaaGreat

namespace Go.Proofs.YtcgfknpobifecaaGreat
open Go.RowKit

def ndV (x : Nd) : Value := .agg #[.string x.key, .string x.val, .int .u32 x.sum, .int .u64 x.next]
/-- What Read answers. -/
def readNd (ss : List Slot) (h : Int) : Nd := if 0 ≤ atA ss h then (ss.getD (atA ss h).toNat slot0).nd else nd0
/-- The places behind a Link. -/
def linkS (ss : List Slot) (h next : Int) : List Slot := if 0 ≤ atA ss h then ss.set (atA ss h).toNat { ss.getD (atA ss h).toNat slot0 with nd := { (ss.getD (atA ss h).toNat slot0).nd with next := next } } else ss

/-- Four cells of a block written. -/
abbrev put4 (w : World) (H : Nat) (a b c d : Value) : World := (((w.setCell ⟨H, 0, none⟩ a).setCell ⟨H, 1, none⟩ b).setCell ⟨H, 2, none⟩ c).setCell ⟨H, 3, none⟩ d
theorem Ext.put4 {o o' : Nat → Nat} {w w' : World} {S : Nat → Prop} (e : Ext o o' w w' S) {H : Nat} (a b c d : Value) (h : S (o' H) ∨ w.heap.size ≤ H) : Ext o o' w (put4 w' H a b c d) S := (((e.put a h).put b h).put c h).put d h
/-- Beside an arena. -/
theorem ArenaAt.put4 {o : Nat → Nat} {w : World} {t t2 b p : Nat} {sv : Value} {ss : List Slot} {xs : List Int} {fault : Bool} (A : ArenaAt o w t t2 b p sv ss xs fault) {H : Nat} (x y z u : Value) (h1 : o H ≠ t) (h2 : o H ≠ t2) :
    ArenaAt o (Go.Proofs.YtcgfknpobifecaaGreat.put4 w H x y z u) t t2 b p sv ss xs fault := A.ext ((Ext.refl o w (fun x => x = o H)).put4 x y z u (.inl rfl)) (fun e => h1 e.symm) (fun e => h2 e.symm)

section
variable {o : Nat → Nat} {w : World} {t t2 b p : Nat} {sv : Value} {ss : List Slot} {xs : List Int} {fault : Bool}
set_option maxHeartbeats 800000 in
theorem arena_read (A : ArenaAt o w t t2 b p sv ss xs fault) (h : Int) (h0 : 0 ≤ h) (h1 : h ≤ 18446744073709551615) :
    Calls Tryz.prog 50 #[.pointer (some ⟨b, 0, none⟩), .int .u64 h] w fun e w' => ∃ o', e = .returned (.tuple #[ndV (readNd ss h), .int .i64 (useCode ss h)]) ∧ ArenaAt o' w' t t2 b p sv ss xs (useFault ss h fault) ∧ Ext o o' w w' (fun x => x = t) := by
  have E0 : Ext o (upd o w.heap.size (t + t2 + 1)) w (w.alloc (.cells #[.string ⟨#[]⟩, .string ⟨#[]⟩, .int .u32 0, .int .u64 0] 103)) (fun _ => False) := ((Ext.refl o w (fun _ => False)).retag (t + t2 + 1)).alloc _
  have A1 := A.ext E0 id id
  have S1 : StAt (upd o w.heap.size (t + t2 + 1)) (w.alloc (.cells #[.string ⟨#[]⟩, .string ⟨#[]⟩, .int .u32 0, .int .u64 0] 103)) (t + t2 + 1) w.heap.size #[.string ⟨#[]⟩, .string ⟨#[]⟩, .int .u32 0, .int .u64 0] 103 := ⟨blk_new _ _, upd_new (Nat.le_refl _)⟩
  replace E0 := hide (E0.none (S := fun x => x = t))
  have F := hide (arena_find A1 h h0 h1)
  clear A
  by_cases hi : 0 ≤ atA ss h
  · obtain ⟨i, hia, hil, hused, hm, hgen⟩ := atA_lt ss h hi
    have e1 : useCode ss h = 0 := by rw [useCode, if_pos hi]
    have e2 : useFault ss h fault = fault := by rw [useFault, if_pos hi]
    have e3 : readNd ss h = (ss.getD i slot0).nd := by rw [readNd, if_pos hi, hia]; rfl
    rw [e1, e2, e3]
    rw [e1, e2, hia] at F
    clear e1 e2 e3 hi hia hused hm hgen
    generalize hn : (ss.getD i slot0).nd = n
    replace hn := hide hn
    go_enter Tryz.func50, Tryz.ntmps50
    go_wp2_with fail
    refine F.out.mono ?_
    rintro e w2 ⟨rfl, A2, e2⟩
    have S2 := S1.ext e2 (by omega)
    have hh := A2.hdr.heap
    obtain ⟨g, cap, cur, rfl, hg, _, ha1, hb1, c0, c1, c2, c3, c4, c5⟩ := slot_at A2.slots hil
    clear c4 c5
    rw [hn.out] at c0 c1 c2 c3
    have htag := hide S2.tag
    have S2h := S2.heap
    have A3 := hide A2
    have E2 := hide e2
    have hne := ne_of_type S2h hg (by decide)
    have hlt : w.heap.size < w2.heap.size := S2.lt
    clear A2 e2 S2 S1 A1 F
    go_wp2_with fail
    refine bodyPost_ret (by simp [results, Tryz.results50, go_sem, S2h]; rfl) rfl ?_
    exact ⟨_, rfl, A3.out.put4 _ _ _ _ (by rw [htag.out]; omega) (by rw [htag.out]; omega), (E0.out.trans E2.out).put4 _ _ _ _ (.inr (Nat.le_refl _))⟩
  · have hn := atA_neg ss h hi
    have e3 : readNd ss h = nd0 := by rw [readNd, if_neg hi]
    rw [e3]
    have hcode : useCode ss h = 3 ∨ useCode ss h = 6 := by
      rw [useCode, if_neg hi]
      by_cases hz : h = 0
      · exact .inl (if_pos hz)
      · exact .inr (if_neg hz)
    rw [hn] at F
    generalize useCode ss h = c at *
    generalize useFault ss h fault = fa at *
    clear e3 hi hn
    rcases hcode with rfl | rfl
    all_goals
      go_enter Tryz.func50, Tryz.ntmps50
      go_wp2_with fail
      refine F.out.mono ?_
      rintro e w2 ⟨rfl, A2, e2⟩
      have S2 := S1.ext e2 (by omega)
      have htag := hide S2.tag
      have S2h := S2.heap
      have A3 := hide A2
      have E2 := hide e2
      have hlt : w.heap.size < w2.heap.size := S2.lt
      clear A2 e2 S2 S1 A1 F
      go_wp2_with fail
      refine bodyPost_ret (by simp [results, Tryz.results50, go_sem, S2h]; rfl) rfl ?_
      exact ⟨_, rfl, A3.out.put4 _ _ _ _ (by rw [htag.out]; omega) (by rw [htag.out]; omega), (E0.out.trans E2.out).put4 _ _ _ _ (.inr (Nat.le_refl _))⟩
end
end Go.Proofs.YtcgfknpobifecaaGreat
