/- The arena: Link, Alloc, Free. -/
import Derived.Test.YtcoaemjoanbemaaAl
import Derived.Deep.CutBlock
namespace Go.Proofs.Ytcoaemjoanbemaa
open Go.RowKit

theorem ArenaAt.put {o : Nat → Nat} {w : World} {t t2 b p g cap : Nat} {ss : List Slot} {xs : List Int} {fault : Bool} (A : ArenaAt o w t t2 b p (.slice (some ⟨g, 0, none⟩) ss.length cap) ss xs fault) {i j : Nat} (hj : j < 6) (hi : i < ss.length)
    (x : Slot) (u : Value) (hx : slotL x = (slotL (ss.getD i slot0)).set j u) :
    ArenaAt o (w.setCell ⟨g, i * 6 + j, none⟩ u) t t2 b p (.slice (some ⟨g, 0, none⟩) (ss.set i x).length cap) (ss.set i x) xs fault ∧ Ext o o w (w.setCell ⟨g, i * 6 + j, none⟩ u) (fun x => x = t) := by
  obtain ⟨g', cap', cur, hv, hg, hog, _⟩ := A.slots.row (by omega)
  simp at hv
  obtain ⟨rfl, rfl⟩ := hv
  have hgi : ss[i]? = some (ss.getD i slot0) := by simp [hi]
  obtain ⟨v, hp, hs⟩ := A.free
  have hl : (ss.set i x).length = ss.length := List.length_set
  refine ⟨⟨?_, ?_, ?_⟩, (Ext.refl o w _).put _ (.inl hog)⟩
  · rw [hl]; exact A.hdr.put_far (ne_of_type A.hdr.heap hg (by decide))
  · rw [hl]; exact A.slots.putf slotL slotL_len hj hgi x u hx
  · exact ⟨v, hp.put_far (ne_of_type hp.heap hg (by decide)), hs.put_far (hs.apart hg (by decide))⟩

theorem getD_set_at (ss : List Slot) (i : Nat) (x : Slot) (h : i < ss.length) : (ss.set i x).getD i slot0 = x := by simp [h]

/-- A place taken. -/
def taken (x : Slot) (n : Nd) : Slot := { x with nd := n, used := true }
/-- A place freed. -/
def freed (x : Slot) : Slot := ⟨nd0, false, x.gen + 1⟩

section
variable {o : Nat → Nat} {w : World} {t t2 b p : Nat} {sv : Value} {ss : List Slot} {xs : List Int} {fault : Bool}

theorem ArenaAt.taken {g cap i : Nat} (A : ArenaAt o w t t2 b p (.slice (some ⟨g, 0, none⟩) ss.length cap) ss xs fault) (hi : i < ss.length) (n : Nd) :
    ArenaAt o (((((w.setCell ⟨g, i * 6, none⟩ (.string n.key)).setCell ⟨g, i * 6 + 1, none⟩ (.string n.val)).setCell ⟨g, i * 6 + 2, none⟩ (.int .u32 n.sum)).setCell ⟨g, i * 6 + 3, none⟩ (.int .u64 n.next)).setCell ⟨g, i * 6 + 4, none⟩ (.bool true))
      t t2 b p (.slice (some ⟨g, 0, none⟩) ss.length cap) (ss.set i (taken (ss.getD i slot0) n)) xs fault ∧
    Ext o o w (((((w.setCell ⟨g, i * 6, none⟩ (.string n.key)).setCell ⟨g, i * 6 + 1, none⟩ (.string n.val)).setCell ⟨g, i * 6 + 2, none⟩ (.int .u32 n.sum)).setCell ⟨g, i * 6 + 3, none⟩ (.int .u64 n.next)).setCell ⟨g, i * 6 + 4, none⟩ (.bool true)) (fun x => x = t) := by
  obtain ⟨A1, E1⟩ := A.put (j := 0) (by decide) hi { ss.getD i slot0 with nd := { (ss.getD i slot0).nd with key := n.key } } (.string n.key) rfl
  obtain ⟨A2, E2⟩ := A1.put (i := i) (j := 1) (by decide) (by simpa using hi) { ss.getD i slot0 with nd := { (ss.getD i slot0).nd with key := n.key, val := n.val } } (.string n.val) (by rw [getD_set_at _ _ _ hi]; rfl)
  rw [List.set_set] at A2
  obtain ⟨A3, E3⟩ := A2.put (i := i) (j := 2) (by decide) (by simpa using hi) { ss.getD i slot0 with nd := { (ss.getD i slot0).nd with key := n.key, val := n.val, sum := n.sum } } (.int .u32 n.sum) (by rw [getD_set_at _ _ _ hi]; rfl)
  rw [List.set_set] at A3
  obtain ⟨A4, E4⟩ := A3.put (i := i) (j := 3) (by decide) (by simpa using hi) { ss.getD i slot0 with nd := n } (.int .u64 n.next) (by rw [getD_set_at _ _ _ hi]; rfl)
  rw [List.set_set] at A4
  obtain ⟨A5, E5⟩ := A4.put (i := i) (j := 4) (by decide) (by simpa using hi) (Go.Proofs.Ytcoaemjoanbemaa.taken (ss.getD i slot0) n) (.bool true) (by rw [getD_set_at _ _ _ hi]; rfl)
  rw [List.set_set, List.length_set] at A5
  exact ⟨A5, (((E1.trans E2).trans E3).trans E4).trans E5⟩

theorem ArenaAt.freed {g cap i : Nat} (A : ArenaAt o w t t2 b p (.slice (some ⟨g, 0, none⟩) ss.length cap) ss xs fault) (hi : i < ss.length) :
    ArenaAt o ((((((w.setCell ⟨g, i * 6, none⟩ (.string ⟨#[]⟩)).setCell ⟨g, i * 6 + 1, none⟩ (.string ⟨#[]⟩)).setCell ⟨g, i * 6 + 2, none⟩ (.int .u32 0)).setCell ⟨g, i * 6 + 3, none⟩ (.int .u64 0)).setCell ⟨g, i * 6 + 4, none⟩ (.bool false)).setCell ⟨g, i * 6 + 5, none⟩ (.int .u64 ((ss.getD i slot0).gen + 1)))
      t t2 b p (.slice (some ⟨g, 0, none⟩) ss.length cap) (ss.set i (freed (ss.getD i slot0))) xs fault ∧
    Ext o o w ((((((w.setCell ⟨g, i * 6, none⟩ (.string ⟨#[]⟩)).setCell ⟨g, i * 6 + 1, none⟩ (.string ⟨#[]⟩)).setCell ⟨g, i * 6 + 2, none⟩ (.int .u32 0)).setCell ⟨g, i * 6 + 3, none⟩ (.int .u64 0)).setCell ⟨g, i * 6 + 4, none⟩ (.bool false)).setCell ⟨g, i * 6 + 5, none⟩ (.int .u64 ((ss.getD i slot0).gen + 1))) (fun x => x = t) := by
  obtain ⟨A1, E1⟩ := A.put (j := 0) (by decide) hi { ss.getD i slot0 with nd := { (ss.getD i slot0).nd with key := ⟨#[]⟩ } } (.string ⟨#[]⟩) rfl
  obtain ⟨A2, E2⟩ := A1.put (i := i) (j := 1) (by decide) (by simpa using hi) { ss.getD i slot0 with nd := { (ss.getD i slot0).nd with key := ⟨#[]⟩, val := ⟨#[]⟩ } } (.string ⟨#[]⟩) (by rw [getD_set_at _ _ _ hi]; rfl)
  rw [List.set_set] at A2
  obtain ⟨A3, E3⟩ := A2.put (i := i) (j := 2) (by decide) (by simpa using hi) { ss.getD i slot0 with nd := { (ss.getD i slot0).nd with key := ⟨#[]⟩, val := ⟨#[]⟩, sum := 0 } } (.int .u32 0) (by rw [getD_set_at _ _ _ hi]; rfl)
  rw [List.set_set] at A3
  obtain ⟨A4, E4⟩ := A3.put (i := i) (j := 3) (by decide) (by simpa using hi) { ss.getD i slot0 with nd := nd0 } (.int .u64 0) (by rw [getD_set_at _ _ _ hi]; rfl)
  rw [List.set_set] at A4
  obtain ⟨A5, E5⟩ := A4.put (i := i) (j := 4) (by decide) (by simpa using hi) { ss.getD i slot0 with nd := nd0, used := false } (.bool false) (by rw [getD_set_at _ _ _ hi]; rfl)
  rw [List.set_set] at A5
  obtain ⟨A6, E6⟩ := A5.put (i := i) (j := 5) (by decide) (by simpa using hi) (Go.Proofs.Ytcoaemjoanbemaa.freed (ss.getD i slot0)) (.int .u64 ((ss.getD i slot0).gen + 1)) (by rw [getD_set_at _ _ _ hi]; rfl)
  rw [List.set_set, List.length_set] at A6
  exact ⟨A6, ((((E1.trans E2).trans E3).trans E4).trans E5).trans E6⟩

set_option maxHeartbeats 800000 in
theorem arena_link (A : ArenaAt o w t t2 b p sv ss xs fault) (h next : Int) (h0 : 0 ≤ h) (h1 : h ≤ 18446744073709551615) :
    Calls Try.prog 24 #[.pointer (some ⟨b, 0, none⟩), .int .u64 h, .int .u64 next] w fun e w' => e = .returned (.int .i64 (useCode ss h)) ∧ ArenaAt o w' t t2 b p sv (linkS ss h next) xs (useFault ss h fault) ∧ Ext o o w w' (fun x => x = t) := by
  have F := hide (arena_find A h h0 h1)
  by_cases hi : 0 ≤ atA ss h
  · obtain ⟨i, hia, hil, hused, hm, hgen⟩ := atA_lt ss h hi
    have e1 : useCode ss h = 0 := by rw [useCode, if_pos hi]
    have e2 : useFault ss h fault = fault := by rw [useFault, if_pos hi]
    have e3 : linkS ss h next = ss.set i { ss.getD i slot0 with nd := { (ss.getD i slot0).nd with next := next } } := by rw [linkS, if_pos hi, hia]; rfl
    rw [e1, e2, e3]
    rw [e1, e2, hia] at F
    clear e1 e2 e3 hi hia hused hm hgen
    go_enter Try.func24, Try.ntmps24
    go_wp2_with fail
    refine F.out.mono ?_
    rintro e w2 ⟨rfl, A2, e2⟩
    have hh := A2.hdr.heap
    obtain ⟨g, cap, cur, rfl, hg, _, ha1, hb1, c0, c1, c2, c3, c4, c5⟩ := slot_at A2.slots hil
    have P := hide (A2.put (i := i) (j := 3) (by decide) hil { ss.getD i slot0 with nd := { (ss.getD i slot0).nd with next := next } } (.int .u64 next) rfl)
    have E2 := hide e2
    clear c0 c1 c2 c4 c5 A2 e2 F A
    go_wp2
    go_ret
    obtain ⟨P1, P2⟩ := P.out
    rw [List.length_set] at P1
    exact ⟨rfl, P1, E2.out.trans P2⟩
  · have hn := atA_neg ss h hi
    have e3 : linkS ss h next = ss := by rw [linkS, if_neg hi]
    rw [e3]
    have hcode : useCode ss h = 3 ∨ useCode ss h = 6 := by
      rw [useCode, if_neg hi]
      by_cases hz : h = 0
      · exact .inl (if_pos hz)
      · exact .inr (if_neg hz)
    rw [hn] at F
    generalize useCode ss h = c at *
    generalize useFault ss h fault = fa at *
    clear e3 hi hn A
    rcases hcode with rfl | rfl
    all_goals
      go_enter Try.func24, Try.ntmps24
      go_wp2_with fail
      refine F.out.mono ?_
      rintro e w2 ⟨rfl, A2, e2⟩
      go_wp2
      go_ret
      exact ⟨rfl, A2, e2⟩
end
end Go.Proofs.Ytcoaemjoanbemaa
