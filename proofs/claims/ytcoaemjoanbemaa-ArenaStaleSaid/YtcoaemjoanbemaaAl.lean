/- The arena: Read, Link. -/
import Derived.Test.YtcoaemjoanbemaaAk
import Derived.Handy
namespace Go.Proofs.Ytcoaemjoanbemaa
open Go.RowKit

def ndV (x : Nd) : Value := .agg #[.string x.key, .string x.val, .int .u32 x.sum, .int .u64 x.next]
/-- What Read answers. -/
def readNd (ss : List Slot) (h : Int) : Nd := if 0 ≤ atA ss h then (ss.getD (atA ss h).toNat slot0).nd else nd0
/-- The places behind a Link. -/
def linkS (ss : List Slot) (h next : Int) : List Slot := if 0 ≤ atA ss h then ss.set (atA ss h).toNat { ss.getD (atA ss h).toNat slot0 with nd := { (ss.getD (atA ss h).toNat slot0).nd with next := next } } else ss

/-- Four cells of a block written. -/
abbrev put4 (w : World) (H : Nat) (a b c d : Value) : World := (((w.setCell ⟨H, 0, none⟩ a).setCell ⟨H, 1, none⟩ b).setCell ⟨H, 2, none⟩ c).setCell ⟨H, 3, none⟩ d
theorem Ext.put4 {o o' : Nat → Nat} {w w' : World} {S : Nat → Prop} (e : Ext o o' w w' S) {H : Nat} (a b c d : Value) (h : S (o' H) ∨ w.heap.size ≤ H) : Ext o o' w (put4 w' H a b c d) S := (((e.put a h).put b h).put c h).put d h
/-- Beside an arena. -/
theorem ArenaAt.put4 {o : Nat → Nat} {w : World} {t t2 b p : Nat} {sv : Value} {ss : List Slot} {xs : List Int} {fault : Bool} (A : ArenaAt o w t t2 b p sv ss xs fault) {H : Nat} (x y z u : Value) (h1 : o H ≠ t) (h2 : o H ≠ t2) :
    ArenaAt o (Go.Proofs.Ytcoaemjoanbemaa.put4 w H x y z u) t t2 b p sv ss xs fault := A.ext ((Ext.refl o w (fun x => x = o H)).put4 x y z u (.inl rfl)) (fun e => h1 e.symm) (fun e => h2 e.symm)

section
variable {o : Nat → Nat} {w : World} {t t2 b p : Nat} {sv : Value} {ss : List Slot} {xs : List Int} {fault : Bool}
set_option maxHeartbeats 800000 in
theorem arena_read (A : ArenaAt o w t t2 b p sv ss xs fault) (h : Int) (h0 : 0 ≤ h) (h1 : h ≤ 18446744073709551615) :
    Calls Try.prog 81 #[.pointer (some ⟨b, 0, none⟩), .int .u64 h] w fun e w' => ∃ o', e = .returned (.tuple #[ndV (readNd ss h), .int .i64 (useCode ss h)]) ∧ ArenaAt o' w' t t2 b p sv ss xs (useFault ss h fault) ∧ Ext o o' w w' (fun x => x = t) := by
  have E0 : Ext o (upd o w.heap.size (t + t2 + 1)) w (w.alloc (.cells #[.string ⟨#[]⟩, .string ⟨#[]⟩, .int .u32 0, .int .u64 0] 36)) (fun _ => False) := ((Ext.refl o w (fun _ => False)).retag (t + t2 + 1)).alloc _
  have A1 := A.ext E0 id id
  have S1 : StAt (upd o w.heap.size (t + t2 + 1)) (w.alloc (.cells #[.string ⟨#[]⟩, .string ⟨#[]⟩, .int .u32 0, .int .u64 0] 36)) (t + t2 + 1) w.heap.size #[.string ⟨#[]⟩, .string ⟨#[]⟩, .int .u32 0, .int .u64 0] 36 := ⟨blk_new _ _, upd_new (Nat.le_refl _)⟩
  replace E0 := hide (E0.none (S := fun x => x = t))
  have F := hide (arena_find A1 h h0 h1)
  clear A
  by_cases hi : 0 ≤ atA ss h
  · obtain ⟨i, hia, hil, hused, hm, hgen⟩ := atA_lt ss h hi
    have e1 : useCode ss h = 0 := by rw [useCode, if_pos hi]
    have e2 : useFault ss h fault = fault := by rw [useFault, if_pos hi]
    have e3 : readNd ss h = (ss.getD i slot0).nd := by rw [readNd, if_pos hi, hia]; rfl
    rw [e1, e2, e3]
    rw [e1, e2, hia] at F
    clear e1 e2 e3 hi hia hused hm hgen
    generalize hn : (ss.getD i slot0).nd = n
    replace hn := hide hn
    go_enter Try.func81, Try.ntmps81
    go_wp2_with fail
    refine F.out.mono ?_
    rintro e w2 ⟨rfl, A2, e2⟩
    have S2 := S1.ext e2 (by omega)
    have hh := A2.hdr.heap
    obtain ⟨g, cap, cur, rfl, hg, _, ha1, hb1, c0, c1, c2, c3, c4, c5⟩ := slot_at A2.slots hil
    clear c4 c5
    rw [hn.out] at c0 c1 c2 c3
    have htag := hide S2.tag
    have S2h := S2.heap
    have A3 := hide A2
    have E2 := hide e2
    have hne := ne_of_type S2h hg (by decide)
    have hlt : w.heap.size < w2.heap.size := S2.lt
    clear A2 e2 S2 S1 A1 F
    go_wp2_with fail
    refine bodyPost_ret (by simp [results, Try.results81, go_sem, S2h]; rfl) rfl ?_
    exact ⟨_, rfl, A3.out.put4 _ _ _ _ (by rw [htag.out]; omega) (by rw [htag.out]; omega), (E0.out.trans E2.out).put4 _ _ _ _ (.inr (Nat.le_refl _))⟩
  · have hn := atA_neg ss h hi
    have e3 : readNd ss h = nd0 := by rw [readNd, if_neg hi]
    rw [e3]
    have hcode : useCode ss h = 3 ∨ useCode ss h = 6 := by
      rw [useCode, if_neg hi]
      by_cases hz : h = 0
      · exact .inl (if_pos hz)
      · exact .inr (if_neg hz)
    rw [hn] at F
    generalize useCode ss h = c at *
    generalize useFault ss h fault = fa at *
    clear e3 hi hn
    rcases hcode with rfl | rfl
    all_goals
      go_enter Try.func81, Try.ntmps81
      go_wp2_with fail
      refine F.out.mono ?_
      rintro e w2 ⟨rfl, A2, e2⟩
      have S2 := S1.ext e2 (by omega)
      have htag := hide S2.tag
      have S2h := S2.heap
      have A3 := hide A2
      have E2 := hide e2
      have hlt : w.heap.size < w2.heap.size := S2.lt
      clear A2 e2 S2 S1 A1 F
      go_wp2_with fail
      refine bodyPost_ret (by simp [results, Try.results81, go_sem, S2h]; rfl) rfl ?_
      exact ⟨_, rfl, A3.out.put4 _ _ _ _ (by rw [htag.out]; omega) (by rw [htag.out]; omega), (E0.out.trans E2.out).put4 _ _ _ _ (.inr (Nat.le_refl _))⟩
end
end Go.Proofs.Ytcoaemjoanbemaa
