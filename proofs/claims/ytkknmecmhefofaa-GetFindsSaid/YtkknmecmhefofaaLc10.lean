/- quietuslaw10: GetFinds. Condition: strings are no longer than an int tells. -/
import Derived.Test.YtkknmecmhefofaaLb10
namespace Go.Proofs.Ytkknmecmhefofaa
open Go.RowKit

theorem FrAt.more {w : World} {B B' k : Nat} {v : Value} {rows : List (List Value)} (h : FrAt w B k v rows) (hB : B ≤ B') : FrAt w B' k v rows := by
  obtain ⟨a, cap, hv, hn, hr⟩ := h
  refine ⟨a, cap, hv, hn, fun i hi => ?_⟩
  obtain ⟨b, off, ha, hlt, hc⟩ := hr i hi
  exact ⟨b, off, ha, by omega, hc⟩
theorem FrAt.world {w w' : World} {k : Nat} {v : Value} {rows : List (List Value)} (h : FrAt w w.heap.size k v rows) (hb : Below w.heap.size w w') : FrAt w' w'.heap.size k v rows := (h.below hb).more hb.size
theorem G10.bound {M : MemS} {ps : List Pk} {n : Nat} {key : ByteArray} {j c : Nat} {m : MemS} {s : GetS} (g : G10 M ps n key j m s c) : j + c ≤ ps.length + 9 := by
  cases g <;> omega
/-- What the loop of GetFinds keeps. -/
structure Mid10 (w1 : World) (b cb lb ab gb : Nat) (ps : List Pk) (n : Nat) (key : ByteArray) (j : Nat) (m : MemS) (s : GetS) (c : Nat) (wr : World) : Prop where
  r : R [BaseK w1, MemK m, GetK gb s] wr
  g : G10 (laidM b cb lb ab ps n ps.length) ps n key j m s c
  ok : GetOk m s
  mb : m.b = b
  wk : m.workers = 2
structure End10 (w1 : World) (b cb lb ab gb : Nat) (ps : List Pk) (n : Nat) (key : ByteArray) (j : Nat) (s : GetS) (wr : World) : Prop where
  r : R [BaseK w1, MemK (inM (laidM b cb lb ab ps n ps.length) 0), GetK gb s] wr
  read : (j : Int) = 5 + getRead s
  val : getVal s = refGet key ps
def Rel10 (w1 : World) (b cb lb ab gb : Nat) (ps : List Pk) (n : Nat) (key : ByteArray) (j : Nat) (d : Bool) (wr : World) : Prop :=
  if d then ∃ s, End10 w1 b cb lb ab gb ps n key j s wr else ∃ m s c, Mid10 w1 b cb lb ab gb ps n key j m s c wr

set_option maxRecDepth 100000 in
set_option maxHeartbeats 4000000 in
theorem law10_finds (k : Int) (hk0 : 0 ≤ k) (hk1 : k ≤ 255) (v : Value) (ps : List Pk) (key : ByteArray) (hky : key.size ≤ 9223372036854775807) (w : World) (hv : FrAt w w.heap.size 2 v (ps.map pk10)) (hin : ∀ p ∈ ps, okPk p) :
    Calls Try.prog 10 #[.int .u8 k, v, .string key] w fun e w' => e = .returned (.bool true) ∧ Below w.heap.size w w' := by
  obtain ⟨a, cap, rfl, hlen, _⟩ := id hv
  rw [List.length_map] at *
  have hsh := hide (law10_short hv)
  replace hv := hide hv
  go_enter Try.func10, Try.ntmps10
  go_wp2_with fail
  refine hsh.out.mono ?_
  rintro e w1 ⟨x, rfl, hx, hb1⟩
  replace hb1 := hide hb1
  clear hsh
  cases x
  · clear hx
    go_wp2_with fail
    refine (law10_awake _).mono ?_
    rintro e w2 ⟨rfl, hb2⟩
    have hbd := hb1.out.trans (hb2.mono hb1.out.size)
    go_wp2
    go_ret
    exact ⟨rfl, hbd⟩
  · have hl := hx rfl
    clear hx
    by_cases h200 : 200 < key.size
    · go_wp2_with fail
      refine (law10_awake _).mono ?_
      rintro e w2 ⟨rfl, hb2⟩
      have hbd := hb1.out.trans (hb2.mono hb1.out.size)
      go_wp2
      go_ret
      exact ⟨rfl, hbd⟩
    · have hv1 := hide (hv.out.world hb1.out)
      have hld := hide (law10_laid hv1.out hin hl k hk0 hk1)
      go_wp2_with fail
      refine hld.out.mono ?_
      rintro e w2 ⟨b, cb, lb, ab, n, rfl, h2, hn0, hnp⟩
      replace hnp := hide hnp
      have hnw := hide (get_new h2 1 key)
      clear hld h2
      go_wp2_with fail
      refine hnw.out.mono ?_
      rintro e w3 ⟨gb, rfl, h3⟩
      have hvl : Hid (Calls _ _ _ _ (Does [BaseK w1, MemK (laidM b cb lb ab ps n ps.length), GetK gb (get0 1 key)] (.tuple #[.string ⟨#[]⟩, .bool false]))) := hide (get_val h3 (u := 2) rfl)
      clear hnw h3
      go_wp2_with fail
      refine hvl.out.mono ?_
      rintro e w4 ⟨rfl, h4⟩
      have hrd : Hid (Calls _ _ _ _ (fun e w' => e = .returned (.int .i64 0) ∧ w4 = w')) := hide (get_read h4 (u := 2) rfl)
      have hM : Hid (Rel10 w1 b cb lb ab gb ps n key 0 false w4) := hide ⟨_, _, _, h4, .c0, GetOk.start _ 1 key (by show (1 : Nat) < 2; decide) hky, rfl, rfl⟩
      clear hvl h4
      go_wp2_with fail
      refine hrd.out.mono ?_
      rintro e w5 ⟨rfl, rfl⟩
      clear hrd
      go_wp2_with fail
      go_loopw [11, 12] (fun nv dv wr => ∃ (j : Nat) (d : Bool), j ≤ 200 ∧ nv = .int .i64 j ∧ dv = .bool d ∧ Rel10 w1 b cb lb ab gb ps n key j d wr)
        (fun nv _ _ => 200 - (intOf nv).toNat)
      case atStart => exact ⟨0, false, by omega, rfl, rfl, hM.out⟩
      case round =>
        obtain ⟨j, d, hj, rfl, rfl, h5⟩ := hrel
        clear hM
        cases d
        · obtain ⟨m, s, c, M⟩ := h5
          have hbd := M.g.bound
          have hj69 : (j : Int) ≤ 69 := by omega
          have hst := get_step M.r (t := 1) (u := 2) rfl rfl (by decide) M.ok
          have hgb := getStep_b m s
          have hgi := get_inv (M.r.memOk (t := 1) rfl) M.ok
          rcases M.g.step hn0 hnp.out hl with ⟨m', s', c', e8, g', hc, hi1, hi0⟩ | ⟨e8, hjr, hj4, hval⟩
          · rw [e8] at hst hgb hgi
            dsimp only at hgb hgi
            rw [M.mb] at hst hgb
            rw [M.wk] at hgb
            have hst' : Hid (Calls _ _ _ _ (Does [BaseK w1, MemK m', GetK gb s'] (.bool false))) := hide hst
            clear hst e8
            go_wp2_with fail
            refine (get_ready _ _ _).mono ?_
            rintro e w5 ⟨rfl, rfl⟩
            go_wp2_with fail
            refine hst'.out.mono ?_
            rintro e w6 ⟨rfl, h6⟩
            have hq1 := qsbr_in h6 (t := 1) rfl 1 (by rw [hgb.2.2.2.2]; decide)
            rw [hgb.1] at hq1
            have e0 : decide (inCell m' 0 ≠ 0) = false := by simp [hi0]
            have hjk : Hid (∀ wx, R [BaseK w1, MemK m', GetK gb s'] wx → Rel10 w1 b cb lb ab gb ps n key (j + 1) false wx) := hide fun wx hx => ⟨m', s', c', hx, g', hgi, hgb.1, hgb.2.2.2.2⟩
            have hgb1 := hide hgb.1
            have hgb5 := hide hgb.2.2.2.2
            replace e0 := hide e0
            clear hst' h6 hgb hgi M g' hi0
            by_cases h1 : 1 ≤ j
            all_goals
              have h1i : decide (inCell m' 1 ≠ 0) = decide (1 ≤ j) := by simp only [decide_eq_decide]; exact hi1
              simp only [h1, decide_true, decide_false] at h1i
              rw [h1i] at hq1
              replace hq1 := hide hq1
              have h1j : ((1 : Int) ≤ (j : Int)) ↔ 1 ≤ j := by omega
              simp only [h1, iff_true, iff_false] at h1j
              clear hi1 h1i
              go_wp2_with fail
              refine hq1.out.mono ?_
              rintro e w7 ⟨rfl, h7⟩
              have hq0 := qsbr_in h7 (t := 1) rfl 0 (by rw [hgb5.out]; decide)
              rw [hgb1.out, e0.out] at hq0
              replace hq0 := hide hq0
              clear h7 hq1
              go_wp2_with fail
              refine hq0.out.mono ?_
              rintro e w8 ⟨rfl, h8⟩
              have h9 := hide (hjk.out _ h8)
              clear h8 hq0
              go_wp2_with fail
              exact ⟨⟨j + 1, false, by omega, by go_num, rfl, h9.out⟩, by simp [intOf]; omega⟩
          · have h4j : (1 : Int) ≤ (j : Int) := by omega
            have h4n : 1 ≤ j := by omega
            rw [e8] at hst
            rw [M.mb] at hst
            have hst' : Hid (Calls _ _ _ _ (Does [BaseK w1, MemK (inM (laidM b cb lb ab ps n ps.length) 0), GetK gb s] (.bool true))) := hide hst
            have hjk : Hid (∀ wx, R [BaseK w1, MemK (inM (laidM b cb lb ab ps n ps.length) 0), GetK gb s] wx → Rel10 w1 b cb lb ab gb ps n key (j + 1) true wx) := hide fun wx hx => ⟨s, hx, by omega, hval⟩
            have hi1 : decide (inCell (inM (laidM b cb lb ab ps n ps.length) 0) 1 ≠ 0) = false := by rw [inCell, laidM_in, if_pos (by decide)]; rfl
            have hi0 : decide (inCell (inM (laidM b cb lb ab ps n ps.length) 0) 0 ≠ 0) = false := by rw [inCell, laidM_in, if_neg (by decide)]; rfl
            replace hi1 := hide hi1
            replace hi0 := hide hi0
            clear hst e8 hgb hgi M hval hjr
            go_wp2_with fail
            refine (get_ready _ _ _).mono ?_
            rintro e w5 ⟨rfl, rfl⟩
            go_wp2_with fail
            refine hst'.out.mono ?_
            rintro e w6 ⟨rfl, h6⟩
            have hq1 := qsbr_in h6 (t := 1) rfl 1 (by show (1 : Nat) < 2; decide)
            rw [hi1.out] at hq1
            replace hq1 := hide hq1
            clear hst' h6
            go_wp2_with fail
            refine hq1.out.mono ?_
            rintro e w7 ⟨rfl, h7⟩
            have hq0 := qsbr_in h7 (t := 1) rfl 0 (by show (0 : Nat) < 2; decide)
            rw [hi0.out] at hq0
            replace hq0 := hide hq0
            clear h7 hq1
            go_wp2_with fail
            refine hq0.out.mono ?_
            rintro e w8 ⟨rfl, h8⟩
            have h9 := hide (hjk.out _ h8)
            clear h8 hq0
            go_wp2_with fail
            exact ⟨⟨j + 1, true, by omega, by go_num, rfl, h9.out⟩, by simp [intOf]; omega⟩
        · obtain ⟨s, E⟩ := h5
          have hvl := get_val E.r (u := 2) rfl
          rw [E.val] at hvl
          have hjr := E.read
          replace hvl := hide hvl
          clear E
          go_wp2_with fail
          refine hvl.out.mono ?_
          rintro e w6 ⟨rfl, h6⟩
          have hrg := hide (ref10_get (hv1.out.world h6.done) key)
          replace h6 := hide h6
          clear hvl
          go_wp2_with fail
          refine hrg.out.mono ?_
          rintro e w7 ⟨rfl, rfl⟩
          clear hrg
          generalize refGet key ps = r at *
          obtain ⟨rv, rb⟩ := r
          dsimp only
          go_wp2_with fail
          refine (law10_awake _).mono ?_
          rintro e w8 ⟨rfl, hb8⟩
          have h8 := h6.out.below hb8
          have hrd := hide (get_read h8 (u := 2) rfl)
          have c4 : Hid (Calls Try.prog 16 _ _ (fun e w' => e = .returned (.bool false) ∧ w8 = w')) := hide (memR_fault h8 (t := 1) rfl)
          obtain ⟨tv, wv, hmh⟩ := R.memHdr h8 (t := 1) rfl
          dsimp only [inM, laidM, memNew] at hmh c4
          have hbd := hb1.out.trans (h8.done.mono hb1.out.size)
          clear h6 h8 hb8
          generalize getRead s = rr at *
          have hr1 : -5 ≤ rr := by omega
          have hr2 : rr ≤ 195 := by omega
          go_wp2_with fail
          refine hrd.out.mono ?_
          rintro e w9 ⟨rfl, rfl⟩
          clear hrd
          go_wp2_with fail
          refine c4.out.mono ?_
          rintro e w9 ⟨rfl, rfl⟩
          clear c4
          go_wp2
          go_ret
          exact ⟨rfl, hbd⟩
end Go.Proofs.Ytkknmecmhefofaa
