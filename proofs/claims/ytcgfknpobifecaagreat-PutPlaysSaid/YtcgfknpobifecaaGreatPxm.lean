/- Package put: Step, Ready over a put; a put as a kind of frame. Condition: the memory and the put are there. quietuslaw08: Awake. No condition. quietuslaw11: Awake. No condition. quietuslaw11: what PutPlays' round asks besides. Condition: the memory holds a map. -/
import Derived.Test.YtcgfknpobifecaaGreatPw
import Derived.Test.YtcgfknpobifecaaGreatTkm
import Derived.Test.YtcgfknpobifecaaGreatLb10
import Derived.Deep.CutBlock
import Derived.Test.YtcgfknpobifecaaGreatMwm
import Derived.Test.YtcgfknpobifecaaGreatLa07m
namespace Go.Proofs.YtcgfknpobifecaaGreat
open Go.RowKit

section
variable {l : List KObj} {w : World} {t u b : Nat} {m : MemS} {s : PutS}
set_option maxHeartbeats 800000 in
theorem put_step (h : R l w) (ht : l[t]? = some (MemK m)) (hu : l[u]? = some (PutK b s)) (hne : t ≠ u) (hok : PutOk m s) :
    Calls Tryz.prog 193 #[.pointer (some ⟨b, 0, none⟩), .pointer (some ⟨m.b, 0, none⟩)] w (Does ((l.set t (MemK (putStep m s).1)).set u (PutK b (putStep m s).2.1)) (.bool (putStep m s).2.2)) := by
  obtain ⟨⟨hb, wb⟩, h1⟩ := PutK.open_ h hu
  have hs := h1.stP (i := 0) (b := b) (cs := putC b hb wb s) (T := 100) rfl
  dsimp only [putC] at hs
  clear h1
  rcases (by have := hok.phase; omega : s.phase = 0 ∨ s.phase = 1 ∨ s.phase = 2 ∨ s.phase = 3 ∨ s.phase = 4 ∨ s.phase = 5) with h0 | h0 | h0 | h0 | h0 | h0
  · have hc := hide (put_take h ht hu hne hok h0)
    rw [h0, show putF 0 = 45 from rfl] at hs
    replace h0 := hide h0
    clear h hok
    go_enter Tryz.func193, Tryz.ntmps193
    go_wp2_with fail
    refine hc.out.mono ?_
    rintro e w2 ⟨rfl, h2⟩
    replace h2 := hide h2
    go_wp2
    go_ret
    exact ⟨rfl, h2.out⟩
  · have hc := hide (put_look h ht hu hne hok h0)
    rw [h0, show putF 1 = 79 from rfl] at hs
    replace h0 := hide h0
    clear h hok
    go_enter Tryz.func193, Tryz.ntmps193
    go_wp2_with fail
    refine hc.out.mono ?_
    rintro e w2 ⟨rfl, h2⟩
    replace h2 := hide h2
    go_wp2
    go_ret
    exact ⟨rfl, h2.out⟩
  · have hc := hide (put_alloc h ht hu hne hok h0)
    rw [h0, show putF 2 = 111 from rfl] at hs
    replace h0 := hide h0
    clear h hok
    go_enter Tryz.func193, Tryz.ntmps193
    go_wp2_with fail
    refine hc.out.mono ?_
    rintro e w2 ⟨rfl, h2⟩
    replace h2 := hide h2
    go_wp2
    go_ret
    exact ⟨rfl, h2.out⟩
  · have hc := hide (put_link h ht hu hne hok h0)
    rw [h0, show putF 3 = 129 from rfl] at hs
    replace h0 := hide h0
    clear h hok
    go_enter Tryz.func193, Tryz.ntmps193
    go_wp2_with fail
    refine hc.out.mono ?_
    rintro e w2 ⟨rfl, h2⟩
    replace h2 := hide h2
    go_wp2
    go_ret
    exact ⟨rfl, h2.out⟩
  · have hc := hide (put_retire h ht hu hne hok h0)
    rw [h0, show putF 4 = 140 from rfl] at hs
    replace h0 := hide h0
    clear h hok
    go_enter Tryz.func193, Tryz.ntmps193
    go_wp2_with fail
    refine hc.out.mono ?_
    rintro e w2 ⟨rfl, h2⟩
    replace h2 := hide h2
    go_wp2
    go_ret
    exact ⟨rfl, h2.out⟩
  · have hc := hide (put_drop h ht hu hne hok h0)
    rw [h0, show putF 5 = 130 from rfl] at hs
    replace h0 := hide h0
    clear h hok
    go_enter Tryz.func193, Tryz.ntmps193
    go_wp2_with fail
    refine hc.out.mono ?_
    rintro e w2 ⟨rfl, h2⟩
    replace h2 := hide h2
    go_wp2
    go_ret
    exact ⟨rfl, h2.out⟩

set_option maxHeartbeats 800000 in
theorem put_ready (h : R l w) (ht : l[t]? = some (MemK m)) (hu : l[u]? = some (PutK b s)) (hne : t ≠ u) (hok : PutOk m s) :
    Calls Tryz.prog 192 #[.pointer (some ⟨b, 0, none⟩), .pointer (some ⟨m.b, 0, none⟩)] w (Does l (.bool (putReady m s))) := by
  have hul := lt_of_get hu
  obtain ⟨⟨hb, wb⟩, h1⟩ := PutK.open_ h hu
  have hs := h1.stP (i := 0) (b := b) (cs := putC b hb wb s) (T := 100) rfl
  have hrd := hold_ready h1 (memU ht hne) (u := (l.set u NoK).length + 1) (b := hb) (s := s.hold) (getP rfl) hok.hold
  have hcl : ∀ w', R (l.set u NoK ++ (putParts b s (hb, wb)).map single) w' → R l w' := fun w' h' => by
    have := PutK.close (b := b) (s := s) (u := u) (hb, wb) h' (by simpa using hul)
    rwa [List.set_set, set_same hu] at this
  replace hcl := hide hcl
  dsimp only [putC] at hs
  unfold putReady
  cases hh : s.held
  · rw [hh] at hs
    rw [Bool.false_or]
    generalize holdReady m s.hold = x at *
    replace hrd := hide hrd
    replace hh := hide hh
    clear h h1 hok
    go_enter Tryz.func192, Tryz.ntmps192
    go_wp2_with fail
    refine hrd.out.mono ?_
    rintro e w2 ⟨rfl, h2⟩
    have h3 := hide (hcl.out _ h2)
    clear h2 hs hrd
    cases x
    all_goals
      go_wp2
      go_ret
      exact ⟨rfl, h3.out⟩
  · rw [hh] at hs
    rw [Bool.true_or]
    replace hh := hide hh
    replace h := hide h
    clear h1 hok hrd
    go_enter Tryz.func192, Tryz.ntmps192
    go_wp2
    go_ret
    exact ⟨rfl, h.out⟩
end
theorem put_frame (b : Nat) : FrameAt 45 192 193 b := ⟨fun n w => by kernel_rfl, fun n w => by kernel_rfl, fun n w => by kernel_rfl, fun a w => by kernel_rfl, fun a w => by kernel_rfl, fun n w => by kernel_rfl⟩
theorem putK : FrameK 45 192 193 PutK PutOk putReady putStep where
  at_ := put_frame
  ready_ h ht hu hne hi := put_ready h ht hu hne hi
  step_ h ht hu hne hi _ := put_step h ht hu hne hi
  inv hm hi _ := put_inv hm hi
  blk m s := putStep_b m s
end Go.Proofs.YtcgfknpobifecaaGreat

namespace Go.Proofs.YtcgfknpobifecaaGreat
open Go.RowKit

theorem law08_run (b cb lb ab : Nat) : finM (frReady holdReady) (frStep holdStep) 9 0 (memNew b cb lb ab 1 1, hold0 0 7) =
    (3, true, ({ memNew b cb lb ab 1 1 with locks := [-1, 0, -1, -1, -1, -1] }, ⟨0, 7, 2, 0, (1, 3), 1, true, true⟩)) := by kernel_rfl
set_option maxRecDepth 100000 in
set_option maxHeartbeats 1600000 in
theorem law08_awake (w : World) : Calls Tryz.prog 35 #[] w fun e w' => e = .returned (.bool true) ∧ Below w.heap.size w w' := by
  have hn := hide (law05_made (R.start w) 1 1 (by decide) (by decide) (by decide) (by decide))
  go_enter Tryz.func35, Tryz.ntmps35
  go_wp2_with fail
  refine hn.out.mono ?_
  rintro e w1 ⟨b, cb, lb, ab, rfl, h1⟩
  clear hn
  have hnw := hide (hold_new h1 0 7)
  clear h1
  go_wp2_with fail
  refine hnw.out.mono ?_
  rintro e w2 ⟨b2, rfl, h2⟩
  have hfin := hide (fin_R holdK h2 (t := 1) (u := 2) rfl rfl (by decide) (HoldOk.start 0 7 (by decide) (by decide) (by decide)) 9 (by decide) (law08_run b cb lb ab))
  clear hnw h2
  go_wp2_with fail
  refine hfin.out.mono ?_
  rintro e w3 ⟨rfl, h3⟩
  replace h3 := hide h3
  clear hfin
  go_wp2_with fail
  refine (law05_awake _).mono ?_
  rintro e w4 ⟨rfl, hb4⟩
  have h4 := h3.out.below hb4
  clear h3 hb4
  have hlk : Hid (Calls _ _ _ _ (fun e w' => e = .returned (.int .i64 1) ∧ w4 = w')) := hide (hold_lock h4 (u := 2) rfl)
  have hds : Hid (Calls _ _ _ _ (Does _ (.agg #[.int .i64 1, .int .i64 3]))) := hide (hold_desc h4 (u := 2) rfl)
  clear h4
  go_wp2_with fail
  refine hlk.out.mono ?_
  rintro e w5 ⟨rfl, rfl⟩
  clear hlk
  go_wp2_with fail
  refine hds.out.mono ?_
  rintro e w5 ⟨he, h5⟩
  have he' : e = .returned (.agg #[.int .i64 1, .int .i64 3]) := he
  subst he'
  clear he
  have hfd : ∀ w : World, (Instr.field 83 (.agg #[.int .i64 1, .int .i64 3]) 0).run Tryz.prog w = .ok (.int .i64 1) w := fun _ => by kernel_rfl
  obtain ⟨tv, wv, hb⟩ := h5.memHdr (t := 1) rfl
  have hho : Hid (Calls _ _ _ _ (fun e w' => e = .returned (.int .i64 0) ∧ w5 = w')) := hide (memR_holder h5 (t := 1) rfl 1 (by decide) (by decide))
  have hdr := hide (hold_drop h5 (t := 1) (u := 2) rfl rfl (by decide) ⟨by show (2 : Nat) ≤ 3; decide, by show (0 : Int) ≤ 7 ∧ (7 : Int) ≤ 4294967295; decide, by show (0 : Int) ≤ 1 ∧ (1 : Int) ≤ 4; decide, fun _ => by show (1 : Int) ≤ 1; decide, by show (0 : Nat) ≤ 1000; decide, by show (0 : Int) ≤ 0; decide, by show (0 : Int) ≤ 18446744073709551615; decide⟩ rfl)
  dsimp only [memNew] at hb
  clear h5 hds
  go_wp2_with fail
  refine hho.out.mono ?_
  rintro e w6 ⟨rfl, rfl⟩
  clear hho
  go_wp2_with fail
  refine hdr.out.mono ?_
  rintro e w6 ⟨rfl, h6⟩
  obtain ⟨tv, wv, hb6⟩ := h6.memHdr (t := 1) rfl
  have hho : Hid (Calls _ _ _ _ (fun e w' => e = .returned (.int .i64 (-1)) ∧ w6 = w')) := hide (memR_holder h6 (t := 1) rfl 1 (by decide) (by decide))
  have hb7 : blk w6 b = some (.cells #[.pointer (some ⟨cb, 0, none⟩), .pointer (some ⟨lb, 0, none⟩), .pointer (some ⟨ab, 0, none⟩), .int .i64 ((1 : Nat) : Int), tv, wv] 36 (0, 0)) := hb6
  have hbel := h6.done
  clear h6 hdr hb hb6
  go_wp2_with fail
  refine hho.out.mono ?_
  rintro e w7 ⟨rfl, rfl⟩
  go_wp2
  go_ret
  exact ⟨rfl, hbel⟩
end Go.Proofs.YtcgfknpobifecaaGreat

namespace Go.Proofs.YtcgfknpobifecaaGreat
open Go.RowKit

def kA : ByteArray := ⟨#[97]⟩
def kB : ByteArray := ⟨#[98]⟩
def vX : ByteArray := ⟨#[120]⟩
/-- The memory ahead of the first put, and behind it. -/
def m11 (b cb lb ab : Nat) (k : Nat) : MemS := if k = 0 then memNew b cb lb ab 1 1 else { memNew b cb lb ab 1 1 with cells := [1, 0, 0, 1], ss := [taken slot0 ⟨kA, vX, sumOf kA, 0⟩] }
theorem law11_run0 (b cb lb ab : Nat) : ∃ n s, finM (frReady putReady) (frStep putStep) 50 0 (m11 b cb lb ab 0, put0 0 kA vX) = (n, true, m11 b cb lb ab 1, s) ∧ s.err = 0 ∧ wFound s = false := ⟨(finM (frReady putReady) (frStep putStep) 50 0 (m11 b cb lb ab 0, put0 0 kA vX)).1, (finM (frReady putReady) (frStep putStep) 50 0 (m11 b cb lb ab 0, put0 0 kA vX)).2.2.2, by kernel_rfl, by kernel_rfl, by kernel_rfl⟩
theorem law11_run1 (b cb lb ab : Nat) : ∃ n s, finM (frReady putReady) (frStep putStep) 50 0 (m11 b cb lb ab 1, put0 0 kB vX) = (n, true, m11 b cb lb ab 1, s) ∧ s.err = 4 ∧ wFound s = false := ⟨(finM (frReady putReady) (frStep putStep) 50 0 (m11 b cb lb ab 1, put0 0 kB vX)).1, (finM (frReady putReady) (frStep putStep) 50 0 (m11 b cb lb ab 1, put0 0 kB vX)).2.2.2, by kernel_rfl, by kernel_rfl, by kernel_rfl⟩
theorem law11_run2 (b cb lb ab : Nat) : ∃ n s, finM (frReady putReady) (frStep putStep) 50 0 (m11 b cb lb ab 1, put0 0 kA vX) = (n, true, m11 b cb lb ab 1, s) ∧ s.err = 4 ∧ wFound s = true := ⟨(finM (frReady putReady) (frStep putStep) 50 0 (m11 b cb lb ab 1, put0 0 kA vX)).1, (finM (frReady putReady) (frStep putStep) 50 0 (m11 b cb lb ab 1, put0 0 kA vX)).2.2.2, by kernel_rfl, by kernel_rfl, by kernel_rfl⟩
theorem law11_run (b cb lb ab k : Nat) (hk : k < 3) : ∃ ky n s, ky.size ≤ 9223372036854775807 ∧ (#[.string ⟨#[97]⟩, .string ⟨#[98]⟩, .string ⟨#[97]⟩] : Array Value)[k]? = some (.string ky) ∧
    finM (frReady putReady) (frStep putStep) 50 0 (m11 b cb lb ab k, put0 0 ky vX) = (n, true, m11 b cb lb ab (k + 1), s) ∧ s.err = (if k = 0 then 0 else 4) ∧ wFound s = decide (k = 2) := by
  match k, hk with
  | 0, _ =>
    obtain ⟨n, s, h1, h2, h3⟩ := law11_run0 b cb lb ab
    exact ⟨kA, n, s, by decide, rfl, h1, h2, h3⟩
  | 1, _ =>
    obtain ⟨n, s, h1, h2, h3⟩ := law11_run1 b cb lb ab
    exact ⟨kB, n, s, by decide, rfl, h1, h2, h3⟩
  | 2, _ =>
    obtain ⟨n, s, h1, h2, h3⟩ := law11_run2 b cb lb ab
    exact ⟨kA, n, s, by decide, rfl, h1, h2, h3⟩
theorem m11_ok (b cb lb ab k : Nat) : (m11 b cb lb ab k).gen ≤ 1000000 ∧ GenOk (m11 b cb lb ab k).ss (m11 b cb lb ab k).gen ∧ (m11 b cb lb ab k).ss.length ≤ 1024 ∧ (m11 b cb lb ab k).waiting.length ≤ 1000000 ∧ (m11 b cb lb ab k).b = b := by
  unfold m11
  split
  · exact ⟨Nat.zero_le _, GenOk.start 1, show 1 ≤ 1024 by decide, Nat.zero_le _, rfl⟩
  · exact ⟨Nat.zero_le _, (GenOk.start 1).take 0 ⟨kA, vX, sumOf kA, 0⟩, show 1 ≤ 1024 by decide, Nat.zero_le _, rfl⟩
def Rel11 (w : World) (b cb lb ab g : Nat) (C : Array Value) (k : Nat) (wr : World) : Prop := R [BaseK w, MemK (m11 b cb lb ab k), StK g C 9] wr

set_option maxRecDepth 100000 in
set_option maxHeartbeats 3200000 in
theorem law11_awake (w : World) : Calls Tryz.prog 6 #[] w fun e w' => e = .returned (.bool true) ∧ Below w.heap.size w w' := by
  have hn := hide (law05_made (R.start w) 1 1 (by decide) (by decide) (by decide) (by decide))
  go_enter Tryz.func6, Tryz.ntmps6
  go_wp2_with fail
  refine hn.out.mono ?_
  rintro e w1 ⟨b, cb, lb, ab, rfl, h1⟩
  clear hn
  have hM : Rel11 w b cb lb ab w1.heap.size #[.string ⟨#[97]⟩, .string ⟨#[98]⟩, .string ⟨#[97]⟩] 0 (w1.alloc (.cells #[.string ⟨#[97]⟩, .string ⟨#[98]⟩, .string ⟨#[97]⟩] 9)) := h1.new #[.string ⟨#[97]⟩, .string ⟨#[98]⟩, .string ⟨#[97]⟩] 9
  clear h1
  go_wp2_with fail
  generalize w1.alloc (.cells #[.string ⟨#[97]⟩, .string ⟨#[98]⟩, .string ⟨#[97]⟩] 9) = w2 at *
  generalize w1.heap.size = g at *
  obtain ⟨C, hC⟩ : ∃ C : Array Value, C = #[.string ⟨#[97]⟩, .string ⟨#[98]⟩, .string ⟨#[97]⟩] := ⟨_, rfl⟩
  rw [← hC] at hM
  replace hC := hide hC
  go_loopw [12] (fun i wr => ∃ k : Nat, k ≤ 3 ∧ i = .int .i64 k ∧ Rel11 w b cb lb ab g C k wr) (fun i _ => 3 - (intOf i).toNat)
  case atStart => exact ⟨0, Nat.zero_le _, rfl, hM⟩
  case round =>
    obtain ⟨k, hk, rfl, hR⟩ := hrel
    clear hM
    by_cases hlt : k < 3
    · have hR' := hR
      unfold Rel11 at hR'
      have hbs := hR'.st (t := 2) rfl
      obtain ⟨ky, n, s, hkl, hix, hrun, herr, hfd⟩ := law11_run b cb lb ab k hlt
      rw [← hC.out] at hix
      obtain ⟨o1, o2, o3, o4, o5⟩ := m11_ok b cb lb ab k
      have hnw := hide (put_new hR' 0 ky vX hkl)
      have hki : (k : Int) < 3 := by omega
      replace hrun := hide hrun
      replace herr := hide herr
      replace hfd := hide hfd
      replace o2 := hide o2
      clear hR hR'
      go_wp2_with fail
      refine hnw.out.mono ?_
      rintro e w3 ⟨b3, rfl, h3⟩
      have hfin := fin_R putK h3 (t := 1) (u := 3) rfl rfl (by decide) (PutOk.start _ 0 ky vX (by decide) hkl o1 o2.out o3 o4) 50 (by decide) hrun.out
      rw [o5] at hfin
      replace hfin := hide hfin
      clear hnw h3 hbs
      go_wp2_with fail
      refine hfin.out.mono ?_
      rintro e w4 ⟨rfl, h4⟩
      have hpe := hide (put_err h4 (u := 3) rfl)
      have hph := hide (put_had h4 (u := 3) rfl)
      rw [herr.out] at hpe
      rw [hfd.out] at hph
      have hpr : ∀ w', R ((([BaseK w, MemK (m11 b cb lb ab k), StK g C 9] ++ [PutK b3 (put0 0 ky vX)]).set 1 (MemK (m11 b cb lb ab (k + 1)))).set 3 (PutK b3 s)) w' → Rel11 w b cb lb ab g C (k + 1) w' := fun w' h => R.left (m := [PutK b3 s]) h
      replace hpr := hide hpr
      clear hfin h4
      rcases (by omega : k = 0 ∨ k = 1 ∨ k = 2) with rfl | rfl | rfl
      all_goals
        simp only [if_true, show ¬ (1 : Nat) = 0 by decide, show ¬ (2 : Nat) = 0 by decide, if_false] at hpe
        simp only [show decide ((0 : Nat) = 2) = false by decide, show decide ((1 : Nat) = 2) = false by decide] at hph
        go_wp2_with fail
        refine hpe.out.mono ?_
        rintro e w5 ⟨rfl, rfl⟩
        go_wp2_with fail
        refine hpe.out.mono ?_
        rintro e w5 ⟨rfl, rfl⟩
        go_wp2_with fail
        refine hph.out.mono ?_
        rintro e w5 ⟨rfl, h5⟩
        have h6 := hpr.out _ h5
        clear h5 hpe hph
        go_wp2_with fail
        exact ⟨⟨_, by omega, by go_num, h6⟩, by simp [intOf]⟩
    · obtain rfl : k = 3 := by omega
      replace hR := hide hR
      go_wp2_with fail
      refine (law08_awake _).mono ?_
      rintro e w3 ⟨rfl, hb3⟩
      have h3 := hide (R.below hR.out hb3)
      go_wp2_with fail
      refine (law10_awake _).mono ?_
      rintro e w4 ⟨rfl, hb4⟩
      have hbel := (h3.out.below hb4).done
      go_wp2
      go_ret
      exact ⟨rfl, hbel⟩
end Go.Proofs.YtcgfknpobifecaaGreat

namespace Go.Proofs.YtcgfknpobifecaaGreat
open Go.RowKit

theorem memR_held {l : List KObj} {w : World} {t : Nat} {m : MemS} (h : R l w) (ht : l[t]? = some (MemK m)) (u : Int) :
    Calls Tryz.prog 22 #[.pointer (some ⟨m.lb, 0, none⟩), .int .i64 u] w fun e w' => ∃ a c, e = .returned (.slice a (heldBy m.locks u m.locks.length).length c) ∧ R l w' := by
  obtain ⟨o, hr, hA⟩ := h.get ht
  have hA : MemAt m o w t := hA
  have htl := lt_of_get ht
  refine (locks_held hA.2.2.1 (16 * l.length) (by omega) (by rw [hA.1.locks]; decide) u).mono ?_
  rintro e w' ⟨o', v, rfl, hs, he⟩
  obtain ⟨a, c, rfl⟩ := hs.value
  exact ⟨a, c, rfl, (hr.add (q := SlK 3 1 (.slice a _ c) _ _) he (fun x hx => by omega) hs).left⟩
theorem held_none (u : Int) (hu : 0 ≤ u) : (heldBy (List.replicate 6 (-1)) u 6).length = 0 := by
  have h : heldBy (List.replicate 6 (-1)) u 6 = [] := by
    unfold heldBy
    rw [List.map_eq_nil_iff, List.filter_eq_nil_iff]
    intro i hi
    have hi := List.mem_range.1 hi
    rw [decide_eq_true_eq, List.getD_eq_getElem?_getD, List.getElem?_replicate, if_pos hi]
    simp
    omega
  rw [h]
  rfl
theorem spare_iff (ss : List Slot) : (freeTo ss ss.length).length = 0 ↔ freeAt ss = none := by
  constructor
  · intro h
    cases hf : freeAt ss with
    | none => rfl
    | some i =>
      obtain ⟨h1, h2, _⟩ := freeAt_some hf
      have : i ∈ freeTo ss ss.length := (mem_freeTo ss ss.length i).2 ⟨h1, h2⟩
      rw [List.length_eq_zero_iff.1 h] at this
      cases this
  · intro hf
    rw [List.length_eq_zero_iff]
    apply List.eq_nil_iff_forall_not_mem.2
    intro i hi
    obtain ⟨h1, h2⟩ := (mem_freeTo ss ss.length i).1 hi
    rw [freeAt_none hf i h1] at h2
    cases h2
theorem MapM.spare {m : MemS} {n base : Nat} {chs : Nat → List Int} {want : List Pk} (h : MapM m n base chs want) : (freeTo m.ss m.ss.length).length + want.length + m.waiting.length = m.ss.length := by
  have h1 := h.pool.count
  have h2 := h.count
  rw [List.length_append] at h1
  omega
theorem R.movePairs {l : List KObj} {w : World} {u : Nat} {v : Value} {ps : List Pk} (h : R (l ++ [PairsK v ps]) w) (hu : u < l.length) : R (l.set u (PairsK v ps)) w :=
  h.join (parts := [PairsK v ps]) hu id fun o o' hk hm => SlAt.re (hk 0 _ rfl) fun k hk2 => by simpa using hm k 0 (by simp) hk2
end Go.Proofs.YtcgfknpobifecaaGreat
