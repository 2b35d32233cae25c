/- quietuslaw06: QsbrSteps. No condition. -/
import Derived.Test.YthfnbklloahdkaaQu
import Derived.Test.YthfnbklloahdkaaRl
import Derived.Deep.DeepCutAuto
import Derived.Deep.CutBlock
namespace Go.Proofs.Ythfnbklloahdkaa
open Go.RowKit

section
variable {l : List KObj} {w : World} {t u b : Nat} {m : MemS} {s : WaitS}
set_option maxHeartbeats 400000 in
theorem ref06_ready (h : R l w) {cv : Value} (hc : l[u]? = some (SlK 51 1 cv m.cells.length (m.cells.map (Value.int .u64)))) (hok : WaitOk m s) (hm : MemOk m) :
    Calls Try.prog 81 #[.agg #[.int .i64 s.at_, .int .i64 s.next, .int .u64 s.period], cv, .int .i64 (m.locks.getD 0 0)] w (Does l (.bool (waitReady m s))) := by
  have h1 := hide (h.alloc (.cells #[.int .i64 s.at_, .int .i64 s.next, .int .u64 s.period] 143))
  obtain ⟨⟨ca, cc, rfl⟩, _⟩ := h.slVal hc
  rcases (by have := hok.at_; omega : s.at_ = 0 ∨ s.at_ = 2 ∨ (s.at_ = 1 ∨ s.at_ = 3)) with h0 | h0 | h0
  · have e : waitReady m s = decide (m.locks.getD 0 0 < 0) := by rw [waitReady, if_pos h0]
    rw [e]
    generalize m.locks.getD 0 0 = x at *
    rw [h0] at h1 ⊢
    clear hok e h hc
    go_enter Try.func81, Try.ntmps81
    go_wp2
    go_ret
    exact ⟨rfl, h1.out⟩
  · have e : waitReady m s = waitPassed m s := by rw [waitReady, if_neg (by omega), if_pos h0]
    have hn := hok.next h0
    have hl := hm.cells3
    have hw := hm.work
    rw [e]
    obtain ⟨g, cap, cur, hv, hg, hcap, hle, hcur⟩ := h.intRow (i := 2 + s.next) hc (by omega)
    simp at hv
    obtain ⟨rfl, rfl⟩ := hv
    have hgl := lt_of_blk hg
    have hb := hm.cell (2 + s.next)
    have hp := hok.period
    unfold waitPassed inCell
    generalize m.cells.getD (2 + s.next) 0 = v at *
    generalize m.locks.getD 0 0 = x at *
    obtain ⟨hb0, hb1⟩ := hb
    obtain ⟨hp0, hp1⟩ := hp
    rw [h0] at h1 ⊢
    clear hok e h hc hm
    by_cases hv0 : v = 0
    · subst hv0
      go_enter Try.func81, Try.ntmps81
      go_wp2
      go_ret
      exact ⟨by simp, h1.out⟩
    · have hv2 : (v == 0) = false := by simp [hv0]
      by_cases hvp : s.period ≤ v
      · go_enter Try.func81, Try.ntmps81
        go_wp2
        go_ret
        exact ⟨by simp [hvp], h1.out⟩
      · go_enter Try.func81, Try.ntmps81
        go_wp2
        go_ret
        exact ⟨by simp [hvp, hv0], h1.out⟩
  · have e : waitReady m s = true := by rw [waitReady, if_neg (by omega), if_neg (by omega)]
    rw [e]
    generalize m.locks.getD 0 0 = x at *
    clear hok e h hc
    rcases h0 with h0 | h0
    all_goals
      rw [h0] at h1 ⊢
      go_enter Try.func81, Try.ntmps81
      go_wp2
      go_ret
      exact ⟨rfl, h1.out⟩
end

theorem getD_set0 (xs : List Int) (i : Nat) (v : Int) (h : i < xs.length) : (xs.set i v).getD i 0 = v := by simp [h]
/-- The objects of QsbrSteps. -/
abbrev l06 (w : World) (m : MemS) (cv : Value) (s : WaitS) (sb wb : Nat) : List KObj :=
  [BaseK w, MemK m, SlK 51 1 cv m.cells.length (m.cells.map (Value.int .u64)), WaitK sb s, StK wb #[.int .i64 s.at_, .int .i64 s.next, .int .u64 s.period] 143]
/-- What the loop of QsbrSteps keeps. -/
structure Mem06 (n b cb lb sb wb : Nat) (w : World) (L : Int) (m : MemS) (s : WaitS) (cv : Value) (wr : World) : Prop where
  r : R (l06 w m cv s sb wb) wr
  ok : WaitOk m s
  len : m.cells.length = n + 3
  wk : m.workers = n
  me : s.worker = 0
  lock0 : m.locks.getD 0 0 = L
  lock : L = if s.at_ = 0 then -1 else 0
  mb : m.b = b
  mcb : m.cb = cb
  mlb : m.lb = lb

set_option maxRecDepth 100000 in
set_option maxHeartbeats 4000000 in
theorem law06_steps (x0 : Int) (hx0 : 0 ≤ x0) (hx1 : x0 ≤ 255) (v : Value) (acts : List Int) (w : World) (hv : FrAt w w.heap.size 1 v (acts.map fun x => [Value.int .u8 x])) (hin : ∀ x ∈ acts, 0 ≤ x ∧ x ≤ 255) (hl : acts.length ≤ 60) :
    Calls Try.prog 13 #[.int .u8 x0, v] w fun e w' => e = .returned (.bool true) ∧ Below w.heap.size w w' := by
  obtain ⟨a, cap, rfl, hlen, _⟩ := id hv
  rw [List.length_map] at *
  replace hv := hide hv
  obtain ⟨n, hn⟩ : ∃ n : Nat, x0 % 8 + 1 = n := ⟨(x0 % 8 + 1).toNat, by omega⟩
  have hn1 : 1 ≤ n := by omega
  have hn8 : n ≤ 8 := by omega
  have hmd := hide (law05_made (R.start w) 1 n (by decide) (by decide) hn1 hn8)
  obtain ⟨i0, hi, hz0, hz1, hz2⟩ := info_parts u64_info
  have hmk := fun W => run_make (P := Try.prog) W 50 51 i0 (.int .u64 0) Try.underlying50 hi hz0 .i64 .i64 ((n : Int) + 3) ((n : Int) + 3) (by omega) (Int.le_refl _) (by rw [hz2]; omega) (by omega)
  rw [hz1] at hmk
  clear hi hz0 hz1 hz2
  go_enter Try.func13, Try.ntmps13
  go_wp2_with fail
  refine hmd.out.mono ?_
  rintro e w1 ⟨b, cb, lb, ab, rfl, R1⟩
  have hcur : ((madeCells #[Value.int IntKind.u64 0] (n + 3)).setIfInBounds 0 (Value.int IntKind.u64 1)).toList = ((1 : Int) :: List.replicate (n + 2) 0).map (Value.int .u64) := by
    have := madeCells_one (.int .u64 0) rfl (n + 3)
    rw [show (Value.int IntKind.u64 0).cells = #[Value.int IntKind.u64 0] from rfl] at this
    rw [Array.toList_setIfInBounds, this, List.replicate_succ, List.set_cons_zero, List.map_cons, List.map_replicate]
  have hcell : (madeCells #[Value.int IntKind.u64 0] (n + 3))[0]? = some (.int .u64 0) := by
    have := madeCells_one (.int .u64 0) rfl (n + 3)
    rw [show (Value.int IntKind.u64 0).cells = #[Value.int IntKind.u64 0] from rfl] at this
    rw [← Array.getElem?_toList, this]
    simp
  have R2 := R1.made (T := 51) ((madeCells #[Value.int IntKind.u64 0] (n + 3)).setIfInBounds 0 (Value.int IntKind.u64 1)) (n + 3) 1 (by unfold maxLen; omega) (by simp [madeCells])
  rw [hcur] at R2
  have hsy := hide (qsbr_sync R2 0)
  replace hcur := hide hcur
  clear hmd R1 R2
  go_wp2_with fail
  refine hsy.out.mono ?_
  rintro e w3 ⟨sb, rfl, R3⟩
  have R4 := R3.new #[.int .i64 0, .int .i64 0, .int .u64 0] 143
  have hM : Mem06 n b cb lb sb w3.heap.size w (-1) (memNew b cb lb ab 1 n) ⟨0, 0, 0, 0⟩ (.slice (some ⟨w1.heap.size, 0, none⟩) (n + 3) (n + 3)) (w3.alloc (.cells #[.int .i64 0, .int .i64 0, .int .u64 0] 143)) := by
    refine ⟨?_, ⟨by decide, fun h => by simp at h, fun _ => rfl, ⟨by decide, by decide⟩, by decide, by decide⟩, by simp [memNew], rfl, rfl, rfl, rfl, rfl, rfl, rfl⟩
    have e1 : (memNew b cb lb ab 1 n).cells.length = n + 3 := by simp [memNew]
    simp only [l06, e1]
    exact R4
  clear R3 R4 hsy hcell hcur hmk
  go_wp2_with fail
  generalize w3.heap.size = wb at *
  go_loopw [10, 49] (fun hv i wr => ∃ (k : Nat) (L : Int) (m : MemS) (s : WaitS), k ≤ acts.length ∧ i = .int .i64 k ∧ hv = .int .i64 L ∧ Mem06 n b cb lb sb wb w L m s (.slice (some ⟨w1.heap.size, 0, none⟩) (n + 3) (n + 3)) wr)
    (fun _ i _ => acts.length - (intOf i).toNat)
  case atStart => exact ⟨0, _, _, _, Nat.zero_le _, rfl, rfl, hM⟩
  case round =>
    obtain ⟨k, L, m, s, hk, rfl, rfl, M⟩ := hrel
    clear hM
    have hbel : Below w.heap.size w wr := M.r.done
    have hst := M.r.st (t := 4) rfl
    have hmo := M.r.memOk (t := 1) rfl
    by_cases hlt : k < acts.length
    · obtain ⟨_, _, hv2, _, hr⟩ := hv.out.below hbel
      obtain ⟨vb, voff, ha, hvb, hc0⟩ := hr k (by simpa using hlt)
      simp at hv2
      obtain ⟨rfl, rfl⟩ := hv2
      subst ha
      have hget : (acts.map fun x => [Value.int .u8 x]).getD k [] = [Value.int .u8 (acts.getD k 0)] := by simp [hlt]
      rw [hget] at hc0
      have hxin := hin (acts.getD k 0) (by simp [hlt])
      generalize acts.getD k 0 = x at *
      obtain ⟨hx2, hx3⟩ := hxin
      obtain ⟨xv, e0, c0⟩ := hc0 0 (by decide)
      simp at e0
      subst e0
      simp only [Nat.mul_one, Nat.add_zero] at c0
      clear hr hget
      have hrr := ref06_ready M.r (u := 2) rfl M.ok hmo
      rw [M.lock0] at hrr
      replace hrr := hide hrr
      have hwr := hide (fun (w' : World) (hR : R (l06 w m (.slice (some ⟨w1.heap.size, 0, none⟩) (n + 3) (n + 3)) s sb wb) w') => wait_ready (w := w') hR (t := 1) (u := 3) (m := m) (b := sb) (s := s) rfl rfl M.ok)
      rw [M.mb] at hwr
      go_wp2_with fail
      refine hrr.out.mono ?_
      rintro e w4 ⟨rfl, h4⟩
      have hwr4 := hide (hwr.out _ h4)
      clear hrr hst
      go_wp2_with fail
      refine hwr4.out.mono ?_
      rintro e w5 ⟨rfl, h5⟩
      have hne : (waitReady m s != waitReady m s) = false := by simp
      clear hwr hwr4 h4 c0
      by_cases hx : x < 128
      · have hq0 : 0 ≤ x % (n : Int) := Int.emod_nonneg _ (by omega)
        have hq1 : x % (n : Int) < n := Int.emod_lt_of_pos _ (by omega)
        obtain ⟨q, hq⟩ := Int.eq_ofNat_of_zero_le hq0
        have hqn : q < n := by omega
        have htm : x.tmod (n : Int) = (q : Int) := by rw [Int.tmod_eq_emod_of_nonneg hx2]; exact hq
        obtain ⟨tv, wv, hmh⟩ := h5.memHdr (t := 1) rfl
        rw [M.mb, M.mcb] at hmh
        obtain ⟨g, cap2, cur, hrv, hg, hcap2, hle2, hcu⟩ := h5.intRow (t := 2) (i := 2 + q) rfl (by rw [M.len]; omega)
        rw [M.len] at hrv hle2
        simp at hrv
        obtain ⟨rfl, rfl⟩ := hrv
        have hne1 := ne_of_type hmh hg (by decide)
        clear hq0 hq1 hq
        have hp5 := h5.putInt (t := 2) (n := n + 3) (g := w1.heap.size) (cap := n + 3) (q := .u64) (xs := m.cells) (by rw [← M.len]; rfl) (2 + q) (x / 8 % 4) (by omega)
        have hst := hide (memR_store hp5 (t := 1) rfl (2 + (q : Int)) (x / 8 % 4) (by omega) (by rw [M.len]; omega) ⟨by omega, by omega⟩)
        rw [M.mcb, show (2 + (q : Int)).toNat = 2 + q by omega] at hst
        clear hp5 h5
        go_wp2_with fail
        refine hst.out.mono ?_
        rintro e w6 ⟨rfl, h6⟩
        have M6 : Mem06 n b cb lb sb wb w L { m with cells := m.cells.set (2 + q) (x / 8 % 4) } s (.slice (some ⟨w1.heap.size, 0, none⟩) (n + 3) (n + 3)) w6 := by
          refine ⟨?_, ⟨M.ok.at_, M.ok.next, M.ok.early, M.ok.small, M.ok.period⟩, by simpa using M.len, M.wk, M.me, M.lock0, M.lock, M.mb, M.mcb, M.mlb⟩
          have hlen := M.len
          simp only [l06, List.length_set, hlen]
          rw [← M.mcb] at h6
          exact h6
        clear h6 hst M hmh hg hcu
        go_wp2_with fail
        refine ⟨⟨k + 1, L, _, s, by omega, by go_num, rfl, M6⟩, by simp [intOf]; omega⟩
      · cases hrd : waitReady m s
        · rw [hrd] at hne
          go_wp2_with fail
          exact ⟨⟨k + 1, L, m, s, by omega, by go_num, rfl, ⟨h5, M.ok, M.len, M.wk, M.me, M.lock0, M.lock, M.mb, M.mcb, M.mlb⟩⟩, by simp [intOf]; omega⟩
        · rw [hrd] at hne
          have hws := hide (wait_step h5 (t := 1) (u := 3) (m := m) (b := sb) (s := s) rfl rfl (by decide) M.ok)
          rw [M.mb] at hws
          rcases (by have := M.ok.at_; omega : s.at_ = 0 ∨ s.at_ = 1 ∨ s.at_ = 2 ∨ s.at_ = 3) with h0 | h0 | h0 | h0
          · have hlk := M.lock
            rw [if_pos h0] at hlk
            have hlk2 := M.lock0
            rw [hlk] at hlk2
            have e : waitStep m s = ({ m with locks := m.locks.set 0 0 }, { s with at_ := 1 }, false) := by rw [waitStep, if_pos h0, if_pos hlk2, M.me]; rfl
            rw [e] at hws
            clear h5 e
            go_wp2_with fail
            refine hws.out.mono ?_
            rintro e w6 ⟨rfl, h6⟩
            have hst := h6.st (t := 4) rfl
            rw [h0] at hst
            have hp6 := h6.put (t := 4) rfl 0 (.int .i64 1)
            have M6 : Mem06 n b cb lb sb wb w 0 { m with locks := m.locks.set 0 0 } { s with at_ := 1 } (.slice (some ⟨w1.heap.size, 0, none⟩) (n + 3) (n + 3)) (w6.setCell ⟨wb, 0, none⟩ (.int .i64 1)) := by
              refine ⟨?_, ⟨by show (1 : Nat) ≤ 3; decide, fun h => by simp at h, fun _ => M.ok.early (by omega), M.ok.small, M.ok.period⟩, M.len, M.wk, M.me, ?_, rfl, M.mb, M.mcb, M.mlb⟩
              · rw [h0] at hp6
                exact hp6
              · have := hmo.locks
                rw [getD_set0 _ _ _ (by omega)]
            obtain ⟨tv, wv, hmh⟩ := h6.memHdr (t := 1) rfl
            dsimp only at hmh
            rw [M.mb, M.mcb, M.mlb] at hmh
            obtain ⟨tv2, wv2, hmh2⟩ := M6.r.memHdr (t := 1) rfl
            have hld := hide (memR_load M6.r (t := 1) rfl 0 (by decide) (by show (0 : Int) < (m.cells).length; rw [M.len]; omega))
            have hho := hide (memR_holder M6.r (t := 1) rfl 0 (by decide) (by decide))
            obtain ⟨g, cap2, cur, hrv, hg, hcap2, hle2, hcu⟩ := M6.r.intRow (t := 2) (i := 0) rfl (by show 0 < (m.cells).length; rw [M.len]; omega)
            dsimp only at hmh2 hld hho hrv hle2 hcu
            rw [M6.len] at hrv hle2
            simp at hrv
            obtain ⟨rfl, rfl⟩ := hrv
            rw [M.mb, M.mcb, M.mlb] at hmh2
            rw [M.mcb, show (0 : Int).toNat = 0 from rfl] at hld
            rw [M.mlb, show (0 : Int).toNat = 0 from rfl, M6.lock0] at hho
            generalize hc0 : (m.cells).getD 0 0 = c at *
            have hcc : (c != c) = false := by simp
            clear hws M hc0
            replace M6 := hide M6
            clear hp6 h6 hlk hlk2
            go_wp2_with fail
            refine hld.out.mono ?_
            rintro e w7 ⟨rfl, rfl⟩
            go_wp2_with fail
            refine hho.out.mono ?_
            rintro e w7 ⟨rfl, rfl⟩
            go_wp2_with fail
            exact ⟨⟨k + 1, _, _, _, by omega, by go_num, rfl, M6.out⟩, by simp [intOf]; omega⟩
          · have hlk := M.lock
            rw [if_neg (by omega)] at hlk
            subst hlk
            have e : waitStep m s = ({ m with cells := m.cells.set 0 (IntKind.u64.wrap (m.cells.getD 0 0 + 1)) }, { s with at_ := 2, period := IntKind.u64.wrap (m.cells.getD 0 0 + 1) }, false) := by rw [waitStep, if_neg (by omega), if_pos h0]
            rw [e] at hws
            have hsn := M.ok.early (by omega)
            have hwv := u64_wrap (m.cells.getD 0 0 + 1)
            generalize hV : IntKind.u64.wrap (m.cells.getD 0 0 + 1) = V at *
            clear h5 e
            go_wp2_with fail
            refine hws.out.mono ?_
            rintro e w6 ⟨rfl, h6⟩
            have hst := h6.st (t := 4) rfl
            rw [h0] at hst
            have hlen0 : m.cells.length = n + 3 := M.len
            obtain ⟨g, cap3, cur3, hrv3, hg3, hcap3, hle3, hcu3⟩ := h6.intRow (t := 2) (i := 0) rfl (by show 0 < m.cells.length; omega)
            rw [hlen0] at hrv3 hle3
            simp only [Value.slice.injEq, Option.some.injEq, Addr.mk.injEq, and_true, true_and] at hrv3
            obtain ⟨rfl, rfl⟩ := hrv3
            have hne3 := ne_of_type hst hg3 (by decide)
            generalize hc00 : m.cells.getD 0 0 = c0v at *
            replace hc00 := hide hc00
            have hpA := h6.putInt (t := 2) (n := n + 3) (g := w1.heap.size) (cap := n + 3) (q := .u64) (xs := m.cells) (by rw [← hlen0]; rfl) 0 V (by omega)
            clear h6 hws
            go_upto_region 31 with fail
            clear hst hg3 hcu3 hne3 hcap3 hle3
            have hst := hpA.st (t := 4) rfl
            rw [h0] at hst
            obtain ⟨g, cap3, cur3, hrv3, hg3, hcap3, hle3, hcu3⟩ := hpA.intRow (t := 2) (n := n + 3) (q := .u64) (xs := m.cells.set 0 V) (i := 0) rfl (by omega)
            simp only [Value.slice.injEq, Option.some.injEq, Addr.mk.injEq, and_true, true_and] at hrv3
            obtain ⟨rfl, rfl⟩ := hrv3
            rw [getD_set0 _ _ _ (by omega)] at hcu3
            have hne3 := ne_of_type hst hg3 (by decide)
            have hne4 := hne3.symm
            generalize w6.setCell ⟨w1.heap.size, 0, none⟩ (.int .u64 V) = w8 at *
            have hp6 := (hpA.put (t := 4) rfl 2 (.int .u64 V)).put (t := 4) rfl 0 (.int .i64 2)
            have M6 : Mem06 n b cb lb sb wb w 0 { m with cells := m.cells.set 0 V } { s with at_ := 2, period := V } (.slice (some ⟨w1.heap.size, 0, none⟩) (n + 3) (n + 3)) ((w8.setCell ⟨wb, 2, none⟩ (.int .u64 V)).setCell ⟨wb, 0, none⟩ (.int .i64 2)) := by
              refine ⟨?_, ⟨by show (2 : Nat) ≤ 3; decide, fun h => by show s.next < m.workers; rw [M.wk]; omega, fun h => by simp at h, M.ok.small, hwv⟩, by simpa using hlen0, M.wk, M.me, M.lock0, rfl, M.mb, M.mcb, M.mlb⟩
              rw [h0] at hp6
              simp only [l06, List.length_set, hlen0]
              exact hp6
            obtain ⟨tv2, wv2, hmh2⟩ := M6.r.memHdr (t := 1) rfl
            have hld := hide (memR_load M6.r (t := 1) rfl 0 (by decide) (by show (0 : Int) < (m.cells.set 0 V).length; simp; omega))
            have hho := hide (memR_holder M6.r (t := 1) rfl 0 (by decide) (by decide))
            dsimp only at hmh2 hld hho
            rw [M.mb, M.mcb, M.mlb] at hmh2
            rw [M.mcb, show (0 : Int).toNat = 0 from rfl, getD_set0 _ _ _ (by omega)] at hld
            rw [M.mlb, show (0 : Int).toNat = 0 from rfl, M6.lock0] at hho
            have hcc : (V != V) = false := by simp
            clear M hp6 hpA
            replace M6 := hide M6
            go_wp2_with fail
            refine hld.out.mono ?_
            rintro e w7 ⟨rfl, rfl⟩
            go_wp2_with fail
            refine hho.out.mono ?_
            rintro e w7 ⟨rfl, rfl⟩
            go_wp2_with fail
            exact ⟨⟨k + 1, _, _, _, by omega, by go_num, rfl, M6.out⟩, by simp [intOf]; omega⟩
          · have hlk := M.lock
            rw [if_neg (by omega)] at hlk
            subst hlk
            have hpass : waitPassed m s = true := by rw [waitReady, if_neg (by omega), if_pos h0] at hrd; exact hrd
            have e : waitStep m s = (m, { s with next := s.next + 1, at_ := if m.workers ≤ s.next + 1 then 3 else 2 }, false) := by rw [waitStep, if_neg (by omega), if_neg (by omega), if_pos h0, hpass]; rfl
            rw [e] at hws
            have hsn := M.ok.next h0
            rw [M.wk] at hsn hws
            clear h5 e hpass
            have hlen0 : m.cells.length = n + 3 := M.len
            by_cases hlast : n ≤ s.next + 1
            · rw [if_pos hlast] at hws
              have hnn : s.next + 1 = n := by omega
              go_wp2_with fail
              refine hws.out.mono ?_
              rintro e w6 ⟨rfl, h6⟩
              have hst := h6.st (t := 4) rfl
              rw [h0] at hst
              have hp6 := (h6.put (t := 4) rfl 1 (.int .i64 (s.next + 1))).put (t := 4) rfl 0 (.int .i64 3)
              have M6 : Mem06 n b cb lb sb wb w 0 m { s with next := s.next + 1, at_ := 3 } (.slice (some ⟨w1.heap.size, 0, none⟩) (n + 3) (n + 3)) ((w6.setCell ⟨wb, 1, none⟩ (.int .i64 (s.next + 1))).setCell ⟨wb, 0, none⟩ (.int .i64 3)) := by
                refine ⟨?_, ⟨by show (3 : Nat) ≤ 3; decide, fun h => by simp at h, fun h => by simp at h, by have := M.ok.small; dsimp only; omega, M.ok.period⟩, hlen0, M.wk, M.me, M.lock0, rfl, M.mb, M.mcb, M.mlb⟩
                rw [h0] at hp6
                exact hp6
              obtain ⟨tv2, wv2, hmh2⟩ := M6.r.memHdr (t := 1) rfl
              obtain ⟨tv3, wv3, hmh3⟩ := h6.memHdr (t := 1) rfl
              have hld := hide (memR_load M6.r (t := 1) rfl 0 (by decide) (by show (0 : Int) < m.cells.length; omega))
              have hho := hide (memR_holder M6.r (t := 1) rfl 0 (by decide) (by decide))
              obtain ⟨g, cap3, cur3, hrv3, hg3, hcap3, hle3, hcu3⟩ := M6.r.intRow (t := 2) (q := .u64) (xs := m.cells) (i := 0) rfl (by show 0 < m.cells.length; omega)
              rw [M.mb, M.mcb, M.mlb] at hmh2 hmh3
              rw [M.mcb, show (0 : Int).toNat = 0 from rfl] at hld
              rw [M.mlb, show (0 : Int).toNat = 0 from rfl, M6.lock0] at hho
              rw [hlen0] at hrv3 hle3
              simp only [Value.slice.injEq, Option.some.injEq, Addr.mk.injEq, and_true, true_and] at hrv3
              obtain ⟨rfl, rfl⟩ := hrv3
              generalize hc00 : m.cells.getD 0 0 = c0v at *
              have hcc : (c0v != c0v) = false := by simp
              clear M hp6 h6 hws
              replace hc00 := hide hc00
              replace M6 := hide M6
              go_wp2_with fail
              refine hld.out.mono ?_
              rintro e w7 ⟨rfl, rfl⟩
              go_wp2_with fail
              refine hho.out.mono ?_
              rintro e w7 ⟨rfl, rfl⟩
              go_wp2_with fail
              exact ⟨⟨k + 1, _, _, _, by omega, by go_num, rfl, M6.out⟩, by simp [intOf]; omega⟩
            · rw [if_neg hlast] at hws
              have hnn : ¬ (s.next + 1 = n) := by omega
              have hnn2 : ((s.next : Int) + 1 == n) = false := by simp; omega
              go_wp2_with fail
              refine hws.out.mono ?_
              rintro e w6 ⟨rfl, h6⟩
              have hst := h6.st (t := 4) rfl
              rw [h0] at hst
              have hp6 := h6.put (t := 4) rfl 1 (.int .i64 (s.next + 1))
              have M6 : Mem06 n b cb lb sb wb w 0 m { s with next := s.next + 1, at_ := 2 } (.slice (some ⟨w1.heap.size, 0, none⟩) (n + 3) (n + 3)) (w6.setCell ⟨wb, 1, none⟩ (.int .i64 (s.next + 1))) := by
                refine ⟨?_, ⟨by show (2 : Nat) ≤ 3; decide, fun h => by show s.next + 1 < m.workers; rw [M.wk]; omega, fun h => by simp at h, by have := M.ok.small; dsimp only; omega, M.ok.period⟩, hlen0, M.wk, M.me, M.lock0, rfl, M.mb, M.mcb, M.mlb⟩
                rw [h0] at hp6
                exact hp6
              obtain ⟨tv2, wv2, hmh2⟩ := M6.r.memHdr (t := 1) rfl
              obtain ⟨tv3, wv3, hmh3⟩ := h6.memHdr (t := 1) rfl
              have hld := hide (memR_load M6.r (t := 1) rfl 0 (by decide) (by show (0 : Int) < m.cells.length; omega))
              have hho := hide (memR_holder M6.r (t := 1) rfl 0 (by decide) (by decide))
              obtain ⟨g, cap3, cur3, hrv3, hg3, hcap3, hle3, hcu3⟩ := M6.r.intRow (t := 2) (q := .u64) (xs := m.cells) (i := 0) rfl (by show 0 < m.cells.length; omega)
              rw [M.mb, M.mcb, M.mlb] at hmh2 hmh3
              rw [M.mcb, show (0 : Int).toNat = 0 from rfl] at hld
              rw [M.mlb, show (0 : Int).toNat = 0 from rfl, M6.lock0] at hho
              rw [hlen0] at hrv3 hle3
              simp only [Value.slice.injEq, Option.some.injEq, Addr.mk.injEq, and_true, true_and] at hrv3
              obtain ⟨rfl, rfl⟩ := hrv3
              generalize hc00 : m.cells.getD 0 0 = c0v at *
              have hcc : (c0v != c0v) = false := by simp
              clear M hp6 h6 hws
              replace hc00 := hide hc00
              replace M6 := hide M6
              go_wp2_with fail
              refine hld.out.mono ?_
              rintro e w7 ⟨rfl, rfl⟩
              go_wp2_with fail
              refine hho.out.mono ?_
              rintro e w7 ⟨rfl, rfl⟩
              go_wp2_with fail
              exact ⟨⟨k + 1, _, _, _, by omega, by go_num, rfl, M6.out⟩, by simp [intOf]; omega⟩
          · have hlk := M.lock
            rw [if_neg (by omega)] at hlk
            subst hlk
            have e : waitStep m s = ({ m with locks := m.locks.set 0 (-1) }, s, true) := by rw [waitStep, if_neg (by omega), if_neg (by omega), if_neg (by omega), M.lock0, M.me]; rfl
            rw [e] at hws
            have hlen0 : m.cells.length = n + 3 := M.len
            clear h5 e
            go_wp2_with fail
            refine hws.out.mono ?_
            rintro e w6 ⟨rfl, h6⟩
            have hst := h6.st (t := 4) rfl
            rw [h0] at hst
            have hld := hide (memR_load h6 (t := 1) rfl 0 (by decide) (by show (0 : Int) < m.cells.length; omega))
            obtain ⟨tv2, wv2, hmh2⟩ := h6.memHdr (t := 1) rfl
            dsimp only at hmh2 hld
            rw [M.mb, M.mcb, M.mlb] at hmh2
            rw [M.mcb, show (0 : Int).toNat = 0 from rfl] at hld
            generalize hc00 : m.cells.getD 0 0 = c0v at *
            replace hc00 := hide hc00
            clear hws
            replace h6 := hide h6
            go_wp2_with fail
            refine hld.out.mono ?_
            rintro e w7 ⟨rfl, rfl⟩
            clear hld hmh2 hst
            go_wp2_with fail
            refine (law06_awake _).mono ?_
            rintro e w7 ⟨rfl, hb7⟩
            have h7 := h6.out.below hb7
            obtain ⟨tv2, wv2, hmh2⟩ := h7.memHdr (t := 1) rfl
            have hho := hide (memR_holder h7 (t := 1) rfl 0 (by decide) (by decide))
            obtain ⟨g, cap3, cur3, hrv3, hg3, hcap3, hle3, hcu3⟩ := h7.intRow (t := 2) (q := .u64) (xs := m.cells) (i := 0) rfl (by show 0 < m.cells.length; omega)
            dsimp only at hmh2 hho
            rw [M.mb, M.mcb, M.mlb] at hmh2
            rw [M.mlb, show (0 : Int).toNat = 0 from rfl, getD_set0 _ _ _ (by have := hmo.locks; omega)] at hho
            rw [hlen0] at hrv3 hle3
            simp only [Value.slice.injEq, Option.some.injEq, Addr.mk.injEq, and_true, true_and] at hrv3
            obtain ⟨rfl, rfl⟩ := hrv3
            rw [hc00.out] at hcu3
            have hbel7 := h7.done
            have hcc : (c0v == c0v) = true := by simp
            clear h6 h7 M hb7
            go_wp2_with fail
            refine hho.out.mono ?_
            rintro e w8 ⟨rfl, rfl⟩
            go_wp2
            go_ret
            exact ⟨rfl, hbel7⟩
    · obtain rfl : k = acts.length := by omega
      have h6 := hide M.r
      clear hst M
      go_wp2_with fail
      refine (law06_awake _).mono ?_
      rintro e w7 ⟨rfl, hb7⟩
      have hbel7 := (h6.out.below hb7).done
      go_wp2
      go_ret
      exact ⟨rfl, hbel7⟩

set_option maxRecDepth 100000 in
set_option maxHeartbeats 800000 in
theorem law06_many (x0 : Int) (hx0 : 0 ≤ x0) (hx1 : x0 ≤ 255) (a : Option Addr) (len cap : Nat) (h : 60 < len) (hl : len ≤ 9223372036854775807) (w : World) :
    Calls Try.prog 13 #[.int .u8 x0, .slice a len cap] w fun e w' => e = .returned (.bool true) ∧ Below w.heap.size w w' := by
  obtain ⟨n, hn⟩ : ∃ n : Nat, x0 % 8 + 1 = n := ⟨(x0 % 8 + 1).toNat, by omega⟩
  have hn1 : 1 ≤ n := by omega
  have hn8 : n ≤ 8 := by omega
  have hmd := hide (law05_made (R.start w) 1 n (by decide) (by decide) hn1 hn8)
  go_enter Try.func13, Try.ntmps13
  go_wp2_with fail
  refine hmd.out.mono ?_
  rintro e w1 ⟨b, cb, lb, ab, rfl, R1⟩
  replace R1 := hide R1
  clear hmd
  go_wp2_with fail
  refine (law06_awake _).mono ?_
  rintro e w7 ⟨rfl, hb7⟩
  have hbel7 := (R1.out.below hb7).done
  go_wp2
  go_ret
  exact ⟨rfl, hbel7⟩
end Go.Proofs.Ythfnbklloahdkaa
