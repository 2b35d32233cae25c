/- quietuslaw07: RetireWaits. No condition. -/
import Derived.Test.YtcoaemjoanbemaaLr07
import Derived.Test.YtcoaemjoanbemaaLa07
namespace Go.Proofs.Ytcoaemjoanbemaa
open Go.RowKit

theorem ints_nil7 (a : Option Addr) (n c : Nat) (W : World) : (binOp .eql 80 (.slice a n c) (.slice none 0 0)).run Try.prog W = .ok (.bool a.isNone) W := by
  cases a <;> kernel_rfl

/-- What the loop of RetireWaits keeps. -/
def Rel7W (w : World) (n b fa sa : Nat) (k : Nat) (bv dv rv : Value) (wr : World) : Prop :=
  ∃ m fb f st gb bg db d, ∃ r : Nat, m.b = b ∧ bv = bgV gb n bg ∧ dv = .pointer (some ⟨db, 0, none⟩) ∧ rv = .int .i64 r ∧ r ≤ k ∧ DI n k m f st bg d ∧ Hid (R (ld n w m fa sa fb f st gb bg db d) wr)

theorem DI.start (b cb lb ab n wb : Nat) (h1 : 1 ≤ n) (h4 : n ≤ 4) : DI n 0 (memNew b cb lb ab 40 n) (fun _ => none) (fun _ => 0) none ⟨wb, [], ⟨n, 0, 0, 0⟩, false, false⟩ := by
  have hcell : ∀ i, (memNew b cb lb ab 40 n).cells.getD (2 + i) 0 = 0 := fun i => by
    show ((1 : Int) :: List.replicate _ 0).getD (2 + i) 0 = 0
    rw [show 2 + i = (1 + i) + 1 by omega, List.getD_cons_succ]
    simp [List.getElem?_replicate]
    split <;> rfl
  refine ⟨⟨rfl, ⟨by omega, by omega⟩, by simp [memNew], rfl, by simp [memNew], fun i _ => by unfold inCell; rw [hcell]; simp [memNew], fun _ _ => trivial, fun _ => Nat.le_refl _⟩, ⟨⟨?_, fun h => by simp at h, fun _ => rfl, ⟨?_, ?_⟩, ?_, ?_⟩, rfl⟩, rfl, fun _ => ⟨rfl, rfl, rfl⟩, by simp, fun g hg => (by cases hg), Pool.start 40, rfl, rfl, Nat.le_refl _⟩
  · show (0 : Nat) ≤ 3; decide
  · show (0 : Nat) ≤ 8; decide
  · show n ≤ 1000; omega
  · show (0 : Int) ≤ 0; decide
  · show (0 : Int) ≤ 18446744073709551615; decide

set_option maxRecDepth 100000 in
set_option maxHeartbeats 12000000 in
theorem law07_waits (x0 : Int) (hx0 : 0 ≤ x0) (hx1 : x0 ≤ 255) (v : Value) (acts : List Int) (w : World) (hv : FrAt w w.heap.size 1 v (acts.map fun x => [Value.int .u8 x])) (hin : ∀ x ∈ acts, 0 ≤ x ∧ x ≤ 255) (hl : acts.length ≤ 150) :
    Calls Try.prog 6 #[.int .u8 x0, v] w fun e w' => e = .returned (.bool true) ∧ Below w.heap.size w w' := by
  obtain ⟨a, cap, rfl, hlen, _⟩ := id hv
  rw [List.length_map] at *
  replace hv := hide hv
  obtain ⟨n, hn⟩ : ∃ n : Nat, x0 % 4 + 1 = n := ⟨(x0 % 4 + 1).toNat, by omega⟩
  have hn1 : 1 ≤ n := by omega
  have hn4 : n ≤ 4 := by omega
  have hmd := hide (law05_made (R.start w) 40 n (by decide) (by decide) (by omega) (by omega))
  obtain ⟨i0, hi, hz0, hz1, hz2⟩ := info_parts frame_info
  have hmk := fun W => run_make (P := Try.prog) W 79 85 i0 .nilIface Try.underlying79 hi hz0 .i64 .i64 (n : Int) (n : Int) (by omega) (Int.le_refl _) (by rw [hz2]; omega) (by omega)
  rw [hz1] at hmk
  clear hi hz0 hz1 hz2
  obtain ⟨i0, hi, hz0, hz1, hz2⟩ := info_parts int_info
  have hmki := fun W => run_make (P := Try.prog) W 80 3 i0 (.int .i64 0) Try.underlying80 hi hz0 .i64 .i64 (n : Int) (n : Int) (by omega) (Int.le_refl _) (by rw [hz2]; omega) (by omega)
  rw [hz1] at hmki
  clear hi hz0 hz1 hz2
  go_enter Try.func6, Try.ntmps6
  go_wp2_with fail
  refine hmd.out.mono ?_
  rintro e w1 ⟨b, cb, lb, ab, rfl, R1⟩
  clear hmd
  have R2 := R1.made (T := 3) (madeCells #[Value.int .i64 0] n) n 1 (by unfold maxLen; omega) (by simp [madeCells])
  have R3 := R2.made (T := 85) (madeCells #[Value.nilIface] n) n 1 (by unfold maxLen; omega) (by simp [madeCells])
  have hnw := hide (retire_new R3 n)
  clear R1 R2 R3
  go_wp2_with fail
  refine hnw.out.mono ?_
  rintro e w3 ⟨db, wb, rfl, h3⟩
  clear hnw
  have hM : Rel7W w n b (w1.heap.size + 1) w1.heap.size 0 (.slice none 0 0) (.pointer (some ⟨db, 0, none⟩)) (.int .i64 0) w3 := by
    refine ⟨_, fun _ => 0, _, _, 0, _, db, _, 0, rfl, rfl, rfl, rfl, Nat.le_refl _, DI.start b cb lb ab n wb hn1 hn4, ?_⟩
    have R6 := h3.nos ([NoK] ++ (List.range n).map fun _ => NoK) (by intro p hp; simp at hp; rcases hp with rfl | ⟨_, rfl⟩ <;> rfl)
    have e1 : (madeCells #[Value.nilIface] n).toList = (List.range n).map fun _ => Value.nilIface := by
      have := madeCells_one .nilIface rfl n
      rw [show (Value.nilIface).cells = #[Value.nilIface] from rfl] at this
      rw [this]; symm; rw [List.eq_replicate_iff]; simp
    have e2 : (madeCells #[Value.int .i64 0] n).toList = (natsL n fun _ => 0).map (Value.int .i64) := by
      have := madeCells_one (.int .i64 0) rfl n
      rw [show (Value.int IntKind.i64 0).cells = #[Value.int IntKind.i64 0] from rfl] at this
      rw [this]; simp [natsL]; symm; rw [List.eq_replicate_iff]; simp
    rw [e1, e2] at R6
    have z1 : ∀ (W : World) (x : Obj), (W.alloc x).heap.size = W.heap.size + 1 := fun W x => by simp
    rw [z1] at R6
    exact hide R6
  clear h3
  go_wp2_with fail
  generalize w1.heap.size = sa at *
  go_loopw [9, 10, 11, 54] (fun bv dv rv i wr => ∃ k : Nat, k ≤ acts.length ∧ i = .int .i64 k ∧ Rel7W w n b (sa + 1) sa k bv dv rv wr) (fun _ _ _ i _ => acts.length - (intOf i).toNat)
  case atStart => exact ⟨0, Nat.zero_le _, rfl, hM⟩
  case round =>
    obtain ⟨k, hk, rfl, m, fb, f, st, gb, bg, db, d, r, rfl, rfl, rfl, rfl, hrk, Q, hR⟩ := hrel
    clear hM
    have hbel : Below w.heap.size w wr := hR.out.done
    by_cases hlt : k < acts.length
    · obtain ⟨_, _, hv2, _, hr⟩ := hv.out.below hbel
      obtain ⟨vb, voff, ha, hvb, hc0⟩ := hr k (by simpa using hlt)
      simp at hv2
      obtain ⟨rfl, rfl⟩ := hv2
      subst ha
      have hget : (acts.map fun x => [Value.int .u8 x]).getD k [] = [Value.int .u8 (acts.getD k 0)] := by simp [hlt]
      rw [hget] at hc0
      have hxin := hin (acts.getD k 0) (by simp [hlt])
      generalize acts.getD k 0 = x at *
      obtain ⟨hx2, hx3⟩ := hxin
      obtain ⟨xv, e0, c0⟩ := hc0 0 (by decide)
      simp at e0
      subst e0
      simp only [Nat.mul_one, Nat.add_zero] at c0
      clear hr hget
      have hq0 : 0 ≤ x % ((n : Int) + 3) := Int.emod_nonneg _ (by omega)
      have hq1 : x % ((n : Int) + 3) < n + 3 := Int.emod_lt_of_pos _ (by omega)
      obtain ⟨q, hq⟩ := Int.eq_ofNat_of_zero_le hq0
      have hqn : q < n + 3 := by omega
      have htm : x.tmod ((n : Int) + 3) = (q : Int) := by rw [Int.tmod_eq_emod_of_nonneg hx2]; exact hq
      clear hq0 hq1 hq
      have hk200 : k ≤ 150 := by omega
      clear hbel
      go_upto_block 2 with fail
      go_cut [9, 10, 11] (fun bv dv rv wx => Rel7W w n m.b (sa + 1) sa (k + 1) bv dv rv wx)
      case first =>
        by_cases hq2 : q < n
        · skip
          as_aux_lemma =>
          obtain ⟨cf, hcf, hcf2⟩ := hR.out.ldFr hq2
          have hwk := Q.base.wk
          clear c0
          go_upto_region 42 with fail
          go_cut [145] (fun s wx => s = .bool (f q).isNone ∧ wx = wr)
          case first =>
            as_aux_lemma =>
            cases hf : f q with
            | none =>
              rw [hf] at hcf2
              dsimp only [frV] at hcf2
              go_wp2_with fail
              go_meet
              case rel => exact ⟨by rw [hf]; rfl, rfl⟩
            | some y =>
              rw [hf] at hcf2
              cases y
              all_goals
                dsimp only [frV] at hcf2
                go_wp2_with fail
                go_meet
                case rel => exact ⟨by rw [hf]; rfl, rfl⟩
          case rest =>
            obtain ⟨rfl, hw⟩ := hcut
            replace hw := hw.symm
            subst hw
            clear hcf hcf2
            go_upto_if 145 with fail
            go_cut [14] (fun s wx => s = .int .i64 q ∧ ∃ fb f y, f q = some y ∧ DI n k m f st bg d ∧ Hid (R (ld n w m (sa + 1) sa fb f st gb bg db d) wx))
            case first =>
              as_aux_lemma =>
              cases hf : f q with
              | some y =>
                go_wp2_with fail
                go_meet
                case rel => exact ⟨rfl, fb, f, y, hf, Q, hR⟩
              | none =>
                have hen := hide (qsbr_enter hR.out q)
                clear hR
                go_wp2_with fail
                refine hen.out.mono ?_
                rintro e w5 ⟨b5, rfl, h5⟩
                obtain ⟨cf, hcf, hcf2⟩ := h5.left.ldFr hq2
                have hA := R.ldNewFr (.come false 0) hq2 rfl h5
                dsimp only [frV] at hA
                have hcall := hide (qsbr_in hA (t := 1) rfl q (by rw [hwk]; exact hq2))
                clear hen h5 hA
                go_upto_region 44 with fail
                clear hcf hcf2
                generalize w5.setCell ⟨sa + 1, q, none⟩ (Value.iface 88 (.pointer (some ⟨b5, 0, none⟩))) = w6 at *
                by_cases hinj : inCell m q ≠ 0
                · rw [show decide (inCell m q ≠ 0) = true by simpa using hinj] at hcall
                  go_wp2_with fail
                  refine hcall.out.mono ?_
                  rintro e w7 ⟨rfl, h7⟩
                  have hlv := hide (qsbr_leave h7 q)
                  clear hcall h7
                  go_wp2_with fail
                  refine hlv.out.mono ?_
                  rintro e w8 ⟨b8, rfl, h8⟩
                  obtain ⟨cf, hcf, hcf2⟩ := h8.left.ldFr hq2
                  have hA := R.ldNewFr .gone hq2 rfl h8
                  dsimp only [frV] at hA
                  rw [fup_twice, fup_twice] at hA
                  replace hA := hide hA
                  clear hlv h8
                  go_wp2_with fail
                  go_meet
                  case rel => exact ⟨rfl, _, _, .gone, fup_same _ _ _, Q.frame _ hinj, hA⟩
                · have h0 : inCell m q = 0 := by simpa using hinj
                  rw [show decide (inCell m q ≠ 0) = false by simpa using hinj] at hcall
                  go_wp2_with fail
                  refine hcall.out.mono ?_
                  rintro e w7 ⟨rfl, h7⟩
                  replace h7 := hide h7
                  clear hcall
                  go_wp2_with fail
                  go_meet
                  case rel => exact ⟨rfl, _, _, .come false 0, fup_same _ _ _, Q.frame _ ⟨h0, ⟨by decide, by decide⟩, fun h => by cases h⟩, h7⟩
            case rest =>
              as_aux_lemma =>
              obtain ⟨rfl, fb2, f2, y, hf, Q2, h6⟩ := hcut
              clear hR Q
              have hwk := Q2.base.wk
              obtain ⟨cf, hcf, hcf2⟩ := h6.out.ldFr hq2
              rw [hf] at hcf2
              have hfo := Q2.base.fr q hq2
              rw [hf] at hfo
              have hgt := ld_fr (n := n) (w := w) (m := m) (fa := sa + 1) (sa := sa) (fb := fb2) (f := f2) (st := st) (gb := gb) (bg := bg) (db := db) (d := d) hq2
              rw [hf] at hgt
              cases y with
              | come ld0 p =>
                dsimp only [frV] at hcf2
                obtain ⟨h0, hp0, hp1⟩ : inCell m q = 0 ∧ U64 p ∧ (ld0 = true → 1 ≤ p ∧ p ≤ m.cells.getD 0 0) := hfo
                have hst := come_step h6.out (t := 1) (u := 6 + q) (s := ⟨q, ld0, p⟩) rfl hgt (by omega) (by show q < m.workers; rw [hwk]; exact hq2) hp0
                have r1 := (come_frame (fb2 q)).ns 269 wc
                have r2 := (come_frame (fb2 q)).ms 269 wc
                have r3 := (come_frame (fb2 q)).cs #[.pointer (some ⟨fb2 q, 0, none⟩), .pointer (some ⟨m.b, 0, none⟩)] wc
                cases ld0 with
                | false =>
                  rw [show comeStep m ⟨q, false, p⟩ = (m, ⟨q, true, m.cells.getD 0 0⟩, false) from rfl] at hst
                  dsimp only at hst
                  rw [ld_setM, show ComeK (fb2 q) ⟨q, true, m.cells.getD 0 0⟩ = frO q (fb2 q) (some (.come true (m.cells.getD 0 0))) from rfl, ld_setFr _ (by rw [hf]; rfl)] at hst
                  have Q3 := Q2.more.frame (i := q) (some (.come true (m.cells.getD 0 0))) ⟨h0, ⟨by have := Q2.base.per; omega, by have := Q2.base.per; omega⟩, fun _ => ⟨Q2.base.per.1, Int.le_refl _⟩⟩
                  replace hst := hide hst
                  clear h6 hgt
                  go_wp2_with fail
                  refine hst.out.mono ?_
                  rintro e w4 ⟨rfl, h8⟩
                  replace h8 := hide h8
                  clear hst hcf hcf2
                  go_wp2_with fail
                  go_meet
                  case rel => exact ⟨m, fb2, _, st, gb, bg, db, d, r, rfl, rfl, rfl, rfl, by omega, Q3, h8⟩
                | true =>
                  obtain ⟨Q3, hpn⟩ := Q2.come hq2 hf
                  have hlen := Q2.base.len
                  have hin3 : inCell { m with cells := m.cells.set (2 + q) p } q = p := by unfold inCell; dsimp only; rw [getD_setI, if_pos ⟨rfl, by omega⟩]
                  have hstB := Q2.base.stB q
                  rw [show comeStep m ⟨q, true, p⟩ = ({ m with cells := m.cells.set (2 + q) p }, ⟨q, true, p⟩, true) from rfl] at hst
                  dsimp only at hst
                  rw [ld_setM, show ComeK (fb2 q) ⟨q, true, p⟩ = frO q (fb2 q) (some (.come true p)) from rfl, ld_setFr _ (by rw [hf])] at hst
                  have hwk3 := Q3.base.wk
                  have hmb : ({ m with cells := m.cells.set (2 + q) p } : MemS).b = m.b := rfl
                  generalize ({ m with cells := m.cells.set (2 + q) p } : MemS) = m3 at *
                  replace hst := hide hst
                  clear h6 hgt
                  go_wp2_with fail
                  refine hst.out.mono ?_
                  rintro e w4 ⟨rfl, h8⟩
                  clear hst hcf hcf2 r1 r2 r3
                  obtain ⟨cf, hcf, hcf2⟩ := h8.ldFr hq2
                  have h9 := R.ldOffFr hq2 h8
                  rw [fup_twice] at h9
                  have hcall := qsbr_in h9 (t := 1) rfl q (by rw [hwk3]; exact hq2)
                  rw [hin3, show decide (p ≠ 0) = true by simpa using hpn, hmb] at hcall
                  replace hcall := hide hcall
                  clear h8 h9
                  replace hmb := hide hmb
                  go_wp2_with fail
                  refine hcall.out.mono ?_
                  rintro e w5 ⟨rfl, h10⟩
                  obtain ⟨cs, hcs, hcs2⟩ := h10.ldSt hq2
                  have h11 := R.ldPutSt hq2 (st q + 1) h10
                  rw [show ((st q + 1 : Nat) : Int) = (st q : Int) + 1 by omega] at h11
                  replace h11 := hide h11
                  clear hcall h10 hcf hcf2
                  generalize hsi : st q = si at *
                  go_wp2_with fail
                  go_meet
                  case rel => exact ⟨m3, fb2, _, _, gb, bg, db, d, r, hmb.out, rfl, rfl, rfl, by omega, Q3, h11⟩
              | gone =>
                dsimp only [frV] at hcf2
                have hinj : inCell m q ≠ 0 := hfo
                have hst := gone_step h6.out (t := 1) (u := 6 + q) (k := q) rfl hgt (by rw [hwk]; exact hq2)
                rw [ld_setM] at hst
                have r1 := (gone_frame (fb2 q)).ns 269 wc
                have r2 := (gone_frame (fb2 q)).ms 269 wc
                have r3 := (gone_frame (fb2 q)).cs #[.pointer (some ⟨fb2 q, 0, none⟩), .pointer (some ⟨m.b, 0, none⟩)] wc
                have Q3 : DI n (k + 1) (goneStep m q) (fup f2 q none) st bg d := (Q2.gone hq2).more
                have hlen := Q2.base.len
                have hin3 : inCell (goneStep m q) q = 0 := by unfold inCell goneStep; dsimp only; rw [getD_setI, if_pos ⟨rfl, by omega⟩]
                have hwk3 := Q3.base.wk
                have hmb : (goneStep m q).b = m.b := rfl
                generalize goneStep m q = m3 at *
                replace hst := hide hst
                clear h6 hgt
                go_wp2_with fail
                refine hst.out.mono ?_
                rintro e w4 ⟨rfl, h8⟩
                clear hst hcf hcf2 r1 r2 r3
                obtain ⟨cf, hcf, hcf2⟩ := h8.ldFr hq2
                have h9 := R.ldOffFr hq2 h8
                have hcall := qsbr_in h9 (t := 1) rfl q (by rw [hwk3]; exact hq2)
                rw [hin3, show decide ((0 : Int) ≠ 0) = false by decide, hmb] at hcall
                replace hcall := hide hcall
                clear h8 h9
                replace hmb := hide hmb
                go_wp2_with fail
                refine hcall.out.mono ?_
                rintro e w5 ⟨rfl, h10⟩
                replace h10 := hide h10
                clear hcall hcf hcf2
                go_wp2_with fail
                go_meet
                case rel => exact ⟨m3, fb2, _, st, gb, bg, db, d, r, hmb.out, rfl, rfl, rfl, by omega, Q3, h10⟩
        · by_cases hq3 : q = n
          · skip
            as_aux_lemma =>
            subst hq3
            obtain ⟨hgen, hlen2⟩ := hR.out.gens (t := 1) rfl
            obtain ⟨tv, wv, hb⟩ := hR.out.memHdr (t := 1) rfl
            have hroom := Q.room
            have hgle := Q.gen
            have hwl := Q.pool.le
            rw [List.length_append] at hwl
            clear c0
            cases hfr : freeAt m.ss with
            | none =>
              have hal := hide (memR_alloc_no hR.out (t := 1) rfl nd0 hfr)
              dsimp only [ndV, nd0] at hal
              clear hR
              go_wp2_with fail
              refine hal.out.mono ?_
              rintro e w5 ⟨rfl, h5⟩
              replace h5 := hide h5
              clear hal hb
              go_wp2_with fail
              go_meet
              case rel => exact ⟨m, fb, f, st, gb, bg, db, d, r, rfl, rfl, rfl, rfl, by omega, Q.more, h5⟩
            | some i =>
              have hal := memR_alloc hR.out (t := 1) rfl nd0 nd0_ok (by omega) i hfr
              have hil := (freeAt_some hfr).1
              have hu := hnd_u64 (ss := m.ss) (i := i) (by omega) hgen (by omega)
              have Q3 := Q.retire (by omega) hgen hfr nd0
              rw [ld_setM, show ndV nd0 = .agg #[.string ⟨#[]⟩, .string ⟨#[]⟩, .int .u32 0, .int .u64 0] from rfl] at hal
              replace hal := hide hal
              clear hR
              go_wp2_with fail
              refine hal.out.mono ?_
              rintro e w5 ⟨rfl, h5⟩
              have hrt := mem_retire h5 (t := 1) rfl (hnd m.ss i) hu (by dsimp only; omega)
              rw [ld_setM] at hrt
              dsimp only at hrt
              have hmb : ({ m with ss := m.ss.set i (taken (m.ss.getD i slot0) nd0), waiting := m.waiting ++ [hnd m.ss i] } : MemS).b = m.b := rfl
              generalize ({ m with ss := m.ss.set i (taken (m.ss.getD i slot0) nd0), waiting := m.waiting ++ [hnd m.ss i] } : MemS) = m3 at *
              generalize hnd m.ss i = hd at *
              replace hmb := hide hmb
              replace hrt := hide hrt
              clear hal h5 hb hfr
              go_wp2_with fail
              refine hrt.out.mono ?_
              rintro e w6 ⟨rfl, h6⟩
              replace h6 := hide h6
              clear hrt
              go_wp2_with fail
              go_meet
              case rel => exact ⟨m3, fb, f, st, gb, bg, db, d, r + 1, hmb.out, rfl, rfl, by go_num, by omega, Q3, h6⟩
          · have hqn1 : ((q : Int) == (n : Int)) = false := by simp; omega
            have hrd := hide (drain_ready hR.out (t := 1) (u := 4) rfl rfl (by decide) (Q.inv (by omega)).1)
            clear c0
            cases hrdy : drainReady m d
            · rw [hrdy] at hrd
              clear hR
              go_wp2_with fail
              refine hrd.out.mono ?_
              rintro e w5 ⟨rfl, h5⟩
              replace h5 := hide h5
              clear hrd
              go_wp2_with fail
              exact ⟨⟨k + 1, by omega, by go_num, m, fb, f, st, gb, bg, db, d, r, rfl, rfl, rfl, rfl, by omega, Q.more, h5⟩, by simp [intOf]; omega⟩
            · rw [hrdy] at hrd
              clear hR
              go_wp2_with fail
              refine hrd.out.mono ?_
              rintro e w5 ⟨rfl, h5⟩
              replace h5 := hide h5
              clear hrd
              have hnil := fun a n c => ints_nil7 a n c w5
              go_upto_region 17 with fail
              go_cut [9, 17] (fun bv s wx => bv = bgV gb n bg ∧ s = .bool bg.isNone ∧ wx = w5)
              case first =>
                cases hbg : bg with
                | none =>
                  dsimp only [bgV]
                  go_wp2_with fail
                  go_meet
                  case rel => exact ⟨by rw [hbg]; rfl, by rw [hbg]; rfl, rfl⟩
                | some g =>
                  dsimp only [bgV]
                  go_wp2_with fail
                  go_meet
                  case rel => exact ⟨by rw [hbg]; rfl, by rw [hbg]; rfl, rfl⟩
              case rest =>
                obtain ⟨rfl, rfl, hw⟩ := hcut
                replace hw := hw.symm
                subst hw
                clear hnil
                go_upto_if 69 with fail
                go_cut [9, 17] (fun bv s wx => s = .bool bg.isNone ∧ ∃ gb2 g, bv = bgV gb2 n (some g) ∧ (bg = some g ∨ bg = none ∧ g = snap m st) ∧ Hid (R (ld n w m (sa + 1) sa fb f st gb2 (some g) db d) wx))
                case first =>
                  cases hbg : bg with
                  | some g =>
                    go_wp2_with fail
                    go_meet
                    case rel => exact ⟨by rw [hbg], gb, g, rfl, .inl hbg, by rw [← hbg]; exact h5⟩
                  | none =>
                    have hA := h5.out.made (T := 3) (madeCells #[Value.int .i64 0] n) n 1 (by unfold maxLen; omega) (by simp [madeCells])
                    have hmc := madeCells_one (.int .i64 0) rfl n
                    rw [show (Value.int IntKind.i64 0).cells = #[Value.int IntKind.i64 0] from rfl] at hmc
                    rw [hmc, show List.replicate n (Value.int .i64 0) = (natsL n fun i => if i < 0 then snap m st i else 0).map (Value.int .i64) by
                      simp [natsL]; symm; rw [List.eq_replicate_iff]; simp] at hA
                    have hC := hA.moveSl (u := 5) (by rw [ld_len]; omega)
                    rw [show (SlK 3 1 (.slice (some ⟨w5.heap.size, 0, none⟩) n n) n ((natsL n fun i => if i < 0 then snap m st i else 0).map (Value.int .i64))) = bgO w5.heap.size n (some fun i => if i < 0 then snap m st i else 0) from rfl, ld_newBg] at hC
                    replace hC := hide hC
                    clear hA hmc
                    go_wp2_with fail
                    generalize w5.heap.size = g0 at *
                    generalize w5.alloc (Obj.cells (madeCells #[Value.int IntKind.i64 0] n) 3) = w6 at *
                    go_loopw [73] (fun i wr => ∃ j : Nat, j ≤ n ∧ i = .int .i64 j ∧ Hid (R (ld n w m (sa + 1) sa fb f st g0 (some fun i => if i < j then snap m st i else 0) db d) wr)) (fun i _ => n - (intOf i).toNat)
                    case atStart => exact ⟨0, Nat.zero_le _, rfl, hC⟩
                    case round =>
                      obtain ⟨j, hj, rfl, h6⟩ := hrel
                      clear hC
                      by_cases hjn : j < n
                      · have hcall := hide (qsbr_in h6.out (t := 1) rfl j (by rw [Q.base.wk]; exact hjn))
                        by_cases hinj : inCell m j ≠ 0
                        · rw [show decide (inCell m j ≠ 0) = true by simpa using hinj] at hcall
                          go_wp2_with fail
                          refine hcall.out.mono ?_
                          rintro e w7 ⟨rfl, h7⟩
                          obtain ⟨cs, hcs, hcs2⟩ := h7.ldSt hjn
                          obtain ⟨cg, hcg, hcg2⟩ := h7.ldBg hjn
                          have hp := h7.ldPutBg hjn (st j)
                          rw [ld_bgCongr (b := fun i => if i < j + 1 then snap m st i else 0) (fun i _ => by
                            unfold fup
                            by_cases hij : i = j
                            · subst hij; rw [if_pos rfl, if_pos (by omega)]; unfold snap; rw [if_pos hinj]
                            · rw [if_neg hij]
                              dsimp only
                              by_cases hlt2 : i < j
                              · rw [if_pos hlt2, if_pos (by omega)]
                              · rw [if_neg hlt2, if_neg (by omega)])] at hp
                          replace hp := hide hp
                          clear h7 h6 hcall
                          go_wp2_with fail
                          refine ⟨?_, by simp [intOf]; omega⟩
                          (repeat apply Exists.intro)
                          exact ⟨⟨j + 1, by omega, by go_num, hp⟩, rfl⟩
                        · rw [show decide (inCell m j ≠ 0) = false by simpa using hinj] at hcall
                          go_wp2_with fail
                          refine hcall.out.mono ?_
                          rintro e w7 ⟨rfl, h7⟩
                          rw [ld_bgCongr (b := fun i => if i < j + 1 then snap m st i else 0) (fun i _ => by
                            by_cases hij : i = j
                            · subst hij; rw [if_neg (by omega), if_pos (by omega)]; unfold snap; rw [if_neg hinj]
                            · by_cases hlt2 : i < j
                              · rw [if_pos hlt2, if_pos (by omega)]
                              · rw [if_neg hlt2, if_neg (by omega)])] at h7
                          replace h7 := hide h7
                          clear h6 hcall
                          go_wp2_with fail
                          refine ⟨?_, by simp [intOf]; omega⟩
                          (repeat apply Exists.intro)
                          exact ⟨⟨j + 1, by omega, by go_num, h7⟩, rfl⟩
                      · have h8 := h6.out
                        rw [ld_bgCongr (b := snap m st) (fun i hi => if_pos (by omega))] at h8
                        replace h8 := hide h8
                        clear h6
                        go_wp2_with fail
                        go_meet
                        case rel => exact ⟨by rw [hbg], _, _, rfl, .inr ⟨hbg, rfl⟩, h8⟩
                case rest =>
                  obtain ⟨rfl, gb2, g, rfl, hg, h6⟩ := hcut
                  clear h5
                  as_aux_lemma =>
                  obtain ⟨Q3, hdone, hno⟩ := Q.drain (by omega) hrdy g hg
                  obtain ⟨tv, wv, hb⟩ := h6.out.memHdr (t := 1) rfl
                  have hsp := hide (memR_spare h6.out (t := 1) rfl)
                  have hst := drain_step h6.out (t := 1) (u := 4) rfl rfl (by decide) (Q.inv (by omega)).1
                  rw [ld_setM, ld_setD] at hst
                  have hmb := drain_blk m d
                  clear h6
                  generalize (drainStep m d).1 = m3 at *
                  generalize (drainStep m d).2.1 = d3 at *
                  generalize (drainStep m d).2.2 = dn at *
                  generalize (freeTo m.ss m.ss.length).length = sp at *
                  replace hst := hide hst
                  replace hmb := hide hmb
                  replace hno := hide hno
                  replace hdone := hide hdone
                  go_wp2_with fail
                  refine hsp.out.mono ?_
                  rintro e w6 ⟨rfl, rfl⟩
                  clear hsp
                  go_wp2_with fail
                  refine hst.out.mono ?_
                  rintro e w7 ⟨rfl, h7⟩
                  clear hst hb
                  obtain ⟨tv, wv, hb⟩ := h7.memHdr (t := 1) rfl
                  rw [hmb.out] at hb
                  have hsp := hide (memR_spare h7 (t := 1) rfl)
                  have hbnd := freeTo_le m3.ss m3.ss.length
                  have hroom := Q3.room
                  rw [hroom] at hbnd
                  replace hroom := hide hroom
                  generalize hs3 : (freeTo m3.ss m3.ss.length).length = sp3 at *
                  replace h7 := hide h7
                  go_wp2_with fail
                  refine hsp.out.mono ?_
                  rintro e w8 ⟨rfl, rfl⟩
                  clear hsp hb
                  go_upto_if 101 with fail
                  go_cut [20] (fun s wx => s = .bool dn ∧ Hid (R (ld n w m3 (sa + 1) sa fb f st gb2 (some g) db d3) wx))
                  case first =>
                    by_cases hgt : sp < sp3
                    · have hno2 := hide (hno.out (by omega))
                      clear hno hdone
                      go_wp2_with fail
                      go_loopw [103] (fun i wr => ∃ j : Nat, j ≤ n ∧ i = .int .i64 j ∧ Hid (R (ld n w m3 (sa + 1) sa fb f st gb2 (some g) db d3) wr)) (fun i _ => n - (intOf i).toNat)
                      case atStart => exact ⟨0, Nat.zero_le _, rfl, h7⟩
                      case round =>
                        obtain ⟨j, hj, rfl, h8⟩ := hrel
                        clear h7
                        by_cases hjn : j < n
                        · have hcall := qsbr_inD h8.out (t := 1) rfl j (by rw [Q3.base.wk]; exact hjn)
                          rw [hmb.out] at hcall
                          replace hcall := hide hcall
                          obtain ⟨cs, hcs, hcs2⟩ := h8.out.ldSt hjn
                          obtain ⟨cg, hcg, hcg2⟩ := h8.out.ldBg hjn
                          have hnj := hno2.out j hjn
                          unfold Since at hnj
                          have h9 := hide fun d => h8.out.drewN d
                          dsimp only [bgV]
                          clear h8
                          by_cases hinj : inCell m3 j ≠ 0
                          · rw [show decide (inCell m3 j ≠ 0) = true by simpa using hinj] at hcall
                            by_cases hs0 : st j = 0
                            · rw [hs0] at hcs2
                              clear hnj
                              go_wp2_with fail
                              go_quiet (exact hcall.out _)
                              go_wp2_with fail
                              exact ⟨⟨j + 1, by omega, by go_num, hide (h9.out _)⟩, by simp [intOf]; omega⟩
                            · have hgs : g j ≠ st j := fun hgs => hnj ⟨hinj, hgs, by omega⟩
                              have hgs2 : ((g j : Int) == (st j : Int)) = false := by simp; omega
                              have hsp0 : (0 : Int) < (st j : Int) := by omega
                              clear hnj hgs hs0
                              generalize (g j : Int) = gj at *
                              generalize (st j : Int) = sj at *
                              have hsp1 : decide (0 < sj) = true := decide_eq_true hsp0
                              go_wp2_with fail
                              go_quiet (exact hcall.out _)
                              go_wp2_with fail
                              exact ⟨⟨j + 1, by omega, by go_num, hide (h9.out _)⟩, by simp [intOf]; omega⟩
                          · rw [show decide (inCell m3 j ≠ 0) = false by simpa using hinj] at hcall
                            clear hnj
                            go_wp2_with fail
                            go_quiet (exact hcall.out _)
                            go_wp2_with fail
                            exact ⟨⟨j + 1, by omega, by go_num, hide (h9.out _)⟩, by simp [intOf]; omega⟩
                        · go_wp2_with fail
                          go_meet
                          case rel => exact ⟨rfl, h8⟩
                    · go_wp2_with fail
                      go_meet
                      case rel => exact ⟨rfl, h7⟩
                  case rest =>
                    obtain ⟨rfl, h8⟩ := hcut
                    clear h7 hno
                    cases dn with
                    | false =>
                      go_wp2_with fail
                      go_meet
                      case rel => exact ⟨m3, fb, f, st, gb2, some g, db, d3, r, hmb.out, rfl, rfl, rfl, by omega, Q3, h8⟩
                    | true =>
                      obtain ⟨hdl, hdp⟩ := hdone.out rfl
                      have hlf := drain_left h8.out (u := 4) rfl (by rw [hdl]; decide)
                      rw [show d3.left.length = 0 by rw [hdl]; rfl] at hlf
                      replace hlf := hide hlf
                      replace hdl := hide hdl
                      replace hdp := hide hdp
                      clear h8
                      go_wp2_with fail
                      refine hlf.out.mono ?_
                      rintro e w9 ⟨la, lc, rfl, h9⟩
                      have hnw := hide (retire_new h9 n)
                      clear h9 hlf
                      go_wp2_with fail
                      refine hnw.out.mono ?_
                      rintro e w10 ⟨b10, wb10, rfl, h10⟩
                      have h11 := hide (R.ldNewDr h10)
                      clear h10 hnw
                      go_wp2_with fail
                      go_meet
                      case rel => exact ⟨m3, fb, f, st, gb2, none, b10, _, r, hmb.out, rfl, rfl, rfl, by omega, Q3.fresh hdl.out hdp.out wb10, h11⟩
      case rest =>
        obtain ⟨m2, fb2, f2, st2, gb2, bg2, db2, d2, r2, hmb, rfl, rfl, rfl, hr2, Q2, h2⟩ := hcut
        clear hR Q
        obtain ⟨tv, wv, hb⟩ := h2.out.memHdr (t := 1) rfl
        have hft := memR_fault h2.out (t := 1) rfl
        rw [Q2.fault] at hft
        replace hft := hide hft
        have hsp := memR_spare h2.out (t := 1) rfl
        have hwt := mem_waiting h2.out (t := 1) rfl
        have hsum := Q2.pool.count.trans Q2.room
        rw [List.length_append] at hsum
        have hlf := drain_left h2.out (u := 4) rfl (by omega)
        rw [hmb] at hb hwt
        generalize (freeTo m2.ss m2.ss.length).length = sp at *
        generalize m2.waiting.length = wl at *
        generalize d2.left.length = dl at *
        replace hsp := hide hsp
        replace hwt := hide hwt
        replace hlf := hide hlf
        clear h2
        have hbounds : sp ≤ 40 ∧ wl ≤ 40 ∧ dl ≤ 40 := by omega
        have hne : ((sp : Int) + wl + dl != 40) = false := by simp; omega
        replace hsum := hide hsum
        replace hmb := hide hmb
        go_wp2_with fail
        refine hft.out.mono ?_
        rintro e w5 ⟨rfl, rfl⟩
        go_wp2_with fail
        refine hsp.out.mono ?_
        rintro e w5 ⟨rfl, rfl⟩
        go_wp2_with fail
        refine hwt.out.mono ?_
        rintro e w5 ⟨rfl, rfl⟩
        go_wp2_with fail
        refine hlf.out.mono ?_
        rintro e w5 ⟨la, lc, rfl, h3⟩
        replace h3 := hide h3
        clear hft hsp hwt hlf hb
        go_wp2_with fail
        exact ⟨⟨k + 1, by omega, by go_num, m2, fb2, f2, st2, gb2, bg2, db2, d2, r2, hmb.out, rfl, rfl, rfl, hr2, Q2, h3⟩, by simp [intOf]; omega⟩
    ·
      as_aux_lemma =>
      obtain rfl : k = acts.length := by omega
      have hb150 : acts.length ≤ 150 := hl
      go_wp2_with fail
      go_loopw [226] (fun i wr => ∃ j : Nat, j ≤ n ∧ i = .int .i64 j ∧ ∃ m' f', m'.b = m.b ∧ DI n acts.length m' f' st bg d ∧ (∀ i, i < j → inCell m' i = 0) ∧ Hid (R (ld n w m' (sa + 1) sa fb f st gb bg db d) wr)) (fun i _ => n - (intOf i).toNat)
      case atStart => exact ⟨0, by omega, rfl, m, f, rfl, Q, fun i hi => absurd hi (Nat.not_lt_zero _), hR⟩
      case round =>
        obtain ⟨j, hjn, rfl, m', f', hmb, Q2, hz, h2⟩ := hrel
        clear hR
        by_cases hlt2 : j < n
        · have hlv := hide (qsbr_leave h2.out j)
          go_wp2_with fail
          refine hlv.out.mono ?_
          rintro e w5 ⟨b5, rfl, h5⟩
          have hst := gone_step h5 (t := 1) (u := (ld n w m' (sa + 1) sa fb f st gb bg db d).length) (k := j) (app_get rfl) app_last (by rw [Q2.base.wk]; exact hlt2)
          rw [hmb] at hst
          replace hst := hide hst
          clear hlv h5 h2
          go_wp2_with fail
          refine hst.out.mono ?_
          rintro e w6 ⟨rfl, h6⟩
          rw [setL _ _ (by rw [ld_len]; omega), ld_setM] at h6
          have h7 := hide h6.left
          have Q3 := Q2.gone hlt2
          have hlen := Q2.base.len
          clear hst h6
          go_wp2_with fail
          refine ⟨⟨j + 1, by omega, by go_num, goneStep m' j, _, hmb, Q3, ?_, h7⟩, by simp [intOf]; omega⟩
          intro i hi
          unfold inCell goneStep
          dsimp only
          rw [getD_setI]
          split
          · rfl
          · exact hz i (by omega)
        · obtain rfl : n = j := by omega
          have hF := Q2.out (by omega) hz
          clear Q Q2 hz
          go_wp2_with fail
          go_loopw [10, 240] (fun dv i wr => ∃ j : Nat, j ≤ 2 ∧ i = .int .i64 j ∧ ∃ m3 db3 d3, m3.b = m.b ∧ dv = .pointer (some ⟨db3, 0, none⟩) ∧ DF n m3 d3 ∧ (1 ≤ j → d3.taken = false) ∧ (2 ≤ j → m3.waiting = []) ∧ Hid (∃ bg3, R (ld n w m3 (sa + 1) sa fb f st gb bg3 db3 d3) wr)) (fun _ i _ => 2 - (intOf i).toNat)
          case atStart => exact ⟨0, by omega, rfl, m', db, d, hmb, rfl, hF, fun h => by omega, fun h => by omega, hide ⟨bg, h2.out⟩⟩
          case round =>
            obtain ⟨j, hj, rfl, m3, db3, d3, hm3, rfl, hF3, ht, hwt, h3⟩ := hrel
            clear hF h2
            obtain ⟨bg3, h3⟩ := h3.out
            by_cases hj2 : j < 2
            · rcases fin_drain hF3 with ⟨c, m4, d4, hfin, hfr, hw4, hb4⟩ | ⟨hfin, ht3, hw3⟩
              · have hf := fin_R drainK h3 (t := 1) (u := 4) rfl rfl (by decide) hF3.inv 200 (by decide) hfin
                rw [ld_setM, ld_setD, hm3] at hf
                dsimp only at hf
                replace hf := hide hf
                replace hw4 := hide hw4
                replace hb4 := hide (hb4.trans hm3)
                clear h3 hfin
                go_wp2_with fail
                refine hf.out.mono ?_
                rintro e w5 ⟨rfl, h5⟩
                have hnw := hide (retire_new h5 n)
                clear hf h5
                go_wp2_with fail
                refine hnw.out.mono ?_
                rintro e w6 ⟨b6, wb6, rfl, h6⟩
                have h7 := hide (R.ldNewDr h6)
                clear h6 hnw
                go_wp2_with fail
                exact ⟨⟨j + 1, by omega, by go_num, m4, b6, _, hb4.out, rfl, hfr wb6, fun _ => rfl, fun h2 => hw4.out (ht (by omega)), hide ⟨_, h7.out⟩⟩, by simp [intOf]; omega⟩
              · have hf := fin_R drainK h3 (t := 1) (u := 4) rfl rfl (by decide) hF3.inv 200 (by decide) hfin
                rw [ld_setM, ld_setD, hm3] at hf
                dsimp only at hf
                replace hf := hide hf
                replace ht3 := hide ht3
                replace hw3 := hide hw3
                replace hm3 := hide hm3
                clear h3 hfin
                go_wp2_with fail
                refine hf.out.mono ?_
                rintro e w5 ⟨rfl, h5⟩
                replace h5 := hide h5
                clear hf
                go_wp2_with fail
                exact ⟨⟨j + 1, by omega, by go_num, m3, db3, d3, hm3.out, rfl, hF3, fun _ => ht3.out, fun _ => hw3.out, hide ⟨_, h5.out⟩⟩, by simp [intOf]; omega⟩
            · have htk := ht (by omega)
              have hwt0 := hwt (by omega)
              have hcount := hF3.pool.count.trans hF3.room
              rw [hwt0, (hF3.early htk).1] at hcount
              replace h3 := hide h3
              go_wp2_with fail
              refine (law07_awake _).mono ?_
              rintro e w10 ⟨rfl, hb⟩
              have h10 := h3.out.below hb
              obtain ⟨tv, wv, hbk⟩ := h10.memHdr (t := 1) rfl
              rw [hm3] at hbk
              have hsp := memR_spare h10 (t := 1) rfl
              rw [show (freeTo m3.ss m3.ss.length).length = 40 by simpa using hcount] at hsp
              have hft := memR_fault h10 (t := 1) rfl
              rw [hF3.fault] at hft
              replace hsp := hide hsp
              replace hft := hide hft
              have hbel2 : Below w.heap.size w w10 := h10.done
              clear h3 h10 hb htk hwt0 hcount hm3
              go_wp2_with fail
              refine hsp.out.mono ?_
              rintro e w11 ⟨rfl, rfl⟩
              go_wp2_with fail
              refine hft.out.mono ?_
              rintro e w11 ⟨rfl, rfl⟩
              go_wp2_with fail
              go_ret
              exact ⟨rfl, hbel2⟩

set_option maxRecDepth 100000 in
set_option maxHeartbeats 800000 in
theorem law07_waitsMany (x0 : Int) (hx0 : 0 ≤ x0) (hx1 : x0 ≤ 255) (a : Option Addr) (len cap : Nat) (h : 150 < len) (hl : len ≤ 9223372036854775807) (w : World) :
    Calls Try.prog 6 #[.int .u8 x0, .slice a len cap] w fun e w' => e = .returned (.bool true) ∧ Below w.heap.size w w' := by
  obtain ⟨n, hn⟩ : ∃ n : Nat, x0 % 4 + 1 = n := ⟨(x0 % 4 + 1).toNat, by omega⟩
  have hn1 : 1 ≤ n := by omega
  have hn8 : n ≤ 8 := by omega
  have hmd := hide (law05_made (R.start w) 40 n (by decide) (by decide) hn1 hn8)
  go_enter Try.func6, Try.ntmps6
  go_wp2_with fail
  refine hmd.out.mono ?_
  rintro e w1 ⟨b, cb, lb, ab, rfl, R1⟩
  replace R1 := hide R1
  clear hmd
  go_wp2_with fail
  refine (law07_awake _).mono ?_
  rintro e w7 ⟨rfl, hb7⟩
  have hbel7 := (R1.out.below hb7).done
  go_wp2
  go_ret
  exact ⟨rfl, hbel7⟩
end Go.Proofs.Ytcoaemjoanbemaa
