/- quietuslaw10, quietusref10: Awake, short, Get, Laid. Condition (Laid): the pairs are few. -/
import Derived.Test.YtkknmecmhefofaaLa10
import Derived.Test.YtkknmecmhefofaaLa06
import Derived.Test.YtkknmecmhefofaaLa09
import Derived.Deep.DeepCutAuto
import Derived.Deep.CutBlock
import Derived.Deep.RegionHeld3
namespace Go.Proofs.Ytkknmecmhefofaa
open Go.RowKit

def law10_st (b cb lb ab : Nat) : MemS × GetS := ({ memNew b cb lb ab 1 1 with cells := [1, 0, 0, 0] }, ⟨0, ⟨#[97]⟩, 3, ⟨0, true, 1⟩, some { walk0 3 (sumOf ⟨#[97]⟩) ⟨#[97]⟩ with looking := true }⟩)
theorem law10_run (b cb lb ab : Nat) : finM (frReady fun _ _ => true) (frStep getStep) 20 0 (memNew b cb lb ab 1 1, get0 0 ⟨#[97]⟩) = (5, true, law10_st b cb lb ab) := by kernel_rfl
set_option maxRecDepth 100000 in
set_option maxHeartbeats 1600000 in
theorem law10_awake (w : World) : Calls Try.prog 76 #[] w fun e w' => e = .returned (.bool true) ∧ Below w.heap.size w w' := by
  have hn := hide (law05_made (R.start w) 1 1 (by decide) (by decide) (by decide) (by decide))
  go_enter Try.func76, Try.ntmps76
  go_wp2_with fail
  refine hn.out.mono ?_
  rintro e w1 ⟨b, cb, lb, ab, rfl, h1⟩
  clear hn
  have hnw := hide (get_new h1 0 ⟨#[97]⟩)
  clear h1
  go_wp2_with fail
  refine hnw.out.mono ?_
  rintro e w2 ⟨b2, rfl, h2⟩
  have hfin := hide (fin_R getK h2 (t := 1) (u := 2) rfl rfl (by decide) (GetOk.start _ 0 ⟨#[97]⟩ (by show (0 : Nat) < 1; decide) (by show (1 : Nat) ≤ 9223372036854775807; decide)) 20 (by decide) (law10_run b cb lb ab))
  clear hnw h2
  go_wp2_with fail
  refine hfin.out.mono ?_
  rintro e w3 ⟨rfl, h3⟩
  clear hfin
  have hf : Hid (Calls _ _ _ _ (Does _ (.tuple #[.string ⟨#[]⟩, .bool false]))) := hide (get_val h3 (u := 2) rfl)
  clear h3
  go_wp2_with fail
  refine hf.out.mono ?_
  rintro e w4 ⟨rfl, h4⟩
  replace h4 := hide h4
  clear hf
  go_wp2_with fail
  refine (law06_awake _).mono ?_
  rintro e w5 ⟨rfl, hb5⟩
  have h5 := hide (h4.out.below hb5)
  clear h4 hb5
  go_wp2_with fail
  refine (law09_awake _).mono ?_
  rintro e w6 ⟨rfl, hb6⟩
  have hbel := (h5.out.below hb6).done
  go_wp2
  go_ret
  exact ⟨rfl, hbel⟩

set_option maxHeartbeats 800000 in
theorem ref10_get {w : World} {v : Value} {ps : List Pk} (hv : FrAt w w.heap.size 2 v (ps.map pk10)) (key : ByteArray) :
    Calls Try.prog 83 #[v, .string key] w fun e w' => e = .returned (.tuple #[.string (refGet key ps).1, .bool (refGet key ps).2]) ∧ w = w' := by
  obtain ⟨a, cap, rfl, hlen, hr⟩ := hv
  rw [List.length_map] at *
  go_enter Try.func83, Try.ntmps83
  replace hr := hide hr
  go_wp2_with fail
  go_loop [6] (fun i => ∃ k : Nat, k ≤ ps.length ∧ i = .int .i64 k ∧ Hid (refGet key ps = refGet key (ps.drop k))) (fun i => ps.length - (intOf i).toNat)
  case atStart => exact ⟨0, Nat.zero_le _, rfl, hide rfl⟩
  case round =>
    obtain ⟨k, hk, rfl, hg⟩ := hrel
    by_cases hlt : k < ps.length
    · obtain ⟨b, off, rfl, hbs, hc⟩ := hr.out k hlt
      have hget : (ps.map pk10).getD k [] = pk10 (ps.getD k pk0) := by simp [hlt]
      rw [hget] at hc
      obtain ⟨y0, e0, c0⟩ := hc 0 (by decide)
      obtain ⟨y1, e1, c1⟩ := hc 1 (by decide)
      obtain rfl : Value.string (ps.getD k pk0).key = y0 := Option.some.inj e0
      obtain rfl : Value.string (ps.getD k pk0).val = y1 := Option.some.inj e1
      simp only [Nat.add_zero] at c0
      have hd : ps.drop k = ps.getD k pk0 :: ps.drop (k + 1) := by
        rw [List.drop_eq_getElem_cons hlt]
        simp [hlt]
      have hg2 := hg.out
      rw [hd] at hg2
      clear hc hget e0 e1 hd
      generalize ps.getD k pk0 = p at *
      obtain ⟨pk, pv⟩ := p
      dsimp only at c0 c1
      by_cases hky : pk = key
      · rw [refGet, if_pos hky] at hg2
        subst hky
        replace hg2 := hide hg2
        clear hg
        go_wp2
        go_ret2
        exact ⟨by rw [hg2.out]; rfl, rfl⟩
      · have hk1 : (pk.toList == key.toList) = false := by
          rw [beq_eq_false_iff_ne]
          exact fun x => hky (ByteArray.toList_inj' x)
        rw [refGet, if_neg hky] at hg2
        replace hg2 := hide hg2
        clear hky hg
        go_wp2
        go_round
        case rel => exact ⟨k + 1, by omega, by go_num, hg2⟩
        case measure => simp [intOf]; omega
    · obtain rfl : k = ps.length := by omega
      have hg2 := hg.out
      rw [List.drop_length, refGet] at hg2
      replace hg2 := hide hg2
      clear hg
      go_wp2
      go_ret2
      exact ⟨by rw [hg2.out]; rfl, rfl⟩
def ShortPost (n : Nat) (w : World) (e : Ending) (w' : World) : Prop := ∃ x : Bool, e = .returned (.bool x) ∧ (x = true → n ≤ 60) ∧ Below w.heap.size w w'
set_option maxHeartbeats 1600000 in
theorem law10_short {w : World} {v : Value} {ps : List Pk} (hv : FrAt w w.heap.size 2 v (ps.map pk10)) : Calls Try.prog 75 #[v] w (ShortPost ps.length w) := by
  obtain ⟨a, cap, rfl, hlen, _⟩ := id hv
  rw [List.length_map] at *
  replace hv := hide hv
  go_enter Try.func75, Try.ntmps75
  go_wp2_with fail
  go_loopw [3, 8] (fun nv i wr => ∃ (k : Nat) (x : Int), k ≤ ps.length ∧ i = .int .i64 k ∧ nv = .int .i64 x ∧ Hid (Below w.heap.size w wr)) (fun _ i _ => ps.length - (intOf i).toNat)
  case atStart => exact ⟨0, 0, Nat.zero_le _, rfl, rfl, hide (Below.refl _ _)⟩
  case round =>
    obtain ⟨k, x, hk, rfl, rfl, hb⟩ := hrel
    by_cases hlt : k < ps.length
    · obtain ⟨_, _, hv2, _, hr⟩ := hv.out.below hb.out
      obtain ⟨vb, voff, ha, hvb, hc⟩ := hr k (by simpa using hlt)
      simp at hv2
      obtain ⟨rfl, rfl⟩ := hv2
      subst ha
      have hget : (ps.map pk10).getD k [] = pk10 (ps.getD k pk0) := by simp [hlt]
      rw [hget] at hc
      obtain ⟨y0, e0, c0⟩ := hc 0 (by decide)
      obtain ⟨y1, e1, c1⟩ := hc 1 (by decide)
      obtain rfl : Value.string (ps.getD k pk0).key = y0 := Option.some.inj e0
      obtain rfl : Value.string (ps.getD k pk0).val = y1 := Option.some.inj e1
      simp only [Nat.add_zero] at c0
      have hb2 := hide (hb.out.alloc hb.out.size (.cells #[.string (ps.getD k pk0).key, .string (ps.getD k pk0).val] 171))
      clear hr hc hget e0 e1
      generalize ps.getD k pk0 = p at *
      obtain ⟨pk, pv⟩ := p
      dsimp only at c0 c1 hb2
      go_wp2_with fail
      exact ⟨⟨k + 1, _, by omega, by go_num, rfl, hb2⟩, by simp [intOf]; omega⟩
    · obtain rfl : k = ps.length := by omega
      by_cases h60 : ps.length ≤ 60
      · go_wp2
        go_ret
        exact ⟨_, rfl, fun _ => h60, hb.out⟩
      · go_wp2
        go_ret
        exact ⟨false, rfl, (fun h => by cases h), hb.out⟩

/-- What Laid's loop keeps. -/
def RelL (w : World) (b cb lb ab D : Nat) (ps : List Pk) (n j : Nat) (wr : World) : Prop := R [BaseK w, MemK (laidM b cb lb ab ps n j), StK D #[.int .i64 n, .int .i64 5] 67] wr
set_option maxRecDepth 100000 in
set_option maxHeartbeats 400000 in
theorem law10_laid {w : World} {v : Value} {ps : List Pk} (hv : FrAt w w.heap.size 2 v (ps.map pk10)) (hin : ∀ p ∈ ps, okPk p) (hl : ps.length ≤ 60) (k : Int) (hk0 : 0 ≤ k) (hk1 : k ≤ 255) :
    Calls Try.prog 77 #[.int .u8 k, .int .i64 2, v] w fun e w' => ∃ b cb lb ab n : Nat, e = .returned (.pointer (some ⟨b, 0, none⟩)) ∧ R [BaseK w, MemK (laidM b cb lb ab ps n ps.length)] w' ∧ 0 < n ∧ powB n = true := by
  obtain ⟨a, cap, rfl, hlen, _⟩ := id hv
  rw [List.length_map] at *
  replace hv := hide hv
  go_enter Try.func77, Try.ntmps77
  go_upto_region 1 with fail
  go_cut [7] (fun p wx => ∃ b cb lb ab : Nat, p = .pointer (some ⟨b, 0, none⟩) ∧ Hid (R [BaseK w, MemK (memNew b cb lb ab (max ps.length 1) 2)] wx))
  case first =>
    have hmd := law05_made (R.start w) (max ps.length 1) 2 (by omega) (by omega) (by decide) (by decide)
    by_cases h1 : 1 ≤ ps.length
    · have e : max ps.length 1 = ps.length := by omega
      rw [e] at hmd
      replace hmd := hide hmd
      have h1i : (1 : Int) ≤ ps.length := by omega
      go_wp2_with fail
      refine hmd.out.mono ?_
      rintro e w1 ⟨b, cb, lb, ab, rfl, R1⟩
      replace R1 := hide R1
      go_wp2_with fail
      go_meet
      case rel => exact ⟨_, cb, lb, ab, rfl, by rw [e]; exact R1⟩
    · have e : max ps.length 1 = 1 := by omega
      rw [e] at hmd
      replace hmd := hide hmd
      have h1i : ¬ (1 : Int) ≤ ps.length := by omega
      go_wp2_with fail
      refine hmd.out.mono ?_
      rintro e w1 ⟨b, cb, lb, ab, rfl, R1⟩
      replace R1 := hide R1
      go_wp2_with fail
      go_meet
      case rel => exact ⟨_, cb, lb, ab, rfl, by rw [e]; exact R1⟩
  case rest =>
    obtain ⟨b, cb, lb, ab, rfl, R1⟩ := hcut
    obtain ⟨n, hn, hn1, hn2, hp⟩ : ∃ n : Nat, wrap64 (2 ^ (k % 6).toNat) = (n : Int) ∧ 0 < n ∧ n ≤ 32 ∧ powB n = true := by
      rcases (by omega : k % 6 = 0 ∨ k % 6 = 1 ∨ k % 6 = 2 ∨ k % 6 = 3 ∨ k % 6 = 4 ∨ k % 6 = 5) with e | e | e | e | e | e <;> rw [e]
      · exact ⟨1, by unfold wrap64; decide, by decide, by decide, by decide⟩
      · exact ⟨2, by unfold wrap64; decide, by decide, by decide, by decide⟩
      · exact ⟨4, by unfold wrap64; decide, by decide, by decide, by decide⟩
      · exact ⟨8, by unfold wrap64; decide, by decide, by decide, by decide⟩
      · exact ⟨16, by unfold wrap64; decide, by decide, by decide, by decide⟩
      · exact ⟨32, by unfold wrap64; decide, by decide, by decide, by decide⟩
    have htb : Hid (Calls _ _ _ _ (Does [BaseK w, MemK (tableM (memNew b cb lb ab (max ps.length 1) 2) n)] (.tuple #[.int .i64 1, .int .i64 0]))) := hide (mem_table R1.out (t := 1) rfl n hp (by simp [memNew]; omega))
    replace hp := hide hp
    go_wp2_with fail
    refine htb.out.mono ?_
    rintro e w2 ⟨rfl, h2⟩
    have hds : Calls _ _ _ _ (Does [BaseK w, MemK (tableM (memNew b cb lb ab (max ps.length 1) 2) n)] (.tuple #[descV ((n : Int), 5), .bool true])) := mem_desc h2 (t := 1) rfl 1
    rw [descV] at hds
    replace hds := hide hds
    clear htb h2 R1
    go_wp2_with fail
    refine hds.out.mono ?_
    rintro e w3 ⟨rfl, h3⟩
    have h4 := h3.new #[.int .i64 n, .int .i64 5] 67
    have hst : Calls _ _ _ _ (Does _ (.int .i64 0)) := memR_store h4 (t := 1) rfl 1 1 (by decide) (by simp [tableM, memNew]; omega) ⟨by decide, by decide⟩
    have hst' : Hid (Calls _ _ _ _ (Does [BaseK w, MemK (laidM b cb lb ab ps n 0), StK w3.heap.size #[.int .i64 n, .int .i64 5] 67] (.int .i64 0))) := hide (by
      have e := laidM_0 b cb lb ab ps n
      rw [← e]
      exact hst)
    obtain ⟨tv, wv, hmh⟩ := R.memHdr h4 (t := 1) rfl
    dsimp only [tableM, memNew] at hmh
    clear hds h3 h4 hst
    go_wp2_with fail
    refine hst'.out.mono ?_
    rintro e w4 ⟨rfl, h5⟩
    have h6 : Hid (RelL w b cb lb ab w3.heap.size ps n 0 w4) := hide h5
    clear hst' h5 hmh
    go_wp2_with fail
    generalize w3.heap.size = D at *
    go_loopw [13] (fun i wr => ∃ j : Nat, j ≤ ps.length ∧ i = .int .i64 ((ps.length : Int) - 1 - j) ∧ RelL w b cb lb ab D ps n j wr)
      (fun i _ => (intOf i + 1).toNat)
    case atStart => exact ⟨0, Nat.zero_le _, by simp, h6.out⟩
    case round =>
      obtain ⟨j, hj, rfl, h2⟩ := hrel
      clear h6
      by_cases hlt : j < ps.length
      · obtain ⟨q, hq⟩ : ∃ q : Nat, ps.length - 1 - j = q := ⟨_, rfl⟩
        have hqi : (ps.length : Int) - 1 - j = (q : Int) := by omega
        have hql : q < ps.length := by omega
        rw [hqi]
        have hbel := R.done h2
        obtain ⟨_, _, hv2, _, hr⟩ := hv.out.below hbel
        obtain ⟨vb, voff, ha, hvb, hc0⟩ := hr q (by simpa using hql)
        simp at hv2
        obtain ⟨rfl, rfl⟩ := hv2
        subst ha
        have hget : (ps.map pk10).getD q [] = pk10 (ps.getD q pk0) := by simp [hql]
        rw [hget] at hc0
        have hxin := hin (ps.getD q pk0) (by simp [hql])
        have hsx := sfx_succ ps j hlt
        rw [hq] at hsx
        have hcs := cellsP_set ps n j hlt hn1
        rw [hq] at hcs
        obtain ⟨y0, e0, c0⟩ := hc0 0 (by decide)
        obtain ⟨y1, e1, c1⟩ := hc0 1 (by decide)
        obtain rfl : Value.string (ps.getD q pk0).key = y0 := Option.some.inj e0
        obtain rfl : Value.string (ps.getD q pk0).val = y1 := Option.some.inj e1
        simp only [Nat.add_zero] at c0
        obtain ⟨tv, wv, hmh⟩ := R.memHdr h2 (t := 1) rfl
        have hD := R.st h2 (t := 2) rfl
        generalize ps.getD q pk0 = p at *
        obtain ⟨pk, pv⟩ := p
        obtain ⟨hx1, hx2⟩ := hxin
        dsimp only at c0 c1 hx1 hx2
        dsimp only [laidM, memNew] at hmh
        have hB : bkt n ⟨pk, pv⟩ < n := Nat.mod_lt _ hn1
        have hsl := sumOf_lt pk
        have hsm := hide fun W => ref01_sum pk hx1 W
        have hbe : bucketOf (sumOf pk : Nat) n = ((bkt n ⟨pk, pv⟩ : Nat) : Int) := bucketOf_nat pk n hp.out
        have hbk := fun W => ref01_bucket (sumOf pk) n (by omega) (by omega) W
        rw [hbe] at hbk
        replace hbk := hide hbk
        obtain ⟨B, hBe⟩ : ∃ B, bkt n ⟨pk, pv⟩ = B := ⟨_, rfl⟩
        rw [hBe] at hB hbk hcs
        have hhd := cellsP_get ps n j B hB
        have hndp : ndP n (sfx ps (j + 1)) = ⟨pk, pv, sumOf pk, hdP n B (sfx ps j)⟩ := by rw [hsx, ndP, hBe]
        have hhl := hdP_le n B (sfx ps j)
        rw [sfx_len ps j hj] at hhl
        have hcl : (cellsP ps n j).length = 5 + n := by simp [cellsP]; omega
        have hld := fun m => memR_load (R.drewN h2 m) (t := 1) rfl (5 + (B : Int)) (by omega) (by show (5 + (B : Int)) < ((cellsP ps n j).length : Int); omega)
        rw [show (5 + (B : Int)).toNat = 5 + B by omega, show (laidM b cb lb ab ps n j).cells = cellsP ps n j from rfl, hhd] at hld
        replace hld : Hid (∀ m, Calls Try.prog 89 #[.pointer (some ⟨cb, 0, none⟩), .int .i64 (5 + (B : Int))] (wr.drewN m) fun e w' => e = .returned (.tuple #[.int .u64 (hdP n B (sfx ps j)), .int .i64 0]) ∧ wr.drewN m = w') := hide hld
        have hal := fun m => memR_alloc (R.drew (R.drewN h2 m)) (t := 1) rfl ⟨pk, pv, sumOf pk, hdP n B (sfx ps j)⟩ ⟨⟨hhl.1, by dsimp only; omega⟩, by dsimp only; omega, by dsimp only; omega⟩ (show (0 : Nat) ≤ 1000000 by decide) j (ssP_free ps (max ps.length 1) n j (by omega))
        rw [show hnd (laidM b cb lb ab ps n j).ss j = (j : Int) + 1 by
          have : (laidM b cb lb ab ps n j).ss = ssP ps (max ps.length 1) n j := rfl
          rw [hnd, this, ssP_new _ _ _ _ _ (Nat.le_refl j)]; rfl] at hal
        have hss := ssP_set ps (max ps.length 1) n j (by omega)
        rw [hndp] at hss
        have hal' : Hid (∀ m, Calls Try.prog 13 #[.pointer (some ⟨ab, 0, none⟩), .agg #[.string pk, .string pv, .int .u32 (sumOf pk), .int .u64 (hdP n B (sfx ps j))]] (wr.drewN m).drew (Does [BaseK w, MemK { laidM b cb lb ab ps n j with ss := ssP ps (max ps.length 1) n (j + 1) }, StK D #[.int .i64 n, .int .i64 5] 67] (.tuple #[.int .u64 ((j : Int) + 1), .int .i64 0]))) := hide (fun m => by
          have := hal m
          have e : (laidM b cb lb ab ps n j).ss = ssP ps (max ps.length 1) n j := rfl
          rw [e, ssP_new _ _ _ _ _ (Nat.le_refl j), hss] at this
          exact this)
        have hst := fun (W : World) (hW : R [BaseK w, MemK { laidM b cb lb ab ps n j with ss := ssP ps (max ps.length 1) n (j + 1) }, StK D #[.int .i64 n, .int .i64 5] 67] W) => memR_store hW (t := 1) rfl (5 + (B : Int)) ((j : Int) + 1) (by omega) (by show (5 + (B : Int)) < ((cellsP ps n j).length : Int); omega) ⟨by omega, by omega⟩
        have hst' : Hid (∀ W, R [BaseK w, MemK { laidM b cb lb ab ps n j with ss := ssP ps (max ps.length 1) n (j + 1) }, StK D #[.int .i64 n, .int .i64 5] 67] W → Calls Try.prog 27 #[.pointer (some ⟨cb, 0, none⟩), .int .i64 (5 + (B : Int)), .int .u64 ((j : Int) + 1)] W (Does [BaseK w, MemK (laidM b cb lb ab ps n (j + 1)), StK D #[.int .i64 n, .int .i64 5] 67] (.int .i64 0))) := hide (fun W hW => by
          have := hst W hW
          rw [show (5 + (B : Int)).toNat = 5 + B by omega] at this
          have e : ({ laidM b cb lb ab ps n j with ss := ssP ps (max ps.length 1) n (j + 1) } : MemS).cells.set (5 + B) ((j : Int) + 1) = cellsP ps n (j + 1) := hcs
          rw [e] at this
          exact this)
        have hcut0 : cellOf (blk wr b) 0 = some (.pointer (some ⟨cb, 0, none⟩)) := by rw [hmh]; rfl
        have hcut2 : cellOf (blk wr b) 2 = some (.pointer (some ⟨ab, 0, none⟩)) := by rw [hmh]; rfl
        have hlb := lt_of_blk hmh
        have e5 : IntKind.i64.wrap (5 + (B : Int)) = 5 + (B : Int) := by rw [IntKind.wrap_i64]; omega
        obtain ⟨S, hS⟩ : ∃ S : Int, (sumOf pk : Int) = S := ⟨_, rfl⟩
        rw [hS] at hsm hbk hal'
        obtain ⟨H, hH⟩ : ∃ H : Int, hdP n B (sfx ps j) = H := ⟨_, rfl⟩
        rw [hH] at hld hal'
        have hj1 : ((j : Int) + 1 == 0) = false := by simp; omega
        have hqi2 : Hid ((q : Int) - 1 = (ps.length : Int) - 1 - ((j + 1 : Nat) : Int)) := hide (by omega)
        replace hqi := hide hqi
        replace hbel := hide hbel
        clear hal hss hst hcs hndp hhd hhl hbe hBe hsx hc0 hget e0 e1 hsl hcl hS hH hr hp h2
        go_wp2_with fail
        refine (hsm.out _).mono ?_
        rintro e w5 ⟨rfl, rfl⟩
        go_wp2_with fail
        go_quiet (exact quiet_left (hbk.out _))
        go_wp2_with fail
        refine (hld.out _).mono ?_
        rintro e w5 ⟨rfl, rfl⟩
        have d0 : cellOf (blk (wr.drewN nq) vb) (voff + q * 2) = some (.string pk) := c0
        have d1 : cellOf (blk (wr.drewN nq) vb) (voff + q * 2 + 1) = some (.string pv) := c1
        have d2 : cellOf (blk (wr.drewN nq) b) 2 = some (.pointer (some ⟨ab, 0, none⟩)) := hcut2
        go_wp2_with fail
        go_region_held3 (fun w' => cellOf (blk w' b) 2 = some (.pointer (some ⟨ab, 0, none⟩)) ∧ cellOf (blk w' vb) (voff + q * 2) = some (.string pk) ∧ cellOf (blk w' vb) (voff + q * 2 + 1) = some (.string pv)) (first | exact ⟨d2, d0, d1⟩ | exact ⟨km2, k0, k1⟩)
          (first | (go_at_call 13; refine (hal'.out _).mono ?_; rintro e w6 ⟨rfl, h6⟩; obtain ⟨tv4, wv4, hmh4⟩ := h6.memHdr (t := 1) rfl; have hmh5 : blk w6 b = some (.cells #[.pointer (some ⟨cb, 0, none⟩), .pointer (some ⟨lb, 0, none⟩), .pointer (some ⟨ab, 0, none⟩), .int .i64 2, tv4, wv4] 49 (0, 0)) := hmh4; clear hmh4; have km2 : cellOf (blk w6 b) 2 = some (.pointer (some ⟨ab, 0, none⟩)) := (by rw [hmh5]; rfl); have hb5 := ((R.done h6).block vb hvb).trans (hbel.out.block vb hvb).symm; have k0 : cellOf (blk w6 vb) (voff + q * 2) = some (.string pk) := (by rw [show blk w6 vb = blk wr vb from hb5]; exact c0); have k1 : cellOf (blk w6 vb) (voff + q * 2 + 1) = some (.string pv) := (by rw [show blk w6 vb = blk wr vb from hb5]; exact c1); clear hb5))
        have hs7 := hide (hst'.out _ h6)
        clear hst' h6 hal' d0 d1 d2 c0 c1 hcut0 hcut2 km2 k0 k1
        go_wp2_with fail
        refine hs7.out.mono ?_
        rintro e w7 ⟨rfl, h8⟩
        have h9 : Hid (RelL w b cb lb ab D ps n (j + 1) w7) := hide h8
        clear hs7 h8
        go_wp2_with fail
        exact ⟨⟨j + 1, by omega, by rw [hqi2.out], h9.out⟩, by simp [intOf]⟩
      · obtain rfl : j = ps.length := by omega
        have hzi : (ps.length : Int) - 1 - ps.length = -1 := by omega
        rw [hzi]
        have h9 := hide (R.left (l := [BaseK w, MemK (laidM b cb lb ab ps n ps.length)]) h2)
        clear h2 hzi
        go_wp2
        go_ret
        exact ⟨b, cb, lb, ab, n, rfl, h9.out, hn1, hp.out⟩
end Go.Proofs.Ytkknmecmhefofaa
