/- quietuslaw09: WalkMeets. No condition. -/
import Derived.Test.YtkknmecmhefofaaLd09
import Derived.Test.YtkknmecmhefofaaHh
import Derived.Deep.RegionHeld3
import Derived.Deep.DeepCutAuto
import Derived.Deep.CutBlock
namespace Go.Proofs.Ytkknmecmhefofaa
open Go.RowKit

def hsM (i : Nat) : List Value := (List.range i).map fun t : Nat => .int .u64 ((t : Int) + 1)
theorem hsM_succ (i : Nat) : hsM i ++ [.int .u64 ((i : Int) + 1)] = hsM (i + 1) := by simp [hsM, List.range_succ]
theorem hsM_get (i k : Nat) (h : k < i) : (hsM i)[k]? = some (.int .u64 ((k : Int) + 1)) := by simp [hsM, h]
theorem conv1 (w : World) (g : Nat) (T : TypeId) (f : Nat × Nat) (k : Nat) (h : k ≤ 100) (hb : blk w g = some (.cells #[.int .u8 (97 + (k : Int))] T f)) :
    (convert 77 9 (.slice (some ⟨g, 0, none⟩) 1 1)).run Try.prog w = .ok (.string (kyM k)) w := by
  have := run_convert_bytes_back (P := Try.prog) w 77 9 5 ⟨g, 0, none⟩ 1 [UInt8.ofNat (97 + k)] Try.underlying77 Try.underlying5 Try.underlying9 (fun j hj => by
    obtain rfl : j = 0 := by simp at hj; omega
    have hadd : (⟨g, 0, none⟩ : Addr).add 0 = ⟨g, 0, none⟩ := by unfold Addr.add; split <;> simp_all
    rw [hadd, cellq, hb, cellOf_cells]
    have e : ((UInt8.ofNat (97 + k)).toNat : Int) = 97 + k := by
      rw [UInt8.toNat_ofNat']
      omega
    simp only [List.getElem_cons_zero, e]
    rfl)
  exact this
/-- What the first two loops of WalkMeets keep. -/
def RelM (w : World) (b cb lb ab made linked : Nat) (v : Value) (wr : World) : Prop := R [BaseK w, MemK (memM b cb lb ab made linked 0), SlK 31 1 v made (hsM made)] wr
/-- What the third one keeps. -/
def RelN (w : World) (b cb lb ab b2 n i : Nat) (v : Value) (wr : World) : Prop := R [BaseK w, MemK (memM b cb lb ab n (n - 1) 1), SlK 31 1 v n (hsM n), WalkK b2 (walkM n i)] wr

/-- Behind the link. -/
def RelP (w : World) (b cb lb ab b2 n a : Nat) (v : Value) (wr : World) : Prop := R [BaseK w, MemK (memP b cb lb ab n a), SlK 31 1 v n (hsM n), WalkK b2 (walkM n (a + 1))] wr
theorem memP_b (b cb lb ab n a : Nat) : (memP b cb lb ab n a).b = b ∧ (memP b cb lb ab n a).cb = cb ∧ (memP b cb lb ab n a).lb = lb ∧ (memP b cb lb ab n a).ab = ab ∧ (memP b cb lb ab n a).gen = 0 := by
  unfold memP; split <;> exact ⟨rfl, rfl, rfl, rfl, rfl⟩
theorem RelP.hdr {w : World} {b cb lb ab b2 n a : Nat} {v : Value} {wr : World} (h : RelP w b cb lb ab b2 n a v wr) : cellOf (blk wr b) 2 = some (.pointer (some ⟨ab, 0, none⟩)) := by
  obtain ⟨tv, wv, hm⟩ := R.memHdr h (t := 1) rfl
  obtain ⟨e1, e2, e3, e4, _⟩ := memP_b b cb lb ab n a
  rw [e1, e2, e3, e4] at hm
  rw [hm]; rfl
theorem RelP.row {w : World} {b cb lb ab b2 n a : Nat} {g gc : Nat} {wr : World} (h : RelP w b cb lb ab b2 n a (.slice (some ⟨g, 0, none⟩) n gc) wr) (k : Nat) (hk : k < n) : cellOf (blk wr g) k = some (.int .u64 ((k : Int) + 1)) := by
  obtain ⟨g2, c2, cur, hv, hg, h1, h2, hc⟩ := R.slRow h (t := 2) rfl (by omega)
  simp at hv
  obtain ⟨rfl, rfl⟩ := hv
  rw [hg]
  exact hc k _ (hsM_get n k hk)
def RelF (w : World) (b cb lb ab b2 n a : Nat) (v : Value) (wr : World) : Prop := R [BaseK w, MemK (memF b cb lb ab n a), SlK 31 1 v n (hsM n), WalkK b2 (walkM n (a + 1))] wr
theorem RelF.hdr {w : World} {b cb lb ab b2 n a : Nat} {v : Value} {wr : World} (h : RelF w b cb lb ab b2 n a v wr) : cellOf (blk wr b) 2 = some (.pointer (some ⟨ab, 0, none⟩)) := by
  obtain ⟨tv, wv, hm⟩ := R.memHdr h (t := 1) rfl
  obtain ⟨e1, e2, e3, e4, _⟩ := memP_b b cb lb ab n a
  have hm' : blk wr (memP b cb lb ab n a).b = some (.cells #[.pointer (some ⟨(memP b cb lb ab n a).cb, 0, none⟩), .pointer (some ⟨(memP b cb lb ab n a).lb, 0, none⟩), .pointer (some ⟨(memP b cb lb ab n a).ab, 0, none⟩), _, tv, wv] _ _) := hm
  rw [e1, e2, e3, e4] at hm'
  rw [hm']; rfl
theorem RelF.row {w : World} {b cb lb ab b2 n a : Nat} {g gc : Nat} {wr : World} (h : RelF w b cb lb ab b2 n a (.slice (some ⟨g, 0, none⟩) n gc) wr) (k : Nat) (hk : k < n) : cellOf (blk wr g) k = some (.int .u64 ((k : Int) + 1)) := by
  obtain ⟨g2, c2, cur, hv, hg, h1, h2, hc⟩ := R.slRow h (t := 2) rfl (by omega)
  simp at hv
  obtain ⟨rfl, rfl⟩ := hv
  rw [hg]
  exact hc k _ (hsM_get n k hk)
theorem walkM_ok (n i : Nat) (h : i ≤ 100) : WalkOk (walkM n i) := by
  cases i with
  | zero => exact WalkOk.start _ _ _
  | succ i => exact ⟨⟨by simp [walkM]; omega, by simp [walkM]; omega⟩⟩
set_option maxRecDepth 100000 in
set_option maxHeartbeats 4000000 in
theorem law09_meets (x y : Int) (hx0 : 0 ≤ x) (hx1 : x ≤ 255) (hy0 : 0 ≤ y) (hy1 : y ≤ 255) (fr : Bool) (w : World) :
    Calls Try.prog 8 #[.int .u8 x, .int .u8 y, .bool fr] w fun e w' => e = .returned (.bool true) ∧ Below w.heap.size w w' := by
  obtain ⟨n, hn⟩ : ∃ k : Nat, x % 8 + 2 = k := ⟨(x % 8 + 2).toNat, by omega⟩
  have hn2 : 2 ≤ n := by omega
  have hn9 : n ≤ 9 := by omega
  have hq0 : 0 ≤ y % ((n : Int) - 1) := Int.emod_nonneg _ (by omega)
  have hq1 : y % ((n : Int) - 1) < (n : Int) - 1 := Int.emod_lt_of_pos _ (by omega)
  obtain ⟨a, ha⟩ := Int.eq_ofNat_of_zero_le hq0
  have htm : Hid (y.tmod ((n : Int) - 1) = (a : Int)) := hide (by rw [Int.tmod_eq_emod_of_nonneg hy0]; exact ha)
  have han : a + 1 < n := by omega
  have ha9 : a ≤ 9 := by omega
  clear hq0 hq1 ha
  have hmd := hide (law05_made (R.start w) 20 1 (by decide) (by decide) (by decide) (by decide))
  go_enter Try.func8, Try.ntmps8
  go_wp2_with fail
  refine hmd.out.mono ?_
  rintro e w1 ⟨b, cb, lb, ab, rfl, R1⟩
  have hR : RelM w b cb lb ab 0 0 (.slice none 0 0) w1 := R1.slnil _ _
  replace hR := hide hR
  clear R1 hmd
  go_wp2_with fail
  go_loopw [9, 29] (fun v i wr => ∃ k : Nat, k ≤ n ∧ i = .int .i64 k ∧ RelM w b cb lb ab k 0 v wr)
    (fun _ i _ => n - (intOf i).toNat)
  case atStart => exact ⟨0, Nat.zero_le _, rfl, hR.out⟩
  case round =>
    obtain ⟨k, hk, rfl, h2⟩ := hrel
    clear hR
    obtain ⟨⟨ga, gc, rfl⟩, _⟩ := R.slVal h2 (t := 2) rfl
    by_cases hlt : k < n
    · obtain ⟨tv, wv, hmh⟩ := R.memHdr h2 (t := 1) rfl
      dsimp only [memM, memNew] at hmh
      have hm2 : cellOf (blk wr b) 2 = some (.pointer (some ⟨ab, 0, none⟩)) := by rw [hmh]; rfl
      have hk9 : (k : Int) ≤ 8 := by omega
      replace h2 := hide h2
      have hkp : Hid (∀ o, cellOf (blk (wr.alloc o) b) 2 = some (.pointer (some ⟨ab, 0, none⟩))) := hide fun o => by rw [blk_old _ _ _ (lt_of_blk hmh)]; exact hm2
      have s1 : IntKind.i64.wrap (97 + (k : Int)) = 97 + (k : Int) := by rw [IntKind.wrap_i64]; omega
      have s2 : IntKind.u8.wrap (97 + (k : Int)) = 97 + (k : Int) := by simp [IntKind.wrap, IntKind.bits, IntKind.signed]; omega
      have hcv := conv1 (wr.alloc (.cells #[.int .u8 (97 + (k : Int))] 5)).drew wr.heap.size 5 (0, 0) k (by omega) (blk_new _ _)
      have hlb := lt_of_blk hmh
      clear hmh
      go_wp2_with fail
      have hal : Calls Try.prog 13 #[.pointer (some ⟨ab, 0, none⟩), .agg #[.string (kyM k), .string ⟨#[]⟩, .int .u32 0, .int .u64 0]] (wr.alloc (.cells #[.int .u8 (97 + (k : Int))] 5)).drew (Does [BaseK w, MemK (memM b cb lb ab (k + 1) 0 0), SlK 31 1 (.slice ga k gc) k (hsM k)] (.tuple #[.int .u64 ((k : Int) + 1), .int .i64 0])) := by
        have hq := ssM_alloc k (by omega)
        have := memR_alloc (R.drew (R.alloc h2.out (.cells #[.int .u8 (97 + (k : Int))] 5))) (t := 1) rfl (ndM 0 k) ⟨⟨by simp [ndM], by simp [ndM]⟩, by simp [ndM], by simp [ndM]⟩ (show (0 : Nat) ≤ 1000000 by decide) k hq.1
        rw [show hnd (memM b cb lb ab k 0 0).ss k = (k : Int) + 1 from hq.2.1] at this
        have e : ({ memM b cb lb ab k 0 0 with ss := (memM b cb lb ab k 0 0).ss.set k (taken ((memM b cb lb ab k 0 0).ss.getD k slot0) (ndM 0 k)) } : MemS) = memM b cb lb ab (k + 1) 0 0 := by
          simp only [memM]
          rw [hq.2.2]
        rw [e] at this
        exact this
      replace hal := hide hal
      go_region_with (go_at_call 13; refine hal.out.mono ?_; rintro e w4 ⟨rfl, h4⟩)
      all_goals
        clear hal hcv hm2 hkp h2
        obtain ⟨o, hr, hs⟩ := h4.get (t := 2) rfl
        have hk1 : ((k : Int) + 1 == 0) = false := by simp; omega
        replace hr := hide hr
        clear h4
        go_wp2_with (at_builtin; refine push_handle rfl (.tmp 52) (.tmp 54) rfl _ _ _ rfl (hs.alloc _) w4.heap.size 1 _ rfl (blk_new _ _) rfl (by simp; rfl) (by omega) ?_)
        intro v' w7 o1 hs1 he1 _ _
        have h7 : R _ w7 := hr.out.step (t := 2) (q := SlK 31 1 v' _ _) (((Ext.refl o w4 _).alloc _).trans he1) (fun x hx => by omega) hs1
        have h8 : RelM w b cb lb ab (k + 1) 0 v' w7 := by
          have := h7
          rw [show hsM k ++ #[Value.int .u64 ((k : Int) + 1)].toList = hsM (k + 1) from hsM_succ k] at this
          exact this
        obtain ⟨⟨ga2, gc2, rfl⟩, _⟩ := h7.slVal (t := 2) rfl
        clear h7 hr hs he1 hs1
        replace h8 := hide h8
        go_wp2_with fail
        exact ⟨⟨k + 1, by omega, by go_num, h8.out⟩, by simp [intOf]; omega⟩
    · obtain rfl : k = n := by omega
      have hn1 : ((k : Int) - 1) = ((k - 1 : Nat) : Int) := by omega
      replace h2 := hide h2
      clear hlt hk
      go_wp2_with fail
      go_loopw [59] (fun i wr => ∃ j : Nat, j + 1 ≤ k ∧ i = .int .i64 j ∧ RelM w b cb lb ab k j (.slice ga k gc) wr)
        (fun i _ => k - (intOf i).toNat)
      case atStart => exact ⟨0, by omega, rfl, h2.out⟩
      case round =>
        obtain ⟨j, hj, rfl, h3⟩ := hrel
        clear h2
        obtain ⟨g, cap, cur, hv, hg, hc1, hc2, hcu⟩ := R.slRow h3 (t := 2) rfl (by omega)
        simp at hv
        obtain ⟨rfl, rfl⟩ := hv
        obtain ⟨tv, wv, hmh⟩ := R.memHdr h3 (t := 1) rfl
        dsimp only [memM, memNew] at hmh
        by_cases hlt : j + 1 < k
        · have q0 := hcu j _ (hsM_get k j (by omega))
          have q1 := hcu (j + 1) _ (hsM_get k (j + 1) hlt)
          rw [show ((j + 1 : Nat) : Int) + 1 = (j : Int) + 2 by omega] at q1
          have hj1 : IntKind.i64.wrap ((j : Int) + 1) = (j : Int) + 1 := by rw [IntKind.wrap_i64]; omega
          have hj2 : ((j : Int) + 1).toNat = j + 1 := by omega
          have hjk : (j : Int) + 1 < k := by omega
          have hj0 : (j : Int) < k := by omega
          have hj3 : 0 ≤ (j : Int) + 1 := by omega
          have hlk : Calls Try.prog 28 #[.pointer (some ⟨ab, 0, none⟩), .int .u64 ((j : Int) + 1), .int .u64 ((j : Int) + 2)] wr.drew (Does [BaseK w, MemK (memM b cb lb ab k (j + 1) 0), SlK 31 1 (.slice (some ⟨g, 0, none⟩) k gc) k (hsM k)] (.int .i64 0)) := by
            have hq := ssM_link k j (by omega) (by omega) hlt
            have := memR_link (R.drew h3) (t := 1) rfl ((j : Int) + 1) ((j : Int) + 2) ⟨by omega, by omega⟩ ⟨by omega, by omega⟩
            rw [show useCode (memM b cb lb ab k j 0).ss ((j : Int) + 1) = 0 from hq.2.2, show useFault (memM b cb lb ab k j 0).ss ((j : Int) + 1) (memM b cb lb ab k j 0).fault = false from hq.2.1, show linkS (memM b cb lb ab k j 0).ss ((j : Int) + 1) ((j : Int) + 2) = ssM k (j + 1) from hq.1] at this
            exact this
          replace hlk := hide hlk
          clear hcu h3
          go_wp2_with fail
          go_still_tail 13, (by kernel_rfl)
          go_wp2_with fail
          refine hlk.out.mono ?_
          rintro e w4 ⟨rfl, h4⟩
          have h5 : Hid (RelM w b cb lb ab k (j + 1) _ w4) := hide h4
          clear hlk h4 hmh hg q0 q1
          go_wp2_with fail
          exact ⟨⟨j + 1, by omega, by go_num, h5.out⟩, by simp [intOf]; omega⟩
        · have q0 := hcu 0 _ (hsM_get k 0 (by omega))
          have hst : Calls Try.prog 27 #[.pointer (some ⟨cb, 0, none⟩), .int .i64 3, .int .u64 1] wr.drew (Does [BaseK w, MemK (memM b cb lb ab k (k - 1) 1), SlK 31 1 (.slice (some ⟨g, 0, none⟩) k gc) k (hsM k)] (.int .i64 0)) := by
            have := memR_store (R.drew h3) (t := 1) rfl 3 1 (by decide) (by simp [memM]) ⟨by decide, by decide⟩
            obtain rfl : j = k - 1 := by omega
            exact this
          replace hst := hide hst
          have hkk : 0 < k := by omega
          clear hcu h3
          go_wp2_with fail
          go_still_tail 7, (by kernel_rfl)
          go_wp2_with fail
          refine hst.out.mono ?_
          rintro e w4 ⟨rfl, h4⟩
          have hcv := conv1 (w4.alloc (.cells #[.int .u8 (97 + (k : Int) - 1)] 5)) w4.heap.size 5 (0, 0) (k - 1) (by omega) (by rw [blk_new, show 97 + ((k - 1 : Nat) : Int) = 97 + (k : Int) - 1 by omega])
          have hnw := walk_new (R.alloc h4 (.cells #[.int .u8 (97 + (k : Int) - 1)] 5)) 3 0 (kyM (k - 1))
          replace hnw := hide hnw
          clear hst hg hmh q0 h4
          go_wp2_with fail
          refine hnw.out.mono ?_
          rintro e w5 ⟨b2, rfl, h5⟩
          have h6 : Hid (RelN w b cb lb ab b2 k 0 (.slice (some ⟨g, 0, none⟩) k gc) w5) := hide h5
          clear hnw h5 hcv
          have htm1 := htm.out
          rw [hn1] at htm1
          go_wp2_with fail
          clear htm1
          go_loopw [103] (fun i wr => ∃ q : Nat, q ≤ a + 1 ∧ i = .int .i64 q ∧ RelN w b cb lb ab b2 k q (.slice (some ⟨g, 0, none⟩) k gc) wr)
            (fun i _ => a + 1 - (intOf i).toNat)
          case atStart => exact ⟨0, by omega, rfl, h6.out⟩
          case round =>
            obtain ⟨q, hq, rfl, h7⟩ := hrel
            clear h6
            by_cases hqa : q < a + 1
            · have hs := walk_step h7 (t := 1) (u := 3) rfl rfl (by decide) (walkM_ok k q (by omega))
              rw [walkM_step b cb lb ab k q hn9 (by omega) (by omega)] at hs
              have hs' : Hid (Calls Try.prog 61 #[.pointer (some ⟨b2, 0, none⟩), .pointer (some ⟨b, 0, none⟩)] wr (Does [BaseK w, MemK (memM b cb lb ab k (k - 1) 1), SlK 31 1 (.slice (some ⟨g, 0, none⟩) k gc) k (hsM k), WalkK b2 (walkM k (q + 1))] (.bool false))) := hide hs
              have hqi : (q : Int) < a + 1 := by omega
              clear h7 hs
              go_wp2_with fail
              refine hs'.out.mono ?_
              rintro e w6 ⟨rfl, h8⟩
              have h9 : Hid (RelN w b cb lb ab b2 k (q + 1) (.slice (some ⟨g, 0, none⟩) k gc) w6) := hide h8
              clear hs' h8
              go_wp2_with fail
              exact ⟨⟨q + 1, by omega, by go_num, h9.out⟩, by simp [intOf]; omega⟩
            · obtain rfl : q = a + 1 := by omega
              have hqi : ¬ (((a + 1 : Nat) : Int) < a + 1) := by omega
              clear hqa hq
              go_upto_region 31 with fail
              go_cut [128] (fun v wx => v = .bool false ∧ RelP w b cb lb ab b2 k a (.slice (some ⟨g, 0, none⟩) k gc) wx)
              case first =>
                obtain ⟨g9, cap9, cur9, hv9, hg9, hc91, hc92, hcu9⟩ := R.slRow h7 (t := 2) rfl (by omega)
                simp at hv9
                obtain ⟨rfl, rfl⟩ := hv9
                obtain ⟨tv, wv, hmh⟩ := R.memHdr h7 (t := 1) rfl
                dsimp only [memM, memNew] at hmh
                by_cases ha0 : 0 < a
                · have q0 := hcu9 (a - 1) _ (hsM_get k (a - 1) (by omega))
                  have q1 := hcu9 (a + 1) _ (hsM_get k (a + 1) (by omega))
                  rw [show ((a - 1 : Nat) : Int) + 1 = (a : Int) by omega] at q0
                  rw [show ((a + 1 : Nat) : Int) + 1 = (a : Int) + 2 by omega] at q1
                  have e1 : IntKind.i64.wrap ((a : Int) + 1) = (a : Int) + 1 := by rw [IntKind.wrap_i64]; omega
                  have e2 : IntKind.i64.wrap ((a : Int) - 1) = (a : Int) - 1 := by rw [IntKind.wrap_i64]; omega
                  have e3 : ((a : Int) + 1).toNat = a + 1 := by omega
                  have e4 : ((a : Int) - 1).toNat = a - 1 := by omega
                  have e5 : 0 ≤ (a : Int) + 1 := by omega
                  have e6 : 0 ≤ (a : Int) - 1 := by omega
                  have e6b : 1 ≤ (a : Int) := by omega
                  have e7 : (a : Int) + 1 < k := by omega
                  have e8 : (a : Int) - 1 < k := by omega
                  have e9 : (0 : Int) < a := by omega
                  have hlk : Calls Try.prog 28 #[.pointer (some ⟨ab, 0, none⟩), .int .u64 (a : Int), .int .u64 ((a : Int) + 2)] wr.drew (Does [BaseK w, MemK (memP b cb lb ab k a), SlK 31 1 (.slice (some ⟨g, 0, none⟩) k gc) k (hsM k), WalkK b2 (walkM k (a + 1))] (.int .i64 0)) := by
                    have hq := memP_ok k a (by omega) (by omega) (by omega) ha0
                    have := memR_link (R.drew h7) (t := 1) rfl (a : Int) ((a : Int) + 2) ⟨by omega, by omega⟩ ⟨by omega, by omega⟩
                    rw [show useCode (memM b cb lb ab k (k - 1) 1).ss (a : Int) = 0 from hq.2, show useFault (memM b cb lb ab k (k - 1) 1).ss (a : Int) (memM b cb lb ab k (k - 1) 1).fault = false from hq.1] at this
                    have e : memP b cb lb ab k a = { memM b cb lb ab k (k - 1) 1 with ss := linkS (memM b cb lb ab k (k - 1) 1).ss (a : Int) ((a : Int) + 2), fault := false } := by rw [memP, if_pos ha0]; rfl
                    rw [e]
                    exact this
                  replace hlk := hide hlk
                  have e10 : decide ((0 : Int) < (a : Int)) = true := by simpa using ha0
                  have k1 : cellOf (blk wr b) 2 = some (.pointer (some ⟨ab, 0, none⟩)) := by rw [hmh]; rfl
                  have k2 : cellOf (blk wr g) (a - 1) = some (.int .u64 (a : Int)) := by rw [hg9]; exact q0
                  have k3 : cellOf (blk wr g) (a + 1) = some (.int .u64 ((a : Int) + 2)) := by rw [hg9]; exact q1
                  clear hcu9 h7 hmh hg9 q0 q1
                  go_wp2_with fail
                  go_region_held3 (fun w' => cellOf (blk w' b) 2 = some (.pointer (some ⟨ab, 0, none⟩)) ∧ cellOf (blk w' g) (a - 1) = some (.int .u64 (a : Int)) ∧ cellOf (blk w' g) (a + 1) = some (.int .u64 ((a : Int) + 2))) (first | exact ⟨k1, k2, k3⟩ | exact ⟨m1, m2, m3⟩) (first | (go_at_call 28; refine hlk.out.mono ?_; rintro e w4 ⟨rfl, h4⟩; have m0 : Hid (RelP w b cb lb ab b2 k a (.slice (some ⟨g, 0, none⟩) k gc) w4) := hide h4; clear h4; have m1 := m0.out.hdr; have m2 : cellOf (blk w4 g) (a - 1) = some (.int .u64 (a : Int)) := (by rw [m0.out.row (a - 1) (by omega), show ((a - 1 : Nat) : Int) + 1 = (a : Int) by omega]); have m3 : cellOf (blk w4 g) (a + 1) = some (.int .u64 ((a : Int) + 2)) := (by rw [m0.out.row (a + 1) (by omega), show ((a + 1 : Nat) : Int) + 1 = (a : Int) + 2 by omega])))
                  clear k1 k2 k3 m1 m2 m3 hlk e1 e2 e3 e4 e5 e6 e6b e7 e8 e9 e10
                  go_wp2_with fail
                  go_meet
                  case rel => exact ⟨rfl, m0.out⟩
                · obtain rfl : a = 0 := by omega
                  have h8 : Hid (RelP w b cb lb ab b2 k 0 (.slice (some ⟨g, 0, none⟩) k gc) wr) := hide (by rw [RelP, memP, if_neg ha0]; exact h7)
                  clear hcu9 h7
                  go_wp2_with fail
                  go_quiet (fail)
                  go_wp2_with fail
                  go_meet
                  case rel => exact ⟨rfl, R.drewN h8.out _⟩
              case rest =>
                obtain ⟨rfl, h8⟩ := hcut
                clear h7
                cases fr
                · go_wp2_with fail
                  go_quiet (fail)
                  have hfin := fin_R walkK (R.drewN h8 nq) (t := 1) (u := 3) rfl rfl (by decide) (walkM_ok k (a + 1) (by omega)) 50 (by decide) (r := finP b cb lb ab k a) rfl
                  rw [(memP_b b cb lb ab k a).1] at hfin
                  obtain ⟨f1, f2, f3, f4, f5, f6, f7, f8⟩ := finP_is b cb lb ab k a hn9 ha9 han
                  generalize finP b cb lb ab k a = r at *
                  obtain ⟨n1, ok1, m1, s1⟩ := r
                  dsimp only at f1 f2 f3 f4 f5 f6 f7 f8
                  subst f1 f5 f6 f7 f8
                  have hfin' : Hid (Calls _ _ _ _ (Does [BaseK w, MemK m1, SlK 31 1 (.slice (some ⟨g, 0, none⟩) k gc) k (hsM k), WalkK b2 s1] (.tuple #[.int .i64 n1, .bool true]))) := hide hfin
                  clear hfin h8
                  go_wp2_with fail
                  refine hfin'.out.mono ?_
                  rintro e w5 ⟨rfl, h5⟩
                  clear hfin'
                  have hf := walk_found h5 (u := 3) rfl
                  rw [foundV, f2] at hf
                  simp only [if_true, ndV] at hf
                  rw [f4] at hf
                  generalize s1.node.key = nk at hf
                  generalize s1.node.val = nv at hf
                  generalize s1.node.sum = ns at hf
                  generalize s1.node.next = nx at hf
                  replace hf := hide hf
                  clear h5
                  go_wp2_with fail
                  refine hf.out.mono ?_
                  rintro e w6 ⟨rfl, h6⟩
                  have h7 := h6.new #[.string nk, .string nv, .int .u32 ns, .int .u64 nx] 36
                  replace h7 := hide h7
                  clear h6 hf
                  go_wp2_with fail
                  refine (law09_awake _).mono ?_
                  rintro e w7 ⟨rfl, hb7⟩
                  have h8 := h7.out.below hb7
                  obtain ⟨tv, wv, hmh⟩ := h8.memHdr (t := 1) rfl
                  obtain ⟨g9, cap9, cur9, hv9, hg9, hc91, hc92, hcu9⟩ := R.slRow h8 (t := 2) rfl (by omega)
                  simp at hv9
                  obtain ⟨rfl, rfl⟩ := hv9
                  have q0 := hcu9 (k - 1) _ (hsM_get k (k - 1) (by omega))
                  rw [show ((k - 1 : Nat) : Int) + 1 = (k : Int) by omega] at q0
                  have c4 : Calls Try.prog 16 _ _ (fun e w' => e = .returned (.bool m1.fault) ∧ _ = w') := memR_fault h8 (t := 1) rfl
                  rw [f3] at c4
                  have hbd := h8.done
                  have hk1 : ((k - 1 : Nat) : Int) < k := by omega
                  replace c4 := hide c4
                  clear hcu9 h8 h7 hb7
                  go_wp2_with fail
                  refine c4.out.mono ?_
                  rintro e w8 ⟨rfl, rfl⟩
                  clear c4
                  go_wp2
                  go_ret
                  exact ⟨rfl, hbd⟩
                · have k1 := h8.hdr
                  have k2 := h8.row a (by omega)
                  have hgen := (memP_b b cb lb ab k a).2.2.2.2
                  have e5 : (0 : Int) ≤ (a : Int) := by omega
                  have e7 : (a : Int) < k := by omega
                  have hfr : Calls Try.prog 14 #[.pointer (some ⟨ab, 0, none⟩), .int .u64 ((a : Int) + 1)] wc.drew (Does [BaseK w, MemK (memF b cb lb ab k a), SlK 31 1 (.slice (some ⟨g, 0, none⟩) k gc) k (hsM k), WalkK b2 (walkM k (a + 1))] (.int .i64 0)) := by
                    have := memR_free (R.drew h8) (t := 1) rfl ((a : Int) + 1) ⟨by omega, by omega⟩ (by rw [hgen]; decide) a (memP_at b cb lb ab k a (by omega) (by omega) (by omega))
                    rw [(memP_b b cb lb ab k a).2.2.2.1] at this
                    have e : memF b cb lb ab k a = { memP b cb lb ab k a with ss := (memP b cb lb ab k a).ss.set a (freed ((memP b cb lb ab k a).ss.getD a slot0)), gen := (memP b cb lb ab k a).gen + 1 } := by rw [memF, hgen]
                    rw [e]
                    dsimp only
                    rw [(memP_b b cb lb ab k a).2.2.2.1]
                    exact this
                  replace hfr := hide hfr
                  replace hgen := hide hgen
                  clear h8
                  go_wp2_with fail
                  go_region_held3 (fun w' => cellOf (blk w' b) 2 = some (.pointer (some ⟨ab, 0, none⟩)) ∧ cellOf (blk w' g) a = some (.int .u64 ((a : Int) + 1))) (first | exact ⟨k1, k2⟩ | exact ⟨m1, m2⟩) (first | (go_at_call 14; refine hfr.out.mono ?_; rintro e w4 ⟨rfl, h4⟩; have m0 : Hid (RelF w b cb lb ab b2 k a (.slice (some ⟨g, 0, none⟩) k gc) w4) := hide h4; clear h4; have m1 := m0.out.hdr; have m2 := m0.out.row a (by omega)))
                  clear k1 k2 m1 m2 hfr e5 e7
                  have hfin := fin_R walkK m0.out (t := 1) (u := 3) rfl rfl (by decide) (walkM_ok k (a + 1) (by omega)) 50 (by decide) (r := finF b cb lb ab k a) rfl
                  rw [show (memF b cb lb ab k a).b = b from (memP_b b cb lb ab k a).1] at hfin
                  obtain ⟨f1, f2, f3, f5, f6, f7, f8⟩ := finF_is b cb lb ab k a hn9 ha9 han
                  generalize finF b cb lb ab k a = r at *
                  obtain ⟨n1, ok1, m1, s1⟩ := r
                  dsimp only at f1 f2 f3 f5 f6 f7 f8
                  subst f1 f5 f6 f7 f8
                  have hfin' : Hid (Calls _ _ _ _ (Does [BaseK w, MemK m1, SlK 31 1 (.slice (some ⟨g, 0, none⟩) k gc) k (hsM k), WalkK b2 s1] (.tuple #[.int .i64 n1, .bool true]))) := hide hfin
                  clear hfin m0
                  go_wp2_with fail
                  refine hfin'.out.mono ?_
                  rintro e w5 ⟨rfl, h5⟩
                  clear hfin'
                  have hf := walk_found h5 (u := 3) rfl
                  rw [foundV, f2] at hf
                  simp only [Bool.false_eq_true, if_false, ndV, nd0] at hf
                  replace hf := hide hf
                  clear h5
                  go_wp2_with fail
                  refine hf.out.mono ?_
                  rintro e w6 ⟨rfl, h6⟩
                  have h7 := h6.new #[.string ⟨#[]⟩, .string ⟨#[]⟩, .int .u32 0, .int .u64 0] 36
                  replace h7 := hide h7
                  clear h6 hf
                  go_wp2_with fail
                  refine (law09_awake _).mono ?_
                  rintro e w7 ⟨rfl, hb7⟩
                  have h8 := h7.out.below hb7
                  obtain ⟨tv, wv, hmh⟩ := h8.memHdr (t := 1) rfl
                  have c4 : Calls Try.prog 16 _ _ (fun e w' => e = .returned (.bool m1.fault) ∧ _ = w') := memR_fault h8 (t := 1) rfl
                  rw [f3] at c4
                  have hbd := h8.done
                  replace c4 := hide c4
                  clear h8 h7 hb7
                  go_wp2_with fail
                  refine c4.out.mono ?_
                  rintro e w8 ⟨rfl, rfl⟩
                  clear c4
                  go_wp2
                  go_ret
                  exact ⟨rfl, hbd⟩
end Go.Proofs.Ytkknmecmhefofaa
