/- quietuslaw11: Holds. Condition: the memory holds the map. Package retire: take, pass, free, Step, Ready, Left over a drain. Condition: the memory and the drain are there. -/
import Derived.Test.YtcgfknpobifecaaGreatRpm
import Derived.Test.YtcgfknpobifecaaGreatRtm
import Derived.StillTailTactics
namespace Go.Proofs.YtcgfknpobifecaaGreat
open Go.RowKit

theorem flat_le {α : Type} (f : Nat → List α) {B : Nat} : ∀ n, B ≤ n → ((List.range B).flatMap f).length ≤ ((List.range n).flatMap f).length
  | 0, h => by
    obtain rfl : B = 0 := by omega
    exact Nat.le_refl _
  | n + 1, h => by
    by_cases hB : B = n + 1
    · subst hB; exact Nat.le_refl _
    · have := flat_le (B := B) f n (by omega)
      rw [List.range_succ, List.flatMap_append, List.length_append]
      omega
set_option maxRecDepth 100000 in
set_option maxHeartbeats 6400000 in
theorem law11_holds {l : List KObj} {w : World} {t u n base : Nat} {m : MemS} {chs : Nat → List Int} {want : List Pk} {v : Value} (h : R l w) (ht : l[t]? = some (MemK m)) (hu : l[u]? = some (PairsK v want)) (hM : MapM m n base chs want) (hks : ∀ p ∈ want, p.key.size ≤ 9223372036854775807) (hn : n ≤ 65536) :
    Calls Tryz.prog 20 #[.pointer (some ⟨m.b, 0, none⟩), v] w (Does l (.bool true)) := by
  have hmo := h.memOk ht
  have hv64 := hmo.cell 1
  have hnow := mem_now h ht
  rw [hM.now hv64] at hnow
  dsimp only [descV] at hnow
  obtain ⟨⟨a, cap, rfl⟩, _⟩ := h.slVal hu
  have hwl : want.length ≤ 1024 := by
    have h1 := hM.count
    have h2 := hM.pool.count
    have h3 := hM.len
    rw [List.length_append] at h2
    omega
  have hcnt : ∀ B, B ≤ n → ((List.range B).flatMap chs).length ≤ 1024 := fun B hB => by
    have h1 := hM.count
    have h2 : ((List.range B).flatMap chs).length ≤ (nodesC n chs).length := flat_le chs n hB
    omega
  replace hnow := hide hnow
  replace hM := hide hM
  replace hcnt := hide hcnt
  clear h
  go_enter Tryz.func20, Tryz.ntmps20
  go_wp2_with fail
  refine hnow.out.mono ?_
  rintro e w2 ⟨rfl, h2⟩
  have h3 := hide (h2.new #[.int .i64 n, .int .i64 base] 83)
  have hD := blk_new w2 (.cells #[.int .i64 n, .int .i64 base] 83)
  clear hnow h2
  go_upto_region 3 with fail
  generalize w2.alloc (.cells #[.int .i64 n, .int .i64 base] 83) = w3 at *
  generalize w2.heap.size = D at *
  go_wp2_with fail
  go_loopw [5, 18] (fun cv iv wr => ∃ B : Nat, B ≤ n ∧ iv = .int .i64 B ∧ cv = .int .i64 ((List.range B).flatMap chs).length ∧ Hid (R (l ++ [StK D #[.int .i64 n, .int .i64 base] 83]) wr)) (fun _ iv _ => n - (intOf iv).toNat)
  case atStart => exact ⟨0, Nat.zero_le _, rfl, rfl, h3⟩
  case round =>
    obtain ⟨B, hB, rfl, rfl, hR⟩ := hrel
    clear h3 hD
    by_cases hlt : B < n
    · have hch := mem_Chain hR.out (app_get ht) B
      rw [hM.out.chainOf hv64 hlt] at hch
      have hc1 := hcnt.out B hB
      have hc2 := hcnt.out (B + 1) hlt
      rw [List.range_succ, List.flatMap_append, List.length_append] at hc2
      simp only [List.flatMap_cons, List.flatMap_nil, List.append_nil] at hc2
      replace hch := hide hch
      clear hR
      obtain ⟨c0, hc0⟩ : ∃ c0, ((List.range B).flatMap chs).length = c0 := ⟨_, rfl⟩
      rw [hc0] at hc1 hc2
      rw [hc0]
      have hnx : ∀ X : Nat, X = c0 + (chs B).length → X = ((List.range (B + 1)).flatMap chs).length := fun X hX => by
        rw [List.range_succ, List.flatMap_append, List.length_append, hc0, hX]; simp
      replace hnx := hide hnx
      replace hc0 := hide hc0
      go_wp2_with fail
      refine hch.out.mono ?_
      rintro e w4 ⟨v4, rfl, h4⟩
      obtain ⟨⟨va, vc, rfl⟩, _⟩ := h4.slVal app_last
      replace h4 := hide h4
      clear hch
      go_wp2_with fail
      go_loopw [5, 25] (fun cv iv wq => ∃ q : Nat, q ≤ (chs B).length ∧ iv = .int .i64 q ∧ cv = .int .i64 ((c0 + q : Nat) : Int) ∧ Hid (R (l ++ [StK D #[.int .i64 n, .int .i64 base] 83] ++ [SlK 47 1 (.slice va (chs B).length vc) (chs B).length ((chs B).map (Value.int .u64))]) wq)) (fun _ iv _ => (chs B).length - (intOf iv).toNat)
      case atStart => exact ⟨0, Nat.zero_le _, rfl, rfl, h4⟩
      case round =>
        obtain ⟨q, hq, rfl, rfl, hR⟩ := hrel
        clear h4
        by_cases hlq : q < (chs B).length
        · obtain ⟨g, gc, cur, hgv, hgb, _, _, hcq⟩ := hR.out.intRow app_last hlq
          simp at hgv
          obtain ⟨rfl, rfl⟩ := hgv
          have hxm : (chs B).getD q 0 ∈ chs B := by
            rw [show (chs B).getD q 0 = (chs B)[q] by simp [hlq]]
            exact List.getElem_mem _
          generalize (chs B).getD q 0 = x at *
          have hxp := hM.out.pool.live x (List.mem_append.2 (.inl (mem_nodesC.2 ⟨B, hlt, hxm⟩)))
          obtain ⟨tv, wv, hm⟩ := hR.out.memHdr (app_get (app_get ht))
          have hlv := memR_live hR.out (app_get (app_get ht)) x hxp.2
          rw [decide_eq_true hxp.1] at hlv
          have hrd := memR_read hR.out (app_get (app_get ht)) x hxp.2
          rw [useFault, if_pos hxp.1, useCode, if_pos hxp.1] at hrd
          rw [show MemK { m with fault := m.fault } = MemK m from rfl, set_same (app_get (app_get ht))] at hrd
          have hgt := hM.out.get hlt hxm
          obtain ⟨hr1, hr2⟩ := hM.out.right B hlt x hxm
          have hkk : (readNd m.ss x).key.size ≤ 9223372036854775807 := by
            have := (hM.out.ents.mem_iff).1 (List.mem_map.2 ⟨x, mem_nodesC.2 ⟨B, hlt, hxm⟩, rfl⟩)
            exact hks _ this
          have hpw := hM.out.pw
          dsimp only [ndV] at hrd
          generalize readNd m.ss x = nd at *
          obtain ⟨nk, nv, ns, nx⟩ := nd
          dsimp only at hrd hgt hr1 hr2 hkk
          subst hr1
          have hbk : bucketOf (sumOf nk) (n : Int) = (B : Int) := by rw [bucketOf_nat _ _ hpw, hr2]
          have hsl := sumOf_lt nk
          replace hlv := hide hlv
          replace hrd := hide hrd
          replace hgt := hide hgt
          replace hxp := hide hxp
          replace hr2 := hide hr2
          replace hbk := hide hbk
          have hki : (q : Int) < ((chs B).length : Int) := by omega
          clear hR
          go_wp2_with fail
          refine hlv.out.mono ?_
          rintro e w5 ⟨rfl, rfl⟩
          clear hlv
          go_wp2_with fail
          refine hrd.out.mono ?_
          rintro e w5 ⟨rfl, h5⟩
          have h6 := h5.new #[.string nk, .string nv, .int .u32 (sumOf nk), .int .u64 nx] 103
          clear hrd hm h5 hgb
          go_upto_region 12 with fail
          generalize w5.alloc (.cells #[.string nk, .string nv, .int .u32 (sumOf nk), .int .u64 nx] 103) = w6 at *
          generalize w5.heap.size = N at *
          have hN6 := h6.st app_last
          have hD6 := h6.st (app_get (app_get app_last))
          have hg10 := ref10_get (R.frAt (f := pk10) (fun _ => rfl) h6 (app_get (app_get (app_get hu)))) nk
          rw [hgt.out] at hg10
          dsimp only at hg10
          have hsm := hide fun k => ref01_sum nk hkk (w6.drewN k)
          have hbc := hide fun k => ref01_bucket (sumOf nk) (n : Int) (Int.natCast_nonneg _) (by omega) (w6.drewN k)
          rw [hbk.out] at hbc
          have hnext := hide fun k => (h6.drewN k).left
          replace hg10 := hide hg10
          clear h6 hgt
          go_wp2_with fail
          refine hg10.out.mono ?_
          rintro e w7 ⟨rfl, rfl⟩
          clear hg10
          go_wp2_with fail
          go_quiet (first | exact quiet_left (hsm.out _) | exact quiet_left (hbc.out _))
          have hw1 : IntKind.i64.wrap ((q : Int) + 1) = ((q + 1 : Nat) : Int) := by rw [IntKind.wrap_i64]; omega
          have hw2 : IntKind.i64.wrap (((c0 + q : Nat) : Int) + 1) = ((c0 + (q + 1) : Nat) : Int) := by rw [IntKind.wrap_i64]; omega
          clear hsm hbc hN6 hD6
          go_wp2_with fail
          exact ⟨⟨q + 1, by omega, rfl, rfl, hide (hnext.out _)⟩, by simp [intOf]; omega⟩
        · obtain rfl : q = (chs B).length := by omega
          have hw1 : IntKind.i64.wrap ((B : Int) + 1) = ((B + 1 : Nat) : Int) := by rw [IntKind.wrap_i64]; omega
          have hR2 := hide hR.out.left
          have hnx2 := hnx.out _ rfl
          clear hR
          go_wp2_with fail
          rw [hnx2]
          exact ⟨⟨B + 1, by omega, rfl, rfl, hR2⟩, by simp [intOf]; omega⟩
    · obtain rfl : B = n := by omega
      have hrc := mem_Reach hR.out (app_get ht)
      rw [hM.out.now hv64] at hrc
      dsimp only at hrc
      rw [Int.toNat_natCast, hM.out.reachOf hv64 B (Nat.le_refl _)] at hrc
      have hct := hM.out.count
      have hce : ((List.range B).flatMap chs).length = want.length := hct
      rw [hce]
      have hee : ((want.length : Int) == (want.length : Int)) = true := by simp
      unfold SomeH at hrc
      simp only [hce] at hrc
      replace hrc := hide hrc
      clear hR
      go_wp2_with fail
      refine hrc.out.mono ?_
      rintro e w4 ⟨v4, rfl, h4⟩
      obtain ⟨⟨va, vc, rfl⟩, _⟩ := h4.slVal app_last
      have h5 := hide h4.left.left
      clear h4 hrc
      go_wp2
      go_ret
      exact ⟨rfl, h5.out⟩
end Go.Proofs.YtcgfknpobifecaaGreat

namespace Go.Proofs.YtcgfknpobifecaaGreat
open Go.RowKit

section
variable {l : List KObj} {w : World} {t u : Nat} {m : MemS} {b : Nat} {s : DrainS}
theorem lt_of_at {l : List KObj} {t : Nat} {p : KObj} (h : l[t]? = some p) : t < l.length := (List.getElem?_eq_some_iff.1 h).1
theorem len_noK (l : List KObj) (u : Nat) : (l.set u NoK).length = l.length := List.length_set

set_option maxHeartbeats 800000 in
theorem drain_take (h : R l w) (ht : l[t]? = some (MemK m)) (hu : l[u]? = some (DrainK b s)) (hne : t ≠ u) (hk : s.taken = false) :
    Calls Tryz.prog 207 #[.pointer (some ⟨b, 0, none⟩), .pointer (some ⟨m.b, 0, none⟩)] w (Does ((l.set t (MemK { m with waiting := [] })).set u (DrainK b { s with left := m.waiting, taken := true })) (.bool false)) := by
  obtain ⟨lv, hsp⟩ := h.drainSplit hu
  have htl := lt_of_at ht
  have hul := lt_of_at hu
  have ht1 : (l.set u NoK ++ drainP b s lv)[t]? = some (MemK m) := app_get (set_other ht hne.symm)
  have htk := hide (mem_take hsp ht1)
  clear h
  go_enter Tryz.func207, Tryz.ntmps207
  go_wp2_with fail
  refine htk.out.mono ?_
  rintro e w2 ⟨v, rfl, h2⟩
  rw [setL _ _ (by rw [len_noK]; exact htl), List.append_assoc] at h2
  have hlen : ((l.set u NoK).set t (MemK { m with waiting := [] })).length = l.length := by simp
  obtain ⟨⟨va, vc, rfl⟩, _⟩ := h2.slVal (getP (i := 3) rfl)
  have hb := h2.st (getP (i := 0) rfl)
  have h3 := h2.put (getP (i := 0) rfl) 0 (.slice va m.waiting.length vc)
  rw [setP] at h3
  have h4 := h3.put (getP (i := 0) rfl) 2 (.bool true)
  rw [setP] at h4
  replace h4 := hide h4
  dsimp only [drainC] at hb
  clear h2 h3 htk hsp
  go_wp2
  go_ret
  refine ⟨rfl, ?_⟩
  have h5 := h4.out.join (u := u) (K := DrainK b { s with left := m.waiting, taken := true }) (by simpa using hul) (fun x => if x = 0 then 0 else if x = 16 then 1 else if x = 48 then 2 else 15) fun o o' hp ho => by
    refine ⟨_, StAt.re (hp 0 _ rfl) fun k hk => ?_, StAt.re (hp 1 _ rfl) fun k hk => ?_, LfAt.of_sl (SlAt.re (hp 3 _ rfl) fun k hk => ?_)⟩
    · have := ho k 0 (by simp) (by omega); simpa using this
    · have := ho k 16 (by simp) (by omega); simpa using this
    · have := ho k 48 (by simp) (by omega); simpa using this
  rw [foldU _ hne] at h5
  exact h5

set_option maxHeartbeats 800000 in
theorem drain_pass (h : R l w) (ht : l[t]? = some (MemK m)) (hu : l[u]? = some (DrainK b s)) (hne : t ≠ u) (hok : DrainOk m s) :
    Calls Tryz.prog 208 #[.pointer (some ⟨b, 0, none⟩), .pointer (some ⟨m.b, 0, none⟩)] w
      (Does ((l.set t (MemK (waitStep m s.ws).1)).set u (DrainK b { s with ws := (waitStep m s.ws).2.1, past := (waitStep m s.ws).2.2 })) (.bool ((waitStep m s.ws).2.2 && decide (s.left = [])))) := by
  obtain ⟨lv, hsp⟩ := h.drainSplit hu
  have htl := lt_of_at ht
  have hul := lt_of_at hu
  have hb := hsp.st (getP (i := 0) rfl)
  dsimp only [drainC] at hb
  obtain ⟨⟨la, lc, rfl⟩, _⟩ := hsp.lf (getP (i := 2) rfl)
  have hstep := hide (wait_step hsp (t := t) (u := (l.set u NoK).length + 1) (app_get (set_other ht hne.symm)) (getP (i := 1) rfl) (by rw [len_noK]; omega) hok.wait)
  rw [setL _ _ (by rw [len_noK]; exact htl), show (l.set u NoK).length = ((l.set u NoK).set t (MemK (waitStep m s.ws).1)).length by simp, setP] at hstep
  generalize waitStep m s.ws = r at *
  obtain ⟨m1, ws1, d⟩ := r
  dsimp only at hstep ⊢
  have n1 := (wait_frame s.wb).ns 324 w
  have m1' := (wait_frame s.wb).ms 324 w
  clear h hsp hok
  go_enter Tryz.func208, Tryz.ntmps208
  go_wp2_with fail
  refine hstep.out.mono ?_
  rintro e w2 ⟨rfl, h2⟩
  have hb2 := h2.st (getP (i := 0) rfl)
  have h3 := h2.put (getP (i := 0) rfl) 3 (.bool d)
  rw [setP] at h3
  have hle : s.left.length ≤ 9223372036854775807 := (h2.lf (getP (i := 2) rfl)).2.1
  replace h3 := hide h3
  dsimp only [drainC] at hb2
  clear h2 hstep hb n1 m1'
  have hfin : R ((l.set t (MemK m1)).set u (DrainK b { s with ws := ws1, past := d })) (w2.setCell ⟨b, 3, none⟩ (.bool d)) := by
    have h5 := R.drainJoin (s := { s with ws := ws1, past := d }) (u := u) h3.out (by simpa using hul)
    rwa [foldU _ hne] at h5
  replace hfin := hide hfin
  clear h3
  cases d
  · go_wp2
    go_ret
    exact ⟨rfl, hfin.out⟩
  · cases hl : s.left with
    | nil =>
      rw [hl] at hb2
      go_wp2
      go_ret
      exact ⟨by simp [hl], hfin.out⟩
    | cons x xs =>
      rw [hl] at hb2
      have hxl : ((x :: xs).length : Int) = (xs.length : Int) + 1 := by simp
      go_wp2
      go_ret
      refine ⟨?_, hfin.out⟩
      simp [hl]
      omega

set_option maxRecDepth 100000 in
set_option maxHeartbeats 800000 in
theorem drain_free (h : R l w) (ht : l[t]? = some (MemK m)) (hu : l[u]? = some (DrainK b s)) (hne : t ≠ u) (hok : DrainOk m s) (h1 : s.taken = true) (h2 : s.past = true) :
    Calls Tryz.prog 206 #[.pointer (some ⟨b, 0, none⟩), .pointer (some ⟨m.b, 0, none⟩)] w
      (Does ((l.set t (MemK (drainStep m s).1)).set u (DrainK b (drainStep m s).2.1)) (.bool (drainStep m s).2.2)) := by
  obtain ⟨lv, hsp⟩ := h.drainSplit hu
  have htl := lt_of_at ht
  have hul := lt_of_at hu
  have hb := hsp.st (getP (i := 0) rfl)
  dsimp only [drainC] at hb
  obtain ⟨⟨la, lc, rfl⟩, hle, hlf⟩ := hsp.lf (getP (i := 2) rfl)
  cases hl : s.left with
  | nil =>
    have e : drainStep m s = (m, s, true) := by simp [drainStep, h1, h2, hl]
    rw [e]
    dsimp only
    rw [set_same ht, set_same hu]
    rw [hl] at hb
    replace h := hide h
    clear hsp hlf
    go_enter Tryz.func206, Tryz.ntmps206
    go_wp2
    go_ret
    exact ⟨rfl, h.out⟩
  | cons x xs =>
    have e : drainStep m s = (freeM m x, { s with left := xs }, decide (xs = [])) := by simp [drainStep, h1, h2, hl]
    rw [e]
    dsimp only
    rw [hl] at hb hlf hle hsp
    have hx : U64 x := hok.left x (by rw [hl]; simp)
    obtain ⟨tv, wv, hmh⟩ := hsp.memHdr (t := t) (app_get (set_other ht hne.symm))
    rcases hlf with h0 | ⟨g, off, cap, cur, hv, hcap, hcap2, hg, hcur⟩
    · simp at h0
    simp only [Value.slice.injEq, true_and] at hv
    obtain ⟨rfl, rfl⟩ := hv
    rw [List.length_cons] at hcap
    have c0 := hcur 0 x rfl
    rw [Nat.add_zero] at c0
    have hxl : ((x :: xs).length) = xs.length + 1 := rfl
    have hfree := memR_freeM (l := l.set u NoK ++ [StK b (drainC s (.slice (some ⟨g, off, none⟩) (xs.length + 1) lc)) 144, WaitK s.wb s.ws, LfK .u64 47 (.slice (some ⟨g, off, none⟩) (xs.length + 1) lc) (x :: xs)]) (w := w.drew) (m := m) (by have := hsp.drew; rw [drainP, hl, hxl] at this; exact this) (t := t) (app_get (set_other ht hne.symm)) x hx hok.gen
    rw [setL _ _ (by rw [len_noK]; exact htl)] at hfree
    replace hfree := hide hfree
    rw [hxl] at hb
    have hle2 : xs.length + 1 ≤ 9223372036854775807 := hle
    replace h1 := hide h1
    replace h2 := hide h2
    clear hsp h hok e hcur hle
    go_enter Tryz.func206, Tryz.ntmps206
    go_wp2_with fail
    go_still_tail 10, (by kernel_rfl)
    go_wp2_with fail
    refine hfree.out.mono ?_
    rintro e w2 ⟨rfl, h2'⟩
    have hb2 := h2'.st (getP (i := 0) rfl)
    dsimp only [drainC] at hb2
    clear hfree hb hmh
    by_cases hlc : lc = 1
    · subst hlc
      obtain rfl : xs = [] := List.eq_nil_of_length_eq_zero (by omega)
      have h3 := h2'.put (getP (i := 0) rfl) 0 (.slice (some ⟨g, off, none⟩) 0 0)
      rw [setP] at h3
      have h4 := R.lfNil h3 (getP (i := 2) rfl) (.slice (some ⟨g, off, none⟩) 0 0) ⟨_, _, rfl⟩
      rw [setP] at h4
      have hfin : R ((l.set t (MemK (freeM m x))).set u (DrainK b { s with left := [] })) (w2.setCell ⟨b, 0, none⟩ (.slice (some ⟨g, off, none⟩) 0 0)) := by
        have h5 := R.drainJoin (s := { s with left := [] }) (u := u) h4 (by simpa using hul)
        rwa [foldU _ hne] at h5
      replace hfin := hide hfin
      clear h2' h3 h4
      go_wp2
      go_ret
      exact ⟨rfl, hfin.out⟩
    · have h3 := h2'.put (getP (i := 0) rfl) 0 (.slice (some ⟨g, off + 1, none⟩) xs.length (lc - 1))
      rw [setP] at h3
      have h4 := R.lfTail h3 (getP (i := 2) rfl)
      rw [setP] at h4
      have hfin : R ((l.set t (MemK (freeM m x))).set u (DrainK b { s with left := xs })) (w2.setCell ⟨b, 0, none⟩ (.slice (some ⟨g, off + 1, none⟩) xs.length (lc - 1))) := by
        have h5 := R.drainJoin (s := { s with left := xs }) (u := u) h4 (by simpa using hul)
        rwa [foldU _ hne] at h5
      replace hfin := hide hfin
      clear h2' h3 h4
      go_wp2
      go_ret
      refine ⟨?_, hfin.out⟩
      cases xs with
      | nil => simp
      | cons y ys => simp; omega
end
end Go.Proofs.YtcgfknpobifecaaGreat
