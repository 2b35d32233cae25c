/- Package retire: take, pass, free, Step, Ready, Left over a drain. Condition: the memory and the drain are there. -/
import Derived.Test.YtcoaemjoanbemaaRt
import Derived.StillTailTactics
namespace Go.Proofs.Ytcoaemjoanbemaa
open Go.RowKit

section
variable {l : List KObj} {w : World} {t u : Nat} {m : MemS} {b : Nat} {s : DrainS}
theorem lt_of_at {l : List KObj} {t : Nat} {p : KObj} (h : l[t]? = some p) : t < l.length := (List.getElem?_eq_some_iff.1 h).1
theorem len_noK (l : List KObj) (u : Nat) : (l.set u NoK).length = l.length := List.length_set

set_option maxHeartbeats 800000 in
theorem drain_take (h : R l w) (ht : l[t]? = some (MemK m)) (hu : l[u]? = some (DrainK b s)) (hne : t ≠ u) (hk : s.taken = false) :
    Calls Try.prog 69 #[.pointer (some ⟨b, 0, none⟩), .pointer (some ⟨m.b, 0, none⟩)] w (Does ((l.set t (MemK { m with waiting := [] })).set u (DrainK b { s with left := m.waiting, taken := true })) (.bool false)) := by
  obtain ⟨lv, hsp⟩ := h.drainSplit hu
  have htl := lt_of_at ht
  have hul := lt_of_at hu
  have ht1 : (l.set u NoK ++ drainP b s lv)[t]? = some (MemK m) := app_get (set_other ht hne.symm)
  have htk := hide (mem_take hsp ht1)
  clear h
  go_enter Try.func69, Try.ntmps69
  go_wp2_with fail
  refine htk.out.mono ?_
  rintro e w2 ⟨v, rfl, h2⟩
  rw [setL _ _ (by rw [len_noK]; exact htl), List.append_assoc] at h2
  have hlen : ((l.set u NoK).set t (MemK { m with waiting := [] })).length = l.length := by simp
  obtain ⟨⟨va, vc, rfl⟩, _⟩ := h2.slVal (getP (i := 3) rfl)
  have hb := h2.st (getP (i := 0) rfl)
  have h3 := h2.put (getP (i := 0) rfl) 0 (.slice va m.waiting.length vc)
  rw [setP] at h3
  have h4 := h3.put (getP (i := 0) rfl) 2 (.bool true)
  rw [setP] at h4
  replace h4 := hide h4
  dsimp only [drainC] at hb
  clear h2 h3 htk hsp
  go_wp2
  go_ret
  refine ⟨rfl, ?_⟩
  have h5 := h4.out.join (u := u) (K := DrainK b { s with left := m.waiting, taken := true }) (by simpa using hul) (fun x => if x = 0 then 0 else if x = 16 then 1 else if x = 48 then 2 else 15) fun o o' hp ho => by
    refine ⟨_, StAt.re (hp 0 _ rfl) fun k hk => ?_, StAt.re (hp 1 _ rfl) fun k hk => ?_, LfAt.of_sl (SlAt.re (hp 3 _ rfl) fun k hk => ?_)⟩
    · have := ho k 0 (by simp) (by omega); simpa using this
    · have := ho k 16 (by simp) (by omega); simpa using this
    · have := ho k 48 (by simp) (by omega); simpa using this
  rw [foldU _ hne] at h5
  exact h5

set_option maxHeartbeats 800000 in
theorem drain_pass (h : R l w) (ht : l[t]? = some (MemK m)) (hu : l[u]? = some (DrainK b s)) (hne : t ≠ u) (hok : DrainOk m s) :
    Calls Try.prog 70 #[.pointer (some ⟨b, 0, none⟩), .pointer (some ⟨m.b, 0, none⟩)] w
      (Does ((l.set t (MemK (waitStep m s.ws).1)).set u (DrainK b { s with ws := (waitStep m s.ws).2.1, past := (waitStep m s.ws).2.2 })) (.bool ((waitStep m s.ws).2.2 && decide (s.left = [])))) := by
  obtain ⟨lv, hsp⟩ := h.drainSplit hu
  have htl := lt_of_at ht
  have hul := lt_of_at hu
  have hb := hsp.st (getP (i := 0) rfl)
  dsimp only [drainC] at hb
  obtain ⟨⟨la, lc, rfl⟩, _⟩ := hsp.lf (getP (i := 2) rfl)
  have hstep := hide (wait_step hsp (t := t) (u := (l.set u NoK).length + 1) (app_get (set_other ht hne.symm)) (getP (i := 1) rfl) (by rw [len_noK]; omega) hok.wait)
  rw [setL _ _ (by rw [len_noK]; exact htl), show (l.set u NoK).length = ((l.set u NoK).set t (MemK (waitStep m s.ws).1)).length by simp, setP] at hstep
  generalize waitStep m s.ws = r at *
  obtain ⟨m1, ws1, d⟩ := r
  dsimp only at hstep ⊢
  have n1 := (wait_frame s.wb).ns 269 w
  have m1' := (wait_frame s.wb).ms 269 w
  clear h hsp hok
  go_enter Try.func70, Try.ntmps70
  go_wp2_with fail
  refine hstep.out.mono ?_
  rintro e w2 ⟨rfl, h2⟩
  have hb2 := h2.st (getP (i := 0) rfl)
  have h3 := h2.put (getP (i := 0) rfl) 3 (.bool d)
  rw [setP] at h3
  have hle : s.left.length ≤ 9223372036854775807 := (h2.lf (getP (i := 2) rfl)).2.1
  replace h3 := hide h3
  dsimp only [drainC] at hb2
  clear h2 hstep hb n1 m1'
  have hfin : R ((l.set t (MemK m1)).set u (DrainK b { s with ws := ws1, past := d })) (w2.setCell ⟨b, 3, none⟩ (.bool d)) := by
    have h5 := R.drainJoin (s := { s with ws := ws1, past := d }) (u := u) h3.out (by simpa using hul)
    rwa [foldU _ hne] at h5
  replace hfin := hide hfin
  clear h3
  cases d
  · go_wp2
    go_ret
    exact ⟨rfl, hfin.out⟩
  · cases hl : s.left with
    | nil =>
      rw [hl] at hb2
      go_wp2
      go_ret
      exact ⟨by simp [hl], hfin.out⟩
    | cons x xs =>
      rw [hl] at hb2
      have hxl : ((x :: xs).length : Int) = (xs.length : Int) + 1 := by simp
      go_wp2
      go_ret
      refine ⟨?_, hfin.out⟩
      simp [hl]
      omega

set_option maxRecDepth 100000 in
set_option maxHeartbeats 800000 in
theorem drain_free (h : R l w) (ht : l[t]? = some (MemK m)) (hu : l[u]? = some (DrainK b s)) (hne : t ≠ u) (hok : DrainOk m s) (h1 : s.taken = true) (h2 : s.past = true) :
    Calls Try.prog 68 #[.pointer (some ⟨b, 0, none⟩), .pointer (some ⟨m.b, 0, none⟩)] w
      (Does ((l.set t (MemK (drainStep m s).1)).set u (DrainK b (drainStep m s).2.1)) (.bool (drainStep m s).2.2)) := by
  obtain ⟨lv, hsp⟩ := h.drainSplit hu
  have htl := lt_of_at ht
  have hul := lt_of_at hu
  have hb := hsp.st (getP (i := 0) rfl)
  dsimp only [drainC] at hb
  obtain ⟨⟨la, lc, rfl⟩, hle, hlf⟩ := hsp.lf (getP (i := 2) rfl)
  cases hl : s.left with
  | nil =>
    have e : drainStep m s = (m, s, true) := by simp [drainStep, h1, h2, hl]
    rw [e]
    dsimp only
    rw [set_same ht, set_same hu]
    rw [hl] at hb
    replace h := hide h
    clear hsp hlf
    go_enter Try.func68, Try.ntmps68
    go_wp2
    go_ret
    exact ⟨rfl, h.out⟩
  | cons x xs =>
    have e : drainStep m s = (freeM m x, { s with left := xs }, decide (xs = [])) := by simp [drainStep, h1, h2, hl]
    rw [e]
    dsimp only
    rw [hl] at hb hlf hle hsp
    have hx : U64 x := hok.left x (by rw [hl]; simp)
    obtain ⟨tv, wv, hmh⟩ := hsp.memHdr (t := t) (app_get (set_other ht hne.symm))
    rcases hlf with h0 | ⟨g, off, cap, cur, hv, hcap, hcap2, hg, hcur⟩
    · simp at h0
    simp only [Value.slice.injEq, true_and] at hv
    obtain ⟨rfl, rfl⟩ := hv
    rw [List.length_cons] at hcap
    have c0 := hcur 0 x rfl
    rw [Nat.add_zero] at c0
    have hxl : ((x :: xs).length) = xs.length + 1 := rfl
    have hfree := memR_freeM (l := l.set u NoK ++ [StK b (drainC s (.slice (some ⟨g, off, none⟩) (xs.length + 1) lc)) 130, WaitK s.wb s.ws, LfK .u64 31 (.slice (some ⟨g, off, none⟩) (xs.length + 1) lc) (x :: xs)]) (w := w.drew) (m := m) (by have := hsp.drew; rw [drainP, hl, hxl] at this; exact this) (t := t) (app_get (set_other ht hne.symm)) x hx hok.gen
    rw [setL _ _ (by rw [len_noK]; exact htl)] at hfree
    replace hfree := hide hfree
    rw [hxl] at hb
    have hle2 : xs.length + 1 ≤ 9223372036854775807 := hle
    replace h1 := hide h1
    replace h2 := hide h2
    clear hsp h hok e hcur hle
    go_enter Try.func68, Try.ntmps68
    go_wp2_with fail
    go_still_tail 10, (by kernel_rfl)
    go_wp2_with fail
    refine hfree.out.mono ?_
    rintro e w2 ⟨rfl, h2'⟩
    have hb2 := h2'.st (getP (i := 0) rfl)
    dsimp only [drainC] at hb2
    clear hfree hb hmh
    by_cases hlc : lc = 1
    · subst hlc
      obtain rfl : xs = [] := List.eq_nil_of_length_eq_zero (by omega)
      have h3 := h2'.put (getP (i := 0) rfl) 0 (.slice (some ⟨g, off, none⟩) 0 0)
      rw [setP] at h3
      have h4 := R.lfNil h3 (getP (i := 2) rfl) (.slice (some ⟨g, off, none⟩) 0 0) ⟨_, _, rfl⟩
      rw [setP] at h4
      have hfin : R ((l.set t (MemK (freeM m x))).set u (DrainK b { s with left := [] })) (w2.setCell ⟨b, 0, none⟩ (.slice (some ⟨g, off, none⟩) 0 0)) := by
        have h5 := R.drainJoin (s := { s with left := [] }) (u := u) h4 (by simpa using hul)
        rwa [foldU _ hne] at h5
      replace hfin := hide hfin
      clear h2' h3 h4
      go_wp2
      go_ret
      exact ⟨rfl, hfin.out⟩
    · have h3 := h2'.put (getP (i := 0) rfl) 0 (.slice (some ⟨g, off + 1, none⟩) xs.length (lc - 1))
      rw [setP] at h3
      have h4 := R.lfTail h3 (getP (i := 2) rfl)
      rw [setP] at h4
      have hfin : R ((l.set t (MemK (freeM m x))).set u (DrainK b { s with left := xs })) (w2.setCell ⟨b, 0, none⟩ (.slice (some ⟨g, off + 1, none⟩) xs.length (lc - 1))) := by
        have h5 := R.drainJoin (s := { s with left := xs }) (u := u) h4 (by simpa using hul)
        rwa [foldU _ hne] at h5
      replace hfin := hide hfin
      clear h2' h3 h4
      go_wp2
      go_ret
      refine ⟨?_, hfin.out⟩
      cases xs with
      | nil => simp
      | cons y ys => simp; omega
end
end Go.Proofs.Ytcoaemjoanbemaa
