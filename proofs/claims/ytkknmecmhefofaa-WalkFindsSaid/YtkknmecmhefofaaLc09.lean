/- quietuslaw09: WalkFinds. Condition: strings are no longer than the form's own reach. -/
import Derived.Test.YtkknmecmhefofaaLb09
import Derived.Deep.RegionHeld3
namespace Go.Proofs.Ytkknmecmhefofaa
open Go.RowKit

def nd09 (ps : List Pr) (j k : Nat) : List Value := if ps.length - j ≤ k then [.int .u64 ((ps.length - k : Nat) : Int), .string (ps.getD k pr0).key, .int .u32 (ps.getD k pr0).sum] else [.int .u64 0, .string ⟨#[]⟩, .int .u32 0]
def nds09 (ps : List Pr) (j : Nat) : List Value := (List.range ps.length).flatMap (nd09 ps j)
theorem nd09_len (ps : List Pr) (j k : Nat) : (nd09 ps j k).length = 3 := by unfold nd09; split <;> rfl
theorem nds09_len (ps : List Pr) (j : Nat) : (nds09 ps j).length = ps.length * 3 := by rw [nds09, flat_len (nd09 ps j) 3 (nd09_len ps j), List.length_range]
theorem nds09_get (ps : List Pr) (j k r : Nat) (hr : r < 3) (hk : k < ps.length) : (nds09 ps j)[k * 3 + r]? = (nd09 ps j k)[r]? := by
  rw [nds09, flat_get (nd09 ps j) 3 (nd09_len ps j) _ _ _ hr]
  simp [hk]
theorem nds09_set (ps : List Pr) (j : Nat) (h : j < ps.length) :
    (((nds09 ps j).set ((ps.length - 1 - j) * 3) (.int .u64 ((j + 1 : Nat) : Int))).set ((ps.length - 1 - j) * 3 + 1) (.string (ps.getD (ps.length - 1 - j) pr0).key)).set ((ps.length - 1 - j) * 3 + 2) (.int .u32 (ps.getD (ps.length - 1 - j) pr0).sum) = nds09 ps (j + 1) := by
  apply List.ext_getElem?
  intro p
  obtain ⟨k, r, hr, rfl⟩ : ∃ k r, r < 3 ∧ p = k * 3 + r := ⟨p / 3, p % 3, by omega, by omega⟩
  by_cases hk : k < ps.length
  · rw [nds09_get ps (j + 1) k r hr hk]
    simp only [List.getElem?_set, List.length_set, nds09_len]
    by_cases hq : k = ps.length - 1 - j
    · have e : nd09 ps (j + 1) k = [.int .u64 ((ps.length - k : Nat) : Int), .string (ps.getD k pr0).key, .int .u32 (ps.getD k pr0).sum] := by rw [nd09, if_pos (by omega)]
      rw [e, ← hq]
      have e1 : ps.length - k = j + 1 := by omega
      rcases (by omega : r = 0 ∨ r = 1 ∨ r = 2) with rfl | rfl | rfl
      · rw [if_neg (by omega), if_neg (by omega), if_pos (by omega), if_pos (by omega), e1]; rfl
      · rw [if_neg (by omega), if_pos (by omega), if_pos (by omega)]; rfl
      · rw [if_pos (by omega), if_pos (by omega)]; rfl
    · rw [if_neg (by omega), if_neg (by omega), if_neg (by omega), nds09_get ps j k r hr hk]
      have e : nd09 ps j k = nd09 ps (j + 1) k := by
        unfold nd09
        by_cases hc : ps.length - j ≤ k
        · rw [if_pos hc, if_pos (by omega)]
        · rw [if_neg hc, if_neg (by omega)]
      rw [e]
  · rw [List.getElem?_eq_none (by simp only [List.length_set, nds09_len]; omega), List.getElem?_eq_none (by rw [nds09_len]; omega)]
theorem rnode9_info : (Try.prog.info? 102).map (fun i => (i.zero, i.size, i.bytes)) = some (some (.agg #[.int .u64 0, .string ⟨#[]⟩, .int .u32 0]), 3, 32) := by kernel_rfl
theorem nds09_0 (ps : List Pr) : (madeCells (Value.agg #[.int .u64 0, .string ⟨#[]⟩, .int .u32 0]).cells (ps.length * 3)).toList = nds09 ps 0 := by
  rw [madeCells_flat (fun _ : Nat => [Value.int .u64 0, .string ⟨#[]⟩, .int .u32 0]) 3 (fun _ => rfl) (by decide) 0 (Value.agg #[.int .u64 0, .string ⟨#[]⟩, .int .u32 0]).cells rfl ps.length]
  apply List.ext_getElem?
  intro p
  obtain ⟨k, r, hr, rfl⟩ : ∃ k r, r < 3 ∧ p = k * 3 + r := ⟨p / 3, p % 3, by omega, by omega⟩
  rw [flat_get (fun _ : Nat => [Value.int .u64 0, .string ⟨#[]⟩, .int .u32 0]) 3 (fun _ => rfl) _ _ _ hr]
  by_cases hk : k < ps.length
  · rw [nds09_get ps 0 k r hr hk, nd09, if_neg (by omega)]
    simp [hk]
  · have h1 : (nds09 ps 0)[k * 3 + r]? = none := List.getElem?_eq_none (by rw [nds09_len]; omega)
    have h2 : (List.replicate ps.length 0)[k]? = none := List.getElem?_eq_none (by simp; omega)
    rw [h1, h2]
    rfl

set_option maxHeartbeats 800000 in
theorem ref09_find {l : List KObj} {w : World} {u : Nat} {ps : List Pr} {v : Value} (h : R l w) (hu : l[u]? = some (SlK 102 3 v ps.length (nds09 ps ps.length))) (sum : Int) (key : ByteArray) :
    Calls Try.prog 56 #[v, .int .u32 sum, .string key] w fun e w' => e = .returned (.int .i64 (findI ps sum key)) ∧ w = w' := by
  obtain ⟨⟨a, c, rfl⟩, _, hlen⟩ := h.slVal hu
  replace h := hide h
  go_enter Try.func56, Try.ntmps56
  go_wp2_with fail
  go_loop [7] (fun i => ∃ k : Nat, k ≤ ps.length ∧ i = .int .i64 k ∧ Hid (∀ j, j < k → ¬ isP sum key (ps.getD j pr0))) (fun i => ps.length - (intOf i).toNat)
  case atStart => exact ⟨0, Nat.zero_le _, rfl, hide fun j hj => by omega⟩
  case round =>
    obtain ⟨k, hk, rfl, hn⟩ := hrel
    by_cases hlt : k < ps.length
    · obtain ⟨g, cap, cur, hv, hg, hc1, hc2, hcu⟩ := h.out.slRow hu (by omega)
      simp at hv
      obtain ⟨rfl, rfl⟩ := hv
      have hnd : nd09 ps ps.length k = [.int .u64 ((ps.length - k : Nat) : Int), .string (ps.getD k pr0).key, .int .u32 (ps.getD k pr0).sum] := by rw [nd09, if_pos (by omega)]
      have q1 := hcu (k * 3 + 1) _ (by rw [nds09_get ps _ k 1 (by decide) hlt, hnd]; rfl)
      have q2 := hcu (k * 3 + 2) _ (by rw [nds09_get ps _ k 2 (by decide) hlt, hnd]; rfl)
      clear hcu hnd
      by_cases hs : (ps.getD k pr0).sum = sum
      · by_cases hky : (ps.getD k pr0).key = key
        · have hf : Hid (findI ps sum key = k) := hide (findI_at hlt ⟨hs, hky⟩ hn.out)
          rw [hs] at q2
          rw [hky] at q1
          clear hs hky
          go_wp2
          go_ret
          exact ⟨by rw [hf.out]; rfl, rfl⟩
        · have hk1 : ((ps.getD k pr0).key.toList == key.toList) = false := by
            rw [beq_eq_false_iff_ne]
            exact fun x => hky (ByteArray.toList_inj' x)
          have hn' : Hid (∀ j, j < k + 1 → ¬ isP sum key (ps.getD j pr0)) := hide fun j hj => by
            by_cases e : j = k
            · subst e; exact fun x => hky x.2
            · exact hn.out j (by omega)
          rw [hs] at q2
          generalize (ps.getD k pr0).key = kk at *
          clear hs hky
          go_wp2
          go_round
          case rel => exact ⟨k + 1, by omega, by go_num, hn'⟩
          case measure => simp [intOf]; omega
      · have hs1 : ((ps.getD k pr0).sum == sum) = false := by simp; exact hs
        have hn' : Hid (∀ j, j < k + 1 → ¬ isP sum key (ps.getD j pr0)) := hide fun j hj => by
          by_cases e : j = k
          · subst e; exact fun x => hs x.1
          · exact hn.out j (by omega)
        generalize (ps.getD k pr0).sum = ss at *
        generalize (ps.getD k pr0).key = kk at *
        clear hs
        go_wp2
        go_round
        case rel => exact ⟨k + 1, by omega, by go_num, hn'⟩
        case measure => simp [intOf]; omega
    · obtain rfl : k = ps.length := by omega
      have hf : Hid (findI ps sum key = -1) := hide (findI_no hn.out)
      go_wp2
      go_ret
      exact ⟨by rw [hf.out]; rfl, rfl⟩

def mem9 (b cb lb ab : Nat) (ps : List Pr) (j : Nat) : MemS := { memNew b cb lb ab 60 1 with ss := ssW ps 60 j }
/-- What the loop of WalkFinds keeps. -/
def Rel09 (w : World) (b cb lb ab : Nat) (ps : List Pr) (nv : Value) (j : Nat) (wr : World) : Prop := R [BaseK w, MemK (mem9 b cb lb ab ps j), SlK 102 3 nv ps.length (nds09 ps j)] wr
theorem mem9_0 (b cb lb ab : Nat) (ps : List Pr) : mem9 b cb lb ab ps 0 = memNew b cb lb ab 60 1 := by simp [mem9, memNew, ssW]
theorem mem9_alloc (b cb lb ab : Nat) (ps : List Pr) (j : Nat) (h : j < 60) : hnd (mem9 b cb lb ab ps j).ss j = (j : Int) + 1 ∧
    { mem9 b cb lb ab ps j with ss := (mem9 b cb lb ab ps j).ss.set j (taken ((mem9 b cb lb ab ps j).ss.getD j slot0) (ndAt ps j)) } = mem9 b cb lb ab ps (j + 1) := by
  constructor
  · simp only [mem9, hnd, ssW_new _ _ _ _ (Nat.le_refl j)]; rfl
  · simp only [mem9, ssW_new _ _ _ _ (Nat.le_refl j), ssW_set _ _ _ h]

theorem finM_succ {σ : Type} (r : σ → Bool) (st : σ → σ × Bool) (k n : Nat) (s : σ) : finM r st (k + 1) n s = if r s then (if (st s).2 then (n + 1, true, (st s).1) else finM r st k (n + 1) (st s).1) else (n, false, s) := rfl
def mem9E (b cb lb ab : Nat) (ps : List Pr) : MemS := { mem9 b cb lb ab ps ps.length with cells := [1, 0, 0, (ps.length : Int)] }
theorem mem9_fin (b cb lb ab : Nat) (ps : List Pr) (hl : ps.length ≤ 50) (sum : Int) (key : ByteArray) : ∃ (n : Nat) (s : WalkS),
    finM (frReady fun _ _ => true) (frStep walkStep) 100 0 (mem9E b cb lb ab ps, walk0 3 sum key) = (n, true, (mem9E b cb lb ab ps, s)) ∧ s.first = (ps.length : Int) ∧
    ((findI ps sum key = -1 ∧ n = ps.length + 1 ∧ s.read = (ps.length : Int) ∧ s.found = false ∧ s.prev = (if ps.length = 0 then 0 else 1)) ∨
     (∃ i : Nat, i < ps.length ∧ findI ps sum key = i ∧ n = i + 2 ∧ s.read = (i : Int) + 1 ∧ s.found = true ∧ s.prev = (if i = 0 then 0 else ((ps.length - (i - 1) : Nat) : Int)) ∧ s.at_ = ((ps.length - i : Nat) : Int) ∧
       s.node = ⟨key, val09 key, sum, ((ps.length - 1 - i : Nat) : Int)⟩)) := by
  have hc3 : cellAt (mem9E b cb lb ab ps) 3 = ps.length := by rw [cellAt, if_pos (by decide)]; rfl
  have e1 : walkStep (mem9E b cb lb ab ps) (walk0 3 sum key) = (mem9E b cb lb ab ps, { walk0 3 sum key with first := (ps.length : Int), at_ := (ps.length : Int), looking := true }, decide ((ps.length : Int) = 0)) := by
    rw [walkStep, if_neg (by simp [walk0])]
    rw [show (walk0 3 sum key).cell = 3 from rfl, hc3]
    rfl
  have e2 : finM (frReady fun _ _ => true) (frStep walkStep) 100 0 (mem9E b cb lb ab ps, walk0 3 sum key) =
      if decide ((ps.length : Int) = 0) then (1, true, (mem9E b cb lb ab ps, { walk0 3 sum key with first := (ps.length : Int), at_ := (ps.length : Int), looking := true }))
      else finM (frReady fun _ _ => true) (frStep walkStep) 99 1 (mem9E b cb lb ab ps, { walk0 3 sum key with first := (ps.length : Int), at_ := (ps.length : Int), looking := true }) := by
    rw [show (100 : Nat) = 99 + 1 from rfl, finM_succ]
    simp only [frReady, frStep, e1, if_true]
  rw [e2]
  by_cases h0 : ps.length = 0
  · rw [if_pos (by simp [h0])]
    refine ⟨_, _, rfl, rfl, .inl ⟨findI_no fun k hk => by omega, by omega, by simp [walk0, h0], rfl, by rw [if_pos h0]; rfl⟩⟩
  · rw [if_neg (by rw [decide_eq_true_iff]; omega)]
    have hw := walk_fin (m := mem9E b cb lb ab ps) (room := 60) (sum := sum) (key := key) rfl (by omega) (by decide) (ps.length - 1) (by omega) 99 1 (by omega) { walk0 3 sum key with first := (ps.length : Int), at_ := (ps.length : Int), looking := true } rfl (by dsimp only; omega) rfl rfl (by simp [walk0]; omega)
    rw [hw]
    refine ⟨_, _, rfl, ?_⟩
    cases hf : ps.findIdx? (fun p => decide (isP sum key p)) with
    | none =>
      rw [List.findIdx?_eq_none_iff] at hf
      have hn : ∀ k, k < ps.length → ¬ isP sum key (ps.getD k pr0) := fun k hk => by
        have := hf ps[k] (List.getElem_mem hk)
        simpa [hk] using this
      rw [endW_no (ps.length - 1) (by omega) _ (fun k hk => hn _ (by omega))]
      refine ⟨rfl, .inl ⟨findI_no hn, by dsimp only; omega, ?_, rfl, by rw [if_neg h0]⟩⟩
      simp [walk0]; omega
    | some i =>
      rw [List.findIdx?_eq_some_iff_getElem] at hf
      obtain ⟨hi, hp, hn⟩ := hf
      have hp' : isP sum key (ps.getD i pr0) := by simpa [hi] using hp
      have hn' : ∀ k, k < i → ¬ isP sum key (ps.getD k pr0) := fun k hk => by
        have := hn k hk
        have hk2 : k < ps.length := by omega
        simpa [hk2] using this
      rw [endW_at (ps.length - 1) (by omega) _ i (by omega) (by rwa [show ps.length - 1 - (ps.length - 1) + i = i by omega]) (fun k hk => by rw [show ps.length - 1 - (ps.length - 1) + k = k by omega]; exact hn' k hk) (by dsimp only; omega)]
      refine ⟨rfl, .inr ⟨i, hi, findI_at hi hp' hn', by dsimp only; omega, by simp [walk0], rfl, ?_, by dsimp only; omega, ?_⟩⟩
      · dsimp only
        split
        · rfl
        · omega
      · dsimp only
        rw [ndAt, show ps.length - 1 - (ps.length - 1 - i) = i by omega, hp'.1, hp'.2]

set_option maxRecDepth 100000 in
set_option maxHeartbeats 4000000 in
theorem law09_finds (v : Value) (ps : List Pr) (sum : Int) (key : ByteArray) (hs0 : 0 ≤ sum) (hs1 : sum ≤ 4294967295) (hky : key.size ≤ 140737488355328) (w : World) (hv : FrAt w w.heap.size 2 v (ps.map pr09)) (hin : ∀ p ∈ ps, okPr p) (hl : ps.length ≤ 50) :
    Calls Try.prog 7 #[v, .int .u32 sum, .string key] w fun e w' => e = .returned (.bool true) ∧ Below w.heap.size w w' := by
  obtain ⟨a, cap, rfl, hlen, _⟩ := id hv
  rw [List.length_map] at *
  replace hv := hide hv
  have hmd := hide (law05_made (R.start w) 60 1 (by decide) (by decide) (by decide) (by decide))
  obtain ⟨i0, hi, hz0, hz1, hz2⟩ := info_parts rnode9_info
  have hmk := fun W => run_make (P := Try.prog) W 98 102 i0 _ Try.underlying98 hi hz0 .i64 .i64 ps.length ps.length (by omega) (Int.le_refl _) (by rw [hz2]; omega) (by omega)
  rw [hz1, Int.toNat_natCast] at hmk
  clear hi hz0 hz1 hz2
  go_enter Try.func7, Try.ntmps7
  go_wp2_with fail
  refine hmd.out.mono ?_
  rintro e w1 ⟨b, cb, lb, ab, rfl, R1⟩
  have R2 := R1.made (T := 102) (madeCells (Value.agg #[.int .u64 0, .string ⟨#[]⟩, .int .u32 0]).cells (ps.length * 3)) ps.length 3 (by unfold maxLen; omega) (by simp [madeCells])
  rw [nds09_0, ← mem9_0 b cb lb ab ps] at R2
  have hR : Rel09 w b cb lb ab ps _ 0 _ := R2
  replace hR := hide hR
  clear R1 R2 hmd
  go_wp2_with fail
  clear hmk
  generalize w1.heap.size = nb at *
  go_loopw [9, 10] (fun nx i wr => ∃ j : Nat, j ≤ ps.length ∧ nx = .int .u64 j ∧ i = .int .i64 ((ps.length : Int) - 1 - j) ∧ Rel09 w b cb lb ab ps (.slice (some ⟨nb, 0, none⟩) ps.length ps.length) j wr)
    (fun _ i _ => (intOf i + 1).toNat)
  case atStart => exact ⟨0, Nat.zero_le _, rfl, by simp, hR.out⟩
  case round =>
    obtain ⟨j, hj, rfl, rfl, h2⟩ := hrel
    clear hR
    by_cases hlt : j < ps.length
    · obtain ⟨q, hq⟩ : ∃ q : Nat, ps.length - 1 - j = q := ⟨_, rfl⟩
      have hqi : (ps.length : Int) - 1 - j = (q : Int) := by omega
      have hql : q < ps.length := by omega
      rw [hqi]
      have hbel := R.done h2
      obtain ⟨_, _, hv2, _, hr⟩ := hv.out.below hbel
      obtain ⟨vb, voff, ha, hvb, hc0⟩ := hr q (by simpa using hql)
      simp at hv2
      obtain ⟨rfl, rfl⟩ := hv2
      subst ha
      have hget : (ps.map pr09).getD q [] = pr09 (ps.getD q pr0) := by simp [hql]
      rw [hget] at hc0
      have hxin := hin (ps.getD q pr0) (by simp [hql])
      have hnd : ndAt ps j = ⟨(ps.getD q pr0).key, val09 (ps.getD q pr0).key, (ps.getD q pr0).sum, j⟩ := by rw [ndAt, hq]
      obtain ⟨y0, e0, c0⟩ := hc0 0 (by decide)
      obtain ⟨y1, e1, c1⟩ := hc0 1 (by decide)
      obtain rfl : Value.string (ps.getD q pr0).key = y0 := Option.some.inj e0
      obtain rfl : Value.int .u32 (ps.getD q pr0).sum = y1 := Option.some.inj e1
      simp only [Nat.add_zero] at c0
      obtain ⟨tv, wv, hmh⟩ := R.memHdr h2 (t := 1) rfl
      have hal : Calls Try.prog 13 #[.pointer (some ⟨ab, 0, none⟩), ndV (ndAt ps j)] wr.drew (Does [BaseK w, MemK (mem9 b cb lb ab ps (j + 1)), SlK 102 3 (.slice (some ⟨nb, 0, none⟩) ps.length ps.length) ps.length (nds09 ps j)] (.tuple #[.int .u64 ((j : Int) + 1), .int .i64 0])) := by
        have := memR_alloc (w := wr.drew) (R.drew h2) (t := 1) rfl (ndAt ps j) (by rw [hnd]; exact ⟨⟨by simp, by simp; omega⟩, hxin.1.1, hxin.1.2⟩) (show (0 : Nat) ≤ 1000000 by decide) j (ssW_free ps 60 j (by omega))
        rw [(mem9_alloc b cb lb ab ps j (by omega)).1, (mem9_alloc b cb lb ab ps j (by omega)).2] at this
        exact this
      rw [hnd, ndV] at hal
      dsimp only [mem9, memNew] at hmh
      dsimp only [val09] at hal
      obtain ⟨⟨hx0, hx1⟩, hx2⟩ := hxin
      generalize hp : ps.getD q pr0 = p at *
      obtain ⟨pk, pm⟩ := p
      dsimp only at hal hx0 hx1 hx2 c0 c1
      replace hal := hide hal
      replace hp := hide hp
      clear hc0 hr hget hnd
      replace hqi := hide hqi
      replace h2 := hide h2
      have hm2 : cellOf (blk wr b) 2 = some (.pointer (some ⟨ab, 0, none⟩)) := by rw [hmh]; rfl
      have hcat : ¬ (9223372036854775807 < ByteArray.size ⟨#[118]⟩ + pk.size) := by rw [show ByteArray.size ⟨#[118]⟩ = 1 from rfl]; omega
      have hcat2 : ¬ (9223372036854775807 < 1 + pk.size) := by omega
      clear hmh
      replace hbel := hide hbel
      go_wp2_with fail
      go_region_held3 (fun w' => cellOf (blk w' b) 2 = some (.pointer (some ⟨ab, 0, none⟩)) ∧ cellOf (blk w' vb) (voff + q * 2) = some (.string pk) ∧ cellOf (blk w' vb) (voff + q * 2 + 1) = some (.int .u32 pm)) (first | exact ⟨hm2, c0, c1⟩ | exact ⟨km2, k0, k1⟩) (first | (go_at_call 13; refine hal.out.mono ?_; rintro e w4 ⟨rfl, h4⟩; obtain ⟨tv4, wv4, hmh4⟩ := h4.memHdr (t := 1) rfl; have km2 : cellOf (blk w4 b) 2 = some (.pointer (some ⟨ab, 0, none⟩)) := (by rw [show blk w4 b = _ from hmh4]; rfl); have hb4 := h4.done; have hb5 := (hb4.block vb hvb).trans (hbel.out.block vb hvb).symm; have k0 : cellOf (blk w4 vb) (voff + q * 2) = some (.string pk) := (by rw [show blk w4 vb = blk wr vb from hb5]; exact c0); have k1 : cellOf (blk w4 vb) (voff + q * 2 + 1) = some (.int .u32 pm) := (by rw [show blk w4 vb = blk wr vb from hb5]; exact c1); clear hb4 hb5 hmh4))
      clear hal hm2 c0 c1 h2 hcat hcat2
      have hj1 : ((j : Int) + 1) ≠ 0 := by omega
      have hj2 : ((j : Int) + 1 == 0) = false := by simp; omega
      obtain ⟨g4, cap4, cur4, hv4, hg4, hc41, hc42, hcu4⟩ := h4.slRow (t := 2) rfl (by omega)
      simp at hv4
      obtain ⟨rfl, rfl⟩ := hv4
      obtain ⟨z0, hz0⟩ : ∃ z, nd09 ps j q = z := ⟨_, rfl⟩
      have hzl : z0.length = 3 := by rw [← hz0]; exact nd09_len ps j q
      obtain ⟨y0, y1, y2, rfl⟩ : ∃ a b c, z0 = [a, b, c] := by
        match z0, hzl with
        | [a, b, c], _ => exact ⟨a, b, c, rfl⟩
      have q0 := hcu4 (q * 3) y0 (by rw [show q * 3 = q * 3 + 0 from rfl, nds09_get ps j q 0 (by decide) hql, hz0]; rfl)
      have q1 := hcu4 (q * 3 + 1) y1 (by rw [nds09_get ps j q 1 (by decide) hql, hz0]; rfl)
      have q2 := hcu4 (q * 3 + 2) y2 (by rw [nds09_get ps j q 2 (by decide) hql, hz0]; rfl)
      clear hcu4
      have hp4 := ((R.putRow h4 (t := 2) rfl (q * 3) (.int .u64 ((j : Int) + 1)) (by omega)).putRow (t := 2) rfl (q * 3 + 1) (.string pk) (by omega)).putRow (t := 2) rfl (q * 3 + 2) (.int .u32 pm) (by omega)
      replace hz0 := hide hz0
      replace h4 := hide h4
      have hR3 : Rel09 w b cb lb ab ps (.slice (some ⟨nb, 0, none⟩) ps.length ps.length) (j + 1) (((w4.setCell ⟨nb, q * 3, none⟩ (.int .u64 ((j : Int) + 1))).setCell ⟨nb, q * 3 + 1, none⟩ (.string pk)).setCell ⟨nb, q * 3 + 2, none⟩ (.int .u32 pm)).drew := by
        have h5 := hp4.drew
        have h6 := nds09_set ps j hlt
        rw [hq, hp.out] at h6
        simp only [Int.natCast_add, Int.cast_ofNat_Int] at h6
        have e : ((((nds09 ps j).set (q * 3) (Value.int .u64 ((j : Int) + 1))).set (q * 3 + 1) (.string pk)).set (q * 3 + 2) (.int .u32 pm)) = nds09 ps (j + 1) := h6
        rw [e] at h5
        exact h5
      replace hR3 := hide hR3
      clear hp4
      have hqi2 : (q : Int) - 1 = (ps.length : Int) - 1 - ((j + 1 : Nat) : Int) := by have := hqi.out; omega
      replace hqi2 := hide hqi2
      go_wp2_with fail
      go_still_tail 15, (by kernel_rfl)
      go_wp2_with fail
      exact ⟨⟨j + 1, by omega, by go_num, by rw [hqi2.out], hR3.out⟩, by simp [intOf]⟩
    · obtain rfl : j = ps.length := by omega
      have hm9 : 3 < (mem9 b cb lb ab ps ps.length).cells.length := by simp [mem9, memNew]
      have hst := memR_store h2 (t := 1) rfl 3 ps.length (by decide) (by omega) ⟨by omega, by omega⟩
      obtain ⟨tv, wv, hmh⟩ := R.memHdr h2 (t := 1) rfl
      have hst' : Hid (Calls _ _ _ _ (Does [BaseK w, MemK (mem9E b cb lb ab ps), SlK 102 3 (.slice (some ⟨nb, 0, none⟩) ps.length ps.length) ps.length (nds09 ps ps.length)] (.int .i64 0))) := hide hst
      have hzi : (ps.length : Int) - 1 - ps.length = -1 := by omega
      rw [hzi]
      dsimp only [mem9, memNew] at hmh
      clear h2 hst hm9 hj hlt hzi
      go_wp2_with fail
      refine hst'.out.mono ?_
      rintro e w3 ⟨rfl, h3⟩
      clear hst' hmh
      have hnw := hide (walk_new h3 3 sum key)
      clear h3
      go_wp2_with fail
      refine hnw.out.mono ?_
      rintro e w4 ⟨b2, rfl, h4⟩
      clear hnw
      replace h4 := hide h4
      go_wp2_with fail
      refine (walk_ready _ _ _).mono ?_
      rintro e w5 ⟨rfl, rfl⟩
      obtain ⟨n, s, hfn, hs1, hcase⟩ := mem9_fin b cb lb ab ps hl sum key
      have hfin : Hid (Calls _ _ _ _ (Does [BaseK w, MemK (mem9E b cb lb ab ps), SlK 102 3 (.slice (some ⟨nb, 0, none⟩) ps.length ps.length) ps.length (nds09 ps ps.length), WalkK b2 s] (.tuple #[.int .i64 n, .bool true]))) := hide (fin_R walkK h4.out (t := 1) (u := 3) rfl rfl (by decide) (WalkOk.start 3 sum key) 100 (by decide) hfn)
      clear h4 hfn
      go_wp2_with fail
      refine hfin.out.mono ?_
      rintro e w5 ⟨rfl, h5⟩
      clear hfin
      have hfd := hide (ref09_find h5 (u := 2) rfl sum key)
      replace h5 := hide h5
      go_wp2_with fail
      refine hfd.out.mono ?_
      rintro e w6 ⟨rfl, rfl⟩
      clear hfd
      rcases hcase with ⟨hI, rfl, hrd, hfo, hpv⟩ | ⟨i, hi, hI, rfl, hrd, hfo, hpv, hat, hnd⟩
      · rw [hI]
        have hwf := walk_found h5.out (u := 3) rfl
        rw [foundV, hfo] at hwf
        simp only [Bool.false_eq_true, if_false, ndV, nd0] at hwf
        replace hwf := hide hwf
        clear hI h5
        go_wp2_with fail
        refine hwf.out.mono ?_
        rintro e w7 ⟨rfl, h7⟩
        clear hwf
        have h8 := h7.new #[.string ⟨#[]⟩, .string ⟨#[]⟩, .int .u32 0, .int .u64 0] 36
        have hst8 := h8.st app_last
        have c1 : Calls Try.prog 58 _ _ _ := walk_read h8 (u := 3) rfl
        have c2 : Calls Try.prog 59 _ _ _ := walk_first h8 (u := 3) rfl
        have c3 : Calls Try.prog 60 _ _ _ := walk_prev h8 (u := 3) rfl
        have c4 : Calls Try.prog 16 _ _ (fun e w' => e = .returned (.bool false) ∧ _ = w') := memR_fault h8 (t := 1) rfl
        obtain ⟨tv, wv, hmh⟩ := R.memHdr h8 (t := 1) rfl
        dsimp only [mem9E, mem9, memNew] at hmh c4
        rw [hrd] at c1
        rw [hs1] at c2
        rw [hpv] at c3
        have hbel := hide h8
        replace c1 := hide c1
        replace c2 := hide c2
        replace c4 := hide c4
        by_cases h0 : ps.length = 0
        · rw [if_pos h0] at c3
          replace c3 := hide c3
          have hz : (ps.length : Int) = 0 := by omega
          replace h0 := hide h0
          clear h7 h8 hrd hs1 hpv hfo
          go_wp2_with fail
          refine c1.out.mono ?_
          rintro e w8 ⟨rfl, rfl⟩
          clear c1
          go_wp2_with fail
          refine c2.out.mono ?_
          rintro e w8 ⟨rfl, rfl⟩
          clear c2
          go_wp2_with fail
          refine c3.out.mono ?_
          rintro e w8 ⟨rfl, rfl⟩
          clear c3
          go_wp2_with fail
          refine c4.out.mono ?_
          rintro e w8 ⟨rfl, rfl⟩
          clear c4 hmh hst8
          go_wp2_with fail
          refine (law09_awake _).mono ?_
          rintro e w9 ⟨rfl, hb9⟩
          have h9 := hbel.out.below hb9
          have hst9 := h9.st app_last
          have hbd := h9.done
          clear h9 hb9 hbel
          go_wp2
          go_ret
          exact ⟨rfl, hbd⟩
        · rw [if_neg h0] at c3
          replace c3 := hide c3
          obtain ⟨g4, cap4, cur4, hv4, hg4, hc41, hc42, hcu4⟩ := h8.slRow (t := 2) rfl (by omega)
          simp at hv4
          obtain ⟨rfl, rfl⟩ := hv4
          have q0 := hcu4 ((ps.length - 1) * 3) (.int .u64 1) (by
            rw [show (ps.length - 1) * 3 = (ps.length - 1) * 3 + 0 from rfl, nds09_get ps _ _ 0 (by decide) (by omega), nd09, if_pos (by omega), show ps.length - (ps.length - 1) = 1 by omega]; rfl)
          have hk1 : ((ps.length : Int) - 1).toNat = ps.length - 1 := by omega
          obtain ⟨k, hk⟩ : ∃ k, ps.length = k + 1 := ⟨ps.length - 1, by omega⟩
          have hk2 : (ps.length : Int) - 1 = (k : Int) := by omega
          have hk3 : (0 : Int) < ps.length := by omega
          rw [hk, Nat.add_sub_cancel] at q0
          replace h0 := hide h0
          clear h7 h8 hrd hs1 hpv hfo hcu4
          go_wp2_with fail
          refine c1.out.mono ?_
          rintro e w8 ⟨rfl, rfl⟩
          clear c1
          go_wp2_with fail
          refine c2.out.mono ?_
          rintro e w8 ⟨rfl, rfl⟩
          clear c2
          go_wp2_with fail
          refine c3.out.mono ?_
          rintro e w8 ⟨rfl, rfl⟩
          clear c3
          go_wp2_with fail
          refine c4.out.mono ?_
          rintro e w8 ⟨rfl, rfl⟩
          clear c4 hmh hst8
          go_wp2_with fail
          refine (law09_awake _).mono ?_
          rintro e w9 ⟨rfl, hb9⟩
          have h9 := hbel.out.below hb9
          have hst9 := h9.st app_last
          have hbd := h9.done
          clear h9 hb9 hbel
          go_wp2
          go_ret
          exact ⟨rfl, hbd⟩
      · rw [hI]
        have hwf := walk_found h5.out (u := 3) rfl
        rw [foundV, hfo] at hwf
        simp only [if_true, ndV] at hwf
        rw [hat, hnd] at hwf
        dsimp only [val09] at hwf
        obtain ⟨A, hA⟩ : ∃ x, ps.length - i = x := ⟨_, rfl⟩
        obtain ⟨X, hX⟩ : ∃ x, ps.length - 1 - i = x := ⟨_, rfl⟩
        obtain ⟨B, hB⟩ : ∃ x, ps.length - (i - 1) = x := ⟨_, rfl⟩
        rw [hA, hX] at hwf
        rw [hB] at hpv
        replace hA := hide hA
        replace hX := hide hX
        replace hB := hide hB
        replace hwf := hide hwf
        have hip : (0 : Int) ≤ i := by omega
        have hcat : ¬ (9223372036854775807 < ByteArray.size ⟨#[118]⟩ + key.size) := by rw [show ByteArray.size ⟨#[118]⟩ = 1 from rfl]; omega
        have hcat2 : ¬ (9223372036854775807 < 1 + key.size) := by omega
        clear hI h5
        go_wp2_with fail
        refine hwf.out.mono ?_
        rintro e w7 ⟨rfl, h7⟩
        clear hwf
        have h8 := h7.new #[.string key, .string (⟨#[118]⟩ ++ key), .int .u32 sum, .int .u64 (X : Int)] 36
        have hst8 := h8.st app_last
        have c1 : Calls Try.prog 58 _ _ _ := walk_read h8 (u := 3) rfl
        have c2 : Calls Try.prog 59 _ _ _ := walk_first h8 (u := 3) rfl
        have c3 : Calls Try.prog 60 _ _ _ := walk_prev h8 (u := 3) rfl
        have c4 : Calls Try.prog 16 _ _ (fun e w' => e = .returned (.bool false) ∧ _ = w') := memR_fault h8 (t := 1) rfl
        obtain ⟨tv, wv, hmh⟩ := R.memHdr h8 (t := 1) rfl
        dsimp only [mem9E, mem9, memNew] at hmh c4
        rw [hrd] at c1
        rw [hs1] at c2
        rw [hpv] at c3
        have hbel := hide h8
        replace c1 := hide c1
        replace c2 := hide c2
        replace c4 := hide c4
        by_cases h0 : i = 0
        · subst h0
          rw [if_pos rfl] at c3
          replace c3 := hide c3
          clear h7 h8 hrd hs1 hpv hfo hat hnd
          go_wp2_with fail
          refine c1.out.mono ?_
          rintro e w8 ⟨rfl, rfl⟩
          clear c1
          go_wp2_with fail
          refine c2.out.mono ?_
          rintro e w8 ⟨rfl, rfl⟩
          clear c2
          go_wp2_with fail
          refine c3.out.mono ?_
          rintro e w8 ⟨rfl, rfl⟩
          clear c3
          go_wp2_with fail
          refine c4.out.mono ?_
          rintro e w8 ⟨rfl, rfl⟩
          clear c4 hmh hst8
          go_wp2_with fail
          refine (law09_awake _).mono ?_
          rintro e w9 ⟨rfl, hb9⟩
          have h9 := hbel.out.below hb9
          have hst9 := h9.st app_last
          have hbd := h9.done
          obtain ⟨g9, cap9, cur9, hv9, hg9, hc91, hc92, hcu9⟩ := h9.slRow (t := 2) rfl (by omega)
          simp at hv9
          obtain ⟨rfl, rfl⟩ := hv9
          have q9 := hcu9 0 (.int .u64 (A : Int)) (by
            rw [show 0 = 0 * 3 + 0 from rfl, nds09_get ps _ _ 0 (by decide) (by omega), nd09, if_pos (by omega), hA.out]; rfl)
          clear h9 hb9 hbel hcu9
          go_wp2
          go_ret
          exact ⟨rfl, hbd⟩
        · rw [if_neg h0] at c3
          replace c3 := hide c3
          obtain ⟨g4, cap4, cur4, hv4, hg4, hc41, hc42, hcu4⟩ := h8.slRow (t := 2) rfl (by omega)
          simp at hv4
          obtain ⟨rfl, rfl⟩ := hv4
          obtain ⟨k, hk⟩ : ∃ k, i = k + 1 := ⟨i - 1, by omega⟩
          have q0 := hcu4 (k * 3) (.int .u64 (B : Int)) (by
            rw [show k * 3 = k * 3 + 0 from rfl, nds09_get ps _ _ 0 (by decide) (by omega), nd09, if_pos (by omega), show ps.length - k = B by rw [← hB.out, hk, Nat.add_sub_cancel]]; rfl)
          have hk2 : (i : Int) - 1 = (k : Int) := by omega
          have hk3 : (0 : Int) < i := by omega
          have hkl : (k : Int) < ps.length := by omega
          replace hk := hide hk
          replace h0 := hide h0
          clear h7 h8 hrd hs1 hpv hfo hcu4 hat hnd
          go_wp2_with fail
          refine c1.out.mono ?_
          rintro e w8 ⟨rfl, rfl⟩
          clear c1
          go_wp2_with fail
          refine c2.out.mono ?_
          rintro e w8 ⟨rfl, rfl⟩
          clear c2
          go_wp2_with fail
          refine c3.out.mono ?_
          rintro e w8 ⟨rfl, rfl⟩
          clear c3
          go_wp2_with fail
          refine c4.out.mono ?_
          rintro e w8 ⟨rfl, rfl⟩
          clear c4 hmh hst8
          go_wp2_with fail
          refine (law09_awake _).mono ?_
          rintro e w9 ⟨rfl, hb9⟩
          have h9 := hbel.out.below hb9
          have hst9 := h9.st app_last
          have hbd := h9.done
          obtain ⟨g9, cap9, cur9, hv9, hg9, hc91, hc92, hcu9⟩ := h9.slRow (t := 2) rfl (by omega)
          simp at hv9
          obtain ⟨rfl, rfl⟩ := hv9
          have q9 := hcu9 (i * 3) (.int .u64 (A : Int)) (by
            rw [show i * 3 = i * 3 + 0 from rfl, nds09_get ps _ _ 0 (by decide) (by omega), nd09, if_pos (by omega), hA.out]; rfl)
          clear h9 hb9 hbel hcu9
          go_wp2
          go_ret
          exact ⟨rfl, hbd⟩

set_option maxRecDepth 100000 in
set_option maxHeartbeats 1600000 in
theorem law09_many (sum : Int) (key : ByteArray) (a : Option Addr) (len cap : Nat) (h : 50 < len) (hl : len ≤ 9223372036854775807) (w : World) :
    Calls Try.prog 7 #[.slice a len cap, .int .u32 sum, .string key] w fun e w' => e = .returned (.bool true) ∧ Below w.heap.size w w' := by
  have hmd := hide (law05_made (R.start w) 60 1 (by decide) (by decide) (by decide) (by decide))
  go_enter Try.func7, Try.ntmps7
  go_wp2_with fail
  refine hmd.out.mono ?_
  rintro e w1 ⟨b, cb, lb, ab, rfl, R1⟩
  replace R1 := hide R1
  clear hmd
  go_wp2_with fail
  refine (law09_awake _).mono ?_
  rintro e w7 ⟨rfl, hb7⟩
  have hbel7 := (R1.out.below hb7).done
  go_wp2
  go_ret
  exact ⟨rfl, hbel7⟩
end Go.Proofs.Ytkknmecmhefofaa
