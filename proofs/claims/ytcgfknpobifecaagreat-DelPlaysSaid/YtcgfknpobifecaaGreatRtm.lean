/- Package retire: a drain as one object; what its calls come to. Condition: the memory and the drain are there. Live handles of an arena as a list: none is there twice, and they are as many as the places that are taken. No condition. -/
import Derived.Test.YtcgfknpobifecaaGreatLa02m
import Derived.Test.YtcgfknpobifecaaGreatRkm
import Derived.Test.YtcgfknpobifecaaGreatMnm
import Derived.Laws.EntriesVeiled
import Derived.Test.YtcgfknpobifecaaGreatMkm
namespace Go.Proofs.YtcgfknpobifecaaGreat
open Go.RowKit

structure DrainS where
  wb : Nat
  left : List Int
  ws : WaitS
  taken : Bool
  past : Bool
def drainC (s : DrainS) (lv : Value) : Array Value := #[lv, .iface 141 (.pointer (some ⟨s.wb, 0, none⟩)), .bool s.taken, .bool s.past]
def waitC (s : WaitS) : Array Value := #[.int .i64 s.worker, .int .i64 s.at_, .int .u64 s.period, .int .i64 s.next]
def DrainK (b : Nat) (s : DrainS) : KObj where
  holds o w t := ∃ lv, StAt o w (16 * t) b (drainC s lv) 144 ∧ StAt o w (16 * t + 1) s.wb (waitC s.ws) 173 ∧ LfAt .u64 47 o w (16 * t + 2) lv s.left
  keep e hs h := by
    obtain ⟨lv, h1, h2, h3⟩ := h
    exact ⟨lv, h1.kp e (by simpa using hs 0 (by decide)), h2.kp e (hs 1 (by decide)), h3.kp e (hs 2 (by decide))⟩

section
variable {l : List KObj} {w : World} {t u : Nat} {m : MemS} {b : Nat} {s : DrainS}
/-- Its parts. -/
abbrev drainP (b : Nat) (s : DrainS) (lv : Value) : List KObj := [StK b (drainC s lv) 144, WaitK s.wb s.ws, LfK .u64 47 lv s.left]
theorem R.drainSplit (h : R l w) (hu : l[u]? = some (DrainK b s)) : ∃ lv, R (l.set u NoK ++ drainP b s lv) w := by
  obtain ⟨o, _, lv, hb, _, _⟩ := h.get hu
  have hb := hb.heap
  refine ⟨lv, h.split hu (fun j => 16 * j) fun o o' hk ho i p hp => ?_⟩
  obtain ⟨lv2, h1, h2, h3⟩ := hk
  obtain rfl : lv2 = lv := by
    have := h1.heap
    rw [hb] at this
    simp [drainC] at this
    exact this.symm
  match i, hp with
  | 0, hp => simp at hp; subst hp; exact h1.re fun k hk => (ho k 0 (by decide) (by omega)).trans (by omega)
  | 1, hp => simp at hp; subst hp; exact StAt.re h2 fun k hk => (ho k 1 (by decide) (by omega)).trans (by omega)
  | 2, hp => simp at hp; subst hp; exact LfAt.re h3 fun k hk => (ho k 2 (by decide) (by omega)).trans (by omega)
  | i + 3, hp => simp at hp
theorem R.drainJoin {lv : Value} (h : R (l ++ drainP b s lv) w) (hul : u < l.length) : R (l.set u (DrainK b s)) w := by
  refine h.join hul (fun x => x / 16) fun o o' hp ho => ?_
  refine ⟨lv, StAt.re (hp 0 _ rfl) fun k hk => ?_, StAt.re (hp 1 _ rfl) fun k hk => ?_, LfAt.re (hp 2 _ rfl) fun k hk => ?_⟩
  · have := ho k 0 (by simp) (by omega); simpa using this
  · have := ho k 16 (by simp) (by omega); simpa using this
  · have := ho k 32 (by simp) (by omega); simpa using this

def freeM (m : MemS) (h : Int) : MemS := if 0 ≤ atA m.ss h then { m with ss := m.ss.set (atA m.ss h).toNat (freed (m.ss.getD (atA m.ss h).toNat slot0)), gen := m.gen + 1 } else { m with fault := true }
theorem memR_freeM (h : R l w) (ht : l[t]? = some (MemK m)) (x : Int) (hx : U64 x) (hg : m.gen ≤ 1000000) :
    Calls Tryz.prog 125 #[.pointer (some ⟨m.ab, 0, none⟩), .int .u64 x] w (Does (l.set t (MemK (freeM m x))) (.int .i64 (useCode m.ss x))) := by
  unfold freeM
  by_cases hi : 0 ≤ atA m.ss x
  · obtain ⟨i, hia, _⟩ := atA_lt m.ss x hi
    rw [if_pos hi, hia, show useCode m.ss x = 0 by rw [useCode, if_pos hi]]
    exact memR_free h ht x hx hg i hia
  · rw [if_neg hi]
    exact memR_free_no h ht x hx hi

def drainReady (m : MemS) (s : DrainS) : Bool := if s.taken then (if s.past then true else waitReady m s.ws) else decide (0 < m.waiting.length)
def drainStep (m : MemS) (s : DrainS) : MemS × DrainS × Bool :=
  if s.taken then
    if s.past then
      match s.left with
      | [] => (m, s, true)
      | h :: tl => (freeM m h, { s with left := tl }, decide (tl = []))
    else ((waitStep m s.ws).1, { s with ws := (waitStep m s.ws).2.1, past := (waitStep m s.ws).2.2 }, (waitStep m s.ws).2.2 && decide (s.left = []))
  else ({ m with waiting := [] }, { s with left := m.waiting, taken := true }, false)
structure DrainOk (m : MemS) (s : DrainS) : Prop where
  wait : WaitOk m s.ws
  left : ∀ x ∈ s.left, U64 x
  gen : m.gen ≤ 1000000
  early : s.taken = false → s.left = []

set_option maxHeartbeats 400000 in
theorem retire_new (h : R l w) (k : Nat) : Calls Tryz.prog 41 #[.int .i64 k] w fun e w' => ∃ b wb, e = .returned (.pointer (some ⟨b, 0, none⟩)) ∧ R (l ++ [DrainK b ⟨wb, [], ⟨k, 0, 0, 0⟩, false, false⟩]) w' := by
  have hs := hide (qsbr_sync h k)
  clear h
  go_enter Tryz.func41, Tryz.ntmps41
  go_wp2_with fail
  refine hs.out.mono ?_
  rintro e w1 ⟨wb, rfl, h1⟩
  have h2 := h1.new #[.slice none 0 0, .iface 141 (.pointer (some ⟨wb, 0, none⟩)), .bool false, .bool false] 144
  replace h2 := hide h2
  clear h1 hs
  go_wp2
  go_ret
  refine ⟨_, wb, rfl, ?_⟩
  obtain ⟨o, hr⟩ := h2.out
  have g1 : StAt o _ (16 * l.length) wb _ _ := hr l.length (WaitK wb ⟨k, 0, 0, 0⟩) (by simp)
  have g2 : StAt o _ (16 * (l.length + 1)) w1.heap.size _ _ := hr (l.length + 1) (StK w1.heap.size #[.slice none 0 0, .iface 141 (.pointer (some ⟨wb, 0, none⟩)), .bool false, .bool false] 144) (by simp)
  have hj : R (l ++ [NoK] ++ drainP w1.heap.size ⟨wb, [], ⟨k, 0, 0, 0⟩, false, false⟩ (.slice none 0 0)) (w1.alloc (.cells #[.slice none 0 0, .iface 141 (.pointer (some ⟨wb, 0, none⟩)), .bool false, .bool false] 144)) := by
    refine ⟨fun k => if o k = 16 * l.length then 16 * (l.length + 2) else o k, fun v p hv => ?_⟩
    have hkp : Kp (fun x => x ≠ 16 * l.length) o (fun k => if o k = 16 * l.length then 16 * (l.length + 2) else o k) (w1.alloc (.cells #[.slice none 0 0, .iface 141 (.pointer (some ⟨wb, 0, none⟩)), .bool false, .bool false] 144)) (w1.alloc (.cells #[.slice none 0 0, .iface 141 (.pointer (some ⟨wb, 0, none⟩)), .bool false, .bool false] 144)) := mv_kp o _ (16 * l.length) (16 * (l.length + 2))
    by_cases hvl : v < l.length
    · rw [List.append_assoc, List.getElem?_append_left hvl] at hv
      exact p.keep hkp (fun j hj => by omega) (hr v p (by rw [List.append_assoc, List.getElem?_append_left hvl]; exact hv))
    · obtain ⟨i, rfl⟩ : ∃ i, v = l.length + i := ⟨v - l.length, by omega⟩
      rw [List.append_assoc, List.getElem?_append_right (by omega), show l.length + i - l.length = i by omega] at hv
      match i, hv with
      | 0, hv => simp at hv; subst hv; trivial
      | 1, hv => simp at hv; subst hv; exact g2.kp hkp (by omega)
      | 2, hv => simp at hv; subst hv; exact g1.mv _
      | 3, hv => simp at hv; subst hv; exact ⟨⟨_, _, rfl⟩, by simp, .inl rfl⟩
      | i + 4, hv => simp at hv
  have := hj.drainJoin (u := l.length) (by simp)
  simpa using this
end
end Go.Proofs.YtcgfknpobifecaaGreat

namespace Go.Proofs.YtcgfknpobifecaaGreat
open Go.RowKit

structure Pool (ss : List Slot) (L : List Int) : Prop where
  nd : L.Nodup
  live : ∀ h ∈ L, 0 ≤ atA ss h ∧ U64 h
  count : L.length + (freeTo ss ss.length).length = ss.length

theorem getD_set_no (ss : List Slot) (x : Slot) {i j : Nat} (h : i ≠ j) : (ss.set i x).getD j slot0 = ss.getD j slot0 := by
  rw [List.getD_eq_getElem?_getD, List.getElem?_set_ne h, ← List.getD_eq_getElem?_getD]
theorem atA_set (ss : List Slot) (i : Nat) (x : Slot) (h : Int) (hne : h % 65536 ≠ i + 1) : atA (ss.set i x) h = atA ss h := by
  unfold atA
  rw [List.length_set]
  by_cases h0 : 0 < h % 65536
  · rw [getD_set_no ss x (show i ≠ (h % 65536).toNat - 1 by omega)]
  · rw [if_neg fun c => h0 c.1, if_neg fun c => h0 c.1]
theorem freeTo_set (ss : List Slot) (i : Nat) (x : Slot) (hi : i < ss.length) (k : Nat) (hk : k ≤ ss.length) :
    (freeTo (ss.set i x) k).length + (if i < k then (if (ss.getD i slot0).used then 0 else 1) else 0) = (freeTo ss k).length + (if i < k then (if x.used then 0 else 1) else 0) := by
  induction k with
  | zero => simp [freeTo]
  | succ k ih =>
    have ih := ih (by omega)
    rw [freeTo_succ, freeTo_succ]
    by_cases hik : i = k
    · subst hik
      rw [getD_set_at _ _ _ hi]
      simp only [if_neg (Nat.lt_irrefl i)] at ih
      simp only [if_pos (Nat.lt_succ_self i)]
      omega
    · rw [getD_set_no _ _ hik]
      by_cases h : i < k
      · simp only [if_pos h] at ih
        simp only [if_pos (show i < k + 1 by omega)]
        omega
      · simp only [if_neg h] at ih
        simp only [if_neg (show ¬ i < k + 1 by omega)]
        omega
theorem freeTo_setAll (ss : List Slot) (i : Nat) (x : Slot) (hi : i < ss.length) :
    (freeTo (ss.set i x) (ss.set i x).length).length + (if (ss.getD i slot0).used then 0 else 1) = (freeTo ss ss.length).length + (if x.used then 0 else 1) := by
  have := freeTo_set ss i x hi ss.length (Nat.le_refl _)
  rw [if_pos hi, if_pos hi] at this
  rw [List.length_set]
  exact this

theorem Pool.perm {ss : List Slot} {L L' : List Int} (h : Pool ss L) (p : L'.Perm L) : Pool ss L' :=
  ⟨p.nodup_iff.2 h.nd, fun x hx => h.live x (p.mem_iff.1 hx), by rw [p.length_eq]; exact h.count⟩
theorem freeTo_new (n : Nat) : (freeTo (List.replicate n slot0) (List.replicate n slot0).length).length = n := by
  have : ∀ k, k ≤ n → (freeTo (List.replicate n slot0) k).length = k := by
    intro k
    induction k with
    | zero => exact fun _ => rfl
    | succ k ih =>
      intro hk
      have e : (List.replicate n slot0).getD k slot0 = slot0 := by
        rw [List.getD_eq_getElem?_getD, List.getElem?_replicate, if_pos (show k < n by omega)]
        rfl
      rw [freeTo_succ, ih (by omega), e]
      rfl
  rw [List.length_replicate]
  exact this n (Nat.le_refl _)
theorem Pool.start (n : Nat) : Pool (List.replicate n slot0) [] := ⟨List.nodup_nil, fun _ h => absurd h List.not_mem_nil, by rw [freeTo_new]; simp⟩

theorem hnd_mod {ss : List Slot} {i : Nat} (hi : i < 1024) : hnd ss i % 65536 = i + 1 := by unfold hnd; omega
theorem hnd_div {ss : List Slot} {i : Nat} (hi : i < 1024) : hnd ss i / 65536 = (ss.getD i slot0).gen := by unfold hnd; omega
theorem hnd_u64 {ss : List Slot} {i : Nat} {c : Int} (hi : i < 1024) (hg : GenOk ss c) (hc : c ≤ 1000000) : U64 (hnd ss i) := by
  have := hg i
  unfold hnd U64
  omega

theorem Pool.fresh {ss : List Slot} {L : List Int} (h : Pool ss L) {i : Nat} (hl : ss.length ≤ 1024) (hi : freeAt ss = some i) : hnd ss i ∉ L := fun hm => by
  obtain ⟨h1, h2, _⟩ := freeAt_some hi
  obtain ⟨j, _, _, hu, hj, _⟩ := atA_lt ss _ (h.live _ hm).1
  rw [hnd_mod (by omega)] at hj
  obtain rfl : i = j := by omega
  rw [h2] at hu
  cases hu
theorem Pool.alloc {ss : List Slot} {L : List Int} (h : Pool ss L) {i : Nat} {c : Int} (hl : ss.length ≤ 1024) (hg : GenOk ss c) (hc : c ≤ 1000000) (hi : freeAt ss = some i) (n : Nd) :
    Pool (ss.set i (taken (ss.getD i slot0) n)) (hnd ss i :: L) := by
  obtain ⟨h1, h2, _⟩ := freeAt_some hi
  refine ⟨List.nodup_cons.2 ⟨h.fresh hl hi, h.nd⟩, fun x hx => ?_, ?_⟩
  · rcases List.mem_cons.1 hx with rfl | hx
    · refine ⟨?_, hnd_u64 (by omega) hg hc⟩
      rw [atA_of _ _ (by rw [List.length_set]; exact hl) i (by rw [List.length_set]; exact h1) (by rw [getD_set_at _ _ _ h1]; rfl) (by rw [getD_set_at _ _ _ h1]; rfl)]
      omega
    · obtain ⟨h3, h4⟩ := h.live x hx
      refine ⟨?_, h4⟩
      rw [atA_set _ _ _ _ fun he => ?_]
      · exact h3
      · obtain ⟨j, _, _, hu, hj, _⟩ := atA_lt ss _ h3
        obtain rfl : i = j := by omega
        rw [h2] at hu
        cases hu
  · have := freeTo_setAll ss i (taken (ss.getD i slot0) n) h1
    rw [h2, show (taken (ss.getD i slot0) n).used = true from rfl] at this
    have h5 := h.count
    simp only [Bool.false_eq_true, if_false, if_true] at this
    rw [List.length_cons]
    rw [List.length_set] at this ⊢
    omega
theorem Pool.free {ss : List Slot} {L : List Int} {x : Int} (h : Pool ss (x :: L)) {i : Nat} (hi : atA ss x = i) : Pool (ss.set i (freed (ss.getD i slot0))) L := by
  obtain ⟨hx, hL⟩ := List.nodup_cons.1 h.nd
  obtain ⟨j, hj, hjl, hu, hm, hg⟩ := atA_lt ss x (by omega)
  obtain rfl : i = j := by omega
  refine ⟨hL, fun y hy => ?_, ?_⟩
  · obtain ⟨h3, h4⟩ := h.live y (List.mem_cons_of_mem _ hy)
    refine ⟨?_, h4⟩
    rw [atA_set _ _ _ _ fun he => ?_]
    · exact h3
    · obtain ⟨k, _, _, _, hk, hgk⟩ := atA_lt ss y h3
      obtain rfl : i = k := by omega
      have : x = y := by omega
      subst this
      exact hx hy
  · have := freeTo_setAll ss i (freed (ss.getD i slot0)) hjl
    rw [hu, show (freed (ss.getD i slot0)).used = false from rfl] at this
    have h5 := h.count
    rw [List.length_cons] at h5
    simp only [Bool.false_eq_true, if_false, if_true] at this
    rw [List.length_set] at this ⊢
    omega
/-- Where all places are taken none is free. -/
theorem Pool.full {ss : List Slot} {L : List Int} (h : Pool ss L) (hf : freeAt ss = none) : L.length = ss.length := by
  have hn : freeTo ss ss.length = [] := by
    apply List.eq_nil_iff_forall_not_mem.2
    intro i hi
    obtain ⟨h1, h2⟩ := (mem_freeTo ss ss.length i).1 hi
    rw [freeAt_none hf i h1] at h2
    cases h2
  have := h.count
  rw [hn] at this
  simpa using this
/-- A handle of an elder generation. -/
def Stale (ss : List Slot) (h : Int) : Prop := h / 65536 < (ss.getD ((h % 65536).toNat - 1) slot0).gen
theorem Stale.dead {ss : List Slot} {h : Int} (hs : Stale ss h) : atA ss h = -1 := by
  unfold atA
  rw [if_neg]
  rintro ⟨_, _, _, he⟩
  unfold Stale at hs
  omega
theorem Stale.set {ss : List Slot} {h : Int} (hs : Stale ss h) {i : Nat} (hi : i < ss.length) (x : Slot) (hx : (ss.getD i slot0).gen ≤ x.gen) : Stale (ss.set i x) h := by
  unfold Stale at *
  by_cases hj : i = (h % 65536).toNat - 1
  · rw [← hj, getD_set_at _ _ _ hi]
    rw [← hj] at hs
    omega
  · rw [getD_set_no _ _ hj]
    exact hs
theorem stale_freed {ss : List Slot} {x : Int} {i : Nat} (hi : atA ss x = i) : Stale (ss.set i (freed (ss.getD i slot0))) x := by
  obtain ⟨j, hj, hjl, hu, hm, hg⟩ := atA_lt ss x (by omega)
  obtain rfl : i = j := by omega
  unfold Stale
  rw [show (x % 65536).toNat - 1 = i by omega, getD_set_at _ _ _ hjl]
  show _ < (ss.getD i slot0).gen + 1
  omega
theorem hnd_notStale {ss : List Slot} {i : Nat} (hi : i < 1024) : ¬ Stale ss (hnd ss i) := by
  unfold Stale
  rw [hnd_mod hi, hnd_div hi, show ((i : Int) + 1).toNat - 1 = i by omega]
  omega
end Go.Proofs.YtcgfknpobifecaaGreat
