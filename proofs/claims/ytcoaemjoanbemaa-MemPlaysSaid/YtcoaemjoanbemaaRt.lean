/- Package retire: a drain as one object; what its calls come to. Condition: the memory and the drain are there. -/
import Derived.Test.YtcoaemjoanbemaaQu
import Derived.Test.YtcoaemjoanbemaaXa
import Derived.Laws.EntriesVeiled
namespace Go.Proofs.Ytcoaemjoanbemaa
open Go.RowKit

structure DrainS where
  wb : Nat
  left : List Int
  ws : WaitS
  taken : Bool
  past : Bool
def drainC (s : DrainS) (lv : Value) : Array Value := #[lv, .iface 82 (.pointer (some ⟨s.wb, 0, none⟩)), .bool s.taken, .bool s.past]
def waitC (s : WaitS) : Array Value := #[.int .i64 s.worker, .int .i64 s.at_, .int .u64 s.period, .int .i64 s.next]
def DrainK (b : Nat) (s : DrainS) : KObj where
  holds o w t := ∃ lv, StAt o w (16 * t) b (drainC s lv) 130 ∧ StAt o w (16 * t + 1) s.wb (waitC s.ws) 123 ∧ LfAt .u64 31 o w (16 * t + 2) lv s.left
  keep e hs h := by
    obtain ⟨lv, h1, h2, h3⟩ := h
    exact ⟨lv, h1.kp e (by simpa using hs 0 (by decide)), h2.kp e (hs 1 (by decide)), h3.kp e (hs 2 (by decide))⟩

section
variable {l : List KObj} {w : World} {t u : Nat} {m : MemS} {b : Nat} {s : DrainS}
/-- Its parts. -/
abbrev drainP (b : Nat) (s : DrainS) (lv : Value) : List KObj := [StK b (drainC s lv) 130, WaitK s.wb s.ws, LfK .u64 31 lv s.left]
theorem R.drainSplit (h : R l w) (hu : l[u]? = some (DrainK b s)) : ∃ lv, R (l.set u NoK ++ drainP b s lv) w := by
  obtain ⟨o, _, lv, hb, _, _⟩ := h.get hu
  have hb := hb.heap
  refine ⟨lv, h.split hu (fun j => 16 * j) fun o o' hk ho i p hp => ?_⟩
  obtain ⟨lv2, h1, h2, h3⟩ := hk
  obtain rfl : lv2 = lv := by
    have := h1.heap
    rw [hb] at this
    simp [drainC] at this
    exact this.symm
  match i, hp with
  | 0, hp => simp at hp; subst hp; exact h1.re fun k hk => (ho k 0 (by decide) (by omega)).trans (by omega)
  | 1, hp => simp at hp; subst hp; exact StAt.re h2 fun k hk => (ho k 1 (by decide) (by omega)).trans (by omega)
  | 2, hp => simp at hp; subst hp; exact LfAt.re h3 fun k hk => (ho k 2 (by decide) (by omega)).trans (by omega)
  | i + 3, hp => simp at hp
theorem R.drainJoin {lv : Value} (h : R (l ++ drainP b s lv) w) (hul : u < l.length) : R (l.set u (DrainK b s)) w := by
  refine h.join hul (fun x => x / 16) fun o o' hp ho => ?_
  refine ⟨lv, StAt.re (hp 0 _ rfl) fun k hk => ?_, StAt.re (hp 1 _ rfl) fun k hk => ?_, LfAt.re (hp 2 _ rfl) fun k hk => ?_⟩
  · have := ho k 0 (by simp) (by omega); simpa using this
  · have := ho k 16 (by simp) (by omega); simpa using this
  · have := ho k 32 (by simp) (by omega); simpa using this

def freeM (m : MemS) (h : Int) : MemS := if 0 ≤ atA m.ss h then { m with ss := m.ss.set (atA m.ss h).toNat (freed (m.ss.getD (atA m.ss h).toNat slot0)), gen := m.gen + 1 } else { m with fault := true }
theorem memR_freeM (h : R l w) (ht : l[t]? = some (MemK m)) (x : Int) (hx : U64 x) (hg : m.gen ≤ 1000000) :
    Calls Try.prog 10 #[.pointer (some ⟨m.ab, 0, none⟩), .int .u64 x] w (Does (l.set t (MemK (freeM m x))) (.int .i64 (useCode m.ss x))) := by
  unfold freeM
  by_cases hi : 0 ≤ atA m.ss x
  · obtain ⟨i, hia, _⟩ := atA_lt m.ss x hi
    rw [if_pos hi, hia, show useCode m.ss x = 0 by rw [useCode, if_pos hi]]
    exact memR_free h ht x hx hg i hia
  · rw [if_neg hi]
    exact memR_free_no h ht x hx hi

def drainReady (m : MemS) (s : DrainS) : Bool := if s.taken then (if s.past then true else waitReady m s.ws) else decide (0 < m.waiting.length)
def drainStep (m : MemS) (s : DrainS) : MemS × DrainS × Bool :=
  if s.taken then
    if s.past then
      match s.left with
      | [] => (m, s, true)
      | h :: tl => (freeM m h, { s with left := tl }, decide (tl = []))
    else ((waitStep m s.ws).1, { s with ws := (waitStep m s.ws).2.1, past := (waitStep m s.ws).2.2 }, (waitStep m s.ws).2.2 && decide (s.left = []))
  else ({ m with waiting := [] }, { s with left := m.waiting, taken := true }, false)
structure DrainOk (m : MemS) (s : DrainS) : Prop where
  wait : WaitOk m s.ws
  left : ∀ x ∈ s.left, U64 x
  gen : m.gen ≤ 1000000
  early : s.taken = false → s.left = []

set_option maxHeartbeats 400000 in
theorem retire_new (h : R l w) (k : Nat) : Calls Try.prog 44 #[.int .i64 k] w fun e w' => ∃ b wb, e = .returned (.pointer (some ⟨b, 0, none⟩)) ∧ R (l ++ [DrainK b ⟨wb, [], ⟨k, 0, 0, 0⟩, false, false⟩]) w' := by
  have hs := hide (qsbr_sync h k)
  clear h
  go_enter Try.func44, Try.ntmps44
  go_wp2_with fail
  refine hs.out.mono ?_
  rintro e w1 ⟨wb, rfl, h1⟩
  have h2 := h1.new #[.slice none 0 0, .iface 82 (.pointer (some ⟨wb, 0, none⟩)), .bool false, .bool false] 130
  replace h2 := hide h2
  clear h1 hs
  go_wp2
  go_ret
  refine ⟨_, wb, rfl, ?_⟩
  obtain ⟨o, hr⟩ := h2.out
  have g1 : StAt o _ (16 * l.length) wb _ _ := hr l.length (WaitK wb ⟨k, 0, 0, 0⟩) (by simp)
  have g2 : StAt o _ (16 * (l.length + 1)) w1.heap.size _ _ := hr (l.length + 1) (StK w1.heap.size #[.slice none 0 0, .iface 82 (.pointer (some ⟨wb, 0, none⟩)), .bool false, .bool false] 130) (by simp)
  have hj : R (l ++ [NoK] ++ drainP w1.heap.size ⟨wb, [], ⟨k, 0, 0, 0⟩, false, false⟩ (.slice none 0 0)) (w1.alloc (.cells #[.slice none 0 0, .iface 82 (.pointer (some ⟨wb, 0, none⟩)), .bool false, .bool false] 130)) := by
    refine ⟨fun k => if o k = 16 * l.length then 16 * (l.length + 2) else o k, fun v p hv => ?_⟩
    have hkp : Kp (fun x => x ≠ 16 * l.length) o (fun k => if o k = 16 * l.length then 16 * (l.length + 2) else o k) (w1.alloc (.cells #[.slice none 0 0, .iface 82 (.pointer (some ⟨wb, 0, none⟩)), .bool false, .bool false] 130)) (w1.alloc (.cells #[.slice none 0 0, .iface 82 (.pointer (some ⟨wb, 0, none⟩)), .bool false, .bool false] 130)) := mv_kp o _ (16 * l.length) (16 * (l.length + 2))
    by_cases hvl : v < l.length
    · rw [List.append_assoc, List.getElem?_append_left hvl] at hv
      exact p.keep hkp (fun j hj => by omega) (hr v p (by rw [List.append_assoc, List.getElem?_append_left hvl]; exact hv))
    · obtain ⟨i, rfl⟩ : ∃ i, v = l.length + i := ⟨v - l.length, by omega⟩
      rw [List.append_assoc, List.getElem?_append_right (by omega), show l.length + i - l.length = i by omega] at hv
      match i, hv with
      | 0, hv => simp at hv; subst hv; trivial
      | 1, hv => simp at hv; subst hv; exact g2.kp hkp (by omega)
      | 2, hv => simp at hv; subst hv; exact g1.mv _
      | 3, hv => simp at hv; subst hv; exact ⟨⟨_, _, rfl⟩, by simp, .inl rfl⟩
      | i + 4, hv => simp at hv
  have := hj.drainJoin (u := l.length) (by simp)
  simpa using this
end
end Go.Proofs.Ytcoaemjoanbemaa
