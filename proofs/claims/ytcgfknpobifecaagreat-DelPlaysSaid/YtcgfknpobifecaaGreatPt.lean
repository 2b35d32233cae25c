/- Package put: a put as one object of three parts; what its steps come to, as plain Lean. No condition. -/
import Derived.Test.YtcgfknpobifecaaGreatGt
import Derived.Test.YtcgfknpobifecaaGreatTkm
import Derived.Test.YtcgfknpobifecaaGreatRtm
namespace Go.Proofs.YtcgfknpobifecaaGreat
open Go.RowKit

structure PutS where
  key : ByteArray
  val : ByteArray
  phase : Nat
  hold : HoldS
  held : Bool
  cell : Int
  wk : Option WalkS
  mine : Int
  err : Int
def putF (p : Nat) : FuncId := if p = 0 then 45 else if p = 1 then 79 else if p = 2 then 111 else if p = 3 then 129 else if p = 4 then 140 else 130
def putC (b hb wb : Nat) (s : PutS) : Array Value := #[.string s.key, .string s.val, .int .u32 (sumOf s.key), .func (.func (putF s.phase)) #[.pointer (some ⟨b, 0, none⟩)] #[], .pointer (some ⟨hb, 0, none⟩), .bool s.held, .int .i64 s.cell,
  .pointer (match s.wk with | none => none | some _ => some ⟨wb, 0, none⟩), .int .u64 s.mine, .int .i64 s.err]
def putParts (b : Nat) (s : PutS) (a : Nat × Nat) : List FObj := [stF b (putC b a.1 a.2 s) 100, stF a.1 (holdC a.1 s.hold) 147, match s.wk with | none => noF | some ws => stF a.2 (walkC a.2 ws) 150]
def PutK (b : Nat) (s : PutS) : KObj := ExK fun a => CompK (putParts b s a)
/-- What a put is as it begins. -/
def put0 (k : Nat) (key val : ByteArray) : PutS := ⟨key, val, 0, hold0 k (sumOf key), false, 0, none, 0, 0⟩
def storeAt (m : MemS) (i v : Int) : MemS := if 0 ≤ i ∧ i < m.cells.length then { m with cells := m.cells.set i.toNat v } else m
/-- What a walk found: its place, the next one behind it. -/
def wFound (s : PutS) : Bool := match s.wk with | none => false | some ws => ws.found
def wAt (s : PutS) : Int := match s.wk with | none => 0 | some ws => if ws.found then ws.at_ else 0
def wPrev (s : PutS) : Int := match s.wk with | none => 0 | some ws => ws.prev
def wNext (s : PutS) : Int := match s.wk with | none => 0 | some ws => if ws.found then ws.node.next else ws.first
def putNd (s : PutS) : Nd := ⟨s.key, s.val, sumOf s.key, wNext s⟩
def holdDrop (m : MemS) (s : HoldS) : MemS × HoldS × Bool := if s.done then (unlockM m s.lock s.worker, { s with done := false }, true) else (m, s, false)
def linkM (m : MemS) (x y : Int) : MemS := { m with ss := linkS m.ss x y, fault := useFault m.ss x m.fault }
def putStep (m : MemS) (s : PutS) : MemS × PutS × Bool :=
  if s.phase = 0 then
    let r := holdStep m s.hold
    if r.2.2 then
      let d := holdDesc r.2.1
      let c := d.2 + bucketOf (sumOf s.key) d.1
      (r.1, { s with hold := r.2.1, held := true, cell := c, wk := some (walk0 c (sumOf s.key) s.key), phase := 1 }, false)
    else (r.1, { s with hold := r.2.1 }, false)
  else if s.phase = 1 then
    match s.wk with
    | none => (m, s, false)
    | some ws =>
      let r := walkStep m ws
      (r.1, { s with wk := some r.2.1, phase := if r.2.2 then 2 else 1 }, false)
  else if s.phase = 2 then
    match freeAt m.ss with
    | none => (m, { s with mine := 0, err := 4, phase := 5 }, false)
    | some i => ({ m with ss := m.ss.set i (taken (m.ss.getD i slot0) (putNd s)) }, { s with mine := hnd m.ss i, err := 0, phase := 3 }, false)
  else if s.phase = 3 then
    (if wFound s = true ∧ wPrev s ≠ 0 then linkM m (wPrev s) s.mine else storeAt m s.cell s.mine, { s with mine := wAt s, phase := if wFound s then 4 else 5 }, false)
  else if s.phase = 4 then ({ m with waiting := m.waiting ++ [s.mine] }, { s with mine := 0, phase := 5 }, false)
  else
    let r := holdDrop m s.hold
    (r.1, { s with hold := r.2.1 }, r.2.2)
def putReady (m : MemS) (s : PutS) : Bool := s.held || holdReady m s.hold
structure PutOk (m : MemS) (s : PutS) : Prop where
  hold : HoldOk s.hold
  sum : s.hold.sum = sumOf s.key
  desc : (0 ≤ s.hold.desc.1 ∧ s.hold.desc.1 ≤ 65536) ∧ 0 ≤ s.hold.desc.2 ∧ s.hold.desc.2 ≤ 1048576
  walk : ∀ ws, s.wk = some ws → WalkOk ws ∧ U64 ws.first ∧ U64 ws.prev ∧ U64 ws.node.next
  key : s.key.size ≤ 9223372036854775807
  phase : s.phase ≤ 5
  has : 1 ≤ s.phase → s.wk.isSome
  held : 1 ≤ s.phase → s.held = true
  mine : U64 s.mine
  gen : m.gen ≤ 1000000
  genOk : GenOk m.ss m.gen
  len : m.ss.length ≤ 1024
  wait : s.phase ≤ 4 → m.waiting.length ≤ 1000000
theorem wAt_u64 {m : MemS} {s : PutS} (h : PutOk m s) : U64 (wAt s) := by
  unfold wAt
  split
  · exact ⟨by decide, by decide⟩
  · rename_i ws hws
    split
    · exact (h.walk ws hws).1.at_
    · exact ⟨by decide, by decide⟩
theorem wPrev_u64 {m : MemS} {s : PutS} (h : PutOk m s) : U64 (wPrev s) := by
  unfold wPrev
  split
  · exact ⟨by decide, by decide⟩
  · rename_i ws hws
    exact (h.walk ws hws).2.2.1
theorem wNext_u64 {m : MemS} {s : PutS} (h : PutOk m s) : U64 (wNext s) := by
  unfold wNext
  split
  · exact ⟨by decide, by decide⟩
  · rename_i ws hws
    split
    · exact (h.walk ws hws).2.2.2
    · exact (h.walk ws hws).2.1
theorem putNd_ok {m : MemS} {s : PutS} (h : PutOk m s) : NdOk (putNd s) :=
  ⟨wNext_u64 h, Int.natCast_nonneg _, by have := sumOf_lt s.key; show (sumOf s.key : Int) ≤ 4294967295; omega⟩
section
variable {l : List KObj} {w : World} {t u b : Nat} {m : MemS} {s : PutS}
theorem PutK.open_ (h : R l w) (hu : l[u]? = some (PutK b s)) : ∃ a, R (l.set u NoK ++ (putParts b s a).map single) w := by
  obtain ⟨a, ha⟩ := h.ex hu
  have := ha.unpack (set_get hu) (by simp [putParts])
  rw [List.set_set] at this
  exact ⟨a, this⟩
theorem PutK.close {l : List KObj} (a : Nat × Nat) (h : R (l ++ (putParts b s a).map single) w) (hu : u < l.length) : R (l.set u (PutK b s)) w := by
  have h1 := h.pack hu (by simp [putParts])
  have h2 := R.toEx (f := fun a => CompK (putParts b s a)) (u := u) a h1 (List.getElem?_set_self hu)
  rwa [List.set_set] at h2
end
theorem PutOk.start (m : MemS) (k : Nat) (key val : ByteArray) (hk : k ≤ 1000) (hs : key.size ≤ 9223372036854775807) (hg : m.gen ≤ 1000000) (hgo : GenOk m.ss m.gen) (hsl : m.ss.length ≤ 1024) (hw : m.waiting.length ≤ 1000000) : PutOk m (put0 k key val) :=
  ⟨HoldOk.start k _ hk (Int.natCast_nonneg _) (by have := sumOf_lt key; omega), rfl, ⟨⟨Int.le_refl 0, show (0 : Int) ≤ 65536 by decide⟩, Int.le_refl 0, show (0 : Int) ≤ 1048576 by decide⟩, fun _ h => by simp [put0] at h, hs, show (0 : Nat) ≤ 5 by decide, fun h => by simp [put0] at h, fun h => by simp [put0] at h,
    ⟨Int.le_refl 0, show (0 : Int) ≤ 18446744073709551615 by decide⟩, hg, hgo, hsl, fun _ => hw⟩
theorem walkOk4 {m : MemS} {ws : WalkS} (hm : MemOk m) (h : WalkOk ws ∧ U64 ws.first ∧ U64 ws.prev ∧ U64 ws.node.next) : WalkOk (walkStep m ws).2.1 ∧ U64 (walkStep m ws).2.1.first ∧ U64 (walkStep m ws).2.1.prev ∧ U64 (walkStep m ws).2.1.node.next := by
  refine ⟨walk_inv hm h.1, ?_⟩
  unfold walkStep
  split
  · split
    · dsimp only
      split
      · exact ⟨h.2.1, h.2.2.1, (hm.read _).1⟩
      · exact ⟨h.2.1, h.1.at_, h.2.2.2⟩
    · exact h.2
  · exact ⟨cellAt_u64 hm _, h.2.2⟩
theorem walkOk0 (c x : Int) (k : ByteArray) : WalkOk (walk0 c x k) ∧ U64 (walk0 c x k).first ∧ U64 (walk0 c x k).prev ∧ U64 (walk0 c x k).node.next := by
  have h0 : U64 0 := ⟨by decide, by decide⟩
  exact ⟨WalkOk.start c x k, h0, h0, h0⟩
theorem walkStep_gw (m : MemS) (s : WalkS) : (walkStep m s).1.gen = m.gen ∧ (walkStep m s).1.waiting = m.waiting := by
  unfold walkStep
  split
  · split
    · dsimp only; split <;> exact ⟨rfl, rfl⟩
    · exact ⟨rfl, rfl⟩
  · exact ⟨rfl, rfl⟩
theorem unlockM_b (m : MemS) (i u : Int) : (unlockM m i u).b = m.b ∧ (unlockM m i u).gen = m.gen ∧ (unlockM m i u).waiting = m.waiting := by
  unfold unlockM
  split <;> exact ⟨rfl, rfl, rfl⟩
theorem holdStep_b (m : MemS) (s : HoldS) : (holdStep m s).1.b = m.b ∧ (holdStep m s).1.gen = m.gen ∧ (holdStep m s).1.waiting = m.waiting ∧ (holdStep m s).2.1.sum = s.sum := by
  unfold holdStep
  split
  · exact ⟨rfl, rfl, rfl, rfl⟩
  · split
    · split <;> exact ⟨rfl, rfl, rfl, rfl⟩
    · split
      · split <;> exact ⟨rfl, rfl, rfl, rfl⟩
      · exact ⟨(unlockM_b _ _ _).1, (unlockM_b _ _ _).2.1, (unlockM_b _ _ _).2.2, rfl⟩
theorem holdStep_desc {m : MemS} {s : HoldS} (hm : MemOk m) (h : (0 ≤ s.desc.1 ∧ s.desc.1 ≤ 65536) ∧ 0 ≤ s.desc.2 ∧ s.desc.2 ≤ 1048576) :
    (0 ≤ (holdStep m s).2.1.desc.1 ∧ (holdStep m s).2.1.desc.1 ≤ 65536) ∧ 0 ≤ (holdStep m s).2.1.desc.2 ∧ (holdStep m s).2.1.desc.2 ≤ 1048576 := by
  unfold holdStep
  split
  · have := descOf_ok hm (wrap64 (m.cells.getD 1 0))
    exact ⟨⟨this.1, this.2.1⟩, this.2.2⟩
  · split
    · split <;> exact h
    · split
      · split <;> exact h
      · exact h
theorem holdDesc_ok {s : HoldS} (h : (0 ≤ s.desc.1 ∧ s.desc.1 ≤ 65536) ∧ 0 ≤ s.desc.2 ∧ s.desc.2 ≤ 1048576) : (0 ≤ (holdDesc s).1 ∧ (holdDesc s).1 ≤ 65536) ∧ 0 ≤ (holdDesc s).2 ∧ (holdDesc s).2 ≤ 1048576 := by
  unfold holdDesc
  split
  · exact h
  · exact ⟨⟨Int.le_refl 0, show (0 : Int) ≤ 65536 by decide⟩, Int.le_refl 0, show (0 : Int) ≤ 1048576 by decide⟩
theorem holdDrop_b (m : MemS) (s : HoldS) : (holdDrop m s).1.b = m.b ∧ (holdDrop m s).1.gen = m.gen ∧ (holdDrop m s).1.waiting = m.waiting := by
  unfold holdDrop
  split
  · exact unlockM_b _ _ _
  · exact ⟨rfl, rfl, rfl⟩
theorem storeAt_b (m : MemS) (i v : Int) : (storeAt m i v).b = m.b ∧ (storeAt m i v).gen = m.gen ∧ (storeAt m i v).waiting = m.waiting := by
  unfold storeAt
  split <;> exact ⟨rfl, rfl, rfl⟩
theorem putStep_b (m : MemS) (s : PutS) : (putStep m s).1.b = m.b := by
  unfold putStep
  split
  · dsimp only; split <;> exact (holdStep_b m s.hold).1
  · split
    · split
      · rfl
      · exact (walkStep_b m _).1
    · split
      · split <;> rfl
      · split
        · dsimp only; split
          · rfl
          · exact (storeAt_b _ _ _).1
        · split
          · rfl
          · exact (holdDrop_b _ _).1
theorem hnd_ok {m : MemS} (hg : GenOk m.ss m.gen) (hn : m.gen ≤ 1000000) (hl : m.ss.length ≤ 1024) {i : Nat} (hi : freeAt m.ss = some i) : U64 (hnd m.ss i) :=
  hnd_u64 (by have := (freeAt_some hi).1; omega) hg (by omega)
theorem linkS_gen {ss : List Slot} {c : Int} (h : GenOk ss c) (x y : Int) : GenOk (linkS ss x y) c ∧ (linkS ss x y).length = ss.length := by
  unfold linkS
  split
  · exact ⟨h.set _ _ (h _), List.length_set ..⟩
  · exact ⟨h, rfl⟩
theorem walkStep_ss (m : MemS) (s : WalkS) : (walkStep m s).1.ss = m.ss := by
  unfold walkStep
  split
  · split
    · dsimp only; split <;> rfl
    · rfl
  · rfl
theorem holdStep_ss (m : MemS) (s : HoldS) : (holdStep m s).1.ss = m.ss := by
  unfold holdStep
  split
  · rfl
  · split
    · split <;> rfl
    · split
      · split <;> rfl
      · unfold unlockM; split <;> rfl
theorem holdDrop_ss (m : MemS) (s : HoldS) : (holdDrop m s).1.ss = m.ss := by
  unfold holdDrop unlockM
  split
  · dsimp only; split <;> rfl
  · rfl
theorem storeAt_ss (m : MemS) (i v : Int) : (storeAt m i v).ss = m.ss := by
  unfold storeAt
  split <;> rfl
theorem holdDrop_ok {m : MemS} {s : HoldS} (h : HoldOk s) : HoldOk (holdDrop m s).2.1 ∧ (holdDrop m s).2.1.sum = s.sum ∧ (holdDrop m s).2.1.desc = s.desc := by
  unfold holdDrop
  split
  · exact ⟨⟨h.phase, h.sum, h.lock, h.lock1, h.worker, h.number⟩, rfl, rfl⟩
  · exact ⟨h, rfl, rfl⟩
theorem put_inv {m : MemS} {s : PutS} (hm : MemOk m) (hi : PutOk m s) : PutOk (putStep m s).1 (putStep m s).2.1 := by
  have hw4 : s.phase ≤ 4 → m.waiting.length ≤ 1000000 := hi.wait
  unfold putStep
  split
  · rename_i h0
    have hh := hold_inv hm hi.hold
    have hb := holdStep_b m s.hold
    have hs := holdStep_ss m s.hold
    have hd := holdStep_desc hm hi.desc
    dsimp only
    generalize holdStep m s.hold = r at *
    obtain ⟨m', c', ld⟩ := r
    dsimp only at hh hb hs hd ⊢
    have hg' : GenOk m'.ss m'.gen := by rw [hs, hb.2.1]; exact hi.genOk
    have hgn : m'.gen ≤ 1000000 := by rw [hb.2.1]; exact hi.gen
    have hln : m'.ss.length ≤ 1024 := by rw [hs]; exact hi.len
    have hwt : m'.waiting.length ≤ 1000000 := by rw [hb.2.2.1]; exact hw4 (by omega)
    split
    · refine ⟨hh, hb.2.2.2.trans hi.sum, hd, fun ws h => ?_, hi.key, show (1 : Nat) ≤ 5 by decide, fun _ => rfl, fun _ => rfl, hi.mine, hgn, hg', hln, fun _ => hwt⟩
      obtain rfl := Option.some.inj h
      exact walkOk0 _ _ _
    · exact ⟨hh, hb.2.2.2.trans hi.sum, hd, hi.walk, hi.key, hi.phase, hi.has, hi.held, hi.mine, hgn, hg', hln, fun _ => hwt⟩
  · split
    · rename_i h0 h1
      split
      · exact hi
      · rename_i ws hws
        have hb := walkStep_gw m ws
        have hs := walkStep_ss m ws
        have hk := walkOk4 hm (hi.walk ws hws)
        dsimp only
        generalize walkStep m ws = r at *
        obtain ⟨m', c', ld⟩ := r
        dsimp only at hb hs hk ⊢
        refine ⟨hi.hold, hi.sum, hi.desc, fun ws' h => ?_, hi.key, by dsimp only; split <;> omega, fun _ => rfl, fun _ => hi.held (by omega), hi.mine, by rw [hb.1]; exact hi.gen, by rw [hs, hb.1]; exact hi.genOk, by rw [hs]; exact hi.len, fun _ => by rw [hb.2]; exact hw4 (by omega)⟩
        obtain rfl := Option.some.inj h
        exact hk
    · split
      · rename_i h0 h1 h2
        split
        · exact ⟨hi.hold, hi.sum, hi.desc, hi.walk, hi.key, show (5 : Nat) ≤ 5 by decide, fun _ => hi.has (by omega), fun _ => hi.held (by omega), ⟨Int.le_refl 0, show (0 : Int) ≤ 18446744073709551615 by decide⟩, hi.gen, hi.genOk, hi.len, fun h => absurd h (show ¬ (5 : Nat) ≤ 4 by decide)⟩
        · rename_i i hf
          exact ⟨hi.hold, hi.sum, hi.desc, hi.walk, hi.key, show (3 : Nat) ≤ 5 by decide, fun _ => hi.has (by omega), fun _ => hi.held (by omega), hnd_ok hi.genOk hi.gen hi.len hf, hi.gen, hi.genOk.take _ _, by dsimp only; rw [List.length_set]; exact hi.len, fun _ => hw4 (by omega)⟩
      · split
        · rename_i h0 h1 h2 h3
          have hx : ∀ m' : MemS, m'.gen = m.gen → m'.waiting = m.waiting → GenOk m'.ss m.gen → m'.ss.length ≤ 1024 → PutOk m' { s with mine := wAt s, phase := if wFound s then 4 else 5 } := fun m' e1 e2 e3 e4 =>
            ⟨hi.hold, hi.sum, hi.desc, hi.walk, hi.key, by dsimp only; split <;> omega, fun _ => hi.has (by omega), fun _ => hi.held (by omega), wAt_u64 hi, by rw [e1]; exact hi.gen, by rw [e1]; exact e3, e4, fun _ => by rw [e2]; exact hw4 (by omega)⟩
          dsimp only
          split
          · exact hx _ rfl rfl (linkS_gen hi.genOk _ _).1 (by show (linkS m.ss _ _).length ≤ 1024; rw [(linkS_gen hi.genOk _ _).2]; exact hi.len)
          · exact hx _ (storeAt_b _ _ _).2.1 (storeAt_b _ _ _).2.2 (by rw [storeAt_ss]; exact hi.genOk) (by rw [storeAt_ss]; exact hi.len)
        · split
          · rename_i h0 h1 h2 h3 h4
            exact ⟨hi.hold, hi.sum, hi.desc, hi.walk, hi.key, show (5 : Nat) ≤ 5 by decide, fun _ => hi.has (by omega), fun _ => hi.held (by omega), ⟨Int.le_refl 0, show (0 : Int) ≤ 18446744073709551615 by decide⟩, hi.gen, hi.genOk, hi.len, fun h => absurd h (show ¬ (5 : Nat) ≤ 4 by decide)⟩
          · rename_i h0 h1 h2 h3 h4
            have hb := holdDrop_b m s.hold
            have hs := holdDrop_ss m s.hold
            have hh := holdDrop_ok (m := m) hi.hold
            dsimp only
            generalize holdDrop m s.hold = r at *
            obtain ⟨m', c', ld⟩ := r
            dsimp only at hb hs hh ⊢
            exact ⟨hh.1, hh.2.1.trans hi.sum, by dsimp only; rw [hh.2.2]; exact hi.desc, hi.walk, hi.key, hi.phase, hi.has, hi.held, hi.mine, by rw [hb.2.1]; exact hi.gen, by rw [hs, hb.2.1]; exact hi.genOk, by rw [hs]; exact hi.len, fun h => by rw [hb.2.2]; exact hw4 h⟩
end Go.Proofs.YtcgfknpobifecaaGreat
