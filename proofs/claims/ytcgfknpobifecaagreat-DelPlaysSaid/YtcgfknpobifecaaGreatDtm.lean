/- Package del: a del as one object of three parts; what its steps come to, as plain Lean. No condition. A put that is alone, from its first step to its last one: plain law. No condition. -/
import Derived.Test.YtcgfknpobifecaaGreatPt
namespace Go.Proofs.YtcgfknpobifecaaGreat
open Go.RowKit

structure DelS where
  key : ByteArray
  phase : Nat
  hold : HoldS
  held : Bool
  cell : Int
  wk : Option WalkS
  mine : Int
def delF (p : Nat) : FuncId := if p = 0 then 57 else if p = 1 then 88 else if p = 2 then 115 else if p = 3 then 134 else 114
def delC (b hb wb : Nat) (s : DelS) : Array Value := #[.string s.key, .int .u32 (sumOf s.key), .func (.func (delF s.phase)) #[.pointer (some ⟨b, 0, none⟩)] #[], .pointer (some ⟨hb, 0, none⟩), .bool s.held, .int .i64 s.cell,
  .pointer (match s.wk with | none => none | some _ => some ⟨wb, 0, none⟩), .int .u64 s.mine]
def delParts (b : Nat) (s : DelS) (a : Nat × Nat) : List FObj := [stF b (delC b a.1 a.2 s) 123, stF a.1 (holdC a.1 s.hold) 147, match s.wk with | none => noF | some ws => stF a.2 (walkC a.2 ws) 150]
def DelK (b : Nat) (s : DelS) : KObj := ExK fun a => CompK (delParts b s a)
/-- What a del is as it begins. -/
def del0 (k : Nat) (key : ByteArray) : DelS := ⟨key, 0, hold0 k (sumOf key), false, 0, none, 0⟩
/-- What a walk found: the value, the place, the next one behind it. -/
def fnd (wk : Option WalkS) : Bool := match wk with | none => false | some ws => ws.found
def fndVal (wk : Option WalkS) : ByteArray := match wk with | none => ⟨#[]⟩ | some ws => if ws.found then ws.node.val else ⟨#[]⟩
def overM (m : MemS) (cell : Int) (ws : WalkS) : MemS := if ws.prev ≠ 0 then linkM m ws.prev (if ws.found then ws.node.next else 0) else storeAt m cell (if ws.found then ws.node.next else 0)
def delStep (m : MemS) (s : DelS) : MemS × DelS × Bool :=
  if s.phase = 0 then
    let r := holdStep m s.hold
    if r.2.2 then
      let d := holdDesc r.2.1
      let c := d.2 + bucketOf (sumOf s.key) d.1
      (r.1, { s with hold := r.2.1, held := true, cell := c, wk := some (walk0 c (sumOf s.key) s.key), phase := 1 }, false)
    else (r.1, { s with hold := r.2.1 }, false)
  else if s.phase = 1 then
    match s.wk with
    | none => (m, s, false)
    | some ws =>
      let r := walkStep m ws
      (r.1, { s with wk := some r.2.1, phase := if r.2.2 then (if r.2.1.found then 2 else 4) else 1 }, false)
  else if s.phase = 2 then
    match s.wk with
    | none => (m, s, false)
    | some ws => (overM m s.cell ws, { s with mine := if ws.found then ws.at_ else 0, phase := 3 }, false)
  else if s.phase = 3 then ({ m with waiting := m.waiting ++ [s.mine] }, { s with mine := 0, phase := 4 }, false)
  else
    let r := holdDrop m s.hold
    (r.1, { s with hold := r.2.1 }, r.2.2)
def delReady (m : MemS) (s : DelS) : Bool := s.held || holdReady m s.hold
structure DelOk (m : MemS) (s : DelS) : Prop where
  hold : HoldOk s.hold
  sum : s.hold.sum = sumOf s.key
  desc : (0 ≤ s.hold.desc.1 ∧ s.hold.desc.1 ≤ 65536) ∧ 0 ≤ s.hold.desc.2 ∧ s.hold.desc.2 ≤ 1048576
  walk : ∀ ws, s.wk = some ws → WalkOk ws ∧ U64 ws.first ∧ U64 ws.prev ∧ U64 ws.node.next
  key : s.key.size ≤ 9223372036854775807
  phase : s.phase ≤ 4
  has : 1 ≤ s.phase → s.wk.isSome
  held : 1 ≤ s.phase → s.held = true
  mine : U64 s.mine
  gen : m.gen ≤ 1000000
  genOk : GenOk m.ss m.gen
  len : m.ss.length ≤ 1024
  wait : s.phase ≤ 3 → m.waiting.length ≤ 1000000
section
variable {l : List KObj} {w : World} {t u b : Nat} {m : MemS} {s : DelS}
theorem DelK.open_ (h : R l w) (hu : l[u]? = some (DelK b s)) : ∃ a, R (l.set u NoK ++ (delParts b s a).map single) w := by
  obtain ⟨a, ha⟩ := h.ex hu
  have := ha.unpack (set_get hu) (by simp [delParts])
  rw [List.set_set] at this
  exact ⟨a, this⟩
theorem DelK.close {l : List KObj} (a : Nat × Nat) (h : R (l ++ (delParts b s a).map single) w) (hu : u < l.length) : R (l.set u (DelK b s)) w := by
  have h1 := h.pack hu (by simp [delParts])
  have h2 := R.toEx (f := fun a => CompK (delParts b s a)) (u := u) a h1 (List.getElem?_set_self hu)
  rwa [List.set_set] at h2
end
theorem DelOk.start (m : MemS) (k : Nat) (key : ByteArray) (hk : k ≤ 1000) (hs : key.size ≤ 9223372036854775807) (hg : m.gen ≤ 1000000) (hgo : GenOk m.ss m.gen) (hsl : m.ss.length ≤ 1024) (hw : m.waiting.length ≤ 1000000) : DelOk m (del0 k key) :=
  ⟨HoldOk.start k _ hk (Int.natCast_nonneg _) (by have := sumOf_lt key; omega), rfl, ⟨⟨Int.le_refl 0, show (0 : Int) ≤ 65536 by decide⟩, Int.le_refl 0, show (0 : Int) ≤ 1048576 by decide⟩, fun _ h => by simp [del0] at h, hs, show (0 : Nat) ≤ 4 by decide, fun h => by simp [del0] at h, fun h => by simp [del0] at h,
    ⟨Int.le_refl 0, show (0 : Int) ≤ 18446744073709551615 by decide⟩, hg, hgo, hsl, fun _ => hw⟩
theorem overM_b (m : MemS) (c : Int) (ws : WalkS) : (overM m c ws).b = m.b ∧ (overM m c ws).gen = m.gen ∧ (overM m c ws).waiting = m.waiting := by
  unfold overM
  split
  · exact ⟨rfl, rfl, rfl⟩
  · exact storeAt_b _ _ _
theorem overM_ss {m : MemS} {g : Int} (c : Int) (ws : WalkS) (h : GenOk m.ss g) : GenOk (overM m c ws).ss g ∧ (overM m c ws).ss.length = m.ss.length := by
  unfold overM
  split
  · exact linkS_gen h _ _
  · rw [storeAt_ss]
    exact ⟨h, rfl⟩
theorem delStep_b (m : MemS) (s : DelS) : (delStep m s).1.b = m.b := by
  unfold delStep
  split
  · dsimp only; split <;> exact (holdStep_b m s.hold).1
  · split
    · split
      · rfl
      · exact (walkStep_b m _).1
    · split
      · split
        · rfl
        · exact (overM_b _ _ _).1
      · split
        · rfl
        · exact (holdDrop_b _ _).1
theorem del_inv {m : MemS} {s : DelS} (hm : MemOk m) (hi : DelOk m s) : DelOk (delStep m s).1 (delStep m s).2.1 := by
  have hw4 : s.phase ≤ 3 → m.waiting.length ≤ 1000000 := hi.wait
  unfold delStep
  split
  · rename_i h0
    have hh := hold_inv hm hi.hold
    have hb := holdStep_b m s.hold
    have hs := holdStep_ss m s.hold
    have hd := holdStep_desc hm hi.desc
    dsimp only
    generalize holdStep m s.hold = r at *
    obtain ⟨m', c', ld⟩ := r
    dsimp only at hh hb hs hd ⊢
    have hg' : GenOk m'.ss m'.gen := by rw [hs, hb.2.1]; exact hi.genOk
    have hgn : m'.gen ≤ 1000000 := by rw [hb.2.1]; exact hi.gen
    have hln : m'.ss.length ≤ 1024 := by rw [hs]; exact hi.len
    have hwt : m'.waiting.length ≤ 1000000 := by rw [hb.2.2.1]; exact hw4 (by omega)
    split
    · refine ⟨hh, hb.2.2.2.trans hi.sum, hd, fun ws h => ?_, hi.key, show (1 : Nat) ≤ 4 by decide, fun _ => rfl, fun _ => rfl, hi.mine, hgn, hg', hln, fun _ => hwt⟩
      obtain rfl := Option.some.inj h
      exact walkOk0 _ _ _
    · exact ⟨hh, hb.2.2.2.trans hi.sum, hd, hi.walk, hi.key, hi.phase, hi.has, hi.held, hi.mine, hgn, hg', hln, fun _ => hwt⟩
  · split
    · rename_i h0 h1
      split
      · exact hi
      · rename_i ws hws
        have hb := walkStep_gw m ws
        have hs := walkStep_ss m ws
        have hk := walkOk4 hm (hi.walk ws hws)
        dsimp only
        generalize walkStep m ws = r at *
        obtain ⟨m', c', ld⟩ := r
        dsimp only at hb hs hk ⊢
        refine ⟨hi.hold, hi.sum, hi.desc, fun ws' h => ?_, hi.key, by dsimp only; (repeat' split) <;> omega, fun _ => rfl, fun _ => hi.held (by omega), hi.mine, by rw [hb.1]; exact hi.gen, by rw [hs, hb.1]; exact hi.genOk, by rw [hs]; exact hi.len, fun _ => by rw [hb.2]; exact hw4 (by omega)⟩
        obtain rfl := Option.some.inj h
        exact hk
    · split
      · rename_i h0 h1 h2
        split
        · exact hi
        · rename_i ws hws
          have hb := overM_b m s.cell ws
          have hs := overM_ss s.cell ws hi.genOk
          have hat : U64 (if ws.found then ws.at_ else 0) := by
            split
            · exact (hi.walk ws hws).1.at_
            · exact ⟨by decide, by decide⟩
          exact ⟨hi.hold, hi.sum, hi.desc, hi.walk, hi.key, show (3 : Nat) ≤ 4 by decide, fun _ => hi.has (by omega), fun _ => hi.held (by omega), hat, by rw [hb.2.1]; exact hi.gen, by rw [hb.2.1]; exact hs.1, by rw [hs.2]; exact hi.len, fun _ => by rw [hb.2.2]; exact hw4 (by omega)⟩
      · split
        · rename_i h0 h1 h2 h3
          exact ⟨hi.hold, hi.sum, hi.desc, hi.walk, hi.key, show (4 : Nat) ≤ 4 by decide, fun _ => hi.has (by omega), fun _ => hi.held (by omega), ⟨Int.le_refl 0, show (0 : Int) ≤ 18446744073709551615 by decide⟩, hi.gen, hi.genOk, hi.len, fun h => absurd h (show ¬ (4 : Nat) ≤ 3 by decide)⟩
        · rename_i h0 h1 h2 h3
          have hb := holdDrop_b m s.hold
          have hs := holdDrop_ss m s.hold
          have hh := holdDrop_ok (m := m) hi.hold
          dsimp only
          generalize holdDrop m s.hold = r at *
          obtain ⟨m', c', ld⟩ := r
          dsimp only at hb hs hh ⊢
          exact ⟨hh.1, hh.2.1.trans hi.sum, by dsimp only; rw [hh.2.2]; exact hi.desc, hi.walk, hi.key, hi.phase, hi.has, hi.held, hi.mine, by rw [hb.2.1]; exact hi.gen, by rw [hs, hb.2.1]; exact hi.genOk, by rw [hs]; exact hi.len, fun h => by rw [hb.2.2]; exact hw4 h⟩
end Go.Proofs.YtcgfknpobifecaaGreat

namespace Go.Proofs.YtcgfknpobifecaaGreat
open Go.RowKit

section
variable {σ : Type} {r : σ → Bool} {st : σ → σ × Bool}
/-- k steps, none of which is the last one. -/
def GoN (r : σ → Bool) (st : σ → σ × Bool) : Nat → σ → σ → Prop
  | 0, s, s' => s = s'
  | k + 1, s, s' => r s = true ∧ (st s).2 = false ∧ GoN r st k (st s).1 s'
theorem GoN.one {s : σ} (h : r s = true) (h2 : (st s).2 = false) : GoN r st 1 s (st s).1 := ⟨h, h2, rfl⟩
theorem GoN.add : ∀ {k j : Nat} {s s' s'' : σ}, GoN r st k s s' → GoN r st j s' s'' → GoN r st (k + j) s s''
  | 0, j, s, s', s'', h, h2 => by
    have h : s = s' := h
    rw [Nat.zero_add, h]; exact h2
  | k + 1, j, s, s', s'', h, h2 => by
    rw [show k + 1 + j = k + j + 1 by omega]
    exact ⟨h.1, h.2.1, h.2.2.add h2⟩
theorem finM_go : ∀ {k : Nat} {s s' : σ}, GoN r st k s s' → ∀ f n, finM r st (f + k) n s = finM r st f (n + k) s'
  | 0, s, s', h, f, n => by
    have h : s = s' := h
    rw [h]; rfl
  | k + 1, s, s', h, f, n => by
    have e : finM r st (f + k + 1) n s = if r s then (if (st s).2 then (n + 1, true, (st s).1) else finM r st (f + k) (n + 1) (st s).1) else (n, false, s) := rfl
    rw [show f + (k + 1) = f + k + 1 by omega, e, if_pos h.1, h.2.1]
    simp only [Bool.false_eq_true, if_false]
    rw [finM_go h.2.2 f (n + 1), show n + 1 + k = n + (k + 1) by omega]
theorem finM_end {s : σ} (h : r s = true) (h2 : (st s).2 = true) (f n : Nat) : finM r st (f + 1) n s = (n + 1, true, (st s).1) := by
  have e : finM r st (f + 1) n s = if r s then (if (st s).2 then (n + 1, true, (st s).1) else finM r st f (n + 1) (st s).1) else (n, false, s) := rfl
  rw [e, if_pos h, if_pos h2]
end

/-- From h on there is the chain xs. -/
def Chn (ss : List Slot) : Int → List Int → Prop
  | h, [] => h = 0
  | h, x :: xs => h = x ∧ x ≠ 0 ∧ 0 ≤ atA ss x ∧ Chn ss (readNd ss x).next xs
def isK (ss : List Slot) (key : ByteArray) (x : Int) : Prop := (readNd ss x).sum = sumOf key ∧ (readNd ss x).key = key
instance (ss : List Slot) (key : ByteArray) (x : Int) : Decidable (isK ss key x) := by unfold isK; infer_instance
/-- What a walk comes to along a chain. -/
def wScan (ss : List Slot) (key : ByteArray) : List Int → WalkS → WalkS
  | [], ws => ws
  | x :: xs, ws => if isK ss key x then { ws with node := readNd ss x, found := true, read := wrap64 (ws.read + 1) } else wScan ss key xs { ws with prev := ws.at_, at_ := (readNd ss x).next, read := wrap64 (ws.read + 1) }
theorem rdNd_set {ss : List Slot} {i : Nat} {x : Slot} {h : Int} (hne : h % 65536 ≠ i + 1) : readNd (ss.set i x) h = readNd ss h := by
  unfold readNd
  rw [atA_set _ _ _ _ hne]
  by_cases h0 : 0 ≤ atA ss h
  · rw [if_pos h0, if_pos h0]
    obtain ⟨j, hj, _, _, hm, _⟩ := atA_lt ss h h0
    rw [hj, Int.toNat_natCast, getD_set_no ss x (show i ≠ j by omega)]
  · rw [if_neg h0, if_neg h0]
theorem Chn.set {ss : List Slot} {i : Nat} {X : Slot} : ∀ {xs : List Int} {h : Int}, Chn ss h xs → (∀ x ∈ xs, x % 65536 ≠ i + 1) → Chn (ss.set i X) h xs
  | [], h, hc, _ => hc
  | x :: xs, h, hc, hn => by
    obtain ⟨h1, h2, h3, h4⟩ := hc
    have hx := hn x List.mem_cons_self
    exact ⟨h1, h2, by rw [atA_set _ _ _ _ hx]; exact h3, by rw [rdNd_set hx]; exact h4.set fun y hy => hn y (List.mem_cons_of_mem _ hy)⟩
theorem Chn.live {ss : List Slot} : ∀ {xs : List Int} {h : Int}, Chn ss h xs → ∀ x ∈ xs, x ≠ 0 ∧ 0 ≤ atA ss x
  | [], _, _, x, hx => absurd hx List.not_mem_nil
  | y :: xs, h, hc, x, hx => by
    rcases List.mem_cons.1 hx with rfl | h1
    · exact ⟨hc.2.1, hc.2.2.1⟩
    · exact hc.2.2.2.live x h1
theorem wScan_no {ss : List Slot} {key : ByteArray} : ∀ {xs : List Int} (ws : WalkS), (∀ x ∈ xs, ¬ isK ss key x) → (wScan ss key xs ws).found = ws.found ∧ (wScan ss key xs ws).first = ws.first
  | [], ws, _ => ⟨rfl, rfl⟩
  | x :: xs, ws, h => by
    rw [wScan, if_neg (h x List.mem_cons_self)]
    exact wScan_no _ fun y hy => h y (List.mem_cons_of_mem _ hy)
/-- The last one of a list, or d. -/
def lastD : List Int → Int → Int
  | [], d => d
  | x :: xs, _ => lastD xs x
theorem wScan_yes {ss : List Slot} {key : ByteArray} {x : Int} {post : List Int} (hx : isK ss key x) : ∀ {pre : List Int} (ws : WalkS), (∀ y ∈ pre, ¬ isK ss key y) → Chn ss ws.at_ (pre ++ x :: post) →
    (wScan ss key (pre ++ x :: post) ws).found = true ∧ (wScan ss key (pre ++ x :: post) ws).first = ws.first ∧ (wScan ss key (pre ++ x :: post) ws).at_ = x ∧ (wScan ss key (pre ++ x :: post) ws).node = readNd ss x ∧ (wScan ss key (pre ++ x :: post) ws).prev = lastD pre ws.prev
  | [], ws, _, hc => by
    rw [List.nil_append, wScan, if_pos hx]
    exact ⟨rfl, rfl, hc.1, rfl, rfl⟩
  | y :: pre, ws, hn, hc => by
    rw [List.cons_append, wScan, if_neg (hn y List.mem_cons_self)]
    have hy := hc.1
    have := wScan_yes hx (pre := pre) { ws with prev := ws.at_, at_ := (readNd ss y).next, read := wrap64 (ws.read + 1) } (fun z hz => hn z (List.mem_cons_of_mem _ hz)) hc.2.2.2
    rw [hy] at this ⊢
    exact this
theorem putStep_1 (m : MemS) (s : PutS) (ws : WalkS) (h : s.phase = 1) (hw : s.wk = some ws) : putStep m s = ((walkStep m ws).1, { s with wk := some (walkStep m ws).2.1, phase := if (walkStep m ws).2.2 then 2 else 1 }, false) := by
  obtain ⟨key, val, ph, hd, held, cell, wko, mine, err⟩ := s
  dsimp only at h hw
  subst h hw
  rfl
theorem put_walk {m : MemS} {key : ByteArray} : ∀ {xs : List Int} {s : PutS} {ws : WalkS}, xs ≠ [] → s.phase = 1 → s.held = true → s.wk = some ws → ws.looking = true → ws.sum = sumOf key → ws.key = key → Chn m.ss ws.at_ xs →
    ∃ k, k ≤ xs.length ∧ GoN (frReady putReady) (frStep putStep) k (m, s) (m, { s with phase := 2, wk := some (wScan m.ss key xs ws) })
  | [], _, _, h0, _, _, _, _, _, _, _ => absurd rfl h0
  | x :: xs, s, ws, _, hp, hh, hw, hl, hs, hk, hc => by
    obtain ⟨h1, h2, h3, h4⟩ := hc
    have hrd : frReady putReady (m, s) = true := by simp [frReady, putReady, hh]
    have hcode : useCode m.ss ws.at_ = 0 := by rw [useCode, h1, if_pos h3]
    have hws : walkStep m ws = if isK m.ss key x then (m, { ws with node := readNd m.ss x, found := true, read := wrap64 (ws.read + 1) }, true) else (m, { ws with prev := ws.at_, at_ := (readNd m.ss x).next, read := wrap64 (ws.read + 1) }, decide ((readNd m.ss x).next = 0)) := by
      rw [walkStep, if_pos hl, if_pos hcode, hs, hk, h1]
      rfl
    by_cases hx : isK m.ss key x
    · rw [if_pos hx] at hws
      refine ⟨1, by simp, hrd, ?_, ?_⟩
      · show (putStep m s).2.2 = false
        rw [putStep_1 m s ws hp hw]
      · show ((putStep m s).1, (putStep m s).2.1) = _
        rw [putStep_1 m s ws hp hw, hws, wScan, if_pos hx]
        rfl
    · rw [if_neg hx] at hws
      rw [wScan, if_neg hx]
      have hst : frStep putStep (m, s) = ((m, { s with wk := some { ws with prev := ws.at_, at_ := (readNd m.ss x).next, read := wrap64 (ws.read + 1) }, phase := if decide ((readNd m.ss x).next = 0) then 2 else 1 }), false) := by
        show (((putStep m s).1, (putStep m s).2.1), (putStep m s).2.2) = _
        rw [putStep_1 m s ws hp hw, hws]
      by_cases hz : (readNd m.ss x).next = 0
      · have hnil : xs = [] := by
          cases xs with
          | nil => rfl
          | cons y ys => exact absurd (h4.1.symm.trans hz) h4.2.1
        subst hnil
        refine ⟨1, by simp, hrd, by rw [hst], ?_⟩
        rw [hst]
        show (_ : MemS × PutS) = _
        simp [hz, wScan]
      · have hne : xs ≠ [] := fun e => by subst e; exact hz h4
        have hdec : decide ((readNd m.ss x).next = 0) = false := decide_eq_false hz
        obtain ⟨k, hk1, hk2⟩ := put_walk (m := m) (key := key) (xs := xs) (s := { s with wk := some { ws with prev := ws.at_, at_ := (readNd m.ss x).next, read := wrap64 (ws.read + 1) }, phase := 1 }) hne rfl hh rfl hl hs hk h4
        refine ⟨k + 1, by simp; omega, hrd, by rw [hst], ?_⟩
        rw [hst, hdec]
        simp only [Bool.false_eq_true, if_false]
        exact hk2

def lockMem (m : MemS) (lk : Int) (k : Nat) : MemS := { m with locks := m.locks.set lk.toNat k }
def heldS (m : MemS) (k : Nat) (key : ByteArray) (d : Int × Int) : HoldS := ⟨k, sumOf key, 2, m.cells.getD 1 0, d, lockOf (sumOf key) d.1, true, true⟩
theorem putStep_0n {m m' : MemS} {s : PutS} {c' : HoldS} (h : s.phase = 0) (hs : holdStep m s.hold = (m', c', false)) : putStep m s = (m', { s with hold := c' }, false) := by
  rw [putStep, if_pos h]
  dsimp only
  rw [hs]
  rfl
theorem putStep_0y {m m' : MemS} {s : PutS} {c' : HoldS} {d : Int × Int} (h : s.phase = 0) (hs : holdStep m s.hold = (m', c', true)) (hd : holdDesc c' = d) :
    putStep m s = (m', { s with hold := c', held := true, cell := d.2 + bucketOf (sumOf s.key) d.1, wk := some (walk0 (d.2 + bucketOf (sumOf s.key) d.1) (sumOf s.key) s.key), phase := 1 }, false) := by
  rw [putStep, if_pos h]
  dsimp only
  rw [hs]
  subst hd
  rfl
theorem put_hold {m : MemS} {k : Nat} {key val : ByteArray} {d : Int × Int} (hd : descOf m (wrap64 (m.cells.getD 1 0)) = d) (hf : m.locks.getD (lockOf (sumOf key) d.1).toNat 0 = -1) :
    GoN (frReady putReady) (frStep putStep) 3 (m, put0 k key val) (lockMem m (lockOf (sumOf key) d.1) k, ⟨key, val, 1, heldS m k key d, true, d.2 + bucketOf (sumOf key) d.1, some (walk0 (d.2 + bucketOf (sumOf key) d.1) (sumOf key) key), 0, 0⟩) := by
  have hlk := lockOf_is (sumOf key) d.1 (Int.natCast_nonneg _)
  have h1 : holdStep m (hold0 k (sumOf key)) = (m, ⟨k, sumOf key, 1, m.cells.getD 1 0, d, lockOf (sumOf key) d.1, false, false⟩, false) := by subst hd; rfl
  have h2 : holdStep m ⟨k, sumOf key, 1, m.cells.getD 1 0, d, lockOf (sumOf key) d.1, false, false⟩ = (lockMem m (lockOf (sumOf key) d.1) k, ⟨k, sumOf key, 2, m.cells.getD 1 0, d, lockOf (sumOf key) d.1, true, false⟩, false) := by
    rw [holdStep, if_neg (show ¬ (1 : Nat) = 0 by decide), if_pos rfl, if_pos hf]
    rfl
  have h3 : holdStep (lockMem m (lockOf (sumOf key) d.1) k) ⟨k, sumOf key, 2, m.cells.getD 1 0, d, lockOf (sumOf key) d.1, true, false⟩ = (lockMem m (lockOf (sumOf key) d.1) k, heldS m k key d, true) := by
    rw [holdStep, if_neg (show ¬ (2 : Nat) = 0 by decide), if_neg (show ¬ (2 : Nat) = 1 by decide), if_pos rfl]
    exact if_pos rfl
  have e1 := putStep_0n (s := put0 k key val) rfl h1
  have e2 := putStep_0n (s := { put0 k key val with hold := ⟨k, sumOf key, 1, m.cells.getD 1 0, d, lockOf (sumOf key) d.1, false, false⟩ }) rfl h2
  have e3 := putStep_0y (s := { put0 k key val with hold := ⟨k, sumOf key, 2, m.cells.getD 1 0, d, lockOf (sumOf key) d.1, true, false⟩ }) (d := d) rfl h3 rfl
  have r2 : holdReady m ⟨k, sumOf key, 1, m.cells.getD 1 0, d, lockOf (sumOf key) d.1, false, false⟩ = true := by
    rw [holdReady, if_pos ⟨show 0 < lockOf (sumOf key) d.1 by omega, rfl⟩, hf]
    rfl
  have r3 : holdReady (lockMem m (lockOf (sumOf key) d.1) k) ⟨k, sumOf key, 2, m.cells.getD 1 0, d, lockOf (sumOf key) d.1, true, false⟩ = true := by
    rw [holdReady, if_neg (fun h => by simp at h)]
  refine ⟨rfl, by show (putStep _ _).2.2 = false; rw [e1], ?_⟩
  rw [show (frStep putStep (m, put0 k key val)).1 = ((putStep m (put0 k key val)).1, (putStep m (put0 k key val)).2.1) from rfl, e1]
  refine ⟨r2, by show (putStep _ _).2.2 = false; exact congrArg (fun x => x.2.2) e2, ?_⟩
  have f2 := congrArg (fun x : MemS × PutS × Bool => (x.1, x.2.1)) e2
  dsimp only at f2
  show GoN _ _ 1 ((putStep _ _).1, (putStep _ _).2.1) _
  rw [f2]
  refine ⟨r3, by show (putStep _ _).2.2 = false; exact congrArg (fun x => x.2.2) e3, ?_⟩
  have f3 := congrArg (fun x : MemS × PutS × Bool => (x.1, x.2.1)) e3
  exact f3
/-- The walk, as it looks at the first node. -/
def wLook (c : Int) (key : ByteArray) (h : Int) : WalkS := { walk0 c (sumOf key) key with first := h, at_ := h, looking := true }
theorem put_seek {m : MemS} {s : PutS} {key : ByteArray} {c : Int} {xs : List Int} (hp : s.phase = 1) (hh : s.held = true) (hw : s.wk = some (walk0 c (sumOf key) key)) (hc : Chn m.ss (cellAt m c) xs) :
    ∃ k, k ≤ xs.length + 1 ∧ GoN (frReady putReady) (frStep putStep) k (m, s) (m, { s with phase := 2, wk := some (wScan m.ss key xs (wLook c key (cellAt m c))) }) := by
  have hrd : frReady putReady (m, s) = true := by simp [frReady, putReady, hh]
  have hws : walkStep m (walk0 c (sumOf key) key) = (m, wLook c key (cellAt m c), decide (cellAt m c = 0)) := by
    rw [walkStep, if_neg (by simp [walk0])]
    rfl
  have hst : frStep putStep (m, s) = ((m, { s with wk := some (wLook c key (cellAt m c)), phase := if decide (cellAt m c = 0) then 2 else 1 }), false) := by
    show (((putStep m s).1, (putStep m s).2.1), (putStep m s).2.2) = _
    rw [putStep_1 m s _ hp hw, hws]
  cases xs with
  | nil =>
    have h0 : cellAt m c = 0 := hc
    refine ⟨1, by simp, hrd, by rw [hst], ?_⟩
    rw [hst]
    show (_ : MemS × PutS) = _
    simp [h0, wScan]
  | cons x xs =>
    have hn0 : cellAt m c ≠ 0 := by rw [hc.1]; exact hc.2.1
    obtain ⟨k, hk1, hk2⟩ := put_walk (m := m) (key := key) (xs := x :: xs) (s := { s with wk := some (wLook c key (cellAt m c)), phase := 1 }) (ws := wLook c key (cellAt m c)) (by simp) rfl hh rfl rfl rfl rfl hc
    refine ⟨k + 1, by omega, hrd, by rw [hst], ?_⟩
    rw [hst, decide_eq_false hn0]
    simp only [Bool.false_eq_true, if_false]
    exact hk2
end Go.Proofs.YtcgfknpobifecaaGreat
