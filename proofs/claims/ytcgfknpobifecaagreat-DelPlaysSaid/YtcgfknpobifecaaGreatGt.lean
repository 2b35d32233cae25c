/- Package get: a get as one object of three parts; New, come, load, look, out. Condition: the memory and the get are there. -/
import Derived.Test.YtcgfknpobifecaaGreatOb
import Derived.Test.YtcgfknpobifecaaGreatWkm
import Derived.Test.YtcgfknpobifecaaGreatMfm
import Derived.Deep.RegionHeld3
import Derived.Test.YtcgfknpobifecaaGreatMnm
import Derived.Test.YtcgfknpobifecaaGreatFn
namespace Go.Proofs.YtcgfknpobifecaaGreat
open Go.RowKit

structure GetS where
  worker : Nat
  key : ByteArray
  phase : Nat
  come : ComeS
  wk : Option WalkS
def comeC (s : ComeS) : Array Value := #[.int .i64 s.worker, .bool s.loaded, .int .u64 s.period]
def getF (p : Nat) : Nat := if p = 0 then 55 else if p = 1 then 87 else if p = 2 then 113 else 131
def getC (b eb wb : Nat) (s : GetS) : Array Value := #[.int .i64 s.worker, .string s.key, .func (.func (getF s.phase)) #[.pointer (some ⟨b, 0, none⟩)] #[], .pointer (some ⟨eb, 0, none⟩), .pointer (match s.wk with | none => none | some _ => some ⟨wb, 0, none⟩)]
def getParts (b : Nat) (s : GetS) (a : Nat × Nat) : List FObj := [stF b (getC b a.1 a.2 s) 120, stF a.1 (comeC s.come) 161, match s.wk with | none => noF | some ws => stF a.2 (walkC a.2 ws) 150]
def GetK (b : Nat) (s : GetS) : KObj := ExK fun a => CompK (getParts b s a)
structure GetOk (m : MemS) (s : GetS) : Prop where
  worker : s.worker < m.workers
  come : ComeOk m s.come
  me : s.come.worker = s.worker
  walk : ∀ ws, s.wk = some ws → WalkOk ws
  key : s.key.size ≤ 9223372036854775807
  phase : s.phase ≤ 3
  has : s.phase = 2 → s.wk.isSome
def get0 (k : Nat) (key : ByteArray) : GetS := ⟨k, key, 0, ⟨k, false, 0⟩, none⟩
def getStep (m : MemS) (s : GetS) : MemS × GetS × Bool :=
  if s.phase = 0 then
    let r := comeStep m s.come
    (r.1, { s with come := r.2.1, phase := if r.2.2 then 1 else 0 }, false)
  else if s.phase = 1 then
    let d := descOf m (wrap64 (m.cells.getD 1 0))
    (m, { s with wk := some (walk0 (d.2 + bucketOf (sumOf s.key) d.1) (sumOf s.key) s.key), phase := 2 }, false)
  else if s.phase = 2 then
    match s.wk with
    | none => (m, s, false)
    | some ws =>
      let r := walkStep m ws
      (r.1, { s with wk := some r.2.1, phase := if r.2.2 then 3 else 2 }, false)
  else (goneStep m s.worker, s, true)

section
variable {l : List KObj} {w : World} {t u b : Nat} {m : MemS} {s : GetS}
theorem GetK.open_ (h : R l w) (hu : l[u]? = some (GetK b s)) : ∃ a, R (l.set u NoK ++ (getParts b s a).map single) w := by
  obtain ⟨a, ha⟩ := h.ex hu
  have := ha.unpack (set_get hu) (by simp [getParts])
  rw [List.set_set] at this
  exact ⟨a, this⟩
theorem GetK.close {l : List KObj} (a : Nat × Nat) (h : R (l ++ (getParts b s a).map single) w) (hu : u < l.length) : R (l.set u (GetK b s)) w := by
  have h1 := h.pack hu (by simp [getParts])
  have h2 := R.toEx (f := fun a => CompK (getParts b s a)) (u := u) a h1 (List.getElem?_set_self hu)
  rwa [List.set_set] at h2

set_option maxHeartbeats 800000 in
theorem get_new (h : R l w) (k : Nat) (key : ByteArray) : Calls Tryz.prog 23 #[.int .i64 k, .string key] w fun e w' => ∃ b, e = .returned (.pointer (some ⟨b, 0, none⟩)) ∧ R (l ++ [GetK b (get0 k key)]) w' := by
  have hen := hide (qsbr_enter h k)
  clear h
  go_enter Tryz.func23, Tryz.ntmps23
  go_wp2_with fail
  refine hen.out.mono ?_
  rintro e w1 ⟨eb, rfl, h1⟩
  have h2 := (h1.new (getC w1.heap.size eb 0 (get0 k key)) 120)
  have h3 : R (l ++ [GetK w1.heap.size (get0 k key)]) _ := R.toExEnd (f := fun a => CompK (getParts w1.heap.size (get0 k key) a)) (eb, 0) (R.packSelEnd (ps := [stF eb (comeC ⟨k, false, 0⟩) 161, stF w1.heap.size (getC w1.heap.size eb 0 (get0 k key)) 120]) (by rw [List.append_assoc] at h2; exact h2) (fun j => 1 - j) (fun i q hq hi => by
    match i, hq with
    | 0, hq => exact .inl ⟨1, hq, rfl⟩
    | 1, hq => exact .inl ⟨0, hq, rfl⟩
    | 2, hq => exact .inr (Option.some.inj hq).symm
    | i + 3, hq => simp [getParts] at hq))
  replace h3 := hide h3
  clear hen h1 h2
  go_wp2
  go_ret
  exact ⟨_, rfl, h3.out⟩

/-- The memory, where a get is laid open. -/
theorem memU {l P : List KObj} {t u : Nat} (ht : l[t]? = some (MemK m)) (hne : t ≠ u) : (l.set u NoK ++ P)[t]? = some (MemK m) := app_get (set_other ht (Ne.symm hne))
set_option maxHeartbeats 800000 in
theorem get_come (h : R l w) (ht : l[t]? = some (MemK m)) (hu : l[u]? = some (GetK b s)) (hne : t ≠ u) (hok : GetOk m s) (hk : s.phase = 0) :
    Calls Tryz.prog 55 #[.pointer (some ⟨b, 0, none⟩), .pointer (some ⟨m.b, 0, none⟩)] w (Does ((l.set t (MemK (getStep m s).1)).set u (GetK b (getStep m s).2.1)) (.bool (getStep m s).2.2)) := by
  have hul := lt_of_get hu
  have htl := lt_of_get ht
  obtain ⟨⟨eb, wb⟩, h1⟩ := GetK.open_ h hu
  have hs := h1.stP (i := 0) (b := b) (cs := getC b eb wb s) (T := 120) rfl
  have hc := come_step h1 (memU ht hne) (u := (l.set u NoK).length + 1) (b := eb) (s := s.come) (getP rfl) (by simp; omega) hok.come.1 hok.come.2
  rw [set2P _ _ _ (by simpa using htl)] at hc
  dsimp only [getC] at hs
  rw [hk, getF, if_pos rfl] at hs
  have e : getStep m s = ((comeStep m s.come).1, { s with come := (comeStep m s.come).2.1, phase := if (comeStep m s.come).2.2 then 1 else 0 }, false) := by rw [getStep, if_pos hk]
  rw [e]
  dsimp only
  generalize comeStep m s.come = r at *
  obtain ⟨m', c', ld⟩ := r
  dsimp only at hc ⊢
  replace hc := hide hc
  cases ld
  · have e2 : ({ s with come := c', phase := 0 } : GetS) = { s with come := c' } := by rw [← hk]
    simp only [Bool.false_eq_true, if_false]
    rw [e2]
    clear h h1 e e2
    replace hk := hide hk
    go_enter Tryz.func55, Tryz.ntmps55
    go_wp2_with fail
    refine hc.out.mono ?_
    rintro e w2 ⟨rfl, h2⟩
    have h3 := GetK.close (b := b) (s := { s with come := c' }) (l := (l.set u NoK).set t (MemK m')) (u := u) (eb, wb) h2 (by simpa using hul)
    rw [foldU _ hne] at h3
    replace h3 := hide h3
    clear h2 hc hs
    go_wp2
    go_ret
    exact ⟨rfl, h3.out⟩
  · simp only [if_true]
    clear h h1 e
    replace hk := hide hk
    go_enter Tryz.func55, Tryz.ntmps55
    go_wp2_with fail
    refine hc.out.mono ?_
    rintro e w2 ⟨rfl, h2⟩
    have hs2 := h2.stP (i := 0) (b := b) (cs := getC b eb wb s) (T := 120) rfl
    have h3 := GetK.close (b := b) (s := { s with come := c', phase := 1 }) (l := (l.set u NoK).set t (MemK m')) (u := u) (eb, wb) (h2.putP (i := 0) (b := b) (cs := getC b eb wb s) (T := 120) rfl 2 (.func (.func 87) #[.pointer (some ⟨b, 0, none⟩)] #[])) (by simpa using hul)
    rw [foldU _ hne] at h3
    dsimp only [getC] at hs2
    replace h3 := hide h3
    clear h2 hc hs
    go_wp2
    go_ret
    exact ⟨rfl, h3.out⟩

/-- What lies open when the walk is made. -/
def loadParts (b eb wb D wb4 : Nat) (s : GetS) (d1 d2 : Int) (ws : WalkS) : List FObj := getParts b s (eb, wb) ++ [stF D #[.int .i64 d1, .int .i64 d2] 83, stF wb4 (walkC wb4 ws) 150]
theorem descOf_ok (hm : MemOk m) (i : Int) : 0 ≤ (descOf m i).1 ∧ (descOf m i).1 ≤ 65536 ∧ 0 ≤ (descOf m i).2 ∧ (descOf m i).2 ≤ 1048576 := by
  have hz : 0 ≤ ((0, 0) : Int × Int).1 ∧ ((0, 0) : Int × Int).1 ≤ 65536 ∧ 0 ≤ ((0, 0) : Int × Int).2 ∧ ((0, 0) : Int × Int).2 ≤ 1048576 := by decide
  unfold descOf
  split
  · rw [List.getD_eq_getElem?_getD]
    cases hd : m.tables[i.toNat]? with
    | none => exact hz
    | some d =>
      have := hm.tab d (List.mem_of_getElem? hd)
      have := hm.cellsLen
      simp only [Option.getD_some]
      omega
  · exact hz
set_option maxRecDepth 100000 in
set_option maxHeartbeats 1600000 in
theorem get_load (h : R l w) (ht : l[t]? = some (MemK m)) (hu : l[u]? = some (GetK b s)) (hne : t ≠ u) (hok : GetOk m s) (hk : s.phase = 1) :
    Calls Tryz.prog 87 #[.pointer (some ⟨b, 0, none⟩), .pointer (some ⟨m.b, 0, none⟩)] w (Does ((l.set t (MemK (getStep m s).1)).set u (GetK b (getStep m s).2.1)) (.bool (getStep m s).2.2)) := by
  have hul := lt_of_get hu
  have htl := lt_of_get ht
  have hmo := h.memOk ht
  obtain ⟨⟨eb, wb⟩, h1⟩ := GetK.open_ h hu
  have hs := h1.stP (i := 0) (b := b) (cs := getC b eb wb s) (T := 120) rfl
  obtain ⟨tv, wv, hm⟩ := h1.memHdr (memU ht hne)
  dsimp only [getC] at hs
  rw [hk, show getF 1 = 87 from rfl] at hs
  have e : getStep m s = (m, { s with wk := some (walk0 ((descOf m (wrap64 (m.cells.getD 1 0))).2 + bucketOf (sumOf s.key) (descOf m (wrap64 (m.cells.getD 1 0))).1) (sumOf s.key) s.key), phase := 2 }, false) := by rw [getStep, if_neg (by omega), if_pos hk]
  rw [e]
  dsimp only
  rw [set_same ht]
  have hld := memR_load h1 (memU ht hne) 1 (by decide) (by have := hmo.cells3; omega)
  rw [show (1 : Int).toNat = 1 from rfl] at hld
  have hcv := hmo.cell 1
  obtain ⟨hc0, hc1⟩ := hcv
  generalize m.cells.getD 1 0 = v at *
  have hds := mem_desc h1 (memU ht hne) (wrap64 v)
  have hdo := descOf_ok hmo (wrap64 v)
  generalize descOf m (wrap64 v) = d at *
  obtain ⟨d1, d2⟩ := d
  dsimp only [descV] at hds hdo ⊢
  generalize decide (0 ≤ wrap64 v ∧ wrap64 v < m.tables.length) = okd at hds
  have hsl := sumOf_lt s.key
  have hsz : (0 : Int) ≤ (sumOf s.key : Int) := by omega
  have hbl := bucketOf_lt (sumOf s.key) d1 hsz
  have hsm := hide fun W => fnv_sum s.key hok.key W
  have hbk := hide fun W => fnv_bucket (sumOf s.key) d1 hsz (by omega) W
  generalize (sumOf s.key : Int) = sm at *
  generalize bucketOf sm d1 = bk at *
  replace hld := hide hld
  replace hds := hide hds
  replace hk := hide hk
  clear h h1 e hmo hsl
  go_enter Tryz.func87, Tryz.ntmps87
  go_wp2_with fail
  refine hld.out.mono ?_
  rintro e w2 ⟨rfl, rfl⟩
  go_wp2_with fail
  refine hds.out.mono ?_
  rintro e w2 ⟨rfl, h2⟩
  have hs2 := h2.stP (i := 0) (b := b) (cs := getC b eb wb s) (T := 120) rfl
  have h3 := h2.new #[.int .i64 d1, .int .i64 d2] 83
  have hlt2 := lt_of_blk hs2
  dsimp only [getC] at hs2
  clear hld hds hs hm h2
  go_wp2_with fail
  refine (hsm.out _).mono ?_
  rintro e w3 ⟨rfl, rfl⟩
  have hD3 := blk_new w2 (.cells #[.int .i64 d1, .int .i64 d2] 83)
  have hs3 := (blk_old w2 (.cells #[.int .i64 d1, .int .i64 d2] 83) b hlt2).trans hs2
  generalize w2.alloc (.cells #[.int .i64 d1, .int .i64 d2] 83) = w3 at *
  generalize w2.heap.size = D at *
  have hwn := hide (walk_new h3.drew (d2 + bk) sm s.key)
  have e1 : IntKind.i64.wrap (d2 + bk) = d2 + bk := by rw [IntKind.wrap_i64]; omega
  have kD0 : cellOf (blk w3 D) 0 = some (.int .i64 d1) := by rw [hD3]; rfl
  have kD1 : cellOf (blk w3 D) 1 = some (.int .i64 d2) := by rw [hD3]; rfl
  have kb1 : cellOf (blk w3 b) 1 = some (.string s.key) := by rw [hs3]; rfl
  have hDb := ne_of_type hD3 hs3 (by decide)
  clear hs2 hlt2 hD3 hs3 hsm
  go_wp2_with fail
  go_region_held3 (fun w' => cellOf (blk w' D) 0 = some (.int .i64 d1) ∧ cellOf (blk w' D) 1 = some (.int .i64 d2) ∧ cellOf (blk w' b) 1 = some (.string s.key)) (first | exact ⟨kD0, kD1, kb1⟩ | exact ⟨m0, m1, m2⟩ | exact ⟨n0, n1, n2⟩)
    (first | (go_at_call 77; refine (hbk.out _).mono ?_; rintro e w4 ⟨rfl, rfl⟩) | (go_at_call 78; refine hwn.out.mono ?_; rintro e w4 ⟨wb4, rfl, h4⟩; have h5 : Hid (R (l.set u NoK ++ (loadParts b eb wb D wb4 s d1 d2 (walk0 (d2 + bk) sm s.key)).map single) w4) := hide (by rw [List.append_assoc, List.append_assoc] at h4; exact h4); clear h4; have hs4 := h5.out.stP (i := 0) (b := b) (cs := getC b eb wb s) (T := 120) rfl; have hD4 := h5.out.stP (i := 3) (b := D) (cs := #[.int .i64 d1, .int .i64 d2]) (T := 83) rfl; dsimp only [getC] at hs4; rw [hk.out, show getF 1 = 87 from rfl] at hs4; have n0 : cellOf (blk w4 D) 0 = some (.int .i64 d1) := (by rw [hD4]; rfl); have n1 : cellOf (blk w4 D) 1 = some (.int .i64 d2) := (by rw [hD4]; rfl); have n2 : cellOf (blk w4 b) 1 = some (.string s.key) := (by rw [hs4]; rfl); have m0 : cellOf (blk (w4.setCell ⟨b, 4, none⟩ (.pointer (some ⟨wb4, 0, none⟩))) D) 0 = some (.int .i64 d1) := (by rw [blk_put_other _ _ _ _ _ hDb]; exact n0); have m1 : cellOf (blk (w4.setCell ⟨b, 4, none⟩ (.pointer (some ⟨wb4, 0, none⟩))) D) 1 = some (.int .i64 d2) := (by rw [blk_put_other _ _ _ _ _ hDb]; exact n1); have m2 : cellOf (blk (w4.setCell ⟨b, 4, none⟩ (.pointer (some ⟨wb4, 0, none⟩))) b) 1 = some (.string s.key) := (by rw [blk_put_same, hs4]; rfl); clear hD4))
  have hp := (h5.out.putP (i := 0) (b := b) (cs := getC b eb wb s) (T := 120) rfl 4 (.pointer (some ⟨wb4, 0, none⟩))).putP (i := 0) (b := b) (cs := (getC b eb wb s).setIfInBounds 4 (.pointer (some ⟨wb4, 0, none⟩))) (T := 120) rfl 2 (.func (.func 113) #[.pointer (some ⟨b, 0, none⟩)] #[])
  have h6 := R.packSel (l := l.set u NoK) (u := u) (qs := getParts b { s with wk := some (walk0 (d2 + bk) sm s.key), phase := 2 } (eb, wb4))
    (ps := [stF b (((getC b eb wb s).setIfInBounds 4 (.pointer (some ⟨wb4, 0, none⟩))).setIfInBounds 2 (.func (.func 113) #[.pointer (some ⟨b, 0, none⟩)] #[])) 120, stF eb (comeC s.come) 161, match s.wk with | none => noF | some ws => stF wb (walkC wb ws) 150, stF D #[.int .i64 d1, .int .i64 d2] 83, stF wb4 (walkC wb4 (walk0 (d2 + bk) sm s.key)) 150]) hp (by simpa using hul)
    (fun j => if j = 4 then 2 else if j < 2 then j else 15) (fun i q hq hi => by
      match i, hq with
      | 0, hq => exact .inl ⟨0, hq, rfl⟩
      | 1, hq => exact .inl ⟨1, hq, rfl⟩
      | 2, hq => exact .inl ⟨4, hq, rfl⟩
      | i + 3, hq => simp [getParts] at hq)
  have h7 := R.toEx (f := fun a => CompK (getParts b { s with wk := some (walk0 (d2 + bk) sm s.key), phase := 2 } a)) (u := u) (eb, wb4) h6 (List.getElem?_set_self (by simpa using hul))
  rw [List.set_set, List.set_set] at h7
  replace h7 := hide h7
  clear h5 hp h6 hwn n0 n1 n2 m0 m1 m2 kD0 kD1 kb1 h3 hbk
  go_wp2
  go_ret
  exact ⟨rfl, h7.out⟩

set_option maxHeartbeats 800000 in
theorem get_look (h : R l w) (ht : l[t]? = some (MemK m)) (hu : l[u]? = some (GetK b s)) (hne : t ≠ u) (hok : GetOk m s) (hk : s.phase = 2) :
    Calls Tryz.prog 113 #[.pointer (some ⟨b, 0, none⟩), .pointer (some ⟨m.b, 0, none⟩)] w (Does ((l.set t (MemK (getStep m s).1)).set u (GetK b (getStep m s).2.1)) (.bool (getStep m s).2.2)) := by
  have hul := lt_of_get hu
  have htl := lt_of_get ht
  obtain ⟨ws, hws⟩ := Option.isSome_iff_exists.1 (hok.has hk)
  obtain ⟨wk, key, ph, cm, wko⟩ := s
  dsimp only at hk hws
  subst hk hws
  obtain ⟨⟨eb, wb⟩, h1⟩ := GetK.open_ h hu
  have hs := h1.stP (i := 0) (b := b) (cs := getC b eb wb ⟨wk, key, 2, cm, some ws⟩) (T := 120) rfl
  have hc := walk_step h1 (memU ht hne) (u := (l.set u NoK).length + 2) (b := wb) (s := ws) (getP rfl) (by simp; omega) (hok.walk ws rfl)
  rw [set2P _ _ _ (by simpa using htl)] at hc
  dsimp only [getC] at hs
  rw [show getF 2 = 113 from rfl] at hs
  have e : getStep m ⟨wk, key, 2, cm, some ws⟩ = ((walkStep m ws).1, ⟨wk, key, if (walkStep m ws).2.2 then 3 else 2, cm, some (walkStep m ws).2.1⟩, false) := rfl
  rw [e]
  dsimp only
  generalize walkStep m ws = r at *
  obtain ⟨m', c', ld⟩ := r
  dsimp only at hc ⊢
  replace hc := hide hc
  cases ld
  · simp only [Bool.false_eq_true, if_false]
    clear h h1 e hok
    go_enter Tryz.func113, Tryz.ntmps113
    go_wp2_with fail
    refine hc.out.mono ?_
    rintro e w2 ⟨rfl, h2⟩
    have h3 := GetK.close (b := b) (s := ⟨wk, key, 2, cm, some c'⟩) (l := (l.set u NoK).set t (MemK m')) (u := u) (eb, wb) h2 (by simpa using hul)
    rw [foldU _ hne] at h3
    replace h3 := hide h3
    clear h2 hc hs
    go_wp2
    go_ret
    exact ⟨rfl, h3.out⟩
  · simp only [if_true]
    clear h h1 e hok
    go_enter Tryz.func113, Tryz.ntmps113
    go_wp2_with fail
    refine hc.out.mono ?_
    rintro e w2 ⟨rfl, h2⟩
    have hs2 := h2.stP (i := 0) (b := b) (cs := getC b eb wb ⟨wk, key, 2, cm, some ws⟩) (T := 120) rfl
    have h3 := GetK.close (b := b) (s := ⟨wk, key, 3, cm, some c'⟩) (l := (l.set u NoK).set t (MemK m')) (u := u) (eb, wb) (h2.putP (i := 0) (b := b) (cs := getC b eb wb ⟨wk, key, 2, cm, some ws⟩) (T := 120) rfl 2 (.func (.func 131) #[.pointer (some ⟨b, 0, none⟩)] #[])) (by simpa using hul)
    rw [foldU _ hne] at h3
    dsimp only [getC] at hs2
    replace h3 := hide h3
    clear h2 hc hs
    go_wp2
    go_ret
    exact ⟨rfl, h3.out⟩

set_option maxHeartbeats 800000 in
theorem get_out (h : R l w) (ht : l[t]? = some (MemK m)) (hu : l[u]? = some (GetK b s)) (hne : t ≠ u) (hok : GetOk m s) (hk : s.phase = 3) :
    Calls Tryz.prog 131 #[.pointer (some ⟨b, 0, none⟩), .pointer (some ⟨m.b, 0, none⟩)] w (Does ((l.set t (MemK (getStep m s).1)).set u (GetK b (getStep m s).2.1)) (.bool (getStep m s).2.2)) := by
  have htl := lt_of_get ht
  obtain ⟨⟨eb, wb⟩, h1⟩ := GetK.open_ h hu
  have hs := h1.stP (i := 0) (b := b) (cs := getC b eb wb s) (T := 120) rfl
  dsimp only [getC] at hs
  have e : getStep m s = (goneStep m s.worker, s, true) := by rw [getStep, if_neg (by omega), if_neg (by omega), if_neg (by omega)]
  rw [e]
  dsimp only
  rw [set_same (set_other hu hne)]
  have hlv := hide (qsbr_leave h s.worker)
  have hwk := hide hok.worker
  clear h h1 e hok
  go_enter Tryz.func131, Tryz.ntmps131
  go_wp2_with fail
  refine hlv.out.mono ?_
  rintro e w2 ⟨gb, rfl, h2⟩
  have hgs := gone_step h2 (app_get ht) (u := l.length) (b := gb) (k := s.worker) app_last hwk.out
  rw [setL' _ _ htl] at hgs
  replace hgs := hide hgs
  clear hlv h2 hs
  go_wp2_with fail
  refine hgs.out.mono ?_
  rintro e w3 ⟨rfl, h3⟩
  have h4 := hide h3.left
  clear h3 hgs
  go_wp2
  go_ret
  exact ⟨rfl, h4.out⟩

theorem get_ready (a p : Value) (w : World) : Calls Tryz.prog 197 #[a, p] w fun e w' => e = .returned (.bool true) ∧ w = w' := by
  go_enter Tryz.func197, Tryz.ntmps197
  go_wp2
  go_ret
  exact ⟨rfl, rfl⟩
set_option maxHeartbeats 800000 in
theorem get_step (h : R l w) (ht : l[t]? = some (MemK m)) (hu : l[u]? = some (GetK b s)) (hne : t ≠ u) (hok : GetOk m s) :
    Calls Tryz.prog 198 #[.pointer (some ⟨b, 0, none⟩), .pointer (some ⟨m.b, 0, none⟩)] w (Does ((l.set t (MemK (getStep m s).1)).set u (GetK b (getStep m s).2.1)) (.bool (getStep m s).2.2)) := by
  obtain ⟨⟨eb, wb⟩, h1⟩ := GetK.open_ h hu
  have hs := h1.stP (i := 0) (b := b) (cs := getC b eb wb s) (T := 120) rfl
  dsimp only [getC] at hs
  clear h1
  rcases (by have := hok.phase; omega : s.phase = 0 ∨ s.phase = 1 ∨ s.phase = 2 ∨ s.phase = 3) with h0 | h0 | h0 | h0
  · have hc := hide (get_come h ht hu hne hok h0)
    rw [h0, show getF 0 = 55 from rfl] at hs
    replace h0 := hide h0
    clear h hok
    go_enter Tryz.func198, Tryz.ntmps198
    go_wp2_with fail
    refine hc.out.mono ?_
    rintro e w2 ⟨rfl, h2⟩
    replace h2 := hide h2
    go_wp2
    go_ret
    exact ⟨rfl, h2.out⟩
  · have hc := hide (get_load h ht hu hne hok h0)
    rw [h0, show getF 1 = 87 from rfl] at hs
    replace h0 := hide h0
    clear h hok
    go_enter Tryz.func198, Tryz.ntmps198
    go_wp2_with fail
    refine hc.out.mono ?_
    rintro e w2 ⟨rfl, h2⟩
    replace h2 := hide h2
    go_wp2
    go_ret
    exact ⟨rfl, h2.out⟩
  · have hc := hide (get_look h ht hu hne hok h0)
    rw [h0, show getF 2 = 113 from rfl] at hs
    replace h0 := hide h0
    clear h hok
    go_enter Tryz.func198, Tryz.ntmps198
    go_wp2_with fail
    refine hc.out.mono ?_
    rintro e w2 ⟨rfl, h2⟩
    replace h2 := hide h2
    go_wp2
    go_ret
    exact ⟨rfl, h2.out⟩
  · have hc := hide (get_out h ht hu hne hok h0)
    rw [h0, show getF 3 = 131 from rfl] at hs
    replace h0 := hide h0
    clear h hok
    go_enter Tryz.func198, Tryz.ntmps198
    go_wp2_with fail
    refine hc.out.mono ?_
    rintro e w2 ⟨rfl, h2⟩
    replace h2 := hide h2
    go_wp2
    go_ret
    exact ⟨rfl, h2.out⟩

def getVal (s : GetS) : ByteArray × Bool := match s.wk with
  | none => (⟨#[]⟩, false)
  | some ws => if ws.found then (ws.node.val, true) else (⟨#[]⟩, false)
def getRead (s : GetS) : Int := match s.wk with
  | none => 0
  | some ws => ws.read
set_option maxHeartbeats 800000 in
theorem get_val (h : R l w) (hu : l[u]? = some (GetK b s)) : Calls Tryz.prog 24 #[.pointer (some ⟨b, 0, none⟩)] w (Does l (.tuple #[.string (getVal s).1, .bool (getVal s).2])) := by
  have hul := lt_of_get hu
  obtain ⟨⟨eb, wb⟩, h1⟩ := GetK.open_ h hu
  have hs := h1.stP (i := 0) (b := b) (cs := getC b eb wb s) (T := 120) rfl
  dsimp only [getC] at hs
  unfold getVal
  obtain ⟨wk, key, ph, cm, wko⟩ := s
  cases wko with
  | none =>
    replace h := hide h
    dsimp only at hs ⊢
    clear h1
    go_enter Tryz.func24, Tryz.ntmps24
    go_wp2
    go_ret2
    exact ⟨rfl, h.out⟩
  | some ws =>
    dsimp only at hs ⊢
    have hf := walk_found h1 (u := (l.set u NoK).length + 2) (b := wb) (s := ws) (getP rfl)
    rw [foundV] at hf
    have hcl : ∀ w', R (l.set u NoK ++ (getParts b ⟨wk, key, ph, cm, some ws⟩ (eb, wb)).map single) w' → R l w' := fun w' h' => by
      have := GetK.close (b := b) (s := ⟨wk, key, ph, cm, some ws⟩) (u := u) (eb, wb) h' (by simpa using hul)
      rwa [List.set_set, set_same hu] at this
    replace hcl := hide hcl
    cases hfo : ws.found
    all_goals
      rw [hfo] at hf
      simp only [Bool.false_eq_true, if_false, if_true, ndV, nd0] at hf ⊢
      replace hf := hide hf
      replace hfo := hide hfo
      clear h h1
      go_enter Tryz.func24, Tryz.ntmps24
      go_wp2_with fail
      refine hf.out.mono ?_
      rintro e w2 ⟨rfl, h2⟩
      have h3 := hide fun o => (hcl.out _ h2).alloc o
      clear h2 hf hs
      go_wp2
      go_ret2
      exact ⟨rfl, h3.out _⟩
end
theorem get_frame (b : Nat) : FrameAt 56 197 198 b := ⟨fun n w => by kernel_rfl, fun n w => by kernel_rfl, fun n w => by kernel_rfl, fun a w => by kernel_rfl, fun a w => by kernel_rfl, fun n w => by kernel_rfl⟩
theorem GetOk.start (m : MemS) (k : Nat) (key : ByteArray) (hk : k < m.workers) (hs : key.size ≤ 9223372036854775807) : GetOk m (get0 k key) :=
  ⟨hk, ⟨hk, ⟨by show (0 : Int) ≤ 0; decide, by show (0 : Int) ≤ 18446744073709551615; decide⟩⟩, rfl, fun _ h => by simp [get0] at h, hs, by show (0 : Nat) ≤ 3; decide, fun h => by simp [get0] at h⟩
theorem walkStep_b (m : MemS) (s : WalkS) : (walkStep m s).1.b = m.b ∧ (walkStep m s).1.cb = m.cb ∧ (walkStep m s).1.lb = m.lb ∧ (walkStep m s).1.ab = m.ab ∧ (walkStep m s).1.workers = m.workers := by
  unfold walkStep
  split
  · split
    · dsimp only; split <;> exact ⟨rfl, rfl, rfl, rfl, rfl⟩
    · exact ⟨rfl, rfl, rfl, rfl, rfl⟩
  · exact ⟨rfl, rfl, rfl, rfl, rfl⟩
theorem comeStep_b (m : MemS) (s : ComeS) : (comeStep m s).1.b = m.b ∧ (comeStep m s).1.cb = m.cb ∧ (comeStep m s).1.lb = m.lb ∧ (comeStep m s).1.ab = m.ab ∧ (comeStep m s).1.workers = m.workers ∧ (comeStep m s).2.1.worker = s.worker := by
  unfold comeStep
  split <;> exact ⟨rfl, rfl, rfl, rfl, rfl, rfl⟩
theorem getStep_b (m : MemS) (s : GetS) : (getStep m s).1.b = m.b ∧ (getStep m s).1.cb = m.cb ∧ (getStep m s).1.lb = m.lb ∧ (getStep m s).1.ab = m.ab ∧ (getStep m s).1.workers = m.workers := by
  unfold getStep
  split
  · obtain ⟨h1, h2, h3, h4, h5, _⟩ := comeStep_b m s.come
    exact ⟨h1, h2, h3, h4, h5⟩
  · split
    · exact ⟨rfl, rfl, rfl, rfl, rfl⟩
    · split
      · split
        · exact ⟨rfl, rfl, rfl, rfl, rfl⟩
        · exact walkStep_b m _
      · exact ⟨rfl, rfl, rfl, rfl, rfl⟩
theorem walk_inv {m : MemS} {s : WalkS} (hm : MemOk m) (hi : WalkOk s) : WalkOk (walkStep m s).2.1 := walkK.inv hm hi rfl
theorem get_inv {m : MemS} {s : GetS} (hm : MemOk m) (hi : GetOk m s) : GetOk (getStep m s).1 (getStep m s).2.1 := by
  have hwk := (getStep_b m s).2.2.2.2
  obtain ⟨i1, i2, i3, i4, i5, i6, i7⟩ := hi
  by_cases h0 : s.phase = 0
  · have e : getStep m s = ((comeStep m s.come).1, { s with come := (comeStep m s.come).2.1, phase := if (comeStep m s.come).2.2 then 1 else 0 }, false) := by rw [getStep, if_pos h0]
    rw [e] at hwk ⊢
    have hci := comeK.inv hm i2 rfl
    have hcb := (comeStep_b m s.come).2.2.2.2.2
    generalize comeStep m s.come = r at *
    obtain ⟨m', c', ld⟩ := r
    dsimp only at hwk hci hcb ⊢
    refine ⟨by rw [hwk]; exact i1, hci, by dsimp only; rw [hcb]; exact i3, i4, i5, ?_, ?_⟩
    · dsimp only; split <;> omega
    · dsimp only; intro h; split at h <;> omega
  · by_cases h1 : s.phase = 1
    · have e : getStep m s = (m, { s with wk := some (walk0 ((descOf m (wrap64 (m.cells.getD 1 0))).2 + bucketOf (sumOf s.key) (descOf m (wrap64 (m.cells.getD 1 0))).1) (sumOf s.key) s.key), phase := 2 }, false) := by rw [getStep, if_neg h0, if_pos h1]
      rw [e]
      refine ⟨i1, i2, i3, fun ws h => ?_, i5, by dsimp only; omega, fun _ => rfl⟩
      obtain rfl := Option.some.inj h
      exact WalkOk.start _ _ _
    · by_cases h2 : s.phase = 2
      · obtain ⟨ws, hws⟩ := Option.isSome_iff_exists.1 (i7 h2)
        have e : getStep m s = ((walkStep m ws).1, { s with wk := some (walkStep m ws).2.1, phase := if (walkStep m ws).2.2 then 3 else 2 }, false) := by rw [getStep, if_neg h0, if_neg h1, if_pos h2, hws]
        rw [e] at hwk ⊢
        dsimp only at hwk
        refine ⟨by dsimp only; rw [hwk]; exact i1, ⟨by dsimp only; rw [hwk]; exact i2.1, i2.2⟩, i3, fun ws' h => ?_, i5, ?_, fun _ => rfl⟩
        · obtain rfl := Option.some.inj h
          exact walk_inv hm (i4 ws hws)
        · dsimp only; split <;> omega
      · have e : getStep m s = (goneStep m s.worker, s, true) := by rw [getStep, if_neg h0, if_neg h1, if_neg h2]
        rw [e]
        exact ⟨i1, i2, i3, i4, i5, i6, i7⟩
theorem getK : FrameK 56 197 198 GetK GetOk (fun _ _ => true) getStep where
  at_ := get_frame
  ready_ h _ _ _ _ := (get_ready _ _ _).mono fun _ _ ⟨h1, h2⟩ => ⟨h1, h2 ▸ h⟩
  step_ h ht hu hne hi _ := get_step h ht hu hne hi
  inv hm hi _ := get_inv hm hi
  blk m s := (getStep_b m s).1
end Go.Proofs.YtcgfknpobifecaaGreat
