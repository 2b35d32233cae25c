/- Package mem: a map of handles as a set, one part; chain, Chain, Reach: the handles from one on, each once. Condition: the memory and the set are there. -/
import Derived.Test.YtcgfknpobifecaaGreatOb
import Derived.Test.YtcgfknpobifecaaGreatMqm
import Derived.Test.YtcgfknpobifecaaGreatMnm
import Derived.Maps.OwnOps
import Derived.Maps.Views
namespace Go.Proofs.YtcgfknpobifecaaGreat
open Go.RowKit Go.Maps

/-- A map that tells of numbers whether they were met. -/
def SetIs (D : DataW Unit) (met : List Int) : Prop := Maps.IsMap D ∧ ∀ x, U64 x → D.atKey (.int .u64 x) (.lit (.int .i64 0)) = .lit (.int .i64 (if x ∈ met then 1 else 0))
def SetAt (o : Nat → Nat) (w : World) (a bm : Nat) (met : List Int) : Prop :=
  o bm = a ∧ ∃ (n : Nat) (D : DataW Unit), n ≤ met.length ∧ w.ownsMap Tryz.prog 47 (plainElem Tryz.prog 3) bm n D ∧ SetIs D met
theorem owns_of_blk {w w' : World} {b n : Nat} {D : DataW Unit} {k : TypeId} {R : Value → Option (DataW Unit × List MemPlace)} (h : w.ownsMap Tryz.prog k R b n D) (e : blk w' b = blk w b) : w'.ownsMap Tryz.prog k R b n D := by
  obtain ⟨es, clock, hb, F, hs, hD⟩ := h
  exact ⟨es, clock, e.trans hb, F, hs, hD⟩
def setF (bm : Nat) (met : List Int) : FObj where
  at_ o w a := SetAt o w a bm met
  keep e hm h := by
    obtain ⟨h1, n, D, h2, h3, h4⟩ := h
    obtain ⟨h5, h6⟩ := e.kp bm h3.lt (by rw [h1]; exact hm)
    exact ⟨h5.trans h1, n, D, h2, owns_of_blk h3 h6, h4⟩
  re h hm := ⟨hm _ h.1, h.2⟩
theorem handle_keyed : Keyed Tryz.prog 47 := int_keyed Tryz.underlying47
theorem int_zero (w : World) : (zeroValue 3).run Tryz.prog w = .ok (.int .i64 0) w := by kernel_rfl
theorem u64_wf {x : Int} (h : U64 x) : (Lit.int .u64 x).wf = true := by
  simp [Lit.wf, IntKind.min, IntKind.max, IntKind.signed, IntKind.bits]
  exact ⟨h.1, by have := h.2; omega⟩
theorem i64_wf {x : Int} (h0 : 0 ≤ x) (h1 : x ≤ 1000) : (Lit.int .i64 x).wf = true := by
  simp [Lit.wf, IntKind.min, IntKind.max, IntKind.signed, IntKind.bits]
  omega
theorem SetIs.none : SetIs (.map []) [] := ⟨⟨_, rfl⟩, fun _ _ => rfl⟩
theorem SetIs.put {D : DataW Unit} {met : List Int} (h : SetIs D met) (x : Int) (hx : U64 x) : SetIs (D.put (.int .u64 x) (.lit (.int .i64 1))) (met ++ [x]) := by
  refine ⟨?_, fun y hy => ?_⟩
  · obtain ⟨es, rfl⟩ := h.1
    exact ⟨_, rfl⟩
  · by_cases e : y = x
    · subst e
      rw [atKey_put_same h.1 (by trivial), if_pos (by simp)]
    · rw [atKey_put_other (by simp; exact e), h.2 y hy]
      congr 3
      simp [e]
section
variable {l : List KObj} {w : World} {u bm : Nat} {met : List Int}
theorem R.setLook (h : R l w) (hu : l[u]? = some (single (setF bm met))) (x : Int) (hx : U64 x) :
    (Instr.lookup 155 (.map (some bm)) (.int .u64 x) false).run Tryz.prog w = .ok (.int .i64 (if x ∈ met then 1 else 0)) w := by
  obtain ⟨o, _, _, n, D, _, h3, h4⟩ := h.get hu
  obtain ⟨c, hrun, hat, _⟩ := h3.lookup_int handle_keyed Tryz.underlying155 Tryz.underlying3 (int_zero _) (keyOf_int_mk Tryz.underlying47 (u64_wf hx))
  rw [h4.2 x hx] at hat
  simp at hat
  rw [hrun, ← hat]
theorem R.setGrown {w' : World} (h : R l w) (hu : l[u]? = some (single (setF bm met))) {n : Nat} {D : DataW Unit} {met' : List Int} (hown : w'.ownsMap Tryz.prog 47 (plainElem Tryz.prog 3) bm n D) (hn : n ≤ met'.length) (hD : SetIs D met') (hg : w.grownBy w' (some bm)) :
    R (l.set u (single (setF bm met'))) w' := by
  obtain ⟨o, hr, h1, _⟩ := h.get hu
  have e : Ext o o w w' (fun x => x = 16 * u) := ⟨hg.os, hg.tape, hg.output, hg.size, fun _ _ => rfl, fun k hk hs => hg.block k hk (fun e => hs (by rw [← h1]; exact congrArg o (Option.some.inj e)))⟩
  exact hr.step e (fun x hx => by omega) ⟨h1, n, D, hn, hown, hD⟩
theorem R.setMade (h : R l w) : R (l ++ [single (setF w.heap.size [])]) (w.alloc (.map #[] 0)) := by
  obtain ⟨o, h⟩ := h
  exact h.add (((Ext.refl o w (fun _ => False)).retag (16 * l.length)).alloc _) (fun _ => False.elim) ⟨upd_new (Nat.le_refl _), 0, .map [], Nat.le_refl _, World.ownsMap_made _ _ _ _, SetIs.none⟩
end

/-! The handles from one on, each once. -/
def liveB (ss : List Slot) (x : Int) : Bool := decide (0 ≤ atA ss x)
def cntU (ss : List Slot) (met : List Int) : Nat := ((List.range ss.length).filter fun i => decide (hnd ss i ∉ met)).length
def chainF (ss : List Slot) : Nat → List Int → Int → List Int
  | 0, _, _ => []
  | f + 1, met, x => if liveB ss x = true ∧ x ∉ met then x :: chainF ss f (met ++ [x]) (readNd ss x).next else []
def chainL (ss : List Slot) (met : List Int) (x : Int) : List Int := chainF ss (cntU ss met + 1) met x
theorem atA_hnd {ss : List Slot} {x : Int} (h : 0 ≤ atA ss x) : ∃ i, i < ss.length ∧ atA ss x = (i : Int) ∧ hnd ss i = x := by
  unfold atA at h
  split at h
  · rename_i hc
    obtain ⟨h1, h2, h3, h4⟩ := hc
    refine ⟨(x % 65536).toNat - 1, by omega, ?_, ?_⟩
    · rw [atA, if_pos ⟨h1, h2, h3, h4⟩]; omega
    · rw [hnd, h4]; omega
  · omega
theorem filter_lt {α : Type} {p q : α → Bool} : ∀ {l : List α} {a : α}, (∀ x, q x = true → p x = true) → a ∈ l → p a = true → q a = false → (l.filter q).length < (l.filter p).length
  | [], _, _, h, _, _ => by cases h
  | b :: r, a, hi, h, hp, hq => by
    have hle : ∀ r : List α, (r.filter q).length ≤ (r.filter p).length := fun r => by
      induction r with
      | nil => simp
      | cons c r ih =>
        cases hc : q c
        · rw [List.filter_cons_of_neg (by simp [hc])]
          cases hd : p c
          · rw [List.filter_cons_of_neg (by simp [hd])]; exact ih
          · rw [List.filter_cons_of_pos hd]; simp; omega
        · rw [List.filter_cons_of_pos hc, List.filter_cons_of_pos (hi c hc)]; simpa using ih
    rcases List.mem_cons.1 h with rfl | h
    · rw [List.filter_cons_of_neg (by simp [hq]), List.filter_cons_of_pos hp]
      have := hle r
      simp; omega
    · have := filter_lt hi h hp hq
      cases hc : q b
      · rw [List.filter_cons_of_neg (by simp [hc])]
        cases hd : p b
        · rw [List.filter_cons_of_neg (by simp [hd])]; exact this
        · rw [List.filter_cons_of_pos hd]; simp; omega
      · rw [List.filter_cons_of_pos hc, List.filter_cons_of_pos (hi b hc)]; simpa using this
theorem cntU_lt {ss : List Slot} {met : List Int} {x : Int} (h : liveB ss x = true) (hx : x ∉ met) : cntU ss (met ++ [x]) < cntU ss met := by
  obtain ⟨i, hi, _, he⟩ := atA_hnd (by simpa [liveB] using h)
  refine filter_lt (a := i) (fun k hk => ?_) (by simpa using hi) (by simpa [he] using hx) (by simp [he])
  simp at hk ⊢
  exact hk.1
theorem chainF_fuel {ss : List Slot} : ∀ (f g : Nat) (met : List Int) (x : Int), cntU ss met < f → cntU ss met < g → chainF ss f met x = chainF ss g met x
  | 0, _, _, _, h, _ => by omega
  | _ + 1, 0, _, _, _, h => by omega
  | f + 1, g + 1, met, x, hf, hg => by
    unfold chainF
    by_cases hc : liveB ss x = true ∧ x ∉ met
    · have := cntU_lt hc.1 hc.2
      rw [if_pos hc, if_pos hc, chainF_fuel f g _ _ (by omega) (by omega)]
    · rw [if_neg hc, if_neg hc]
theorem chainL_cons {ss : List Slot} {met : List Int} {x : Int} (h : liveB ss x = true) (hx : x ∉ met) : chainL ss met x = x :: chainL ss (met ++ [x]) (readNd ss x).next := by
  have := cntU_lt h hx
  unfold chainL
  rw [chainF, if_pos ⟨h, hx⟩, chainF_fuel (cntU ss met) (cntU ss (met ++ [x]) + 1) _ _ this (by omega)]
theorem chainL_stop {ss : List Slot} {met : List Int} {x : Int} (h : ¬ (liveB ss x = true ∧ x ∉ met)) : chainL ss met x = [] := by
  unfold chainL
  rw [chainF, if_neg h]

section
variable {l : List KObj} {w : World} {t u bm : Nat} {m : MemS} {met : List Int}
/-- What chain's loop keeps. -/
structure RelC (l : List KObj) (u bm : Nat) (m : MemS) (met : List Int) (x0 : Int) (out : List Int) (x : Int) (v : Value) (wr : World) : Prop where
  r : R (l.set u (single (setF bm (met ++ out))) ++ [SlK 47 1 v out.length (out.map (Value.int .u64))]) wr
  xok : U64 x
  is : chainL m.ss met x0 = out ++ chainL m.ss (met ++ out) x
  small : out.length + cntU m.ss (met ++ out) ≤ cntU m.ss met
def ChainPost (l : List KObj) (u bm : Nat) (met out : List Int) (e : Ending) (w' : World) : Prop := ∃ v, e = .returned v ∧ R (l.set u (single (setF bm (met ++ out))) ++ [SlK 47 1 v out.length (out.map (Value.int .u64))]) w'
theorem cntU_le (ss : List Slot) (met : List Int) : cntU ss met ≤ ss.length := by
  have := List.length_filter_le (fun i => decide (hnd ss i ∉ met)) (List.range ss.length)
  simpa [cntU] using this
set_option maxRecDepth 100000 in
set_option maxHeartbeats 1600000 in
theorem mem_chain (h : R l w) (ht : l[t]? = some (MemK m)) (hu : l[u]? = some (single (setF bm met))) (hne : t ≠ u) (hml : met.length ≤ 1000000) (x0 : Int) (hx0 : U64 x0) :
    Calls Tryz.prog 81 #[.pointer (some ⟨m.b, 0, none⟩), .int .u64 x0, .map (some bm)] w (ChainPost l u bm met (chainL m.ss met x0)) := by
  have hul := lt_of_get hu
  have htl := lt_of_get ht
  have hsl := (h.gens ht).2
  have hcl := cntU_le m.ss met
  have hR : RelC l u bm m met x0 [] x0 (.slice none 0 0) w := ⟨by rw [List.append_nil, set_same hu]; exact h.slnil _ _, hx0, by simp, by simp⟩
  replace hR := hide hR
  clear h
  go_enter Tryz.func81, Tryz.ntmps81
  go_wp2_with fail
  go_loopw [1, 7] (fun xv v wr => ∃ (x : Int) (out : List Int), xv = .int .u64 x ∧ RelC l u bm m met x0 out x v wr)
    (fun _ v _ => m.ss.length - (match v with | .slice _ n _ => n | _ => 0))
  case atStart => exact ⟨x0, [], rfl, hR.out⟩
  case round =>
    obtain ⟨x, out, rfl, C⟩ := hrel
    clear hR
    obtain ⟨⟨ga, gc, rfl⟩, _⟩ := C.r.slVal (t := (l.set u (single (setF bm (met ++ out)))).length) app_last
    have htm : (l.set u (single (setF bm (met ++ out))) ++ [SlK 47 1 (.slice ga out.length gc) out.length (out.map (Value.int .u64))])[t]? = some (MemK m) := app_get (set_other ht (Ne.symm hne))
    have hum : (l.set u (single (setF bm (met ++ out))) ++ [SlK 47 1 (.slice ga out.length gc) out.length (out.map (Value.int .u64))])[u]? = some (single (setF bm (met ++ out))) := app_get (set_get hu)
    have hlv := memR_live C.r htm x C.xok
    have hlk := C.r.setLook hum x C.xok
    obtain ⟨tv, wv, hmh⟩ := C.r.memHdr htm
    by_cases hli : 0 ≤ atA m.ss x
    · have hl1 : decide (0 ≤ atA m.ss x) = true := by simpa using hli
      rw [hl1] at hlv
      by_cases hmx : x ∈ met ++ out
      · rw [if_pos hmx] at hlk
        have hst := chainL_stop (ss := m.ss) (fun hc => hc.2 hmx)
        have his := C.is
        rw [hst, List.append_nil] at his
        have hrr := C.r
        rw [← his] at hrr
        replace hrr := hide hrr
        replace hlv := hide hlv
        replace hmx := hide hmx
        replace hli := hide hli
        have hlen : (chainL m.ss met x0).length = out.length := by rw [his]
        replace hlen := hide hlen
        clear his hst C hl1
        go_wp2_with fail
        refine hlv.out.mono ?_
        rintro e w2 ⟨rfl, rfl⟩
        go_wp2
        go_ret
        exact ⟨_, rfl, by have := hrr.out; rw [hlen.out] at this ⊢; exact this⟩
      · rw [if_neg hmx] at hlk
        have hlb : liveB m.ss x = true := by simpa [liveB] using hli
        have hcons := chainL_cons hlb hmx
        have hclt := cntU_lt hlb hmx
        have hsm := C.small
        have his := C.is
        rw [hcons] at his
        have hf : useFault m.ss x m.fault = m.fault := by rw [useFault, if_pos hli]
        have hnx := ((C.r.memOk htm).read x).1
        obtain ⟨o1, hr1, h1, n1, D1, hn1, hown, hD1⟩ := C.r.get hum
        have hkk := keyOf_int_mk Tryz.underlying47 (u64_wf C.xok)
        have hxo := C.xok
        obtain ⟨hx1, hx2⟩ := hxo
        have hol : out.length ≤ 1024 := by omega
        replace hlv := hide hlv
        replace hmx := hide hmx
        replace hli := hide hli
        replace his := hide his
        replace hn1 := hide hn1
        replace hD1 := hide hD1
        have hCr := hide C.r
        clear hr1 h1 C hl1 hcons hlb
        go_wp2_with fail
        refine hlv.out.mono ?_
        rintro e w2 ⟨rfl, rfl⟩
        go_wp2_with (at_mapUpdate; refine wpList_mapUpdate_own _ rfl _ _ _ 155 rfl 47 3 handle_keyed Tryz.underlying155 _ bm n1 D1 rfl hown (by have := hn1.out; simp at this; simp only [maxLen]; omega) _ _ _ rfl rfl hkk _ [] (plainElem_int Tryz.underlying3 (i64_wf (by decide) (by decide))) ?_)
        intro w3 hown3 hg3
        have h3 := hCr.out.setGrown hum hown3 (met' := met ++ out ++ [x]) (by have := hn1.out; simp at this ⊢; omega) (hD1.out.put x ⟨hx1, hx2⟩) hg3
        rw [setL _ _ (by simpa using hul), List.set_set] at h3
        obtain ⟨o, hr, hs⟩ := h3.get (t := (l.set u (single (setF bm (met ++ out ++ [x])))).length) app_last
        replace hr := hide hr
        clear hCr hown hown3 hg3 h3 hn1 hD1 hlv hlk
        go_wp2_with (at_builtin; refine push_handle rfl (.tmp 26) (.tmp 28) rfl _ _ _ rfl (hs.alloc _) w3.heap.size 1 _ rfl (blk_new _ _) rfl (by simp; rfl) (by omega) ?_)
        intro v' w7 o1 hs1 he1 _ _
        have hL : (l.set u (single (setF bm (met ++ out ++ [x])))).length = l.length := by simp
        have h7 := hr.out.step (t := (l.set u (single (setF bm (met ++ out ++ [x])))).length) (q := SlK 47 1 v' _ _) (((Ext.refl o w3 _).alloc _).trans he1) (fun y hy => by rw [hL]; omega) (by rw [hL]; exact hs1)
        rw [List.set_append_right _ _ (Nat.le_refl _), Nat.sub_self, List.set_cons_zero] at h7
        have h8 : R (l.set u (single (setF bm (met ++ (out ++ [x])))) ++ [SlK 47 1 v' (out ++ [x]).length ((out ++ [x]).map (Value.int .u64))]) w7 := by
          rw [← List.append_assoc]
          simpa using h7
        obtain ⟨⟨ga2, gc2, rfl⟩, _⟩ := h8.slVal (t := (l.set u (single (setF bm (met ++ (out ++ [x]))))).length) app_last
        have htm8 : (l.set u (single (setF bm (met ++ (out ++ [x])))) ++ [SlK 47 1 (.slice ga2 (out ++ [x]).length gc2) (out ++ [x]).length ((out ++ [x]).map (Value.int .u64))])[t]? = some (MemK m) := app_get (set_other ht (Ne.symm hne))
        obtain ⟨tv8, wv8, hmh8⟩ := h8.memHdr htm8
        have hrd := memR_read h8 htm8 x ⟨hx1, hx2⟩
        rw [hf, set_same htm8, ndV] at hrd
        obtain ⟨N, hN⟩ : ∃ N, readNd m.ss x = N := ⟨_, rfl⟩
        rw [hN] at hrd his hnx
        replace hrd := hide hrd
        clear hr hs he1 hs1 h7 h8 hmh
        go_wp2_with fail
        refine hrd.out.mono ?_
        rintro e w9 ⟨rfl, h9⟩
        have h10 := h9.alloc (.cells #[.string N.key, .string N.val, .int .u32 N.sum, .int .u64 N.next] 103)
        have hC : RelC l u bm m met x0 (out ++ [x]) N.next (.slice ga2 (out ++ [x]).length gc2) _ := ⟨h10, hnx, by have := his.out; rw [this]; simp, by have h1 := hclt; rw [List.append_assoc] at h1; rw [List.length_append]; simp only [List.length_singleton]; omega⟩
        replace hC := hide hC
        clear hrd h9 h10 hmh8
        go_wp2_with fail
        exact ⟨⟨N.next, out ++ [x], rfl, by have := hC.out; rwa [List.length_append, List.length_singleton] at this⟩, by dsimp only; omega⟩
    · have hl1 : decide (0 ≤ atA m.ss x) = false := by simpa using hli
      rw [hl1] at hlv
      have hst := chainL_stop (ss := m.ss) (met := met ++ out) (x := x) (fun hc => hli (by simpa [liveB] using hc.1))
      have his := C.is
      rw [hst, List.append_nil] at his
      have hrr := C.r
      rw [← his] at hrr
      replace hrr := hide hrr
      replace hlv := hide hlv
      replace hli := hide hli
      have hlen : (chainL m.ss met x0).length = out.length := by rw [his]
      replace hlen := hide hlen
      clear his hst C hl1 hlk
      go_wp2_with fail
      refine hlv.out.mono ?_
      rintro e w2 ⟨rfl, rfl⟩
      go_wp2
      go_ret
      exact ⟨_, rfl, by have := hrr.out; rw [hlen.out] at this ⊢; exact this⟩

def SomeH (l : List KObj) (out : List Int) (e : Ending) (w' : World) : Prop := ∃ v, e = .returned v ∧ R (l ++ [SlK 47 1 v out.length (out.map (Value.int .u64))]) w'
/-- A part is let go, ahead of the last one. -/
theorem R.dropMid {l : List KObj} {w : World} {p : KObj} {T : TypeId} {k n : Nat} {v : Value} {cs : List Value} (h : R (l ++ [p] ++ [SlK T k v n cs]) w) : R (l ++ [SlK T k v n cs]) w := by
  obtain ⟨o, hr⟩ := h
  have hl := hr (l.length + 1) (SlK T k v n cs) (by simp)
  refine ⟨joinO o l.length (l.length + 1) 1 (fun x => x), fun i q hi => ?_⟩
  have hkp : Kp (fun x => ¬ (16 * (l.length + 1) ≤ x ∧ x < 16 * (l.length + 1) + 16 * 1)) o (joinO o l.length (l.length + 1) 1 (fun x => x)) w w := ⟨rfl, rfl, rfl, Nat.le_refl _, fun _ _ hm => ⟨if_neg hm, rfl⟩⟩
  by_cases hil : i < l.length
  · rw [List.getElem?_append_left hil] at hi
    exact q.keep hkp (fun j hj => by omega) (hr i q (by rw [List.append_assoc, List.getElem?_append_left hil]; exact hi))
  · rw [List.getElem?_append_right (by omega)] at hi
    by_cases h0 : i = l.length
    · subst h0
      simp at hi
      subst hi
      refine SlAt.re hl fun k hk => ?_
      rw [joinO_at (x := 0) (by omega) (by omega)]
      omega
    · rw [List.getElem?_eq_none (by simp; omega)] at hi
      cases hi
set_option maxHeartbeats 800000 in
theorem mem_Chain (h : R l w) (ht : l[t]? = some (MemK m)) (b : Int) :
    Calls Tryz.prog 48 #[.pointer (some ⟨m.b, 0, none⟩), .int .i64 b] w (SomeH l (chainL m.ss [] (headOf m b))) := by
  have hmo := h.memOk ht
  have hh := headOf_u64 hmo b
  have hhd := hide (mem_head h ht b)
  have htl := lt_of_get ht
  clear h hmo
  go_enter Tryz.func48, Tryz.ntmps48
  go_wp2_with fail
  refine hhd.out.mono ?_
  rintro e w2 ⟨rfl, h2⟩
  have h3 := h2.setMade
  have hch := mem_chain h3 (app_get ht) (u := l.length) (bm := w2.heap.size) (met := []) app_last (by omega) (by simp) (headOf m b) hh
  have hmk := run_makeMap (P := Tryz.prog) 155 w2
  replace hch := hide hch
  clear hhd h2 h3
  go_wp2_with fail
  refine hch.out.mono ?_
  rintro e w3 ⟨v, rfl, h4⟩
  rw [List.set_append_right _ _ (Nat.le_refl _), Nat.sub_self, List.set_cons_zero] at h4
  have h5 := hide (R.dropMid h4)
  clear hch h4 hmk
  go_wp2
  go_ret
  exact ⟨v, rfl, h5.out⟩

theorem chainF_len (ss : List Slot) : ∀ (f : Nat) (met : List Int) (x : Int), (chainF ss f met x).length + cntU ss (met ++ chainF ss f met x) ≤ cntU ss met
  | 0, met, x => by simp [chainF]
  | f + 1, met, x => by
    unfold chainF
    by_cases hc : liveB ss x = true ∧ x ∉ met
    · rw [if_pos hc]
      have h1 := cntU_lt hc.1 hc.2
      have h2 := chainF_len ss f (met ++ [x]) (readNd ss x).next
      rw [List.append_assoc] at h2
      simp only [List.singleton_append] at h2
      simp only [List.length_cons]
      omega
    · rw [if_neg hc]
      simp
theorem chainL_len (ss : List Slot) (met : List Int) (x : Int) : (chainL ss met x).length + cntU ss (met ++ chainL ss met x) ≤ cntU ss met := chainF_len ss _ met x
/-- The handles of the first k chains. -/
def reachL (m : MemS) : Nat → List Int
  | 0 => []
  | k + 1 => reachL m k ++ chainL m.ss (reachL m k) (headOf m k)
theorem reachL_len (m : MemS) (k : Nat) : (reachL m k).length + cntU m.ss (reachL m k) ≤ m.ss.length := by
  induction k with
  | zero =>
    have := cntU_le m.ss []
    simpa [reachL] using this
  | succ k ih =>
    have := chainL_len m.ss (reachL m k) (headOf m k)
    rw [reachL, List.length_append]
    omega
/-- What Reach's loop keeps. -/
def RelR (l : List KObj) (bm : Nat) (out : List Int) (v : Value) (wr : World) : Prop := R (l ++ [single (setF bm out), SlK 47 1 v out.length (out.map (Value.int .u64))]) wr
set_option maxRecDepth 100000 in
set_option maxHeartbeats 1600000 in
theorem mem_Reach (h : R l w) (ht : l[t]? = some (MemK m)) :
    Calls Tryz.prog 53 #[.pointer (some ⟨m.b, 0, none⟩)] w (SomeH l (reachL m (nowOf m).1.toNat)) := by
  have hmo := h.memOk ht
  have hsl := (h.gens ht).2
  have hno := nowOf_ok hmo
  have htl := lt_of_get ht
  have h1 := h.setMade
  have hnw := mem_now h1 (app_get ht)
  rw [descV] at hnw
  have hfd : ∀ W : World, (Instr.field 83 (.agg #[.int .i64 (nowOf m).1, .int .i64 (nowOf m).2]) 0).run Tryz.prog W = .ok (.int .i64 (nowOf m).1) W := fun _ => by kernel_rfl
  obtain ⟨N, hN⟩ := Int.eq_ofNat_of_zero_le hno.1
  rw [hN] at hnw hfd ⊢
  rw [Int.toNat_natCast]
  have hmk := run_makeMap (P := Tryz.prog) 155 w
  have hN6 : (N : Int) ≤ 65536 := by rw [← hN]; exact hno.2.1
  replace hnw := hide hnw
  replace hN := hide hN
  clear h h1 hno hmo
  go_enter Tryz.func53, Tryz.ntmps53
  go_wp2_with fail
  refine hnw.out.mono ?_
  rintro e w2 ⟨rfl, h2⟩
  have hR : RelR l w.heap.size [] (.slice none 0 0) w2 := by
    have := h2.slnil 47 1
    rw [List.append_assoc] at this
    exact this
  replace hR := hide hR
  generalize w.heap.size = bm at *
  clear h2 hnw hmk
  go_wp2_with fail
  clear hfd
  go_loopw [4, 10] (fun v i wr => ∃ k : Nat, k ≤ N ∧ i = .int .i64 k ∧ RelR l bm (reachL m k) v wr)
    (fun _ i _ => N - (intOf i).toNat)
  case atStart => exact ⟨0, Nat.zero_le _, rfl, hR.out⟩
  case round =>
    obtain ⟨k, hk, rfl, h3⟩ := hrel
    clear hR
    have hll : (l ++ [single (setF bm (reachL m k))]).length = l.length + 1 := by simp
    obtain ⟨⟨ga, gc, rfl⟩, _⟩ := R.slVal h3 (t := l.length + 1) (getP (i := 1) rfl)
    by_cases hlt : k < N
    · have hlen := reachL_len m k
      have hcl := chainL_len m.ss (reachL m k) (headOf m k)
      have hh := headOf_u64 (R.memOk h3 (app_get ht)) k
      have hhd := hide (mem_head h3 (app_get ht) k)
      have hki : (k : Int) < N := by omega
      obtain ⟨C, hC⟩ : ∃ C, chainL m.ss (reachL m k) (headOf m k) = C := ⟨_, rfl⟩
      have hsucc : reachL m (k + 1) = reachL m k ++ C := by rw [reachL, hC]
      rw [hC] at hcl
      replace hsucc := hide hsucc
      replace hC := hide hC
      generalize reachL m k = out at *
      clear h3
      go_wp2_with fail
      refine hhd.out.mono ?_
      rintro e w4 ⟨rfl, h4⟩
      have hch := mem_chain h4 (app_get ht) (u := l.length) (bm := bm) (met := out) (getP (i := 0) rfl) (by omega) (by omega) (headOf m k) hh
      rw [hC.out] at hch
      replace hch := hide hch
      clear hhd h4
      go_wp2_with fail
      refine hch.out.mono ?_
      rintro e w5 ⟨v5, rfl, h5⟩
      have h6 : R (l ++ [single (setF bm (out ++ C)), SlK 47 1 (.slice ga out.length gc) out.length (out.map (Value.int .u64)), SlK 47 1 v5 C.length (C.map (Value.int .u64))]) w5 := by
        rw [List.set_append_right _ _ (Nat.le_refl _), Nat.sub_self, List.set_cons_zero, List.append_assoc] at h5
        exact h5
      obtain ⟨⟨ga5, gc5, rfl⟩, _⟩ := R.slVal h6 (t := l.length + 2) (getP (i := 2) rfl)
      obtain ⟨o, hr⟩ := h6
      have hs1 : SlAt o w5 (16 * (l.length + 1)) 47 1 (.slice ga out.length gc) out.length (out.map (Value.int .u64)) := hr (l.length + 1) _ (getP (i := 1) rfl)
      have hs2 : SlAt o w5 (16 * (l.length + 2)) 47 1 (.slice ga5 C.length gc5) C.length (C.map (Value.int .u64)) := hr (l.length + 2) _ (getP (i := 2) rfl)
      replace hr := hide hr
      clear hch h5
      go_wp2_with (at_builtin; refine src_handle rfl (.tmp 13) (.tmp 19) rfl _ _ _ rfl hs1 _ _ _ rfl hs2 (by simp [Value.oneCell']) (by omega) ?_)
      intro v' w7 o1 hs3 he1 _ _
      have h7 := hr.out.step (t := l.length + 1) (q := SlK 47 1 v' (out ++ C).length ((out ++ C).map (Value.int .u64))) he1 (fun y hy => by omega) (by
        rw [List.length_append, List.map_append]; exact hs3)
      have h8 : RelR l bm (out ++ C) v' w7 := by
        rw [List.set_append_right _ _ (by omega), Nat.add_sub_cancel_left] at h7
        have : R (l ++ [single (setF bm (out ++ C)), SlK 47 1 v' (out ++ C).length ((out ++ C).map (Value.int .u64))] ++ [SlK 47 1 (.slice ga5 C.length gc5) C.length (C.map (Value.int .u64))]) w7 := by
          rw [List.append_assoc]; exact h7
        exact this.left
      obtain ⟨⟨ga7, gc7, rfl⟩, _⟩ := R.slVal h8 (t := l.length + 1) (getP (i := 1) rfl)
      replace h8 := hide h8
      clear hr hs1 hs2 hs3 he1 h7
      go_wp2_with fail
      exact ⟨⟨k + 1, by omega, by go_num, by rw [hsucc.out]; exact h8.out⟩, by simp [intOf]; omega⟩
    · obtain rfl : k = N := by omega
      have h5 : R (l ++ [SlK 47 1 (.slice ga (reachL m k).length gc) (reachL m k).length ((reachL m k).map (Value.int .u64))]) wr := R.dropMid (p := single (setF bm (reachL m k))) (by rw [List.append_assoc]; exact h3)
      replace h5 := hide h5
      clear h3
      go_wp2
      go_ret
      exact ⟨_, rfl, h5.out⟩
end
end Go.Proofs.YtcgfknpobifecaaGreat
