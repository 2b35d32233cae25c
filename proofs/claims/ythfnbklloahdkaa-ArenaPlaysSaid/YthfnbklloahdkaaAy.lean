/- quietuslaw04.ArenaPlays. -/
import Derived.Test.YthfnbklloahdkaaAx
import Derived.Test.YthfnbklloahdkaaAf
import Derived.Deep.DeepCutAuto
import Derived.Deep.CutBlock
import Derived.Deep.RegionHeld3
namespace Go.Proofs.Ythfnbklloahdkaa
open Go.RowKit

theorem info_handle : (Try.prog.info? 74).map (fun i => (i.zero, i.size, i.bytes)) = some (some (.int .u64 0), 1, 8) := by kernel_rfl
/-- append(xs, x), elements of type handle. -/
theorem push_handle {w : World} {o : Nat → Nat} {tg : Nat} {ops : Array Oper} {rest : List Oper} {op : Oper} {a : Act} {Q : Exit → Act → World → Prop} (hgd : op.guard = none) (s x : Operand)
    (ho : op.op = .call { callee := .builtin .append, args := #[s, x], argTypes := #[72, 72] })
    (v : Value) (n : Nat) (xs : List Value) (hs : a.eval s = v) (hown : SlAt o w tg 74 1 v n xs) (g c : Nat) (news : Array Value) (hx : a.eval x = .slice (some ⟨g, 0, none⟩) 1 c)
    (hg : blk w g = some (.cells news 74 (0, 0))) (hl : news.size = 1) (h1 : ∀ u ∈ news.toList, u.oneCell' = true) (hb : n + 1 ≤ 1073741824)
    (h : ∀ v' w' o', SlAt o' w' tg 74 1 v' (n + 1) (xs ++ news.toList) → Ext o o' w w' (fun x => x = tg) → w.grownBy w' v.ownBlock → v' ≠ .slice none 0 0 → wpList Try.prog ops Q rest (a.put op.dst v') w') :
    wpList Try.prog ops Q (op :: rest) a w := by
  obtain ⟨i0, hi, hz0, hz1, hz2⟩ := info_parts info_handle
  exact wpList_push hgd s x 72 ho 74 i0 (.int .u64 0) 1 8 Try.underlying72 hi hz0 hz1 hz2 rfl (by decide) v n xs hs hown g c news hx hg hl h1 (by simp only [maxLen]; omega) (by omega) h
/-- append(xs, ys...), elements of type handle. -/
theorem src_handle {w : World} {o : Nat → Nat} {tg tg2 : Nat} {ops : Array Oper} {rest : List Oper} {op : Oper} {a : Act} {Q : Exit → Act → World → Prop} (hgd : op.guard = none) (s x : Operand)
    (ho : op.op = .call { callee := .builtin .append, args := #[s, x], argTypes := #[72, 72] })
    (v : Value) (n : Nat) (xs : List Value) (hs : a.eval s = v) (hown : SlAt o w tg 74 1 v n xs) (v2 : Value) (m : Nat) (news : List Value) (hx : a.eval x = v2) (hsrc : SlAt o w tg2 74 1 v2 m news)
    (h1 : ∀ u ∈ news, u.oneCell' = true) (hb : n + m ≤ 1073741824)
    (h : ∀ v' w' o', SlAt o' w' tg 74 1 v' (n + m) (xs ++ news) → Ext o o' w w' (fun x => x = tg) → w.grownBy w' v.ownBlock → (v' = .slice none 0 0 ↔ v = .slice none 0 0 ∧ m = 0) → wpList Try.prog ops Q rest (a.put op.dst v') w') :
    wpList Try.prog ops Q (op :: rest) a w := by
  obtain ⟨i0, hi, hz0, hz1, hz2⟩ := info_parts info_handle
  exact wpList_append_src hgd s x 72 ho 74 i0 (.int .u64 0) 1 8 Try.underlying72 hi hz0 hz1 hz2 rfl (by decide) v n xs hs hown v2 m news hx hsrc h1 (by simp only [maxLen]; omega) (by omega) h


structure Act04 where
  kind : Int
  raw : Bool
  kk : Int
  h : Int
  n : Nd
def act04 (x : Act04) : List Value := [.int .u8 x.kind, .bool x.raw, .int .u8 x.kk, .int .u64 x.h, .string x.n.key, .string x.n.val, .int .u32 x.n.sum, .int .u64 x.n.next]
def okAct04 (x : Act04) : Prop := (0 ≤ x.kind ∧ x.kind ≤ 255) ∧ (0 ≤ x.kk ∧ x.kk ≤ 255) ∧ (0 ≤ x.h ∧ x.h ≤ 18446744073709551615)
def act0 : Act04 := ⟨0, false, 0, 0, nd0⟩

structure Mem04 (room b m c : Nat) (ss : List Slot) (fault : Bool) (hs : List Int) (v : Value) (w wr : World) (o : Nat → Nat) : Prop where
  ar : ArenaOk o wr 1 2 b ss fault c
  len : ss.length = room
  rf : RefOk o wr 3 m ss fault
  hd : SlAt o wr 4 74 1 v hs.length (hs.map (Value.int .u64))
  hok : ∀ x ∈ hs, 0 ≤ x ∧ x ≤ 18446744073709551615
  ext : Ext (fun _ => 0) o w wr (fun x => x ≠ 0)

set_option maxRecDepth 100000 in
set_option maxHeartbeats 20000000 in
theorem law04_play (room : Nat) (v : Value) (acts : List Act04) (w : World) (hv : FrAt w w.heap.size 8 v (acts.map act04)) (hin : ∀ x ∈ acts, okAct04 x) (h1 : 1 ≤ room) (h2 : room ≤ 1024) (hl : acts.length ≤ 120) :
    Calls Try.prog 9 #[.int .i64 room, v] w fun e w' => e = .returned (.bool true) ∧ Below w.heap.size w w' := by
  obtain ⟨a, cap, rfl, hlen, _⟩ := id hv
  rw [List.length_map] at *
  replace hv := hide hv
  go_enter Try.func9, Try.ntmps9
  go_wp2_with fail
  refine (arena_make (fun _ => 0) 1 2 room (by decide) h1 h2 w).mono ?_
  rintro e w1 ⟨o1, b, rfl, A1, e1⟩
  go_wp2_with fail
  refine (ref04_new o1 3 room h2 w1).mono ?_
  rintro e w2 ⟨o2, m, rfl, R2, e2⟩
  have hM : Mem04 room b m 0 (List.replicate room slot0) false [] (.slice none 0 0) w w2 o2 :=
    ⟨A1.ext e2 id id, List.length_replicate, R2, SlAt.nil _ _ _ _ _, fun x h => absurd h List.not_mem_nil, (e1.mono (fun x h => by omega)).trans (e2.mono (fun x h => h.elim))⟩
  clear A1 R2 e1 e2
  go_wp2_with fail
  go_loopw [8, 57] (fun v i wr => ∃ (k c : Nat) (o : Nat → Nat) (ss : List Slot) (fault : Bool) (hs : List Int), k ≤ acts.length ∧ c ≤ k ∧ hs.length ≤ k ∧ i = .int .i64 k ∧ Mem04 room b m c ss fault hs v w wr o)
    (fun _ i _ => acts.length - (intOf i).toNat)
  case atStart => exact ⟨0, 0, _, _, _, _, Nat.zero_le _, Nat.le_refl _, Nat.le_refl _, rfl, hM⟩
  case round =>
    obtain ⟨k, c, o2, ss, fault, hs, hk, hck, hhk, rfl, M⟩ := hrel
    clear hM
    by_cases hlt : k < acts.length
    · have hbel : Below w.heap.size w wr := M.ext.done (by decide)
      obtain ⟨_, _, hv2, _, hr⟩ := hv.out.below hbel
      obtain ⟨ab, aoff, ha, hab, hcell⟩ := hr k (by simpa using hlt)
      simp at hv2
      obtain ⟨rfl, rfl⟩ := hv2
      subst ha
      have hget : (acts.map act04).getD k [] = act04 (acts.getD k act0) := by simp [hlt]
      rw [hget] at hcell
      have hmem : acts.getD k act0 ∈ acts := by simp [hlt]
      have hin' := hin _ hmem
      generalize acts.getD k act0 = x at *
      obtain ⟨kd, raw, kk, h, n⟩ := x
      obtain ⟨_, e0, c0⟩ := hcell 0 (by omega)
      obtain ⟨_, e1, c1⟩ := hcell 1 (by omega)
      obtain ⟨_, e2, c2⟩ := hcell 2 (by omega)
      obtain ⟨_, e3, c3⟩ := hcell 3 (by omega)
      obtain ⟨_, e4, c4⟩ := hcell 4 (by omega)
      obtain ⟨_, e5, c5⟩ := hcell 5 (by omega)
      obtain ⟨_, e6, c6⟩ := hcell 6 (by omega)
      obtain ⟨_, e7, c7⟩ := hcell 7 (by omega)
      simp [act04] at e0 e1 e2 e3 e4 e5 e6 e7
      subst e0 e1 e2 e3 e4 e5 e6 e7
      clear hr hcell hget hmem
      rw [Nat.add_zero] at c0
      obtain ⟨ma, mc, rfl⟩ := M.hd.value
      have hnb : ab < wr.heap.size := Nat.lt_of_lt_of_le hab hbel.size
      have St : StAt (upd o2 wr.heap.size 6) (wr.alloc (.cells #[.int .u8 kd, .bool raw, .int .u8 kk, .int .u64 h, .string n.key, .string n.val, .int .u32 n.sum, .int .u64 n.next] 86)) 6 wr.heap.size #[.int .u8 kd, .bool raw, .int .u8 kk, .int .u64 h, .string n.key, .string n.val, .int .u32 n.sum, .int .u64 n.next] 86 := ⟨blk_new _ _, upd_new (Nat.le_refl _)⟩
      have E0 : Ext o2 (upd o2 wr.heap.size 6) wr (wr.alloc (.cells #[.int .u8 kd, .bool raw, .int .u8 kk, .int .u64 h, .string n.key, .string n.val, .int .u32 n.sum, .int .u64 n.next] 86)) (fun _ => False) := ((Ext.refl o2 wr _).retag 6).alloc _
      have M0 : Mem04 room b m c ss fault hs _ w (wr.alloc (.cells #[.int .u8 kd, .bool raw, .int .u8 kk, .int .u64 h, .string n.key, .string n.val, .int .u32 n.sum, .int .u64 n.next] 86)) (upd o2 wr.heap.size 6) :=
        ⟨M.ar.ext E0 id id, M.len, M.rf.ext E0 id, M.hd.ext E0 id, M.hok, M.ext.trans E0.none⟩
      have hst := St.heap
      dsimp only [okAct04] at hin'
      obtain ⟨⟨hkd0, hkd1⟩, ⟨hkk0, hkk1⟩, hh0, hh1⟩ := hin'
      have hhs : hs.length ≤ 120 := by omega
      go_upto_region 14 with fail
      clear c0 c1 c2 c3 c4 c5 c6 c7 M E0
      generalize wr.alloc (.cells #[.int .u8 kd, .bool raw, .int .u8 kk, .int .u64 h, .string n.key, .string n.val, .int .u32 n.sum, .int .u64 n.next] 86) = wa at *
      generalize upd o2 wr.heap.size 6 = oa at *
      go_cut [70] (fun s wx => s = .bool (!raw && decide (0 < hs.length)) ∧ wx = wa)
      case first =>
        cases raw
        · by_cases h0 : 0 < hs.length
          · go_wp2_with fail
            go_meet
            case rel => exact ⟨by simp [h0], rfl⟩
          · go_wp2_with fail
            go_meet
            case rel => exact ⟨by simp [h0], rfl⟩
        · go_wp2_with fail
          go_meet
          case rel => exact ⟨rfl, rfl⟩
      case rest =>
        obtain ⟨rfl, hw⟩ := hcut
        replace hw := hw.symm
        subst hw
        generalize hsel : (!raw && decide (0 < hs.length)) = sel
        replace hsel := hide hsel
        go_upto_if 70 with fail
        go_cut [11] (fun s wx => (∃ h' : Int, s = .int .u64 h' ∧ 0 ≤ h' ∧ h' ≤ 18446744073709551615) ∧ wx = wa)
        case first =>
          cases sel
          · go_wp2_with fail
            go_meet
            case rel => exact ⟨⟨h, rfl, hh0, hh1⟩, rfl⟩
          · have h0 : 0 < hs.length := by
              have := hsel.out
              simp at this
              omega
            have hq0 : 0 ≤ kk % (hs.length : Int) := Int.emod_nonneg _ (by omega)
            have hq1 : kk % (hs.length : Int) < hs.length := Int.emod_lt_of_pos _ (by omega)
            obtain ⟨q, hqq⟩ := Int.eq_ofNat_of_zero_le hq0
            have hq : q < hs.length := by omega
            obtain ⟨g1, cap1, cur1, hv1, hg1, hog, ha1, hb1, hc1⟩ := place_at M0.hd hq
            simp at hv1
            obtain ⟨rfl, rfl⟩ := hv1
            have hmem : hs.getD q 0 ∈ hs := by simp [hq]
            obtain ⟨hx0, hx1⟩ := M0.hok _ hmem
            clear hmem
            generalize hs.getD q 0 = x at *
            have htm : kk.tmod (hs.length : Int) = (q : Int) := by rw [Int.tmod_eq_emod_of_nonneg hkk0]; exact hqq
            clear hq0 hq1
            go_wp2_with fail
            go_meet
            case rel => exact ⟨⟨x, rfl, hx0, hx1⟩, rfl⟩
        case rest =>
          obtain ⟨⟨h', rfl, hp0, hp1⟩, hw⟩ := hcut
          replace hw := hw.symm
          subst hw
          clear hsel hh0 hh1 hin hv hkk0 hkk1
          have hgen := M0.ar.gen.mono (show (c : Int) ≤ 1000000 by omega)
          have hsl := M0.ar.len
          replace hgen := hide hgen
          go_upto_block 2 with fail
          go_cut [8] (fun v' wx => ∃ c' o3 ss' fault' hs', c' ≤ k + 1 ∧ hs'.length ≤ k + 1 ∧ Mem04 room b m c' ss' fault' hs' v' w wx o3)
          case first =>
            rcases (by omega : kd = 0 ∨ kd = 1 ∨ kd = 2 ∨ kd = 3 ∨ kd = 4 ∨ 4 < kd) with rfl | rfl | rfl | rfl | rfl | hkd
            ·
              cases hfr : freeAt ss with
              | none =>
                have hno := freeAt_none hfr
                have hal := hide (arena_take_no M0.ar n hno)
                replace hno := hide hno
                clear hfr
                go_wp2_with fail
                refine hal.out.mono ?_
                rintro e w3 ⟨rfl, A3, e3⟩
                have hst3 := (St.ext e3 id).heap
                have r3 := M0.rf.ext e3 id
                have hd3 := M0.hd.ext e3 id
                have ex3 := M0.ext.trans e3.none
                have hL := hide M0.len
                have hO := hide M0.hok
                clear hst M0 e3 St
                replace A3 := hide A3
                replace r3 := hide r3
                replace hd3 := hide hd3
                replace ex3 := hide ex3
                go_wp2_with fail
                refine (law04_of n _).mono ?_
                rintro e w4 ⟨rfl, e4⟩
                have rt := hide (rtake_no (r3.out.ext (e4 oa) id) hno.out n)
                go_wp2_with fail
                refine rt.out.mono ?_
                rintro e w5 ⟨rfl, R5, e5⟩
                have M5 : Mem04 room b m c ss fault hs _ w w5 oa := ⟨(A3.out.ext (e4 _) id id).ext e5 id id, hL.out, R5, (hd3.out.ext (e4 _) id).ext e5 id, hO.out, ex3.out.trans ((e4 oa).none.trans e5.none)⟩
                replace M5 := hide M5
                clear A3 r3 hd3 ex3 e4 e5 rt R5 hal
                go_wp2_with fail
                go_meet
                case rel => exact ⟨c, oa, ss, fault, hs, by omega, by omega, M5.out⟩
              | some i =>
                obtain ⟨hil, hu, hmin⟩ := freeAt_some hfr
                have hal := hide (arena_take M0.ar (by decide) (by omega) n i hil hu hmin)
                have hgi := hgen.out i
                obtain ⟨H, hH⟩ : ∃ H, (i : Int) + 1 + 65536 * (ss.getD i slot0).gen = H := ⟨_, rfl⟩
                have hH0 : 0 ≤ H ∧ H ≤ 18446744073709551615 := by omega
                replace hH := hide hH
                replace hH0 := hide hH0
                replace hu := hide hu
                replace hmin := hide hmin
                replace hil := hide hil
                clear hfr hgi
                go_wp2_with fail
                refine hal.out.mono ?_
                rintro e w3 ⟨o3, rfl, A3, e3⟩
                rw [hH.out]
                have hst3 := (St.ext e3 (by omega)).heap
                have r3 := M0.rf.ext e3 (by omega)
                have hd3 := M0.hd.ext e3 (by omega)
                have ex3 := M0.ext.trans (e3.mono (S2 := fun x => x ≠ 0) (fun x h => by omega))
                have hL := hide M0.len
                have hO := hide M0.hok
                clear hst M0 e3 St
                replace A3 := hide A3
                replace r3 := hide r3
                replace hd3 := hide hd3
                replace ex3 := hide ex3
                go_wp2_with fail
                refine (law04_of n _).mono ?_
                rintro e w4 ⟨rfl, e4⟩
                have rt := hide (rtake (r3.out.ext (e4 o3) id) hsl hgen.out n i hil.out hu.out hmin.out)
                go_wp2_with fail
                refine rt.out.mono ?_
                rintro e w5 ⟨o5, rfl, R5, e5⟩
                rw [hH.out]
                have A5 := hide ((A3.out.ext (e4 _) id id).ext e5 (by omega) (by omega))
                have hd5 := (hd3.out.ext (e4 _) id).ext e5 (by omega)
                have ex5 := hide (ex3.out.trans ((e4 o3).none.trans (e5.mono (S2 := fun x => x ≠ 0) (fun x h => by omega))))
                replace R5 := hide R5
                have hne : (H != H) = false := by simp
                clear A3 r3 hd3 ex3 e4 e5 rt hal
                go_wp2_with (at_builtin; refine push_handle rfl (.tmp 109) (.tmp 111) rfl _ _ _ rfl (hd5.alloc _) w5.heap.size 1 _ rfl (blk_new _ _) rfl (by simp; rfl) (by omega) ?_)
                intro v' w6 o6 hs6 e6 hg6 hn6
                have e7 := ((Ext.refl o5 w5 (fun _ => False)).alloc _).none.trans e6
                have hs7 : SlAt o6 w6 4 74 1 v' (hs ++ [H]).length ((hs ++ [H]).map (Value.int .u64)) := by simpa using hs6
                have M5 : Mem04 room b m c (ss.set i (taken (ss.getD i slot0) n)) fault (hs ++ [H]) v' w w6 o6 := ⟨A5.out.ext e7 (by omega) (by omega), by rw [List.length_set]; exact hL.out, R5.out.ext e7 (by omega), hs7, fun x hx => by
                  rcases List.mem_append.1 hx with h | h
                  · exact hO.out x h
                  · simp at h; subst h; exact hH0.out, ex5.out.trans (e7.mono (fun x h => by omega))⟩
                replace M5 := hide M5
                clear A5 hd5 ex5 R5 hs6 e6 hg6 hn6 e7 hs7
                go_wp2_with fail
                go_meet
                case rel => exact ⟨c, o6, _, fault, hs ++ [H], by omega, by simp; omega, M5.out⟩
            · have hcode : useCode ss h' = 0 ∨ useCode ss h' = 3 ∨ useCode ss h' = 6 := by
                rw [useCode]
                split
                · exact .inl rfl
                · split
                  · exact .inr (.inl rfl)
                  · exact .inr (.inr rfl)
              have hrd := arena_read2 M0.ar h' hp0 hp1
              dsimp only [ndV] at hrd
              replace hrd := hide hrd
              have hL := hide M0.len
              have hO := hide M0.hok
              go_wp2_with fail
              refine hrd.out.mono ?_
              rintro e w3 ⟨o3, rfl, A3, e3⟩
              have E4 : Ext o3 (upd o3 w3.heap.size 7) w3 (w3.alloc (.cells #[.string (readNd ss h').key, .string (readNd ss h').val, .int .u32 (readNd ss h').sum, .int .u64 (readNd ss h').next] 78)) (fun _ => False) := ((Ext.refl o3 w3 _).retag 7).alloc _
              have N4 : StAt (upd o3 w3.heap.size 7) (w3.alloc (.cells #[.string (readNd ss h').key, .string (readNd ss h').val, .int .u32 (readNd ss h').sum, .int .u64 (readNd ss h').next] 78)) 7 w3.heap.size #[.string (readNd ss h').key, .string (readNd ss h').val, .int .u32 (readNd ss h').sum, .int .u64 (readNd ss h').next] 78 := ⟨blk_new _ _, upd_new (Nat.le_refl _)⟩
              have A4 := hide (A3.ext E4 id id)
              have r4 := (M0.rf.ext e3 (by omega)).ext E4 id
              have d4 := hide ((M0.hd.ext e3 (by omega)).ext E4 id)
              have x4 := hide ((M0.ext.trans (e3.mono (S2 := fun x => x ≠ 0) (fun x h => by omega))).trans E4.none)
              have hru := hide (ruse r4 hsl hgen.out h')
              clear M0 hst hrd A3 e3 St E4 r4
              replace N4 := hide N4
              by_cases hi : 0 ≤ atA ss h'
              · as_aux_lemma =>
                obtain ⟨i, hia, hil, hused, _, _⟩ := atA_lt ss h' hi
                have u1 : useCode ss h' = 0 := by rw [useCode, if_pos hi]
                have u2 : useFault ss h' fault = fault := by rw [useFault, if_pos hi]
                have u3 : readNd ss h' = (ss.getD i slot0).nd := by rw [readNd, if_pos hi, hia]; rfl
                rw [u1, u2, hia] at hru
                rw [u2] at A4
                rw [u1]
                rw [u3] at N4 hru A4 d4 x4 ⊢
                clear hcode u1 u2 u3 hused hia hi
                generalize hnn : (ss.getD i slot0).nd = nn at *
                replace hnn := hide hnn
                replace hil := hide hil
                go_wp2_with fail
                refine hru.out.mono ?_
                rintro e w5 ⟨rfl, R5, e5⟩
                obtain ⟨oa', hoa'⟩ : ∃ x, x = upd o3 w3.heap.size 7 := ⟨_, rfl⟩
                rw [← hoa'] at R5 e5 N4 A4 d4 x4
                have N5 := N4.out.ext e5 (by omega)
                have hn5 := N5.heap
                have hn5l := N5.lt
                have A5 := hide (A4.out.ext e5 (by omega) (by omega))
                have d5 := hide (d4.out.ext e5 (by omega))
                have x5 := hide (x4.out.trans (e5.mono (S2 := fun x => x ≠ 0) (fun x h => by omega)))
                obtain ⟨v1, v2, v3, R5⟩ := R5
                have hm5 := R5.hdr.heap
                have hm5l := lt_of_blk hm5
                obtain ⟨g1, d1, r1, g2, d2, r2, g3, d3, r3, rfl, rfl, rfl, b1, b2, b3, ho1, z1, z2, m1, m2, m3, q0, q1, q2, q3, q4, q5⟩ := R5.at_ hil.out
                rw [hnn.out] at q0 q1 q2 q3
                have hb1l := lt_of_blk b1
                clear b2 b3 q4 q5 hru N4 A4 d4 x4 e5 hgen
                replace R5 := hide R5
                replace N5 := hide N5
                have hil' := hil.out
                go_wp2_with fail
                have hw6 := blk_new w5 (.cells #[.string nn.key, .string nn.val, .int .u32 nn.sum, .int .u64 nn.next] 90)
                have hn6 := (blk_old w5 (.cells #[.string nn.key, .string nn.val, .int .u32 nn.sum, .int .u64 nn.next] 90) _ hn5l).trans hn5
                have E6 : Ext oa' oa' w5 (w5.alloc (.cells #[.string nn.key, .string nn.val, .int .u32 nn.sum, .int .u64 nn.next] 90)) (fun _ => False) := (Ext.refl _ w5 _).alloc _
                have A6 := hide (A5.out.ext E6 id id)
                have R6 := hide (RefOk.ext ⟨_, _, _, R5.out⟩ E6 id)
                have d6 := hide (d5.out.ext E6 id)
                have x6 := hide (x5.out.trans E6.none)
                clear A5 R5 d5 x5 E6 m1 m2 m3 q0 q1 q2 q3 b1 hb1l hm5 hm5l hn5 N5 z1 z2 hil hil'
                generalize w5.alloc (.cells #[.string nn.key, .string nn.val, .int .u32 nn.sum, .int .u64 nn.next] 90) = w6 at *
                generalize w5.heap.size = B2 at *
                generalize w3.heap.size = B1 at *
                have hof := law04_of nn
                dsimp only [ndV] at hof
                replace hof := hide hof
                go_region_held3 (fun w' => blk w' B1 = some (.cells #[.string nn.key, .string nn.val, .int .u32 nn.sum, .int .u64 nn.next] 78 (0, 0)) ∧ blk w' B2 = some (.cells #[.string nn.key, .string nn.val, .int .u32 nn.sum, .int .u64 nn.next] 90 (0, 0))) (first | exact ⟨hn6, hw6⟩ | exact ⟨k9a, k9⟩) (first | (go_at_call 49; refine (hof.out _).mono ?_; rintro e w9 ⟨rfl, e9⟩; have k9a := (e9 (fun _ => 0)).keep (b := B1) hn6 id; have k9 := (e9 (fun _ => 0)).keep (b := B2) hw6 id))
                all_goals
                  have E9 : Ext oa' oa' w6 w9 (fun _ => False) := ((Ext.refl oa' w6 _).drew).trans (e9 oa')
                  have M9 : Mem04 room b m c ss fault hs _ w w9 oa' := ⟨A6.out.ext E9 id id, hL.out, R6.out.ext E9 id, d6.out.ext E9 id, hO.out, x6.out.trans E9.none⟩
                  replace M9 := hide M9
                  clear E9 e9 A6 R6 d6 x6 hof hn6 hw6 k9 k9a hoa'
                  go_wp2_with fail
                  go_meet
                  case rel => exact ⟨c, oa', ss, fault, hs, by omega, by omega, M9.out⟩
              ·
                as_aux_lemma =>
                have hn := atA_neg ss h' hi
                have u2 : useFault ss h' fault = true := by rw [useFault, if_neg hi]
                have u3 : readNd ss h' = nd0 := by rw [readNd, if_neg hi]
                have hcode2 : useCode ss h' = 3 ∨ useCode ss h' = 6 := by
                  rw [useCode, if_neg hi]
                  by_cases hz : h' = 0
                  · exact .inl (if_pos hz)
                  · exact .inr (if_neg hz)
                rw [u2, hn] at hru
                rw [u2] at A4
                rw [u3] at N4 hru A4 d4 x4 ⊢
                clear hcode u2 u3 hn hi
                generalize useCode ss h' = code at hru hcode2 ⊢
                have hcc : (code != code) = false := by simp
                have hc0 : (code == 0) = false := by rcases hcode2 with rfl | rfl <;> rfl
                clear hcode2
                dsimp only [nd0] at N4 hru A4 d4 x4 ⊢
                go_wp2_with fail
                refine hru.out.mono ?_
                rintro e w5 ⟨rfl, R5, e5⟩
                obtain ⟨oa', hoa'⟩ : ∃ x, x = upd o3 w3.heap.size 7 := ⟨_, rfl⟩
                rw [← hoa'] at R5 e5 N4 A4 d4 x4
                have N5 := N4.out.ext e5 (by omega)
                have hn5 := N5.heap
                have hn5l := N5.lt
                have A5 := hide (A4.out.ext e5 (by omega) (by omega))
                have d5 := hide (d4.out.ext e5 (by omega))
                have x5 := hide (x4.out.trans (e5.mono (S2 := fun x => x ≠ 0) (fun x h => by omega)))
                clear hru N4 A4 d4 x4 e5 hgen
                replace R5 := hide R5
                clear N5
                go_wp2_with fail
                have hw6 := blk_new w5 (.cells #[.string ⟨#[]⟩, .string ⟨#[]⟩, .int .u32 0, .int .u64 0] 90)
                have hn6 := (blk_old w5 (.cells #[.string ⟨#[]⟩, .string ⟨#[]⟩, .int .u32 0, .int .u64 0] 90) _ hn5l).trans hn5
                have E6 : Ext oa' oa' w5 (w5.alloc (.cells #[.string ⟨#[]⟩, .string ⟨#[]⟩, .int .u32 0, .int .u64 0] 90)) (fun _ => False) := (Ext.refl _ w5 _).alloc _
                have A6 := hide (A5.out.ext E6 id id)
                have R6 := hide (R5.out.ext E6 id)
                have d6 := hide (d5.out.ext E6 id)
                have x6 := hide (x5.out.trans E6.none)
                clear A5 R5 d5 x5 E6 hn5
                generalize w5.alloc (.cells #[.string ⟨#[]⟩, .string ⟨#[]⟩, .int .u32 0, .int .u64 0] 90) = w6 at *
                generalize w5.heap.size = B2 at *
                generalize w3.heap.size = B1 at *
                have hof := law04_of nd0
                dsimp only [ndV, nd0] at hof
                replace hof := hide hof
                go_region_held3 (fun w' => blk w' B1 = some (.cells #[.string ⟨#[]⟩, .string ⟨#[]⟩, .int .u32 0, .int .u64 0] 78 (0, 0)) ∧ blk w' B2 = some (.cells #[.string ⟨#[]⟩, .string ⟨#[]⟩, .int .u32 0, .int .u64 0] 90 (0, 0))) (first | exact ⟨hn6, hw6⟩ | exact ⟨k9a, k9⟩) (first | (go_at_call 49; refine (hof.out _).mono ?_; rintro e w9 ⟨rfl, e9⟩; have k9a := (e9 (fun _ => 0)).keep (b := B1) hn6 id; have k9 := (e9 (fun _ => 0)).keep (b := B2) hw6 id))
                all_goals
                  have E9 : Ext oa' oa' w6 w9 (fun _ => False) := ((Ext.refl oa' w6 _).drew).trans (e9 oa')
                  have M9 : Mem04 room b m c ss true hs _ w w9 oa' := ⟨A6.out.ext E9 id id, hL.out, R6.out.ext E9 id, d6.out.ext E9 id, hO.out, x6.out.trans E9.none⟩
                  replace M9 := hide M9
                  clear E9 e9 A6 R6 d6 x6 hof hn6 hw6 k9 k9a hoa'
                  go_wp2_with fail
                  go_meet
                  case rel => exact ⟨c, oa', ss, true, hs, by omega, by omega, M9.out⟩
            ·
              by_cases hi : 0 ≤ atA ss h'
              · as_aux_lemma =>
                obtain ⟨i, hia, hil, hused, _, _⟩ := atA_lt ss h' hi
                have u1 : useCode ss h' = 0 := by rw [useCode, if_pos hi]
                have u2 : useFault ss h' fault = fault := by rw [useFault, if_pos hi]
                have u3 : linkS ss h' n.next = ss.set i { ss.getD i slot0 with nd := { (ss.getD i slot0).nd with next := n.next } } := by rw [linkS, if_pos hi, hia]; rfl
                have hu := hide (ruse M0.rf hsl hgen.out h')
                rw [u1, u2, hia] at hu
                have hA := M0.ar
                have hD := M0.hd
                have hX := M0.ext
                have hL := M0.len
                have hO := M0.hok
                replace hL := hide hL
                replace hO := hide hO
                clear M0 hst
                replace hi := hide hi
                replace hia := hide hia
                replace hused := hide hused
                go_wp2_with fail
                refine hu.out.mono ?_
                rintro e w3 ⟨rfl, ⟨v1, v2, v3, R3⟩, e3⟩
                have S3 := St.ext e3 (by omega)
                have A3 := hA.ext e3 (by omega) (by omega)
                have D3 := hD.ext e3 (by omega)
                have X3 := hX.trans (e3.mono (fun x h => by omega))
                have hst3 := S3.heap
                have hm3 := R3.hdr.heap
                obtain ⟨g1, d1, r1, g2, d2, r2, g3, d3, r3, rfl, rfl, rfl, b1, b2, b3, ho1, _, _, m1, m2, m3, q0, q1, q2, q3, q4, q5⟩ := R3.at_ hil
                obtain ⟨P, EP⟩ := R3.put1 (j := 3) (by decide) hil { ss.getD i slot0 with nd := { (ss.getD i slot0).nd with next := n.next } } (.int .u64 n.next) rfl rfl rfl
                rw [List.length_set] at P
                have k1 := ne_of_type hst3 b1 (by decide)
                have k2 := ne_of_type hm3 b1 (by decide)
                clear hA hD hX e3 q0 q1 q2 q4 q5 b2 b3 St hu R3
                replace A3 := hide A3
                replace D3 := hide D3
                replace X3 := hide X3
                replace P := hide P
                replace EP := hide EP
                replace S3 := hide S3
                go_wp2_with fail
                go_region
                all_goals
                  have P4 := hide (P.out.ext ((Ext.refl _ _ (fun _ => False)).drew) id)
                  have E4 := EP.out.drew
                  have S4 := S3.out.ext E4 (by omega)
                  have hst4 := S4.heap
                  have A4 := A3.out.ext E4 (by omega) (by omega)
                  have D4 := hide (D3.out.ext E4 (by omega))
                  have X4 := hide (X3.out.trans (E4.mono (fun x h => by omega)))
                  have hlink := hide (arena_link2 A4 h' n.next hp0 hp1)
                  rw [u1, u2, u3] at hlink
                  clear b1 q3 k1 k2 hst3 hm3 P EP A3 D3 X3 S3 S4 A4 E4
                  generalize World.drew _ = w4 at P4 hst4 D4 X4 hlink ⊢
                  go_wp2_with fail
                  refine hlink.out.mono ?_
                  rintro e w5 ⟨rfl, A5, e5⟩
                  have M5 : Mem04 room b m c (ss.set i { ss.getD i slot0 with nd := { (ss.getD i slot0).nd with next := n.next } }) fault hs _ w w5 oa :=
                    ⟨A5, by rw [List.length_set]; exact hL.out, ⟨_, _, _, P4.out.ext e5 (by omega)⟩, D4.out.ext e5 (by omega), hO.out, X4.out.trans (e5.mono (fun x h => by omega))⟩
                  replace M5 := hide M5
                  clear A5 e5 D4 X4 P4 hlink hst4
                  go_wp2_with fail
                  go_meet
                  case rel => exact ⟨c, oa, _, fault, hs, by omega, by omega, M5.out⟩
              · as_aux_lemma =>
                have hn := atA_neg ss h' hi
                have u2 : useFault ss h' fault = true := by rw [useFault, if_neg hi]
                have u3 : linkS ss h' n.next = ss := by rw [linkS, if_neg hi]
                have hcode : useCode ss h' = 3 ∨ useCode ss h' = 6 := by
                  rw [useCode, if_neg hi]
                  by_cases hz : h' = 0
                  · exact .inl (if_pos hz)
                  · exact .inr (if_neg hz)
                have hu := hide (ruse M0.rf hsl hgen.out h')
                rw [u2, hn] at hu
                have hA := M0.ar
                have hD := M0.hd
                have hX := M0.ext
                have hL := hide M0.len
                have hO := hide M0.hok
                clear M0 hst hn
                replace hi := hide hi
                replace u2 := hide u2
                replace u3 := hide u3
                generalize hcd : useCode ss h' = code at hu hcode
                replace hcd := hide hcd
                have hne : (code != code) = false := by simp
                have hc0 : (code == 0) = false := by rcases hcode with rfl | rfl <;> rfl
                clear hcode
                go_wp2_with fail
                refine hu.out.mono ?_
                rintro e w3 ⟨rfl, R3, e3⟩
                have S3 := St.ext e3 (by omega)
                have A3 := hA.ext e3 (by omega) (by omega)
                have D3 := hide (hD.ext e3 (by omega))
                have X3 := hide (hX.trans (e3.mono (fun x h => by omega)))
                have hst3 := S3.heap
                have hlink := hide (arena_link2 A3 h' n.next hp0 hp1)
                rw [u2.out, u3.out, hcd.out] at hlink
                replace R3 := hide R3
                clear hA hD hX e3 St hu A3 S3
                go_wp2_with fail
                refine hlink.out.mono ?_
                rintro e w5 ⟨rfl, A5, e5⟩
                have M5 : Mem04 room b m c ss true hs _ w w5 oa :=
                  ⟨A5, hL.out, R3.out.ext e5 (by omega), D3.out.ext e5 (by omega), hO.out, X3.out.trans (e5.mono (fun x h => by omega))⟩
                replace M5 := hide M5
                clear A5 e5 D3 X3 R3 hlink hst3
                go_wp2_with fail
                go_meet
                case rel => exact ⟨c, oa, ss, true, hs, by omega, by omega, M5.out⟩
            ·
              by_cases hi : 0 ≤ atA ss h'
              · as_aux_lemma =>
                obtain ⟨i, hia, hil, hused, _, _⟩ := atA_lt ss h' hi
                have hgive := hide (arena_give M0.ar (by decide) (by omega) h' hp0 hp1 i hia)
                replace hi := hide hi
                go_wp2_with fail
                refine hgive.out.mono ?_
                rintro e w3 ⟨o3, rfl, A3, e3⟩
                have r3 := M0.rf.ext e3 (by omega)
                have hd3 := M0.hd.ext e3 (by omega)
                have ex3 := M0.ext.trans (e3.mono (fun x h => by omega))
                have hrg := hide (rgive r3 hsl hgen.out h' i hia)
                replace hd3 := hide hd3
                replace A3 := hide A3
                replace ex3 := hide ex3
                go_wp2_with fail
                refine hrg.out.mono ?_
                rintro e w4 ⟨rfl, R4, e4⟩
                have M4 : Mem04 room b m (c + 1) (ss.set i (freed (ss.getD i slot0))) fault hs _ w w4 o3 :=
                  ⟨by have := A3.out.ext e4 (by omega) (by omega); exact_mod_cast this, by rw [List.length_set]; exact M0.len, R4, hd3.out.ext e4 (by omega), M0.hok, ex3.out.trans (e4.mono (fun x h => by omega))⟩
                replace M4 := hide M4
                clear R4 e4 r3 hia
                go_wp2_with fail
                go_meet
                case rel => exact ⟨c + 1, o3, _, fault, hs, by omega, by omega, M4.out⟩
              · as_aux_lemma =>
                have hgive := hide (arena_give_no M0.ar h' hp0 hp1 hi)
                replace hi := hide hi
                go_wp2_with fail
                refine hgive.out.mono ?_
                rintro e w3 ⟨rfl, A3, e3⟩
                have r3 := M0.rf.ext e3 (by omega)
                have hd3 := M0.hd.ext e3 (by omega)
                have ex3 := M0.ext.trans (e3.mono (fun x h => by omega))
                have hrg := hide (rgive_no r3 hsl hgen.out h' (by have := hi.out; omega))
                replace hd3 := hide hd3
                replace A3 := hide A3
                replace ex3 := hide ex3
                generalize useCode ss h' = code at hrg ⊢
                have hne : (code != code) = false := by simp
                go_wp2_with fail
                refine hrg.out.mono ?_
                rintro e w4 ⟨rfl, R4, e4⟩
                have M4 : Mem04 room b m c ss true hs _ w w4 oa :=
                  ⟨A3.out.ext e4 (by omega) (by omega), M0.len, R4, hd3.out.ext e4 (by omega), M0.hok, ex3.out.trans (e4.mono (fun x h => by omega))⟩
                replace M4 := hide M4
                clear R4 e4 r3
                go_wp2_with fail
                go_meet
                case rel => exact ⟨c, oa, ss, true, hs, by omega, by omega, M4.out⟩
            ·
              as_aux_lemma =>
              have hlive := hide (arena_live2 M0.ar h' hp0 hp1)
              have hrat := hide (rat M0.rf hsl hgen.out h')
              generalize atA ss h' = r at hlive hrat
              go_wp2_with fail
              refine hlive.out.mono ?_
              rintro e w3 ⟨rfl, rfl⟩
              go_wp2_with fail
              refine hrat.out.mono ?_
              rintro e w3 ⟨rfl, rfl⟩
              have hne : (decide (0 ≤ r) != decide (0 ≤ r)) = false := by simp
              go_wp2_with fail
              go_meet
              case rel => exact ⟨c, oa, ss, fault, hs, by omega, by omega, M0⟩
            ·
              as_aux_lemma =>
              go_wp2_with fail
              go_meet
              case rel => exact ⟨c, oa, ss, fault, hs, by omega, by omega, M0⟩
          case rest =>
            clear M0 St hst hgen hsl
            obtain ⟨c', o3, ss', fault', hs', hc', hh', M'⟩ := hcut
            obtain ⟨ma', mc', rfl⟩ := M'.hd.value
            obtain ⟨v1, v2, v3, R⟩ := M'.rf
            have hm := R.hdr.heap
            have f1 := hide fun n => arena_fault2 (M'.ar.ext ((Ext.refl o3 wc (fun _ => False)).drewN n) id id)
            have f2 := hide fun n => arena_spare2 (M'.ar.ext ((Ext.refl o3 wc (fun _ => False)).drewN n) id id)
            have f3 := hide fun n => arena_room2 (M'.ar.ext ((Ext.refl o3 wc (fun _ => False)).drewN n) id id)
            have f4 := hide fun n => ref04_spare (R.ext ((Ext.refl o3 wc (fun _ => False)).drewN n) id)
            rw [M'.len] at f3
            generalize (freeTo ss' ss'.length).length = q at f2 f4
            replace M' := hide M'
            clear R
            go_wp2_with fail
            go_quiet (first | exact quiet_left (f1.out _) | exact quiet_left (f2.out _) | exact quiet_left (f3.out _) | exact quiet_left (f4.out _))
            have M2 : Mem04 room b m c' ss' fault' hs' (.slice ma' hs'.length mc') w (wc.drewN nq) o3 :=
              ⟨M'.out.ar.ext ((Ext.refl o3 wc (fun _ => False)).drewN nq) id id, M'.out.len, M'.out.rf.ext ((Ext.refl o3 wc (fun _ => False)).drewN nq) id, M'.out.hd.drewN nq, M'.out.hok, M'.out.ext.drewN nq⟩
            go_wp2
            go_roundw
            case rel => exact ⟨k + 1, c', o3, ss', fault', hs', by omega, hc', hh', by go_num, M2⟩
            case measure => simp [intOf]; omega
    · have : k = acts.length := by omega
      subst this
      obtain ⟨ma, mc, rfl⟩ := M.hd.value
      go_wp2_with fail
      refine (law04_awake _).mono ?_
      rintro e w7 ⟨rfl, hb7⟩
      go_wp2
      go_ret
      exact ⟨rfl, (M.ext.done (by decide)).trans (hb7.mono M.ext.size)⟩
end Go.Proofs.Ythfnbklloahdkaa
