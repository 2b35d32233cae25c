/- Package mem: head, New. Condition: such an object is there. -/
import Derived.Test.YtcoaemjoanbemaaMp
namespace Go.Proofs.Ytcoaemjoanbemaa
open Go.RowKit

section
variable {l : List KObj} {w : World} {t : Nat} {m : MemS}
theorem nowOf_in (hn : nowOf m ≠ (0, 0)) : nowOf m ∈ m.tables := by
  unfold nowOf at *
  by_cases hi : (m.cells.getD 1 0).toNat < m.tables.length
  · rw [List.getD_eq_getElem?_getD, List.getElem?_eq_getElem hi]; exact List.getElem_mem hi
  · rw [List.getD_eq_getElem?_getD, List.getElem?_eq_none (Nat.le_of_not_lt hi)] at hn
    exact absurd rfl hn
theorem nowOf_ok (h : MemOk m) : 0 ≤ (nowOf m).1 ∧ (nowOf m).1 ≤ 65536 ∧ 0 ≤ (nowOf m).2 ∧ (nowOf m).2 + (nowOf m).1 ≤ m.cells.length := by
  by_cases hn : nowOf m = (0, 0)
  · rw [hn]; simp
  · have := h.tab _ (nowOf_in hn); omega
/-- The first handle of a bucket. -/
def headOf (m : MemS) (b : Int) : Int := if 0 ≤ b ∧ b < (nowOf m).1 then m.cells.getD ((nowOf m).2 + b).toNat 0 else 0
theorem headOf_u64 (h : MemOk m) (b : Int) : U64 (headOf m b) := by
  unfold headOf
  split
  · exact h.cell _
  · exact ⟨by decide, by decide⟩
set_option maxHeartbeats 400000 in
theorem mem_head (h : R l w) (ht : l[t]? = some (MemK m)) (b : Int) :
    Calls Try.prog 65 #[.pointer (some ⟨m.b, 0, none⟩), .int .i64 b] w (Does l (.int .u64 (headOf m b))) := by
  have hok := nowOf_ok (h.memOk ht)
  have hlen := (h.memOk ht).cellsLen
  have hnow := hide (mem_now h ht)
  unfold headOf
  generalize hd : nowOf m = d at *
  obtain ⟨n, base⟩ := d
  unfold descV at hnow
  dsimp only at *
  obtain ⟨hn0, hn1, hb0, hb1⟩ := hok
  by_cases hc : 0 ≤ b ∧ b < n
  · rw [if_pos hc]
    obtain ⟨hc0, hc1⟩ := hc
    have hld : Hid (∀ w', R l w' → _) := hide fun w' h => memR_load (w := w') h ht (base + b) (by omega) (by omega)
    have hgl : Hid (∀ w', R l w' → ∃ tv wv, _) := hide fun w' h => R.memHdr (w := w') h ht
    clear hd h
    generalize m.cells.getD (base + b).toNat 0 = v at *
    go_enter Try.func65, Try.ntmps65
    go_wp2_with fail
    refine hnow.out.mono ?_
    rintro e w1 ⟨rfl, h1⟩
    have h2 := h1.alloc (.cells #[.int .i64 n, .int .i64 base] 67)
    obtain ⟨tv, wv, hm⟩ := hgl.out _ h1
    have hlt := lt_of_blk hm
    have hl2 := hide fun k => hld.out _ (h2.drewN k)
    replace h2 := hide h2
    clear h1 hnow hld hgl
    go_wp2_with fail
    go_quiet (exact quiet_left (hl2.out _))
    go_wp2
    go_ret
    exact ⟨rfl, h2.out.drewN _⟩
  · rw [if_neg hc]
    clear hd h
    by_cases hc0 : 0 ≤ b
    · have hc1 : n ≤ b := by omega
      clear hc
      go_enter Try.func65, Try.ntmps65
      go_wp2_with fail
      refine hnow.out.mono ?_
      rintro e w1 ⟨rfl, h1⟩
      have h2 := hide (h1.alloc (.cells #[.int .i64 n, .int .i64 base] 67))
      go_wp2
      go_ret
      exact ⟨rfl, h2.out⟩
    · clear hc
      go_enter Try.func65, Try.ntmps65
      go_wp2_with fail
      refine hnow.out.mono ?_
      rintro e w1 ⟨rfl, h1⟩
      have h2 := hide (h1.alloc (.cells #[.int .i64 n, .int .i64 base] 67))
      go_wp2
      go_ret
      exact ⟨rfl, h2.out⟩

/-- A new memory. -/
def memNew (b cb lb ab room workers : Nat) : MemS where
  b := b
  cb := cb
  lb := lb
  ab := ab
  cells := [1] ++ List.replicate (workers + 2) 0
  locks := List.replicate 6 (-1)
  ss := List.replicate room slot0
  fault := false
  gen := 0
  workers := workers
  tables := [(1, (workers : Int) + 2)]
  waiting := []
theorem memNew_is (b cb lb ab room workers : Nat) : tableM { b := b, cb := cb, lb := lb, ab := ab, cells := (List.replicate (2 + (workers : Int)).toNat 0).set (0 : Int).toNat 1, locks := List.replicate (6 : Int).toNat (-1), ss := List.replicate room slot0, fault := false, gen := 0, workers := workers, tables := [], waiting := [] } 1 = memNew b cb lb ab room workers := by
  have h1 : (2 + (workers : Int)).toNat = workers + 1 + 1 := by omega
  have h2 : (List.replicate (workers + 1 + 1) (0 : Int)).set (0 : Int).toNat 1 = 1 :: List.replicate (workers + 1) 0 := rfl
  have h3 : List.replicate (workers + 1) (0 : Int) ++ [0] = List.replicate (workers + 2) 0 := by rw [List.replicate_succ' (n := workers + 1)]
  simp only [tableM, memNew, h1, h2]
  rw [show List.replicate (1 : Int).toNat (0 : Int) = [0] from rfl, List.cons_append, h3]
  simp
  omega
def MemMade (l : List KObj) (room workers : Nat) (e : Ending) (w' : World) : Prop :=
  ∃ b cb lb ab, e = .returned (.tuple #[.pointer (some ⟨b, 0, none⟩), .int .i64 0]) ∧ R (l ++ [MemK (memNew b cb lb ab room workers)]) w'
theorem pow_1 : powB 1 = true := by decide +kernel
set_option maxHeartbeats 800000 in
theorem mem_new (h : R l w) (room workers : Nat) (h0 : 1 ≤ room) (h1 : room ≤ 1024) (h2 : 1 ≤ workers) (h3 : workers ≤ 8) :
    Calls Try.prog 15 #[.int .i64 room, .int .i64 workers] w (MemMade l room workers) := by
  obtain ⟨o, hr⟩ := h
  have ha := hide (arena_make o (16 * l.length + 2) (16 * l.length + 3) room (by omega) h0 h1 w)
  go_enter Try.func15, Try.ntmps15
  go_wp2_with fail
  refine ha.out.mono ?_
  rintro e w1 ⟨o1, ab, rfl, A1, e1⟩
  have hc := hide (cells_new_ok o1 (16 * l.length) (2 + (workers : Int)) (by omega) (by omega) w1)
  clear ha
  go_wp2_with fail
  refine hc.out.mono ?_
  rintro e w2 ⟨o2, cb, rfl, C2, e2⟩
  have hl := hide (locks_new_ok o2 (16 * l.length + 1) 6 (by omega) (by omega) w2)
  clear hc
  go_wp2_with fail
  refine hl.out.mono ?_
  rintro e w3 ⟨o3, lb, rfl, L3, e3⟩
  have A3 := (A1.ext e2 id id).ext e3 (by omega) (by omega)
  have C3 := C2.ext e3 (by omega)
  have E3 := ((e1.mono (S2 := fun x => 16 * l.length ≤ x) (fun x hx => by omega)).trans e2.none).trans (e3.mono (fun x hx => by omega))
  have e4 : Ext o3 (upd o3 w3.heap.size (16 * l.length + 4)) w3 (w3.alloc (.cells #[.pointer (some ⟨cb, 0, none⟩), .pointer (some ⟨lb, 0, none⟩), .pointer (some ⟨ab, 0, none⟩), .int .i64 workers, .slice none 0 0, .slice none 0 0] 49)) (fun _ => False) := ((Ext.refl o3 w3 _).retag _).alloc _
  have hnew : R (l ++ [MemK { b := w3.heap.size, cb := cb, lb := lb, ab := ab, cells := List.replicate (2 + (workers : Int)).toNat 0, locks := List.replicate (6 : Int).toNat (-1), ss := List.replicate room slot0, fault := false, gen := 0, workers := workers, tables := [], waiting := [] }]) (w3.alloc (.cells #[.pointer (some ⟨cb, 0, none⟩), .pointer (some ⟨lb, 0, none⟩), .pointer (some ⟨ab, 0, none⟩), .int .i64 workers, .slice none 0 0, .slice none 0 0] 49)) := by
    refine hr.add (E3.trans e4.none) (fun x hx => hx) ⟨?_, C3.ext e4 id, L3.ext e4 id, A3.ext e4 id id, _, _, ⟨blk_new _ _, upd_new (Nat.le_refl _)⟩, SlAt.nil _ _ _ _ _, SlAt.nil _ _ _ _ _⟩
    refine ⟨fun x hx => ?_, ?_, ?_, rfl, fun x hx => ?_, ⟨h2, h3⟩, fun x hx => absurd hx List.not_mem_nil, ?_, fun x hx => absurd hx List.not_mem_nil, fun s hs => ?_⟩
    · rw [List.eq_of_mem_replicate hx]; exact ⟨by decide, by decide⟩
    · simp; omega
    · simp; omega
    · rw [List.eq_of_mem_replicate hx]; exact ⟨by decide, by decide⟩
    · simp; omega
    · rw [List.eq_of_mem_replicate hs]; exact nd0_ok
  have hst := hide (memR_store hnew app_last 0 1 (by decide) (by simp; omega) ⟨by decide, by decide⟩)
  clear hl hnew e1 e2 e3 e4 E3 A1 A3 C2 C3 L3 hr
  go_wp2_with fail
  refine hst.out.mono ?_
  rintro e w5 ⟨rfl, R5⟩
  simp only [List.set_append_right _ _ (Nat.le_refl _), Nat.sub_self, List.set_cons_zero] at R5
  have htb := hide (mem_table R5 app_last 1 pow_1 (by simp; omega))
  clear hst R5
  dsimp only at htb
  go_wp2_with fail
  refine htb.out.mono ?_
  rintro e w6 ⟨rfl, R6⟩
  simp only [List.set_append_right _ _ (Nat.le_refl _), Nat.sub_self, List.set_cons_zero] at R6
  replace R6 := hide R6
  go_wp2
  go_ret2
  refine ⟨_, cb, lb, ab, rfl, ?_⟩
  have := R6.out
  rw [memNew_is] at this
  exact this
end
end Go.Proofs.Ytcoaemjoanbemaa
