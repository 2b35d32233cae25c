/- Package mem: Retire, Take, Table, head, New, over a memory as one object. Condition: such an object is there. -/
import Derived.Test.YtcoaemjoanbemaaMn
import Derived.Test.YtcoaemjoanbemaaXa
namespace Go.Proofs.Ytcoaemjoanbemaa
open Go.RowKit

section
variable {l : List KObj} {w : World} {t : Nat} {m : MemS}
/-- What turns the header, the tables, those that wait. -/
theorem Rp.memTail {o o' : Nat → Nat} {w' : World} {S : Nat → Prop} (h : Rp l o w) (ht : l[t]? = some (MemK m)) {ts : List (Int × Int)} {ws : List Int} (hok : MemOk { m with tables := ts, waiting := ws })
    (e : Ext o o' w w' S) (hS : ∀ x, S x → 16 * t + 4 ≤ x ∧ x ≤ 16 * t + 6) {tv wv : Value}
    (hb : StAt o' w' (16 * t + 4) m.b #[.pointer (some ⟨m.cb, 0, none⟩), .pointer (some ⟨m.lb, 0, none⟩), .pointer (some ⟨m.ab, 0, none⟩), .int .i64 m.workers, tv, wv] 49)
    (h1 : SlAt o' w' (16 * t + 5) 67 2 tv ts.length (ts.flatMap descL)) (h2 : SlAt o' w' (16 * t + 6) 31 1 wv ws.length (ws.map (Value.int .u64))) :
    R (l.set t (MemK { m with tables := ts, waiting := ws })) w' := by
  obtain ⟨_, g1, g2, g3, _⟩ := h.get ht
  exact h.step e (fun x hx => by have := hS x hx; omega) ⟨hok, g1.ext e (fun x => by have := hS _ x; omega), g2.ext e (fun x => by have := hS _ x; omega), g3.ext e (fun x => by have := hS _ x; omega) (fun x => by have := hS _ x; omega), tv, wv, hb, h1, h2⟩

set_option maxHeartbeats 400000 in
theorem mem_retire (h : R l w) (ht : l[t]? = some (MemK m)) (x : Int) (hx : U64 x) (hl : m.waiting.length ≤ 1000000) :
    Calls Try.prog 25 #[.pointer (some ⟨m.b, 0, none⟩), .int .u64 x] w (Does (l.set t (MemK { m with waiting := m.waiting ++ [x] })) (.tuple #[])) := by
  obtain ⟨o, hr, hok, _, _, _, tv, wv, hb, ts, ws⟩ := h.get ht
  obtain ⟨a, c, rfl⟩ := ws.value
  have hb' := hb.heap
  have hlt := hb.lt
  replace hr := hide hr
  replace hok := hide hok
  replace hb := hide hb
  replace ts := hide ts
  clear h
  go_enter Try.func25, Try.ntmps25
  go_wp2_with (at_builtin; refine push_handle rfl (.tmp 8) (.tmp 10) rfl _ _ _ rfl (ws.alloc _) w.heap.size 1 _ rfl (blk_new _ _) rfl (by simp; rfl) (by omega) ?_)
  intro v' w1 o1 hs1 he hg1 hn1
  have hb1 := (hb.out.alloc _).ext he (by omega)
  have ts1 := hide ((ts.out.alloc _).ext he (by omega))
  obtain ⟨a', c', rfl⟩ := hs1.value
  have hbh := hb1.heap
  have he1 := hide ((((Ext.refl o w (fun _ => False)).alloc (.cells #[.int .u64 x] 31)).none.trans he).mono (S2 := fun y => y = 16 * t + 4 ∨ y = 16 * t + 6) (fun y hy => .inr hy))
  replace hb1 := hide hb1
  replace hs1 := hide hs1
  clear hb' hg1 hn1 ws he
  go_wp2
  go_end0
  refine ⟨rfl, hr.out.memTail ht (S := fun y => y = 16 * t + 4 ∨ y = 16 * t + 6) ⟨hok.out.cells, hok.out.cellsLen, hok.out.cells3, hok.out.locks, hok.out.held, hok.out.work, hok.out.tab, hok.out.tabLen, fun y hy => ?_, hok.out.node⟩ (he1.out.put _ (.inl (.inl hb1.out.tag))) (fun y hy => by omega) (hb1.out.put 5 _) (ts1.out.put_far (ts1.out.apart hbh (by decide))) ?_⟩
  · rcases List.mem_append.1 hy with h1 | h1
    · exact hok.out.wait y h1
    · simp at h1; subst h1; exact hx
  · have := hs1.out.put_far (i := 5) (u := .slice a' (m.waiting.length + 1) c') (hs1.out.apart hbh (by decide))
    simpa using this

/-- What Take answers: a slice of its own. -/
def TakesPost (l : List KObj) (t : Nat) (m : MemS) (e : Ending) (w' : World) : Prop :=
  ∃ v, e = .returned v ∧ R (l.set t (MemK { m with waiting := [] }) ++ [SlK 31 1 v m.waiting.length (m.waiting.map (Value.int .u64))]) w'
theorem Rp.mem_move {o : Nat → Nat} (h : Rp l o w) (ht : l[t]? = some (MemK m)) {tv wv : Value} (hb : StAt o w (16 * t + 4) m.b #[.pointer (some ⟨m.cb, 0, none⟩), .pointer (some ⟨m.lb, 0, none⟩), .pointer (some ⟨m.ab, 0, none⟩), .int .i64 m.workers, tv, wv] 49)
    (h1 : SlAt o w (16 * t + 5) 67 2 tv m.tables.length (m.tables.flatMap descL)) (h2 : SlAt o w (16 * t + 6) 31 1 wv m.waiting.length (m.waiting.map (Value.int .u64))) :
    R (l.set t (MemK { m with waiting := [] }) ++ [SlK 31 1 wv m.waiting.length (m.waiting.map (Value.int .u64))]) (w.setCell ⟨m.b, 5, none⟩ (.slice none 0 0)) := by
  obtain ⟨hok, g1, g2, g3, _⟩ := h.get ht
  have htl : t < l.length := (List.getElem?_eq_some_iff.1 ht).1
  have hk := mv_kp o w (16 * t + 6) (16 * l.length)
  have hmv : mv o (16 * t + 6) (16 * l.length) m.b = 16 * t + 4 := (hk.kp m.b hb.lt (by rw [hb.tag]; omega)).1.trans hb.tag
  have e : Ext (mv o (16 * t + 6) (16 * l.length)) (mv o (16 * t + 6) (16 * l.length)) w (w.setCell ⟨m.b, 5, none⟩ (.slice none 0 0)) (fun y => y = 16 * t + 4) := (Ext.refl _ w _).put _ (.inl hmv)
  refine ⟨mv o (16 * t + 6) (16 * l.length), fun u p hu => ?_⟩
  have hbm := hb.kp hk (by omega)
  have tsm := h1.kp hk (by omega)
  have wsm := h2.mv (16 * l.length)
  by_cases hul : u < l.length
  · rw [List.getElem?_append_left (by simpa using hul)] at hu
    rw [List.getElem?_set] at hu
    by_cases hut : t = u
    · subst hut
      rw [if_pos rfl, if_pos hul] at hu
      cases hu
      refine ⟨⟨hok.cells, hok.cellsLen, hok.cells3, hok.locks, hok.held, hok.work, hok.tab, hok.tabLen, fun _ hx => absurd hx List.not_mem_nil, hok.node⟩, (g1.kp hk (by omega)).ext e (by omega), (g2.kp hk (by omega)).ext e (by omega), (g3.kp hk (by omega) (by omega)).ext e (by omega) (by omega), tv, .slice none 0 0, hbm.put 5 _, tsm.put_far (tsm.apart hb.heap (by decide)), SlAt.nil _ _ _ _ _⟩
    · rw [if_neg hut] at hu
      have hp := h u p hu
      exact p.keep e.kp (fun j hj => by omega) (p.keep hk (fun j hj => by omega) hp)
  · rw [List.getElem?_append_right (by simpa using Nat.le_of_not_lt hul)] at hu
    by_cases h0 : u = l.length
    · subst h0
      simp at hu
      subst hu
      exact wsm.put_far (wsm.apart hb.heap (by decide))
    · rw [List.getElem?_eq_none (by simp; omega)] at hu
      cases hu
theorem mem_take (h : R l w) (ht : l[t]? = some (MemK m)) : Calls Try.prog 27 #[.pointer (some ⟨m.b, 0, none⟩)] w (TakesPost l t m) := by
  obtain ⟨o, hr, _, _, _, _, tv, wv, hb, ts, ws⟩ := h.get ht
  have hm := hide (hr.mem_move ht hb ts ws)
  obtain ⟨a, c, rfl⟩ := ws.value
  replace hb := hb.heap
  clear h hr ts ws
  go_enter Try.func27, Try.ntmps27
  go_wp2
  go_ret
  exact ⟨_, rfl, hm.out⟩
end
end Go.Proofs.Ytcoaemjoanbemaa
