/- quietusref04: Alloc, Free, New. Condition: the pointer leads to such blocks. -/
import Derived.Test.YthfnbklloahdkaaAt
import Derived.Deep.DeepCutAuto
namespace Go.Proofs.Ythfnbklloahdkaa
open Go.RowKit

def RefOk (o : Nat → Nat) (w : World) (t b : Nat) (ss : List Slot) (fault : Bool) : Prop := ∃ v1 v2 v3, RefAt o w t b v1 v2 v3 ss fault
def RTakePost (o : Nat → Nat) (t b : Nat) (ss : List Slot) (fault : Bool) (n : Nd) (i : Nat) (w : World) (e : Ending) (w' : World) : Prop :=
  ∃ o', e = .returned (.tuple #[.int .u64 (i + 1 + 65536 * (ss.getD i slot0).gen), .int .i64 0]) ∧ RefOk o' w' t b (ss.set i (taken (ss.getD i slot0) n)) fault ∧ Ext o o' w w' (fun x => x = t)

section
variable {o : Nat → Nat} {w : World} {t b : Nat} {v1 v2 v3 : Value} {ss : List Slot} {fault : Bool}
set_option maxRecDepth 100000 in
set_option maxHeartbeats 1600000 in
theorem ref04_take (A : RefAt o w t b v1 v2 v3 ss fault) (hl : ss.length ≤ 1024) (hg : GenOk ss 1000000) (n : Nd) (i : Nat) (hi : i < ss.length) (hu : (ss.getD i slot0).used = false) (hmin : ∀ j, j < i → (ss.getD j slot0).used = true) :
    Calls Try.prog 48 #[.pointer (some ⟨b, 0, none⟩), ndV n] w (RTakePost o t b ss fault n i w) := by
  have E0 : Ext o (upd o w.heap.size (t + 1)) w (w.alloc (.cells #[.string n.key, .string n.val, .int .u32 n.sum, .int .u64 n.next] 90)) (fun _ => False) := ((Ext.refl o w _).retag (t + 1)).alloc _
  have A1 := A.ext E0 id
  have S1 : StAt (upd o w.heap.size (t + 1)) (w.alloc (.cells #[.string n.key, .string n.val, .int .u32 n.sum, .int .u64 n.next] 90)) (t + 1) w.heap.size #[.string n.key, .string n.val, .int .u32 n.sum, .int .u64 n.next] 90 := ⟨blk_new _ _, upd_new (Nat.le_refl _)⟩
  replace E0 := hide (E0.none (S := fun x => x = t))
  clear A
  obtain ⟨a1, c1, a2, c2, a3, c3, rfl, rfl, rfl⟩ := A1.values
  have hb := A1.hdr.heap
  replace hmin := hide hmin
  replace hg := hide hg
  replace S1 := hide S1
  unfold ndV
  go_enter Try.func48, Try.ntmps48
  go_wp2
  generalize w.alloc (.cells #[.string n.key, .string n.val, .int .u32 n.sum, .int .u64 n.next] 90) = w1 at *
  generalize upd o w.heap.size (t + 1) = o1 at *
  go_loopw [6] (fun j wr => ∃ k : Nat, k ≤ i ∧ j = .int .i64 k ∧ wr = w1) (fun j _ => i - (intOf j).toNat)
  case atStart => exact ⟨0, Nat.zero_le _, rfl, rfl⟩
  case round =>
    obtain ⟨k, hk, rfl, rfl⟩ := hrel
    obtain ⟨g1, d1, r1, g2, d2, r2, g3, d3, r3, hv1, hv2, hv3, b1, b2, b3, _, _, _, m1, m2, m3, q0, q1, q2, q3, q4, q5⟩ := A1.at_ (i := k) (by omega)
    simp at hv1 hv2 hv3
    obtain ⟨rfl, rfl⟩ := hv1
    obtain ⟨rfl, rfl⟩ := hv2
    obtain ⟨rfl, rfl⟩ := hv3
    by_cases hlt : k < i
    · rw [hmin.out k hlt] at q4
      clear q0 q1 q2 q3 q5 hu
      go_wp2
      go_roundw
      case rel => exact ⟨k + 1, by omega, by go_num, trivial⟩
      case measure => simp [intOf]; omega
    · have : k = i := by omega
      subst this
      rw [hu] at q4
      obtain ⟨P, EP⟩ := A1.put2 hi { ss.getD k slot0 with used := true } rfl rfl
      have SP := S1.out.ext EP (by omega)
      replace P := hide P
      replace EP := hide EP
      replace hu := hide hu
      clear q0 q1 q2 q3 q5
      go_upto_region 6 with fail
      clear q4 b1 b2 b3 hb A1
      generalize wr.setCell ⟨g2, k, none⟩ (.bool true) = w2 at P EP SP ⊢
      have P' := P.out
      rw [show (ss.set k { ss.getD k slot0 with used := true }).length = ss.length from List.length_set] at P'
      have hi2 : k < (ss.set k { ss.getD k slot0 with used := true }).length := by rw [List.length_set]; exact hi
      obtain ⟨g1', d1, r1, g2', d2, r2, g3', d3, r3, hv1, hv2, hv3, b1, b2, b3, _, _, _, m1, m2, m3, q0, q1, q2, q3, q4, q5⟩ := P.out.at_ hi2
      simp at hv1 hv2 hv3
      obtain ⟨rfl, rfl⟩ := hv1
      obtain ⟨rfl, rfl⟩ := hv2
      obtain ⟨rfl, rfl⟩ := hv3
      have hb := P'.hdr.heap
      have hsp := SP.heap
      have N := hide (P.out.node hi2 n)
      rw [List.length_set, getD_set_at _ _ _ hi, List.set_set] at N
      rw [getD_set_at _ _ _ hi] at q0 q1 q2 q3
      clear q4 q5 hi2 P' P hmin
      have hgk := hg.out k
      go_wp2_with fail
      go_region
      all_goals
        obtain ⟨R1, R2⟩ := N.out
        replace R1 := R1.ext ((Ext.refl _ _ (fun _ => False)).drew) id
        replace R2 := R2.drew
        clear b1 b2 b3 q0 q1 q2 q3 hb hsp
        generalize World.drew _ = w3 at R1 R2 ⊢
        have hi3 : k < (ss.set k { nd := n, used := true, gen := (ss.getD k slot0).gen }).length := by rw [List.length_set]; exact hi
        obtain ⟨g1', d1', r1', g2', d2', r2', g3', d3', r3', hv1, hv2, hv3, b1, b2, b3, _, _, _, m1, m2, m3, q0, q1, q2, q3, q4, q5⟩ := R1.at_ hi3
        simp at hv1 hv2 hv3
        obtain ⟨rfl, rfl⟩ := hv1
        obtain ⟨rfl, rfl⟩ := hv2
        obtain ⟨rfl, rfl⟩ := hv3
        rw [getD_set_at _ _ _ hi] at q5
        clear q0 q1 q2 q3 q4 hi3
        have hb := R1.hdr.heap
        replace R1 := hide R1
        replace R2 := hide R2
        generalize hgen : (ss.getD k slot0).gen = gen at hgk q5
        replace hgen := hide hgen
        obtain ⟨hg0, hg1⟩ := hgk
        go_wp2
        go_ret2
        refine ⟨_, ?_, ⟨_, _, _, R1.out⟩, (E0.out.trans EP.out).trans R2.out⟩
        rw [hgen.out]
        go_num
end
end Go.Proofs.Ythfnbklloahdkaa
