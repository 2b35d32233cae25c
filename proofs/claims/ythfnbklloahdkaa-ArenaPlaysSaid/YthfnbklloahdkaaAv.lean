/- quietusref04: Alloc of a full arena, Free, New. Condition: the pointer leads to such blocks. -/
import Derived.Test.YthfnbklloahdkaaAu
namespace Go.Proofs.Ythfnbklloahdkaa
open Go.RowKit

def RGivePost (o : Nat → Nat) (t b : Nat) (ss : List Slot) (fault : Bool) (i : Nat) (w : World) (e : Ending) (w' : World) : Prop :=
  e = .returned (.int .i64 0) ∧ RefOk o w' t b (ss.set i (freed (ss.getD i slot0))) fault ∧ Ext o o w w' (fun x => x = t)
section
variable {o : Nat → Nat} {w : World} {t b : Nat} {v1 v2 v3 : Value} {ss : List Slot} {fault : Bool}
set_option maxRecDepth 100000 in
set_option maxHeartbeats 1600000 in
theorem ref04_take_no (A : RefAt o w t b v1 v2 v3 ss fault) (hu : ∀ j, j < ss.length → (ss.getD j slot0).used = true) (n : Nd) :
    Calls Try.prog 48 #[.pointer (some ⟨b, 0, none⟩), ndV n] w fun e w' => e = .returned (.tuple #[.int .u64 0, .int .i64 4]) ∧ RefAt o w' t b v1 v2 v3 ss fault ∧ Ext o o w w' (fun _ => False) := by
  have E0 : Ext o o w (w.alloc (.cells #[.string n.key, .string n.val, .int .u32 n.sum, .int .u64 n.next] 90)) (fun _ => False) := (Ext.refl o w _).alloc _
  have A1 := A.ext E0 id
  replace E0 := hide E0
  clear A
  have hl63 := A1.nodes.le63
  obtain ⟨a1, c1, a2, c2, a3, c3, rfl, rfl, rfl⟩ := A1.values
  have hb := A1.hdr.heap
  replace hu := hide hu
  unfold ndV
  go_enter Try.func48, Try.ntmps48
  go_wp2
  generalize w.alloc (.cells #[.string n.key, .string n.val, .int .u32 n.sum, .int .u64 n.next] 90) = w1 at *
  go_loopw [6] (fun j wr => ∃ k : Nat, k ≤ ss.length ∧ j = .int .i64 k ∧ wr = w1) (fun j _ => ss.length - (intOf j).toNat)
  case atStart => exact ⟨0, Nat.zero_le _, rfl, rfl⟩
  case round =>
    obtain ⟨k, hk, rfl, rfl⟩ := hrel
    by_cases hlt : k < ss.length
    · obtain ⟨g1, d1, r1, g2, d2, r2, g3, d3, r3, hv1, hv2, hv3, b1, b2, b3, _, _, _, m1, m2, m3, q0, q1, q2, q3, q4, q5⟩ := A1.at_ (i := k) (by omega)
      simp at hv1 hv2 hv3
      obtain ⟨rfl, rfl⟩ := hv1
      obtain ⟨rfl, rfl⟩ := hv2
      obtain ⟨rfl, rfl⟩ := hv3
      rw [hu.out k hlt] at q4
      clear q0 q1 q2 q3 q5
      go_wp2
      go_roundw
      case rel => exact ⟨k + 1, by omega, by go_num, trivial⟩
      case measure => simp [intOf]; omega
    · have : k = ss.length := by omega
      subst this
      go_wp2
      go_ret2
      exact ⟨rfl, A1, E0.out⟩

set_option maxRecDepth 100000 in
set_option maxHeartbeats 1600000 in
theorem ref04_give (A : RefAt o w t b v1 v2 v3 ss fault) (hl : ss.length ≤ 1024) (hg : GenOk ss 1000000) (h : Int) (i : Nat) (hia : atA ss h = i) :
    Calls Try.prog 53 #[.pointer (some ⟨b, 0, none⟩), .int .u64 h] w (RGivePost o t b ss fault i w) := by
  have F := hide (ref04_use A hl hg h)
  have hi0 : 0 ≤ atA ss h := by omega
  have e1 : useCode ss h = 0 := by rw [useCode, if_pos hi0]
  have e2 : useFault ss h fault = fault := by rw [useFault, if_pos hi0]
  obtain ⟨i', hia', hi, _⟩ := atA_lt ss h hi0
  have : i' = i := by omega
  subst this
  rw [e1, e2, hia] at F
  clear e1 e2 hi0 hia' hia
  have hgk := hg i'
  replace hg := hide hg
  clear A
  go_enter Try.func53, Try.ntmps53
  go_wp2_with fail
  refine F.out.mono ?_
  rintro e w2 ⟨rfl, A, e2⟩
  obtain ⟨a1, c1, a2, c2, a3, c3, rfl, rfl, rfl⟩ := A.values
  obtain ⟨g1, d1, r1, g2, d2, r2, g3, d3, r3, hv1, hv2, hv3, b1, b2, b3, _, _, _, m1, m2, m3, q0, q1, q2, q3, q4, q5⟩ := A.at_ hi
  simp at hv1 hv2 hv3
  obtain ⟨rfl, rfl⟩ := hv1
  obtain ⟨rfl, rfl⟩ := hv2
  obtain ⟨rfl, rfl⟩ := hv3
  have hb := A.hdr.heap
  obtain ⟨P, EP⟩ := A.put2 hi { ss.getD i' slot0 with used := false } rfl rfl
  have hi2 : i' < (ss.set i' { ss.getD i' slot0 with used := false }).length := by rw [List.length_set]; exact hi
  obtain ⟨N, EN⟩ := P.node hi2 nd0
  rw [List.length_set, getD_set_at _ _ _ hi, List.set_set] at N
  rw [show nd0.key = ⟨#[]⟩ from rfl, show nd0.val = ⟨#[]⟩ from rfl, show nd0.sum = 0 from rfl, show nd0.next = 0 from rfl] at N EN
  replace N := hide N
  replace EN := hide EN
  replace EP := hide EP
  replace e2 := hide e2
  have k1 := ne_of_type hb b2 (by decide)
  have k2 := ne_of_type b1 b2 (by decide)
  have k3 := ne_of_type hb b1 (by decide)
  have k4 := ne_of_type b3 b2 (by decide)
  have k5 := ne_of_type b3 b1 (by decide)
  clear P F A
  go_upto_region 5 with fail
  have hE := hide ((e2.out.trans EP.out).trans EN.out)
  replace N := N.out
  clear b1 b2 b3 q0 q1 q2 q3 q4 q5 hb k1 k2 k3 k4 k5 EN EP e2 hi2
  generalize World.setCell _ _ _ = w3 at N hE ⊢
  have hi3 : i' < (ss.set i' { nd := nd0, used := false, gen := (ss.getD i' slot0).gen }).length := by rw [List.length_set]; exact hi
  have N' := N
  rw [show ss.length = (ss.set i' { nd := nd0, used := false, gen := (ss.getD i' slot0).gen }).length from List.length_set.symm] at N'
  obtain ⟨P3, E3⟩ := N'.put3 hi3 (freed (ss.getD i' slot0)) (by rw [getD_set_at _ _ _ hi]; rfl) (by rw [getD_set_at _ _ _ hi]; rfl)
  rw [List.set_set, List.length_set] at P3
  obtain ⟨g1', d1', r1', g2', d2', r2', g3', d3', r3', hv1, hv2, hv3, b1, b2, b3, _, _, _, m1, m2, m3, q0, q1, q2, q3, q4, q5⟩ := N.at_ hi3
  simp at hv1 hv2 hv3
  obtain ⟨rfl, rfl⟩ := hv1
  obtain ⟨rfl, rfl⟩ := hv2
  obtain ⟨rfl, rfl⟩ := hv3
  rw [getD_set_at _ _ _ hi] at q5
  have hb := N.hdr.heap
  clear q0 q1 q2 q3 q4 hi3 N'
  have k1 := ne_of_type hb b3 (by decide)
  have hfg : (freed (ss.getD i' slot0)).gen = (ss.getD i' slot0).gen + 1 := rfl
  rw [hfg] at P3 E3
  replace P3 := hide P3
  replace E3 := hide E3
  replace N := hide N
  clear hfg
  have q6 : r3'[i']? = some (.int .u64 (ss.getD i' slot0).gen) := q5
  clear q5
  generalize (ss.getD i' slot0).gen = gen at hgk q6 P3 E3
  obtain ⟨hg0, hg1⟩ := hgk
  go_wp2_with fail
  go_region
  all_goals
    have R1 := P3.out.ext ((Ext.refl _ _ (fun _ => False)).drew) id
    have R2 := E3.out.drew
    clear b1 b2 b3 q6 hb
    generalize World.drew _ = w4 at R1 R2 ⊢
    go_wp2
    go_ret
    exact ⟨rfl, ⟨_, _, _, R1⟩, hE.out.trans R2⟩
end
end Go.Proofs.Ythfnbklloahdkaa
