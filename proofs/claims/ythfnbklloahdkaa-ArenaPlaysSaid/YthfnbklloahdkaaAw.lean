/- quietusref04.New. -/
import Derived.Test.YthfnbklloahdkaaAv
import Derived.Test.YthfnbklloahdkaaCe
namespace Go.Proofs.Ythfnbklloahdkaa
open Go.RowKit

theorem rnode_info : (Try.prog.info? 90).map (fun i => (i.zero, i.size, i.bytes)) = some (some (.agg #[.string ⟨#[]⟩, .string ⟨#[]⟩, .int .u32 0, .int .u64 0]), 4, 48) := by kernel_rfl
theorem bool_info : (Try.prog.info? 4).map (fun i => (i.zero, i.size, i.bytes)) = some (some (.bool false), 1, 1) := by kernel_rfl

/-- A block laid, with a mark. -/
theorem row_made (o : Nat → Nat) (w : World) (t : Nat) (T : TypeId) (k n : Nat) (cur : Array Value) (cs : List Value) (hn : n ≤ 1024) (hcur : cur.toList = cs) (hl : cs.length = n * k) :
    SlAt (upd o w.heap.size t) (w.alloc (.cells cur T)) t T k (.slice (some ⟨w.heap.size, 0, none⟩) n n) n cs ∧ Ext o (upd o w.heap.size t) w (w.alloc (.cells cur T)) (fun _ => False) := by
  have hs : cur.size = n * k := by rw [← hl, ← hcur]; rfl
  exact ⟨SlAt.made cur n n (Nat.le_refl _) (by unfold maxLen; omega) hs (by rw [hcur, List.take_of_length_le (by omega)]) (upd_new (Nat.le_refl _)), ((Ext.refl o w _).retag t).alloc _⟩

/-- Three rows and a block over them. -/
theorem four_made (o : Nat → Nat) (w : World) (t n : Nat) (hn : n ≤ 1024) (T1 T2 T3 T4 : TypeId) (k1 k2 k3 : Nat) (r1 r2 r3 : Array Value) (c1 c2 c3 : List Value) (h1 : r1.toList = c1) (h2 : r2.toList = c2) (h3 : r3.toList = c3)
    (l1 : c1.length = n * k1) (l2 : c2.length = n * k2) (l3 : c3.length = n * k3) (H : Array Value) :
    ∃ o', SlAt o' ((((w.alloc (.cells r1 T1)).alloc (.cells r2 T2)).alloc (.cells r3 T3)).alloc (.cells H T4)) t T1 k1 (.slice (some ⟨w.heap.size, 0, none⟩) n n) n c1 ∧
      SlAt o' ((((w.alloc (.cells r1 T1)).alloc (.cells r2 T2)).alloc (.cells r3 T3)).alloc (.cells H T4)) t T2 k2 (.slice (some ⟨w.heap.size + 1, 0, none⟩) n n) n c2 ∧
      SlAt o' ((((w.alloc (.cells r1 T1)).alloc (.cells r2 T2)).alloc (.cells r3 T3)).alloc (.cells H T4)) t T3 k3 (.slice (some ⟨w.heap.size + 1 + 1, 0, none⟩) n n) n c3 ∧
      StAt o' ((((w.alloc (.cells r1 T1)).alloc (.cells r2 T2)).alloc (.cells r3 T3)).alloc (.cells H T4)) t (w.heap.size + 1 + 1 + 1) H T4 ∧
      Ext o o' w ((((w.alloc (.cells r1 T1)).alloc (.cells r2 T2)).alloc (.cells r3 T3)).alloc (.cells H T4)) (fun _ => False) := by
  obtain ⟨s1, e1⟩ := row_made o w t T1 k1 n r1 c1 hn h1 l1
  have z1 : (w.alloc (.cells r1 T1)).heap.size = w.heap.size + 1 := by simp
  generalize w.alloc (.cells r1 T1) = w1 at *
  obtain ⟨s2, e2⟩ := row_made (upd o w.heap.size t) w1 t T2 k2 n r2 c2 hn h2 l2
  have z2 : (w1.alloc (.cells r2 T2)).heap.size = w.heap.size + 1 + 1 := by simp [z1]
  rw [z1] at s2 e2
  generalize w1.alloc (.cells r2 T2) = w2 at *
  generalize upd (upd o w.heap.size t) (w.heap.size + 1) t = o2 at *
  obtain ⟨s3, e3⟩ := row_made o2 w2 t T3 k3 n r3 c3 hn h3 l3
  have z3 : (w2.alloc (.cells r3 T3)).heap.size = w.heap.size + 1 + 1 + 1 := by simp [z2]
  rw [z2] at s3 e3
  generalize w2.alloc (.cells r3 T3) = w3 at *
  generalize upd o2 (w.heap.size + 1 + 1) t = o3 at *
  have e4 := ((Ext.refl o3 w3 (fun _ => False)).retag t).alloc (.cells H T4)
  have s4 : StAt (upd o3 w3.heap.size t) (w3.alloc (.cells H T4)) t w3.heap.size H T4 := ⟨blk_new _ _, upd_new (Nat.le_refl _)⟩
  rw [z3] at s4 e4
  exact ⟨_, ((s1.ext e2 id).ext e3 id).ext e4 id, (s2.ext e3 id).ext e4 id, s3.ext e4 id, s4, ((e1.trans e2).trans e3).trans e4⟩

def RNewPost (o : Nat → Nat) (t n : Nat) (w : World) (e : Ending) (w' : World) : Prop :=
  ∃ o' b, e = .returned (.pointer (some ⟨b, 0, none⟩)) ∧ RefOk o' w' t b (List.replicate n slot0) false ∧ Ext o o' w w' (fun _ => False)
theorem nodesL_rep (n : Nat) : nodesL (List.replicate n slot0) = (List.replicate n nd0).flatMap ndL := by rw [nodesL, List.map_replicate]; rfl
theorem usedL_rep (n : Nat) : usedL (List.replicate n slot0) = List.replicate n (.bool false) := by rw [usedL, List.map_replicate]; rfl
theorem gensL_rep (n : Nat) : gensL (List.replicate n slot0) = List.replicate n (.int .u64 0) := by rw [gensL, List.map_replicate]; rfl

theorem rnew_fin {o o' : Nat → Nat} {w w' : World} {t n b : Nat} {v1 v2 v3 : Value} (s1 : SlAt o' w' t 90 4 v1 n (nodesL (List.replicate n slot0))) (s2 : SlAt o' w' t 4 1 v2 n (usedL (List.replicate n slot0)))
    (s3 : SlAt o' w' t 51 1 v3 n (gensL (List.replicate n slot0))) (s4 : StAt o' w' t b #[v1, v2, v3, .bool false] 98) (e : Ext o o' w w' (fun _ => False)) :
    RNewPost o t n w (.returned (.pointer (some ⟨b, 0, none⟩))) w'.drew := by
  have hrl : (List.replicate n slot0).length = n := List.length_replicate
  have E := (Ext.refl o' w' (fun _ => False)).drew
  exact ⟨o', b, rfl, ⟨v1, v2, v3, s4.ext E id, by rw [hrl]; exact s1.ext E id, by rw [hrl]; exact s2.ext E id, by rw [hrl]; exact s3.ext E id⟩, e.drew⟩

set_option maxRecDepth 100000 in
set_option maxHeartbeats 1600000 in
theorem ref04_new (o : Nat → Nat) (t n : Nat) (h1 : n ≤ 1024) (w : World) : Calls Try.prog 47 #[.int .i64 n] w (RNewPost o t n w) := by
  have hmk1 : ∀ W : World, (Instr.makeSlice 96 (.int .i64 n) (.int .i64 n)).run Try.prog W = .ok (.slice (some ⟨W.heap.size, 0, none⟩) n n) (W.alloc (.cells (madeCells #[.string ⟨#[]⟩, .string ⟨#[]⟩, .int .u32 0, .int .u64 0] (n * 4)) 90)) := by
    obtain ⟨i0, hi, hz0, hz1, hz2⟩ := info_parts rnode_info
    intro W
    have := run_make (P := Try.prog) W 96 90 i0 _ Try.underlying96 hi hz0 .i64 .i64 n n (by omega) (Int.le_refl _) (by rw [hz2]; omega) (by omega)
    rw [hz1, Int.toNat_natCast] at this
    exact this
  have hmk2 : ∀ W : World, (Instr.makeSlice 68 (.int .i64 n) (.int .i64 n)).run Try.prog W = .ok (.slice (some ⟨W.heap.size, 0, none⟩) n n) (W.alloc (.cells (madeCells #[.bool false] n) 4)) := by
    obtain ⟨i0, hi, hz0, hz1, hz2⟩ := info_parts bool_info
    intro W
    have := run_make (P := Try.prog) W 68 4 i0 _ Try.underlying68 hi hz0 .i64 .i64 n n (by omega) (Int.le_refl _) (by rw [hz2]; omega) (by omega)
    rw [hz1, Int.toNat_natCast, Nat.mul_one] at this
    exact this
  have hmk3 : ∀ W : World, (Instr.makeSlice 50 (.int .i64 n) (.int .i64 n)).run Try.prog W = .ok (.slice (some ⟨W.heap.size, 0, none⟩) n n) (W.alloc (.cells (madeCells #[.int .u64 0] n) 51)) := by
    obtain ⟨i0, hi, hz0, hz1, hz2⟩ := info_parts u64_info
    intro W
    have := run_make (P := Try.prog) W 50 51 i0 _ Try.underlying50 hi hz0 .i64 .i64 n n (by omega) (Int.le_refl _) (by rw [hz2]; omega) (by omega)
    rw [hz1, Int.toNat_natCast, Nat.mul_one] at this
    exact this
  have c1 : Hid ((madeCells #[.string ⟨#[]⟩, .string ⟨#[]⟩, .int .u32 0, .int .u64 0] (n * 4)).toList = nodesL (List.replicate n slot0)) := hide (by rw [nodesL_rep]; exact madeCells_flat ndL 4 ndL_len (by decide) nd0 _ rfl n)
  have c2 : Hid ((madeCells #[.bool false] n).toList = usedL (List.replicate n slot0)) := hide (by rw [usedL_rep]; exact madeCells_one (.bool false) rfl n)
  have c3 : Hid ((madeCells #[.int .u64 0] n).toList = gensL (List.replicate n slot0)) := hide (by rw [gensL_rep]; exact madeCells_one (.int .u64 0) rfl n)
  have l1 : Hid ((nodesL (List.replicate n slot0)).length = n * 4) := hide (by rw [nodesL_rep, flat_len ndL 4 ndL_len, List.length_replicate])
  have l2 : Hid ((usedL (List.replicate n slot0)).length = n * 1) := hide (by rw [usedL_rep, List.length_replicate, Nat.mul_one])
  have l3 : Hid ((gensL (List.replicate n slot0)).length = n * 1) := hide (by rw [gensL_rep, List.length_replicate, Nat.mul_one])
  go_enter Try.func47, Try.ntmps47
  go_wp2_with fail
  go_region
  all_goals
    clear hmk1 hmk2 hmk3
    go_wp2
    go_ret
  · obtain ⟨o', sa, sb, sc, sd, e⟩ := four_made o w t n h1 90 4 51 98 4 1 1 _ _ _ _ _ _ c1.out c2.out c3.out l1.out l2.out l3.out #[.slice (some ⟨w.heap.size, 0, none⟩) n n, .slice (some ⟨w.heap.size + 1, 0, none⟩) n n, .slice (some ⟨w.heap.size + 1 + 1, 0, none⟩) n n, .bool false]
    exact rnew_fin sa sb sc sd e
  · obtain ⟨o', sa, sb, sc, sd, e⟩ := four_made o w t n h1 90 51 4 98 4 1 1 _ _ _ _ _ _ c1.out c3.out c2.out l1.out l3.out l2.out #[.slice (some ⟨w.heap.size, 0, none⟩) n n, .slice (some ⟨w.heap.size + 1 + 1, 0, none⟩) n n, .slice (some ⟨w.heap.size + 1, 0, none⟩) n n, .bool false]
    exact rnew_fin sa sc sb sd e
  · obtain ⟨o', sa, sb, sc, sd, e⟩ := four_made o w t n h1 4 90 51 98 1 4 1 _ _ _ _ _ _ c2.out c1.out c3.out l2.out l1.out l3.out #[.slice (some ⟨w.heap.size + 1, 0, none⟩) n n, .slice (some ⟨w.heap.size, 0, none⟩) n n, .slice (some ⟨w.heap.size + 1 + 1, 0, none⟩) n n, .bool false]
    exact rnew_fin sb sa sc sd e
  · obtain ⟨o', sa, sb, sc, sd, e⟩ := four_made o w t n h1 4 51 90 98 1 1 4 _ _ _ _ _ _ c2.out c3.out c1.out l2.out l3.out l1.out #[.slice (some ⟨w.heap.size + 1 + 1, 0, none⟩) n n, .slice (some ⟨w.heap.size, 0, none⟩) n n, .slice (some ⟨w.heap.size + 1, 0, none⟩) n n, .bool false]
    exact rnew_fin sc sa sb sd e
  · obtain ⟨o', sa, sb, sc, sd, e⟩ := four_made o w t n h1 51 90 4 98 1 4 1 _ _ _ _ _ _ c3.out c1.out c2.out l3.out l1.out l2.out #[.slice (some ⟨w.heap.size + 1, 0, none⟩) n n, .slice (some ⟨w.heap.size + 1 + 1, 0, none⟩) n n, .slice (some ⟨w.heap.size, 0, none⟩) n n, .bool false]
    exact rnew_fin sb sc sa sd e
  · obtain ⟨o', sa, sb, sc, sd, e⟩ := four_made o w t n h1 51 4 90 98 1 1 4 _ _ _ _ _ _ c3.out c2.out c1.out l3.out l2.out l1.out #[.slice (some ⟨w.heap.size + 1 + 1, 0, none⟩) n n, .slice (some ⟨w.heap.size + 1, 0, none⟩) n n, .slice (some ⟨w.heap.size, 0, none⟩) n n, .bool false]
    exact rnew_fin sc sb sa sd e
end Go.Proofs.Ythfnbklloahdkaa
