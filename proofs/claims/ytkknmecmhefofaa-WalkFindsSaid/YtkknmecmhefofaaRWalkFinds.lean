/- WalkFinds: for every input the Go function quietuslaw09.WalkFinds returns true, and its arguments read behind the call as before. No condition. -/
import Derived.Test.YtkknmecmhefofaaRows
import Derived.Test.YtkknmecmhefofaaRw
import Derived.Test.YtkknmecmhefofaaLc09
import Derived.WalkKit
import Derived.ProofKit
import Derived.OpenShut
import Derived.SizedLaws
namespace Go.Proofs.Ytkknmecmhefofaa.walkFinds
open Go.ChangeShapes Go.WideShapes Go.ChangeAt Go.RowKit

theorem own : ownKnob Try.prog.godebug = none := by kernel_rfl
theorem laidOut : laidOutB Try.prog = true := by kernel_rfl

theorem cells : Try.prog.cellsOf 100 = 2 := by kernel_rfl
theorem cstr : Try.prog.cellsOf 9 = 1 := by kernel_rfl
theorem cu32 : Try.prog.cellsOf 34 = 1 := by kernel_rfl
theorem reach : reachBytes ≤ 140737488355328 := by decide
set_option maxRecDepth 100000 in
theorem read {H : Type} {enc : TypeId × Value → H} {w : World} {base : Nat} {spare : Nat → Bool} {held : Bool} (n : Nat) (cs : List Value) (y : DataW H × List MemPlace) (h : DataW.trod enc Try.prog w base spare held n 100 cs = some y)
    (hz : ∀ z ∈ y.1.weights Try.prog 100, z ≤ reachBytes) : ∃ x : Pr, cs = pr09 x ∧ okPr x := by
  obtain ⟨xs, m, _, hy, hl, hxl, hf⟩ := DataW.trod_struct Try.underlying100 h
  rw [cells] at hl
  match cs, hl with
  | [c0, c1], _ =>
    match xs, hxl with
    | [y0, y1], _ =>
      have h0 : DataW.trod enc Try.prog w base spare held m 9 (List.take (Try.prog.cellsOf 9) (List.drop 0 [c0, c1])) = some y0 := hf 0 _ rfl
      rw [cstr] at h0
      have h1 : DataW.trod enc Try.prog w base spare held m 34 (List.take (Try.prog.cellsOf 34) (List.drop 1 [c0, c1])) = some y1 := hf 1 _ rfl
      rw [cu32] at h1
      obtain ⟨ky, e0, ey, _⟩ := DataW.trod_string Try.underlying9 h0
      obtain ⟨sm, e1, _, w1⟩ := DataW.trod_int Try.underlying34 h1
      simp at e0 e1
      subst e0 e1 ey hy
      have hs := hz ky.data.toList.length (by simp [DataW.weights, Try.underlying100, DataW.weightsEach])
      exact ⟨⟨ky, sm⟩, rfl, u32_bounds w1, Nat.le_trans (by simpa using hs) reach⟩
theorem walk (v : Value) (ps : List Pr) (n : Int) (wn : (Lit.int .u32 n).wf = true) (key : ByteArray) (hk : key.size ≤ 140737488355328) (w : World) (hv : FrAt w w.heap.size 2 v (ps.map pr09)) (hin : ∀ x ∈ ps, okPr x) :
    Calls Try.prog 7 #[v, .int .u32 n, .string key] w fun e w' => e = .returned (.bool true) ∧ Below w.heap.size w w' := by
  have hb := u32_bounds wn
  by_cases hl : ps.length ≤ 50
  · exact law09_finds v ps n key hb.1 hb.2 hk w hv hin hl
  · obtain ⟨a, cap, rfl, hb2, _⟩ := hv
    exact law09_many n key a _ cap (by rw [List.length_map]; omega) hb2 w

set_option maxRecDepth 100000 in
theorem lifted (os : Os) (started : os.Started) (H : Type) (enc : TypeId × Value → H) :
    ReturnsInHanded {} Try.checked os 7 .any (Rows.walkFindsSpec.pre6 enc Try.prog Try.f7 Rows.walkFindsRow.domain false) (Rows.walkFindsSpec.post enc Try.prog Try.f7 false true false false) := by
  refine returnsInHanded_of_change_sized (C := Try.checked) own started (by kernel_rfl) Try.func7
    (ChangeSpec.witness6 (enc := enc) (C := Try.checked) false ⟨#[], #[.slice none 0 0, .int .u32 0, .string ⟨#[]⟩], []⟩ 8 (by kernel_rfl) (by kernel_rfl) (by kernel_rfl) (by kernel_rfl)) ?_
  intro W base args ds gs before hval0 hW hcnd hsz _
  have hval : ∀ (j : Nat) t v, Try.f7.params[j]? = some t → args[j]? = some v → Value.okWide Try.prog W .any base t v := hval0
  have hW' := hW
  obtain ⟨p, q, hA0, hV, rfl, hfz, hnd⟩ := hW
  have hA : DataW.TrodAll enc Try.prog W 0 (fun _ => true) true Try.f7.params.toList args.toList ds p := hA0
  have hA1 := hA
  rw [Try.params7] at hA hval
  obtain ⟨v0, vs0, d0, ds0, p0, q0, hargs, rfl, rfl, h0, r0⟩ := trodAll_cons hA
  obtain ⟨v1, vs1, d1, ds1, p1, q1, rfl, rfl, rfl, h1, r1⟩ := trodAll_cons r0
  obtain ⟨v2, vs2, d2, ds2, p2, q2, rfl, rfl, rfl, h2, r2⟩ := trodAll_cons r1
  obtain ⟨rfl, rfl, rfl⟩ := trodAll_nil r2
  obtain rfl : args = #[v0, v1, v2] := by cases args; simp_all
  obtain ⟨rfl, rfl⟩ := trodVars_none hV
  have hw0 : ∀ z ∈ d0.weights Try.prog (Try.f7.params.getD 0 0), z ≤ reachBytes := fun z hz => by simpa using List.all_eq_true.1 hsz z (DataW.weights_mem_each (j := 0) rfl rfl z hz)
  have hw1 : ∀ z ∈ d1.weights Try.prog (Try.f7.params.getD 1 0), z ≤ reachBytes := fun z hz => by simpa using List.all_eq_true.1 hsz z (DataW.weights_mem_each (j := 1) rfl rfl z hz)
  have hw2 : ∀ z ∈ d2.weights Try.prog (Try.f7.params.getD 2 0), z ≤ reachBytes := fun z hz => by simpa using List.all_eq_true.1 hsz z (DataW.weights_mem_each (j := 2) rfl rfl z hz)
  obtain ⟨a0, len, cap, rfl⟩ := okWide_slice Try.underlying97 (hval 0 97 v0 rfl rfl)
  obtain ⟨fuel, hf⟩ := h0
  obtain ⟨ps, hin, hfr⟩ := fr_open_sized 2 Try.underlying97 (x := (d0, p0)) cells (by decide) read hw0 hf
  obtain ⟨n, rfl, rfl, rfl, w0⟩ := open_int Try.underlying34 (hval 1 34 v1 rfl rfl) h1
  obtain ⟨ky, rfl⟩ := okWide_string Try.underlying9 (hval 2 9 v2 rfl rfl)
  obtain ⟨fuel2, hf2⟩ := h2
  obtain ⟨ky2, e2, ey, _⟩ := DataW.trod_string Try.underlying9 hf2
  have e3 : ky = ky2 := by simpa [Value.cells] using e2
  subst e3
  have hd2 : d2 = .lit (.string ky.data.toList) := congrArg Prod.fst ey
  have hky : ky.size ≤ 140737488355328 := by
    have := hw2 ky.data.toList.length (by rw [hd2]; simp [DataW.weights])
    exact Nat.le_trans (by simpa using this) reach
  clear hw0 hw1 hw2 e2 ey hd2
  clear hA0 hval0
  refine (walk _ ps n w0 ky hky W hfr hin).mono fun e W' ⟨he, hg⟩ => ?_
  subst he
  exact ⟨_, rfl, post_args (pv := []) hW' (fun _ _ _ => trodAll_cons_mk (shut_bool Try.underlying4 _) trodAll_mk0) (trodAll_below laidOut hg (by kernel_rfl) hA1 (fun x hx => hW'.lt x (List.mem_append.2 (.inl hx)))) rfl rfl hg⟩

theorem over : Rows.walkFindsRow.holds Try.pinned (OpenSpec.ofChange Rows.walkFindsSpec) :=
  OpenClaim.holds_of_wide 7 Try.f7 rfl rfl rfl rfl rfl rfl rfl ⟨rfl, rfl, rfl, rfl, rfl⟩ rfl rfl rfl rfl rfl (by kernel_rfl) Try.func7 (by kernel_rfl)
    (of_decide_eq_true (by kernel_rfl)) (by unfold Func.isWrapper; first | (rw [if_pos (by decide +kernel)]; kernel_rfl) | (rw [if_neg (by decide +kernel)]; exact ⟨rfl, rfl⟩))
    (fun os started H enc _ => lifted os started H enc)

theorem proved : Rows.WalkFindsSaid :=
  over
#print axioms proved
end Go.Proofs.Ytkknmecmhefofaa.walkFinds
