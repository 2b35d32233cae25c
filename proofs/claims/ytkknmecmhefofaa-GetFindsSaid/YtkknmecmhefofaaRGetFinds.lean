/- GetFinds: for every input the Go function quietuslaw10.GetFinds returns true, and its arguments read behind the call as before. No condition. -/
import Derived.Test.YtkknmecmhefofaaRows
import Derived.Test.YtkknmecmhefofaaRw
import Derived.Test.YtkknmecmhefofaaLc10
import Derived.WalkKit
import Derived.ProofKit
import Derived.OpenShut
import Derived.SizedLaws
namespace Go.Proofs.Ytkknmecmhefofaa.getFinds
open Go.ChangeShapes Go.WideShapes Go.ChangeAt Go.RowKit

theorem own : ownKnob Try.prog.godebug = none := by kernel_rfl
theorem laidOut : laidOutB Try.prog = true := by kernel_rfl

theorem cells : Try.prog.cellsOf 171 = 2 := by kernel_rfl
theorem read {H : Type} {enc : TypeId × Value → H} {w : World} {base : Nat} {spare : Nat → Bool} {held : Bool} (n : Nat) (cs : List Value) (y : DataW H × List MemPlace) (h : DataW.trod enc Try.prog w base spare held n 171 cs = some y) :
    ∃ x : Pk, cs = pk10 x ∧ okPk x := by
  obtain ⟨hl, hf⟩ := read_fields Try.underlying171 (by kernel_rfl) cells h
  match cs, hl with
  | [c0, c1], _ =>
    obtain ⟨_, _, h0⟩ := hf 0 _ rfl c0 rfl
    obtain ⟨_, _, h1⟩ := hf 1 _ rfl c1 rfl
    obtain ⟨k, e0, _, s0⟩ := DataW.trod_string Try.underlying9 h0
    obtain ⟨v, e1, _, s1⟩ := DataW.trod_string Try.underlying9 h1
    simp at e0 e1
    subst e0 e1
    exact ⟨⟨k, v⟩, rfl, s0, s1⟩
theorem walk (n : Int) (wn : (Lit.int .u8 n).wf = true) (v : Value) (ps : List Pk) (key : ByteArray) (hk : key.size ≤ 9223372036854775807) (w : World) (hv : FrAt w w.heap.size 2 v (ps.map pk10)) (hin : ∀ x ∈ ps, okPk x) :
    Calls Try.prog 10 #[.int .u8 n, v, .string key] w fun e w' => e = .returned (.bool true) ∧ Below w.heap.size w w' := by
  have hb := u8_bounds wn
  exact law10_finds n hb.1 hb.2 v ps key hk w hv hin

set_option maxRecDepth 100000 in
theorem lifted (os : Os) (started : os.Started) (H : Type) (enc : TypeId × Value → H) :
    ReturnsInHanded {} Try.checked os 10 .any (Rows.getFindsSpec.pre6 enc Try.prog Try.f10 Rows.getFindsRow.domain false) (Rows.getFindsSpec.post enc Try.prog Try.f10 false true false false) := by
  refine returnsInHanded_of_change (C := Try.checked) own started (by kernel_rfl) Try.func10
    (ChangeSpec.witness6 (enc := enc) (C := Try.checked) false ⟨#[], #[.int .u8 0, .slice none 0 0, .string ⟨#[]⟩], []⟩ 8 (by kernel_rfl) (by kernel_rfl) (by kernel_rfl) (by kernel_rfl)) ?_
  intro W base args ds gs before hval0 hW hcnd _
  have hval : ∀ (j : Nat) t v, Try.f10.params[j]? = some t → args[j]? = some v → Value.okWide Try.prog W .any base t v := hval0
  have hW' := hW
  obtain ⟨p, q, hA0, hV, rfl, hfz, hnd⟩ := hW
  have hA : DataW.TrodAll enc Try.prog W 0 (fun _ => true) true Try.f10.params.toList args.toList ds p := hA0
  have hA1 := hA
  rw [Try.params10] at hA hval
  obtain ⟨v0, vs0, d0, ds0, p0, q0, hargs, rfl, rfl, h0, r0⟩ := trodAll_cons hA
  obtain ⟨v1, vs1, d1, ds1, p1, q1, rfl, rfl, rfl, h1, r1⟩ := trodAll_cons r0
  obtain ⟨v2, vs2, d2, ds2, p2, q2, rfl, rfl, rfl, h2, r2⟩ := trodAll_cons r1
  obtain ⟨rfl, rfl, rfl⟩ := trodAll_nil r2
  obtain rfl : args = #[v0, v1, v2] := by cases args; simp_all
  obtain ⟨rfl, rfl⟩ := trodVars_none hV
  obtain ⟨n, rfl, rfl, rfl, w0⟩ := open_int Try.underlying5 (hval 0 5 v0 rfl rfl) h0
  obtain ⟨a0, len, cap, rfl⟩ := okWide_slice Try.underlying123 (hval 1 123 v1 rfl rfl)
  obtain ⟨fuel, hf⟩ := h1
  obtain ⟨ps, hin, hfr⟩ := fr_open 2 Try.underlying123 cells (by decide) read hf
  obtain ⟨ky, rfl⟩ := okWide_string Try.underlying9 (hval 2 9 v2 rfl rfl)
  obtain ⟨fuel2, hf2⟩ := h2
  obtain ⟨ky2, e2, ey, hks⟩ := DataW.trod_string Try.underlying9 hf2
  have e3 : ky = ky2 := by simpa [Value.cells] using e2
  subst e3
  clear e2 ey
  clear hA0 hval0
  refine (walk n w0 _ ps ky hks W hfr hin).mono fun e W' ⟨he, hg⟩ => ?_
  subst he
  exact ⟨_, rfl, post_args (pv := []) hW' (fun _ _ _ => trodAll_cons_mk (shut_bool Try.underlying4 _) trodAll_mk0) (trodAll_below laidOut hg (by kernel_rfl) hA1 (fun x hx => hW'.lt x (List.mem_append.2 (.inl hx)))) rfl rfl hg⟩

theorem over : Rows.getFindsRow.holds Try.pinned (OpenSpec.ofChange Rows.getFindsSpec) :=
  OpenClaim.holds_of_wide 10 Try.f10 rfl rfl rfl rfl rfl rfl rfl ⟨rfl, rfl, rfl, rfl, rfl⟩ rfl rfl rfl rfl rfl (by kernel_rfl) Try.func10 (by kernel_rfl)
    (of_decide_eq_true (by kernel_rfl)) (by unfold Func.isWrapper; first | (rw [if_pos (by decide +kernel)]; kernel_rfl) | (rw [if_neg (by decide +kernel)]; exact ⟨rfl, rfl⟩))
    (fun os started H enc _ => lifted os started H enc)

theorem proved : Rows.GetFindsSaid :=
  over
#print axioms proved
end Go.Proofs.Ytkknmecmhefofaa.getFinds
