/- MemPlays: for every input the Go function quietuslaw05.MemPlays returns true, and its arguments read behind the call as before. No condition. -/
import Derived.Test.YtcoaemjoanbemaaRows
import Derived.Test.YtcoaemjoanbemaaRw
import Derived.Test.YtcoaemjoanbemaaLi05
import Derived.WalkKit
import Derived.ProofKit
import Derived.OpenShut
import Derived.SizedLaws
namespace Go.Proofs.Ytcoaemjoanbemaa.memPlays
open Go.ChangeShapes Go.WideShapes Go.ChangeAt Go.RowKit

theorem own : ownKnob Try.prog.godebug = none := by kernel_rfl
theorem laidOut : laidOutB Try.prog = true := by kernel_rfl

theorem cells : Try.prog.cellsOf 56 = 4 := by kernel_rfl
theorem u8_bounds {a : Int} (h : (Lit.int .u8 a).wf = true) : 0 ≤ a ∧ a ≤ 255 := by
  simp [Lit.wf, IntKind.min, IntKind.max, IntKind.signed, IntKind.bits] at h
  exact ⟨by omega, by omega⟩
theorem read {H : Type} {enc : TypeId × Value → H} {w : World} {base : Nat} {spare : Nat → Bool} {held : Bool} (n : Nat) (cs : List Value) (y : DataW H × List MemPlace) (h : DataW.trod enc Try.prog w base spare held n 56 cs = some y) :
    ∃ x : Act05, cs = act05 x ∧ okAct05 x := by
  obtain ⟨hl, hf⟩ := read_fields Try.underlying56 (by kernel_rfl) cells h
  match cs, hl with
  | [c0, c1, c2, c3], _ =>
    obtain ⟨_, _, h0⟩ := hf 0 _ rfl c0 rfl
    obtain ⟨_, _, h1⟩ := hf 1 _ rfl c1 rfl
    obtain ⟨_, _, h2⟩ := hf 2 _ rfl c2 rfl
    obtain ⟨_, _, h3⟩ := hf 3 _ rfl c3 rfl
    obtain ⟨k, e0, _, w0⟩ := DataW.trod_int Try.underlying5 h0
    obtain ⟨i, e1, _, w1⟩ := DataW.trod_int Try.underlying3 h1
    obtain ⟨u, e2, _, w2⟩ := DataW.trod_int Try.underlying5 h2
    obtain ⟨z, e3, _, w3⟩ := DataW.trod_int Try.underlying5 h3
    simp at e0 e1 e2 e3
    subst e0 e1 e2 e3
    exact ⟨⟨k, i, u, z⟩, rfl, u8_bounds w0, i64_bounds w1, u8_bounds w2, u8_bounds w3⟩
theorem walk (n : Int) (v : Value) (acts : List Act05) (w : World) (hv : FrAt w w.heap.size 4 v (acts.map act05)) (hin : ∀ x ∈ acts, okAct05 x) :
    Calls Try.prog 4 #[.int .i64 n, v] w fun e w' => e = .returned (.bool true) ∧ Below w.heap.size w w' := by
  by_cases hl : acts.length ≤ 60
  · by_cases hn : 1 ≤ n ∧ n ≤ 8
    · obtain ⟨k, rfl⟩ := Int.eq_ofNat_of_zero_le (show 0 ≤ n by omega)
      exact law05_plays k (by omega) (by omega) v acts w hv hin hl
    · obtain ⟨a, cap, rfl, _⟩ := hv
      exact law05_range n a _ cap (by rw [List.length_map]; omega) (by omega) w
  · obtain ⟨a, cap, rfl, hb, _⟩ := hv
    exact law05_many n a _ cap (by rw [List.length_map]; omega) hb w

set_option maxRecDepth 100000 in
theorem lifted (os : Os) (started : os.Started) (H : Type) (enc : TypeId × Value → H) :
    ReturnsInHanded {} Try.checked os 4 .any (Rows.memPlaysSpec.pre6 enc Try.prog Try.f4 Rows.memPlaysRow.domain false) (Rows.memPlaysSpec.post enc Try.prog Try.f4 false true false false) := by
  refine returnsInHanded_of_change (C := Try.checked) own started (by kernel_rfl) Try.func4
    (ChangeSpec.witness6 (enc := enc) (C := Try.checked) false ⟨#[], #[.int .i64 0, .slice none 0 0], []⟩ 8 (by kernel_rfl) (by kernel_rfl) (by kernel_rfl) (by kernel_rfl)) ?_
  intro W base args ds gs before hval0 hW hcnd _
  have hval : ∀ (j : Nat) t v, Try.f4.params[j]? = some t → args[j]? = some v → Value.okWide Try.prog W .any base t v := hval0
  have hW' := hW
  obtain ⟨p, q, hA0, hV, rfl, hfz, hnd⟩ := hW
  have hA : DataW.TrodAll enc Try.prog W 0 (fun _ => true) true Try.f4.params.toList args.toList ds p := hA0
  have hA1 := hA
  rw [Try.params4] at hA hval
  obtain ⟨v0, vs0, d0, ds0, p0, q0, hargs, rfl, rfl, h0, r0⟩ := trodAll_cons hA
  obtain ⟨v1, vs1, d1, ds1, p1, q1, rfl, rfl, rfl, h1, r1⟩ := trodAll_cons r0
  obtain ⟨rfl, rfl, rfl⟩ := trodAll_nil r1
  obtain rfl : args = #[v0, v1] := by cases args; simp_all
  obtain ⟨rfl, rfl⟩ := trodVars_none hV
  obtain ⟨n, rfl, rfl, rfl, w0⟩ := open_int Try.underlying3 (hval 0 3 v0 rfl rfl) h0
  obtain ⟨a0, len, cap, rfl⟩ := okWide_slice Try.underlying41 (hval 1 41 v1 rfl rfl)
  obtain ⟨fuel, hf⟩ := h1
  obtain ⟨acts, hin, hfr⟩ := fr_open 4 Try.underlying41 cells (by decide) read hf
  clear hA0 hval0
  refine (walk n _ acts W hfr hin).mono fun e W' ⟨he, hg⟩ => ?_
  subst he
  exact ⟨_, rfl, post_args (pv := []) hW' (fun _ _ _ => trodAll_cons_mk (shut_bool Try.underlying4 _) trodAll_mk0) (trodAll_below laidOut hg (by kernel_rfl) hA1 (fun x hx => hW'.lt x (List.mem_append.2 (.inl hx)))) rfl rfl hg⟩

theorem over : Rows.memPlaysRow.holds Try.pinned (OpenSpec.ofChange Rows.memPlaysSpec) :=
  OpenClaim.holds_of_wide 4 Try.f4 rfl rfl rfl rfl rfl rfl rfl ⟨rfl, rfl, rfl, rfl, rfl⟩ rfl rfl rfl rfl rfl (by kernel_rfl) Try.func4 (by kernel_rfl)
    (of_decide_eq_true (by kernel_rfl)) (by unfold Func.isWrapper; first | (rw [if_pos (by decide +kernel)]; kernel_rfl) | (rw [if_neg (by decide +kernel)]; exact ⟨rfl, rfl⟩))
    (fun os started H enc _ => lifted os started H enc)

theorem proved : Rows.MemPlaysSaid :=
  over
#print axioms proved
end Go.Proofs.Ytcoaemjoanbemaa.memPlays
