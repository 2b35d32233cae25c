/- ArenaStale: for every input the Go function quietuslaw04.ArenaStale returns true, and its arguments read behind the call as before. No condition. -/
import Derived.Test.YtcoaemjoanbemaaRows
import Derived.Test.YtcoaemjoanbemaaRw
import Derived.Test.YtcoaemjoanbemaaLt04
import Derived.WalkKit
import Derived.ProofKit
import Derived.OpenShut
import Derived.SizedLaws
namespace Go.Proofs.Ytcoaemjoanbemaa.arenaStale
open Go.ChangeShapes Go.WideShapes Go.ChangeAt Go.RowKit

theorem own : ownKnob Try.prog.godebug = none := by kernel_rfl
theorem laidOut : laidOutB Try.prog = true := by kernel_rfl

theorem cells : Try.prog.cellsOf 4 = 1 := by kernel_rfl
theorem read {H : Type} {enc : TypeId × Value → H} {w : World} {base : Nat} {spare : Nat → Bool} {held : Bool} (n : Nat) (cs : List Value) (y : DataW H × List MemPlace) (h : DataW.trod enc Try.prog w base spare held n 4 cs = some y) :
    ∃ x : Bool, cs = [Value.bool x] ∧ True := by
  obtain ⟨k, e0, _⟩ := DataW.trod_bool Try.underlying4 h
  exact ⟨k, e0, trivial⟩
theorem walk (n : Int) (wn : (Lit.int .u8 n).wf = true) (v : Value) (acts : List Bool) (w : World) (hv : FrAt w w.heap.size 1 v (acts.map fun x => [Value.bool x])) :
    Calls Try.prog 3 #[.int .u8 n, v] w fun e w' => e = .returned (.bool true) ∧ Below w.heap.size w w' := by
  have hb := u8_bounds wn
  obtain ⟨room, rfl⟩ := Int.eq_ofNat_of_zero_le hb.1
  by_cases h0 : room = 0
  · subst h0
    obtain ⟨a, cap, rfl, _⟩ := hv
    exact law04_staleNone a _ cap w
  · by_cases hl : acts.length ≤ 200
    · exact law04_stale room (by omega) (by omega) v acts w hv hl
    · obtain ⟨a, cap, rfl, hb2, _⟩ := hv
      exact law04_staleMany room (by omega) (by omega) a _ cap (by rw [List.length_map]; omega) hb2 w

set_option maxRecDepth 100000 in
theorem lifted (os : Os) (started : os.Started) (H : Type) (enc : TypeId × Value → H) :
    ReturnsInHanded {} Try.checked os 3 .any (Rows.arenaStaleSpec.pre6 enc Try.prog Try.f3 Rows.arenaStaleRow.domain false) (Rows.arenaStaleSpec.post enc Try.prog Try.f3 false true false false) := by
  refine returnsInHanded_of_change (C := Try.checked) own started (by kernel_rfl) Try.func3
    (ChangeSpec.witness6 (enc := enc) (C := Try.checked) false ⟨#[], #[.int .u8 0, .slice none 0 0], []⟩ 8 (by kernel_rfl) (by kernel_rfl) (by kernel_rfl) (by kernel_rfl)) ?_
  intro W base args ds gs before hval0 hW hcnd _
  have hval : ∀ (j : Nat) t v, Try.f3.params[j]? = some t → args[j]? = some v → Value.okWide Try.prog W .any base t v := hval0
  have hW' := hW
  obtain ⟨p, q, hA0, hV, rfl, hfz, hnd⟩ := hW
  have hA : DataW.TrodAll enc Try.prog W 0 (fun _ => true) true Try.f3.params.toList args.toList ds p := hA0
  have hA1 := hA
  rw [Try.params3] at hA hval
  obtain ⟨v0, vs0, d0, ds0, p0, q0, hargs, rfl, rfl, h0, r0⟩ := trodAll_cons hA
  obtain ⟨v1, vs1, d1, ds1, p1, q1, rfl, rfl, rfl, h1, r1⟩ := trodAll_cons r0
  obtain ⟨rfl, rfl, rfl⟩ := trodAll_nil r1
  obtain rfl : args = #[v0, v1] := by cases args; simp_all
  obtain ⟨rfl, rfl⟩ := trodVars_none hV
  obtain ⟨n, rfl, rfl, rfl, w0⟩ := open_int Try.underlying5 (hval 0 5 v0 rfl rfl) h0
  obtain ⟨a0, len, cap, rfl⟩ := okWide_slice Try.underlying22 (hval 1 22 v1 rfl rfl)
  obtain ⟨fuel, hf⟩ := h1
  obtain ⟨acts, _, hfr⟩ := fr_open 1 Try.underlying22 cells (by decide) read hf
  clear hA0 hval0
  refine (walk n w0 _ acts W hfr).mono fun e W' ⟨he, hg⟩ => ?_
  subst he
  exact ⟨_, rfl, post_args (pv := []) hW' (fun _ _ _ => trodAll_cons_mk (shut_bool Try.underlying4 _) trodAll_mk0) (trodAll_below laidOut hg (by kernel_rfl) hA1 (fun x hx => hW'.lt x (List.mem_append.2 (.inl hx)))) rfl rfl hg⟩

theorem over : Rows.arenaStaleRow.holds Try.pinned (OpenSpec.ofChange Rows.arenaStaleSpec) :=
  OpenClaim.holds_of_wide 3 Try.f3 rfl rfl rfl rfl rfl rfl rfl ⟨rfl, rfl, rfl, rfl, rfl⟩ rfl rfl rfl rfl rfl (by kernel_rfl) Try.func3 (by kernel_rfl)
    (of_decide_eq_true (by kernel_rfl)) (by unfold Func.isWrapper; first | (rw [if_pos (by decide +kernel)]; kernel_rfl) | (rw [if_neg (by decide +kernel)]; exact ⟨rfl, rfl⟩))
    (fun os started H enc _ => lifted os started H enc)

theorem proved : Rows.ArenaStaleSaid :=
  over
#print axioms proved
end Go.Proofs.Ytcoaemjoanbemaa.arenaStale
