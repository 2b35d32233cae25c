/- ArenaPlays: for every input the Go function quietuslaw04.ArenaPlays returns true, and its arguments read behind the call as before. No condition. -/
import Derived.Test.YthfnbklloahdkaaRows
import Derived.Test.YthfnbklloahdkaaRw
import Derived.Test.YthfnbklloahdkaaAy
import Derived.WalkKit
import Derived.ProofKit
import Derived.OpenShut
namespace Go.Proofs.Ythfnbklloahdkaa.arenaPlays
open Go.ChangeShapes Go.WideShapes Go.ChangeAt Go.RowKit

theorem own : ownKnob Try.prog.godebug = none := by kernel_rfl
theorem laidOut : laidOutB Try.prog = true := by kernel_rfl

theorem cells : Try.prog.cellsOf 86 = 8 := by kernel_rfl
theorem cu8 : Try.prog.cellsOf 5 = 1 := by kernel_rfl
theorem cbool : Try.prog.cellsOf 4 = 1 := by kernel_rfl
theorem cu64 : Try.prog.cellsOf 51 = 1 := by kernel_rfl
theorem cnode : Try.prog.cellsOf 78 = 4 := by kernel_rfl
theorem readNode {H : Type} {enc : TypeId × Value → H} {w : World} {base : Nat} {spare : Nat → Bool} {held : Bool} (n : Nat) (cs : List Value) (y : DataW H × List MemPlace) (h : DataW.trod enc Try.prog w base spare held n 78 cs = some y) :
    ∃ x : Nd, cs = ndL x := by
  obtain ⟨hl, hf⟩ := read_fields Try.underlying78 (by kernel_rfl) cnode h
  match cs, hl with
  | [c0, c1, c2, c3], _ =>
    obtain ⟨_, _, h0⟩ := hf 0 _ rfl c0 rfl
    obtain ⟨_, _, h1⟩ := hf 1 _ rfl c1 rfl
    obtain ⟨_, _, h2⟩ := hf 2 _ rfl c2 rfl
    obtain ⟨_, _, h3⟩ := hf 3 _ rfl c3 rfl
    obtain ⟨k, e0, _⟩ := DataW.trod_string Try.underlying9 h0
    obtain ⟨v, e1, _⟩ := DataW.trod_string Try.underlying9 h1
    obtain ⟨s, e2, _, _⟩ := DataW.trod_int Try.underlying62 h2
    obtain ⟨z, e3, _, _⟩ := DataW.trod_int Try.underlying74 h3
    simp at e0 e1 e2 e3
    subst e0 e1 e2 e3
    exact ⟨⟨k, v, s, z⟩, rfl⟩
set_option maxRecDepth 100000 in
theorem read {H : Type} {enc : TypeId × Value → H} {w : World} {base : Nat} {spare : Nat → Bool} {held : Bool} (n : Nat) (cs : List Value) (y : DataW H × List MemPlace) (h : DataW.trod enc Try.prog w base spare held n 86 cs = some y) :
    ∃ x : Act04, cs = act04 x ∧ okAct04 x := by
  obtain ⟨xs, m, _, _, hl, hxl, hf⟩ := DataW.trod_struct Try.underlying86 h
  rw [cells] at hl
  match cs, hl with
  | [c0, c1, c2, c3, c4, c5, c6, c7], _ =>
    match xs, hxl with
    | [y0, y1, y2, y3, y4], _ =>
      have h0 : DataW.trod enc Try.prog w base spare held m 5 (List.take (Try.prog.cellsOf 5) (List.drop 0 [c0, c1, c2, c3, c4, c5, c6, c7])) = some y0 := hf 0 _ rfl
      rw [cu8] at h0
      have h1 : DataW.trod enc Try.prog w base spare held m 4 (List.take (Try.prog.cellsOf 4) (List.drop 1 [c0, c1, c2, c3, c4, c5, c6, c7])) = some y1 := hf 1 _ rfl
      rw [cbool] at h1
      have h2 : DataW.trod enc Try.prog w base spare held m 5 (List.take (Try.prog.cellsOf 5) (List.drop 2 [c0, c1, c2, c3, c4, c5, c6, c7])) = some y2 := hf 2 _ rfl
      rw [cu8] at h2
      have h3 : DataW.trod enc Try.prog w base spare held m 51 (List.take (Try.prog.cellsOf 51) (List.drop 3 [c0, c1, c2, c3, c4, c5, c6, c7])) = some y3 := hf 3 _ rfl
      rw [cu64] at h3
      have h4 : DataW.trod enc Try.prog w base spare held m 78 (List.take (Try.prog.cellsOf 78) (List.drop 4 [c0, c1, c2, c3, c4, c5, c6, c7])) = some y4 := hf 4 _ rfl
      rw [cnode] at h4
      obtain ⟨kd, e0, _, w0⟩ := DataW.trod_int Try.underlying5 h0
      obtain ⟨rw_, e1, _⟩ := DataW.trod_bool Try.underlying4 h1
      obtain ⟨kk, e2, _, w2⟩ := DataW.trod_int Try.underlying5 h2
      obtain ⟨hh, e3, _, w3⟩ := DataW.trod_int Try.underlying51 h3
      obtain ⟨nd, e4⟩ := readNode _ _ _ h4
      simp [ndL] at e0 e1 e2 e3 e4
      obtain ⟨rfl, rfl, rfl, rfl⟩ := e4
      subst e0 e1 e2 e3
      exact ⟨⟨kd, rw_, kk, hh, nd⟩, rfl, u8_bounds w0, u8_bounds w2, u64_bounds w3⟩
theorem walk (n : Int) (v : Value) (acts : List Act04) (w : World) (hv : FrAt w w.heap.size 8 v (acts.map act04)) (hin : ∀ x ∈ acts, okAct04 x) :
    Calls Try.prog 9 #[.int .i64 n, v] w fun e w' => e = .returned (.bool true) ∧ Below w.heap.size w w' := by
  by_cases hl : acts.length ≤ 120
  · by_cases hn : 1 ≤ n ∧ n ≤ 1024
    · obtain ⟨k, rfl⟩ := Int.eq_ofNat_of_zero_le (show 0 ≤ n by omega)
      exact law04_play k v acts w hv hin (by omega) (by omega) hl
    · obtain ⟨a, cap, rfl, _⟩ := hv
      exact law04_range n a _ cap (by rw [List.length_map]; omega) (by omega) w
  · obtain ⟨a, cap, rfl, hb, _⟩ := hv
    exact law04_many n a _ cap (by rw [List.length_map]; omega) hb w

set_option maxRecDepth 100000 in
theorem lifted (os : Os) (started : os.Started) (H : Type) (enc : TypeId × Value → H) :
    ReturnsInHanded {} Try.checked os 9 .any (Rows.arenaPlaysSpec.pre6 enc Try.prog Try.f9 Rows.arenaPlaysRow.domain false) (Rows.arenaPlaysSpec.post enc Try.prog Try.f9 false true false false) := by
  refine returnsInHanded_of_change (C := Try.checked) own started (by kernel_rfl) Try.func9
    (ChangeSpec.witness6 (enc := enc) (C := Try.checked) false ⟨#[], #[.int .i64 0, .slice none 0 0], []⟩ 8 (by kernel_rfl) (by kernel_rfl) (by kernel_rfl) (by kernel_rfl)) ?_
  intro W base args ds gs before hval0 hW hcnd _
  have hval : ∀ (j : Nat) t v, Try.f9.params[j]? = some t → args[j]? = some v → Value.okWide Try.prog W .any base t v := hval0
  have hW' := hW
  obtain ⟨p, q, hA0, hV, rfl, hfz, hnd⟩ := hW
  have hA : DataW.TrodAll enc Try.prog W 0 (fun _ => true) true Try.f9.params.toList args.toList ds p := hA0
  have hA1 := hA
  rw [Try.params9] at hA hval
  obtain ⟨v0, vs0, d0, ds0, p0, q0, hargs, rfl, rfl, h0, r0⟩ := trodAll_cons hA
  obtain ⟨v1, vs1, d1, ds1, p1, q1, rfl, rfl, rfl, h1, r1⟩ := trodAll_cons r0
  obtain ⟨rfl, rfl, rfl⟩ := trodAll_nil r1
  obtain rfl : args = #[v0, v1] := by cases args; simp_all
  obtain ⟨rfl, rfl⟩ := trodVars_none hV
  obtain ⟨n, rfl, rfl, rfl, w0⟩ := open_int Try.underlying3 (hval 0 3 v0 rfl rfl) h0
  obtain ⟨a0, len, cap, rfl⟩ := okWide_slice Try.underlying82 (hval 1 82 v1 rfl rfl)
  obtain ⟨fuel, hf⟩ := h1
  obtain ⟨acts, hin, hfr⟩ := fr_open 8 Try.underlying82 cells (by decide) read hf
  clear hA0 hval0
  refine (walk n _ acts W hfr hin).mono fun e W' ⟨he, hg⟩ => ?_
  subst he
  exact ⟨_, rfl, post_args (pv := []) hW' (fun _ _ _ => trodAll_cons_mk (shut_bool Try.underlying4 _) trodAll_mk0) (trodAll_below laidOut hg (by kernel_rfl) hA1 (fun x hx => hW'.lt x (List.mem_append.2 (.inl hx)))) rfl rfl hg⟩

theorem over : Rows.arenaPlaysRow.holds Try.pinned (OpenSpec.ofChange Rows.arenaPlaysSpec) :=
  OpenClaim.holds_of_wide 9 Try.f9 rfl rfl rfl rfl rfl rfl rfl ⟨rfl, rfl, rfl, rfl, rfl⟩ rfl rfl rfl rfl rfl (by kernel_rfl) Try.func9 (by kernel_rfl)
    (of_decide_eq_true (by kernel_rfl)) (by unfold Func.isWrapper; first | (rw [if_pos (by decide +kernel)]; kernel_rfl) | (rw [if_neg (by decide +kernel)]; exact ⟨rfl, rfl⟩))
    (fun os started H enc _ => lifted os started H enc)

theorem proved : Rows.ArenaPlaysSaid :=
  over
#print axioms proved
end Go.Proofs.Ythfnbklloahdkaa.arenaPlays
