/- DelPlays: for every input the Go function quietuslaw12.DelPlays returns true, and its arguments read behind the call as before. No condition. -/
import Derived.Test.YtcgfknpobifecaaGreatRows
import Derived.Test.YtcgfknpobifecaaGreatRw
import Derived.Test.YtcgfknpobifecaaGreatLh11m
import Derived.WalkKit
import Derived.ProofKit
import Derived.OpenShut
import Derived.SizedLaws
namespace Go.Proofs.YtcgfknpobifecaaGreat.delPlays
open Go.ChangeShapes Go.WideShapes Go.ChangeAt Go.RowKit

theorem own : ownKnob Tryz.prog.godebug = none := by kernel_rfl
theorem laidOut : laidOutB Tryz.prog = true := by kernel_rfl

theorem cells : Tryz.prog.cellsOf 62 = 3 := by kernel_rfl
theorem cbool : Tryz.prog.cellsOf 4 = 1 := by kernel_rfl
theorem cstr : Tryz.prog.cellsOf 9 = 1 := by kernel_rfl
theorem reach : reachBytes ≤ 140737488355328 := by decide
set_option maxRecDepth 100000 in
theorem read {H : Type} {enc : TypeId × Value → H} {w : World} {base : Nat} {spare : Nat → Bool} {held : Bool} (n : Nat) (cs : List Value) (y : DataW H × List MemPlace) (h : DataW.trod enc Tryz.prog w base spare held n 62 cs = some y)
    (hz : ∀ z ∈ y.1.weights Tryz.prog 62, z ≤ reachBytes) : ∃ x : Ak, cs = ak12 x ∧ okAk x := by
  obtain ⟨xs, m, _, hy, hl, hxl, hf⟩ := DataW.trod_struct Tryz.underlying62 h
  rw [cells] at hl
  match cs, hl with
  | [c0, c1, c2], _ =>
    match xs, hxl with
    | [y0, y1, y2], _ =>
      have h0 : DataW.trod enc Tryz.prog w base spare held m 4 (List.take (Tryz.prog.cellsOf 4) (List.drop 0 [c0, c1, c2])) = some y0 := hf 0 _ rfl
      rw [cbool] at h0
      have h1 : DataW.trod enc Tryz.prog w base spare held m 9 (List.take (Tryz.prog.cellsOf 9) (List.drop 1 [c0, c1, c2])) = some y1 := hf 1 _ rfl
      rw [cstr] at h1
      have h2 : DataW.trod enc Tryz.prog w base spare held m 9 (List.take (Tryz.prog.cellsOf 9) (List.drop 2 [c0, c1, c2])) = some y2 := hf 2 _ rfl
      rw [cstr] at h2
      obtain ⟨bo, eb, exb⟩ := DataW.trod_bool Tryz.underlying4 h0
      obtain ⟨ky, e0, ey, _⟩ := DataW.trod_string Tryz.underlying9 h1
      obtain ⟨vl, e1, ez, _⟩ := DataW.trod_string Tryz.underlying9 h2
      simp at eb e0 e1
      subst eb e0 e1 ey ez hy
      have hs := hz ky.data.toList.length (by simp [DataW.weights, Tryz.underlying62, DataW.weightsEach])
      have ht := hz vl.data.toList.length (by simp [DataW.weights, Tryz.underlying62, DataW.weightsEach])
      exact ⟨⟨bo, ky, vl⟩, rfl, Nat.le_trans (by simpa using hs) reach, Nat.le_trans (by simpa using ht) reach⟩
theorem readB {H : Type} {enc : TypeId × Value → H} {w : World} {base : Nat} {spare : Nat → Bool} {held : Bool} (n : Nat) (cs : List Value) (y : DataW H × List MemPlace) (h : DataW.trod enc Tryz.prog w base spare held n 4 cs = some y) :
    ∃ x : Bool, cs = [Value.bool x] ∧ True := by
  obtain ⟨k, e0, _⟩ := DataW.trod_bool Tryz.underlying4 h
  exact ⟨k, e0, trivial⟩
set_option maxRecDepth 100000 in
theorem capOk {w : World} {r : Reach} {base : Nat} {a : Option Addr} {len cap : Nat} (h : Value.okWide Tryz.prog w r base 60 (.slice a len cap)) : len ≤ cap ∧ cap ≤ 9223372036854775807 := by
  simp only [Value.okWide, Tryz.underlying60, Cell.okWide] at h
  cases a with
  | none =>
    by_cases h0 : len = 0 ∧ cap = 0
    · omega
    · exfalso
      unfold Cell.ok at h
      simp only [Tryz.underlying60] at h
      split at h <;> simp_all
  | some a =>
    unfold Cell.ok at h
    simp only [Tryz.underlying60] at h
    have h2 : (cap : Int) ≤ 9223372036854775807 := h.2.1
    exact ⟨h.1, by omega⟩
theorem walk (c : Int) (wc : (Lit.int .u8 c).wf = true) (a : Option Addr) (len cap : Nat) (hcp : len ≤ cap ∧ cap ≤ 9223372036854775807) (fv : Value) (ls : List Ak) (frees : List Bool) (w : World) (hv : FrAt w w.heap.size 3 (.slice a len cap) (ls.map ak12)) (hin : ∀ x ∈ ls, okAk x) (hf : FrAt w w.heap.size 1 fv (frees.map fun x => [Value.bool x])) :
    Calls Tryz.prog 4 #[.int .u8 c, .slice a len cap, fv] w fun e w' => e = .returned (.bool true) ∧ Below w.heap.size w w' := by
  have hc := u8_bounds wc
  by_cases hl : ls.length ≤ 50 ∧ frees.length ≤ 50
  · exact law12_plays c hc.1 _ fv a len cap rfl hcp.1 hcp.2 ls frees w hv hf hin hl.1 hl.2
  · obtain ⟨a2, cap2, e2, hb2, _⟩ := hv
    obtain ⟨fa, fcap, rfl, hb3, _⟩ := hf
    rw [List.length_map] at e2
    simp at e2
    obtain ⟨rfl, rfl, rfl⟩ := e2
    rw [List.length_map] at hb2
    exact law12_many c a fa _ cap _ fcap (by rw [List.length_map]; omega) hb2 hb3 w

set_option maxRecDepth 100000 in
theorem lifted (os : Os) (started : os.Started) (H : Type) (enc : TypeId × Value → H) :
    ReturnsInHanded {} Tryz.checked os 4 .any (Rows.delPlaysSpec.pre6 enc Tryz.prog Tryz.f4 Rows.delPlaysRow.domain false) (Rows.delPlaysSpec.post enc Tryz.prog Tryz.f4 false true false false) := by
  refine returnsInHanded_of_change_sized (C := Tryz.checked) own started (by kernel_rfl) Tryz.func4
    (ChangeSpec.witness6 (enc := enc) (C := Tryz.checked) false ⟨#[], #[.int .u8 0, .slice none 0 0, .slice none 0 0], []⟩ 8 (by kernel_rfl) (by kernel_rfl) (by kernel_rfl) (by kernel_rfl)) ?_
  intro W base args ds gs before hval0 hW hcnd hsz _
  have hval : ∀ (j : Nat) t v, Tryz.f4.params[j]? = some t → args[j]? = some v → Value.okWide Tryz.prog W .any base t v := hval0
  have hW' := hW
  obtain ⟨p, q, hA0, hV, rfl, hfz, hnd⟩ := hW
  have hA : DataW.TrodAll enc Tryz.prog W 0 (fun _ => true) true Tryz.f4.params.toList args.toList ds p := hA0
  have hA1 := hA
  rw [Tryz.params4] at hA hval
  obtain ⟨v0, vs0, d0, ds0, p0, q0, hargs, rfl, rfl, h0, r0⟩ := trodAll_cons hA
  obtain ⟨v1, vs1, d1, ds1, p1, q1, rfl, rfl, rfl, h1, r1⟩ := trodAll_cons r0
  obtain ⟨v2, vs2, d2, ds2, p2, q2, rfl, rfl, rfl, h2, r2⟩ := trodAll_cons r1
  obtain ⟨rfl, rfl, rfl⟩ := trodAll_nil r2
  obtain rfl : args = #[v0, v1, v2] := by cases args; simp_all
  obtain ⟨rfl, rfl⟩ := trodVars_none hV
  have hw0 : ∀ z ∈ d0.weights Tryz.prog (Tryz.f4.params.getD 0 0), z ≤ reachBytes := fun z hz => by simpa using List.all_eq_true.1 hsz z (DataW.weights_mem_each (j := 0) rfl rfl z hz)
  have hw1 : ∀ z ∈ d1.weights Tryz.prog (Tryz.f4.params.getD 1 0), z ≤ reachBytes := fun z hz => by simpa using List.all_eq_true.1 hsz z (DataW.weights_mem_each (j := 1) rfl rfl z hz)
  have hw2 : ∀ z ∈ d2.weights Tryz.prog (Tryz.f4.params.getD 2 0), z ≤ reachBytes := fun z hz => by simpa using List.all_eq_true.1 hsz z (DataW.weights_mem_each (j := 2) rfl rfl z hz)
  obtain ⟨c, rfl, rfl, rfl, wc⟩ := open_int Tryz.underlying5 (hval 0 5 v0 rfl rfl) h0
  obtain ⟨a0, len, cap, rfl⟩ := okWide_slice Tryz.underlying60 (hval 1 60 v1 rfl rfl)
  have hcp := capOk (hval 1 60 _ rfl rfl)
  obtain ⟨fuel, hf⟩ := h1
  obtain ⟨ls, hin, hfr⟩ := fr_open_sized 3 Tryz.underlying60 (x := (d1, p1)) cells (by decide) read hw1 hf
  obtain ⟨a1, len1, cap1, rfl⟩ := okWide_slice Tryz.underlying23 (hval 2 23 v2 rfl rfl)
  obtain ⟨fuel3, hf3⟩ := h2
  obtain ⟨frees, _, hfr3⟩ := fr_open 1 Tryz.underlying23 cbool (by decide) readB hf3
  clear hw0 hw1 hw2
  clear hA0 hval0
  refine (walk c wc _ _ _ hcp _ ls frees W hfr hin hfr3).mono fun e W' ⟨he, hg⟩ => ?_
  subst he
  exact ⟨_, rfl, post_args (pv := []) hW' (fun _ _ _ => trodAll_cons_mk (shut_bool Tryz.underlying4 _) trodAll_mk0) (trodAll_below laidOut hg (by kernel_rfl) hA1 (fun x hx => hW'.lt x (List.mem_append.2 (.inl hx)))) rfl rfl hg⟩

theorem over : Rows.delPlaysRow.holds Tryz.pinned (OpenSpec.ofChange Rows.delPlaysSpec) :=
  OpenClaim.holds_of_wide 4 Tryz.f4 rfl rfl rfl rfl rfl rfl rfl ⟨rfl, rfl, rfl, rfl, rfl⟩ rfl rfl rfl rfl rfl (by kernel_rfl) Tryz.func4 (by kernel_rfl)
    (of_decide_eq_true (by kernel_rfl)) (by unfold Func.isWrapper; first | (rw [if_pos (by decide +kernel)]; kernel_rfl) | (rw [if_neg (by decide +kernel)]; exact ⟨rfl, rfl⟩))
    (fun os started H enc _ => lifted os started H enc)

theorem proved : Rows.DelPlaysSaid :=
  over
#print axioms proved
end Go.Proofs.YtcgfknpobifecaaGreat.delPlays
