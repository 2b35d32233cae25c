/- quietusref04: an arena by definition. Condition: the pointer leads to such blocks. -/
import Derived.Test.YthfnbklloahdkaaAr
namespace Go.Proofs.Ythfnbklloahdkaa
open Go.RowKit

theorem ndL_len (x : Nd) : (ndL x).length = 4 := rfl
def nodesL (ss : List Slot) : List Value := (ss.map Slot.nd).flatMap ndL
def usedL (ss : List Slot) : List Value := ss.map fun s => .bool s.used
def gensL (ss : List Slot) : List Value := ss.map fun s => .int .u64 s.gen

structure RefAt (o : Nat → Nat) (w : World) (t b : Nat) (v1 v2 v3 : Value) (ss : List Slot) (fault : Bool) : Prop where
  hdr : StAt o w t b #[v1, v2, v3, .bool fault] 98
  nodes : SlAt o w t 90 4 v1 ss.length (nodesL ss)
  used : SlAt o w t 4 1 v2 ss.length (usedL ss)
  gens : SlAt o w t 51 1 v3 ss.length (gensL ss)
theorem RefAt.ext {o o' : Nat → Nat} {w w' : World} {t b : Nat} {v1 v2 v3 : Value} {ss : List Slot} {fault : Bool} {S : Nat → Prop} (h : RefAt o w t b v1 v2 v3 ss fault) (e : Ext o o' w w' S) (h1 : ¬ S t) : RefAt o' w' t b v1 v2 v3 ss fault :=
  ⟨h.hdr.ext e h1, h.nodes.ext e h1, h.used.ext e h1, h.gens.ext e h1⟩

/-- What lies at place i. -/
theorem RefAt.at_ {o : Nat → Nat} {w : World} {t b : Nat} {v1 v2 v3 : Value} {ss : List Slot} {fault : Bool} (h : RefAt o w t b v1 v2 v3 ss fault) {i : Nat} (hi : i < ss.length) :
    ∃ g1 c1 r1 g2 c2 r2 g3 c3 r3, v1 = .slice (some ⟨g1, 0, none⟩) ss.length c1 ∧ v2 = .slice (some ⟨g2, 0, none⟩) ss.length c2 ∧ v3 = .slice (some ⟨g3, 0, none⟩) ss.length c3 ∧
      blk w g1 = some (.cells r1 90 (0, 0)) ∧ blk w g2 = some (.cells r2 4 (0, 0)) ∧ blk w g3 = some (.cells r3 51 (0, 0)) ∧ o g1 = t ∧ o g2 = t ∧ o g3 = t ∧
      c1 ≤ 9223372036854775807 ∧ c2 ≤ 9223372036854775807 ∧ c3 ≤ 9223372036854775807 ∧
      r1[i * 4]? = some (.string (ss.getD i slot0).nd.key) ∧ r1[i * 4 + 1]? = some (.string (ss.getD i slot0).nd.val) ∧ r1[i * 4 + 2]? = some (.int .u32 (ss.getD i slot0).nd.sum) ∧ r1[i * 4 + 3]? = some (.int .u64 (ss.getD i slot0).nd.next) ∧
      r2[i]? = some (.bool (ss.getD i slot0).used) ∧ r3[i]? = some (.int .u64 (ss.getD i slot0).gen) := by
  obtain ⟨g1, c1, r1, rfl, hg1, ho1, _, m1, _, h1⟩ := h.nodes.row (by omega)
  obtain ⟨g2, c2, r2, rfl, hg2, ho2, _, m2, _, h2⟩ := h.used.row (by omega)
  obtain ⟨g3, c3, r3, rfl, hg3, ho3, _, m3, _, h3⟩ := h.gens.row (by omega)
  simp only [maxLen] at m1 m2 m3
  have hgi : (ss.map Slot.nd)[i]? = some (ss.getD i slot0).nd := by simp [hi]
  have G : ∀ j, j < 4 → ∀ u, (ndL (ss.getD i slot0).nd)[j]? = some u → r1[i * 4 + j]? = some u := fun j hj u hu => cur_at h1 (by rw [nodesL, flat_get ndL 4 ndL_len _ _ _ hj, hgi]; exact hu)
  exact ⟨g1, c1, r1, g2, c2, r2, g3, c3, r3, rfl, rfl, rfl, hg1, hg2, hg3, ho1, ho2, ho3, by omega, by omega, by omega, G 0 (by decide) _ rfl, G 1 (by decide) _ rfl, G 2 (by decide) _ rfl, G 3 (by decide) _ rfl,
    cur_at h2 (by simp [usedL, hi]), cur_at h3 (by simp [gensL, hi])⟩
theorem RefAt.values {o : Nat → Nat} {w : World} {t b : Nat} {v1 v2 v3 : Value} {ss : List Slot} {fault : Bool} (h : RefAt o w t b v1 v2 v3 ss fault) : ∃ a1 c1 a2 c2 a3 c3, v1 = .slice a1 ss.length c1 ∧ v2 = .slice a2 ss.length c2 ∧ v3 = .slice a3 ss.length c3 := by
  have f : ∀ {T k n v cs}, SlAt o w t T k v n cs → ∃ a c, v = .slice a n c := fun {T k n v cs} h => by
    rcases h.2 with ⟨rfl, rfl⟩ | ⟨g, cap, cur, hv, _⟩
    · exact ⟨_, _, rfl⟩
    · exact ⟨_, _, hv⟩
  obtain ⟨a1, c1, e1⟩ := f h.nodes
  obtain ⟨a2, c2, e2⟩ := f h.used
  obtain ⟨a3, c3, e3⟩ := f h.gens
  exact ⟨a1, c1, a2, c2, a3, c3, e1, e2, e3⟩

section
variable {o : Nat → Nat} {w : World} {t b : Nat} {v1 v2 v3 : Value} {ss : List Slot} {fault : Bool}
set_option maxHeartbeats 800000 in
theorem ref04_at (A : RefAt o w t b v1 v2 v3 ss fault) (hl : ss.length ≤ 1024) (hg : GenOk ss 1000000) (h : Int) :
    Calls Try.prog 54 #[.pointer (some ⟨b, 0, none⟩), .int .u64 h] w fun e w' => e = .returned (.int .i64 (atA ss h)) ∧ w = w' := by
  have hb := A.hdr.heap
  obtain ⟨a1, c1, a2, c2, a3, c3, rfl, rfl, rfl⟩ := A.values
  go_enter Try.func54, Try.ntmps54
  go_wp2
  go_loopw [5] (fun i wr => ∃ k : Nat, k ≤ ss.length ∧ i = .int .i64 k ∧ wr = w ∧ ∀ j, j < k → (ss.getD j slot0).used = true → h ≠ j + 1 + 65536 * (ss.getD j slot0).gen) (fun i _ => ss.length - (intOf i).toNat)
  case atStart => exact ⟨0, Nat.zero_le _, rfl, rfl, fun j h => by omega⟩
  case round =>
    obtain ⟨k, hk, rfl, rfl, hno⟩ := hrel
    replace hno := hide hno
    by_cases hlt : k < ss.length
    · obtain ⟨g1, d1, r1, g2, d2, r2, g3, d3, r3, hv1, hv2, hv3, b1, b2, b3, _, _, _, m1, m2, m3, _, _, _, _, hu, hgn⟩ := A.at_ hlt
      simp at hv1 hv2 hv3
      obtain ⟨rfl, rfl⟩ := hv1
      obtain ⟨rfl, rfl⟩ := hv2
      obtain ⟨rfl, rfl⟩ := hv3
      have hgk := hg k
      have hof := hide fun hu hh => atA_of ss h hl k hlt hu hh
      cases huu : (ss.getD k slot0).used
      · rw [huu] at hu
        clear hgn
        replace huu := hide huu
        go_wp2
        go_roundw
        case rel => exact ⟨k + 1, by omega, by go_num, trivial, fun j hj hu' => by
          by_cases e : j = k
          · subst e; rw [huu.out] at hu'; cases hu'
          · exact hno.out j (by omega) hu'⟩
        case measure => simp [intOf]; omega
      · rw [huu] at hu
        replace huu := hide huu
        generalize hgen : (ss.getD k slot0).gen = gen at hgn hgk
        replace hgen := hide hgen
        obtain ⟨hg0, hg1⟩ := hgk
        have hmul : 0 ≤ 65536 * gen ∧ 65536 * gen ≤ 65536000000 := by omega
        generalize hm : 65536 * gen = gm at hmul
        obtain ⟨hm0, hm1⟩ := hmul
        by_cases heq : h = k + 1 + gm
        · subst heq
          go_wp2
          go_ret
          exact ⟨by rw [hof.out huu.out (by rw [hgen.out, hm])]; rfl, rfl⟩
        · have hne : (h == (k : Int) + 1 + gm) = false := by simpa using heq
          go_wp2
          go_roundw
          case rel => exact ⟨k + 1, by omega, by go_num, trivial, fun j hj hu' => by
            by_cases e : j = k
            · subst e; rw [hgen.out, hm]; exact heq
            · exact hno.out j (by omega) hu'⟩
          case measure => simp [intOf]; omega
    · have : k = ss.length := by omega
      subst this
      go_wp2
      go_ret
      exact ⟨by rw [atA_none ss h hno.out]; rfl, rfl⟩

theorem RefAt.raise {x : Bool} (A : RefAt o w t b v1 v2 v3 ss fault) : RefAt o (w.setCell ⟨b, 3, none⟩ (.bool x)) t b v1 v2 v3 ss x ∧ Ext o o w (w.setCell ⟨b, 3, none⟩ (.bool x)) (fun x => x = t) :=
  ⟨⟨A.hdr.put 3 (.bool x), A.nodes.put_far (A.nodes.apart A.hdr.heap (by decide)), A.used.put_far (A.used.apart A.hdr.heap (by decide)), A.gens.put_far (A.gens.apart A.hdr.heap (by decide))⟩, (Ext.refl o w _).put _ (.inl A.hdr.tag)⟩

set_option maxHeartbeats 400000 in
theorem ref04_use (A : RefAt o w t b v1 v2 v3 ss fault) (hl : ss.length ≤ 1024) (hg : GenOk ss 1000000) (h : Int) :
    Calls Try.prog 51 #[.pointer (some ⟨b, 0, none⟩), .int .u64 h] w fun e w' => e = .returned (.tuple #[.int .i64 (atA ss h), .int .i64 (useCode ss h)]) ∧ RefAt o w' t b v1 v2 v3 ss (useFault ss h fault) ∧ Ext o o w w' (fun x => x = t) := by
  have hb := A.hdr.heap
  have hat := hide (ref04_at A hl hg h)
  by_cases hi : 0 ≤ atA ss h
  · have e1 : useCode ss h = 0 := by rw [useCode, if_pos hi]
    have e2 : useFault ss h fault = fault := by rw [useFault, if_pos hi]
    rw [e1, e2]
    generalize atA ss h = i at *
    go_enter Try.func51, Try.ntmps51
    go_wp2_with fail
    refine hat.out.mono ?_
    rintro e w' ⟨rfl, rfl⟩
    go_wp2
    go_ret2
    exact ⟨rfl, A, .refl _ _ _⟩
  · have e2 : useFault ss h fault = true := by rw [useFault, if_neg hi]
    have hput := hide (A.raise (x := true))
    rw [e2]
    by_cases hz : h = 0
    · have e1 : useCode ss h = 3 := by rw [useCode, if_neg hi, if_pos hz]
      rw [e1]
      have hn := atA_neg ss h hi
      rw [hn] at hat ⊢
      clear hi hn A e1 e2
      subst hz
      go_enter Try.func51, Try.ntmps51
      go_wp2_with fail
      refine hat.out.mono ?_
      rintro e w' ⟨rfl, rfl⟩
      go_wp2
      go_ret2
      exact ⟨rfl, hput.out⟩
    · have e1 : useCode ss h = 6 := by rw [useCode, if_neg hi, if_neg hz]
      rw [e1]
      have hn := atA_neg ss h hi
      rw [hn] at hat ⊢
      clear hi hn A e1 e2
      go_enter Try.func51, Try.ntmps51
      go_wp2_with fail
      refine hat.out.mono ?_
      rintro e w' ⟨rfl, rfl⟩
      go_wp2
      go_ret2
      exact ⟨rfl, hput.out⟩

set_option maxHeartbeats 800000 in
theorem ref04_spare (A : RefAt o w t b v1 v2 v3 ss fault) :
    Calls Try.prog 55 #[.pointer (some ⟨b, 0, none⟩)] w fun e w' => e = .returned (.int .i64 (freeTo ss ss.length).length) ∧ w = w' := by
  have hb := A.hdr.heap
  have hl63 := A.nodes.le63
  obtain ⟨a1, c1, a2, c2, a3, c3, rfl, rfl, rfl⟩ := A.values
  go_enter Try.func55, Try.ntmps55
  go_wp2
  go_loopw [3, 4] (fun n i wr => ∃ k : Nat, k ≤ ss.length ∧ i = .int .i64 k ∧ n = .int .i64 (freeTo ss k).length ∧ wr = w) (fun _ i _ => ss.length - (intOf i).toNat)
  case atStart => exact ⟨0, Nat.zero_le _, rfl, rfl, rfl⟩
  case round =>
    obtain ⟨k, hk, rfl, rfl, rfl⟩ := hrel
    have hle := freeTo_le ss k
    have hsucc := freeTo_succ ss k
    generalize hn : (freeTo ss k).length = n at *
    replace hsucc := hide hsucc
    by_cases hlt : k < ss.length
    · obtain ⟨g1, d1, r1, g2, d2, r2, g3, d3, r3, hv1, hv2, hv3, b1, b2, b3, _, _, _, m1, m2, m3, _, _, _, _, hu, hgn⟩ := A.at_ hlt
      simp at hv1 hv2 hv3
      obtain ⟨rfl, rfl⟩ := hv1
      obtain ⟨rfl, rfl⟩ := hv2
      obtain ⟨rfl, rfl⟩ := hv3
      clear hgn hn
      cases huu : (ss.getD k slot0).used
      · rw [huu] at hu
        replace huu := hide huu
        go_wp2
        go_roundw
        case rel => exact ⟨k + 1, by omega, by go_num, by rw [hsucc.out, huu.out]; go_num, trivial⟩
        case measure => simp [intOf]; omega
      · rw [huu] at hu
        replace huu := hide huu
        go_wp2
        go_roundw
        case rel => exact ⟨k + 1, by omega, by go_num, by rw [hsucc.out, huu.out]; go_num, trivial⟩
        case measure => simp [intOf]; omega
    · have : k = ss.length := by omega
      subst this
      replace hn := hide hn
      go_wp2
      go_ret
      exact ⟨by rw [hn.out]; rfl, rfl⟩
end
end Go.Proofs.Ythfnbklloahdkaa
