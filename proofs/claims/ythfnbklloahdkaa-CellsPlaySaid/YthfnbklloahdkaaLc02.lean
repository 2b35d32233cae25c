/- CellsPlay's short ways. No condition. -/
import Derived.Test.YthfnbklloahdkaaLa02
namespace Go.Proofs.Ythfnbklloahdkaa
open Go.RowKit

set_option maxRecDepth 100000 in
set_option maxHeartbeats 400000 in
theorem law02_many (n : Int) (a : Option Addr) (len cap : Nat) (h : 80 < len ∨ 5000 < n ∧ n ≤ 1048576) (hl : len ≤ 9223372036854775807) (w : World) :
    Calls Try.prog 5 #[.int .i64 n, .slice a len cap] w fun e w' => e = .returned (.bool true) ∧ Below w.heap.size w w' := by
  have hd : 80 < len ∨ len ≤ 80 ∧ 5000 < n ∧ n ≤ 1048576 := by omega
  rcases hd with hd | ⟨hd, h5, h6⟩
  all_goals
    go_enter Try.func5, Try.ntmps5
    go_wp2_with fail
    refine (law02_awake _).mono ?_
    rintro e w1 ⟨rfl, hb⟩
    go_wp2
    go_ret
    exact ⟨rfl, hb⟩

set_option maxRecDepth 100000 in
set_option maxHeartbeats 400000 in
theorem law02_range (n : Int) (a : Option Addr) (len cap : Nat) (h : len ≤ 80) (hn : n < 0 ∨ 1048576 < n) (w : World) :
    Calls Try.prog 5 #[.int .i64 n, .slice a len cap] w fun e w' => e = .returned (.bool true) ∧ Below w.heap.size w w' := by
  have hc := hide (cells_new_no n hn w)
  by_cases h0 : n < 0
  all_goals
    have hn' : n < 0 ∨ 1048576 < n := hn
    clear hn
    go_enter Try.func5, Try.ntmps5
    go_wp2_with fail
    refine hc.out.mono ?_
    rintro e w1 ⟨rfl, rfl⟩
    go_wp2_with fail
    refine (law02_awake _).mono ?_
    rintro e w1 ⟨rfl, hb⟩
    go_wp2
    go_ret
    exact ⟨rfl, hb⟩
end Go.Proofs.Ythfnbklloahdkaa
