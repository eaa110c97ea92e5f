/-
  UtfParts' walk, for every input.
-/
import Derived.Test.YteijpcjhecmamaaPartsW
namespace Go.Proofs.Yteijpcjhecmamaa.Uf
open Go.RowKit

set_option maxRecDepth 100000 in
theorem parts_all {w : World} (s : ByteArray) (n : Int) : Calls Try.prog 5 #[.string s, .int .i64 n] w fun e w' => e = .returned (.bool true) ∧ Below w.heap.size w w' := by
  by_cases h1 : 10000 < s.size
  · have t1 : decide ((10000 : Int) < (s.size : Int)) = true := by simp; omega
    go_enter Try.func5, Try.ntmps5
    go_wp2_with fail
    refine (awake1 _).mono ?_
    rintro e w1 ⟨rfl, hb1⟩
    go_wp2_with fail
    go_ret
    exact ⟨rfl, hb1⟩
  have t1 : decide ((10000 : Int) < (s.size : Int)) = false := by simp; omega
  by_cases h2 : n < 0
  · have t2 : decide (n < 0) = true := by simpa using h2
    go_enter Try.func5, Try.ntmps5
    go_wp2_with fail
    refine (awake1 _).mono ?_
    rintro e w1 ⟨rfl, hb1⟩
    go_wp2_with fail
    go_ret
    exact ⟨rfl, hb1⟩
  have t2 : decide (n < 0) = false := by simp; omega
  by_cases h3 : 20000 < n
  · have t3 : decide (20000 < n) = true := by simpa using h3
    go_enter Try.func5, Try.ntmps5
    go_wp2_with fail
    refine (awake1 _).mono ?_
    rintro e w1 ⟨rfl, hb1⟩
    go_wp2_with fail
    go_ret
    exact ⟨rfl, hb1⟩
  obtain ⟨m, rfl⟩ := Int.eq_ofNat_of_zero_le (show 0 ≤ n by omega)
  exact parts_walk s m (by omega) (by omega)
end Go.Proofs.Yteijpcjhecmamaa.Uf
