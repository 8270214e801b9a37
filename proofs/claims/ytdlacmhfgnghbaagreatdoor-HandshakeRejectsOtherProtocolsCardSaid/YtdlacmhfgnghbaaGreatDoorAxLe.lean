import Derived.Test.YtdlacmhfgnghbaaGreatDoorAxLd
import Derived.Test.YtdlacmhfgnghbaaGreatDoorAxLc0
import Derived.Test.YtdlacmhfgnghbaaGreatDoorAxLc1
import Derived.Test.YtdlacmhfgnghbaaGreatDoorAxLc2
import Derived.Test.YtdlacmhfgnghbaaGreatDoorAxLc3
/- The law of statement 1: whatever the first byte. -/
set_option linter.unusedVariables false
set_option linter.constructorNameAsVariable false
namespace Go.Ax
open Go.Proofs

theorem run3_byte (m : Nat) (x : UInt8) (rest : List UInt8) : run3 (m + 1) (x :: rest) = true := by
  by_cases h : x.toNat < 68
  · have hx : x = UInt8.ofNat x.toNat := by simp
    have key : ∀ k, ((List.range' k 17).all fun j => run3 (m + 1) (UInt8.ofNat j :: rest)) = true → k ≤ x.toNat → x.toNat < k + 17 → run3 (m + 1) (x :: rest) = true := fun k hk h1 h2 => by
      rw [List.all_eq_true] at hk
      have := hk x.toNat (by rw [List.mem_range'_1]; omega)
      rw [← hx] at this
      exact this
    rcases Nat.lt_or_ge x.toNat 17 with h1 | h1
    · exact key 0 (run3_c0 m rest) (by omega) (by omega)
    · rcases Nat.lt_or_ge x.toNat 34 with h2 | h2
      · exact key 17 (run3_c1 m rest) (by omega) (by omega)
      · rcases Nat.lt_or_ge x.toNat 51 with h3 | h3
        · exact key 34 (run3_c2 m rest) (by omega) (by omega)
        · exact key 51 (run3_c3 m rest) (by omega) (by omega)
  · have hlt : x.toNat < 2 ^ 8 := x.toNat_lt
    have hb : x.toNat - 68 + 68 < 2 ^ 8 := by omega
    have hx : x = ⟨⟨⟨x.toNat - 68 + 68, hb⟩⟩⟩ := by
      apply UInt8.toNat_inj.1
      show x.toNat = x.toNat - 68 + 68
      omega
    rw [hx]
    exact run3_68 m (x.toNat - 68) hb rest
end Go.Ax
