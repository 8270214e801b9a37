import Derived.Test.YtdlacmhfgnghbaaGreatDoorAxL1
/- The law of statement 1, run: by first bytes. -/
set_option linter.unusedVariables false
set_option linter.constructorNameAsVariable false
set_option maxRecDepth 100000
namespace Go.Ax
open Go.Proofs
theorem run3_c3 (m : Nat) (rest : List UInt8) : ((List.range' 51 17).all fun j => run3 (m + 1) (UInt8.ofNat j :: rest)) = true := by kernel_rfl
end Go.Ax
