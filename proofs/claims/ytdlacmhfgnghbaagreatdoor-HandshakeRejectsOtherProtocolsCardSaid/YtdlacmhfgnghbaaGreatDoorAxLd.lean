import Derived.Test.YtdlacmhfgnghbaaGreatDoorAxL1
/- The law of statement 1, run: by first bytes. -/
set_option linter.unusedVariables false
set_option linter.constructorNameAsVariable false
set_option maxRecDepth 100000
namespace Go.Ax
open Go.Proofs
theorem awRun : callN Zb F1 300 5 [] H0 100000 (fun x H nx => same0 x (.bool true) && ground0 (.bool true) && Nat.ble nx 200000 && sameAt H0 H [1]) = true := by kernel_rfl
theorem run3_68 (m n : Nat) (h : n + 68 < 2 ^ 8) (rest : List UInt8) : run3 (m + 1) (⟨⟨⟨n + 68, h⟩⟩⟩ :: rest) = true := by kernel_rfl
theorem run3_0 (s : List UInt8) : run3 0 s = true := by kernel_rfl
theorem run3n_ok (c : Nat) : run3n c = true := by kernel_rfl
end Go.Ax
