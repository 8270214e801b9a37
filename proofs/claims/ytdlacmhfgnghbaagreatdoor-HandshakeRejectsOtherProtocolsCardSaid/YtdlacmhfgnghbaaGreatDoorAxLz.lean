import Derived.Test.YtdlacmhfgnghbaaGreatDoorAxL1
/- The law of statement 1, run at an empty slice that is not nil. -/
set_option linter.unusedVariables false
set_option linter.constructorNameAsVariable false
set_option maxRecDepth 100000
namespace Go.Ax
open Go.Proofs
noncomputable def run3z : Bool :=
  denF Zb YT (fun _ => none) ov3 97 .lf body3 (callN Zb F1 300) (tm3 0) H0 9 fun e tm H nx => exK e false (ob (vBool (tm.get 2)) (fun b => b && sameAt H0 H [1]) false) (fun _ => false)
theorem run3z_ok : run3z = true := by kernel_rfl
end Go.Ax
