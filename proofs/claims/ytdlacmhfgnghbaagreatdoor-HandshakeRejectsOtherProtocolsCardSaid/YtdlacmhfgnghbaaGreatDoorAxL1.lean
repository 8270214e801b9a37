import Derived.Test.YtdlacmhfgnghbaaGreatDoorAxAw
/- The law of statement 1, run. -/
set_option linter.unusedVariables false
set_option linter.constructorNameAsVariable false
set_option maxRecDepth 100000
namespace Go.Ax
open Go.Proofs
def pow10 : Nat → List Value
  | 0 => []
  | n + 1 => pow10 n ++ [.int .u64 (10 ^ n)]
noncomputable def H0 : Hp := PT.ins 40 .lf 1 (.cells (pow10 20) 223 1 false)
noncomputable def body3 : Code := match Tryz.f3.body with | some b => b | none => .skip
def fo3 (s : List UInt8) : Fo := fun b => bif Nat.beq b 8 then some s else none
noncomputable def tm3 (n : Nat) : TT := argsT 0 [.slice (some ⟨8, 0, none⟩) n n] .lf
/-- awake, told -/
noncomputable def ov3 : Op → Option (OD Bool)
  | .call { callee := .value (.func 5), args, .. } => bif args.toList.isEmpty then some (.l (awL H0 [1] 100000 200000 (.bool true))) else none
  | _ => none
noncomputable def run3 (n : Nat) (s : List UInt8) : Bool :=
  denF Zb YT (fo3 s) ov3 97 .lf body3 (callN Zb F1 300) (tm3 n) H0 9 fun e tm H nx => exK e false (ob (vBool (tm.get 2)) (fun b => b && sameAt H0 H [1]) false) (fun _ => false)
noncomputable def run3n (c : Nat) : Bool :=
  denF Zb YT (fun _ => none) ov3 97 .lf body3 (callN Zb F1 300) (argsT 0 [.slice none 0 c] .lf) H0 9 fun e tm H nx => exK e false (ob (vBool (tm.get 2)) (fun b => b && sameAt H0 H [1]) false) (fun _ => false)
end Go.Ax
