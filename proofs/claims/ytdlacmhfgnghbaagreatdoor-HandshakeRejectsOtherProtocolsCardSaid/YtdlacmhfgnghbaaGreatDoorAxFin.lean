import Derived.Test.YtdlacmhfgnghbaaGreatDoorAxDraw4
/- Tables: what holds of each of their entries. -/
set_option linter.unusedVariables false
set_option linter.constructorNameAsVariable false
set_option linter.unusedSimpArgs false
namespace Go.Ax

def PT.All {α : Type} (p : Nat → α → Prop) : (Nat → Nat) → PT α → Prop
  | _, .lf => True
  | key, .nd v l r => (∀ x, v = some x → p (key 0) x) ∧ PT.All p (fun k => key (2 * k + 1)) l ∧ PT.All p (fun k => key (2 * k + 2)) r

theorem PT.All.get' {α : Type} {p : Nat → α → Prop} : ∀ (t : PT α) (key : Nat → Nat) (k : Nat) (x : α), PT.All p key t → t.get k = some x → p (key k) x
  | .lf, _, _, _, _, h => by cases h
  | .nd v l r, key, 0, x, h, hx => h.1 x hx
  | .nd v l r, key, m + 1, x, h, hx => by
    rw [PT.get_nd_succ] at hx
    split at hx
    · rename_i hm
      have := PT.All.get' l (fun k => key (2 * k + 1)) (m / 2) x h.2.1 hx
      rwa [show 2 * (m / 2) + 1 = m + 1 by omega] at this
    · rename_i hm
      have := PT.All.get' r (fun k => key (2 * k + 2)) (m / 2) x h.2.2 hx
      rwa [show 2 * (m / 2) + 2 = m + 1 by omega] at this

section
variable {α : Type} {p : Nat → α → Prop} {key : Nat → Nat}
theorem aL : PT.All p key .lf := trivial
theorem aN {l r : PT α} (hl : PT.All p (fun k => key (2 * k + 1)) l) (hr : PT.All p (fun k => key (2 * k + 2)) r) : PT.All p key (.nd none l r) := ⟨(fun _ h => by cases h), hl, hr⟩
theorem aS {x : α} {l r : PT α} (h : p (key 0) x) (hl : PT.All p (fun k => key (2 * k + 1)) l) (hr : PT.All p (fun k => key (2 * k + 2)) r) : PT.All p key (.nd (some x) l r) := ⟨(fun y hy => by cases hy; exact h), hl, hr⟩
end

def TyP (P : Program) (k : Nat) (x : TypeInfo × TypeDesc) : Prop := P.info? k = some x.1 ∧ P.underlying k = some x.2
def EqP (P : Program) (k : Nat) (_ : Unit) : Prop := P.stoodInHeld k = false ∧ P.eqGuardType P.depth k = false
/-- the types for which '==' may be taken field by field -/
noncomputable def eqsOf (t : PT Unit) : TypeId → Bool := fun k => ob (t.get k) (fun _ => true) false

theorem ty_ok {P : Program} {tys : PT (TypeInfo × TypeDesc)} {eqs : PT Unit} {ng : Nat} (h1 : PT.All (TyP P) (fun k => k) tys) (h2 : PT.All (EqP P) (fun k => k) eqs) : TyOK P ⟨tys, eqsOf eqs, ng⟩ := by
  refine ⟨fun t ti d h => PT.All.get' tys _ t (ti, d) h1 h, fun t h => ?_⟩
  have h : eqsOf eqs t = true := h
  unfold eqsOf at h
  cases hg : eqs.get t with
  | none => rw [hg] at h; cases h
  | some u => exact PT.All.get' eqs _ t u h2 hg

section
variable {R : Type} {Z : Res R} {P : Program} {Y : Ty}

theorem codeOK_lf : ∀ code : Code, codeOK Z Y .lf code = true := by
  intro code
  induction code with
  | seq a b iha ihb => simp [codeOK, iha, ihb]
  | cond c a b iha ihb => simp [codeOK, iha, ihb]
  | block id b ih => simpa [codeOK] using ih
  | loop b ih => simpa [codeOK] using ih
  | scope b ih => simpa [codeOK] using ih
  | region id ops d => cases d <;> rfl
  | _ => rfl

def FnP (Z : Res R) (P : Program) (Y : Ty) (k : Nat) (x : Option (FnC R)) : Prop := ∀ fc, x = some fc → ∃ (fn : Func) (dr : PT (List DI)) (body : Code), P.funcs[k]? = some fn ∧ fn.body = some body ∧
  (∀ (args : Array Value) (w : World), (callFunc k args).run P w = .ok (.enter k args) w) ∧ fnS Z Y fn dr = some fc ∧ codeOK Z Y dr body = true

noncomputable def codeOKo (Z : Res R) (Y : Ty) (dr : PT (List DI)) (fn : Func) : Bool := match fn.body with
  | some b => codeOK Z Y dr b
  | none => true

theorem fnD {k : Nat} {fn : Func} {dr : PT (List DI)} (hf : P.funcs[k]? = some fn) (hc : ∀ (args : Array Value) (w : World), (callFunc k args).run P w = .ok (.enter k args) w) (ho : codeOKo Z Y dr fn = true) : FnP Z P Y k (fnS Z Y fn dr) := by
  intro fc h
  cases hb : fn.body with
  | none => simp [fnS, hb] at h
  | some body =>
    refine ⟨fn, dr, body, hf, hb, hc, h, ?_⟩
    unfold codeOKo at ho
    rw [hb] at ho
    exact ho
theorem fnN {k : Nat} {fn : Func} (hf : P.funcs[k]? = some fn) (hc : ∀ (args : Array Value) (w : World), (callFunc k args).run P w = .ok (.enter k args) w) : FnP Z P Y k (fnS Z Y fn .lf) :=
  fnD hf hc (by unfold codeOKo; split <;> first | exact codeOK_lf _ | rfl)

theorem fns_ok {T : R → Prop} {F : Fns R} (h : PT.All (FnP Z P Y) (fun k => k) F.fns) (he : ∀ f args v, F.ext f args = some v → ∀ (σ : Sg) (w : World) (args' : Array Value), VL σ args args'.toList → ∃ v', VR σ v v' ∧ (callFunc f args').run P w = .ok (.value v') w) : FnsOK Z T P Y F :=
  ⟨fun f fc hf => PT.All.get' F.fns _ f (some fc) h hf fc rfl, he⟩
end
end Go.Ax
