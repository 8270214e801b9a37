import Derived.Test.YtdlacmhfgnghbaaGreatDoorAxFo
import Derived.Test.YtdlacmhfgnghbaaGreatDoorAxX1
/- A closed call that leaves the heap as it was (but for garbage): run once, on a part of the heap. -/
set_option linter.unusedVariables false
set_option linter.constructorNameAsVariable false
set_option linter.unusedSimpArgs false
namespace Go.Ax

/-- is it as in Hs at the places l? -/
noncomputable def sameAt (Hs H : Hp) : List Nat → Bool
  | [] => true
  | b :: l => ob (Hs.get b) (fun o => ob (oCells o) (fun c => ob (hCells H ⟨b, 0, none⟩) (fun c' => sames same0 c.1 c'.1 && Nat.beq c.2.1 c'.2.1 && Nat.beq c.2.2.1 c'.2.2.1 && (bif c.2.2.2 then c'.2.2.2 else !c'.2.2.2)) false) false) false && sameAt Hs H l

theorem sameAt_ok {Hs H : Hp} : ∀ {l : List Nat}, sameAt Hs H l = true → ∀ b ∈ l, ∃ o, Hs.get b = some o ∧ H.get b = some o
  | [], _, b, hb => by simp at hb
  | x :: l, h, b, hb => by
    simp only [sameAt, Bool.and_eq_true] at h
    rcases List.mem_cons.1 hb with e | e
    · subst e
      have h1 := h.1
      cases ho : Hs.get b with
      | none => rw [ho] at h1; cases h1
      | some o =>
        rw [ho] at h1
        cases o with
        | map es ck => cases h1
        | cells c ty es gr =>
          have h1 : ob (hCells H ⟨b, 0, none⟩) (fun c' => sames same0 c c'.1 && Nat.beq ty c'.2.1 && Nat.beq es c'.2.2.1 && (bif gr then c'.2.2.2 else !c'.2.2.2)) false = true := h1
          cases hc : hCells H ⟨b, 0, none⟩ with
          | none => rw [hc] at h1; cases h1
          | some c' =>
            rw [hc] at h1
            simp only [ob_some, Bool.and_eq_true, nbeq, decide_eq_true_eq] at h1
            obtain ⟨⟨⟨q1, q2⟩, q3⟩, q4⟩ := h1
            have hH := (hCells_some hc).2
            refine ⟨_, rfl, ?_⟩
            rw [hH]
            have e1 : c = c'.1 := sames_eq (fun x y => same0_eq) _ _ q1
            have e4 : gr = c'.2.2.2 := by cases gr <;> cases h : c'.2.2.2 <;> simp_all
            rw [← e1, ← q2, ← q3, ← e4]
    · exact sameAt_ok h.2 b e

section
variable {P : Program} {Y : Ty}

/-- the call of f without arguments, told -/
noncomputable def awL (Hs : Hp) (l : List Nat) (n0 n1 : Nat) (v : Value) : LdF Bool := fun _ tm H nx k => bif Nat.ble nx n0 && sameAt Hs H l then k v H n1 else false

theorem Step.raise {σ σ' : Sg} {H H' : Hp} {nx nx' m : Nat} {w w' : World} (s : Step σ H nx w σ' H' nx' w') (h : nx' ≤ m) : Step σ H nx w σ' H' m w' :=
  ⟨s.ext, Nat.le_trans s.nxle h, fun b hb => s.fresh b (by omega), s.wr, s.old, s.own, s.size, s.frame, s.tape, s.os, s.output, s.keep⟩

theorem awL_ok {F : Fns Bool} {fuel n0 n1 : Nat} {f : FuncId} {Hs : Hp} {l : List Nat} {v : Value} {ts : Array TypeId} (hcall : CallOK (fun b => b = true) P Y (callN Zb F fuel)) (hl : ∀ b, (Hs.get b).isSome = true → b ∈ l)
    (hrun : callN Zb F fuel f [] Hs n0 (fun x H nx => same0 x v && ground0 v && Nat.ble nx n1 && sameAt Hs H l) = true) : LOK (fun b => b = true) P Y (.call { callee := .value (.func f), args := #[], argTypes := ts }) (awL Hs l n0 n1 v) := by
  intro c hc tm H nx k ht
  have ht : (bif Nat.ble nx n0 && sameAt Hs H l then k v H n1 else false) = true := ht
  cases hb : (Nat.ble nx n0 && sameAt Hs H l) with
  | false => rw [hb] at ht; cases ht
  | true =>
    rw [hb] at ht
    rw [Bool.and_eq_true, nble] at hb
    have hnx := of_decide_eq_true hb.1
    have hsame := sameAt_ok hb.2
    obtain ⟨x, H1, nx1, h1, h2⟩ := hcall f [] Hs n0 _ hrun
    simp only [Bool.and_eq_true, nble, decide_eq_true_eq] at h1
    obtain ⟨⟨⟨k1, k2⟩, k3⟩, k4⟩ := h1
    have hx := same0_eq k1
    subst hx
    have hsame1 := sameAt_ok k4
    have hsub : ∀ b o, Hs.get b = some o → H.get b = some o := fun b o ho => by
      obtain ⟨o', e1, e2⟩ := hsame b (hl b (by rw [ho]; rfl))
      rw [ho] at e1; injection e1 with e1; subst e1; exact e2
    refine ⟨x, H, n1, ht, fun σ nt w a hinv htr oper ho => ?_⟩
    have hinv' : Inv Y.ng σ Hs n0 w := ⟨hinv.wr.sub hsub, fun b hb => hinv.fresh b (by omega), hinv.glob⟩
    have hfun := h2 σ w #[] (VL.nil σ) hinv'
    have hex : (execOp a.eval oper).run P w = (callFunc f #[]).run P w := by simp [execOp, ho, resolve, Act.eval, Deferred.ofValue, invoke]
    have hpost : ∀ v' w', (∃ σ', VR σ' x v' ∧ Step σ Hs n0 w σ' H1 nx1 w') → ∃ σ', VR σ' x v' ∧ Step σ H nx w σ' H n1 w' := fun v' w' ⟨σ', q1, q2⟩ => by
      refine ⟨σ', q1, (Step.thenSub ((Step.refl hinv).raise hnx) hsub q2 (fun b o hbo => ?_)).raise k3⟩
      cases hg : Hs.get b with
      | none => exact .inr ⟨hbo, rfl⟩
      | some o' =>
        obtain ⟨o2, e1, e2⟩ := hsame1 b (hl b (by rw [hg]; rfl))
        have := hsub b o' hg
        rw [hbo] at this; injection this with this; subst this
        rw [hg] at e1; injection e1 with e1; subst e1
        exact .inl e2
    rcases hfun.run hex with ⟨v', w', n, r1, r2, r3⟩ | ⟨g, args', w', r1, r2⟩
    · exact .inl ⟨v', w', n, r1, r2, hpost v' w' r3⟩
    · exact .inr ⟨g, args', w', r1, Calls.mono r2 (fun e w'' ⟨u, s1, s2⟩ => ⟨u, s1, hpost u w'' s2⟩)⟩
end
end Go.Ax
