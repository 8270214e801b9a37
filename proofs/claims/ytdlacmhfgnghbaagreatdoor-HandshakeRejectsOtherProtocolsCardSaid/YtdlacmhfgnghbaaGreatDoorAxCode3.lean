import Derived.Test.YtdlacmhfgnghbaaGreatDoorAxCode2
/- Functions and calls. -/
set_option linter.unusedVariables false
set_option linter.constructorNameAsVariable false
set_option linter.unusedSimpArgs false
namespace Go.Ax

section
variable {R : Type} {Z : Res R} {T : R → Prop} (hff : ¬ T Z.ff) {P : Program} {Y : Ty} (hY : TyOK P Y)

/-- how the machine reads one result -/
def oneResult (tmps : Array Value) : ResultVar → Sem Value
  | .tmp t => pure (tmps.getD t undef)
  | .cell a t => do loadVar t (← asAddr (tmps.getD a undef))

theorem results_eq (fn : Func) (tmps : Array Value) : results fn tmps = (do
    let vs ← fn.results.mapM (oneResult tmps)
    pure (if h : vs.size = 1 then vs[0] else .tuple vs)) := by
  unfold results
  congr 1

include hY in
theorem resS_ok {σ : Sg} {nt : Nat} {tm : TT} {H : Hp} {w : World} {tmps : Array Value} (hw : WR σ H w) (htr : TR σ nt tm tmps) : ∀ (rs : List ResultVar) (fs : List RsF), resS Y rs = some fs → fs.length = rs.length ∧
    ∀ vs, rsTup.rsAll fs tm H = some vs → ∃ vs', VL σ vs vs' ∧ (rs.mapM (oneResult tmps)).run P w = .ok vs' w := by
  intro rs
  induction rs with
  | nil =>
    intro fs h
    simp only [resS, Option.some.injEq] at h; subst h
    refine ⟨rfl, fun vs hv => ?_⟩
    simp only [rsTup.rsAll, Option.some.injEq] at hv; subst hv
    exact ⟨[], VL.nil σ, by simp⟩
  | cons r rs ih =>
    intro fs h
    have key : ∀ (f : RsF) (l : List RsF), resS Y rs = some l → fs = f :: l → (∀ v, f tm H = some v → ∃ v', VR σ v v' ∧ (oneResult tmps r).run P w = .ok v' w) → fs.length = (r :: rs).length ∧
        ∀ vs, rsTup.rsAll fs tm H = some vs → ∃ vs', VL σ vs vs' ∧ ((r :: rs).mapM (oneResult tmps)).run P w = .ok vs' w := by
      intro f l hl hfs hf
      subst hfs
      obtain ⟨i1, i2⟩ := ih l hl
      refine ⟨by simp [i1], fun vs hv => ?_⟩
      simp only [rsTup.rsAll] at hv
      split at hv
      · cases hv
      · rename_i v hv1
        split at hv
        · cases hv
        · rename_i vs0 hv2
          injection hv with hv; subst hv
          obtain ⟨v', q1, q2⟩ := hf v hv1
          obtain ⟨vs', q3, q4⟩ := i2 vs0 hv2
          refine ⟨v' :: vs', VL.cons q1 q3, ?_⟩
          rw [List.mapM_cons]
          simp only [Sem.run_bind, q2, Result.andThen_ok, q4, Sem.run_pure]
    cases r with
    | tmp t =>
      simp only [resS] at h
      split at h
      · rename_i g l hg hl
        injection h with h
        refine key _ l hl h.symm (fun v hv => ?_)
        injection (show some (g tm) = some v from hv) with hv; subst hv
        rw [rdS_get 16 t g hg]
        exact ⟨_, htr.val t, by simp [oneResult]⟩
      · cases h
    | cell a t =>
      simp only [resS] at h
      split at h
      · rename_i g p l hg hp hl
        injection h with h
        refine key _ l hl h.symm (fun v hv => ?_)
        obtain ⟨ad, ha, hv⟩ := ob_eq_some (show ob _ _ none = some v from hv)
        have hv2 := htr.val a
        rw [← rdS_get 16 a g hg, vPtr_some ha] at hv2
        obtain ⟨i, hi, hs, he⟩ := hv2.ptr_eq
        obtain ⟨b, off, spot⟩ := ad
        simp only at hs hi he
        subst hs
        obtain ⟨v', h1, h2⟩ := ldF_ok (P := P) hY hp hw hi hv
        exact ⟨v', h1, by simp only [oneResult, Sem.run_bind, he, asAddr, Sem.run_pure, Result.andThen_ok, h2]⟩
      · cases h

/-- how the model reads what a function yields -/
def ResOK (P : Program) (nt : Nat) (fn : Func) (res : RsF) : Prop :=
  ∀ (tm : TT) (H : Hp) (v : Value), res tm H = some v → ∀ (σ : Sg) (w : World) (tmps : Array Value), WR σ H w → TR σ nt tm tmps → ∃ v', VR σ v v' ∧ (results fn tmps).run P w = .ok v' w

theorem run_results {fn : Func} {tmps : Array Value} {w : World} {vs : List Value} (h : (fn.results.toList.mapM (oneResult tmps)).run P w = .ok vs w) :
    (results fn tmps).run P w = .ok (if h : vs.toArray.size = 1 then vs.toArray[0] else .tuple vs.toArray) w := by
  rw [results_eq]
  obtain ⟨l, hl⟩ : ∃ l, fn.results = List.toArray l := ⟨fn.results.toList, by simp⟩
  rw [hl] at h ⊢
  rw [List.mapM_toArray]
  have h' : (l.mapM (oneResult tmps)).run P w = .ok vs w := by simpa using h
  simp [h']

include hY in
theorem fnS_ok {fn : Func} {body : Code} {dr : PT (List DI)} {fc : FnC R} (hb : fn.body = some body) (h : fnS Z Y fn dr = some fc) :
    fc.np = fn.ntmps ∧ fc.np ≤ 60000 ∧ fc.den = (codeS Z Y fn.ntmps dr body).1 ∧ ResOK P fn.ntmps fn fc.res := by
  simp only [fnS, hb] at h
  cases hn : Nat.ble fn.ntmps 60000 with
  | false => rw [hn] at h; cases h
  | true =>
    rw [hn] at h
    rw [nble] at hn
    have hn := of_decide_eq_true hn
    simp only [cond_true] at h
    cases hr : resS Y fn.results.toList with
    | none => rw [hr] at h; cases h
    | some fs =>
      rw [hr] at h
      have hres : ∀ (tm : TT) (H : Hp) (σ : Sg) (w : World) (tmps : Array Value), WR σ H w → TR σ fn.ntmps tm tmps → ∀ vs, rsTup.rsAll fs tm H = some vs → ∃ vs', VL σ vs vs' ∧ (results fn tmps).run P w = .ok (if h : vs'.toArray.size = 1 then vs'.toArray[0] else .tuple vs'.toArray) w := by
        intro tm H σ w tmps hw htr vs hv
        obtain ⟨_, h2⟩ := resS_ok hY (P := P) hw htr _ _ hr
        obtain ⟨vs', h3, h4⟩ := h2 vs hv
        exact ⟨vs', h3, run_results h4⟩
      cases fs with
      | nil =>
        injection h with h; subst h
        refine ⟨rfl, hn, rfl, fun tm H v hv σ w tmps hw htr => ?_⟩
        simp only [rsTup, rsTup.rsAll] at hv
        injection hv with hv; subst hv
        obtain ⟨vs', h1, h2⟩ := hres tm H σ w tmps hw htr [] rfl
        have : vs' = [] := List.length_eq_zero_iff.1 h1.1.symm
        subst this
        exact ⟨_, VR.undef σ, h2⟩
      | cons f l =>
        cases l with
        | nil =>
          injection h with h; subst h
          refine ⟨rfl, hn, rfl, fun tm H v hv σ w tmps hw htr => ?_⟩
          obtain ⟨vs', h1, h2⟩ := hres tm H σ w tmps hw htr [v] (by simp only [rsTup.rsAll]; rw [show f tm H = some v from hv])
          cases vs' with
          | nil => exact absurd h1.1 (by simp)
          | cons x xs =>
            cases xs with
            | nil =>
              obtain ⟨x', e1, e2⟩ := h1.2 0 v (by simp)
              simp at e1; subst e1
              exact ⟨_, e2, by simpa using h2⟩
            | cons y ys => exact absurd h1.1 (by simp)
        | cons g l =>
          injection h with h; subst h
          refine ⟨rfl, hn, rfl, fun tm H v hv σ w tmps hw htr => ?_⟩
          simp only [rsTup] at hv
          split at hv
          · rename_i vs hvs
            injection hv with hv; subst hv
            obtain ⟨vs', h1, h2⟩ := hres tm H σ w tmps hw htr vs hvs
            refine ⟨.tuple vs'.toArray, VR.mk_tuple h1, ?_⟩
            have hlen : vs'.length ≠ 1 := by
              rw [← h1.1]
              simp only [rsTup.rsAll] at hvs
              split at hvs
              · cases hvs
              · split at hvs
                · cases hvs
                · rename_i vs2 hvs2
                  injection hvs with hvs; subst hvs
                  split at hvs2
                  · cases hvs2
                  · split at hvs2
                    · cases hvs2
                    · injection hvs2 with hvs2; subst hvs2; simp
            rw [h2, dif_neg (by simpa using hlen)]
          · cases hv

/-- the temporaries at a call's start -/
theorem argsT_get : ∀ (vs : List Value) (i : Nat) (t : TT) (j : Nat), i + vs.length ≤ 60000 → (argsT i vs t).get j = if i ≤ j ∧ j < i + vs.length then vs.getD (j - i) undef else t.get j
  | [], i, t, j, _ => by rw [if_neg (by simp only [List.length_nil]; omega)]; rfl
  | v :: vs, i, t, j, h => by
    simp only [List.length_cons] at h
    have ih := argsT_get vs (i + 1) (TT.set 16 t i v) j (by omega)
    have e : argsT i (v :: vs) t = argsT (i + 1) vs (TT.set 16 t i v) := rfl
    rw [e, ih, TT.get_set v 16 t i j (by omega)]
    simp only [List.length_cons]
    rcases Nat.lt_trichotomy j i with hj | hj | hj
    · rw [if_neg (by omega), if_neg (by omega), if_neg (by omega)]
    · subst hj
      rw [if_neg (by omega), if_pos rfl, if_pos (by omega)]
      simp
    · by_cases hlt : j < i + 1 + vs.length
      · rw [if_pos (by omega), if_pos (by omega), show j - i = (j - (i + 1)) + 1 by omega]
        simp
      · rw [if_neg (by omega), if_neg (by omega), if_neg (by omega)]

theorem args_ok {σ : Sg} {args : List Value} {args' : Array Value} (h : VL σ args args'.toList) {nt : Nat} (h1 : args.length ≤ nt) (h2 : nt ≤ 60000) : TR σ nt (argsT 0 args .lf) (args' ++ Array.replicate (nt - args'.size) undef) := by
  have hsz : args'.size = args.length := by rw [← Array.length_toList, h.1]
  refine ⟨by simp; omega, fun t => ?_⟩
  rw [argsT_get args 0 .lf t (by omega)]
  simp only [Nat.zero_add, Nat.zero_le, true_and, Nat.sub_zero]
  rw [Array.getD_eq_getD_getElem?]
  split
  · rename_i ht
    obtain ⟨v', e1, e2⟩ := h.2 t args[t] (List.getElem?_eq_getElem ht)
    rw [Array.getElem?_append_left (by omega)]
    have e1' : args'[t]? = some v' := by simpa using e1
    rw [e1']
    simpa [List.getD, List.getElem?_eq_getElem ht] using e2
  · rename_i ht
    rw [Array.getElem?_append_right (by omega)]
    have : (Array.replicate (nt - args'.size) undef)[t - args'.size]?.getD undef = undef := by
      rw [Array.getElem?_replicate]
      split <;> rfl
    rw [this]
    exact VR.undef σ

structure FnsOK (Z : Res R) (T : R → Prop) (P : Program) (Y : Ty) (F : Fns R) : Prop where
  fns : ∀ f fc, F.fns.get f = some (some fc) → ∃ (fn : Func) (dr : PT (List DI)) (body : Code), P.funcs[f]? = some fn ∧ fn.body = some body ∧ (∀ (args : Array Value) (w : World), (callFunc f args).run P w = .ok (.enter f args) w) ∧ fnS Z Y fn dr = some fc ∧ codeOK Z Y dr body = true
  ext : ∀ f args v, F.ext f args = some v → ∀ (σ : Sg) (w : World) (args' : Array Value), VL σ args args'.toList → ∃ v', VR σ v v' ∧ (callFunc f args').run P w = .ok (.value v') w

def DrawsOK (Z : Res R) (T : R → Prop) (P : Program) (Y : Ty) : Prop :=
  ∀ (nt id : Nat) (ops : Array Oper) (ds : List DI) (os : List (DOp R)), drawS Z Y nt ops ops.toList ds = some os → fixedA Z Y ops ds = true → DOK T P Y nt (.region id ops true) (dDraw Z ops.size os)

include hff hY in
theorem callN_ok {F : Fns R} (hF : FnsOK Z T P Y F) (hD : DrawsOK Z T P Y) : ∀ n, CallOK T P Y (callN Z F n) := by
  intro n
  induction n with
  | zero => intro f args H nx k ht; exact absurd ht hff
  | succ n ih =>
    intro f args H nx k ht
    have ht : T (ob (F.fns.get f)
      (fun o => ob o (fun fc => bif Nat.ble args.length fc.np then
          fc.den (callN Z F n) (argsT 0 args .lf) H nx fun e tm H nx =>
            exK e (ob (fc.res tm H) (fun v => k v H nx) Z.ff) (ob (fc.res tm H) (fun v => k v H nx) Z.ff) (fun _ => Z.ff)
        else Z.ff) Z.ff)
      (ob (F.ext f args) (fun v => k v H nx) Z.ff)) := ht
    cases hget : F.fns.get f with
    | none =>
      rw [hget] at ht
      obtain ⟨v, hv, ht⟩ := T_ob hff ht
      refine ⟨v, H, nx, ht, fun σ w args' hargs hinv => ?_⟩
      obtain ⟨v', h1, h2⟩ := hF.ext f args v hv σ w args' hargs
      exact .inl ⟨v', w, h2, σ, h1, Step.refl hinv⟩
    | some o =>
      rw [hget] at ht
      obtain ⟨fc, hfc, ht2⟩ := T_ob hff (show T (ob o _ Z.ff) from ht)
      clear ht
      have ht := ht2
      clear ht2
      subst hfc
      obtain ⟨fn, dr, body, e1, e2, e3, e4, e5⟩ := hF.fns f fc hget
      obtain ⟨r1, r2, r3, r4⟩ := fnS_ok hY (P := P) e2 e4
      cases hlen : Nat.ble args.length fc.np with
      | false => rw [hlen] at ht; exact absurd ht hff
      | true =>
        rw [hlen] at ht
        rw [nble] at hlen
        have hlen := of_decide_eq_true hlen
        simp only [cond_true] at ht
        have hden := codeS_ok hff hY fn.ntmps dr (hD fn.ntmps) body e5
        rw [← r3] at hden
        obtain ⟨e, tm', H', nx', h1, h2⟩ := hden (callN Z F n) ih _ H nx _ ht
        have hfin : ∃ v, fc.res tm' H' = some v ∧ T (k v H' nx') ∧ (exC e = .normal ∨ exC e = .ret) := by
          cases e with
          | normal => obtain ⟨v, hv, ht⟩ := T_ob hff (show T (ob (fc.res tm' H') _ Z.ff) from h1); exact ⟨v, hv, ht, .inl rfl⟩
          | ret => obtain ⟨v, hv, ht⟩ := T_ob hff (show T (ob (fc.res tm' H') _ Z.ff) from h1); exact ⟨v, hv, ht, .inr rfl⟩
          | exit i => exact absurd h1 hff
        obtain ⟨v, hv, hk, hex⟩ := hfin
        refine ⟨v, H', nx', hk, fun σ w args' hargs hinv => .inr ⟨f, args', w, ?_, calls_of_wp e1 e2 ?_⟩⟩
        · exact e3 args' w
        · refine h2 σ w _ hinv (args_ok hargs (by omega) (by omega)) _ (fun σ' a' w' s1 t1 d1 => ?_)
          obtain ⟨v', q1, q2⟩ := r4 tm' H' v hv σ' w' a'.tmps s1.wr t1
          rcases hex with hex | hex <;> rw [hex] <;> exact ⟨d1, v', q2, v', rfl, σ', q1, s1⟩

end
end Go.Ax
