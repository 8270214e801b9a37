import Derived.Test.YtdlacmhfgnghbaaGreatDoorAxOps12
/- What every operation is turned into is right. -/
set_option linter.unusedVariables false
set_option linter.constructorNameAsVariable false
set_option linter.unusedSimpArgs false
namespace Go.Ax

/-- a call's ending: by a value at once (a function of the model's own), or through a frame -/
def FunOK (P : Program) (f : FuncId) (args : Array Value) (w : World) (K : Value → World → Prop) : Prop :=
  (∃ v w', (callFunc f args).run P w = .ok (.value v) w' ∧ K v w') ∨
  (∃ g args' w', (callFunc f args).run P w = .ok (.enter g args') w' ∧ Calls P g args' w' fun e w'' => ∃ v, e = .returned v ∧ K v w'')

/-- what an operation's run comes to: a value at once, or a call -/
def RunOK (P : Program) (r : Result Next) (K : Value → World → Prop) : Prop :=
  (∃ v w' n, r = .ok n w' ∧ (n = .value v ∨ (n = .skip ∧ v = undef)) ∧ K v w') ∨
  (∃ g args' w', r = .ok (.enter g args') w' ∧ Calls P g args' w' fun e w'' => ∃ v, e = .returned v ∧ K v w'')

section
variable {R : Type} (Z : Res R) (T : R → Prop) (P : Program) (Y : Ty)

def CallOK (c : Call R) : Prop :=
  ∀ f args H nx k, T (c f args H nx k) → ∃ v H' nx', T (k v H' nx') ∧ ∀ (σ : Sg) (w : World) (args' : Array Value), VL σ args args'.toList → Inv Y.ng σ H nx w →
    FunOK P f args' w fun v' w' => ∃ σ', VR σ' v v' ∧ Step σ H nx w σ' H' nx' w'

def LOK (o : Op) (f : LdF R) : Prop :=
  ∀ c, CallOK T P Y c → ∀ tm H nx k, T (f c tm H nx k) → ∃ v H' nx', T (k v H' nx') ∧ ∀ (σ : Sg) (nt : Nat) (w : World) (a : Act), Inv Y.ng σ H nx w → TR σ nt tm a.tmps →
    ∀ oper : Oper, oper.op = o → RunOK P ((execOp a.eval oper).run P w) fun v' w' => ∃ σ', VR σ' v v' ∧ Step σ H nx w σ' H' nx' w'

def ODOK (o : Op) : OD R → Prop
  | .m g => QOK P Y o (fun tm _ => some (g tm))
  | .p f => QOK P Y o (fun tm _ => f tm)
  | .r f => QOK P Y o f
  | .a f => AOK P Y o f
  | .l f => LOK T P Y o f
  | .bad => True
end

section
variable {R : Type} {Z : Res R} {T : R → Prop} (hff : ¬ T Z.ff) {P : Program} {Y : Ty} (hY : TyOK P Y)

theorem T_ob (hff : ¬ T Z.ff) {α : Type} {o : Option α} {f : α → R} (h : T (ob o f Z.ff)) : ∃ a, o = some a ∧ T (f a) := by
  cases o with
  | none => exact absurd h hff
  | some a => exact ⟨a, rfl, h⟩

theorem wp_of_run {oper : Oper} {a : Act} {w w' : World} {n : Next} {v' : Value} (h : (execOp a.eval oper).run P w = .ok n w') (hn : n = .value v' ∨ (n = .skip ∧ v' = undef)) {next : Act → World → Prop} {Q : Exit → Act → World → Prop}
    (hk : next (a.put oper.dst v') w') : oper.wp P a w next Q := by
  unfold Oper.wp
  rw [h]
  rcases hn with rfl | ⟨rfl, rfl⟩
  · exact hk
  · exact hk

theorem RunOK.wp {oper : Oper} {a : Act} {w : World} {K : Value → World → Prop} (h : RunOK P ((execOp a.eval oper).run P w) K) {next : Act → World → Prop} {Q : Exit → Act → World → Prop}
    (hk : ∀ v w', K v w' → next (a.put oper.dst v) w') : oper.wp P a w next Q := by
  rcases h with ⟨v, w', n, h1, h2, h3⟩ | ⟨g, args', w', h1, h2⟩
  · exact wp_of_run h1 h2 (hk v w' h3)
  · unfold Oper.wp
    rw [h1]
    refine Calls.mono h2 fun e w'' ⟨v, h3, h4⟩ => ?_
    subst h3
    exact hk v w'' h4

include hff in
theorem ldR_ok {o : Op} {f : TT → Hp → Nat → Res3} (h : SOK P Y o f) : LOK T P Y o (ldR Z f) := by
  intro c hc tm H nx k ht
  obtain ⟨r, hr, ht⟩ := T_ob hff ht
  obtain ⟨v, H', nx'⟩ := r
  refine ⟨v, H', nx', ht, fun σ nt w a hinv htr oper ho => ?_⟩
  obtain ⟨σ', v', w', n, h1, h2, h3, h4⟩ := h σ nt tm H nx w a hinv htr v H' nx' hr
  exact .inl ⟨v', w', n, h4 oper ho, h1, σ', h2, h3⟩

theorem FunOK.run {w : World} {f : FuncId} {args : Array Value} {K : Value → World → Prop} (h : FunOK P f args w K) {r : Result Next} (he : r = (callFunc f args).run P w) : RunOK P r K := by
  rw [he]
  rcases h with ⟨v, w', h1, h2⟩ | ⟨g, args', w', h1, h2⟩
  · exact .inl ⟨v, w', _, h1, .inl rfl, h2⟩
  · exact .inr ⟨g, args', w', h1, h2⟩

theorem callR_ok {args : Array Operand} {ts : Array TypeId} {f : FuncId} {gs : List Rd} (h : rdsO Y args.toList = some gs) : LOK T P Y (.call { callee := .value (.func f), args := args, argTypes := ts }) (callR f gs) := by
  intro c hc tm H nx k ht
  obtain ⟨v, H', nx', h1, h2⟩ := hc f _ H nx k ht
  refine ⟨v, H', nx', h1, fun σ nt w a hinv htr oper ho => ?_⟩
  have hargs := rdsO_ok h hinv.glob htr
  have hfun := h2 σ w (args.map a.eval) (by simpa using hargs) hinv
  refine hfun.run ?_
  simp [execOp, ho, resolve, Act.eval, Deferred.ofValue, invoke]

include hff in
theorem callV_ok {x : Operand} {args : Array Operand} {ts : Array TypeId} {g : Rd} {gs : List Rd} (hx : rdO Y x = some g) (h : rdsO Y args.toList = some gs) : LOK T P Y (.call { callee := .value x, args := args, argTypes := ts }) (callV Z g gs) := by
  intro c hc tm H nx k ht
  obtain ⟨fv, hfv, ht⟩ := T_ob hff ht
  obtain ⟨f, hf, ht⟩ := T_ob hff ht
  have hge := vFn_some hfv
  rw [fnId_some hf] at hge
  obtain ⟨v, H', nx', h1, h2⟩ := hc f _ H nx k ht
  refine ⟨v, H', nx', h1, fun σ nt w a hinv htr oper ho => ?_⟩
  have hargs := rdsO_ok h hinv.glob htr
  have hv := rdO_ok hx hinv.glob htr
  rw [hge] at hv
  generalize hfx : a.eval x = x' at hv
  cases hv with
  | func _ _ a' _ c' ha hcc p1 p2 =>
    have q1 := VL.of_array ha p1
    have q2 := VL.of_array hcc p2
    have hfun := h2 σ w (a' ++ args.map a.eval ++ c') (by simpa using (q1.append hargs).append q2) hinv
    refine hfun.run ?_
    simp [execOp, ho, resolve, hfx, Deferred.ofValue, invoke]

include hff hY in
theorem builtin_ok (b : Builtin) (args : Array Operand) (ts : Array TypeId) (gs : List Rd) (h : rdsO Y args.toList = some gs) : ODOK T P Y (.call { callee := .builtin b, args := args, argTypes := ts }) (opBuiltin Z Y b ts.toList gs) := by
  have one : ∀ g, gs = [g] → ∃ x, args = #[x] ∧ rdO Y x = some g := by
    intro g hg
    subst hg
    obtain ⟨l⟩ := args
    simp only at h
    cases l with
    | nil => simp [rdsO] at h
    | cons x xs =>
      simp only [rdsO] at h
      split at h
      · cases h
      · rename_i g0 hx
        split at h
        · cases h
        · rename_i gs' hxs
          injection h with h; injection h with e1 e2
          subst e1; subst e2
          cases xs with
          | nil => exact ⟨x, rfl, hx⟩
          | cons y ys =>
            simp only [rdsO] at hxs
            split at hxs
            · cases hxs
            · split at hxs <;> cases hxs
  have two : ∀ g k, gs = [g, k] → ∃ x y, args = #[x, y] ∧ rdO Y x = some g ∧ rdO Y y = some k := by
    intro g k hg
    subst hg
    obtain ⟨l⟩ := args
    simp only at h
    cases l with
    | nil => simp [rdsO] at h
    | cons x xs =>
      simp only [rdsO] at h
      split at h
      · cases h
      · rename_i g0 hx
        split at h
        · cases h
        · rename_i gs' hxs
          injection h with h; injection h with e1 e2
          subst e1; subst e2
          cases xs with
          | nil => simp [rdsO] at hxs
          | cons y ys =>
            simp only [rdsO] at hxs
            split at hxs
            · cases hxs
            · rename_i g1 hy
              split at hxs
              · cases hxs
              · rename_i gs2 hys
                injection hxs with hxs; injection hxs with e1 e2
                subst e1; subst e2
                cases ys with
                | nil => exact ⟨x, y, rfl, hx, hy⟩
                | cons z zs =>
                  simp only [rdsO] at hys
                  split at hys
                  · cases hys
                  · split at hys <;> cases hys
  have hts : ∀ t rest, ts.toList = t :: rest → ts[0]? = some t := by
    intro t rest he
    rw [← Array.getElem?_toList, he]; rfl
  unfold opBuiltin
  split
  · rename_i t rest g heq
    obtain ⟨x, rfl, hx⟩ := one g rfl
    split
    · rename_i ti he; exact lenStr_ok hY (hts _ _ heq) he hx
    · rename_i ti n e he; exact lenArr_ok hY (hts _ _ heq) he
    · rename_i ti e he; exact lenSl_ok hY (hts _ _ heq) he hx
    · rename_i ti k e he; exact lenMap_ok hY (hts _ _ heq) he hx
    · trivial
  · rename_i g k
    obtain ⟨x, y, rfl, hx, hy⟩ := two g k rfl
    exact min_ok hx hy
  · rename_i g k
    obtain ⟨x, y, rfl, hx, hy⟩ := two g k rfl
    exact max_ok hx hy
  · rename_i t u g k heq
    obtain ⟨x, y, rfl, hx, hy⟩ := two g k rfl
    have hts2 : ts = #[t, u] := by rw [← Array.toArray_toList (xs := ts), heq]
    subst hts2
    split
    · rename_i ti e ui ud ht hu
      cases hs : isSrc ud with
      | false => trivial
      | true =>
        simp only [cond_true]
        split
        · rename_i ei ed he
          split
          · rename_i z hz
            cases hzs : Nat.beq (vCells z).length ei.size with
            | false => trivial
            | true =>
              rw [nbeq] at hzs
              exact ldR_ok hff (append_ok hY ht hu hs he hz (of_decide_eq_true hzs) hx hy)
          · trivial
        · trivial
    · trivial
  · rename_i t rest g k heq
    obtain ⟨x, y, rfl, hx, hy⟩ := two g k rfl
    split
    · rename_i ti e ht
      split
      · rename_i ei ed he
        exact ldR_ok hff (copy_ok hY (hts _ _ heq) ht he hx hy)
      · trivial
    · trivial
  · rename_i t rest g k heq
    obtain ⟨x, y, rfl, hx, hy⟩ := two g k rfl
    split
    · rename_i ti kt e ht
      split
      · rename_i r hr
        exact ldR_ok hff (mapDel_ok hY (hts _ _ heq) ht hr hx hy)
      · trivial
    · trivial
  · rename_i t rest g heq
    obtain ⟨x, rfl, hx⟩ := one g rfl
    split
    · rename_i ti kt e ht
      exact ldR_ok hff (mapClear_ok hY (hts _ _ heq) ht hx)
    · trivial
  · trivial

theorem rdOO_none {x : Option Operand} (h : rdOO Y x = some none) : x = none := by
  cases x with
  | none => rfl
  | some m =>
    simp only [rdOO] at h
    cases hr : rdO Y m with
    | none => rw [hr] at h; cases h
    | some g => rw [hr] at h; cases h

include hff hY in
theorem opS_ok (o : Op) : ODOK T P Y o (opS Z Y o) := by
  unfold opS
  split
  · split
    · rename_i g hx; exact move_ok hx
    · trivial
  · split
    · rename_i g hx; exact assign_ok hx
    · trivial
  · split
    · rename_i c a b hc ha hb; exact pick_ok hc ha hb
    · trivial
  · split
    · rename_i p g hp hx; exact load_ok hY hp hx
    · trivial
  · split
    · rename_i ti d g k ht hx hy; exact ldR_ok hff (store_ok hY ht hx hy)
    · trivial
  · split
    · rename_i f g k hf hx hy; exact binop_ok hY hf hx hy
    · trivial
  · split
    · rename_i g hx; exact not_ok hx
    · rename_i g hx; exact neg_ok hx
    · rename_i g hx; exact xor_ok hx
    · trivial
  · split
    · rename_i g hx; exact nil_ok hx
    · trivial
  · split
    · rename_i ti fs g ht hx
      split
      · rename_i fd hfd
        split
        · rename_i fi dd hft
          cases hz : Nat.beq fi.size 0 with
          | true => trivial
          | false => exact fieldAddr_ok hY ht hfd hft hz hx
        · trivial
      · trivial
    · trivial
  · split
    · rename_i ti fs g ht hx
      split
      · rename_i fd hfd
        split
        · rename_i p hp; exact field_ok hY ht hfd hp hx
        · trivial
      · trivial
    · trivial
  · split
    · rename_i ti n e g k ht hx hi
      split
      · rename_i ei ed he; exact ixArr_ok hY ht he hx hi
      · trivial
    · rename_i ti e g k ht hx hi
      split
      · rename_i ei ed he; exact ixSl_ok hY ht he hx hi
      · trivial
    · trivial
  · split
    · rename_i ti n e g k ht hx hi
      split
      · rename_i ei ed p he hp; exact indexArr_ok hY ht he hp hx hi
      · trivial
    · rename_i ti g k ht hx hi
      exact indexStr_ok hY ht hx hi
    · trivial
  · split
    · rename_i g hx; exact extract_ok hx
    · trivial
  · split
    · rename_i ti g l h ht hx hlo hhi hmx
      have hm := rdOO_none hmx
      subst hm
      exact sliceStr_ok hY ht hx hlo hhi
    · rename_i ti e g l h m ht hx hlo hhi hmx
      split
      · rename_i ei ed he; exact sliceSl_ok hY ht he hx hlo hhi hmx
      · trivial
    · rename_i ti n e g l h m ht hx hlo hhi hmx
      split
      · rename_i ei ed he; exact sliceArr_ok hY ht he hx hlo hhi hmx
      · trivial
    · trivial
  · split
    · rename_i ti fs z gs ht hz hgs
      cases hall : fs.toList.all fun f => (Y.tys.get f.type).isSome with
      | false => trivial
      | true =>
        simp only [cond_true]
        split
        · rename_i ps hps; exact buildStruct_ok hY ht hz hgs hall hps
        · trivial
    · rename_i ti n e z gs ht hz hgs
      split
      · rename_i ei ed he
        split
        · rename_i ps hps; exact buildArray_ok hY ht he hz hgs hps
        · trivial
      · trivial
    · trivial
  · split
    · rename_i si e di g hs hd hx
      split
      · rename_i ei he; exact toStr_ok hY hs hd he hx
      · trivial
    · rename_i si di e g hs hd hx
      split
      · rename_i ei he; exact bytes_ok hY hs hd he hx
      · trivial
    · rename_i si sk di k g hs hd hx; exact convInt_ok hY hs hd hx
    · rename_i si di g hs hd hx; exact convStr_ok hY hs hd hx
    · trivial
  · split
    · trivial
    · rename_i a1 d g hd hget hx
      exact iface_ok (ti := d.1) (d := d.2) hY hget (fun ms e => hd d.1 ms (by rw [← e])) hx
    · trivial
  · split
    · rename_i a b h1 h2; exact func_ok h1 h2
    · trivial
  · split
    · rename_i z ti d hz ht; exact alloc_ok hY hz
    · trivial
  · split
    · rename_i g ti d hx ht; exact box_ok hx
    · trivial
  · split
    · rename_i ti e gs ht hgs
      split
      · rename_i ei ed z he hz
        cases hb : (Nat.ble (Nat.mul _ ei.size) 10000 && Nat.beq z.length ei.size) with
        | false => trivial
        | true =>
          simp only [cond_true]
          split
          · rename_i ps hps
            rw [Bool.and_eq_true, nble, nbeq] at hb
            exact buildSlice_ok hY ht he hz hgs hps (of_decide_eq_true hb.1) (of_decide_eq_true hb.2)
          · trivial
      · trivial
    · trivial
  · split
    · rename_i ti e g k ht hx hy
      split
      · rename_i ei ed z he hz
        cases hb : (Nat.ble ei.bytes 10000 && Nat.beq z.length ei.size) with
        | false => trivial
        | true =>
          rw [Bool.and_eq_true, nble, nbeq] at hb
          exact makeSlice_ok hY ht he hz hx hy (of_decide_eq_true hb.1) (of_decide_eq_true hb.2)
      · trivial
    · trivial
  · exact mapNew_ok
  · split
    · rename_i ti kt e g k ht hx hy
      split
      · rename_i ei ed r he hr
        split
        · rename_i z hz
          cases hgz : ground 8 z with
          | false => trivial
          | true => exact lookup_ok hY ht he hr hz hgz hx hy
        · trivial
      · trivial
    · trivial
  · split
    · rename_i ti kt e g k q ht hx hy hu
      split
      · rename_i r hr; exact ldR_ok hff (mapSet_ok hY (.inl rfl) ht hr hx hy hu)
      · trivial
    · trivial
  · split
    · rename_i ti kt e g k q ht hx hy hu
      split
      · rename_i r hr; exact ldR_ok hff (mapSet_ok hY (.inr rfl) ht hr hx hy hu)
      · trivial
    · trivial
  · split
    · rename_i gs hgs; exact builtin_ok hff hY _ _ _ gs hgs
    · trivial
  · split
    · rename_i gs hgs
      split
      · exact callR_ok hgs
      · split
        · rename_i g hg; exact callV_ok hff hg hgs
        · trivial
    · trivial
  · trivial

end
end Go.Ax
