import Derived.Test.YtdlacmhfgnghbaaGreatDoorAxFin
/- Code of which some regions are told by hand: for what the interpreter cannot see (data that are not known). -/
set_option linter.unusedVariables false
set_option linter.constructorNameAsVariable false
set_option linter.unusedSimpArgs false
namespace Go.Ax

section
variable {R : Type} (Z : Res R) (T : R → Prop) (P : Program) (Y : Ty)

/-- what is asked beside of the world, kept by every step -/
abbrev JW := Sg → Hp → World → Prop
def Keeps (J : JW) : Prop := ∀ (σ : Sg) (H : Hp) (nx : Nat) (w : World) (σ' : Sg) (H' : Hp) (nx' : Nat) (w' : World), J σ H w → Step σ H nx w σ' H' nx' w' → J σ' H' w'

def DOKx (J : JW) (nt : Nat) (code : Code) (d : Den R) : Prop :=
  ∀ c, CallOK T P Y c → ∀ tm H nx k, T (d c tm H nx k) → ∃ e tm' H' nx', T (k e tm' H' nx') ∧ ∀ (σ : Sg) (w : World) (a : Act), Inv Y.ng σ H nx w → J σ H w → TR σ nt tm a.tmps →
    ∀ Q : Exit → Act → World → Prop, (∀ (σ' : Sg) (a' : Act) (w' : World), Step σ H nx w σ' H' nx' w' → TR σ' nt tm' a'.tmps → a'.defers = a.defers → Q (exC e) a' w') → code.wp P Q a w

def LsOKx (J : JW) (nt : Nat) (ops : Array Oper) (l : List Oper) (d : Lst R) : Prop :=
  ∀ c, CallOK T P Y c → ∀ tm H nx k, T (d c tm H nx k) → ∃ tm' H' nx', T (k tm' H' nx') ∧ ∀ (σ : Sg) (w : World) (a : Act), Inv Y.ng σ H nx w → J σ H w → TR σ nt tm a.tmps →
    ∀ Q : Exit → Act → World → Prop, (∀ (σ' : Sg) (a' : Act) (w' : World), Step σ H nx w σ' H' nx' w' → TR σ' nt tm' a'.tmps → a'.defers = a.defers → Q .normal a' w') → wpList P ops Q l a w

def QOKx (J : JW) (o : Op) (f : TT → Hp → Option Value) : Prop :=
  ∀ (σ : Sg) (nt : Nat) (tm : TT) (H : Hp) (w : World) (a : Act), Glob Y.ng σ → J σ H w → TR σ nt tm a.tmps → WR σ H w → ∀ v, f tm H = some v →
    ∃ v', VR σ v v' ∧ ∀ oper : Oper, oper.op = o → (execOp a.eval oper).run P w = .ok (.value v') w

def ODOKx (J : JW) (o : Op) : OD R → Prop
  | .m g => QOKx P Y J o (fun tm _ => some (g tm))
  | .p f => QOKx P Y J o (fun tm _ => f tm)
  | .r f => QOKx P Y J o f
  | .a f => AOK P Y o f
  | .l f => LOK T P Y o f
  | .bad => True

/-- as listS, the operations turned by 'of' -/
noncomputable def listF (of : Op → OD R) (nt : Nat) (ops : Array Oper) : List Oper → Bx (Lst R)
  | [] => .mk cEnd
  | o :: rest => match listF of nt ops rest with
    | .mk r => match wrD nt o.dst, guardS ops o with
      | some w, some none => .mk (cOp Z (of o.op) w r)
      | some w, some (some (g, want)) => .mk (cG g want (cOp Z (of o.op) w r) (cM (fun _ => undef) w r))
      | _, _ => .mk (cBad Z)

/-- as codeS, the regions in the order of the text by 'lf' -/
noncomputable def codeX (nt : Nat) (dr : PT (List DI)) (lf : Array Oper → Lst R) : Code → Bx (Den R)
  | .skip | .label _ => .mk dSkip
  | .seq a b => match codeX nt dr lf a with
    | .mk da => match codeX nt dr lf b with
      | .mk db => .mk (dSeq da db)
  | .cond c a b => match codeX nt dr lf a with
    | .mk da => match codeX nt dr lf b with
      | .mk db => match rdO Y c with
        | some g => .mk (dCond Z g da db)
        | none => .mk (dBad Z)
  | .block id b => match codeX nt dr lf b with
    | .mk db => .mk (dBlock id db)
  | .loop b => match codeX nt dr lf b with
    | .mk db => .mk (dLoop Z db)
  | .exit id => .mk (dExit id)
  | .ret => .mk dRet
  | .scope b => codeX nt dr lf b
  | .region _ ops false => .mk (dReg (lf ops))
  | .region id ops true => codeS Z Y nt dr (.region id ops true)
  | _ => .mk (dBad Z)
end

section
variable {R : Type} {Z : Res R} {T : R → Prop} (hff : ¬ T Z.ff) {P : Program} {Y : Ty} (hY : TyOK P Y) {J : JW}

theorem ODOKx.of {o : Op} {od : OD R} (h : ODOK T P Y o od) : ODOKx T P Y J o od := by
  cases od with
  | m g => exact fun σ nt tm H w a hg _ htr hw => h σ nt tm H w a hg htr hw
  | p f => exact fun σ nt tm H w a hg _ htr hw => h σ nt tm H w a hg htr hw
  | r f => exact fun σ nt tm H w a hg _ htr hw => h σ nt tm H w a hg htr hw
  | a f => exact h
  | l f => exact h
  | bad => trivial

theorem DOKx.of {nt : Nat} {code : Code} {d : Den R} (h : DOK T P Y nt code d) : DOKx T P Y J nt code d := by
  intro c hc tm H nx k ht
  obtain ⟨e, tm', H', nx', h1, h2⟩ := h c hc tm H nx k ht
  exact ⟨e, tm', H', nx', h1, fun σ w a hinv _ htr => h2 σ w a hinv htr⟩

/-- one operation that is wanted -/
def OneOKx (T : R → Prop) (P : Program) (Y : Ty) (J : JW) (nt : Nat) (o : Oper) (f : Lst R → Lst R) : Prop :=
  ∀ (r : Lst R) c, CallOK T P Y c → ∀ tm H nx k, T (f r c tm H nx k) → ∃ tm' H' nx', T (r c tm' H' nx' k) ∧ ∀ (σ : Sg) (w : World) (a : Act), Inv Y.ng σ H nx w → J σ H w → TR σ nt tm a.tmps →
    ∀ (K : Act → World → Prop) (Q : Exit → Act → World → Prop), (∀ (σ' : Sg) (a' : Act) (w' : World), Step σ H nx w σ' H' nx' w' → TR σ' nt tm' a'.tmps → a'.defers = a.defers → K a' w') → o.wp P a w K Q

include hff in
theorem cOpx_ok {nt : Nat} {o : Oper} {w : Wr} {od : OD R} (hw : WrOK nt o.dst w) (hod : ODOKx T P Y J o.op od) : OneOKx T P Y J nt o (cOp Z od w) := by
  intro r c hc tm H nx k ht
  cases hop : od with
  | m g =>
    rw [hop] at hod ht
    refine ⟨_, H, nx, ht, fun σ w0 a hinv hJw htr K Q hk => ?_⟩
    obtain ⟨v', h1, h2⟩ := hod σ nt tm H w0 a hinv.glob hJw htr hinv.wr _ rfl
    exact wp_of_run (h2 o rfl) (.inl rfl) (hk σ _ _ (Step.refl hinv) (htr.put hw h1) (put_defers _ _ _))
  | p f =>
    rw [hop] at hod ht
    obtain ⟨v, hv, ht⟩ := T_ob hff ht
    refine ⟨_, H, nx, ht, fun σ w0 a hinv hJw htr K Q hk => ?_⟩
    obtain ⟨v', h1, h2⟩ := hod σ nt tm H w0 a hinv.glob hJw htr hinv.wr v hv
    exact wp_of_run (h2 o rfl) (.inl rfl) (hk σ _ _ (Step.refl hinv) (htr.put hw h1) (put_defers _ _ _))
  | r f =>
    rw [hop] at hod ht
    obtain ⟨v, hv, ht⟩ := T_ob hff ht
    refine ⟨_, H, nx, ht, fun σ w0 a hinv hJw htr K Q hk => ?_⟩
    obtain ⟨v', h1, h2⟩ := hod σ nt tm H w0 a hinv.glob hJw htr hinv.wr v hv
    exact wp_of_run (h2 o rfl) (.inl rfl) (hk σ _ _ (Step.refl hinv) (htr.put hw h1) (put_defers _ _ _))
  | a f =>
    rw [hop] at hod ht
    obtain ⟨⟨ob, len⟩, hv, ht⟩ := T_ob hff ht
    cases hn : Nat.blt nx 1000000 with
    | false => simp only [hn, cond_false] at ht; exact absurd ht hff
    | true =>
      simp only [hn, cond_true] at ht
      rw [nblt] at hn
      have hn := of_decide_eq_true hn
      refine ⟨_, _, _, ht, fun σ w0 a hinv hJw htr K Q hk => ?_⟩
      obtain ⟨i, v', w', q1, q2, q3, q4, q5, q6, q7, q8⟩ := hod σ nt tm w0 a hinv.glob htr ob len hv
      have hnone := hinv.fresh nx (Nat.le_refl _)
      obtain ⟨p1, p2⟩ := q7 nx hnone
      exact wp_of_run (q8 o rfl) (.inl rfl) (hk _ _ _ (Step.new hinv hn q1 p2 q2 q3 q4 q5 q6) ((htr.mono (Sg.put_ext hnone)).put hw p1) (put_defers _ _ _))
  | l f =>
    rw [hop] at hod ht
    obtain ⟨v, H', nx', h1, h2⟩ := hod c hc tm H nx _ ht
    refine ⟨_, H', nx', h1, fun σ w0 a hinv hJw htr K Q hk => ?_⟩
    exact (h2 σ nt w0 a hinv htr o rfl).wp (fun v' w' ⟨σ', q1, q2⟩ => hk σ' _ _ q2 ((htr.mono q2.ext).put hw q1) (put_defers _ _ _))
  | bad =>
    rw [hop] at ht
    exact absurd ht hff

theorem OneOKx.list {nt : Nat} {ops : Array Oper} {o : Oper} {l : List Oper} {f : Lst R → Lst R} {r : Lst R} (hJ : Keeps J) (h : OneOKx T P Y J nt o f) (hr : LsOKx T P Y J nt ops l r) (hg : o.guard = none) : LsOKx T P Y J nt ops (o :: l) (f r) := by
  intro c hc tm H nx k ht
  obtain ⟨tm1, H1, nx1, h1, h2⟩ := h r c hc tm H nx k ht
  obtain ⟨tm2, H2, nx2, h3, h4⟩ := hr c hc tm1 H1 nx1 k h1
  refine ⟨tm2, H2, nx2, h3, fun σ w a hinv hJw htr Q hk => wpList_step fun K hK => ?_⟩
  rw [if_pos (wanted_none hg)]
  exact h2 σ w a hinv hJw htr K Q (fun σ' a' w' s1 t1 d1 => hK _ _ (h4 σ' w' a' (s1.inv hinv) (hJ _ _ _ _ _ _ _ _ hJw s1) t1 Q (fun σ'' a'' w'' s2 t2 d2 => hk σ'' a'' w'' (s1.trans s2) t2 (d2.trans d1))))

include hff in
theorem listF_ok (hJ : Keeps J) {of : Op → OD R} (hof : ∀ o, ODOKx T P Y J o (of o)) (nt : Nat) (ops : Array Oper) : ∀ (l : List Oper), LsOKx T P Y J nt ops l (listF Z of nt ops l).1 := by
  intro l
  induction l with
  | nil =>
    intro c hc tm H nx k ht
    exact ⟨tm, H, nx, ht, fun σ w a hinv hJw htr Q hk => wpList_nil (hk σ a w (Step.refl hinv) htr rfl)⟩
  | cons o l hrest =>
    generalize hr : (listF Z of nt ops l).1 = r at hrest
    simp only [listF, hr]
    split
    · rename_i w hw hg
      have hwok := wrD_ok hw
      have hguard : o.guard = none := by
        unfold guardS at hg
        split at hg
        · assumption
        · split at hg
          · cases hg
          · split at hg
            · cases hg
            · split at hg <;> cases hg
      exact (cOpx_ok hff hwok (hof o.op) (P := P) (Z := Z)).list hJ hrest hguard
    · rename_i w g want hw hg
      have hwok := wrD_ok hw
      have hex : ∃ j p t, o.guard = some (j, want) ∧ ops[j]? = some p ∧ p.dst = some t ∧ rdS 16 t = some g := by
        unfold guardS at hg
        split at hg
        · cases hg
        · rename_i j want' hgd
          split at hg
          · cases hg
          · rename_i p hp
            split at hg
            · cases hg
            · rename_i t hdst
              split at hg
              · cases hg
              · rename_i g' hg'
                injection hg with hg; injection hg with hg; injection hg with e1 e2
                subst e1; subst e2
                exact ⟨j, p, t, hgd, hp, hdst, hg'⟩
      obtain ⟨j, p, t, e1, e2, e3, e4⟩ := hex
      intro c hc tm H nx k ht
      simp only [cG] at ht
      cases hwant : wantD g want tm with
      | true =>
        simp only [hwant, cond_true] at ht
        obtain ⟨tm1, H1, nx1, h1, h2⟩ := cOpx_ok hff hwok (hof o.op) (P := P) (Z := Z) r c hc tm H nx k ht
        obtain ⟨tm2, H2, nx2, h3, h4⟩ := hrest c hc tm1 H1 nx1 k h1
        refine ⟨tm2, H2, nx2, h3, fun σ w0 a hinv hJw htr Q hk => wpList_step fun K hK => ?_⟩
        rw [if_pos (by rw [wanted_eq (htr.val t) e1 e2 e3 e4]; exact hwant)]
        exact h2 σ w0 a hinv hJw htr K Q (fun σ' a' w' s1 t1 d1 => hK _ _ (h4 σ' w' a' (s1.inv hinv) (hJ _ _ _ _ _ _ _ _ hJw s1) t1 Q (fun σ'' a'' w'' s2 t2 d2 => hk σ'' a'' w'' (s1.trans s2) t2 (d2.trans d1))))
      | false =>
        simp only [hwant, cond_false] at ht
        obtain ⟨tm2, H2, nx2, h3, h4⟩ := hrest c hc _ H nx k ht
        refine ⟨tm2, H2, nx2, h3, fun σ w0 a hinv hJw htr Q hk => wpList_step fun K hK => ?_⟩
        rw [if_neg (by rw [wanted_eq (htr.val t) e1 e2 e3 e4, hwant]; simp)]
        exact hK _ _ (h4 σ w0 _ hinv hJw (htr.put hwok (VR.undef σ)) Q (fun σ'' a'' w'' s2 t2 d2 => hk σ'' a'' w'' s2 t2 (d2.trans (put_defers _ _ _))))
    · intro c hc tm H nx k ht
      exact absurd ht hff

include hff in
theorem loopX_ok {nt : Nat} {code : Code} {d : Den R} (hJ : Keeps J) (h : DOKx T P Y J nt code d) : ∀ n, ∀ c, CallOK T P Y c → ∀ tm H nx k, T (loopN Z d n c tm H nx k) → ∃ e tm' H' nx', T (k e tm' H' nx') ∧ ∀ (σ : Sg) (w : World) (a : Act), Inv Y.ng σ H nx w → J σ H w → TR σ nt tm a.tmps →
    ∀ Q : Exit → Act → World → Prop, (∀ (σ' : Sg) (a' : Act) (w' : World), Step σ H nx w σ' H' nx' w' → TR σ' nt tm' a'.tmps → a'.defers = a.defers → Q (exC e) a' w') → Code.rounds P code Q n a w := by
  intro n
  induction n with
  | zero => intro c hc tm H nx k ht; exact absurd ht hff
  | succ n ih =>
    intro c hc tm H nx k ht
    obtain ⟨e1, tm1, H1, nx1, h1, h2⟩ := h c hc tm H nx _ ht
    cases e1 with
    | normal =>
      obtain ⟨e2, tm2, H2, nx2, h3, h4⟩ := ih c hc tm1 H1 nx1 k h1
      exact ⟨e2, tm2, H2, nx2, h3, fun σ w a hinv hJw htr Q hk => h2 σ w a hinv hJw htr _ (fun σ' a' w' s1 t1 d1 => h4 σ' w' a' (s1.inv hinv) (hJ _ _ _ _ _ _ _ _ hJw s1) t1 Q (fun σ'' a'' w'' s2 t2 d2 => hk σ'' a'' w'' (s1.trans s2) t2 (d2.trans d1)))⟩
    | ret => exact ⟨.ret, tm1, H1, nx1, h1, fun σ w a hinv hJw htr Q hk => h2 σ w a hinv hJw htr _ (fun σ' a' w' s1 t1 d1 => hk σ' a' w' s1 t1 d1)⟩
    | exit i => exact ⟨.exit i, tm1, H1, nx1, h1, fun σ w a hinv hJw htr Q hk => h2 σ w a hinv hJw htr _ (fun σ' a' w' s1 t1 d1 => hk σ' a' w' s1 t1 d1)⟩

include hff hY in
theorem codeX_ok (nt : Nat) (dr : PT (List DI)) (lf : Array Oper → Lst R) (hlf : ∀ ops, LsOKx T P Y J nt ops ops.toList (lf ops)) (hJ : Keeps J) (hdraw : DrawsOK Z T P Y) :
    ∀ (code : Code), codeOK Z Y dr code = true → DOKx T P Y J nt code (codeX Z Y nt dr lf code).1 := by
  have hbad : ∀ code, DOKx T P Y J nt code (dBad Z) := fun code c hc tm H nx k ht => absurd ht hff
  intro code
  induction code with
  | skip =>
    intro _
    exact DOKx.of (dSkip_ok (fun Q a w h => wp_skip h))
  | label l =>
    intro _
    exact DOKx.of (dSkip_ok (fun Q a w h => wp_label h))
  | seq x y ihx ihy =>
    intro hok
    simp only [codeOK, Bool.and_eq_true] at hok
    have hx := ihx hok.1
    have hy := ihy hok.2
    simp only [codeX]
    intro c hc tm H nx k ht
    obtain ⟨e1, tm1, H1, nx1, h1, h2⟩ := hx c hc tm H nx _ ht
    cases e1 with
    | normal =>
      obtain ⟨e2, tm2, H2, nx2, h3, h4⟩ := hy c hc tm1 H1 nx1 k h1
      exact ⟨e2, tm2, H2, nx2, h3, fun σ w a hinv hJw htr Q hk => wp_seq (h2 σ w a hinv hJw htr _ (fun σ' a' w' s1 t1 d1 => h4 σ' w' a' (s1.inv hinv) (hJ _ _ _ _ _ _ _ _ hJw s1) t1 Q (fun σ'' a'' w'' s2 t2 d2 => hk σ'' a'' w'' (s1.trans s2) t2 (d2.trans d1))))⟩
    | ret => exact ⟨.ret, tm1, H1, nx1, h1, fun σ w a hinv hJw htr Q hk => wp_seq (h2 σ w a hinv hJw htr _ (fun σ' a' w' s1 t1 d1 => hk σ' a' w' s1 t1 d1))⟩
    | exit i => exact ⟨.exit i, tm1, H1, nx1, h1, fun σ w a hinv hJw htr Q hk => wp_seq (h2 σ w a hinv hJw htr _ (fun σ' a' w' s1 t1 d1 => hk σ' a' w' s1 t1 d1))⟩
  | cond x y z ihy ihz =>
    intro hok
    simp only [codeOK, Bool.and_eq_true] at hok
    have hy := ihy hok.1
    have hz := ihz hok.2
    simp only [codeX]
    split
    · rename_i g hg
      intro c hc tm H nx k ht
      obtain ⟨b, hb, ht⟩ := T_ob hff ht
      have hev : ∀ (σ : Sg) (w : World) (a : Act), Inv Y.ng σ H nx w → TR σ nt tm a.tmps → a.eval x = .bool b := fun σ w a hinv htr => by
        have := rdO_ok hg hinv.glob htr
        rw [vBool_some hb] at this
        exact this.bool_eq
      cases b with
      | true =>
        obtain ⟨e2, tm2, H2, nx2, h3, h4⟩ := hy c hc tm H nx k ht
        exact ⟨e2, tm2, H2, nx2, h3, fun σ w a hinv hJw htr Q hk => wp_cond_true (hev σ w a hinv htr) (h4 σ w a hinv hJw htr Q hk)⟩
      | false =>
        obtain ⟨e2, tm2, H2, nx2, h3, h4⟩ := hz c hc tm H nx k ht
        exact ⟨e2, tm2, H2, nx2, h3, fun σ w a hinv hJw htr Q hk => wp_cond_false (hev σ w a hinv htr) (h4 σ w a hinv hJw htr Q hk)⟩
    · exact hbad _
  | block id y ihy =>
    intro hok
    have hy := ihy hok
    simp only [codeX]
    intro c hc tm H nx k ht
    obtain ⟨e1, tm1, H1, nx1, h1, h2⟩ := hy c hc tm H nx _ ht
    cases e1 with
    | normal => exact ⟨.normal, tm1, H1, nx1, h1, fun σ w a hinv hJw htr Q hk => wp_block (h2 σ w a hinv hJw htr _ (fun σ' a' w' s1 t1 d1 => hk σ' a' w' s1 t1 d1))⟩
    | ret => exact ⟨.ret, tm1, H1, nx1, h1, fun σ w a hinv hJw htr Q hk => wp_block (h2 σ w a hinv hJw htr _ (fun σ' a' w' s1 t1 d1 => hk σ' a' w' s1 t1 d1))⟩
    | exit j =>
      have h1 : T (bif Nat.beq j id then k .normal tm1 H1 nx1 else k (.exit j) tm1 H1 nx1) := h1
      cases hj : Nat.beq j id with
      | true =>
        rw [hj] at h1
        rw [nbeq] at hj
        have hj := of_decide_eq_true hj
        exact ⟨.normal, tm1, H1, nx1, h1, fun σ w a hinv hJw htr Q hk => wp_block (h2 σ w a hinv hJw htr _ (fun σ' a' w' s1 t1 d1 => by simp only [exC, Exit.inBlock, hj, if_true]; exact hk σ' a' w' s1 t1 d1))⟩
      | false =>
        rw [hj] at h1
        rw [nbeq] at hj
        have hj := of_decide_eq_false hj
        exact ⟨.exit j, tm1, H1, nx1, h1, fun σ w a hinv hJw htr Q hk => wp_block (h2 σ w a hinv hJw htr _ (fun σ' a' w' s1 t1 d1 => by simp only [exC, Exit.inBlock, hj, if_false]; exact hk σ' a' w' s1 t1 d1))⟩
  | loop y ihy =>
    intro hok
    simp only [codeX]
    intro c hc tm H nx k ht
    obtain ⟨e2, tm2, H2, nx2, h3, h4⟩ := loopX_ok hff hJ (ihy hok) 100000 c hc tm H nx k ht
    exact ⟨e2, tm2, H2, nx2, h3, fun σ w a hinv hJw htr Q hk => wp_loop_rounds 100000 (h4 σ w a hinv hJw htr Q hk)⟩
  | exit id =>
    intro _
    intro c hc tm H nx k ht
    exact ⟨.exit id, tm, H, nx, ht, fun σ w a hinv hJw htr Q hk => wp_exit (hk σ a w (Step.refl hinv) htr rfl)⟩
  | ret =>
    intro _
    intro c hc tm H nx k ht
    exact ⟨.ret, tm, H, nx, ht, fun σ w a hinv hJw htr Q hk => wp_ret (hk σ a w (Step.refl hinv) htr rfl)⟩
  | scope y ihy =>
    intro hok
    have hy := ihy hok
    simp only [codeX]
    intro c hc tm H nx k ht
    obtain ⟨e2, tm2, H2, nx2, h3, h4⟩ := hy c hc tm H nx k ht
    refine ⟨e2, tm2, H2, nx2, h3, fun σ w a hinv hJw htr Q hk => wp_scope_straight (h4 σ w a hinv hJw htr _ (fun σ' a' w' s1 t1 d1 => ?_))⟩
    have := hk σ' a' w' s1 t1 d1
    cases e2 <;> exact this
  | region id ops drawn =>
    intro hok
    cases drawn with
    | false =>
      simp only [codeX]
      intro c hc tm H nx k ht
      obtain ⟨tm2, H2, nx2, h3, h4⟩ := hlf ops c hc tm H nx _ ht
      exact ⟨.normal, tm2, H2, nx2, h3, fun σ w a hinv hJw htr Q hk => wp_region_list (h4 σ w a hinv hJw htr Q hk)⟩
    | true => exact DOKx.of (codeS_ok hff hY nt dr (hdraw nt) (.region id ops true) hok)
  | _ =>
    intro _
    exact hbad _

end

/-- a block that the interpreter does not hold: as it was, and no live block lies there -/
def Foreign (b : Nat) (o : Obj) : JW := fun σ H w => w.heap[b]? = some o ∧ ∀ (x : Nat) (i : BI), (H.get x).isSome = true → σ x = some i → i.blk ≠ b

theorem Foreign.keeps (b : Nat) (o : Obj) : Keeps (Foreign b o) := by
  intro σ H nx w σ' H' nx' w' ⟨h1, h2⟩ s
  have hb : b < w.heap.size := by
    rcases Nat.lt_or_ge b w.heap.size with h | h
    · exact h
    · rw [Array.getElem?_eq_none h] at h1; cases h1
  refine ⟨by rw [s.frame b hb (fun x i hx hi => h2 x i hx hi)]; exact h1, fun x i hx hi => ?_⟩
  rcases s.own x i hx hi with h | ⟨y, j, q1, q2, q3⟩
  · omega
  · rw [← q3]; exact h2 y j q1 q2
end Go.Ax
