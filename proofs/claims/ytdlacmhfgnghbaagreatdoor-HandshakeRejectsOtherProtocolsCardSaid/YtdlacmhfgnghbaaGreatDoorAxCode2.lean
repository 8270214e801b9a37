import Derived.Test.YtdlacmhfgnghbaaGreatDoorAxCode1
import Derived.Scope
import Derived.LoopN
/- Code and calls: what they are turned into is right. -/
set_option linter.unusedVariables false
set_option linter.constructorNameAsVariable false
set_option linter.unusedSimpArgs false
namespace Go.Ax

def exC : Ex → Exit
  | .normal => .normal
  | .exit i => .exit i
  | .ret => .ret

section
variable {R : Type} (Z : Res R) (T : R → Prop) (P : Program) (Y : Ty)

def DOK (nt : Nat) (code : Code) (d : Den R) : Prop :=
  ∀ c, CallOK T P Y c → ∀ tm H nx k, T (d c tm H nx k) → ∃ e tm' H' nx', T (k e tm' H' nx') ∧ ∀ (σ : Sg) (w : World) (a : Act), Inv Y.ng σ H nx w → TR σ nt tm a.tmps →
    ∀ Q : Exit → Act → World → Prop, (∀ (σ' : Sg) (a' : Act) (w' : World), Step σ H nx w σ' H' nx' w' → TR σ' nt tm' a'.tmps → a'.defers = a.defers → Q (exC e) a' w') → code.wp P Q a w

def LsOK (nt : Nat) (ops : Array Oper) (l : List Oper) (d : Lst R) : Prop :=
  ∀ c, CallOK T P Y c → ∀ tm H nx k, T (d c tm H nx k) → ∃ tm' H' nx', T (k tm' H' nx') ∧ ∀ (σ : Sg) (w : World) (a : Act), Inv Y.ng σ H nx w → TR σ nt tm a.tmps →
    ∀ Q : Exit → Act → World → Prop, (∀ (σ' : Sg) (a' : Act) (w' : World), Step σ H nx w σ' H' nx' w' → TR σ' nt tm' a'.tmps → a'.defers = a.defers → Q .normal a' w') → wpList P ops Q l a w
end

section
variable {R : Type} {Z : Res R} {T : R → Prop} (hff : ¬ T Z.ff) {P : Program} {Y : Ty} (hY : TyOK P Y)

theorem put_defers (a : Act) (d : Option Tmp) (v : Value) : (a.put d v).defers = a.defers := by cases d <;> rfl

theorem wanted_eq {σ : Sg} {tm : TT} {ops : Array Oper} {o p : Oper} {a : Act} {j t : Nat} {want : Bool} {g : Rd} (ht : VR σ (tm.get t) (a.tmps.getD t undef)) (ho : o.guard = some (j, want)) (hp : ops[j]? = some p) (hd : p.dst = some t) (hg : rdS 16 t = some g) :
    Region.wanted o (yielded ops a.tmps) = wantD g want tm := by
  have hv := ht
  rw [← rdS_get 16 t g hg] at hv
  have hy : yielded ops a.tmps j = match a.tmps.getD t undef with | .bool b => some b | _ => none := by
    simp only [yielded, hp, Option.bind_some, hd]
    rcases Nat.lt_or_ge t a.tmps.size with h | h
    · simp only [Array.getElem?_eq_getElem h, Option.bind_some, Array.getD_eq_getD_getElem?, Option.getD_some]
      split <;> simp_all
    · simp [Array.getElem?_eq_none h, undef]
  simp only [Region.wanted, ho, hy, wantD]
  cases hb : vBool (g tm) with
  | some b =>
    rw [vBool_some hb] at hv
    rw [hv.bool_eq]
    simp only [ob_some]
    cases b <;> cases want <;> rfl
  | none =>
    simp only [ob_none]
    have : ∀ b, a.tmps.getD t undef ≠ .bool b := by
      intro b hb'
      rw [hb'] at hv
      generalize g tm = x at hv hb
      cases hv
      cases hb
    split
    · rename_i b hb'; exact absurd hb' (this b)
    · rfl

theorem wanted_none {ops : Array Oper} {o : Oper} {a : Act} (ho : o.guard = none) : Region.wanted o (yielded ops a.tmps) = true := by
  simp [Region.wanted, ho]

/-- one operation that is wanted -/
def OneOK (T : R → Prop) (P : Program) (Y : Ty) (nt : Nat) (o : Oper) (f : Lst R → Lst R) : Prop :=
  ∀ (r : Lst R) c, CallOK T P Y c → ∀ tm H nx k, T (f r c tm H nx k) → ∃ tm' H' nx', T (r c tm' H' nx' k) ∧ ∀ (σ : Sg) (w : World) (a : Act), Inv Y.ng σ H nx w → TR σ nt tm a.tmps →
    ∀ (K : Act → World → Prop) (Q : Exit → Act → World → Prop), (∀ (σ' : Sg) (a' : Act) (w' : World), Step σ H nx w σ' H' nx' w' → TR σ' nt tm' a'.tmps → a'.defers = a.defers → K a' w') → o.wp P a w K Q

include hff hY in
theorem cOp_ok {nt : Nat} {o : Oper} {w : Wr} (hw : WrOK nt o.dst w) : OneOK T P Y nt o (cOp Z (opS Z Y o.op) w) := by
  have hod := opS_ok hff hY o.op
  intro r c hc tm H nx k ht
  cases hop : opS Z Y o.op with
  | m g =>
    rw [hop] at hod ht
    refine ⟨_, H, nx, ht, fun σ w0 a hinv htr K Q hk => ?_⟩
    obtain ⟨v', h1, h2⟩ := hod σ nt tm H w0 a hinv.glob htr hinv.wr _ rfl
    exact wp_of_run (h2 o rfl) (.inl rfl) (hk σ _ _ (Step.refl hinv) (htr.put hw h1) (put_defers _ _ _))
  | p f =>
    rw [hop] at hod ht
    obtain ⟨v, hv, ht⟩ := T_ob hff ht
    refine ⟨_, H, nx, ht, fun σ w0 a hinv htr K Q hk => ?_⟩
    obtain ⟨v', h1, h2⟩ := hod σ nt tm H w0 a hinv.glob htr hinv.wr v hv
    exact wp_of_run (h2 o rfl) (.inl rfl) (hk σ _ _ (Step.refl hinv) (htr.put hw h1) (put_defers _ _ _))
  | r f =>
    rw [hop] at hod ht
    obtain ⟨v, hv, ht⟩ := T_ob hff ht
    refine ⟨_, H, nx, ht, fun σ w0 a hinv htr K Q hk => ?_⟩
    obtain ⟨v', h1, h2⟩ := hod σ nt tm H w0 a hinv.glob htr hinv.wr v hv
    exact wp_of_run (h2 o rfl) (.inl rfl) (hk σ _ _ (Step.refl hinv) (htr.put hw h1) (put_defers _ _ _))
  | a f =>
    rw [hop] at hod ht
    obtain ⟨⟨ob, len⟩, hv, ht⟩ := T_ob hff ht
    cases hn : Nat.blt nx 1000000 with
    | false => simp only [hn, cond_false] at ht; exact absurd ht hff
    | true =>
      simp only [hn, cond_true] at ht
      rw [nblt] at hn
      have hn := of_decide_eq_true hn
      refine ⟨_, _, _, ht, fun σ w0 a hinv htr K Q hk => ?_⟩
      obtain ⟨i, v', w', q1, q2, q3, q4, q5, q6, q7, q8⟩ := hod σ nt tm w0 a hinv.glob htr ob len hv
      have hnone := hinv.fresh nx (Nat.le_refl _)
      obtain ⟨p1, p2⟩ := q7 nx hnone
      exact wp_of_run (q8 o rfl) (.inl rfl) (hk _ _ _ (Step.new hinv hn q1 p2 q2 q3 q4 q5 q6) ((htr.mono (Sg.put_ext hnone)).put hw p1) (put_defers _ _ _))
  | l f =>
    rw [hop] at hod ht
    obtain ⟨v, H', nx', h1, h2⟩ := hod c hc tm H nx _ ht
    refine ⟨_, H', nx', h1, fun σ w0 a hinv htr K Q hk => ?_⟩
    exact (h2 σ nt w0 a hinv htr o rfl).wp (fun v' w' ⟨σ', q1, q2⟩ => hk σ' _ _ q2 ((htr.mono q2.ext).put hw q1) (put_defers _ _ _))
  | bad =>
    rw [hop] at ht
    exact absurd ht hff

theorem OneOK.list {nt : Nat} {ops : Array Oper} {o : Oper} {l : List Oper} {f : Lst R → Lst R} {r : Lst R} (h : OneOK T P Y nt o f) (hr : LsOK T P Y nt ops l r) (hg : o.guard = none) : LsOK T P Y nt ops (o :: l) (f r) := by
  intro c hc tm H nx k ht
  obtain ⟨tm1, H1, nx1, h1, h2⟩ := h r c hc tm H nx k ht
  obtain ⟨tm2, H2, nx2, h3, h4⟩ := hr c hc tm1 H1 nx1 k h1
  refine ⟨tm2, H2, nx2, h3, fun σ w a hinv htr Q hk => wpList_step fun K hK => ?_⟩
  rw [if_pos (wanted_none hg)]
  exact h2 σ w a hinv htr K Q (fun σ' a' w' s1 t1 d1 => hK _ _ (h4 σ' w' a' (s1.inv hinv) t1 Q (fun σ'' a'' w'' s2 t2 d2 => hk σ'' a'' w'' (s1.trans s2) t2 (d2.trans d1))))

include hff hY in
theorem listS_ok (nt : Nat) (ops : Array Oper) : ∀ (l : List Oper), LsOK T P Y nt ops l (listS Z Y nt ops l).1 := by
  intro l
  induction l with
  | nil =>
    intro c hc tm H nx k ht
    exact ⟨tm, H, nx, ht, fun σ w a hinv htr Q hk => wpList_nil (hk σ a w (Step.refl hinv) htr rfl)⟩
  | cons o l hrest =>
    generalize hr : (listS Z Y nt ops l).1 = r at hrest
    have hlist : listS Z Y nt ops (o :: l) = (match wrD nt o.dst, guardS ops o, opS Z Y o.op with
      | some w, some none, od => .mk (cOp Z od w r)
      | some w, some (some (g, want)), od => .mk (cG g want (cOp Z od w r) (cM (fun _ => undef) w r))
      | _, _, _ => .mk (cBad Z)) := by
      simp only [listS, hr]
      cases h1 : wrD nt o.dst with
      | none => rfl
      | some w => cases h2 : guardS ops o with
        | none => rfl
        | some g => cases g with
          | none => cases h3 : opS Z Y o.op <;> rfl
          | some g => rfl
    rw [hlist]
    split
    · rename_i w hw hg
      have hwok := wrD_ok hw
      have hguard : o.guard = none := by
        unfold guardS at hg
        split at hg
        · assumption
        · split at hg
          · cases hg
          · split at hg
            · cases hg
            · split at hg <;> cases hg
      exact (cOp_ok hff hY hwok (P := P) (Z := Z)).list hrest hguard
    · rename_i w g want hw hg
      have hwok := wrD_ok hw
      have hex : ∃ j p t, o.guard = some (j, want) ∧ ops[j]? = some p ∧ p.dst = some t ∧ rdS 16 t = some g := by
        unfold guardS at hg
        split at hg
        · cases hg
        · rename_i j want' hgd
          split at hg
          · cases hg
          · rename_i p hp
            split at hg
            · cases hg
            · rename_i t hdst
              split at hg
              · cases hg
              · rename_i g' hg'
                injection hg with hg; injection hg with hg; injection hg with e1 e2
                subst e1; subst e2
                exact ⟨j, p, t, hgd, hp, hdst, hg'⟩
      obtain ⟨j, p, t, e1, e2, e3, e4⟩ := hex
      intro c hc tm H nx k ht
      simp only [cG] at ht
      cases hwant : wantD g want tm with
      | true =>
        simp only [hwant, cond_true] at ht
        obtain ⟨tm1, H1, nx1, h1, h2⟩ := cOp_ok hff hY hwok (P := P) (Z := Z) r c hc tm H nx k ht
        obtain ⟨tm2, H2, nx2, h3, h4⟩ := hrest c hc tm1 H1 nx1 k h1
        refine ⟨tm2, H2, nx2, h3, fun σ w0 a hinv htr Q hk => wpList_step fun K hK => ?_⟩
        rw [if_pos (by rw [wanted_eq (htr.val t) e1 e2 e3 e4]; exact hwant)]
        exact h2 σ w0 a hinv htr K Q (fun σ' a' w' s1 t1 d1 => hK _ _ (h4 σ' w' a' (s1.inv hinv) t1 Q (fun σ'' a'' w'' s2 t2 d2 => hk σ'' a'' w'' (s1.trans s2) t2 (d2.trans d1))))
      | false =>
        simp only [hwant, cond_false] at ht
        obtain ⟨tm2, H2, nx2, h3, h4⟩ := hrest c hc _ H nx k ht
        refine ⟨tm2, H2, nx2, h3, fun σ w0 a hinv htr Q hk => wpList_step fun K hK => ?_⟩
        rw [if_neg (by rw [wanted_eq (htr.val t) e1 e2 e3 e4, hwant]; simp)]
        exact hK _ _ (h4 σ w0 _ hinv (htr.put hwok (VR.undef σ)) Q (fun σ'' a'' w'' s2 t2 d2 => hk σ'' a'' w'' s2 t2 (d2.trans (put_defers _ _ _))))
    · intro c hc tm H nx k ht
      exact absurd ht hff

include hff in
theorem loop_ok {nt : Nat} {code : Code} {d : Den R} (h : DOK T P Y nt code d) : ∀ n, ∀ c, CallOK T P Y c → ∀ tm H nx k, T (loopN Z d n c tm H nx k) → ∃ e tm' H' nx', T (k e tm' H' nx') ∧ ∀ (σ : Sg) (w : World) (a : Act), Inv Y.ng σ H nx w → TR σ nt tm a.tmps →
    ∀ Q : Exit → Act → World → Prop, (∀ (σ' : Sg) (a' : Act) (w' : World), Step σ H nx w σ' H' nx' w' → TR σ' nt tm' a'.tmps → a'.defers = a.defers → Q (exC e) a' w') → Code.rounds P code Q n a w := by
  intro n
  induction n with
  | zero => intro c hc tm H nx k ht; exact absurd ht hff
  | succ n ih =>
    intro c hc tm H nx k ht
    obtain ⟨e1, tm1, H1, nx1, h1, h2⟩ := h c hc tm H nx _ ht
    cases e1 with
    | normal =>
      obtain ⟨e2, tm2, H2, nx2, h3, h4⟩ := ih c hc tm1 H1 nx1 k h1
      exact ⟨e2, tm2, H2, nx2, h3, fun σ w a hinv htr Q hk => h2 σ w a hinv htr _ (fun σ' a' w' s1 t1 d1 => h4 σ' w' a' (s1.inv hinv) t1 Q (fun σ'' a'' w'' s2 t2 d2 => hk σ'' a'' w'' (s1.trans s2) t2 (d2.trans d1)))⟩
    | ret => exact ⟨.ret, tm1, H1, nx1, h1, fun σ w a hinv htr Q hk => h2 σ w a hinv htr _ (fun σ' a' w' s1 t1 d1 => hk σ' a' w' s1 t1 d1)⟩
    | exit i => exact ⟨.exit i, tm1, H1, nx1, h1, fun σ w a hinv htr Q hk => h2 σ w a hinv htr _ (fun σ' a' w' s1 t1 d1 => hk σ' a' w' s1 t1 d1)⟩

theorem dSkip_ok {nt : Nat} {code : Code} (h : ∀ (Q : Exit → Act → World → Prop) (a : Act) (w : World), Q .normal a w → code.wp P Q a w) : DOK T P Y nt code (dSkip (R := R)) := by
  intro c hc tm H nx k ht
  exact ⟨.normal, tm, H, nx, ht, fun σ w a hinv htr Q hk => h Q a w (hk σ a w (Step.refl hinv) htr rfl)⟩

include hff hY in
theorem codeS_ok (nt : Nat) (dr : PT (List DI)) (hdraw : ∀ (id : Nat) (ops : Array Oper) (ds : List DI) (os : List (DOp R)), drawS Z Y nt ops ops.toList ds = some os → fixedA Z Y ops ds = true → DOK T P Y nt (.region id ops true) (dDraw Z ops.size os)) :
    ∀ (code : Code), codeOK Z Y dr code = true → DOK T P Y nt code (codeS Z Y nt dr code).1 := by
  have hbad : ∀ code, DOK T P Y nt code (dBad Z) := fun code c hc tm H nx k ht => absurd ht hff
  intro code
  induction code with
  | skip =>
    intro _
    exact dSkip_ok (fun Q a w h => wp_skip h)
  | label l =>
    intro _
    exact dSkip_ok (fun Q a w h => wp_label h)
  | seq x y ihx ihy =>
    intro hok
    simp only [codeOK, Bool.and_eq_true] at hok
    have hx := ihx hok.1
    have hy := ihy hok.2
    simp only [codeS]
    intro c hc tm H nx k ht
    obtain ⟨e1, tm1, H1, nx1, h1, h2⟩ := hx c hc tm H nx _ ht
    cases e1 with
    | normal =>
      obtain ⟨e2, tm2, H2, nx2, h3, h4⟩ := hy c hc tm1 H1 nx1 k h1
      exact ⟨e2, tm2, H2, nx2, h3, fun σ w a hinv htr Q hk => wp_seq (h2 σ w a hinv htr _ (fun σ' a' w' s1 t1 d1 => h4 σ' w' a' (s1.inv hinv) t1 Q (fun σ'' a'' w'' s2 t2 d2 => hk σ'' a'' w'' (s1.trans s2) t2 (d2.trans d1))))⟩
    | ret => exact ⟨.ret, tm1, H1, nx1, h1, fun σ w a hinv htr Q hk => wp_seq (h2 σ w a hinv htr _ (fun σ' a' w' s1 t1 d1 => hk σ' a' w' s1 t1 d1))⟩
    | exit i => exact ⟨.exit i, tm1, H1, nx1, h1, fun σ w a hinv htr Q hk => wp_seq (h2 σ w a hinv htr _ (fun σ' a' w' s1 t1 d1 => hk σ' a' w' s1 t1 d1))⟩
  | cond x y z ihy ihz =>
    intro hok
    simp only [codeOK, Bool.and_eq_true] at hok
    have hy := ihy hok.1
    have hz := ihz hok.2
    simp only [codeS]
    split
    · rename_i g hg
      intro c hc tm H nx k ht
      obtain ⟨b, hb, ht⟩ := T_ob hff ht
      have hev : ∀ (σ : Sg) (w : World) (a : Act), Inv Y.ng σ H nx w → TR σ nt tm a.tmps → a.eval x = .bool b := fun σ w a hinv htr => by
        have := rdO_ok hg hinv.glob htr
        rw [vBool_some hb] at this
        exact this.bool_eq
      cases b with
      | true =>
        obtain ⟨e2, tm2, H2, nx2, h3, h4⟩ := hy c hc tm H nx k ht
        exact ⟨e2, tm2, H2, nx2, h3, fun σ w a hinv htr Q hk => wp_cond_true (hev σ w a hinv htr) (h4 σ w a hinv htr Q hk)⟩
      | false =>
        obtain ⟨e2, tm2, H2, nx2, h3, h4⟩ := hz c hc tm H nx k ht
        exact ⟨e2, tm2, H2, nx2, h3, fun σ w a hinv htr Q hk => wp_cond_false (hev σ w a hinv htr) (h4 σ w a hinv htr Q hk)⟩
    · exact hbad _
  | block id y ihy =>
    intro hok
    have hy := ihy hok
    simp only [codeS]
    intro c hc tm H nx k ht
    obtain ⟨e1, tm1, H1, nx1, h1, h2⟩ := hy c hc tm H nx _ ht
    cases e1 with
    | normal => exact ⟨.normal, tm1, H1, nx1, h1, fun σ w a hinv htr Q hk => wp_block (h2 σ w a hinv htr _ (fun σ' a' w' s1 t1 d1 => hk σ' a' w' s1 t1 d1))⟩
    | ret => exact ⟨.ret, tm1, H1, nx1, h1, fun σ w a hinv htr Q hk => wp_block (h2 σ w a hinv htr _ (fun σ' a' w' s1 t1 d1 => hk σ' a' w' s1 t1 d1))⟩
    | exit j =>
      have h1 : T (bif Nat.beq j id then k .normal tm1 H1 nx1 else k (.exit j) tm1 H1 nx1) := h1
      cases hj : Nat.beq j id with
      | true =>
        rw [hj] at h1
        rw [nbeq] at hj
        have hj := of_decide_eq_true hj
        exact ⟨.normal, tm1, H1, nx1, h1, fun σ w a hinv htr Q hk => wp_block (h2 σ w a hinv htr _ (fun σ' a' w' s1 t1 d1 => by simp only [exC, Exit.inBlock, hj, if_true]; exact hk σ' a' w' s1 t1 d1))⟩
      | false =>
        rw [hj] at h1
        rw [nbeq] at hj
        have hj := of_decide_eq_false hj
        exact ⟨.exit j, tm1, H1, nx1, h1, fun σ w a hinv htr Q hk => wp_block (h2 σ w a hinv htr _ (fun σ' a' w' s1 t1 d1 => by simp only [exC, Exit.inBlock, hj, if_false]; exact hk σ' a' w' s1 t1 d1))⟩
  | loop y ihy =>
    intro hok
    simp only [codeS]
    intro c hc tm H nx k ht
    obtain ⟨e2, tm2, H2, nx2, h3, h4⟩ := loop_ok hff (ihy hok) 100000 c hc tm H nx k ht
    exact ⟨e2, tm2, H2, nx2, h3, fun σ w a hinv htr Q hk => wp_loop_rounds 100000 (h4 σ w a hinv htr Q hk)⟩
  | exit id =>
    intro _
    intro c hc tm H nx k ht
    exact ⟨.exit id, tm, H, nx, ht, fun σ w a hinv htr Q hk => wp_exit (hk σ a w (Step.refl hinv) htr rfl)⟩
  | ret =>
    intro _
    intro c hc tm H nx k ht
    exact ⟨.ret, tm, H, nx, ht, fun σ w a hinv htr Q hk => wp_ret (hk σ a w (Step.refl hinv) htr rfl)⟩
  | scope y ihy =>
    intro hok
    have hy := ihy hok
    simp only [codeS]
    intro c hc tm H nx k ht
    obtain ⟨e2, tm2, H2, nx2, h3, h4⟩ := hy c hc tm H nx k ht
    refine ⟨e2, tm2, H2, nx2, h3, fun σ w a hinv htr Q hk => wp_scope_straight (h4 σ w a hinv htr _ (fun σ' a' w' s1 t1 d1 => ?_))⟩
    have := hk σ' a' w' s1 t1 d1
    cases e2 <;> exact this
  | region id ops drawn =>
    intro hok
    cases drawn with
    | false =>
      have hls := listS_ok hff hY (P := P) (Z := Z) nt ops ops.toList
      simp only [codeS]
      intro c hc tm H nx k ht
      obtain ⟨tm2, H2, nx2, h3, h4⟩ := hls c hc tm H nx _ ht
      exact ⟨.normal, tm2, H2, nx2, h3, fun σ w a hinv htr Q hk => wp_region_list (h4 σ w a hinv htr Q hk)⟩
    | true =>
      simp only [codeS]
      simp only [codeOK] at hok
      split
      · rename_i ds hds
        rw [hds] at hok
        split
        · rename_i os hos
          exact hdraw id ops ds os hos hok
        · exact hbad _
      · exact hbad _
  | _ =>
    intro _
    exact hbad _

end
end Go.Ax
