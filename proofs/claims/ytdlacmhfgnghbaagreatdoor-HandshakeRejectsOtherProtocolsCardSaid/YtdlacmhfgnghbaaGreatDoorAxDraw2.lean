import Derived.Test.YtdlacmhfgnghbaaGreatDoorAxDraw1
/- Regions whose order is drawn: what the abstract run says of each operation. -/
set_option linter.unusedVariables false
set_option linter.constructorNameAsVariable false
set_option linter.unusedSimpArgs false
namespace Go.Ax

/-! ## Equal to the letter -/

theorem sames_eq {r : Value → Value → Bool} (h : ∀ x y, r x y = true → x = y) : ∀ (xs ys : List Value), sames r xs ys = true → xs = ys
  | [], [], _ => rfl
  | [], _ :: _, h' => by cases h'
  | _ :: _, [], h' => by cases h'
  | x :: xs, y :: ys, h' => by
    simp only [sames, Bool.and_eq_true] at h'
    rw [h x y h'.1, sames_eq h xs ys h'.2]
theorem same0_eq {x y : Value} (h : same0 x y = true) : x = y := by
  cases x <;> cases y <;> first | (cases h; done) | rfl | skip
  · simpa [same0] using h
  · simp only [same0, Bool.and_eq_true, eqF_eq, beq_iff_eq] at h
    rw [ikEq_iff.1 h.1, h.2]
  · simp only [same0, beq_iff_eq] at h
    rename_i a b
    obtain ⟨⟨la⟩⟩ := a
    obtain ⟨⟨lb⟩⟩ := b
    simp only at h
    rw [h]
  · simp only [same0, beq_iff_eq] at h; rw [h]
  · simp only [same0, Bool.and_eq_true, beq_iff_eq, nbeq, decide_eq_true_eq] at h
    rw [h.1.1, h.1.2, h.2]
  · simp only [same0, beq_iff_eq] at h; rw [h]
theorem same_eq : ∀ (n : Nat) (x y : Value), same n x y = true → x = y := by
  intro n
  induction n with
  | zero => intro x y h; exact same0_eq h
  | succ n ih =>
    intro x y h
    unfold same at h
    split at h
    · rename_i xs ys
      have := sames_eq ih _ _ h
      rw [Array.toList_inj.1 this]
    · rename_i xs ys
      have := sames_eq ih _ _ h
      rw [Array.toList_inj.1 this]
    · simp only [Bool.and_eq_true, nbeq, decide_eq_true_eq] at h
      rw [h.1, ih _ _ h.2]
    · simp only [Bool.and_eq_true, nbeq, decide_eq_true_eq] at h
      rw [h.1.1, Array.toList_inj.1 (sames_eq ih _ _ h.1.2), Array.toList_inj.1 (sames_eq ih _ _ h.2)]
    · exact same0_eq h

/-! ## Steps put together -/

theorem Step.congr {σ σ' : Sg} {H H' H'' : Hp} {nx nx' : Nat} {w w' : World} (s : Step σ H nx w σ' H' nx' w') (h : ∀ b, H''.get b = H'.get b) : Step σ H nx w σ' H'' nx' w' :=
  ⟨s.ext, s.nxle, s.fresh, ⟨fun b o hb => s.wr.live b o (by rw [← h]; exact hb), fun b1 b2 i1 i2 h1 h2 => s.wr.inj b1 b2 i1 i2 (by rw [← h]; exact h1) (by rw [← h]; exact h2)⟩,
    fun b hb hj => s.old b hb (by rw [← h]; exact hj), fun b' i' h1 h2 => s.own b' i' (by rw [← h]; exact h1) h2, s.size, s.frame, s.tape, s.os, s.output, s.keep⟩

/-- a new block, at a place kept for it -/
theorem Step.thenNew {σ0 σ : Sg} {H0 H H' : Hp} {n0 nx : Nat} {w0 w w' : World} (S : Step σ0 H0 n0 w0 σ H nx w) {b : Nat} (hb : σ b = none) (h0 : n0 ≤ b) (hbn : b < nx) {i : BI} {o : AObj} (hi : i.blk = w.heap.size)
    (ho : ObjR (σ.put b i) i o w'.heap[w.heap.size]?) (hs : w'.heap.size = w.heap.size + 1) (hf : ∀ c, c < w.heap.size → w'.heap[c]? = w.heap[c]?)
    (ht : w'.tape = w.tape) (hos : w'.os = w.os) (hout : w'.output = w.output) (hH : ∀ j, H'.get j = if j = b then some o else H.get j) : Step σ0 H0 n0 w0 (σ.put b i) H' nx w' := by
  have hput : ∀ j, j ≠ b → σ.put b i j = σ j := fun j hj => by simp [Sg.put, hj]
  have hcase : ∀ j, (H'.get j).isSome = true → j = b ∨ (j ≠ b ∧ (H.get j).isSome = true) := by
    intro j hj; rw [hH] at hj; split at hj
    · rename_i e; exact .inl e
    · rename_i e; exact .inr ⟨e, hj⟩
  refine ⟨fun c j hj => Sg.put_ext hb _ _ (S.ext c j hj), S.nxle, fun c hc => by rw [hput c (by omega)]; exact S.fresh c hc, ⟨fun j x hj => ?_, fun b1 b2 i1 i2 h1 h2 g1 g2 he => ?_⟩, fun c hc hj => ?_, fun b' i' h1 h2 => ?_,
    by have := S.size; omega, fun c hc hn => by rw [hf c (by have := S.size; omega)]; exact S.frame c hc hn, by rw [ht, S.tape], by rw [hos, S.os], by rw [hout, S.output], fun c hc => by rw [hput c (by omega)]; exact S.keep c hc⟩
  · rw [hH] at hj
    split at hj
    · rename_i e; subst e; injection hj with hj; subst hj
      exact ⟨i, Sg.put_same _ _ _, hi ▸ ho⟩
    · obtain ⟨i', hi', hr⟩ := S.wr.live j x hj
      have hlt := S.wr.lt (by rw [hj]; rfl) hi'
      exact ⟨i', Sg.put_ext hb _ _ hi', by rw [hf _ hlt]; exact hr.mono (Sg.put_ext hb)⟩
  · rcases hcase b1 h1 with e1 | ⟨e1, q1⟩ <;> rcases hcase b2 h2 with e2 | ⟨e2, q2⟩
    · rw [e1, e2]
    · subst e1
      rw [Sg.put_same] at g1; rw [hput b2 e2] at g2
      injection g1 with g1; subst g1
      have := S.wr.lt q2 g2
      omega
    · subst e2
      rw [Sg.put_same] at g2; rw [hput b1 e1] at g1
      injection g2 with g2; subst g2
      have := S.wr.lt q1 g1
      omega
    · rw [hput b1 e1] at g1; rw [hput b2 e2] at g2
      exact S.wr.inj b1 b2 i1 i2 q1 q2 g1 g2 he
  · rcases hcase c hj with e | ⟨_, e⟩
    · omega
    · exact S.old c hc e
  · rcases hcase b' h1 with e | ⟨e, h1⟩
    · subst e; rw [Sg.put_same] at h2; injection h2 with h2; subst h2; left; have := S.size; omega
    · rw [hput b' e] at h2; exact S.own b' i' h1 h2

/-- a step on a part of the heap -/
theorem Step.thenSub {σ0 σ σ' : Sg} {H0 H H1 H1' H'' : Hp} {n0 nx nx' : Nat} {w0 w w' : World} (S : Step σ0 H0 n0 w0 σ H nx w) (hsub : ∀ b o, H1.get b = some o → H.get b = some o) (S1 : Step σ H1 nx w σ' H1' nx' w')
    (hH : ∀ b o, H''.get b = some o → H1'.get b = some o ∨ (H.get b = some o ∧ H1.get b = none)) : Step σ0 H0 n0 w0 σ' H'' nx' w' := by
  have hsubS : ∀ b, (H1.get b).isSome = true → (H.get b).isSome = true := fun b hb => by
    obtain ⟨o, ho⟩ := Option.isSome_iff_exists.1 hb
    rw [hsub b o ho]; rfl
  have hcase : ∀ b, (H''.get b).isSome = true → (H1'.get b).isSome = true ∨ ((H.get b).isSome = true ∧ H1.get b = none) := fun b hb => by
    obtain ⟨o, ho⟩ := Option.isSome_iff_exists.1 hb
    rcases hH b o ho with h | ⟨h, h'⟩
    · exact .inl (by rw [h]; rfl)
    · exact .inr ⟨by rw [h]; rfl, h'⟩
  -- what lies outside is not touched
  have hout : ∀ b i, (H.get b).isSome = true → H1.get b = none → σ b = some i → i.blk < w.heap.size ∧ ∀ b1 i1, (H1.get b1).isSome = true → σ b1 = some i1 → i1.blk ≠ i.blk := fun b i hb hn hi =>
    ⟨S.wr.lt hb hi, fun b1 i1 h1 h2 he => by
      have := S.wr.inj b1 b i1 i (hsubS b1 h1) hb h2 hi he
      subst this
      rw [hn] at h1; cases h1⟩
  have hσ : ∀ b i', (H.get b).isSome = true → σ' b = some i' → σ b = some i' := fun b i' hb hi' => by
    obtain ⟨o, ho⟩ := Option.isSome_iff_exists.1 hb
    obtain ⟨i, hi, _⟩ := S.wr.live b o ho
    have := S1.ext b i hi
    rw [hi'] at this
    injection this with this
    rw [this]; exact hi
  refine ⟨fun c j hj => S1.ext _ _ (S.ext c j hj), Nat.le_trans S.nxle S1.nxle, S1.fresh, ⟨fun b o hb => ?_, fun b1 b2 i1 i2 h1 h2 g1 g2 he => ?_⟩, fun b hb hj => ?_, fun b' i' h1 h2 => ?_,
    Nat.le_trans S.size S1.size, fun c hc hn => ?_, by rw [S1.tape, S.tape], by rw [S1.os, S.os], by rw [S1.output, S.output], fun c hc => by rw [S1.keep c (Nat.lt_of_lt_of_le hc S.nxle), S.keep c hc]⟩
  · rcases hH b o hb with h | ⟨h, h'⟩
    · exact S1.wr.live b o h
    · obtain ⟨i, hi, hr⟩ := S.wr.live b o h
      obtain ⟨q1, q2⟩ := hout b i (by rw [h]; rfl) h' hi
      refine ⟨i, S1.ext _ _ hi, ?_⟩
      rw [S1.frame i.blk q1 q2]
      exact hr.mono S1.ext
  · have mixed : ∀ b1 b2 i1 i2, (H1'.get b1).isSome = true → (H.get b2).isSome = true → H1.get b2 = none → σ' b1 = some i1 → σ' b2 = some i2 → i1.blk = i2.blk → False := fun b1 b2 i1 i2 k1 k2 k3 m1 m2 me => by
      have hs2 := hσ b2 i2 k2 m2
      obtain ⟨q1, q2⟩ := hout b2 i2 k2 k3 hs2
      rcases S1.own b1 i1 k1 m1 with h | ⟨b3, i3, p1, p2, p3⟩
      · omega
      · exact q2 b3 i3 p1 p2 (by omega)
    rcases hcase b1 h1 with k1 | ⟨k1, k1'⟩ <;> rcases hcase b2 h2 with k2 | ⟨k2, k2'⟩
    · exact S1.wr.inj b1 b2 i1 i2 k1 k2 g1 g2 he
    · exact (mixed b1 b2 i1 i2 k1 k2 k2' g1 g2 he).elim
    · exact (mixed b2 b1 i2 i1 k2 k1 k1' g2 g1 he.symm).elim
    · exact S.wr.inj b1 b2 i1 i2 k1 k2 (hσ _ _ k1 g1) (hσ _ _ k2 g2) he
  · rcases hcase b hj with k | ⟨k, _⟩
    · exact S.old b hb (hsubS b (S1.old b (Nat.lt_of_lt_of_le hb S.nxle) k))
    · exact S.old b hb k
  · rcases hcase b' h1 with k | ⟨k, _⟩
    · rcases S1.own b' i' k h2 with h | ⟨b3, i3, p1, p2, p3⟩
      · left; have := S.size; omega
      · rw [← p3]; exact S.own b3 i3 (hsubS b3 p1) p2
    · exact S.own b' i' k (hσ _ _ k h2)
  · rw [S1.frame c (by have := S.size; omega) (fun b1 i1 k1 k2 he => ?_), S.frame c hc hn]
    rcases S.own b1 i1 (hsubS b1 k1) k2 with h | ⟨b3, i3, p1, p2, p3⟩
    · omega
    · exact hn b3 i3 p1 p2 (by omega)

/-! ## The run -/

section
variable {R : Type} {Z : Res R} {T : R → Prop} (hff : ¬ T Z.ff) {P : Program} {Y : Ty}

def LProp (P : Program) (Y : Ty) (o : Op) (t : TT) (H : Hp) (nx : Nat) (v : Value) (H' : Hp) (nx' : Nat) : Prop :=
  ∀ (σ : Sg) (nt : Nat) (w : World) (a : Act), Inv Y.ng σ H nx w → TR σ nt t a.tmps → ∀ oper : Oper, oper.op = o → RunOK P ((execOp a.eval oper).run P w) fun v' w' => ∃ σ', VR σ' v v' ∧ Step σ H nx w σ' H' nx' w'

/-- what the abstract run says of an operation that is wanted -/
def DoneF (P : Program) (Y : Ty) (n0 : Nat) (fp : List Snap) (fs : List Side) (i cl : Nat) (op : Op) (di : DI) (t : TT) (v : Value) : OD R → Prop
  | .m g => v = g t
  | .p f => f t = some v
  | .r f => ∀ g s, di.lo ≤ g → g ≤ di.hi → bot fp g = some s → f t (joinA s.h (ahead di.mask s.mg) fs) = some v
  | .a f => ∃ ob len, f t = some (ob, len) ∧ v = newV (n0 + i) ob len ∧ ⟨i, n0 + i, ob⟩ ∈ fs
  | .l _ => ∃ s s', bot fp cl = some s ∧ bot fp (cl + 1) = some s' ∧ s'.mg = Nat.lor di.mask s.mg ∧ LProp P Y op t (joinA s.h (ahead di.mask s.mg) fs) s.nx v s'.h s'.nx
  | .bad => False

def StepF (P : Program) (Y : Ty) (n0 : Nat) (fp : List Snap) (fs : List Side) (i cl : Nat) (op : Op) (o : DOp R) (tm : TT) (v : Value) : Prop :=
  (wantG o.g (rsA tm o.lk) = false ∧ v = undef ∧ (isL o.di = true → ∃ s, bot fp cl = some s ∧ bot fp (cl + 1) = some s)) ∨
  (wantG o.g (rsA tm o.lk) = true ∧ DoneF P Y n0 fp fs i cl op o.di (rsA tm o.lk) v o.od)

theorem quiet_spec {fs : List Side} {q : Quiet} : ∀ {fp : List Snap}, quietA fs q fp = true → ∀ g s, q.d.lo ≤ g → g ≤ q.d.hi → bot fp g = some s → q.f q.tm (joinA s.h (ahead q.d.mask s.mg) fs) = some q.v
  | [], _, g, s, _, _, h => by simp [bot] at h
  | s0 :: past, hq, g, s, h1, h2, h => by
    simp only [quietA, Bool.and_eq_true] at hq
    rcases Nat.lt_or_ge g past.length with hg | hg
    · exact quiet_spec hq.2 g s h1 h2 (by rw [← bot_app (later := [s0]) hg]; exact h)
    · have hg' : g = past.length := by
        rcases Nat.lt_or_ge past.length g with h3 | h3
        · unfold bot at h
          rw [List.getElem?_eq_none (by simp; omega)] at h
          cases h
        · omega
      subst hg'
      rw [bot_head] at h
      injection h with h; subst h
      have := hq.1
      rw [nble, nble, decide_eq_true h1, decide_eq_true h2] at this
      simp only [Bool.and_true, cond_true] at this
      split at this
      · rename_i x hx
        rw [hx, same_eq 6 _ _ this]
      · cases this

structure Trace (P : Program) (Y : Ty) (T : R → Prop) (n0 n i : Nat) (ops : Array Oper) (os : List (DOp R)) (cl : Nat → Nat) (tm : TT) (d : Dr) (k : KT R) (tf : Nat → TT) (vf : Nat → Value) (later : List Snap) (more : List Side) : Prop where
  start : tf i = tm
  side : ∀ x ∈ more, i ≤ x.i ∧ x.i < n ∧ x.b = n0 + x.i ∧ ∃ o f len, os[x.i]? = some o ∧ wantG o.g (rsA (tf x.i) o.lk) = true ∧ o.od = .a f ∧ f (rsA (tf x.i) o.lk) = some (x.o, len)
  each : ∀ m, i ≤ m → m < n → ∀ (o : DOp R) (oper : Oper), os[m]? = some o → ops[m]? = some oper → StepF P Y n0 (later ++ d.past) (more ++ d.sides) m (cl m) oper.op o (tf m) (vf m) ∧ tf (m + 1) = o.w (vf m) (tf m)
  quiet : ∀ q ∈ d.quiet, quietA (more ++ d.sides) q (later ++ d.past) = true
  len : (later ++ d.past).length = cl n + 1
  fin : ∃ s, bot (later ++ d.past) (cl n) = some s ∧ T (k (tf n) (joinA s.h (fun j => !s.mg.testBit j) (more ++ d.sides)) s.nx)

include hff in
theorem trace_ok {c : Call R} (hc : CallOK T P Y c) {n0 n : Nat} {ops : Array Oper} {os : List (DOp R)} {k : KT R} {cl : Nat → Nat} (hn : os.length = n) (hon : ops.size = n)
    (hod : ∀ (m : Nat) (o : DOp R) (oper : Oper), os[m]? = some o → ops[m]? = some oper → ODOK T P Y oper.op o.od)
    (hcl : ∀ (m : Nat) (o : DOp R), os[m]? = some o → cl (m + 1) = cl m + (if isL o.di = true then 1 else 0))
    (hkd : ∀ (m : Nat) (o : DOp R), os[m]? = some o → odKd o.od = some o.di.kd)
    (hmask : ∀ (m : Nat) (o : DOp R) (i : Nat), os[m]? = some o → i < n → o.di.mask.testBit i = true → i < m) :
    ∀ (l i : Nat), i + l = n → ∀ (tm : TT) (d : Dr), d.past.length = cl i + 1 → T (drawA Z c n0 (os.drop i) i tm d k) → ∃ tf vf later more, Trace P Y T n0 n i ops os cl tm d k tf vf later more := by
  intro l
  induction l with
  | zero =>
    intro i hi tm d hd ht
    rw [List.drop_eq_nil_of_le (by omega)] at ht
    simp only [drawA] at ht
    cases hq : d.quiet.all fun q => quietA d.sides q d.past with
    | false => rw [hq] at ht; exact absurd ht hff
    | true =>
      rw [hq] at ht
      simp only [cond_true] at ht
      have hin : i = n := by omega
      subst hin
      refine ⟨fun _ => tm, fun _ => undef, [], [], rfl, (fun x hx => by cases hx), fun m h1 h2 => by omega, fun q hq' => ?_, by simpa using hd, ?_⟩
      · rw [List.all_eq_true] at hq; exact hq q hq'
      · cases hp : d.past with
        | nil => rw [hp] at ht; exact absurd ht hff
        | cons s rest =>
          rw [hp] at ht
          refine ⟨s, ?_, ht⟩
          rw [hp] at hd
          have : cl i = rest.length := by simp at hd; omega
          rw [this]
          exact bot_head s rest
  | succ l ih =>
    intro i hi tm d hd ht
    have hil : i < os.length := by omega
    obtain ⟨o, ho⟩ : ∃ o, os[i]? = some o := ⟨os[i], List.getElem?_eq_getElem hil⟩
    obtain ⟨oper, hoper⟩ : ∃ oper, ops[i]? = some oper := ⟨ops[i], by simp [show i < ops.size by omega]⟩
    have hdrop : os.drop i = o :: os.drop (i + 1) := by
      rw [List.drop_eq_getElem_cons hil]
      congr 1
      rw [List.getElem?_eq_getElem hil] at ho
      injection ho
    rw [hdrop] at ht
    cases hp : d.past with
    | nil => simp only [drawA, hp] at ht; exact absurd ht hff
    | cons s rest =>
      have hrest : rest.length = cl i := by rw [hp] at hd; simp at hd; omega
      have hscl : ∀ later, bot (later ++ d.past) (cl i) = some s := fun later => by
        rw [bot_app (by omega), hp, ← hrest]
        exact bot_head s rest
      have hcli := hcl i o ho
      -- put an operation ahead of a trace
      have build : ∀ (v : Value) (d' : Dr) (later0 : List Snap) (more0 : List Side), d'.past = later0 ++ d.past → d'.sides = more0 ++ d.sides → (∀ q ∈ d.quiet, q ∈ d'.quiet) → d'.past.length = cl (i + 1) + 1 →
          (∀ x ∈ more0, x.i = i ∧ x.b = n0 + i ∧ ∃ f len, wantG o.g (rsA tm o.lk) = true ∧ o.od = .a f ∧ f (rsA tm o.lk) = some (x.o, len)) →
          T (drawA Z c n0 (os.drop (i + 1)) (i + 1) (o.w v tm) d' k) →
          (∀ (later : List Snap) (more : List Side), (∀ x ∈ more, i + 1 ≤ x.i ∧ x.i < n) → (∀ q ∈ d'.quiet, quietA (more ++ d'.sides) q (later ++ d'.past) = true) → StepF P Y n0 (later ++ d'.past) (more ++ d'.sides) i (cl i) oper.op o tm v) →
          ∃ tf vf later more, Trace P Y T n0 n i ops os cl tm d k tf vf later more := by
        intro v d' later0 more0 e1 e2 e3 e4 e5 ht' hstep
        obtain ⟨tf, vf, later, more, tr⟩ := ih (i + 1) (by omega) (o.w v tm) d' e4 ht'
        have htf : ∀ m, i + 1 ≤ m → (fun m => if m = i then tm else tf m) m = tf m := fun m hm => if_neg (by omega)
        refine ⟨fun m => if m = i then tm else tf m, fun m => if m = i then v else vf m, later ++ later0, more ++ more0, if_pos rfl, fun x hx => ?_, fun m h1 h2 o' oper' ho' hoper' => ?_, fun q hq => ?_, ?_, ?_⟩
        · rcases List.mem_append.1 hx with h | h
          · obtain ⟨q1, q2, q3, o', f, len, q4, q5, q6, q7⟩ := tr.side x h
            have hne : x.i ≠ i := by omega
            refine ⟨by omega, q2, q3, o', f, len, q4, ?_, q6, ?_⟩
            · simp only [if_neg hne]; exact q5
            · simp only [if_neg hne]; exact q7
          · obtain ⟨q1, q2, f, len, q3, q4, q5⟩ := e5 x h
            refine ⟨by omega, by omega, by rw [q2, q1], o, f, len, by rw [q1]; exact ho, ?_, q4, ?_⟩
            · simp only [q1, if_true]; exact q3
            · simp only [q1, if_true]; exact q5
        · rw [List.append_assoc, List.append_assoc, ← e1, ← e2]
          by_cases hm : m = i
          · subst hm
            rw [ho] at ho'; injection ho' with ho'; subst ho'
            rw [hoper] at hoper'; injection hoper' with hoper'; subst hoper'
            simp only [if_true]
            refine ⟨hstep later more (fun x hx => ⟨(tr.side x hx).1, (tr.side x hx).2.1⟩) tr.quiet, ?_⟩
            rw [if_neg (by omega)]
            exact tr.start
          · simp only [if_neg hm, if_neg (show m + 1 ≠ i by omega)]
            exact tr.each m (by omega) h2 o' oper' ho' hoper'
        · rw [List.append_assoc, List.append_assoc, ← e1, ← e2]
          exact tr.quiet q (e3 q hq)
        · rw [List.append_assoc, ← e1]; exact tr.len
        · obtain ⟨s', q1, q2⟩ := tr.fin
          refine ⟨s', by rw [List.append_assoc, ← e1]; exact q1, ?_⟩
          rw [List.append_assoc, ← e2]
          simp only [if_neg (show n ≠ i by omega)]
          exact q2
      have hplain : isL o.di = false → d.past.length = cl (i + 1) + 1 := fun h => by rw [hcli, h]; simpa using hd
      have hkdo := hkd i o ho
      have hnotL : ∀ kd, odKd o.od = some kd → kd ≠ .l → isL o.di = false := fun kd hk hne => by
        rw [hkdo] at hk; injection hk with hk
        unfold isL
        rw [hk]
        cases kd <;> first | rfl | exact absurd rfl hne
      have hisL : ∀ f, o.od = .l f → isL o.di = true := fun f hf => by
        rw [hf] at hkdo
        have : some Kd.l = some o.di.kd := hkdo
        injection this with this
        unfold isL
        rw [← this]
      simp only [drawA, hp] at ht
      rw [← hp] at ht
      split at ht
      · -- not wanted
        rename_i hw
        cases hl : isL o.di with
        | false =>
          rw [hl] at ht
          exact build undef ⟨d.past, d.sides, d.quiet⟩ [] [] rfl rfl (fun q hq => hq) (hplain hl) (fun x hx => by cases hx) ht (fun later more _ _ => .inl ⟨hw, rfl, fun h => by rw [hl] at h; cases h⟩)
        | true =>
          rw [hl] at ht
          refine build undef ⟨s :: d.past, d.sides, d.quiet⟩ [s] [] rfl rfl (fun q hq => hq) ?_ (fun x hx => by cases hx) ht (fun later more _ _ => .inl ⟨hw, rfl, fun _ => ⟨s, ?_, ?_⟩⟩)
          · rw [hcli, hl, if_pos rfl]; simp; omega
          · have := hscl (later ++ [s])
            simpa using this
          · show bot (later ++ s :: d.past) (cl i + 1) = some s
            rw [bot_app (by simp; omega), ← hd]
            exact bot_head s d.past
      · rename_i hw
        split at ht
        · rename_i g hod'
          exact build _ d [] [] rfl rfl (fun q hq => hq) (hplain (hnotL .p (by rw [hod']; rfl) (by simp))) (fun x hx => by cases hx) ht (fun later more _ _ => .inr ⟨hw, by rw [hod']; rfl⟩)
        · rename_i f hod'
          split at ht
          · rename_i x hx
            exact build x d [] [] rfl rfl (fun q hq => hq) (hplain (hnotL .p (by rw [hod']; rfl) (by simp))) (fun x hx => by cases hx) ht (fun later more _ _ => .inr ⟨hw, by rw [hod']; exact hx⟩)
          · exact absurd ht hff
        · rename_i f hod'
          split at ht
          · rename_i x hx
            refine build x ⟨d.past, d.sides, ⟨o.di, f, rsA tm o.lk, x⟩ :: d.quiet⟩ [] [] rfl rfl (fun q hq => by simp [hq]) (hplain (hnotL .r (by rw [hod']; rfl) (by simp))) (fun x hx => by cases hx) ht (fun later more _ hq => .inr ⟨hw, ?_⟩)
            rw [hod']
            intro g s1 h1 h2 h3
            exact quiet_spec (hq ⟨o.di, f, rsA tm o.lk, x⟩ (by simp)) g s1 h1 h2 h3
          · exact absurd ht hff
        · rename_i f hod'
          split at ht
          · rename_i ob len hx
            refine build _ ⟨d.past, ⟨i, Nat.add n0 i, ob⟩ :: d.sides, d.quiet⟩ [] [⟨i, Nat.add n0 i, ob⟩] rfl rfl (fun q hq => hq) (hplain (hnotL .a (by rw [hod']; rfl) (by simp))) (fun x hx' => ?_) ht (fun later more _ hq => .inr ⟨hw, ?_⟩)
            · rw [List.mem_singleton] at hx'
              subst hx'
              exact ⟨rfl, rfl, f, len, hw, hod', hx⟩
            · rw [hod']
              exact ⟨ob, len, hx, rfl, by simp⟩
          · exact absurd ht hff
        · rename_i f hod'
          have hok := hod i o oper ho hoper
          rw [hod'] at hok
          obtain ⟨v, H', nx', h1, h2⟩ := hok c hc _ _ _ _ ht
          refine build v ⟨⟨H', Nat.lor o.di.mask s.mg, nx'⟩ :: d.past, d.sides, d.quiet⟩ [⟨H', Nat.lor o.di.mask s.mg, nx'⟩] [] rfl rfl (fun q hq => hq) ?_ (fun x hx => by cases hx) h1 (fun later more hmore _ => .inr ⟨hw, ?_⟩)
          · rw [hcli, hisL f hod', if_pos rfl]; simp; omega
          · rw [hod']
            refine ⟨s, ⟨H', Nat.lor o.di.mask s.mg, nx'⟩, ?_, ?_, rfl, ?_⟩
            · have := hscl (later ++ [⟨H', Nat.lor o.di.mask s.mg, nx'⟩])
              simpa using this
            · show bot (later ++ ⟨H', Nat.lor o.di.mask s.mg, nx'⟩ :: d.past) (cl i + 1) = _
              rw [bot_app (by simp; omega), ← hd]
              exact bot_head _ d.past
            · have hj : joinA s.h (ahead o.di.mask s.mg) (more ++ d.sides) = joinA s.h (ahead o.di.mask s.mg) d.sides := by
                refine joinA_skip more (fun x hx => ?_)
                unfold ahead
                cases hb : o.di.mask.testBit x.i with
                | false => rfl
                | true => have := hmask i o x.i ho (hmore x hx).2 hb; have := (hmore x hx).1; omega
              show LProp P Y oper.op (rsA tm o.lk) (joinA s.h (ahead o.di.mask s.mg) (more ++ d.sides)) s.nx v H' nx'
              rw [hj]
              exact h2
        · exact absurd ht hff

end
end Go.Ax
