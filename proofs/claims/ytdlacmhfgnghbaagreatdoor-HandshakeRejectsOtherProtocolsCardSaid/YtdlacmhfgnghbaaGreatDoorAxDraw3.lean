import Derived.Test.YtdlacmhfgnghbaaGreatDoorAxDraw2
/- Regions whose order is drawn: whatever the order, the run comes out as the abstract one. -/
set_option linter.unusedVariables false
set_option linter.constructorNameAsVariable false
set_option linter.unusedSimpArgs false
namespace Go.Ax

/-! ## Temporaries by who has written them -/

def dstOf (ops : Array Oper) (m : Nat) : Option Tmp := (ops[m]?).bind (·.dst)

def tget (ops : Array Oper) (vf : Nat → Value) (t0 : TT) (D : Nat → Bool) : Nat → Nat → Value
  | 0, t => t0.get t
  | m + 1, t => if D m = true ∧ dstOf ops m = some t then vf m else tget ops vf t0 D m t

theorem tget_congr {ops : Array Oper} {vf : Nat → Value} {t0 : TT} {D E : Nat → Bool} {t : Nat} : ∀ {m : Nat}, (∀ j, j < m → dstOf ops j = some t → D j = E j) → tget ops vf t0 D m t = tget ops vf t0 E m t
  | 0, _ => rfl
  | m + 1, h => by
    simp only [tget]
    rw [tget_congr (m := m) (fun j hj => h j (by omega))]
    by_cases hd : dstOf ops m = some t
    · rw [h m (by omega) hd]
    · rw [if_neg (fun hh => hd hh.2), if_neg (fun hh => hd hh.2)]
theorem tget_top {ops : Array Oper} {vf : Nat → Value} {t0 : TT} {D : Nat → Bool} {t i : Nat} : ∀ {m : Nat}, i ≤ m → (∀ j, i ≤ j → j < m → D j = true → dstOf ops j ≠ some t) → tget ops vf t0 D m t = tget ops vf t0 D i t
  | 0, h, _ => by rw [show i = 0 by omega]
  | m + 1, h, hn => by
    rcases Nat.lt_or_ge m i with hi | hi
    · rw [show i = m + 1 by omega]
    · simp only [tget]
      rw [if_neg (fun hh => hn m hi (by omega) hh.1 hh.2)]
      exact tget_top hi (fun j h1 h2 => hn j h1 (by omega))
theorem tget_put {ops : Array Oper} {vf : Nat → Value} {t0 : TT} {D : Nat → Bool} {i n : Nat} (hi : i < n) (hlater : ∀ j, i < j → j < n → D j = true → ∀ t, dstOf ops i = some t → dstOf ops j ≠ some t) (t : Nat) :
    tget ops vf t0 (fun j => if j = i then true else D j) n t = if dstOf ops i = some t then vf i else tget ops vf t0 D n t := by
  have h1 : tget ops vf t0 (fun j => if j = i then true else D j) i t = tget ops vf t0 D i t := tget_congr (fun j hj _ => by rw [if_neg (by omega)])
  by_cases hd : dstOf ops i = some t
  · rw [if_pos hd, tget_top (i := i + 1) (by omega) (fun j h2 h3 h4 => hlater j (by omega) h3 (by rw [if_neg (by omega)] at h4; exact h4) t hd)]
    simp only [tget]
    rw [if_pos ⟨by simp, hd⟩]
  · rw [if_neg hd]
    exact tget_congr (fun j hj hdj => by
      by_cases e : j = i
      · subst e; exact absurd hdj hd
      · rw [if_neg e])

theorem rsA_get {nt : Nat} : ∀ (L : List Tmp) (lk : List (Rd × Wr)), lkS nt L = some lk → (∀ t ∈ L, t < nt) ∧ ∀ (tm : TT) (t : Nat), (rsA tm lk).get t = if t ∈ L then tm.get t else undef
  | [], lk, h => by
    simp only [lkS, Option.some.injEq] at h; subst h
    exact ⟨fun t ht => by simp at ht, fun tm t => by simp [rsA, TT.get]⟩
  | x :: L, lk, h => by
    simp only [lkS] at h
    cases hb : Nat.blt x nt with
    | false => rw [hb] at h; cases h
    | true =>
      rw [hb] at h
      simp only [cond_true] at h
      split at h
      · rename_i g w r hg hw hr
        injection h with h; subst h
        rw [nblt] at hb
        obtain ⟨i1, i2⟩ := rsA_get L r hr
        refine ⟨fun t ht => ?_, fun tm t => ?_⟩
        · rcases List.mem_cons.1 ht with e | e
          · rw [e]; exact of_decide_eq_true hb
          · exact i1 t e
        · simp only [rsA]
          rw [wrS_get 16 x w hw, rdS_get 16 x g hg, i2]
          by_cases e : t = x
          · subst e; simp
          · rw [if_neg e]; simp [e]
      · cases h

theorem opTmps_mem : ∀ (l : List Operand) (t : Tmp), .tmp t ∈ l → t ∈ opTmps l
  | [], t, h => by cases h
  | x :: l, t, h => by
    rcases List.mem_cons.1 h with e | e
    · subst e; simp [opTmps]
    · cases x with
      | tmp u => simp only [opTmps, List.mem_cons]; exact .inr (opTmps_mem l t e)
      | const v => exact opTmps_mem l t e
      | global g => exact opTmps_mem l t e
      | func f => exact opTmps_mem l t e
theorem looks_ops {ops : Array Oper} {o : Oper} {t : Tmp} (h : t ∈ opTmps o.op.operands.toList) : t ∈ looksL ops o := by
  unfold looksL
  split
  · exact h
  · split
    · exact h
    · split
      · exact h
      · exact List.mem_cons_of_mem _ h
theorem looks_guard {ops : Array Oper} {o p : Oper} {j : Nat} {want : Bool} {t : Tmp} (h1 : o.guard = some (j, want)) (h2 : ops[j]? = some p) (h3 : p.dst = some t) : t ∈ looksL ops o := by
  unfold looksL
  simp only [h1, h2, h3]
  exact List.mem_cons_self

section
variable {R : Type} {Z : Res R} {P : Program} {Y : Ty}

theorem drawS_spec {nt : Nat} {ops : Array Oper} : ∀ (l : List Oper) (ds : List DI) (os : List (DOp R)), drawS Z Y nt ops l ds = some os → os.length = l.length ∧
    ∀ (m : Nat) (o : DOp R), os[m]? = some o → ∃ oper, l[m]? = some oper ∧ ds[m]? = some o.di ∧ o.od = opS Z Y oper.op ∧ wrD nt oper.dst = some o.w ∧ guardS ops oper = some o.g ∧ lkS nt (looksL ops oper) = some o.lk
  | [], [], os, h => by
    simp only [drawS, Option.some.injEq] at h; subst h
    exact ⟨rfl, fun m o ho => by simp at ho⟩
  | [], _ :: _, os, h => by simp [drawS] at h
  | _ :: _, [], os, h => by simp [drawS] at h
  | o :: l, d :: ds, os, h => by
    simp only [drawS] at h
    split at h
    · rename_i w g lk r hw hg hlk hr
      injection h with h; subst h
      obtain ⟨i1, i2⟩ := drawS_spec l ds r hr
      refine ⟨by simp [i1], fun m o' ho' => ?_⟩
      cases m with
      | zero =>
        simp at ho'; subst ho'
        exact ⟨o, rfl, rfl, rfl, hw, hg, hlk⟩
      | succ m =>
        simp only [List.getElem?_cons_succ] at ho' ⊢
        exact i2 m o' ho'
    · cases h

/-- what is known of a region and of its abstract run -/
structure Ctx (Z : Res R) (P : Program) (Y : Ty) (nt : Nat) (ops : Array Oper) (ds : List DI) (os : List (DOp R)) (n0 : Nat) (t0 : TT) (fp : List Snap) (fs : List Side) (tf : Nat → TT) (vf : Nat → Value) : Prop where
  fixed : Fixed Z Y ops ds
  spec : ∀ (m : Nat) (o : DOp R), os[m]? = some o → ∃ oper, ops[m]? = some oper ∧ ds[m]? = some o.di ∧ o.od = opS Z Y oper.op ∧ wrD nt oper.dst = some o.w ∧ guardS ops oper = some o.g ∧ lkS nt (looksL ops oper) = some o.lk
  len : os.length = ops.size
  t0 : tf 0 = t0
  side : ∀ x ∈ fs, x.i < ops.size ∧ x.b = n0 + x.i ∧ ∃ o f len, os[x.i]? = some o ∧ wantG o.g (rsA (tf x.i) o.lk) = true ∧ o.od = .a f ∧ f (rsA (tf x.i) o.lk) = some (x.o, len)
  each : ∀ (m : Nat), m < ops.size → ∀ (o : DOp R) (oper : Oper), os[m]? = some o → ops[m]? = some oper → StepF P Y n0 fp fs m (cntB (loudAt ds) m) oper.op o (tf m) (vf m) ∧ tf (m + 1) = o.w (vf m) (tf m)
  big : n0 + ops.size < 1000000

variable {nt : Nat} {ops : Array Oper} {ds : List DI} {os : List (DOp R)} {n0 : Nat} {t0 : TT} {fp : List Snap} {fs : List Side} {tf : Nat → TT} {vf : Nat → Value}

theorem Ctx.uniq (C : Ctx Z P Y nt ops ds os n0 t0 fp fs tf vf) : Uniq fs := by
  refine ⟨fun x hx => ?_, fun x hx y hy e => ?_⟩
  · obtain ⟨h1, h2, _⟩ := C.side x hx
    have := C.big
    omega
  · obtain ⟨h1, h2, o, f, len, h3, h4, h5, h6⟩ := C.side x hx
    obtain ⟨k1, k2, o', f', len', k3, k4, k5, k6⟩ := C.side y hy
    have hi : x.i = y.i := by omega
    rw [← hi] at k3 k6
    rw [h3] at k3; injection k3 with k3; subst k3
    rw [h5] at k5; injection k5 with k5; subst k5
    rw [h6] at k6; injection k6 with k6; injection k6 with k6
    exact ⟨k6, hi⟩

theorem Ctx.tf_get (C : Ctx Z P Y nt ops ds os n0 t0 fp fs tf vf) : ∀ m, m ≤ ops.size → ∀ t, (tf m).get t = tget ops vf t0 (fun _ => true) m t := by
  intro m
  induction m with
  | zero => intro _ t; rw [C.t0]; rfl
  | succ m ih =>
    intro hm t
    have hmo : m < os.length := by rw [C.len]; omega
    obtain ⟨oper, h1, h2, h3, h4, h5, h6⟩ := C.spec m os[m] (List.getElem?_eq_getElem hmo)
    rw [(C.each m (by omega) os[m] oper (List.getElem?_eq_getElem hmo) h1).2]
    have hw := wrD_ok h4
    have hdst : dstOf ops m = oper.dst := by simp [dstOf, h1]
    simp only [tget, hdst, true_and]
    cases hd : oper.dst with
    | none =>
      rw [hd] at hw
      simp only [WrOK] at hw
      rw [hw, ih (by omega)]
      simp
    | some k =>
      rw [hd] at hw
      rw [hw.2, ih (by omega)]
      by_cases e : t = k
      · subst e; simp
      · rw [if_neg e, if_neg (by simpa using fun h => e h.symm)]

structure DInv (Y : Ty) (nt : Nat) (ops : Array Oper) (ds : List DI) (n0 : Nat) (t0 : TT) (fp : List Snap) (fs : List Side) (vf : Nat → Value) (σ0 : Sg) (H0 : Hp) (w0 : World) (d0 : List Deferred)
    (D : Nat → Bool) (σ : Sg) (a : Act) (w : World) (s : Snap) : Prop where
  clo : ∀ j, j < ops.size → D j = true → ∀ i, i < ops.size → bitOf ds j i = true → D i = true
  snap : bot fp (cntB (fun j => D j && loudAt ds j) ops.size) = some s
  step : Step σ0 H0 n0 w0 σ (joinA s.h (fun j => D j && !s.mg.testBit j) fs) s.nx w
  free : ∀ j, j < ops.size → D j = false → σ (n0 + j) = none
  mgD : ∀ i, i < ops.size → s.mg.testBit i = true → D i = true
  none : ∀ x ∈ fs, s.mg.testBit x.i = false → s.h.get x.b = none
  nxs : n0 + ops.size ≤ s.nx
  tsz : a.tmps.size = nt
  tmp : ∀ t, VR σ (tget ops vf t0 D ops.size t) (a.tmps.getD t undef)
  dfr : a.defers = d0

theorem joinA_at {H : Hp} {p q : Nat → Bool} {j : Nat} : ∀ (fs : List Side), (∀ x ∈ fs, x.b + 1 < 2 ^ 40) → (∀ x ∈ fs, x.b = j → p x.i = q x.i) → (joinA H p fs).get j = (joinA H q fs).get j
  | [], _, _ => rfl
  | x :: xs, h1, h2 => by
    have ih := joinA_at (H := H) (p := p) (q := q) (j := j) xs (fun y hy => h1 y (by simp [hy])) (fun y hy => h2 y (by simp [hy]))
    have hb := h1 x (by simp)
    by_cases e : x.b = j
    · have hpq := h2 x (by simp) e
      rw [joinA_cons, joinA_cons, hpq]
      cases q x.i with
      | true => simp only [cond_true]; rw [PT.get_ins 40 x.o _ x.b j hb, PT.get_ins 40 x.o _ x.b j hb, ih]
      | false => exact ih
    · have key : ∀ r : Nat → Bool, (joinA H r (x :: xs)).get j = (joinA H r xs).get j := fun r => by
        rw [joinA_cons]
        cases r x.i with
        | true => simp only [cond_true]; rw [PT.get_ins 40 x.o _ x.b j hb, if_neg (fun h => e h.symm)]
        | false => rfl
      rw [key, key, ih]

theorem act_put_getD {a : Act} {d : Option Tmp} {v : Value} {t : Nat} (hd : ∀ k, d = some k → k < a.tmps.size) : (a.put d v).tmps.getD t undef = if d = some t then v else a.tmps.getD t undef := by
  cases d with
  | none => simp [Act.put]
  | some k =>
    have hk := hd k rfl
    simp only [Act.put, Array.getD_eq_getD_getElem?, Option.some.injEq]
    by_cases e : k = t
    · subst e
      rw [if_pos rfl, Array.getElem?_setIfInBounds_self_of_lt hk]; rfl
    · rw [if_neg e, Array.getElem?_setIfInBounds_ne e]
theorem act_put_size {a : Act} {d : Option Tmp} {v : Value} : (a.put d v).tmps.size = a.tmps.size := by
  cases d <;> simp [Act.put]

/-- one operation, whichever comes next -/
theorem one_ok (hY : TyOK P Y) {T : R → Prop} (hff : ¬ T Z.ff) (C : Ctx Z P Y nt ops ds os n0 t0 fp fs tf vf) {σ0 : Sg} {H0 : Hp} {w0 : World} (h0 : Inv Y.ng σ0 H0 n0 w0) {d0 : List Deferred} {D : Nat → Bool} {σ : Sg} {a : Act} {w : World} {s : Snap}
    (I : DInv Y nt ops ds n0 t0 fp fs vf σ0 H0 w0 d0 D σ a w s) {i : Nat} (hi : i < ops.size) (hDi : D i = false) (hready : ∀ y, ops[i]? = some y → ∀ e ∈ y.after, Region.binds .any e = true → D e.on = true)
    {K : Act → World → Prop} {Q : Exit → Act → World → Prop} (hK : ∀ σ' a' w' s', DInv Y nt ops ds n0 t0 fp fs vf σ0 H0 w0 d0 (fun j => if j = i then true else D j) σ' a' w' s' → K a' w') : wpOp P ops Q i K a w := by
  have hio : i < os.length := by rw [C.len]; exact hi
  obtain ⟨o, ho⟩ : ∃ o, os[i]? = some o := ⟨os[i], List.getElem?_eq_getElem hio⟩
  obtain ⟨oper, hoper, hdi, hod, hwr, hgd, hlk⟩ := C.spec i o ho
  have hw := wrD_ok hwr
  have hdst : dstOf ops i = oper.dst := by simp [dstOf, hoper]
  have hinv : Inv Y.ng σ (joinA s.h (fun j => D j && !s.mg.testBit j) fs) s.nx w := I.step.inv h0
  -- what stands ahead of it has run
  have hahead : ∀ j, j < ops.size → bitOf ds i j = true → D j = true := fun j hj hb => by
    obtain ⟨e, he, hbi, hor⟩ := C.fixed.clo i oper hoper j hj hb
    have hDe := hready oper hoper e he hbi
    rcases hor with h | h
    · rw [← h]; exact hDe
    · exact I.clo e.on (by have := (C.fixed.edge i oper hoper e he hbi).1; omega) hDe j hj h
  have hmaskbit : ∀ j, bitOf ds i j = o.di.mask.testBit j := fun j => by simp [bitOf, hdi]
  have hloud : loudAt ds i = isL o.di := by simp [loudAt, hdi]
  have hget : ∀ j, j < ops.size → ∃ y, ops[j]? = some y := fun j hj => ⟨ops[j], by simp [hj]⟩
  have hlater : ∀ j y, i < j → j < ops.size → D j = true → ops[j]? = some y → meetA ops oper y = false ∧ ¬ (loudAt ds i = true ∧ loudAt ds j = true) := fun j y hij hj hD hy => by
    rcases C.fixed.ord i j oper y hij hoper hy with h | h
    · have := I.clo j hj hD i hi h
      rw [hDi] at this; cases this
    · exact h
  have hearlier : ∀ j y, j < i → ops[j]? = some y → D j = false → meetA ops y oper = false ∧ ¬ (loudAt ds j = true ∧ loudAt ds i = true) := fun j y hji hy hD => by
    rcases C.fixed.ord j i y oper hji hy hoper with h | h
    · have := hahead j (by omega) h
      rw [hD] at this; cases this
    · exact h
  -- what it looks at is as in the abstract run
  have hlooks : ∀ t, t ∈ looksL ops oper → tget ops vf t0 D ops.size t = (tf i).get t := fun t ht => by
    rw [C.tf_get i (by omega), tget_top (i := i) (by omega) (fun j h1 h2 h3 => ?_)]
    · refine tget_congr (fun j hj hdj => ?_)
      obtain ⟨y, hy⟩ := hget j (by omega)
      cases hD : D j with
      | true => rfl
      | false =>
        have := (meet_spec (hearlier j y hj hy hD).1).1 t (by simpa [dstOf, hy] using hdj)
        exact absurd ht this.1
    · intro hdj
      have hne : j ≠ i := by intro e; subst e; rw [hDi] at h3; cases h3
      obtain ⟨y, hy⟩ := hget j h2
      have := (meet_spec (hlater j y (by omega) h2 h3 hy).1).2 t (by simpa [dstOf, hy] using hdj)
      exact this ht
  obtain ⟨hlt, hrs⟩ := rsA_get _ _ hlk
  have hvt : ∀ t, t ∈ looksL ops oper → VR σ ((rsA (tf i) o.lk).get t) (a.tmps.getD t undef) := fun t ht => by
    rw [hrs, if_pos ht, ← hlooks t ht]; exact I.tmp t
  -- the guard
  have hwant : Region.wanted oper (yielded ops a.tmps) = wantG o.g (rsA (tf i) o.lk) := by
    unfold guardS at hgd
    split at hgd
    · rename_i hg
      injection hgd with hgd
      rw [← hgd]
      exact wanted_none hg
    · rename_i j want hg
      split at hgd
      · cases hgd
      · rename_i p hp
        split at hgd
        · cases hgd
        · rename_i t hpd
          split at hgd
          · cases hgd
          · rename_i g hgt
            injection hgd with hgd
            rw [← hgd]
            exact wanted_eq (hvt t (looks_guard hg hp hpd)) hg hp hpd hgt
  -- a copy of the frame that bears only what the operation looks at
  let a1 : Act := { a with tmps := a.tmps.mapIdx fun t x => if t ∈ looksL ops oper then x else undef }
  have ha1 : ∀ t, a1.tmps.getD t undef = if t ∈ looksL ops oper then a.tmps.getD t undef else undef := fun t => by
    simp only [a1, Array.getD_eq_getD_getElem?, Array.getElem?_mapIdx]
    cases h : a.tmps[t]? with
    | none => simp
    | some x => simp only [Option.map_some, Option.getD_some]
  have htr1 : TR σ nt (rsA (tf i) o.lk) a1.tmps := ⟨by simp [a1, I.tsz], fun t => by
    rw [ha1]
    by_cases ht : t ∈ looksL ops oper
    · rw [if_pos ht]; exact hvt t ht
    · rw [if_neg ht, hrs, if_neg ht]; exact VR.undef σ⟩
  have hexec : (∀ cs b, oper.op ≠ .select cs b) → execOp a1.eval oper = execOp a.eval oper := fun hs => execOp_congr oper hs fun x hx => by
    cases x with
    | tmp t =>
      have ht : t ∈ looksL ops oper := looks_ops (opTmps_mem _ t (by simpa using hx))
      have h1 := ha1 t
      rw [if_pos ht] at h1
      simpa [Act.eval, Array.getD_eq_getD_getElem?] using h1
    | const v => rfl
    | global g => rfl
    | func f => rfl
  have hsel : o.od ≠ .bad → ∀ cs b, oper.op ≠ .select cs b := fun hb cs b he => hb (by rw [hod, he]; rfl)
  -- the state behind it
  have hdk : ∀ k, oper.dst = some k → k < a.tmps.size := fun k hk => by rw [hk] at hw; rw [I.tsz]; exact hw.1
  have htmps : ∀ (σ' : Sg) (v' : Value), (∀ b j, σ b = some j → σ' b = some j) → VR σ' (vf i) v' → ∀ t, VR σ' (tget ops vf t0 (fun j => if j = i then true else D j) ops.size t) ((a.put oper.dst v').tmps.getD t undef) := fun σ' v' hext hv t => by
    rw [tget_put hi (fun j h1 h2 h3 t ht => ?_), act_put_getD hdk, hdst]
    · split
      · exact hv
      · exact (I.tmp t).mono hext
    · obtain ⟨y, hy⟩ := hget j h2
      have := ((meet_spec (hlater j y h1 h2 h3 hy).1).1 t (by rw [← hdst]; exact ht)).2
      simpa [dstOf, hy] using this
  have hclo : ∀ j, j < ops.size → (if j = i then true else D j) = true → ∀ l, l < ops.size → bitOf ds j l = true → (if l = i then true else D l) = true := fun j hj hD l hl hb => by
    by_cases e : l = i
    · rw [if_pos e]
    · rw [if_neg e]
      by_cases e' : j = i
      · subst e'; exact hahead l hl hb
      · rw [if_neg e'] at hD; exact I.clo j hj hD l hl hb
  have hcntL : loudAt ds i = true → cntB (fun j => D j && loudAt ds j) ops.size = cntB (loudAt ds) i := fun hl => by
    rw [← cntB_below (p := loudAt ds) (i := i) (n := ops.size) (by omega)]
    refine cntB_congr (fun j hj => ?_)
    cases hlj : loudAt ds j with
    | false => simp
    | true =>
      simp only [Bool.and_true]
      obtain ⟨y, hy⟩ := hget j hj
      rcases Nat.lt_trichotomy j i with h | h | h
      · rw [decide_eq_true h]
        cases hD : D j with
        | true => rfl
        | false => exact absurd ⟨hlj, hl⟩ (hearlier j y h hy hD).2
      · subst h; rw [hDi]; simp
      · rw [decide_eq_false (by omega)]
        cases hD : D j with
        | false => rfl
        | true => exact absurd ⟨hl, hlj⟩ (hlater j y h hj hD hy).2
  have hcnt1 : loudAt ds i = true → cntB (fun j => (if j = i then true else D j) && loudAt ds j) ops.size = cntB (fun j => D j && loudAt ds j) ops.size + 1 := fun hl =>
    cntB_set hi (by simp [hDi]) (by simp [hl]) (fun j hj => by simp [hj])
  have hcnt0 : loudAt ds i = false → cntB (fun j => (if j = i then true else D j) && loudAt ds j) ops.size = cntB (fun j => D j && loudAt ds j) ops.size := fun hl =>
    cntB_congr (fun j hj => by
      by_cases e : j = i
      · subst e; rw [hl]; simp
      · rw [if_neg e])
  -- nothing of the heap is touched
  have quiet : ∀ v' : Value, VR σ (vf i) v' → (∀ x ∈ fs, x.i ≠ i) → bot fp (cntB (fun j => (if j = i then true else D j) && loudAt ds j) ops.size) = some s → K (a.put oper.dst v') w := fun v' hv hns hsn => by
    refine hK σ _ w s ⟨hclo, hsn, ?_, fun j hj hD => ?_, fun l hl hb => ?_, I.none, I.nxs, by rw [act_put_size]; exact I.tsz, htmps σ v' (fun _ _ h => h) hv, by rw [put_defers]; exact I.dfr⟩
    · have : joinA s.h (fun j => (if j = i then true else D j) && !s.mg.testBit j) fs = joinA s.h (fun j => D j && !s.mg.testBit j) fs := joinA_congr fs (fun x hx => by rw [if_neg (hns x hx)])
      rw [this]; exact I.step
    · by_cases e : j = i
      · rw [if_pos e] at hD; cases hD
      · rw [if_neg e] at hD; exact I.free j hj hD
    · by_cases e : l = i
      · rw [if_pos e]
      · rw [if_neg e]; exact I.mgD l hl hb
  obtain ⟨hstep, _⟩ := C.each i hi o oper ho hoper
  have hodok : ODOK T P Y oper.op o.od := by rw [hod]; exact opS_ok hff hY oper.op
  have hkd := C.fixed.kd i oper o.di hoper hdi
  rw [← hod] at hkd
  have hnotL : ∀ kd, odKd o.od = some kd → kd ≠ .l → loudAt ds i = false := fun kd hk hne => by
    rw [hkd] at hk; injection hk with hk
    rw [hloud]
    unfold isL
    rw [hk]
    cases kd <;> first | rfl | exact absurd rfl hne
  -- a side block is made by the operation of its number
  have hside : ∀ x ∈ fs, x.i = i → wantG o.g (rsA (tf i) o.lk) = true ∧ ∃ f len, o.od = .a f ∧ f (rsA (tf i) o.lk) = some (x.o, len) := fun x hx e => by
    obtain ⟨h1, h2, o', f, len, h3, h4, h5, h6⟩ := C.side x hx
    rw [e] at h3 h4 h6
    rw [ho] at h3; injection h3 with h3; subst h3
    exact ⟨h4, f, len, h5, h6⟩
  unfold wpOp
  rw [hoper]
  simp only
  rcases hstep with ⟨hng, hv, hl⟩ | ⟨hwg, hdone⟩
  · -- not wanted
    rw [if_neg (by rw [hwant, hng]; simp)]
    refine quiet undef (by rw [hv]; exact VR.undef σ) (fun x hx e => by have := (hside x hx e).1; rw [hng] at this; cases this) ?_
    cases hli : loudAt ds i with
    | false => rw [hcnt0 hli]; exact I.snap
    | true =>
      rw [hcnt1 hli]
      obtain ⟨s1, q1, q2⟩ := hl (by rw [← hloud]; exact hli)
      have hs := I.snap
      rw [hcntL hli] at hs ⊢
      rw [q1] at hs; injection hs with hs; subst hs
      exact q2
  · rw [if_pos (by rw [hwant]; exact hwg)]
    left
    cases hodc : o.od with
    | m g =>
      rw [hodc] at hdone hodok
      obtain ⟨v', h1, h2⟩ := hodok σ nt _ _ w a1 hinv.glob htr1 hinv.wr _ rfl
      have h2' := h2 oper rfl
      rw [hexec (hsel (by rw [hodc]; simp))] at h2'
      refine wp_of_run h2' (.inl rfl) (quiet v' (by rw [show vf i = g (rsA (tf i) o.lk) from hdone]; exact h1) (fun x hx e => ?_) ?_)
      · obtain ⟨_, f, len, h, _⟩ := hside x hx e; rw [hodc] at h; cases h
      · rw [hcnt0 (hnotL .p (by rw [hodc]; rfl) (by simp))]; exact I.snap
    | p f =>
      rw [hodc] at hdone hodok
      obtain ⟨v', h1, h2⟩ := hodok σ nt _ _ w a1 hinv.glob htr1 hinv.wr _ hdone
      have h2' := h2 oper rfl
      rw [hexec (hsel (by rw [hodc]; simp))] at h2'
      refine wp_of_run h2' (.inl rfl) (quiet v' h1 (fun x hx e => ?_) ?_)
      · obtain ⟨_, f, len, h, _⟩ := hside x hx e; rw [hodc] at h; cases h
      · rw [hcnt0 (hnotL .p (by rw [hodc]; rfl) (by simp))]; exact I.snap
    | r f =>
      rw [hodc] at hdone hodok
      have hlo : o.di.lo ≤ cntB (fun j => D j && loudAt ds j) ops.size := Nat.le_trans (C.fixed.lo i o.di hdi) (cntB_mono (fun j hj hb => by
        rw [Bool.and_eq_true] at hb ⊢
        exact ⟨hahead j hj hb.1, hb.2⟩))
      have hhi : cntB (fun j => D j && loudAt ds j) ops.size ≤ o.di.hi := Nat.le_trans (cntB_mono (fun j hj hb => by
        rw [Bool.and_eq_true] at hb ⊢
        refine ⟨hb.2, ?_⟩
        cases hbit : bitOf ds j i with
        | false => rfl
        | true => have := I.clo j hj hb.1 i hi hbit; rw [hDi] at this; cases this)) (C.fixed.hi i o.di hdi)
      have hf := hdone _ s hlo hhi I.snap
      have hwr1 : WR σ (joinA s.h (ahead o.di.mask s.mg) fs) w := hinv.wr.sub (fun b ob hb => joinA_mono C.uniq (fun x hx hp => by
        simp only [ahead, Bool.and_eq_true] at hp ⊢
        exact ⟨hahead x.i (C.side x hx).1 (by rw [hmaskbit]; exact hp.1), hp.2⟩) (fun x hx hq _ => by
        rw [Bool.and_eq_true] at hq
        exact I.none x hx (by simpa using hq.2)) hb)
      obtain ⟨v', h1, h2⟩ := hodok σ nt _ _ w a1 hinv.glob htr1 hwr1 _ hf
      have h2' := h2 oper rfl
      rw [hexec (hsel (by rw [hodc]; simp))] at h2'
      refine wp_of_run h2' (.inl rfl) (quiet v' h1 (fun x hx e => ?_) ?_)
      · obtain ⟨_, f, len, h, _⟩ := hside x hx e; rw [hodc] at h; cases h
      · rw [hcnt0 (hnotL .r (by rw [hodc]; rfl) (by simp))]; exact I.snap
    | a f =>
      rw [hodc] at hdone hodok
      obtain ⟨ob, len, e1, e2, e3⟩ := hdone
      obtain ⟨ib, v', w', q1, q2, q3, q4, q5, q6, q7, q8⟩ := hodok σ nt _ w a1 hinv.glob htr1 ob len e1
      have hfree := I.free i hi hDi
      obtain ⟨p1, p2⟩ := q7 (n0 + i) hfree
      have h2' := q8 oper rfl
      rw [hexec (hsel (by rw [hodc]; simp))] at h2'
      have hmg : s.mg.testBit i = false := by
        cases hb : s.mg.testBit i with
        | false => rfl
        | true => have := I.mgD i hi hb; rw [hDi] at this; cases this
      have hstep' : Step σ0 H0 n0 w0 (σ.put (n0 + i) ib) (joinA s.h (fun j => (if j = i then true else D j) && !s.mg.testBit j) fs) s.nx w' := by
        refine I.step.thenNew hfree (by omega) (by have := I.nxs; omega) q1 p2 q2 q3 q4 q5 q6 (fun j => ?_)
        split
        · rename_i e
          subst e
          exact joinA_in fs C.uniq ⟨i, n0 + i, ob⟩ e3 (by simp [hmg])
        · rename_i e
          exact joinA_at fs C.uniq.1 (fun x hx hxb => by
            have hxi : x.i ≠ i := fun h => by have := (C.side x hx).2.1; omega
            rw [if_neg hxi])
      refine wp_of_run h2' (.inl rfl) (hK _ _ w' s ⟨hclo, ?_, hstep', fun j hj hD => ?_, fun l hl hb => ?_, I.none, I.nxs, by rw [act_put_size]; exact I.tsz, htmps _ v' (Sg.put_ext hfree) (by rw [e2]; exact p1), by rw [put_defers]; exact I.dfr⟩)
      · rw [hcnt0 (hnotL .a (by rw [hodc]; rfl) (by simp))]; exact I.snap
      · by_cases e : j = i
        · rw [if_pos e] at hD; cases hD
        · rw [if_neg e] at hD
          have := I.free j hj hD
          unfold Sg.put
          rw [if_neg (by omega)]; exact this
      · by_cases e : l = i
        · rw [if_pos e]
        · rw [if_neg e]; exact I.mgD l hl hb
    | l f =>
      rw [hodc] at hdone
      obtain ⟨s1, s2, r1, r2, r3, r4⟩ := hdone
      have hli : loudAt ds i = true := by
        rw [hodc] at hkd
        have : some Kd.l = some o.di.kd := hkd
        injection this with this
        rw [hloud]; unfold isL; rw [← this]
      have hs := I.snap
      rw [hcntL hli, r1] at hs; injection hs with hs; subst hs
      have hsub : ∀ b ob, (joinA s1.h (ahead o.di.mask s1.mg) fs).get b = some ob → (joinA s1.h (fun j => D j && !s1.mg.testBit j) fs).get b = some ob := fun b ob hb => joinA_mono C.uniq (fun x hx hp => by
        simp only [ahead, Bool.and_eq_true] at hp ⊢
        exact ⟨hahead x.i (C.side x hx).1 (by rw [hmaskbit]; exact hp.1), hp.2⟩) (fun x hx hq _ => by
        rw [Bool.and_eq_true] at hq
        exact I.none x hx (by simpa using hq.2)) hb
      have hrun := r4 σ nt w a1 ⟨hinv.wr.sub hsub, hinv.fresh, hinv.glob⟩ htr1 oper rfl
      rw [hexec (hsel (by rw [hodc]; simp))] at hrun
      refine hrun.wp (fun v' w' ⟨σ', hv', S1⟩ => ?_)
      have hor : ∀ l, s2.mg.testBit l = (o.di.mask.testBit l || s1.mg.testBit l) := fun l => by rw [r3]; exact Nat.testBit_or _ _ _
      -- side blocks that are not merged are not in the part
      have hout : ∀ x ∈ fs, s2.mg.testBit x.i = false → (joinA s1.h (ahead o.di.mask s1.mg) fs).get x.b = Option.none := fun x hx hm => by
        rw [hor, Bool.or_eq_false_iff] at hm
        rw [joinA_out fs C.uniq.1 (fun y hy hp e => ?_)]
        · exact I.none x hx hm.2
        · have := (C.uniq.2 y hy x hx e).2
          simp only [ahead, Bool.and_eq_true] at hp
          rw [this, hm.1] at hp
          cases hp.1
      have hnoti : ∀ x ∈ fs, x.i ≠ i := fun x hx e => by
        obtain ⟨_, f, len, h, _⟩ := hside x hx e; rw [hodc] at h; cases h
      refine hK σ' _ w' s2 ⟨hclo, ?_, ?_, fun j hj hD => ?_, fun l hl hb => ?_, fun x hx hm => ?_, Nat.le_trans I.nxs S1.nxle, by rw [act_put_size]; exact I.tsz, htmps σ' v' S1.ext hv', by rw [put_defers]; exact I.dfr⟩
      · rw [hcnt1 hli, hcntL hli]; exact r2
      · refine I.step.thenSub hsub S1 (fun b ob hb => ?_)
        rcases joinA_some C.uniq hb with ⟨x, hx, hp, hxb, hxo⟩ | ⟨_, h⟩
        · right
          simp only [if_neg (hnoti x hx), Bool.and_eq_true, Bool.not_eq_true'] at hp
          have hm := hp.2
          rw [hor, Bool.or_eq_false_iff] at hm
          subst hxb; subst hxo
          exact ⟨joinA_in fs C.uniq x hx (by simp [hp.1, hm.2]), hout x hx hp.2⟩
        · exact .inl h
      · by_cases e : j = i
        · rw [if_pos e] at hD; cases hD
        · rw [if_neg e] at hD
          rw [S1.keep (n0 + j) (by have := I.nxs; omega)]
          exact I.free j hj hD
      · by_cases e : l = i
        · rw [if_pos e]
        · rw [if_neg e]
          rw [hor, Bool.or_eq_true] at hb
          rcases hb with h | h
          · exact hahead l hl (by rw [hmaskbit]; exact h)
          · exact I.mgD l hl h
      · cases hg : s2.h.get x.b with
        | none => rfl
        | some ob =>
          have hxb := (C.side x hx).2.1
          have := S1.old x.b (by have := I.nxs; have := (C.side x hx).1; omega) (by rw [hg]; rfl)
          rw [hout x hx hm] at this
          cases this
    | bad => rw [hodc] at hdone; exact hdone.elim

end
end Go.Ax
