import Derived.Test.YtdlacmhfgnghbaaGreatDoorAxOps6
/- Keys of maps. -/
set_option linter.unusedVariables false
set_option linter.constructorNameAsVariable false
set_option linter.unusedSimpArgs false
namespace Go.Ax
section
variable {P : Program} {Y : Ty} (hY : TyOK P Y)

def KeyOK (P : Program) (t : TypeId) (d : Nat) (r : EqF) : Prop :=
  ∀ (σ : Sg) x x', VR σ x x' → r x x = some true → ∀ (em : Bool) (n : Nat) (w : World), d ≤ n → (Instr.checkKey em n t x').run P w = .ok () w

/-- a type that checkKey passes by -/
theorem key_plain {t : TypeId} {td : TypeDesc} (h : P.underlying t = some td) (h1 : ∀ ms, td ≠ .interface ms) (h2 : ∀ n e, td ≠ .array n e) (h3 : ∀ fs, td ≠ .struct fs) (d : Nat) (r : EqF) : KeyOK P t (d + 1) r := by
  intro σ x x' hx he em n w hn
  obtain ⟨m, rfl⟩ : ∃ m, n = m + 1 := ⟨n - 1, by omega⟩
  simp only [Instr.checkKey, Sem.run_bind, run_underlying h, Result.andThen_ok]
  cases td <;> first | (exact absurd rfl (h1 _)) | (exact absurd rfl (h2 _ _)) | (exact absurd rfl (h3 _)) | (cases x' <;> rfl)

def keyFields (em : Bool) (n : Nat) (cs : Array Value) : List Field → Sem Unit
  | [] => pure ()
  | f :: fs => do
    if f.name ≠ "_" then Instr.checkKey em n f.type (← part f.type cs f.offset)
    keyFields em n cs fs

theorem run_checkKey_struct {t : TypeId} {fs : Array Field} (h : P.underlying t = some (.struct fs)) (em : Bool) (n : Nat) (cs : Array Value) (w : World) :
    (Instr.checkKey em (n + 1) t (.agg cs)).run P w = (keyFields em n cs fs.toList).run P w := by
  simp only [Instr.checkKey, Sem.run_bind, run_underlying h, Result.andThen_ok]
  rw [← Array.forIn_toList]
  generalize fs.toList = l
  clear h
  induction l generalizing w with
  | nil => simp [keyFields]
  | cons f fs ih =>
    simp only [List.forIn_cons, keyFields, Sem.run_bind, Sem.run_ite]
    split
    · generalize (part f.type cs f.offset).run P w = r1
      cases r1 with
      | ok a w1 =>
        simp only [Result.andThen_ok]
        generalize (Instr.checkKey em n f.type a).run P w1 = r2
        cases r2 with
        | ok u w2 => simp only [Result.andThen_ok, Sem.run_pure]; exact ih w2
        | halt x w2 => simp [Result.andThen]
      | halt x w1 => simp [Result.andThen]
    · simp only [Sem.run_pure, Result.andThen_ok]
      exact ih w

def keyElems (em : Bool) (n : Nat) (e : TypeId) (sz : Nat) (cs : Array Value) : List Nat → Sem Unit
  | [] => pure ()
  | i :: is => do
    Instr.checkKey em n e (← part e cs (i * sz))
    keyElems em n e sz cs is
theorem run_checkKey_array {t e : TypeId} {len : Nat} {ei : TypeInfo} (h : P.underlying t = some (.array len e)) (he : P.info? e = some ei) (em : Bool) (n : Nat) (cs : Array Value) (w : World) :
    (Instr.checkKey em (n + 1) t (.agg cs)).run P w = (keyElems em n e ei.size cs (List.range' 0 len)).run P w := by
  simp only [Instr.checkKey, Sem.run_bind, run_underlying h, Result.andThen_ok]
  rw [Std.Legacy.Range.forIn_eq_forIn_range']
  simp only [Std.Legacy.Range.size, Nat.sub_zero, Nat.add_sub_cancel, Nat.div_one]
  generalize List.range' 0 len = l
  induction l generalizing w with
  | nil => simp [keyElems]
  | cons i is ih =>
    simp only [List.forIn_cons, keyElems, Sem.run_bind, run_sizeOf' he w, Result.andThen_ok]
    generalize (part e cs (i * ei.size)).run P w = r1
    cases r1 with
    | ok a w1 =>
      simp only [Result.andThen_ok]
      generalize (Instr.checkKey em n e a).run P w1 = r2
      cases r2 with
      | ok u w2 => simp only [Result.andThen_ok, Sem.run_pure]; exact ih w2
      | halt x w2 => simp [Result.andThen]
    | halt x w1 => simp [Result.andThen]

include hY in
theorem keyFields_ok {d : Nat} (eqs : TypeId → Option EqF) (heqs : ∀ t r, eqs t = some r → KeyOK P t d r) : ∀ (fs : List Field) (ps : List (PartF × Nat × EqF)), fieldPs Y eqs fs = some ps →
    ∀ (σ : Sg) (xs : List Value) (xs' : Array Value), VL σ xs xs'.toList → eqParts ps xs xs = some true → ∀ (em : Bool) (n : Nat) (w : World), d ≤ n → (keyFields em n xs' fs).run P w = .ok () w := by
  intro fs
  induction fs with
  | nil => intro ps _ σ xs xs' _ _ em n w _; simp [keyFields]
  | cons f fs ih =>
    intro ps hps σ xs xs' hx he em n w hn
    simp only [fieldPs] at hps
    split at hps
    · cases hps
    · rename_i p hp
      split at hps
      · cases hps
      · rename_i r hr
        split at hps
        · cases hps
        · rename_i ps' hps'
          cases hname : (f.name != "_") with
          | false => rw [hname] at hps; cases hps
          | true =>
            rw [hname] at hps; injection hps with hps; subst hps
            have hne : f.name ≠ "_" := by simpa using hname
            simp only [eqParts] at he
            split at he
            · cases he
            · rename_i u hu
              obtain ⟨u', hu1, hu2⟩ := partS_ok hY hp hx hu w
              simp only [hu] at he
              split at he
              · rename_i hb
                simp only [keyFields, Sem.run_bind, if_pos hne, hu2, Result.andThen_ok, heqs _ _ hr σ u u' hu1 hb em n w hn]
                exact ih ps' hps' σ xs xs' hx he em n w hn
              · rename_i o hb
                exact absurd he (by simpa using hb)

include hY in
theorem keyElems_ok {d : Nat} {e : TypeId} {p : PartF} (hp : partS Y e = some p) {r : EqF} (hr : KeyOK P e d r) (sz : Nat) : ∀ (m i : Nat) (σ : Sg) (xs : List Value) (xs' : Array Value), VL σ xs xs'.toList →
    eqParts (elemPs p r sz m (i * sz)) xs xs = some true → ∀ (em : Bool) (n : Nat) (w : World), d ≤ n → (keyElems em n e sz xs' (List.range' i m)).run P w = .ok () w := by
  intro m
  induction m with
  | zero => intro i σ xs xs' _ _ em n w _; simp [keyElems]
  | succ m ih =>
    intro i σ xs xs' hx he em n w hn
    simp only [elemPs, eqParts] at he
    rw [List.range'_succ]
    split at he
    · cases he
    · rename_i u hu
      obtain ⟨u', hu1, hu2⟩ := partS_ok hY hp hx hu w
      simp only [hu] at he
      split at he
      · rename_i hb
        simp only [keyElems, Sem.run_bind, hu2, Result.andThen_ok, hr σ u u' hu1 hb em n w hn]
        refine ih (i + 1) σ xs xs' hx ?_ em n w hn
        rw [Nat.add_mul, Nat.one_mul]
        exact he
      · rename_i o hb
        exact absurd he (by simpa using hb)

include hY in
theorem keyS_ok : ∀ (d : Nat) (t : TypeId) (r : EqF), eqS Y d t = some r → KeyOK P t d r := by
  intro d
  induction d with
  | zero => intro t r h; simp [eqS] at h
  | succ d ih =>
    intro t r h
    simp only [eqS] at h
    split at h
    · cases h
    · rename_i ti td ht
      obtain ⟨h1, h2⟩ := hY.tys t ti td ht
      split at h
      · exact key_plain h2 (fun _ h => by cases h) (fun _ _ h => by cases h) (fun _ h => by cases h) d r
      · exact key_plain h2 (fun _ h => by cases h) (fun _ _ h => by cases h) (fun _ h => by cases h) d r
      · exact key_plain h2 (fun _ h => by cases h) (fun _ _ h => by cases h) (fun _ h => by cases h) d r
      · exact key_plain h2 (fun _ h => by cases h) (fun _ _ h => by cases h) (fun _ h => by cases h) d r
      · injection h with h; subst h
        intro σ x x' hx he em n w hn
        cases x <;> simp [eqIface] at he
      · exact key_plain h2 (fun _ h => by cases h) (fun _ _ h => by cases h) (fun _ h => by cases h) d r
      · exact key_plain h2 (fun _ h => by cases h) (fun _ _ h => by cases h) (fun _ h => by cases h) d r
      · exact key_plain h2 (fun _ h => by cases h) (fun _ _ h => by cases h) (fun _ h => by cases h) d r
      · rename_i fs
        cases hq : Y.eqs t with
        | false => rw [hq] at h; cases h
        | true =>
          rw [hq] at h
          simp only [cond_true] at h
          split at h
          · rename_i ps hps
            injection h with h; subst h
            intro σ x x' hx he em n w hn
            obtain ⟨m, rfl⟩ : ∃ m, n = m + 1 := ⟨n - 1, by omega⟩
            cases x <;> first | (cases he; done) | skip
            rename_i xs
            obtain ⟨xs', rfl, hxs⟩ := hx.agg_iff
            rw [run_checkKey_struct h2]
            exact keyFields_ok hY (eqS Y d) ih fs.toList ps hps σ _ xs' hxs he em m w (by omega)
          · cases h
      · rename_i len e
        cases hq : Y.eqs t with
        | false => rw [hq] at h; cases h
        | true =>
          rw [hq] at h
          simp only [cond_true] at h
          split at h
          · rename_i ei ed p r' he hp hr
            injection h with h; subst h
            obtain ⟨g1, g2⟩ := hY.tys e ei ed he
            intro σ x x' hx he em n w hn
            obtain ⟨m, rfl⟩ : ∃ m, n = m + 1 := ⟨n - 1, by omega⟩
            cases x <;> first | (cases he; done) | skip
            rename_i xs
            obtain ⟨xs', rfl, hxs⟩ := hx.agg_iff
            rw [run_checkKey_array h2 g1]
            exact keyElems_ok hY hp (ih e r' hr) ei.size len 0 σ _ xs' hxs (by simpa [eqAgg] using he) em m w (by omega)
          · cases h
      · cases h

/-! ### finding -/

/-- where the key is -/
def idxA (r : EqF) (k : Value) : List (Value × Value × Nat) → Option (Option Nat)
  | [] => some none
  | (k', _, _) :: es => match r k k' with
    | some true => some (some 0)
    | some false => (match idxA r k es with
      | some (some i) => some (some (i + 1))
      | o => o)
    | none => none

def EntsR (σ : Sg) (es : List (Value × Value × Nat)) (es' : List MapEntry) : Prop :=
  es.length = es'.length ∧ ∀ (j : Nat) (e : Value × Value × Nat), es[j]? = some e → ∃ e', es'[j]? = some e' ∧ EntR σ e e'
theorem EntsR.tail {σ : Sg} {e : Value × Value × Nat} {es : List (Value × Value × Nat)} {e' : MapEntry} {es' : List MapEntry} (h : EntsR σ (e :: es) (e' :: es')) : EntR σ e e' ∧ EntsR σ es es' := by
  refine ⟨?_, by simpa using h.1, fun j x hx => ?_⟩
  · obtain ⟨y, h1, h2⟩ := h.2 0 e (by simp)
    simp at h1; subst h1; exact h2
  · obtain ⟨y, h1, h2⟩ := h.2 (j + 1) x (by simpa using hx)
    exact ⟨y, by simpa using h1, h2⟩

theorem findAsking_ok {kt : TypeId} {r : EqF} (hr : EqOK P kt 6 r) {σ : Sg} {k k' : Value} (hk : VR σ k k') (w : World) : ∀ (es : List (Value × Value × Nat)) (es' : List MapEntry) (i0 : Nat) (o : Option Nat), EntsR σ es es' → idxA r k es = some o →
    ∃ res, (Instr.findAsking kt k' es' i0).run P w = .ok res w ∧ (o = none → res = none) ∧ (∀ i, o = some i → ∃ e', es'[i]? = some e' ∧ res = some (i0 + i, e'.val)) := by
  intro es
  induction es with
  | nil =>
    intro es' i0 o hes h
    have : es' = [] := List.length_eq_zero_iff.1 hes.1.symm
    subst this
    simp only [idxA, Option.some.injEq] at h
    subst h
    exact ⟨none, by simp [Instr.findAsking], fun _ => rfl, (fun i hi => by cases hi)⟩
  | cons e es ih =>
    intro es' i0 o hes h
    cases es' with
    | nil => exact absurd hes.1 (by simp)
    | cons e' es' =>
      obtain ⟨⟨hek, hev, heb⟩, hes'⟩ := hes.tail
      obtain ⟨k0, v0, b0⟩ := e
      simp only [idxA] at h
      split at h
      · rename_i hb
        injection h with h; subst h
        have he := hr σ k k0 k' e'.key true hk hek hb 10000 w (by omega)
        refine ⟨some (i0, e'.val), ?_, (fun hc => by cases hc), fun i hi => ?_⟩
        · simp only [Instr.findAsking, Sem.run_bind]
          have : (Op.equal kt k' e'.key).run P w = .ok true w := he
          simp only [this, Result.andThen_ok, if_true, Sem.run_pure]
        · injection hi with hi; subst hi
          exact ⟨e', by simp, rfl⟩
      · rename_i hb
        have he := hr σ k k0 k' e'.key false hk hek hb 10000 w (by omega)
        have he' : (Op.equal kt k' e'.key).run P w = .ok false w := he
        have key : ∀ o', idxA r k es = some o' → (o = none ↔ o' = none) ∧ (∀ i, o = some i → ∃ j, i = j + 1 ∧ o' = some j) := by
          intro o' ho'
          rw [ho'] at h
          cases o' with
          | none => simp at h; subst h; exact ⟨Iff.rfl, (fun i hi => by cases hi)⟩
          | some j => simp at h; subst h; exact ⟨by simp, fun i hi => ⟨j, by injection hi with hi; exact hi.symm, rfl⟩⟩
        cases ho' : idxA r k es with
        | none => rw [ho'] at h; cases h
        | some o' =>
          obtain ⟨q1, q2⟩ := key o' ho'
          obtain ⟨res, r1, r2, r3⟩ := ih es' (i0 + 1) o' hes' ho'
          refine ⟨res, ?_, fun hn => r2 (q1.1 hn), fun i hi => ?_⟩
          · simp only [Instr.findAsking, Sem.run_bind, he', Result.andThen_ok, Bool.false_eq_true, if_false]
            exact r1
          · obtain ⟨j, rfl, hj⟩ := q2 i hi
            obtain ⟨e2, s1, s2⟩ := r3 j hj
            exact ⟨e2, by simpa using s1, by rw [s2]; congr 2; omega⟩
      · cases h

/-- the quick way to find a number, a string, a bool -/
theorem findNow_ok {td : TypeDesc} {r : EqF} (hsn : ∀ (σ : Sg) x y x' y' b, VR σ x x' → VR σ y y' → r x y = some b → Instr.sameNow td x' y' = some b) {σ : Sg} {k k' : Value} (hk : VR σ k k') :
    ∀ (es : List (Value × Value × Nat)) (es' : List MapEntry) (i0 : Nat) (o : Option Nat), EntsR σ es es' → idxA r k es = some o →
    ∃ res, Instr.findNow td k' es' i0 = some res ∧ (o = none → res = none) ∧ (∀ i, o = some i → ∃ e', es'[i]? = some e' ∧ res = some (i0 + i, e'.val)) := by
  intro es
  induction es with
  | nil =>
    intro es' i0 o hes h
    have : es' = [] := List.length_eq_zero_iff.1 hes.1.symm
    subst this
    simp only [idxA, Option.some.injEq] at h
    subst h
    exact ⟨none, rfl, fun _ => rfl, (fun i hi => by cases hi)⟩
  | cons e es ih =>
    intro es' i0 o hes h
    cases es' with
    | nil => exact absurd hes.1 (by simp)
    | cons e' es' =>
      obtain ⟨⟨hek, hev, heb⟩, hes'⟩ := hes.tail
      obtain ⟨k0, v0, b0⟩ := e
      simp only [idxA] at h
      split at h
      · rename_i hb
        injection h with h; subst h
        have he := hsn σ k k0 k' e'.key true hk hek hb
        refine ⟨some (i0, e'.val), by simp [Instr.findNow, he], (fun hc => by cases hc), fun i hi => ?_⟩
        injection hi with hi; subst hi
        exact ⟨e', by simp, rfl⟩
      · rename_i hb
        have he := hsn σ k k0 k' e'.key false hk hek hb
        cases ho' : idxA r k es with
        | none => rw [ho'] at h; cases h
        | some o' =>
          rw [ho'] at h
          obtain ⟨res, r1, r2, r3⟩ := ih es' (i0 + 1) o' hes' ho'
          refine ⟨res, by simp [Instr.findNow, he, r1], ?_, ?_⟩
          · intro hn
            cases o' with
            | none => exact r2 rfl
            | some j => simp at h; subst h; cases hn
          · intro i hi
            cases o' with
            | none => simp at h; subst h; cases hi
            | some j =>
              simp at h; subst h
              injection hi with hi; subst hi
              obtain ⟨e2, s1, s2⟩ := r3 j rfl
              exact ⟨e2, by simpa using s1, by rw [s2]; congr 2; omega⟩
      · cases h

include hY in
theorem findKey_ok {kt : TypeId} {r : EqF} (hr : eqS Y 6 kt = some r) {σ : Sg} {k k' : Value} (hk : VR σ k k') (w : World) {es : List (Value × Value × Nat)} {es' : List MapEntry} {o : Option Nat} (hes : EntsR σ es es') (h : idxA r k es = some o) :
    ∃ res, (Instr.findKey kt k' es').run P w = .ok res w ∧ (o = none → res = none) ∧ (∀ i, o = some i → ∃ e', es'[i]? = some e' ∧ res = some (i, e'.val)) := by
  have heq := eqS_ok (P := P) hY 6 kt r hr
  have hask := findAsking_ok heq hk w es es' 0 o hes h
  have hr' := hr
  simp only [eqS] at hr'
  split at hr'
  · cases hr'
  · rename_i ti td ht
    obtain ⟨h1, h2⟩ := hY.tys kt ti td ht
    by_cases hq : td = .bool ∨ (∃ k, td = .int k) ∨ td = .string
    · have hnow : ∃ res, Instr.findNow td k' es' 0 = some res ∧ (o = none → res = none) ∧ (∀ i, o = some i → ∃ e', es'[i]? = some e' ∧ res = some (0 + i, e'.val)) := by
        refine findNow_ok (r := r) ?_ hk es es' 0 o hes h
        rcases hq with rfl | ⟨k0, rfl⟩ | rfl
        · injection hr' with hr'; subst hr'
          intro σ x y x' y' b hx hy he
          obtain ⟨p, q, rfl, rfl, rfl⟩ := eqBool_some he
          cases hx; cases hy; rfl
        · injection hr' with hr'; subst hr'
          intro σ x y x' y' b hx hy he
          obtain ⟨kk, p, q, rfl, rfl, rfl⟩ := eqInt_some he
          cases hx; cases hy; simp [Instr.sameNow]
        · injection hr' with hr'; subst hr'
          intro σ x y x' y' b hx hy he
          obtain ⟨p, q, rfl, rfl, rfl⟩ := eqStr_some he
          cases hx; cases hy; rfl
      obtain ⟨res, r1, r2, r3⟩ := hnow
      refine ⟨res, ?_, r2, fun i hi => by simpa using r3 i hi⟩
      simp only [Instr.findKey, Sem.run_bind, run_underlying h2, Result.andThen_ok, r1, Sem.run_pure]
    · have hnone : ∀ e' es'', Instr.findNow td k' (e' :: es'') 0 = none := by
        intro e' es''
        have : Instr.sameNow td k' e'.key = none := by
          cases td <;> first | rfl | (exact absurd (.inl rfl) hq) | (exact absurd (.inr (.inl ⟨_, rfl⟩)) hq) | (exact absurd (.inr (.inr rfl)) hq)
        simp [Instr.findNow, this]
      obtain ⟨res, r1, r2, r3⟩ := hask
      refine ⟨res, ?_, r2, fun i hi => by simpa using r3 i hi⟩
      cases es' with
      | nil =>
        simp only [Instr.findKey, Sem.run_bind, run_underlying h2, Result.andThen_ok, Instr.findNow, Sem.run_pure]
        simpa [Instr.findAsking] using r1
      | cons e' es'' =>
        simp only [Instr.findKey, Sem.run_bind, run_underlying h2, Result.andThen_ok, hnone]
        exact r1

theorem findA_idx {r : EqF} {k : Value} : ∀ (es : List (Value × Value × Nat)) (res : Option Value), findA r k es = some res →
    ∃ o, idxA r k es = some o ∧ (res = none → o = none) ∧ (∀ v, res = some v → ∃ i e, o = some i ∧ es[i]? = some e ∧ e.2.1 = v)
  | [], res, h => by simp only [findA, Option.some.injEq] at h; subst h; exact ⟨none, rfl, fun _ => rfl, (fun v hv => by cases hv)⟩
  | (k0, v0, b0) :: es, res, h => by
    simp only [findA] at h
    split at h
    · rename_i hb
      injection h with h; subst h
      exact ⟨some 0, by simp [idxA, hb], (fun hc => by cases hc), fun v hv => ⟨0, (k0, v0, b0), rfl, by simp, Option.some.inj hv⟩⟩
    · rename_i hb
      obtain ⟨o, h1, h2, h3⟩ := findA_idx es res h
      cases o with
      | none => exact ⟨none, by simp [idxA, hb, h1], fun _ => rfl, fun v hv => by obtain ⟨i, e, q, _⟩ := h3 v hv; cases q⟩
      | some j =>
        refine ⟨some (j + 1), by simp [idxA, hb, h1], (fun hn => by have := h2 hn; cases this), fun v hv => ?_⟩
        obtain ⟨i, e, q1, q2, q3⟩ := h3 v hv
        injection q1 with q1; subst q1
        exact ⟨j + 1, e, rfl, by simpa using q2, q3⟩
    · cases h

include hY in
theorem lookup_ok {t kt e : TypeId} {ok : Bool} {x k : Operand} {g h : Rd} {ti ei : TypeInfo} {ed : TypeDesc} {r : EqF} {z : Value} (ht : Y.tys.get t = some (ti, .map kt e)) (he : Y.tys.get e = some (ei, ed)) (hr : eqS Y 6 kt = some r)
    (hz : ei.zero = some z) (hgz : ground 8 z = true) (hx : rdO Y x = some g) (hk : rdO Y k = some h) : QOK P Y (.lookup t x k ok) (lookQ r z ok g h) := by
  intro σ nt tm H w a hg htr hw v hv
  have h1 := rdO_ok hx hg htr
  have h2 := rdO_ok hk hg htr
  obtain ⟨g1, g2⟩ := hY.tys _ _ _ ht
  obtain ⟨g3, g4⟩ := hY.tys _ _ _ he
  unfold lookQ at hv
  split at hv
  · cases hv
  · rename_i es hes
    obtain ⟨es', e1, e2, e3⟩ := mapGet_ok (P := P) hw h1 hes
    have hes' : EntsR σ es es'.toList := ⟨by simpa using e1, fun j x hx => by obtain ⟨y, p, q⟩ := e2 j x hx; exact ⟨y, by simpa using p, q⟩⟩
    have hcase : ∃ res, r (h tm) (h tm) = some true ∧ findA r (h tm) es = some res ∧ ((res = none ∧ v = (bif ok then .tuple #[z, .bool false] else z)) ∨ ∃ u, res = some u ∧ v = (bif ok then .tuple #[u, .bool true] else u)) := by
      cases hself : r (h tm) (h tm) with
      | none => rw [hself] at hv; cases hv
      | some b =>
        rw [hself] at hv
        cases b with
        | false => cases hv
        | true =>
          simp only at hv
          cases hf : findA r (h tm) es with
          | none => rw [hf] at hv; cases hv
          | some res =>
            rw [hf] at hv
            cases res with
            | none => injection hv with hv; exact ⟨none, rfl, rfl, .inl ⟨rfl, hv.symm⟩⟩
            | some u => injection hv with hv; exact ⟨some u, rfl, rfl, .inr ⟨u, rfl, hv.symm⟩⟩
    obtain ⟨res, hself, hf, hres⟩ := hcase
    obtain ⟨o, i1, i2, i3⟩ := findA_idx es res hf
    obtain ⟨cres, c1, c2, c3⟩ := findKey_ok (P := P) hY hr h2 w hes' i1
    have hck : (Instr.checkKey es'.isEmpty 10000 kt (a.eval k)).run P w = .ok () w := keyS_ok (P := P) hY 6 kt r hr σ _ _ h2 hself _ 10000 w (by omega)
    have hzero : (zeroValue e).run P w = .ok z w := by simp [zeroValue, typeInfo, g3, hz]
    rcases hres with ⟨rfl, rfl⟩ | ⟨u, rfl, rfl⟩
    · have ho := i2 rfl
      have hc := c2 ho
      subst hc
      have hzr : VR σ z z := VR.of_ground 8 z hgz
      have hrun : (Instr.lookup t (a.eval x) (a.eval k) ok).run P w = .ok (bif ok then .tuple #[z, .bool false] else z) w := by
        rcases e3 with ⟨q1, q2⟩ | ⟨rr, ck, q1, q2⟩
        · rw [q2] at hck c1
          rw [q1]
          simp only [Instr.lookup, Sem.run_bind, run_underlying g2, Result.andThen_ok, Sem.run_pure, hck, c1, hzero]
          cases ok <;> rfl
        · rw [q1]
          simp only [Instr.lookup, Sem.run_bind, run_underlying g2, q2, Result.andThen_ok, Sem.run_pure, hck, c1, hzero]
          cases ok <;> rfl
      refine ⟨bif ok then .tuple #[z, .bool false] else z, ?_, fun oper ho => by simp only [execOp, ho, Sem.run_bind, hrun, Result.andThen_ok, Sem.run_pure]⟩
      cases ok with
      | false => exact hzr
      | true => exact VR.mk_tuple (cs := [z, .bool false]) (cs' := [z, .bool false]) (VL.cons hzr (VL.cons (.bool _) (VL.nil σ)))
    · obtain ⟨i, en, j1, j2, j3⟩ := i3 u rfl
      obtain ⟨e', k1, k2⟩ := c3 i j1
      obtain ⟨e'', l1, l2⟩ := hes'.2 i en j2
      rw [k1] at l1; injection l1 with l1; subst l1
      subst k2
      have hur : VR σ u e'.val := by rw [← j3]; exact l2.2.1
      have hrun : (Instr.lookup t (a.eval x) (a.eval k) ok).run P w = .ok (bif ok then .tuple #[e'.val, .bool true] else e'.val) w := by
        rcases e3 with ⟨q1, q2⟩ | ⟨rr, ck, q1, q2⟩
        · rw [q2] at hck c1
          rw [q1]
          simp only [Instr.lookup, Sem.run_bind, run_underlying g2, Result.andThen_ok, Sem.run_pure, hck, c1]
          cases ok <;> rfl
        · rw [q1]
          simp only [Instr.lookup, Sem.run_bind, run_underlying g2, q2, Result.andThen_ok, Sem.run_pure, hck, c1]
          cases ok <;> rfl
      refine ⟨bif ok then .tuple #[e'.val, .bool true] else e'.val, ?_, fun oper ho => by simp only [execOp, ho, Sem.run_bind, hrun, Result.andThen_ok, Sem.run_pure]⟩
      cases ok with
      | false => exact hur
      | true => exact VR.mk_tuple (cs := [u, .bool true]) (cs' := [e'.val, .bool true]) (VL.cons hur (VL.cons (.bool _) (VL.nil σ)))

end
end Go.Ax
