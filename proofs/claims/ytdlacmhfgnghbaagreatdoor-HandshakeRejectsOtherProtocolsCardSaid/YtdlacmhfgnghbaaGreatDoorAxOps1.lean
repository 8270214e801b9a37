import Derived.Test.YtdlacmhfgnghbaaGreatDoorAxRel
import Derived.Laws.StructEq
import Derived.Laws.Cells
import Derived.Laws.IdiomCopy
/- Each operation that yields a value and leaves the world alone: what it is turned into is right. -/
set_option linter.unusedVariables false
set_option linter.constructorNameAsVariable false
set_option linter.unusedSimpArgs false
namespace Go.Ax

structure TyOK (P : Program) (Y : Ty) : Prop where
  tys : ∀ t ti d, Y.tys.get t = some (ti, d) → P.info? t = some ti ∧ P.underlying t = some d
  eqs : ∀ t, Y.eqs t = true → P.stoodInHeld t = false ∧ P.eqGuardType P.depth t = false

def Glob (ng : Nat) (σ : Sg) : Prop := ∀ g, g < ng → ∃ i, σ g = some i ∧ i.blk = g ∧ i.sh = 0

section
variable {P : Program} {Y : Ty} (hY : TyOK P Y)

theorem run_sizeOf' {t : TypeId} {ti : TypeInfo} (h : P.info? t = some ti) (w : World) : (sizeOf t).run P w = .ok ti.size w := by
  simp [sizeOf, typeInfo, h]

theorem rdO_ok {x : Operand} {g : Rd} (h : rdO Y x = some g) {σ : Sg} {nt : Nat} {tm : TT} {a : Act} (hg : Glob Y.ng σ) (ht : TR σ nt tm a.tmps) : VR σ (g tm) (a.eval x) := by
  cases x with
  | tmp t =>
    rw [rdS_get 16 t g h]
    exact ht.val t
  | const v =>
    simp only [rdO] at h
    cases hv : ground 8 v with
    | false => rw [hv] at h; cases h
    | true => rw [hv] at h; injection h with h; subst h; exact VR.of_ground 8 v hv
  | global n =>
    simp only [rdO] at h
    cases hv : Nat.blt n Y.ng with
    | false => rw [hv] at h; cases h
    | true =>
      rw [hv] at h; injection h with h; subst h
      rw [nblt] at hv
      obtain ⟨i, h1, h2, h3⟩ := hg n (of_decide_eq_true hv)
      have := VR.ptr (off := 0) h1
      rw [h2, h3] at this
      exact this
  | func f =>
    injection h with h; subst h
    exact .func f #[] #[] #[] #[] rfl rfl (fun j p => absurd p (by simp)) (fun j p => absurd p (by simp))

theorem rdsO_ok {xs : List Operand} {gs : List Rd} (h : rdsO Y xs = some gs) {σ : Sg} {nt : Nat} {tm : TT} {a : Act} (hg : Glob Y.ng σ) (ht : TR σ nt tm a.tmps) :
    VL σ (rdAll tm gs) (xs.map a.eval) := by
  induction xs generalizing gs with
  | nil => simp only [rdsO, Option.some.injEq] at h; subst h; exact VL.nil σ
  | cons x xs ih =>
    simp only [rdsO] at h
    split at h
    · cases h
    · rename_i g hx
      split at h
      · cases h
      · rename_i gs' hxs
        injection h with h; subst h
        exact VL.cons (rdO_ok hx hg ht) (ih hxs)

/-! ### parts of aggregates -/

theorem VL.seg {σ : Sg} {xs ys : List Value} (h : VL σ xs ys) (o n : Nat) : VL σ (Ax.seg xs o n) (Ax.seg ys o n) := (h.drop o).take n

include hY in
theorem partS_ok {t : TypeId} {p : PartF} (h : partS Y t = some p) {σ : Sg} {cs : List Value} {cs' : Array Value} (hc : VL σ cs cs'.toList) {off : Nat} {v : Value} (hp : p cs off = some v)
    (w : World) : ∃ v', VR σ v v' ∧ (part t cs' off).run P w = .ok v' w := by
  unfold partS at h
  split at h
  · cases h
  · rename_i ti d ht
    obtain ⟨h1, h2⟩ := hY.tys t ti d ht
    have hsz : (sizeOf t).run P w = .ok ti.size w := run_sizeOf' h1 w
    cases hd : isAggD d with
    | true =>
      rw [hd] at h; injection h with h; subst h
      have hag : (isAgg t).run P w = .ok true w := by
        simp only [isAgg, Sem.run_bind, run_underlying h2, Result.andThen_ok]
        cases d <;> first | rfl | (cases hd; done)
      simp only [partN] at hp
      cases hl : Nat.beq (Ax.seg cs off ti.size).length ti.size with
      | false => rw [hl] at hp; cases hp
      | true =>
        rw [hl] at hp; injection hp with hp; subst hp
        refine ⟨.agg (cs'.extract off (off + ti.size)), ?_, ?_⟩
        · have := VR.mk_agg (hc.seg off ti.size)
          have e : (Ax.seg cs'.toList off ti.size).toArray = cs'.extract off (off + ti.size) := by
            apply Array.ext'
            simp [Ax.seg, List.extract_eq_take_drop]
          rwa [e] at this
        · simp [part, hag, hsz]
    | false =>
      rw [hd] at h; injection h with h; subst h
      have hag : (isAgg t).run P w = .ok false w := by
        simp only [isAgg, Sem.run_bind, run_underlying h2, Result.andThen_ok]
        cases d <;> first | rfl | (cases hd; done)
      simp only [part1, nth_eq] at hp
      obtain ⟨v', hv, hr⟩ := hc.2 off v hp
      refine ⟨v', hr, ?_⟩
      have hv' : cs'[off]? = some v' := by simpa using hv
      simp [part, hag, hv']

/-! ### loads -/

/-- what lies at a live block of cells -/
theorem WR.cells {σ : Sg} {H : Hp} {w : World} (hw : WR σ H w) {a : Addr} {c : List Value × TypeId × Nat × Bool} (hc : hCells H a = some c) {i : BI} (hi : σ a.block = some i) :
    ObjR σ i (.cells c.1 c.2.1 c.2.2.1 c.2.2.2) w.heap[i.blk]? := by
  obtain ⟨_, hg⟩ := hCells_some hc
  obtain ⟨i', hi', hr⟩ := hw.live _ _ hg
  rw [hi] at hi'; injection hi' with hi'; subst hi'
  exact hr

theorem cell?_of_heap {w : World} {b o : Nat} {c' : Array Value} {e' : TypeId} {fz : Nat × Nat} (h : w.heap[b]? = some (.cells c' e' fz)) : w.cell? ⟨b, o, none⟩ = c'[o]? := by
  simp [World.cell?, h]
theorem frozen?_of_heap {w : World} {b o : Nat} {c' : Array Value} {e' : TypeId} {fz : Nat × Nat} (h : w.heap[b]? = some (.cells c' e' fz)) :
    w.frozen? ⟨b, o, none⟩ = (decide (fz.1 ≤ o) && decide (o < fz.2)) := by
  simp [World.frozen?, h]

/-- a stretch of cells, read -/
theorem load_seg {σ : Sg} {i : BI} {c : List Value} {e : TypeId} {es : Nat} {gr : Bool} {w : World} (ho : ObjR σ i (.cells c e es gr) w.heap[i.blk]?) {off n : Nat}
    (hl : (Ax.seg c off n).length = n) :
    ∃ ys : List Value, VL σ (Ax.seg c off n) ys ∧ (loadCells ⟨i.blk, off + i.sh, none⟩ n).run P w = .ok ys.toArray w := by
  obtain ⟨c', e', fz, h1, h2, h3, h4, h5, h6⟩ := ho
  have hval : ∀ j, j < n → ∃ v v', c[off + j]? = some v ∧ c'[i.sh + (off + j)]? = some v' ∧ VR σ v v' := by
    intro j hj
    have hlt : off + j < c.length := by
      simp only [Ax.seg, List.length_take, List.length_drop] at hl
      omega
    obtain ⟨v', a, b⟩ := h5 (off + j) c[off + j] (by simp [hlt])
    exact ⟨_, v', by simp [hlt], a, b⟩
  refine ⟨(List.range n).map fun j => c'.getD (i.sh + (off + j)) undef, ⟨by simp [hl], fun j v hj => ?_⟩, ?_⟩
  · have hjn : j < n := by
      rcases Nat.lt_or_ge j n with h | h
      · exact h
      · rw [List.getElem?_eq_none (by omega)] at hj; cases hj
    obtain ⟨x, v', hx, hv, hr⟩ := hval j hjn
    simp only [Ax.seg, List.getElem?_take, List.getElem?_drop, if_pos hjn, hx] at hj
    injection hj with hj; subst hj
    exact ⟨v', by simp [hjn, hv], hr⟩
  · have := run_loadCells (P := P) w ⟨i.blk, off + i.sh, none⟩ n (fun j => c'.getD (i.sh + (off + j)) undef) (fun j hj => by
      obtain ⟨x, v', hx, hv, hr⟩ := hval j hj
      have e0 : (⟨i.blk, off + i.sh, none⟩ : Addr).add j = ⟨i.blk, off + i.sh + j, none⟩ := by unfold Addr.add; split <;> simp_all
      rw [e0, cell?_of_heap h1, show off + i.sh + j = i.sh + (off + j) by omega, hv]
      simp [hv])
    exact this

include hY in
theorem ldF_ok {t : TypeId} {p : PartF} (h : partS Y t = some p) {σ : Sg} {H : Hp} {w : World} (hw : WR σ H w) {b off : Nat} {i : BI} (hi : σ b = some i) {v : Value}
    (hl : ldF p H ⟨b, off, none⟩ = some v) : ∃ v', VR σ v v' ∧ (loadVar t ⟨i.blk, off + i.sh, none⟩).run P w = .ok v' w := by
  unfold ldF at hl
  obtain ⟨c, hc, hp⟩ := ob_eq_some hl
  have ho := hw.cells hc hi
  unfold partS at h
  split at h
  · cases h
  · rename_i ti d ht
    obtain ⟨h1, h2⟩ := hY.tys t ti d ht
    have hsz : (sizeOf t).run P w = .ok ti.size w := run_sizeOf' h1 w
    cases hd : isAggD d with
    | true =>
      rw [hd] at h; injection h with h; subst h
      have hag : (isAgg t).run P w = .ok true w := by
        simp only [isAgg, Sem.run_bind, run_underlying h2, Result.andThen_ok]
        cases d <;> first | rfl | (cases hd; done)
      simp only [partN] at hp
      cases hb : Nat.beq (Ax.seg c.1 off ti.size).length ti.size with
      | false => rw [hb] at hp; cases hp
      | true =>
        rw [hb] at hp; injection hp with hp; subst hp
        rw [nbeq] at hb
        obtain ⟨ys, hy, hr⟩ := load_seg (P := P) ho (of_decide_eq_true hb)
        exact ⟨.agg ys.toArray, VR.mk_agg hy, by simp [loadVar, hag, hsz, hr]⟩
    | false =>
      rw [hd] at h; injection h with h; subst h
      have hag : (isAgg t).run P w = .ok false w := by
        simp only [isAgg, Sem.run_bind, run_underlying h2, Result.andThen_ok]
        cases d <;> first | rfl | (cases hd; done)
      simp only [part1, nth_eq] at hp
      obtain ⟨c', e', fz, g1, g2, g3, g4, g5, g6⟩ := ho
      obtain ⟨v', hv, hr⟩ := g5 off v hp
      refine ⟨v', hr, ?_⟩
      simp [loadVar, hag, cell?_of_heap g1, Nat.add_comm off i.sh, hv]

/-! ### equality -/

theorem bytes_beq (a b : ByteArray) : (a.data.toList == b.data.toList) = (a == b) := by
  rw [beq_toListBytes, ByteArray.toList_eq, ByteArray.toList_eq]

/-- what is asked of an equality at a type: it is the model's, at every depth from d on -/
def EqOK (P : Program) (t : TypeId) (d : Nat) (r : EqF) : Prop :=
  ∀ (σ : Sg) x y x' y' b, VR σ x x' → VR σ y y' → r x y = some b → ∀ (n : Nat) (w : World), d ≤ n → (Op.equalIn n t x' y').run P w = .ok b w

theorem eqBool_some {x y : Value} {b : Bool} (h : eqBool x y = some b) : ∃ p q, x = .bool p ∧ y = .bool q ∧ b = (p == q) := by
  unfold eqBool at h
  obtain ⟨p, hp, h⟩ := ob_eq_some h
  obtain ⟨q, hq, h⟩ := ob_eq_some h
  injection h with h
  exact ⟨p, q, vBool_some hp, vBool_some hq, h.symm⟩
theorem eqInt_some {x y : Value} {b : Bool} (h : eqInt x y = some b) : ∃ k p q, x = .int k p ∧ y = .int k q ∧ b = (p == q) := by
  unfold eqInt at h
  obtain ⟨p, hp, h⟩ := ob_eq_some h
  obtain ⟨q, hq, h⟩ := ob_eq_some h
  cases hk : ikEq p.1 q.1 with
  | false => rw [hk] at h; cases h
  | true =>
    rw [hk] at h; injection h with h
    refine ⟨p.1, p.2, q.2, vInt_some hp, ?_, by rw [← h, eqF_eq]⟩
    rw [ikEq_iff.1 hk]; exact vInt_some hq

theorem eqStr_some {x y : Value} {b : Bool} (h : eqStr x y = some b) : ∃ p q, x = .string p ∧ y = .string q ∧ b = (p == q) := by
  unfold eqStr at h
  split at h
  · injection h with h; exact ⟨_, _, rfl, rfl, by rw [← h, bytes_beq]⟩
  · cases h

theorem eqBool_ok {t : TypeId} (h : P.underlying t = some .bool) (d : Nat) : EqOK P t (d + 1) eqBool := by
  intro σ x y x' y' b hx hy he n w hn
  obtain ⟨p, q, rfl, rfl, rfl⟩ := eqBool_some he
  cases hx; cases hy
  obtain ⟨m, rfl⟩ : ∃ m, n = m + 1 := ⟨n - 1, by omega⟩
  simp [Op.equalIn, run_underlying h]
theorem eqInt_ok {t : TypeId} {k0 : IntKind} (h : P.underlying t = some (.int k0)) (d : Nat) : EqOK P t (d + 1) eqInt := by
  intro σ x y x' y' b hx hy he n w hn
  obtain ⟨k, p, q, rfl, rfl, rfl⟩ := eqInt_some he
  cases hx; cases hy
  obtain ⟨m, rfl⟩ : ∃ m, n = m + 1 := ⟨n - 1, by omega⟩
  simp [Op.equalIn, run_underlying h]
theorem eqStr_ok {t : TypeId} (h : P.underlying t = some .string) (d : Nat) : EqOK P t (d + 1) eqStr := by
  intro σ x y x' y' b hx hy he n w hn
  obtain ⟨p, q, rfl, rfl, rfl⟩ := eqStr_some he
  cases hx; cases hy
  obtain ⟨m, rfl⟩ : ∃ m, n = m + 1 := ⟨n - 1, by omega⟩
  simp [Op.equalIn, run_underlying h]
theorem eqPtr_ok {t e : TypeId} (h : P.underlying t = some (.pointer e)) (d : Nat) : EqOK P t (d + 1) eqPtr := by
  intro σ x y x' y' b hx hy he n w hn
  obtain ⟨m, rfl⟩ : ∃ m, n = m + 1 := ⟨n - 1, by omega⟩
  unfold eqPtr at he
  split at he
  · injection he with he; subst he
    cases hx
    cases hy <;> simp [Op.equalIn, run_underlying h]
  · rename_i hne
    injection he with he; subst he
    cases hy
    cases hx
    · simp at hne
    · simp [Op.equalIn, run_underlying h]
  · cases he
theorem eqIface_ok {t : TypeId} {ms : Array (String × TypeId)} (h : P.underlying t = some (.interface ms)) (d : Nat) : EqOK P t (d + 1) eqIface := by
  intro σ x y x' y' b hx hy he n w hn
  obtain ⟨m, rfl⟩ : ∃ m, n = m + 1 := ⟨n - 1, by omega⟩
  unfold eqIface at he
  split at he
  · injection he with he; subst he; cases hx; cases hy; simp [Op.equalIn, run_underlying h]
  · injection he with he; subst he; cases hx; cases hy; simp [Op.equalIn, run_underlying h]
  · cases he
theorem eqSlice_ok {t e : TypeId} (h : P.underlying t = some (.slice e)) (d : Nat) : EqOK P t (d + 1) eqSlice := by
  intro σ x y x' y' b hx hy he n w hn
  obtain ⟨m, rfl⟩ : ∃ m, n = m + 1 := ⟨n - 1, by omega⟩
  unfold eqSlice at he
  split at he
  · injection he with he; subst he
    cases hx
    cases hy <;> simp [Op.equalIn, run_underlying h]
  · rename_i hne
    injection he with he; subst he
    cases hy
    cases hx
    · simp at hne
    · simp [Op.equalIn, run_underlying h]
  · cases he
theorem eqMap_ok {t k e : TypeId} (h : P.underlying t = some (.map k e)) (d : Nat) : EqOK P t (d + 1) eqMap := by
  intro σ x y x' y' b hx hy he n w hn
  obtain ⟨m, rfl⟩ : ∃ m, n = m + 1 := ⟨n - 1, by omega⟩
  unfold eqMap at he
  split at he
  · injection he with he; subst he
    cases hx
    cases hy <;> simp [Op.equalIn, run_underlying h]
  · rename_i hne
    injection he with he; subst he
    cases hy
    cases hx
    · simp at hne
    · simp [Op.equalIn, run_underlying h]
  · cases he
theorem eqFunc_ok {t : TypeId} {ps rs : Array TypeId} {v : Bool} (h : P.underlying t = some (.func ps rs v)) (d : Nat) : EqOK P t (d + 1) eqFunc := by
  intro σ x y x' y' b hx hy he n w hn
  obtain ⟨m, rfl⟩ : ∃ m, n = m + 1 := ⟨n - 1, by omega⟩
  unfold eqFunc at he
  split at he
  · injection he with he; subst he; cases hx; cases hy; simp [Op.equalIn, run_underlying h]
  · injection he with he; subst he; cases hx; cases hy; simp [Op.equalIn, run_underlying h]
  · injection he with he; subst he; cases hx; cases hy; simp [Op.equalIn, run_underlying h]
  · cases he

include hY in
theorem eqFields_ok {d : Nat} (eqs : TypeId → Option EqF) (heqs : ∀ t r, eqs t = some r → EqOK P t d r) : ∀ (fs : List Field) (ps : List (PartF × Nat × EqF)), fieldPs Y eqs fs = some ps →
    ∀ (σ : Sg) (xs ys : List Value) (xs' ys' : Array Value) (b : Bool), VL σ xs xs'.toList → VL σ ys ys'.toList → eqParts ps xs ys = some b → ∀ (n : Nat) (w : World), d ≤ n →
    (Op.eqFields n xs' ys' fs).run P w = .ok b w := by
  intro fs
  induction fs with
  | nil =>
    intro ps hps σ xs ys xs' ys' b hx hy he n w hn
    simp only [fieldPs, Option.some.injEq] at hps
    subst hps
    simp only [eqParts, Option.some.injEq] at he
    subst he
    simp [Op.eqFields]
  | cons f fs ih =>
    intro ps hps σ xs ys xs' ys' b hx hy he n w hn
    simp only [fieldPs] at hps
    split at hps
    · cases hps
    · rename_i p hp
      split at hps
      · cases hps
      · rename_i r hr
        split at hps
        · cases hps
        · rename_i ps' hps'
          cases hname : (f.name != "_") with
          | false => rw [hname] at hps; cases hps
          | true =>
            rw [hname] at hps; injection hps with hps; subst hps
            have hne : f.name ≠ "_" := by simpa using hname
            simp only [eqParts] at he
            split at he
            · cases he
            · rename_i u hu
              split at he
              · cases he
              · rename_i v hv
                obtain ⟨u', hu1, hu2⟩ := partS_ok hY hp hx hu w
                obtain ⟨v', hv1, hv2⟩ := partS_ok hY hp hy hv w
                simp only [Op.eqFields, if_pos hne, Sem.run_bind, hu2, hv2, Result.andThen_ok]
                split at he
                · rename_i hb
                  rw [heqs _ _ hr σ u v u' v' true hu1 hv1 hb n w hn]
                  simp only [Result.andThen_ok, Bool.not_true, Bool.false_eq_true, if_false]
                  exact ih ps' hps' σ xs ys xs' ys' b hx hy he n w hn
                · rename_i o hb
                  have hb' : r u v = some b := he
                  have hbf : b = false := by
                    cases b with
                    | false => rfl
                    | true => exact absurd hb' (by simpa using hb)
                  subst hbf
                  rw [heqs _ _ hr σ u v u' v' false hu1 hv1 hb' n w hn]
                  simp

/-- '==' on the elements of an array from the i-th on, m of them -/
def eqElems (d : Nat) (e : TypeId) (sz : Nat) (xs ys : Array Value) : List Nat → Sem Bool
  | [] => pure true
  | i :: is => do
    let a ← part e xs (i * sz)
    let b ← part e ys (i * sz)
    let r ← Op.equalIn d e a b
    if (!r) = true then pure false else eqElems d e sz xs ys is

theorem run_equalIn_array {t e : TypeId} {len : Nat} {ei : TypeInfo} (d : Nat) (xs ys : Array Value) (w : World) (ht : P.underlying t = some (.array len e)) (he : P.info? e = some ei) :
    (Op.equalIn (d + 1) t (.agg xs) (.agg ys)).run P w = (eqElems d e ei.size xs ys (List.range' 0 len)).run P w := by
  simp only [Op.equalIn, Sem.run_bind, run_underlying ht, Result.andThen_ok, run_sizeOf' he w]
  rw [Std.Legacy.Range.forIn_eq_forIn_range']
  simp only [Std.Legacy.Range.size, Nat.sub_zero, Nat.add_sub_cancel, Nat.div_one]
  generalize List.range' 0 len = l
  induction l generalizing w with
  | nil => simp [eqElems]
  | cons i is ih =>
    simp only [List.forIn_cons, eqElems, Sem.run_bind]
    generalize (part e xs (i * ei.size)).run P w = r1
    cases r1 with
    | ok a w1 =>
      simp only [Result.andThen_ok]
      generalize (part e ys (i * ei.size)).run P w1 = r2
      cases r2 with
      | ok b w2 =>
        simp only [Result.andThen_ok]
        generalize (Op.equalIn d e a b).run P w2 = r3
        cases r3 with
        | ok r w3 =>
          cases r
          · simp
          · simp only [Result.andThen_ok, Bool.not_true, Bool.false_eq_true, if_false, Sem.run_pure]
            exact ih w3
        | halt x w3 => simp [Result.andThen]
      | halt x w2 => simp [Result.andThen]
    | halt x w1 => simp [Result.andThen]

include hY in
theorem eqElems_ok {d : Nat} {e : TypeId} {p : PartF} (hp : partS Y e = some p) {r : EqF} (hr : EqOK P e d r) (sz : Nat) : ∀ (m i : Nat) (σ : Sg) (xs ys : List Value) (xs' ys' : Array Value) (b : Bool),
    VL σ xs xs'.toList → VL σ ys ys'.toList → eqParts (elemPs p r sz m (i * sz)) xs ys = some b → ∀ (n : Nat) (w : World), d ≤ n →
    (eqElems n e sz xs' ys' (List.range' i m)).run P w = .ok b w := by
  intro m
  induction m with
  | zero =>
    intro i σ xs ys xs' ys' b hx hy he n w hn
    simp only [elemPs, eqParts, Option.some.injEq] at he
    subst he
    simp [eqElems]
  | succ m ih =>
    intro i σ xs ys xs' ys' b hx hy he n w hn
    simp only [elemPs, eqParts] at he
    rw [List.range'_succ]
    split at he
    · cases he
    · rename_i u hu
      split at he
      · cases he
      · rename_i v hv
        obtain ⟨u', hu1, hu2⟩ := partS_ok hY hp hx hu w
        obtain ⟨v', hv1, hv2⟩ := partS_ok hY hp hy hv w
        simp only [eqElems, Sem.run_bind, hu2, hv2, Result.andThen_ok]
        split at he
        · rename_i hb
          rw [hr σ u v u' v' true hu1 hv1 hb n w hn]
          simp only [Result.andThen_ok, Bool.not_true, Bool.false_eq_true, if_false]
          refine ih (i + 1) σ xs ys xs' ys' b hx hy ?_ n w hn
          rw [Nat.add_mul, Nat.one_mul]
          exact he
        · rename_i o hb
          have hb' : r u v = some b := he
          have hbf : b = false := by
            cases b with
            | false => rfl
            | true => exact absurd hb' (by simpa using hb)
          subst hbf
          rw [hr σ u v u' v' false hu1 hv1 hb' n w hn]
          simp

include hY in
theorem eqS_ok : ∀ (d : Nat) (t : TypeId) (r : EqF), eqS Y d t = some r → EqOK P t d r := by
  intro d
  induction d with
  | zero => intro t r h; simp [eqS] at h
  | succ d ih =>
    intro t r h
    simp only [eqS] at h
    split at h
    · cases h
    · rename_i ti td ht
      obtain ⟨h1, h2⟩ := hY.tys t ti td ht
      split at h
      · injection h with h; subst h; exact eqBool_ok h2 d
      · injection h with h; subst h; exact eqInt_ok h2 d
      · injection h with h; subst h; exact eqStr_ok h2 d
      · injection h with h; subst h; exact eqPtr_ok h2 d
      · injection h with h; subst h; exact eqIface_ok h2 d
      · injection h with h; subst h; exact eqSlice_ok h2 d
      · injection h with h; subst h; exact eqMap_ok h2 d
      · injection h with h; subst h; exact eqFunc_ok h2 d
      · rename_i fs
        cases hq : Y.eqs t with
        | false => rw [hq] at h; cases h
        | true =>
          rw [hq] at h
          simp only [cond_true] at h
          split at h
          · rename_i ps hps
            injection h with h; subst h
            intro σ x y x' y' b hx hy he n w hn
            obtain ⟨m, rfl⟩ : ∃ m, n = m + 1 := ⟨n - 1, by omega⟩
            unfold eqAgg at he
            split at he
            · rename_i xs ys
              obtain ⟨xs', rfl, hxs⟩ := hx.agg_iff
              obtain ⟨ys', rfl, hys⟩ := hy.agg_iff
              have hf : P.fieldsOf t = fs := by simp [Program.fieldsOf, h2]
              rw [run_equalIn_struct w m t xs' ys' (by rw [hf]; exact h2) (hY.eqs t hq).1, hf]
              exact eqFields_ok hY (eqS Y d) ih fs.toList ps hps σ _ _ xs' ys' b hxs hys he m w (by omega)
            · cases he
          · cases h
      · rename_i len e
        cases hq : Y.eqs t with
        | false => rw [hq] at h; cases h
        | true =>
          rw [hq] at h
          simp only [cond_true] at h
          split at h
          · rename_i ei ed p r' he hp hr
            injection h with h; subst h
            obtain ⟨g1, g2⟩ := hY.tys e ei ed he
            intro σ x y x' y' b hx hy he n w hn
            obtain ⟨m, rfl⟩ : ∃ m, n = m + 1 := ⟨n - 1, by omega⟩
            unfold eqAgg at he
            split at he
            · rename_i xs ys
              obtain ⟨xs', rfl, hxs⟩ := hx.agg_iff
              obtain ⟨ys', rfl, hys⟩ := hy.agg_iff
              rw [run_equalIn_array m xs' ys' w h2 g1]
              exact eqElems_ok hY hp (ih e r' hr) ei.size len 0 σ _ _ xs' ys' b hxs hys (by simpa using he) m w (by omega)
            · cases he
          · cases h
      · cases h

end
end Go.Ax
