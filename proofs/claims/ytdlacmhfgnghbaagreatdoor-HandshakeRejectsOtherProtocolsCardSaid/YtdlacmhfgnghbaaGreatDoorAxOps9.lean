import Derived.Test.YtdlacmhfgnghbaaGreatDoorAxOps8
/- Operations that change the heap. -/
set_option linter.unusedVariables false
set_option linter.constructorNameAsVariable false
set_option linter.unusedSimpArgs false
namespace Go.Ax

/-- what is asked of an operation that changes the heap -/
def SOK (P : Program) (Y : Ty) (o : Op) (f : TT → Hp → Nat → Res3) : Prop :=
  ∀ (σ : Sg) (nt : Nat) (tm : TT) (H : Hp) (nx : Nat) (w : World) (a : Act), Inv Y.ng σ H nx w → TR σ nt tm a.tmps → ∀ v H' nx', f tm H nx = some (v, H', nx') →
    ∃ (σ' : Sg) (v' : Value) (w' : World) (n : Next), (n = .value v' ∨ (n = .skip ∧ v' = undef)) ∧ VR σ' v v' ∧ Step σ H nx w σ' H' nx' w' ∧
      ∀ oper : Oper, oper.op = o → (execOp a.eval oper).run P w = .ok n w'

theorem VR.oneC {σ : Sg} {v v' : Value} (h : VR σ v v') (h1 : Ax.oneC v = true) : v'.oneCell' = true := by
  cases h <;> first | rfl | (cases h1; done)
theorem VL.oneC {σ : Sg} {vs vs' : List Value} (h : VL σ vs vs') (h1 : vs.all Ax.oneC = true) : ∀ v ∈ vs', v.oneCell' = true := by
  intro v hv
  obtain ⟨j, hj⟩ := List.getElem?_of_mem hv
  have hlt : j < vs.length := by
    rw [h.1]
    rcases Nat.lt_or_ge j vs'.length with h2 | h2
    · exact h2
    · rw [List.getElem?_eq_none h2] at hj; cases hj
  obtain ⟨v', h2, h3⟩ := h.2 j vs[j] (by simp [hlt])
  rw [hj] at h2; injection h2 with h2; subst h2
  rw [List.all_eq_true] at h1
  exact h3.oneC (h1 _ (by simp))

/-- what storing does to the block -/
theorem heap_setCells (b : Nat) {e : TypeId} {fz : Nat × Nat} : ∀ (vs : List Value) (o : Nat) (c : Array Value) (w : World), w.heap[b]? = some (.cells c e fz) → o + vs.length ≤ c.size →
    ∃ c' : Array Value, (w.setCells b o vs).heap[b]? = some (.cells c' e fz) ∧ c'.size = c.size ∧ (∀ j, c'[j]? = if o ≤ j ∧ j < o + vs.length then vs[j - o]? else c[j]?) ∧
      (w.setCells b o vs).heap.size = w.heap.size ∧ (∀ k, k ≠ b → (w.setCells b o vs).heap[k]? = w.heap[k]?) ∧ (w.setCells b o vs).tape = w.tape ∧ (w.setCells b o vs).os = w.os ∧ (w.setCells b o vs).output = w.output
  | [], o, c, w, h, _ => ⟨c, h, rfl, fun j => by rw [if_neg (by simp only [List.length_nil]; omega)], rfl, fun _ _ => rfl, rfl, rfl, rfl⟩
  | v :: vs, o, c, w, h, hle => by
    have hlen : o + (vs.length + 1) ≤ c.size := by simpa using hle
    have h1 : (w.setCell ⟨b, o, none⟩ v).heap[b]? = some (.cells (c.setIfInBounds o v) e fz) := by
      simp [World.setCell, Array.getElem?_modify, h]
    have h2 : ∀ k, k ≠ b → (w.setCell ⟨b, o, none⟩ v).heap[k]? = w.heap[k]? := by
      intro k hk
      simp only [World.setCell, Array.getElem?_modify]
      rw [if_neg (fun e => hk e.symm)]
    obtain ⟨c', g1, g2, g3, g4, g5, g6, g7, g8⟩ := heap_setCells b vs (o + 1) (c.setIfInBounds o v) (w.setCell ⟨b, o, none⟩ v) h1 (by simp; omega)
    refine ⟨c', g1, by rw [g2]; simp, fun j => ?_, by rw [World.setCells, g4]; simp, fun k hk => by rw [World.setCells, g5 k hk, h2 k hk], g6, g7, g8⟩
    rw [g3 j]
    rcases Nat.lt_trichotomy j o with hj | hj | hj
    · rw [if_neg (by omega), if_neg (by simp only [List.length_cons]; omega), Array.getElem?_setIfInBounds_ne (by omega)]
    · subst hj
      rw [if_neg (by omega), if_pos (by simp only [List.length_cons]; omega), Array.getElem?_setIfInBounds_self_of_lt (by omega)]
      simp
    · by_cases hlt : j < o + 1 + vs.length
      · rw [if_pos ⟨by omega, hlt⟩, if_pos (by simp only [List.length_cons]; omega), show j - o = (j - (o + 1)) + 1 by omega]
        simp
      · rw [if_neg (by omega), if_neg (by simp only [List.length_cons]; omega), Array.getElem?_setIfInBounds_ne (by omega)]

section
variable {P : Program} {Y : Ty} (hY : TyOK P Y)

/-- cells stored into a live block -/
theorem put_ok {ng : Nat} {σ : Sg} {H : Hp} {nx : Nat} {w : World} (h : Inv ng σ H nx w) {b : Nat} {i : BI} {c : List Value} {e : TypeId} {es : Nat} {gr : Bool} (hH : H.get b = some (.cells c e es gr)) (hi : σ b = some i)
    {off : Nat} {vs vs' : List Value} (hvs : VL σ vs vs') (hle : off + vs.length ≤ c.length) :
    (∀ j, j < vs'.length → (w.cell? ⟨i.blk, off + i.sh + j, none⟩).isSome = true) ∧ (∀ j, j < vs'.length → w.frozen? ⟨i.blk, off + i.sh + j, none⟩ = false) ∧
    Step σ H nx w σ (H.upd b (some (.cells (splice c off vs) e es gr))) nx (w.setCells i.blk (off + i.sh) vs') := by
  obtain ⟨i', hi', ho⟩ := h.wr.live b _ hH
  rw [hi] at hi'; injection hi' with hi'; subst hi'
  obtain ⟨c', e', fz, h1, h2, h3, h4, h5, h6, h7, h8⟩ := ho
  have hlen := hvs.1
  have hbound : i.sh + c.length ≤ c'.size ∧ ∀ j, j < c.length → ¬ (fz.1 ≤ i.sh + j ∧ i.sh + j < fz.2) := by
    cases hg : gr with
    | false =>
      obtain ⟨p1, p2, p3⟩ := h6 hg
      refine ⟨by omega, fun j hj => ?_⟩
      rw [p1, Nat.zero_add]
      exact p3 j hj
    | true =>
      obtain ⟨p1, p2, p3⟩ := h7 hg
      refine ⟨by omega, fun j hj => p3 _ (by omega)⟩
  obtain ⟨c'', g1, g2, g3, g4, g5, g6, g7, g8⟩ := heap_setCells i.blk vs' (off + i.sh) c' w h1 (by omega)
  refine ⟨fun j hj => ?_, fun j hj => ?_, Step.upd h (by rw [hH]; rfl) hi ?_ g4 g5 g6 g7 g8⟩
  · rw [cell?_of_heap h1]
    have : off + i.sh + j < c'.size := by omega
    simp [this]
  · have := hbound.2 (off + j) (by omega)
    simp only [World.frozen?, h1]
    rw [show off + i.sh + j = i.sh + (off + j) by omega]
    simp only [Bool.and_eq_false_iff, decide_eq_false_iff_not]
    omega
  · refine ⟨c'', e', fz, g1, h2, h3, by rw [splice_length _ _ _ hle]; exact h4, fun j v hj => ?_, fun hg => ?_, fun hg => ?_, h8⟩
    · rw [splice_get _ _ _ _ hle] at hj
      rw [g3]
      split at hj
      · rename_i hc
        rw [if_pos (by omega), show i.sh + j - (off + i.sh) = j - off by omega]
        exact hvs.2 _ v hj
      · rename_i hc
        rw [if_neg (by omega)]
        exact h5 j v hj
    · obtain ⟨p1, p2, p3⟩ := h6 hg
      rw [splice_length _ _ _ hle]
      exact ⟨p1, by rw [g2]; exact p2, p3⟩
    · obtain ⟨p1, p2, p3⟩ := h7 hg
      exact ⟨p1, by rw [g2]; exact p2, p3⟩

theorem Inv.glob' {σ : Sg} {H : Hp} {nx : Nat} {w : World} (h : Inv Y.ng σ H nx w) : Glob Y.ng σ := h.glob

include hY in
theorem store_ok {t : TypeId} {x y : Operand} {g k : Rd} {ti : TypeInfo} {d : TypeDesc} (ht : Y.tys.get t = some (ti, d)) (hx : rdO Y x = some g) (hy : rdO Y y = some k) : SOK P Y (.store t x y) (stR ti.size g k) := by
  intro σ nt tm H nx w a hinv htr v H' nx' h
  unfold stR at h
  obtain ⟨p, hp, h⟩ := ob_eq_some h
  obtain ⟨H1, hH1, h⟩ := ob_eq_some (show ob _ _ none = some _ from h)
  injection h with h
  injection h with q1 q2
  injection q2 with q2 q3
  subst q1; subst q2; subst q3
  unfold stF at hH1
  obtain ⟨c, hc, hH1⟩ := ob_eq_some (show ob _ _ none = some _ from hH1)
  have h1 := rdO_ok hx hinv.glob htr
  have h2 := rdO_ok hy hinv.glob htr
  rw [vPtr_some hp] at h1
  obtain ⟨i, hi, hs, he⟩ := h1.ptr_eq
  obtain ⟨b, off, spot⟩ := p
  simp only at hs hi he
  subst hs
  rw [vCells_eq] at hH1
  cases hb : (Nat.beq (k tm).cells.toList.length ti.size && Nat.ble (Nat.add off (k tm).cells.toList.length) c.1.length && (k tm).cells.toList.all oneC) with
  | false => simp only [hb] at hH1; cases hH1
  | true =>
    simp only [hb, cond_true, Option.some.injEq] at hH1
    subst hH1
    rw [Bool.and_eq_true, Bool.and_eq_true, nbeq, nble] at hb
    obtain ⟨⟨hb1, hb2⟩, hb3⟩ := hb
    have hb1 := of_decide_eq_true hb1
    have hb2 : off + (k tm).cells.toList.length ≤ c.1.length := of_decide_eq_true hb2
    have hH := (hCells_some hc).2
    obtain ⟨r1, r2, r3⟩ := put_ok hinv hH hi h2.cells hb2
    have hst := run_storeCells_cells (P := P) i.blk (off + i.sh) (a.eval y).cells.toList 0 w (by simpa using r1) (by simpa using r2) (h2.cells.oneC hb3)
    obtain ⟨g1, g2⟩ := hY.tys _ _ _ ht
    have hsz : (a.eval y).cells.size = ti.size := by rw [← Array.length_toList, ← h2.cells.1]; exact hb1
    refine ⟨σ, undef, _, .skip, .inr ⟨rfl, rfl⟩, VR.undef σ, r3, fun oper ho => ?_⟩
    simp only [execOp, ho, Instr.storeAt, he, Instr.sureAddr, Sem.run_bind, Sem.run_pure, Result.andThen_ok, storeVar, run_sizeOf' g1, hsz, ne_eq, not_true_eq_false, if_false, hst, Nat.add_zero]

end
end Go.Ax
