import Derived.Test.YtdlacmhfgnghbaaGreatDoorAxOps11
/- Maps that are written. -/
set_option linter.unusedVariables false
set_option linter.constructorNameAsVariable false
set_option linter.unusedSimpArgs false
namespace Go.Ax

theorem sames_sub {r : Value → Value → Bool} : ∀ (xs ys : List Value), sames r xs ys = true → xs.length = ys.length ∧ ∀ (j : Nat) (x y : Value), xs[j]? = some x → ys[j]? = some y → r x y = true
  | [], [], _ => ⟨rfl, fun j x y h => by simp at h⟩
  | [], _ :: _, h => by cases h
  | _ :: _, [], h => by cases h
  | x :: xs, y :: ys, h => by
    simp only [sames, Bool.and_eq_true] at h
    obtain ⟨h1, h2⟩ := sames_sub xs ys h.2
    refine ⟨by simp [h1], fun j u v hu hv => ?_⟩
    cases j with
    | zero => simp at hu hv; subst hu; subst hv; exact h.1
    | succ j => exact h2 j u v (by simpa using hu) (by simpa using hv)

theorem sameK0_bits {σ : Sg} {x y x' y' : Value} (hx : VR σ x x') (hy : VR σ y y') (h : sameK0 x y = true) (m : Nat) : Instr.sameBits m x' y' = true := by
  cases x <;> cases y <;> first | (cases h; done) | skip
  · cases hx; cases hy; cases m <;> simpa [Instr.sameBits, sameK0] using h
  · cases hx; cases hy
    simp only [sameK0, Bool.and_eq_true, eqF_eq] at h
    have := ikEq_iff.1 h.1
    subst this
    cases m <;> simpa [Instr.sameBits] using h.2
  · cases hx; cases hy
    simp only [sameK0, bytes_beq] at h
    cases m <;> simpa [Instr.sameBits] using h
  · cases hx; cases hy; cases m <;> simp [Instr.sameBits]

theorem sameK_bits {σ : Sg} : ∀ (n : Nat) (x y x' y' : Value), VR σ x x' → VR σ y y' → sameK n x y = true → ∀ m, n ≤ m → Instr.sameBits m x' y' = true := by
  intro n
  induction n with
  | zero => intro x y x' y' hx hy h m _; exact sameK0_bits hx hy h m
  | succ n ih =>
    intro x y x' y' hx hy h m hm
    obtain ⟨k, rfl⟩ : ∃ k, m = k + 1 := ⟨m - 1, by omega⟩
    unfold sameK at h
    split at h
    · rename_i xs ys
      obtain ⟨xs', rfl, h1⟩ := hx.agg_iff
      obtain ⟨ys', rfl, h2⟩ := hy.agg_iff
      obtain ⟨s1, s2⟩ := sames_sub _ _ h
      have hsz : xs'.size = ys'.size := by
        rw [← Array.length_toList, ← Array.length_toList, ← h1.1, ← h2.1, s1]
      simp only [Instr.sameBits, hsz, beq_self_eq_true, Bool.true_and, List.all_eq_true]
      intro p hp
      obtain ⟨j, hj⟩ := List.getElem?_of_mem hp
      rw [List.getElem?_zip_eq_some] at hj
      have hjl : j < xs.toList.length := by
        rw [h1.1]
        rcases Nat.lt_or_ge j xs'.toList.length with h | h
        · exact h
        · rw [List.getElem?_eq_none h] at hj; cases hj.1
      obtain ⟨u', hu1, hu2⟩ := h1.2 j xs.toList[j] (List.getElem?_eq_getElem hjl)
      have hjl2 : j < ys.toList.length := by omega
      obtain ⟨v', hv1, hv2⟩ := h2.2 j ys.toList[j] (List.getElem?_eq_getElem hjl2)
      rw [hj.1] at hu1; injection hu1 with hu1
      rw [hj.2] at hv1; injection hv1 with hv1
      rw [hu1, hv1]
      exact ih _ _ _ _ hu2 hv2 (s2 j _ _ (List.getElem?_eq_getElem hjl) (List.getElem?_eq_getElem hjl2)) k (by omega)
    · rename_i t x t2 y
      rw [Bool.and_eq_true, nbeq] at h
      have ht := of_decide_eq_true h.1
      subst ht
      cases hx with
      | iface _ hx =>
        cases hy with
        | iface _ hy =>
          simp only [Instr.sameBits, beq_self_eq_true, Bool.true_and]
          exact ih _ _ _ _ hx hy h.2 k (by omega)
    · exact sameK0_bits hx hy h _

section
variable {P : Program} {Y : Ty} (hY : TyOK P Y)

theorem run_setObj' {w : World} {r : Nat} {es : Array MapEntry} {ck : Nat} (h : w.heap[r]? = some (.map es ck)) (o' : Obj) : (setObj r o').run P w = .ok () { w with heap := w.heap.setIfInBounds r o' } := by
  simp [setObj, Sem.run, h]

/-- a map set anew -/
theorem setMap_ok {ng : Nat} {σ : Sg} {H : Hp} {nx : Nat} {w : World} (h : Inv ng σ H nx w) {b : Nat} {i : BI} {o : AObj} (hH : H.get b = some o) (hi : σ b = some i) {es : List (Value × Value × Nat)} {es' : Array MapEntry} (hes : EntsR σ es es'.toList) (ck : Nat) :
    Step σ H nx w σ (H.upd b (some (.map es ck))) nx { w with heap := w.heap.setIfInBounds i.blk (.map es' ck) } := by
  have hlt := h.wr.lt (b := b) (by rw [hH]; rfl) hi
  refine Step.upd h (by rw [hH]; rfl) hi ⟨es', ?_, by simpa using hes.1, fun j e hj => ?_⟩ (by simp) (fun c hc => ?_) rfl rfl rfl
  · exact Array.getElem?_setIfInBounds_self_of_lt hlt
  · obtain ⟨e', h1, h2⟩ := hes.2 j e hj
    exact ⟨e', by simpa using h1, h2⟩
  · exact Array.getElem?_setIfInBounds_ne (fun e => hc e.symm)

theorem putA_idx {r : EqF} {k v : Value} {ck : Nat} : ∀ (es es2 : List (Value × Value × Nat)) (b : Bool), putA r k v ck es = some (es2, b) →
    (idxA r k es = some none ∧ b = false ∧ es2 = es ++ [(k, v, ck)]) ∨ ∃ i k0 v0 b0, idxA r k es = some (some i) ∧ b = true ∧ es[i]? = some (k0, v0, b0) ∧ sameK 6 k0 k = true ∧ es2 = es.set i (k, v, b0)
  | [], es2, b, h => by
    simp only [putA, Option.some.injEq, Prod.mk.injEq] at h
    exact .inl ⟨rfl, h.2.symm, h.1.symm⟩
  | (k0, v0, b0) :: es, es2, b, h => by
    simp only [putA] at h
    split at h
    · rename_i hb
      cases hs : sameK 6 k0 k with
      | false => rw [hs] at h; cases h
      | true =>
        rw [hs] at h
        injection h with h; injection h with h1 h2
        exact .inr ⟨0, k0, v0, b0, by simp [idxA, hb], h2.symm, by simp, hs, by rw [← h1]; simp⟩
    · rename_i hb
      split at h
      · rename_i l w hp
        injection h with h; injection h with h1 h2
        subst h1; subst h2
        rcases putA_idx es l w hp with ⟨p1, p2, p3⟩ | ⟨i, k1, v1, b1, p1, p2, p3, p4, p5⟩
        · exact .inl ⟨by simp [idxA, hb, p1], p2, by rw [p3]; simp⟩
        · exact .inr ⟨i + 1, k1, v1, b1, by simp [idxA, hb, p1], p2, by simpa using p3, p4, by rw [p5]; simp⟩
      · cases h
    · cases h

include hY in
theorem mapSet_ok {o : Op} {t kt e : TypeId} {x y u : Operand} {g k q : Rd} {ti : TypeInfo} {r : EqF} (hop : o = .mapUpdate t x y u ∨ o = .insert t x y u) (ht : Y.tys.get t = some (ti, .map kt e)) (hr : eqS Y 6 kt = some r) (hx : rdO Y x = some g) (hy : rdO Y y = some k) (hu : rdO Y u = some q) :
    SOK P Y o (fun tm H nx => mapSet r H nx (g tm) (k tm) (q tm)) := by
  intro σ nt tm H nx w a hinv htr v H' nx' h
  have h1 := rdO_ok hx hinv.glob htr
  have h2 := rdO_ok hy hinv.glob htr
  have h3 := rdO_ok hu hinv.glob htr
  obtain ⟨g1, g2⟩ := hY.tys _ _ _ ht
  have hexec : ∀ (w' : World), (Instr.mapUpdate t (a.eval x) (a.eval y) (a.eval u)).run P w = .ok () w' → ∀ oper : Oper, oper.op = o → (execOp a.eval oper).run P w = .ok .skip w' := by
    intro w' hw' oper ho
    rcases hop with rfl | rfl <;> simp only [execOp, ho, Sem.run_bind, hw', Result.andThen_ok, Sem.run_pure]
  simp only [mapSet] at h
  split at h
  · rename_i b hm
    rw [hm] at h1
    split at h
    · rename_i es ck hget
      cases hself : r (k tm) (k tm) with
      | none => rw [hself] at h; cases h
      | some bb =>
        rw [hself] at h
        cases bb with
        | false => cases h
        | true =>
          simp only at h
          cases hput : putA r (k tm) (q tm) ck es with
          | none => rw [hput] at h; cases h
          | some p =>
            obtain ⟨es2, b2⟩ := p
            rw [hput] at h
            injection h with h; injection h with r1 r2; injection r2 with r2 r3
            subst r1; subst r2; subst r3
            generalize hax : a.eval x = x' at h1
            cases h1 with
            | map hσ =>
              rename_i i
              obtain ⟨i', hi', hr'⟩ := hinv.wr.live _ _ hget
              rw [hσ] at hi'; injection hi' with hi'; subst hi'
              obtain ⟨es', f1, f2, f3⟩ := hr'
              have hes' : EntsR σ es es'.toList := ⟨by simpa using f2, fun j x hx => by obtain ⟨y, p, q⟩ := f3 j x hx; exact ⟨y, by simpa using p, q⟩⟩
              have hck : (Instr.checkKey false 10000 kt (a.eval y)).run P w = .ok () w := keyS_ok (P := P) hY 6 kt r hr σ _ _ h2 hself _ 10000 w (by omega)
              have hgo : (getObj i.blk).run P w = .ok (.map es' ck) w := by simp [getObj, Sem.run, f1]
              rcases putA_idx es es2 b2 hput with ⟨p1, p2, p3⟩ | ⟨ix, k1, v1, b1, p1, p2, p3, p4, p5⟩
              · obtain ⟨res, c1, c2, c3⟩ := findKey_ok (P := P) hY hr h2 w hes' p1
                have hres := c2 rfl
                subst hres; subst p2; subst p3
                refine ⟨σ, undef, _, .skip, .inr ⟨rfl, rfl⟩, VR.undef σ, setMap_ok hinv hget hσ (es' := es'.push { key := a.eval y, val := a.eval u, born := ck }) ?_ (ck + 1), hexec _ ?_⟩
                · refine ⟨by simp [f2], fun j e hj => ?_⟩
                  rw [List.getElem?_append] at hj
                  split at hj
                  · rename_i hjl
                    obtain ⟨e', s1, s2⟩ := hes'.2 j e hj
                    exact ⟨e', by simp only [Array.toList_push]; rw [List.getElem?_append_left (by rw [← hes'.1]; exact hjl)]; exact s1, s2⟩
                  · rename_i hjl
                    have hj0 : j - es.length = 0 := by
                      rcases Nat.eq_zero_or_pos (j - es.length) with h | h
                      · exact h
                      · rw [List.getElem?_eq_none (by simp; omega)] at hj; cases hj
                    rw [hj0] at hj
                    simp at hj
                    subst hj
                    refine ⟨_, by simp only [Array.toList_push]; rw [List.getElem?_append_right (by rw [← hes'.1]; omega), ← hes'.1, hj0]; rfl, h2, h3, rfl⟩
                · simp only [Instr.mapUpdate, Sem.run_bind, run_underlying g2, Result.andThen_ok, hax, hgo, hck, c1, run_setObj' f1]
              · obtain ⟨res, c1, c2, c3⟩ := findKey_ok (P := P) hY hr h2 w hes' p1
                obtain ⟨e', d1, d2⟩ := c3 ix rfl
                subst d2; subst p2; subst p5
                obtain ⟨e'', d3, d4⟩ := hes'.2 ix _ p3
                rw [d1] at d3; injection d3 with d3; subst d3
                have hat : es'[ix]? = some e' := by simpa using d1
                have hstay : (Instr.keyThatStays e'.key (a.eval y)).run P w = .ok (a.eval y) w := by
                  simp only [Instr.keyThatStays, sameK_bits 6 _ _ _ _ d4.1 h2 p4 10000 (by omega), if_true, Sem.run_pure]
                refine ⟨σ, undef, _, .skip, .inr ⟨rfl, rfl⟩, VR.undef σ, setMap_ok hinv hget hσ (es' := es'.modify ix fun e => { e with key := a.eval y, val := a.eval u }) ?_ ck, hexec _ ?_⟩
                · refine ⟨by simp [f2], fun j e hj => ?_⟩
                  rw [List.getElem?_set] at hj
                  split at hj
                  · rename_i hij
                    subst hij
                    split at hj
                    · injection hj with hj; subst hj
                      refine ⟨{ e' with key := a.eval y, val := a.eval u }, by simp [Array.getElem?_modify, hat], h2, h3, d4.2.2⟩
                    · cases hj
                  · rename_i hij
                    obtain ⟨e2, s1, s2⟩ := f3 j e hj
                    exact ⟨e2, by simp [Array.getElem?_modify, hij, s1], s2⟩
                · simp only [Instr.mapUpdate, Sem.run_bind, run_underlying g2, Result.andThen_ok, hax, hgo, hck, c1, hat, Option.map_some, Option.getD_some, hstay, run_setObj' f1]
    · cases h
  · cases h

theorem delA_idx {r : EqF} {k : Value} : ∀ (es es2 : List (Value × Value × Nat)), delA r k es = some es2 →
    (idxA r k es = some none ∧ es2 = es) ∨ ∃ i, idxA r k es = some (some i) ∧ i < es.length ∧ es2 = es.eraseIdx i
  | [], es2, h => by
    simp only [delA, Option.some.injEq] at h
    exact .inl ⟨rfl, h.symm⟩
  | (k0, v0, b0) :: es, es2, h => by
    simp only [delA] at h
    split at h
    · rename_i hb
      injection h with h
      exact .inr ⟨0, by simp [idxA, hb], by simp, by simp [h]⟩
    · rename_i hb
      split at h
      · rename_i l hp
        injection h with h
        subst h
        rcases delA_idx es l hp with ⟨p1, p2⟩ | ⟨i, p1, p2, p3⟩
        · exact .inl ⟨by simp [idxA, hb, p1], by rw [p2]⟩
        · exact .inr ⟨i + 1, by simp [idxA, hb, p1], by simpa using p2, by rw [p3]; simp⟩
      · cases h
    · cases h

theorem EntsR.erase {σ : Sg} {es : List (Value × Value × Nat)} {es' : List MapEntry} (h : EntsR σ es es') (i : Nat) : EntsR σ (es.eraseIdx i) (es'.eraseIdx i) := by
  refine ⟨by simp [List.length_eraseIdx, h.1], fun j e hj => ?_⟩
  rw [List.getElem?_eraseIdx] at hj ⊢
  split at hj
  · rename_i hc; rw [if_pos hc]; exact h.2 j e hj
  · rename_i hc; rw [if_neg hc]; exact h.2 _ e hj

include hY in
theorem mapDel_ok {t kt e : TypeId} {ts : Array TypeId} {x y : Operand} {g k : Rd} {ti : TypeInfo} {r : EqF} (h0 : ts[0]? = some t) (ht : Y.tys.get t = some (ti, .map kt e)) (hr : eqS Y 6 kt = some r) (hx : rdO Y x = some g) (hy : rdO Y y = some k) :
    SOK P Y (.call { callee := .builtin .delete, args := #[x, y], argTypes := ts }) (fun tm H nx => mapDel r H nx (g tm) (k tm)) := by
  intro σ nt tm H nx w a hinv htr v H' nx' h
  have h1 := rdO_ok hx hinv.glob htr
  have h2 := rdO_ok hy hinv.glob htr
  obtain ⟨g1, g2⟩ := hY.tys _ _ _ ht
  simp only [mapDel] at h
  split at h
  · rename_i b hm
    rw [hm] at h1
    split at h
    · rename_i es ck hget
      cases hself : r (k tm) (k tm) with
      | none => rw [hself] at h; cases h
      | some bb =>
        rw [hself] at h
        cases bb with
        | false => cases h
        | true =>
          simp only at h
          cases hdel : delA r (k tm) es with
          | none => rw [hdel] at h; cases h
          | some es2 =>
            rw [hdel] at h
            injection h with h; injection h with r1 r2; injection r2 with r2 r3
            subst r1; subst r2; subst r3
            generalize hax : a.eval x = x' at h1
            cases h1 with
            | map hσ =>
              rename_i i
              obtain ⟨i', hi', hr'⟩ := hinv.wr.live _ _ hget
              rw [hσ] at hi'; injection hi' with hi'; subst hi'
              obtain ⟨es', f1, f2, f3⟩ := hr'
              have hes' : EntsR σ es es'.toList := ⟨by simpa using f2, fun j x hx => by obtain ⟨y, p, q⟩ := f3 j x hx; exact ⟨y, by simpa using p, q⟩⟩
              have hck : (Instr.checkKey es'.isEmpty 10000 kt (a.eval y)).run P w = .ok () w := keyS_ok (P := P) hY 6 kt r hr σ _ _ h2 hself _ 10000 w (by omega)
              have hgo : (getObj i.blk).run P w = .ok (.map es' ck) w := by simp [getObj, Sem.run, f1]
              rcases delA_idx es es2 hdel with ⟨p1, p2⟩ | ⟨ix, p1, p2, p3⟩
              · obtain ⟨res, c1, c2, c3⟩ := findKey_ok (P := P) hY hr h2 w hes' p1
                have hres := c2 rfl
                subst hres; subst p2
                refine ⟨σ, .tuple #[], _, .value (.tuple #[]), .inl rfl, VR.undef σ, setMap_ok hinv hget hσ hes' ck, fun oper ho => run_builtin ho ?_⟩
                simp only [List.map_toArray, List.map_cons, List.map_nil, builtin, Builtin.delete_, h0, List.getElem?_toArray, List.getElem?_cons_zero, List.getElem?_cons_succ, Sem.run_bind, run_underlying g2, Result.andThen_ok, hax, hgo, hck, c1, run_setObj' f1, Sem.run_pure]
              · obtain ⟨res, c1, c2, c3⟩ := findKey_ok (P := P) hY hr h2 w hes' p1
                obtain ⟨e', d1, d2⟩ := c3 ix rfl
                subst d2; subst p3
                have hper := hes'.erase ix
                refine ⟨σ, .tuple #[], _, .value (.tuple #[]), .inl rfl, VR.undef σ, setMap_ok hinv hget hσ (es' := es'.eraseIdxIfInBounds ix) ?_ ck, fun oper ho => run_builtin ho ?_⟩
                · have hlt : ix < es'.size := by omega
                  simp only [Array.eraseIdxIfInBounds, dif_pos hlt, Array.toList_eraseIdx]
                  exact hper
                · simp only [List.map_toArray, List.map_cons, List.map_nil, builtin, Builtin.delete_, h0, List.getElem?_toArray, List.getElem?_cons_zero, List.getElem?_cons_succ, Sem.run_bind, run_underlying g2, Result.andThen_ok, hax, hgo, hck, c1, run_setObj' f1, Sem.run_pure]
    · cases h
  · cases h

include hY in
theorem mapClear_ok {t kt e : TypeId} {ts : Array TypeId} {x : Operand} {g : Rd} {ti : TypeInfo} (h0 : ts[0]? = some t) (ht : Y.tys.get t = some (ti, .map kt e)) (hx : rdO Y x = some g) :
    SOK P Y (.call { callee := .builtin .clear, args := #[x], argTypes := ts }) (fun tm H nx => mapClear H nx (g tm)) := by
  intro σ nt tm H nx w a hinv htr v H' nx' h
  have h1 := rdO_ok hx hinv.glob htr
  obtain ⟨g1, g2⟩ := hY.tys _ _ _ ht
  simp only [mapClear] at h
  split at h
  · rename_i b hm
    rw [hm] at h1
    split at h
    · rename_i es ck hget
      injection h with h; injection h with r1 r2; injection r2 with r2 r3
      subst r1; subst r2; subst r3
      generalize hax : a.eval x = x' at h1
      cases h1 with
      | map hσ =>
        rename_i i
        obtain ⟨i', hi', hr'⟩ := hinv.wr.live _ _ hget
        rw [hσ] at hi'; injection hi' with hi'; subst hi'
        obtain ⟨es', f1, f2, f3⟩ := hr'
        have hgo : (getObj i.blk).run P w = .ok (.map es' ck) w := by simp [getObj, Sem.run, f1]
        refine ⟨σ, .tuple #[], _, .value (.tuple #[]), .inl rfl, VR.undef σ, setMap_ok hinv hget hσ (es' := #[]) ⟨rfl, fun j e hj => by simp at hj⟩ ck, fun oper ho => run_builtin ho ?_⟩
        simp only [List.map_toArray, List.map_cons, List.map_nil, builtin, Builtin.clear_, h0, List.getElem?_toArray, List.getElem?_cons_zero, List.getElem?_cons_succ, Sem.run_bind, run_underlying g2, Result.andThen_ok, hax, hgo, run_setObj' f1, Sem.run_pure]
    · cases h
  · cases h

end
end Go.Ax
