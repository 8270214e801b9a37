import Derived.Test.YtdlacmhfgnghbaaGreatDoorAxOps3
/- Slices, literals, conversions, lengths. -/
set_option linter.unusedVariables false
set_option linter.constructorNameAsVariable false
set_option linter.unusedSimpArgs false
namespace Go.Ax
section
variable {P : Program} {Y : Ty} (hY : TyOK P Y)

theorem slq_some {f : Hp → Value → Option Value → Option Value → Option Value → Option Value} {g : Rd} {lo hi mx : Option Rd} {tm : TT} {H : Hp} {v : Value} (h : slQ f g lo hi mx tm H = some v) :
    f H (g tm) (rdOpt tm lo) (rdOpt tm hi) (rdOpt tm mx) = some v := h

include hY in
theorem sliceStr_ok {t : TypeId} {x : Operand} {lo hi : Option Operand} {g : Rd} {l h : Option Rd} {ti : TypeInfo} (ht : Y.tys.get t = some (ti, .string)) (hx : rdO Y x = some g)
    (hlo : rdOO Y lo = some l) (hhi : rdOO Y hi = some h) : QOK P Y (.slice t x lo hi none) (slQ (fun _ x l h _ => sliceStr x l h) g l h none) := by
  intro σ nt tm H w a hg htr hw v hv
  have hv := slq_some hv
  have h1 := rdO_ok hx hg htr
  have h2 := rdOO_ok hlo hg htr
  have h3 := rdOO_ok hhi hg htr
  obtain ⟨g1, g2⟩ := hY.tys _ _ _ ht
  unfold sliceStr at hv
  split at hv
  · rename_i s hs
    rw [hs] at h1
    have h1 := h1.string_eq
    split at hv
    · cases hv
    · rename_i lb hb mb hbd
      injection hv with hv; subst hv
      have hlen : s.data.toList.length = s.size := Array.length_toList
      rw [hlen] at hbd
      obtain ⟨m', r1, r2, r3, r4, r5, r6⟩ := boundsA_ok (P := P) h2 h3 (show OptR σ none none from trivial) hbd false s.size (Nat.le_refl _) (Nat.le_refl _) w
      refine ⟨_, .string _, fun oper ho => ?_⟩
      have hs2 : (⟨((s.data.toList.drop lb).take (Nat.sub hb lb)).toArray⟩ : ByteArray) = s.extract lb hb := by
        apply ByteArray.ext
        rw [ByteArray.data_extract]
        apply Array.ext'
        simp [List.extract_eq_take_drop]
      have hrun : (Instr.sliceAt t (a.eval x) (lo.map a.eval) (hi.map a.eval) none).run P w = .ok (.string (s.extract lb hb)) w := by
        simp only [Instr.sliceAt, Instr.slice, Sem.run_bind, run_underlying g2, Result.andThen_ok, h1, Option.isSome_none, Bool.false_eq_true, if_false, r1, Sem.run_pure]
      rw [hs2]
      simp only [execOp, ho, Sem.run_bind, hrun, Result.andThen_ok, Sem.run_pure, Option.map_none]
  · cases hv

include hY in
theorem sliceSl_ok {t e : TypeId} {x : Operand} {lo hi mx : Option Operand} {g : Rd} {l h m : Option Rd} {ti ei : TypeInfo} {ed : TypeDesc} (ht : Y.tys.get t = some (ti, .slice e)) (he : Y.tys.get e = some (ei, ed)) (hx : rdO Y x = some g)
    (hlo : rdOO Y lo = some l) (hhi : rdOO Y hi = some h) (hmx : rdOO Y mx = some m) : QOK P Y (.slice t x lo hi mx) (slQ (sliceSl ei.size) g l h m) := by
  intro σ nt tm H w a hg htr hw v hv
  have hv := slq_some hv
  have h1 := rdO_ok hx hg htr
  have h2 := rdOO_ok hlo hg htr
  have h3 := rdOO_ok hhi hg htr
  have h4 := rdOO_ok hmx hg htr
  obtain ⟨g1, g2⟩ := hY.tys _ _ _ ht
  obtain ⟨g3, g4⟩ := hY.tys _ _ _ he
  have hsz := run_sizeOf' (P := P) g3 w
  unfold sliceSl at hv
  split at hv
  · rename_i len cap hs
    rw [hs] at h1
    split at hv
    · rename_i lb hb mb hbd
      cases hz : a.eval x <;> rw [hz] at h1 <;> cases h1
      cases hlc : Nat.ble len cap with
      | true =>
        rw [hlc] at hv
        injection hv with hv; subst hv
        have hlc := Nat.le_of_ble_eq_true hlc
        obtain ⟨m', r1, r2, r3, r4, r5, r6⟩ := boundsA_ok (P := P) h2 h3 h4 hbd true cap (Nat.le_refl _) hlc w
        have hm' : m' = mb := by rcases r6 with ⟨_, e1, e2⟩ | e <;> omega
        subst hm'
        refine ⟨_, .nilsl _ _, fun oper ho => ?_⟩
        have hrun : (Instr.sliceAt t (a.eval x) (lo.map a.eval) (hi.map a.eval) (mx.map a.eval)).run P w = .ok (.slice none (hb - lb) (m' - lb)) w := by
          simp only [Instr.sliceAt, Instr.slice, Sem.run_bind, run_underlying g2, Result.andThen_ok, hz, r1, Sem.run_pure, hsz, Option.map_none, ite_self]
        simp only [execOp, ho, Sem.run_bind, hrun, Result.andThen_ok, Sem.run_pure]
        rfl
      | false => rw [hlc] at hv; cases hv
    · cases hv
  · rename_i ad len cap hs
    rw [hs] at h1
    split at hv
    · cases hv
    · rename_i lb hb mb hbd
      split at hv
      · rename_i c ce es gr hget
        split at hv
        · cases hv
        · rename_i hspot
          obtain ⟨i, off', cap', hσ, _, hlc, hok, he1⟩ := h1.sl_eq
          have hcc : cap ≤ cap' := by
            cases hgr : i.gr with
            | false => rw [(hok.1 hgr).2]; exact Nat.le_refl _
            | true => exact (hok.2 hgr).1
          obtain ⟨m', r1, r2, r3, r4, r5, r6⟩ := boundsA_ok (P := P) h2 h3 h4 hbd true cap' hcc hlc w
          have hob : ObjR σ i (.cells c ce es gr) w.heap[i.blk]? := by
            obtain ⟨i', hi', hr⟩ := hw.live _ _ hget
            rw [hσ] at hi'; injection hi' with hi'; subst hi'; exact hr
          obtain ⟨c', e', fz, o1, o2, o3, o4, o5, o6, o7⟩ := hob
          have hrun : (Instr.sliceAt t (a.eval x) (lo.map a.eval) (hi.map a.eval) (mx.map a.eval)).run P w =
              .ok (.slice (some (if m' = lb then ⟨i.blk, off', none⟩ else ⟨i.blk, off' + lb * ei.size, none⟩)) (hb - lb) (m' - lb)) w := by
            simp only [Instr.sliceAt, Instr.slice, Sem.run_bind, run_underlying g2, Result.andThen_ok, he1, r1, Sem.run_pure, hsz, Option.map_some, Addr.add_none]
            split <;> rfl
          have hfin : ∀ v', VR σ v v' → v' = .slice (some (if m' = lb then ⟨i.blk, off', none⟩ else ⟨i.blk, off' + lb * ei.size, none⟩)) (hb - lb) (m' - lb) →
              ∃ v', VR σ v v' ∧ ∀ oper : Oper, oper.op = .slice t x lo hi mx → (execOp a.eval oper).run P w = .ok (.value v') w := by
            intro v' hr e
            subst e
            exact ⟨_, hr, fun oper ho => by simp only [execOp, ho, Sem.run_bind, hrun, Result.andThen_ok, Sem.run_pure]⟩
          obtain ⟨ab, aoff, asp⟩ := ad
          simp only at hspot hσ hok
          subst hspot
          cases hgs : (gr && !(Nat.beq es ei.size)) with
          | true => rw [hgs] at hv; cases hv
          | false =>
            rw [hgs] at hv
            simp only [cond_false] at hv
            cases hml : Nat.beq mb lb with
            | true =>
              rw [hml] at hv
              simp only [cond_true] at hv
              rw [nbeq] at hml
              have hml := of_decide_eq_true hml
              cases hend : (!gr || Nat.blt (Nat.add aoff (Nat.mul mb es)) c.length) with
              | true =>
                rw [hend] at hv
                simp only [cond_true] at hv
                injection hv with hv; subst hv
                -- the end is known: the concrete capacity is the abstract one
                have hm' : m' = mb := by
                  rcases r6 with ⟨_, e1, e2⟩ | e
                  · cases gr with
                    | false => have := (hok.1 o2).2; omega
                    | true =>
                      simp only [Bool.not_true, Bool.false_or, nblt] at hend
                      have hend := of_decide_eq_true hend
                      have hlt : aoff + cap * i.es < i.size := by
                        rw [o3 rfl, ← o4, ← e1]; exact hend
                      have := (hok.2 o2).2.1 hlt
                      omega
                  · exact e
                refine hfin _ (.sl hσ (Nat.sub_le_sub_right r3 lb) ?_) (by rw [if_pos (by omega), hm']; rfl)
                refine ⟨fun hf => ⟨(hok.1 hf).1, by have := (hok.1 hf).2; rfl⟩, fun ht' => ⟨Nat.le_refl _, fun _ => rfl, fun h0 => ?_, ?_⟩⟩
                · exact absurd h0 (by rw [hml]; simp [Nat.sub])
                · have := (hok.2 ht').2.2.2
                  have h00 : mb - lb = 0 := by omega
                  rw [h00, Nat.zero_mul]
                  omega
              | false =>
                rw [hend] at hv
                simp only [cond_false] at hv
                injection hv with hv; subst hv
                have hgrt : gr = true := by cases gr <;> simp_all
                subst hgrt
                have hlh : hb = lb := by omega
                by_cases hmm : m' = lb
                · refine hfin (.slice (some ⟨i.blk, off', none⟩) 0 0) (.sl hσ (Nat.le_refl _) ?_) (by rw [if_pos hmm, hmm, hlh]; simp)
                  refine ⟨fun hf => ?_, fun _ => ⟨Nat.le_refl _, fun _ => rfl, fun h0 => absurd h0 (by omega), ?_⟩⟩
                  · rw [o2] at hf; cases hf
                  · have := (hok.2 o2).2.2.2
                    omega
                · refine hfin (.slice (some ⟨i.blk, off' + lb * ei.size, none⟩) 0 (m' - lb)) (.sl hσ (Nat.le_refl _) ?_) (by rw [if_neg hmm, hlh]; simp)
                  refine ⟨fun hf => ?_, fun _ => ⟨Nat.zero_le _, fun h0 => ?_, fun h0 => absurd h0 (by omega), ?_⟩⟩
                  · rw [o2] at hf; cases hf
                  · rw [o4] at h0; omega
                  · have hcs := (hok.2 o2).2.2.2
                    have hes : i.es = ei.size := by
                      rw [o3 rfl]
                      simp only [Bool.true_and, Bool.not_eq_false', nbeq] at hgs
                      exact of_decide_eq_true hgs
                    rw [hes] at hcs ⊢
                    have hle : m' ≤ cap' := by rcases r6 with ⟨_, _, e⟩ | e <;> omega
                    have h5 : lb * ei.size + (m' - lb) * ei.size = m' * ei.size := by
                      rw [← Nat.add_mul]; congr 1; omega
                    have h6 : m' * ei.size ≤ cap' * ei.size := Nat.mul_le_mul_right _ hle
                    omega
            | false =>
              rw [hml] at hv
              simp only [cond_false] at hv
              injection hv with hv; subst hv
              rw [nbeq] at hml
              have hml := of_decide_eq_false hml
              have hcap : 0 < cap := by omega
              have hoff := hok.off hcap
              have hmm : ¬ m' = lb := by omega
              refine hfin (.slice (some ⟨i.blk, off' + lb * ei.size, none⟩) (hb - lb) (m' - lb)) (.sl hσ (Nat.sub_le_sub_right r3 lb) ?_) (by rw [if_neg hmm])
              have hmul : Nat.mul lb ei.size = lb * ei.size := rfl
              have hadd : Nat.add aoff (Nat.mul lb ei.size) = aoff + lb * ei.size := rfl
              have hsub : Nat.sub mb lb = mb - lb := rfl
              refine ⟨fun hf => ⟨by rw [hadd]; omega, ?_⟩, fun ht' => ⟨by rw [hsub]; omega, fun hlt => ?_, fun _ => by rw [hadd]; omega, ?_⟩⟩
              · have := (hok.1 hf).2
                rcases r6 with ⟨_, e1, e2⟩ | e
                · rw [hsub]; omega
                · rw [hsub]; omega
              · have hgrt : gr = true := by rw [← o2]; exact ht'
                subst hgrt
                have hes : i.es = ei.size := by
                  rw [o3 rfl]
                  simp only [Bool.true_and, Bool.not_eq_false', nbeq] at hgs
                  exact of_decide_eq_true hgs
                rw [hadd, hsub, hes] at hlt
                have h5 : lb * ei.size + (mb - lb) * ei.size = mb * ei.size := by rw [← Nat.add_mul]; congr 1; omega
                rcases r6 with ⟨_, e1, e2⟩ | e
                · have := (hok.2 ht').2.1 (by rw [hes, ← e1]; omega)
                  rw [hsub]; omega
                · rw [hsub]; omega
              · have hgrt : gr = true := by rw [← o2]; exact ht'
                subst hgrt
                have hes : i.es = ei.size := by
                  rw [o3 rfl]
                  simp only [Bool.true_and, Bool.not_eq_false', nbeq] at hgs
                  exact of_decide_eq_true hgs
                have hcs := (hok.2 ht').2.2.2
                rw [hes] at hcs ⊢
                have hle : m' ≤ cap' := by rcases r6 with ⟨_, _, e⟩ | e <;> omega
                have h5 : lb * ei.size + (m' - lb) * ei.size = m' * ei.size := by rw [← Nat.add_mul]; congr 1; omega
                have h6 : m' * ei.size ≤ cap' * ei.size := Nat.mul_le_mul_right _ hle
                omega
      · cases hv
  · cases hv

end
end Go.Ax
