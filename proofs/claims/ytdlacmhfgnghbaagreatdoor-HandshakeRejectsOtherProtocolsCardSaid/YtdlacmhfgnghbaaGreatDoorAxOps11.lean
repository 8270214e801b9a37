import Derived.Test.YtdlacmhfgnghbaaGreatDoorAxOps10
/- append. -/
set_option linter.unusedVariables false
set_option linter.constructorNameAsVariable false
set_option linter.unusedSimpArgs false
namespace Go.Ax
section
variable {P : Program} {Y : Ty} (hY : TyOK P Y)

theorem append_none (w : World) (t tx ty e : TypeId) (i : TypeInfo) (ht : P.underlying t = some (.slice e)) (hi : P.info? e = some i) (base : Option Addr) (sLen sCap : Nat) (hle : sLen ≤ sCap) (x : Value) (hs : Src P i.size tx x 0 [] w) :
    (Builtin.append_ #[t, tx] ty #[.slice base sLen sCap, x]).run P w = .ok (.slice base sLen sCap) w := by
  rcases hs.kind with ⟨e', hk⟩ | hk <;> cases base <;> simp [Builtin.append_, run_underlying ht, run_underlying hk, sizeOf, typeInfo, hi, hs.len, hle, hs.cells, storeCells]

/-- a row that append has made -/
theorem newRow_ok {ng : Nat} {σ : Sg} {H : Hp} {nx : Nat} {w : World} (h : Inv ng σ H nx w) (hnx : nx < 1000000) {cs cs' : List Value} (hcs : VL σ cs cs') {e e' : TypeId} {size need cap : Nat} (hl : cs.length = need * size) (hcap : need ≤ cap)
    {z : Array Value} (hz : z.size = size) :
    VR (σ.put nx ⟨w.heap.size, 0, true, size, need * size, cap * size, e', (0, 0)⟩) (.slice (some ⟨nx, 0, none⟩) need need) (.slice (some ⟨w.heap.size, 0, none⟩) need cap) ∧
    Step σ H nx w (σ.put nx ⟨w.heap.size, 0, true, size, need * size, cap * size, e', (0, 0)⟩) (H.ins 40 nx (.cells cs e size true)) (nx + 1) (w.drew.alloc (.cells (cs'.toArray ++ Builtin.zeroCells z (cap - need)) e')) := by
  have hn : σ nx = none := h.fresh nx (Nat.le_refl _)
  have hsz : (cs'.toArray ++ Builtin.zeroCells z (cap - need)).size = cap * size := by
    simp only [Array.size_append, List.size_toArray, size_zeroCells, hz, ← hcs.1, hl, ← Nat.add_mul]
    congr 1
    omega
  refine ⟨VR.sl (i := ⟨w.heap.size, 0, true, size, need * size, cap * size, e', (0, 0)⟩) (Sg.put_same σ nx _) (Nat.le_refl _) ⟨(fun h => by cases h), fun _ => ⟨hcap, (fun h => by simp at h), fun _ => rfl, by simp⟩⟩, ?_⟩
  refine Step.new h hnx rfl ?_ (by simp) (fun c hc => heap_alloc_old w.drew _ c hc) rfl rfl rfl
  refine ⟨_, e', (0, 0), heap_alloc_new w.drew _, rfl, fun _ => rfl, hl, fun j v hj => ?_, (fun h => by cases h), fun _ => ⟨?_, by rw [hsz]; exact Nat.le_refl _, fun j _ => by simp⟩, rfl, rfl⟩
  · obtain ⟨v', h1, h2⟩ := hcs.2 j v hj
    refine ⟨v', ?_, h2.mono (Sg.put_ext hn)⟩
    have hlt : j < cs'.length := by
      rcases Nat.lt_or_ge j cs'.length with h | h
      · exact h
      · rw [List.getElem?_eq_none h] at h1; cases h1
    simp only [Nat.zero_add]
    rw [Array.getElem?_append_left (by simpa using hlt)]
    simpa using h1
  · simp only [Nat.zero_add]
    exact Nat.mul_le_mul_right _ hcap

include hY in
theorem append_ok {t u e : TypeId} {x y : Operand} {g k : Rd} {ti ui ei : TypeInfo} {ud ed : TypeDesc} {z : Value} (ht : Y.tys.get t = some (ti, .slice e)) (hu : Y.tys.get u = some (ui, ud)) (hsrc : isSrc ud = true) (he : Y.tys.get e = some (ei, ed))
    (hz : ei.zero = some z) (hzs : (vCells z).length = ei.size) (hx : rdO Y x = some g) (hy : rdO Y y = some k) :
    SOK P Y (.call { callee := .builtin .append, args := #[x, y], argTypes := #[t, u] }) (fun tm H nx => appendA e ei.size ei.bytes H nx (g tm) (k tm)) := by
  intro σ nt tm H nx w a hinv htr v H' nx' h
  have h1 := rdO_ok hx hinv.glob htr
  have h2 := rdO_ok hy hinv.glob htr
  obtain ⟨g1, g2⟩ := hY.tys _ _ _ ht
  obtain ⟨g3, g4⟩ := hY.tys _ _ _ he
  obtain ⟨g5, g6⟩ := hY.tys _ _ _ hu
  have hkind : (∃ e', P.underlying u = some (.slice e')) ∨ P.underlying u = some .string := by
    cases ud <;> first | (cases hsrc; done) | skip
    · exact .inr g6
    · exact .inl ⟨_, g6⟩
  have hzsz : z.cells.size = ei.size := by rw [← Array.length_toList, ← vCells_eq]; exact hzs
  simp only [appendA] at h
  split at h
  · rename_i base sLen sCap hd
    rw [hd] at h1
    split at h
    · cases h
    · rename_i n hn
      split at h
      · cases h
      · rename_i news hnews
        cases hb : (!(news.all oneC) || !(Nat.beq news.length (Nat.mul n ei.size)) || Nat.beq ei.size 0 || Nat.beq ei.bytes 0 || Nat.blt 1000000000 (Nat.mul (Nat.add sLen n) ei.bytes) || !(Nat.blt nx 1000000)) with
        | true => rw [hb] at h; cases h
        | false =>
          rw [hb] at h
          simp only [Bool.or_eq_false_iff, Bool.not_eq_false', nbeq, nblt, decide_eq_true_eq, decide_eq_false_iff_not] at hb
          obtain ⟨⟨⟨⟨⟨b1, b2⟩, b3⟩, b4⟩, b5⟩, b6⟩ := hb
          have b2 : news.length = n * ei.size := b2
          have b5 : (sLen + n) * ei.bytes ≤ 1000000000 := by
            have : ¬ (1000000000 < (sLen + n) * ei.bytes) := b5
            omega
          have hneed : sLen + n ≤ 1000000000 := Nat.le_trans (Nat.le_mul_of_pos_right _ (by omega)) b5
          have h63 : ((sLen + n : Nat) : Int) ≤ 9223372036854775807 := by omega
          obtain ⟨ys, q1, q2, q3⟩ := src_ok (P := P) hinv.wr h2 hn (Nat.le_refl n) hnews
          have hS : Src P ei.size u (a.eval y) n ys w := ⟨hkind, q2, q3 w rfl, q3 w.drew rfl, by rw [← q1.1]; exact b2, q1.oneC b1⟩
          simp only [cond_false] at h
          cases hroom : Nat.ble (Nat.add sLen n) sCap with
          | true =>
            rw [hroom] at h
            rw [nble] at hroom
            have hroom : sLen + n ≤ sCap := of_decide_eq_true hroom
            simp only [cond_true] at h
            have hnone : ∀ x' : Value, VR σ (.slice base sLen sCap) x' → n = 0 → a.eval x = x' → ∀ oper : Oper, oper.op = .call { callee := .builtin .append, args := #[x, y], argTypes := #[t, u] } → (execOp a.eval oper).run P w = .ok (.value x') w := by
              intro x' hx' hn0 hax oper ho
              subst hn0
              have hy0 : ys = [] := by
                have := q1.1
                rw [b2, Nat.zero_mul] at this
                exact List.length_eq_zero_iff.1 this.symm
              subst hy0
              refine run_builtin ho ?_
              simp only [List.map_toArray, List.map_cons, List.map_nil, builtin, Sem.run_bind, hax]
              cases hx' with
              | nilsl => rw [append_none w t u oper.type e ei g2 g3 none sLen sCap (by omega) _ hS]; rfl
              | sl hh hl hs => 
                rename_i b off off' cap' i
                have hcc : sCap ≤ cap' := by
                  cases hg : i.gr with
                  | false => rw [(hs.1 hg).2]; exact Nat.le_refl _
                  | true => exact (hs.2 hg).1
                rw [append_none w t u oper.type e ei g2 g3 _ sLen cap' (by omega) _ hS]; rfl
            cases base with
            | none =>
              simp only at h
              cases hn0 : Nat.beq n 0 with
              | false => rw [hn0] at h; cases h
              | true =>
                rw [hn0] at h
                injection h with h; injection h with r1 r2; injection r2 with r2 r3
                subst r1; subst r2; subst r3
                rw [nbeq] at hn0
                have hn0 := of_decide_eq_true hn0
                refine ⟨σ, a.eval x, w, .value (a.eval x), .inl rfl, by rw [hd]; exact h1, Step.refl hinv, hnone _ h1 hn0 rfl⟩
            | some ad =>
              simp only at h
              cases hn0 : Nat.beq n 0 with
              | true =>
                rw [hn0] at h
                injection h with h; injection h with r1 r2; injection r2 with r2 r3
                subst r1; subst r2; subst r3
                rw [nbeq] at hn0
                have hn0 := of_decide_eq_true hn0
                refine ⟨σ, a.eval x, w, .value (a.eval x), .inl rfl, ?_, Step.refl hinv, hnone _ h1 hn0 rfl⟩
                subst hn0
                exact h1
              | false =>
                rw [hn0] at h
                rw [nbeq] at hn0
                have hn0 := of_decide_eq_false hn0
                simp only [cond_false] at h
                split at h
                · rename_i c e' es gr hH
                  split at h
                  · rename_i hsp
                    cases hfit : Nat.ble (Nat.add (Nat.add ad.off (Nat.mul sLen ei.size)) news.length) c.length with
                    | false => rw [hfit] at h; cases h
                    | true =>
                      rw [hfit] at h
                      injection h with h; injection h with r1 r2; injection r2 with r2 r3
                      subst r1; subst r2; subst r3
                      rw [nble] at hfit
                      have hfit : ad.off + sLen * ei.size + news.length ≤ c.length := of_decide_eq_true hfit
                      obtain ⟨i, off', cap', hσ, -, hlc, hok, hx'⟩ := h1.sl_eq
                      have hoff := hok.off (show 0 < sCap by omega)
                      have hcc : sCap ≤ cap' := by
                        cases hg : i.gr with
                        | false => rw [(hok.1 hg).2]; exact Nat.le_refl _
                        | true => exact (hok.2 hg).1
                      obtain ⟨s1, s2, s3⟩ := put_ok hinv hH hσ q1 hfit
                      have eo : ad.off + sLen * ei.size + i.sh = off' + sLen * ei.size := by omega
                      rw [eo] at s3
                      refine ⟨σ, .slice (some ⟨i.blk, off', none⟩) (sLen + n) cap', _, .value (.slice (some ⟨i.blk, off', none⟩) (sLen + n) cap'), .inl rfl, ?_, s3, fun oper ho => run_builtin ho ?_⟩
                      · obtain ⟨ab, aoff, asp⟩ := ad
                        simp only at hsp
                        subst hsp
                        exact VR.sl hσ hroom hok
                      · simp only [List.map_toArray, List.map_cons, List.map_nil, builtin, Sem.run_bind, hx']
                        rw [run_append_room_src w t u oper.type e ei g2 g3 i.blk off' sLen cap' _ n ys hS (by omega) (fun j hj => by rw [← eo]; exact s1 j hj) (fun j hj => by rw [← eo]; exact s2 j hj)]
                        rfl
                  · cases h
                · cases h
          | false =>
            rw [hroom] at h
            rw [nble] at hroom
            have hroom : ¬ (sLen + n ≤ sCap) := of_decide_eq_false hroom
            simp only [cond_false] at h
            -- a new row
            have hgrow : ∀ (x' : Value) (base' : Option Addr) (cap' : Nat) (olds olds' : List Value) (σ0 : Sg) (H0 : Hp), x' = .slice base' sLen cap' → a.eval x = x' → cap' < sLen + n → Step σ H nx w σ H0 nx w → VL σ olds olds' → olds.length = sLen * ei.size →
                (Builtin.firstCells ei.size sLen (.slice base' sLen cap')).run P w.drew = .ok olds'.toArray w.drew →
                ∃ (σ' : Sg) (v' : Value) (w' : World) (n' : Next), (n' = .value v' ∨ (n' = .skip ∧ v' = undef)) ∧ VR σ' (.slice (some ⟨nx, 0, none⟩) (sLen + n) (sLen + n)) v' ∧ Step σ H nx w σ' (H0.ins 40 nx (.cells (olds ++ news) e ei.size true)) (nx + 1) w' ∧
                  ∀ oper : Oper, oper.op = .call { callee := .builtin .append, args := #[x, y], argTypes := #[t, u] } → (execOp a.eval oper).run P w = .ok n' w' := by
              intro x' base' cap' olds olds' σ0 H0 hx' hax hlt hst hol holl hfc
              have hlen : (olds ++ news).length = (sLen + n) * ei.size := by rw [List.length_append, holl, b2, Nat.add_mul]
              obtain ⟨p1, p2⟩ := newRow_ok (hst.inv hinv) b6 (hol.append q1) (e := e) (e' := e) hlen (grownCap_ge w (sLen + n) cap' e) hzsz
              refine ⟨_, _, _, .value _, .inl rfl, p1, hst.trans p2, fun oper ho => run_builtin ho ?_⟩
              simp only [List.map_toArray, List.map_cons, List.map_nil, builtin, Sem.run_bind, hax, hx']
              rw [run_append_grow_src w t u oper.type e ei z g2 g3 hz base' sLen cap' olds' hfc _ n ys hS hlt h63 (growslice_fits hlt (by omega))]
              rfl
            cases base with
            | none =>
              simp only at h
              cases hs0 : (Nat.beq sLen 0 && Nat.beq sCap 0) with
              | false => rw [hs0] at h; cases h
              | true =>
                rw [hs0] at h
                injection h with h; injection h with r1 r2; injection r2 with r2 r3
                subst r1; subst r2; subst r3
                rw [Bool.and_eq_true, nbeq, nbeq] at hs0
                have e1 := of_decide_eq_true hs0.1
                have e2 := of_decide_eq_true hs0.2
                subst e1; subst e2
                generalize hax : a.eval x = x' at h1
                cases h1
                exact hgrow _ none 0 [] [] σ H rfl hax (by omega) (Step.refl hinv) (VL.nil σ) (by simp) (run_firstCells_none w.drew ei.size 0 0 0)
            | some ad =>
              simp only at h
              split at h
              · cases h
              · rename_i olds holds
                split at h
                · rename_i c e' es gr hH
                  split at h
                  · cases h
                  · rename_i hsp
                    obtain ⟨i, off', cap', hσ, -, hlc, hok, hx'⟩ := h1.sl_eq
                    cases hoc : olds.all oneC with
                    | false => rw [hoc] at h; cases h
                    | true =>
                      rw [hoc] at h
                      simp only [Bool.not_true, cond_false] at h
                      have hlenA : lenA (.slice (some ad) sLen sCap) = some sLen := rfl
                      obtain ⟨os, o1, o2, o3⟩ := src_ok (P := P) hinv.wr h1 hlenA (Nat.le_refl sLen) (by rw [← hd]; exact holds)
                      obtain ⟨i', hi', hobj⟩ := hinv.wr.live _ _ hH
                      rw [hσ] at hi'; injection hi' with hi'; subst hi'
                      obtain ⟨c', e2, fz, f1, f2, f3, f4, f5, f6, f7, f8⟩ := hobj
                      have hol : olds.length = sLen * ei.size := by
                        have hf := holds
                        rw [hd] at hf
                        simp only [firstA, vSl, ob_some] at hf
                        obtain ⟨cc, hcc, hf⟩ := ob_eq_some (show ob _ _ none = some olds from hf)
                        cases hl : Nat.beq (Ax.seg cc.1 ad.off (Nat.mul sLen ei.size)).length (Nat.mul sLen ei.size) with
                        | false => simp only [hl] at hf; cases hf
                        | true =>
                          simp only [hl, cond_true, Option.some.injEq] at hf; subst hf
                          rw [nbeq] at hl
                          exact of_decide_eq_true hl
                      have hfc : ∀ w2 : World, w2.heap = w.heap → (Builtin.firstCells ei.size sLen (.slice (some ⟨i.blk, off', none⟩) sLen cap')).run P w2 = .ok os.toArray w2 := fun w2 hw2 => by
                        have := o3 w2 hw2
                        rw [hx'] at this
                        exact this
                      cases hex : (!gr || Nat.blt (Nat.add ad.off (Nat.mul sCap es)) c.length) with
                      | true =>
                        rw [hex] at h
                        injection h with h; injection h with r1 r2; injection r2 with r2 r3
                        subst r1; subst r2; subst r3
                        have hcap : cap' = sCap := by
                          cases hg : gr with
                          | false => exact (hok.1 (by rw [f2, hg])).2
                          | true =>
                            rw [hg] at hex
                            simp only [Bool.not_true, Bool.false_or, nblt, decide_eq_true_eq] at hex
                            have hex : ad.off + sCap * es < c.length := hex
                            exact (hok.2 (by rw [f2, hg])).2.1 (by rw [f3 hg, ← f4]; exact hex)
                        subst hcap
                        exact hgrow _ _ cap' olds os σ H hx' rfl (by omega) (Step.refl hinv) o1 hol (hfc w.drew rfl)
                      | false =>
                        rw [hex] at h
                        simp only [cond_false] at h
                        cases hes : Nat.beq es ei.size with
                        | false => rw [hes] at h; cases h
                        | true =>
                          rw [hes] at h
                          injection h with h; injection h with r1 r2; injection r2 with r2 r3
                          subst r1; subst r2; subst r3
                          rw [nbeq] at hes
                          have hes := of_decide_eq_true hes
                          subst hes
                          rw [Bool.or_eq_false_iff] at hex
                          have hg : gr = true := by cases gr <;> simp_all
                          have hsome : (H.get ad.block).isSome = true := by rw [hH]; rfl
                          obtain ⟨k1, k2, k3, k4⟩ := hok.2 (by rw [f2, hg])
                          obtain ⟨m1, m2, m3⟩ := f7 hg
                          have hie : i.es = ei.size := f3 hg
                          rw [hie] at k4
                          rcases Nat.lt_or_ge cap' (sLen + n) with hlt | hge
                          · exact hgrow _ _ cap' olds os σ _ hx' rfl hlt (Step.kill hinv hsome) o1 hol (hfc w.drew rfl)
                          · -- there is room behind the row
                            have hmul : (sLen + n) * ei.size ≤ cap' * ei.size := Nat.mul_le_mul_right _ hge
                            have hys : ys.length = n * ei.size := by rw [← q1.1]; exact b2
                            have hosl : os.length = sLen * ei.size := by rw [← o1.1]; exact hol
                            have hsum : (sLen + n) * ei.size = sLen * ei.size + n * ei.size := Nat.add_mul ..
                            obtain ⟨c'', z1, z2, z3, z4, z5, z6, z7, z8⟩ := heap_setCells i.blk ys (off' + sLen * ei.size) c' w f1 (by omega)
                            have hcell : ∀ j, j < ys.length → (w.cell? ⟨i.blk, off' + sLen * ei.size + j, none⟩).isSome = true := fun j hj => by
                              rw [cell?_of_heap f1]
                              have : off' + sLen * ei.size + j < c'.size := by omega
                              simp [this]
                            have hfroz : ∀ j, j < ys.length → w.frozen? ⟨i.blk, off' + sLen * ei.size + j, none⟩ = false := fun j hj => by
                              have := m3 (off' + sLen * ei.size + j) (by omega)
                              rw [frozen?_of_heap f1]
                              simp only [Bool.and_eq_false_iff, decide_eq_false_iff_not]
                              omega
                            refine ⟨σ.put nx ⟨i.blk, off', true, ei.size, (sLen + n) * ei.size, i.csz, i.ty, i.fz⟩, .slice (some ⟨i.blk, off', none⟩) (sLen + n) cap', w.setCells i.blk (off' + sLen * ei.size) ys, .value (.slice (some ⟨i.blk, off', none⟩) (sLen + n) cap'), .inl rfl,
                              VR.sl (i := ⟨i.blk, off', true, ei.size, (sLen + n) * ei.size, i.csz, i.ty, i.fz⟩) (Sg.put_same σ nx _) (Nat.le_refl _) ⟨(fun h => by cases h), fun _ => ⟨hge, (fun h => by simp at h), fun _ => by simp, k4⟩⟩,
                              Step.repl hinv b6 hsome hσ rfl ?_ z4 z5 z6 z7 z8, fun oper ho => run_builtin ho ?_⟩
                            · have hnx0 : σ nx = none := hinv.fresh nx (Nat.le_refl _)
                              refine ⟨c'', e2, fz, z1, rfl, fun _ => rfl, by rw [List.length_append, hol, b2, hsum], fun j v hj => ?_, (fun h => by cases h), fun _ => ⟨by simp only; omega, by rw [z2]; exact m2, m3⟩, f8⟩
                              rw [List.getElem?_append] at hj
                              rw [z3]
                              split at hj
                              · rename_i hjl
                                rw [if_neg (by simp only; omega)]
                                have hcpos : 0 < sCap := by
                                  rcases Nat.eq_zero_or_pos sCap with h0 | h0
                                  · have : sLen = 0 := by omega
                                    rw [hol, this] at hjl; omega
                                  · exact h0
                                have hoff := hok.off hcpos
                                have hf := holds
                                rw [hd] at hf
                                simp only [firstA, vSl, ob_some] at hf
                                obtain ⟨cc, hcc, hf⟩ := ob_eq_some (show ob _ _ none = some olds from hf)
                                obtain ⟨_, hHc⟩ := hCells_some hcc
                                rw [hH] at hHc
                                injection hHc with hHc
                                injection hHc with hc1
                                cases hl : Nat.beq (Ax.seg cc.1 ad.off (Nat.mul sLen ei.size)).length (Nat.mul sLen ei.size) with
                                | false => simp only [hl] at hf; cases hf
                                | true =>
                                  simp only [hl, cond_true, Option.some.injEq] at hf
                                  rw [← hf] at hj
                                  have hjm : j < sLen * ei.size := by omega
                                  have hjm' : j < Nat.mul sLen ei.size := hjm
                                  simp only [Ax.seg, List.getElem?_take, List.getElem?_drop, if_pos hjm'] at hj
                                  rw [← hc1] at hj
                                  obtain ⟨v', hv1, hv2⟩ := f5 _ v hj
                                  refine ⟨v', ?_, hv2.mono (Sg.put_ext hnx0)⟩
                                  rw [show off' + j = i.sh + (ad.off + j) by omega]
                                  exact hv1
                              · rename_i hjl
                                obtain ⟨v', hv1, hv2⟩ := q1.2 _ v hj
                                have hjlt : j - olds.length < ys.length := by
                                  rcases Nat.lt_or_ge (j - olds.length) ys.length with h | h
                                  · exact h
                                  · rw [List.getElem?_eq_none h] at hv1; cases hv1
                                refine ⟨v', ?_, hv2.mono (Sg.put_ext hnx0)⟩
                                rw [if_pos (by simp only; omega), show off' + j - (off' + sLen * ei.size) = j - olds.length by omega]
                                exact hv1
                            · simp only [List.map_toArray, List.map_cons, List.map_nil, builtin, Sem.run_bind, hx']
                              rw [run_append_room_src w t u oper.type e ei g2 g3 i.blk off' sLen cap' _ n ys hS hge hcell hfroz]
                              rfl
                · cases h
  · cases h

end
end Go.Ax
