import Derived.Test.YtdlacmhfgnghbaaGreatDoorAxDraw3
/- Regions whose order is drawn are right; calls are right. -/
set_option linter.unusedVariables false
set_option linter.constructorNameAsVariable false
set_option linter.unusedSimpArgs false
namespace Go.Ax

section
variable {R : Type} {Z : Res R} {P : Program} {Y : Ty}
variable {nt : Nat} {ops : Array Oper} {ds : List DI} {os : List (DOp R)} {n0 : Nat} {t0 : TT} {fp : List Snap} {fs : List Side} {tf : Nat → TT} {vf : Nat → Value}

theorem cntB_zero {p : Nat → Bool} : ∀ {n : Nat}, cntB p n = 0 → ∀ j, j < n → p j = false
  | 0, _, j, hj => by omega
  | n + 1, h, j, hj => by
    rw [cntB_succ] at h
    by_cases hp : p n = true
    · rw [if_pos hp] at h; omega
    · rw [if_neg hp] at h
      rcases Nat.lt_or_ge j n with h1 | h1
      · exact cntB_zero (by omega) j h1
      · rw [show j = n by omega]; simpa using hp
theorem cntB_false {n : Nat} {p : Nat → Bool} (h : ∀ j, j < n → p j = false) : cntB p n = 0 := by
  induction n with
  | zero => rfl
  | succ n ih =>
    rw [cntB_succ, ih (fun j hj => h j (by omega)), if_neg (by rw [h n (by omega)]; simp)]

theorem listed_set {listed : Array Bool} {i : Nat} (hi : i < listed.size) : (fun j => (listed.setIfInBounds i true).getD j false) = fun j => if j = i then true else listed.getD j false := by
  funext j
  by_cases e : j = i
  · subst e
    rw [if_pos rfl, Array.getD_eq_getD_getElem?, Array.getElem?_setIfInBounds_self_of_lt hi]; rfl
  · rw [if_neg e, Array.getD_eq_getD_getElem?, Array.getElem?_setIfInBounds_ne (fun h => e h.symm), ← Array.getD_eq_getD_getElem?]

theorem any_ok (hY : TyOK P Y) {T : R → Prop} (hff : ¬ T Z.ff) (C : Ctx Z P Y nt ops ds os n0 t0 fp fs tf vf) {σ0 : Sg} {H0 : Hp} {w0 : World} (h0 : Inv Y.ng σ0 H0 n0 w0) {d0 : List Deferred} {Q : Exit → Act → World → Prop}
    (hQ : ∀ (D : Nat → Bool) σ a w s, (∀ j, j < ops.size → D j = true) → DInv Y nt ops ds n0 t0 fp fs vf σ0 H0 w0 d0 D σ a w s → Q .normal a w) :
    ∀ (fuel : Nat) (listed : Array Bool) (σ : Sg) (a : Act) (w : World) (s : Snap), listed.size = ops.size → cntB (fun j => !listed.getD j false) ops.size ≤ fuel → DInv Y nt ops ds n0 t0 fp fs vf σ0 H0 w0 d0 (fun j => listed.getD j false) σ a w s → wpAny P .any ops Q fuel listed a w := by
  have hempty : ∀ listed : Array Bool, listed.size = ops.size → Region.ready .any ops listed = [] → ∀ j, j < ops.size → listed.getD j false = true := by
    intro listed hsz hr j
    induction j using Nat.strongRecOn with
    | _ j ih =>
      intro hj
      cases hl : listed.getD j false with
      | true => rfl
      | false =>
        have hmem : j ∈ Region.ready .any ops listed := by
          rw [mem_ready]
          refine ⟨?_, ops[j], by simp [hj], fun e he hb => ?_⟩
          · rw [Array.getD_eq_getD_getElem?] at hl ⊢
            have : listed[j]? = some listed[j] := by simp [show j < listed.size by omega]
            rw [this] at hl ⊢
            exact hl
          · obtain ⟨h1, h2⟩ := C.fixed.edge j ops[j] (by simp [hj]) e he hb
            exact ih e.on h1 (by omega)
        rw [hr] at hmem
        cases hmem
  intro fuel
  induction fuel with
  | zero =>
    intro listed σ a w s hsz hc I
    have hall : ∀ j, j < ops.size → listed.getD j false = true := fun j hj => by
      have := cntB_zero (Nat.le_zero.1 hc) j hj
      simpa using this
    refine ⟨?_, hQ _ σ a w s hall I⟩
    rw [List.eq_nil_iff_forall_not_mem]
    intro j hj
    rw [mem_ready] at hj
    obtain ⟨h1, o, ho, _⟩ := hj
    have hjn : j < ops.size := (Array.getElem?_eq_some_iff.1 ho).1
    have := hall j hjn
    rw [Array.getD_eq_getD_getElem?] at this h1
    have h2 : listed[j]? = some listed[j] := by simp [show j < listed.size by omega]
    rw [h2] at this h1
    simp at this h1
    rw [this] at h1
    cases h1
  | succ fuel ih =>
    intro listed σ a w s hsz hc I
    refine ⟨fun hr => hQ _ σ a w s (hempty listed hsz hr) I, fun i hi => ?_⟩
    rw [mem_ready] at hi
    obtain ⟨h1, o, ho, hall⟩ := hi
    have hin : i < ops.size := (Array.getElem?_eq_some_iff.1 ho).1
    have hD : listed.getD i false = false := by
      rw [Array.getD_eq_getD_getElem?] at h1 ⊢
      have h2 : listed[i]? = some listed[i] := by simp [show i < listed.size by omega]
      rw [h2] at h1 ⊢
      exact h1
    refine one_ok hY hff C h0 I hin hD (fun y hy e he hb => ?_) (fun σ' a' w' s' I' => ?_)
    · rw [ho] at hy; injection hy with hy; subst hy
      exact hall e he hb
    · have hset := listed_set (listed := listed) (i := i) (by omega)
      refine ih (listed.setIfInBounds i true) σ' a' w' s' (by simpa using hsz) ?_ (by rw [hset]; exact I')
      have hcs : cntB (fun j => !listed.getD j false) ops.size = cntB (fun j => !(listed.setIfInBounds i true).getD j false) ops.size + 1 := by
        refine cntB_set hin ?_ ?_ (fun j hj => ?_)
        · rw [congrFun hset i]; simp
        · rw [hD]; rfl
        · rw [congrFun hset j, if_neg hj]
      omega

theorem draws_ok (hY : TyOK P Y) {T : R → Prop} (hff : ¬ T Z.ff) (hm : P.follows .mixedOrders = true) : DrawsOK Z T P Y := by
  intro nt id ops ds os hos hfix c hc tm H nx k ht
  have F := fixed_ok hfix
  obtain ⟨hlen, hspec⟩ := drawS_spec ops.toList ds os hos
  have hlen : os.length = ops.size := by simpa using hlen
  have hspec' : ∀ (m : Nat) (o : DOp R), os[m]? = some o → ∃ oper, ops[m]? = some oper ∧ ds[m]? = some o.di ∧ o.od = opS Z Y oper.op ∧ wrD nt oper.dst = some o.w ∧ guardS ops oper = some o.g ∧ lkS nt (looksL ops oper) = some o.lk := fun m o ho => by
    obtain ⟨oper, h1, h2⟩ := hspec m o ho
    exact ⟨oper, by simpa using h1, h2⟩
  simp only [dDraw] at ht
  cases hb : Nat.blt (Nat.add nx ops.size) 1000000 with
  | false => rw [hb] at ht; exact absurd ht hff
  | true =>
    rw [hb] at ht
    simp only [cond_true] at ht
    rw [nblt] at hb
    have hbig : nx + ops.size < 1000000 := of_decide_eq_true hb
    have hloudAt : ∀ (m : Nat) (o : DOp R), os[m]? = some o → loudAt ds m = isL o.di := fun m o ho => by
      obtain ⟨_, _, h2, _⟩ := hspec' m o ho
      simp [loudAt, h2]
    obtain ⟨tf, vf, later, more, tr⟩ := trace_ok (T := T) hff hc (n0 := nx) (n := ops.size) (ops := ops) (os := os) (k := k .normal) (cl := fun m => cntB (loudAt ds) m) hlen rfl
      (fun m o oper ho hoper => by
        obtain ⟨oper', h1, h2, h3, _⟩ := hspec' m o ho
        rw [hoper] at h1; injection h1 with h1; subst h1
        rw [h3]; exact opS_ok hff hY oper.op)
      (fun m o ho => by rw [cntB_succ, hloudAt m o ho])
      (fun m o ho => by
        obtain ⟨oper, h1, h2, h3, _⟩ := hspec' m o ho
        rw [h3]; exact F.kd m oper o.di h1 h2)
      (fun m o i ho hi hbt => by
        obtain ⟨oper, h1, h2, h3, _⟩ := hspec' m o ho
        exact F.lt m i hi (by simp only [bitOf, h2]; exact hbt))
      ops.size 0 (by omega) tm _ (by simp [cntB]) ht
    have C : Ctx Z P Y nt ops ds os nx tm (later ++ [⟨H, 0, Nat.add nx ops.size⟩]) (more ++ []) tf vf := by
      refine ⟨F, hspec', hlen, tr.start, fun x hx => ?_, fun m hm o oper ho hoper => tr.each m (by omega) hm o oper ho hoper, hbig⟩
      obtain ⟨_, q2, q3, q4⟩ := tr.side x (by simpa using hx)
      exact ⟨q2, q3, q4⟩
    obtain ⟨sE, hsE, hT⟩ := tr.fin
    refine ⟨.normal, tf ops.size, _, sE.nx, hT, fun σ w a hinv htr Q hk => wp_region_any hm ?_⟩
    refine any_ok hY hff C hinv (d0 := a.defers) (fun D σ' a' w' s hall I => ?_) ops.size _ σ a _ ⟨H, 0, Nat.add nx ops.size⟩ (by simp) ?_ ?_
    · have hsn := I.snap
      have hcnt : cntB (fun j => D j && loudAt ds j) ops.size = cntB (loudAt ds) ops.size := cntB_congr (fun j hj => by rw [hall j hj]; rfl)
      rw [hcnt] at hsn
      have he : some sE = some s := by rw [← hsE]; exact hsn
      injection he with he
      subst he
      refine hk σ' a' w' (I.step.congr (fun b => ?_)) ⟨I.tsz, fun t => ?_⟩ I.dfr
      · have : joinA sE.h (fun j => D j && !sE.mg.testBit j) (more ++ []) = joinA sE.h (fun j => !sE.mg.testBit j) (more ++ []) := joinA_congr _ (fun x hx => by rw [hall x.i (C.side x hx).1]; rfl)
        rw [this]
      · have := I.tmp t
        rw [tget_congr (E := fun _ => true) (fun j hj _ => hall j hj), ← C.tf_get ops.size (Nat.le_refl _)] at this
        exact this
    · have : cntB (fun j => !(Array.replicate ops.size false).getD j false) ops.size ≤ ops.size := by
        have hle : ∀ (p : Nat → Bool) (n : Nat), cntB p n ≤ n := fun p n => by
          induction n with
          | zero => simp [cntB]
          | succ n ih => rw [cntB_succ]; split <;> omega
        exact hle _ _
      exact this
    · have hf : ∀ j, (Array.replicate ops.size false).getD j false = false := fun j => by
        rw [Array.getD_eq_getD_getElem?, Array.getElem?_replicate]
        split <;> rfl
      refine ⟨fun j _ h => ?_, ?_, ?_, fun j _ _ => hinv.fresh _ (by omega), fun i _ h => ?_, fun x hx _ => ?_, Nat.le_refl _, htr.size, fun t => ?_, rfl⟩
      · rw [hf] at h; cases h
      · rw [cntB_false (fun j _ => by rw [hf]; rfl), bot_app (by simp)]; rfl
      · have s0 := Step.refl hinv
        have hS : Step σ H nx w σ H (nx + ops.size) { w with drawn := w.drawn + 1 } := ⟨s0.ext, by omega, fun b hb => hinv.fresh b (by omega), ⟨hinv.wr.live, hinv.wr.inj⟩, s0.old, s0.own, s0.size, s0.frame, s0.tape, s0.os, s0.output, s0.keep⟩
        refine hS.congr (fun b => ?_)
        exact joinA_out _ C.uniq.1 (fun x hx hp => by
          rw [hf] at hp
          cases hp)
      · simp at h
      · have hxb := (C.side x hx).2.1
        cases hg : H.get x.b with
        | none => rfl
        | some ob =>
          obtain ⟨i, hi, _⟩ := hinv.wr.live x.b ob hg
          rw [hinv.fresh x.b (by omega)] at hi
          cases hi
      · have : tget ops vf tm (fun j => (Array.replicate ops.size false).getD j false) ops.size t = tm.get t := by
          have h0 : ∀ m, tget ops vf tm (fun j => (Array.replicate ops.size false).getD j false) m t = tm.get t := fun m => by
            induction m with
            | zero => rfl
            | succ m ih =>
              simp only [tget]
              rw [if_neg (fun h => by rw [hf] at h; cases h.1), ih]
          exact h0 _
        rw [this]
        exact htr.val t

/-- A run that comes through says what a call does. -/
theorem run_ok (hY : TyOK P Y) {T : R → Prop} (hff : ¬ T Z.ff) (hm : P.follows .mixedOrders = true) {F : Fns R} (hF : FnsOK Z T P Y F) (n : Nat) : CallOK T P Y (callN Z F n) :=
  callN_ok hff hY hF (draws_ok hY hff hm) n

end
end Go.Ax
