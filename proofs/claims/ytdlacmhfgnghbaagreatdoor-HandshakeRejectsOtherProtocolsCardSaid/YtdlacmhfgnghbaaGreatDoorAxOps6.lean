import Derived.Test.YtdlacmhfgnghbaaGreatDoorAxOps5
import Derived.Laws.BytesString
import Derived.Laws.IdiomStrings
/- What reads memory besides loads; new blocks. -/
set_option linter.unusedVariables false
set_option linter.constructorNameAsVariable false
set_option linter.unusedSimpArgs false
namespace Go.Ax
section
variable {P : Program} {Y : Ty} (hY : TyOK P Y)

include hY in
theorem sliceArr_ok {t e : TypeId} {n : Nat} {x : Operand} {lo hi mx : Option Operand} {g : Rd} {l h m : Option Rd} {ti ei : TypeInfo} {ed : TypeDesc} (ht : Y.tys.get t = some (ti, .array n e)) (he : Y.tys.get e = some (ei, ed)) (hx : rdO Y x = some g)
    (hlo : rdOO Y lo = some l) (hhi : rdOO Y hi = some h) (hmx : rdOO Y mx = some m) : QOK P Y (.slice t x lo hi mx) (slQ (sliceArr n ei.size) g l h m) := by
  intro σ nt tm H w a hg htr hw v hv
  have hv := slq_some hv
  have h1 := rdO_ok hx hg htr
  have h2 := rdOO_ok hlo hg htr
  have h3 := rdOO_ok hhi hg htr
  have h4 := rdOO_ok hmx hg htr
  obtain ⟨g1, g2⟩ := hY.tys _ _ _ ht
  obtain ⟨g3, g4⟩ := hY.tys _ _ _ he
  have hsz := run_sizeOf' (P := P) g3 w
  unfold sliceArr at hv
  split at hv
  · rename_i ad hs
    rw [hs] at h1
    split at hv
    · cases hv
    · rename_i lb hb mb hbd
      split at hv
      · rename_i c ce es hget
        split at hv
        · cases hv
        · rename_i hspot
          injection hv with hv; subst hv
          obtain ⟨i, hσ, _, he1⟩ := h1.ptr_eq
          obtain ⟨m', r1, r2, r3, r4, r5, r6⟩ := boundsA_ok (P := P) h2 h3 h4 hbd false n (Nat.le_refl _) (Nat.le_refl _) w
          have hm' : m' = mb := by rcases r6 with ⟨_, e1, e2⟩ | e <;> omega
          subst hm'
          have hgr : i.gr = false := by
            obtain ⟨i', hi', hr⟩ := hw.live _ _ hget
            rw [hσ] at hi'; injection hi' with hi'; subst hi'
            obtain ⟨_, _, _, _, o2, _⟩ := hr
            exact o2
          obtain ⟨ab, aoff, asp⟩ := ad
          simp only at hspot hσ
          subst hspot
          have hmul : Nat.mul lb ei.size = lb * ei.size := rfl
          have hadd : Nat.add aoff (Nat.mul lb ei.size) = aoff + lb * ei.size := rfl
          refine ⟨.slice (some ⟨i.blk, (bif Nat.beq m' lb then aoff else aoff + lb * ei.size) + i.sh, none⟩) (hb - lb) (m' - lb), ?_, fun oper ho => ?_⟩
          · have : (bif Nat.beq m' lb then (⟨ab, aoff, none⟩ : Addr) else addA ⟨ab, aoff, none⟩ (Nat.mul lb ei.size)) = ⟨ab, bif Nat.beq m' lb then aoff else aoff + lb * ei.size, none⟩ := by
              cases Nat.beq m' lb <;> rfl
            rw [this]
            exact .sl hσ (Nat.sub_le_sub_right r3 lb) ⟨fun _ => ⟨rfl, rfl⟩, fun hf => by rw [hgr] at hf; cases hf⟩
          · have hrun : (Instr.sliceAt t (a.eval x) (lo.map a.eval) (hi.map a.eval) (mx.map a.eval)).run P w =
                .ok (.slice (some ⟨i.blk, (bif Nat.beq m' lb then aoff else aoff + lb * ei.size) + i.sh, none⟩) (hb - lb) (m' - lb)) w := by
              simp only [Instr.sliceAt, Sem.run_bind, run_underlying g2, Result.andThen_ok, he1, Instr.sureAddr, r1, Sem.run_pure, hsz, Addr.add_none, nbeq]
              by_cases hmm : m' = lb
              · simp [hmm]
              · simp [hmm]; omega
            simp only [execOp, ho, Sem.run_bind, hrun, Result.andThen_ok, Sem.run_pure]
      · cases hv
  · cases hv

/-- the first elements of a slice (or of nil), read -/
theorem first_ok {σ : Sg} {H : Hp} {w : World} (hw : WR σ H w) {x x' : Value} (hx : VR σ x x') {len cap : Nat} {o : Option Addr} (hs : x = .slice o len cap) {size n : Nat} (hn : n ≤ len) {xs : List Value} (h : firstA H size n x = some xs) :
    ∃ ys : List Value, VL σ xs ys ∧ (Builtin.firstCells size n x').run P w = .ok ys.toArray w ∧ (o ≠ none → xs.length = n * size) := by
  subst hs
  unfold firstA at h
  simp only [vSl, ob_some] at h
  cases o with
  | none =>
    injection (show some [] = some xs from h) with h; subst h
    cases hx
    exact ⟨[], VL.nil σ, by simp [Builtin.firstCells], fun h => absurd rfl h⟩
  | some ad =>
    obtain ⟨c, hc, h⟩ := ob_eq_some (show ob _ _ none = some xs from h)
    cases hl : Nat.beq (Ax.seg c.1 ad.off (Nat.mul n size)).length (Nat.mul n size) with
    | false => simp only [hl] at h; cases h
    | true =>
      simp only [hl, cond_true, Option.some.injEq] at h; subst h
      rw [nbeq] at hl
      have hl := of_decide_eq_true hl
      obtain ⟨i, off', cap', hσ, hsp, hlc, hok, rfl⟩ := hx.sl_eq
      obtain ⟨ab, aoff, asp⟩ := ad
      simp only at hsp hσ hok
      subst hsp
      obtain ⟨ys, h1, h2⟩ := load_seg (P := P) (hw.cells hc hσ) hl
      rcases Nat.eq_zero_or_pos cap with h0 | h0
      · have hn0 : n = 0 := by omega
        subst hn0
        have hz : Nat.mul 0 size = 0 := Nat.zero_mul size
        rw [hz] at h1 h2 hl
        refine ⟨ys, by rw [hz]; exact h1, ?_, fun _ => by rw [hz, hl, Nat.zero_mul]⟩
        have hy : ys = [] := by
          have := h1.1
          rw [hl] at this
          exact List.length_eq_zero_iff.1 this.symm
        subst hy
        simp [Builtin.firstCells, loadCells, loadCellsFrom]
      · have := hok.off h0
        subst this
        exact ⟨ys, h1, h2, fun _ => hl⟩

theorem bytesA_some : ∀ (cs : List Value) (l : List UInt8), bytesA cs = some l → ∃ ns : List Int, cs = ns.map (Value.int .u8) ∧ l = ns.map fun n => UInt8.ofNat n.toNat
  | [], l, h => by simp only [bytesA, Option.some.injEq] at h; subst h; exact ⟨[], rfl, rfl⟩
  | c :: cs, l, h => by
    unfold bytesA at h
    split at h
    · rename_i heq; cases heq
    · rename_i n r heq
      injection heq with h1 h2
      subst h1; subst h2
      split at h
      · rename_i l' hl
        injection h with h; subst h
        obtain ⟨ns, e1, e2⟩ := bytesA_some _ _ hl
        exact ⟨n :: ns, by rw [e1]; rfl, by rw [e2]; rfl⟩
      · cases h
    · cases h

theorem VL.ints {σ : Sg} {k : IntKind} : ∀ {ns : List Int} {ys : List Value}, VL σ (ns.map (Value.int k)) ys → ys = ns.map (Value.int k) := by
  intro ns ys h
  apply List.ext_getElem?
  intro j
  cases hj : (ns.map (Value.int k))[j]? with
  | none =>
    rw [List.getElem?_eq_none]
    rw [← h.1]
    exact List.getElem?_eq_none_iff.1 hj
  | some v =>
    obtain ⟨v', h1, h2⟩ := h.2 j v hj
    rw [h1]
    rw [List.getElem?_map] at hj
    cases hn : ns[j]? with
    | none => rw [hn] at hj; cases hj
    | some n =>
      rw [hn] at hj
      injection hj with hj
      subst hj
      cases h2; rfl

include hY in
theorem toStr_ok {s d e : TypeId} {x : Operand} {g : Rd} {si di ei : TypeInfo} (hs : Y.tys.get s = some (si, .slice e)) (hd : Y.tys.get d = some (di, .string)) (he : Y.tys.get e = some (ei, .int .u8)) (hx : rdO Y x = some g) :
    QOK P Y (.convert s d x) (strQ g) := by
  intro σ nt tm H w a hg htr hw v hv
  have hv : toStrA H (g tm) = some v := hv
  have h1 := rdO_ok hx hg htr
  obtain ⟨g1, g2⟩ := hY.tys _ _ _ hs
  obtain ⟨g3, g4⟩ := hY.tys _ _ _ hd
  obtain ⟨g5, g6⟩ := hY.tys _ _ _ he
  unfold toStrA at hv
  split at hv
  · rename_i o n c hx'
    split at hv
    · rename_i cs hcs
      split at hv
      · rename_i l hl
        injection hv with hv; subst hv
        obtain ⟨ns, e1, e2⟩ := bytesA_some cs l hl
        obtain ⟨ys, f1, f2, f3⟩ := first_ok (P := P) hw h1 hx' (Nat.le_refl n) hcs
        rw [e1] at f1
        have f1 := f1.ints
        subst f1
        obtain ⟨o', c', he1⟩ : ∃ o' c', a.eval x = .slice o' n c' := by
          rw [hx'] at h1
          cases hz : a.eval x <;> rw [hz] at h1 <;> cases h1 <;> exact ⟨_, _, rfl⟩
        refine ⟨_, .string _, fun oper ho => ?_⟩
        have hfold : ∀ (ns : List Int) (r : ByteArray), ns.foldl (fun r n => r.push (UInt8.ofNat n.toNat)) r = ⟨r.data ++ (ns.map fun n => UInt8.ofNat n.toNat).toArray⟩ := by
          intro ns
          induction ns with
          | nil => intro r; simp
          | cons n ns ih => intro r; rw [List.foldl_cons, ih]; simp [ByteArray.push]
        have hrun : (convert s d (.slice o' n c')).run P w = .ok (.string ⟨l.toArray⟩) w := by
          rw [run_convert_bytes_string w s d e o' n c' g2 g6 g4]
          cases o' with
          | none =>
            rw [he1] at f2
            have : ns = [] := by
              have hh : ((ns.map (Value.int .u8)).toArray : Array Value) = #[] := by
                have q : (Builtin.firstCells 1 n (.slice none n c')).run P w = .ok #[] w := by simp [Builtin.firstCells]
                rw [q] at f2
                injection f2 with f2
                exact f2.symm
              simpa using hh
            subst this
            rw [e2]
            simp [Conv.bytesToString]
            rfl
          | some ad =>
            rw [he1] at f2
            have f2' : (loadCells ad n).run P w = .ok (ns.map (Value.int .u8)).toArray w := by
              have := f2
              simp only [Builtin.firstCells, Nat.mul_one] at this
              exact this
            rw [run_bytesToString w ad n c' ns f2', hfold, e2]
            have : ByteArray.empty.data = #[] := rfl
            rw [this]
            simp
        simp only [execOp, ho, he1, Sem.run_bind, hrun, Result.andThen_ok, Sem.run_pure]
      · cases hv
    · cases hv
  · cases hv

/-! ### maps that are read -/

/-- the entries of a map value -/
theorem mapGet_ok {σ : Sg} {H : Hp} {w : World} (hw : WR σ H w) {x x' : Value} (hx : VR σ x x') {es : List (Value × Value × Nat)} (h : mapGet H x = some es) :
    ∃ es' : Array MapEntry, es.length = es'.size ∧ (∀ (j : Nat) (e : Value × Value × Nat), es[j]? = some e → ∃ e', es'[j]? = some e' ∧ EntR σ e e') ∧
      ((x' = .map none ∧ es' = #[]) ∨ ∃ r ck, x' = .map (some r) ∧ (getObj r).run P w = .ok (.map es' ck) w) := by
  unfold mapGet at h
  split at h
  · injection h with h; subst h
    cases hx
    exact ⟨#[], rfl, fun j e hj => by simp at hj, .inl ⟨rfl, rfl⟩⟩
  · rename_i r
    split at h
    · rename_i es0 ck hget
      injection h with h; subst h
      cases hx with
      | map hσ =>
        obtain ⟨i', hi', hr⟩ := hw.live _ _ hget
        rw [hσ] at hi'; injection hi' with hi'; subst hi'
        obtain ⟨es', h1, h2, h3⟩ := hr
        refine ⟨es', h2, h3, .inr ⟨_, ck, rfl, ?_⟩⟩
        simp [getObj, Sem.run, h1]
    · cases h
  · cases h

include hY in
theorem lenMap_ok {t k e : TypeId} {ts : Array TypeId} {x : Operand} {g : Rd} {ti : TypeInfo} (h0 : ts[0]? = some t) (ht : Y.tys.get t = some (ti, .map k e)) (hx : rdO Y x = some g) : QOK P Y (.call { callee := .builtin .len, args := #[x], argTypes := ts }) (lenMap g) := by
  intro σ nt tm H w a hg htr hw v hv
  have h1 := rdO_ok hx hg htr
  obtain ⟨g1, g2⟩ := hY.tys _ _ _ ht
  unfold lenMap at hv
  split at hv
  · rename_i es hes
    injection hv with hv; subst hv
    obtain ⟨es', e1, e2, e3⟩ := mapGet_ok (P := P) hw h1 hes
    refine ⟨_, .int _ _, fun oper ho => run_builtin ho ?_⟩
    rcases e3 with ⟨q1, q2⟩ | ⟨r, ck, q1, q2⟩
    · subst q2
      simp [builtin, Builtin.len_, h0, q1, run_underlying g2, goInt, e1]
    · simp [builtin, Builtin.len_, h0, q1, run_underlying g2, goInt, e1, q2]
  · cases hv

end
end Go.Ax
