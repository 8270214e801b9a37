import Derived.Test.YtdlacmhfgnghbaaGreatDoorAxOps2
/- More operations that yield a value. -/
set_option linter.unusedVariables false
set_option linter.constructorNameAsVariable false
set_option linter.unusedSimpArgs false
namespace Go.Ax
section
variable {P : Program} {Y : Ty} (hY : TyOK P Y)

theorem not_ok {t : TypeId} {x : Operand} {g : Rd} (hx : rdO Y x = some g) : QOK P Y (.unOp .not t x) (fun tm _ => f1 notF g tm) := by
  intro σ nt tm H w a hg ht hw v hv
  obtain ⟨b, hb, hv⟩ := ob_eq_some (show ob _ _ none = some v from hv)
  injection hv with hv; subst hv
  have h1 := rdO_ok hx hg ht
  rw [vBool_some hb] at h1
  have h1 := h1.bool_eq
  refine ⟨_, .bool _, fun oper ho => ?_⟩
  cases b <;> simp [execOp, ho, h1, Op.unary]
theorem neg_ok {t : TypeId} {x : Operand} {g : Rd} (hx : rdO Y x = some g) : QOK P Y (.unOp .neg t x) (fun tm _ => f1 negF g tm) := by
  intro σ nt tm H w a hg ht hw v hv
  obtain ⟨b, hb, hv⟩ := ob_eq_some (show ob _ _ none = some v from hv)
  injection hv with hv; subst hv
  have h1 := rdO_ok hx hg ht
  rw [vInt_some hb] at h1
  have h1 := h1.int_eq
  refine ⟨_, .int _ _, fun oper ho => ?_⟩
  simp [execOp, ho, h1, Op.unary, Op.intArith, wrapF_eq, subF_eq]
theorem xor_ok {t : TypeId} {x : Operand} {g : Rd} (hx : rdO Y x = some g) : QOK P Y (.unOp .xor t x) (fun tm _ => f1 xorF g tm) := by
  intro σ nt tm H w a hg ht hw v hv
  obtain ⟨b, hb, hv⟩ := ob_eq_some (show ob _ _ none = some v from hv)
  have h1 := rdO_ok hx hg ht
  rw [vInt_some hb] at h1
  have h1 := h1.int_eq
  have hu : Op.unary .xor (.int b.1 b.2) = Op.intBits .xor b.1 (if b.1.signed then -1 else b.1.max) b.2 := rfl
  rw [hu, intBits_xor] at hv
  injection hv with hv; subst hv
  refine ⟨_, .int _ _, fun oper ho => ?_⟩
  simp only [execOp, ho, h1, hu, intBits_xor, pure_bind, Sem.run_pure]

theorem nil_ok {x : Operand} {g : Rd} (hx : rdO Y x = some g) : QOK P Y (.nilCheck x) (fun tm _ => f1 nilF g tm) := by
  intro σ nt tm H w a hg ht hw v hv
  have h1 := rdO_ok hx hg ht
  have hv' : ob (vPtr (g tm)) (fun a => some (Value.pointer (some a))) (ob (vFn (g tm)) (fun f => ob (fnId f.1) (fun i => some (Value.func (.func i) f.2.1 f.2.2)) none) none) = some v := hv
  cases hp : vPtr (g tm) with
  | some ad =>
    rw [hp] at hv'
    injection hv' with hv'; subst hv'
    rw [vPtr_some hp] at h1
    obtain ⟨i, hi, hs, he⟩ := h1.ptr_eq
    rw [he] at h1
    exact ⟨_, h1, fun oper ho => by simp [execOp, ho, he]⟩
  | none =>
    rw [hp] at hv'
    obtain ⟨f, hf, hv'⟩ := ob_eq_some (show ob _ _ none = some v from hv')
    obtain ⟨i, hi, hv'⟩ := ob_eq_some hv'
    injection hv' with hv'; subst hv'
    rw [vFn_some hf, fnId_some hi] at h1
    refine ⟨a.eval x, h1, fun oper ho => ?_⟩
    obtain ⟨y, hy⟩ : ∃ y, a.eval x = y := ⟨_, rfl⟩
    rw [hy] at h1
    cases h1
    simp [execOp, ho, hy]

theorem VR.sl_eq {σ : Sg} {a : Addr} {len cap : Nat} {x : Value} (h : VR σ (.slice (some a) len cap) x) : ∃ i off' cap', σ a.block = some i ∧ a.spot = none ∧ len ≤ cap ∧ SlOK i a.off cap off' cap' ∧
    x = .slice (some ⟨i.blk, off', none⟩) len cap' := by
  cases h with
  | sl h hl hs => exact ⟨_, _, _, h, rfl, hl, hs, rfl⟩
theorem SlOK.off {i : BI} {off cap off' cap' : Nat} (h : SlOK i off cap off' cap') (hc : 0 < cap) : off' = off + i.sh := by
  cases hg : i.gr with
  | false => exact (h.1 hg).1
  | true => exact (h.2 hg).2.2.1 hc

theorem Addr.add_none (b o n : Nat) : (⟨b, o, none⟩ : Addr).add n = ⟨b, o + n, none⟩ := by
  unfold Addr.add; split <;> simp_all

theorem addrF_some {off : Nat} {x v : Value} (h : addrF off x = some v) : ∃ a : Addr, x = .pointer (some a) ∧ a.spot = none ∧ v = .pointer (some ⟨a.block, a.off + off, none⟩) := by
  unfold addrF at h
  obtain ⟨a, ha, h⟩ := ob_eq_some h
  cases hs : a.spot with
  | some s => rw [hs] at h; cases h
  | none => rw [hs] at h; injection h with h; exact ⟨a, vPtr_some ha, hs, h.symm⟩

include hY in
theorem fieldAddr_ok {t : TypeId} {x : Operand} {f : Nat} {g : Rd} {ti fi : TypeInfo} {fs : Array Field} {fd : Field} {dd : TypeDesc} (ht : Y.tys.get t = some (ti, .struct fs)) (hf : fs[f]? = some fd)
    (hft : Y.tys.get fd.type = some (fi, dd)) (hz : Nat.beq fi.size 0 = false) (hx : rdO Y x = some g) : QOK P Y (.fieldAddr t x f) (fun tm _ => f1 (addrF fd.offset) g tm) := by
  intro σ nt tm H w a hg htr hw v hv
  obtain ⟨ad, e1, e2, e3⟩ := addrF_some (show addrF fd.offset (g tm) = some v from hv)
  have h1 := rdO_ok hx hg htr
  rw [e1] at h1
  obtain ⟨i, hi, hs, he⟩ := h1.ptr_eq
  subst e3
  obtain ⟨g1, g2⟩ := hY.tys _ _ _ ht
  obtain ⟨g3, g4⟩ := hY.tys _ _ _ hft
  rw [nbeq] at hz
  have hz' := of_decide_eq_false hz
  refine ⟨.pointer (some ⟨i.blk, ad.off + fd.offset + i.sh, none⟩), .ptr hi, fun oper ho => ?_⟩
  have hsz := run_sizeOf' (P := P) g3 w
  simp only [execOp, ho, he, Instr.fieldAt, Sem.run_bind, run_underlying g2, Result.andThen_ok, hf, Instr.sureAddr, Sem.run_pure, fieldPlace, hsz, if_neg hz', Addr.add_none]
  rw [show ad.off + i.sh + fd.offset = ad.off + fd.offset + i.sh by omega]

include hY in
theorem field_ok {t : TypeId} {x : Operand} {f : Nat} {g : Rd} {ti : TypeInfo} {fs : Array Field} {fd : Field} {p : PartF} (ht : Y.tys.get t = some (ti, .struct fs)) (hf : fs[f]? = some fd)
    (hp : partS Y fd.type = some p) (hx : rdO Y x = some g) : QOK P Y (.field t x f) (fun tm _ => f1 (fieldF p fd.offset) g tm) := by
  intro σ nt tm H w a hg htr hw v hv
  obtain ⟨cs, hcs, hv⟩ := ob_eq_some (show ob _ _ none = some v from hv)
  have h1 := rdO_ok hx hg htr
  rw [vAgg_some hcs] at h1
  obtain ⟨cs', he, hl⟩ := h1.agg_iff
  obtain ⟨v', r1, r2⟩ := partS_ok (P := P) hY hp hl hv w
  obtain ⟨g1, g2⟩ := hY.tys _ _ _ ht
  refine ⟨v', r1, fun oper ho => ?_⟩
  simp only [execOp, ho, he, Instr.field, Sem.run_bind, run_underlying g2, Result.andThen_ok, hf, asAgg, Sem.run_pure, r2]

theorem ixA_some {i : Value} {n j : Nat} (h : ixA i n = some j) : ∃ k, i = .int k (j : Int) ∧ j < n := by
  unfold ixA at h
  obtain ⟨p, hp, h⟩ := ob_eq_some h
  obtain ⟨m, hm, h⟩ := ob_eq_some h
  cases hb : Nat.blt m n with
  | false => rw [hb] at h; cases h
  | true =>
    rw [hb] at h; injection h with h; subst h
    rw [nblt] at hb
    refine ⟨p.1, ?_, of_decide_eq_true hb⟩
    rw [← iNat_some hm]; exact vInt_some hp

include hY in
theorem ixArr_ok {t e : TypeId} {n : Nat} {x j : Operand} {g h : Rd} {ti ei : TypeInfo} {ed : TypeDesc} (ht : Y.tys.get t = some (ti, .array n e)) (he : Y.tys.get e = some (ei, ed)) (hx : rdO Y x = some g) (hj : rdO Y j = some h) :
    QOK P Y (.indexAddr t x j) (fun tm _ => f2 (ixArr n ei.size) g h tm) := by
  intro σ nt tm H w a hg htr hw v hv
  obtain ⟨m, hm, hv⟩ := ob_eq_some (show ob _ _ none = some v from hv)
  obtain ⟨k, e1, hlt⟩ := ixA_some hm
  obtain ⟨ad, e2, e3, e4⟩ := addrF_some hv
  have h1 := rdO_ok hx hg htr
  have h2 := rdO_ok hj hg htr
  rw [e2] at h1
  rw [e1] at h2
  have h2 := h2.int_eq
  obtain ⟨i, hi, hs, he1⟩ := h1.ptr_eq
  subst e4
  obtain ⟨g1, g2⟩ := hY.tys _ _ _ ht
  obtain ⟨g3, g4⟩ := hY.tys _ _ _ he
  refine ⟨.pointer (some ⟨i.blk, ad.off + Nat.mul m ei.size + i.sh, none⟩), .ptr hi, fun oper ho => ?_⟩
  have hsz := run_sizeOf' (P := P) g3 w
  have hin : 0 ≤ (m : Int) ∧ (m : Int) < (n : Nat) := ⟨by omega, by omega⟩
  have hmm : Nat.mul m ei.size = m * ei.size := rfl
  simp only [execOp, ho, he1, h2, Instr.indexAt, asIntOf, Sem.run_bind, Sem.run_pure, run_underlying g2, Result.andThen_ok, Instr.sureAddr, Sem.run_ite, if_pos hin, hsz, Addr.add_none, Int.toNat_natCast, hmm]
  rw [show ad.off + i.sh + m * ei.size = ad.off + m * ei.size + i.sh by omega]

include hY in
theorem ixSl_ok {t e : TypeId} {x j : Operand} {g h : Rd} {ti ei : TypeInfo} {ed : TypeDesc} (ht : Y.tys.get t = some (ti, .slice e)) (he : Y.tys.get e = some (ei, ed)) (hx : rdO Y x = some g) (hj : rdO Y j = some h) :
    QOK P Y (.indexAddr t x j) (fun tm _ => f2 (ixSl ei.size) g h tm) := by
  intro σ nt tm H w a hg htr hw v hv
  obtain ⟨sl, hsl, hv⟩ := ob_eq_some (show ob _ _ none = some v from hv)
  obtain ⟨ad, had, hv⟩ := ob_eq_some hv
  obtain ⟨m, hm, hv⟩ := ob_eq_some hv
  obtain ⟨k, e1, hlt⟩ := ixA_some hm
  have h1 := rdO_ok hx hg htr
  have h2 := rdO_ok hj hg htr
  rw [vSl_some hsl, had] at h1
  rw [e1] at h2
  have h2 := h2.int_eq
  obtain ⟨i, off', cap', hi, hs, hlc, hok, he1⟩ := h1.sl_eq
  have hoff := hok.off (show 0 < sl.2.2 by omega)
  rw [hs] at hv
  injection hv with hv; subst hv
  obtain ⟨g1, g2⟩ := hY.tys _ _ _ ht
  obtain ⟨g3, g4⟩ := hY.tys _ _ _ he
  refine ⟨.pointer (some ⟨i.blk, ad.off + Nat.mul m ei.size + i.sh, none⟩), .ptr hi, fun oper ho => ?_⟩
  have hsz := run_sizeOf' (P := P) g3 w
  have hin : 0 ≤ (m : Int) ∧ (m : Int) < ((sl.2.1 : Nat) : Int) := ⟨by omega, by omega⟩
  have hmm : Nat.mul m ei.size = m * ei.size := rfl
  simp only [execOp, ho, he1, h2, Instr.indexAt, asIntOf, Sem.run_bind, Sem.run_pure, run_underlying g2, Result.andThen_ok, Instr.sureAddr, Sem.run_ite, if_pos hin, hsz, Addr.add_none, Int.toNat_natCast, hmm]
  rw [show off' + m * ei.size = ad.off + m * ei.size + i.sh by omega]

include hY in
theorem indexArr_ok {t e : TypeId} {n : Nat} {x j : Operand} {g h : Rd} {ti ei : TypeInfo} {ed : TypeDesc} {p : PartF} (ht : Y.tys.get t = some (ti, .array n e)) (he : Y.tys.get e = some (ei, ed)) (hp : partS Y e = some p)
    (hx : rdO Y x = some g) (hj : rdO Y j = some h) : QOK P Y (.index t x j) (fun tm _ => f2 (indexArr n ei.size p) g h tm) := by
  intro σ nt tm H w a hg htr hw v hv
  obtain ⟨cs, hcs, hv⟩ := ob_eq_some (show ob _ _ none = some v from hv)
  obtain ⟨m, hm, hv⟩ := ob_eq_some hv
  obtain ⟨k, e1, hlt⟩ := ixA_some hm
  have h1 := rdO_ok hx hg htr
  have h2 := rdO_ok hj hg htr
  rw [vAgg_some hcs] at h1
  rw [e1] at h2
  have h2 := h2.int_eq
  obtain ⟨cs', he1, hl⟩ := h1.agg_iff
  obtain ⟨v', r1, r2⟩ := partS_ok (P := P) hY hp hl hv w
  obtain ⟨g1, g2⟩ := hY.tys _ _ _ ht
  obtain ⟨g3, g4⟩ := hY.tys _ _ _ he
  refine ⟨v', r1, fun oper ho => ?_⟩
  have hsz := run_sizeOf' (P := P) g3 w
  have hin : 0 ≤ (m : Int) ∧ (m : Int) < ((n : Nat) : Int) := ⟨by omega, by omega⟩
  have hmm : Nat.mul m ei.size = m * ei.size := rfl
  rw [hmm] at r2
  simp only [execOp, ho, he1, h2, Instr.index, asIntOf, Sem.run_bind, Sem.run_pure, run_underlying g2, Result.andThen_ok, Sem.run_ite, if_pos hin, hsz, Int.toNat_natCast, r2]

include hY in
theorem indexStr_ok {t : TypeId} {x j : Operand} {g h : Rd} {ti : TypeInfo} (ht : Y.tys.get t = some (ti, .string)) (hx : rdO Y x = some g) (hj : rdO Y j = some h) : QOK P Y (.index t x j) (fun tm _ => f2 indexStr g h tm) := by
  intro σ nt tm H w a hg htr hw v hv
  obtain ⟨s, hs, hv⟩ := ob_eq_some (show ob _ _ none = some v from hv)
  obtain ⟨q, hq, hv⟩ := ob_eq_some hv
  obtain ⟨m, hm, hv⟩ := ob_eq_some hv
  obtain ⟨b, hb, hv⟩ := ob_eq_some hv
  injection hv with hv; subst hv
  have h1 := rdO_ok hx hg htr
  have h2 := rdO_ok hj hg htr
  rw [vStr_some hs] at h1
  rw [vInt_some hq, iNat_some hm] at h2
  have h1 := h1.string_eq
  have h2 := h2.int_eq
  rw [nth_eq] at hb
  obtain ⟨g1, g2⟩ := hY.tys _ _ _ ht
  refine ⟨_, .int _ _, fun oper ho => ?_⟩
  have hb' : s[m]? = some b := by
    have hlt : m < s.data.toList.length := by
      rcases Nat.lt_or_ge m s.data.toList.length with h | h
      · exact h
      · rw [List.getElem?_eq_none h] at hb; cases hb
    have hlt' : m < s.size := by rw [Array.length_toList] at hlt; exact hlt
    rw [List.getElem?_eq_getElem hlt] at hb
    injection hb with hb
    rw [getElem?_pos s m hlt', ← hb]
    rfl
  have h0 : 0 ≤ (m : Int) := by omega
  simp only [execOp, ho, h1, h2, Instr.index, asIntOf, Sem.run_bind, Sem.run_pure, run_underlying g2, Result.andThen_ok, if_pos h0, Int.toNat_natCast, hb']
  rfl

theorem extract_ok {x : Operand} {i : Nat} {g : Rd} (hx : rdO Y x = some g) : QOK P Y (.extract x i) (fun tm _ => f1 (extF i) g tm) := by
  intro σ nt tm H w a hg htr hw v hv
  obtain ⟨vs, hvs, hv⟩ := ob_eq_some (show ob _ _ none = some v from hv)
  have h1 := rdO_ok hx hg htr
  rw [vTup_some hvs] at h1
  obtain ⟨vs', he, hl⟩ := h1.tuple_iff
  rw [nth_eq] at hv
  obtain ⟨v', r1, r2⟩ := hl.2 i v hv
  refine ⟨v', r2, fun oper ho => ?_⟩
  have r1' : vs'[i]? = some v' := by simpa using r1
  simp [execOp, ho, he, Instr.extract, r1']

/-! ### slices of strings, slices, arrays -/

/-- an optional bound -/
def OptR (σ : Sg) : Option Value → Option Value → Prop
  | none, none => True
  | some v, some v' => VR σ v v'
  | _, _ => False
theorem rdOO_ok {x : Option Operand} {g : Option Rd} (h : rdOO Y x = some g) {σ : Sg} {nt : Nat} {tm : TT} {a : Act} (hg : Glob Y.ng σ) (ht : TR σ nt tm a.tmps) : OptR σ (rdOpt tm g) (x.map a.eval) := by
  cases x with
  | none => injection h with h; subst h; trivial
  | some x =>
    simp only [rdOO] at h
    split at h
    · cases h
    · rename_i g' hx
      injection h with h; subst h
      exact rdO_ok hx hg ht

theorem boundA_some {σ : Sg} {x x' : Option Value} {dflt y n : Nat} (hx : OptR σ x x') (h : boundA x dflt y = some n) : (x = none ∧ x' = none ∧ n = dflt) ∨ (∃ k, x = some (.int k (n : Int)) ∧ x' = some (.int k (n : Int)) ∧ n ≤ y) := by
  unfold boundA at h
  split at h
  · injection h with h
    cases x' with
    | none => exact .inl ⟨rfl, rfl, h.symm⟩
    | some _ => exact hx.elim
  · rename_i k i
    cases hb : (decide (0 ≤ i) && decide (i ≤ y)) with
    | false => rw [hb] at h; cases h
    | true =>
      rw [hb] at h; injection h with h; subst h
      simp only [Bool.and_eq_true, decide_eq_true_eq] at hb
      right
      refine ⟨k, ?_, ?_, by omega⟩
      · rw [Int.toNat_of_nonneg hb.1]
      · cases x' with
        | none => exact hx.elim
        | some v => rw [VR.int_eq hx, Int.toNat_of_nonneg hb.1]
  · cases h

theorem run_sliceBound {k : IntKind} {n y : Nat} {c : BoundsCode} (h : n ≤ y) (w : World) : (Instr.sliceBound (.int k (n : Int)) y c).run P w = .ok n w := by
  have h' : 0 ≤ (n : Int) ∧ (n : Int) ≤ y := ⟨by omega, by omega⟩
  simp only [Instr.sliceBound, asIntOf, Sem.run_bind, Sem.run_pure, Result.andThen_ok, Sem.run_ite, if_pos h', Int.toNat_natCast]

/-- the bounds, with a capacity that may be greater than the known one: where no max is given the third is the whole capacity -/
theorem boundsA_ok {σ : Sg} {len cap l h m : Nat} {lo hi mx lo' hi' mx' : Option Value} (h1 : OptR σ lo lo') (h2 : OptR σ hi hi') (h3 : OptR σ mx mx') (hb : boundsA len cap lo hi mx = some (l, h, m)) (isSlice : Bool)
    (cap' : Nat) (hc : cap ≤ cap') (hlc : len ≤ cap) (w : World) :
    ∃ m', (Instr.sliceBounds isSlice len cap' lo' hi' mx').run P w = .ok (l, h, m') w ∧ l ≤ h ∧ h ≤ m ∧ m ≤ cap ∧ m ≤ m' ∧ ((mx = none ∧ m = cap ∧ m' = cap') ∨ m' = m) := by
  unfold boundsA at hb
  split at hb
  · cases hb
  · rename_i m0 hm0
    split at hb
    · cases hb
    · rename_i h0 hh0
      split at hb
      · cases hb
      · rename_i l0 hl0
        injection hb with hb
        simp only [Prod.mk.injEq] at hb
        obtain ⟨rfl, rfl, rfl⟩ := hb
        have hmx : (mx = none ∧ mx' = none ∧ m0 = cap) ∨ (∃ k hv, mx = some (.int k (m0 : Int)) ∧ mx' = some (.int k (m0 : Int)) ∧ m0 ≤ cap ∧ hi = some hv) := by
          split at hm0
          · cases hm0
          · rename_i hne
            rcases boundA_some h3 hm0 with ⟨a, b, c⟩ | ⟨k, a, b, c⟩
            · exact .inl ⟨a, b, c⟩
            · right
              cases hi with
              | none => exact absurd rfl (hne _ a)
              | some hv => exact ⟨k, hv, a, b, c, rfl⟩
        have hhi := boundA_some h2 hh0
        have hlo := boundA_some h1 hl0
        have hlh : l0 ≤ h0 := by
          rcases hlo with ⟨_, _, e⟩ | ⟨_, _, _, e⟩
          · omega
          · exact e
        rcases hmx with ⟨rfl, rfl, rfl⟩ | ⟨km, hv, rfl, rfl, hmc, rfl⟩
        · refine ⟨cap', ?_, hlh, ?_, Nat.le_refl _, hc, .inl ⟨rfl, rfl, rfl⟩⟩
          · rcases hhi with ⟨rfl, rfl, rfl⟩ | ⟨kh, rfl, rfl, hhm⟩ <;> rcases hlo with ⟨rfl, rfl, rfl⟩ | ⟨kl, rfl, rfl, hll⟩
            · simp only [Instr.sliceBounds, Sem.run_bind, Sem.run_pure, Result.andThen_ok]
            · simp only [Instr.sliceBounds, Sem.run_bind, Sem.run_pure, Result.andThen_ok, run_sliceBound hll]
            · simp only [Instr.sliceBounds, Sem.run_bind, Sem.run_pure, Result.andThen_ok, run_sliceBound (Nat.le_trans hhm hc)]
            · simp only [Instr.sliceBounds, Sem.run_bind, Sem.run_pure, Result.andThen_ok, run_sliceBound (Nat.le_trans hhm hc), run_sliceBound hll]
          · rcases hhi with ⟨_, _, e⟩ | ⟨_, _, _, e⟩
            · omega
            · exact e
        · rcases hhi with ⟨e, _, _⟩ | ⟨kh, e, e', hhm⟩
          · cases e
          · refine ⟨m0, ?_, hlh, hhm, hmc, Nat.le_refl _, .inr rfl⟩
            subst e'
            rcases hlo with ⟨rfl, rfl, rfl⟩ | ⟨kl, rfl, rfl, hll⟩
            · simp only [Instr.sliceBounds, Sem.run_bind, Sem.run_pure, Result.andThen_ok, run_sliceBound (Nat.le_trans hmc hc), run_sliceBound hhm]
            · simp only [Instr.sliceBounds, Sem.run_bind, Sem.run_pure, Result.andThen_ok, run_sliceBound (Nat.le_trans hmc hc), run_sliceBound hhm, run_sliceBound hll]

end
end Go.Ax
