import Derived.Test.YtdlacmhfgnghbaaGreatDoorAxOps1
import Derived.Laws.Build
/- The operations that yield a value: what each is turned into is right. -/
set_option linter.unusedVariables false
set_option linter.constructorNameAsVariable false
set_option linter.unusedSimpArgs false
namespace Go.Ax

def QOK (P : Program) (Y : Ty) (o : Op) (f : TT → Hp → Option Value) : Prop :=
  ∀ (σ : Sg) (nt : Nat) (tm : TT) (H : Hp) (w : World) (a : Act), Glob Y.ng σ → TR σ nt tm a.tmps → WR σ H w → ∀ v, f tm H = some v →
    ∃ v', VR σ v v' ∧ ∀ oper : Oper, oper.op = o → (execOp a.eval oper).run P w = .ok (.value v') w

section
variable {P : Program} {Y : Ty} (hY : TyOK P Y)

/-- an operation that is 'v' of some Sem -/
theorem run_v {s : Sem Value} {w : World} {x : Value} (h : s.run P w = .ok x w) : (do pure (Next.value (← s)) : Sem Next).run P w = .ok (.value x) w := by
  simp [h]

theorem move_ok {x : Operand} {g : Rd} (h : rdO Y x = some g) : QOK P Y (.move x) (fun tm _ => some (g tm)) := by
  intro σ nt tm H w a hg ht hw v hv
  injection hv with hv; subst hv
  refine ⟨a.eval x, rdO_ok h hg ht, fun oper ho => ?_⟩
  simp [execOp, ho]
theorem assign_ok {x : Operand} {g : Rd} (h : rdO Y x = some g) : QOK P Y (.assign x) (fun tm _ => some (g tm)) := by
  intro σ nt tm H w a hg ht hw v hv
  injection hv with hv; subst hv
  refine ⟨a.eval x, rdO_ok h hg ht, fun oper ho => ?_⟩
  simp [execOp, ho]

theorem VR.bool_eq {σ : Sg} {b : Bool} {x : Value} (h : VR σ (.bool b) x) : x = .bool b := by cases h; rfl
theorem VR.int_eq {σ : Sg} {k : IntKind} {n : Int} {x : Value} (h : VR σ (.int k n) x) : x = .int k n := by cases h; rfl
theorem VR.string_eq {σ : Sg} {s : ByteArray} {x : Value} (h : VR σ (.string s) x) : x = .string s := by cases h; rfl
theorem VR.ptr_eq {σ : Sg} {a : Addr} {x : Value} (h : VR σ (.pointer (some a)) x) : ∃ i, σ a.block = some i ∧ a.spot = none ∧ x = .pointer (some ⟨i.blk, a.off + i.sh, none⟩) := by
  cases h with
  | ptr h => exact ⟨_, h, rfl, rfl⟩

theorem pick_ok {c x y : Operand} {gc gx gy : Rd} (hc : rdO Y c = some gc) (hx : rdO Y x = some gx) (hy : rdO Y y = some gy) : QOK P Y (.pick c x y) (fun tm _ => pickF gc gx gy tm) := by
  intro σ nt tm H w a hg ht hw v hv
  obtain ⟨b, hb, hv⟩ := ob_eq_some (show ob _ _ none = some v from hv)
  have h1 := rdO_ok hc hg ht
  rw [vBool_some hb] at h1
  have h1 := h1.bool_eq
  cases b with
  | true =>
    injection hv with hv; subst hv
    exact ⟨_, rdO_ok hx hg ht, fun oper ho => by simp [execOp, ho, h1, asBool]⟩
  | false =>
    injection hv with hv; subst hv
    exact ⟨_, rdO_ok hy hg ht, fun oper ho => by simp [execOp, ho, h1, asBool]⟩

include hY in
theorem load_ok {t : TypeId} {x : Operand} {p : PartF} {g : Rd} (hp : partS Y t = some p) (hx : rdO Y x = some g) : QOK P Y (.load t x) (ldQ p g) := by
  intro σ nt tm H w a hg ht hw v hv
  obtain ⟨ad, ha, hl⟩ := ob_eq_some (show ob _ _ none = some v from hv)
  have h1 := rdO_ok hx hg ht
  rw [vPtr_some ha] at h1
  obtain ⟨i, hi, hs, he⟩ := h1.ptr_eq
  obtain ⟨b, off, spot⟩ := ad
  simp only at hs hi he
  subst hs
  obtain ⟨v', hr, hrun⟩ := ldF_ok (P := P) hY hp hw hi hl
  exact ⟨v', hr, fun oper ho => by simp [execOp, ho, Instr.loadAt, Instr.sureAddr, he, hrun]⟩

/-! ### numbers and strings -/

theorem intS_ok {op : BinOp} {f : IntF} (h : intS op = some f) (t : TypeId) (k : IntKind) (a b : Int) (v : Value) (hv : f k a b = some v) (w : World) :
    (binOp op t (.int k a) (.int k b)).run P w = .ok v w ∧ ground0 v = true := by
  cases op <;> simp only [intS, Option.some.injEq] at h <;> first | (cases h; done) | subst h
  all_goals simp only [addF_eq, subF_eq, mulF_eq, quoF_eq, remF_eq, wrapF_eq, eqF_eq, ltF_eq, leF_eq] at hv
  case add => injection hv with hv; subst hv; exact ⟨by simp [binOp_add, Op.intArith], rfl⟩
  case sub => injection hv with hv; subst hv; exact ⟨by simp [binOp_sub, Op.intArith], rfl⟩
  case mul => injection hv with hv; subst hv; exact ⟨by simp [binOp_mul, Op.intArith], rfl⟩
  case quo =>
    cases hb : (b == 0) with
    | true => rw [hb] at hv; cases hv
    | false => rw [hb] at hv; injection hv with hv; subst hv; exact ⟨by simp [binOp_quo, Op.intDiv, show ¬ b = 0 by simpa using hb], rfl⟩
  case rem =>
    cases hb : (b == 0) with
    | true => rw [hb] at hv; cases hv
    | false => rw [hb] at hv; injection hv with hv; subst hv; exact ⟨by simp [binOp_rem, Op.intDiv, show ¬ b = 0 by simpa using hb], rfl⟩
  case and => rw [intBits_and] at hv; injection hv with hv; subst hv; exact ⟨by simp [binOp_and, intBits_and], rfl⟩
  case or => rw [intBits_or] at hv; injection hv with hv; subst hv; exact ⟨by simp [binOp_or, intBits_or], rfl⟩
  case xor => rw [intBits_xor] at hv; injection hv with hv; subst hv; exact ⟨by simp [binOp_xor, intBits_xor], rfl⟩
  case andNot => rw [intBits_andNot] at hv; injection hv with hv; subst hv; exact ⟨by simp [binOp_andNot, intBits_andNot], rfl⟩
  case eql => injection hv with hv; subst hv; exact ⟨by simp [binOp_eql], rfl⟩
  case neq => injection hv with hv; subst hv; exact ⟨by simp [binOp_neq, bne], rfl⟩
  case lss => injection hv with hv; subst hv; exact ⟨by simp [binOp_lss], rfl⟩
  case leq => injection hv with hv; subst hv; exact ⟨by simp [binOp_leq], rfl⟩
  case gtr => injection hv with hv; subst hv; exact ⟨by simp [binOp_gtr], rfl⟩
  case geq => injection hv with hv; subst hv; exact ⟨by simp [binOp_geq], rfl⟩

theorem binInt_some {f : IntF} {x y v : Value} (h : binInt f x y = some v) : ∃ k p q, x = .int k p ∧ y = .int k q ∧ f k p q = some v := by
  unfold binInt at h
  obtain ⟨p, hp, h⟩ := ob_eq_some h
  obtain ⟨q, hq, h⟩ := ob_eq_some h
  cases hk : ikEq p.1 q.1 with
  | false => rw [hk] at h; cases h
  | true =>
    rw [hk] at h
    refine ⟨p.1, p.2, q.2, vInt_some hp, ?_, h⟩
    rw [ikEq_iff.1 hk]; exact vInt_some hq

theorem strS_ok {op : BinOp} {f : List UInt8 → List UInt8 → Option Value} (h : strS op = some f) (t : TypeId) (a b : ByteArray) (v : Value) (hv : f a.data.toList b.data.toList = some v) (w : World) :
    (binOp op t (.string a) (.string b)).run P w = .ok v w ∧ ground0 v = true := by
  have ea : a.toList = a.data.toList := ByteArray.toList_eq a
  have eb : b.toList = b.data.toList := ByteArray.toList_eq b
  cases op <;> simp only [strS, Option.some.injEq] at h <;> first | (cases h; done) | subst h
  case add =>
    dsimp only at hv
    cases hb : Nat.blt 1000000000 (Nat.add a.data.toList.length b.data.toList.length) with
    | true => rw [hb] at hv; cases hv
    | false =>
      rw [hb] at hv; injection hv with hv; subst hv
      rw [nblt] at hb
      have hb' := of_decide_eq_false hb
      have hsz : a.size + b.size ≤ 1000000000 := by
        have h1 : a.data.toList.length = a.size := Array.length_toList
        have h2 : b.data.toList.length = b.size := Array.length_toList
        have h3 : Nat.add a.data.toList.length b.data.toList.length = a.data.toList.length + b.data.toList.length := rfl
        omega
      refine ⟨?_, rfl⟩
      have hno : ¬ (((a.size + b.size : Nat) : Int) > IntKind.i64.max) := by
        rw [IntKind.max_i64]; omega
      have e : a ++ b = (⟨(a.data.toList ++ b.data.toList).toArray⟩ : ByteArray) := by
        apply ByteArray.ext
        simp [ByteArray.data_append]
      show (Op.stringOp .add a b).run P w = _
      simp only [Op.stringOp, if_neg hno, Sem.run_pure, e]
  case eql => injection hv with hv; subst hv; refine ⟨?_, rfl⟩; show (Op.stringOp .eql a b).run P w = _; simp [Op.stringOp, ea, eb]
  case neq => injection hv with hv; subst hv; refine ⟨?_, rfl⟩; show (Op.stringOp .neq a b).run P w = _; simp [Op.stringOp, ea, eb]
  case lss => injection hv with hv; subst hv; refine ⟨?_, rfl⟩; show (Op.stringOp .lss a b).run P w = _; simp [Op.stringOp, ea, eb]
  case leq => injection hv with hv; subst hv; refine ⟨?_, rfl⟩; show (Op.stringOp .leq a b).run P w = _; simp [Op.stringOp, ea, eb]
  case gtr => injection hv with hv; subst hv; refine ⟨?_, rfl⟩; show (Op.stringOp .gtr a b).run P w = _; simp [Op.stringOp, ea, eb]
  case geq => injection hv with hv; subst hv; refine ⟨?_, rfl⟩; show (Op.stringOp .geq a b).run P w = _; simp [Op.stringOp, ea, eb]

theorem binStr_some {f : List UInt8 → List UInt8 → Option Value} {x y v : Value} (h : binStr f x y = some v) : ∃ p q, x = .string p ∧ y = .string q ∧ f p.data.toList q.data.toList = some v := by
  unfold binStr at h
  split at h
  · exact ⟨_, _, rfl, rfl, h⟩
  · cases h

/-- what is asked of a binary operation -/
def BinOK (P : Program) (op : BinOp) (t : TypeId) (cst : Bool) (f : ValF) : Prop :=
  ∀ (σ : Sg) (x y x' y' v : Value) (ox oy : Operand), (cst = true → isConstO ox = true ∨ isConstO oy = true) → VR σ x x' → VR σ y y' → f x y = some v → ∀ w : World, ∃ v', VR σ v v' ∧
    (do eqGuard op t ox oy x' y'; binOp op t x' y' : Sem Value).run P w = .ok v' w

theorem bin_int {op : BinOp} {f : IntF} (h : intS op = some f) (t : TypeId) (cst : Bool) : BinOK P op t cst (binInt f) := by
  intro σ x y x' y' v ox oy _ hx hy hv w
  obtain ⟨k, p, q, rfl, rfl, hv2⟩ := binInt_some hv
  cases hx; cases hy
  obtain ⟨h1, h2⟩ := intS_ok (P := P) h t k p q v hv2 w
  exact ⟨v, VR.of_ground0 v h2, by simp [eqGuard_at_int, h1]⟩
theorem bin_str {op : BinOp} {f : List UInt8 → List UInt8 → Option Value} (h : strS op = some f) (t : TypeId) (cst : Bool) : BinOK P op t cst (binStr f) := by
  intro σ x y x' y' v ox oy _ hx hy hv w
  obtain ⟨p, q, rfl, rfl, hv2⟩ := binStr_some hv
  cases hx; cases hy
  obtain ⟨h1, h2⟩ := strS_ok (P := P) h t p q v hv2 w
  exact ⟨v, VR.of_ground0 v h2, by simp [eqGuard_at_string, h1]⟩
theorem binShift_some {f : IntKind → Int → Nat → Value} {x y v : Value} (h : binShift f x y = some v) :
    ∃ k p k' n, x = .int k p ∧ y = .int k' ((n : Nat) : Int) ∧ v = f k p (min n k.bits) := by
  unfold binShift at h
  obtain ⟨p, hp, h⟩ := ob_eq_some h
  obtain ⟨q, hq, h⟩ := ob_eq_some h
  obtain ⟨n, hn, h⟩ := ob_eq_some h
  injection h with h
  refine ⟨p.1, p.2, q.1, n, vInt_some hp, ?_, ?_⟩
  · rw [← iNat_some hn]; exact vInt_some hq
  · exact h.symm
theorem bin_shl (t : TypeId) (cst : Bool) : BinOK P .shl t cst (binShift fun k a n => .int k (wrapF k (mulF a (.ofNat (Nat.pow 2 n))))) := by
  intro σ x y x' y' v ox oy _ hx hy hv w
  obtain ⟨k, p, k', n, rfl, rfl, rfl⟩ := binShift_some hv
  cases hx; cases hy
  refine ⟨_, .int k _, ?_⟩
  have e : (Int.ofNat (Nat.pow 2 (min n k.bits)) : Int) = 2 ^ (min n k.bits) := (two_pow_cast _).symm
  have hn : ¬ ((n : Int) < 0) := by omega
  simp only [eqGuard_at_int, binOp_shl, Op.shift, wrapF_eq, mulF_eq, e, if_neg hn, Int.toNat_natCast, pure_bind, Sem.run_pure]
theorem bin_shr (t : TypeId) (cst : Bool) : BinOK P .shr t cst (binShift fun k a n => .int k (shrF a (Nat.pow 2 n))) := by
  intro σ x y x' y' v ox oy _ hx hy hv w
  obtain ⟨k, p, k', n, rfl, rfl, rfl⟩ := binShift_some hv
  cases hx; cases hy
  refine ⟨_, .int k _, ?_⟩
  have e := shrF_eq p (min n k.bits)
  have hn : ¬ ((n : Int) < 0) := by omega
  have e' : Nat.pow 2 (min n k.bits) = 2 ^ (min n k.bits) := rfl
  simp only [eqGuard_at_int, binOp_shr, Op.shift, if_neg hn, Int.toNat_natCast, pure_bind, Sem.run_pure, e', e]

/-- the values that '==' and '!=' are asked of here: not two nil interface values, not two numbers or strings -/
theorem run_eqGuard_of {op : BinOp} {t : TypeId} {ox oy : Operand} {x y : Value} (w : World) (h : ¬ (x = .nilIface ∧ y = .nilIface)) (ha : ∀ xs ys, x = .agg xs → y = .agg ys → P.eqGuardType P.depth t = false) :
    (eqGuard op t ox oy x y).run P w = .ok () w := by
  cases x with
  | nilIface =>
    cases y <;> first | (exact absurd ⟨rfl, rfl⟩ h) | (cases op <;> simp [eqGuard])
  | agg xs =>
    cases y with
    | agg ys => exact run_eqGuard_agg w op t ox oy xs ys (ha xs ys rfl rfl)
    | _ => cases op <;> simp [eqGuard]
  | _ => cases op <;> simp [eqGuard]

/-- an equality of the model's own gives '==' and '!=' -/
theorem bin_eq {t : TypeId} {r : EqF} (hr : EqOK P t 6 r) (hnil : ∀ x y b, r x y = some b → ¬ (x = .nilIface ∧ y = .nilIface)) (hag : ∀ xs ys b, r (.agg xs) (.agg ys) = some b → P.eqGuardType P.depth t = false)
    (hshape : ∀ x y b, r x y = some b → (∀ k m k' n, x = .int k m → y ≠ .int k' n) ∧ (∀ p q, x = .string p → y ≠ .string q)) (cst : Bool) : BinOK P .eql t cst (binEq r) ∧ BinOK P .neq t cst (binNe r) := by
  have key : ∀ (σ : Sg) (x y x' y' : Value) (b : Bool) (op : BinOp) (ox oy : Operand), VR σ x x' → VR σ y y' → r x y = some b → ∀ w : World,
      (eqGuard op t ox oy x' y').run P w = .ok () w ∧ (Op.equal t x' y').run P w = .ok b w ∧ (binOp .eql t x' y' = do pure (.bool (← Op.equal t x' y'))) ∧ (binOp .neq t x' y' = do pure (.bool (!(← Op.equal t x' y')))) := by
    intro σ x y x' y' b op ox oy hx hy he w
    have h1 := hnil x y b he
    obtain ⟨h2, h3⟩ := hshape x y b he
    refine ⟨run_eqGuard_of w ?_ ?_, hr σ x y x' y' b hx hy he 10000 w (by omega), ?_⟩
    · rintro ⟨rfl, rfl⟩
      cases hx; cases hy
      exact h1 ⟨rfl, rfl⟩
    · rintro xs ys rfl rfl
      cases hx with
      | agg cs _ _ _ =>
        cases hy with
        | agg ds _ _ _ => exact hag cs ds b he
    · cases hx <;> cases hy <;> first | (exact ⟨rfl, rfl⟩) | (exact absurd rfl (h2 _ _ _ _ rfl)) | (exact absurd rfl (h3 _ _ rfl))
  constructor
  · intro σ x y x' y' v ox oy _ hx hy hv w
    unfold binEq at hv
    split at hv
    · rename_i b hb
      injection hv with hv; subst hv
      obtain ⟨g1, g2, g3, g4⟩ := key σ x y x' y' b .eql ox oy hx hy hb w
      exact ⟨_, .bool b, by simp only [Sem.run_bind, g1, Result.andThen_ok, g3, g2, Sem.run_pure]⟩
    · cases hv
  · intro σ x y x' y' v ox oy _ hx hy hv w
    unfold binNe at hv
    split at hv
    · rename_i b hb
      injection hv with hv; subst hv
      obtain ⟨g1, g2, g3, g4⟩ := key σ x y x' y' b .neq ox oy hx hy hb w
      exact ⟨_, .bool (!b), by simp only [Sem.run_bind, g1, Result.andThen_ok, g4, g2, Sem.run_pure]⟩
    · cases hv

/-- two values of an interface type, one of them written as nil -/
theorem bin_iface {t : TypeId} {ms : Array (String × TypeId)} (h : P.underlying t = some (.interface ms)) : BinOK P .eql t true (binEq eqNilIface) ∧ BinOK P .neq t true (binNe eqNilIface) := by
  have e1 : ∀ (w : World) (n : Nat), (Op.equalIn (n + 1) t .nilIface .nilIface).run P w = .ok true w := fun w n => by simp [Op.equalIn, run_underlying h]
  have e2 : ∀ (w : World) (n : Nat) (u : TypeId) (z : Value), (Op.equalIn (n + 1) t .nilIface (.iface u z)).run P w = .ok false w := fun w n u z => by simp [Op.equalIn, run_underlying h]
  have e3 : ∀ (w : World) (n : Nat) (u : TypeId) (z : Value), (Op.equalIn (n + 1) t (.iface u z) .nilIface).run P w = .ok false w := fun w n u z => by simp [Op.equalIn, run_underlying h]
  have key : ∀ (σ : Sg) (x y x' y' : Value) (b : Bool) (op : BinOp) (ox oy : Operand), isConstO ox = true ∨ isConstO oy = true → VR σ x x' → VR σ y y' → eqNilIface x y = some b → ∀ w : World,
      (eqGuard op t ox oy x' y').run P w = .ok () w ∧ (Op.equal t x' y').run P w = .ok b w ∧ (binOp .eql t x' y' = do pure (.bool (← Op.equal t x' y'))) ∧ (binOp .neq t x' y' = do pure (.bool (!(← Op.equal t x' y')))) := by
    intro σ x y x' y' b op ox oy hc hx hy he w
    unfold eqNilIface at he
    split at he
    · injection he with he; subst he
      cases hx; cases hy
      refine ⟨?_, ?_, rfl, rfl⟩
      · rcases hc with hc | hc
        · cases ox <;> first | (cases hc; done) | skip
          cases op <;> simp [eqGuard]
        · cases oy <;> first | (cases hc; done) | skip
          cases op <;> cases ox <;> simp [eqGuard]
      · exact e1 w 9999
    · injection he with he; subst he
      cases hx; cases hy
      exact ⟨by cases op <;> simp [eqGuard], e2 w 9999 _ _, rfl, rfl⟩
    · injection he with he; subst he
      cases hx; cases hy
      exact ⟨by cases op <;> simp [eqGuard], e3 w 9999 _ _, rfl, rfl⟩
    · cases he
  constructor
  · intro σ x y x' y' v ox oy hc hx hy hv w
    unfold binEq at hv
    split at hv
    · rename_i b hb
      injection hv with hv; subst hv
      obtain ⟨g1, g2, g3, g4⟩ := key σ x y x' y' b .eql ox oy (hc rfl) hx hy hb w
      exact ⟨_, .bool b, by simp only [Sem.run_bind, g1, Result.andThen_ok, g3, g2, Sem.run_pure]⟩
    · cases hv
  · intro σ x y x' y' v ox oy hc hx hy hv w
    unfold binNe at hv
    split at hv
    · rename_i b hb
      injection hv with hv; subst hv
      obtain ⟨g1, g2, g3, g4⟩ := key σ x y x' y' b .neq ox oy (hc rfl) hx hy hb w
      exact ⟨_, .bool (!b), by simp only [Sem.run_bind, g1, Result.andThen_ok, g4, g2, Sem.run_pure]⟩
    · cases hv

include hY in
/-- what eqS gives at a type that is neither a number nor a string -/
theorem eqS_shape {d : Nat} {t : TypeId} {r : EqF} (h : eqS Y d t = some r) (hni : ∀ k, P.underlying t ≠ some (.int k)) (hns : P.underlying t ≠ some .string) :
    (∀ x y b, r x y = some b → ¬ (x = .nilIface ∧ y = .nilIface)) ∧ (∀ xs ys b, r (.agg xs) (.agg ys) = some b → P.eqGuardType P.depth t = false) ∧
    (∀ x y b, r x y = some b → (∀ k m k' n, x = .int k m → y ≠ .int k' n) ∧ (∀ p q, x = .string p → y ≠ .string q)) := by
  cases d with
  | zero => simp [eqS] at h
  | succ d =>
    simp only [eqS] at h
    split at h
    · cases h
    · rename_i ti td ht
      obtain ⟨h1, h2⟩ := hY.tys t ti td ht
      split at h
      · injection h with h; subst h
        refine ⟨fun x y b he => ?_, fun xs ys b he => ?_, fun x y b he => ?_⟩ <;> obtain ⟨p, q, hx, hy, _⟩ := eqBool_some he
        · rintro ⟨rfl, _⟩; cases hx
        · cases hx
        · subst hx; exact ⟨fun _ _ _ _ h => (by cases h), fun _ _ h => (by cases h)⟩
      · rename_i k; exact absurd h2 (hni k)
      · exact absurd h2 hns
      all_goals first
        | (injection h with h; subst h
           refine ⟨fun x y b he => ?_, fun xs ys b he => ?_, fun x y b he => ?_⟩
           · rintro ⟨rfl, rfl⟩; cases he
           · cases he
           · exact ⟨fun _ _ _ _ hx hy => (by subst hx; subst hy; cases he), fun _ _ hx hy => (by subst hx; subst hy; cases he)⟩)
        | skip
      · cases hq : Y.eqs t with
        | false => rw [hq] at h; cases h
        | true =>
          rw [hq] at h
          simp only [cond_true] at h
          split at h
          · injection h with h; subst h
            refine ⟨fun x y b he => ?_, fun xs ys b he => (hY.eqs t hq).2, fun x y b he => ?_⟩
            · rintro ⟨rfl, rfl⟩; cases he
            · exact ⟨fun _ _ _ _ hx hy => (by subst hx; subst hy; cases he), fun _ _ hx hy => (by subst hx; subst hy; cases he)⟩
          · cases h
      · cases hq : Y.eqs t with
        | false => rw [hq] at h; cases h
        | true =>
          rw [hq] at h
          simp only [cond_true] at h
          split at h
          · injection h with h; subst h
            refine ⟨fun x y b he => ?_, fun xs ys b he => (hY.eqs t hq).2, fun x y b he => ?_⟩
            · rintro ⟨rfl, rfl⟩; cases he
            · exact ⟨fun _ _ _ _ hx hy => (by subst hx; subst hy; cases he), fun _ _ hx hy => (by subst hx; subst hy; cases he)⟩
          · cases h
      · cases h

include hY in
theorem binS_ok {op : BinOp} {t : TypeId} {cst : Bool} {f : ValF} (h : binS Y op t cst = some f) : BinOK P op t cst f := by
  unfold binS at h
  split at h
  · cases h
  · rename_i ti d ht
    obtain ⟨h1, h2⟩ := hY.tys t ti d ht
    split at h
    · injection h with h; subst h; exact bin_shl t cst
    · injection h with h; subst h; exact bin_shr t cst
    · split at h
      · rename_i g hg; injection h with h; subst h; exact bin_int hg t cst
      · cases h
    · split at h
      · rename_i g hg; injection h with h; subst h; exact bin_str hg t cst
      · cases h
    · cases cst with
      | false => cases h
      | true => injection h with h; subst h; exact (bin_iface h2).1
    · cases cst with
      | false => cases h
      | true => injection h with h; subst h; exact (bin_iface h2).2
    · rename_i hn1 hn2 hn3
      split at h
      · rename_i r hr
        injection h with h; subst h
        obtain ⟨g1, g2, g3⟩ := eqS_shape (P := P) hY hr (fun k e => by rw [h2] at e; injection e with e; simp_all) (fun e => by rw [h2] at e; injection e with e; simp_all)
        exact (bin_eq (eqS_ok hY 6 t r hr) g1 g2 g3 cst).1
      · cases h
    · rename_i hn1 hn2 hn3
      split at h
      · rename_i r hr
        injection h with h; subst h
        obtain ⟨g1, g2, g3⟩ := eqS_shape (P := P) hY hr (fun k e => by rw [h2] at e; injection e with e; simp_all) (fun e => by rw [h2] at e; injection e with e; simp_all)
        exact (bin_eq (eqS_ok hY 6 t r hr) g1 g2 g3 cst).2
      · cases h
    · cases h

include hY in
theorem binop_ok {op : BinOp} {t yt : TypeId} {x y : Operand} {f : ValF} {gx gy : Rd} (h : binS Y op t (isConstO x || isConstO y) = some f) (hx : rdO Y x = some gx) (hy : rdO Y y = some gy) :
    QOK P Y (.binOp op t x y yt) (fun tm _ => f2 f gx gy tm) := by
  intro σ nt tm H w a hg ht hw v hv
  obtain ⟨v', h1, h2⟩ := binS_ok hY h σ _ _ _ _ v x y (fun e => by simpa using e) (rdO_ok hx hg ht) (rdO_ok hy hg ht) hv w
  refine ⟨v', h1, fun oper ho => ?_⟩
  have : (execOp a.eval oper) = (do pure (Next.value (← (do eqGuard op t x y (a.eval x) (a.eval y); binOp op t (a.eval x) (a.eval y) : Sem Value))) : Sem Next) := by
    simp only [execOp, ho]
  rw [this]
  exact run_v h2

end
end Go.Ax
