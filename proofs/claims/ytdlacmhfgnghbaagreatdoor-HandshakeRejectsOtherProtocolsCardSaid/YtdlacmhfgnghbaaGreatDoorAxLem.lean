import Derived.Test.YtdlacmhfgnghbaaGreatDoorAxDef
set_option linter.unusedVariables false
set_option linter.constructorNameAsVariable false
set_option linter.unusedSimpArgs false
/- Lemmas on the tries and the inspectors of the abstract interpreter. -/
set_option linter.unusedSimpArgs false
namespace Go.Ax

section
variable {α : Type}

@[simp] theorem PT.get_lf (k : Nat) : (PT.lf : PT α).get k = none := rfl
@[simp] theorem PT.get_nd_zero (v : Option α) (l r : PT α) : (PT.nd v l r).get 0 = v := rfl
theorem PT.get_nd_succ (v : Option α) (l r : PT α) (m : Nat) : (PT.nd v l r).get (m + 1) = if m % 2 = 0 then l.get (m / 2) else r.get (m / 2) := by
  show Nat.rec (motive := fun _ => Option α) (l.get (Nat.div m 2)) (fun _ _ => r.get (Nat.div m 2)) (Nat.mod m 2) = _
  have h : Nat.mod m 2 = m % 2 := rfl
  rw [h]
  rcases Nat.mod_two_eq_zero_or_one m with h0 | h0 <;> rw [h0] <;> rfl

theorem half_eq {m j : Nat} (h1 : m % 2 = j % 2) (h2 : m / 2 = j / 2) : m = j := by omega

theorem PT.sing_succ_zero (f : Nat) (x : α) : PT.sing (f + 1) 0 x = .nd (some x) .lf .lf := rfl
theorem PT.sing_succ_succ (f m : Nat) (x : α) : PT.sing (f + 1) (m + 1) x = if m % 2 = 0 then .nd none (PT.sing f (m / 2) x) .lf else .nd none .lf (PT.sing f (m / 2) x) := by
  show Nat.rec (motive := fun _ => PT α) (.nd none (PT.sing f (Nat.div m 2) x) .lf) (fun _ _ => .nd none .lf (PT.sing f (Nat.div m 2) x)) (Nat.mod m 2) = _
  have h : Nat.mod m 2 = m % 2 := rfl
  rw [h]
  rcases Nat.mod_two_eq_zero_or_one m with h0 | h0 <;> rw [h0] <;> rfl

theorem PT.get_sing (x : α) : ∀ (f k j : Nat), k + 1 < 2 ^ f → (PT.sing f k x).get j = if j = k then some x else none
  | 0, k, j, h => by simp at h
  | f + 1, 0, j, _ => by
    rw [PT.sing_succ_zero]
    cases j with
    | zero => simp
    | succ j => simp [PT.get_nd_succ]
  | f + 1, m + 1, j, h => by
    have hp : 2 ^ (f + 1) = 2 * 2 ^ f := by rw [Nat.pow_succ]; omega
    have ih := fun j => PT.get_sing x f (m / 2) j (by omega)
    rw [PT.sing_succ_succ]
    cases j with
    | zero => split <;> simp
    | succ j =>
      split <;> rw [PT.get_nd_succ] <;> split <;> (try simp only [ih, PT.get_lf]) <;> (by_cases e : j = m) <;> simp [e] <;> omega

@[simp] theorem PT.ins_lf (f k : Nat) (x : α) : PT.ins f .lf k x = PT.sing f k x := rfl
theorem PT.ins_nd_zero (f : Nat) (v : Option α) (l r : PT α) (x : α) : PT.ins f (.nd v l r) 0 x = .nd (some x) l r := rfl
theorem PT.ins_nd_succ (f m : Nat) (v : Option α) (l r : PT α) (x : α) :
    PT.ins f (.nd v l r) (m + 1) x = if m % 2 = 0 then .nd v (PT.ins f l (m / 2) x) r else .nd v l (PT.ins f r (m / 2) x) := by
  show Nat.rec (motive := fun _ => PT α) (.nd v (PT.ins f l (Nat.div m 2) x) r) (fun _ _ => .nd v l (PT.ins f r (Nat.div m 2) x)) (Nat.mod m 2) = _
  have h : Nat.mod m 2 = m % 2 := rfl
  rw [h]
  rcases Nat.mod_two_eq_zero_or_one m with h0 | h0 <;> rw [h0] <;> rfl

theorem PT.get_ins (f : Nat) (x : α) : ∀ (t : PT α) (k j : Nat), k + 1 < 2 ^ f → (PT.ins f t k x).get j = if j = k then some x else t.get j := by
  intro t
  induction t with
  | lf => intro k j h; rw [PT.ins_lf, PT.get_sing x f k j h]; simp
  | nd v l r ihl ihr =>
    intro k j h
    cases k with
    | zero =>
      rw [PT.ins_nd_zero]
      cases j with
      | zero => simp
      | succ j => simp [PT.get_nd_succ]
    | succ m =>
      have hl := fun j => ihl (m / 2) j (by omega)
      have hr := fun j => ihr (m / 2) j (by omega)
      rw [PT.ins_nd_succ]
      cases j with
      | zero => split <;> simp
      | succ j =>
        split <;> simp only [PT.get_nd_succ] <;> split <;> (try simp only [hl, hr]) <;> (by_cases e : j = m) <;> simp [e] <;> omega

theorem PT.upd_nd_zero (v : Option α) (l r : PT α) (x : Option α) : PT.upd (.nd v l r) 0 x = .nd x l r := rfl
theorem PT.upd_nd_succ (m : Nat) (v : Option α) (l r : PT α) (x : Option α) :
    PT.upd (.nd v l r) (m + 1) x = if m % 2 = 0 then .nd v (l.upd (m / 2) x) r else .nd v l (r.upd (m / 2) x) := by
  show Nat.rec (motive := fun _ => PT α) (.nd v (PT.upd l (Nat.div m 2) x) r) (fun _ _ => .nd v l (PT.upd r (Nat.div m 2) x)) (Nat.mod m 2) = _
  have h : Nat.mod m 2 = m % 2 := rfl
  rw [h]
  rcases Nat.mod_two_eq_zero_or_one m with h0 | h0 <;> rw [h0] <;> rfl

theorem PT.get_upd (x : Option α) : ∀ (t : PT α) (k j : Nat), (t.get k).isSome = true → (t.upd k x).get j = if j = k then x else t.get j := by
  intro t
  induction t with
  | lf => intro k j h; simp at h
  | nd v l r ihl ihr =>
    intro k j h
    cases k with
    | zero =>
      rw [PT.upd_nd_zero]
      cases j with
      | zero => simp
      | succ j => simp [PT.get_nd_succ]
    | succ m =>
      rw [PT.get_nd_succ] at h
      rw [PT.upd_nd_succ]
      cases j with
      | zero => split <;> simp
      | succ j =>
        split <;> rename_i hm <;> simp only [hm, if_true, if_false] at h <;> simp only [PT.get_nd_succ] <;> split <;>
          first
          | (simp only [ihl (m / 2) (j / 2) h]; (by_cases e : j = m) <;> simp [e] <;> omega)
          | (simp only [ihr (m / 2) (j / 2) h]; (by_cases e : j = m) <;> simp [e] <;> omega)
          | ((by_cases e : j = m) <;> simp [e] <;> omega)
end

/-! ## Temporaries -/

def TT.get : TT → Nat → Value
  | .lf, _ => undef
  | .nd v _ _, 0 => v
  | .nd _ l r, m + 1 => if m % 2 = 0 then l.get (m / 2) else r.get (m / 2)

@[simp] theorem tv_eq (t : TT) : tv t = t.get 0 := by cases t <;> rfl
theorem tl_get (t : TT) (m : Nat) (h : m % 2 = 0) : (tl t).get (m / 2) = t.get (m + 1) := by
  cases t with
  | lf => simp [tl, TT.get]
  | nd v l r => simp [tl, TT.get, h]
theorem tr_get (t : TT) (m : Nat) (h : m % 2 = 1) : (tr t).get (m / 2) = t.get (m + 1) := by
  cases t with
  | lf => simp [tr, TT.get]
  | nd v l r => simp [tr, TT.get, h]

theorem rdS_get : ∀ (f k : Nat) (g : Rd), rdS f k = some g → ∀ t, g t = t.get k
  | 0, _, _, h, _ => by simp [rdS] at h
  | f + 1, 0, g, h, t => by simp only [rdS, Option.some.injEq] at h; subst h; simp
  | f + 1, m + 1, g, h, t => by
    simp only [rdS] at h
    split at h
    · cases h
    · rename_i g' hg
      have ih := rdS_get f (Nat.div m 2) g' hg
      have hm : Nat.mod m 2 = m % 2 := rfl
      rw [hm] at h
      rcases Nat.mod_two_eq_zero_or_one m with h0 | h0 <;> rw [h0] at h <;> simp only [Option.some.injEq] at h <;> subst h
      · show g' (tl t) = _
        rw [ih]; exact tl_get t m h0
      · show g' (tr t) = _
        rw [ih]; exact tr_get t m h0

theorem wv_get (x : Value) (t : TT) (j : Nat) : (wv x t).get j = if j = 0 then x else t.get j := by
  cases t <;> cases j <;> simp [wv, TT.get]

theorem wrS_get : ∀ (f k : Nat) (w : Wr), wrS f k = some w → ∀ x t j, (w x t).get j = if j = k then x else t.get j
  | 0, _, _, h, _, _, _ => by simp [wrS] at h
  | f + 1, 0, w, h, x, t, j => by simp only [wrS, Option.some.injEq] at h; subst h; exact wv_get x t j
  | f + 1, m + 1, w, h, x, t, j => by
    simp only [wrS] at h
    split at h
    · cases h
    · rename_i w' hw
      have ih := wrS_get f (Nat.div m 2) w' hw
      have hd : Nat.div m 2 = m / 2 := rfl
      rw [hd] at ih
      have hm : Nat.mod m 2 = m % 2 := rfl
      rw [hm] at h
      rcases Nat.mod_two_eq_zero_or_one m with h0 | h0 <;> rw [h0] at h <;> simp only [Option.some.injEq] at h <;> subst h
      · have e0 : wl w' x t = .nd (tv t) (w' x (tl t)) (tr t) := by cases t <;> rfl
        rw [e0]
        cases j with
        | zero => simp [TT.get]
        | succ j =>
          simp only [TT.get, ih]
          by_cases hj : j % 2 = 0
          · rw [if_pos hj, tl_get t j hj]
            by_cases e : j = m
            · simp [e]
            · rw [if_neg (by omega), if_neg (by omega)]
          · rw [if_neg hj, tr_get t j (by omega), if_neg (by omega)]
      · have e0 : wr w' x t = .nd (tv t) (tl t) (w' x (tr t)) := by cases t <;> rfl
        rw [e0]
        cases j with
        | zero => simp [TT.get]
        | succ j =>
          simp only [TT.get, ih]
          by_cases hj : j % 2 = 0
          · rw [if_pos hj, tl_get t j hj, if_neg (by omega)]
          · rw [if_neg hj, tr_get t j (by omega)]
            by_cases e : j = m
            · simp [e]
            · rw [if_neg (by omega), if_neg (by omega)]

theorem TT.set_succ_zero (f : Nat) (t : TT) (x : Value) : TT.set (f + 1) t 0 x = .nd x (tl t) (tr t) := rfl
theorem TT.set_succ_succ (f m : Nat) (t : TT) (x : Value) :
    TT.set (f + 1) t (m + 1) x = if m % 2 = 0 then .nd (tv t) (TT.set f (tl t) (m / 2) x) (tr t) else .nd (tv t) (tl t) (TT.set f (tr t) (m / 2) x) := by
  show Nat.rec (motive := fun _ => TT) (.nd (tv t) (TT.set f (tl t) (Nat.div m 2) x) (tr t)) (fun _ _ => .nd (tv t) (tl t) (TT.set f (tr t) (Nat.div m 2) x)) (Nat.mod m 2) = _
  have h : Nat.mod m 2 = m % 2 := rfl
  rw [h]
  rcases Nat.mod_two_eq_zero_or_one m with h0 | h0 <;> rw [h0] <;> rfl
theorem TT.get_set (x : Value) : ∀ (f : Nat) (t : TT) (k j : Nat), k + 1 < 2 ^ f → (TT.set f t k x).get j = if j = k then x else t.get j
  | 0, t, k, j, h => by simp at h
  | f + 1, t, 0, j, _ => by
    rw [TT.set_succ_zero]
    cases t <;> cases j <;> simp [TT.get, tl, tr]
  | f + 1, t, m + 1, j, h => by
    have hp : 2 ^ (f + 1) = 2 * 2 ^ f := by rw [Nat.pow_succ]; omega
    have ih := fun t j => TT.get_set x f t (m / 2) j (by omega)
    rw [TT.set_succ_succ]
    cases j with
    | zero => split <;> simp [TT.get]
    | succ j =>
      by_cases hm : m % 2 = 0
      · rw [if_pos hm]
        simp only [TT.get]
        by_cases hj : j % 2 = 0
        · rw [if_pos hj, ih, tl_get t j hj]
          by_cases e : j = m
          · simp [e]
          · rw [if_neg (by omega), if_neg (by omega)]
        · rw [if_neg hj, tr_get t j (by omega), if_neg (by omega)]
      · rw [if_neg hm]
        simp only [TT.get]
        by_cases hj : j % 2 = 0
        · rw [if_pos hj, tl_get t j hj, if_neg (by omega)]
        · rw [if_neg hj, ih, tr_get t j (by omega)]
          by_cases e : j = m
          · simp [e]
          · rw [if_neg (by omega), if_neg (by omega)]

/-! ## The inspectors -/

@[simp] theorem ob_some {α β : Type} (a : α) (f : α → β) (d : β) : ob (some a) f d = f a := rfl
@[simp] theorem ob_none {α β : Type} (f : α → β) (d : β) : ob (none : Option α) f d = d := rfl
/-- what an 'ob' that came through says -/
theorem ob_eq_some {α β : Type} {o : Option α} {f : α → Option β} {b : β} (h : ob o f none = some b) : ∃ a, o = some a ∧ f a = some b := by
  cases o with
  | none => cases h
  | some a => exact ⟨a, rfl, h⟩

theorem vBool_some {x : Value} {b : Bool} (h : vBool x = some b) : x = .bool b := by
  cases x <;> first | (cases h; done) | (injection h with h; subst h; rfl)
theorem vInt_some {x : Value} {p : IntKind × Int} (h : vInt x = some p) : x = .int p.1 p.2 := by
  cases x <;> first | (cases h; done) | (injection h with h; subst h; rfl)
theorem vPtr_some {x : Value} {a : Addr} (h : vPtr x = some a) : x = .pointer (some a) := by
  cases x <;> first | (cases h; done) | (rename_i o; cases o <;> first | (cases h; done) | (injection h with h; subst h; rfl))
theorem vSl_some {x : Value} {p : Option Addr × Nat × Nat} (h : vSl x = some p) : x = .slice p.1 p.2.1 p.2.2 := by
  cases x <;> first | (cases h; done) | (injection h with h; subst h; rfl)
theorem vStr_some {x : Value} {s : ByteArray} (h : vStr x = some s) : x = .string s := by
  cases x <;> first | (cases h; done) | (injection h with h; subst h; rfl)
theorem vTup_some {x : Value} {s : Array Value} (h : vTup x = some s) : x = .tuple s := by
  cases x <;> first | (cases h; done) | (injection h with h; subst h; rfl)
theorem vAgg_some {x : Value} {s : Array Value} (h : vAgg x = some s) : x = .agg s := by
  cases x <;> first | (cases h; done) | (injection h with h; subst h; rfl)
theorem vMap_some {x : Value} {r : Option Nat} (h : vMap x = some r) : x = .map r := by
  cases x <;> first | (cases h; done) | (injection h with h; subst h; rfl)
theorem vFn_some {x : Value} {p : Fn × Array Value × Array Value} (h : vFn x = some p) : x = .func p.1 p.2.1 p.2.2 := by
  cases x <;> first | (cases h; done) | (injection h with h; subst h; rfl)
theorem fnId_some {f : Fn} {i : FuncId} (h : fnId f = some i) : f = .func i := by
  cases f <;> first | (cases h; done) | (injection h with h; subst h; rfl)
theorem iNat_some {n : Int} {m : Nat} (h : iNat n = some m) : n = (m : Int) := by
  cases n <;> first | (cases h; done) | (injection h with h; subst h; rfl)
theorem vCells_eq (x : Value) : vCells x = x.cells.toList := by cases x <;> rfl
theorem hCells_some {H : Hp} {a : Addr} {c : List Value × TypeId × Nat × Bool} (h : hCells H a = some c) :
    a.spot = none ∧ H.get a.block = some (.cells c.1 c.2.1 c.2.2.1 c.2.2.2) := by
  unfold hCells at h
  obtain ⟨o, ho, h⟩ := ob_eq_some h
  cases hs : a.spot with
  | some s => rw [hs] at h; cases h
  | none =>
    rw [hs] at h
    cases o with
    | map es ck => cases h
    | cells c' e es gr => injection h with h; subst h; exact ⟨rfl, ho⟩

theorem nth_eq {α : Type} (l : List α) : ∀ n, nth l n = l[n]? := by
  induction l with
  | nil => intro n; rfl
  | cons x xs ih =>
    intro n
    cases n with
    | zero => rfl
    | succ n => show nth xs n = _; rw [ih n]; simp

/-! ## Numbers -/

theorem ikEq_iff {a b : IntKind} : ikEq a b = true ↔ a = b := by cases a <;> cases b <;> decide
theorem wrapF_eq (k : IntKind) (n : Int) : wrapF k n = k.wrap n := by
  cases n with
  | ofNat m =>
    show cond (Nat.blt m (ikPos k)) (.ofNat m) (k.wrap (.ofNat m)) = _
    cases h : Nat.blt m (ikPos k) with
    | false => rfl
    | true =>
      have h' : m < ikPos k := by simpa [Nat.blt_eq] using h
      show Int.ofNat m = k.wrap (Int.ofNat m)
      cases k <;> simp only [ikPos, IntKind.wrap, IntKind.bits, IntKind.signed] at * <;> simp <;> omega
  | negSucc m =>
    show cond (Nat.blt m (ikNeg k)) (.negSucc m) (k.wrap (.negSucc m)) = _
    cases h : Nat.blt m (ikNeg k) with
    | false => rfl
    | true =>
      have h' : m < ikNeg k := by simpa [Nat.blt_eq] using h
      show Int.negSucc m = k.wrap (Int.negSucc m)
      cases k <;> simp only [ikNeg, IntKind.wrap, IntKind.bits, IntKind.signed] at * <;> first | (exact absurd h' (Nat.not_lt_zero _)) | (simp [Int.negSucc_eq]; omega)
theorem addF_eq (a b : Int) : addF a b = a + b := by cases a <;> cases b <;> rfl
theorem subF_eq (a b : Int) : subF a b = a - b := by
  cases a <;> cases b <;> first | rfl | skip
  rename_i m n
  show cond (Nat.ble n m) (Int.ofNat (Nat.sub m n)) (Int.sub (.ofNat m) (.ofNat n)) = _
  cases h : Nat.ble n m with
  | false => rfl
  | true =>
    have h' : n ≤ m := Nat.le_of_ble_eq_true h
    show Int.ofNat (m - n) = Int.ofNat m - Int.ofNat n
    simp only [Int.ofNat_eq_natCast]
    omega
theorem mulF_eq (a b : Int) : mulF a b = a * b := by cases a <;> cases b <;> rfl
theorem quoF_eq (a b : Int) : quoF a b = a.tdiv b := by cases a <;> cases b <;> rfl
theorem remF_eq (a b : Int) : remF a b = a.tmod b := by cases a <;> cases b <;> rfl
theorem nbeq (m n : Nat) : Nat.beq m n = decide (m = n) := by
  cases h : Nat.beq m n with
  | true => exact (decide_eq_true (Nat.eq_of_beq_eq_true h)).symm
  | false => exact (decide_eq_false (Nat.ne_of_beq_eq_false h)).symm
theorem nble (m n : Nat) : Nat.ble m n = decide (m ≤ n) := by
  cases h : Nat.ble m n with
  | true => exact (decide_eq_true (Nat.le_of_ble_eq_true h)).symm
  | false => exact (decide_eq_false (fun hh => by rw [Nat.ble_eq_true_of_le hh] at h; cases h)).symm
theorem nblt (m n : Nat) : Nat.blt m n = decide (m < n) := by
  show Nat.ble (m + 1) n = _
  rw [nble]
  rfl
theorem eqF_eq (a b : Int) : eqF a b = (a == b) := by
  have hd : (a == b) = decide (a = b) := by by_cases h : a = b <;> simp [h]
  rw [hd]
  cases a <;> cases b <;> rename_i m n
  · show Nat.beq m n = _
    rw [nbeq]; congr 1; apply propext; constructor <;> intro h <;> simp only [Int.ofNat_eq_natCast, Int.negSucc_eq] at * <;> omega
  · show false = _
    symm; exact decide_eq_false (by simp only [Int.ofNat_eq_natCast, Int.negSucc_eq]; omega)
  · show false = _
    symm; exact decide_eq_false (by simp only [Int.ofNat_eq_natCast, Int.negSucc_eq]; omega)
  · show Nat.beq m n = _
    rw [nbeq]; congr 1; apply propext; constructor <;> intro h <;> simp only [Int.ofNat_eq_natCast, Int.negSucc_eq] at * <;> omega
theorem ltF_eq (a b : Int) : ltF a b = decide (a < b) := by
  cases a <;> cases b <;> rename_i m n
  · show Nat.blt m n = _
    rw [nblt]; congr 1; simp
  · show false = _
    symm; exact decide_eq_false (by simp only [Int.ofNat_eq_natCast, Int.negSucc_eq]; omega)
  · show true = _
    symm; exact decide_eq_true (by simp only [Int.ofNat_eq_natCast, Int.negSucc_eq]; omega)
  · show Nat.blt n m = _
    rw [nblt]; congr 1; apply propext; constructor <;> intro h <;> omega
theorem leF_eq (a b : Int) : leF a b = decide (a ≤ b) := by
  cases a <;> cases b <;> rename_i m n
  · show Nat.ble m n = _
    rw [nble]; congr 1; simp
  · show false = _
    symm; exact decide_eq_false (by simp only [Int.ofNat_eq_natCast, Int.negSucc_eq]; omega)
  · show true = _
    symm; exact decide_eq_true (by simp only [Int.ofNat_eq_natCast, Int.negSucc_eq]; omega)
  · show Nat.ble n m = _
    rw [nble]; congr 1; apply propext; constructor <;> intro h <;> omega
theorem two_pow_cast (n : Nat) : (2 : Int) ^ n = ((2 ^ n : Nat) : Int) := by simp
theorem shrF_eq (a : Int) (n : Nat) : shrF a (2 ^ n) = a.fdiv (2 ^ n) := by
  rw [two_pow_cast]
  cases a with
  | ofNat m =>
    show Int.ofNat (m / 2 ^ n) = _
    rw [Int.fdiv_eq_ediv_of_nonneg _ (Int.natCast_nonneg _)]
    rfl
  | negSucc m => rfl

end Go.Ax
