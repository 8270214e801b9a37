import Derived.Test.YtdlacmhfgnghbaaGreatDoorAxCode3
import Derived.Orders
/- Regions whose order is drawn: lists, counts, what is checked once. -/
set_option linter.unusedVariables false
set_option linter.constructorNameAsVariable false
set_option linter.unusedSimpArgs false
namespace Go.Ax

/-! ## Side blocks -/

def Uniq (fs : List Side) : Prop := (∀ x ∈ fs, x.b + 1 < 2 ^ 40) ∧ ∀ x ∈ fs, ∀ y ∈ fs, x.b = y.b → x.o = y.o ∧ x.i = y.i

theorem joinA_cons (H : Hp) (p : Nat → Bool) (x : Side) (xs : List Side) : joinA H p (x :: xs) = bif p x.i then (joinA H p xs).ins 40 x.b x.o else joinA H p xs := rfl

theorem joinA_out {H : Hp} {p : Nat → Bool} {b : Nat} : ∀ (fs : List Side), (∀ x ∈ fs, x.b + 1 < 2 ^ 40) → (∀ x ∈ fs, p x.i = true → x.b ≠ b) → (joinA H p fs).get b = H.get b
  | [], _, _ => rfl
  | x :: xs, h1, h2 => by
    have ih := joinA_out (H := H) (p := p) (b := b) xs (fun y hy => h1 y (by simp [hy])) (fun y hy => h2 y (by simp [hy]))
    rw [joinA_cons]
    cases hp : p x.i with
    | false => exact ih
    | true =>
      simp only [cond_true]
      rw [PT.get_ins 40 x.o _ x.b b (h1 x (by simp)), if_neg (fun e => h2 x (by simp) hp e.symm)]
      exact ih
theorem joinA_in {H : Hp} {p : Nat → Bool} : ∀ (fs : List Side), Uniq fs → ∀ x ∈ fs, p x.i = true → (joinA H p fs).get x.b = some x.o
  | [], _, x, hx, _ => by simp at hx
  | y :: ys, hu, x, hx, hp => by
    have hu' : Uniq ys := ⟨fun z hz => hu.1 z (by simp [hz]), fun a ha b hb => hu.2 a (by simp [ha]) b (by simp [hb])⟩
    rw [joinA_cons]
    cases hpy : p y.i with
    | true =>
      simp only [cond_true]
      rw [PT.get_ins 40 y.o _ y.b x.b (hu.1 y (by simp))]
      split
      · rename_i e
        rw [(hu.2 x hx y (by simp) e).1]
      · rename_i e
        rcases List.mem_cons.1 hx with h | h
        · exact absurd (by rw [h]) e
        · exact joinA_in ys hu' x h hp
    | false =>
      simp only [cond_false]
      rcases List.mem_cons.1 hx with h | h
      · rw [h, hpy] at hp; cases hp
      · exact joinA_in ys hu' x h hp
theorem joinA_skip {H : Hp} {p : Nat → Bool} {l : List Side} : ∀ (more : List Side), (∀ x ∈ more, p x.i = false) → joinA H p (more ++ l) = joinA H p l
  | [], _ => rfl
  | x :: xs, h => by
    rw [List.cons_append, joinA_cons, h x (by simp)]
    exact joinA_skip xs (fun y hy => h y (by simp [hy]))
theorem joinA_congr {H : Hp} {p q : Nat → Bool} : ∀ (fs : List Side), (∀ x ∈ fs, p x.i = q x.i) → joinA H p fs = joinA H q fs
  | [], _ => rfl
  | x :: xs, h => by
    rw [joinA_cons, joinA_cons, h x (by simp), joinA_congr xs (fun y hy => h y (by simp [hy]))]
/-- what lies at a place of a joined heap -/
theorem joinA_some {H : Hp} {p : Nat → Bool} {fs : List Side} (hu : Uniq fs) {b : Nat} {o : AObj} (h : (joinA H p fs).get b = some o) : (∃ x ∈ fs, p x.i = true ∧ x.b = b ∧ x.o = o) ∨ ((∀ x ∈ fs, p x.i = true → x.b ≠ b) ∧ H.get b = some o) := by
  by_cases hx : ∃ x ∈ fs, p x.i = true ∧ x.b = b
  · obtain ⟨x, h1, h2, h3⟩ := hx
    subst h3
    rw [joinA_in fs hu x h1 h2] at h
    injection h with h
    exact .inl ⟨x, h1, h2, rfl, h⟩
  · have hx' : ∀ x ∈ fs, p x.i = true → x.b ≠ b := fun x h1 h2 h3 => hx ⟨x, h1, h2, h3⟩
    rw [joinA_out fs hu.1 hx'] at h
    exact .inr ⟨hx', h⟩
theorem joinA_mono {H : Hp} {p q : Nat → Bool} {fs : List Side} (hu : Uniq fs) (hpq : ∀ x ∈ fs, p x.i = true → q x.i = true) (hn : ∀ x ∈ fs, q x.i = true → p x.i = false → H.get x.b = none) {b : Nat} {o : AObj} (h : (joinA H p fs).get b = some o) :
    (joinA H q fs).get b = some o := by
  rcases joinA_some hu h with ⟨x, h1, h2, h3, h4⟩ | ⟨h1, h2⟩
  · subst h3; subst h4
    exact joinA_in fs hu x h1 (hpq x h1 h2)
  · rw [joinA_out fs hu.1 (fun x hx hq e => ?_)]
    · exact h2
    · cases hp : p x.i with
      | true => exact h1 x hx hp e
      | false =>
        have := hn x hx hq hp
        rw [e, h2] at this
        cases this

/-! ## Counts -/

theorem allB_iff {p : Nat → Bool} : ∀ {n : Nat}, allB p n = true ↔ ∀ i, i < n → p i = true
  | 0 => by simp [allB]
  | n + 1 => by
    simp only [allB, Bool.and_eq_true, allB_iff]
    constructor
    · rintro ⟨h1, h2⟩ i hi
      rcases Nat.lt_or_ge i n with h | h
      · exact h2 i h
      · rw [show i = n by omega]; exact h1
    · intro h
      exact ⟨h n (by omega), fun i hi => h i (by omega)⟩
theorem cntB_succ (p : Nat → Bool) (n : Nat) : cntB p (n + 1) = cntB p n + (if p n = true then 1 else 0) := by
  simp only [cntB]
  cases p n <;> simp
theorem cntB_mono {p q : Nat → Bool} : ∀ {n : Nat}, (∀ i, i < n → p i = true → q i = true) → cntB p n ≤ cntB q n
  | 0, _ => by simp [cntB]
  | n + 1, h => by
    rw [cntB_succ, cntB_succ]
    have ih := cntB_mono (n := n) (fun i hi => h i (by omega))
    by_cases hp : p n = true
    · rw [if_pos hp, if_pos (h n (by omega) hp)]; omega
    · rw [if_neg hp]; omega
theorem cntB_congr {p q : Nat → Bool} {n : Nat} (h : ∀ i, i < n → p i = q i) : cntB p n = cntB q n :=
  Nat.le_antisymm (cntB_mono (fun i hi hp => by rw [← h i hi]; exact hp)) (cntB_mono (fun i hi hp => by rw [h i hi]; exact hp))
theorem cntB_below {p : Nat → Bool} {i : Nat} : ∀ {n : Nat}, i ≤ n → cntB (fun j => decide (j < i) && p j) n = cntB p i
  | 0, h => by rw [show i = 0 by omega]; rfl
  | n + 1, h => by
    rcases Nat.lt_or_ge n i with hn | hn
    · rw [show i = n + 1 by omega]
      exact cntB_congr (fun j hj => by simp [hj])
    · rw [cntB_succ, cntB_below (n := n) hn, if_neg (by simp; omega)]; rfl
/-- one more -/
theorem cntB_set {p q : Nat → Bool} {i : Nat} : ∀ {n : Nat}, i < n → p i = false → q i = true → (∀ j, j ≠ i → q j = p j) → cntB q n = cntB p n + 1
  | 0, h, _, _, _ => by omega
  | n + 1, h, h1, h2, h3 => by
    rw [cntB_succ, cntB_succ]
    rcases Nat.lt_or_ge i n with hi | hi
    · rw [cntB_set hi h1 h2 h3, h3 n (by omega)]; omega
    · have e : i = n := by omega
      subst e
      rw [if_pos h2, if_neg (by rw [h1]; simp), cntB_congr (fun j hj => h3 j (by omega))]

/-! ## Lists seen from the bottom -/

def bot {α : Type} (l : List α) (g : Nat) : Option α := l.reverse[g]?
theorem bot_app {α : Type} {later l : List α} {g : Nat} (h : g < l.length) : bot (later ++ l) g = bot l g := by
  unfold bot
  rw [List.reverse_append, List.getElem?_append_left (by simpa using h)]
theorem bot_head {α : Type} (s : α) (l : List α) : bot (s :: l) l.length = some s := by
  unfold bot
  rw [List.reverse_cons, List.getElem?_append_right (by simp)]
  simp

/-! ## What is checked of a region -/

theorem memN_iff {t : Nat} : ∀ {l : List Nat}, memN t l = true ↔ t ∈ l
  | [] => by simp [memN]
  | x :: l => by simp [memN, memN_iff, nbeq]

structure Fixed {R : Type} (Z : Res R) (Y : Ty) (ops : Array Oper) (ds : List DI) : Prop where
  len : ds.length = ops.size
  edge : ∀ (j : Nat) (y : Oper), ops[j]? = some y → ∀ e ∈ y.after, Region.binds .any e = true → e.on < j ∧ bitOf ds j e.on = true
  kd : ∀ (j : Nat) (y : Oper) (d : DI), ops[j]? = some y → ds[j]? = some d → odKd (opS Z Y y.op) = some d.kd
  clo : ∀ (j : Nat) (y : Oper), ops[j]? = some y → ∀ i, i < ops.size → bitOf ds j i = true → ∃ e ∈ y.after, Region.binds .any e = true ∧ (e.on = i ∨ bitOf ds e.on i = true)
  ord : ∀ (i j : Nat) (x y : Oper), i < j → ops[i]? = some x → ops[j]? = some y → bitOf ds j i = true ∨ (meetA ops x y = false ∧ ¬ (loudAt ds i = true ∧ loudAt ds j = true))
  lo : ∀ (j : Nat) (d : DI), ds[j]? = some d → d.lo ≤ cntB (fun i => bitOf ds j i && loudAt ds i) ops.size
  hi : ∀ (j : Nat) (d : DI), ds[j]? = some d → cntB (fun i => loudAt ds i && !bitOf ds i j) ops.size ≤ d.hi

theorem kdEq_iff {a b : Kd} (h : kdEq a b = true) : a = b := by cases a <;> cases b <;> first | rfl | (exact absurd h (by decide))

theorem fixed_ok {R : Type} {Z : Res R} {Y : Ty} {ops : Array Oper} {ds : List DI} (h : fixedA Z Y ops ds = true) : Fixed Z Y ops ds := by
  unfold fixedA at h
  rw [Bool.and_eq_true, nbeq, allB_iff] at h
  have hlen := of_decide_eq_true h.1
  have hone := h.2
  have key : ∀ (j : Nat) (y : Oper) (d : DI), ops[j]? = some y → ds[j]? = some d → _ := fun j y d hy hd => by
    have hj : j < ops.size := (Array.getElem?_eq_some_iff.1 hy).1
    have := hone j hj
    rw [hy, hd] at this
    simp only [Bool.and_eq_true] at this
    exact this
  have hds : ∀ (j : Nat) (y : Oper), ops[j]? = some y → ∃ d, ds[j]? = some d := fun j y hy => by
    have hj : j < ops.size := (Array.getElem?_eq_some_iff.1 hy).1
    exact ⟨ds[j], List.getElem?_eq_getElem (by omega)⟩
  have hops : ∀ (j : Nat) (d : DI), ds[j]? = some d → ∃ y, ops[j]? = some y := fun j d hd => by
    have hj : j < ds.length := (List.getElem?_eq_some_iff.1 hd).1
    exact ⟨ops[j], by simp [show j < ops.size by omega]⟩
  have hbit : ∀ (j i : Nat) (d : DI), ds[j]? = some d → bitOf ds j i = d.mask.testBit i := fun j i d hd => by simp [bitOf, hd]
  refine ⟨hlen, fun j y hy e he hb => ?_, fun j y d hy hd => ?_, fun j y hy i hi hb => ?_, fun i j x y hij hx hy => ?_, fun j d hd => ?_, fun j d hd => ?_⟩
  · obtain ⟨d, hd⟩ := hds j y hy
    obtain ⟨⟨⟨⟨⟨h1, h2⟩, h3⟩, h4⟩, h5⟩, h6⟩ := key j y d hy hd
    rw [List.all_eq_true] at h1
    have := h1 e (by simpa using he)
    rw [hb] at this
    simp only [Bool.not_true, Bool.false_or, Bool.and_eq_true, nblt] at this
    exact ⟨of_decide_eq_true this.1, by rw [hbit j _ d hd]; exact this.2⟩
  · obtain ⟨⟨⟨⟨⟨h1, h2⟩, h3⟩, h4⟩, h5⟩, h6⟩ := key j y d hy hd
    cases hk : odKd (opS Z Y y.op) with
    | none => rw [hk] at h2; cases h2
    | some k => rw [hk] at h2; rw [kdEq_iff h2]
  · obtain ⟨d, hd⟩ := hds j y hy
    obtain ⟨⟨⟨⟨⟨h1, h2⟩, h3⟩, h4⟩, h5⟩, h6⟩ := key j y d hy hd
    rw [allB_iff] at h3
    have := h3 i hi
    rw [hbit j i d hd] at hb
    rw [hb] at this
    simp only [Bool.not_true, Bool.false_or, List.any_eq_true, Bool.and_eq_true, Bool.or_eq_true, nbeq, decide_eq_true_eq] at this
    obtain ⟨e, he, hbi, hor⟩ := this
    exact ⟨e, by simpa using he, hbi, hor⟩
  · obtain ⟨d, hd⟩ := hds j y hy
    obtain ⟨⟨⟨⟨⟨h1, h2⟩, h3⟩, h4⟩, h5⟩, h6⟩ := key j y d hy hd
    rw [allB_iff] at h4
    have := h4 i hij
    rw [hx] at this
    simp only [Bool.or_eq_true, Bool.and_eq_true, Bool.not_eq_true', Bool.and_eq_false_iff] at this
    rcases this with h | ⟨h, h'⟩
    · exact .inl (by rw [hbit j i d hd]; exact h)
    · refine .inr ⟨h, fun hh => ?_⟩
      have hl : loudAt ds j = isL d := by simp [loudAt, hd]
      rcases h' with h' | h'
      · rw [hh.1] at h'; cases h'
      · rw [← hl, hh.2] at h'; cases h'
  · obtain ⟨y, hy⟩ := hops j d hd
    obtain ⟨⟨⟨⟨⟨h1, h2⟩, h3⟩, h4⟩, h5⟩, h6⟩ := key j y d hy hd
    rw [nble] at h5
    have := of_decide_eq_true h5
    rw [cntB_congr (q := fun i => bitOf ds j i && loudAt ds i)] at this
    · exact this
    · intro i _; rw [hbit j i d hd]
  · obtain ⟨y, hy⟩ := hops j d hd
    obtain ⟨⟨⟨⟨⟨h1, h2⟩, h3⟩, h4⟩, h5⟩, h6⟩ := key j y d hy hd
    rw [nble] at h6
    exact of_decide_eq_true h6

theorem Fixed.lt {R : Type} {Z : Res R} {Y : Ty} {ops : Array Oper} {ds : List DI} (h : Fixed Z Y ops ds) : ∀ (j i : Nat), i < ops.size → bitOf ds j i = true → i < j := by
  intro j
  induction j using Nat.strongRecOn with
  | _ j ih =>
    intro i hi hb
    have hj : j < ds.length := by
      rcases Nat.lt_or_ge j ds.length with h1 | h1
      · exact h1
      · unfold bitOf at hb
        rw [List.getElem?_eq_none h1] at hb
        cases hb
    have hjo : j < ops.size := by rw [← h.len]; exact hj
    obtain ⟨e, he, hbi, hor⟩ := h.clo j ops[j] (by simp [hjo]) i hi hb
    obtain ⟨h1, h2⟩ := h.edge j ops[j] (by simp [hjo]) e he hbi
    rcases hor with h3 | h3
    · omega
    · have := ih e.on h1 i hi h3
      omega

theorem meet_spec {ops : Array Oper} {x y : Oper} (h : meetA ops x y = false) : (∀ d, x.dst = some d → d ∉ looksL ops y ∧ y.dst ≠ some d) ∧ (∀ d, y.dst = some d → d ∉ looksL ops x) := by
  unfold meetA at h
  rw [Bool.or_eq_false_iff] at h
  refine ⟨fun d hd => ?_, fun d hd => ?_⟩
  · have := h.1
    rw [hd] at this
    simp only [Bool.or_eq_false_iff] at this
    refine ⟨fun hm => ?_, fun he => ?_⟩
    · rw [memN_iff.2 hm] at this; exact absurd this.1 (by simp)
    · rw [he] at this; have := this.2; simp at this
  · have h2 := h.2
    rw [hd] at h2
    have h3 : memN d (looksL ops x) = false := h2
    intro hm
    rw [memN_iff.2 hm] at h3
    cases h3

end Go.Ax
