import Derived.Test.YtdlacmhfgnghbaaGreatDoorAxLem
/- How an abstract state stands to a world of the model. -/
set_option linter.unusedVariables false
set_option linter.constructorNameAsVariable false
set_option linter.unusedSimpArgs false
namespace Go.Ax

/-- Where a block lies: the concrete block, by how much its cells are shifted; of a row that append has made (its end may lie further on): the size of an element, the cells that are known, and up to where the concrete row is free for it. -/
structure BI where
  blk : Nat
  sh : Nat
  gr : Bool
  es : Nat
  size : Nat
  csz : Nat
  ty : TypeId
  fz : Nat × Nat

abbrev Sg := Nat → Option BI

def SlOK (i : BI) (off cap off' cap' : Nat) : Prop :=
  (i.gr = false → off' = off + i.sh ∧ cap' = cap) ∧
  (i.gr = true → cap ≤ cap' ∧ (off + cap * i.es < i.size → cap' = cap) ∧ (0 < cap → off' = off + i.sh) ∧ off' + cap' * i.es ≤ i.csz)

inductive VR (σ : Sg) : Value → Value → Prop
  | bool (b : Bool) : VR σ (.bool b) (.bool b)
  | int (k : IntKind) (n : Int) : VR σ (.int k n) (.int k n)
  | string (s : ByteArray) : VR σ (.string s) (.string s)
  | nilptr : VR σ (.pointer none) (.pointer none)
  | ptr {b off : Nat} {i : BI} (h : σ b = some i) : VR σ (.pointer (some ⟨b, off, none⟩)) (.pointer (some ⟨i.blk, off + i.sh, none⟩))
  | nilsl (l c : Nat) : VR σ (.slice none l c) (.slice none l c)
  | sl {b off off' len cap cap' : Nat} {i : BI} (h : σ b = some i) (hl : len ≤ cap) (hs : SlOK i off cap off' cap') :
      VR σ (.slice (some ⟨b, off, none⟩) len cap) (.slice (some ⟨i.blk, off', none⟩) len cap')
  | nilmap : VR σ (.map none) (.map none)
  | map {r : Nat} {i : BI} (h : σ r = some i) : VR σ (.map (some r)) (.map (some i.blk))
  | func (f : FuncId) (a a' c c' : Array Value) (ha : a.size = a'.size) (hc : c.size = c'.size)
      (h1 : ∀ (j : Nat) (p : j < a.size) (q : j < a'.size), VR σ a[j] a'[j]) (h2 : ∀ (j : Nat) (p : j < c.size) (q : j < c'.size), VR σ c[j] c'[j]) :
      VR σ (.func (.func f) a c) (.func (.func f) a' c')
  | nilFunc : VR σ .nilFunc .nilFunc
  | iface (t : TypeId) {v v' : Value} (h : VR σ v v') : VR σ (.iface t v) (.iface t v')
  | nilIface : VR σ .nilIface .nilIface
  | agg (cs cs' : Array Value) (hs : cs.size = cs'.size) (h : ∀ (j : Nat) (p : j < cs.size) (q : j < cs'.size), VR σ cs[j] cs'[j]) : VR σ (.agg cs) (.agg cs')
  | tuple (cs cs' : Array Value) (hs : cs.size = cs'.size) (h : ∀ (j : Nat) (p : j < cs.size) (q : j < cs'.size), VR σ cs[j] cs'[j]) : VR σ (.tuple cs) (.tuple cs')

/-- lists, one by one -/
def VL (σ : Sg) (xs ys : List Value) : Prop := xs.length = ys.length ∧ ∀ (j : Nat) (v : Value), xs[j]? = some v → ∃ v', ys[j]? = some v' ∧ VR σ v v'

theorem VL.nil (σ : Sg) : VL σ [] [] := ⟨rfl, fun j v h => by simp at h⟩
theorem VL.cons {σ : Sg} {x y : Value} {xs ys : List Value} (h : VR σ x y) (hs : VL σ xs ys) : VL σ (x :: xs) (y :: ys) := by
  refine ⟨by simp [hs.1], fun j v hj => ?_⟩
  cases j with
  | zero => simp at hj; subst hj; exact ⟨y, by simp, h⟩
  | succ j => simp at hj; simpa using hs.2 j v hj
theorem VL.of_array {σ : Sg} {cs cs' : Array Value} (hs : cs.size = cs'.size) (h : ∀ (j : Nat) (p : j < cs.size) (q : j < cs'.size), VR σ cs[j] cs'[j]) : VL σ cs.toList cs'.toList := by
  refine ⟨by simpa using hs, fun j v hj => ?_⟩
  have hlt : j < cs.size := by
    rcases Nat.lt_or_ge j cs.size with h1 | h1
    · exact h1
    · rw [List.getElem?_eq_none (by simpa using h1)] at hj; cases hj
  have hlt' : j < cs'.size := hs ▸ hlt
  have e1 : cs.toList[j]? = some cs[j] := by simp [hlt]
  have e2 : cs'.toList[j]? = some cs'[j] := by simp [hlt']
  rw [e1] at hj
  injection hj with hj
  exact ⟨cs'[j], e2, hj ▸ h j hlt hlt'⟩
theorem VL.to_array {σ : Sg} {cs cs' : Array Value} (h : VL σ cs.toList cs'.toList) :
    cs.size = cs'.size ∧ ∀ (j : Nat) (p : j < cs.size) (q : j < cs'.size), VR σ cs[j] cs'[j] := by
  refine ⟨by simpa using h.1, fun j p q => ?_⟩
  obtain ⟨v', hv, hr⟩ := h.2 j cs[j] (by simp [p])
  have : cs'.toList[j]? = some cs'[j] := by simp [q]
  rw [this] at hv
  injection hv with hv
  exact hv ▸ hr
theorem VR.agg_iff {σ : Sg} {cs : Array Value} {x : Value} (h : VR σ (.agg cs) x) : ∃ cs', x = .agg cs' ∧ VL σ cs.toList cs'.toList := by
  cases h with
  | agg _ cs' hs h => exact ⟨cs', rfl, VL.of_array hs h⟩
theorem VR.tuple_iff {σ : Sg} {cs : Array Value} {x : Value} (h : VR σ (.tuple cs) x) : ∃ cs', x = .tuple cs' ∧ VL σ cs.toList cs'.toList := by
  cases h with
  | tuple _ cs' hs h => exact ⟨cs', rfl, VL.of_array hs h⟩
theorem VR.mk_agg {σ : Sg} {cs cs' : List Value} (h : VL σ cs cs') : VR σ (.agg cs.toArray) (.agg cs'.toArray) := by
  obtain ⟨h1, h2⟩ := VL.to_array (cs := cs.toArray) (cs' := cs'.toArray) (by simpa using h)
  exact .agg _ _ h1 h2
theorem VR.mk_tuple {σ : Sg} {cs cs' : List Value} (h : VL σ cs cs') : VR σ (.tuple cs.toArray) (.tuple cs'.toArray) := by
  obtain ⟨h1, h2⟩ := VL.to_array (cs := cs.toArray) (cs' := cs'.toArray) (by simpa using h)
  exact .tuple _ _ h1 h2

theorem VL.append {σ : Sg} {xs ys xs' ys' : List Value} (h : VL σ xs xs') (g : VL σ ys ys') : VL σ (xs ++ ys) (xs' ++ ys') := by
  refine ⟨by simp [h.1, g.1], fun j v hj => ?_⟩
  rw [List.getElem?_append] at hj
  split at hj
  · rename_i hlt
    obtain ⟨v', hv, hr⟩ := h.2 j v hj
    exact ⟨v', by rw [List.getElem?_append_left (by rw [← h.1]; exact hlt)]; exact hv, hr⟩
  · rename_i hge
    obtain ⟨v', hv, hr⟩ := g.2 _ v hj
    exact ⟨v', by rw [List.getElem?_append_right (by rw [← h.1]; omega), ← h.1]; exact hv, hr⟩
theorem VL.take {σ : Sg} {xs ys : List Value} (h : VL σ xs ys) (n : Nat) : VL σ (xs.take n) (ys.take n) := by
  refine ⟨by simp [h.1], fun j v hj => ?_⟩
  rw [List.getElem?_take] at hj
  split at hj
  · rename_i hlt
    obtain ⟨v', hv, hr⟩ := h.2 j v hj
    exact ⟨v', by rw [List.getElem?_take, if_pos hlt]; exact hv, hr⟩
  · cases hj
theorem VL.drop {σ : Sg} {xs ys : List Value} (h : VL σ xs ys) (n : Nat) : VL σ (xs.drop n) (ys.drop n) := by
  refine ⟨by simp [h.1], fun j v hj => ?_⟩
  rw [List.getElem?_drop] at hj ⊢
  exact h.2 _ v hj

theorem VR.mono {σ σ' : Sg} (he : ∀ b i, σ b = some i → σ' b = some i) {v v' : Value} (h : VR σ v v') : VR σ' v v' := by
  induction h with
  | bool b => exact .bool b
  | int k n => exact .int k n
  | string s => exact .string s
  | nilptr => exact .nilptr
  | ptr h => exact .ptr (he _ _ h)
  | nilsl l c => exact .nilsl l c
  | sl h hl hs => exact .sl (he _ _ h) hl hs
  | nilmap => exact .nilmap
  | map h => exact .map (he _ _ h)
  | func f a a' c c' ha hc h1 h2 ih1 ih2 => exact .func f a a' c c' ha hc ih1 ih2
  | nilFunc => exact .nilFunc
  | iface t h ih => exact .iface t ih
  | nilIface => exact .nilIface
  | agg cs cs' hs h ih => exact .agg cs cs' hs ih
  | tuple cs cs' hs h ih => exact .tuple cs cs' hs ih
theorem VL.mono {σ σ' : Sg} (he : ∀ b i, σ b = some i → σ' b = some i) {v v' : List Value} (h : VL σ v v') : VL σ' v v' :=
  ⟨h.1, fun j x hx => let ⟨v', hv, hr⟩ := h.2 j x hx; ⟨v', hv, hr.mono he⟩⟩

theorem VR.of_ground0 {σ : Sg} (v : Value) (h : ground0 v = true) : VR σ v v := by
  cases v with
  | bool b => exact .bool b
  | int k n => exact .int k n
  | string s => exact .string s
  | pointer a => cases a <;> first | exact .nilptr | (cases h; done)
  | slice a l c => cases a <;> first | exact .nilsl _ _ | (cases h; done)
  | map a => cases a <;> first | exact .nilmap | (cases h; done)
  | nilFunc => exact .nilFunc
  | nilIface => exact .nilIface
  | func fn a c =>
    cases fn <;> first | (cases h; done) | skip
    rename_i f
    have h' : (a.toList.isEmpty && c.toList.isEmpty) = true := h
    rw [Bool.and_eq_true] at h'
    have h1 : a.toList = [] := List.isEmpty_iff.1 h'.1
    have h2 : c.toList = [] := List.isEmpty_iff.1 h'.2
    have e1 : a.size = 0 := by rw [← Array.length_toList, h1]; rfl
    have e2 : c.size = 0 := by rw [← Array.length_toList, h2]; rfl
    exact .func f _ _ _ _ rfl rfl (fun j p => absurd p (by omega)) (fun j p => absurd p (by omega))
  | _ => cases h
theorem VR.of_ground {σ : Sg} : ∀ (n : Nat) (v : Value), ground n v = true → VR σ v v := by
  intro n
  induction n with
  | zero => intro v h; exact VR.of_ground0 v h
  | succ n ih =>
    intro v h
    cases v with
    | agg cs =>
      have h' : cs.toList.all (ground n) = true := h
      rw [List.all_eq_true] at h'
      exact .agg _ _ rfl (fun j p q => ih _ (h' _ (by simp)))
    | iface t v => exact .iface t (ih v h)
    | _ => exact VR.of_ground0 _ h

/-! ## Objects and the world -/

def EntR (σ : Sg) (e : Value × Value × Nat) (e' : MapEntry) : Prop := VR σ e.1 e'.key ∧ VR σ e.2.1 e'.val ∧ e.2.2 = e'.born

/-- how an abstract object stands to what lies at its place -/
def ObjR (σ : Sg) (i : BI) : AObj → Option Obj → Prop
  | .cells c _ es gr, o => ∃ c' e' fz, o = some (.cells c' e' fz) ∧ i.gr = gr ∧ (gr = true → i.es = es) ∧ c.length = i.size ∧
      (∀ (j : Nat) (v : Value), c[j]? = some v → ∃ v', c'[i.sh + j]? = some v' ∧ VR σ v v') ∧
      (gr = false → i.sh = 0 ∧ c'.size = c.length ∧ (∀ j, j < c.length → ¬ (fz.1 ≤ j ∧ j < fz.2))) ∧
      (gr = true → i.sh + i.size ≤ i.csz ∧ i.csz ≤ c'.size ∧ (∀ j, j < i.csz → ¬ (fz.1 ≤ j ∧ j < fz.2))) ∧ e' = i.ty ∧ fz = i.fz
  | .map es ck, o => ∃ es' : Array MapEntry, o = some (.map es' ck) ∧ es.length = es'.size ∧ ∀ (j : Nat) (e : Value × Value × Nat), es[j]? = some e → ∃ e', es'[j]? = some e' ∧ EntR σ e e'

theorem ObjR.mono {σ σ' : Sg} (he : ∀ b i, σ b = some i → σ' b = some i) {i : BI} {o : AObj} {x : Option Obj} (h : ObjR σ i o x) : ObjR σ' i o x := by
  cases o with
  | cells c e es gr =>
    obtain ⟨c', e', fz, h1, h2, h3, h4, h5, h6⟩ := h
    exact ⟨c', e', fz, h1, h2, h3, h4, fun j v hj => let ⟨v', a, b⟩ := h5 j v hj; ⟨v', a, b.mono he⟩, h6⟩
  | map es ck =>
    obtain ⟨es', h1, h2, h3⟩ := h
    exact ⟨es', h1, h2, fun j e hj => let ⟨e', a, b, c, d⟩ := h3 j e hj; ⟨e', a, b.mono he, c.mono he, d⟩⟩

structure WR (σ : Sg) (H : Hp) (w : World) : Prop where
  live : ∀ b o, H.get b = some o → ∃ i, σ b = some i ∧ ObjR σ i o w.heap[i.blk]?
  inj : ∀ b1 b2 i1 i2, (H.get b1).isSome = true → (H.get b2).isSome = true → σ b1 = some i1 → σ b2 = some i2 → i1.blk = i2.blk → b1 = b2

theorem WR.lt {σ : Sg} {H : Hp} {w : World} (h : WR σ H w) {b : Nat} {i : BI} (hb : (H.get b).isSome = true) (hi : σ b = some i) : i.blk < w.heap.size := by
  obtain ⟨o, ho⟩ := Option.isSome_iff_exists.1 hb
  obtain ⟨i', hi', hr⟩ := h.live b o ho
  rw [hi] at hi'
  injection hi' with hi'
  subst hi'
  rcases Nat.lt_or_ge i.blk w.heap.size with h1 | h1
  · exact h1
  · rw [Array.getElem?_eq_none h1] at hr
    cases o with
    | cells => obtain ⟨_, _, _, hx, _⟩ := hr; cases hx
    | map => obtain ⟨_, hx, _⟩ := hr; cases hx

/-- a part of the heap -/
theorem WR.sub {σ : Sg} {H H' : Hp} {w : World} (h : WR σ H w) (hs : ∀ b o, H'.get b = some o → H.get b = some o) : WR σ H' w := by
  refine ⟨fun b o hb => h.live b o (hs b o hb), fun b1 b2 i1 i2 h1 h2 => ?_⟩
  obtain ⟨o1, ho1⟩ := Option.isSome_iff_exists.1 h1
  obtain ⟨o2, ho2⟩ := Option.isSome_iff_exists.1 h2
  exact h.inj b1 b2 i1 i2 (by rw [hs _ _ ho1]; rfl) (by rw [hs _ _ ho2]; rfl)

/-- what holds of a state -/
structure Inv (ng : Nat) (σ : Sg) (H : Hp) (nx : Nat) (w : World) : Prop where
  wr : WR σ H w
  fresh : ∀ b, nx ≤ b → σ b = none
  glob : ∀ g, g < ng → ∃ i, σ g = some i ∧ i.blk = g ∧ i.sh = 0

/-- how a state has come out of another -/
structure Step (σ : Sg) (H : Hp) (nx : Nat) (w : World) (σ' : Sg) (H' : Hp) (nx' : Nat) (w' : World) : Prop where
  ext : ∀ b i, σ b = some i → σ' b = some i
  nxle : nx ≤ nx'
  fresh : ∀ b, nx' ≤ b → σ' b = none
  wr : WR σ' H' w'
  old : ∀ b, b < nx → (H'.get b).isSome = true → (H.get b).isSome = true
  own : ∀ b' i', (H'.get b').isSome = true → σ' b' = some i' → w.heap.size ≤ i'.blk ∨ ∃ b i, (H.get b).isSome = true ∧ σ b = some i ∧ i.blk = i'.blk
  size : w.heap.size ≤ w'.heap.size
  frame : ∀ c, c < w.heap.size → (∀ b i, (H.get b).isSome = true → σ b = some i → i.blk ≠ c) → w'.heap[c]? = w.heap[c]?
  tape : w'.tape = w.tape
  os : w'.os = w.os
  output : w'.output = w.output
  keep : ∀ b, b < nx → σ' b = σ b

theorem Step.refl {ng : Nat} {σ : Sg} {H : Hp} {nx : Nat} {w : World} (h : Inv ng σ H nx w) : Step σ H nx w σ H nx w :=
  ⟨fun _ _ h => h, Nat.le_refl _, h.fresh, h.wr, fun _ _ h => h, fun b' i' h1 h2 => .inr ⟨b', i', h1, h2, rfl⟩, Nat.le_refl _, fun _ _ _ => rfl, rfl, rfl, rfl, fun _ _ => rfl⟩

theorem Step.inv {ng : Nat} {σ σ' : Sg} {H H' : Hp} {nx nx' : Nat} {w w' : World} (h : Inv ng σ H nx w) (s : Step σ H nx w σ' H' nx' w') : Inv ng σ' H' nx' w' :=
  ⟨s.wr, s.fresh, fun g hg => let ⟨i, h1, h2⟩ := h.glob g hg; ⟨i, s.ext _ _ h1, h2⟩⟩

theorem Step.trans {σ σ1 σ2 : Sg} {H H1 H2 : Hp} {n n1 n2 : Nat} {w w1 w2 : World} (a : Step σ H n w σ1 H1 n1 w1) (b : Step σ1 H1 n1 w1 σ2 H2 n2 w2) :
    Step σ H n w σ2 H2 n2 w2 where
  ext := fun x i h => b.ext _ _ (a.ext _ _ h)
  nxle := Nat.le_trans a.nxle b.nxle
  fresh := b.fresh
  wr := b.wr
  old := fun x hx h => a.old x hx (b.old x (Nat.lt_of_lt_of_le hx a.nxle) h)
  own := fun b' i' h1 h2 => by
    rcases b.own b' i' h1 h2 with h | ⟨b1, i1, h3, h4, h5⟩
    · exact .inl (Nat.le_trans a.size h)
    · rw [← h5]; exact a.own b1 i1 h3 h4
  size := Nat.le_trans a.size b.size
  frame := fun c hc hn => by
    rw [b.frame c (Nat.lt_of_lt_of_le hc a.size) ?_, a.frame c hc hn]
    intro b1 i1 h1 h2 he
    rcases a.own b1 i1 h1 h2 with h | ⟨b0, i0, h3, h4, h5⟩
    · omega
    · exact hn b0 i0 h3 h4 (by omega)
  tape := by rw [b.tape, a.tape]
  os := by rw [b.os, a.os]
  output := by rw [b.output, a.output]
  keep := fun x hx => by rw [b.keep x (Nat.lt_of_lt_of_le hx a.nxle), a.keep x hx]

/-- one block turned in place -/
theorem Step.upd {ng : Nat} {σ : Sg} {H : Hp} {nx : Nat} {w w' : World} (h : Inv ng σ H nx w) {b : Nat} {i : BI} {o : AObj} (hb : (H.get b).isSome = true) (hi : σ b = some i)
    (ho : ObjR σ i o w'.heap[i.blk]?) (hs : w'.heap.size = w.heap.size) (hf : ∀ c, c ≠ i.blk → w'.heap[c]? = w.heap[c]?)
    (ht : w'.tape = w.tape) (hos : w'.os = w.os) (hout : w'.output = w.output) :
    Step σ H nx w σ (H.upd b (some o)) nx w' := by
  have hg : ∀ j, (H.upd b (some o)).get j = if j = b then some o else H.get j := fun j => PT.get_upd _ H b j hb
  have hsome : ∀ j, ((H.upd b (some o)).get j).isSome = true → (H.get j).isSome = true := by
    intro j hj; rw [hg] at hj; split at hj
    · rename_i e; exact e ▸ hb
    · exact hj
  refine ⟨fun _ _ h => h, Nat.le_refl _, h.fresh, ⟨fun j x hj => ?_, fun b1 b2 i1 i2 h1 h2 => h.wr.inj b1 b2 i1 i2 (hsome _ h1) (hsome _ h2)⟩, fun j _ hj => hsome j hj,
    fun b' i' h1 h2 => .inr ⟨b', i', hsome _ h1, h2, rfl⟩, by omega, fun c _ hn => hf c (fun e => hn b i hb hi e.symm), ht, hos, hout, fun _ _ => rfl⟩
  rw [hg] at hj
  split at hj
  · rename_i e; subst e; injection hj with hj; subst hj; exact ⟨i, hi, ho⟩
  · rename_i e
    obtain ⟨i', hi', hr⟩ := h.wr.live j x hj
    refine ⟨i', hi', ?_⟩
    rw [hf i'.blk ?_]
    · exact hr
    · intro he
      exact e (h.wr.inj j b i' i (by rw [hj]; rfl) hb hi' hi he)

/-- the map of blocks with one more -/
def Sg.put (σ : Sg) (b : Nat) (i : BI) : Sg := fun x => if x = b then some i else σ x
theorem Sg.put_same (σ : Sg) (b : Nat) (i : BI) : σ.put b i b = some i := by simp [Sg.put]
theorem Sg.put_ext {σ : Sg} {b : Nat} {i : BI} (h : σ b = none) : ∀ x j, σ x = some j → σ.put b i x = some j := by
  intro x j hx
  unfold Sg.put
  split
  · rename_i e; rw [e, h] at hx; cases hx
  · exact hx

/-- a new block -/
theorem Step.new {ng : Nat} {σ : Sg} {H : Hp} {nx : Nat} {w w' : World} (h : Inv ng σ H nx w) (hnx : nx < 1000000) {i : BI} {o : AObj} (hi : i.blk = w.heap.size)
    (ho : ObjR (σ.put nx i) i o w'.heap[w.heap.size]?) (hs : w'.heap.size = w.heap.size + 1) (hf : ∀ c, c < w.heap.size → w'.heap[c]? = w.heap[c]?)
    (ht : w'.tape = w.tape) (hos : w'.os = w.os) (hout : w'.output = w.output) :
    Step σ H nx w (σ.put nx i) (H.ins 40 nx o) (nx + 1) w' := by
  have hn : σ nx = none := h.fresh nx (Nat.le_refl _)
  have hnone : H.get nx = none := by
    cases hx : H.get nx with
    | none => rfl
    | some x => obtain ⟨i', hi', _⟩ := h.wr.live nx x hx; rw [hn] at hi'; cases hi'
  have hg : ∀ j, (H.ins 40 nx o).get j = if j = nx then some o else H.get j := fun j => PT.get_ins 40 o H nx j (by omega)
  have hcase : ∀ j, ((H.ins 40 nx o).get j).isSome = true → j = nx ∨ (j ≠ nx ∧ (H.get j).isSome = true) := by
    intro j hj; rw [hg] at hj; split at hj
    · rename_i e; exact .inl e
    · rename_i e; exact .inr ⟨e, hj⟩
  have hput : ∀ j, j ≠ nx → σ.put nx i j = σ j := fun j hj => by simp [Sg.put, hj]
  refine ⟨Sg.put_ext hn, by omega, fun b hb => ?_, ⟨fun j x hj => ?_, fun b1 b2 i1 i2 h1 h2 g1 g2 he => ?_⟩, fun b hb hj => ?_, fun b' i' h1 h2 => ?_, by omega, fun c hc _ => hf c hc, ht, hos, hout, fun b hb => hput b (by omega)⟩
  · rw [hput b (by omega)]; exact h.fresh b (by omega)
  · rw [hg] at hj
    split at hj
    · rename_i e; subst e; injection hj with hj; subst hj
      exact ⟨i, Sg.put_same _ _ _, hi ▸ ho⟩
    · obtain ⟨i', hi', hr⟩ := h.wr.live j x hj
      have hlt := h.wr.lt (by rw [hj]; rfl) hi'
      exact ⟨i', Sg.put_ext hn _ _ hi', by rw [hf _ hlt]; exact hr.mono (Sg.put_ext hn)⟩
  · rcases hcase b1 h1 with e1 | ⟨e1, q1⟩ <;> rcases hcase b2 h2 with e2 | ⟨e2, q2⟩
    · rw [e1, e2]
    · subst e1
      rw [Sg.put_same] at g1; rw [hput b2 e2] at g2
      injection g1 with g1; subst g1
      have := h.wr.lt q2 g2
      omega
    · subst e2
      rw [Sg.put_same] at g2; rw [hput b1 e1] at g1
      injection g2 with g2; subst g2
      have := h.wr.lt q1 g1
      omega
    · rw [hput b1 e1] at g1; rw [hput b2 e2] at g2
      exact h.wr.inj b1 b2 i1 i2 q1 q2 g1 g2 he
  · rcases hcase b hj with e | ⟨_, e⟩
    · omega
    · exact e
  · rcases hcase b' h1 with e | ⟨e, h1⟩
    · subst e; rw [Sg.put_same] at h2; injection h2 with h2; subst h2; left; omega
    · rw [hput b' e] at h2; exact .inr ⟨b', i', h1, h2, rfl⟩

/-- a block let go -/
theorem Step.kill {ng : Nat} {σ : Sg} {H : Hp} {nx : Nat} {w : World} (h : Inv ng σ H nx w) {b : Nat} (hb : (H.get b).isSome = true) : Step σ H nx w σ (H.upd b none) nx w := by
  have hg : ∀ j, (H.upd b none).get j = if j = b then none else H.get j := fun j => PT.get_upd _ H b j hb
  have hsub : ∀ j o, (H.upd b none).get j = some o → H.get j = some o := by
    intro j o hj; rw [hg] at hj; split at hj
    · cases hj
    · exact hj
  have hsome : ∀ j, ((H.upd b none).get j).isSome = true → (H.get j).isSome = true := by
    intro j hj
    obtain ⟨o, ho⟩ := Option.isSome_iff_exists.1 hj
    rw [hsub j o ho]; rfl
  exact ⟨fun _ _ h => h, Nat.le_refl _, h.fresh, h.wr.sub hsub, fun j _ hj => hsome j hj, fun b' i' h1 h2 => .inr ⟨b', i', hsome _ h1, h2, rfl⟩, Nat.le_refl _, fun _ _ _ => rfl, rfl, rfl, rfl, fun _ _ => rfl⟩

/-- a block let go, and its place given to a new one -/
theorem Step.repl {ng : Nat} {σ : Sg} {H : Hp} {nx : Nat} {w w' : World} (h : Inv ng σ H nx w) (hnx : nx < 1000000) {b : Nat} {i i' : BI} {o : AObj} (hb : (H.get b).isSome = true) (hi : σ b = some i) (hblk : i'.blk = i.blk)
    (ho : ObjR (σ.put nx i') i' o w'.heap[i.blk]?) (hs : w'.heap.size = w.heap.size) (hf : ∀ c, c ≠ i.blk → w'.heap[c]? = w.heap[c]?)
    (ht : w'.tape = w.tape) (hos : w'.os = w.os) (hout : w'.output = w.output) :
    Step σ H nx w (σ.put nx i') ((H.upd b none).ins 40 nx o) (nx + 1) w' := by
  have hn : σ nx = none := h.fresh nx (Nat.le_refl _)
  have hbn : b ≠ nx := by intro e; rw [e, hn] at hi; cases hi
  have hnone : H.get nx = none := by
    cases hx : H.get nx with
    | none => rfl
    | some x => obtain ⟨i', hi', _⟩ := h.wr.live nx x hx; rw [hn] at hi'; cases hi'
  have hg0 : ∀ j, (H.upd b none).get j = if j = b then none else H.get j := fun j => PT.get_upd _ H b j hb
  have hg : ∀ j, ((H.upd b none).ins 40 nx o).get j = if j = nx then some o else (H.upd b none).get j := fun j => PT.get_ins 40 o _ nx j (by omega)
  have hcase : ∀ j x, ((H.upd b none).ins 40 nx o).get j = some x → (j = nx ∧ x = o) ∨ (j ≠ nx ∧ j ≠ b ∧ H.get j = some x) := by
    intro j x hj
    rw [hg] at hj
    split at hj
    · rename_i e; injection hj with hj; exact .inl ⟨e, hj.symm⟩
    · rename_i e
      rw [hg0] at hj
      split at hj
      · cases hj
      · rename_i e2; exact .inr ⟨e, e2, hj⟩
  have hcase' : ∀ j, (((H.upd b none).ins 40 nx o).get j).isSome = true → j = nx ∨ (j ≠ nx ∧ j ≠ b ∧ (H.get j).isSome = true) := by
    intro j hj
    obtain ⟨x, hx⟩ := Option.isSome_iff_exists.1 hj
    rcases hcase j x hx with ⟨e, _⟩ | ⟨e1, e2, e3⟩
    · exact .inl e
    · exact .inr ⟨e1, e2, by rw [e3]; rfl⟩
  have hput : ∀ j, j ≠ nx → σ.put nx i' j = σ j := fun j hj => by simp [Sg.put, hj]
  refine ⟨Sg.put_ext hn, by omega, fun c hc => ?_, ⟨fun j x hj => ?_, fun b1 b2 i1 i2 h1 h2 g1 g2 he => ?_⟩, fun c hc hj => ?_, fun b' i1 h1 h2 => ?_, by omega, fun c hc hn' => hf c (fun e => hn' b i hb hi e.symm), ht, hos, hout, fun c hc => hput c (by omega)⟩
  · rw [hput c (by omega)]; exact h.fresh c (by omega)
  · rcases hcase j x hj with ⟨e1, e2⟩ | ⟨e1, e2, e3⟩
    · subst e1; subst e2
      exact ⟨i', Sg.put_same _ _ _, by rw [hblk]; exact ho⟩
    · obtain ⟨i1, hi1, hr⟩ := h.wr.live j x e3
      refine ⟨i1, Sg.put_ext hn _ _ hi1, ?_⟩
      rw [hf i1.blk (fun he => e2 (h.wr.inj j b i1 i (by rw [e3]; rfl) hb hi1 hi he))]
      exact hr.mono (Sg.put_ext hn)
  · rcases hcase' b1 h1 with e1 | ⟨e1, p1, q1⟩ <;> rcases hcase' b2 h2 with e2 | ⟨e2, p2, q2⟩
    · rw [e1, e2]
    · subst e1
      rw [Sg.put_same] at g1; rw [hput b2 e2] at g2
      injection g1 with g1; subst g1
      exact absurd (h.wr.inj b2 b i2 i q2 hb g2 hi (by omega)) p2
    · subst e2
      rw [Sg.put_same] at g2; rw [hput b1 e1] at g1
      injection g2 with g2; subst g2
      exact absurd (h.wr.inj b1 b i1 i q1 hb g1 hi (by omega)) p1
    · rw [hput b1 e1] at g1; rw [hput b2 e2] at g2
      exact h.wr.inj b1 b2 i1 i2 q1 q2 g1 g2 he
  · rcases hcase' c hj with e | ⟨_, _, e⟩
    · omega
    · exact e
  · rcases hcase' b' h1 with e | ⟨e, _, h1⟩
    · subst e; rw [Sg.put_same] at h2; injection h2 with h2; subst h2; exact .inr ⟨b, i, hb, hi, hblk.symm⟩
    · rw [hput b' e] at h2; exact .inr ⟨b', i1, h1, h2, rfl⟩

/-! ## Temporaries -/

structure TR (σ : Sg) (nt : Nat) (tm : TT) (tmps : Array Value) : Prop where
  size : tmps.size = nt
  val : ∀ t, VR σ (tm.get t) (tmps.getD t undef)

theorem VR.undef (σ : Sg) : VR σ undef undef := .tuple #[] #[] rfl (fun j p => absurd p (by simp))

theorem TR.mono {σ σ' : Sg} (he : ∀ b i, σ b = some i → σ' b = some i) {nt : Nat} {tm : TT} {tmps : Array Value} (h : TR σ nt tm tmps) : TR σ' nt tm tmps :=
  ⟨h.size, fun t => (h.val t).mono he⟩

/-- what is asked of a writer for a destination -/
def WrOK (nt : Nat) (d : Option Tmp) (w : Wr) : Prop :=
  match d with
  | none => ∀ x t, w x t = t
  | some k => k < nt ∧ ∀ x t j, (w x t).get j = if j = k then x else t.get j

theorem TR.put {σ : Sg} {nt : Nat} {tm : TT} {a : Act} {d : Option Tmp} {w : Wr} (h : TR σ nt tm a.tmps) (hw : WrOK nt d w) {v v' : Value} (hv : VR σ v v') :
    TR σ nt (w v tm) (a.put d v').tmps := by
  cases d with
  | none => simp only [WrOK] at hw; rw [hw]; exact h
  | some k =>
    obtain ⟨hk, hg⟩ := hw
    refine ⟨by simp [Act.put, h.size], fun t => ?_⟩
    rw [hg]
    split
    · rename_i e; subst e
      simp only [Act.put, Array.getD_eq_getD_getElem?]
      rw [Array.getElem?_setIfInBounds_self_of_lt (by rw [h.size]; exact hk)]
      exact hv
    · rename_i e
      simp only [Act.put, Array.getD_eq_getD_getElem?]
      rw [Array.getElem?_setIfInBounds_ne (fun e' => e e'.symm)]
      simpa [Array.getD_eq_getD_getElem?] using h.val t

theorem wrD_ok {nt : Nat} {d : Option Tmp} {w : Wr} (h : wrD nt d = some w) : WrOK nt d w := by
  cases d with
  | none => simp only [wrD, Option.some.injEq] at h; subst h; exact fun x t => rfl
  | some k =>
    simp only [wrD] at h
    cases hb : Nat.blt k nt with
    | false => rw [hb] at h; cases h
    | true =>
      rw [hb] at h
      rw [nblt] at hb
      exact ⟨of_decide_eq_true hb, wrS_get 16 k w h⟩

end Go.Ax
