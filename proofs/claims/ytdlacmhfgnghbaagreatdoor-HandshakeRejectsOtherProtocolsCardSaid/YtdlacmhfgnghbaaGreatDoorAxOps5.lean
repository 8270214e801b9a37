import Derived.Test.YtdlacmhfgnghbaaGreatDoorAxOps4
/- Literals, conversions, lengths, maps that are read. -/
set_option linter.unusedVariables false
set_option linter.constructorNameAsVariable false
set_option linter.unusedSimpArgs false
namespace Go.Ax

/-! ### lists, spliced -/

theorem over_length : ∀ (c vs : List Value), vs.length ≤ c.length → (over c vs).length = c.length
  | c, [], _ => by cases c <;> rfl
  | [], _ :: _, h => by simp at h
  | _ :: c, _ :: vs, h => by
    simp only [over, List.length_cons]
    rw [over_length c vs (by simpa using h)]
theorem splice_length : ∀ (c : List Value) (n : Nat) (vs : List Value), n + vs.length ≤ c.length → (splice c n vs).length = c.length
  | c, 0, vs, h => by
    have : splice c 0 vs = over c vs := by cases c <;> rfl
    rw [this]; exact over_length c vs (by omega)
  | [], n + 1, vs, h => rfl
  | x :: c, n + 1, vs, h => by
    simp only [splice, List.length_cons]
    rw [splice_length c n vs (by simp at h; omega)]
theorem over_get : ∀ (c vs : List Value) (j : Nat), vs.length ≤ c.length → (over c vs)[j]? = if j < vs.length then vs[j]? else c[j]?
  | c, [], j, _ => by cases c <;> simp [over]
  | [], _ :: _, j, h => by simp at h
  | x :: c, v :: vs, j, h => by
    simp only [over]
    cases j with
    | zero => simp
    | succ j =>
      rw [List.getElem?_cons_succ, over_get c vs j (by simpa using h)]
      simp
theorem splice_get : ∀ (c : List Value) (n : Nat) (vs : List Value) (j : Nat), n + vs.length ≤ c.length → (splice c n vs)[j]? = if n ≤ j ∧ j < n + vs.length then vs[j - n]? else c[j]?
  | c, 0, vs, j, h => by
    have : splice c 0 vs = over c vs := by cases c <;> rfl
    rw [this, over_get c vs j (by omega)]
    by_cases h1 : j < vs.length
    · rw [if_pos h1, if_pos (by omega)]; simp
    · rw [if_neg h1, if_neg (by omega)]
  | [], n + 1, vs, j, h => by simp at h
  | x :: c, n + 1, vs, j, h => by
    simp only [splice]
    cases j with
    | zero => simp
    | succ j =>
      rw [List.getElem?_cons_succ, splice_get c n vs j (by simp at h; omega)]
      by_cases h1 : n ≤ j ∧ j < n + vs.length
      · rw [if_pos h1, if_pos (by omega), show j + 1 - (n + 1) = j - n by omega]
      · rw [if_neg h1, if_neg (by omega)]; simp
theorem VL.splice {σ : Sg} {c c' vs vs' : List Value} (h : VL σ c c') (g : VL σ vs vs') {n : Nat} (hn : n + vs.length ≤ c.length) : VL σ (Ax.splice c n vs) (Ax.splice c' n vs') := by
  have hn' : n + vs'.length ≤ c'.length := by rw [← g.1, ← h.1]; exact hn
  refine ⟨by rw [splice_length _ _ _ hn, splice_length _ _ _ hn', h.1], fun j v hj => ?_⟩
  rw [splice_get _ _ _ _ hn] at hj
  rw [splice_get _ _ _ _ hn', ← g.1]
  split at hj
  · rename_i h1; rw [if_pos h1]; exact g.2 _ v hj
  · rename_i h1; rw [if_neg h1]; exact h.2 _ v hj

/-- the model's way to lay a value's cells into others -/
theorem fold_set (vs : List Value) (off : Nat) : ∀ (k : Nat) (cells : Array Value) (j : Nat),
    ((vs.zipIdx k).foldl (fun cs (p : Value × Nat) => cs.setIfInBounds (off + p.2) p.1) cells)[j]? = if off + k ≤ j ∧ j < off + k + vs.length ∧ j < cells.size then vs[j - (off + k)]? else cells[j]? := by
  induction vs with
  | nil =>
    intro k cells j
    simp
    intro h1 h2
    omega
  | cons v vs ih =>
    intro k cells j
    rw [List.zipIdx_cons, List.foldl_cons, ih (k + 1)]
    simp only [Array.size_setIfInBounds, List.length_cons]
    by_cases hj : j = off + k
    · subst hj
      rw [if_neg (by omega)]
      by_cases hs : off + k < cells.size
      · rw [if_pos (by omega), Array.getElem?_setIfInBounds_self_of_lt hs]; simp
      · rw [if_neg (by omega), Array.getElem?_eq_none (by simp; omega), Array.getElem?_eq_none (by omega)]
    · rw [Array.getElem?_setIfInBounds_ne (by omega)]
      by_cases h1 : off + (k + 1) ≤ j ∧ j < off + (k + 1) + vs.length ∧ j < cells.size
      · rw [if_pos h1, if_pos (by omega), show j - (off + k) = (j - (off + (k + 1))) + 1 by omega]; simp
      · rw [if_neg h1, if_neg (by omega)]
theorem fold_splice (v : Value) (off : Nat) (cells : Array Value) (h : off + v.cells.size ≤ cells.size) :
    (v.cells.zipIdx.foldl (fun cs (p : Value × Nat) => cs.setIfInBounds (off + p.2) p.1) cells).toList = Ax.splice cells.toList off v.cells.toList := by
  apply List.ext_getElem?
  intro j
  rw [splice_get _ _ _ _ (by simpa using h)]
  have e : v.cells.zipIdx.foldl (fun cs (p : Value × Nat) => cs.setIfInBounds (off + p.2) p.1) cells = (v.cells.toList.zipIdx 0).foldl (fun cs (p : Value × Nat) => cs.setIfInBounds (off + p.2) p.1) cells := by
    rw [← Array.foldl_toList, Array.toList_zipIdx]
  rw [e, Array.getElem?_toList, fold_set]
  simp only [Nat.add_zero, Array.length_toList, Array.getElem?_toList]
  by_cases h1 : off ≤ j ∧ j < off + v.cells.size
  · rw [if_pos ⟨h1.1, h1.2, by omega⟩, if_pos h1]
  · rw [if_neg (fun hh => h1 ⟨hh.1, hh.2.1⟩), if_neg h1]

theorem VR.cells {σ : Sg} {v v' : Value} (h : VR σ v v') : VL σ v.cells.toList v'.cells.toList := by
  cases h with
  | agg cs cs' hs h => exact VL.of_array hs h
  | bool b => exact VL.cons (.bool b) (VL.nil σ)
  | int k n => exact VL.cons (.int k n) (VL.nil σ)
  | string s => exact VL.cons (.string s) (VL.nil σ)
  | nilptr => exact VL.cons .nilptr (VL.nil σ)
  | ptr h => exact VL.cons (.ptr h) (VL.nil σ)
  | nilsl l c => exact VL.cons (.nilsl l c) (VL.nil σ)
  | sl h hl hs => exact VL.cons (.sl h hl hs) (VL.nil σ)
  | nilmap => exact VL.cons .nilmap (VL.nil σ)
  | map h => exact VL.cons (.map h) (VL.nil σ)
  | func f a a' c c' ha hc h1 h2 => exact VL.cons (.func f a a' c c' ha hc h1 h2) (VL.nil σ)
  | nilFunc => exact VL.cons .nilFunc (VL.nil σ)
  | iface t h => exact VL.cons (.iface t h) (VL.nil σ)
  | nilIface => exact VL.cons .nilIface (VL.nil σ)
  | tuple cs cs' hs h => exact VL.cons (.tuple cs cs' hs h) (VL.nil σ)

section
variable {P : Program} {Y : Ty} (hY : TyOK P Y)

theorem fill_ok {σ : Sg} {nt : Nat} {tm : TT} {a : Act} (hg : Glob Y.ng σ) (htr : TR σ nt tm a.tmps) (place : Nat → Option (Nat × Nat)) : ∀ (ps : List (Nat × Operand)) (gs : List (Nat × Rd)) (qs : List (Nat × Nat × Rd)),
    rdPs Y ps = some gs → placesS place gs = some qs → ∀ (cells : List Value) (cells' : Array Value) (r : List Value), VL σ cells cells'.toList → fillP cells qs tm = some r →
    ∃ r' : Array Value, Instr.fill place cells' (ps.map fun (i, x) => (i, a.eval x)) = some r' ∧ VL σ r r'.toList := by
  intro ps
  induction ps with
  | nil =>
    intro gs qs h1 h2 cells cells' r hc hf
    simp only [rdPs, Option.some.injEq] at h1
    subst h1
    simp only [placesS, Option.some.injEq] at h2
    subst h2
    simp only [fillP, Option.some.injEq] at hf
    subst hf
    exact ⟨cells', rfl, hc⟩
  | cons p ps ih =>
    obtain ⟨i, x⟩ := p
    intro gs qs h1 h2 cells cells' r hc hf
    simp only [rdPs] at h1
    split at h1
    · cases h1
    · rename_i g hx
      split at h1
      · cases h1
      · rename_i gs' hgs
        injection h1 with h1; subst h1
        simp only [placesS] at h2
        split at h2
        · cases h2
        · rename_i off size hpl
          split at h2
          · cases h2
          · rename_i qs' hqs
            injection h2 with h2; subst h2
            simp only [fillP] at hf
            have hv := (rdO_ok hx hg htr)
            rw [vCells_eq] at hf
            cases hb : (Nat.beq (g tm).cells.toList.length size && Nat.ble (Nat.add off (g tm).cells.toList.length) cells.length) with
            | false => rw [hb] at hf; cases hf
            | true =>
              rw [hb] at hf
              simp only [cond_true] at hf
              rw [Bool.and_eq_true, nbeq, nble] at hb
              have hb1 := of_decide_eq_true hb.1
              have hb2 : off + (g tm).cells.toList.length ≤ cells.length := of_decide_eq_true hb.2
              have hvc := hv.cells
              have hl1 : (a.eval x).cells.size = size := by
                rw [← Array.length_toList, ← hvc.1]; exact hb1
              have hl2 : off + (a.eval x).cells.size ≤ cells'.size := by
                rw [← Array.length_toList (xs := cells'), ← hc.1, hl1, ← hb1]; exact hb2
              obtain ⟨r', e1, e2⟩ := ih gs' qs' hgs hqs (splice cells off (g tm).cells.toList)
                ((a.eval x).cells.zipIdx.foldl (fun cs (p : Value × Nat) => cs.setIfInBounds (off + p.2) p.1) cells') r
                (by rw [fold_splice _ _ _ hl2]; exact hc.splice hvc hb2) hf
              refine ⟨r', ?_, e2⟩
              simp only [List.map_cons, Instr.fill, hpl]
              rw [if_neg (by simp [hl1]; omega)]
              exact e1

include hY in
theorem zeroA_ok {t : TypeId} {z : List Value} (h : zeroA Y t = some z) (w : World) : ∃ zv : Value, (zeroValue t).run P w = .ok zv w ∧ z = zv.cells.toList ∧ ∃ ti, P.info? t = some ti ∧ ti.zero = some zv ∧ ∀ σ : Sg, VL σ z zv.cells.toList := by
  unfold zeroA at h
  split at h
  · rename_i ti d ht
    obtain ⟨h1, h2⟩ := hY.tys _ _ _ ht
    split at h
    · rename_i zv hz
      cases hgr : ground 8 zv with
      | false => rw [hgr] at h; cases h
      | true =>
        rw [hgr] at h; injection h with h; subst h
        exact ⟨zv, by simp [zeroValue, typeInfo, h1, hz], rfl, ti, h1, hz, fun σ => (VR.of_ground 8 zv hgr).cells⟩
    · cases h
  · cases h

theorem run_mapM {α β : Type} (f : α → Sem β) (g : α → β) (w : World) (as : Array α) (h : ∀ a ∈ as.toList, (f a).run P w = .ok (g a) w) : (as.mapM f).run P w = .ok (as.map g) w := by
  obtain ⟨l⟩ := as
  rw [List.mapM_toArray]
  have key : ∀ l : List α, (∀ a ∈ l, (f a).run P w = .ok (g a) w) → (l.mapM f).run P w = .ok (l.map g) w := by
    intro l
    induction l with
    | nil => intro _; simp
    | cons x xs ih =>
      intro h
      rw [List.mapM_cons]
      simp only [Sem.run_bind, h x (by simp), Result.andThen_ok, ih (fun a ha => h a (by simp [ha])), Sem.run_pure, List.map_cons]
  simp [key l h]

theorem buildF_some {z : List Value} {qs : List (Nat × Nat × Rd)} {tm : TT} {v : Value} (h : buildF z qs tm = some v) : ∃ c, fillP z qs tm = some c ∧ v = .agg c.toArray := by
  unfold buildF at h
  split at h
  · rename_i c hc
    injection h with h
    exact ⟨c, hc, h.symm⟩
  · cases h

theorem vagg_of {σ : Sg} {c : List Value} {r' : Array Value} (h : VL σ c r'.toList) : VR σ (.agg c.toArray) (.agg r') := by
  have := VR.mk_agg h
  simpa using this

include hY in
theorem buildStruct_ok {t : TypeId} {ps : Array (Nat × Operand)} {ti : TypeInfo} {fs : Array Field} {z : List Value} {gs : List (Nat × Rd)} {qs : List (Nat × Nat × Rd)} (ht : Y.tys.get t = some (ti, .struct fs)) (hz : zeroA Y t = some z)
    (hgs : rdPs Y ps.toList = some gs) (hall : (fs.toList.all fun f => (Y.tys.get f.type).isSome) = true) (hqs : placesS (placeF Y fs) gs = some qs) : QOK P Y (.build t ps) (fun tm _ => buildF z qs tm) := by
  intro σ nt tm H w a hg htr hw v hv
  obtain ⟨c, hc, rfl⟩ := buildF_some (show buildF z qs tm = some v from hv)
  obtain ⟨zv, hz1, hz2, _, _, _, hz3⟩ := zeroA_ok (P := P) hY hz w
  obtain ⟨g1, g2⟩ := hY.tys _ _ _ ht
  obtain ⟨r', e1, e2⟩ := fill_ok hg htr (placeF Y fs) ps.toList gs qs hgs hqs z zv.cells c (hz3 σ) hc
  refine ⟨.agg r', vagg_of e2, fun oper ho => ?_⟩
  have hmap : (fs.mapM fun f => do pure (f.offset, ← sizeOf f.type) : Sem (Array (Nat × Nat))).run P w = .ok (fs.map fun f => (f.offset, P.cellsOf f.type)) w := by
    refine run_mapM _ _ w fs (fun f hf => ?_)
    rw [List.all_eq_true] at hall
    obtain ⟨x, hx⟩ := Option.isSome_iff_exists.1 (hall f hf)
    obtain ⟨h1, h2⟩ := hY.tys _ _ _ hx
    simp [run_sizeOf' (P := P) h1 w, Program.cellsOf, h1]
  have hpl : (fun i => (fs.map fun f => (f.offset, P.cellsOf f.type))[i]?) = placeF Y fs := by
    funext i
    simp only [placeF, Array.getElem?_map]
    cases hfi : fs[i]? with
    | none => rfl
    | some f =>
      rw [List.all_eq_true] at hall
      obtain ⟨x, hx⟩ := Option.isSome_iff_exists.1 (hall f (by
        have := Array.mem_of_getElem? hfi
        simpa using this))
      obtain ⟨h1, h2⟩ := hY.tys _ _ _ hx
      simp [hx, Program.cellsOf, h1]
  have hps : (ps.map fun (i, x) => (i, a.eval x)).toList = ps.toList.map fun (i, x) => (i, a.eval x) := by simp
  simp only [execOp, ho, Instr.build, Sem.run_bind, hz1, Result.andThen_ok, run_underlying g2, hmap, hps, hpl, e1, Sem.run_pure]

include hY in
theorem buildArray_ok {t e : TypeId} {n : Nat} {ps : Array (Nat × Operand)} {ti ei : TypeInfo} {ed : TypeDesc} {z : List Value} {gs : List (Nat × Rd)} {qs : List (Nat × Nat × Rd)} (ht : Y.tys.get t = some (ti, .array n e)) (he : Y.tys.get e = some (ei, ed)) (hz : zeroA Y t = some z)
    (hgs : rdPs Y ps.toList = some gs) (hqs : placesS (fun i => some (Nat.mul i ei.size, ei.size)) gs = some qs) : QOK P Y (.build t ps) (fun tm _ => buildF z qs tm) := by
  intro σ nt tm H w a hg htr hw v hv
  obtain ⟨c, hc, rfl⟩ := buildF_some (show buildF z qs tm = some v from hv)
  obtain ⟨zv, hz1, hz2, _, _, _, hz3⟩ := zeroA_ok (P := P) hY hz w
  obtain ⟨g1, g2⟩ := hY.tys _ _ _ ht
  obtain ⟨g3, g4⟩ := hY.tys _ _ _ he
  obtain ⟨r', e1, e2⟩ := fill_ok hg htr (fun i => some (Nat.mul i ei.size, ei.size)) ps.toList gs qs hgs hqs z zv.cells c (hz3 σ) hc
  refine ⟨.agg r', vagg_of e2, fun oper ho => ?_⟩
  have hsz := run_sizeOf' (P := P) g3 w
  have hps : (ps.map fun (i, x) => (i, a.eval x)).toList = ps.toList.map fun (i, x) => (i, a.eval x) := by simp
  have e1' : Instr.fill (fun i => some (i * ei.size, ei.size)) zv.cells (ps.toList.map fun (i, x) => (i, a.eval x)) = some r' := e1
  simp only [execOp, ho, Instr.build, Sem.run_bind, hz1, Result.andThen_ok, run_underlying g2, hsz, hps, e1', Sem.run_pure]

/-! ### conversions and the rest -/

include hY in
theorem convInt_ok {s d : TypeId} {x : Operand} {g : Rd} {si di : TypeInfo} {sk k : IntKind} (hs : Y.tys.get s = some (si, .int sk)) (hd : Y.tys.get d = some (di, .int k)) (hx : rdO Y x = some g) :
    QOK P Y (.convert s d x) (fun tm _ => f1 (convInt k) g tm) := by
  intro σ nt tm H w a hg htr hw v hv
  obtain ⟨p, hp, hv⟩ := ob_eq_some (show ob _ _ none = some v from hv)
  injection hv with hv; subst hv
  have h1 := rdO_ok hx hg htr
  rw [vInt_some hp] at h1
  have h1 := h1.int_eq
  obtain ⟨g1, g2⟩ := hY.tys _ _ _ hs
  obtain ⟨g3, g4⟩ := hY.tys _ _ _ hd
  refine ⟨_, .int _ _, fun oper ho => ?_⟩
  simp only [execOp, ho, convert, Sem.run_bind, run_underlying g2, run_underlying g4, Result.andThen_ok, h1, Conv.intToInt, Sem.run_pure, wrapF_eq]

include hY in
theorem convStr_ok {s d : TypeId} {x : Operand} {g : Rd} {si di : TypeInfo} (hs : Y.tys.get s = some (si, .string)) (hd : Y.tys.get d = some (di, .string)) (hx : rdO Y x = some g) :
    QOK P Y (.convert s d x) (fun tm _ => f1 convStr g tm) := by
  intro σ nt tm H w a hg htr hw v hv
  have hv : convStr (g tm) = some v := hv
  have h1 := rdO_ok hx hg htr
  unfold convStr at hv
  split at hv
  · rename_i s' hs'
    injection hv with hv; subst hv
    rw [hs'] at h1
    have h1 := h1.string_eq
    obtain ⟨g1, g2⟩ := hY.tys _ _ _ hs
    obtain ⟨g3, g4⟩ := hY.tys _ _ _ hd
    refine ⟨_, .string _, fun oper ho => ?_⟩
    simp only [execOp, ho, convert, Sem.run_bind, run_underlying g2, run_underlying g4, Result.andThen_ok, h1, Sem.run_pure]
  · cases hv

include hY in
theorem iface_ok {t : TypeId} {x : Operand} {g : Rd} {ti : TypeInfo} {d : TypeDesc} (ht : Y.tys.get t = some (ti, d)) (hd : ∀ ms, d ≠ .interface ms) (hx : rdO Y x = some g) : QOK P Y (.makeInterface t x) (fun tm _ => ifaceF t g tm) := by
  intro σ nt tm H w a hg htr hw v hv
  injection (show some (Value.iface t (g tm)) = some v from hv) with hv; subst hv
  obtain ⟨g1, g2⟩ := hY.tys _ _ _ ht
  refine ⟨_, .iface t (rdO_ok hx hg htr), fun oper ho => ?_⟩
  simp only [execOp, ho, Instr.makeInterface, Sem.run_bind, run_underlying g2, Result.andThen_ok]
  cases d <;> first | (exact absurd rfl (hd _)) | rfl

theorem func_ok {f : FuncId} {xs ys : Array Operand} {gs hs : List Rd} (h1 : rdsO Y xs.toList = some gs) (h2 : rdsO Y ys.toList = some hs) : QOK P Y (.makeFunc (.func f) xs ys) (fun tm _ => funcF f gs hs tm) := by
  intro σ nt tm H w a hg htr hw v hv
  injection (show some _ = some v from hv) with hv; subst hv
  have e1 := rdsO_ok h1 hg htr
  have e2 := rdsO_ok h2 hg htr
  have q1 : xs.toList.map a.eval = (xs.map a.eval).toList := by simp
  have q2 : ys.toList.map a.eval = (ys.map a.eval).toList := by simp
  rw [q1] at e1
  rw [q2] at e2
  obtain ⟨p1, p2⟩ := VL.to_array (cs := (rdAll tm gs).toArray) (cs' := xs.map a.eval) (by simpa using e1)
  obtain ⟨p3, p4⟩ := VL.to_array (cs := (rdAll tm hs).toArray) (cs' := ys.map a.eval) (by simpa using e2)
  exact ⟨_, .func f _ _ _ _ p1 p3 p2 p4, fun oper ho => by simp [execOp, ho, Instr.makeFunc]⟩

/-! ### lengths, least and greatest -/

/-- a builtin's answer, through 'resolve' and 'invoke' -/
theorem run_builtin {b : Builtin} {args : Array Operand} {ts : Array TypeId} {oper : Oper} {a : Act} {w w' : World} {v : Value} (ho : oper.op = .call { callee := .builtin b, args := args, argTypes := ts })
    (h : (builtin b ts oper.type (args.map fun | .const _ => true | _ => false) (args.map a.eval)).run P w = .ok (.value v) w') : (execOp a.eval oper).run P w = .ok (.value v) w' := by
  simp only [execOp, ho, resolve, pure_bind, invoke]
  exact h

include hY in
theorem lenStr_ok {t : TypeId} {ts : Array TypeId} {x : Operand} {g : Rd} {ti : TypeInfo} (h0 : ts[0]? = some t) (ht : Y.tys.get t = some (ti, .string)) (hx : rdO Y x = some g) : QOK P Y (.call { callee := .builtin .len, args := #[x], argTypes := ts }) (fun tm _ => f1 lenStr g tm) := by
  intro σ nt tm H w a hg htr hw v hv
  obtain ⟨s, hs, hv⟩ := ob_eq_some (show ob _ _ none = some v from hv)
  injection hv with hv; subst hv
  have h1 := rdO_ok hx hg htr
  rw [vStr_some hs] at h1
  have h1 := h1.string_eq
  obtain ⟨g1, g2⟩ := hY.tys _ _ _ ht
  refine ⟨_, .int _ _, fun oper ho => run_builtin ho ?_⟩
  have e : s.data.toList.length = s.size := Array.length_toList
  simp [builtin, Builtin.len_, h0, h1, run_underlying g2, goInt, e]

include hY in
theorem lenSl_ok {t e : TypeId} {ts : Array TypeId} {x : Operand} {g : Rd} {ti : TypeInfo} (h0 : ts[0]? = some t) (ht : Y.tys.get t = some (ti, .slice e)) (hx : rdO Y x = some g) : QOK P Y (.call { callee := .builtin .len, args := #[x], argTypes := ts }) (fun tm _ => f1 lenSl g tm) := by
  intro σ nt tm H w a hg htr hw v hv
  obtain ⟨s, hs, hv⟩ := ob_eq_some (show ob _ _ none = some v from hv)
  injection hv with hv; subst hv
  have h1 := rdO_ok hx hg htr
  rw [vSl_some hs] at h1
  obtain ⟨g1, g2⟩ := hY.tys _ _ _ ht
  obtain ⟨ad, c, he⟩ : ∃ ad c, a.eval x = .slice ad s.2.1 c := by
    obtain ⟨o, l, c⟩ := s
    cases hz : a.eval x <;> rw [hz] at h1 <;> cases h1 <;> exact ⟨_, _, rfl⟩
  refine ⟨_, .int _ _, fun oper ho => run_builtin ho ?_⟩
  simp [builtin, Builtin.len_, h0, he, run_underlying g2, goInt]

include hY in
theorem lenArr_ok {t e : TypeId} {n : Nat} {ts : Array TypeId} {x : Operand} {ti : TypeInfo} (h0 : ts[0]? = some t) (ht : Y.tys.get t = some (ti, .array n e)) : QOK P Y (.call { callee := .builtin .len, args := #[x], argTypes := ts }) (fun _ _ => some (.int .i64 n)) := by
  intro σ nt tm H w a hg htr hw v hv
  injection hv with hv; subst hv
  obtain ⟨g1, g2⟩ := hY.tys _ _ _ ht
  refine ⟨_, .int _ _, fun oper ho => run_builtin ho ?_⟩
  simp [builtin, Builtin.len_, h0, run_underlying g2, goInt]

theorem min_ok {ts : Array TypeId} {x y : Operand} {g h : Rd} (hx : rdO Y x = some g) (hy : rdO Y y = some h) : QOK P Y (.call { callee := .builtin .min, args := #[x, y], argTypes := ts }) (fun tm _ => f2 minF g h tm) := by
  intro σ nt tm H w a hg htr hw v hv
  obtain ⟨p, hp, hv⟩ := ob_eq_some (show ob _ _ none = some v from hv)
  obtain ⟨q, hq, hv⟩ := ob_eq_some hv
  injection hv with hv; subst hv
  have h1 := rdO_ok hx hg htr
  have h2 := rdO_ok hy hg htr
  rw [vInt_some hp] at h1
  rw [vInt_some hq] at h2
  have h1 := h1.int_eq
  have h2 := h2.int_eq
  refine ⟨_, .int _ _, fun oper ho => run_builtin ho ?_⟩
  rw [ltF_eq]
  by_cases hlt : q.2 < p.2 <;> simp [builtin, Builtin.min_, h1, h2, Builtin.min2, hlt]
theorem max_ok {ts : Array TypeId} {x y : Operand} {g h : Rd} (hx : rdO Y x = some g) (hy : rdO Y y = some h) : QOK P Y (.call { callee := .builtin .max, args := #[x, y], argTypes := ts }) (fun tm _ => f2 maxF g h tm) := by
  intro σ nt tm H w a hg htr hw v hv
  obtain ⟨p, hp, hv⟩ := ob_eq_some (show ob _ _ none = some v from hv)
  obtain ⟨q, hq, hv⟩ := ob_eq_some hv
  injection hv with hv; subst hv
  have h1 := rdO_ok hx hg htr
  have h2 := rdO_ok hy hg htr
  rw [vInt_some hp] at h1
  rw [vInt_some hq] at h2
  have h1 := h1.int_eq
  have h2 := h2.int_eq
  refine ⟨_, .int _ _, fun oper ho => run_builtin ho ?_⟩
  rw [ltF_eq]
  by_cases hlt : p.2 < q.2 <;> simp [builtin, Builtin.max_, h1, h2, Builtin.max2, hlt]

end
end Go.Ax
