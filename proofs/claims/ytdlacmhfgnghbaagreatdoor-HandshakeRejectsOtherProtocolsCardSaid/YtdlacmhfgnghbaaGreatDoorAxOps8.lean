import Derived.Test.YtdlacmhfgnghbaaGreatDoorAxOps7
import Derived.Deep.AppendSrc
import Derived.Room.Entries
/- Operations that make a new block. -/
set_option linter.unusedVariables false
set_option linter.constructorNameAsVariable false
set_option linter.unusedSimpArgs false
namespace Go.Ax

/-- what is asked of an operation that makes a block -/
def AOK (P : Program) (Y : Ty) (o : Op) (f : TT → AlRes) : Prop :=
  ∀ (σ : Sg) (nt : Nat) (tm : TT) (w : World) (a : Act), Glob Y.ng σ → TR σ nt tm a.tmps → ∀ ob len, f tm = some (ob, len) →
    ∃ (i : BI) (v' : Value) (w' : World), i.blk = w.heap.size ∧ w'.heap.size = w.heap.size + 1 ∧ (∀ c, c < w.heap.size → w'.heap[c]? = w.heap[c]?) ∧
      w'.tape = w.tape ∧ w'.os = w.os ∧ w'.output = w.output ∧
      (∀ b, σ b = none → VR (σ.put b i) (newV b ob len) v' ∧ ObjR (σ.put b i) i ob w'.heap[w.heap.size]?) ∧
      ∀ oper : Oper, oper.op = o → (execOp a.eval oper).run P w = .ok (.value v') w'

section
variable {P : Program} {Y : Ty} (hY : TyOK P Y)

theorem run_newObj' (o : Obj) (w : World) : (newObj o).run P w = .ok w.heap.size (w.alloc o) := rfl

/-- a new block that is no append's -/
theorem newCells {σ : Sg} {w : World} {cs : List Value} {cs' : Array Value} {e e' : TypeId} {n : Nat} (h : VL σ cs cs'.toList) {b : Nat} (hb : σ b = none) :
    ObjR (σ.put b ⟨w.heap.size, 0, false, 0, cs.length, 0, e', (0, 0)⟩) ⟨w.heap.size, 0, false, 0, cs.length, 0, e', (0, 0)⟩ (.cells cs e n false) ((w.alloc (.cells cs' e')).heap[w.heap.size]?) := by
  refine ⟨cs', e', (0, 0), heap_alloc_new w _, rfl, (fun h => by cases h), rfl, fun j v hj => ?_, fun _ => ⟨rfl, by rw [h.1]; simp, fun j hj => by simp⟩, (fun h => by cases h), rfl, rfl⟩
  obtain ⟨v', h1, h2⟩ := h.2 j v hj
  exact ⟨v', by simpa using h1, h2.mono (Sg.put_ext hb)⟩

theorem newPtr {σ : Sg} {b : Nat} {i : BI} (h : i.sh = 0) : VR (σ.put b i) (.pointer (some ⟨b, 0, none⟩)) (.pointer (some ⟨i.blk, 0, none⟩)) := by
  have := VR.ptr (off := 0) (Sg.put_same σ b i)
  rw [h] at this
  exact this
theorem newSl {σ : Sg} {b : Nat} {i : BI} (h : i.sh = 0) (hg : i.gr = false) {l c : Nat} (hl : l ≤ c) : VR (σ.put b i) (.slice (some ⟨b, 0, none⟩) l c) (.slice (some ⟨i.blk, 0, none⟩) l c) :=
  VR.sl (Sg.put_same σ b i) hl ⟨fun _ => ⟨by omega, rfl⟩, fun h => by rw [hg] at h; cases h⟩

include hY in
theorem alloc_ok {e : TypeId} {z : List Value} {ti : TypeInfo} (hz : zeroA Y e = some z) : AOK P Y (.alloc e) (zeroAl z e ti.size) := by
  intro σ nt tm w a hg htr ob len h
  injection h with h
  injection h with h1 h2
  subst h1; subst h2
  obtain ⟨zv, hz1, hz2, _, _, _, hz3⟩ := zeroA_ok (P := P) hY hz w
  refine ⟨⟨w.heap.size, 0, false, 0, z.length, 0, e, (0, 0)⟩, .pointer (some ⟨w.heap.size, 0, none⟩), w.alloc (.cells zv.cells e), rfl, by simp, fun c hc => heap_alloc_old w _ c hc, rfl, rfl, rfl, fun b hb => ⟨newPtr rfl, newCells (hz3 σ) hb⟩, fun oper ho => ?_⟩
  simp only [execOp, ho, Instr.alloc, Sem.run_bind, hz1, Result.andThen_ok, newVar, newRow, run_newObj', Sem.run_pure]

theorem box_ok {e : TypeId} {n : Nat} {x : Operand} {g : Rd} (hx : rdO Y x = some g) : AOK P Y (.box e x) (boxAl e n g) := by
  intro σ nt tm w a hg htr ob len h
  simp only [boxAl] at h
  cases hb : Nat.beq (vCells (g tm)).length n with
  | false => rw [hb] at h; cases h
  | true =>
    rw [hb] at h
    injection h with h
    injection h with h1 h2
    subst h1; subst h2
    have hv := rdO_ok hx hg htr
    rw [vCells_eq]
    refine ⟨⟨w.heap.size, 0, false, 0, (g tm).cells.toList.length, 0, e, (0, 0)⟩, .pointer (some ⟨w.heap.size, 0, none⟩), w.alloc (.cells (a.eval x).cells e), rfl, by simp, fun c hc => heap_alloc_old w _ c hc, rfl, rfl, rfl, fun b hb => ⟨newPtr rfl, newCells hv.cells hb⟩, fun oper ho => ?_⟩
    simp only [execOp, ho, Instr.box, Sem.run_bind, Result.andThen_ok, newVar, newRow, run_newObj', Sem.run_pure]

theorem rep_length (n : Nat) (z : List Value) : (rep n z).length = n * z.length := by
  induction n with
  | zero => simp [rep]
  | succ n ih => simp [rep, ih, Nat.add_mul]; omega

theorem rep_zeros (z : Array Value) : ∀ n, ((Array.range (n * z.size)).map (fun j => z[j % z.size]!)).toList = rep n z.toList := by
  intro n
  have key : ∀ n, (List.range (n * z.size)).map (fun j => z[j % z.size]!) = rep n z.toList := by
    intro n
    induction n with
    | zero => simp [rep]
    | succ n ih =>
      rw [Nat.add_mul, Nat.one_mul, Nat.add_comm, List.range_add, List.map_append, rep, List.map_map]
      congr 1
      · apply List.ext_getElem?
        intro j
        simp only [List.getElem?_map]
        rcases Nat.lt_or_ge j z.size with h | h
        · rw [List.getElem?_range h]
          simp [Nat.mod_eq_of_lt h, h]
        · rw [List.getElem?_eq_none (by simpa using h), List.getElem?_eq_none (by simpa using h)]
          rfl
      · rw [← ih]
        apply List.map_congr_left
        intro j _
        simp
  simpa using key n

theorem VL.rep {σ : Sg} {z z' : List Value} (h : VL σ z z') : ∀ n, VL σ (Ax.rep n z) (Ax.rep n z')
  | 0 => VL.nil σ
  | n + 1 => h.append (VL.rep h n)

/-- the zero cells of a new row -/
theorem zeros_ok {σ : Sg} {z : List Value} {zv : Value} (h : VL σ z zv.cells.toList) {size : Nat} (hs : z.length = size) (n : Nat) (zero : Array Value) (hzero : n * size ≠ 0 → zero = zv.cells) :
    VL σ (Ax.rep n z) ((Array.range (n * size)).map (fun j => zero[j % zero.size]!)).toList := by
  have hsz : zv.cells.size = size := by rw [← Array.length_toList, ← h.1, hs]
  by_cases hn : n * size = 0
  · have : Ax.rep n z = [] := List.length_eq_zero_iff.1 (by rw [rep_length, hs, hn])
    rw [this, hn]
    simpa using VL.nil σ
  · rw [hzero hn]
    have := rep_zeros zv.cells n
    rw [hsz] at this ⊢
    rw [this]
    exact h.rep n

include hY in
theorem buildSlice_ok {t e : TypeId} {len : Nat} {ps : Array (Nat × Operand)} {ti ei : TypeInfo} {ed : TypeDesc} {z : List Value} {gs : List (Nat × Rd)} {qs : List (Nat × Nat × Rd)} (ht : Y.tys.get t = some (ti, .slice e)) (he : Y.tys.get e = some (ei, ed))
    (hz : zeroA Y e = some z) (hgs : rdPs Y ps.toList = some gs) (hqs : placesS (fun i => some (Nat.mul i ei.size, ei.size)) gs = some qs) (hlen : len * ei.size ≤ 10000) (hzl : z.length = ei.size) :
    AOK P Y (.buildSlice t len ps) (sliceAl z e ei.size len qs) := by
  intro σ nt tm w a hg htr ob ln h
  simp only [sliceAl] at h
  split at h
  · rename_i c hc
    injection h with h
    injection h with h1 h2
    subst h1; subst h2
    obtain ⟨zv, hz1, hz2, _, _, _, hz3⟩ := zeroA_ok (P := P) hY hz w
    obtain ⟨g1, g2⟩ := hY.tys _ _ _ ht
    obtain ⟨g3, g4⟩ := hY.tys _ _ _ he
    have hzero : ∃ zero : Array Value, (len * ei.size = 0 → zero = #[]) ∧ (len * ei.size ≠ 0 → zero = zv.cells) := by
      by_cases hn : len * ei.size = 0
      · exact ⟨#[], fun _ => rfl, fun h => absurd hn h⟩
      · exact ⟨zv.cells, fun h => absurd h hn, fun _ => rfl⟩
    obtain ⟨zero, hz4, hz5⟩ := hzero
    obtain ⟨r', e1, e2⟩ := fill_ok hg htr (fun i => some (Nat.mul i ei.size, ei.size)) ps.toList gs qs hgs hqs (Ax.rep len z) _ c (zeros_ok (hz3 σ) hzl len zero hz5) hc
    refine ⟨⟨w.heap.size, 0, false, 0, c.length, 0, e, (0, 0)⟩, .slice (some ⟨w.heap.size, 0, none⟩) len len, w.alloc (.cells r' e), rfl, by simp, fun c hc => heap_alloc_old w _ c hc, rfl, rfl, rfl, fun b hb => ⟨newSl rfl rfl (Nat.le_refl _), newCells e2 hb⟩, fun oper ho => ?_⟩
    have hsz := run_sizeOf' (P := P) g3 w
    have hps : (ps.map fun (i, x) => (i, a.eval x)).toList = ps.toList.map fun (i, x) => (i, a.eval x) := by simp
    have e1' : Instr.fill (fun i => some (i * ei.size, ei.size)) ((Array.range (len * ei.size)).map (fun j => zero[j % zero.size]!)) (ps.toList.map fun (i, x) => (i, a.eval x)) = some r' := e1
    have hbig : ¬ (len * ei.size > 2 ^ 24) := by omega
    by_cases hn : len * ei.size = 0
    · rw [hz4 hn] at e1'
      simp only [execOp, ho, Instr.buildSlice, Sem.run_bind, run_underlying g2, Result.andThen_ok, hsz, if_neg hbig, if_pos hn, hps, e1', newRow, run_newObj', Sem.run_pure]
    · rw [hz5 hn] at e1'
      simp only [execOp, ho, Instr.buildSlice, Sem.run_bind, run_underlying g2, Result.andThen_ok, hsz, if_neg hbig, if_neg hn, hz1, hps, e1', newRow, run_newObj', Sem.run_pure]
  · cases h

theorem mapNew_ok {t : TypeId} : AOK P Y (.makeMap t none) mapAl := by
  intro σ nt tm w a hg htr ob len h
  injection h with h
  injection h with h1 h2
  subst h1; subst h2
  refine ⟨⟨w.heap.size, 0, false, 0, 0, 0, 0, (0, 0)⟩, .map (some w.heap.size), w.alloc (.map #[] 0), rfl, by simp, fun c hc => heap_alloc_old w _ c hc, rfl, rfl, rfl, fun b hb => ⟨VR.map (Sg.put_same σ b _), ⟨#[], heap_alloc_new w _, rfl, fun j e hj => by simp at hj⟩⟩, fun oper ho => ?_⟩
  simp only [execOp, ho, Instr.makeMap, Option.map_none, Sem.run_bind, Result.andThen_ok, run_newObj', Sem.run_pure]

include hY in
theorem makeSlice_ok {t e : TypeId} {x y : Operand} {g h : Rd} {ti ei : TypeInfo} {ed : TypeDesc} {z : List Value} (ht : Y.tys.get t = some (ti, .slice e)) (he : Y.tys.get e = some (ei, ed))
    (hz : zeroA Y e = some z) (hx : rdO Y x = some g) (hy : rdO Y y = some h) (hby : ei.bytes ≤ 10000) (hzl : z.length = ei.size) :
    AOK P Y (.makeSlice t x y) (makeAl z e ei.size g h) := by
  intro σ nt tm w a hg htr ob ln hh
  have h1 := rdO_ok hx hg htr
  have h2 := rdO_ok hy hg htr
  simp only [makeAl] at hh
  split at hh
  · rename_i k1 l k2 c e1 e2
    rw [e1] at h1
    rw [e2] at h2
    have h1 := h1.int_eq
    have h2 := h2.int_eq
    cases hb : (Nat.ble l c && Nat.ble c 10000) with
    | false => rw [hb] at hh; cases hh
    | true =>
      rw [hb] at hh
      rw [Bool.and_eq_true, nble, nble] at hb
      have hlc := of_decide_eq_true hb.1
      have hc := of_decide_eq_true hb.2
      injection hh with hh
      injection hh with q1 q2
      subst q1; subst q2
      obtain ⟨zv, hz1, hz2, _, _, _, hz3⟩ := zeroA_ok (P := P) hY hz w
      obtain ⟨g1, g2⟩ := hY.tys _ _ _ ht
      obtain ⟨g3, g4⟩ := hY.tys _ _ _ he
      have hzero : ∃ zero : Array Value, (c * ei.size = 0 → zero = #[]) ∧ (c * ei.size ≠ 0 → zero = zv.cells) := by
        by_cases hn : c * ei.size = 0
        · exact ⟨#[], fun _ => rfl, fun h => absurd hn h⟩
        · exact ⟨zv.cells, fun h => absurd h hn, fun _ => rfl⟩
      obtain ⟨zero, hz4, hz5⟩ := hzero
      refine ⟨⟨w.heap.size, 0, false, 0, (Ax.rep c z).length, 0, e, (0, 0)⟩, .slice (some ⟨w.heap.size, 0, none⟩) l c, w.alloc (.cells ((Array.range (c * ei.size)).map (fun j => zero[j % zero.size]!)) e), rfl, by simp, fun c hc => heap_alloc_old w _ c hc, rfl, rfl, rfl,
        fun b hb => ⟨newSl rfl rfl hlc, newCells (zeros_ok (hz3 σ) hzl c zero hz5) hb⟩, fun oper ho => ?_⟩
      have hsz := run_sizeOf' (P := P) g3 w
      have w1 : IntKind.i64.wrap (Int.ofNat l) = Int.ofNat l := by rw [← wrapF_eq]; simp only [wrapF, ikPos]; rw [show Nat.blt l 9223372036854775808 = true from by rw [nblt]; exact decide_eq_true (by omega)]; rfl
      have w2 : IntKind.i64.wrap (Int.ofNat c) = Int.ofNat c := by rw [← wrapF_eq]; simp only [wrapF, ikPos]; rw [show Nat.blt c 9223372036854775808 = true from by rw [nblt]; exact decide_eq_true (by omega)]; rfl
      have hbc : (ei.bytes : Int) * (Int.ofNat c) ≤ 100000000 := by
        have : ei.bytes * c ≤ 10000 * 10000 := Nat.mul_le_mul hby hc
        have h3 : ((ei.bytes * c : Nat) : Int) ≤ 100000000 := by omega
        simpa using h3
      have hcond : ¬ ((decide (Int.ofNat c < 0) || decide ((ei.bytes : Int) * Int.ofNat c > 2 ^ 48) || decide (Int.ofNat l < 0) || decide (Int.ofNat l > Int.ofNat c)) = true) := by
        simp only [Bool.or_eq_true, decide_eq_true_eq, not_or]
        refine ⟨⟨⟨by simp, by omega⟩, by simp⟩, by simp; omega⟩
      have hc2 : (Int.ofNat c).toNat = c := rfl
      have hl2 : (Int.ofNat l).toNat = l := rfl
      by_cases hn : c * ei.size = 0
      · rw [hz4 hn]
        simp only [execOp, ho, h1, h2, Instr.makeSlice, Sem.run_bind, run_underlying g2, Result.andThen_ok, asInt, asIntOf, Sem.run_pure, typeInfo, run_program, g3, w1, w2, if_neg hcond, hc2, hl2, run_askRoom, hsz, if_pos hn, newRow, run_newObj']
      · rw [hz5 hn]
        simp only [execOp, ho, h1, h2, Instr.makeSlice, Sem.run_bind, run_underlying g2, Result.andThen_ok, asInt, asIntOf, Sem.run_pure, typeInfo, run_program, g3, w1, w2, if_neg hcond, hc2, hl2, run_askRoom, hsz, if_neg hn, newRow, run_newObj', hz1]
  · cases hh

include hY in
theorem bytes_ok {s d e : TypeId} {x : Operand} {g : Rd} {si di ei : TypeInfo} (hs : Y.tys.get s = some (si, .string)) (hd : Y.tys.get d = some (di, .slice e)) (he : Y.tys.get e = some (ei, .int .u8)) (hx : rdO Y x = some g) :
    AOK P Y (.convert s d x) (bytesAl e g) := by
  intro σ nt tm w a hg htr ob ln hh
  have h1 := rdO_ok hx hg htr
  simp only [bytesAl] at hh
  split at hh
  · rename_i str e1
    rw [e1] at h1
    have h1 := h1.string_eq
    injection hh with hh
    injection hh with q1 q2
    subst q1; subst q2
    obtain ⟨-, g2⟩ := hY.tys _ _ _ hs
    obtain ⟨-, g4⟩ := hY.tys _ _ _ hd
    obtain ⟨-, g6⟩ := hY.tys _ _ _ he
    have hrun := run_bytes_of_string (P := P) w s d e str g2 g4 g6
    have hge := grownCap_ge w str.size 0 e
    have hlen : str.data.toList.length = str.size := Array.length_toList
    generalize hcap : grownCap w str.size 0 e = cap at hrun hge
    have hrow : (bytesRow str cap).size = cap := by
      simp only [bytesRow, Array.size_append, Array.size_map, Array.size_replicate]
      have : str.data.size = str.size := rfl
      omega
    refine ⟨⟨w.heap.size, 0, true, 1, str.size, cap, e, ((bytesRow str cap).size, (bytesRow str cap).size + 1)⟩, .slice (some ⟨w.heap.size, 0, none⟩) str.size cap, w.drew.alloc (.cells (bytesRow str cap) e ((bytesRow str cap).size, (bytesRow str cap).size + 1)), rfl, by simp, fun c hc => heap_alloc_old w.drew _ c hc, rfl, rfl, rfl, fun b hb => ⟨?_, ?_⟩, fun oper ho => ?_⟩
    rotate_left 2
    · simp only [execOp, ho, Sem.run_bind, h1, hrun, Result.andThen_ok, Sem.run_pure]
    · rw [hlen]
      refine VR.sl (i := ⟨w.heap.size, 0, true, 1, str.size, cap, e, ((bytesRow str cap).size, (bytesRow str cap).size + 1)⟩) (Sg.put_same σ b _) (Nat.le_refl _) ⟨(fun h => by cases h), fun _ => ⟨hge, (fun h => by simp at h), fun _ => rfl, by simp⟩⟩
    · refine ⟨bytesRow str cap, e, _, heap_alloc_new w.drew _, rfl, fun _ => rfl, by simp [hlen], fun j v hj => ?_, (fun h => by cases h), fun _ => ⟨by simpa using hge, by rw [hrow]; exact Nat.le_refl _, fun j h2 => ?_⟩, rfl, rfl⟩
      · have hlt : j < str.data.size := by
          rcases Nat.lt_or_ge j str.data.size with h | h
          · exact h
          · rw [List.getElem?_eq_none (by simpa using h)] at hj; cases hj
        refine ⟨v, ?_, ?_⟩
        · simp only [Nat.zero_add, bytesRow]
          rw [Array.getElem?_append_left (by simpa using hlt)]
          simpa using hj
        · simp only [List.getElem?_map] at hj
          obtain ⟨b, hb1, hb2⟩ := Option.map_eq_some_iff.1 hj
          subst hb2
          exact .int _ _
      · simp only [hrow, not_and, Nat.not_lt]
        intro h
        simp only at h2
        omega
  · cases hh

end
end Go.Ax
