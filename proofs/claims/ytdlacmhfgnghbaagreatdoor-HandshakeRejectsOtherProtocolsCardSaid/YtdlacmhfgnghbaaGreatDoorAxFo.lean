import Derived.Test.YtdlacmhfgnghbaaGreatDoorAxOv
import Derived.Laws.IdiomStrings
/- Bytes that the interpreter does not hold: a caller's []byte of whatever length. -/
set_option linter.unusedVariables false
set_option linter.constructorNameAsVariable false
set_option linter.unusedSimpArgs false
namespace Go.Ax

abbrev Fo := Nat → Option (List UInt8)

def FoOK (fo : Fo) : JW := fun σ H w => ∀ (b : Nat) (s : List UInt8), fo b = some s → ∃ (i : BI) (c : Array Value) (e : TypeId) (fz : Nat × Nat), σ b = some i ∧ i.gr = true ∧ i.es = 1 ∧ i.csz = i.sh + s.length ∧
  w.heap[i.blk]? = some (.cells c e fz) ∧ (∀ (j : Nat) (x : UInt8), s[j]? = some x → c[i.sh + j]? = some (.int .u8 x.toNat)) ∧ ∀ (y : Nat) (k : BI), (H.get y).isSome = true → σ y = some k → k.blk ≠ i.blk

theorem FoOK.keeps (fo : Fo) : Keeps (FoOK fo) := by
  intro σ H nx w σ' H' nx' w' h s b l hb
  obtain ⟨i, c, e, fz, h1, h2, h3, h4, h5, h6, h7⟩ := h b l hb
  have hlt : i.blk < w.heap.size := by
    rcases Nat.lt_or_ge i.blk w.heap.size with h | h
    · exact h
    · rw [Array.getElem?_eq_none h] at h5; cases h5
  refine ⟨i, c, e, fz, s.ext _ _ h1, h2, h3, h4, by rw [s.frame i.blk hlt h7]; exact h5, h6, fun y k hy hk => ?_⟩
  rcases s.own y k hy hk with h | ⟨z, j, q1, q2, q3⟩
  · omega
  · rw [← q3]; exact h7 z j q1 q2

noncomputable def ldFo (fo : Fo) (p : PartF) (g : Rd) : TT → Hp → Option Value := fun tm H =>
  ob (vPtr (g tm)) (fun a => ob (fo a.block) (fun s => ob (nth s a.off) (fun x => some (.int .u8 (.ofNat x.toNat))) none) (ldF p H a)) none
noncomputable def strFo (fo : Fo) (g : Rd) : TT → Hp → Option Value := fun tm H =>
  ob (vSl (g tm)) (fun sl => ob sl.1 (fun a => ob (fo a.block) (fun s => bif Nat.beq a.off 0 then some (.string ⟨(s.take sl.2.1).toArray⟩) else none) (toStrA H (g tm))) (toStrA H (g tm))) (toStrA H (g tm))

noncomputable def opF0 {R : Type} (Z : Res R) (Y : Ty) (fo : Fo) (o : Op) : OD R :=
  match o with
  | .load t x => (match Y.tys.get t, partS Y t, rdO Y x with
    | some (_, d), some p, some g => bif isAggD d then .r (ldQ p g) else .r (ldFo fo p g)
    | _, _, _ => .bad)
  | .convert a b x => (match Y.tys.get a, Y.tys.get b, rdO Y x with
    | some (_, .slice e), some (_, .string), some g => (match Y.tys.get e with
      | some (_, .int .u8) => .r (strFo fo g)
      | _ => .bad)
    | _, _, _ => opS Z Y (.convert a b x))
  | o => opS Z Y o
/-- some operations told by hand -/
noncomputable def opF {R : Type} (Z : Res R) (Y : Ty) (fo : Fo) (ovr : Op → Option (OD R)) (o : Op) : OD R :=
  ob (ovr o) (fun d => d) (opF0 Z Y fo o)

section
variable {R : Type} {Z : Res R} {T : R → Prop} (hff : ¬ T Z.ff) {P : Program} {Y : Ty} (hY : TyOK P Y) {fo : Fo}

include hY in
theorem ldFo_ok {t : TypeId} {x : Operand} {p : PartF} {g : Rd} {ti : TypeInfo} {d : TypeDesc} (ht : Y.tys.get t = some (ti, d)) (hd : isAggD d = false) (hp : partS Y t = some p) (hx : rdO Y x = some g) : QOKx P Y (FoOK fo) (.load t x) (ldFo fo p g) := by
  intro σ nt tm H w a hg hJ htr hw v hv
  obtain ⟨ad, ha, hl⟩ := ob_eq_some (show ob _ _ none = some v from hv)
  cases hfo : fo ad.block with
  | none =>
    rw [hfo] at hl
    exact load_ok hY hp hx σ nt tm H w a hg htr hw v (by
      unfold ldQ
      rw [ha]
      exact hl)
  | some s =>
    rw [hfo] at hl
    obtain ⟨y, hy, hl⟩ := ob_eq_some (show ob _ _ none = some v from hl)
    injection hl with hl; subst hl
    rw [nth_eq] at hy
    have h1 := rdO_ok hx hg htr
    rw [vPtr_some ha] at h1
    obtain ⟨i, hi, hs, he⟩ := h1.ptr_eq
    obtain ⟨b, off, spot⟩ := ad
    simp only at hs hi he hy hfo
    subst hs
    obtain ⟨i', c, e, fz, q1, q2, q3, q4, q5, q6, q7⟩ := hJ b s hfo
    rw [hi] at q1; injection q1 with q1; subst q1
    obtain ⟨h1, h2⟩ := hY.tys t ti d ht
    have hag : (isAgg t).run P w = .ok false w := by
      simp only [isAgg, Sem.run_bind, run_underlying h2, Result.andThen_ok]
      cases d <;> first | rfl | (cases hd; done)
    have hrun : (loadVar t ⟨i.blk, off + i.sh, none⟩).run P w = .ok (.int .u8 y.toNat) w := by
      simp [loadVar, hag, cell?_of_heap q5, Nat.add_comm off i.sh, q6 off y hy]
    exact ⟨_, .int _ _, fun oper ho => by simp [execOp, ho, Instr.loadAt, Instr.sureAddr, he, hrun]⟩

include hY in
theorem strFo_ok {s d e : TypeId} {x : Operand} {g : Rd} {si di ei : TypeInfo} (hs : Y.tys.get s = some (si, .slice e)) (hd : Y.tys.get d = some (di, .string)) (he : Y.tys.get e = some (ei, .int .u8)) (hx : rdO Y x = some g) :
    QOKx P Y (FoOK fo) (.convert s d x) (strFo fo g) := by
  intro σ nt tm H w a hg hJ htr hw v hv
  have hplain : toStrA H (g tm) = some v → ∃ v', VR σ v v' ∧ ∀ oper : Oper, oper.op = .convert s d x → (execOp a.eval oper).run P w = .ok (.value v') w := fun h => toStr_ok hY hs hd he hx σ nt tm H w a hg htr hw v h
  have hv : ob (vSl (g tm)) (fun sl => ob sl.1 (fun a => ob (fo a.block) (fun s => bif Nat.beq a.off 0 then some (.string ⟨(s.take sl.2.1).toArray⟩) else none) (toStrA H (g tm))) (toStrA H (g tm))) (toStrA H (g tm)) = some v := hv
  cases hsl : vSl (g tm) with
  | none => rw [hsl] at hv; exact hplain hv
  | some sl =>
    rw [hsl] at hv
    obtain ⟨o, n, cap⟩ := sl
    cases o with
    | none => exact hplain hv
    | some ad =>
      have hv : ob (fo ad.block) (fun s => bif Nat.beq ad.off 0 then some (.string ⟨(s.take n).toArray⟩) else none) (toStrA H (g tm)) = some v := hv
      cases hfo : fo ad.block with
      | none => rw [hfo] at hv; exact hplain hv
      | some l =>
        rw [hfo] at hv
        simp only [ob_some] at hv
        cases h0 : Nat.beq ad.off 0 with
        | false => rw [h0] at hv; cases hv
        | true =>
          rw [h0] at hv
          injection hv with hv; subst hv
          rw [nbeq] at h0
          have h00 := of_decide_eq_true h0
          clear h0
          have h1 := rdO_ok hx hg htr
          rw [vSl_some hsl] at h1
          obtain ⟨i, off', cap', hσ, hsp, hlc, hok, hax⟩ := h1.sl_eq
          obtain ⟨b, off, spot⟩ := ad
          simp only at hsp hσ hok hfo h00 hlc hax
          subst hsp; subst h00
          obtain ⟨i', c, e', fz, q1, q2, q3, q4, q5, q6, q7⟩ := hJ b l hfo
          rw [hσ] at q1; injection q1 with q1; subst q1
          obtain ⟨k1, k2, k3, k4⟩ := hok.2 q2
          rw [q3, q4] at k4
          obtain ⟨-, g2⟩ := hY.tys _ _ _ hs
          obtain ⟨-, g4⟩ := hY.tys _ _ _ hd
          obtain ⟨-, g6⟩ := hY.tys _ _ _ he
          have hn : (l.take n).length = n := by
            rw [List.length_take]
            rcases Nat.eq_zero_or_pos cap with h | h
            · omega
            · have := k3 h; omega
          have hrun := run_convert_bytes_back (P := P) w s d e ⟨i.blk, off', none⟩ cap' (l.take n) g2 g6 g4 (fun j hj => by
            have hcp : 0 < cap := by omega
            have := k3 hcp
            rw [Addr.add_none, cell?_of_heap q5, show off' + j = i.sh + j by omega]
            have hjl : j < l.length := by rw [List.length_take] at hj; omega
            rw [q6 j l[j] (List.getElem?_eq_getElem hjl)]
            simp)
          rw [hn] at hrun
          refine ⟨_, .string _, fun oper ho => ?_⟩
          simp only [execOp, ho, Sem.run_bind, hax, hrun, Result.andThen_ok, Sem.run_pure]

include hff hY in
theorem opF0_ok (o : Op) : ODOKx T P Y (FoOK fo) o (opF0 Z Y fo o) := by
  unfold opF0
  split
  · split
    · rename_i ti d p g ht hp hx
      cases hd : isAggD d with
      | true => exact ODOKx.of (od := .r (ldQ p g)) (load_ok hY hp hx)
      | false => exact ldFo_ok hY ht hd hp hx
    · trivial
  · split
    · rename_i si e di g hs hd hx
      split
      · rename_i ei he; exact strFo_ok hY hs hd he hx
      · trivial
    · exact ODOKx.of (opS_ok hff hY _)
  · exact ODOKx.of (opS_ok hff hY _)

include hff hY in
theorem opF_ok {ovr : Op → Option (OD R)} (hov : ∀ o d, ovr o = some d → ODOKx T P Y (FoOK fo) o d) (o : Op) : ODOKx T P Y (FoOK fo) o (opF Z Y fo ovr o) := by
  unfold opF
  cases h : ovr o with
  | none => exact opF0_ok hff hY o
  | some d => exact hov o d h

/-- a function of which the body is run with foreign bytes -/
noncomputable def denF (Z : Res R) (Y : Ty) (fo : Fo) (ovr : Op → Option (OD R)) (nt : Nat) (dr : PT (List DI)) (body : Code) : Den R := (codeX Z Y nt dr (fun ops => (listF Z (opF Z Y fo ovr) nt ops ops.toList).1) body).1

include hff hY in
theorem denF_ok {ovr : Op → Option (OD R)} (hov : ∀ o d, ovr o = some d → ODOKx T P Y (FoOK fo) o d) (hdraw : DrawsOK Z T P Y) (nt : Nat) (dr : PT (List DI)) (body : Code) (hok : codeOK Z Y dr body = true) : DOKx T P Y (FoOK fo) nt body (denF Z Y fo ovr nt dr body) :=
  codeX_ok hff hY nt dr _ (fun ops => listF_ok hff (FoOK.keeps fo) (fun o => opF_ok hff hY hov o) nt ops ops.toList) (FoOK.keeps fo) hdraw body hok

end
end Go.Ax
