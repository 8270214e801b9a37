import Derived.Test.YtdlacmhfgnghbaaGreatDoorAxT1
import Derived.Laws.Externs
/- The functions without a body, and the heap at the start. -/
set_option linter.unusedVariables false
set_option linter.constructorNameAsVariable false
set_option linter.unusedSimpArgs false
set_option maxRecDepth 100000
namespace Go.Ax
open Go.Proofs

def idxB : List UInt8 → Nat → Nat → Int
  | [], _, _ => -1
  | b :: l, c, i => bif Nat.beq b.toNat c then .ofNat i else idxB l c (Nat.add i 1)

theorem idxB_eq (c : UInt8) : ∀ (l pre : List UInt8), (match (List.range' pre.length l.length).find? (fun i => ((⟨(pre ++ l).toArray⟩ : ByteArray)[i]! == c)) with
    | some i => (i : Int)
    | none => -1) = idxB l c.toNat pre.length
  | [], pre => rfl
  | b :: l, pre => by
    have ih := idxB_eq c l (pre ++ [b])
    simp only [List.length_append, List.length_cons, List.length_nil, Nat.zero_add, List.append_assoc, List.cons_append, List.nil_append] at ih
    have hget : (⟨(pre ++ b :: l).toArray⟩ : ByteArray)[pre.length]! = b := by
      have hsz : (⟨(pre ++ b :: l).toArray⟩ : ByteArray).size = pre.length + (l.length + 1) := by
        show (pre ++ b :: l).toArray.size = _
        simp
      rw [getElem!_pos (⟨(pre ++ b :: l).toArray⟩ : ByteArray) pre.length (by omega)]
      show (pre ++ b :: l).toArray[pre.length] = b
      simp
    rw [List.length_cons, List.range'_succ, List.find?_cons, hget]
    simp only [idxB]
    cases hb : (b == c) with
    | true =>
      have : Nat.beq b.toNat c.toNat = true := by
        rw [beq_iff_eq] at hb; subst hb; rw [nbeq]; simp
      rw [this]; rfl
    | false =>
      have : Nat.beq b.toNat c.toNat = false := by
        rw [nbeq]
        refine decide_eq_false (fun h => ?_)
        have : b = c := UInt8.toNat_inj.1 h
        rw [this] at hb; simp at hb
      rw [this]
      exact ih

/-- bytealg.IndexByteString -/
def extIx : List Value → Option Value
  | [.string s, .int .u8 (.ofNat n)] => bif Nat.blt n 256 then some (.int .i64 (idxB s.data.toList n 0)) else none
  | _ => none
noncomputable def extT : FuncId → List Value → Option Value := fun f args => bif Nat.beq f 132 then extIx args else none

theorem run_indexByte (P : Program) (s : ByteArray) (n : Nat) (hn : n < 256) (w : World) : (Extern.BytealgIndexByte.indexByte #[.string s, .int .u8 (.ofNat n)]).run P w = .ok (.int .i64 (idxB s.data.toList n 0)) w := by
  have hc : (UInt8.ofNat n).toNat = n := by simp; omega
  have h := idxB_eq (UInt8.ofNat n) s.data.toList []
  rw [hc] at h
  have hs : (⟨(([] : List UInt8) ++ s.data.toList).toArray⟩ : ByteArray) = s := by
    obtain ⟨d⟩ := s; simp
  rw [hs] at h
  have hlen : s.data.toList.length = s.size := Array.length_toList
  rw [hlen, List.length_nil, ← List.range_eq_range'] at h
  have he : Extern.BytealgIndexByte.indexByte #[.string s, .int .u8 (.ofNat n)] = (match (List.range s.size).find? fun i => s[i]! == UInt8.ofNat n with
      | some i => pure (goInt i)
      | none => pure (goInt (-1))) := rfl
  rw [he]
  cases hf : (List.range s.size).find? fun i => s[i]! == UInt8.ofNat n with
  | some i => rw [hf] at h; simp only [Sem.run_pure, goInt, ← h]
  | none => rw [hf] at h; simp only [Sem.run_pure, goInt, ← h]

theorem extIx_some {args : List Value} {v : Value} (h : extIx args = some v) : ∃ s n, args = [.string s, .int .u8 (.ofNat n)] ∧ n < 256 ∧ v = .int .i64 (idxB s.data.toList n 0) := by
  unfold extIx at h
  split at h
  · rename_i s n
    cases hb : Nat.blt n 256 with
    | false => rw [hb] at h; cases h
    | true =>
      rw [hb] at h
      injection h with h
      rw [nblt] at hb
      exact ⟨s, n, rfl, of_decide_eq_true hb, h.symm⟩
  · cases h

noncomputable def F1 : Fns Bool := ⟨fnsT Zb, extT⟩

theorem ext_ok : ∀ f args v, F1.ext f args = some v → ∀ (σ : Sg) (w : World) (args' : Array Value), VL σ args args'.toList → ∃ v', VR σ v v' ∧ (callFunc f args').run Tryz.prog w = .ok (.value v') w := by
  intro f args v h σ w args' ha
  have h : (bif Nat.beq f 132 then extIx args else none) = some v := h
  cases hf : Nat.beq f 132 with
  | false => rw [hf] at h; cases h
  | true =>
    rw [hf] at h
    rw [nbeq] at hf
    have hf := of_decide_eq_true hf
    subst hf
    obtain ⟨s, n, he, hb, hv⟩ := extIx_some (show extIx args = some v from h)
    subst he; subst hv
    have hargs : args' = #[.string s, .int .u8 (.ofNat n)] := by
      obtain ⟨l⟩ := args'
      obtain ⟨h1, h2⟩ := ha
      match l, h1, h2 with
      | [a, b], _, h2 =>
        obtain ⟨a', e1, r1⟩ := h2 0 _ rfl
        obtain ⟨b', e2, r2⟩ := h2 1 _ rfl
        simp at e1 e2
        subst e1; subst e2
        rw [r1.string_eq, r2.int_eq]
    subst hargs
    refine ⟨_, .int _ _, ?_⟩
    rw [run_callFunc_extern (e := Extern.BytealgIndexByte.indexByte) Tryz.func132 (by kernel_rfl) (by kernel_rfl) (by kernel_rfl) (by kernel_rfl), run_indexByte _ _ _ hb]
    rfl

theorem F1_ok : FnsOK Zb (fun b => b = true) Tryz.prog YT F1 := fns_ok fnsT_ok ext_ok

theorem run1 (n : Nat) : CallOK (fun b => b = true) Tryz.prog YT (callN Zb F1 n) :=
  run_ok YT_ok (by simp [Zb]) (by kernel_rfl) F1_ok n
end Go.Ax
