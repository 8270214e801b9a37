import Derived.Test.YtdlacmhfgnghbaaGreatDoorAxLe
/- The law of statement 1: what its call does in every world. -/
set_option linter.unusedVariables false
set_option linter.constructorNameAsVariable false
set_option linter.unusedSimpArgs false
set_option maxRecDepth 100000
namespace Go.Ax
open Go.Proofs

theorem pow10_get : (H0.get 1) = some (.cells (pow10 20) 223 1 false) := by
  unfold H0; rw [PT.get_ins 40 _ _ 1 1 (by decide), if_pos rfl]
theorem H0_get (b : Nat) : H0.get b = if b = 1 then some (.cells (pow10 20) 223 1 false) else none := by
  unfold H0; rw [PT.get_ins 40 _ _ 1 b (by decide)]; rfl

/-- the start: the variables, and a place for b -/
def sg0 (e1 : TypeId) (i8 : Option BI) : Sg := fun b => if b = 1 then some ⟨1, 0, false, 0, 20, 0, e1, (0, 0)⟩ else if b < 8 then some ⟨b, 0, false, 0, 0, 0, 0, (0, 0)⟩ else if b = 8 then i8 else none

theorem pow10_VL (σ : Sg) : VL σ (pow10 20) (pow10 20) := ⟨rfl, fun j v h => ⟨v, h, VR.of_ground0 v (by
  have hall : (pow10 20).all ground0 = true := by decide +kernel
  rw [List.all_eq_true] at hall
  exact hall v (List.mem_of_getElem? h))⟩⟩

theorem inv0 {w : World} {e1 : TypeId} {i8 : Option BI} (h1 : w.heap[1]? = some (.cells (pow10 20).toArray e1 (0, 0))) : Inv YT.ng (sg0 e1 i8) H0 9 w := by
  refine ⟨⟨fun b o hb => ?_, fun b1 b2 i1 i2 q1 q2 _ _ _ => ?_⟩, fun b hb => ?_, fun g hg => ?_⟩
  · rw [H0_get] at hb
    split at hb
    · rename_i e; subst e; injection hb with hb; subst hb
      refine ⟨_, rfl, (pow10 20).toArray, e1, (0, 0), h1, rfl, (fun h => by cases h), (show (pow10 20).length = 20 from rfl), fun j v hj => ?_, fun _ => ⟨rfl, by simp, fun j _ => by simp⟩, (fun h => by cases h), rfl, rfl⟩
      obtain ⟨v', q1, q2⟩ := (pow10_VL (sg0 e1 i8)).2 j v hj
      exact ⟨v', by simpa using q1, q2⟩
    · cases hb
  · rw [H0_get] at q1 q2
    split at q1 <;> split at q2 <;> simp_all
  · unfold sg0; rw [if_neg (by omega), if_neg (by omega), if_neg (by omega)]
  · have hg : g < 8 := hg
    unfold sg0
    by_cases e : g = 1
    · subst e; exact ⟨_, rfl, rfl, rfl⟩
    · rw [if_neg e, if_pos hg]; exact ⟨_, rfl, rfl, rfl⟩

theorem ov3_ok {fo : Fo} : ∀ o d, ov3 o = some d → ODOKx (fun b => b = true) Tryz.prog YT (FoOK fo) o d := by
  intro o d h
  unfold ov3 at h
  split at h
  · rename_i args ts
    cases he : args.toList.isEmpty with
    | false => rw [he] at h; cases h
    | true =>
      rw [he] at h
      injection h with h; subst h
      have : args = #[] := by
        have := List.isEmpty_iff.1 he
        exact Array.toList_eq_nil_iff.1 this
      subst this
      exact awL_ok (run1 300) (fun b hb => by
        rw [H0_get] at hb
        split at hb
        · rename_i e; rw [e]; simp
        · cases hb) awRun
  · cases h

noncomputable def K3 : KE Bool := fun e tm H nx => exK e false (ob (vBool (tm.get 2)) (fun b => b && sameAt H0 H [1]) false) (fun _ => false)

theorem law3 {w : World} {fo : Fo} {σ : Sg} {args : List Value} {args' : Array Value} (hinv : Inv YT.ng σ H0 9 w) (hJ : FoOK fo σ H0 w) (hv : VL σ args args'.toList) (hl : args.length ≤ 97)
    (hrun : denF Zb YT fo ov3 97 .lf body3 (callN Zb F1 300) (argsT 0 args .lf) H0 9 K3 = true) :
    Calls Tryz.prog 3 args' w (fun e w' => e = .returned (.bool true) ∧ ∃ σ' H' nx', Step σ H0 9 w σ' H' nx' w' ∧ sameAt H0 H' [1] = true) := by
  have hff : ¬ (fun b : Bool => b = true) Zb.ff := by simp [Zb]
  have hd := denF_ok (fo := fo) hff YT_ok (ovr := ov3) ov3_ok (draws_ok YT_ok hff (by kernel_rfl)) 97 .lf body3 (codeOK_lf _)
  obtain ⟨e, tm', H', nx', h1, h2⟩ := hd _ (run1 300) _ _ _ _ hrun
  have hbody : Tryz.f3.body = some body3 := rfl
  cases e with
  | normal => cases h1
  | exit i => cases h1
  | ret =>
    have h1 : ob (vBool (tm'.get 2)) (fun b => b && sameAt H0 H' [1]) false = true := h1
    cases hb : vBool (tm'.get 2) with
    | none => rw [hb] at h1; cases h1
    | some b =>
      rw [hb] at h1
      simp only [ob_some, Bool.and_eq_true] at h1
      refine calls_of_wp Tryz.func3 hbody (h2 σ w _ hinv hJ (args_ok hv hl (by omega)) _ (fun σ' a' w' s1 t1 d1 => ?_))
      have ht2 := t1.val 2
      rw [vBool_some hb, h1.1] at ht2
      refine ⟨d1, .bool true, ?_, rfl, σ', H', nx', s1, h1.2⟩
      have hres : Tryz.f3.results = #[.tmp 2] := rfl
      rw [results_eq, hres]
      simp [oneResult, ht2.bool_eq]

theorem pow10_int : ∀ (n : Nat) (v : Value), v ∈ pow10 n → ∃ k, v = .int .u64 k
  | 0, v, h => by cases h
  | n + 1, v, h => by
    rcases List.mem_append.1 h with h | h
    · exact pow10_int n v h
    · exact ⟨_, List.mem_singleton.1 h⟩
theorem heap_same {w w' : World} {e1 : TypeId} {i8 : Option BI} {σ' : Sg} {H' : Hp} {nx' : Nat} (h1 : w.heap[1]? = some (.cells (pow10 20).toArray e1 (0, 0))) (s : Step (sg0 e1 i8) H0 9 w σ' H' nx' w') (hs : sameAt H0 H' [1] = true) :
    ∀ i, i < w.heap.size → w'.heap[i]? = w.heap[i]? := by
  intro i hi
  by_cases e : i = 1
  · subst e
    obtain ⟨o, q1, q2⟩ := sameAt_ok hs 1 (by simp)
    rw [pow10_get] at q1; injection q1 with q1; subst q1
    obtain ⟨i', hi', hr⟩ := s.wr.live 1 _ q2
    have hx := s.ext 1 ⟨1, 0, false, 0, 20, 0, e1, (0, 0)⟩ rfl
    rw [hx] at hi'; injection hi' with hi'; subst hi'
    obtain ⟨c', e', fz, g1, g2, g3, g4, g5, g6, g7, g8, g9⟩ := hr
    obtain ⟨_, g10, _⟩ := g6 rfl
    rw [h1, show w'.heap[1]? = _ from g1, g8, g9]
    congr 2
    apply Array.ext'
    apply List.ext_getElem?
    intro j
    rcases Nat.lt_or_ge j (pow10 20).length with hj | hj
    · obtain ⟨v', k1, k2⟩ := g5 j (pow10 20)[j] (List.getElem?_eq_getElem hj)
      have hall := pow10_int 20
      obtain ⟨n, hn⟩ := hall _ (List.getElem_mem hj)
      rw [hn] at k2
      have := k2.int_eq
      subst this
      have k1' : c'.toList[j]? = some (.int .u64 n) := by simpa using k1
      rw [k1', List.getElem?_eq_getElem (by simpa using hj)]
      simp [hn]
    · rw [List.getElem?_eq_none (by rw [Array.length_toList, g10]; exact hj), List.getElem?_eq_none (by simpa using hj)]
  · refine s.frame i hi (fun b j hb hj => ?_)
    rw [H0_get] at hb
    split at hb
    · rename_i eb; subst eb
      injection (show some _ = some j from hj) with hj; subst hj
      exact fun h => e h.symm
    · cases hb
end Go.Ax
