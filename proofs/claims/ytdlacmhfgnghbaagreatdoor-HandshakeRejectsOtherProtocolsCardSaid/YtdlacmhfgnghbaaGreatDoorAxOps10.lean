import Derived.Test.YtdlacmhfgnghbaaGreatDoorAxOps9
/- copy, append. -/
set_option linter.unusedVariables false
set_option linter.constructorNameAsVariable false
set_option linter.unusedSimpArgs false
namespace Go.Ax
section
variable {P : Program} {Y : Ty} (hY : TyOK P Y)

/-- a stretch of a live block, in cells -/
theorem seg_cells {σ : Sg} {w : World} {i : BI} {c : List Value} {e : TypeId} {es : Nat} {gr : Bool} (ho : ObjR σ i (.cells c e es gr) w.heap[i.blk]?) {off m : Nat} (hl : (Ax.seg c off m).length = m) :
    ∃ ys : List Value, VL σ (Ax.seg c off m) ys ∧ ∀ j u, ys[j]? = some u → w.cell? ⟨i.blk, off + i.sh + j, none⟩ = some u := by
  obtain ⟨c', e', fz, g1, g2, g3, g4, g5, g6⟩ := ho
  have hget : ∀ j, j < m → (Ax.seg c off m)[j]? = c[off + j]? := by
    intro j hj
    simp [Ax.seg, List.getElem?_take, List.getElem?_drop, hj]
  have hval : ∀ j, j < m → ∃ x v', (Ax.seg c off m)[j]? = some x ∧ c'[off + i.sh + j]? = some v' ∧ VR σ x v' := by
    intro j hj
    have hx : (Ax.seg c off m)[j]? = some (Ax.seg c off m)[j] := List.getElem?_eq_getElem (by omega)
    have hx' := hx
    rw [hget j hj] at hx'
    obtain ⟨v', h1, h2⟩ := g5 _ _ hx'
    exact ⟨_, v', hx, by rw [show off + i.sh + j = i.sh + (off + j) by omega]; exact h1, h2⟩
  refine ⟨(List.range m).map (fun j => c'.getD (off + i.sh + j) undef), ⟨by simp [hl], fun j v hj => ?_⟩, fun j u hj => ?_⟩
  · have hlt : j < m := by
      rcases Nat.lt_or_ge j m with h | h
      · exact h
      · rw [List.getElem?_eq_none (by omega)] at hj; cases hj
    obtain ⟨x, v', h1, h2, h3⟩ := hval j hlt
    rw [h1] at hj; injection hj with hj; subst hj
    exact ⟨v', by simp [List.getElem?_range hlt, h2], h3⟩
  · have hlt : j < m := by
      rcases Nat.lt_or_ge j m with h | h
      · exact h
      · rw [List.getElem?_eq_none (by simpa using h)] at hj; cases hj
    obtain ⟨x, v', h1, h2, h3⟩ := hval j hlt
    rw [cell?_of_heap g1, h2]
    rw [List.getElem?_map, List.getElem?_range hlt] at hj
    simp [h2] at hj
    rw [hj]

/-- the first elements of a slice, or bytes of a string -/
theorem src_ok {σ : Sg} {H : Hp} {w : World} (hw : WR σ H w) {x x' : Value} (hx : VR σ x x') {sl : Nat} (hl : lenA x = some sl) {size n : Nat} (hn : n ≤ sl) {xs : List Value} (h : firstA H size n x = some xs) :
    ∃ ys : List Value, VL σ xs ys ∧ (∀ w2, (Builtin.lenOf x').run P w2 = .ok sl w2) ∧ ∀ w2 : World, w2.heap = w.heap → (Builtin.firstCells size n x').run P w2 = .ok ys.toArray w2 := by
  unfold lenA at hl
  cases hv : vSl x with
  | some s =>
    obtain ⟨o, len, cap⟩ := s
    have hxe := vSl_some hv
    subst hxe
    rw [hv] at hl
    injection hl with hl
    simp only at hl
    subst hl
    unfold firstA at h
    rw [hv] at h
    simp only [ob_some] at h
    cases o with
    | none =>
      injection (show some [] = some xs from h) with h; subst h
      cases hx
      exact ⟨[], VL.nil σ, fun _ => rfl, fun w2 _ => by simp [Builtin.firstCells]⟩
    | some ad =>
      obtain ⟨c, hc, h⟩ := ob_eq_some (show ob _ _ none = some xs from h)
      cases hl : Nat.beq (Ax.seg c.1 ad.off (Nat.mul n size)).length (Nat.mul n size) with
      | false => simp only [hl] at h; cases h
      | true =>
        simp only [hl, cond_true, Option.some.injEq] at h; subst h
        rw [nbeq] at hl
        have hl3 := of_decide_eq_true hl
        clear hl
        obtain ⟨i, off', cap', hσ, hsp, hlc, hok, rfl⟩ := hx.sl_eq
        obtain ⟨ab, aoff, asp⟩ := ad
        simp only at hsp hσ hok hl3 hlc
        subst hsp
        obtain ⟨ys, h1, h2⟩ := seg_cells (hw.cells hc hσ) hl3
        have hyl : ys.length = n * size := by rw [← h1.1]; exact hl3
        refine ⟨ys, h1, fun _ => rfl, fun w2 hw2 => run_firstCells_some w2 size n _ len cap' ys hyl fun j u hj => ?_⟩
        have hjlt : j < ys.length := by
          rcases Nat.lt_or_ge j ys.length with h | h
          · exact h
          · rw [List.getElem?_eq_none h] at hj; cases hj
        have hcap : 0 < cap := by
          rcases Nat.eq_zero_or_pos cap with h0 | h0
          · have hn0 : n = 0 := by omega
            rw [hyl, hn0] at hjlt
            omega
          · exact h0
        have := hok.off hcap
        subst this
        rw [Addr.add_none]
        have := h2 j u hj
        simpa [World.cell?, hw2] using this
  | none =>
    rw [hv] at hl
    obtain ⟨s, hs, hl⟩ := ob_eq_some (show ob _ _ none = some sl from hl)
    injection hl with hl2
    have hxe := vStr_some hs
    subst hxe
    have := hx.string_eq
    subst this
    unfold firstA at h
    rw [hv, hs] at h
    injection (show some _ = some xs from h) with h
    subst h
    have hsz : s.data.toList.length = s.size := Array.length_toList
    refine ⟨(s.data.toList.take n).map fun b => .int .u8 b.toNat, ?_, fun _ => by simp [Builtin.lenOf]; omega, fun w2 _ => ?_⟩
    · refine ⟨rfl, fun j v hj => ⟨v, hj, ?_⟩⟩
      rw [List.getElem?_map] at hj
      obtain ⟨b, hb1, hb2⟩ := Option.map_eq_some_iff.1 hj
      subst hb2
      exact .int _ _
    · simp only [Builtin.firstCells, Sem.run_pure]
      congr 1
      apply Array.ext'
      simp [ByteArray.data_extract]

include hY in
theorem copy_ok {t e : TypeId} {ts : Array TypeId} {x y : Operand} {g k : Rd} {ti ei : TypeInfo} {ed : TypeDesc} (h0 : ts[0]? = some t) (ht : Y.tys.get t = some (ti, .slice e)) (he : Y.tys.get e = some (ei, ed)) (hx : rdO Y x = some g) (hy : rdO Y y = some k) :
    SOK P Y (.call { callee := .builtin .copy, args := #[x, y], argTypes := ts }) (fun tm H nx => copyA ei.size H nx (g tm) (k tm)) := by
  intro σ nt tm H nx w a hinv htr v H' nx' h
  have h1 := rdO_ok hx hinv.glob htr
  have h2 := rdO_ok hy hinv.glob htr
  obtain ⟨g1, g2⟩ := hY.tys _ _ _ ht
  obtain ⟨g3, g4⟩ := hY.tys _ _ _ he
  have hsz := fun w => run_sizeOf' (P := P) g3 w
  simp only [copyA] at h
  split at h
  · rename_i base dLen dCap hd
    rw [hd] at h1
    split at h
    · cases h
    · rename_i sl hsl
      split at h
      · cases h
      · rename_i cs hcs
        obtain ⟨ys, q1, q2, q3⟩ := src_ok (P := P) hinv.wr h2 hsl (Nat.min_le_left sl dLen) hcs
        cases base with
        | none =>
          simp only at h
          cases hem : cs.isEmpty with
          | false => rw [hem] at h; cases h
          | true =>
            rw [hem] at h
            injection h with h; injection h with r1 r2; injection r2 with r2 r3
            subst r1; subst r2; subst r3
            generalize hx' : a.eval x = x' at h1
            cases h1
            refine ⟨σ, _, w, .value (.int .i64 (Nat.min sl dLen)), .inl rfl, .int _ _, Step.refl hinv, fun oper ho => run_builtin ho ?_⟩
            simp only [builtin, Builtin.copy_, List.map_toArray, List.map_cons, List.map_nil, h0, hx', List.getElem?_toArray, List.getElem?_cons_zero, List.getElem?_cons_succ, Sem.run_bind, run_underlying g2, Result.andThen_ok, q2, hsz, q3 w rfl, Sem.run_pure, goInt]
        | some ad =>
          simp only at h
          split at h
          · rename_i c e' es gr hH
            split at h
            · cases h
            · rename_i hsp
              cases hb : (Nat.ble (Nat.add ad.off cs.length) c.length && cs.all oneC) with
              | false => rw [hb] at h; cases h
              | true =>
                rw [hb] at h
                injection h with h; injection h with r1 r2; injection r2 with r2 r3
                subst r1; subst r2; subst r3
                rw [Bool.and_eq_true, nble] at hb
                have hb1 : ad.off + cs.length ≤ c.length := of_decide_eq_true hb.1
                obtain ⟨i, off', cap', hσ, -, hlc, hok, hx'⟩ := h1.sl_eq
                by_cases hz : ys = []
                · subst hz
                  have hcs0 : cs = [] := List.length_eq_zero_iff.1 q1.1
                  subst hcs0
                  obtain ⟨s1, s2, s3⟩ := put_ok hinv hH hσ (VL.nil σ) (off := ad.off) (by simpa using hb1)
                  refine ⟨σ, _, _, .value (.int .i64 (Nat.min sl dLen)), .inl rfl, .int _ _, s3, fun oper ho => run_builtin ho ?_⟩
                  simp only [builtin, Builtin.copy_, List.map_toArray, List.map_cons, List.map_nil, h0, hx', List.getElem?_toArray, List.getElem?_cons_zero, List.getElem?_cons_succ, Sem.run_bind, run_underlying g2, Result.andThen_ok, q2, hsz, q3 w rfl, Sem.run_pure, goInt, storeCells]
                  rfl
                · have hpos : 0 < dLen := by
                    rcases Nat.eq_zero_or_pos dLen with hd0 | hd0
                    · exfalso
                      have hm : Nat.min sl dLen = 0 := by rw [hd0]; exact Nat.min_zero sl
                      have hcl : cs.length = 0 := by
                        rw [hm] at hcs
                        unfold firstA at hcs
                        cases hv : vSl (k tm) with
                        | some s =>
                          rw [hv] at hcs
                          simp only [ob_some] at hcs
                          cases ho : s.1 with
                          | none => rw [ho] at hcs; injection (show some [] = some cs from hcs) with hcs; subst hcs; rfl
                          | some a2 =>
                            rw [ho] at hcs
                            obtain ⟨c2, hc2, hcs⟩ := ob_eq_some (show ob _ _ none = some cs from hcs)
                            have hz0 : Nat.mul 0 ei.size = 0 := Nat.zero_mul _
                            simp only [hz0, Ax.seg, List.take_zero, List.length_nil] at hcs
                            injection (show some [] = some cs from hcs) with hcs; subst hcs; rfl
                        | none =>
                          rw [hv] at hcs
                          obtain ⟨s2, hs2, hcs⟩ := ob_eq_some (show ob _ _ none = some cs from hcs)
                          injection hcs with hcs; subst hcs; simp
                      exact hz (List.length_eq_zero_iff.1 (q1.1 ▸ hcl))
                    · exact hd0
                  have hoff := hok.off (by omega)
                  subst hoff
                  obtain ⟨s1, s2, s3⟩ := put_ok hinv hH hσ q1 hb1
                  have hst := run_storeCells_cells (P := P) i.blk (ad.off + i.sh) ys 0 w (by simpa using s1) (by simpa using s2) (q1.oneC hb.2)
                  refine ⟨σ, _, _, .value (.int .i64 (Nat.min sl dLen)), .inl rfl, .int _ _, s3, fun oper ho => run_builtin ho ?_⟩
                  simp only [builtin, Builtin.copy_, List.map_toArray, List.map_cons, List.map_nil, h0, hx', List.getElem?_toArray, List.getElem?_cons_zero, List.getElem?_cons_succ, Sem.run_bind, run_underlying g2, Result.andThen_ok, q2, hsz, q3 w rfl, Sem.run_pure, goInt, hst, Nat.add_zero]
          · cases h
  · cases h

end
end Go.Ax
