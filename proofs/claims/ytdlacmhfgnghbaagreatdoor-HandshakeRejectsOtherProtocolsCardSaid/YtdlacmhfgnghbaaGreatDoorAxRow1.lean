import Derived.Test.YtdlacmhfgnghbaaGreatDoorAxLw
import Derived.Test.YtdlacmhfgnghbaaGreatDoorAxLz
import Derived.Test.YtdlacmhfgnghbaaGreatDoorRows
import Derived.ProofKit
import Derived.LaidMore
import Derived.Lay
import Derived.OpenShut
import Derived.Stop.Joined
import Derived.SevenTiedAt
/- The law of statement 1 ('input that starts neither handshake is rejected'), proved: its row, for every slice of bytes, whatever the memory and the schedule. Conditions: none beyond the row's own cells (the listed variables of Go's library start as the program's text lays them). -/
set_option maxRecDepth 100000
set_option linter.unusedVariables false
set_option linter.constructorNameAsVariable false
namespace Go.Proofs.YtdlacmhfgnghbaaGreatDoor
open Go.ChangeShapes Go.WideShapes Go.ChangeAt Go.WideMaps Go.WideElems Go.RowKit

theorem own : ownKnob Tryz.prog.godebug = none := by kernel_rfl
theorem gPow : Tryz.prog.globalNamed "internal/strconv.uint64pow10" = some 1 := by kernel_rfl
theorem tPow : (Tryz.prog.globals[1]?).map (·.type) = some 223 := by kernel_rfl

abbrev laid1 := Rows.handshakeRejectsOtherProtocolsRow.laid

theorem of_laid {W : World} (h : laidMetH Tryz.prog laid1 W) : ∃ e1, W.heap[1]? = some (.cells (Go.Ax.pow10 20).toArray e1 (0, 0)) := by
  rw [MakeChecks.laidMetH_plain _ _ _ (by kernel_rfl)] at h
  obtain ⟨ps, ⟨g0, t0, cs0, f0, p0, q0, _, _, _, _, ⟨g1, t1, cs1, f1, p1, q1, _, _, _, _, ⟨g2, t2, cs2, f2, p2, q2, hg2, ht2, hv2, hd2, _, e2⟩, e1⟩, e0⟩, _, hz⟩ := h
  obtain rfl := Option.some.inj (gPow.symm.trans hg2)
  obtain rfl := Option.some.inj (tPow.symm.trans ht2)
  obtain ⟨xs, m1, hcs, hx1, hlen, hn3, hel⟩ := DataW.trod_array Tryz.underlying223 hd2
  have hc223 : Tryz.prog.cellsOf 223 = 20 := by kernel_rfl
  have hel' : ∀ i, i < 20 → ∃ k, cs2.toList[i]? = some (.int .u64 k) ∧ ∃ y, xs[i]? = some y ∧ y.1 = .lit (.int .u64 k) := by
    intro i hi
    have h := hel i hi
    have hxi : xs[i]? = some xs[i] := List.getElem?_eq_getElem (by omega)
    rw [hxi] at h
    obtain ⟨k, q1, q2, _⟩ := DataW.trod_int Tryz.underlying37 h
    refine ⟨k, ?_, xs[i], hxi, by rw [q2]⟩
    have hce : Tryz.prog.cellsOf 37 = 1 := by kernel_rfl
    rw [hce] at q1
    have := congrArg (fun l => l[0]?) q1
    simpa [List.getElem?_take, List.getElem?_drop] using this
  have hl2 : cs2.toList.length = 20 := by rw [hlen, hc223]
  simp only [Prod.mk.injEq, Rows.laid_internal_strconv_uint64pow10, DataW.agg.injEq] at hx1
  have hmap : cs2.toList = Go.Ax.pow10 20 := by
    apply List.ext_getElem?
    intro i
    rcases Nat.lt_or_ge i 20 with hi | hi
    · obtain ⟨k, r1, y, r2, r3⟩ := hel' i hi
      rw [r1]
      have h4 : (List.map (fun x => x.1) xs)[i]? = some (.lit (.int .u64 k)) := by rw [List.getElem?_map, r2]; simp [r3]
      rw [← hx1.1] at h4
      have hall : ∀ i, i < 20 → ∀ k, ([(1 : Int), 10, 100, 1000, 10000, 100000, 1000000, 10000000, 100000000, 1000000000, 10000000000, 100000000000, 1000000000000, 10000000000000, 100000000000000, 1000000000000000, 10000000000000000, 100000000000000000, 1000000000000000000, 10000000000000000000].map fun n => (DataW.lit (.int .u64 n) : DataW Unit))[i]? = some (.lit (.int .u64 k)) → (Go.Ax.pow10 20)[i]? = some (.int .u64 k) := by
        intro i hi k hk
        match i, hi with
        | 0, _ | 1, _ | 2, _ | 3, _ | 4, _ | 5, _ | 6, _ | 7, _ | 8, _ | 9, _ | 10, _ | 11, _ | 12, _ | 13, _ | 14, _ | 15, _ | 16, _ | 17, _ | 18, _ | 19, _ => simp at hk; subst hk; rfl
      exact (hall i hi k (by simpa using h4)).symm
    · rw [List.getElem?_eq_none (by omega), List.getElem?_eq_none (by show (Go.Ax.pow10 20).length ≤ i; exact hi)]
  have hcell := (hz 1 0 (by
    rw [e0, e1, e2]
    simp only [List.mem_append, MemPlace.row, List.mem_map, List.mem_range]
    exact .inr (.inr (.inl (.inl ⟨0, by rw [← Array.length_toList]; omega, rfl⟩))))).1
  obtain ⟨c, t, hc⟩ := hcell
  have hv : W.var? Tryz.prog "internal/strconv.uint64pow10" = some c := by simp [World.var?, gPow, hc]
  rw [hv2] at hv
  injection hv with hv
  refine ⟨t, ?_⟩
  rw [hc, ← hv, ← hmap]

open Go.Ax in
/-- The call, for every argument that the row speaks of. -/
theorem law_call {H : Type} {enc : TypeId × Value → H} {W : World} {base : Nat} {v0 : Value} {d0 : DataW H} {p : List MemPlace} {e1 : TypeId}
    (hp : W.heap[1]? = some (.cells (pow10 20).toArray e1 (0, 0))) (hval : Value.okWide Tryz.prog W .any base 22 v0)
    (h0 : DataW.Trod enc Tryz.prog W 0 (fun _ => true) true 22 v0 d0 p) :
    Calls Tryz.prog 3 #[v0] W fun e W' => e = .returned (.bool true) ∧ Below W.heap.size W W' := by
  have fin : ∀ (i8 : Option BI) (fo : Fo) (v : Value), FoOK fo (sg0 e1 i8) H0 W → VL (sg0 e1 i8) [v] [v0] →
      denF Zb YT fo ov3 97 .lf body3 (callN Zb F1 300) (argsT 0 [v] .lf) H0 9 K3 = true → Calls Tryz.prog 3 #[v0] W fun e W' => e = .returned (.bool true) ∧ Below W.heap.size W W' := by
    intro i8 fo v hJ hv hrun
    refine (law3 (inv0 hp) hJ (args' := #[v0]) hv (by simp) hrun).mono fun e W' ⟨he, σ', H', nx', s, hs⟩ => ?_
    exact ⟨he, s.os, s.tape, s.output, s.size, heap_same hp s hs⟩
  obtain ⟨a1, len, cap, rfl⟩ := okWide_slice Tryz.underlying22 hval
  obtain ⟨fuel, hf⟩ := h0
  rcases open_ints Tryz.underlying22 Tryz.underlying5 (by kernel_rfl) hf with ⟨hcs, hx⟩ | ⟨a, len', cap', zs, hcs, _, hl, hm, hz, hx, hcell, hwz⟩
  · simp [Value.cells] at hcs
    obtain ⟨rfl, rfl, rfl⟩ := hcs
    exact fin none (fun _ => none) (.slice none 0 0) (fun b s h => by cases h) (.cons (.nilsl 0 0) (.nil _)) (run3n_ok 0)
  · simp [Value.cells] at hcs
    obtain ⟨rfl, rfl, rfl⟩ := hcs
    have hspot : a.spot = none := by
      simp only [Value.okWide, Tryz.underlying22, Cell.okWide, Cell.ok, World.has] at hval
      exact hval.2.2.2.1
    obtain ⟨bb, off, spot⟩ := a
    simp only at hspot
    subst hspot
    simp only [if_true] at hz
    have hVL : ∀ (e : TypeId) (fz : Nat × Nat), VL (sg0 e1 (some ⟨bb, off, true, 1, 0, off + cap, e, fz⟩)) [.slice (some ⟨8, 0, none⟩) len len] [.slice (some ⟨bb, off, none⟩) len cap] := fun e fz =>
      .cons (.sl (i := ⟨bb, off, true, 1, 0, off + cap, e, fz⟩) rfl (Nat.le_refl _) ⟨(fun h => by cases h), fun _ => ⟨hl, (fun h => absurd h (Nat.not_lt_zero _)), fun _ => (Nat.zero_add _).symm, by simp⟩⟩) (.nil _)
    rcases Nat.eq_zero_or_pos len with h00 | hpos
    · subst h00
      exact fin _ (fun _ => none) _ (fun b s h => by cases h) (hVL 0 (0, 0)) run3z_ok
    · have hcap : 0 < cap := by omega
      have hc0 := hcell 0 (by omega)
      rw [Addr.add_none, Nat.add_zero] at hc0
      obtain ⟨c, e, fz, hb⟩ : ∃ c e fz, W.heap[bb]? = some (.cells c e fz) := by
        unfold World.cell? at hc0
        split at hc0
        · rename_i c e fz h; exact ⟨c, e, fz, h⟩
        · cases hc0
      have hbytes : ∀ j, (h : j < zs.length) → c[off + j]? = some (.int .u8 (UInt8.ofNat (zs[j]).toNat).toNat) := by
        intro j hj
        have h1 := hcell j hj
        rw [Addr.add_none, cell?_of_heap hb] at h1
        rw [h1]
        have hr := range_u8 hwz j
        have e2 : zs.getD j 0 = zs[j] := by simp [List.getD, List.getElem?_eq_getElem hj]
        rw [List.getD_eq_getElem?_getD] at e2
        rw [e2] at hr
        rw [List.getD_eq_getElem?_getD, e2]
        congr 2
        simp only [UInt8.toNat_ofNat']
        omega
      have hne : 1 ≠ bb := by
        intro h; subst h
        rw [hb] at hp; injection hp with hp; injection hp with hp
        have h1 := hbytes 0 (by omega)
        rw [hp] at h1
        have h2 : (pow10 20)[off + 0]? = some (.int .u8 (UInt8.ofNat (zs[0]).toNat).toNat) := by simpa using h1
        obtain ⟨k, hk⟩ := pow10_int 20 _ (List.mem_of_getElem? h2)
        cases hk
      have hrun : ∀ l : List UInt8, l.length = cap → denF Zb YT (fo3 l) ov3 97 .lf body3 (callN Zb F1 300) (argsT 0 [.slice (some ⟨8, 0, none⟩) len len] .lf) H0 9 K3 = true := by
        intro l hl'
        match l, len, hpos with
        | x :: rest, m + 1, _ => exact run3_byte m x rest
        | [], m + 1, _ => simp at hl'; omega
      refine fin _ (fo3 (zs.map fun n => UInt8.ofNat n.toNat)) _ (fun b s h => ?_) (hVL e fz) (hrun _ (by simp; omega))
      unfold fo3 at h
      cases hb8 : Nat.beq b 8 with
      | false => rw [hb8] at h; cases h
      | true =>
        rw [hb8] at h
        injection h with h; subst h
        obtain rfl : b = 8 := Nat.eq_of_beq_eq_true hb8
        refine ⟨_, c, e, fz, rfl, rfl, rfl, by simp; omega, hb, fun j x hj => ?_, fun y k hy hk => ?_⟩
        · have hlt : j < zs.length := by
            have := (List.getElem?_eq_some_iff.1 hj).1
            simpa using this
          have h1 := hbytes j hlt
          rw [List.getElem?_map, List.getElem?_eq_getElem hlt] at hj
          injection hj with hj
          rw [← hj]; exact h1
        · rw [H0_get] at hy
          split at hy
          · rename_i ey; subst ey
            injection (show some _ = some k from hk) with hk
            subst hk
            exact hne
          · cases hy

theorem lifted (os : Os) (started : os.Started) (H : Type) (enc : TypeId × Value → H) :
    ReturnsInHanded {} Tryz.checked os 3 .any (fun w args => (Rows.handshakeRejectsOtherProtocolsSpec.pre enc Tryz.prog Tryz.f3 [] false w args ∧ laidMetH Tryz.prog laid1 w) ∧ sizedMet enc Tryz.prog Tryz.f3 (OpenSpec.ofChange Rows.handshakeRejectsOtherProtocolsSpec) false w args)
      (Rows.handshakeRejectsOtherProtocolsSpec.post enc Tryz.prog Tryz.f3 false true false false) := by
  refine returnsInHanded_of_change_and (C := Tryz.checked) (X := fun w _ => laidMetH Tryz.prog laid1 w) (fun _ _ _ hh h => h.of_heap hh) own started (by kernel_rfl) Tryz.func3
    (ChangeSpec.witness_shaped (enc := enc) (C := Tryz.checked) (os := os) (X := fun w _ => laidMetH Tryz.prog laid1 w) false (World.laidAll Tryz.prog os laid1) #[.slice none 0 0] 8 (World.laidAll_os _ _ _)
      (World.shaped_of_ZipB (by kernel_rfl) (by kernel_rfl)) (by kernel_rfl) (by kernel_rfl) (by kernel_rfl)
      (by rw [MakeChecks.laidMetH_plain _ _ _ (by kernel_rfl)]; exact laidMet_laidAll _ (by kernel_rfl) (by kernel_rfl))) ?_
  intro W base args ds gs before hval0 hW _ _ hL _
  have hval : ∀ (j : Nat) t v, Tryz.f3.params[j]? = some t → args[j]? = some v → Value.okWide Tryz.prog W .any base t v := hval0
  have hW' := hW
  obtain ⟨p, q, hA0, hV, rfl, _, _⟩ := hW
  have hA : DataW.TrodAll enc Tryz.prog W 0 (fun _ => true) true Tryz.f3.params.toList args.toList ds p := hA0
  rw [Tryz.params3] at hA hval
  obtain ⟨v0, d0, rfl, rfl, h0⟩ := trodAll_one hA
  obtain ⟨rfl, rfl⟩ := trodVars_none hV
  obtain ⟨e1, hp⟩ := of_laid hL
  have hlt : ∀ x ∈ p, x.block < W.heap.size := fun x hx => by simpa using hW'.lt x (by simpa using hx)
  refine (law_call hp (hval 0 22 v0 rfl rfl) h0).mono fun e W' ⟨he, hb⟩ => ?_
  subst he
  refine ⟨_, rfl, _, _, _, [], _, [], hW', trodAll_mk1 (shut_bool Tryz.underlying4 _), trodAll_mk1 (Below.trod (by kernel_rfl) (by kernel_rfl) (of_decide_eq_true (by kernel_rfl)) h0 hb hlt), rfl, hb.frame _, fun h => by cases h⟩

theorem row_holds : Rows.HandshakeRejectsOtherProtocolsSaid :=
  OpenClaim.holds_of_wide 3 Tryz.f3 rfl rfl rfl rfl rfl rfl rfl ⟨rfl, rfl, rfl, rfl, rfl⟩ rfl rfl rfl rfl rfl (by kernel_rfl) Tryz.func3 (by kernel_rfl)
    (of_decide_eq_true (by kernel_rfl)) (by unfold Func.isWrapper; first | (rw [if_pos (by decide +kernel)]; kernel_rfl) | (rw [if_neg (by decide +kernel)]; exact ⟨rfl, rfl⟩))
    (fun os started H enc _ => lifted os started H enc)
end Go.Proofs.YtdlacmhfgnghbaaGreatDoor
