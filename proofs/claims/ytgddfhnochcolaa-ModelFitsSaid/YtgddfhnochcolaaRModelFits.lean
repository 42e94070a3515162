import Derived.Test.YtgddfhnochcolaaAbsTwo
import Derived.Test.YtgddfhnochcolaaE14
import Derived.Test.YtgddfhnochcolaaRows
import Derived.WalkKit
import Derived.ProofKit
import Derived.OpenShut
set_option linter.all false
/-
  PROVED: for every input the law ModelFits returns true, and each argument reads as it did. No condition beyond the given row's own.
-/
namespace Go.Proofs.Ytgddfhnochcolaa.modelFits
open Go Go.Abs Go.ChangeShapes Go.WideShapes Go.ChangeAt Go.RowKit
set_option linter.unusedVariables false
theorem own : ownKnob Try.prog.godebug = none := by kernel_rfl
theorem laid : laidOutB Try.prog = true := by kernel_rfl
theorem dec5 {H : Type} {enc : TypeId × Value → H} {W : World} : ∀ row, Rd enc Try.prog W 5 row → ∃ x, isB x ∧ row = bU x := by
  intro row h
  obtain ⟨x, e, w⟩ := h.int Try.underlying5
  exact ⟨x, wf_u8 w, e⟩
theorem dec50 {H : Type} {enc : TypeId × Value → H} {W : World} : ∀ row, Rd enc Try.prog W 50 row → ∃ x, stepOK (stH W) x ∧ row.map (absC W) = stepV x := by
  intro row h
  have n : row.length = 4 := ((h.struct Try.underlying50).1).trans (by kernel_rfl)
  obtain ⟨x0, e0, w0⟩ := (h.field Try.underlying50 0 rfl).intAt Try.underlying3 (by kernel_rfl)
  have w0 := wf_i64 w0
  obtain ⟨x1, e1, w1⟩ := (h.field Try.underlying50 1 rfl).intAt Try.underlying3 (by kernel_rfl)
  have w1 := wf_i64 w1
  obtain ⟨x2, e2, w2⟩ := (h.field Try.underlying50 2 rfl).intAt Try.underlying3 (by kernel_rfl)
  have w2 := wf_i64 w2
  obtain ⟨v3, x3, e3, b3, k3⟩ := (h.field Try.underlying50 3 rfl).sliceAt Try.underlying37 (Nat.le_of_ble_eq_true (by kernel_rfl)) (by kernel_rfl)
  obtain ⟨l3, rr3, oo3⟩ := rows_of (f := bU) (ok := isB) (z := 1) (by omega) (by kernel_rfl) (fun _ => rfl) dec5 k3
  have L : row = [Value.int .i64 x0, Value.int .i64 x1, Value.int .i64 x2, v3] := by
    apply List.ext_getElem?
    intro i
    match i with
    | 0 => exact e0
    | 1 => exact e1
    | 2 => exact e2
    | 3 => exact e3
    | i + 4 => rw [List.getElem?_eq_none (by omega), List.getElem?_eq_none (by simp)]
  refine ⟨⟨x0, x1, x2, x3, l3⟩, ⟨w1, w2, rr3, oo3⟩, ?_⟩
  rw [L]
  simp only [List.map_cons, List.map_nil, absC_flat W (show flatC (Value.int .i64 x0) = true from rfl), absC_flat W (show flatC (Value.int .i64 x1) = true from rfl), absC_flat W (show flatC (Value.int .i64 x2) = true from rfl), b3]
  rfl
set_option maxRecDepth 100000 in
theorem lifted (os : Os) (started : os.Started) (H : Type) (enc : TypeId × Value → H) :
    ReturnsInHanded {} Try.checked os 7 .any (Go.Proofs.Ytgddfhnochcolaa.Rows.modelFitsSpec.pre6 enc Try.prog Try.f7 Go.Proofs.Ytgddfhnochcolaa.Rows.modelFitsRow.domain false) (Go.Proofs.Ytgddfhnochcolaa.Rows.modelFitsSpec.post enc Try.prog Try.f7 false true false false) := by
  refine returnsInHanded_of_change_sized (C := Try.checked) own started (by kernel_rfl) Try.func7
    (ChangeSpec.witness6 (enc := enc) (C := Try.checked) false ⟨#[], #[.int .i64 0, .slice none 0 0, .int .i64 0, .int .i64 0, .int .i64 0], []⟩ 8 (by kernel_rfl) (by kernel_rfl) (by kernel_rfl) (by kernel_rfl)) ?_
  intro W base args ds gs before hval0 hW hcnd hsz _
  have hval : ∀ (j : Nat) t v, Try.f7.params[j]? = some t → args[j]? = some v → Value.okWide Try.prog W .any base t v := hval0
  have hW1 := hW
  obtain ⟨p, q, hA0, hV, rfl, hfz, hnd⟩ := hW
  have hA : DataW.TrodAll enc Try.prog W 0 (fun _ => true) true Try.f7.params.toList args.toList ds p := hA0
  have hA1 := hA
  rw [Try.params7] at hA hval
  obtain ⟨v0, vs0, d0, ds0, p0, q0, hargs, rfl, rfl, h0, r0⟩ := trodAll_cons hA
  obtain ⟨v1, vs1, d1, ds1, p1, q1, rfl, rfl, rfl, h1, r1⟩ := trodAll_cons r0
  obtain ⟨v2, vs2, d2, ds2, p2, q2, rfl, rfl, rfl, h2, r2⟩ := trodAll_cons r1
  obtain ⟨v3, vs3, d3, ds3, p3, q3, rfl, rfl, rfl, h3, r3⟩ := trodAll_cons r2
  obtain ⟨v4, vs4, d4, ds4, p4, q4, rfl, rfl, rfl, h4, r4⟩ := trodAll_cons r3
  obtain ⟨rfl, rfl, rfl⟩ := trodAll_nil r4
  obtain rfl : args = #[v0, v1, v2, v3, v4] := by cases args; simp_all
  obtain ⟨rfl, rfl⟩ := trodVars_none hV
  simp only [List.append_nil] at hW1
  obtain ⟨a0, rfl⟩ := okWide_int Try.underlying3 (hval 0 3 v0 rfl rfl)
  obtain ⟨a00, e0, w0⟩ := (Rd.of h0).int Try.underlying3
  obtain rfl : a0 = a00 := by simpa [Value.cells] using e0
  obtain ⟨x1a, x1n, x1c, rfl⟩ := okWide_slice Try.underlying43 (hval 1 43 v1 rfl rfl)
  obtain ⟨s1, b1, w1⟩ := (Rd.of h1).sliceS Try.underlying43 (Nat.le_of_ble_eq_true (by kernel_rfl))
  have g1 : VRel (stE W) s1.val (.slice x1a x1n x1c) := b1 ▸ absC_rel W _
  obtain ⟨l1, rr1, oo1⟩ := rows_of' (f := stepV) (ok := stepOK (stH W)) (z := 4) (by omega) (by kernel_rfl) (fun _ => rfl) dec50 w1
  have zz1 : x1n * 48 ≤ reachBytes := by
    have hb : Try.prog.bytesOf 50 = 48 := by kernel_rfl
    rw [← hb]
    exact slice_fits (P := Try.prog) hsz (j := 1) (t := 43) (e := 50) (by kernel_rfl) rfl Try.underlying43 h1
  obtain ⟨a2, rfl⟩ := okWide_int Try.underlying3 (hval 2 3 v2 rfl rfl)
  obtain ⟨a20, e2, w2⟩ := (Rd.of h2).int Try.underlying3
  obtain rfl : a2 = a20 := by simpa [Value.cells] using e2
  obtain ⟨a3, rfl⟩ := okWide_int Try.underlying3 (hval 3 3 v3 rfl rfl)
  obtain ⟨a30, e3, w3⟩ := (Rd.of h3).int Try.underlying3
  obtain rfl : a3 = a30 := by simpa [Value.cells] using e3
  obtain ⟨a4, rfl⟩ := okWide_int Try.underlying3 (hval 4 3 v4 rfl rfl)
  obtain ⟨a40, e4, w4⟩ := (Rd.of h4).int Try.underlying3
  obtain rfl : a4 = a40 := by simpa [Value.cells] using e4
  have hlt := hW1.lt
  refine (law_calls (.cons0 (.int _ _) <| .cons0 g1 <| .cons0 (.int _ _) <| .cons0 (.int _ _) <| .cons0 (.int _ _) <| .nil0) (by first | exact darninglaw20_ModelFits.t | exact darninglaw20_ModelFits.t w0 rr1 oo1 (by first | (have hw := w1.2.1; rw [rr1.1] at hw; exact hw) | (have hw := zz1; rw [← absC_len b1, rr1.1] at hw; exact hw)) w2 w3 w4)).mono fun e W1 he => ?_
  obtain ⟨he, bel, fz⟩ := he
  subst he
  exact ⟨_, rfl, post_of_same (pv := []) hW1 (fun _ _ _ => trodAll_mk1 (shut_bool Try.underlying4 _)) (fun sp hsp => args_stay laid bel (by kernel_rfl) hA1 (by simpa using hlt) (by simpa using hsp)) (fun _ _ => rfl) (by simp)
    (bel.frame _) fz (ok_one (by kernel_rfl) rfl (okWide_bool_mk Try.underlying4 _))⟩
theorem over : Go.Proofs.Ytgddfhnochcolaa.Rows.modelFitsRow.holds Go.Proofs.Ytgddfhnochcolaa.Try.pinned (OpenSpec.ofChange Go.Proofs.Ytgddfhnochcolaa.Rows.modelFitsSpec) :=
  OpenClaim.holds_of_wide 7 Try.f7 rfl rfl rfl rfl rfl rfl rfl ⟨rfl, rfl, rfl, rfl, rfl⟩ rfl rfl rfl rfl rfl (by kernel_rfl) Try.func7 (by kernel_rfl)
    (of_decide_eq_true (by kernel_rfl)) (by unfold Func.isWrapper; first | (rw [if_pos (by decide +kernel)]; kernel_rfl) | (rw [if_neg (by decide +kernel)]; exact ⟨rfl, rfl⟩))
    (fun os started H enc _ => lifted os started H enc)
/-- THE STATEMENT. -/
theorem proved : Go.Proofs.Ytgddfhnochcolaa.Rows.ModelFitsSaid := over
end Go.Proofs.Ytgddfhnochcolaa.modelFits
#print axioms Go.Proofs.Ytgddfhnochcolaa.modelFits.proved
