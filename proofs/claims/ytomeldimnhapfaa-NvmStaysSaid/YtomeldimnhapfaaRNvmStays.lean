import Derived.Test.YtomeldimnhapfaaAbsTwo
import Derived.Test.YtomeldimnhapfaaM9
import Derived.Test.YtomeldimnhapfaaRows
import Derived.WalkKit
import Derived.ProofKit
import Derived.OpenShut
set_option linter.all false
/-
  PROVED: for every input the law NvmStays returns true, and each argument reads as it did. No condition beyond the given row's own.
-/
namespace Go.Proofs.Ytomeldimnhapfaa.nvmStays
open Go Go.Abs Go.ChangeShapes Go.WideShapes Go.ChangeAt Go.RowKit
set_option linter.unusedVariables false
theorem own : ownKnob Try.prog.godebug = none := by kernel_rfl
theorem laid : laidOutB Try.prog = true := by kernel_rfl
theorem dec39 {H : Type} {enc : TypeId × Value → H} {W : World} : ∀ row, Rd enc Try.prog W 39 row → ∃ x, callOK x ∧ row = callV x := by
  intro row h
  have n : row.length = 12 := ((h.struct Try.underlying39).1).trans (by kernel_rfl)
  obtain ⟨x0, e0, w0⟩ := (h.field Try.underlying39 0 rfl).intAt Try.underlying3 (by kernel_rfl)
  have w0 := wf_i64 w0
  obtain ⟨x1, e1, w1⟩ := (h.field Try.underlying39 1 rfl).intAt Try.underlying3 (by kernel_rfl)
  have w1 := wf_i64 w1
  obtain ⟨x2, e2, w2⟩ := (h.field Try.underlying39 2 rfl).intAt Try.underlying3 (by kernel_rfl)
  have w2 := wf_i64 w2
  obtain ⟨x3, w3, e3⟩ := (h.field Try.underlying39 3 rfl).eight rfl Try.underlying29 Try.underlying22 (by kernel_rfl) (by kernel_rfl)
  have z3 : Try.prog.cellsOf 29 = 8 := by kernel_rfl
  have e3 : (row.drop 3).take (Try.prog.cellsOf 29) = x3.map (fun v => Value.int .u64 v) := e3
  rw [z3] at e3
  obtain ⟨x4, e4, w4⟩ := (h.field Try.underlying39 4 rfl).intAt Try.underlying22 (by kernel_rfl)
  have w4 := wf_u64 w4
  exact ⟨⟨⟨x0, x1, x2⟩, x3, x4⟩, ⟨w3, w4, w0, w1, w2⟩, call_eq n e0 e1 e2 e3 e4⟩
set_option maxRecDepth 100000 in
theorem lifted (os : Os) (started : os.Started) (H : Type) (enc : TypeId × Value → H) :
    ReturnsInHanded {} Try.checked os 8 .any (Go.Proofs.Ytomeldimnhapfaa.Rows.nvmStaysSpec.pre6 enc Try.prog Try.f8 Go.Proofs.Ytomeldimnhapfaa.Rows.nvmStaysRow.domain false) (Go.Proofs.Ytomeldimnhapfaa.Rows.nvmStaysSpec.post enc Try.prog Try.f8 false true false false) := by
  refine returnsInHanded_of_change (C := Try.checked) own started (by kernel_rfl) Try.func8
    (ChangeSpec.witness6 (enc := enc) (C := Try.checked) false ⟨#[], #[.agg #[.int .u64 0, .int .u64 0, .int .u64 0, .int .u64 0, .int .u64 0, .int .u64 0, .int .u64 0, .int .u64 0], .agg #[.int .u64 0, .int .u64 0, .int .u64 0, .int .u64 0, .int .u64 0, .int .u64 0, .int .u64 0, .int .u64 0], .int .u64 0, .int .u64 0, .int .i64 0, .slice none 0 0], []⟩ 8 (by kernel_rfl) (by kernel_rfl) (by kernel_rfl) (by kernel_rfl)) ?_
  intro W base args ds gs before hval0 hW hcnd _
  have hval : ∀ (j : Nat) t v, Try.f8.params[j]? = some t → args[j]? = some v → Value.okWide Try.prog W .any base t v := hval0
  have hW1 := hW
  obtain ⟨p, q, hA0, hV, rfl, hfz, hnd⟩ := hW
  have hA : DataW.TrodAll enc Try.prog W 0 (fun _ => true) true Try.f8.params.toList args.toList ds p := hA0
  have hA1 := hA
  rw [Try.params8] at hA hval
  obtain ⟨v0, vs0, d0, ds0, p0, q0, hargs, rfl, rfl, h0, r0⟩ := trodAll_cons hA
  obtain ⟨v1, vs1, d1, ds1, p1, q1, rfl, rfl, rfl, h1, r1⟩ := trodAll_cons r0
  obtain ⟨v2, vs2, d2, ds2, p2, q2, rfl, rfl, rfl, h2, r2⟩ := trodAll_cons r1
  obtain ⟨v3, vs3, d3, ds3, p3, q3, rfl, rfl, rfl, h3, r3⟩ := trodAll_cons r2
  obtain ⟨v4, vs4, d4, ds4, p4, q4, rfl, rfl, rfl, h4, r4⟩ := trodAll_cons r3
  obtain ⟨v5, vs5, d5, ds5, p5, q5, rfl, rfl, rfl, h5, r5⟩ := trodAll_cons r4
  obtain ⟨rfl, rfl, rfl⟩ := trodAll_nil r5
  obtain rfl : args = #[v0, v1, v2, v3, v4, v5] := by cases args; simp_all
  obtain ⟨rfl, rfl⟩ := trodVars_none hV
  simp only [List.append_nil] at hW1
  obtain ⟨c0, rfl⟩ := okWide_arr Try.underlying29 (hval 0 29 v0 rfl rfl)
  obtain ⟨l0, k0, q0⟩ := (Rd.of h0).eight rfl Try.underlying29 Try.underlying22 (by kernel_rfl) (by kernel_rfl)
  have g0 : VRel (stE W) (.agg (List.toArray (lineV l0))) (.agg c0) := by
    have hh := absAgg_rel W c0
    rw [show c0.toList = lineV l0 from q0, absC_flats W (flat_u64 l0)] at hh
    exact hh
  obtain ⟨c1, rfl⟩ := okWide_arr Try.underlying29 (hval 1 29 v1 rfl rfl)
  obtain ⟨l1, k1, q1⟩ := (Rd.of h1).eight rfl Try.underlying29 Try.underlying22 (by kernel_rfl) (by kernel_rfl)
  have g1 : VRel (stE W) (.agg (List.toArray (lineV l1))) (.agg c1) := by
    have hh := absAgg_rel W c1
    rw [show c1.toList = lineV l1 from q1, absC_flats W (flat_u64 l1)] at hh
    exact hh
  obtain ⟨a2, rfl⟩ := okWide_int Try.underlying22 (hval 2 22 v2 rfl rfl)
  obtain ⟨a20, e2, w2⟩ := (Rd.of h2).int Try.underlying22
  obtain rfl : a2 = a20 := by simpa [Value.cells] using e2
  obtain ⟨a3, rfl⟩ := okWide_int Try.underlying22 (hval 3 22 v3 rfl rfl)
  obtain ⟨a30, e3, w3⟩ := (Rd.of h3).int Try.underlying22
  obtain rfl : a3 = a30 := by simpa [Value.cells] using e3
  obtain ⟨a4, rfl⟩ := okWide_int Try.underlying3 (hval 4 3 v4 rfl rfl)
  obtain ⟨a40, e4, w4⟩ := (Rd.of h4).int Try.underlying3
  obtain rfl : a4 = a40 := by simpa [Value.cells] using e4
  obtain ⟨x5a, x5n, x5c, rfl⟩ := okWide_slice Try.underlying36 (hval 5 36 v5 rfl rfl)
  obtain ⟨s5, b5, w5⟩ := (Rd.of h5).sliceS Try.underlying36 (Nat.le_of_ble_eq_true (by kernel_rfl))
  have g5 : VRel (stE W) s5.val (.slice x5a x5n x5c) := b5 ▸ absC_rel W _
  obtain ⟨l5, r5, o5⟩ := rows_of (f := callV) (ok := callOK) (z := 12) (by omega) (by kernel_rfl) callV_flat dec39 w5
  have hlt := hW1.lt
  refine (law_calls (.cons0 g0 <| .cons0 g1 <| .cons0 (.int _ _) <| .cons0 (.int _ _) <| .cons0 (.int _ _) <| .cons0 g5 <| .nil0) (by first | exact darninglaw5_NvmStays.t | exact darninglaw5_NvmStays.t k0 k1 w2 w3 w4 r5 o5 (by have hw := w5.2.1; rw [r5.1] at hw; exact hw))).mono fun e W1 he => ?_
  obtain ⟨he, bel, fz⟩ := he
  subst he
  exact ⟨_, rfl, post_of_same (pv := []) hW1 (fun _ _ _ => trodAll_mk1 (shut_bool Try.underlying4 _)) (fun sp hsp => args_stay laid bel (by kernel_rfl) hA1 (by simpa using hlt) (by simpa using hsp)) (fun _ _ => rfl) (by simp)
    (bel.frame _) fz (ok_one (by kernel_rfl) rfl (okWide_bool_mk Try.underlying4 _))⟩
theorem over : Go.Proofs.Ytomeldimnhapfaa.Rows.nvmStaysRow.holds Go.Proofs.Ytomeldimnhapfaa.Try.pinned (OpenSpec.ofChange Go.Proofs.Ytomeldimnhapfaa.Rows.nvmStaysSpec) :=
  OpenClaim.holds_of_wide 8 Try.f8 rfl rfl rfl rfl rfl rfl rfl ⟨rfl, rfl, rfl, rfl, rfl⟩ rfl rfl rfl rfl rfl (by kernel_rfl) Try.func8 (by kernel_rfl)
    (of_decide_eq_true (by kernel_rfl)) (by unfold Func.isWrapper; first | (rw [if_pos (by decide +kernel)]; kernel_rfl) | (rw [if_neg (by decide +kernel)]; exact ⟨rfl, rfl⟩))
    (fun os started H enc _ => lifted os started H enc)
/-- THE STATEMENT. -/
theorem proved : Go.Proofs.Ytomeldimnhapfaa.Rows.NvmStaysSaid := over
end Go.Proofs.Ytomeldimnhapfaa.nvmStays
#print axioms Go.Proofs.Ytomeldimnhapfaa.nvmStays.proved
