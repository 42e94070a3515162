import Derived.Test.YtomeldimnhapfaaAbsTwo
import Derived.Test.YtomeldimnhapfaaM13
import Derived.Test.YtomeldimnhapfaaRows
import Derived.WalkKit
import Derived.ProofKit
import Derived.OpenShut
set_option linter.all false
/-
  PROVED: for every input the law NvmPlays returns true, and each argument reads as it did. No condition beyond the given row's own.
-/
namespace Go.Proofs.Ytomeldimnhapfaa.nvmPlays
open Go Go.Abs Go.ChangeShapes Go.WideShapes Go.ChangeAt Go.RowKit
set_option linter.unusedVariables false
theorem own : ownKnob Try.prog.godebug = none := by kernel_rfl
theorem laid : laidOutB Try.prog = true := by kernel_rfl
theorem dec3 {H : Type} {enc : TypeId × Value → H} {W : World} : ∀ row, Rd enc Try.prog W 3 row → ∃ x, isI x ∧ row = iV x := by
  intro row h
  obtain ⟨x, e, w⟩ := h.int Try.underlying3
  exact ⟨x, wf_i64 w, e⟩
theorem dec39 {H : Type} {enc : TypeId × Value → H} {W : World} : ∀ row, Rd enc Try.prog W 39 row → ∃ x, callOK x ∧ row = callV x := by
  intro row h
  have n : row.length = 12 := ((h.struct Try.underlying39).1).trans (by kernel_rfl)
  obtain ⟨x0, e0, w0⟩ := (h.field Try.underlying39 0 rfl).intAt Try.underlying3 (by kernel_rfl)
  have w0 := wf_i64 w0
  obtain ⟨x1, e1, w1⟩ := (h.field Try.underlying39 1 rfl).intAt Try.underlying3 (by kernel_rfl)
  have w1 := wf_i64 w1
  obtain ⟨x2, e2, w2⟩ := (h.field Try.underlying39 2 rfl).intAt Try.underlying3 (by kernel_rfl)
  have w2 := wf_i64 w2
  obtain ⟨x3, w3, e3⟩ := (h.field Try.underlying39 3 rfl).eight rfl Try.underlying29 Try.underlying22 (by kernel_rfl) (by kernel_rfl)
  have z3 : Try.prog.cellsOf 29 = 8 := by kernel_rfl
  have e3 : (row.drop 3).take (Try.prog.cellsOf 29) = x3.map (fun v => Value.int .u64 v) := e3
  rw [z3] at e3
  obtain ⟨x4, e4, w4⟩ := (h.field Try.underlying39 4 rfl).intAt Try.underlying22 (by kernel_rfl)
  have w4 := wf_u64 w4
  exact ⟨⟨⟨x0, x1, x2⟩, x3, x4⟩, ⟨w3, w4, w0, w1, w2⟩, call_eq n e0 e1 e2 e3 e4⟩
set_option maxRecDepth 100000 in
theorem lifted (os : Os) (started : os.Started) (H : Type) (enc : TypeId × Value → H) :
    ReturnsInHanded {} Try.checked os 5 .any (Go.Proofs.Ytomeldimnhapfaa.Rows.nvmPlaysSpec.pre6 enc Try.prog Try.f5 Go.Proofs.Ytomeldimnhapfaa.Rows.nvmPlaysRow.domain false) (Go.Proofs.Ytomeldimnhapfaa.Rows.nvmPlaysSpec.post enc Try.prog Try.f5 false true false false) := by
  refine returnsInHanded_of_change (C := Try.checked) own started (by kernel_rfl) Try.func5
    (ChangeSpec.witness6 (enc := enc) (C := Try.checked) false ⟨#[], #[.int .i64 0, .slice none 0 0, .slice none 0 0], []⟩ 8 (by kernel_rfl) (by kernel_rfl) (by kernel_rfl) (by kernel_rfl)) ?_
  intro W base args ds gs before hval0 hW hcnd _
  have hval : ∀ (j : Nat) t v, Try.f5.params[j]? = some t → args[j]? = some v → Value.okWide Try.prog W .any base t v := hval0
  have hW1 := hW
  obtain ⟨p, q, hA0, hV, rfl, hfz, hnd⟩ := hW
  have hA : DataW.TrodAll enc Try.prog W 0 (fun _ => true) true Try.f5.params.toList args.toList ds p := hA0
  have hA1 := hA
  rw [Try.params5] at hA hval
  obtain ⟨v0, vs0, d0, ds0, p0, q0, hargs, rfl, rfl, h0, r0⟩ := trodAll_cons hA
  obtain ⟨v1, vs1, d1, ds1, p1, q1, rfl, rfl, rfl, h1, r1⟩ := trodAll_cons r0
  obtain ⟨v2, vs2, d2, ds2, p2, q2, rfl, rfl, rfl, h2, r2⟩ := trodAll_cons r1
  obtain ⟨rfl, rfl, rfl⟩ := trodAll_nil r2
  obtain rfl : args = #[v0, v1, v2] := by cases args; simp_all
  obtain ⟨rfl, rfl⟩ := trodVars_none hV
  simp only [List.append_nil] at hW1
  obtain ⟨a0, rfl⟩ := okWide_int Try.underlying3 (hval 0 3 v0 rfl rfl)
  obtain ⟨a00, e0, w0⟩ := (Rd.of h0).int Try.underlying3
  obtain rfl : a0 = a00 := by simpa [Value.cells] using e0
  obtain ⟨x1a, x1n, x1c, rfl⟩ := okWide_slice Try.underlying25 (hval 1 25 v1 rfl rfl)
  obtain ⟨s1, b1, w1⟩ := (Rd.of h1).sliceS Try.underlying25 (Nat.le_of_ble_eq_true (by kernel_rfl))
  have g1 : VRel (stE W) s1.val (.slice x1a x1n x1c) := b1 ▸ absC_rel W _
  obtain ⟨l1, rr1, oo1⟩ := rows_of (f := iV) (ok := isI) (z := 1) (by omega) (by kernel_rfl) (fun _ => rfl) dec3 w1
  obtain ⟨x2a, x2n, x2c, rfl⟩ := okWide_slice Try.underlying36 (hval 2 36 v2 rfl rfl)
  obtain ⟨s2, b2, w2⟩ := (Rd.of h2).sliceS Try.underlying36 (Nat.le_of_ble_eq_true (by kernel_rfl))
  have g2 : VRel (stE W) s2.val (.slice x2a x2n x2c) := b2 ▸ absC_rel W _
  obtain ⟨l2, rr2, oo2⟩ := rows_of (f := callV) (ok := callOK) (z := 12) (by omega) (by kernel_rfl) callV_flat dec39 w2
  have hlt := hW1.lt
  refine (law_calls (.cons0 (.int _ _) <| .cons0 g1 <| .cons0 g2 <| .nil0) (by first | exact darninglaw5_NvmPlays.t | exact darninglaw5_NvmPlays.t w0 rr1 oo1 (by have hw := w1.2.1; rw [rr1.1] at hw; exact hw) rr2 oo2 (by have hw := w2.2.1; rw [rr2.1] at hw; exact hw))).mono fun e W1 he => ?_
  obtain ⟨he, bel, fz⟩ := he
  subst he
  exact ⟨_, rfl, post_of_same (pv := []) hW1 (fun _ _ _ => trodAll_mk1 (shut_bool Try.underlying4 _)) (fun sp hsp => args_stay laid bel (by kernel_rfl) hA1 (by simpa using hlt) (by simpa using hsp)) (fun _ _ => rfl) (by simp)
    (bel.frame _) fz (ok_one (by kernel_rfl) rfl (okWide_bool_mk Try.underlying4 _))⟩
theorem over : Go.Proofs.Ytomeldimnhapfaa.Rows.nvmPlaysRow.holds Go.Proofs.Ytomeldimnhapfaa.Try.pinned (OpenSpec.ofChange Go.Proofs.Ytomeldimnhapfaa.Rows.nvmPlaysSpec) :=
  OpenClaim.holds_of_wide 5 Try.f5 rfl rfl rfl rfl rfl rfl rfl ⟨rfl, rfl, rfl, rfl, rfl⟩ rfl rfl rfl rfl rfl (by kernel_rfl) Try.func5 (by kernel_rfl)
    (of_decide_eq_true (by kernel_rfl)) (by unfold Func.isWrapper; first | (rw [if_pos (by decide +kernel)]; kernel_rfl) | (rw [if_neg (by decide +kernel)]; exact ⟨rfl, rfl⟩))
    (fun os started H enc _ => lifted os started H enc)
/-- THE STATEMENT. -/
theorem proved : Go.Proofs.Ytomeldimnhapfaa.Rows.NvmPlaysSaid := over
end Go.Proofs.Ytomeldimnhapfaa.nvmPlays
#print axioms Go.Proofs.Ytomeldimnhapfaa.nvmPlays.proved
