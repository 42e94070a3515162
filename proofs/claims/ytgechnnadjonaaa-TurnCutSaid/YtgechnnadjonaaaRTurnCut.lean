import Derived.Test.YtgechnnadjonaaaAbsTwo
import Derived.Test.YtgechnnadjonaaaT6
import Derived.Test.YtgechnnadjonaaaRows
import Derived.WalkKit
import Derived.ProofKit
import Derived.OpenShut
set_option linter.all false
/-
  PROVED: for every input the law TurnCut returns true, and each argument reads as it did. No condition beyond the given row's own.
-/
namespace Go.Proofs.Ytgechnnadjonaaa.turnCut
open Go Go.Abs Go.ChangeShapes Go.WideShapes Go.ChangeAt Go.RowKit
set_option linter.unusedVariables false
theorem own : ownKnob Try.prog.godebug = none := by kernel_rfl
theorem laid : laidOutB Try.prog = true := by kernel_rfl
theorem dec3 {H : Type} {enc : TypeId × Value → H} {W : World} : ∀ row, Rd enc Try.prog W 3 row → ∃ x, isI x ∧ row = iV x := by
  intro row h
  obtain ⟨x, e, w⟩ := h.int Try.underlying3
  exact ⟨x, wf_i64 w, e⟩
theorem dec45 {H : Type} {enc : TypeId × Value → H} {W : World} : ∀ row, Rd enc Try.prog W 45 row → ∃ x, putOK x ∧ row = putV x := by
  intro row h
  have n : row.length = 9 := ((h.struct Try.underlying45).1).trans (by kernel_rfl)
  obtain ⟨x0, e0, w0⟩ := (h.field Try.underlying45 0 rfl).intAt Try.underlying3 (by kernel_rfl)
  have w0 := wf_i64 w0
  obtain ⟨x1, w1, e1⟩ := (h.field Try.underlying45 1 rfl).eight rfl Try.underlying33 Try.underlying24 (by kernel_rfl) (by kernel_rfl)
  have z1 : Try.prog.cellsOf 33 = 8 := by kernel_rfl
  have e1 : (row.drop 1).take (Try.prog.cellsOf 33) = x1.map (fun v => Value.int .u64 v) := e1
  rw [z1] at e1
  exact ⟨⟨x0, x1⟩, ⟨w0, w1⟩, put_eq n e0 e1⟩
set_option maxRecDepth 100000 in
theorem lifted (os : Os) (started : os.Started) (H : Type) (enc : TypeId × Value → H) :
    ReturnsInHanded {} Try.checked os 8 .any (Go.Proofs.Ytgechnnadjonaaa.Rows.turnCutSpec.pre6 enc Try.prog Try.f8 Go.Proofs.Ytgechnnadjonaaa.Rows.turnCutRow.domain false) (Go.Proofs.Ytgechnnadjonaaa.Rows.turnCutSpec.post enc Try.prog Try.f8 false true false false) := by
  refine returnsInHanded_of_change (C := Try.checked) own started (by kernel_rfl) Try.func8
    (ChangeSpec.witness6 (enc := enc) (C := Try.checked) false ⟨#[], #[.int .i64 0, .int .i64 0, .int .i64 0, .slice none 0 0, .slice none 0 0, .agg #[.int .i64 0, .int .u64 0, .int .u64 0, .int .u64 0, .int .u64 0, .int .u64 0, .int .u64 0, .int .u64 0, .int .u64 0], .int .i64 0, .int .i64 0], []⟩ 8 (by kernel_rfl) (by kernel_rfl) (by kernel_rfl) (by kernel_rfl)) ?_
  intro W base args ds gs before hval0 hW hcnd _
  have hval : ∀ (j : Nat) t v, Try.f8.params[j]? = some t → args[j]? = some v → Value.okWide Try.prog W .any base t v := hval0
  have hW1 := hW
  obtain ⟨p, q, hA0, hV, rfl, hfz, hnd⟩ := hW
  have hA : DataW.TrodAll enc Try.prog W 0 (fun _ => true) true Try.f8.params.toList args.toList ds p := hA0
  have hA1 := hA
  rw [Try.params8] at hA hval
  obtain ⟨v0, vs0, d0, ds0, p0, q0, hargs, rfl, rfl, h0, r0⟩ := trodAll_cons hA
  obtain ⟨v1, vs1, d1, ds1, p1, q1, rfl, rfl, rfl, h1, r1⟩ := trodAll_cons r0
  obtain ⟨v2, vs2, d2, ds2, p2, q2, rfl, rfl, rfl, h2, r2⟩ := trodAll_cons r1
  obtain ⟨v3, vs3, d3, ds3, p3, q3, rfl, rfl, rfl, h3, r3⟩ := trodAll_cons r2
  obtain ⟨v4, vs4, d4, ds4, p4, q4, rfl, rfl, rfl, h4, r4⟩ := trodAll_cons r3
  obtain ⟨v5, vs5, d5, ds5, p5, q5, rfl, rfl, rfl, h5, r5⟩ := trodAll_cons r4
  obtain ⟨v6, vs6, d6, ds6, p6, q6, rfl, rfl, rfl, h6, r6⟩ := trodAll_cons r5
  obtain ⟨v7, vs7, d7, ds7, p7, q7, rfl, rfl, rfl, h7, r7⟩ := trodAll_cons r6
  obtain ⟨rfl, rfl, rfl⟩ := trodAll_nil r7
  obtain rfl : args = #[v0, v1, v2, v3, v4, v5, v6, v7] := by cases args; simp_all
  obtain ⟨rfl, rfl⟩ := trodVars_none hV
  simp only [List.append_nil] at hW1
  obtain ⟨a0, rfl⟩ := okWide_int Try.underlying3 (hval 0 3 v0 rfl rfl)
  obtain ⟨a00, e0, w0⟩ := (Rd.of h0).int Try.underlying3
  obtain rfl : a0 = a00 := by simpa [Value.cells] using e0
  obtain ⟨a1, rfl⟩ := okWide_int Try.underlying3 (hval 1 3 v1 rfl rfl)
  obtain ⟨a10, e1, w1⟩ := (Rd.of h1).int Try.underlying3
  obtain rfl : a1 = a10 := by simpa [Value.cells] using e1
  obtain ⟨a2, rfl⟩ := okWide_int Try.underlying3 (hval 2 3 v2 rfl rfl)
  obtain ⟨a20, e2, w2⟩ := (Rd.of h2).int Try.underlying3
  obtain rfl : a2 = a20 := by simpa [Value.cells] using e2
  obtain ⟨x3a, x3n, x3c, rfl⟩ := okWide_slice Try.underlying22 (hval 3 22 v3 rfl rfl)
  obtain ⟨s3, b3, w3⟩ := (Rd.of h3).sliceS Try.underlying22 (Nat.le_of_ble_eq_true (by kernel_rfl))
  have g3 : VRel (stE W) s3.val (.slice x3a x3n x3c) := b3 ▸ absC_rel W _
  obtain ⟨l3, rr3, oo3⟩ := rows_of (f := iV) (ok := isI) (z := 1) (by omega) (by kernel_rfl) (fun _ => rfl) dec3 w3
  obtain ⟨x4a, x4n, x4c, rfl⟩ := okWide_slice Try.underlying43 (hval 4 43 v4 rfl rfl)
  obtain ⟨s4, b4, w4⟩ := (Rd.of h4).sliceS Try.underlying43 (Nat.le_of_ble_eq_true (by kernel_rfl))
  have g4 : VRel (stE W) s4.val (.slice x4a x4n x4c) := b4 ▸ absC_rel W _
  obtain ⟨l4, rr4, oo4⟩ := rows_of (f := putV) (ok := putOK) (z := 9) (by omega) (by kernel_rfl) putV_flat dec45 w4
  obtain ⟨c5, rfl⟩ := okWide_agg Try.underlying45 (hval 5 45 v5 rfl rfl)
  obtain ⟨l5, kk5, qq5⟩ := dec45 _ (Rd.of h5)
  have g5 : VRel (stE W) (.agg (List.toArray (putV l5))) (.agg c5) := by
    have hh := absAgg_rel W c5
    rw [show c5.toList = putV l5 from qq5, absC_flats W (putV_flat l5)] at hh
    exact hh
  obtain ⟨a6, rfl⟩ := okWide_int Try.underlying3 (hval 6 3 v6 rfl rfl)
  obtain ⟨a60, e6, w6⟩ := (Rd.of h6).int Try.underlying3
  obtain rfl : a6 = a60 := by simpa [Value.cells] using e6
  obtain ⟨a7, rfl⟩ := okWide_int Try.underlying3 (hval 7 3 v7 rfl rfl)
  obtain ⟨a70, e7, w7⟩ := (Rd.of h7).int Try.underlying3
  obtain rfl : a7 = a70 := by simpa [Value.cells] using e7
  have hlt := hW1.lt
  refine (law_calls (.cons0 (.int _ _) <| .cons0 (.int _ _) <| .cons0 (.int _ _) <| .cons0 g3 <| .cons0 g4 <| .cons0 g5 <| .cons0 (.int _ _) <| .cons0 (.int _ _) <| .nil0) (by first | exact darninglaw9_TurnCut.t | exact darninglaw9_TurnCut.t w0 w1 w2 rr3 oo3 (by have hw := w3.2.1; rw [rr3.1] at hw; exact hw) rr4 oo4 (by have hw := w4.2.1; rw [rr4.1] at hw; exact hw) kk5 w6 w7)).mono fun e W1 he => ?_
  obtain ⟨he, bel, fz⟩ := he
  subst he
  exact ⟨_, rfl, post_of_same (pv := []) hW1 (fun _ _ _ => trodAll_mk1 (shut_bool Try.underlying4 _)) (fun sp hsp => args_stay laid bel (by kernel_rfl) hA1 (by simpa using hlt) (by simpa using hsp)) (fun _ _ => rfl) (by simp)
    (bel.frame _) fz (ok_one (by kernel_rfl) rfl (okWide_bool_mk Try.underlying4 _))⟩
theorem over : Go.Proofs.Ytgechnnadjonaaa.Rows.turnCutRow.holds Go.Proofs.Ytgechnnadjonaaa.Try.pinned (OpenSpec.ofChange Go.Proofs.Ytgechnnadjonaaa.Rows.turnCutSpec) :=
  OpenClaim.holds_of_wide 8 Try.f8 rfl rfl rfl rfl rfl rfl rfl ⟨rfl, rfl, rfl, rfl, rfl⟩ rfl rfl rfl rfl rfl (by kernel_rfl) Try.func8 (by kernel_rfl)
    (of_decide_eq_true (by kernel_rfl)) (by unfold Func.isWrapper; first | (rw [if_pos (by decide +kernel)]; kernel_rfl) | (rw [if_neg (by decide +kernel)]; exact ⟨rfl, rfl⟩))
    (fun os started H enc _ => lifted os started H enc)
/-- THE STATEMENT. -/
theorem proved : Go.Proofs.Ytgechnnadjonaaa.Rows.TurnCutSaid := over
end Go.Proofs.Ytgechnnadjonaaa.turnCut
#print axioms Go.Proofs.Ytgechnnadjonaaa.turnCut.proved
