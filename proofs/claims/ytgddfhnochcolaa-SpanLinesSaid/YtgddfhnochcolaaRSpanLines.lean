import Derived.Test.YtgddfhnochcolaaAbsTwo
import Derived.Test.YtgddfhnochcolaaQ3
import Derived.Test.YtgddfhnochcolaaRows
import Derived.WalkKit
import Derived.ProofKit
import Derived.OpenShut
set_option linter.all false
/-
  PROVED: for every input the law SpanLines returns true, and each argument reads as it did. No condition beyond the given row's own.
-/
namespace Go.Proofs.Ytgddfhnochcolaa.spanLines
open Go Go.Abs Go.ChangeShapes Go.WideShapes Go.ChangeAt Go.RowKit
set_option linter.unusedVariables false
theorem own : ownKnob Try.prog.godebug = none := by kernel_rfl
theorem laid : laidOutB Try.prog = true := by kernel_rfl
theorem dec27 {H : Type} {enc : TypeId × Value → H} {W : World} : ∀ row, Rd enc Try.prog W 27 row → ∃ x, isU x ∧ row = wU x := by
  intro row h
  obtain ⟨x, e, w⟩ := h.int Try.underlying27
  exact ⟨x, wf_u64 w, e⟩
theorem dec117 {H : Type} {enc : TypeId × Value → H} {W : World} : ∀ row, Rd enc Try.prog W 117 row → ∃ x, edOK (stH W) x ∧ row.map (absC W) = eU x := by
  intro row h
  have n : row.length = 2 := ((h.struct Try.underlying117).1).trans (by kernel_rfl)
  obtain ⟨x0, e0, w0⟩ := (h.field Try.underlying117 0 rfl).intAt Try.underlying3 (by kernel_rfl)
  have w0 := wf_i64 w0
  obtain ⟨x1, e1, w1⟩ := (h.field Try.underlying117 1 rfl).intAt Try.underlying27 (by kernel_rfl)
  have w1 := wf_u64 w1
  have L : row = [Value.int .i64 x0, Value.int .u64 x1] := by
    apply List.ext_getElem?
    intro i
    match i with
    | 0 => exact e0
    | 1 => exact e1
    | i + 2 => rw [List.getElem?_eq_none (by omega), List.getElem?_eq_none (by simp)]
  refine ⟨(x0, x1), ⟨w0, w1⟩, ?_⟩
  rw [L]
  simp only [List.map_cons, List.map_nil, absC_flat W (show flatC (Value.int .i64 x0) = true from rfl), absC_flat W (show flatC (Value.int .u64 x1) = true from rfl)]
  rfl
set_option maxRecDepth 100000 in
theorem lifted (os : Os) (started : os.Started) (H : Type) (enc : TypeId × Value → H) :
    ReturnsInHanded {} Try.checked os 13 .any (Go.Proofs.Ytgddfhnochcolaa.Rows.spanLinesSpec.pre6 enc Try.prog Try.f13 Go.Proofs.Ytgddfhnochcolaa.Rows.spanLinesRow.domain false) (Go.Proofs.Ytgddfhnochcolaa.Rows.spanLinesSpec.post enc Try.prog Try.f13 false true false false) := by
  refine returnsInHanded_of_change_sized (C := Try.checked) own started (by kernel_rfl) Try.func13
    (ChangeSpec.witness6 (enc := enc) (C := Try.checked) false ⟨#[], #[.slice none 0 0, .slice none 0 0], []⟩ 8 (by kernel_rfl) (by kernel_rfl) (by kernel_rfl) (by kernel_rfl)) ?_
  intro W base args ds gs before hval0 hW hcnd hsz _
  have hval : ∀ (j : Nat) t v, Try.f13.params[j]? = some t → args[j]? = some v → Value.okWide Try.prog W .any base t v := hval0
  have hW1 := hW
  obtain ⟨p, q, hA0, hV, rfl, hfz, hnd⟩ := hW
  have hA : DataW.TrodAll enc Try.prog W 0 (fun _ => true) true Try.f13.params.toList args.toList ds p := hA0
  have hA1 := hA
  rw [Try.params13] at hA hval
  obtain ⟨v0, vs0, d0, ds0, p0, q0, hargs, rfl, rfl, h0, r0⟩ := trodAll_cons hA
  obtain ⟨v1, vs1, d1, ds1, p1, q1, rfl, rfl, rfl, h1, r1⟩ := trodAll_cons r0
  obtain ⟨rfl, rfl, rfl⟩ := trodAll_nil r1
  obtain rfl : args = #[v0, v1] := by cases args; simp_all
  obtain ⟨rfl, rfl⟩ := trodVars_none hV
  simp only [List.append_nil] at hW1
  obtain ⟨x0a, x0n, x0c, rfl⟩ := okWide_slice Try.underlying67 (hval 0 67 v0 rfl rfl)
  obtain ⟨s0, b0, w0⟩ := (Rd.of h0).sliceS Try.underlying67 (Nat.le_of_ble_eq_true (by kernel_rfl))
  have g0 : VRel (stE W) s0.val (.slice x0a x0n x0c) := b0 ▸ absC_rel W _
  obtain ⟨l0, rr0, oo0⟩ := rows_of (f := wU) (ok := isU) (z := 1) (by omega) (by kernel_rfl) (fun _ => rfl) dec27 w0
  have zz0 : x0n * 8 ≤ reachBytes := by
    have hb : Try.prog.bytesOf 27 = 8 := by kernel_rfl
    rw [← hb]
    exact slice_fits (P := Try.prog) hsz (j := 0) (t := 67) (e := 27) (by kernel_rfl) rfl Try.underlying67 h0
  obtain ⟨x1a, x1n, x1c, rfl⟩ := okWide_slice Try.underlying74 (hval 1 74 v1 rfl rfl)
  obtain ⟨s1, b1, w1⟩ := (Rd.of h1).sliceS Try.underlying74 (Nat.le_of_ble_eq_true (by kernel_rfl))
  have g1 : VRel (stE W) s1.val (.slice x1a x1n x1c) := b1 ▸ absC_rel W _
  obtain ⟨l1, rr1, oo1⟩ := rows_of' (f := eU) (ok := edOK (stH W)) (z := 2) (by omega) (by kernel_rfl) (fun _ => rfl) dec117 w1
  have zz1 : x1n * 16 ≤ reachBytes := by
    have hb : Try.prog.bytesOf 117 = 16 := by kernel_rfl
    rw [← hb]
    exact slice_fits (P := Try.prog) hsz (j := 1) (t := 74) (e := 117) (by kernel_rfl) rfl Try.underlying74 h1
  have hlt := hW1.lt
  refine (law_calls (.cons0 g0 <| .cons0 g1 <| .nil0) (by first | exact darninglaw18_SpanLines.t | exact darninglaw18_SpanLines.t rr0 oo0 (by first | (have hw := w0.2.1; rw [rr0.1] at hw; exact hw) | (have hw := zz0; rw [← absC_len b0, rr0.1] at hw; exact hw)) rr1 oo1 (by first | (have hw := w1.2.1; rw [rr1.1] at hw; exact hw) | (have hw := zz1; rw [← absC_len b1, rr1.1] at hw; exact hw)))).mono fun e W1 he => ?_
  obtain ⟨he, bel, fz⟩ := he
  subst he
  exact ⟨_, rfl, post_same (pv := []) hW1 (fun _ _ _ => trodAll_mk1 (shut_bool Try.underlying4 _)) (fun sp hsp => args_stay laid bel (by kernel_rfl) hA1 (by simpa using hlt) (by simpa using hsp)) (fun _ _ => rfl) (by simp)
    (bel.frame _) fz (ok_one (by kernel_rfl) rfl (okWide_bool_mk Try.underlying4 _))⟩
theorem over : Go.Proofs.Ytgddfhnochcolaa.Rows.spanLinesRow.holds Go.Proofs.Ytgddfhnochcolaa.Try.pinned (OpenSpec.ofChange Go.Proofs.Ytgddfhnochcolaa.Rows.spanLinesSpec) :=
  OpenClaim.holds_of_wide 13 Try.f13 rfl rfl rfl rfl rfl rfl rfl ⟨rfl, rfl, rfl, rfl, rfl⟩ rfl rfl rfl rfl rfl (by kernel_rfl) Try.func13 (by kernel_rfl)
    (of_decide_eq_true (by kernel_rfl)) (by unfold Func.isWrapper; first | (rw [if_pos (by decide +kernel)]; kernel_rfl) | (rw [if_neg (by decide +kernel)]; exact ⟨rfl, rfl⟩))
    (fun os started H enc _ => lifted os started H enc)
/-- THE STATEMENT. -/
theorem proved : Go.Proofs.Ytgddfhnochcolaa.Rows.SpanLinesSaid := over
end Go.Proofs.Ytgddfhnochcolaa.spanLines
#print axioms Go.Proofs.Ytgddfhnochcolaa.spanLines.proved
