/-
  PROVED: for every input the law CostForms returns true, and each argument reads as it did. No condition beyond the given row's own.
-/
import Derived.Test.YtmbipadfcbndgaaAbsRd
import Derived.Test.YtmbipadfcbndgaaAbsRe
import Derived.Test.YtmbipadfcbndgaaC2
import Derived.Test.YtmbipadfcbndgaaRows
import Derived.WalkKit
import Derived.ProofKit
import Derived.OpenShut
set_option linter.all false
namespace Go.Proofs.Ytmbipadfcbndgaa.costForms
open Go Go.Abs Go.ChangeShapes Go.WideShapes Go.ChangeAt Go.RowKit
set_option linter.unusedVariables false
theorem own : ownKnob Try.prog.godebug = none := by kernel_rfl
theorem laid : laidOutB Try.prog = true := by kernel_rfl
set_option maxRecDepth 100000 in
theorem lifted (os : Os) (started : os.Started) (H : Type) (enc : TypeId × Value → H) :
    ReturnsInHanded {} Try.checked os 8 .any (Go.Proofs.Ytmbipadfcbndgaa.Rows.costFormsSpec.pre6 enc Try.prog Try.f8 Go.Proofs.Ytmbipadfcbndgaa.Rows.costFormsRow.domain false) (Go.Proofs.Ytmbipadfcbndgaa.Rows.costFormsSpec.post enc Try.prog Try.f8 false true false false) := by
  refine returnsInHanded_of_change (C := Try.checked) own started (by kernel_rfl) Try.func8
    (ChangeSpec.witness6 (enc := enc) (C := Try.checked) false ⟨#[], #[.agg #[.int .i64 0, .int .i64 0, .int .i64 0, .int .i64 0, .slice none 0 0], .int .i64 0, .agg #[.int .i64 0, .int .i64 0, .int .i64 0, .int .i64 0]], []⟩ 8 (by kernel_rfl) (by kernel_rfl) (by kernel_rfl) (by kernel_rfl)) ?_
  intro W base args ds gs before hval0 hW hcnd _
  have hval : ∀ (j : Nat) t v, Try.f8.params[j]? = some t → args[j]? = some v → Value.okWide Try.prog W .any base t v := hval0
  have hW1 := hW
  obtain ⟨p, q, hA0, hV, rfl, hfz, hnd⟩ := hW
  have hA : DataW.TrodAll enc Try.prog W 0 (fun _ => true) true Try.f8.params.toList args.toList ds p := hA0
  have hA1 := hA
  rw [Try.params8] at hA hval
  obtain ⟨v0, vs0, d0, ds0, p0, q0, hargs, rfl, rfl, h0, r0⟩ := trodAll_cons hA
  obtain ⟨v1, vs1, d1, ds1, p1, q1, rfl, rfl, rfl, h1, r1⟩ := trodAll_cons r0
  obtain ⟨v2, vs2, d2, ds2, p2, q2, rfl, rfl, rfl, h2, r2⟩ := trodAll_cons r1
  obtain ⟨rfl, rfl, rfl⟩ := trodAll_nil r2
  obtain rfl : args = #[v0, v1, v2] := by cases args; simp_all
  obtain ⟨rfl, rfl⟩ := trodVars_none hV
  simp only [List.append_nil] at hW1
  obtain ⟨c0, rfl⟩ := okWide_agg Try.underlying40 (hval 0 40 v0 rfl rfl)
  have rd0 := Rd.of h0
  have n0 : c0.toList.length = 5 := ((rd0.struct Try.underlying40).1).trans (by kernel_rfl)
  obtain ⟨x0_0, e0_0, w0_0⟩ := (rd0.field Try.underlying40 0 rfl).intAt Try.underlying3 (by kernel_rfl)
  obtain ⟨x0_1, e0_1, w0_1⟩ := (rd0.field Try.underlying40 1 rfl).intAt Try.underlying3 (by kernel_rfl)
  obtain ⟨x0_2, e0_2, w0_2⟩ := (rd0.field Try.underlying40 2 rfl).intAt Try.underlying3 (by kernel_rfl)
  obtain ⟨x0_3, e0_3, w0_3⟩ := (rd0.field Try.underlying40 3 rfl).intAt Try.underlying3 (by kernel_rfl)
  obtain ⟨x0_4v, x0_4, e0_4, b0_4, w0_4⟩ := (rd0.field Try.underlying40 4 rfl).sliceAt Try.underlying38 (Nat.le_of_ble_eq_true (by kernel_rfl)) (by kernel_rfl)
  have l0 : c0.toList = [Value.int .i64 x0_0, Value.int .i64 x0_1, Value.int .i64 x0_2, Value.int .i64 x0_3, x0_4v] := by
    apply List.ext_getElem?
    intro i
    match i with
    | 0 => exact e0_0
    | 1 => exact e0_1
    | 2 => exact e0_2
    | 3 => exact e0_3
    | 4 => exact e0_4
    | i + 5 => rw [List.getElem?_eq_none (by omega), List.getElem?_eq_none (by simp)]
  have g0 : VRel (stE W) (.agg (List.toArray [Value.int .i64 x0_0, Value.int .i64 x0_1, Value.int .i64 x0_2, Value.int .i64 x0_3, (Sl.val x0_4)])) (.agg c0) := by
    have := absAgg_rel W c0
    rw [l0] at this
    simpa [b0_4] using this
  obtain ⟨a1, rfl⟩ := okWide_int Try.underlying3 (hval 1 3 v1 rfl rfl)
  obtain ⟨a10, e1, w1⟩ := (Rd.of h1).int Try.underlying3
  obtain rfl : a1 = a10 := by simpa [Value.cells] using e1
  obtain ⟨c2, rfl⟩ := okWide_agg Try.underlying23 (hval 2 23 v2 rfl rfl)
  have rd2 := Rd.of h2
  have n2 : c2.toList.length = 4 := ((rd2.struct Try.underlying23).1).trans (by kernel_rfl)
  obtain ⟨x2_0, e2_0, w2_0⟩ := (rd2.field Try.underlying23 0 rfl).intAt Try.underlying3 (by kernel_rfl)
  obtain ⟨x2_1, e2_1, w2_1⟩ := (rd2.field Try.underlying23 1 rfl).intAt Try.underlying3 (by kernel_rfl)
  obtain ⟨x2_2, e2_2, w2_2⟩ := (rd2.field Try.underlying23 2 rfl).intAt Try.underlying3 (by kernel_rfl)
  obtain ⟨x2_3, e2_3, w2_3⟩ := (rd2.field Try.underlying23 3 rfl).intAt Try.underlying3 (by kernel_rfl)
  have l2 : c2.toList = [Value.int .i64 x2_0, Value.int .i64 x2_1, Value.int .i64 x2_2, Value.int .i64 x2_3] := by
    apply List.ext_getElem?
    intro i
    match i with
    | 0 => exact e2_0
    | 1 => exact e2_1
    | 2 => exact e2_2
    | 3 => exact e2_3
    | i + 4 => rw [List.getElem?_eq_none (by omega), List.getElem?_eq_none (by simp)]
  have g2 : VRel (stE W) (.agg (List.toArray [Value.int .i64 x2_0, Value.int .i64 x2_1, Value.int .i64 x2_2, Value.int .i64 x2_3])) (.agg c2) := by
    have := absAgg_rel W c2
    rw [l2] at this
    simpa using this
  have hlt := hW1.lt
  refine (law_calls (.cons0 g0 <| .cons0 (.int _ _) <| .cons0 g2 <| .nil0) (by first | exact darninglaw24_CostForms.t | exact darninglaw24_CostForms.t w0_0 w0_1 w0_2 w0_3 w0_4 w1 w2_0 w2_1 w2_2 w2_3)).mono fun e W1 he => ?_
  obtain ⟨he, bel, fz⟩ := he
  subst he
  exact ⟨_, rfl, post_of_same (pv := []) hW1 (fun _ _ _ => trodAll_mk1 (shut_bool Try.underlying4 _)) (fun sp hsp => args_stay laid bel (by kernel_rfl) hA1 (by simpa using hlt) (by simpa using hsp)) (fun _ _ => rfl) (by simp)
    (bel.frame _) fz (ok_one (by kernel_rfl) rfl (okWide_bool_mk Try.underlying4 _))⟩
theorem over : Go.Proofs.Ytmbipadfcbndgaa.Rows.costFormsRow.holds Go.Proofs.Ytmbipadfcbndgaa.Try.pinned (OpenSpec.ofChange Go.Proofs.Ytmbipadfcbndgaa.Rows.costFormsSpec) :=
  OpenClaim.holds_of_wide 8 Try.f8 rfl rfl rfl rfl rfl rfl rfl ⟨rfl, rfl, rfl, rfl, rfl⟩ rfl rfl rfl rfl rfl (by kernel_rfl) Try.func8 (by kernel_rfl)
    (of_decide_eq_true (by kernel_rfl)) (by unfold Func.isWrapper; first | (rw [if_pos (by decide +kernel)]; kernel_rfl) | (rw [if_neg (by decide +kernel)]; exact ⟨rfl, rfl⟩))
    (fun os started H enc _ => lifted os started H enc)
/-- THE STATEMENT. -/
theorem proved : Go.Proofs.Ytmbipadfcbndgaa.Rows.CostFormsSaid := over
end Go.Proofs.Ytmbipadfcbndgaa.costForms
#print axioms Go.Proofs.Ytmbipadfcbndgaa.costForms.proved
