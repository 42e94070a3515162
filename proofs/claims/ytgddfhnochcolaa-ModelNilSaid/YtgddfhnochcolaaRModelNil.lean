import Derived.Test.YtgddfhnochcolaaAbsTwo
import Derived.Test.YtgddfhnochcolaaE12
import Derived.Test.YtgddfhnochcolaaRows
import Derived.WalkKit
import Derived.ProofKit
import Derived.OpenShut
set_option linter.all false
/-
  PROVED: for every input the law ModelNil returns true, and each argument reads as it did. No condition beyond the given row's own.
-/
namespace Go.Proofs.Ytgddfhnochcolaa.modelNil
open Go Go.Abs Go.ChangeShapes Go.WideShapes Go.ChangeAt Go.RowKit
set_option linter.unusedVariables false
theorem own : ownKnob Try.prog.godebug = none := by kernel_rfl
theorem laid : laidOutB Try.prog = true := by kernel_rfl
set_option maxRecDepth 100000 in
theorem lifted (os : Os) (started : os.Started) (H : Type) (enc : TypeId × Value → H) :
    ReturnsInHanded {} Try.checked os 6 .any (Go.Proofs.Ytgddfhnochcolaa.Rows.modelNilSpec.pre6 enc Try.prog Try.f6 Go.Proofs.Ytgddfhnochcolaa.Rows.modelNilRow.domain false) (Go.Proofs.Ytgddfhnochcolaa.Rows.modelNilSpec.post enc Try.prog Try.f6 false true false false) := by
  refine returnsInHanded_of_change_sized (C := Try.checked) own started (by kernel_rfl) Try.func6
    (ChangeSpec.witness6 (enc := enc) (C := Try.checked) false ⟨#[], #[.agg #[.int .i64 0, .int .i64 0, .int .i64 0, .slice none 0 0]], []⟩ 8 (by kernel_rfl) (by kernel_rfl) (by kernel_rfl) (by kernel_rfl)) ?_
  intro W base args ds gs before hval0 hW hcnd hsz _
  have hval : ∀ (j : Nat) t v, Try.f6.params[j]? = some t → args[j]? = some v → Value.okWide Try.prog W .any base t v := hval0
  have hW1 := hW
  obtain ⟨p, q, hA0, hV, rfl, hfz, hnd⟩ := hW
  have hA : DataW.TrodAll enc Try.prog W 0 (fun _ => true) true Try.f6.params.toList args.toList ds p := hA0
  have hA1 := hA
  rw [Try.params6] at hA hval
  obtain ⟨v0, vs0, d0, ds0, p0, q0, hargs, rfl, rfl, h0, r0⟩ := trodAll_cons hA
  obtain ⟨rfl, rfl, rfl⟩ := trodAll_nil r0
  obtain rfl : args = #[v0] := by cases args; simp_all
  obtain ⟨rfl, rfl⟩ := trodVars_none hV
  simp only [List.append_nil] at hW1
  obtain ⟨c0, rfl⟩ := okWide_agg Try.underlying50 (hval 0 50 v0 rfl rfl)
  have rd0 := Rd.of h0
  have n0 : c0.toList.length = 4 := ((rd0.struct Try.underlying50).1).trans (by kernel_rfl)
  obtain ⟨x0_0, e0_0, w0_0⟩ := (rd0.field Try.underlying50 0 rfl).intAt Try.underlying3 (by kernel_rfl)
  obtain ⟨x0_1, e0_1, w0_1⟩ := (rd0.field Try.underlying50 1 rfl).intAt Try.underlying3 (by kernel_rfl)
  obtain ⟨x0_2, e0_2, w0_2⟩ := (rd0.field Try.underlying50 2 rfl).intAt Try.underlying3 (by kernel_rfl)
  obtain ⟨x0_3v, x0_3, e0_3, b0_3, w0_3⟩ := (rd0.field Try.underlying50 3 rfl).sliceAt Try.underlying37 (Nat.le_of_ble_eq_true (by kernel_rfl)) (by kernel_rfl)
  have l0 : c0.toList = [Value.int .i64 x0_0, Value.int .i64 x0_1, Value.int .i64 x0_2, x0_3v] := by
    apply List.ext_getElem?
    intro i
    match i with
    | 0 => exact e0_0
    | 1 => exact e0_1
    | 2 => exact e0_2
    | 3 => exact e0_3
    | i + 4 => rw [List.getElem?_eq_none (by omega), List.getElem?_eq_none (by simp)]
  have g0 : VRel (stE W) (.agg (List.toArray [Value.int .i64 x0_0, Value.int .i64 x0_1, Value.int .i64 x0_2, (Sl.val x0_3)])) (.agg c0) := by
    have := absAgg_rel W c0
    rw [l0] at this
    simpa [b0_3] using this
  have hlt := hW1.lt
  refine (law_calls (.cons0 g0 <| .nil0) (by first | exact darninglaw20_ModelNil.t | exact darninglaw20_ModelNil.t w0_0 w0_1 w0_2 w0_3)).mono fun e W1 he => ?_
  obtain ⟨he, bel, fz⟩ := he
  subst he
  exact ⟨_, rfl, post_of_same (pv := []) hW1 (fun _ _ _ => trodAll_mk1 (shut_bool Try.underlying4 _)) (fun sp hsp => args_stay laid bel (by kernel_rfl) hA1 (by simpa using hlt) (by simpa using hsp)) (fun _ _ => rfl) (by simp)
    (bel.frame _) fz (ok_one (by kernel_rfl) rfl (okWide_bool_mk Try.underlying4 _))⟩
theorem over : Go.Proofs.Ytgddfhnochcolaa.Rows.modelNilRow.holds Go.Proofs.Ytgddfhnochcolaa.Try.pinned (OpenSpec.ofChange Go.Proofs.Ytgddfhnochcolaa.Rows.modelNilSpec) :=
  OpenClaim.holds_of_wide 6 Try.f6 rfl rfl rfl rfl rfl rfl rfl ⟨rfl, rfl, rfl, rfl, rfl⟩ rfl rfl rfl rfl rfl (by kernel_rfl) Try.func6 (by kernel_rfl)
    (of_decide_eq_true (by kernel_rfl)) (by unfold Func.isWrapper; first | (rw [if_pos (by decide +kernel)]; kernel_rfl) | (rw [if_neg (by decide +kernel)]; exact ⟨rfl, rfl⟩))
    (fun os started H enc _ => lifted os started H enc)
/-- THE STATEMENT. -/
theorem proved : Go.Proofs.Ytgddfhnochcolaa.Rows.ModelNilSaid := over
end Go.Proofs.Ytgddfhnochcolaa.modelNil
#print axioms Go.Proofs.Ytgddfhnochcolaa.modelNil.proved
