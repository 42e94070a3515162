import Derived.Test.YtomeldimnhapfaaAbsTwo
import Derived.Test.YtomeldimnhapfaaL8
import Derived.Test.YtomeldimnhapfaaRows
import Derived.WalkKit
import Derived.ProofKit
import Derived.OpenShut
set_option linter.all false
/-
  PROVED: for every input the law LinesDead returns true, and each argument reads as it did. No condition beyond the given row's own.
-/
namespace Go.Proofs.Ytomeldimnhapfaa.linesDead
open Go Go.Abs Go.ChangeShapes Go.WideShapes Go.ChangeAt Go.RowKit
set_option linter.unusedVariables false
theorem own : ownKnob Try.prog.godebug = none := by kernel_rfl
theorem laid : laidOutB Try.prog = true := by kernel_rfl
theorem dec4 {H : Type} {enc : TypeId × Value → H} {W : World} : ∀ row, Rd enc Try.prog W 4 row → ∃ x, isT x ∧ row = bV x := by
  intro row h
  obtain ⟨x, e⟩ := h.bool Try.underlying4
  exact ⟨x, trivial, e⟩
set_option maxRecDepth 100000 in
theorem lifted (os : Os) (started : os.Started) (H : Type) (enc : TypeId × Value → H) :
    ReturnsInHanded {} Try.checked os 12 .any (Go.Proofs.Ytomeldimnhapfaa.Rows.linesDeadSpec.pre6 enc Try.prog Try.f12 Go.Proofs.Ytomeldimnhapfaa.Rows.linesDeadRow.domain false) (Go.Proofs.Ytomeldimnhapfaa.Rows.linesDeadSpec.post enc Try.prog Try.f12 false true false false) := by
  refine returnsInHanded_of_change (C := Try.checked) own started (by kernel_rfl) Try.func12
    (ChangeSpec.witness6 (enc := enc) (C := Try.checked) false ⟨#[], #[.slice none 0 0, .int .u64 0], []⟩ 8 (by kernel_rfl) (by kernel_rfl) (by kernel_rfl) (by kernel_rfl)) ?_
  intro W base args ds gs before hval0 hW hcnd _
  have hval : ∀ (j : Nat) t v, Try.f12.params[j]? = some t → args[j]? = some v → Value.okWide Try.prog W .any base t v := hval0
  have hW1 := hW
  obtain ⟨p, q, hA0, hV, rfl, hfz, hnd⟩ := hW
  have hA : DataW.TrodAll enc Try.prog W 0 (fun _ => true) true Try.f12.params.toList args.toList ds p := hA0
  have hA1 := hA
  rw [Try.params12] at hA hval
  obtain ⟨v0, vs0, d0, ds0, p0, q0, hargs, rfl, rfl, h0, r0⟩ := trodAll_cons hA
  obtain ⟨v1, vs1, d1, ds1, p1, q1, rfl, rfl, rfl, h1, r1⟩ := trodAll_cons r0
  obtain ⟨rfl, rfl, rfl⟩ := trodAll_nil r1
  obtain rfl : args = #[v0, v1] := by cases args; simp_all
  obtain ⟨rfl, rfl⟩ := trodVars_none hV
  simp only [List.append_nil] at hW1
  obtain ⟨x0a, x0n, x0c, rfl⟩ := okWide_slice Try.underlying65 (hval 0 65 v0 rfl rfl)
  obtain ⟨s0, b0, w0⟩ := (Rd.of h0).sliceS Try.underlying65 (Nat.le_of_ble_eq_true (by kernel_rfl))
  have g0 : VRel (stE W) s0.val (.slice x0a x0n x0c) := b0 ▸ absC_rel W _
  obtain ⟨l0, rr0, oo0⟩ := rows_of (f := bV) (ok := isT) (z := 1) (by omega) (by kernel_rfl) (fun _ => rfl) dec4 w0
  obtain ⟨a1, rfl⟩ := okWide_int Try.underlying22 (hval 1 22 v1 rfl rfl)
  obtain ⟨a10, e1, w1⟩ := (Rd.of h1).int Try.underlying22
  obtain rfl : a1 = a10 := by simpa [Value.cells] using e1
  have hlt := hW1.lt
  refine (law_calls (.cons0 g0 <| .cons0 (.int _ _) <| .nil0) (by first | exact darninglaw7_LinesDead.t | exact darninglaw7_LinesDead.t rr0 oo0 (by have hw := w0.2.1; rw [rr0.1] at hw; exact hw) w1)).mono fun e W1 he => ?_
  obtain ⟨he, bel, fz⟩ := he
  subst he
  exact ⟨_, rfl, post_of_same (pv := []) hW1 (fun _ _ _ => trodAll_mk1 (shut_bool Try.underlying4 _)) (fun sp hsp => args_stay laid bel (by kernel_rfl) hA1 (by simpa using hlt) (by simpa using hsp)) (fun _ _ => rfl) (by simp)
    (bel.frame _) fz (ok_one (by kernel_rfl) rfl (okWide_bool_mk Try.underlying4 _))⟩
theorem over : Go.Proofs.Ytomeldimnhapfaa.Rows.linesDeadRow.holds Go.Proofs.Ytomeldimnhapfaa.Try.pinned (OpenSpec.ofChange Go.Proofs.Ytomeldimnhapfaa.Rows.linesDeadSpec) :=
  OpenClaim.holds_of_wide 12 Try.f12 rfl rfl rfl rfl rfl rfl rfl ⟨rfl, rfl, rfl, rfl, rfl⟩ rfl rfl rfl rfl rfl (by kernel_rfl) Try.func12 (by kernel_rfl)
    (of_decide_eq_true (by kernel_rfl)) (by unfold Func.isWrapper; first | (rw [if_pos (by decide +kernel)]; kernel_rfl) | (rw [if_neg (by decide +kernel)]; exact ⟨rfl, rfl⟩))
    (fun os started H enc _ => lifted os started H enc)
/-- THE STATEMENT. -/
theorem proved : Go.Proofs.Ytomeldimnhapfaa.Rows.LinesDeadSaid := over
end Go.Proofs.Ytomeldimnhapfaa.linesDead
#print axioms Go.Proofs.Ytomeldimnhapfaa.linesDead.proved
