import Derived.Test.YtgechnnadjonaaaAbsTwo
import Derived.Test.YtgechnnadjonaaaN21
import Derived.Test.YtgechnnadjonaaaRows
import Derived.WalkKit
import Derived.ProofKit
import Derived.OpenShut
set_option linter.all false
/-
  PROVED: for every input the law LogFound returns true, and each argument reads as it did. No condition beyond the given row's own.
-/
namespace Go.Proofs.Ytgechnnadjonaaa.logFound
open Go Go.Abs Go.ChangeShapes Go.WideShapes Go.ChangeAt Go.RowKit
set_option linter.unusedVariables false
theorem own : ownKnob Try.prog.godebug = none := by kernel_rfl
theorem laid : laidOutB Try.prog = true := by kernel_rfl
theorem dec62 {H : Type} {enc : TypeId × Value → H} {W : World} : ∀ row, Rd enc Try.prog W 62 row → ∃ x, putOK x ∧ row = putV x := by
  intro row h
  have n : row.length = 9 := ((h.struct Try.underlying62).1).trans (by kernel_rfl)
  obtain ⟨x0, e0, w0⟩ := (h.field Try.underlying62 0 rfl).intAt Try.underlying3 (by kernel_rfl)
  have w0 := wf_i64 w0
  obtain ⟨x1, w1, e1⟩ := (h.field Try.underlying62 1 rfl).eight rfl Try.underlying33 Try.underlying24 (by kernel_rfl) (by kernel_rfl)
  have z1 : Try.prog.cellsOf 33 = 8 := by kernel_rfl
  have e1 : (row.drop 1).take (Try.prog.cellsOf 33) = x1.map (fun v => Value.int .u64 v) := e1
  rw [z1] at e1
  exact ⟨⟨x0, x1⟩, ⟨w0, w1⟩, put_eq n e0 e1⟩
theorem dec58 {H : Type} {enc : TypeId × Value → H} {W : World} : ∀ row, Rd enc Try.prog W 58 row → ∃ x, SlOK putV putOK 9 (stH W) x ∧ row.map (absC W) = slV x := by
  intro row h
  obtain ⟨v, rfl⟩ : ∃ v, row = [v] := by
    rcases h.slice Try.underlying58 with h | ⟨a, n, c, h, _⟩ <;> exact ⟨_, h⟩
  obtain ⟨s, b, w⟩ := h.sliceS Try.underlying58 (Nat.le_of_ble_eq_true (by kernel_rfl))
  obtain ⟨l, rr, oo⟩ := rows_of (f := putV) (ok := putOK) (z := 9) (by omega) (by kernel_rfl) putV_flat dec62 w
  exact ⟨(s, l), ⟨rr, oo⟩, by simp [b, slV]⟩
set_option maxRecDepth 100000 in
theorem lifted (os : Os) (started : os.Started) (H : Type) (enc : TypeId × Value → H) :
    ReturnsInHanded {} Try.checked os 14 .any (Go.Proofs.Ytgechnnadjonaaa.Rows.logFoundSpec.pre6 enc Try.prog Try.f14 Go.Proofs.Ytgechnnadjonaaa.Rows.logFoundRow.domain false) (Go.Proofs.Ytgechnnadjonaaa.Rows.logFoundSpec.post enc Try.prog Try.f14 false true false false) := by
  refine returnsInHanded_of_change_sized (C := Try.checked) own started (by kernel_rfl) Try.func14
    (ChangeSpec.witness6 (enc := enc) (C := Try.checked) false ⟨#[], #[.int .i64 0, .int .i64 0, .int .i64 0, .slice none 0 0], []⟩ 8 (by kernel_rfl) (by kernel_rfl) (by kernel_rfl) (by kernel_rfl)) ?_
  intro W base args ds gs before hval0 hW hcnd hsz _
  have hval : ∀ (j : Nat) t v, Try.f14.params[j]? = some t → args[j]? = some v → Value.okWide Try.prog W .any base t v := hval0
  have hW1 := hW
  obtain ⟨p, q, hA0, hV, rfl, hfz, hnd⟩ := hW
  have hA : DataW.TrodAll enc Try.prog W 0 (fun _ => true) true Try.f14.params.toList args.toList ds p := hA0
  have hA1 := hA
  rw [Try.params14] at hA hval
  obtain ⟨v0, vs0, d0, ds0, p0, q0, hargs, rfl, rfl, h0, r0⟩ := trodAll_cons hA
  obtain ⟨v1, vs1, d1, ds1, p1, q1, rfl, rfl, rfl, h1, r1⟩ := trodAll_cons r0
  obtain ⟨v2, vs2, d2, ds2, p2, q2, rfl, rfl, rfl, h2, r2⟩ := trodAll_cons r1
  obtain ⟨v3, vs3, d3, ds3, p3, q3, rfl, rfl, rfl, h3, r3⟩ := trodAll_cons r2
  obtain ⟨rfl, rfl, rfl⟩ := trodAll_nil r3
  obtain rfl : args = #[v0, v1, v2, v3] := by cases args; simp_all
  obtain ⟨rfl, rfl⟩ := trodVars_none hV
  simp only [List.append_nil] at hW1
  obtain ⟨a0, rfl⟩ := okWide_int Try.underlying3 (hval 0 3 v0 rfl rfl)
  obtain ⟨a00, e0, w0⟩ := (Rd.of h0).int Try.underlying3
  obtain rfl : a0 = a00 := by simpa [Value.cells] using e0
  obtain ⟨a1, rfl⟩ := okWide_int Try.underlying3 (hval 1 3 v1 rfl rfl)
  obtain ⟨a10, e1, w1⟩ := (Rd.of h1).int Try.underlying3
  obtain rfl : a1 = a10 := by simpa [Value.cells] using e1
  obtain ⟨a2, rfl⟩ := okWide_int Try.underlying3 (hval 2 3 v2 rfl rfl)
  obtain ⟨a20, e2, w2⟩ := (Rd.of h2).int Try.underlying3
  obtain rfl : a2 = a20 := by simpa [Value.cells] using e2
  obtain ⟨x3a, x3n, x3c, rfl⟩ := okWide_slice Try.underlying51 (hval 3 51 v3 rfl rfl)
  obtain ⟨s3, b3, w3⟩ := (Rd.of h3).sliceS Try.underlying51 (Nat.le_of_ble_eq_true (by kernel_rfl))
  have g3 : VRel (stE W) s3.val (.slice x3a x3n x3c) := b3 ▸ absC_rel W _
  obtain ⟨l3, rr3, oo3⟩ := rows_of' (f := slV) (ok := SlOK putV putOK 9 (stH W)) (z := 1) (by omega) (by kernel_rfl) (fun _ => rfl) dec58 w3
  have zz3 : x3n * 24 ≤ reachBytes := by
    have hb : Try.prog.bytesOf 58 = 24 := by kernel_rfl
    rw [← hb]
    exact slice_fits (P := Try.prog) hsz (j := 3) (t := 51) (e := 58) (by kernel_rfl) rfl Try.underlying51 h3
  have hlt := hW1.lt
  refine (law_calls (.cons0 (.int _ _) <| .cons0 (.int _ _) <| .cons0 (.int _ _) <| .cons0 g3 <| .nil0) (by first | exact darninglaw12_LogFound.u | exact darninglaw12_LogFound.u w0 w1 w2 rr3 oo3 (by first | (have hw := w3.2.1; rw [rr3.1] at hw; exact hw) | (have hw := zz3; rw [← absC_len b3, rr3.1] at hw; exact hw)))).mono fun e W1 he => ?_
  obtain ⟨he, bel, fz⟩ := he
  subst he
  exact ⟨_, rfl, post_of_same (pv := []) hW1 (fun _ _ _ => trodAll_mk1 (shut_bool Try.underlying4 _)) (fun sp hsp => args_stay laid bel (by kernel_rfl) hA1 (by simpa using hlt) (by simpa using hsp)) (fun _ _ => rfl) (by simp)
    (bel.frame _) fz (ok_one (by kernel_rfl) rfl (okWide_bool_mk Try.underlying4 _))⟩
theorem over : Go.Proofs.Ytgechnnadjonaaa.Rows.logFoundRow.holds Go.Proofs.Ytgechnnadjonaaa.Try.pinned (OpenSpec.ofChange Go.Proofs.Ytgechnnadjonaaa.Rows.logFoundSpec) :=
  OpenClaim.holds_of_wide 14 Try.f14 rfl rfl rfl rfl rfl rfl rfl ⟨rfl, rfl, rfl, rfl, rfl⟩ rfl rfl rfl rfl rfl (by kernel_rfl) Try.func14 (by kernel_rfl)
    (of_decide_eq_true (by kernel_rfl)) (by unfold Func.isWrapper; first | (rw [if_pos (by decide +kernel)]; kernel_rfl) | (rw [if_neg (by decide +kernel)]; exact ⟨rfl, rfl⟩))
    (fun os started H enc _ => lifted os started H enc)
/-- THE STATEMENT. -/
theorem proved : Go.Proofs.Ytgechnnadjonaaa.Rows.LogFoundSaid := over
end Go.Proofs.Ytgechnnadjonaaa.logFound
#print axioms Go.Proofs.Ytgechnnadjonaaa.logFound.proved
