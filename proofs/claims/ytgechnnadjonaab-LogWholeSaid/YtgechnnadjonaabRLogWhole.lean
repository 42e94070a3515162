import Derived.Test.YtgechnnadjonaabAbsTwo
import Derived.Test.YtgechnnadjonaabN22
import Derived.Test.YtgechnnadjonaabRows
import Derived.WalkKit
import Derived.ProofKit
import Derived.OpenShut
set_option linter.all false
/-
  PROVED: for every input the law LogWhole returns true, and each argument reads as it did. No condition beyond the given row's own.
-/
namespace Go.Proofs.Ytgechnnadjonaab.logWhole
open Go Go.Abs Go.ChangeShapes Go.WideShapes Go.ChangeAt Go.RowKit
set_option linter.unusedVariables false
theorem own : ownKnob Try.prog.godebug = none := by kernel_rfl
theorem laid : laidOutB Try.prog = true := by kernel_rfl
theorem dec3 {H : Type} {enc : TypeId × Value → H} {W : World} : ∀ row, Rd enc Try.prog W 3 row → ∃ x, isI x ∧ row = iV x := by
  intro row h
  obtain ⟨x, e, w⟩ := h.int Try.underlying3
  exact ⟨x, wf_i64 w, e⟩
theorem dec40 {H : Type} {enc : TypeId × Value → H} {W : World} : ∀ row, Rd enc Try.prog W 40 row → ∃ x, putOK x ∧ row = putV x := by
  intro row h
  have n : row.length = 9 := ((h.struct Try.underlying40).1).trans (by kernel_rfl)
  obtain ⟨x0, e0, w0⟩ := (h.field Try.underlying40 0 rfl).intAt Try.underlying3 (by kernel_rfl)
  have w0 := wf_i64 w0
  obtain ⟨x1, w1, e1⟩ := (h.field Try.underlying40 1 rfl).eight rfl Try.underlying38 Try.underlying36 (by kernel_rfl) (by kernel_rfl)
  have z1 : Try.prog.cellsOf 38 = 8 := by kernel_rfl
  have e1 : (row.drop 1).take (Try.prog.cellsOf 38) = x1.map (fun v => Value.int .u64 v) := e1
  rw [z1] at e1
  exact ⟨⟨x0, x1⟩, ⟨w0, w1⟩, put_eq n e0 e1⟩
theorem dec24 {H : Type} {enc : TypeId × Value → H} {W : World} : ∀ row, Rd enc Try.prog W 24 row → ∃ x, SlOK putV putOK 9 (stH W) x ∧ row.map (absC W) = slV x := by
  intro row h
  obtain ⟨v, rfl⟩ : ∃ v, row = [v] := by
    rcases h.slice Try.underlying24 with h | ⟨a, n, c, h, _⟩ <;> exact ⟨_, h⟩
  obtain ⟨s, b, w⟩ := h.sliceS Try.underlying24 (Nat.le_of_ble_eq_true (by kernel_rfl))
  obtain ⟨l, rr, oo⟩ := rows_of (f := putV) (ok := putOK) (z := 9) (by omega) (by kernel_rfl) putV_flat dec40 w
  exact ⟨(s, l), ⟨rr, oo⟩, by simp [b, slV]⟩
set_option maxRecDepth 100000 in
theorem lifted (os : Os) (started : os.Started) (H : Type) (enc : TypeId × Value → H) :
    ReturnsInHanded {} Try.checked os 3 .any (Go.Proofs.Ytgechnnadjonaab.Rows.logWholeSpec.pre6 enc Try.prog Try.f3 Go.Proofs.Ytgechnnadjonaab.Rows.logWholeRow.domain false) (Go.Proofs.Ytgechnnadjonaab.Rows.logWholeSpec.post enc Try.prog Try.f3 false true false false) := by
  refine returnsInHanded_of_change_sized (C := Try.checked) own started (by kernel_rfl) Try.func3
    (ChangeSpec.witness6 (enc := enc) (C := Try.checked) false ⟨#[], #[.int .i64 0, .int .i64 0, .int .i64 0, .slice none 0 0, .slice none 0 0, .slice none 0 0, .int .i64 0, .int .i64 0, .slice none 0 0], []⟩ 8 (by kernel_rfl) (by kernel_rfl) (by kernel_rfl) (by kernel_rfl)) ?_
  intro W base args ds gs before hval0 hW hcnd hsz _
  have hval : ∀ (j : Nat) t v, Try.f3.params[j]? = some t → args[j]? = some v → Value.okWide Try.prog W .any base t v := hval0
  have hW1 := hW
  obtain ⟨p, q, hA0, hV, rfl, hfz, hnd⟩ := hW
  have hA : DataW.TrodAll enc Try.prog W 0 (fun _ => true) true Try.f3.params.toList args.toList ds p := hA0
  have hA1 := hA
  rw [Try.params3] at hA hval
  obtain ⟨v0, vs0, d0, ds0, p0, q0, hargs, rfl, rfl, h0, r0⟩ := trodAll_cons hA
  obtain ⟨v1, vs1, d1, ds1, p1, q1, rfl, rfl, rfl, h1, r1⟩ := trodAll_cons r0
  obtain ⟨v2, vs2, d2, ds2, p2, q2, rfl, rfl, rfl, h2, r2⟩ := trodAll_cons r1
  obtain ⟨v3, vs3, d3, ds3, p3, q3, rfl, rfl, rfl, h3, r3⟩ := trodAll_cons r2
  obtain ⟨v4, vs4, d4, ds4, p4, q4, rfl, rfl, rfl, h4, r4⟩ := trodAll_cons r3
  obtain ⟨v5, vs5, d5, ds5, p5, q5, rfl, rfl, rfl, h5, r5⟩ := trodAll_cons r4
  obtain ⟨v6, vs6, d6, ds6, p6, q6, rfl, rfl, rfl, h6, r6⟩ := trodAll_cons r5
  obtain ⟨v7, vs7, d7, ds7, p7, q7, rfl, rfl, rfl, h7, r7⟩ := trodAll_cons r6
  obtain ⟨v8, vs8, d8, ds8, p8, q8, rfl, rfl, rfl, h8, r8⟩ := trodAll_cons r7
  obtain ⟨rfl, rfl, rfl⟩ := trodAll_nil r8
  obtain rfl : args = #[v0, v1, v2, v3, v4, v5, v6, v7, v8] := by cases args; simp_all
  obtain ⟨rfl, rfl⟩ := trodVars_none hV
  simp only [List.append_nil] at hW1
  obtain ⟨a0, rfl⟩ := okWide_int Try.underlying3 (hval 0 3 v0 rfl rfl)
  obtain ⟨a00, e0, w0⟩ := (Rd.of h0).int Try.underlying3
  obtain rfl : a0 = a00 := by simpa [Value.cells] using e0
  obtain ⟨a1, rfl⟩ := okWide_int Try.underlying3 (hval 1 3 v1 rfl rfl)
  obtain ⟨a10, e1, w1⟩ := (Rd.of h1).int Try.underlying3
  obtain rfl : a1 = a10 := by simpa [Value.cells] using e1
  obtain ⟨a2, rfl⟩ := okWide_int Try.underlying3 (hval 2 3 v2 rfl rfl)
  obtain ⟨a20, e2, w2⟩ := (Rd.of h2).int Try.underlying3
  obtain rfl : a2 = a20 := by simpa [Value.cells] using e2
  obtain ⟨x3a, x3n, x3c, rfl⟩ := okWide_slice Try.underlying22 (hval 3 22 v3 rfl rfl)
  obtain ⟨s3, b3, w3⟩ := (Rd.of h3).sliceS Try.underlying22 (Nat.le_of_ble_eq_true (by kernel_rfl))
  have g3 : VRel (stE W) s3.val (.slice x3a x3n x3c) := b3 ▸ absC_rel W _
  obtain ⟨l3, rr3, oo3⟩ := rows_of (f := iV) (ok := isI) (z := 1) (by omega) (by kernel_rfl) (fun _ => rfl) dec3 w3
  have zz3 : x3n * 8 ≤ reachBytes := by
    have hb : Try.prog.bytesOf 3 = 8 := by kernel_rfl
    rw [← hb]
    exact slice_fits (P := Try.prog) hsz (j := 3) (t := 22) (e := 3) (by kernel_rfl) rfl Try.underlying22 h3
  obtain ⟨x4a, x4n, x4c, rfl⟩ := okWide_slice Try.underlying23 (hval 4 23 v4 rfl rfl)
  obtain ⟨s4, b4, w4⟩ := (Rd.of h4).sliceS Try.underlying23 (Nat.le_of_ble_eq_true (by kernel_rfl))
  have g4 : VRel (stE W) s4.val (.slice x4a x4n x4c) := b4 ▸ absC_rel W _
  obtain ⟨l4, rr4, oo4⟩ := rows_of' (f := slV) (ok := SlOK putV putOK 9 (stH W)) (z := 1) (by omega) (by kernel_rfl) (fun _ => rfl) dec24 w4
  have zz4 : x4n * 24 ≤ reachBytes := by
    have hb : Try.prog.bytesOf 24 = 24 := by kernel_rfl
    rw [← hb]
    exact slice_fits (P := Try.prog) hsz (j := 4) (t := 23) (e := 24) (by kernel_rfl) rfl Try.underlying23 h4
  obtain ⟨x5a, x5n, x5c, rfl⟩ := okWide_slice Try.underlying24 (hval 5 24 v5 rfl rfl)
  obtain ⟨s5, b5, w5⟩ := (Rd.of h5).sliceS Try.underlying24 (Nat.le_of_ble_eq_true (by kernel_rfl))
  have g5 : VRel (stE W) s5.val (.slice x5a x5n x5c) := b5 ▸ absC_rel W _
  obtain ⟨l5, rr5, oo5⟩ := rows_of (f := putV) (ok := putOK) (z := 9) (by omega) (by kernel_rfl) putV_flat dec40 w5
  have zz5 : x5n * 72 ≤ reachBytes := by
    have hb : Try.prog.bytesOf 40 = 72 := by kernel_rfl
    rw [← hb]
    exact slice_fits (P := Try.prog) hsz (j := 5) (t := 24) (e := 40) (by kernel_rfl) rfl Try.underlying24 h5
  obtain ⟨a6, rfl⟩ := okWide_int Try.underlying3 (hval 6 3 v6 rfl rfl)
  obtain ⟨a60, e6, w6⟩ := (Rd.of h6).int Try.underlying3
  obtain rfl : a6 = a60 := by simpa [Value.cells] using e6
  obtain ⟨a7, rfl⟩ := okWide_int Try.underlying3 (hval 7 3 v7 rfl rfl)
  obtain ⟨a70, e7, w7⟩ := (Rd.of h7).int Try.underlying3
  obtain rfl : a7 = a70 := by simpa [Value.cells] using e7
  obtain ⟨x8a, x8n, x8c, rfl⟩ := okWide_slice Try.underlying22 (hval 8 22 v8 rfl rfl)
  obtain ⟨s8, b8, w8⟩ := (Rd.of h8).sliceS Try.underlying22 (Nat.le_of_ble_eq_true (by kernel_rfl))
  have g8 : VRel (stE W) s8.val (.slice x8a x8n x8c) := b8 ▸ absC_rel W _
  obtain ⟨l8, rr8, oo8⟩ := rows_of (f := iV) (ok := isI) (z := 1) (by omega) (by kernel_rfl) (fun _ => rfl) dec3 w8
  have zz8 : x8n * 8 ≤ reachBytes := by
    have hb : Try.prog.bytesOf 3 = 8 := by kernel_rfl
    rw [← hb]
    exact slice_fits (P := Try.prog) hsz (j := 8) (t := 22) (e := 3) (by kernel_rfl) rfl Try.underlying22 h8
  have hlt := hW1.lt
  refine (law_calls (.cons0 (.int _ _) <| .cons0 (.int _ _) <| .cons0 (.int _ _) <| .cons0 g3 <| .cons0 g4 <| .cons0 g5 <| .cons0 (.int _ _) <| .cons0 (.int _ _) <| .cons0 g8 <| .nil0) (by first | exact darninglaw12_LogWhole.t | exact darninglaw12_LogWhole.t w0 w1 w2 rr3 oo3 (by first | (have hw := w3.2.1; rw [rr3.1] at hw; exact hw) | (have hw := zz3; rw [← absC_len b3, rr3.1] at hw; exact hw)) rr4 oo4 (by first | (have hw := w4.2.1; rw [rr4.1] at hw; exact hw) | (have hw := zz4; rw [← absC_len b4, rr4.1] at hw; exact hw)) rr5 oo5 (by first | (have hw := w5.2.1; rw [rr5.1] at hw; exact hw) | (have hw := zz5; rw [← absC_len b5, rr5.1] at hw; exact hw)) w6 w7 rr8 oo8 (by first | (have hw := w8.2.1; rw [rr8.1] at hw; exact hw) | (have hw := zz8; rw [← absC_len b8, rr8.1] at hw; exact hw)))).mono fun e W1 he => ?_
  obtain ⟨he, bel, fz⟩ := he
  subst he
  exact ⟨_, rfl, post_of_same (pv := []) hW1 (fun _ _ _ => trodAll_mk1 (shut_bool Try.underlying4 _)) (fun sp hsp => args_stay laid bel (by kernel_rfl) hA1 (by simpa using hlt) (by simpa using hsp)) (fun _ _ => rfl) (by simp)
    (bel.frame _) fz (ok_one (by kernel_rfl) rfl (okWide_bool_mk Try.underlying4 _))⟩
theorem over : Go.Proofs.Ytgechnnadjonaab.Rows.logWholeRow.holds Go.Proofs.Ytgechnnadjonaab.Try.pinned (OpenSpec.ofChange Go.Proofs.Ytgechnnadjonaab.Rows.logWholeSpec) :=
  OpenClaim.holds_of_wide 3 Try.f3 rfl rfl rfl rfl rfl rfl rfl ⟨rfl, rfl, rfl, rfl, rfl⟩ rfl rfl rfl rfl rfl (by kernel_rfl) Try.func3 (by kernel_rfl)
    (of_decide_eq_true (by kernel_rfl)) (by unfold Func.isWrapper; first | (rw [if_pos (by decide +kernel)]; kernel_rfl) | (rw [if_neg (by decide +kernel)]; exact ⟨rfl, rfl⟩))
    (fun os started H enc _ => lifted os started H enc)
/-- THE STATEMENT. -/
theorem proved : Go.Proofs.Ytgechnnadjonaab.Rows.LogWholeSaid := over
end Go.Proofs.Ytgechnnadjonaab.logWhole
#print axioms Go.Proofs.Ytgechnnadjonaab.logWhole.proved
