import Derived.Test.YtgddfhnochcolaaAbsTwo
import Derived.Test.YtgddfhnochcolaaU6
import Derived.Test.YtgddfhnochcolaaRows
import Derived.WalkKit
import Derived.ProofKit
import Derived.OpenShut
set_option linter.all false
/-
  PROVED: for every input the law JudgeNil returns true, and each argument reads as it did. No condition beyond the given row's own.
-/
namespace Go.Proofs.Ytgddfhnochcolaa.judgeNil
open Go Go.Abs Go.ChangeShapes Go.WideShapes Go.ChangeAt Go.RowKit
set_option linter.unusedVariables false
theorem own : ownKnob Try.prog.godebug = none := by kernel_rfl
theorem laid : laidOutB Try.prog = true := by kernel_rfl
theorem dec5 {H : Type} {enc : TypeId × Value → H} {W : World} : ∀ row, Rd enc Try.prog W 5 row → ∃ x, isB x ∧ row = bU x := by
  intro row h
  obtain ⟨x, e, w⟩ := h.int Try.underlying5
  exact ⟨x, wf_u8 w, e⟩
theorem dec61 {H : Type} {enc : TypeId × Value → H} {W : World} : ∀ row, Rd enc Try.prog W 61 row → ∃ x, opROK (stH W) x ∧ row.map (absC W) = opRV x := by
  intro row h
  have n : row.length = 5 := ((h.struct Try.underlying61).1).trans (by kernel_rfl)
  obtain ⟨x0, e0, w0⟩ := (h.field Try.underlying61 0 rfl).intAt Try.underlying3 (by kernel_rfl)
  have w0 := wf_i64 w0
  obtain ⟨x1, e1, w1⟩ := (h.field Try.underlying61 1 rfl).intAt Try.underlying3 (by kernel_rfl)
  have w1 := wf_i64 w1
  obtain ⟨x2, e2, w2⟩ := (h.field Try.underlying61 2 rfl).intAt Try.underlying3 (by kernel_rfl)
  have w2 := wf_i64 w2
  obtain ⟨x3, e3, w3⟩ := (h.field Try.underlying61 3 rfl).intAt Try.underlying3 (by kernel_rfl)
  have w3 := wf_i64 w3
  obtain ⟨v4, x4, e4, b4, k4⟩ := (h.field Try.underlying61 4 rfl).sliceAt Try.underlying37 (Nat.le_of_ble_eq_true (by kernel_rfl)) (by kernel_rfl)
  obtain ⟨l4, rr4, oo4⟩ := rows_of (f := bU) (ok := isB) (z := 1) (by omega) (by kernel_rfl) (fun _ => rfl) dec5 k4
  have L : row = [Value.int .i64 x0, Value.int .i64 x1, Value.int .i64 x2, Value.int .i64 x3, v4] := by
    apply List.ext_getElem?
    intro i
    match i with
    | 0 => exact e0
    | 1 => exact e1
    | 2 => exact e2
    | 3 => exact e3
    | 4 => exact e4
    | i + 5 => rw [List.getElem?_eq_none (by omega), List.getElem?_eq_none (by simp)]
  refine ⟨⟨x0, x1, x2, x3, x4, l4⟩, ⟨w1, w2, rr4, oo4⟩, ?_⟩
  rw [L]
  simp only [List.map_cons, List.map_nil, absC_flat W (show flatC (Value.int .i64 x0) = true from rfl), absC_flat W (show flatC (Value.int .i64 x1) = true from rfl), absC_flat W (show flatC (Value.int .i64 x2) = true from rfl), absC_flat W (show flatC (Value.int .i64 x3) = true from rfl), b4]
  rfl
theorem dec63 {H : Type} {enc : TypeId × Value → H} {W : World} : ∀ row, Rd enc Try.prog W 63 row → ∃ x, anROK (stH W) x ∧ row.map (absC W) = anRV x := by
  intro row h
  have n : row.length = 3 := ((h.struct Try.underlying63).1).trans (by kernel_rfl)
  obtain ⟨x0, e0, w0⟩ := (h.field Try.underlying63 0 rfl).intAt Try.underlying31 (by kernel_rfl)
  have w0 := wf_i64 w0
  obtain ⟨x1, e1, w1⟩ := (h.field Try.underlying63 1 rfl).intAt Try.underlying3 (by kernel_rfl)
  have w1 := wf_i64 w1
  obtain ⟨v2, x2, e2, b2, k2⟩ := (h.field Try.underlying63 2 rfl).sliceAt Try.underlying37 (Nat.le_of_ble_eq_true (by kernel_rfl)) (by kernel_rfl)
  obtain ⟨l2, rr2, oo2⟩ := rows_of (f := bU) (ok := isB) (z := 1) (by omega) (by kernel_rfl) (fun _ => rfl) dec5 k2
  have L : row = [Value.int .i64 x0, Value.int .i64 x1, v2] := by
    apply List.ext_getElem?
    intro i
    match i with
    | 0 => exact e0
    | 1 => exact e1
    | 2 => exact e2
    | i + 3 => rw [List.getElem?_eq_none (by omega), List.getElem?_eq_none (by simp)]
  refine ⟨⟨x0, x1, x2, l2⟩, ⟨w1, rr2, oo2⟩, ?_⟩
  rw [L]
  simp only [List.map_cons, List.map_nil, absC_flat W (show flatC (Value.int .i64 x0) = true from rfl), absC_flat W (show flatC (Value.int .i64 x1) = true from rfl), b2]
  rfl
theorem dec65 {H : Type} {enc : TypeId × Value → H} {W : World} : ∀ row, Rd enc Try.prog W 65 row → ∃ x, toldOK (stH W) x ∧ row.map (absC W) = toldV x := by
  intro row h
  have n : row.length = 8 := ((h.struct Try.underlying65).1).trans (by kernel_rfl)
  obtain ⟨y0, k0, q0⟩ := dec61 _ (h.field Try.underlying65 0 rfl)
  have z0 : Try.prog.cellsOf 61 = 5 := by kernel_rfl
  have q0 : ((row.drop 0).take (Try.prog.cellsOf 61)).map (absC W) = opRV y0 := q0
  rw [z0] at q0
  obtain ⟨y1, k1, q1⟩ := dec63 _ (h.field Try.underlying65 1 rfl)
  have z1 : Try.prog.cellsOf 63 = 3 := by kernel_rfl
  have q1 : ((row.drop 5).take (Try.prog.cellsOf 63)).map (absC W) = anRV y1 := q1
  rw [z1] at q1
  have L : row = (row.drop 0).take 5 ++ (row.drop 5).take 3 := by
    rw [List.drop_zero, List.take_of_length_le (l := row.drop 5) (by rw [List.length_drop]; omega), List.take_append_drop]
  refine ⟨⟨y0, y1⟩, ⟨k0, k1⟩, ?_⟩
  rw [L, List.map_append, q0, q1]
  rfl
set_option maxRecDepth 100000 in
theorem lifted (os : Os) (started : os.Started) (H : Type) (enc : TypeId × Value → H) :
    ReturnsInHanded {} Try.checked os 9 .any (Go.Proofs.Ytgddfhnochcolaa.Rows.judgeNilSpec.pre6 enc Try.prog Try.f9 Go.Proofs.Ytgddfhnochcolaa.Rows.judgeNilRow.domain false) (Go.Proofs.Ytgddfhnochcolaa.Rows.judgeNilSpec.post enc Try.prog Try.f9 false true false false) := by
  refine returnsInHanded_of_change_sized (C := Try.checked) own started (by kernel_rfl) Try.func9
    (ChangeSpec.witness6 (enc := enc) (C := Try.checked) false ⟨#[], #[.agg #[.int .i64 0, .int .i64 0, .int .i64 0, .int .i64 0, .slice none 0 0, .int .i64 0, .int .i64 0, .slice none 0 0]], []⟩ 8 (by kernel_rfl) (by kernel_rfl) (by kernel_rfl) (by kernel_rfl)) ?_
  intro W base args ds gs before hval0 hW hcnd hsz _
  have hval : ∀ (j : Nat) t v, Try.f9.params[j]? = some t → args[j]? = some v → Value.okWide Try.prog W .any base t v := hval0
  have hW1 := hW
  obtain ⟨p, q, hA0, hV, rfl, hfz, hnd⟩ := hW
  have hA : DataW.TrodAll enc Try.prog W 0 (fun _ => true) true Try.f9.params.toList args.toList ds p := hA0
  have hA1 := hA
  rw [Try.params9] at hA hval
  obtain ⟨v0, vs0, d0, ds0, p0, q0, hargs, rfl, rfl, h0, r0⟩ := trodAll_cons hA
  obtain ⟨rfl, rfl, rfl⟩ := trodAll_nil r0
  obtain rfl : args = #[v0] := by cases args; simp_all
  obtain ⟨rfl, rfl⟩ := trodVars_none hV
  simp only [List.append_nil] at hW1
  obtain ⟨c0, rfl⟩ := okWide_agg Try.underlying65 (hval 0 65 v0 rfl rfl)
  obtain ⟨l0, kk0, qq0⟩ := dec65 _ (Rd.of h0)
  have g0 : VRel (stE W) (.agg (List.toArray (toldV l0))) (.agg c0) := by
    have hh := absAgg_rel W c0
    rw [show c0.toList.map (absC W) = toldV l0 from qq0] at hh
    exact hh
  have hlt := hW1.lt
  refine (law_calls (.cons0 g0 <| .nil0) (by first | exact darninglaw25_JudgeNil.t' | exact darninglaw25_JudgeNil.t' kk0)).mono fun e W1 he => ?_
  obtain ⟨he, bel, fz⟩ := he
  subst he
  exact ⟨_, rfl, post_of_same (pv := []) hW1 (fun _ _ _ => trodAll_mk1 (shut_bool Try.underlying4 _)) (fun sp hsp => args_stay laid bel (by kernel_rfl) hA1 (by simpa using hlt) (by simpa using hsp)) (fun _ _ => rfl) (by simp)
    (bel.frame _) fz (ok_one (by kernel_rfl) rfl (okWide_bool_mk Try.underlying4 _))⟩
theorem over : Go.Proofs.Ytgddfhnochcolaa.Rows.judgeNilRow.holds Go.Proofs.Ytgddfhnochcolaa.Try.pinned (OpenSpec.ofChange Go.Proofs.Ytgddfhnochcolaa.Rows.judgeNilSpec) :=
  OpenClaim.holds_of_wide 9 Try.f9 rfl rfl rfl rfl rfl rfl rfl ⟨rfl, rfl, rfl, rfl, rfl⟩ rfl rfl rfl rfl rfl (by kernel_rfl) Try.func9 (by kernel_rfl)
    (of_decide_eq_true (by kernel_rfl)) (by unfold Func.isWrapper; first | (rw [if_pos (by decide +kernel)]; kernel_rfl) | (rw [if_neg (by decide +kernel)]; exact ⟨rfl, rfl⟩))
    (fun os started H enc _ => lifted os started H enc)
/-- THE STATEMENT. -/
theorem proved : Go.Proofs.Ytgddfhnochcolaa.Rows.JudgeNilSaid := over
end Go.Proofs.Ytgddfhnochcolaa.judgeNil
#print axioms Go.Proofs.Ytgddfhnochcolaa.judgeNil.proved
