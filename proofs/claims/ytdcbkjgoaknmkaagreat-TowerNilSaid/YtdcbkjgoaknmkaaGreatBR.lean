/-
  PROVED: for every input the law TowerNil returns true, and each argument reads as it did. No condition beyond the given row's own.
-/
import Derived.Test.YtdcbkjgoaknmkaaGreatBT12
import Derived.Test.YtdcbkjgoaknmkaaGreatRows
import Derived.WalkKit
import Derived.ProofKit
import Derived.OpenShut
set_option linter.all false
namespace Go.Proofs.YtdcbkjgoaknmkaaGreat.towerNil
open Go Go.Abs Go.ChangeShapes Go.WideShapes Go.ChangeAt Go.RowKit
set_option linter.unusedVariables false
theorem own : ownKnob Tryz.prog.godebug = none := by kernel_rfl
theorem laid : laidOutB Tryz.prog = true := by kernel_rfl
theorem dec5 {H : Type} {enc : TypeId × Value → H} {W : World} : ∀ row, Rd enc Tryz.prog W 5 row → ∃ x, isB x ∧ row = bU x := by
  intro row h
  obtain ⟨x, e, w⟩ := h.int Tryz.underlying5
  exact ⟨x, wf_u8 w, e⟩
theorem dec41 {H : Type} {enc : TypeId × Value → H} {W : World} : ∀ row, Rd enc Tryz.prog W 41 row → ∃ x, opROK (stH W) x ∧ row.map (absC W) = opRV x := by
  intro row h
  have n : row.length = 5 := ((h.struct Tryz.underlying41).1).trans (by kernel_rfl)
  obtain ⟨x0, e0, w0⟩ := (h.field Tryz.underlying41 0 rfl).intAt Tryz.underlying3 (by kernel_rfl)
  have w0 := wf_i64 w0
  obtain ⟨x1, e1, w1⟩ := (h.field Tryz.underlying41 1 rfl).intAt Tryz.underlying3 (by kernel_rfl)
  have w1 := wf_i64 w1
  obtain ⟨x2, e2, w2⟩ := (h.field Tryz.underlying41 2 rfl).intAt Tryz.underlying3 (by kernel_rfl)
  have w2 := wf_i64 w2
  obtain ⟨x3, e3, w3⟩ := (h.field Tryz.underlying41 3 rfl).intAt Tryz.underlying3 (by kernel_rfl)
  have w3 := wf_i64 w3
  obtain ⟨v4, x4, e4, b4, k4⟩ := (h.field Tryz.underlying41 4 rfl).sliceAt Tryz.underlying36 (Nat.le_of_ble_eq_true (by kernel_rfl)) (by kernel_rfl)
  obtain ⟨l4, rr4, oo4⟩ := rows_of (f := bU) (ok := isB) (z := 1) (by omega) (by kernel_rfl) (fun _ => rfl) dec5 k4
  have L : row = [Value.int .i64 x0, Value.int .i64 x1, Value.int .i64 x2, Value.int .i64 x3, v4] := by
    apply List.ext_getElem?
    intro i
    match i with
    | 0 => exact e0
    | 1 => exact e1
    | 2 => exact e2
    | 3 => exact e3
    | 4 => exact e4
    | i + 5 => rw [List.getElem?_eq_none (by omega), List.getElem?_eq_none (by simp)]
  refine ⟨⟨x0, x1, x2, x3, x4, l4⟩, ⟨w1, w2, rr4, oo4⟩, ?_⟩
  rw [L]
  simp only [List.map_cons, List.map_nil, qdn W (show flatC (Value.int .i64 x0) = true from rfl), qdn W (show flatC (Value.int .i64 x1) = true from rfl), qdn W (show flatC (Value.int .i64 x2) = true from rfl), qdn W (show flatC (Value.int .i64 x3) = true from rfl), b4]
  rfl
set_option maxRecDepth 100000 in
theorem lifted (os : Os) (started : os.Started) (H : Type) (enc : TypeId × Value → H) :
    ReturnsInHanded {} Tryz.checked os 8 .any (Go.Proofs.YtdcbkjgoaknmkaaGreat.Rows.towerNilSpec.pre6 enc Tryz.prog Tryz.f8 Go.Proofs.YtdcbkjgoaknmkaaGreat.Rows.towerNilRow.domain false) (Go.Proofs.YtdcbkjgoaknmkaaGreat.Rows.towerNilSpec.post enc Tryz.prog Tryz.f8 false true false false) := by
  refine returnsInHanded_of_change_sized (C := Tryz.checked) own started (by kernel_rfl) Tryz.func8
    (ChangeSpec.witness6 (enc := enc) (C := Tryz.checked) false ⟨#[], #[.agg #[.int .i64 0, .int .i64 0, .int .i64 0, .int .i64 0, .slice none 0 0]], []⟩ 8 (by kernel_rfl) (by kernel_rfl) (by kernel_rfl) (by kernel_rfl)) ?_
  intro W base args ds gs before hval0 hW hcnd hsz _
  have hval : ∀ (j : Nat) t v, Tryz.f8.params[j]? = some t → args[j]? = some v → Value.okWide Tryz.prog W .any base t v := hval0
  have hW1 := hW
  obtain ⟨p, q, hA0, hV, rfl, hfz, hnd⟩ := hW
  have hA : DataW.TrodAll enc Tryz.prog W 0 (fun _ => true) true Tryz.f8.params.toList args.toList ds p := hA0
  have hA1 := hA
  rw [Tryz.params8] at hA hval
  obtain ⟨v0, vs0, d0, ds0, p0, q0, hargs, rfl, rfl, h0, r0⟩ := trodAll_cons hA
  obtain ⟨rfl, rfl, rfl⟩ := trodAll_nil r0
  obtain rfl : args = #[v0] := by cases args; simp_all
  obtain ⟨rfl, rfl⟩ := trodVars_none hV
  simp only [List.append_nil] at hW1
  obtain ⟨c0, rfl⟩ := qiJ Tryz.underlying41 (hval 0 41 v0 rfl rfl)
  obtain ⟨l0, kk0, qq0⟩ := dec41 _ (Rd.of h0)
  have g0 : VRel (stE W) (.agg (List.toArray (opRV l0))) (.agg c0) := by
    have hh := qis W c0
    rw [show c0.toList.map (absC W) = opRV l0 from qq0] at hh
    exact hh
  have hlt := hW1.lt
  refine (qiY (.cons0 g0 <| .nil0) (by first | exact qO.t | exact qO.t kk0)).mono fun e W1 he => ?_
  obtain ⟨he, bel, fz⟩ := he
  subst he
  exact ⟨_, rfl, qjC (pv := []) hW1 (fun _ _ _ => trodAll_mk1 (shut_bool Tryz.underlying4 _)) (fun sp hsp => qjz laid bel (by kernel_rfl) hA1 (by simpa using hlt) (by simpa using hsp)) (fun _ _ => rfl) (by simp)
    (bel.frame _) fz (ok_one (by kernel_rfl) rfl (okWide_bool_mk Tryz.underlying4 _))⟩
theorem over : Go.Proofs.YtdcbkjgoaknmkaaGreat.Rows.towerNilRow.holds Go.Proofs.YtdcbkjgoaknmkaaGreat.Tryz.pinned (OpenSpec.ofChange Go.Proofs.YtdcbkjgoaknmkaaGreat.Rows.towerNilSpec) :=
  OpenClaim.holds_of_wide 8 Tryz.f8 rfl rfl rfl rfl rfl rfl rfl ⟨rfl, rfl, rfl, rfl, rfl⟩ rfl rfl rfl rfl rfl (by kernel_rfl) Tryz.func8 (by kernel_rfl)
    (of_decide_eq_true (by kernel_rfl)) (by unfold Func.isWrapper; first | (rw [if_pos (by decide +kernel)]; kernel_rfl) | (rw [if_neg (by decide +kernel)]; exact ⟨rfl, rfl⟩))
    (fun os started H enc _ => lifted os started H enc)
/-- THE STATEMENT. -/
theorem proved : Go.Proofs.YtdcbkjgoaknmkaaGreat.Rows.TowerNilSaid := over
end Go.Proofs.YtdcbkjgoaknmkaaGreat.towerNil
#print axioms Go.Proofs.YtdcbkjgoaknmkaaGreat.towerNil.proved
