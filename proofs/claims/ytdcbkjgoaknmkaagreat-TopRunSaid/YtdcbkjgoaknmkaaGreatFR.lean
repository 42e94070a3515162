/-
  PROVED: for every input the law TopRun returns true, and each argument reads as it did. No condition beyond the given row's own.
-/
import Derived.Test.YtdcbkjgoaknmkaaGreatFT15
import Derived.Test.YtdcbkjgoaknmkaaGreatRows
import Derived.WalkKit
import Derived.ProofKit
import Derived.OpenShut
set_option linter.all false
namespace Go.Proofs.YtdcbkjgoaknmkaaGreat.topRun
open Go Go.Abs Go.ChangeShapes Go.WideShapes Go.ChangeAt Go.RowKit
set_option linter.unusedVariables false
theorem own : ownKnob Tryz.prog.godebug = none := by kernel_rfl
theorem laid : laidOutB Tryz.prog = true := by kernel_rfl
theorem dec3 {H : Type} {enc : TypeId × Value → H} {W : World} : ∀ row, Rd enc Tryz.prog W 3 row → ∃ x, isI x ∧ row = iV x := by
  intro row h
  obtain ⟨x, e, w⟩ := h.int Tryz.underlying3
  exact ⟨x, wf_i64 w, e⟩
theorem dec5 {H : Type} {enc : TypeId × Value → H} {W : World} : ∀ row, Rd enc Tryz.prog W 5 row → ∃ x, isB x ∧ row = bU x := by
  intro row h
  obtain ⟨x, e, w⟩ := h.int Tryz.underlying5
  exact ⟨x, wf_u8 w, e⟩
set_option maxRecDepth 100000 in
theorem lifted (os : Os) (started : os.Started) (H : Type) (enc : TypeId × Value → H) :
    ReturnsInHanded {} Tryz.checked os 11 .any (Go.Proofs.YtdcbkjgoaknmkaaGreat.Rows.topRunSpec.pre6 enc Tryz.prog Tryz.f11 Go.Proofs.YtdcbkjgoaknmkaaGreat.Rows.topRunRow.domain false) (Go.Proofs.YtdcbkjgoaknmkaaGreat.Rows.topRunSpec.post enc Tryz.prog Tryz.f11 false true false false) := by
  refine returnsInHanded_of_change_sized (C := Tryz.checked) own started (by kernel_rfl) Tryz.func11
    (ChangeSpec.witness6 (enc := enc) (C := Tryz.checked) false ⟨#[], #[.agg #[.int .i64 0, .int .i64 0, .int .i64 0, .int .i64 0], .slice none 0 0, .slice none 0 0], []⟩ 8 (by kernel_rfl) (by kernel_rfl) (by kernel_rfl) (by kernel_rfl)) ?_
  intro W base args ds gs before hval0 hW hcnd hsz _
  have hval : ∀ (j : Nat) t v, Tryz.f11.params[j]? = some t → args[j]? = some v → Value.okWide Tryz.prog W .any base t v := hval0
  have hW1 := hW
  obtain ⟨p, q, hA0, hV, rfl, hfz, hnd⟩ := hW
  have hA : DataW.TrodAll enc Tryz.prog W 0 (fun _ => true) true Tryz.f11.params.toList args.toList ds p := hA0
  have hA1 := hA
  rw [Tryz.params11] at hA hval
  obtain ⟨v0, vs0, d0, ds0, p0, q0, hargs, rfl, rfl, h0, r0⟩ := trodAll_cons hA
  obtain ⟨v1, vs1, d1, ds1, p1, q1, rfl, rfl, rfl, h1, r1⟩ := trodAll_cons r0
  obtain ⟨v2, vs2, d2, ds2, p2, q2, rfl, rfl, rfl, h2, r2⟩ := trodAll_cons r1
  obtain ⟨rfl, rfl, rfl⟩ := trodAll_nil r2
  obtain rfl : args = #[v0, v1, v2] := by cases args; simp_all
  obtain ⟨rfl, rfl⟩ := trodVars_none hV
  simp only [List.append_nil] at hW1
  obtain ⟨c0, rfl⟩ := qjl Tryz.underlying23 (hval 0 23 v0 rfl rfl)
  have rd0 := Rd.of h0
  have n0 : c0.toList.length = 4 := ((rd0.struct Tryz.underlying23).1).trans (by kernel_rfl)
  obtain ⟨x0_0, e0_0, w0_0⟩ := (rd0.field Tryz.underlying23 0 rfl).intAt Tryz.underlying3 (by kernel_rfl)
  obtain ⟨x0_1, e0_1, w0_1⟩ := (rd0.field Tryz.underlying23 1 rfl).intAt Tryz.underlying3 (by kernel_rfl)
  obtain ⟨x0_2, e0_2, w0_2⟩ := (rd0.field Tryz.underlying23 2 rfl).intAt Tryz.underlying3 (by kernel_rfl)
  obtain ⟨x0_3, e0_3, w0_3⟩ := (rd0.field Tryz.underlying23 3 rfl).intAt Tryz.underlying3 (by kernel_rfl)
  have l0 : c0.toList = [Value.int .i64 x0_0, Value.int .i64 x0_1, Value.int .i64 x0_2, Value.int .i64 x0_3] := by
    apply List.ext_getElem?
    intro i
    match i with
    | 0 => exact e0_0
    | 1 => exact e0_1
    | 2 => exact e0_2
    | 3 => exact e0_3
    | i + 4 => rw [List.getElem?_eq_none (by omega), List.getElem?_eq_none (by simp)]
  have g0 : VRel (stE W) (.agg (List.toArray [Value.int .i64 x0_0, Value.int .i64 x0_1, Value.int .i64 x0_2, Value.int .i64 x0_3])) (.agg c0) := by
    have := qjG W c0
    rw [l0] at this
    simpa using this
  obtain ⟨x1a, x1n, x1c, rfl⟩ := okWide_slice Tryz.underlying24 (hval 1 24 v1 rfl rfl)
  obtain ⟨s1, b1, w1⟩ := (Rd.of h1).sliceS Tryz.underlying24 (Nat.le_of_ble_eq_true (by kernel_rfl))
  have g1 : VRel (stE W) s1.val (.slice x1a x1n x1c) := b1 ▸ qe2 W _
  obtain ⟨l1, rr1, oo1⟩ := rows_of (f := iV) (ok := isI) (z := 1) (by omega) (by kernel_rfl) (fun _ => rfl) dec3 w1
  have zz1 : x1n * 8 ≤ reachBytes := by
    have hb : Tryz.prog.bytesOf 3 = 8 := by kernel_rfl
    rw [← hb]
    exact qgM (P := Tryz.prog) hsz (j := 1) (t := 24) (e := 3) (by kernel_rfl) rfl Tryz.underlying24 h1
  obtain ⟨x2a, x2n, x2c, rfl⟩ := okWide_slice Tryz.underlying36 (hval 2 36 v2 rfl rfl)
  obtain ⟨s2, b2, w2⟩ := (Rd.of h2).sliceS Tryz.underlying36 (Nat.le_of_ble_eq_true (by kernel_rfl))
  have g2 : VRel (stE W) s2.val (.slice x2a x2n x2c) := b2 ▸ qe2 W _
  obtain ⟨l2, rr2, oo2⟩ := rows_of (f := bU) (ok := isB) (z := 1) (by omega) (by kernel_rfl) (fun _ => rfl) dec5 w2
  have zz2 : x2n * 1 ≤ reachBytes := by
    have hb : Tryz.prog.bytesOf 5 = 1 := by kernel_rfl
    rw [← hb]
    exact qgM (P := Tryz.prog) hsz (j := 2) (t := 36) (e := 5) (by kernel_rfl) rfl Tryz.underlying36 h2
  have hlt := hW1.lt
  refine (qke (.cons0 g0 <| .cons0 g1 <| .cons0 g2 <| .nil0) (by first | exact qs.t | exact qs.t w0_0 w0_1 w0_2 w0_3 rr1 oo1 (by first | (have hw := w1.2.1; rw [rr1.1] at hw; exact hw) | (have hw := zz1; rw [← absC_len b1, rr1.1] at hw; exact hw)) rr2 oo2 (by first | (have hw := w2.2.1; rw [rr2.1] at hw; exact hw) | (have hw := zz2; rw [← absC_len b2, rr2.1] at hw; exact hw)))).mono fun e W1 he => ?_
  obtain ⟨he, bel, fz⟩ := he
  subst he
  exact ⟨_, rfl, qkH (pv := []) hW1 (fun _ _ _ => trodAll_mk1 (shut_bool Tryz.underlying4 _)) (fun sp hsp => qkr laid bel (by kernel_rfl) hA1 (by simpa using hlt) (by simpa using hsp)) (fun _ _ => rfl) (by simp)
    (bel.frame _) fz (ok_one (by kernel_rfl) rfl (okWide_bool_mk Tryz.underlying4 _))⟩
theorem over : Go.Proofs.YtdcbkjgoaknmkaaGreat.Rows.topRunRow.holds Go.Proofs.YtdcbkjgoaknmkaaGreat.Tryz.pinned (OpenSpec.ofChange Go.Proofs.YtdcbkjgoaknmkaaGreat.Rows.topRunSpec) :=
  OpenClaim.holds_of_wide 11 Tryz.f11 rfl rfl rfl rfl rfl rfl rfl ⟨rfl, rfl, rfl, rfl, rfl⟩ rfl rfl rfl rfl rfl (by kernel_rfl) Tryz.func11 (by kernel_rfl)
    (of_decide_eq_true (by kernel_rfl)) (by unfold Func.isWrapper; first | (rw [if_pos (by decide +kernel)]; kernel_rfl) | (rw [if_neg (by decide +kernel)]; exact ⟨rfl, rfl⟩))
    (fun os started H enc _ => lifted os started H enc)
/-- THE STATEMENT. -/
theorem proved : Go.Proofs.YtdcbkjgoaknmkaaGreat.Rows.TopRunSaid := over
end Go.Proofs.YtdcbkjgoaknmkaaGreat.topRun
#print axioms Go.Proofs.YtdcbkjgoaknmkaaGreat.topRun.proved
