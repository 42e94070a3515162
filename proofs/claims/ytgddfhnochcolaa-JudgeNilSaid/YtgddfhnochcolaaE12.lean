import Derived.Test.YtgddfhnochcolaaE11
set_option linter.all false
set_option linter.all false
namespace Go.Proofs.Ytgddfhnochcolaa
open Go Go.Abs

section
variable {H : AH}
theorem darninglaw20_ModelNil.t {a b c : Int} {s : Sl} {P : Prop} (h0 : (Lit.int .i64 a).wf = true) (h1 : (Lit.int .i64 b).wf = true) (h2 : (Lit.int .i64 c).wf = true) (_ : P) :
    darninglaw20_ModelNil [.int .i64 a, .int .i64 b, .int .i64 c, s.val] H (fun r _ => r = true) := by
  have aw : ∀ H', darninglaw20_awake H' fun b _ => b = true := fun H' => darninglaw20_awake.s fun _ => rfl
  have hb := wf_i64 h1
  refine darninglaw20_ModelNil.link ?_
  unfold darninglaw20_ModelNil.b
  rw [newC_eq]
  have hS : StAt (H.push ⟨[.int .i64 a, .int .i64 b, .int .i64 c, s.val], .rw, 0⟩) H.size ⟨a, b, c, s, []⟩ := StAt.new (d := ⟨a, b, c, s, []⟩)
  generalize H.push ⟨[.int .i64 a, .int .i64 b, .int .i64 c, s.val], .rw, 0⟩ = H1 at *
  rw [hS.c3, elL_some]
  by_cases hbig : ((s.n : Nat) : Int) > 500
  · rw [decide_eq_true (show ((s.n : Nat) : Int) > 500 from hbig), bcase_true]; exact aw _
  rw [decide_eq_false (show ¬ ((s.n : Nat) : Int) > 500 from hbig), bcase_false, hS.c2, elI_some, hS.c1, elI_some]
  have hby : ∀ {o n : Int} {k : Sl → Int → AH → Prop}, k ⟨none, 0, 0⟩ 1 H1 → model_Model_bytes none o n H1 k := by
    intro o n k h
    refine model_Model_bytes.link ?_
    unfold model_Model_bytes.b model_Model_bytes.j3
    rw [Option.isNone_none, bcase_true, bcase_true]; exact h
  have hbl : ∀ {k : Sl → AH → Prop}, k ⟨none, 0, 0⟩ H1 → model_Model_Blocks none H1 k := by
    intro k h
    refine model_Model_Blocks.link ?_
    unfold model_Model_Blocks.b
    rw [Option.isNone_none, bcase_true]; exact h
  have hfi : ∀ {k : Sl → AH → Prop}, k ⟨none, 0, 0⟩ H1 → model_Model_Fits none b H1 k := by
    intro k h
    refine model_Model_Fits.link ?_
    unfold model_Model_Fits.b
    refine hbl ?_
    refine fit_Need.s hb ?_
    refine fit_Fits.link ?_
    unfold fit_Fits.b
    refine loopT_inv (t := ((⟨none, 0, 0⟩, (0 : Int)) : Sl × Int)) (I := fun (t : Sl × Int) H' => H' = H1 ∧ t = (⟨none, 0, 0⟩, (0 : Int))) (m := fun _ _ => 0) ?_ ⟨rfl, rfl⟩
    rintro t H2 ⟨rfl, rfl⟩ it _
    unfold fit_Fits.l5
    rw [bcase_eq, if_neg (by simp)]
    refine loopT_inv (t := ((⟨none, 0, 0⟩, (0 : Int)) : Sl × Int)) (I := fun (t : Sl × Int) H' => H' = H2 ∧ t = (⟨none, 0, 0⟩, (0 : Int))) (m := fun _ _ => 0) ?_ ⟨rfl, rfl⟩
    rintro t H3 ⟨rfl, rfl⟩ it _
    unfold model_Model_Fits.l1
    rw [bcase_eq, if_neg (by simp)]
    exact h
  refine model_Model_Read.link ?_
  unfold model_Model_Read.b
  refine hby ?_
  refine slices_Clone_bytebyte.link ?_
  unfold slices_Clone_bytebyte.b
  rw [Option.isNone_none, bcase_true]
  show elI .i64 (AH.cell? H1 (Addr.add ⟨H.size, 0, none⟩ 1)) _
  rw [hS.c1, elI_some]
  refine hfi ?_
  rw [bcase_eq, if_pos (by simp), hS.c1, elI_some, hS.c2, elI_some]
  refine model_Model_Alloc.link ?_
  unfold model_Model_Alloc.b
  refine hfi ?_
  refine slices_Contains_intint.s (l := []) rows_none (by simp) ?_
  rw [decide_eq_false (by simp), Bool.not_false, bcase_true]
  show bcase (!false) _ _
  rw [Bool.not_false, bcase_true, hS.c2, elI_some]
  have hfind : ∀ {o : Int} {k : Int → AH → Prop}, k (-1) H1 → model_Model_find none o H1 k := by
    intro o k h
    refine gcI (j := .i64) (-1) (model_Model_find.link ?_) h
    unfold model_Model_find.b
    rw [newC_eq, Option.isNone_none, bcase_true]
    exact ⟨(Keeps.refl _).push _, rfl⟩
  refine model_Model_Free.link ?_
  unfold model_Model_Free.b
  refine hfind ?_
  rw [bcase_eq, if_pos (by simp)]
  show bcase ((1 : Int) == 1) _ _
  rw [bcase_eq, if_pos (by simp), bcase_eq, if_pos (by simp), bcase_eq, if_pos (by simp), hS.c2, elI_some, hS.c3, elL_some]
  refine model_Model_Write.link ?_
  unfold model_Model_Write.b
  refine hby ?_
  unfold copyC
  rw [if_pos (by simp only [Nat.min_def]; split <;> omega)]
  show bcase ((1 : Int) == 1) _ _
  rw [bcase_eq, if_pos (by simp), hS.c2, elI_some]
  refine model_Model_SetRoot.link ?_
  unfold model_Model_SetRoot.b model_Model_SetRoot.j1
  rw [Option.isNone_none, bcase_true, bcase_true]
  show bcase ((1 : Int) == 1) _ _
  rw [bcase_eq, if_pos (by simp)]
  refine model_Model_Root.link ?_
  unfold model_Model_Root.b
  rw [Option.isNone_none, bcase_true]
  show bcase ((0 : Int) == 0) _ _
  rw [bcase_eq, if_pos (by simp)]
  refine hbl ?_
  rw [bcase_eq, if_pos (by simp)]
  refine model_Model_Copy.link ?_
  unfold model_Model_Copy.b
  rw [Option.isNone_none, bcase_true]
  show bcase (Option.isNone (none : Option Addr)) _ _
  rw [Option.isNone_none, bcase_true]
  refine gcI (j := .i64) 0 (darninglaw19_Heavy.link ?_) ?_
  · unfold darninglaw19_Heavy.b
    refine loopT_inv (t := (((0 : Int), (0 : Int)) : Int × Int)) (I := fun (t : Int × Int) H' => H' = H1 ∧ t = ((0 : Int), (0 : Int))) (m := fun _ _ => 0) ?_ ⟨rfl, rfl⟩
    rintro t H2 ⟨rfl, rfl⟩ it _
    unfold darninglaw19_Heavy.l2
    rw [bcase_eq, if_neg (by simp)]
    exact ⟨Keeps.refl _, rfl⟩
  · show bcase ((0 : Int) == 0) _ _
    rw [bcase_eq, if_pos (by simp)]; exact aw _

theorem umod' {x m : Int} (hm : 0 < m ∧ m ≤ 1000000) : ∃ r, 0 ≤ r ∧ r < m ∧ IntKind.wrap .i64 (Int.tmod (IntKind.wrap .u64 x) m) = r := by
  have hu : 0 ≤ IntKind.wrap .u64 x := by rw [IntKind.wrap_u64]; omega
  rw [Int.tmod_eq_emod_of_nonneg hu]
  refine ⟨IntKind.wrap .u64 x % m, Int.emod_nonneg _ (by omega), Int.emod_lt_of_pos _ (by omega), ?_⟩
  have h1 := Int.emod_nonneg (IntKind.wrap .u64 x) (show m ≠ 0 by omega)
  have h2 := Int.emod_lt_of_pos (IntKind.wrap .u64 x) hm.1
  exact wrap_i64 (by omega) (by omega)

theorem takesN_range' {sz need : Int} (hn : 2 ≤ need ∧ need ≤ sz) : 2 ≤ takesN sz need ∧ takesN sz need ≤ sz ∧ need ≤ takesN sz need ∧ (takesN sz need = sz ∨ takesN sz need + 2 ≤ sz) := takesN_range hn

theorem darninglaw20_ModelRoots.t {x0 x1 x2 : Int} (h0 : (Lit.int .i64 x0).wf = true) (h1 : (Lit.int .i64 x1).wf = true) (h2 : (Lit.int .i64 x2).wf = true) : darninglaw20_ModelRoots x0 x1 x2 H (fun r _ => r = true) := by
  have aw : ∀ H', darninglaw20_awake H' fun b _ => b = true := fun H' => darninglaw20_awake.s fun _ => rfl
  have hx2 := wf_i64 h2
  refine darninglaw20_ModelRoots.link ?_
  unfold darninglaw20_ModelRoots.b
  obtain ⟨r, hr1, hr2, hr⟩ := umod' (x := x1) (m := 16) (by omega)
  rw [hr, wrap_i64 (n := 1 + r) (by omega) (by omega)]
  refine model_New.s (fun hm => ?_) ?_
  · rw [Option.isNone_none, bcase_true]
    refine darningref4_NewModel.s (fun _ => ?_) (fun hh => absurd hh hm)
    rw [Option.isNone_none, bcase_true]
    exact aw H
  intro hm F p H12 hk12 hu12 hM12
  rw [Option.isNone_some, bcase_false]
  refine ⟨by decide, ?_⟩
  have hm' := hm
  unfold mayW at hm'
  have hneed : needN (1 + r) = 1 + (1 + r + 7) / 8 := by unfold needN; rw [if_pos (by omega)]
  obtain ⟨hfo, tk, htk, ha1, hR1⟩ := alloc_first (n := 1 + r) hm (by omega) (by omega)
  refine model_Model_Fits.s hM12 (by unfold isI; omega) ?_
  intro s28 H28 hk28 hO28
  rw [hfo] at hO28
  obtain ⟨hn, b28, ha28, hc28, hb28, hb28'⟩ := own_one hO28
  rw [hn, bcase_eq, if_neg (by simp)]
  refine ⟨by omega, ?_⟩
  rw [ha28, onPtr_mk, addr_add]
  have hc28' : AH.cell? H28 ⟨b28, 0 + Int.toNat 0 * 1, none⟩ = some (.int .i64 8) := by rw [← hc28]; rfl
  rw [hc28', elI_some]
  have hM28 := hM12.keeps hk28
  have hnF : ¬ F b28 := fun h => by have := hM12.lt _ h; omega
  refine model_Model_Alloc.s hM28 (by unfold isI; omega) (by unfold isI; omega) ?_
  intro G H38 hu38 hM38
  rw [ha1, Bool.not_true]
  generalize (aAlloc (firstN x0) (1 + r) 8).2 = ws1 at *
  unfold darninglaw20_ModelRoots.j3
  rw [bcase_false, hn]
  refine ⟨by omega, ?_⟩
  rw [ha28, onPtr_mk, addr_add]
  have hc38 : AH.cell? H38 ⟨b28, 0 + Int.toNat 0 * 1, none⟩ = some (.int .i64 8) := by
    rw [← hc28']
    simp only [AH.cell?]
    rw [hu38.1.2 _ hb28 hnF]
  rw [hc38, elI_some]
  have htr := takesN_range' (sz := x0) (need := needN (1 + r)) (by omega)
  rw [htk] at htr
  have hxm : ((0 : Int), tk, List.replicate ((tk.toNat - 1) * 8) (0 : Int)) ∈ [((0 : Int), tk, List.replicate ((tk.toNat - 1) * 8) (0 : Int))] := by simp
  -- the root that is asked for
  refine model_Model_SetRoot.s hM38 ?_
  intro H52 hu52 hM52
  have main : ∀ root, MW G H52 p ws1 root → darninglaw20_ModelRoots.j2 (fun r _ => r = true) (some ⟨p, 0, none⟩) 8 H52 false := by
    intro root hM52
    unfold darninglaw20_ModelRoots.j2
    rw [bcase_false]
    refine model_Model_SetRoot.s hM52 ?_
    intro H73 hu73 hM73
    rw [hR1.rt hxm (by simp)] at hM73 ⊢
    rw [bcase_eq, if_neg (by simp)]
    refine model_Model_Root.s hM73 ?_
    rw [bcase_eq, if_neg (by simp)]
    refine model_Model_Free.s hM73 ?_
    intro G84 H84 hu84 hM84
    rw [hR1.fr hxm (by simp)] at hM84 ⊢
    rw [bcase_eq, if_neg (by simp)]
    refine model_Model_SetRoot.s hM84 ?_
    intro H89 hu89 hM89
    rw [aRoot0] at hM89 ⊢
    rw [show ((0 : Int) != 0) = false from rfl]
    unfold darninglaw20_ModelRoots.j1
    rw [bcase_false]
    refine model_Model_Free.s hM89 ?_
    intro G94 H94 hu94 hM94
    obtain ⟨f1, f2⟩ := MR.fr0 (e1 := []) (e2 := []) (root := 0) (off := 8) hR1 (by simp) (by omega)
    rw [f1, bcase_eq, if_pos (by simp)]
    have f2 : MR x0 [] (aFree ws1 0 8).2 := f2
    generalize (aFree ws1 0 8).2 = ws2 at *
    refine model_Model_Free.s hM94 ?_
    intro G99 H99 hu99 hM99
    rw [f2.fr1 (fun x hx => by cases hx)] at hM99 ⊢
    rw [bcase_eq, if_pos (by simp)]
    refine model_Model_SetRoot.s hM99 ?_
    intro H105 hu105 hM105
    rw [f2.rt1 (fun x hx => by cases hx) (by omega)] at hM105 ⊢
    rw [bcase_eq, if_pos (by simp)]
    refine model_Model_Root.s hM105 ?_
    rw [bcase_eq, if_pos (by simp)]
    refine model_Model_Blocks.s hM105 ?_
    intro s115 H115 _ hO115
    have hb2 : (blkL ws2).length = 1 := by
      rw [f2.blk']
      show (gapB 0 x0).length = 1
      unfold gapB
      rw [if_pos (by omega)]; rfl
    rw [own_len hO115]
    simp only
    rw [hb2, bcase_eq, if_pos (by simp)]
    exact aw _
  have hM52' := main _ hM52
  by_cases hz : x2 = 0
  · subst hz
    rw [aRoot0, bcase_eq, if_pos (by simp), bcase_eq, if_neg (by simp), bcase_eq, if_neg (by simp)]
    exact hM52'
  rw [bcase_eq, if_neg (by simpa using hz)]
  by_cases h8 : x2 = 8
  · subst h8
    rw [hR1.rt hxm (by simp), bcase_eq, if_neg (by simp), bcase_eq, if_neg (by simp)]
    exact hM52'
  · rw [hR1.rt1 (fun x hx => by simp at hx; subst hx; simp; omega) hz, bcase_eq, if_neg (by simpa using h8), bcase_eq, if_pos (by simp)]
    exact hM52'
end
end Go.Proofs.Ytgddfhnochcolaa
