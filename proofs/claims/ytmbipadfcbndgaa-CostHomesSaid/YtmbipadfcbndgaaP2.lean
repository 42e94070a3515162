import Derived.Test.YtmbipadfcbndgaaP1
set_option linter.all false
namespace Go.Proofs.Ytmbipadfcbndgaa
open Go Go.Abs

section
variable {a b c d x y : Int} {H : AH} {e : Nat}

theorem PlanForms_j1 {k : Bool → AH → Prop} (hk : ∀ H', k true H') :
    darninglaw11_PlanForms.j1 x k H.size (H.push ⟨pl a b c d, .rw, e⟩) (mayP a b c d) (wordsP a b c d) (logicalP a b c d) (homeP a b c d x) := by
  unfold darninglaw11_PlanForms.j1
  rw [pl_ld]; refine plan_May.s ?_
  rw [beq_self_eq_true, bcase_true, pl_ld]; refine plan_Words.s ?_
  rw [beq_self_eq_true, bcase_true, pl_ld, pl_ld]; refine plan_Pages.s ⟨pl_row, darningref4_Pages.s ?_⟩
  rw [beq_self_eq_true, bcase_true, pl_ld]; refine plan_Logical.s ?_
  rw [beq_self_eq_true, bcase_true, pl_ld, pl_ld]; refine plan_Device.s ⟨pl_row, darningref4_Device.s ?_⟩
  rw [beq_self_eq_true, bcase_true, pl_ld]; refine plan_Home.s ?_
  rw [beq_self_eq_true, bcase_true]; exact darninglaw11_awake.s (hk _)

theorem darninglaw11_PlanForms.t : darninglaw11_PlanForms (pl a b c d) x H (fun r _ => r = true) := by
  refine darninglaw11_PlanForms.link ?_
  simp only [darninglaw11_PlanForms.b, newC_eq, pl_ld]
  refine darningref4_MayPlan.s ?_
  simp only [pl_0, elI_some]
  have main := PlanForms_j1 (a := a) (b := b) (c := c) (d := d) (x := x) (H := H) (e := 0) (k := fun r _ => r = true) (fun _ => rfl)
  cases hm : mayP a b c d
  · simp only [hm, wordsP, logicalP, homeP, Bool.false_eq_true, false_and, if_false] at main
    exact main
  · have hr := mayP_iff.1 hm
    simp only [hm, wordsP, logicalP, homeP, eq_self, true_and, if_true] at main
    rw [bcase_true]
    simp only [darninglaw11_PlanForms.j3, darninglaw11_PlanForms.j2, bcase_eq, decide_eq_true_eq]
    rw [wrap_i64 (n := a * 8) (by omega) (by omega), wrap_i64 (n := 16 + a) (by omega) (by omega), Int.mul_comm a 8]
    split
    · split
      · rw [if_pos (by omega)] at main
        rw [wrap_i64 (by omega) (by omega)]; exact main
      · rw [if_neg (by omega)] at main; exact main
    · rw [if_neg (by omega)] at main; exact main

theorem PlanHomes_j1 {k : Bool → AH → Prop} (hk : ∀ H', k true H') {H' : AH} (hH : H' = H.push ⟨pl a b c d, .rw, e⟩) :
    darninglaw11_PlanHomes.j1 x y k H.size (!mayP a b c d) H' := by
  subst hH
  unfold darninglaw11_PlanHomes.j1
  cases hm : mayP a b c d
  · rw [Bool.not_false, bcase_true, pl_ld, pl_ld]; refine plan_May.s ⟨pl_row, darningref4_MayPlan.s ?_⟩
    rw [beq_self_eq_true, bcase_true, pl_ld]; refine plan_Device.s ?_
    rw [show deviceP a b c d = 0 from by simp [deviceP, hm], beq_self_eq_true, bcase_true, pl_ld]; refine plan_Words.s ?_
    rw [show wordsP a b c d = 0 from by simp [wordsP, hm], beq_self_eq_true, bcase_true]; exact darninglaw11_awake.s (hk _)
  · have hr := mayP_iff.1 hm
    rw [Bool.not_true, bcase_false]
    simp only [pl_0, pl_1, elI_some, pl_ld, pl_row]
    rw [wrap_u64 (n := a) (by omega) (by omega)]
    have range : ∀ z : Int, 0 ≤ Int.tmod (IntKind.wrap .u64 z) a ∧ Int.tmod (IntKind.wrap .u64 z) a < a := by
      intro z
      have h0 : 0 ≤ IntKind.wrap .u64 z := by
        simp only [IntKind.wrap, IntKind.bits, IntKind.signed, Bool.false_and, Int.reducePow, Bool.false_eq_true, if_false]; omega
      rw [Int.tmod_eq_emod_of_nonneg h0]
      exact ⟨Int.emod_nonneg _ (by omega), Int.emod_lt_of_pos _ (by omega)⟩
    have rx := range x
    have ry := range y
    generalize Int.tmod (IntKind.wrap .u64 x) a = p at *
    generalize Int.tmod (IntKind.wrap .u64 y) a = q at *
    rw [wrap_i64 (n := p) (by omega) (by omega), wrap_i64 (n := q) (by omega) (by omega)]
    refine ⟨by omega, by omega, plan_Home.s ⟨pl_row, plan_Home.s ?_⟩⟩
    rw [show homeP a b c d p = 16 + p from by simp [homeP, hm, rx], show homeP a b c d q = 16 + q from by simp [homeP, hm, ry]]
    rw [show (((16 + p : Int) == 16 + q) == (p == q)) = true from by
      by_cases h : p = q
      · subst h; simp
      · rw [show (p == q) = false from by simpa using h, show ((16 + p : Int) == 16 + q) = false from by simp; omega]; rfl]
    rw [bcase_true, show decide ((16 + p : Int) ≥ 16) = true from by simp; omega, bcase_true, pl_ld]
    refine plan_Logical.s ?_
    rw [show logicalP a b c d = 16 + a from by simp [logicalP, hm], show decide ((16 + p : Int) < 16 + a) = true from by simp; omega, bcase_true]
    simp only [pl_ld, pl_1, elI_some]
    refine plan_Device.s ⟨pl_1, pl_row, plan_Logical.s ⟨pl_1, ?_⟩⟩
    rw [show logicalP a b c d = 16 + a from by simp [logicalP, hm], show deviceP a b c d = 17 + a + b from by simp [deviceP, hm]]
    rw [wrap_i64 (n := 16 + a + 1) (by omega) (by omega), wrap_i64 (n := 16 + a + 1 + b) (by omega) (by omega), show ((17 + a + b : Int) == 16 + a + 1 + b) = true from by simp; omega, bcase_true]
    simp only [pl_ld, pl_0, elI_some]
    refine plan_Words.s ⟨pl_0, ?_⟩
    rw [show wordsP a b c d = 8 * a from by simp [wordsP, hm], wrap_i64 (n := 8 * a) (by omega) (by omega), beq_self_eq_true, bcase_true, pl_ld]
    refine plan_Pages.s ?_
    rw [show pagesP a b c d = (a + 3) / 4 from by simp [pagesP, hm], show decide ((a + 3) / 4 ≤ (16 : Int)) = true from by simp; omega, bcase_true]
    refine ⟨by decide, ?_⟩
    rw [pl_ld]
    refine plan_Pages.s ?_
    rw [show pagesP a b c d = (a + 3) / 4 from by simp [pagesP, hm], Int.tdiv_eq_ediv_of_nonneg rx.1, wrap_i64 (by omega) (by omega), show decide (p / 4 < (a + 3) / 4) = true from by simp; omega, bcase_true]
    exact darninglaw11_awake.s (hk _)

theorem darninglaw11_PlanHomes.t : darninglaw11_PlanHomes (pl a b c d) x y H (fun r _ => r = true) := by
  refine darninglaw11_PlanHomes.link ?_
  simp only [darninglaw11_PlanHomes.b, newC_eq, pl_ld]
  refine plan_May.s ?_
  have main := PlanHomes_j1 (a := a) (b := b) (c := c) (d := d) (x := x) (y := y) (H := H) (e := 0) (k := fun r _ => r = true) (fun _ => rfl) rfl
  cases hm : mayP a b c d
  · rw [hm] at main; exact main
  · rw [Bool.not_true, bcase_false, pl_ld]
    exact darningref4_MayPlan.s main

theorem pl_nil : ([(Value.int .i64 (0 : Int)), (Value.int .i64 (0 : Int)), (Value.int .i64 (0 : Int)), (Value.int .i64 (0 : Int))] : List Value) = pl 0 0 0 0 := rfl
theorem pl_put (p q r s p' q' r' s' : Int) : AH.put (H.push ⟨pl p q r s, .rw, e⟩) ⟨H.size, 0, none⟩ [(Value.int .i64 p'), (Value.int .i64 q'), (Value.int .i64 r'), (Value.int .i64 s')] = H.push ⟨pl p' q' r' s', .rw, e⟩ := put_new _ _ _ _ _
theorem pl_put0 (v : Int) : AH.put (H.push ⟨pl a b c d, .rw, e⟩) (Addr.add ⟨H.size, 0, none⟩ 0) [(Value.int .i64 v)] = H.push ⟨pl v b c d, .rw, e⟩ := put_new _ _ _ _ _
theorem pl_put1 (v : Int) : AH.put (H.push ⟨pl a b c d, .rw, e⟩) (Addr.add ⟨H.size, 0, none⟩ 1) [(Value.int .i64 v)] = H.push ⟨pl a v c d, .rw, e⟩ := put_new _ _ _ _ _
theorem pl_put2 (v : Int) : AH.put (H.push ⟨pl a b c d, .rw, e⟩) (Addr.add ⟨H.size, 0, none⟩ 2) [(Value.int .i64 v)] = H.push ⟨pl a b v d, .rw, e⟩ := put_new _ _ _ _ _
theorem pl_put3 (v : Int) : AH.put (H.push ⟨pl a b c d, .rw, e⟩) (Addr.add ⟨H.size, 0, none⟩ 3) [(Value.int .i64 v)] = H.push ⟨pl a b c v, .rw, e⟩ := put_new _ _ _ _ _
theorem pl_can : AH.canPut (H.push ⟨pl a b c d, .rw, e⟩) ⟨H.size, 0, none⟩ 4 := canPut_new.2 (by simp [pl])
theorem pl_can0 : AH.canPut (H.push ⟨pl a b c d, .rw, e⟩) (Addr.add ⟨H.size, 0, none⟩ 0) 1 := canPut_new.2 (by simp [pl])
theorem pl_can1 : AH.canPut (H.push ⟨pl a b c d, .rw, e⟩) (Addr.add ⟨H.size, 0, none⟩ 1) 1 := canPut_new.2 (by simp [pl])
theorem pl_can2 : AH.canPut (H.push ⟨pl a b c d, .rw, e⟩) (Addr.add ⟨H.size, 0, none⟩ 2) 1 := canPut_new.2 (by simp [pl])
theorem pl_can3 : AH.canPut (H.push ⟨pl a b c d, .rw, e⟩) (Addr.add ⟨H.size, 0, none⟩ 3) 1 := canPut_new.2 (by simp [pl])

theorem PlanEdges_j1 {k : Bool → AH → Prop} (hk : ∀ H', k true H') {f : Bool} (hf : f = mayP a b c d) (hbd : mayP a b c d = true → a ≤ 64 ∧ b ≤ 16) :
    darninglaw11_PlanEdges.j1 k H.size f (H.push ⟨pl a b c d, .rw, e⟩) := by
  subst hf
  unfold darninglaw11_PlanEdges.j1
  rw [pl_ld]; refine plan_May.s ?_
  rw [beq_self_eq_true, Bool.not_true, bcase_false]
  cases hm : mayP a b c d
  · rw [Bool.not_false, bcase_true]
    simp only [pl_ld, pl_row]
    refine plan_Words.s ⟨pl_row, pl_row, pl_row, plan_Pages.s ⟨pl_row, pl_row, plan_Logical.s ⟨pl_row, plan_Device.s ?_⟩⟩⟩
    rw [show deviceP a b c d = 0 from by simp [deviceP, hm], show wordsP a b c d = 0 from by simp [wordsP, hm], show pagesP a b c d = 0 from by simp [pagesP, hm], show logicalP a b c d = 0 from by simp [logicalP, hm]]
    rw [show (IntKind.wrap .i64 ((IntKind.wrap .i64 ((IntKind.wrap .i64 (0 + 0 : Int)) + 0)) + 0) == (0 : Int)) = true from rfl, bcase_true, pl_ld]
    refine plan_Home.s ?_
    rw [show homeP a b c d 0 = -1 from by simp [homeP, hm], beq_self_eq_true, bcase_true]
    exact darninglaw11_awake.s (hk _)
  · have hr := mayP_iff.1 hm
    rw [Bool.not_true, bcase_false, pl_ld]
    refine plan_Device.s ?_
    rw [show deviceP a b c d = 17 + a + b from by simp [deviceP, hm], show decide (17 + a + b ≤ (200 : Int)) = true from by simp; omega, bcase_true, pl_ld]
    refine plan_Home.s ?_
    rw [show homeP a b c d 0 = 16 from by simp [homeP, hm]; omega, beq_self_eq_true, bcase_true]
    simp only [pl_ld, pl_0, elI_some]
    refine plan_Home.s ?_
    rw [show homeP a b c d a = -1 from by simp [homeP], beq_self_eq_true, bcase_true, pl_ld]
    refine plan_Home.s ?_
    rw [show homeP a b c d (-1) = -1 from by simp [homeP], beq_self_eq_true, bcase_true]
    simp only [pl_ld, pl_0, elI_some]
    rw [wrap_i64 (n := a - 1) (by omega) (by omega)]
    refine count_Page.s (by omega) ⟨pl_row, plan_Pages.s ?_⟩
    rw [show pagesP a b c d = (a + 3) / 4 from by simp [pagesP, hm], wrap_i64 (by omega) (by omega), if_neg (by omega), show ((a - 1) / 4 == (a + 3) / 4 - 1) = true from by simp; omega, bcase_true]
    exact darninglaw11_awake.s (hk _)

theorem darninglaw11_PlanEdges.t : darninglaw11_PlanEdges x y H (fun r _ => r = true) := by
  refine darninglaw11_PlanEdges.link ?_
  simp only [darninglaw11_PlanEdges.b, newC_eq, stC_eq, List.length_cons, List.length_nil, Nat.zero_add, Nat.reduceAdd, pl_nil, pl_put, pl_can, pl_put0, pl_put1, pl_put2, pl_put3, pl_can0, pl_can1, pl_can2, pl_can3, true_and]
  refine ⟨rfl, by decide, ?_⟩
  have hk : ∀ H' : AH, (fun (r : Bool) (_ : AH) => r = true) true H' := fun _ => rfl
  simp only [bcase_eq, decide_eq_true_eq]
  repeat' split
  all_goals refine PlanEdges_j1 hk ?_ (fun h => by have := mayP_iff.1 h; omega)
  all_goals simp only [mayP, decide_eq_decide, Bool.false_eq, decide_eq_false_iff_not]
  all_goals omega

end
end Go.Proofs.Ytmbipadfcbndgaa
