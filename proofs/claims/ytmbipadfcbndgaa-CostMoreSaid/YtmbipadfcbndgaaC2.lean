import Derived.Test.YtmbipadfcbndgaaC1
set_option linter.all false
namespace Go.Proofs.Ytmbipadfcbndgaa
open Go Go.Abs

section
variable {K p q r a b c d x : Int} {sl : Sl} {H : AH} {e e' : Nat} {o : AObj}

theorem op2_row : AH.row? ((H.push ⟨opl K p q r sl, .rw, e⟩).push o) ⟨H.size, 0, none⟩ 5 = some (opl K p q r sl) := by rw [row_old (by simp [push_size])]; exact op_row
theorem op2_ld {k : List Value → Prop} : ldA ((H.push ⟨opl K p q r sl, .rw, e⟩).push o) ⟨H.size, 0, none⟩ 5 k ↔ k (opl K p q r sl) := ldA_some op2_row
theorem op2_4 : AH.cell? ((H.push ⟨opl K p q r sl, .rw, e⟩).push o) (Addr.add ⟨H.size, 0, none⟩ 4) = some sl.val := by
  rw [addr_add, cell_old (by simp [push_size])]; exact cell_new _ _ _ _

theorem darninglaw24_CostForms.t : darninglaw24_CostForms (opl K p q r sl) x (pl a b c d) H (fun r _ => r = true) := by
  refine darninglaw24_CostForms.link ?_
  simp only [darninglaw24_CostForms.b, newC_eq, op2_4, elL_val]
  by_cases hn : ((sl.n : Nat) : Int) > 1000
  · rw [show decide (((sl.n : Nat) : Int) > 1000) = true from by simpa using hn, bcase_true]; exact darninglaw24_awake.s rfl
  · rw [show decide (((sl.n : Nat) : Int) > 1000) = false from by simpa using hn, bcase_false, pl_ld]
    refine darningref4_MayPlan.s ?_
    have main : darninglaw24_CostForms.j1 x (fun r _ => r = true) H.size (H.push ⟨opl K p q r sl, .rw, 0⟩).size ((H.push ⟨opl K p q r sl, .rw, 0⟩).push ⟨pl a b c d, .rw, 0⟩) (if mayP a b c d = true then 200 else 0) := by
      unfold darninglaw24_CostForms.j1
      rw [op2_ld, op2_ld]; refine cost_Lines.s ⟨op2_row, darningref4_CostLines.s ?_⟩
      rw [beq_self_eq_true, bcase_true, op2_ld, op2_ld]; refine cost_Op.s ⟨op2_row, darningref4_CostOp.s ?_⟩
      rw [beq_self_eq_true, bcase_true]; refine cost_Recover.s (darningref4_CostRecover.s ?_)
      rw [beq_self_eq_true, bcase_true, pl_ld]; refine cost_Format.s ?_
      rw [beq_self_eq_true, bcase_true]; exact darninglaw24_awake.s rfl
    cases hm : mayP a b c d
    · rw [hm] at main; exact main
    · rw [hm] at main; exact main
end
end Go.Proofs.Ytmbipadfcbndgaa
