import Derived.Test.YtmbipadfcbndgaaAbsTwo
import Derived.Test.YtmbipadfcbndgaaG1
set_option linter.all false
namespace Go.Proofs.Ytmbipadfcbndgaa
open Go Go.Abs

def pl (a b c d : Int) : List Value := [.int .i64 a, .int .i64 b, .int .i64 c, .int .i64 d]
def mayP (a b c d : Int) : Bool := decide (1 ≤ a ∧ a ≤ 64 ∧ 0 ≤ b ∧ b ≤ 16 ∧ 1 ≤ c ∧ c ≤ 1000 ∧ 1 ≤ d ∧ d ≤ 100)
def wordsP (a b c d : Int) : Int := if mayP a b c d = true then 8 * a else 0
def pagesP (a b c d : Int) : Int := if mayP a b c d = true then (a + 3) / 4 else 0
def logicalP (a b c d : Int) : Int := if mayP a b c d = true then 16 + a else 0
def deviceP (a b c d : Int) : Int := if mayP a b c d = true then 17 + a + b else 0
def homeP (a b c d x : Int) : Int := if mayP a b c d = true ∧ 0 ≤ x ∧ x < a then 16 + x else -1

section
variable {a b c d x : Int} {H : AH} {e : Nat}

theorem pl_row : AH.row? (H.push ⟨pl a b c d, .rw, e⟩) ⟨H.size, 0, none⟩ 4 = some (pl a b c d) := row_new rfl rfl
theorem pl_ld {k : List Value → Prop} : ldA (H.push ⟨pl a b c d, .rw, e⟩) ⟨H.size, 0, none⟩ 4 k ↔ k (pl a b c d) := ldA_some pl_row
theorem pl_0 : AH.cell? (H.push ⟨pl a b c d, .rw, e⟩) (Addr.add ⟨H.size, 0, none⟩ 0) = some (.int .i64 a) := cell_new _ _ _ _
theorem pl_1 : AH.cell? (H.push ⟨pl a b c d, .rw, e⟩) (Addr.add ⟨H.size, 0, none⟩ 1) = some (.int .i64 b) := cell_new _ _ _ _
theorem pl_2 : AH.cell? (H.push ⟨pl a b c d, .rw, e⟩) (Addr.add ⟨H.size, 0, none⟩ 2) = some (.int .i64 c) := cell_new _ _ _ _
theorem pl_3 : AH.cell? (H.push ⟨pl a b c d, .rw, e⟩) (Addr.add ⟨H.size, 0, none⟩ 3) = some (.int .i64 d) := cell_new _ _ _ _
theorem mayP_iff : mayP a b c d = true ↔ 1 ≤ a ∧ a ≤ 64 ∧ 0 ≤ b ∧ b ≤ 16 ∧ 1 ≤ c ∧ c ≤ 1000 ∧ 1 ≤ d ∧ d ≤ 100 := by simp [mayP]
theorem hK {o : AObj} {P : Prop} : (Keeps H (H.push o) ∧ P) ↔ P := ⟨fun h => h.2, fun h => ⟨(Keeps.refl H).push _, h⟩⟩

theorem plan_May.s {k : Bool → AH → Prop} (h : k (mayP a b c d) H) : plan_May (pl a b c d) H k := by
  refine gcB (mayP a b c d) (plan_May.link ?_) h
  simp only [plan_May.b, newC_eq, pl_0, pl_1, pl_2, pl_3, elI_some, bcase_eq, decide_eq_true_eq, hK]
  repeat' split
  all_goals simp only [mayP, decide_eq_decide, Bool.false_eq, decide_eq_false_iff_not]
  all_goals omega

theorem darningref4_MayPlan.s {k : Bool → AH → Prop} (h : k (mayP a b c d) H) : darningref4_MayPlan (pl a b c d) H k := by
  refine gcB (mayP a b c d) (darningref4_MayPlan.link ?_) h
  simp only [darningref4_MayPlan.b, newC_eq, pl_0, pl_1, pl_2, pl_3, elI_some, bcase_eq, decide_eq_true_eq, hK]
  repeat' split
  all_goals simp only [mayP, decide_eq_decide, Bool.false_eq, decide_eq_false_iff_not]
  all_goals omega

theorem plan_Words.s {k : Int → AH → Prop} (h : k (wordsP a b c d) H) : plan_Words (pl a b c d) H k := by
  refine gcI (wordsP a b c d) (plan_Words.link ?_) h
  simp only [plan_Words.b, newC_eq, pl_ld]
  refine plan_May.s ?_
  simp only [pl_0, elI_some, bcase_eq, hK, wordsP, Bool.not_eq_true']
  cases hm : mayP a b c d
  · simp
  · have := mayP_iff.1 hm
    simp only [Bool.true_eq_false, eq_self, if_false, if_true]
    rw [wrap_i64 (by omega) (by omega)]
    omega

theorem count_Page.s {k : Int → AH → Prop} (hx : -9223372036854775808 ≤ x ∧ x ≤ 9223372036854775807) (h : k ((if 0 > x then 0 else x) / 4) H) : count_Page x H k := by
  refine gcI ((if 0 > x then 0 else x) / 4) (count_Page.link ?_) h
  refine ⟨by decide, Keeps.refl H, ?_⟩
  have : (0 : Int) ≤ (if 0 > x then 0 else x) := by split <;> omega
  rw [Int.tdiv_eq_ediv_of_nonneg this, wrap_i64 (by split <;> omega) (by split <;> omega)]

theorem plan_Pages.s {k : Int → AH → Prop} (h : k (pagesP a b c d) H) : plan_Pages (pl a b c d) H k := by
  refine gcI (pagesP a b c d) (plan_Pages.link ?_) h
  simp only [plan_Pages.b, newC_eq, pl_ld]
  refine plan_May.s ?_
  simp only [pl_0, elI_some, bcase_eq, hK, pagesP, Bool.not_eq_true']
  cases hm : mayP a b c d
  · simp
  · have := mayP_iff.1 hm
    simp only [Bool.true_eq_false, eq_self, if_false, if_true]
    rw [wrap_i64 (by omega) (by omega)]
    refine count_Page.s (by omega) ?_
    rw [wrap_i64 (by split <;> omega) (by split <;> omega)]
    simp only [hK]
    split <;> omega

theorem darningref4_Pages.s {k : Int → AH → Prop} (h : k (pagesP a b c d) H) : darningref4_Pages (pl a b c d) H k := by
  refine gcI (pagesP a b c d) (darningref4_Pages.link ?_) h
  simp only [darningref4_Pages.b, newC_eq, pl_ld]
  refine darningref4_MayPlan.s ?_
  simp only [pl_0, elI_some, bcase_eq, hK, pagesP, Bool.not_eq_true']
  cases hm : mayP a b c d
  · simp
  · have := mayP_iff.1 hm
    simp only [Bool.true_eq_false, eq_self, if_false, if_true]
    refine ⟨by decide, ?_⟩
    rw [wrap_i64 (n := a + 4) (by omega) (by omega), wrap_i64 (n := a + 4 - 1) (by omega) (by omega), Int.tdiv_eq_ediv_of_nonneg (by omega), wrap_i64 (by omega) (by omega)]
    omega

theorem plan_Logical.s {k : Int → AH → Prop} (h : k (logicalP a b c d) H) : plan_Logical (pl a b c d) H k := by
  refine gcI (logicalP a b c d) (plan_Logical.link ?_) h
  simp only [plan_Logical.b, newC_eq, pl_ld]
  refine plan_May.s ?_
  simp only [pl_0, elI_some, bcase_eq, hK, logicalP, Bool.not_eq_true']
  cases hm : mayP a b c d
  · simp
  · have := mayP_iff.1 hm
    simp only [Bool.true_eq_false, eq_self, if_false, if_true]
    rw [wrap_i64 (by omega) (by omega)]

theorem plan_Device.s {k : Int → AH → Prop} (h : k (deviceP a b c d) H) : plan_Device (pl a b c d) H k := by
  refine gcI (deviceP a b c d) (plan_Device.link ?_) h
  simp only [plan_Device.b, newC_eq, pl_ld]
  refine plan_May.s ?_
  simp only [pl_0, pl_1, elI_some, bcase_eq, hK, deviceP, Bool.not_eq_true']
  cases hm : mayP a b c d
  · simp
  · have := mayP_iff.1 hm
    simp only [Bool.true_eq_false, eq_self, if_false, if_true]
    rw [pl_ld]
    refine plan_Logical.s ?_
    refine ⟨pl_1, ?_⟩
    simp only [logicalP, hm, if_true, hK]
    rw [wrap_i64 (n := 16 + a + 1) (by omega) (by omega), wrap_i64 (by omega) (by omega)]
    omega

theorem darningref4_Device.s {k : Int → AH → Prop} (h : k (deviceP a b c d) H) : darningref4_Device (pl a b c d) H k := by
  refine gcI (deviceP a b c d) (darningref4_Device.link ?_) h
  simp only [darningref4_Device.b, newC_eq, pl_ld]
  refine darningref4_MayPlan.s ?_
  simp only [pl_0, pl_1, elI_some, bcase_eq, hK, deviceP, Bool.not_eq_true']
  cases hm : mayP a b c d
  · simp
  · have := mayP_iff.1 hm
    simp only [Bool.true_eq_false, eq_self, if_false, if_true]
    rw [wrap_i64 (n := 16 + a) (by omega) (by omega), wrap_i64 (n := 16 + a + 1) (by omega) (by omega), wrap_i64 (by omega) (by omega)]
    omega

theorem plan_Home.s {k : Int → AH → Prop} (h : k (homeP a b c d x) H) : plan_Home (pl a b c d) x H k := by
  refine gcI (homeP a b c d x) (plan_Home.link ?_) h
  simp only [plan_Home.b, newC_eq, pl_ld]
  refine plan_May.s ?_
  simp only [pl_0, pl_1, elI_some, bcase_eq, hK, homeP, Bool.not_eq_true', decide_eq_true_eq]
  cases hm : mayP a b c d
  · simp
  · have := mayP_iff.1 hm
    simp only [Bool.true_eq_false, eq_self, if_false, true_and]
    split
    · rw [if_neg (by omega)]
    · split
      · rw [if_neg (by omega)]
      · rw [if_pos (by omega), wrap_i64 (by omega) (by omega)]

theorem darninglaw11_awake.s {k : Bool → AH → Prop} (h : k true H) : darninglaw11_awake H k := by
  refine gcB (true) (darninglaw11_awake.link (_u := ()) ?_) h
  simp only [darninglaw11_awake.b, newC_eq, stC_eq, put_new, canPut_new]
  refine ⟨⟨rfl, rfl⟩, by decide, ?_⟩
  simp only [show setMany [Value.int .i64 0, Value.int .i64 0, Value.int .i64 0, Value.int .i64 0] 0 [Value.int .i64 4, Value.int .i64 2, Value.int .i64 1, Value.int .i64 1] = pl 4 2 1 1 from rfl]
  rw [pl_ld]
  refine plan_May.s ?_
  rw [show mayP 4 2 1 1 = true from rfl, bcase_true, pl_ld]
  refine plan_Words.s ?_
  rw [show wordsP 4 2 1 1 = 32 from rfl, show ((32 : Int) == 32) = true from rfl, bcase_true, pl_ld]
  refine plan_Pages.s ?_
  rw [show pagesP 4 2 1 1 = 1 from rfl, show ((1 : Int) == 1) = true from rfl, bcase_true, pl_ld]
  refine plan_Logical.s ?_
  rw [show logicalP 4 2 1 1 = 20 from rfl, show ((20 : Int) == 20) = true from rfl, bcase_true, pl_ld]
  refine plan_Device.s ?_
  rw [show deviceP 4 2 1 1 = 23 from rfl, show ((23 : Int) == 23) = true from rfl, bcase_true, pl_ld]
  refine plan_Home.s ?_
  rw [show homeP 4 2 1 1 3 = 19 from rfl, show ((19 : Int) == 19) = true from rfl, bcase_true, pl_ld]
  refine plan_Home.s ?_
  rw [hK]
  rfl

end
end Go.Proofs.Ytmbipadfcbndgaa
