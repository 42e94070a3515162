import Derived.Test.YtmbipadfcbndgaaP3
set_option linter.all false
namespace Go.Proofs.Ytmbipadfcbndgaa
open Go Go.Abs

def opl (K a b c : Int) (s : Sl) : List Value := [.int .i64 K, .int .i64 a, .int .i64 b, .int .i64 c, s.val]
def linesP (K b : Int) (n : Nat) : Int :=
  if K = 1 then (if 0 ≤ b ∧ b ≤ 448 then b / 64 + 4 else 0) else if K = 4 then (if n ≤ 448 then (n : Int) / 64 + 2 else 0) else if K = 2 then 1 else 0
def costP (K b : Int) (n : Nat) (m : Int) : Int :=
  if 0 ≤ m ∧ m ≤ 16 then (if K = 5 then 1 else if linesP K b n = 0 then 0 else 12 * linesP K b n + 24 + 4 * m) else 0
def recP (m : Int) : Int := if 0 ≤ m ∧ m ≤ 16 then 192 + 4 * m else 0

section
variable {K a b c d m x : Int} {sl : Sl} {H : AH} {e : Nat}

theorem op_row : AH.row? (H.push ⟨opl K a b c sl, .rw, e⟩) ⟨H.size, 0, none⟩ 5 = some (opl K a b c sl) := row_new rfl rfl
theorem op_ld {k : List Value → Prop} : ldA (H.push ⟨opl K a b c sl, .rw, e⟩) ⟨H.size, 0, none⟩ 5 k ↔ k (opl K a b c sl) := ldA_some op_row
theorem op_0 : AH.cell? (H.push ⟨opl K a b c sl, .rw, e⟩) (Addr.add ⟨H.size, 0, none⟩ 0) = some (.int .i64 K) := cell_new _ _ _ _
theorem op_2 : AH.cell? (H.push ⟨opl K a b c sl, .rw, e⟩) (Addr.add ⟨H.size, 0, none⟩ 2) = some (.int .i64 b) := cell_new _ _ _ _
theorem op_4 : AH.cell? (H.push ⟨opl K a b c sl, .rw, e⟩) (Addr.add ⟨H.size, 0, none⟩ 4) = some sl.val := cell_new _ _ _ _
theorem elL_val {k : Sl → Prop} : elL (some sl.val) k ↔ k sl := elL_some _ _ _ _

theorem linesP_range : 0 ≤ linesP K b sl.n ∧ linesP K b sl.n ≤ 11 := by
  unfold linesP
  repeat' split
  all_goals omega

theorem cost_Lines.s {k : Int → AH → Prop} (h : k (linesP K b sl.n) H) : cost_Lines (opl K a b c sl) H k := by
  refine gcI (linesP K b sl.n) (cost_Lines.link ?_) h
  simp only [cost_Lines.b, newC_eq, op_0, op_2, op_4, elI_some, elL_val, bcase_false, bcase_eq, decide_eq_true_eq, beq_iff_eq, cost_Lines.j1, hK]
  unfold linesP
  by_cases h1 : K = 1
  · rw [if_pos h1, if_pos h1]
    by_cases h2 : 0 ≤ b ∧ b ≤ 448
    · rw [if_pos h2.1, if_pos h2.2, if_pos h2]
      refine ⟨by decide, ?_⟩
      rw [Int.tdiv_eq_ediv_of_nonneg h2.1, wrap_i64 (n := b / 64) (by omega) (by omega), wrap_i64 (by omega) (by omega)]
    · rw [if_neg h2]
      by_cases h3 : b ≥ 0
      · rw [if_pos h3, if_neg (by omega)]
      · rw [if_neg h3]
  · rw [if_neg h1, if_neg h1]
    by_cases h4 : K = 4
    · rw [if_pos h4, if_pos h4]
      by_cases h2 : sl.n ≤ 448
      · rw [if_pos (by omega), if_pos h2]
        refine ⟨by decide, ?_⟩
        rw [Int.tdiv_eq_ediv_of_nonneg (by omega), wrap_i64 (n := (sl.n : Int) / 64) (by omega) (by omega), wrap_i64 (by omega) (by omega)]
      · rw [if_neg (by omega), if_neg h2]
    · rw [if_neg h4, if_neg h4]
      by_cases h2 : K = 2
      · rw [if_pos h2, if_pos h2]
      · rw [if_neg h2, if_neg h2]

theorem darningref4_CostLines.s {k : Int → AH → Prop} (h : k (linesP K b sl.n) H) : darningref4_CostLines (opl K a b c sl) H k := by
  refine gcI (linesP K b sl.n) (darningref4_CostLines.link ?_) h
  simp only [darningref4_CostLines.b, newC_eq, op_0, op_2, op_4, elI_some, elL_val, bcase_eq, decide_eq_true_eq, beq_iff_eq, darningref4_CostLines.j1, darningref4_CostLines.j2, bcase_false, hK]
  unfold linesP
  by_cases h1 : K = 1
  · rw [if_pos h1, if_pos h1]
    have h4 : K ≠ 4 := by omega
    have h2' : K ≠ 2 := by omega
    by_cases h2 : 0 ≤ b ∧ b ≤ 448
    · rw [if_pos h2.1, if_pos h2.2, if_pos h2]
      refine ⟨by decide, ?_⟩
      rw [Int.tdiv_eq_ediv_of_nonneg h2.1, wrap_i64 (n := b / 64) (by omega) (by omega), wrap_i64 (by omega) (by omega)]
    · rw [if_neg h2]
      by_cases h3 : b ≥ 0
      · rw [if_pos h3, if_neg (by omega), if_neg h4, if_neg h2']
      · rw [if_neg h3, if_neg h4, if_neg h2']
  · rw [if_neg h1, if_neg h1]
    by_cases h4 : K = 4
    · simp only [h4, if_true, Bool.false_eq_true, if_false]
      by_cases h2 : sl.n ≤ 448
      · rw [bcase_false, if_pos (by omega), if_pos h2]
        refine ⟨by decide, ?_⟩
        rw [Int.tdiv_eq_ediv_of_nonneg (by omega), wrap_i64 (n := (sl.n : Int) / 64) (by omega) (by omega), wrap_i64 (by omega) (by omega)]
      · rw [bcase_false, if_neg (by omega), if_neg h2, if_neg (by omega)]
    · simp only [h4, if_false, Bool.false_eq_true]
      by_cases h2 : K = 2
      · rw [if_pos h2, if_pos h2]
      · rw [if_neg h2, if_neg h2]

theorem cost_may.s {k : Bool → AH → Prop} (h : k (decide (0 ≤ m ∧ m ≤ 16)) H) : cost_may m H k := by
  refine gcB (decide (0 ≤ m ∧ m ≤ 16)) (cost_may.link ?_) h
  simp only [cost_may.b, bcase_eq, decide_eq_true_eq, Keeps.refl, true_and]
  split
  · simp only [decide_eq_decide]; omega
  · simp; omega

theorem darningref4_replaces.s {k : Bool → AH → Prop} (h : k (decide (0 ≤ m ∧ m ≤ 16)) H) : darningref4_replaces m H k := by
  refine gcB (decide (0 ≤ m ∧ m ≤ 16)) (darningref4_replaces.link ?_) h
  simp only [darningref4_replaces.b, bcase_eq, decide_eq_true_eq, Keeps.refl, true_and]
  split
  · simp only [decide_eq_decide]; omega
  · simp; omega

theorem cost_of.s {k : Int → AH → Prop} (hx : 0 ≤ x ∧ x ≤ 100) (hm : 0 ≤ m ∧ m ≤ 16) (h : k (12 * x + 24 + 4 * m) H) : cost_of x m H k := by
  refine gcI (12 * x + 24 + 4 * m) (cost_of.link ?_) h
  refine ⟨Keeps.refl _, ?_⟩
  rw [wrap_i64 (n := 12 * x) (by omega) (by omega), wrap_i64 (n := 4 * m) (by omega) (by omega), wrap_i64 (n := 12 * x + 24) (by omega) (by omega), wrap_i64 (by omega) (by omega)]

theorem cost_Op.s {k : Int → AH → Prop} (h : k (costP K b sl.n m) H) : cost_Op (opl K a b c sl) m H k := by
  refine gcI (costP K b sl.n m) (cost_Op.link ?_) h
  simp only [cost_Op.b, newC_eq, op_ld]
  refine cost_Lines.s (cost_may.s ?_)
  have hl := linesP_range (K := K) (b := b) (sl := sl)
  simp only [op_0, elI_some, bcase_eq, beq_iff_eq, hK, Bool.not_eq_true', decide_eq_false_iff_not, costP]
  by_cases hm : 0 ≤ m ∧ m ≤ 16
  · rw [if_neg (by simpa using hm), if_pos hm]
    split
    · rfl
    · split
      · rfl
      · refine cost_of.s (by omega) hm ?_
        simp only [hK]
  · rw [if_pos hm, if_neg hm]

theorem darningref4_CostOp.s {k : Int → AH → Prop} (h : k (costP K b sl.n m) H) : darningref4_CostOp (opl K a b c sl) m H k := by
  refine gcI (costP K b sl.n m) (darningref4_CostOp.link ?_) h
  simp only [darningref4_CostOp.b, newC_eq, op_ld]
  refine darningref4_CostLines.s (darningref4_replaces.s ?_)
  have hl := linesP_range (K := K) (b := b) (sl := sl)
  simp only [op_0, elI_some, bcase_eq, beq_iff_eq, hK, Bool.not_eq_true', decide_eq_false_iff_not, costP]
  by_cases hm : 0 ≤ m ∧ m ≤ 16
  · rw [if_neg (by simpa using hm), if_pos hm]
    split
    · rfl
    · split
      · rfl
      · generalize linesP K b sl.n = x at *
        rw [wrap_i64 (n := 12 * x) (by omega) (by omega), wrap_i64 (n := 4 * m) (by omega) (by omega), wrap_i64 (n := 12 * x + 24) (by omega) (by omega), wrap_i64 (by omega) (by omega)]
  · rw [if_pos hm, if_neg hm]

theorem cost_Recover.s {k : Int → AH → Prop} (h : k (recP m) H) : cost_Recover m H k := by
  refine gcI (recP m) (cost_Recover.link ?_) h
  simp only [cost_Recover.b]
  refine cost_may.s ?_
  simp only [bcase_eq, Bool.not_eq_true', decide_eq_false_iff_not, recP]
  by_cases hm : 0 ≤ m ∧ m ≤ 16
  · rw [if_neg (by simpa using hm), if_pos hm]
    refine cost_of.s (by omega) hm ⟨Keeps.refl _, by omega⟩
  · rw [if_pos hm, if_neg hm]; exact ⟨Keeps.refl _, rfl⟩

theorem darningref4_CostRecover.s {k : Int → AH → Prop} (h : k (recP m) H) : darningref4_CostRecover m H k := by
  refine gcI (recP m) (darningref4_CostRecover.link ?_) h
  simp only [darningref4_CostRecover.b]
  refine darningref4_replaces.s ?_
  simp only [bcase_eq, Bool.not_eq_true', decide_eq_false_iff_not, recP]
  by_cases hm : 0 ≤ m ∧ m ≤ 16
  · rw [if_neg (by simpa using hm), if_pos hm]
    rw [wrap_i64 (n := 4 * m) (by omega) (by omega), wrap_i64 (by omega) (by omega)]; exact ⟨Keeps.refl _, rfl⟩
  · rw [if_pos hm, if_neg hm]; exact ⟨Keeps.refl _, rfl⟩

theorem cost_Format.s {k : Int → AH → Prop} (h : k (if mayP a b c d = true then 200 else 0) H) : cost_Format (pl a b c d) H k := by
  refine gcI (if mayP a b c d = true then 200 else 0) (cost_Format.link ?_) h
  simp only [cost_Format.b, newC_eq, pl_ld]
  refine plan_May.s ?_
  simp only [bcase_eq, hK]
  cases mayP a b c d <;> simp

theorem op_nil (p q r t : Int) : [Value.int .i64 p, Value.int .i64 q, Value.int .i64 r, Value.int .i64 t, Value.slice none 0 0] = opl p q r t ⟨none, 0, 0⟩ := rfl
theorem op_put (p q r t p' q' r' t' : Int) (s s' : Sl) : AH.put (H.push ⟨opl p q r t s, .rw, e⟩) ⟨H.size, 0, none⟩ (opl p' q' r' t' s') = H.push ⟨opl p' q' r' t' s', .rw, e⟩ := put_new _ _ _ _ _
theorem op_can : AH.canPut (H.push ⟨opl K a b c sl, .rw, e⟩) ⟨H.size, 0, none⟩ 5 := canPut_new.2 (by simp [opl])
theorem op_len : (opl K a b c sl).length = 5 := rfl
theorem op_ok : (opl K a b c sl).all cellOK = true := rfl

theorem darninglaw24_awake.s {k : Bool → AH → Prop} (h : k true H) : darninglaw24_awake H k := by
  refine gcB true (darninglaw24_awake.link (_u := ()) ?_) h
  simp only [darninglaw24_awake.b, newC_eq, stC_eq, op_nil, op_put, op_len, op_can, op_ok, true_and, op_ld]
  refine cost_Op.s ?_
  rw [show costP 2 0 (Sl.n ⟨none, 0, 0⟩) 0 = 36 from rfl, beq_self_eq_true, bcase_true, op_ld]
  refine cost_Op.s ?_
  rw [show costP 2 0 (Sl.n ⟨none, 0, 0⟩) 2 = 44 from rfl, beq_self_eq_true, bcase_true]
  refine cost_Lines.s (sl := ⟨none, 0, 0⟩) ?_
  rw [show linesP 1 64 (Sl.n ⟨none, 0, 0⟩) = 5 from rfl, beq_self_eq_true, bcase_true]
  refine cost_Recover.s ?_
  rw [show recP 0 = 192 from rfl, beq_self_eq_true, bcase_true]
  refine cost_Format.s (a := 1) (b := 0) (c := 1) (d := 1) ?_
  exact ⟨(Keeps.refl _).push _, rfl⟩

theorem darninglaw24_CostKinds.t {x0 x1 x2 : Int} : darninglaw24_CostKinds x0 x1 x2 H (fun r _ => r = true) := by
  refine darninglaw24_CostKinds.link ?_
  unfold darninglaw24_CostKinds.b
  have h2 := umod (m := 17) (by omega) x2
  have h0 := umod (m := 100) (by omega) x0
  generalize Int.tmod (IntKind.wrap .u64 x2) 17 = m at *
  generalize Int.tmod (IntKind.wrap .u64 x0) 100 = p at *
  rw [wrap_i64 (n := m) (by omega) (by omega), wrap_i64 (n := p) (by omega) (by omega), wrap_i64 (n := 9 + p) (by omega) (by omega)]
  have hm : 0 ≤ m ∧ m ≤ 16 := by omega
  refine ⟨by decide, cost_Op.s (sl := ⟨none, 0, 0⟩) (cost_Op.s (sl := ⟨none, 0, 0⟩) ⟨by decide, cost_Op.s (sl := ⟨none, 0, 0⟩) (cost_Op.s (sl := ⟨none, 0, 0⟩) ?_)⟩)⟩
  rw [show costP 3 x1 (Sl.n ⟨none, 0, 0⟩) m = 0 from by simp [costP, linesP], show costP 6 0 (Sl.n ⟨none, 0, 0⟩) m = 0 from by simp [costP, linesP],
    show costP (9 + p) 0 (Sl.n ⟨none, 0, 0⟩) m = 0 from by
      have : linesP (9 + p) 0 0 = 0 := by unfold linesP; rw [if_neg (by omega), if_neg (by omega), if_neg (by omega)]
      unfold costP
      rw [if_pos hm, if_neg (by omega), if_pos this],
    show costP 7 x1 (Sl.n ⟨none, 0, 0⟩) m = 0 from by simp [costP, linesP],
    show ((IntKind.wrap .i64 ((IntKind.wrap .i64 ((IntKind.wrap .i64 (0 + 0 : Int)) + 0)) + 0)) == (0 : Int)) = true from rfl, bcase_true]
  refine cost_Op.s (sl := ⟨none, 0, 0⟩) ?_
  rw [show costP 5 0 (Sl.n ⟨none, 0, 0⟩) m = 1 from by simp [costP, hm], beq_self_eq_true, bcase_true]
  refine cost_Op.s (sl := ⟨none, 0, 0⟩) ?_
  rw [show costP 2 0 (Sl.n ⟨none, 0, 0⟩) m = 36 + 4 * m from by simp [costP, linesP, hm], wrap_i64 (n := 4 * m) (by omega) (by omega), wrap_i64 (n := 36 + 4 * m) (by omega) (by omega), beq_self_eq_true, bcase_true]
  refine cost_Recover.s ?_
  rw [show recP 17 = 0 from rfl, beq_self_eq_true, bcase_true]
  refine cost_Format.s (a := 0) (b := 0) (c := 0) (d := 0) ?_
  rw [show (if mayP 0 0 0 0 = true then (200 : Int) else 0) = 0 from rfl, beq_self_eq_true, bcase_true]
  refine plan_May.s (a := 0) (b := 0) (c := 0) (d := 0) ?_
  rw [show (!mayP 0 0 0 0) = true from rfl, bcase_true]
  exact darninglaw24_awake.s rfl

end
end Go.Proofs.Ytmbipadfcbndgaa
