import Derived.Test.YtgddfhnochcolaaP3
set_option linter.all false
namespace Go.Proofs.Ytgddfhnochcolaa
open Go Go.Abs

def opl (K a b c : Int) (s : Sl) : List Value := [.int .i64 K, .int .i64 a, .int .i64 b, .int .i64 c, s.val]
def linesP (K b : Int) (n : Nat) : Int :=
  if K = 1 then (if 0 ≤ b ∧ b ≤ 448 then b / 64 + 4 else 0) else if K = 4 then (if n ≤ 448 then (n : Int) / 64 + 2 else 0) else if K = 2 then 1 else 0
def costP (K b : Int) (n : Nat) (m : Int) : Int :=
  if 0 ≤ m ∧ m ≤ 16 then (if K = 5 then 1 else if linesP K b n = 0 then 0 else 12 * linesP K b n + 24 + 4 * m) else 0
def recP (m : Int) : Int := if 0 ≤ m ∧ m ≤ 16 then 192 + 4 * m else 0

section
variable {K a b c d m x : Int} {sl : Sl} {H : AH} {e : Nat}

theorem op_row : AH.row? (H.push ⟨opl K a b c sl, .rw, e⟩) ⟨H.size, 0, none⟩ 5 = some (opl K a b c sl) := row_new rfl rfl
theorem op_ld {k : List Value → Prop} : ldA (H.push ⟨opl K a b c sl, .rw, e⟩) ⟨H.size, 0, none⟩ 5 k ↔ k (opl K a b c sl) := ldA_some op_row
theorem op_0 : AH.cell? (H.push ⟨opl K a b c sl, .rw, e⟩) (Addr.add ⟨H.size, 0, none⟩ 0) = some (.int .i64 K) := cell_new _ _ _ _
theorem op_2 : AH.cell? (H.push ⟨opl K a b c sl, .rw, e⟩) (Addr.add ⟨H.size, 0, none⟩ 2) = some (.int .i64 b) := cell_new _ _ _ _
theorem op_4 : AH.cell? (H.push ⟨opl K a b c sl, .rw, e⟩) (Addr.add ⟨H.size, 0, none⟩ 4) = some sl.val := cell_new _ _ _ _
theorem elL_val {k : Sl → Prop} : elL (some sl.val) k ↔ k sl := elL_some _ _ _ _

theorem linesP_range : 0 ≤ linesP K b sl.n ∧ linesP K b sl.n ≤ 11 := by
  unfold linesP
  repeat' split
  all_goals omega

theorem op_nil (p q r t : Int) : [Value.int .i64 p, Value.int .i64 q, Value.int .i64 r, Value.int .i64 t, Value.slice none 0 0] = opl p q r t ⟨none, 0, 0⟩ := rfl
theorem op_put (p q r t p' q' r' t' : Int) (s s' : Sl) : AH.put (H.push ⟨opl p q r t s, .rw, e⟩) ⟨H.size, 0, none⟩ (opl p' q' r' t' s') = H.push ⟨opl p' q' r' t' s', .rw, e⟩ := put_new _ _ _ _ _
theorem op_can : AH.canPut (H.push ⟨opl K a b c sl, .rw, e⟩) ⟨H.size, 0, none⟩ 5 := canPut_new.2 (by simp [opl])
theorem op_len : (opl K a b c sl).length = 5 := rfl
theorem op_ok : (opl K a b c sl).all cellOK = true := rfl

end
end Go.Proofs.Ytgddfhnochcolaa
