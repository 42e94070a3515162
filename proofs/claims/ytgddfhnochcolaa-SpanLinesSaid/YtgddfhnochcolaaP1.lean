import Derived.Test.YtgddfhnochcolaaAbsTwo
import Derived.Test.YtgddfhnochcolaaG4
set_option linter.all false
namespace Go.Proofs.Ytgddfhnochcolaa
open Go Go.Abs

def pl (a b c d : Int) : List Value := [.int .i64 a, .int .i64 b, .int .i64 c, .int .i64 d]
def mayP (a b c d : Int) : Bool := decide (1 ≤ a ∧ a ≤ 64 ∧ 0 ≤ b ∧ b ≤ 16 ∧ 1 ≤ c ∧ c ≤ 1000 ∧ 1 ≤ d ∧ d ≤ 100)
def wordsP (a b c d : Int) : Int := if mayP a b c d = true then 8 * a else 0
def pagesP (a b c d : Int) : Int := if mayP a b c d = true then (a + 3) / 4 else 0
def logicalP (a b c d : Int) : Int := if mayP a b c d = true then 16 + a else 0
def deviceP (a b c d : Int) : Int := if mayP a b c d = true then 17 + a + b else 0
def homeP (a b c d x : Int) : Int := if mayP a b c d = true ∧ 0 ≤ x ∧ x < a then 16 + x else -1

section
variable {a b c d x : Int} {H : AH} {e : Nat}

theorem pl_row : AH.row? (H.push ⟨pl a b c d, .rw, e⟩) ⟨H.size, 0, none⟩ 4 = some (pl a b c d) := row_new rfl rfl
theorem pl_ld {k : List Value → Prop} : ldA (H.push ⟨pl a b c d, .rw, e⟩) ⟨H.size, 0, none⟩ 4 k ↔ k (pl a b c d) := ldA_some pl_row
theorem pl_0 : AH.cell? (H.push ⟨pl a b c d, .rw, e⟩) (Addr.add ⟨H.size, 0, none⟩ 0) = some (.int .i64 a) := cell_new _ _ _ _
theorem pl_1 : AH.cell? (H.push ⟨pl a b c d, .rw, e⟩) (Addr.add ⟨H.size, 0, none⟩ 1) = some (.int .i64 b) := cell_new _ _ _ _
theorem pl_2 : AH.cell? (H.push ⟨pl a b c d, .rw, e⟩) (Addr.add ⟨H.size, 0, none⟩ 2) = some (.int .i64 c) := cell_new _ _ _ _
theorem pl_3 : AH.cell? (H.push ⟨pl a b c d, .rw, e⟩) (Addr.add ⟨H.size, 0, none⟩ 3) = some (.int .i64 d) := cell_new _ _ _ _
theorem mayP_iff : mayP a b c d = true ↔ 1 ≤ a ∧ a ≤ 64 ∧ 0 ≤ b ∧ b ≤ 16 ∧ 1 ≤ c ∧ c ≤ 1000 ∧ 1 ≤ d ∧ d ≤ 100 := by simp [mayP]
theorem hK {o : AObj} {P : Prop} : (Keeps H (H.push o) ∧ P) ↔ P := ⟨fun h => h.2, fun h => ⟨(Keeps.refl H).push _, h⟩⟩

end
end Go.Proofs.Ytgddfhnochcolaa
