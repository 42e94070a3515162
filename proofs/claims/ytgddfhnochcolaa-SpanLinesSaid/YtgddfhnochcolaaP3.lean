import Derived.Test.YtgddfhnochcolaaP2
import Derived.Test.YtgddfhnochcolaaAbsTwo
set_option linter.all false
namespace Go.Proofs.Ytgddfhnochcolaa
open Go Go.Abs

section
variable {a b c d x y z u p q r s p' q' r' s' p2 q2 r2 s2 : Int} {H : AH} {e : Nat}

theorem umod {m : Int} (hm : 0 < m) (z : Int) : 0 ≤ Int.tmod (IntKind.wrap .u64 z) m ∧ Int.tmod (IntKind.wrap .u64 z) m < m := by
  have h0 : 0 ≤ IntKind.wrap .u64 z := by
    simp only [IntKind.wrap, IntKind.bits, IntKind.signed, Bool.false_and, Int.reducePow, Bool.false_eq_true, if_false]; omega
  rw [Int.tmod_eq_emod_of_nonneg h0]
  exact ⟨Int.emod_nonneg _ (by omega), Int.emod_lt_of_pos _ (by omega)⟩

def three (H : AH) (A B C : List Value) : AH := H.more [⟨A, .rw, 0⟩, ⟨B, .rw, 0⟩, ⟨C, .rw, 0⟩]
theorem three_intro (A B C : List Value) : ((H.push ⟨A, .rw, 0⟩).push ⟨B, .rw, 0⟩).push ⟨C, .rw, 0⟩ = three H A B C := by
  rw [push_more0 H, push_more, push_more]; rfl
theorem three_row0 {A B C : List Value} : AH.row? (three H (pl p q r s) B C) ⟨H.size, 0, none⟩ 4 = some (pl p q r s) := more_row H [⟨pl p q r s, .rw, 0⟩, ⟨B, .rw, 0⟩, ⟨C, .rw, 0⟩] 0 4 ⟨pl p q r s, .rw, 0⟩ rfl (by simp) rfl rfl
theorem three_row1 {A C : List Value} : AH.row? (three H A (pl p q r s) C) ⟨H.size + 1, 0, none⟩ 4 = some (pl p q r s) := more_row H [⟨A, .rw, 0⟩, ⟨pl p q r s, .rw, 0⟩, ⟨C, .rw, 0⟩] 1 4 ⟨pl p q r s, .rw, 0⟩ rfl (by simp) rfl rfl
theorem three_row2 {A B : List Value} : AH.row? (three H A B (pl p q r s)) ⟨H.size + 2, 0, none⟩ 4 = some (pl p q r s) := more_row H [⟨A, .rw, 0⟩, ⟨B, .rw, 0⟩, ⟨pl p q r s, .rw, 0⟩] 2 4 ⟨pl p q r s, .rw, 0⟩ rfl (by simp) rfl rfl
theorem three_ld0 {B C : List Value} {k : List Value → Prop} : ldA (three H (pl p q r s) B C) ⟨H.size, 0, none⟩ 4 k ↔ k (pl p q r s) := ldA_some (three_row0 (A := B))
theorem three_ld1 {A C : List Value} {k : List Value → Prop} : ldA (three H A (pl p q r s) C) ⟨H.size + 1, 0, none⟩ 4 k ↔ k (pl p q r s) := ldA_some three_row1
theorem three_ld2 {A B : List Value} {k : List Value → Prop} : ldA (three H A B (pl p q r s)) ⟨H.size + 2, 0, none⟩ 4 k ↔ k (pl p q r s) := ldA_some three_row2
theorem three_put1 {A C : List Value} : AH.put (three H A (pl p q r s) C) ⟨H.size + 1, 0, none⟩ (pl p' q' r' s') = three H A (pl p' q' r' s') C := more_put H [⟨A, .rw, 0⟩, ⟨pl p q r s, .rw, 0⟩, ⟨C, .rw, 0⟩] 1 0 _ ⟨pl p q r s, .rw, 0⟩ rfl
theorem three_put2 {A B : List Value} : AH.put (three H A B (pl p q r s)) ⟨H.size + 2, 0, none⟩ (pl p' q' r' s') = three H A B (pl p' q' r' s') := more_put H [⟨A, .rw, 0⟩, ⟨B, .rw, 0⟩, ⟨pl p q r s, .rw, 0⟩] 2 0 _ ⟨pl p q r s, .rw, 0⟩ rfl
theorem three_put10 {A C : List Value} {v : Int} : AH.put (three H A (pl p q r s) C) (Addr.add ⟨H.size + 1, 0, none⟩ 0) [(Value.int .i64 v)] = three H A (pl v q r s) C := more_put H [⟨A, .rw, 0⟩, ⟨pl p q r s, .rw, 0⟩, ⟨C, .rw, 0⟩] 1 0 _ ⟨pl p q r s, .rw, 0⟩ rfl
theorem three_put21 {A B : List Value} {v : Int} : AH.put (three H A B (pl p q r s)) (Addr.add ⟨H.size + 2, 0, none⟩ 1) [(Value.int .i64 v)] = three H A B (pl p v r s) := more_put H [⟨A, .rw, 0⟩, ⟨B, .rw, 0⟩, ⟨pl p q r s, .rw, 0⟩] 2 1 _ ⟨pl p q r s, .rw, 0⟩ rfl
theorem three_can1 {A C : List Value} : AH.canPut (three H A (pl p q r s) C) ⟨H.size + 1, 0, none⟩ 4 := more_canPut H [⟨A, .rw, 0⟩, ⟨pl p q r s, .rw, 0⟩, ⟨C, .rw, 0⟩] 1 0 4 ⟨pl p q r s, .rw, 0⟩ rfl rfl (by simp [pl])
theorem three_can2 {A B : List Value} : AH.canPut (three H A B (pl p q r s)) ⟨H.size + 2, 0, none⟩ 4 := more_canPut H [⟨A, .rw, 0⟩, ⟨B, .rw, 0⟩, ⟨pl p q r s, .rw, 0⟩] 2 0 4 ⟨pl p q r s, .rw, 0⟩ rfl rfl (by simp [pl])
theorem three_can10 {A C : List Value} : AH.canPut (three H A (pl p q r s) C) (Addr.add ⟨H.size + 1, 0, none⟩ 0) 1 := more_canPut H [⟨A, .rw, 0⟩, ⟨pl p q r s, .rw, 0⟩, ⟨C, .rw, 0⟩] 1 0 1 ⟨pl p q r s, .rw, 0⟩ rfl rfl (by simp [pl])
theorem three_can21 {A B : List Value} : AH.canPut (three H A B (pl p q r s)) (Addr.add ⟨H.size + 2, 0, none⟩ 1) 1 := more_canPut H [⟨A, .rw, 0⟩, ⟨B, .rw, 0⟩, ⟨pl p q r s, .rw, 0⟩] 2 1 1 ⟨pl p q r s, .rw, 0⟩ rfl rfl (by simp [pl])
theorem three_c10 {A C : List Value} : AH.cell? (three H A (pl p q r s) C) (Addr.add ⟨H.size + 1, 0, none⟩ 0) = some (.int .i64 p) := more_cell H [⟨A, .rw, 0⟩, ⟨pl p q r s, .rw, 0⟩, ⟨C, .rw, 0⟩] 1 0 ⟨pl p q r s, .rw, 0⟩ rfl (by simp)
theorem three_c21 {A B : List Value} : AH.cell? (three H A B (pl p q r s)) (Addr.add ⟨H.size + 2, 0, none⟩ 1) = some (.int .i64 q) := more_cell H [⟨A, .rw, 0⟩, ⟨B, .rw, 0⟩, ⟨pl p q r s, .rw, 0⟩] 2 1 ⟨pl p q r s, .rw, 0⟩ rfl (by simp)
theorem pl_len : (pl p q r s).length = 4 := rfl
theorem pl_ok : (pl p q r s).all cellOK = true := rfl

end
end Go.Proofs.Ytgddfhnochcolaa
