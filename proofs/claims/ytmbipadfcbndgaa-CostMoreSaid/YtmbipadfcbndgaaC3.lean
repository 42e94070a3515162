import Derived.Test.YtmbipadfcbndgaaC2
import Derived.Test.YtmbipadfcbndgaaAbsE2
set_option linter.all false
namespace Go.Proofs.Ytmbipadfcbndgaa
open Go Go.Abs

section
variable {K a b c d m x K' a' b' c' : Int} {sl sl' : Sl} {H : AH} {e : Nat}

def tri (H : AH) (A : AObj) (B C : List Value) : AH := H.more [A, ⟨B, .rw, 0⟩, ⟨C, .rw, 0⟩]
theorem tri_row1 {C : List Value} {A : AObj} : AH.row? (tri H A (opl K a b c sl) C) ⟨H.size + 1, 0, none⟩ 5 = some (opl K a b c sl) := more_row H [A, ⟨opl K a b c sl, .rw, 0⟩, ⟨C, .rw, 0⟩] 1 5 ⟨opl K a b c sl, .rw, 0⟩ rfl (by simp) rfl rfl
theorem tri_ld1 {C : List Value} {A : AObj} {k : List Value → Prop} : ldA (tri H A (opl K a b c sl) C) ⟨H.size + 1, 0, none⟩ 5 k ↔ k (opl K a b c sl) := ldA_some tri_row1
theorem tri_put1 {C : List Value} {A : AObj} : AH.put (tri H A (opl K a b c sl) C) ⟨H.size + 1, 0, none⟩ (opl K' a' b' c' sl') = (tri H A (opl K' a' b' c' sl') C) := more_put H [A, ⟨opl K a b c sl, .rw, 0⟩, ⟨C, .rw, 0⟩] 1 0 _ ⟨opl K a b c sl, .rw, 0⟩ rfl
theorem tri_can1 {C : List Value} {A : AObj} : AH.canPut (tri H A (opl K a b c sl) C) ⟨H.size + 1, 0, none⟩ 5 := more_canPut H [A, ⟨opl K a b c sl, .rw, 0⟩, ⟨C, .rw, 0⟩] 1 0 5 ⟨opl K a b c sl, .rw, 0⟩ rfl rfl (by simp [opl])
theorem tri_c2_1 {C : List Value} {A : AObj} : AH.cell? (tri H A (opl K a b c sl) C) (Addr.add ⟨H.size + 1, 0, none⟩ 2) = some (.int .i64 b) := more_cell H [A, ⟨opl K a b c sl, .rw, 0⟩, ⟨C, .rw, 0⟩] 1 2 ⟨opl K a b c sl, .rw, 0⟩ rfl (by simp)
theorem tri_put2_1 {C : List Value} {A : AObj} {v : Int} : AH.put (tri H A (opl K a b c sl) C) (Addr.add ⟨H.size + 1, 0, none⟩ 2) [.int .i64 v] = (tri H A (opl K a v c sl) C) := more_put H [A, ⟨opl K a b c sl, .rw, 0⟩, ⟨C, .rw, 0⟩] 1 2 _ ⟨opl K a b c sl, .rw, 0⟩ rfl
theorem tri_can2_1 {C : List Value} {A : AObj} : AH.canPut (tri H A (opl K a b c sl) C) (Addr.add ⟨H.size + 1, 0, none⟩ 2) 1 := more_canPut H [A, ⟨opl K a b c sl, .rw, 0⟩, ⟨C, .rw, 0⟩] 1 2 1 ⟨opl K a b c sl, .rw, 0⟩ rfl rfl (by simp [opl])
theorem tri_put4_1 {C : List Value} {A : AObj} {v : Sl} : AH.put (tri H A (opl K a b c sl) C) (Addr.add ⟨H.size + 1, 0, none⟩ 4) [v.val] = (tri H A (opl K a b c v) C) := more_put H [A, ⟨opl K a b c sl, .rw, 0⟩, ⟨C, .rw, 0⟩] 1 4 _ ⟨opl K a b c sl, .rw, 0⟩ rfl
theorem tri_can4_1 {C : List Value} {A : AObj} : AH.canPut (tri H A (opl K a b c sl) C) (Addr.add ⟨H.size + 1, 0, none⟩ 4) 1 := more_canPut H [A, ⟨opl K a b c sl, .rw, 0⟩, ⟨C, .rw, 0⟩] 1 4 1 ⟨opl K a b c sl, .rw, 0⟩ rfl rfl (by simp [opl])
theorem tri_row2 {B : List Value} {A : AObj} : AH.row? (tri H A B (opl K a b c sl)) ⟨H.size + 2, 0, none⟩ 5 = some (opl K a b c sl) := more_row H [A, ⟨B, .rw, 0⟩, ⟨opl K a b c sl, .rw, 0⟩] 2 5 ⟨opl K a b c sl, .rw, 0⟩ rfl (by simp) rfl rfl
theorem tri_ld2 {B : List Value} {A : AObj} {k : List Value → Prop} : ldA (tri H A B (opl K a b c sl)) ⟨H.size + 2, 0, none⟩ 5 k ↔ k (opl K a b c sl) := ldA_some tri_row2
theorem tri_put2 {B : List Value} {A : AObj} : AH.put (tri H A B (opl K a b c sl)) ⟨H.size + 2, 0, none⟩ (opl K' a' b' c' sl') = (tri H A B (opl K' a' b' c' sl')) := more_put H [A, ⟨B, .rw, 0⟩, ⟨opl K a b c sl, .rw, 0⟩] 2 0 _ ⟨opl K a b c sl, .rw, 0⟩ rfl
theorem tri_can2 {B : List Value} {A : AObj} : AH.canPut (tri H A B (opl K a b c sl)) ⟨H.size + 2, 0, none⟩ 5 := more_canPut H [A, ⟨B, .rw, 0⟩, ⟨opl K a b c sl, .rw, 0⟩] 2 0 5 ⟨opl K a b c sl, .rw, 0⟩ rfl rfl (by simp [opl])
theorem tri_c2_2 {B : List Value} {A : AObj} : AH.cell? (tri H A B (opl K a b c sl)) (Addr.add ⟨H.size + 2, 0, none⟩ 2) = some (.int .i64 b) := more_cell H [A, ⟨B, .rw, 0⟩, ⟨opl K a b c sl, .rw, 0⟩] 2 2 ⟨opl K a b c sl, .rw, 0⟩ rfl (by simp)
theorem tri_put2_2 {B : List Value} {A : AObj} {v : Int} : AH.put (tri H A B (opl K a b c sl)) (Addr.add ⟨H.size + 2, 0, none⟩ 2) [.int .i64 v] = (tri H A B (opl K a v c sl)) := more_put H [A, ⟨B, .rw, 0⟩, ⟨opl K a b c sl, .rw, 0⟩] 2 2 _ ⟨opl K a b c sl, .rw, 0⟩ rfl
theorem tri_can2_2 {B : List Value} {A : AObj} : AH.canPut (tri H A B (opl K a b c sl)) (Addr.add ⟨H.size + 2, 0, none⟩ 2) 1 := more_canPut H [A, ⟨B, .rw, 0⟩, ⟨opl K a b c sl, .rw, 0⟩] 2 2 1 ⟨opl K a b c sl, .rw, 0⟩ rfl rfl (by simp [opl])
theorem tri_put4_2 {B : List Value} {A : AObj} {v : Sl} : AH.put (tri H A B (opl K a b c sl)) (Addr.add ⟨H.size + 2, 0, none⟩ 4) [v.val] = (tri H A B (opl K a b c v)) := more_put H [A, ⟨B, .rw, 0⟩, ⟨opl K a b c sl, .rw, 0⟩] 2 4 _ ⟨opl K a b c sl, .rw, 0⟩ rfl
theorem tri_can4_2 {B : List Value} {A : AObj} : AH.canPut (tri H A B (opl K a b c sl)) (Addr.add ⟨H.size + 2, 0, none⟩ 4) 1 := more_canPut H [A, ⟨B, .rw, 0⟩, ⟨opl K a b c sl, .rw, 0⟩] 2 4 1 ⟨opl K a b c sl, .rw, 0⟩ rfl rfl (by simp [opl])
def five (H : AH) (A : AObj) (B C D E : List Value) : AH := H.more [A, ⟨B, .rw, 0⟩, ⟨C, .rw, 0⟩, ⟨D, .rw, 0⟩, ⟨E, .rw, 0⟩]
theorem five_row1 {C D E : List Value} {A : AObj} : AH.row? (five H A (opl K a b c sl) C D E) ⟨H.size + 1, 0, none⟩ 5 = some (opl K a b c sl) := more_row H [A, ⟨opl K a b c sl, .rw, 0⟩, ⟨C, .rw, 0⟩, ⟨D, .rw, 0⟩, ⟨E, .rw, 0⟩] 1 5 ⟨opl K a b c sl, .rw, 0⟩ rfl (by simp) rfl rfl
theorem five_ld1 {C D E : List Value} {A : AObj} {k : List Value → Prop} : ldA (five H A (opl K a b c sl) C D E) ⟨H.size + 1, 0, none⟩ 5 k ↔ k (opl K a b c sl) := ldA_some five_row1
theorem five_put1 {C D E : List Value} {A : AObj} : AH.put (five H A (opl K a b c sl) C D E) ⟨H.size + 1, 0, none⟩ (opl K' a' b' c' sl') = (five H A (opl K' a' b' c' sl') C D E) := more_put H [A, ⟨opl K a b c sl, .rw, 0⟩, ⟨C, .rw, 0⟩, ⟨D, .rw, 0⟩, ⟨E, .rw, 0⟩] 1 0 _ ⟨opl K a b c sl, .rw, 0⟩ rfl
theorem five_can1 {C D E : List Value} {A : AObj} : AH.canPut (five H A (opl K a b c sl) C D E) ⟨H.size + 1, 0, none⟩ 5 := more_canPut H [A, ⟨opl K a b c sl, .rw, 0⟩, ⟨C, .rw, 0⟩, ⟨D, .rw, 0⟩, ⟨E, .rw, 0⟩] 1 0 5 ⟨opl K a b c sl, .rw, 0⟩ rfl rfl (by simp [opl])
theorem five_c2_1 {C D E : List Value} {A : AObj} : AH.cell? (five H A (opl K a b c sl) C D E) (Addr.add ⟨H.size + 1, 0, none⟩ 2) = some (.int .i64 b) := more_cell H [A, ⟨opl K a b c sl, .rw, 0⟩, ⟨C, .rw, 0⟩, ⟨D, .rw, 0⟩, ⟨E, .rw, 0⟩] 1 2 ⟨opl K a b c sl, .rw, 0⟩ rfl (by simp)
theorem five_put2_1 {C D E : List Value} {A : AObj} {v : Int} : AH.put (five H A (opl K a b c sl) C D E) (Addr.add ⟨H.size + 1, 0, none⟩ 2) [.int .i64 v] = (five H A (opl K a v c sl) C D E) := more_put H [A, ⟨opl K a b c sl, .rw, 0⟩, ⟨C, .rw, 0⟩, ⟨D, .rw, 0⟩, ⟨E, .rw, 0⟩] 1 2 _ ⟨opl K a b c sl, .rw, 0⟩ rfl
theorem five_can2_1 {C D E : List Value} {A : AObj} : AH.canPut (five H A (opl K a b c sl) C D E) (Addr.add ⟨H.size + 1, 0, none⟩ 2) 1 := more_canPut H [A, ⟨opl K a b c sl, .rw, 0⟩, ⟨C, .rw, 0⟩, ⟨D, .rw, 0⟩, ⟨E, .rw, 0⟩] 1 2 1 ⟨opl K a b c sl, .rw, 0⟩ rfl rfl (by simp [opl])
theorem five_put4_1 {C D E : List Value} {A : AObj} {v : Sl} : AH.put (five H A (opl K a b c sl) C D E) (Addr.add ⟨H.size + 1, 0, none⟩ 4) [v.val] = (five H A (opl K a b c v) C D E) := more_put H [A, ⟨opl K a b c sl, .rw, 0⟩, ⟨C, .rw, 0⟩, ⟨D, .rw, 0⟩, ⟨E, .rw, 0⟩] 1 4 _ ⟨opl K a b c sl, .rw, 0⟩ rfl
theorem five_can4_1 {C D E : List Value} {A : AObj} : AH.canPut (five H A (opl K a b c sl) C D E) (Addr.add ⟨H.size + 1, 0, none⟩ 4) 1 := more_canPut H [A, ⟨opl K a b c sl, .rw, 0⟩, ⟨C, .rw, 0⟩, ⟨D, .rw, 0⟩, ⟨E, .rw, 0⟩] 1 4 1 ⟨opl K a b c sl, .rw, 0⟩ rfl rfl (by simp [opl])
theorem five_row2 {B D E : List Value} {A : AObj} : AH.row? (five H A B (opl K a b c sl) D E) ⟨H.size + 2, 0, none⟩ 5 = some (opl K a b c sl) := more_row H [A, ⟨B, .rw, 0⟩, ⟨opl K a b c sl, .rw, 0⟩, ⟨D, .rw, 0⟩, ⟨E, .rw, 0⟩] 2 5 ⟨opl K a b c sl, .rw, 0⟩ rfl (by simp) rfl rfl
theorem five_ld2 {B D E : List Value} {A : AObj} {k : List Value → Prop} : ldA (five H A B (opl K a b c sl) D E) ⟨H.size + 2, 0, none⟩ 5 k ↔ k (opl K a b c sl) := ldA_some five_row2
theorem five_put2 {B D E : List Value} {A : AObj} : AH.put (five H A B (opl K a b c sl) D E) ⟨H.size + 2, 0, none⟩ (opl K' a' b' c' sl') = (five H A B (opl K' a' b' c' sl') D E) := more_put H [A, ⟨B, .rw, 0⟩, ⟨opl K a b c sl, .rw, 0⟩, ⟨D, .rw, 0⟩, ⟨E, .rw, 0⟩] 2 0 _ ⟨opl K a b c sl, .rw, 0⟩ rfl
theorem five_can2 {B D E : List Value} {A : AObj} : AH.canPut (five H A B (opl K a b c sl) D E) ⟨H.size + 2, 0, none⟩ 5 := more_canPut H [A, ⟨B, .rw, 0⟩, ⟨opl K a b c sl, .rw, 0⟩, ⟨D, .rw, 0⟩, ⟨E, .rw, 0⟩] 2 0 5 ⟨opl K a b c sl, .rw, 0⟩ rfl rfl (by simp [opl])
theorem five_c2_2 {B D E : List Value} {A : AObj} : AH.cell? (five H A B (opl K a b c sl) D E) (Addr.add ⟨H.size + 2, 0, none⟩ 2) = some (.int .i64 b) := more_cell H [A, ⟨B, .rw, 0⟩, ⟨opl K a b c sl, .rw, 0⟩, ⟨D, .rw, 0⟩, ⟨E, .rw, 0⟩] 2 2 ⟨opl K a b c sl, .rw, 0⟩ rfl (by simp)
theorem five_put2_2 {B D E : List Value} {A : AObj} {v : Int} : AH.put (five H A B (opl K a b c sl) D E) (Addr.add ⟨H.size + 2, 0, none⟩ 2) [.int .i64 v] = (five H A B (opl K a v c sl) D E) := more_put H [A, ⟨B, .rw, 0⟩, ⟨opl K a b c sl, .rw, 0⟩, ⟨D, .rw, 0⟩, ⟨E, .rw, 0⟩] 2 2 _ ⟨opl K a b c sl, .rw, 0⟩ rfl
theorem five_can2_2 {B D E : List Value} {A : AObj} : AH.canPut (five H A B (opl K a b c sl) D E) (Addr.add ⟨H.size + 2, 0, none⟩ 2) 1 := more_canPut H [A, ⟨B, .rw, 0⟩, ⟨opl K a b c sl, .rw, 0⟩, ⟨D, .rw, 0⟩, ⟨E, .rw, 0⟩] 2 2 1 ⟨opl K a b c sl, .rw, 0⟩ rfl rfl (by simp [opl])
theorem five_put4_2 {B D E : List Value} {A : AObj} {v : Sl} : AH.put (five H A B (opl K a b c sl) D E) (Addr.add ⟨H.size + 2, 0, none⟩ 4) [v.val] = (five H A B (opl K a b c v) D E) := more_put H [A, ⟨B, .rw, 0⟩, ⟨opl K a b c sl, .rw, 0⟩, ⟨D, .rw, 0⟩, ⟨E, .rw, 0⟩] 2 4 _ ⟨opl K a b c sl, .rw, 0⟩ rfl
theorem five_can4_2 {B D E : List Value} {A : AObj} : AH.canPut (five H A B (opl K a b c sl) D E) (Addr.add ⟨H.size + 2, 0, none⟩ 4) 1 := more_canPut H [A, ⟨B, .rw, 0⟩, ⟨opl K a b c sl, .rw, 0⟩, ⟨D, .rw, 0⟩, ⟨E, .rw, 0⟩] 2 4 1 ⟨opl K a b c sl, .rw, 0⟩ rfl rfl (by simp [opl])
theorem five_row3 {B C E : List Value} {A : AObj} : AH.row? (five H A B C (opl K a b c sl) E) ⟨H.size + 3, 0, none⟩ 5 = some (opl K a b c sl) := more_row H [A, ⟨B, .rw, 0⟩, ⟨C, .rw, 0⟩, ⟨opl K a b c sl, .rw, 0⟩, ⟨E, .rw, 0⟩] 3 5 ⟨opl K a b c sl, .rw, 0⟩ rfl (by simp) rfl rfl
theorem five_ld3 {B C E : List Value} {A : AObj} {k : List Value → Prop} : ldA (five H A B C (opl K a b c sl) E) ⟨H.size + 3, 0, none⟩ 5 k ↔ k (opl K a b c sl) := ldA_some five_row3
theorem five_put3 {B C E : List Value} {A : AObj} : AH.put (five H A B C (opl K a b c sl) E) ⟨H.size + 3, 0, none⟩ (opl K' a' b' c' sl') = (five H A B C (opl K' a' b' c' sl') E) := more_put H [A, ⟨B, .rw, 0⟩, ⟨C, .rw, 0⟩, ⟨opl K a b c sl, .rw, 0⟩, ⟨E, .rw, 0⟩] 3 0 _ ⟨opl K a b c sl, .rw, 0⟩ rfl
theorem five_can3 {B C E : List Value} {A : AObj} : AH.canPut (five H A B C (opl K a b c sl) E) ⟨H.size + 3, 0, none⟩ 5 := more_canPut H [A, ⟨B, .rw, 0⟩, ⟨C, .rw, 0⟩, ⟨opl K a b c sl, .rw, 0⟩, ⟨E, .rw, 0⟩] 3 0 5 ⟨opl K a b c sl, .rw, 0⟩ rfl rfl (by simp [opl])
theorem five_c2_3 {B C E : List Value} {A : AObj} : AH.cell? (five H A B C (opl K a b c sl) E) (Addr.add ⟨H.size + 3, 0, none⟩ 2) = some (.int .i64 b) := more_cell H [A, ⟨B, .rw, 0⟩, ⟨C, .rw, 0⟩, ⟨opl K a b c sl, .rw, 0⟩, ⟨E, .rw, 0⟩] 3 2 ⟨opl K a b c sl, .rw, 0⟩ rfl (by simp)
theorem five_put2_3 {B C E : List Value} {A : AObj} {v : Int} : AH.put (five H A B C (opl K a b c sl) E) (Addr.add ⟨H.size + 3, 0, none⟩ 2) [.int .i64 v] = (five H A B C (opl K a v c sl) E) := more_put H [A, ⟨B, .rw, 0⟩, ⟨C, .rw, 0⟩, ⟨opl K a b c sl, .rw, 0⟩, ⟨E, .rw, 0⟩] 3 2 _ ⟨opl K a b c sl, .rw, 0⟩ rfl
theorem five_can2_3 {B C E : List Value} {A : AObj} : AH.canPut (five H A B C (opl K a b c sl) E) (Addr.add ⟨H.size + 3, 0, none⟩ 2) 1 := more_canPut H [A, ⟨B, .rw, 0⟩, ⟨C, .rw, 0⟩, ⟨opl K a b c sl, .rw, 0⟩, ⟨E, .rw, 0⟩] 3 2 1 ⟨opl K a b c sl, .rw, 0⟩ rfl rfl (by simp [opl])
theorem five_put4_3 {B C E : List Value} {A : AObj} {v : Sl} : AH.put (five H A B C (opl K a b c sl) E) (Addr.add ⟨H.size + 3, 0, none⟩ 4) [v.val] = (five H A B C (opl K a b c v) E) := more_put H [A, ⟨B, .rw, 0⟩, ⟨C, .rw, 0⟩, ⟨opl K a b c sl, .rw, 0⟩, ⟨E, .rw, 0⟩] 3 4 _ ⟨opl K a b c sl, .rw, 0⟩ rfl
theorem five_can4_3 {B C E : List Value} {A : AObj} : AH.canPut (five H A B C (opl K a b c sl) E) (Addr.add ⟨H.size + 3, 0, none⟩ 4) 1 := more_canPut H [A, ⟨B, .rw, 0⟩, ⟨C, .rw, 0⟩, ⟨opl K a b c sl, .rw, 0⟩, ⟨E, .rw, 0⟩] 3 4 1 ⟨opl K a b c sl, .rw, 0⟩ rfl rfl (by simp [opl])
theorem five_row4 {B C D : List Value} {A : AObj} : AH.row? (five H A B C D (opl K a b c sl)) ⟨H.size + 4, 0, none⟩ 5 = some (opl K a b c sl) := more_row H [A, ⟨B, .rw, 0⟩, ⟨C, .rw, 0⟩, ⟨D, .rw, 0⟩, ⟨opl K a b c sl, .rw, 0⟩] 4 5 ⟨opl K a b c sl, .rw, 0⟩ rfl (by simp) rfl rfl
theorem five_ld4 {B C D : List Value} {A : AObj} {k : List Value → Prop} : ldA (five H A B C D (opl K a b c sl)) ⟨H.size + 4, 0, none⟩ 5 k ↔ k (opl K a b c sl) := ldA_some five_row4
theorem five_put4 {B C D : List Value} {A : AObj} : AH.put (five H A B C D (opl K a b c sl)) ⟨H.size + 4, 0, none⟩ (opl K' a' b' c' sl') = (five H A B C D (opl K' a' b' c' sl')) := more_put H [A, ⟨B, .rw, 0⟩, ⟨C, .rw, 0⟩, ⟨D, .rw, 0⟩, ⟨opl K a b c sl, .rw, 0⟩] 4 0 _ ⟨opl K a b c sl, .rw, 0⟩ rfl
theorem five_can4 {B C D : List Value} {A : AObj} : AH.canPut (five H A B C D (opl K a b c sl)) ⟨H.size + 4, 0, none⟩ 5 := more_canPut H [A, ⟨B, .rw, 0⟩, ⟨C, .rw, 0⟩, ⟨D, .rw, 0⟩, ⟨opl K a b c sl, .rw, 0⟩] 4 0 5 ⟨opl K a b c sl, .rw, 0⟩ rfl rfl (by simp [opl])
theorem five_c2_4 {B C D : List Value} {A : AObj} : AH.cell? (five H A B C D (opl K a b c sl)) (Addr.add ⟨H.size + 4, 0, none⟩ 2) = some (.int .i64 b) := more_cell H [A, ⟨B, .rw, 0⟩, ⟨C, .rw, 0⟩, ⟨D, .rw, 0⟩, ⟨opl K a b c sl, .rw, 0⟩] 4 2 ⟨opl K a b c sl, .rw, 0⟩ rfl (by simp)
theorem five_put2_4 {B C D : List Value} {A : AObj} {v : Int} : AH.put (five H A B C D (opl K a b c sl)) (Addr.add ⟨H.size + 4, 0, none⟩ 2) [.int .i64 v] = (five H A B C D (opl K a v c sl)) := more_put H [A, ⟨B, .rw, 0⟩, ⟨C, .rw, 0⟩, ⟨D, .rw, 0⟩, ⟨opl K a b c sl, .rw, 0⟩] 4 2 _ ⟨opl K a b c sl, .rw, 0⟩ rfl
theorem five_can2_4 {B C D : List Value} {A : AObj} : AH.canPut (five H A B C D (opl K a b c sl)) (Addr.add ⟨H.size + 4, 0, none⟩ 2) 1 := more_canPut H [A, ⟨B, .rw, 0⟩, ⟨C, .rw, 0⟩, ⟨D, .rw, 0⟩, ⟨opl K a b c sl, .rw, 0⟩] 4 2 1 ⟨opl K a b c sl, .rw, 0⟩ rfl rfl (by simp [opl])
theorem five_put4_4 {B C D : List Value} {A : AObj} {v : Sl} : AH.put (five H A B C D (opl K a b c sl)) (Addr.add ⟨H.size + 4, 0, none⟩ 4) [v.val] = (five H A B C D (opl K a b c v)) := more_put H [A, ⟨B, .rw, 0⟩, ⟨C, .rw, 0⟩, ⟨D, .rw, 0⟩, ⟨opl K a b c sl, .rw, 0⟩] 4 4 _ ⟨opl K a b c sl, .rw, 0⟩ rfl
theorem five_can4_4 {B C D : List Value} {A : AObj} : AH.canPut (five H A B C D (opl K a b c sl)) (Addr.add ⟨H.size + 4, 0, none⟩ 4) 1 := more_canPut H [A, ⟨B, .rw, 0⟩, ⟨C, .rw, 0⟩, ⟨D, .rw, 0⟩, ⟨opl K a b c sl, .rw, 0⟩] 4 4 1 ⟨opl K a b c sl, .rw, 0⟩ rfl rfl (by simp [opl])
def six (H : AH) (A : AObj) (B C D E : List Value) (F : AObj) : AH := H.more [A, ⟨B, .rw, 0⟩, ⟨C, .rw, 0⟩, ⟨D, .rw, 0⟩, ⟨E, .rw, 0⟩, F]
theorem six_row1 {C D E : List Value} {A : AObj} {F : AObj} : AH.row? (six H A (opl K a b c sl) C D E F) ⟨H.size + 1, 0, none⟩ 5 = some (opl K a b c sl) := more_row H [A, ⟨opl K a b c sl, .rw, 0⟩, ⟨C, .rw, 0⟩, ⟨D, .rw, 0⟩, ⟨E, .rw, 0⟩, F] 1 5 ⟨opl K a b c sl, .rw, 0⟩ rfl (by simp) rfl rfl
theorem six_ld1 {C D E : List Value} {A : AObj} {F : AObj} {k : List Value → Prop} : ldA (six H A (opl K a b c sl) C D E F) ⟨H.size + 1, 0, none⟩ 5 k ↔ k (opl K a b c sl) := ldA_some six_row1
theorem six_put1 {C D E : List Value} {A : AObj} {F : AObj} : AH.put (six H A (opl K a b c sl) C D E F) ⟨H.size + 1, 0, none⟩ (opl K' a' b' c' sl') = (six H A (opl K' a' b' c' sl') C D E F) := more_put H [A, ⟨opl K a b c sl, .rw, 0⟩, ⟨C, .rw, 0⟩, ⟨D, .rw, 0⟩, ⟨E, .rw, 0⟩, F] 1 0 _ ⟨opl K a b c sl, .rw, 0⟩ rfl
theorem six_can1 {C D E : List Value} {A : AObj} {F : AObj} : AH.canPut (six H A (opl K a b c sl) C D E F) ⟨H.size + 1, 0, none⟩ 5 := more_canPut H [A, ⟨opl K a b c sl, .rw, 0⟩, ⟨C, .rw, 0⟩, ⟨D, .rw, 0⟩, ⟨E, .rw, 0⟩, F] 1 0 5 ⟨opl K a b c sl, .rw, 0⟩ rfl rfl (by simp [opl])
theorem six_c2_1 {C D E : List Value} {A : AObj} {F : AObj} : AH.cell? (six H A (opl K a b c sl) C D E F) (Addr.add ⟨H.size + 1, 0, none⟩ 2) = some (.int .i64 b) := more_cell H [A, ⟨opl K a b c sl, .rw, 0⟩, ⟨C, .rw, 0⟩, ⟨D, .rw, 0⟩, ⟨E, .rw, 0⟩, F] 1 2 ⟨opl K a b c sl, .rw, 0⟩ rfl (by simp)
theorem six_put2_1 {C D E : List Value} {A : AObj} {F : AObj} {v : Int} : AH.put (six H A (opl K a b c sl) C D E F) (Addr.add ⟨H.size + 1, 0, none⟩ 2) [.int .i64 v] = (six H A (opl K a v c sl) C D E F) := more_put H [A, ⟨opl K a b c sl, .rw, 0⟩, ⟨C, .rw, 0⟩, ⟨D, .rw, 0⟩, ⟨E, .rw, 0⟩, F] 1 2 _ ⟨opl K a b c sl, .rw, 0⟩ rfl
theorem six_can2_1 {C D E : List Value} {A : AObj} {F : AObj} : AH.canPut (six H A (opl K a b c sl) C D E F) (Addr.add ⟨H.size + 1, 0, none⟩ 2) 1 := more_canPut H [A, ⟨opl K a b c sl, .rw, 0⟩, ⟨C, .rw, 0⟩, ⟨D, .rw, 0⟩, ⟨E, .rw, 0⟩, F] 1 2 1 ⟨opl K a b c sl, .rw, 0⟩ rfl rfl (by simp [opl])
theorem six_put4_1 {C D E : List Value} {A : AObj} {F : AObj} {v : Sl} : AH.put (six H A (opl K a b c sl) C D E F) (Addr.add ⟨H.size + 1, 0, none⟩ 4) [v.val] = (six H A (opl K a b c v) C D E F) := more_put H [A, ⟨opl K a b c sl, .rw, 0⟩, ⟨C, .rw, 0⟩, ⟨D, .rw, 0⟩, ⟨E, .rw, 0⟩, F] 1 4 _ ⟨opl K a b c sl, .rw, 0⟩ rfl
theorem six_can4_1 {C D E : List Value} {A : AObj} {F : AObj} : AH.canPut (six H A (opl K a b c sl) C D E F) (Addr.add ⟨H.size + 1, 0, none⟩ 4) 1 := more_canPut H [A, ⟨opl K a b c sl, .rw, 0⟩, ⟨C, .rw, 0⟩, ⟨D, .rw, 0⟩, ⟨E, .rw, 0⟩, F] 1 4 1 ⟨opl K a b c sl, .rw, 0⟩ rfl rfl (by simp [opl])
theorem six_row2 {B D E : List Value} {A : AObj} {F : AObj} : AH.row? (six H A B (opl K a b c sl) D E F) ⟨H.size + 2, 0, none⟩ 5 = some (opl K a b c sl) := more_row H [A, ⟨B, .rw, 0⟩, ⟨opl K a b c sl, .rw, 0⟩, ⟨D, .rw, 0⟩, ⟨E, .rw, 0⟩, F] 2 5 ⟨opl K a b c sl, .rw, 0⟩ rfl (by simp) rfl rfl
theorem six_ld2 {B D E : List Value} {A : AObj} {F : AObj} {k : List Value → Prop} : ldA (six H A B (opl K a b c sl) D E F) ⟨H.size + 2, 0, none⟩ 5 k ↔ k (opl K a b c sl) := ldA_some six_row2
theorem six_put2 {B D E : List Value} {A : AObj} {F : AObj} : AH.put (six H A B (opl K a b c sl) D E F) ⟨H.size + 2, 0, none⟩ (opl K' a' b' c' sl') = (six H A B (opl K' a' b' c' sl') D E F) := more_put H [A, ⟨B, .rw, 0⟩, ⟨opl K a b c sl, .rw, 0⟩, ⟨D, .rw, 0⟩, ⟨E, .rw, 0⟩, F] 2 0 _ ⟨opl K a b c sl, .rw, 0⟩ rfl
theorem six_can2 {B D E : List Value} {A : AObj} {F : AObj} : AH.canPut (six H A B (opl K a b c sl) D E F) ⟨H.size + 2, 0, none⟩ 5 := more_canPut H [A, ⟨B, .rw, 0⟩, ⟨opl K a b c sl, .rw, 0⟩, ⟨D, .rw, 0⟩, ⟨E, .rw, 0⟩, F] 2 0 5 ⟨opl K a b c sl, .rw, 0⟩ rfl rfl (by simp [opl])
theorem six_c2_2 {B D E : List Value} {A : AObj} {F : AObj} : AH.cell? (six H A B (opl K a b c sl) D E F) (Addr.add ⟨H.size + 2, 0, none⟩ 2) = some (.int .i64 b) := more_cell H [A, ⟨B, .rw, 0⟩, ⟨opl K a b c sl, .rw, 0⟩, ⟨D, .rw, 0⟩, ⟨E, .rw, 0⟩, F] 2 2 ⟨opl K a b c sl, .rw, 0⟩ rfl (by simp)
theorem six_put2_2 {B D E : List Value} {A : AObj} {F : AObj} {v : Int} : AH.put (six H A B (opl K a b c sl) D E F) (Addr.add ⟨H.size + 2, 0, none⟩ 2) [.int .i64 v] = (six H A B (opl K a v c sl) D E F) := more_put H [A, ⟨B, .rw, 0⟩, ⟨opl K a b c sl, .rw, 0⟩, ⟨D, .rw, 0⟩, ⟨E, .rw, 0⟩, F] 2 2 _ ⟨opl K a b c sl, .rw, 0⟩ rfl
theorem six_can2_2 {B D E : List Value} {A : AObj} {F : AObj} : AH.canPut (six H A B (opl K a b c sl) D E F) (Addr.add ⟨H.size + 2, 0, none⟩ 2) 1 := more_canPut H [A, ⟨B, .rw, 0⟩, ⟨opl K a b c sl, .rw, 0⟩, ⟨D, .rw, 0⟩, ⟨E, .rw, 0⟩, F] 2 2 1 ⟨opl K a b c sl, .rw, 0⟩ rfl rfl (by simp [opl])
theorem six_put4_2 {B D E : List Value} {A : AObj} {F : AObj} {v : Sl} : AH.put (six H A B (opl K a b c sl) D E F) (Addr.add ⟨H.size + 2, 0, none⟩ 4) [v.val] = (six H A B (opl K a b c v) D E F) := more_put H [A, ⟨B, .rw, 0⟩, ⟨opl K a b c sl, .rw, 0⟩, ⟨D, .rw, 0⟩, ⟨E, .rw, 0⟩, F] 2 4 _ ⟨opl K a b c sl, .rw, 0⟩ rfl
theorem six_can4_2 {B D E : List Value} {A : AObj} {F : AObj} : AH.canPut (six H A B (opl K a b c sl) D E F) (Addr.add ⟨H.size + 2, 0, none⟩ 4) 1 := more_canPut H [A, ⟨B, .rw, 0⟩, ⟨opl K a b c sl, .rw, 0⟩, ⟨D, .rw, 0⟩, ⟨E, .rw, 0⟩, F] 2 4 1 ⟨opl K a b c sl, .rw, 0⟩ rfl rfl (by simp [opl])
theorem six_row3 {B C E : List Value} {A : AObj} {F : AObj} : AH.row? (six H A B C (opl K a b c sl) E F) ⟨H.size + 3, 0, none⟩ 5 = some (opl K a b c sl) := more_row H [A, ⟨B, .rw, 0⟩, ⟨C, .rw, 0⟩, ⟨opl K a b c sl, .rw, 0⟩, ⟨E, .rw, 0⟩, F] 3 5 ⟨opl K a b c sl, .rw, 0⟩ rfl (by simp) rfl rfl
theorem six_ld3 {B C E : List Value} {A : AObj} {F : AObj} {k : List Value → Prop} : ldA (six H A B C (opl K a b c sl) E F) ⟨H.size + 3, 0, none⟩ 5 k ↔ k (opl K a b c sl) := ldA_some six_row3
theorem six_put3 {B C E : List Value} {A : AObj} {F : AObj} : AH.put (six H A B C (opl K a b c sl) E F) ⟨H.size + 3, 0, none⟩ (opl K' a' b' c' sl') = (six H A B C (opl K' a' b' c' sl') E F) := more_put H [A, ⟨B, .rw, 0⟩, ⟨C, .rw, 0⟩, ⟨opl K a b c sl, .rw, 0⟩, ⟨E, .rw, 0⟩, F] 3 0 _ ⟨opl K a b c sl, .rw, 0⟩ rfl
theorem six_can3 {B C E : List Value} {A : AObj} {F : AObj} : AH.canPut (six H A B C (opl K a b c sl) E F) ⟨H.size + 3, 0, none⟩ 5 := more_canPut H [A, ⟨B, .rw, 0⟩, ⟨C, .rw, 0⟩, ⟨opl K a b c sl, .rw, 0⟩, ⟨E, .rw, 0⟩, F] 3 0 5 ⟨opl K a b c sl, .rw, 0⟩ rfl rfl (by simp [opl])
theorem six_c2_3 {B C E : List Value} {A : AObj} {F : AObj} : AH.cell? (six H A B C (opl K a b c sl) E F) (Addr.add ⟨H.size + 3, 0, none⟩ 2) = some (.int .i64 b) := more_cell H [A, ⟨B, .rw, 0⟩, ⟨C, .rw, 0⟩, ⟨opl K a b c sl, .rw, 0⟩, ⟨E, .rw, 0⟩, F] 3 2 ⟨opl K a b c sl, .rw, 0⟩ rfl (by simp)
theorem six_put2_3 {B C E : List Value} {A : AObj} {F : AObj} {v : Int} : AH.put (six H A B C (opl K a b c sl) E F) (Addr.add ⟨H.size + 3, 0, none⟩ 2) [.int .i64 v] = (six H A B C (opl K a v c sl) E F) := more_put H [A, ⟨B, .rw, 0⟩, ⟨C, .rw, 0⟩, ⟨opl K a b c sl, .rw, 0⟩, ⟨E, .rw, 0⟩, F] 3 2 _ ⟨opl K a b c sl, .rw, 0⟩ rfl
theorem six_can2_3 {B C E : List Value} {A : AObj} {F : AObj} : AH.canPut (six H A B C (opl K a b c sl) E F) (Addr.add ⟨H.size + 3, 0, none⟩ 2) 1 := more_canPut H [A, ⟨B, .rw, 0⟩, ⟨C, .rw, 0⟩, ⟨opl K a b c sl, .rw, 0⟩, ⟨E, .rw, 0⟩, F] 3 2 1 ⟨opl K a b c sl, .rw, 0⟩ rfl rfl (by simp [opl])
theorem six_put4_3 {B C E : List Value} {A : AObj} {F : AObj} {v : Sl} : AH.put (six H A B C (opl K a b c sl) E F) (Addr.add ⟨H.size + 3, 0, none⟩ 4) [v.val] = (six H A B C (opl K a b c v) E F) := more_put H [A, ⟨B, .rw, 0⟩, ⟨C, .rw, 0⟩, ⟨opl K a b c sl, .rw, 0⟩, ⟨E, .rw, 0⟩, F] 3 4 _ ⟨opl K a b c sl, .rw, 0⟩ rfl
theorem six_can4_3 {B C E : List Value} {A : AObj} {F : AObj} : AH.canPut (six H A B C (opl K a b c sl) E F) (Addr.add ⟨H.size + 3, 0, none⟩ 4) 1 := more_canPut H [A, ⟨B, .rw, 0⟩, ⟨C, .rw, 0⟩, ⟨opl K a b c sl, .rw, 0⟩, ⟨E, .rw, 0⟩, F] 3 4 1 ⟨opl K a b c sl, .rw, 0⟩ rfl rfl (by simp [opl])
theorem six_row4 {B C D : List Value} {A : AObj} {F : AObj} : AH.row? (six H A B C D (opl K a b c sl) F) ⟨H.size + 4, 0, none⟩ 5 = some (opl K a b c sl) := more_row H [A, ⟨B, .rw, 0⟩, ⟨C, .rw, 0⟩, ⟨D, .rw, 0⟩, ⟨opl K a b c sl, .rw, 0⟩, F] 4 5 ⟨opl K a b c sl, .rw, 0⟩ rfl (by simp) rfl rfl
theorem six_ld4 {B C D : List Value} {A : AObj} {F : AObj} {k : List Value → Prop} : ldA (six H A B C D (opl K a b c sl) F) ⟨H.size + 4, 0, none⟩ 5 k ↔ k (opl K a b c sl) := ldA_some six_row4
theorem six_put4 {B C D : List Value} {A : AObj} {F : AObj} : AH.put (six H A B C D (opl K a b c sl) F) ⟨H.size + 4, 0, none⟩ (opl K' a' b' c' sl') = (six H A B C D (opl K' a' b' c' sl') F) := more_put H [A, ⟨B, .rw, 0⟩, ⟨C, .rw, 0⟩, ⟨D, .rw, 0⟩, ⟨opl K a b c sl, .rw, 0⟩, F] 4 0 _ ⟨opl K a b c sl, .rw, 0⟩ rfl
theorem six_can4 {B C D : List Value} {A : AObj} {F : AObj} : AH.canPut (six H A B C D (opl K a b c sl) F) ⟨H.size + 4, 0, none⟩ 5 := more_canPut H [A, ⟨B, .rw, 0⟩, ⟨C, .rw, 0⟩, ⟨D, .rw, 0⟩, ⟨opl K a b c sl, .rw, 0⟩, F] 4 0 5 ⟨opl K a b c sl, .rw, 0⟩ rfl rfl (by simp [opl])
theorem six_c2_4 {B C D : List Value} {A : AObj} {F : AObj} : AH.cell? (six H A B C D (opl K a b c sl) F) (Addr.add ⟨H.size + 4, 0, none⟩ 2) = some (.int .i64 b) := more_cell H [A, ⟨B, .rw, 0⟩, ⟨C, .rw, 0⟩, ⟨D, .rw, 0⟩, ⟨opl K a b c sl, .rw, 0⟩, F] 4 2 ⟨opl K a b c sl, .rw, 0⟩ rfl (by simp)
theorem six_put2_4 {B C D : List Value} {A : AObj} {F : AObj} {v : Int} : AH.put (six H A B C D (opl K a b c sl) F) (Addr.add ⟨H.size + 4, 0, none⟩ 2) [.int .i64 v] = (six H A B C D (opl K a v c sl) F) := more_put H [A, ⟨B, .rw, 0⟩, ⟨C, .rw, 0⟩, ⟨D, .rw, 0⟩, ⟨opl K a b c sl, .rw, 0⟩, F] 4 2 _ ⟨opl K a b c sl, .rw, 0⟩ rfl
theorem six_can2_4 {B C D : List Value} {A : AObj} {F : AObj} : AH.canPut (six H A B C D (opl K a b c sl) F) (Addr.add ⟨H.size + 4, 0, none⟩ 2) 1 := more_canPut H [A, ⟨B, .rw, 0⟩, ⟨C, .rw, 0⟩, ⟨D, .rw, 0⟩, ⟨opl K a b c sl, .rw, 0⟩, F] 4 2 1 ⟨opl K a b c sl, .rw, 0⟩ rfl rfl (by simp [opl])
theorem six_put4_4 {B C D : List Value} {A : AObj} {F : AObj} {v : Sl} : AH.put (six H A B C D (opl K a b c sl) F) (Addr.add ⟨H.size + 4, 0, none⟩ 4) [v.val] = (six H A B C D (opl K a b c v) F) := more_put H [A, ⟨B, .rw, 0⟩, ⟨C, .rw, 0⟩, ⟨D, .rw, 0⟩, ⟨opl K a b c sl, .rw, 0⟩, F] 4 4 _ ⟨opl K a b c sl, .rw, 0⟩ rfl
theorem six_can4_4 {B C D : List Value} {A : AObj} {F : AObj} : AH.canPut (six H A B C D (opl K a b c sl) F) (Addr.add ⟨H.size + 4, 0, none⟩ 4) 1 := more_canPut H [A, ⟨B, .rw, 0⟩, ⟨C, .rw, 0⟩, ⟨D, .rw, 0⟩, ⟨opl K a b c sl, .rw, 0⟩, F] 4 4 1 ⟨opl K a b c sl, .rw, 0⟩ rfl rfl (by simp [opl])

theorem tri_intro (A : AObj) (B C : List Value) : ((H.push A).push ⟨B, .rw, 0⟩).push ⟨C, .rw, 0⟩ = tri H A B C := by
  rw [push_more0 H, push_more, push_more]; rfl
theorem five_intro (A : AObj) (B C D E : List Value) : ((tri H A B C).push ⟨D, .rw, 0⟩).push ⟨E, .rw, 0⟩ = five H A B C D E := by
  unfold tri; rw [push_more, push_more]; rfl
theorem six_intro (A F : AObj) (B C D E : List Value) : (five H A B C D E).push F = six H A B C D E F := by
  unfold five; rw [push_more]; rfl
theorem tri_size (A : AObj) (B C : List Value) : (tri H A B C).size = H.size + 3 := rfl
theorem five_size (A : AObj) (B C D E : List Value) : (five H A B C D E).size = H.size + 5 := rfl

theorem op_sl (p q r t : Int) (ad : Option Addr) (n k : Nat) : [Value.int .i64 p, Value.int .i64 q, Value.int .i64 r, Value.int .i64 t, Value.slice ad n k] = opl p q r t ⟨ad, n, k⟩ := rfl
theorem six_putS {B C D : List Value} {A : AObj} {F : AObj} {ad : Option Addr} {n k : Nat} : AH.put (six H A B C D (opl K a b c sl) F) (Addr.add ⟨H.size + 4, 0, none⟩ 4) [.slice ad n k] = six H A B C D (opl K a b c ⟨ad, n, k⟩) F := six_put4_4 (v := ⟨ad, n, k⟩)

theorem darninglaw24_CostMore.t {x y z : Int} : darninglaw24_CostMore x y z H (fun r _ => r = true) := by
  refine darninglaw24_CostMore.link ?_
  unfold darninglaw24_CostMore.b
  have hx := umod (m := 448) (by omega) x
  have hy := umod (m := 448) (by omega) y
  have hz := umod (m := 16) (by omega) z
  generalize Int.tmod (IntKind.wrap .u64 x) 448 = p at *
  generalize Int.tmod (IntKind.wrap .u64 y) 448 = q at *
  generalize Int.tmod (IntKind.wrap .u64 z) 16 = r at *
  rw [wrap_i64 (n := p) (by omega) (by omega), wrap_i64 (n := q) (by omega) (by omega), wrap_i64 (n := r) (by omega) (by omega), wrap_i64 (n := q + 1) (by omega) (by omega), wrap_i64 (n := r + 1) (by omega) (by omega)]
  refine ⟨by decide, by decide, by decide, by simp only [lim]; omega, ?_⟩
  simp only [newC_eq, stC_eq, op_sl, op_len, op_ok, tri_intro, push_size, Nat.add_assoc, Nat.reduceAdd, tri_put1, tri_put2, tri_can1, tri_can2, tri_ld1, tri_ld2, tri_row1, tri_row2, five_intro, tri_size, five_size,
    five_put3, five_put4, five_can3, five_can4, five_c2_3, five_put2_3, five_can2_3, five_row2, six_intro, elI_some, List.length_cons, List.length_nil, Nat.zero_add, true_and]
  rw [wrap_i64 (n := p + 1) (by omega) (by omega)]
  refine ⟨by simp only [lim]; omega, ?_⟩
  simp only [six_intro, six_putS, six_can4_4, true_and]
  rw [six_ld3, six_ld1]
  have nq : ((Int.toNat q : Nat) : Int) = q := by omega
  have nq1 : ((Int.toNat (q + 1) : Nat) : Int) = q + 1 := by omega
  have l1 : linesP 1 p 0 = p / 64 + 4 := by unfold linesP; rw [if_pos rfl, if_pos (by omega)]
  have l2 : linesP 1 (p + 1) 0 = (p + 1) / 64 + 4 := by unfold linesP; rw [if_pos rfl, if_pos (by omega)]
  have l3 : linesP 4 0 (Int.toNat q) = q / 64 + 2 := by unfold linesP; rw [if_neg (by omega), if_pos rfl, if_pos (by omega), nq]
  have l4 : linesP 4 0 (Int.toNat (q + 1)) = (q + 1) / 64 + 2 := by unfold linesP; rw [if_neg (by omega), if_pos rfl, if_pos (by omega), nq1]
  have c : ∀ K b (n : Nat) m (L : Int), linesP K b n = L → 1 ≤ L → K ≠ 5 → 0 ≤ m ∧ m ≤ 16 → costP K b n m = 12 * L + 24 + 4 * m := by
    intro K b n m L hL h1 h5 hm
    unfold costP
    rw [if_pos hm, if_neg h5, hL, if_neg (by omega)]
  refine cost_Op.s ⟨six_row1, cost_Op.s ?_⟩
  simp only
  rw [c 1 (p + 1) 0 r _ l2 (by omega) (by omega) (by omega), c 1 p 0 r _ l1 (by omega) (by omega) (by omega), show decide (12 * ((p + 1) / 64 + 4) + 24 + 4 * r ≥ 12 * (p / 64 + 4) + 24 + 4 * r) = true from by simp; omega, bcase_true, six_ld4, six_ld2]
  refine cost_Op.s ⟨six_row2, cost_Op.s ?_⟩
  simp only
  rw [c 4 0 (Int.toNat (q + 1)) r _ l4 (by omega) (by omega) (by omega), c 4 0 (Int.toNat q) r _ l3 (by omega) (by omega) (by omega), show decide (12 * ((q + 1) / 64 + 2) + 24 + 4 * r ≥ 12 * (q / 64 + 2) + 24 + 4 * r) = true from by simp; omega, bcase_true, six_ld1, six_ld1]
  refine cost_Op.s ⟨six_row1, cost_Op.s ?_⟩
  simp only
  rw [c 1 p 0 (r + 1) _ l1 (by omega) (by omega) (by omega), c 1 p 0 r _ l1 (by omega) (by omega) (by omega), show decide (12 * (p / 64 + 4) + 24 + 4 * (r + 1) > 12 * (p / 64 + 4) + 24 + 4 * r) = true from by simp; omega, bcase_true]
  refine cost_Recover.s (cost_Recover.s ?_)
  rw [show recP (r + 1) = 192 + 4 * (r + 1) from by unfold recP; rw [if_pos (by omega)], show recP r = 192 + 4 * r from by unfold recP; rw [if_pos (by omega)], show decide (192 + 4 * (r + 1) > 192 + 4 * r) = true from by simp; omega, bcase_true, six_ld3]
  refine cost_Lines.s ?_
  simp only
  rw [l2, show decide ((p + 1) / 64 + 4 ≤ (14 : Int)) = true from by simp; omega, bcase_true, six_ld4]
  refine cost_Lines.s ?_
  simp only
  rw [l4, show decide ((q + 1) / 64 + 2 ≤ (14 : Int)) = true from by simp; omega, bcase_true, six_ld1]
  refine cost_Op.s ?_
  rw [show costP 1 p (Sl.n ⟨none, 0, 0⟩) 17 = 0 from rfl, beq_self_eq_true, bcase_true, six_ld1]
  refine cost_Op.s ?_
  rw [show costP 1 p (Sl.n ⟨none, 0, 0⟩) (-1) = 0 from rfl, beq_self_eq_true, bcase_true]
  exact darninglaw24_awake.s rfl
end
end Go.Proofs.Ytmbipadfcbndgaa
