import Derived.Test.YtgechnnadjonaabM7
import Derived.Test.YtgechnnadjonaabAbsTwo
set_option linter.all false
set_option linter.all false
namespace Go.Proofs.Ytgechnnadjonaab
open Go Go.Abs

section
variable {H : AH}

/-! ### NvmNever -/

theorem Mem.put_live {M : Mem} {i : Int} {l : List Int} (hc : M.cut = -1) (hd : M.down = false) : (M.put i l).2 ≠ 2 ∧ (M.put i l).1.cut = -1 ∧ (M.put i l).1.down = false := by
  unfold Mem.put
  have hw : M.wr = { M with writes := inc M.writes } := by unfold Mem.wr; rw [if_neg (by omega), if_neg (by omega)]
  split
  · rw [if_neg (by simp [hd])]
    simp only
    split
    · simp [hw, Mem.told, hd, hc]
    · simp [hw, Mem.told, hd, hc, Mem.setc]
  · exact ⟨by simp, hc, hd⟩
theorem Mem.put_dark {M : Mem} {i : Int} {l : List Int} (hd : M.down = true) (hi : M.has i) : M.put i l = (M, 2) := by
  unfold Mem.put; rw [if_pos hi, if_pos hd]
theorem Mem.set_dark {M : Mem} {i v : Int} (hd : M.down = true) (hi : regIn i) : M.set i v = (M, 2) := by
  unfold Mem.set; rw [if_pos hi, if_pos hd]
theorem Mem.put_len {M : Mem} {i : Int} {l : List Int} : (M.put i l).1.cs.length = M.cs.length := by
  unfold Mem.put
  split
  · split
    · rfl
    · simp only; split
      · rw [Mem.wr_cs]
      · simp [Mem.setc, Mem.wr_cs]
  · rfl
theorem Mem.set_len {M : Mem} {i v : Int} : (M.set i v).1.cs.length = M.cs.length := by
  unfold Mem.set
  split
  · split
    · rfl
    · simp only; split <;> simp [Mem.wr_cs]
  · rfl

/-! ### NvmStays -/

theorem Mem.set_calm {M : Mem} {i v : Int} (hc : M.cut = -1) (hd : M.down = false) (hi : regIn i) : M.set i v = ({ M with writes := inc M.writes, regs := M.regs.set i.toNat v }, 0) := by
  unfold Mem.set
  have hw : M.wr = { M with writes := inc M.writes } := by unfold Mem.wr; rw [if_neg (by omega), if_neg (by omega)]
  have hk : M.wmask = -1 := by unfold Mem.wmask; rw [if_neg (by omega)]
  rw [if_pos hi, if_neg (by simp [hd]), hk, mbit_neg 0 (by omega), if_pos rfl, hw]
  simp [Mem.told, hd]
end
end Go.Proofs.Ytgechnnadjonaab
