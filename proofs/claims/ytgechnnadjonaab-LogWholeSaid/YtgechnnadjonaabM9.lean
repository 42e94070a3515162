import Derived.Test.YtgechnnadjonaabM8
set_option linter.all false
set_option linter.all false
namespace Go.Proofs.Ytgechnnadjonaab
open Go Go.Abs

theorem keeps_row {H H' : AH} {b i n : Nat} (h : Keeps H H') (hb : b < H.size) : AH.row? H' ⟨b, i, none⟩ n = AH.row? H ⟨b, i, none⟩ n := by
  simp only [AH.row?, h.2 b hb]
theorem keeps_cell {H H' : AH} {b i : Nat} (h : Keeps H H') (hb : b < H.size) : AH.cell? H' ⟨b, i, none⟩ = AH.cell? H ⟨b, i, none⟩ := by
  simp only [AH.cell?, h.2 b hb]

theorem Mem.put_cut0 {M : Mem} {i : Int} {l : List Int} (hc : M.cut = 0) (hd : M.down = false) (hi : M.has i) (hw : (M.cl i.toNat).worn = false) :
    M.put i l = ({ M with writes := inc M.writes, down := true, cs := M.cs.set i.toNat ⟨mixL (M.cl i.toNat).line l M.mask, inc (M.cl i.toNat).wear, (M.cl i.toNat).limit⟩ }, 2) := by
  unfold Mem.put
  have h1 : M.wr = { M with writes := inc M.writes, down := true } := by unfold Mem.wr; rw [if_pos hc]
  have h2 : M.wmask = M.mask := by unfold Mem.wmask; rw [if_pos hc]
  rw [if_pos hi, if_neg (by simp [hd])]
  simp only [hw, Bool.false_eq_true, if_false, h1, h2, Mem.setc, Mem.told]
  simp
theorem Mem.set_cut0 {M : Mem} {i v : Int} (hc : M.cut = 0) (hd : M.down = false) (hi : regIn i) :
    M.set i v = ({ M with writes := inc M.writes, down := true, regs := if mbit M.mask 0 then M.regs.set i.toNat v else M.regs }, 2) := by
  unfold Mem.set
  have h1 : M.wr = { M with writes := inc M.writes, down := true } := by unfold Mem.wr; rw [if_pos hc]
  have h2 : M.wmask = M.mask := by unfold Mem.wmask; rw [if_pos hc]
  rw [if_pos hi, if_neg (by simp [hd]), h1, h2]
  simp only [Mem.told, if_true]
  split <;> rfl

section
variable {H : AH}

end
end Go.Proofs.Ytgechnnadjonaab
