import Derived.Test.YtgechnnadjonaabN18
set_option linter.all false
set_option linter.all false
namespace Go.Proofs.Ytgechnnadjonaab
open Go Go.Abs

section
variable {H : AH}
theorem sd_new {nn sp : Nat} {limits : List Int} (hnn : 1 ≤ nn) (hsp : sp ≤ 16) : Sd (16 + nn) sp (Mem.new (16 + nn + 1 + sp) limits) (List.replicate nn (List.replicate 8 (0 : Int))) := by
  refine .inl ⟨rfl, fun s h1 h2 => ?_⟩
  have hzero : ∀ i, i < sp → (Mem.new (16 + nn + 1 + sp) limits).whose i = 0 := fun i hi => whose_new (by omega)
  unfold Mem.tview
  have hsl := slotN_le (mv := (Mem.new (16 + nn + 1 + sp) limits).mv) (line := s) (n := 16 + nn) (by omega)
  rw [view_zero hzero, Mem.new_cl (by omega)]
  show List.replicate 8 (0 : Int) = _
  rw [List.getD_eq_getElem?_getD, List.getElem?_replicate, if_pos (by omega)]; rfl

theorem may_one {n : Nat} {i : Nat} {d : List Int} (hi : 16 ≤ i ∧ i < n) : MayL n [((i : Int), d)] := by
  refine ⟨by omega, by simp, by simp, fun j hj => ?_⟩
  have : j = 0 := by simpa using hj
  subst this
  have e : lnAt [((i : Int), d)] 0 = (i : Int) := rfl
  rw [e]
  exact ⟨by omega, by omega, fun j hj => by omega⟩

end
end Go.Proofs.Ytgechnnadjonaab
