import Derived.Test.YtgechnnadjonaabM6
set_option linter.all false
set_option linter.all false
namespace Go.Proofs.Ytgechnnadjonaab
open Go Go.Abs

theorem umod {m : Int} (hm : 0 < m) (z : Int) : 0 ≤ Int.tmod (IntKind.wrap .u64 z) m ∧ Int.tmod (IntKind.wrap .u64 z) m < m := by
  have h0 : 0 ≤ IntKind.wrap .u64 z := by
    simp only [IntKind.wrap, IntKind.bits, IntKind.signed, Bool.false_and, Int.reducePow, Bool.false_eq_true, if_false]; omega
  rw [Int.tmod_eq_emod_of_nonneg h0]
  exact ⟨Int.emod_nonneg _ (by omega), Int.emod_lt_of_pos _ (by omega)⟩

theorem inc_eq {n : Int} (h : 0 ≤ n) (h' : n < 9223372036854775807) : inc n = n + 1 := wrap_i64 (by omega) (by omega)

section
variable {H : AH}

theorem Mem.new_cl {n i : Nat} {limits : List Int} (hi : i < n) : (Mem.new n limits).cl i = ⟨List.replicate 8 0, 0, limits.getD i (-1)⟩ := by
  rw [← Mem.newTo_n, Mem.newTo_cl hi, if_pos hi]

/-! ### NvmLasts -/

/-! ### NvmCuts -/

theorem Mem.setc_cl' {M : Mem} {i j : Nat} {x : Cl} (h : i < M.cs.length) : (M.setc i x).cl j = if j = i then x else M.cl j := by
  simp only [Mem.cl, Mem.setc, List.getD_eq_getElem?_getD]
  by_cases hij : j = i
  · subst hij; simp [h]
  · rw [if_neg hij, List.getElem?_set_ne (by omega)]

end
end Go.Proofs.Ytgechnnadjonaab
