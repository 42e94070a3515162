import Derived.Test.YtgechnnadjonaabT8
set_option linter.all false
set_option linter.all false
namespace Go.Proofs.Ytgechnnadjonaab
open Go Go.Abs

section
variable {H : AH}

theorem wf_u64' {x : Int} (h : (Lit.int .u64 x).wf = true) : 0 ≤ x ∧ x < 18446744073709551616 := by
  have := wf_u64 h
  unfold isU at this; omega

end
end Go.Proofs.Ytgechnnadjonaab
