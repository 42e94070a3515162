import Derived.Test.YtgechnnadjonaabN15
set_option linter.all false
set_option linter.all false
namespace Go.Proofs.Ytgechnnadjonaab
open Go Go.Abs

section
variable {H : AH}
theorem push_upd (H : AH) (a b : AObj) : (H.push a).upd H.size b = H.push b := by
  unfold AH.push AH.upd
  simp only
  congr 1
  funext x
  by_cases h : x = H.size
  · rw [if_pos h, if_pos h]
  · rw [if_neg h, if_neg h, if_neg h]
theorem putV_set0 {q : Int × List Int} {v : Int} : setMany (putV q) 0 [Value.int .i64 v] = putV (v, q.2) := rfl
theorem putV_over {q : Int × List Int} (h : isLine q.2) : setMany [(Value.int .i64 0), .int .u64 0, .int .u64 0, .int .u64 0, .int .u64 0, .int .u64 0, .int .u64 0, .int .u64 0, .int .u64 0] 0 (putV q) = putV q := by
  obtain ⟨a, l⟩ := q
  obtain ⟨h1, _⟩ := h
  simp only at h1
  match l, h1 with
  | [b, c, d, e, f, g, h, i], _ => rfl
/-- A home is made, its line is set. -/
theorem new_put0 {q : Int × List Int} {v : Int} (hq : putOK q) {K : AH → Prop} (hK : K (H.push ⟨putV (v, q.2), .rw, 0⟩)) : stC (H.push ⟨putV q, .rw, 0⟩) (Addr.add ⟨H.size, 0, none⟩ 0) [Value.int .i64 v] K := by
  refine stC_to ?_ ?_ hK
  · rw [addr_add]; exact ⟨rfl, by simp [push_get], by simp [push_get, putV_len hq]⟩
  · rw [addr_add]
    show AH.upd _ _ _ = _
    simp only [push_get, if_pos, Nat.zero_add]
    rw [putV_set0, push_upd]
end
end Go.Proofs.Ytgechnnadjonaab
