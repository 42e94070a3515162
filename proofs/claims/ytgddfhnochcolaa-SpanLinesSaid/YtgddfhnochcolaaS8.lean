import Derived.Test.YtgddfhnochcolaaS7
set_option linter.all false
namespace Go.Proofs.Ytgddfhnochcolaa
open Go Go.Abs

theorem words_ext {a b : List Int} (hl : a.length = b.length) (h : ∀ w, w < a.length → a.getD w 0 = b.getD w 0) : a = b := by
  apply List.ext_getElem?
  intro w
  by_cases hw : w < a.length
  · have := h w hw
    simp only [List.getD_eq_getElem?_getD, List.getElem?_eq_getElem hw, List.getElem?_eq_getElem (show w < b.length by omega), Option.getD_some] at this
    rw [List.getElem?_eq_getElem hw, List.getElem?_eq_getElem (show w < b.length by omega), this]
  · rw [List.getElem?_eq_none (by omega), List.getElem?_eq_none (by omega)]

theorem editsOf_succ (cur : List Int) (q m : Nat) : editsOf cur q (m + 1) = editsOf cur q m ++ [(((q + m : Nat) : Int), cur.getD (q + m) 0)] := by
  simp only [editsOf, List.range_succ, List.map_append, List.map_cons, List.map_nil]

theorem applyE_getD {ws cur : List Int} {q : Nat} : ∀ (m w : Nat), q + m ≤ ws.length → (applyE ws (editsOf cur q m)).getD w 0 = if q ≤ w ∧ w < q + m then cur.getD w 0 else ws.getD w 0 := by
  intro m
  induction m with
  | zero => intro w _; rw [if_neg (by omega)]; rfl
  | succ m ih =>
    intro w hm
    rw [editsOf_succ]
    have : applyE ws (editsOf cur q m ++ [(((q + m : Nat) : Int), cur.getD (q + m) 0)]) = putE (applyE ws (editsOf cur q m)) (((q + m : Nat) : Int), cur.getD (q + m) 0) := by simp [applyE, List.foldl_append]
    rw [this]
    unfold putE
    rw [if_pos ⟨by simp only; omega, by simp only [applyE_length]; omega⟩]
    simp only [Int.toNat_natCast]
    by_cases hw : w = q + m
    · subst hw
      rw [if_pos (by omega), List.getD_eq_getElem?_getD, List.getElem?_set_self (by rw [applyE_length]; omega), Option.getD_some]
    · have h2 : ((applyE ws (editsOf cur q m)).set (q + m) (cur.getD (q + m) 0)).getD w 0 = (applyE ws (editsOf cur q m)).getD w 0 := by
        simp only [List.getD_eq_getElem?_getD]
        rw [List.getElem?_set_ne (by omega)]
      rw [h2, ih w (by omega)]
      by_cases h3 : q ≤ w ∧ w < q + m
      · rw [if_pos h3, if_pos (by omega)]
      · rw [if_neg h3, if_neg (by omega)]

/-- The edits of a write, done, are the write. -/
theorem applyE_edits {ws bs : List Int} {off : Nat} (hl : off + bs.length ≤ ws.length * 8) : applyE ws (editsOf (putBs ws off bs) (off / 8) (touched off bs.length)) = putBs ws off bs := by
  have hm : off / 8 + touched off bs.length ≤ ws.length ∨ bs = [] := by
    cases bs with
    | nil => exact .inr rfl
    | cons c r => left; simp only [List.length_cons, touched] at hl ⊢; rw [if_neg (by omega)]; omega
  rcases hm with hm | rfl
  · refine words_ext (by rw [applyE_length, putBs_length]) fun w _ => ?_
    rw [applyE_getD _ _ hm]
    split
    · rfl
    · rename_i hw
      by_cases h0 : bs.length = 0
      · have : bs = [] := List.length_eq_zero_iff.1 h0
        subst this; rfl
      · have : touched off bs.length = (off + bs.length - 1) / 8 - off / 8 + 1 := by simp [touched, h0]
        exact (putBs_far _ _ _ _ (by omega) hl).symm
  · rfl

theorem bytesOf_putBs {ws bs : List Int} {off : Nat} (h64 : words64 ws) (h8 : bytes8 bs) (hl : off + bs.length ≤ ws.length * 8) : bytesOf (putBs ws off bs) off bs.length = bs := by
  apply List.ext_getElem?
  intro j
  by_cases hj : j < bs.length
  · simp only [bytesOf, List.getElem?_map, List.getElem?_range hj, Option.map_some]
    rw [byteAt_putBs _ _ _ _ h64 h8 hl (by omega), if_pos (by omega), show off + j - off = j from by omega, List.getD_eq_getElem?_getD, List.getElem?_eq_getElem hj, Option.getD_some]
  · rw [List.getElem?_eq_none (by simp [bytesOf]; omega), List.getElem?_eq_none (by omega)]
end Go.Proofs.Ytgddfhnochcolaa
