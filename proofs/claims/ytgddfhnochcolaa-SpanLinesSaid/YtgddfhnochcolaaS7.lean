import Derived.Test.YtgddfhnochcolaaS6
set_option linter.all false
namespace Go.Proofs.Ytgddfhnochcolaa
open Go Go.Abs

/-- Byte p of the words behind a write of one byte. -/
theorem byteAt_putB {ws : List Int} (h64 : words64 ws) {i p : Nat} {c : Int} (hi : i / 8 < ws.length) (hp : p / 8 < ws.length) (hc : 0 ≤ c ∧ c ≤ 255) : byteAt (putB ws i c) p = if p = i then c else byteAt ws p := by
  unfold byteAt
  rw [putB_getD _ _ _ _ hi]
  by_cases hw : p / 8 = i / 8
  · rw [if_pos hw]
    by_cases hpi : p = i
    · subst hpi; rw [if_pos rfl, getB_setB_same (by omega) hc]
    · rw [if_neg hpi, ← hw]
      have hv : 0 ≤ ws.getD (p / 8) 0 ∧ ws.getD (p / 8) 0 ≤ 18446744073709551615 := by
        rw [List.getD_eq_getElem?_getD, List.getElem?_eq_getElem hp, Option.getD_some]
        exact h64 _ (List.getElem_mem hp)
      exact getB_setB_other hv (by omega) (by omega) (by omega) hc
  · rw [if_neg hw, if_neg (by intro h; exact hw (by rw [h]))]

theorem words64_putBs : ∀ (bs ws : List Int) (i : Nat), words64 ws → words64 (putBs ws i bs) := by
  intro bs
  induction bs with
  | nil => intro ws i h; exact h
  | cons c r ih => intro ws i h; exact ih _ _ (words64_putB h i c)

theorem byteAt_putBs : ∀ (bs ws : List Int) (i p : Nat), words64 ws → bytes8 bs → i + bs.length ≤ ws.length * 8 → p / 8 < ws.length →
    byteAt (putBs ws i bs) p = if i ≤ p ∧ p < i + bs.length then bs.getD (p - i) 0 else byteAt ws p := by
  intro bs
  induction bs with
  | nil => intro ws i p _ _ _ _; rw [if_neg (by simp)]; rfl
  | cons c r ih =>
    intro ws i p h64 h8 hl hp
    simp only [List.length_cons] at hl
    simp only [putBs]
    rw [ih _ _ _ (words64_putB h64 i c) (fun v hv => h8 v (by simp [hv])) (by rw [putB_length]; omega) (by rw [putB_length]; exact hp), byteAt_putB h64 (by omega) hp (h8 c (by simp))]
    simp only [List.length_cons]
    by_cases h1 : i + 1 ≤ p ∧ p < i + 1 + r.length
    · rw [if_pos h1, if_pos (by omega)]
      obtain ⟨d, hd⟩ : ∃ d, p - i = d + 1 := ⟨p - i - 1, by omega⟩
      rw [hd, List.getD_cons_succ]
      congr 1; omega
    · rw [if_neg h1]
      by_cases h2 : p = i
      · subst h2; rw [if_pos rfl, if_pos (by omega)]; simp
      · rw [if_neg h2, if_neg (by omega)]
end Go.Proofs.Ytgddfhnochcolaa
