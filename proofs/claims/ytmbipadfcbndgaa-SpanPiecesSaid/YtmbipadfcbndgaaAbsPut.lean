import Derived.Test.YtmbipadfcbndgaaAbsSl
set_option linter.all false
/-
  A cell of an own slice is written.
-/
namespace Go.Abs

theorem flat_set {α : Type} {f : α → List Value} {z : Nat} (hf : ∀ x, (f x).length = z) {j : Nat} {v : Value} (hj : j < z) : ∀ (l : List α) (i : Nat) (x y : α), l[i]? = some x → f y = (f x).set j v →
    (l.flatMap f).set (i * z + j) v = (l.set i y).flatMap f := by
  intro l
  induction l with
  | nil => intro i x y h; simp at h
  | cons a l ih =>
    intro i x y h hy
    cases i with
    | zero =>
      simp only [List.getElem?_cons_zero, Option.some.injEq] at h
      subst h
      simp only [Nat.zero_mul, Nat.zero_add, List.flatMap_cons, List.set_cons_zero]
      rw [hy, List.set_append_left _ _ (by rw [hf]; exact hj)]
    | succ i =>
      simp only [List.getElem?_cons_succ] at h
      simp only [List.flatMap_cons, List.set_cons_succ]
      rw [← ih i x y h hy, List.set_append_right _ _ (by rw [hf, Nat.succ_mul]; omega)]
      congr 2
      rw [hf, Nat.succ_mul]; omega

theorem Own.cell {α : Type} {B : Nat} {H : AH} {s : Sl} {z : Nat} {f : α → List Value} {l : List α} (h : Own B H s z f l) (hf : ∀ x, (f x).length = z) {i : Nat} {x : α} (hi : l[i]? = some x) {j : Nat} (hj : j < z) :
    ∃ b, s.a = some ⟨b, 0, none⟩ ∧ B ≤ b ∧ b < H.size ∧ AH.cell? H ⟨b, i * z + j, none⟩ = (f x)[j]? := by
  rcases h with ⟨_, rfl⟩ | ⟨b, rfl, h1, h2, hg⟩
  · simp at hi
  · refine ⟨b, rfl, h1, h2, ?_⟩
    simp only [AH.cell?, hg, Option.isSome_none, Bool.false_eq_true, if_false]
    rw [if_neg (by simp)]
    have := flat_row hf l i x hi
    rw [← this, List.getElem?_take, if_pos hj, List.getElem?_drop]

theorem Own.put {α : Type} {B : Nat} {H : AH} {s : Sl} {z : Nat} {f : α → List Value} {l : List α} (h : Own B H s z f l) (hf : ∀ x, (f x).length = z) {i : Nat} {x y : α} (hi : l[i]? = some x) {j : Nat} (hj : j < z) {v : Value}
    (hy : f y = (f x).set j v) : ∃ b, s.a = some ⟨b, 0, none⟩ ∧ B ≤ b ∧ b < H.size ∧ AH.canPut H ⟨b, i * z + j, none⟩ 1 ∧ Own B (H.put ⟨b, i * z + j, none⟩ [v]) s z f (l.set i y) ∧
      ∀ b', b' ≠ b → (H.put ⟨b, i * z + j, none⟩ [v]).get b' = H.get b' := by
  rcases h with ⟨_, rfl⟩ | ⟨b, rfl, h1, h2, hg⟩
  · simp at hi
  · have hlt : i < l.length := (List.getElem?_eq_some_iff.1 hi).1
    have hle : i * z + j + 1 ≤ (l.flatMap f).length := by
      rw [flat_len hf]
      calc i * z + j + 1 ≤ i * z + z := by omega
        _ = (i + 1) * z := by rw [Nat.succ_mul]
        _ ≤ l.length * z := Nat.mul_le_mul_right _ hlt
    refine ⟨b, rfl, h1, h2, ⟨rfl, by rw [hg], by rw [hg]; exact hle⟩, .inr ⟨b, by simp, h1, h2, ?_⟩, fun b' hb' => ?_⟩
    · simp only [AH.put, upd_get, if_true, hg, setMany]
      rw [flat_set hf hj l i x y hi hy]
    · simp only [AH.put, upd_get]; rw [if_neg hb']

end Go.Abs
