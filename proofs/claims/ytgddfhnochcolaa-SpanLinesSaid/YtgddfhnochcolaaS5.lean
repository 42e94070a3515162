import Derived.Test.YtgddfhnochcolaaS4
set_option linter.all false
namespace Go.Proofs.Ytgddfhnochcolaa
open Go Go.Abs

theorem flat_single {α : Type} (g : α → Value) (l : List α) : (l.flatMap fun x => [g x]) = l.map g := by
  induction l with
  | nil => rfl
  | cons a l ih => simp [ih]

/-- All of a slice of one-cell elements. -/
theorem rows_all {α : Type} {H : AH} {s : Sl} {g : α → Value} {l : List α} (hg : ∀ x, cellOK (g x) = true) (h : Abs.Rows H s 1 (fun x => [g x]) l) : AH.rowS? H s 1 = some (l.map g) := by
  simp only [AH.rowS?]
  by_cases h0 : s.n = 0
  · rw [if_pos h0]
    have : l = [] := List.length_eq_zero_iff.1 (by rw [← h.1]; exact h0)
    subst this; rfl
  · rw [if_neg h0]
    have hpos : 0 < l.length := by rw [← h.1]; omega
    obtain ⟨b, o, ha, hb, hr0⟩ := h.at hpos
    rw [ha]
    simp only [Nat.mul_one]
    have hcell : ∀ i (hi : i < l.length), AH.cell? H ⟨b, o + i, none⟩ = some (g l[i]) := by
      intro i hi
      obtain ⟨b', o', ha', _, hr⟩ := rows_cell1 h hi
      rw [ha] at ha'
      injection ha' with ha'
      injection ha' with e1 e2 _
      subst e1 e2
      rw [addr_add, Nat.mul_one] at hr
      exact hr
    have hm : (H.get b).md ≠ .dead := by
      intro hm
      have := hcell 0 hpos
      simp [AH.cell?, hm] at this
    have hc : ∀ i (hi : i < l.length), (H.get b).cells[o + i]? = some (g l[i]) := by
      intro i hi
      have := hcell i hi
      simpa [AH.cell?, hm] using this
    have hlen : o + s.n ≤ (H.get b).cells.length := by
      have h1 := hc (l.length - 1) (by omega)
      have := (List.getElem?_eq_some_iff.1 h1).1
      have := h.1
      omega
    have htake : ((H.get b).cells.drop o).take s.n = l.map g := by
      apply List.ext_getElem?
      intro i
      by_cases hi : i < s.n
      · have hi' : i < l.length := by rw [← h.1]; exact hi
        rw [List.getElem?_take, if_pos hi, List.getElem?_drop, hc i hi', List.getElem?_map, List.getElem?_eq_getElem hi', Option.map_some]
      · rw [List.getElem?_eq_none (by simp; omega), List.getElem?_eq_none (by rw [List.length_map, ← h.1]; omega)]
    simp only [AH.row?, Option.isSome_none, Bool.false_eq_true, if_false]
    rw [if_neg hm, htake, if_pos ⟨hlen, by simp [hg]⟩]

theorem slices_Clone_uint64uint64.s {H : AH} {sl : Sl} {ws : List Int} {k : Sl → AH → Prop} (hw : Abs.Rows H sl 1 wU ws) (hwl : ws.length ≤ 1000000)
    (h : ∀ s H', Keeps H H' → Own H.size H' s 1 wU ws ∨ (ws = [] ∧ s.n = 0) → k s H') : slices_Clone_uint64uint64 sl H k := by
  refine slices_Clone_uint64uint64.link ?_
  unfold slices_Clone_uint64uint64.b
  cases ha : sl.a with
  | none =>
    rw [Option.isNone_none, bcase_true]
    refine h _ _ (Keeps.refl H) (.inr ⟨?_, rfl⟩)
    cases ws with
    | nil => rfl
    | cons x r =>
      obtain ⟨a, h1, _⟩ := hw.2 0 x rfl
      rw [ha] at h1; cases h1
  | some a =>
    rw [Option.isNone_some, bcase_false, newC_eq]
    refine ⟨le_limS (by have := hw.1; simp only [lim]; omega) _, ?_⟩
    by_cases h0 : sl.n = 0
    · rw [if_pos h0]
      refine h _ _ ((Keeps.refl H).push _) (.inr ⟨List.length_eq_zero_iff.1 (by rw [← hw.1]; exact h0), rfl⟩)
    · rw [if_neg h0]
      have hr := rows_all (g := fun v => Value.int .u64 v) (fun _ => rfl) (hw.keep ((Keeps.refl H).push ⟨[], .rw, 1⟩))
      refine ⟨_, hr, ⟨rfl, rfl, rfl, by simp [push_get], by simp [push_get], by simp [push_get]⟩, ?_⟩
      refine h _ _ ((((Keeps.refl H).push _).kill (b := H.size) (Nat.le_refl _)).push _) (.inl (.inr ⟨H.size + 1, ?_, by omega, by simp [push_size, kill_size], ?_⟩))
      · simp [newAt, push_size, hw.1]
      · simp only [push_get, kill_size, push_size, if_true]
        simp only [List.nil_append, AObj.mk.injEq, and_true]
        exact (flat_single (fun v => Value.int .u64 v) ws).symm
end Go.Proofs.Ytgddfhnochcolaa
