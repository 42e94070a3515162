import Derived.Test.YtgechnnadjonaabT9
set_option linter.all false
set_option linter.all false
namespace Go.Proofs.Ytgechnnadjonaab
open Go Go.Abs

/-! ## How often each line is written, when one line alone is put -/

def lw (n per : Nat) : Nat → Nat → Nat
  | 0, _ => 0
  | j + 1, s => lw n per j s + (if s = slotN n ((j + 1) / per) 0 then 1 else 0)
def gw (n per : Nat) : Nat → Nat → Nat
  | 0, _ => 0
  | j + 1, s => gw n per j s + (if j % per + 1 = per ∧ s = gapN n (j / per) then 1 else 0)
def tot (f : Nat → Nat) : Nat → Nat
  | 0 => 0
  | k + 1 => tot f k + f k

theorem tot_add (f g : Nat → Nat) (k : Nat) : tot (fun s => f s + g s) k = tot f k + tot g k := by
  induction k with
  | zero => rfl
  | succ k ih => simp only [tot, ih]; omega
theorem tot_ind (a : Nat) (k : Nat) : tot (fun s => if s = a then 1 else 0) k = if a < k then 1 else 0 := by
  induction k with
  | zero => rfl
  | succ k ih =>
    simp only [tot, ih]
    by_cases h : a < k
    · rw [if_pos h, if_neg (by omega), if_pos (by omega)]
    · rw [if_neg h]
      by_cases h2 : k = a
      · rw [if_pos h2, if_pos (by omega)]
      · rw [if_neg h2, if_neg (by omega)]
theorem tot_zero (k : Nat) : tot (fun _ => 0) k = 0 := by
  induction k with
  | zero => rfl
  | succ k ih => simp only [tot, ih]

section
variable {n per j s : Nat}
theorem tot_lw (hn : 1 ≤ n) : tot (lw n per j) (n + 1) = j := by
  induction j with
  | zero => exact tot_zero _
  | succ j ih =>
    have e : lw n per (j + 1) = fun s => lw n per j s + (if s = slotN n ((j + 1) / per) 0 then 1 else 0) := rfl
    have hsl := slotN_le (mv := (j + 1) / per) (line := 0) hn
    rw [e, tot_add, ih, tot_ind, if_pos (by omega)]
theorem tot_gw (hp : 1 ≤ per) : tot (gw n per j) (n + 1) = j / per := by
  induction j with
  | zero => rw [Nat.zero_div]; exact tot_zero _
  | succ j ih =>
    have e : gw n per (j + 1) = fun s => gw n per j s + (if j % per + 1 = per ∧ s = gapN n (j / per) then 1 else 0) := rfl
    have hg := gapN_le (n := n) (mv := j / per)
    rw [e, tot_add, ih, (div_succ (P := j) hp).1]
    by_cases h : j % per + 1 = per
    · simp only [h, true_and, if_true]
      rw [tot_ind, if_pos (by omega)]
    · simp only [h, false_and, if_false]
      rw [tot_zero]
theorem lw_le : lw n per j s ≤ j := by
  induction j with
  | zero => exact Nat.le_refl _
  | succ j ih => simp only [lw]; split <;> omega
theorem gw_le : gw n per j s ≤ j := by
  induction j with
  | zero => exact Nat.le_refl _
  | succ j ih => simp only [gw]; split <;> omega

/-- How many of the first q numbers leave the rest r. -/
def cnt (n r q : Nat) : Nat := q / n + (if r < q % n then 1 else 0)
theorem cnt_succ {q r : Nat} (hn : 1 ≤ n) (hr : r < n) : cnt n r (q + 1) = cnt n r q + (if q % n = r then 1 else 0) := by
  unfold cnt
  obtain ⟨d1, d2⟩ := div_succ (P := q) hn
  have hm := Nat.mod_lt q (show n > 0 by omega)
  rw [d1, d2]
  generalize q % n = m at *
  by_cases h : m + 1 = n
  · rw [if_pos h, if_pos h, if_neg (Nat.not_lt_zero _)]
    by_cases h2 : r < m
    · rw [if_pos h2, if_neg (by omega)]
    · rw [if_neg h2, if_pos (by omega)]
  · rw [if_neg h, if_neg h]
    by_cases h2 : r < m
    · rw [if_pos h2, if_pos (by omega), if_neg (by omega)]
    · rw [if_neg h2]
      by_cases h3 : m = r
      · rw [if_pos h3, if_pos (by omega)]
      · rw [if_neg h3, if_neg (by omega)]

theorem gw_eq (hp : 1 ≤ per) (hs : s ≤ n) : gw n per j s = cnt (n + 1) (n - s) (j / per) := by
  induction j with
  | zero => rw [Nat.zero_div]; simp [gw, cnt]
  | succ j ih =>
    simp only [gw, ih]
    rw [(div_succ (P := j) hp).1]
    by_cases h : j % per + 1 = per
    · rw [if_pos h, cnt_succ (by omega) (by omega)]
      have hm := Nat.mod_lt (j / per) (show n + 1 > 0 by omega)
      unfold gapN
      generalize j / per % (n + 1) = m at *
      by_cases h2 : m = n - s
      · rw [if_pos h2, if_pos ⟨h, by omega⟩]
      · rw [if_neg h2, if_neg (fun hh => h2 (by omega))]
    · rw [if_neg h, if_neg (fun hh => h hh.1)]
      simp only [Nat.add_zero]

def eN (n s T : Nat) : Nat := (if s < n then cnt n s T else 0) + (if 1 ≤ s then cnt n (s - 1) T else 0)
def near (n s T : Nat) : Prop := T % n = s ∨ T % n + 1 = s
instance {n s T : Nat} : Decidable (near n s T) := by unfold near; infer_instance
theorem eN_succ {T : Nat} (hn : 1 ≤ n) (hs : s ≤ n) : eN n s T + (if near n s T then 1 else 0) ≤ eN n s (T + 1) := by
  have hm := Nat.mod_lt T (show n > 0 by omega)
  have h1 : s < n → cnt n s (T + 1) = cnt n s T + (if T % n = s then 1 else 0) := fun h => cnt_succ hn h
  have h2 : 1 ≤ s → cnt n (s - 1) (T + 1) = cnt n (s - 1) T + (if T % n = s - 1 then 1 else 0) := fun h => cnt_succ hn (by omega)
  have key : ∀ w : Nat, (T % n = s ∨ T % n + 1 = s → w ≤ 1) → (¬ (T % n = s ∨ T % n + 1 = s) → w = 0) → eN n s T + w ≤ eN n s (T + 1) := by
    intro w w1 w2
    unfold eN
    generalize T % n = m at *
    by_cases a : s < n
    · rw [if_pos a, if_pos a, h1 a]
      by_cases b : 1 ≤ s
      · rw [if_pos b, if_pos b, h2 b]
        split <;> split <;> omega
      · rw [if_neg b, if_neg b]
        split <;> omega
    · rw [if_neg a, if_neg a, if_pos (by omega), if_pos (by omega), h2 (by omega)]
      split <;> omega
  refine key _ (fun _ => by split <;> omega) (fun h => if_neg h)
theorem slot_near (hn : 1 ≤ n) (h : s = slotN n (j / per) 0) : near n s (j / ((n + 1) * per)) := by
  unfold near
  have e : j / per / (n + 1) = j / ((n + 1) * per) := by rw [Nat.div_div_eq_div_mul, Nat.mul_comm]
  unfold slotN baseN at h
  rw [e, Nat.zero_add, Nat.mod_mod] at h
  split at h
  · exact .inr h.symm
  · exact .inl h.symm
theorem lw_bound (hn : 1 ≤ n) (hp : 1 ≤ per) (hs : s ≤ n) :
    lw n per j s ≤ ((n + 1) * per) * eN n s (j / ((n + 1) * per)) + (if near n s (j / ((n + 1) * per)) then j % ((n + 1) * per) + 1 else 0) := by
  have hL : 1 ≤ (n + 1) * per := Nat.mul_pos (by omega) (by omega)
  induction j with
  | zero => exact Nat.zero_le _
  | succ j ih =>
    simp only [lw]
    have hnear := slot_near (n := n) (per := per) (s := s) (j := j + 1) hn
    obtain ⟨d1, d2⟩ := div_succ (P := j) hL
    have hm := Nat.mod_lt j (show (n + 1) * per > 0 by omega)
    rw [d1] at hnear ⊢
    rw [d2]
    have he := eN_succ (n := n) (s := s) (T := j / ((n + 1) * per)) hn hs
    generalize (n + 1) * per = L at *
    generalize j / L = T at *
    generalize j % L = D at *
    have hb : (if s = slotN n ((j + 1) / per) 0 then 1 else 0) ≤ (if near n s (T + if D + 1 = L then 1 else 0) then 1 else 0) := by
      split
      · rename_i h; rw [if_pos (hnear h)]; exact Nat.le_refl _
      · exact Nat.zero_le _
    generalize (if s = slotN n ((j + 1) / per) 0 then 1 else 0) = w at *
    by_cases h : D + 1 = L
    · rw [if_pos h] at hb ⊢
      rw [if_pos h]
      have hmul := Nat.mul_le_mul_left L he
      rw [Nat.mul_add] at hmul
      by_cases h1 : near n s T
      · rw [if_pos h1] at ih hmul
        by_cases h2 : near n s (T + 1)
        · rw [if_pos h2] at hb ⊢; omega
        · rw [if_neg h2] at hb ⊢; omega
      · rw [if_neg h1] at ih hmul
        by_cases h2 : near n s (T + 1)
        · rw [if_pos h2] at hb ⊢; omega
        · rw [if_neg h2] at hb ⊢; omega
    · rw [if_neg h] at hb ⊢
      rw [if_neg h]
      rw [Nat.add_zero] at hb ⊢
      by_cases h1 : near n s T
      · rw [if_pos h1] at ih hb ⊢; omega
      · rw [if_neg h1] at ih hb ⊢; omega

theorem wear_bound (hn : 1 ≤ n) (hp : 1 ≤ per) (hs : s ≤ n) {R : Nat} (hR : R = j / (per * n * (n + 1)) + 1) : lw n per j s + gw n per j s ≤ 2 * R * (n + 1) * per + 2 * R * n := by
  have h1 := lw_bound (j := j) hn hp hs
  have h2 := gw_eq (j := j) hp hs
  have hL : 1 ≤ (n + 1) * per := Nat.mul_pos (by omega) (by omega)
  have hm := Nat.mod_lt j (show (n + 1) * per > 0 by omega)
  have e1 : j / per / (n + 1) = j / ((n + 1) * per) := by rw [Nat.div_div_eq_div_mul, Nat.mul_comm]
  have e2 : j / (per * n * (n + 1)) = j / ((n + 1) * per) / n := by
    rw [Nat.div_div_eq_div_mul]; congr 1
    rw [Nat.mul_assoc, Nat.mul_comm n (n + 1), ← Nat.mul_assoc, Nat.mul_comm per (n + 1)]
  rw [e2] at hR
  have hg : gw n per j s ≤ j / ((n + 1) * per) + 1 := by
    rw [h2]; unfold cnt; rw [e1]; split <;> omega
  have e3 : 2 * R * (n + 1) * per = ((n + 1) * per) * (2 * R) := by rw [Nat.mul_assoc, Nat.mul_comm]
  rw [e3]
  generalize (n + 1) * per = L at *
  generalize j / L = T at *
  have hT := Nat.div_add_mod T n
  have hTm := Nat.mod_lt T (show n > 0 by omega)
  have hnR : n * R = n * (T / n) + n := by rw [hR, Nat.mul_add, Nat.mul_one]
  have hRn : 2 * R * n = 2 * (n * R) := by rw [Nat.mul_assoc, Nat.mul_comm R n]
  have hE : eN n s T + (if near n s T then 1 else 0) ≤ 2 * R := by
    have hw : ∀ w : Nat, (T % n = s ∨ T % n + 1 = s → w ≤ 1) → (¬ (T % n = s ∨ T % n + 1 = s) → w = 0) → eN n s T + w ≤ 2 * R := ?_
    · exact hw _ (fun _ => by split <;> omega) (fun h => if_neg h)
    intro w w1 w2
    clear h1
    unfold eN cnt
    generalize T % n = m at *
    generalize T / n = q at *
    by_cases a : m = s ∨ m + 1 = s
    · have w1 := w1 a
      by_cases b : s < n
      · rw [if_pos b]
        by_cases c : 1 ≤ s
        · rw [if_pos c]
          split <;> split <;> omega
        · rw [if_neg c]; split <;> omega
      · rw [if_neg b]
        by_cases c : 1 ≤ s
        · rw [if_pos c]; split <;> omega
        · rw [if_neg c]; omega
    · have w2 := w2 a
      split <;> split <;> (try split) <;> (try split) <;> omega
  have hmul := Nat.mul_le_mul_left L hE
  rw [Nat.mul_add] at hmul
  by_cases a : near n s T
  · rw [if_pos a] at h1 hmul; omega
  · rw [if_neg a] at h1 hmul; omega
end
end Go.Proofs.Ytgechnnadjonaab
