import Derived.Test.YtgechnnadjonaabT10
set_option linter.all false
set_option linter.all false
namespace Go.Proofs.Ytgechnnadjonaab
open Go Go.Abs

section
variable {H : AH}

/-- The memory behind j Puts of line 0. -/
structure W9 (n per j : Nat) (M : Mem) : Prop where
  free : Free n M
  mv : M.mv = j / per
  wear : ∀ s, s < n + 1 → (M.cl s).wear = ((lw n per j s + gw n per j s : Nat) : Int)

theorem W9.step {n per j : Nat} {M : Mem} {d : List Int} (h : W9 n per j M) (hok : M.ok) (hn : 1 ≤ n) (hp : 1 ≤ per) (hj : j ≤ 100000) (hd : d.length = 8)
    (hmv : (tput n 0 per M (j % per) (0 : Nat) d).1.mv = M.mv + (if j % per + 1 = per then 1 else 0)) :
    W9 n per (j + 1) (tput n 0 per M (j % per) (0 : Nat) d).1 := by
  obtain ⟨d1, d2⟩ := div_succ (P := j) hp
  obtain ⟨_, f2, f3⟩ := h.free.tput hok hn (line := 0) (per := per) (puts := j % per) (d := d) (by omega) hd _ rfl
  refine ⟨f2, by rw [hmv, h.mv, d1], fun s hs => ?_⟩
  rw [f3 s hs]
  unfold wearTo
  simp only [h.wear s hs, h.mv, ← d1]
  have a1 := lw_le (n := n) (per := per) (j := j) (s := s)
  have a2 := gw_le (n := n) (per := per) (j := j) (s := s)
  simp only [lw, gw]
  generalize lw n per j s = x at *
  generalize gw n per j s = y at *
  have i1 : inc ((x + y : Nat) : Int) = ((x + (y + 1) : Nat) : Int) := by rw [inc_eq (by omega) (by omega)]; omega
  have e1 : ((if j % per + 1 = per then 1 else 0) = 1 ∧ s = gapN n (j / per)) ↔ (j % per + 1 = per ∧ s = gapN n (j / per)) := by
    by_cases hh : j % per + 1 = per
    · simp [hh]
    · simp [hh]
  simp only [e1]
  by_cases c1 : j % per + 1 = per ∧ s = gapN n (j / per)
  · simp only [if_pos c1]
    by_cases c2 : s = slotN n ((j + 1) / per) 0
    · rw [if_pos c2, if_pos c2, i1, inc_eq (by omega) (by omega)]; omega
    · rw [if_neg c2, if_neg c2, i1]; omega
  · simp only [if_neg c1]
    by_cases c2 : s = slotN n ((j + 1) / per) 0
    · rw [if_pos c2, if_pos c2, inc_eq (by omega) (by omega)]; omega
    · rw [if_neg c2, if_neg c2]; omega

end
end Go.Proofs.Ytgechnnadjonaab
