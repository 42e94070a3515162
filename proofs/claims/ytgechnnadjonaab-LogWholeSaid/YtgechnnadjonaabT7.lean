import Derived.Test.YtgechnnadjonaabT6
set_option linter.all false
set_option linter.all false
namespace Go.Proofs.Ytgechnnadjonaab
open Go Go.Abs

/-! ## A memory without limits and without spare lines -/

structure Free (n : Nat) (M : Mem) : Prop where
  len : M.cs.length = n + 1
  cut : M.cut = -1
  up : M.down = false
  regs : M.regs.length = 35
  lim : ∀ i, i < n + 1 → (M.cl i).limit = -1

section
variable {n : Nat} {M : Mem}
theorem Free.put (h : Free n M) {s : Nat} {d : List Int} (hs : s < n + 1) (hd : d.length = 8) :
    (M.put s d).2 = 0 ∧ Free n (M.put s d).1 ∧ (M.put s d).1.regs = M.regs ∧ ∀ i, (M.put s d).1.cl i = if i = s then ⟨d, inc (M.cl s).wear, -1⟩ else M.cl i := by
  have hl := h.len
  have hw : (M.cl s).worn = false := by unfold Cl.worn; rw [h.lim s hs]; rfl
  have e := Mem.put_calm (i := (s : Int)) (l := d) h.cut h.up ⟨by omega, by omega⟩ hd
  rw [Int.toNat_natCast, hw] at e
  simp only [Bool.false_eq_true, if_false] at e
  have hcl : ∀ i, (M.put s d).1.cl i = if i = s then ⟨d, inc (M.cl s).wear, -1⟩ else M.cl i := by
    intro i
    rw [e]
    have := Mem.setc_cl' (M := M) (i := s) (j := i) (x := ⟨d, inc (M.cl s).wear, (M.cl s).limit⟩) (by omega)
    rw [h.lim s hs] at this
    rw [h.lim s hs]
    exact this
  refine ⟨by rw [e], ⟨by rw [e]; simp [hl], by rw [e]; exact h.cut, by rw [e]; exact h.up, by rw [e]; exact h.regs, fun i hi => ?_⟩, by rw [e], hcl⟩
  rw [hcl]
  split
  · rfl
  · exact h.lim i hi
theorem Free.set (h : Free n M) {v : Int} : (M.set 0 v).2 = 0 ∧ Free n (M.set 0 v).1 ∧ (M.set 0 v).1.regs = M.regs.set 0 v ∧ ∀ i, (M.set 0 v).1.cl i = M.cl i := by
  rw [Mem.set_calm h.cut h.up ⟨by omega, by omega⟩]
  exact ⟨rfl, ⟨h.len, h.cut, h.up, by simpa using h.regs, h.lim⟩, rfl, fun i => rfl⟩
theorem view0 {m s : Nat} : M.view m 0 s = (M.cl s).line := rfl
theorem lput0 (h : Free n M) {s : Nat} {d : List Int} (hs : s < n + 1) (hd : d.length = 8) : lput (n + 1) 0 M (s : Nat) d = ((M.put s d).1, 0) := by
  unfold lput
  rw [if_pos ⟨by omega, by omega⟩, if_neg (by simp [h.up]), Int.toNat_natCast]
  show (if (M.put (s : Nat) d).2 = 3 then _ else M.put (s : Nat) d) = _
  rw [(h.put hs hd).1, if_neg (by omega)]
  exact Prod.ext rfl (h.put hs hd).1

/-- How often a line has been written, behind a Put of the line. -/
def wearTo (n mv may line : Nat) (w : Nat → Int) (s : Nat) : Int :=
  let w1 := if may = 1 ∧ s = gapN n mv then inc (w s) else w s
  if s = slotN n (mv + may) line then inc w1 else w1
theorem lineLen (h : Free n M) (hok : M.ok) {i : Nat} (hi : i < n + 1) : (M.cl i).line.length = 8 := by
  have : M.cl i ∈ M.cs := by
    unfold Mem.cl
    rw [List.getD_eq_getElem?_getD, List.getElem?_eq_getElem (by have := h.len; omega)]
    exact List.getElem_mem _
  exact (hok.lines _ this).1

theorem Free.tput (h : Free n M) (hok : M.ok) (hn : 1 ≤ n) {line per puts : Nat} {d : List Int} (hl : line < n) (hd : d.length = 8) (may : Nat) (hmay : may = if puts + 1 = per then 1 else 0) :
    (tput n 0 per M puts line d).2.2 = 0 ∧ Free n (tput n 0 per M puts line d).1 ∧ ∀ s, s < n + 1 → ((tput n 0 per M puts line d).1.cl s).wear = wearTo n M.mv may line (fun s => (M.cl s).wear) s := by
  subst hmay
  have hg := gapN_le (n := n) (mv := M.mv)
  have hf := fromN_le (n := n) (mv := M.mv)
  unfold Go.Proofs.Ytgechnnadjonaab.tput wearTo
  rw [if_pos (show 0 ≤ (line : Int) ∧ (line : Int) < (n : Int) from ⟨by omega, by omega⟩), if_neg (show ¬ M.down = true by simp [h.up]), Int.toNat_natCast]
  by_cases hp : puts + 1 = per
  · rw [if_pos hp, if_pos hp]
    have hfl : (M.view (n + 1) 0 (fromN n M.mv)).length = 8 := lineLen (i := fromN n M.mv) h hok (by omega)
    unfold tmove
    rw [lput0 h (by omega) hfl]
    obtain ⟨q1, q2, q3, q4⟩ := h.put (s := gapN n M.mv) (by omega) hfl
    generalize M.put ((gapN n M.mv : Nat) : Int) (M.view (n + 1) 0 (fromN n M.mv)) = R at *
    simp only [if_true]
    obtain ⟨s1, s2, s3, s4⟩ := q2.set (v := (M.mv : Int) + 1)
    have hmv : (R.1.set 0 ((M.mv : Int) + 1)).1.mv = M.mv + 1 := by
      show ((R.1.set 0 ((M.mv : Int) + 1)).1.regs.getD 0 0).toNat = M.mv + 1
      rw [s3, List.getD_eq_getElem?_getD, List.getElem?_set_self (by have := q2.regs; omega)]
      simp only [Option.getD_some]
      omega
    rw [if_pos s1, hmv]
    generalize R.1.set 0 ((M.mv : Int) + 1) = Q at *
    have hsl := slotN_le (mv := M.mv + 1) (line := line) hn
    rw [lput0 s2 (by omega) hd]
    obtain ⟨t1, t2, t3, t4⟩ := s2.put (s := slotN n (M.mv + 1) line) (by omega) hd
    refine ⟨rfl, t2, fun s hs => ?_⟩
    rw [t4]
    simp only [s4, q4, true_and]
    by_cases h1 : s = slotN n (M.mv + 1) line
    · rw [if_pos h1, if_pos h1, ← h1]
      simp only
      split
      · rename_i h2; rw [h2]
      · rfl
    · rw [if_neg h1, if_neg h1]
      split
      · rename_i h2; rw [h2]
      · rfl
  · rw [if_neg hp, if_neg hp]
    have hsl := slotN_le (mv := M.mv) (line := line) hn
    simp only
    rw [lput0 h (by omega) hd]
    obtain ⟨t1, t2, t3, t4⟩ := h.put (s := slotN n M.mv line) (by omega) hd
    refine ⟨rfl, t2, fun s hs => ?_⟩
    rw [t4]
    simp only [Nat.zero_ne_one, false_and, if_false, Nat.add_zero]
    by_cases h1 : s = slotN n M.mv line
    · rw [if_pos h1, if_pos h1, h1]
    · rw [if_neg h1, if_neg h1]
theorem Free.new : Free n (Mem.new (n + 1) []) := ⟨by simp [Mem.new], rfl, rfl, by simp [Mem.new], fun i hi => by rw [Mem.new_cl hi]; rfl⟩
end
end Go.Proofs.Ytgechnnadjonaab
