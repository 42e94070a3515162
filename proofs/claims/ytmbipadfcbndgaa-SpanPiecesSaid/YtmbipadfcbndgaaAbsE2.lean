import Derived.Test.YtmbipadfcbndgaaAbsRd
set_option linter.all false
/-
  A heap with objects of the call's own, written out.
-/
namespace Go.Abs

/-- The heap H and, behind it, these objects. -/
def AH.more (H : AH) (os : List AObj) : AH where
  size := H.size + os.length
  get b := if b < H.size then H.get b else (os[b - H.size]?).getD (H.get b)

theorem push_more0 (H : AH) (o : AObj) : H.push o = H.more [o] := by
  refine AH.ext' (by simp [AH.push, AH.more]) fun b => ?_
  simp only [push_get, AH.more]
  by_cases h : b < H.size
  · rw [if_neg (by omega), if_pos h]
  · by_cases h' : b = H.size
    · subst h'; simp
    · rw [if_neg h', if_neg h]
      have : 0 < b - H.size := by omega
      obtain ⟨k, hk⟩ : ∃ k, b - H.size = k + 1 := ⟨b - H.size - 1, by omega⟩
      rw [hk]; simp

theorem push_more (H : AH) (os : List AObj) (o : AObj) : (H.more os).push o = H.more (os ++ [o]) := by
  refine AH.ext' (by simp [AH.push, AH.more]; omega) fun b => ?_
  simp only [push_get, AH.more]
  by_cases h : b < H.size
  · rw [if_neg (by omega), if_pos h, if_pos h]
  · simp only [if_neg h]
    by_cases h' : b = H.size + os.length
    · subst h'; simp
    · rw [if_neg h']
      by_cases h2 : b < H.size + os.length
      · rw [List.getElem?_append_left (by omega)]
      · rw [List.getElem?_eq_none (by omega), List.getElem?_eq_none (by simp; omega)]

theorem more_size (H : AH) (os : List AObj) : (H.more os).size = H.size + os.length := rfl
theorem more_get (H : AH) (os : List AObj) (i : Nat) : (H.more os).get (H.size + i) = (os[i]?).getD (H.get (H.size + i)) := by
  simp only [AH.more]
  rw [if_neg (by omega)]
  simp
theorem more_get0 (H : AH) (os : List AObj) : (H.more os).get H.size = (os[0]?).getD (H.get H.size) := more_get H os 0
theorem more_old (H : AH) (os : List AObj) {b : Nat} (h : b < H.size) : (H.more os).get b = H.get b := by simp [AH.more, h]

theorem more_upd (H : AH) (os : List AObj) (i : Nat) (o : AObj) (h : i < os.length) : (H.more os).upd (H.size + i) o = H.more (os.set i o) := by
  refine AH.ext' (by simp [AH.upd, AH.more]) fun b => ?_
  simp only [upd_get, AH.more]
  by_cases hb : b < H.size
  · rw [if_neg (by omega), if_pos hb, if_pos hb]
  · simp only [if_neg hb]
    by_cases h' : b = H.size + i
    · subst h'; simp [h]
    · rw [if_neg h', List.getElem?_set_ne (by omega)]

theorem more_put (H : AH) (os : List AObj) (i j : Nat) (vs : List Value) (o : AObj) (h : os[i]? = some o) :
    (H.more os).put ⟨H.size + i, j, none⟩ vs = H.more (os.set i ⟨setMany o.cells j vs, o.md, o.esz⟩) := by
  have hi : i < os.length := by
    rcases Nat.lt_or_ge i os.length with h' | h'
    · exact h'
    · rw [List.getElem?_eq_none h'] at h; cases h
  simp only [AH.put]
  rw [more_upd _ _ _ _ hi, more_get, h]
  rfl
theorem more_kill (H : AH) (os : List AObj) (i : Nat) (o : AObj) (h : os[i]? = some o) :
    (H.more os).kill (H.size + i) = H.more (os.set i ⟨o.cells, .dead, o.esz⟩) := by
  have hi : i < os.length := by
    rcases Nat.lt_or_ge i os.length with h' | h'
    · exact h'
    · rw [List.getElem?_eq_none h'] at h; cases h
  simp only [AH.kill]
  rw [more_upd _ _ _ _ hi, more_get, h]
  rfl

theorem more_cell (H : AH) (os : List AObj) (i j : Nat) (o : AObj) (h : os[i]? = some o) (hm : o.md ≠ .dead) : AH.cell? (H.more os) ⟨H.size + i, j, none⟩ = o.cells[j]? := by
  simp only [AH.cell?, more_get, h, Option.getD_some, Option.isSome_none, Bool.false_eq_true, if_false]
  rw [if_neg hm]
theorem more_row (H : AH) (os : List AObj) (i n : Nat) (o : AObj) (h : os[i]? = some o) (hm : o.md ≠ .dead) (hn : o.cells.length = n) (hc : o.cells.all cellOK = true) :
    AH.row? (H.more os) ⟨H.size + i, 0, none⟩ n = some o.cells := by
  subst hn
  simp only [AH.row?, more_get, h, Option.getD_some, Option.isSome_none, Bool.false_eq_true, if_false]
  rw [if_neg hm, if_pos (by simp only [List.drop_zero, List.take_length]; exact ⟨by omega, hc⟩)]
  simp
theorem more_canPut (H : AH) (os : List AObj) (i j n : Nat) (o : AObj) (h : os[i]? = some o) (hm : o.md = .rw) (hn : j + n ≤ o.cells.length) : AH.canPut (H.more os) ⟨H.size + i, j, none⟩ n := by
  simp only [AH.canPut, more_get, h, Option.getD_some]
  exact ⟨trivial, hm, hn⟩

theorem Keeps.more (H : AH) (os : List AObj) : Keeps H (H.more os) := ⟨by simp [more_size], fun b hb => more_old H os hb⟩

end Go.Abs
