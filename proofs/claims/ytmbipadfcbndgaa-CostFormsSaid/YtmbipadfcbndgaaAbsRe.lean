import Derived.Test.YtmbipadfcbndgaaAbsRd
set_option linter.all false
/-
  Slices among a law's arguments.
-/
namespace Go.Abs

theorem cells_first {W : World} {a : Addr} {n : Nat} {row : List Value} (hn : 0 < n) (h : W.cells? 0 a n = some row) : a.spot = none ∧ a.block < W.heap.size := by
  unfold World.cells? at h
  rw [if_pos (Nat.zero_le _)] at h
  obtain ⟨y, hy⟩ := mapM_each h 0 (by simpa using hn)
  have ha : a.add 0 = a := by simp [Addr.add]
  rw [ha] at hy
  unfold World.cell? at hy
  split at hy
  · rename_i c t fz hc
    have hb : a.block < W.heap.size := (Array.getElem?_eq_some_iff.1 hc).1
    split at hy
    · cases hy
    · rename_i hs
      exact ⟨by simpa using hs, hb⟩
  · cases hy

/-- A slice among the arguments: its like, and what is read through it. -/
theorem Rd.sliceS {H : Type} {enc : TypeId × Value → H} {P : Program} {W : World} {t e : TypeId} {v : Value} (hu : P.underlying t = some (.slice e)) (hz : 0 < P.cellsOf e) (h : Rd enc P W t [v]) :
    ∃ s : Sl, absC W v = s.val ∧ s.k = 0 ∧ s.n ≤ maxLen ∧ ∀ i, i < s.n → ∃ a row, s.a = some a ∧ a.spot = none ∧ a.block < W.heap.size ∧ W.cells? 0 (a.add (i * P.cellsOf e)) (P.cellsOf e) = some row ∧ Rd enc P W e row := by
  rcases h.slice hu with h | ⟨a, n, c, h, hn, hc, hr⟩
  · simp only [List.cons.injEq, and_true] at h
    subst h
    exact ⟨⟨none, 0, 0⟩, absC_nil W, rfl, Nat.zero_le _, fun i hi => by simp at hi⟩
  · simp only [List.cons.injEq, and_true] at h
    subst h
    by_cases h0 : n = 0
    · subst h0
      exact ⟨⟨some a, 0, 0⟩, by simp [absC], rfl, Nat.zero_le _, fun i hi => by simp at hi⟩
    · obtain ⟨row, h1, _⟩ := hr 0 (by omega)
      have ha : a.add (0 * P.cellsOf e) = a := by simp [Addr.add]
      rw [ha] at h1
      obtain ⟨hs, hb⟩ := cells_first hz h1
      refine ⟨⟨some a, n, 0⟩, ?_, rfl, Nat.le_trans hn hc, fun i hi => ?_⟩
      · simp only [absC]
        rw [if_neg h0, if_pos ⟨hs, hb, hn⟩]
      · obtain ⟨row, h1, h2⟩ := hr i hi
        exact ⟨a, row, rfl, hs, hb, h1, h2⟩

theorem Rd.sliceAt {H : Type} {enc : TypeId × Value → H} {P : Program} {W : World} {t e : TypeId} {cs : List Value} {o : Nat} (hu : P.underlying t = some (.slice e)) (hz : 0 < P.cellsOf e) (hc : P.cellsOf t = 1)
    (h : Rd enc P W t ((cs.drop o).take (P.cellsOf t))) :
    ∃ (v : Value) (s : Sl), cs[o]? = some v ∧ absC W v = s.val ∧ s.k = 0 ∧ s.n ≤ maxLen ∧ ∀ i, i < s.n → ∃ a row, s.a = some a ∧ a.spot = none ∧ a.block < W.heap.size ∧ W.cells? 0 (a.add (i * P.cellsOf e)) (P.cellsOf e) = some row ∧ Rd enc P W e row := by
  have h' := h
  rw [hc] at h'
  rcases h.slice hu with h1 | ⟨a, n, c, h1, _⟩
  all_goals
    rw [hc] at h1
    rw [h1] at h'
    obtain ⟨s, hs⟩ := Rd.sliceS hu hz h'
    exact ⟨_, s, take_one h1, hs⟩

end Go.Abs
