import Derived.Test.YtgechnnadjonaabN12
set_option linter.all false
set_option linter.all false
namespace Go.Proofs.Ytgechnnadjonaab
open Go Go.Abs

/-! ## What Get tells behind a Commit -/

def upd (ws : List (List Int)) (l : List (Int × List Int)) : List (List Int) := l.foldl (fun w q => w.set (q.1 - 16).toNat q.2) ws

theorem upd_len {l : List (Int × List Int)} : ∀ {ws : List (List Int)}, (upd ws l).length = ws.length := by
  induction l with
  | nil => intro ws; rfl
  | cons q r ih => intro ws; exact (ih (ws := ws.set (q.1 - 16).toNat q.2)).trans (by simp)
theorem upd_other {l : List (Int × List Int)} {i : Nat} : ∀ {ws : List (List Int)}, (∀ q ∈ l, 16 ≤ q.1) → (∀ q ∈ l, q.1 ≠ ((16 + i : Nat) : Int)) → (upd ws l).getD i [] = ws.getD i [] := by
  induction l with
  | nil => intro ws _ _; rfl
  | cons q r ih =>
    intro ws h h1
    have hq := h q (by simp)
    have hq1 := h1 q (by simp)
    refine (ih (ws := ws.set (q.1 - 16).toNat q.2) (fun q' h' => h q' (by simp [h'])) fun q' h' => h1 q' (by simp [h'])).trans ?_
    rw [List.getD_eq_getElem?_getD, List.getD_eq_getElem?_getD, List.getElem?_set_ne (by omega)]
theorem upd_in {l : List (Int × List Int)} {i : Nat} {q : Int × List Int} : ∀ {ws : List (List Int)}, (∀ q ∈ l, 16 ≤ q.1) → (l.map (·.1)).Nodup → q ∈ l → q.1 = ((16 + i : Nat) : Int) → i < ws.length → (upd ws l).getD i [] = q.2 := by
  induction l with
  | nil => intro ws _ _ hq; cases hq
  | cons q' r ih =>
    intro ws h hnd hq e hi
    rw [List.map_cons, List.nodup_cons] at hnd
    rw [List.mem_cons] at hq
    show (upd (ws.set (q'.1 - 16).toNat q'.2) r).getD i [] = q.2
    rcases hq with rfl | hq
    · rw [upd_other (fun q' h' => h q' (by simp [h'])) fun q' h' e' => hnd.1 (by rw [e, ← e']; exact List.mem_map_of_mem h')]
      rw [show (q.1 - 16).toNat = i by omega, List.getD_eq_getElem?_getD, List.getElem?_set_self hi]; rfl
    · exact ih (fun q' h' => h q' (by simp [h'])) hnd.2 hq e (by simpa using hi)
theorem upd_take {l : List (Int × List Int)} {i : Nat} (hi : i < l.length) {ws : List (List Int)} : upd ws (l.take (i + 1)) = (upd ws (l.take i)).set (l[i].1 - 16).toNat l[i].2 := by
  unfold upd
  rw [List.take_succ_eq_append_getElem hi, List.foldl_append]; rfl

section
variable {n sp per : Nat} {mvb len : Nat}
theorem get_clean {M : Mem} {s : Int} (hup : M.down = false) (hc : commits M = 0) (hs : 16 ≤ s ∧ s < n) : getN n sp M s = (M.tview n sp s.toNat, 0) := by
  have hh : homesN n sp M = ([], 0) := by unfold homesN; rw [if_neg (by simp [hup]), hc, if_neg (by omega)]; rfl
  unfold getN
  rw [if_pos hs, if_neg (by simp [hup]), hh, if_neg not_may_nil]
theorem get_pend {M : Mem} {s : Int} {l : List (Int × List Int)} (hup : M.down = false) (hh : homesN n sp M = (l, 0)) (hm : MayL n l) (hs : 16 ≤ s ∧ s < n) :
    (∀ q ∈ l, q.1 = s → getN n sp M s = (q.2, 0)) ∧ ((∀ q ∈ l, q.1 ≠ s) → getN n sp M s = (M.tview n sp s.toNat, 0)) := by
  unfold getN
  rw [if_pos hs, if_neg (by simp [hup]), hh]
  simp only
  rw [if_pos hm]
  unfold findH
  refine ⟨fun q hq e => ?_, fun hne => ?_⟩
  · cases hf : l.find? fun q => decide (q.1 = s) with
    | none =>
      rw [List.find?_eq_none] at hf
      exact absurd e (by simpa using hf q hq)
    | some q' =>
      have h1 := List.mem_of_find?_eq_some hf
      have h2 : q'.1 = s := by simpa using List.find?_some hf
      have : q' = q := by
        have hnd := may_nodup hm
        obtain ⟨i, hi, e1⟩ := List.getElem_of_mem h1
        obtain ⟨j, hj, e2⟩ := List.getElem_of_mem hq
        rw [List.nodup_iff_pairwise_ne, List.pairwise_iff_getElem] at hnd
        rcases Nat.lt_trichotomy i j with h | h | h
        · exact (hnd i j (by simpa using hi) (by simpa using hj) h (by rw [List.getElem_map, List.getElem_map, e1, e2, e, h2])).elim
        · subst h; rw [← e1, ← e2]
        · exact (hnd j i (by simpa using hj) (by simpa using hi) h (by rw [List.getElem_map, List.getElem_map, e1, e2, e, h2])).elim
      rw [this]
  · have : (l.find? fun q => decide (q.1 = s)) = none := by
      rw [List.find?_eq_none]
      intro q hq; simpa using hne q hq
    rw [this]

/-- A Commit without a cut, as Get tells of it. -/
theorem com_get {M : Mem} {pt nn : Nat} {l : List (Int × List Int)} {ws : List (List Int)} (hnn : n = 16 + nn) (h : Calm n sp per M pt mvb len) (hn : 16 < n ∧ n ≤ 1000) (hb : mvb + 1000 < 4611686018427387904) (hok : ∀ q ∈ l, putOK q) (hl : ws.length = nn)
    (hg : ∀ i, i < nn → getN n sp M ((16 + i : Nat) : Int) = (ws.getD i [], 0)) :
    Calm n sp per (comN n sp per l M pt).1 (comN n sp per l M pt).2.1 (mvb + 40) len ∧
    ((¬ MayL n l ∧ comN n sp per l M pt = (M, pt, 1)) ∨ (MayL n l ∧ commits M ≠ 0 ∧ comN n sp per l M pt = (M, pt, 5)) ∨
     (MayL n l ∧ commits M = 0 ∧ (comN n sp per l M pt).2.2 = 3 ∧ commits (comN n sp per l M pt).1 = 0 ∧ ∀ i, i < nn → getN n sp (comN n sp per l M pt).1 ((16 + i : Nat) : Int) = (ws.getD i [], 0)) ∨
     (MayL n l ∧ commits M = 0 ∧ (comN n sp per l M pt).2.2 = 0 ∧ ∀ i, i < nn → getN n sp (comN n sp per l M pt).1 ((16 + i : Nat) : Int) = ((upd ws l).getD i [], 0))) := by
  by_cases hm : MayL n l
  rotate_left 1
  · have e : comN n sp per l M pt = (M, pt, 1) := by unfold comN; rw [if_pos hm]
    rw [e]
    exact ⟨⟨h.ps.mono (by omega), h.up, h.cut⟩, .inl ⟨hm, rfl⟩⟩
  by_cases hc : commits M = 0
  rotate_left 1
  · have e : comN n sp per l M pt = (M, pt, 5) := by unfold comN; rw [if_neg (fun hh => hh hm), if_neg (by simp [h.up]), if_pos hc]
    rw [e]
    exact ⟨⟨h.ps.mono (by omega), h.up, h.cut⟩, .inr (.inl ⟨hm, hc, rfl⟩)⟩
  obtain ⟨h1, h2⟩ := com_calm h hn hb hok hm hc
  refine ⟨h1, ?_⟩
  have hold : ∀ i, i < nn → M.tview n sp (16 + i) = ws.getD i [] := by
    intro i hi
    have := hg i hi
    rw [get_clean h.up hc (by omega), Int.toNat_natCast] at this
    exact congrArg Prod.fst this
  generalize comN n sp per l M pt = R at *
  rcases h2 with ⟨e, c, v⟩ | ⟨e, c, v1, v2⟩ | ⟨e, c, hh, v⟩
  · refine .inr (.inr (.inl ⟨hm, hc, e, c, fun i hi => ?_⟩))
    rw [get_clean h1.up c (by omega), Int.toNat_natCast, v _ (by omega) (by omega), hold i hi]
  · refine .inr (.inr (.inr ⟨hm, hc, e, fun i hi => ?_⟩))
    rw [get_clean h1.up c (by omega), Int.toNat_natCast]
    by_cases hq : ∃ q ∈ l, q.1 = ((16 + i : Nat) : Int)
    · obtain ⟨q, hq, e⟩ := hq
      have := v1 q hq
      rw [e, Int.toNat_natCast] at this
      rw [this, upd_in (fun q h => (may_range hm h).1) (may_nodup hm) hq e (by omega)]
    · have hne : ∀ q ∈ l, q.1 ≠ ((16 + i : Nat) : Int) := fun q h e => hq ⟨q, h, e⟩
      rw [v2 _ (by omega) (by omega) hne, hold i hi, upd_other (fun q h => (may_range hm h).1) hne]
  · refine .inr (.inr (.inr ⟨hm, hc, e, fun i hi => ?_⟩))
    obtain ⟨g1, g2⟩ := get_pend (s := ((16 + i : Nat) : Int)) h1.up hh hm (by omega)
    by_cases hq : ∃ q ∈ l, q.1 = ((16 + i : Nat) : Int)
    · obtain ⟨q, hq, e⟩ := hq
      rw [g1 q hq e, upd_in (fun q h => (may_range hm h).1) (may_nodup hm) hq e (by omega)]
    · have hne : ∀ q ∈ l, q.1 ≠ ((16 + i : Nat) : Int) := fun q h e => hq ⟨q, h, e⟩
      rw [g2 hne, Int.toNat_natCast, v _ (by omega) (by omega) hne, hold i hi, upd_other (fun q h => (may_range hm h).1) hne]

end
end Go.Proofs.Ytgechnnadjonaab
