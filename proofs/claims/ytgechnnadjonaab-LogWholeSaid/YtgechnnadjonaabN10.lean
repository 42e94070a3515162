import Derived.Test.YtgechnnadjonaabN9
set_option linter.all false
set_option linter.all false
namespace Go.Proofs.Ytgechnnadjonaab
open Go Go.Abs

/-! ## Commits without a cut -/

structure Calm (n sp per : Nat) (M : Mem) (pt mvb len : Nat) : Prop where
  ps : PSt n sp per M pt mvb len
  up : M.down = false
  cut : M.cut = -1

section
variable {n sp per : Nat} {mvb len : Nat}

theorem tputs_calm (hn : 1 ≤ n) : ∀ {L : List (Int × List Int)} {M : Mem} {pt mvb : Nat}, Calm n sp per M pt mvb len → mvb + L.length < 4611686018427387904 → (∀ q ∈ L, 0 ≤ q.1 ∧ q.1 < n ∧ isLine q.2) → (L.map (·.1)).Nodup →
    Calm n sp per (tputs n sp per L M pt).1 (tputs n sp per L M pt).2.1 (mvb + L.length) len ∧ ((tputs n sp per L M pt).2.2 = 0 ∨ (tputs n sp per L M pt).2.2 = 3) ∧
    (∀ s : Nat, s < n → (∀ q ∈ L, q.1 ≠ (s : Int)) → (tputs n sp per L M pt).1.tview n sp s = M.tview n sp s) ∧
    ((tputs n sp per L M pt).2.2 = 0 → ∀ q ∈ L, (tputs n sp per L M pt).1.tview n sp q.1.toNat = q.2) ∧
    (∀ q ∈ L, (tputs n sp per L M pt).1.tview n sp q.1.toNat = q.2 ∨ (tputs n sp per L M pt).1.tview n sp q.1.toNat = M.tview n sp q.1.toNat) ∧
    (∀ r, (r = 1 ∨ r = 2) → (tputs n sp per L M pt).1.regs.getD r 0 = M.regs.getD r 0) := by
  intro L
  induction L with
  | nil =>
    intro M pt mvb h _ _ _
    exact ⟨h, .inl rfl, fun s _ _ => rfl, fun _ q hq => (by cases hq), fun q hq => (by cases hq), fun r _ => rfl⟩
  | cons q r ih =>
    intro M pt mvb h hb hL hnd
    simp only [List.length_cons] at hb ⊢
    rw [List.map_cons, List.nodup_cons] at hnd
    obtain ⟨hq0, hqn, hql⟩ := hL q (by simp)
    obtain ⟨k, hlv⟩ := h.ps.lv
    have hmv := h.ps.mv
    obtain ⟨ln, hln⟩ := Int.eq_ofNat_of_zero_le hq0
    obtain ⟨hP, _⟩ := tput_any (line := ln) (period := per) (puts := pt) (d := q.2) hlv hn h.ps.ok (by omega) h.up (by omega) hql.1
    have hps := h.ps.tput hn (by omega) (line := q.1) hql
    have hdef : tputs n sp per (q :: r) M pt = if (tput n sp per M pt q.1 q.2).2.2 = 0 then tputs n sp per r (tput n sp per M pt q.1 q.2).1 (tput n sp per M pt q.1 q.2).2.1 else tput n sp per M pt q.1 q.2 := rfl
    rw [hdef]
    rw [← hln] at hP
    generalize tput n sp per M pt q.1 q.2 = R at *
    have hcut := hP.cut h.cut
    have hother := hP.other
    have hregs := hP.regs
    have hoth : ∀ q' ∈ r, q'.1 ≠ q.1 := fun q' hq' e => hnd.1 (by rw [← e]; exact List.mem_map_of_mem hq')
    rcases hP.res with ⟨e, hup, hv⟩ | ⟨e, hup, hv⟩ | ⟨_, _, hc, _⟩
    · rw [if_pos e]
      have hC : Calm n sp per R.1 R.2.1 (mvb + 1) len := ⟨hps, hup, hcut⟩
      obtain ⟨i1, i2, i3, i4, i5, i6⟩ := ih hC (by omega) (fun q' hq' => hL q' (by simp [hq'])) hnd.2
      have hqv : (tputs n sp per r R.1 R.2.1).1.tview n sp q.1.toNat = q.2 := by
        rw [hln, Int.toNat_natCast, i3 ln (by omega) (fun q' hq' e' => hoth q' hq' (by rw [e', hln]))]
        exact hv ln rfl
      refine ⟨⟨i1.ps.mono (by omega), i1.up, i1.cut⟩, i2, fun s hs hne => ?_, fun h0 q' hq' => ?_, fun q' hq' => ?_, fun rr hrr => ?_⟩
      · rw [i3 s hs (fun q' hq' => hne q' (by simp [hq'])), hother s hs (by
          have := hne q (by simp)
          rw [hln] at this
          simp; omega)]
      · rw [List.mem_cons] at hq'
        rcases hq' with rfl | hq'
        · exact hqv
        · exact i4 h0 q' hq'
      · rw [List.mem_cons] at hq'
        rcases hq' with rfl | hq'
        · exact .inl hqv
        · rcases i5 q' hq' with h | h
          · exact .inl h
          · right
            have h0 := hL q' (by simp [hq'])
            rw [h, hother q'.1.toNat (by omega) (by
              have := hoth q' hq'
              simp; omega)]
      · rw [i6 rr hrr, hregs rr (by omega)]
    · rw [if_neg (by omega)]
      refine ⟨⟨hps.mono (by omega), hup, hcut⟩, .inr e, fun s hs hne => ?_, fun h0 => by omega, fun q' hq' => ?_, fun rr hrr => hregs rr (by omega)⟩
      · by_cases hsl : s = ln
        · rw [hsl]; exact hv ln rfl
        · exact hother s hs (by simp; omega)
      · right
        have h0 := hL q' hq'
        by_cases hsl : q'.1.toNat = ln
        · rw [hsl]; exact hv ln rfl
        · exact hother _ (by omega) (by simp; omega)
    · exact absurd h.cut hc

theorem set1_calm {M : Mem} {pt : Nat} (h : Calm n sp per M pt mvb len) {v : Int} (hv : isU v) :
    (M.set 1 v).2 = 0 ∧ Calm n sp per (M.set 1 v).1 pt mvb len ∧ commits (M.set 1 v).1 = v ∧ ∀ s, (M.set 1 v).1.tview n sp s = M.tview n sp s := by
  have hs := Mem.set_calm (M := M) (i := 1) (v := v) h.cut h.up ⟨by omega, by omega⟩
  have hps := h.ps.set1 hv
  have hmv := Mem.set1_mv (M := M) (v := v)
  have hrl := h.ps.ok.regs
  refine ⟨by rw [hs], ⟨hps, by rw [hs]; exact h.up, by rw [hs]; exact h.cut⟩, ?_, fun s => ?_⟩
  · rw [hs]
    unfold commits
    simp only [List.getD_eq_getElem?_getD]
    rw [show Int.toNat 1 = 1 from rfl, List.getElem?_set_self (by omega)]; rfl
  · unfold Mem.tview Mem.view
    rw [hmv, place_congr (M' := (M.set 1 v).1) (M := M) fun j _ => by rw [Mem.set1_whose]]
    rw [hs]; rfl
end
end Go.Proofs.Ytgechnnadjonaab
