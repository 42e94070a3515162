import Derived.Test.YtgechnnadjonaabN14
set_option linter.all false
set_option linter.all false
namespace Go.Proofs.Ytgechnnadjonaab
open Go Go.Abs

/-! ## Commits into a memory without limits, without spare lines -/
section
variable {n per : Nat} {mvb len : Nat}
theorem Free.set1 {M : Mem} (h : Free n M) {v : Int} : Free n (M.set 1 v).1 := by
  rw [Mem.set_calm h.cut h.up ⟨by omega, by omega⟩]
  exact ⟨h.len, h.cut, h.up, by simpa using h.regs, h.lim⟩

theorem tputs_free (hn : 1 ≤ n) : ∀ {L : List (Int × List Int)} {M : Mem} {pt mvb : Nat}, Calm n 0 per M pt mvb len → Free n M → mvb + L.length < 4611686018427387904 → (∀ q ∈ L, 0 ≤ q.1 ∧ q.1 < n ∧ isLine q.2) →
    (tputs n 0 per L M pt).2.2 = 0 ∧ Free n (tputs n 0 per L M pt).1 := by
  intro L
  induction L with
  | nil => intro M pt mvb _ hf _ _; exact ⟨rfl, hf⟩
  | cons q r ih =>
    intro M pt mvb h hf hb hL
    simp only [List.length_cons] at hb
    obtain ⟨hq0, hqn, hql⟩ := hL q (by simp)
    obtain ⟨ln, hln⟩ := Int.eq_ofNat_of_zero_le hq0
    obtain ⟨f1, f2, _⟩ := hf.tput (line := ln) (per := per) (puts := pt) (d := q.2) h.ps.ok hn (by omega) hql.1 _ rfl
    have h1 := (tputs_calm hn (L := [q]) h (by simp only [List.length_cons, List.length_nil]; omega) (fun q' hq' => by simp at hq'; subst hq'; exact ⟨hq0, hqn, hql⟩) (by simp)).1
    have e1 : tputs n 0 per [q] M pt = ((tput n 0 per M pt q.1 q.2).1, (tput n 0 per M pt q.1 q.2).2.1, 0) := by
      show (if (tput n 0 per M pt q.1 q.2).2.2 = 0 then _ else _) = _
      rw [if_pos (by rw [hln]; exact f1)]; rfl
    rw [e1] at h1
    have hdef : tputs n 0 per (q :: r) M pt = if (tput n 0 per M pt q.1 q.2).2.2 = 0 then tputs n 0 per r (tput n 0 per M pt q.1 q.2).1 (tput n 0 per M pt q.1 q.2).2.1 else tput n 0 per M pt q.1 q.2 := rfl
    rw [hdef, if_pos (by rw [hln]; exact f1)]
    exact ih h1 (by rw [hln]; exact f2) (by simp only [List.length_cons, List.length_nil]; omega) (fun q' hq' => hL q' (by simp [hq']))

theorem com_free {M : Mem} {pt : Nat} {l : List (Int × List Int)} (h : Calm n 0 per M pt mvb len) (hf : Free n M) (hn : 16 < n ∧ n ≤ 1000) (hb : mvb + 1000 < 4611686018427387904) (hok : ∀ q ∈ l, putOK q) (hm : MayL n l) (hc : commits M = 0) :
    (comN n 0 per l M pt).2.2 = 0 ∧ commits (comN n 0 per l M pt).1 = 0 ∧ Free n (comN n 0 per l M pt).1 := by
  have hl14 := hm.2.2.1
  have hl1 := hm.2.1
  have hidx : idxN l.length ≤ 2 := by unfold idxN; omega
  have hlen : (rowsN l).length = idxN l.length + l.length := rowsTo_len l (Nat.le_refl _)
  have hrl := rowPuts_len l
  have hro := rowPuts_ok hok (by omega)
  have hrm : ∀ q ∈ rowPuts l, 0 ≤ q.1 ∧ q.1 < n ∧ isLine q.2 := by
    intro q hq
    have h2 := (hro q hq).line
    obtain ⟨i, hi, rfl⟩ := rowPuts_mem hq
    exact ⟨by simp only; omega, by simp only; omega, h2⟩
  obtain ⟨r1, r2, r3, r4, r5, r6⟩ := tputs_calm (by omega) h (by omega) hrm (rowPuts_nodup l)
  obtain ⟨f1, f2⟩ := tputs_free (by omega) h hf (by omega) hrm
  unfold comN
  rw [if_neg (fun hh => hh hm), if_neg (by simp [h.up]), if_neg (by simp [hc])]
  generalize tputs n 0 per (rowPuts l) M pt = R at *
  rw [if_neg (fun hh => hh f1)]
  have hU : isU (l.length : Int) := by unfold isU; omega
  obtain ⟨s1, s2, s3, s4⟩ := set1_calm r1 hU
  rw [if_neg (fun hh => hh s1)]
  have f3 := f2.set1 (v := (l.length : Int))
  generalize (R.1.set 1 (l.length : Int)).1 = M2 at *
  have hlm : ∀ q ∈ l, 0 ≤ q.1 ∧ q.1 < n ∧ isLine q.2 := fun q hq => by have := may_range hm hq; exact ⟨by omega, this.2, (hok q hq).line⟩
  obtain ⟨t1, t2, t3, t4, t5, t6⟩ := tputs_calm (by omega) s2 (by omega) hlm (may_nodup hm)
  obtain ⟨f4, f5⟩ := tputs_free (by omega) s2 f3 (by omega) hlm
  unfold finN
  simp only
  generalize tputs n 0 per l M2 R.2.1 = P at *
  rw [if_pos f4]
  obtain ⟨z1, z2, z3, z4⟩ := set1_calm t1 (v := 0) (by unfold isU; omega)
  exact ⟨z1, z3, f5.set1⟩
end
end Go.Proofs.Ytgechnnadjonaab
