import Derived.Test.YtgechnnadjonaabN17
set_option linter.all false
set_option linter.all false
namespace Go.Proofs.Ytgechnnadjonaab
open Go Go.Abs

/-! ## A memory without limits -/

def NL (M : Mem) : Prop := ∀ c ∈ M.cs, c.limit < 0

section
variable {n sp per : Nat} {M M' : Mem} {mvb len pt : Nat}

theorem NL.cs (h : NL M) (e : M'.cs = M.cs) : NL M' := by unfold NL; rw [e]; exact h
theorem NL.cl (h : NL M) {i : Nat} (hi : i < M.cs.length) : (M.cl i).limit < 0 := by
  refine h _ ?_
  unfold Mem.cl
  rw [List.getD_eq_getElem?_getD, List.getElem?_eq_getElem hi]
  exact List.getElem_mem hi
theorem NL.put (h : NL M) {i : Int} {d : List Int} : (M.put i d).2 ≠ 3 ∧ NL (M.put i d).1 := by
  unfold Mem.put
  by_cases hi : M.has i
  rotate_left 1
  · rw [if_neg hi]; exact ⟨by simp, h⟩
  rw [if_pos hi]
  by_cases hd : M.down = true
  · rw [if_pos hd]; exact ⟨by simp, h⟩
  rw [if_neg hd]
  have hl := h.cl (i := i.toNat) (by have := hi.1; have := hi.2; omega)
  have hw : (M.cl i.toNat).worn = false := by
    unfold Cl.worn
    rw [decide_eq_false (by omega)]; rfl
  simp only [hw]
  rw [if_neg (by simp)]
  refine ⟨?_, ?_⟩
  · unfold Mem.told
    split
    · simp
    · simp
  · intro c hc
    simp only [Mem.setc] at hc
    rcases List.mem_or_eq_of_mem_set hc with hc | rfl
    · rw [Mem.wr_cs] at hc; exact h c hc
    · exact hl
theorem told_ne3 (X : Mem) : X.told false ≠ 3 := by unfold Mem.told; split <;> simp
theorem NL.set (h : NL M) {i v : Int} : (M.set i v).2 ≠ 3 ∧ NL (M.set i v).1 := by
  unfold Mem.set
  split
  · split
    · exact ⟨by simp, h⟩
    · refine ⟨told_ne3 _, ?_⟩
      · refine h.cs ?_
        simp only
        split
        · exact Mem.wr_cs
        · exact Mem.wr_cs
  · exact ⟨by simp, h⟩
theorem NL.lput (h : NL M) {m : Nat} {s : Int} {d : List Int} : (lput m sp M s d).2 ≠ 3 ∧ NL (lput m sp M s d).1 := by
  unfold Go.Proofs.Ytgechnnadjonaab.lput
  split
  · split
    · exact ⟨by simp, h⟩
    · have := h.put (i := ((M.place m s.toNat sp : Nat) : Int)) (d := d)
      simp only
      rw [if_neg this.1]
      exact this
  · exact ⟨by simp, h⟩
theorem NL.tmove (h : NL M) : (tmove n sp M).2 ≠ 3 ∧ NL (tmove n sp M).1 := by
  unfold Go.Proofs.Ytgechnnadjonaab.tmove
  have h1 := h.lput (m := n + 1) (sp := sp) (s := (gapN n M.mv : Nat)) (d := M.view (n + 1) sp (fromN n M.mv))
  simp only
  split
  · exact h1.2.set
  · exact h1
theorem NL.tput (h : NL M) {l : Int} {d : List Int} : (tput n sp per M pt l d).2.2 ≠ 3 ∧ NL (tput n sp per M pt l d).1 := by
  unfold Go.Proofs.Ytgechnnadjonaab.tput
  split
  · split
    · exact ⟨by simp, h⟩
    · split
      · have h1 := h.tmove (n := n) (sp := sp)
        simp only
        split
        · exact h1.2.lput
        · exact h1
      · exact h.lput
  · exact ⟨by simp, h⟩
theorem NL.tputs : ∀ {L : List (Int × List Int)} {M : Mem} {pt : Nat}, NL M → (tputs n sp per L M pt).2.2 ≠ 3 ∧ NL (tputs n sp per L M pt).1 := by
  intro L
  induction L with
  | nil => intro M pt h; exact ⟨by simp [Go.Proofs.Ytgechnnadjonaab.tputs], h⟩
  | cons q r ih =>
    intro M pt h
    have h1 := h.tput (n := n) (sp := sp) (per := per) (pt := pt) (l := q.1) (d := q.2)
    unfold Go.Proofs.Ytgechnnadjonaab.tputs
    split
    · exact ih h1.2
    · exact h1
theorem NL.fin (h : NL M) {l : List (Int × List Int)} : NL (finN n sp per l M pt).1 := by
  have h1 := h.tputs (n := n) (sp := sp) (per := per) (L := l) (pt := pt)
  unfold finN
  simp only
  split
  · exact h1.2.set.2
  · split
    · exact h1.2
    · exact h1.2
theorem NL.com (h : NL M) {l : List (Int × List Int)} : (comN n sp per l M pt).2.2 ≠ 3 ∧ NL (comN n sp per l M pt).1 := by
  have h1 := h.tputs (n := n) (sp := sp) (per := per) (L := rowPuts l) (pt := pt)
  unfold comN
  split
  · exact ⟨by simp, h⟩
  split
  · exact ⟨by simp, h⟩
  split
  · exact ⟨by simp, h⟩
  split
  · exact h1
  have h2 := h1.2.set (i := 1) (v := (l.length : Int))
  split
  · exact h2
  refine ⟨?_, h2.2.fin⟩
  have h3 := h2.2.tputs (n := n) (sp := sp) (per := per) (L := l) (pt := (Go.Proofs.Ytgechnnadjonaab.tputs n sp per (rowPuts l) M pt).2.1)
  unfold finN
  simp only
  split
  · exact h3.2.set.1
  · split
    · simp
    · exact h3.1
theorem NL.new {m : Nat} : NL (Mem.new m []) := by
  intro c hc
  simp only [Mem.new, List.mem_map] at hc
  obtain ⟨i, _, rfl⟩ := hc
  simp

/-- Without limits a commit is done whole, where nothing is cut. -/
theorem com_nl {l : List (Int × List Int)} (h : PSt n sp per M pt mvb len) (hnl : NL M) (hn : 16 < n ∧ n ≤ 1000) (hup : M.down = false) (hcut : M.cut = -1) (hb : mvb + 1000 < 4611686018427387904) (hok : ∀ q ∈ l, putOK q) (hm : MayL n l) (hc : commits M = 0) :
    (comN n sp per l M pt).2.2 = 0 ∧ commits (comN n sp per l M pt).1 = 0 := by
  have hl14 := hm.2.2.1
  have hl1 := hm.2.1
  have hidx : idxN l.length ≤ 2 := by unfold idxN; omega
  have hlen : (rowsN l).length = idxN l.length + l.length := rowsTo_len l (Nat.le_refl _)
  have hrl := rowPuts_len l
  have hro := rowPuts_ok hok (by omega)
  have hrm : ∀ q ∈ rowPuts l, 0 ≤ q.1 ∧ q.1 < n ∧ isLine q.2 := by
    intro q hq
    have h2 := (hro q hq).line
    obtain ⟨i, hi, rfl⟩ := rowPuts_mem hq
    exact ⟨by simp only; omega, by simp only; omega, h2⟩
  have hnl1 := hnl.tputs (n := n) (sp := sp) (per := per) (L := rowPuts l) (pt := pt)
  obtain ⟨r1, r2, r3, r4⟩ := tputs_any2 (by omega) h hup (by omega) hrm (rowPuts_nodup l)
  have hps := h.puts (by omega) (l := rowPuts l) (by omega) hro
  unfold comN
  rw [if_neg (fun hh => hh hm), if_neg (by simp [hup]), if_neg (by simp [hc])]
  generalize tputs n sp per (rowPuts l) M pt = R at *
  have hcR := r2 hcut
  rcases r1 with ⟨a, b, c⟩ | ⟨a, b⟩ | ⟨a, b, c⟩
  rotate_left 1
  · exact absurd a hnl1.1
  · exact absurd hcut c
  rw [if_neg (by omega)]
  obtain ⟨s1, s2⟩ := set1_any (v := (l.length : Int)) hps b
  have hps2 := hps.set1 (v := (l.length : Int)) (by unfold isU; omega)
  have hnl2 := hnl1.2.set (i := 1) (v := (l.length : Int))
  rcases s1 with ⟨a', b', c'⟩ | ⟨a', b', c', d'⟩
  rotate_left 1
  · exact absurd hcR c'
  rw [if_neg (by omega)]
  have hc2 := s2 hcR
  generalize (R.1.set 1 (l.length : Int)).1 = M2 at *
  have hnl3 := hnl2.2.tputs (n := n) (sp := sp) (per := per) (L := l) (pt := R.2.1)
  obtain ⟨t1, t2, t3, t4⟩ := tputs_any2 (by omega) hps2 b' (by omega) (fun q hq => by have := may_range hm hq; exact ⟨by omega, this.2, (hok q hq).line⟩) (may_nodup hm)
  have hps3 := hps2.puts (by omega) (l := l) (by omega) hok
  unfold finN
  simp only
  generalize tputs n sp per l M2 R.2.1 = P at *
  have hcP := t2 hc2
  rcases t1 with ⟨a3, b3, c3⟩ | ⟨a3, b3⟩ | ⟨a3, b3, c3⟩
  rotate_left 1
  · exact absurd a3 hnl3.1
  · exact absurd hc2 c3
  rw [if_pos a3]
  obtain ⟨u1, u2⟩ := set1_any (v := 0) hps3 b3
  rcases u1 with ⟨x, y, z⟩ | ⟨x, y, z, _⟩
  · exact ⟨x, z⟩
  · exact absurd hcP z
end
end Go.Proofs.Ytgechnnadjonaab
