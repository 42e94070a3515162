import Derived.Test.YtgechnnadjonaabN16
set_option linter.all false
set_option linter.all false
namespace Go.Proofs.Ytgechnnadjonaab
open Go Go.Abs

/-! ## Commits that a cut may end: what is seen of them -/

/-- What is committed is in the log, and may be done. -/
structure Pend (n sp : Nat) (M : Mem) (ws : List (List Int)) (l : List (Int × List Int)) : Prop where
  may : MayL n l
  ok : ∀ q ∈ l, putOK q
  cm : commits M = l.length
  rows : ∀ i, i < (rowsN l).length → M.tview n sp i = (rowsN l).getD i []
  now : ∀ q ∈ l, ws.getD (q.1 - 16).toNat [] = q.2
  old : ∀ s : Nat, 16 ≤ s → s < n → (∀ q ∈ l, q.1 ≠ (s : Int)) → M.tview n sp s = ws.getD (s - 16) []
/-- Each home holds its line, or it is committed for it. -/
def Sd (n sp : Nat) (M : Mem) (ws : List (List Int)) : Prop :=
  (commits M = 0 ∧ ∀ s : Nat, 16 ≤ s → s < n → M.tview n sp s = ws.getD (s - 16) []) ∨ ∃ l, Pend n sp M ws l

section
variable {n sp per : Nat} {M M' : Mem} {ws : List (List Int)} {mvb len pt : Nat}

theorem Pend.congr {l : List (Int × List Int)} (h : Pend n sp M ws l) (hn : 16 < n) (hc : commits M' = commits M) (hv : ∀ s, s < n → (s < 16 ∨ ∀ q ∈ l, q.1 ≠ (s : Int)) → M'.tview n sp s = M.tview n sp s) : Pend n sp M' ws l := by
  have hl14 := h.may.2.2.1
  have hl1 := h.may.2.1
  have hidx : idxN l.length ≤ 2 := by unfold idxN; omega
  have hlen : (rowsN l).length = idxN l.length + l.length := rowsTo_len l (Nat.le_refl _)
  exact ⟨h.may, h.ok, hc.trans h.cm, fun i hi => by rw [hv i (by omega) (.inl (by omega))]; exact h.rows i hi, h.now, fun s h1 h2 h3 => by rw [hv s h2 (.inr h3)]; exact h.old s h1 h2 h3⟩
theorem Sd.congr (h : Sd n sp M ws) (hn : 16 < n) (hc : commits M' = commits M) (hv : ∀ s, s < n → M'.tview n sp s = M.tview n sp s) : Sd n sp M' ws := by
  rcases h with ⟨h1, h2⟩ | ⟨l, h⟩
  · exact .inl ⟨hc.trans h1, fun s a b => by rw [hv s b]; exact h2 s a b⟩
  · exact .inr ⟨l, h.congr hn hc fun s hs _ => hv s hs⟩

theorem PSt.len8 (h : PSt n sp per M pt mvb len) (hn : 1 ≤ n) (s : Nat) : isLine (M.tview n sp s) := by
  obtain ⟨k, hlv⟩ := h.lv
  have hsl := slotN_le (mv := M.mv) (line := s) hn
  exact lv_line_len hlv h.ok (by omega)

theorem tputs_any2 (hn : 1 ≤ n) : ∀ {L : List (Int × List Int)} {M : Mem} {pt mvb : Nat}, PSt n sp per M pt mvb len → M.down = false → mvb + L.length < 4611686018427387904 → (∀ q ∈ L, 0 ≤ q.1 ∧ q.1 < n ∧ isLine q.2) → (L.map (·.1)).Nodup →
    (((tputs n sp per L M pt).2.2 = 0 ∧ (tputs n sp per L M pt).1.down = false ∧ ∀ q ∈ L, (tputs n sp per L M pt).1.tview n sp q.1.toNat = q.2) ∨
     ((tputs n sp per L M pt).2.2 = 3 ∧ (tputs n sp per L M pt).1.down = false) ∨ ((tputs n sp per L M pt).2.2 = 2 ∧ (tputs n sp per L M pt).1.down = true ∧ M.cut ≠ -1)) ∧
    (M.cut = -1 → (tputs n sp per L M pt).1.cut = -1) ∧
    (∀ s : Nat, s < n → (∀ q ∈ L, q.1 ≠ (s : Int)) → (tputs n sp per L M pt).1.tview n sp s = M.tview n sp s) ∧
    (∀ r, (r = 1 ∨ r = 2) → (tputs n sp per L M pt).1.regs.getD r 0 = M.regs.getD r 0) := by
  intro L
  induction L with
  | nil =>
    intro M pt mvb h hup _ _ _
    exact ⟨.inl ⟨rfl, hup, fun q hq => (by cases hq)⟩, fun h => h, fun s _ _ => rfl, fun r _ => rfl⟩
  | cons q r ih =>
    intro M pt mvb h hup hb hL hnd
    simp only [List.length_cons] at hb ⊢
    rw [List.map_cons, List.nodup_cons] at hnd
    obtain ⟨hq0, hqn, hql⟩ := hL q (by simp)
    obtain ⟨k, hlv⟩ := h.lv
    have hmv := h.mv
    obtain ⟨ln, hln⟩ := Int.eq_ofNat_of_zero_le hq0
    obtain ⟨hP, _⟩ := tput_any (line := ln) (period := per) (puts := pt) (d := q.2) hlv hn h.ok (by omega) hup (by omega) hql.1
    have hps := h.tput hn (by omega) (line := q.1) hql
    have hdef : tputs n sp per (q :: r) M pt = if (tput n sp per M pt q.1 q.2).2.2 = 0 then tputs n sp per r (tput n sp per M pt q.1 q.2).1 (tput n sp per M pt q.1 q.2).2.1 else tput n sp per M pt q.1 q.2 := rfl
    rw [hdef]
    rw [← hln] at hP
    generalize tput n sp per M pt q.1 q.2 = R at *
    have hcut := hP.cut
    have hother := hP.other
    have hregs := hP.regs
    have hoth : ∀ q' ∈ r, q'.1 ≠ q.1 := fun q' hq' e => hnd.1 (by rw [← e]; exact List.mem_map_of_mem hq')
    rcases hP.res with ⟨e, hup', hv⟩ | ⟨e, hup', hv⟩ | ⟨e, hdn, hc, _⟩
    · rw [if_pos e]
      obtain ⟨i1, i2, i3, i4⟩ := ih hps hup' (by omega) (fun q' hq' => hL q' (by simp [hq'])) hnd.2
      have hqv : (tputs n sp per r R.1 R.2.1).1.tview n sp q.1.toNat = q.2 := by
        rw [hln, Int.toNat_natCast, i3 ln (by omega) (fun q' hq' e' => hoth q' hq' (by rw [e', hln]))]
        exact hv ln rfl
      refine ⟨?_, fun hc => i2 (hcut hc), fun s hs hne => ?_, fun rr hrr => ?_⟩
      · rcases i1 with ⟨a, b, c⟩ | a | ⟨a, b, c⟩
        · refine .inl ⟨a, b, fun q' hq' => ?_⟩
          rw [List.mem_cons] at hq'
          rcases hq' with rfl | hq'
          · exact hqv
          · exact c q' hq'
        · exact .inr (.inl a)
        · exact .inr (.inr ⟨a, b, fun hc => c (hcut hc)⟩)
      · rw [i3 s hs (fun q' hq' => hne q' (by simp [hq'])), hother s hs (by
          have := hne q (by simp)
          rw [hln] at this
          simp; omega)]
      · rw [i4 rr hrr, hregs rr (by omega)]
    · rw [if_neg (by omega)]
      refine ⟨.inr (.inl ⟨e, hup'⟩), hcut, fun s hs hne => hother s hs (by
          have := hne q (by simp)
          rw [hln] at this
          simp; omega), fun rr hrr => hregs rr (by omega)⟩
    · rw [if_neg (by omega)]
      refine ⟨.inr (.inr ⟨e, hdn, hc⟩), hcut, fun s hs hne => hother s hs (by
          have := hne q (by simp)
          rw [hln] at this
          simp; omega), fun rr hrr => hregs rr (by omega)⟩

theorem set1_view {v : Int} (s : Nat) : (M.set 1 v).1.tview n sp s = M.tview n sp s := by
  unfold Mem.tview Mem.view
  rw [Mem.set1_mv, place_congr (M' := (M.set 1 v).1) (M := M) fun j _ => by rw [Mem.set1_whose]]
  have : ∀ i, (M.set 1 v).1.cl i = M.cl i := fun i => by
    unfold Mem.set
    rw [if_pos (show regIn 1 by unfold regIn; omega)]
    split
    · rfl
    · simp only
      split
      · exact Mem.wr_cl
      · exact Mem.wr_cl
  rw [this]
theorem set1_any {v : Int} (h : PSt n sp per M pt mvb len) (hup : M.down = false) :
    (((M.set 1 v).2 = 0 ∧ (M.set 1 v).1.down = false ∧ commits (M.set 1 v).1 = v) ∨ ((M.set 1 v).2 = 2 ∧ (M.set 1 v).1.down = true ∧ M.cut ≠ -1 ∧ (commits (M.set 1 v).1 = commits M ∨ commits (M.set 1 v).1 = v))) ∧
    (M.cut = -1 → (M.set 1 v).1.cut = -1) := by
  have hS := Mem.set_any (M := M) (i := 1) (v := v) hup (by omega) h.ok.cut.1
  have hrl := h.ok.regs
  have e1 : (1 : Int) = ((1 : Nat) : Int) := rfl
  rw [e1]
  generalize M.set ((1 : Nat) : Int) v = R at *
  have hset : R.1.regs = M.regs.set 1 v → commits R.1 = v := fun h => by
    unfold commits
    rw [h, List.getD_eq_getElem?_getD, List.getElem?_set_self (by omega)]; rfl
  refine ⟨?_, hS.cut⟩
  rcases hS.res with ⟨a, b, c⟩ | ⟨a, b, c, d⟩
  · exact .inl ⟨a, b, hset c⟩
  · refine .inr ⟨a, b, c, ?_⟩
    rcases d with d | d
    · left; unfold commits; rw [d]
    · right; exact hset d

/-- What is committed is done, whatever is cut. -/
theorem fin_any {l : List (Int × List Int)} (h : PSt n sp per M pt mvb len) (hn : 16 < n) (hup : M.down = false) (hb : mvb + 100 < 4611686018427387904) (hp : Pend n sp M ws l) :
    Sd n sp (finN n sp per l M pt).1 ws ∧ (((finN n sp per l M pt).2.2 = 0 ∧ (finN n sp per l M pt).1.down = false) ∨ ((finN n sp per l M pt).2.2 = 2 ∧ (finN n sp per l M pt).1.down = true ∧ M.cut ≠ -1)) ∧ (M.cut = -1 → (finN n sp per l M pt).1.cut = -1) := by
  have hl14 := hp.may.2.2.1
  obtain ⟨t1, t2, t3, t4⟩ := tputs_any2 (by omega) h hup (by omega) (fun q hq => by have := may_range hp.may hq; exact ⟨by omega, this.2, (hp.ok q hq).line⟩) (may_nodup hp.may)
  have hps := h.puts (by omega) (l := l) (by omega) hp.ok
  have hpend : Pend n sp (tputs n sp per l M pt).1 ws l := hp.congr hn (by unfold commits; rw [t4 1 (.inl rfl)]) fun s hs hor => t3 s hs fun q hq => by
    rcases hor with h | h
    · have := may_range hp.may hq; omega
    · exact h q hq
  unfold finN
  simp only
  generalize tputs n sp per l M pt = R at *
  rcases t1 with ⟨a, b, c⟩ | ⟨a, b⟩ | ⟨a, b, c⟩
  · rw [if_pos a]
    obtain ⟨s1, s2⟩ := set1_any (v := 0) hps b
    have hclean : commits (R.1.set 1 0).1 = 0 → Sd n sp (R.1.set 1 0).1 ws := fun hc => .inl ⟨hc, fun s h1 h2 => by
      rw [set1_view]
      by_cases hq : ∃ q ∈ l, q.1 = (s : Int)
      · obtain ⟨q, hq, e⟩ := hq
        have := c q hq
        have h0 := hp.now q hq
        rw [e] at this h0
        rw [show s = (s : Int).toNat by omega, this, ← h0]; congr 1; omega
      · exact hpend.old s h1 h2 fun q h e => hq ⟨q, h, e⟩⟩
    rcases s1 with ⟨a', b', c'⟩ | ⟨a', b', c', d'⟩
    · exact ⟨hclean c', .inl ⟨a', b'⟩, fun hc => s2 (t2 hc)⟩
    · refine ⟨?_, .inr ⟨a', b', fun hc => c' (t2 hc)⟩, fun hc => s2 (t2 hc)⟩
      rcases d' with d' | d'
      · exact .inr ⟨l, hpend.congr hn d' fun s _ _ => set1_view s⟩
      · exact hclean d'
  · rw [if_neg (by omega), if_pos a]
    exact ⟨.inr ⟨l, hpend⟩, .inl ⟨rfl, b⟩, t2⟩
  · rw [if_neg (by omega), if_neg (by omega)]
    exact ⟨.inr ⟨l, hpend⟩, .inr ⟨a, b, c⟩, t2⟩

/-- A recovery, whatever is cut. -/
theorem rec_any (h : PSt n sp per M pt mvb len) (hn : 16 < n ∧ n ≤ 1000) (hup : M.down = false) (hb : mvb + 100 < 4611686018427387904) (hs : Sd n sp M ws) :
    Sd n sp (recN n sp per M pt).1 ws ∧ (((recN n sp per M pt).2.2 = 0 ∧ (recN n sp per M pt).1.down = false) ∨ ((recN n sp per M pt).2.2 = 2 ∧ (recN n sp per M pt).1.down = true ∧ M.cut ≠ -1)) ∧ (M.cut = -1 → (recN n sp per M pt).1.cut = -1) := by
  have hs0 := hs
  rcases hs with ⟨h1, h2⟩ | ⟨l, hp⟩
  · have hh : homesN n sp M = ([], 0) := by unfold homesN; rw [if_neg (by simp [hup]), h1, if_neg (by omega)]; rfl
    have e : recN n sp per M pt = (M, pt, 0) := by
      unfold recN
      rw [hh, if_neg (by simp), if_pos (by rfl)]
    rw [e]
    exact ⟨hs0, .inl ⟨rfl, hup⟩, fun h => h⟩
  · have hl1 := hp.may.2.1
    have hh := homes_back hp.may hn.2 hup hp.cm hp.rows
    have e : recN n sp per M pt = finN n sp per l M pt := by
      unfold recN
      rw [hh]
      simp only
      rw [if_neg (by simp), if_neg (by omega), if_neg (fun hx => hx hp.may)]
    rw [e]
    exact fin_any h hn.1 hup hb hp

/-- A commit, whatever is cut. -/
theorem com_any {l : List (Int × List Int)} (h : PSt n sp per M pt mvb len) (hn : 16 < n ∧ n ≤ 1000) (hup : M.down = false) (hb : mvb + 1000 < 4611686018427387904) (hok : ∀ q ∈ l, putOK q) (hl : ws.length = n - 16) (hs : Sd n sp M ws) :
    ((Sd n sp (comN n sp per l M pt).1 ws ∧ (((comN n sp per l M pt).2.2 ≠ 0 ∧ (comN n sp per l M pt).2.2 ≠ 2 ∧ (comN n sp per l M pt).1.down = false) ∨ ((comN n sp per l M pt).2.2 = 2 ∧ (comN n sp per l M pt).1.down = true ∧ M.cut ≠ -1))) ∨
     (MayL n l ∧ commits M = 0 ∧ Sd n sp (comN n sp per l M pt).1 (upd ws l) ∧ (((comN n sp per l M pt).2.2 = 0 ∧ (comN n sp per l M pt).1.down = false) ∨ ((comN n sp per l M pt).2.2 = 2 ∧ (comN n sp per l M pt).1.down = true ∧ M.cut ≠ -1)))) ∧
    (M.cut = -1 → (comN n sp per l M pt).1.cut = -1) := by
  by_cases hm : MayL n l
  rotate_left 1
  · have e : comN n sp per l M pt = (M, pt, 1) := by unfold comN; rw [if_pos hm]
    rw [e]
    exact ⟨.inl ⟨hs, .inl ⟨by simp, by simp, hup⟩⟩, fun h => h⟩
  by_cases hc : commits M = 0
  rotate_left 1
  · have e : comN n sp per l M pt = (M, pt, 5) := by unfold comN; rw [if_neg (fun hh => hh hm), if_neg (by simp [hup]), if_pos hc]
    rw [e]
    exact ⟨.inl ⟨hs, .inl ⟨by simp, by simp, hup⟩⟩, fun h => h⟩
  have hold : ∀ s : Nat, 16 ≤ s → s < n → M.tview n sp s = ws.getD (s - 16) [] := by
    rcases hs with ⟨_, h2⟩ | ⟨l', hp⟩
    · exact h2
    · have := hp.may.2.1; have := hp.cm; omega
  have hl14 := hm.2.2.1
  have hl1 := hm.2.1
  have hidx : idxN l.length ≤ 2 := by unfold idxN; omega
  have hlen : (rowsN l).length = idxN l.length + l.length := rowsTo_len l (Nat.le_refl _)
  have hrl := rowPuts_len l
  have hro := rowPuts_ok hok (by omega)
  have hrm : ∀ q ∈ rowPuts l, 0 ≤ q.1 ∧ q.1 < 16 ∧ isLine q.2 := by
    intro q hq
    have h2 := (hro q hq).line
    obtain ⟨i, hi, rfl⟩ := rowPuts_mem hq
    exact ⟨by simp only; omega, by simp only; omega, h2⟩
  obtain ⟨r1, r2, r3, r4⟩ := tputs_any2 (by omega) h hup (by omega) (fun q hq => by have := hrm q hq; exact ⟨this.1, by omega, this.2.2⟩) (rowPuts_nodup l)
  have hps := h.puts (by omega) (l := rowPuts l) (by omega) hro
  unfold comN
  rw [if_neg (fun hh => hh hm), if_neg (by simp [hup]), if_neg (by simp [hc])]
  have hhigh : ∀ s : Nat, 16 ≤ s → s < n → (tputs n sp per (rowPuts l) M pt).1.tview n sp s = M.tview n sp s := fun s h1 h2 => r3 s h2 fun q hq => by have := hrm q hq; omega
  have hcR : commits (tputs n sp per (rowPuts l) M pt).1 = 0 := by
    have := r4 1 (.inl rfl)
    unfold commits at hc ⊢
    omega
  generalize tputs n sp per (rowPuts l) M pt = R at *
  have hsame : Sd n sp R.1 ws := .inl ⟨hcR, fun s h1 h2 => by rw [hhigh s h1 h2]; exact hold s h1 h2⟩
  rcases r1 with ⟨a, b, c⟩ | ⟨a, b⟩ | ⟨a, b, c⟩
  · rw [if_neg (by omega)]
    obtain ⟨s1, s2⟩ := set1_any (v := (l.length : Int)) hps b
    have hps2 := hps.set1 (v := (l.length : Int)) (by unfold isU; omega)
    have hrow2 : ∀ i, i < (rowsN l).length → (R.1.set 1 (l.length : Int)).1.tview n sp i = (rowsN l).getD i [] := by
      intro i hi
      rw [set1_view]
      have := c _ (rowPuts_at hi)
      simpa using this
    have hpend : commits (R.1.set 1 (l.length : Int)).1 = l.length → Pend n sp (R.1.set 1 (l.length : Int)).1 (upd ws l) l := fun hcm => by
      refine ⟨hm, hok, hcm, hrow2, fun q hq => ?_, fun s h1 h2 h3 => ?_⟩
      · have hr := may_range hm hq
        exact upd_in (i := (q.1 - 16).toNat) (fun q h => (may_range hm h).1) (may_nodup hm) hq (by omega) (by omega)
      · rw [set1_view, hhigh s h1 h2, hold s h1 h2]
        exact (upd_other (i := s - 16) (fun q h => (may_range hm h).1) (fun q h e => h3 q h (by omega))).symm
    rcases s1 with ⟨a', b', c'⟩ | ⟨a', b', c', d'⟩
    · rw [if_neg (by omega)]
      obtain ⟨f1, f2, f3⟩ := fin_any hps2 hn.1 b' (by omega) (hpend c')
      refine ⟨.inr ⟨hm, hc, f1, ?_⟩, fun hc => f3 (s2 (r2 hc))⟩
      rcases f2 with f2 | ⟨f, g, i⟩
      · exact .inl f2
      · exact .inr ⟨f, g, fun hc => i (s2 (r2 hc))⟩
    · rw [if_pos (by omega)]
      refine ⟨?_, fun hc => s2 (r2 hc)⟩
      rcases d' with d' | d'
      · exact .inl ⟨hsame.congr hn.1 d' fun s _ => set1_view s, .inr ⟨a', b', fun hc => c' (r2 hc)⟩⟩
      · exact .inr ⟨hm, hc, .inr ⟨l, hpend d'⟩, .inr ⟨a', b', fun hc => c' (r2 hc)⟩⟩
  · rw [if_pos (by omega)]
    exact ⟨.inl ⟨hsame, .inl ⟨by omega, by omega, b⟩⟩, r2⟩
  · rw [if_pos (by omega)]
    exact ⟨.inl ⟨hsame, .inr ⟨a, b, c⟩⟩, r2⟩

theorem sd_get {nn : Nat} (hnn : n = 16 + nn) (hn : n ≤ 1000) (hup : M.down = false) (hs : Sd n sp M ws) {i : Nat} (hi : i < nn) : getN n sp M ((16 + i : Nat) : Int) = (ws.getD i [], 0) := by
  rcases hs with ⟨h1, h2⟩ | ⟨l, hp⟩
  · rw [get_clean hup h1 (by omega), Int.toNat_natCast, h2 _ (by omega) (by omega), show 16 + i - 16 = i by omega]
  · have hh := homes_back hp.may hn hup hp.cm hp.rows
    obtain ⟨g1, g2⟩ := get_pend (s := ((16 + i : Nat) : Int)) hup hh hp.may (by omega)
    by_cases hq : ∃ q ∈ l, q.1 = ((16 + i : Nat) : Int)
    · obtain ⟨q, hq, e⟩ := hq
      rw [g1 q hq e, ← hp.now q hq, e, show (((16 + i : Nat) : Int) - 16).toNat = i by omega]
    · have hne : ∀ q ∈ l, q.1 ≠ ((16 + i : Nat) : Int) := fun q h e => hq ⟨q, h, e⟩
      rw [g2 hne, Int.toNat_natCast, hp.old _ (by omega) (by omega) hne, show 16 + i - 16 = i by omega]

theorem Sd.power (h : Sd n sp M ws) (hn : 16 < n) : Sd n sp M.power ws := h.congr hn rfl fun s _ => view_power _ _ _ _
theorem Sd.setCut (h : Sd n sp M ws) (hn : 16 < n) (a b : Int) : Sd n sp (M.setCut a b) ws := h.congr hn rfl fun s _ => view_setCut _ _ _ _ _ _
end
end Go.Proofs.Ytgechnnadjonaab
