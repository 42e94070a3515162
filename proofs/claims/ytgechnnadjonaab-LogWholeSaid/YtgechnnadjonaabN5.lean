import Derived.Test.YtgechnnadjonaabN4
set_option linter.all false
set_option linter.all false
namespace Go.Proofs.Ytgechnnadjonaab
open Go Go.Abs

def findH (line : Int) (l : List (Int × List Int)) : Option (Int × List Int) := l.find? fun q => decide (q.1 = line)
def getN (n sp : Nat) (M : Mem) (line : Int) : List Int × Int :=
  if 16 ≤ line ∧ line < n then
    if M.down then (List.replicate 8 0, 2) else
    match (if MayL n (homesN n sp M).1 then findH line (homesN n sp M).1 else none) with
    | some q => (q.2, 0)
    | none => (M.tview n sp line.toNat, 0)
  else (List.replicate 8 0, 1)
def recN (n sp per : Nat) (M : Mem) (pt : Nat) : Mem × Nat × Int :=
  if (homesN n sp M).2 ≠ 0 then (M, pt, (homesN n sp M).2) else
  if (homesN n sp M).1.length = 0 then (M, pt, 0) else
  if ¬ MayL n (homesN n sp M).1 then (M, pt, 6) else finN n sp per (homesN n sp M).1 M pt

section
variable {H H' : AH} {g t x p c n sp per puts puts' : Nat} {M M' : Mem} {mvb len : Nat} {line : Int}

theorem homes_ok (h : GAt H g t x p c n sp per puts M) : (∀ q ∈ (homesN n sp M).1, putOK q) ∧ (homesN n sp M).1.length ≤ 14 := by
  unfold homesN
  split
  · exact ⟨fun q hq => (by cases hq), by simp⟩
  · split
    · exact ⟨fun q hq => (by cases hq), by simp⟩
    · rename_i hc
      refine ⟨fun q hq => ?_, by simp; omega⟩
      rw [List.mem_map] at hq
      obtain ⟨i, hi, rfl⟩ := hq
      have hn200 := h.tn.n200
      have h8 := h.tn.lineOf (i / 8)
      refine ⟨?_, h.tn.lineOf _⟩
      unfold homeAt homeLine
      simp only
      have hu : isU ((M.tview n sp (i / 8)).getD (i % 8) 0) := by
        have hm : i % 8 < (M.tview n sp (i / 8)).length := by rw [h8.1]; omega
        rw [List.getD_eq_getElem?_getD, List.getElem?_eq_getElem hm]
        exact h8.2 _ (List.getElem_mem hm)
      unfold isU at hu
      unfold isI
      split <;> omega

theorem own_rows_put {B : Nat} {s : Sl} {l : List (Int × List Int)} (hO : Own B H s 9 putV l) (hok : ∀ q ∈ l, putOK q) : Abs.Rows H s 9 putV l := by
  have e : ∀ q ∈ l, (fun q : Int × List Int => if (putV q).length = 9 then putV q else List.replicate 9 (Value.int .i64 0)) q = putV q := fun q hq => if_pos (putV_len (hok q hq))
  have hR := (own_congr e hO).rows (fun q => by
    show (if (putV q).length = 9 then putV q else List.replicate 9 (Value.int .i64 0)).length = 9
    split <;> simp_all) (fun q => by
    show (if (putV q).length = 9 then putV q else List.replicate 9 (Value.int .i64 0)).all cellOK = true
    split
    · exact putV_ok _
    · rfl)
  refine ⟨hR.1, fun i q hq => ?_⟩
  have := hR.2 i q hq
  rw [e q (List.mem_of_getElem? hq)] at this
  exact this

theorem log_Get.s {k : List Value → Int → AH → Prop} (h : GAt H g t x p c n sp per puts M) (hline : isI line) (hk : k (lineV (getN n sp M line).1) (getN n sp M line).2 H) : log_Log_Get (some ⟨g, 0, none⟩) line H k := by
  refine canon2 (κ := .agg) (μ := .int .i64) (by simp) (by simp) (lineV_flat _) rfl (log_Log_Get.link ?_) hk
  unfold log_Log_Get.b
  rw [newC_eq, zeroV]
  have hG := h.push ⟨lineV (List.replicate 8 0), .rw, 0⟩
  have hn200 := h.tn.n200
  have hn16 := h.n16
  have lg := h.lg
  have e4 : ∀ (H1 : AH) (l : List Int) (e : Int), Keeps (H.push ⟨lineV (List.replicate 8 0), .rw, 0⟩) H1 → isLine l → getN n sp M line = (l, e) →
      ((lineV l).length = 8 ∧ List.all (lineV l) cellOK = true) ∧ stC H1 ⟨H.size, 0, none⟩ (lineV l) fun Hs => ldA Hs ⟨H.size, 0, none⟩ 8 fun r0 => At H Hs H ∧ r0 = lineV (getN n sp M line).1 ∧ e = (getN n sp M line).2 := by
    intro H1 l e hk1 hl he
    exact fin_line (Q := fun r H' => At H H' H ∧ r = lineV (getN n sp M line).1 ∧ e = (getN n sp M line).2) hk1 hl fun H' hk => ⟨At.of_keeps hk, by rw [he], by rw [he]⟩
  rw [Option.isNone_some, bcase_false]
  unfold log_Log_Get.j3
  by_cases c1 : line < 16
  · rw [decide_eq_true c1, bcase_true, bcase_true, zeroV]
    exact e4 _ _ _ (Keeps.refl _) zero_line (by unfold getN; rw [if_neg (by omega)])
  rw [decide_eq_false c1, bcase_false]
  simp only [onPtr_mk, hG.c1, elP_some]
  refine turn_Lines.s hG.tn ?_
  by_cases c2 : line ≥ (n : Int)
  · rw [decide_eq_true c2, bcase_true, zeroV]
    exact e4 _ _ _ (Keeps.refl _) zero_line (by unfold getN; rw [if_neg (by omega)])
  rw [decide_eq_false c2, bcase_false]
  have hin : 16 ≤ line ∧ line < n := ⟨by omega, by omega⟩
  refine log_homes.s hG ?_
  intro s28 H28 hk28 hO28
  obtain ⟨hhok, hhl⟩ := homes_ok h
  have hG28 := hG.keeps hk28
  by_cases hd : M.down = true
  · have e2 : (homesN n sp M).2 = 2 := by unfold homesN; rw [if_pos hd]
    rw [e2, show ((2 : Int) == 2) = true from rfl, bcase_true, zeroV]
    exact e4 _ _ _ hk28 zero_line (by unfold getN; rw [if_pos hin, if_pos hd])
  have hd' : M.down = false := by simpa using hd
  have e2 : ((homesN n sp M).2 == 2) = false := by
    unfold homesN; rw [if_neg hd]; split <;> rfl
  rw [e2, bcase_false, hG28.c1, elP_some]
  refine turn_Lines.s hG28.tn ?_
  have hR28 := own_rows_put hO28 hhok
  refine log_May.s hR28 hhok (by omega) ?_
  obtain ⟨ln, rfl⟩ := Int.eq_ofNat_of_zero_le (show 0 ≤ line by omega)
  have j1 : ∀ (e : Int) (H1 : AH), Keeps (H.push ⟨lineV (List.replicate 8 0), .rw, 0⟩) H1 → GAt H1 g t x p c n sp per puts M → getN n sp M (ln : Int) = (M.tview n sp ln, 0) → log_Log_Get.j1 (some ⟨g, 0, none⟩) (ln : Int) (fun r0 r1 H' => At H H' H ∧ r0 = lineV (getN n sp M (ln : Int)).1 ∧ r1 = (getN n sp M (ln : Int)).2) H.size e H1 := by
    intro e H1 hk1 hG1 he
    unfold log_Log_Get.j1
    simp only [onPtr_mk, hG1.c1, elP_some]
    refine turn_Get.s hG1.tn ?_
    have tg : tget n sp M (ln : Int) = (M.tview n sp ln, 0) := by unfold tget; rw [if_pos ⟨by omega, by omega⟩, if_neg (by simp [hd']), Int.toNat_natCast]
    rw [tg]
    exact e4 _ _ _ hk1 (h.tn.lineOf ln) he
  by_cases hm : MayL n (homesN n sp M).1
  · rw [decide_eq_true hm, bcase_true]
    have hgn : getN n sp M (ln : Int) = match findH (ln : Int) (homesN n sp M).1 with | some q => (q.2, 0) | none => (M.tview n sp ln, 0) := by
      unfold getN
      rw [if_pos hin, if_neg hd, if_pos hm, Int.toNat_natCast]
    generalize (homesN n sp M).1 = hs at *
    refine loopT_inv (t := (((0 : Int), (0 : Int)) : Int × Int)) (I := fun (t' : Int × Int) H' => ∃ j : Nat, t'.2 = (j : Int) ∧ j ≤ hs.length ∧ Keeps H28 H' ∧ findH (ln : Int) hs = findH (ln : Int) (hs.drop j)) (m := fun (t' : Int × Int) _ => Int.toNat ((hs.length : Int) - t'.2)) ?_ ⟨0, rfl, by omega, Keeps.refl _, rfl⟩
    intro t' H1 hI it hit
    obtain ⟨t1, t2⟩ := t'
    obtain ⟨j, e1, hj, hkk, heq⟩ := hI
    simp only at e1
    subst e1
    unfold log_Log_Get.l2
    simp only [bcase_eq, decide_eq_true_eq, hR28.1]
    by_cases hlt : (j : Int) < (hs.length : Int)
    · rw [if_pos hlt]
      have hj' : j < hs.length := by omega
      obtain ⟨b, o, ha, hbz, hrow⟩ := (hR28.keep hkk).at hj'
      refine ⟨by omega, ?_⟩
      rw [ha, onPtr_mk, Int.toNat_natCast, ldA_some hrow]
      have hcl := hhok _ (List.getElem_mem hj')
      rw [List.drop_eq_getElem_cons hj'] at heq
      generalize hs[j] = q at *
      refine new_put hcl rfl ?_
      intro hQ
      rw [hQ.c0, elI_some]
      unfold findH at heq
      rw [List.find?_cons] at heq
      have hk3 := hk28.trans (hkk.push ⟨putV q, .rw, 0⟩)
      by_cases hq : q.1 = (ln : Int)
      · rw [if_pos (by simpa using hq), ldA_some hQ.row]
        rw [decide_eq_true hq] at heq
        unfold findH at hgn
        rw [heq] at hgn
        exact e4 _ _ _ hk3 hcl.line hgn
      · rw [if_neg (by simpa using hq), wrap_i64 (n := (j : Int) + 1) (by omega) (by omega)]
        rw [decide_eq_false hq] at heq
        exact hit _ _ ⟨j + 1, by simp, by omega, hkk.push _, heq⟩ (by simp only; omega)
    · rw [if_neg hlt]
      have : j = hs.length := by omega
      subst this
      rw [List.drop_length] at heq
      rw [heq] at hgn
      exact j1 _ _ (hk28.trans hkk) (hG28.keeps hkk) hgn
  · rw [decide_eq_false hm, bcase_false]
    refine j1 _ _ hk28 hG28 ?_
    unfold getN
    rw [if_pos hin, if_neg hd, if_neg hm, Int.toNat_natCast]
theorem log_Get.nil {k : List Value → Int → AH → Prop} (hk : k (lineV (List.replicate 8 0)) 1 H) : log_Log_Get none line H k := by
  refine canon2 (κ := .agg) (μ := .int .i64) (by simp) (by simp) (lineV_flat _) rfl (log_Log_Get.link ?_) hk
  unfold log_Log_Get.b log_Log_Get.j3
  rw [newC_eq, zeroV, Option.isNone_none, bcase_true, bcase_true]
  exact fin_line (Q := fun r H' => At H H' H ∧ r = _ ∧ _) (Keeps.refl _) zero_line fun H' hk => ⟨At.of_keeps hk, rfl, rfl⟩

theorem log_Recover.s {K : Int → AH → Prop} (h : GAt H g t x p c n sp per puts M) (hp : PSt n sp per M puts mvb (n + 1 + sp)) (hb : mvb + 14 < 4611686018427387904)
    (hk : ∀ H', GAt H' g t x p c n sp per (recN n sp per M puts).2.1 (recN n sp per M puts).1 → Frt H H' t p c → H'.size = H.size → K (recN n sp per M puts).2.2 H') : log_Log_Recover (some ⟨g, 0, none⟩) H K := by
  obtain ⟨hhok, hhl⟩ := homes_ok h
  have hrec : PSt n sp per (recN n sp per M puts).1 (recN n sp per M puts).2.1 (mvb + 14) (n + 1 + sp) := by
    unfold recN
    split
    · exact hp.mono (by omega)
    · split
      · exact hp.mono (by omega)
      · split
        · exact hp.mono (by omega)
        · exact (hp.fin h.tn.n1 (by omega) hhok).mono (by omega)
  refine canon1 (κ := .int .i64) (v := (recN n sp per M puts).2.2) (H2 := setT H t x p c n per (recN n sp per M puts).2.1 (recN n sp per M puts).1) (by simp) rfl (log_Log_Recover.link ?_) (hk _ (h.setT hrec (by omega)) setT_frt rfl)
  unfold log_Log_Recover.b
  rw [Option.isNone_some, bcase_false]
  refine log_homes.s h ?_
  intro s9 H9 hk9 hO9
  have hG9 := h.keeps hk9
  have hR9 := own_rows_put hO9 hhok
  have f9 : Frt H H9 t p c := Frt.of_keeps hk9
  unfold recN
  by_cases c1 : (homesN n sp M).2 ≠ 0
  · rw [show ((homesN n sp M).2 != 0) = true from by simpa using c1, bcase_true, if_pos c1]
    exact ⟨h.tn.at hG9.tn f9, rfl⟩
  rw [show ((homesN n sp M).2 != 0) = false from by simpa using c1, bcase_false, if_neg c1, hR9.1]
  by_cases c2 : (homesN n sp M).1.length = 0
  · rw [c2, show (((0 : Nat) : Int) == 0) = true from rfl, bcase_true, if_pos rfl]
    exact ⟨h.tn.at hG9.tn f9, rfl⟩
  rw [show ((((homesN n sp M).1.length : Nat) : Int) == 0) = false from by simp; simpa using c2, bcase_false, if_neg c2]
  simp only [onPtr_mk, hG9.c1, elP_some]
  refine turn_Lines.s hG9.tn ?_
  refine log_May.s hR9 hhok (by omega) ?_
  by_cases c3 : MayL n (homesN n sp M).1
  rotate_left 1
  · rw [decide_eq_false c3, Bool.not_false, bcase_true, if_pos c3]
    exact ⟨h.tn.at hG9.tn f9, rfl⟩
  rw [decide_eq_true c3, Bool.not_true, bcase_false, if_neg (fun hh => hh c3)]
  have lt := h.tn.lt
  have lp := h.tn.l.m.lp
  have lc := h.tn.l.m.lc
  refine log_finish.s hG9 hp (by omega) hR9 hhok (by omega) ?_ ?_
  · intro _ b hb
    rcases hO9 with ⟨rfl, _⟩ | ⟨b', rfl, h1, _⟩
    · simp at hb
    · simp at hb; subst hb; omega
  · intro H' hG' f' _
    exact ⟨h.tn.at hG'.tn (f9.trans f'), rfl⟩
theorem log_Recover.nil {K : Int → AH → Prop} (hk : K 1 H) : log_Log_Recover none H K := by
  refine canon1 (κ := .int .i64) (v := 1) (by simp) rfl (log_Log_Recover.link ?_) hk
  unfold log_Log_Recover.b
  rw [Option.isNone_none, bcase_true]
  exact ⟨At.of_keeps (Keeps.refl H), rfl⟩
end
end Go.Proofs.Ytgechnnadjonaab
