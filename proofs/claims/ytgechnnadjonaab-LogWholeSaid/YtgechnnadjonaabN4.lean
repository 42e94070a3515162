import Derived.Test.YtgechnnadjonaabN3
set_option linter.all false
set_option linter.all false
namespace Go.Proofs.Ytgechnnadjonaab
open Go Go.Abs

/-! ### many Puts -/

def tputs (n sp per : Nat) : List (Int × List Int) → Mem → Nat → Mem × Nat × Int
  | [], M, pt => (M, pt, 0)
  | q :: r, M, pt => if (tput n sp per M pt q.1 q.2).2.2 = 0 then tputs n sp per r (tput n sp per M pt q.1 q.2).1 (tput n sp per M pt q.1 q.2).2.1 else tput n sp per M pt q.1 q.2
def finN (n sp per : Nat) (l : List (Int × List Int)) (M : Mem) (pt : Nat) : Mem × Nat × Int :=
  let R := tputs n sp per l M pt
  if R.2.2 = 0 then ((R.1.set 1 0).1, R.2.1, (R.1.set 1 0).2) else if R.2.2 = 3 then (R.1, R.2.1, 0) else R

/-- What holds of lines that go round, whatever is done. -/
structure PSt (n sp per : Nat) (M : Mem) (pt mvb len : Nat) : Prop where
  lv : ∃ k, LV M (n + 1) sp k
  ok : M.ok
  pl : pt < per
  mv : M.mv ≤ mvb
  len : M.cs.length = len

theorem mv_power (M : Mem) : M.power.mv = M.mv := rfl

section
variable {n sp per : Nat} {M : Mem} {pt mvb len : Nat}
theorem PSt.tput (h : PSt n sp per M pt mvb len) (hn : 1 ≤ n) (hb : mvb < 4611686018427387904) {line : Int} {d : List Int} (hd : isLine d) :
    PSt n sp per (tput n sp per M pt line d).1 (tput n sp per M pt line d).2.1 (mvb + 1) len := by
  obtain ⟨k, hlv⟩ := h.lv
  have hmv := h.mv
  have hpl := h.pl
  have hlen := tput_len (n := n) (sp := sp) (period := per) (M := M) (puts := pt) (line := line) (d := d)
  have hok := tput_ok (period := per) (puts := pt) (line := line) hd hlv hn h.ok (by omega)
  by_cases hin : 0 ≤ line ∧ line < n
  · by_cases hdn : M.down = true
    · have e : Go.Proofs.Ytgechnnadjonaab.tput n sp per M pt line d = (M, pt, 2) := by unfold Go.Proofs.Ytgechnnadjonaab.tput; rw [if_pos hin, if_pos hdn]
      rw [e]; exact ⟨⟨k, hlv⟩, h.ok, hpl, by simp only; omega, h.len⟩
    · obtain ⟨ln, rfl⟩ := Int.eq_ofNat_of_zero_le hin.1
      obtain ⟨h1, h2⟩ := tput_any (line := ln) (period := per) (puts := pt) (d := d) hlv hn h.ok (by omega) (by simpa using hdn) (by omega) hd.1
      obtain ⟨k', _, hlv', _⟩ := h1.lv
      refine ⟨⟨k', hlv'⟩, hok, by rw [h2]; split <;> omega, ?_, hlen.trans h.len⟩
      have := h1.mv.2.1
      split at this <;> omega
  · rw [tput_out hin]; exact ⟨⟨k, hlv⟩, h.ok, hpl, by simp only; omega, h.len⟩
theorem PSt.mono (h : PSt n sp per M pt mvb len) {b : Nat} (hb : mvb ≤ b) : PSt n sp per M pt b len := ⟨h.lv, h.ok, h.pl, Nat.le_trans h.mv hb, h.len⟩
theorem PSt.puts : ∀ {l : List (Int × List Int)} {M : Mem} {pt mvb : Nat}, PSt n sp per M pt mvb len → 1 ≤ n → mvb + l.length < 4611686018427387904 → (∀ q ∈ l, putOK q) → PSt n sp per (tputs n sp per l M pt).1 (tputs n sp per l M pt).2.1 (mvb + l.length) len := by
  intro l
  induction l with
  | nil => intro M pt mvb h _ _ _; exact h
  | cons q r ih =>
    intro M pt mvb h hn hb hq
    simp only [List.length_cons] at hb ⊢
    have h1 := h.tput hn (by omega) (line := q.1) (hq q (by simp)).line
    unfold tputs
    split
    · exact (ih h1 hn (by omega) fun q' hq' => hq q' (by simp [hq'])).mono (by omega)
    · exact h1.mono (by omega)
theorem Mem.set1_mv {v : Int} : (M.set 1 v).1.mv = M.mv := by
  unfold Mem.set
  rw [if_pos (show regIn 1 by unfold regIn; omega)]
  have hw : M.wr.regs = M.regs := Mem.wr_regs
  split
  · rfl
  · simp only
    split
    · unfold Mem.mv
      simp only
      congr 1
      simp only [List.getD_eq_getElem?_getD]
      rw [List.getElem?_set_ne (by decide)]
    · unfold Mem.mv; rw [hw]
theorem Mem.set1_whose {v : Int} (i : Nat) : (M.set 1 v).1.whose i = M.whose i := by
  unfold Mem.set
  rw [if_pos (show regIn 1 by unfold regIn; omega)]
  have hw : M.wr.regs = M.regs := Mem.wr_regs
  split
  · rfl
  · simp only
    split
    · unfold Mem.whose
      simp only [List.getD_eq_getElem?_getD]
      rw [List.getElem?_set_ne (by show (1 : Nat) ≠ _; omega)]
    · unfold Mem.whose; rw [hw]
theorem PSt.set1 (h : PSt n sp per M pt mvb len) {v : Int} (hv : isU v) : PSt n sp per (M.set 1 v).1 pt mvb len := by
  obtain ⟨k, hlv⟩ := h.lv
  have hl : (M.set 1 v).1.cs.length = M.cs.length := Mem.set_len
  refine ⟨⟨k, by rw [hl]; exact hlv.len, hlv.n1, hlv.sp16, hlv.kle, fun i hi => by rw [Mem.set1_whose]; exact hlv.used i hi, fun i hi hi' => by rw [Mem.set1_whose]; exact hlv.free i hi hi'⟩, Mem.set_ok h.ok hv, h.pl, by rw [Mem.set1_mv]; exact h.mv, hl.trans h.len⟩
theorem PSt.fin (h : PSt n sp per M pt mvb len) (hn : 1 ≤ n) {l : List (Int × List Int)} (hb : mvb + l.length < 4611686018427387904) (hq : ∀ q ∈ l, putOK q) :
    PSt n sp per (finN n sp per l M pt).1 (finN n sp per l M pt).2.1 (mvb + l.length) len := by
  have h1 := h.puts hn hb hq
  unfold finN
  simp only
  split
  · exact h1.set1 (by unfold isU; omega)
  · split
    · exact h1
    · exact h1
end

section
variable {H H' : AH} {g t x p c n sp per puts puts' : Nat} {M M' : Mem} {mvb len : Nat}
theorem GAt.pst (h : GAt H g t x p c n sp per puts M) {k : Nat} (hlv : LV M (n + 1) sp k) (hmv : M.mv ≤ mvb) : PSt n sp per M puts mvb (n + 1 + sp) := ⟨⟨k, hlv⟩, h.tn.l.m.ok, h.tn.pl, hmv, h.tn.l.len⟩
theorem GAt.setT (h : GAt H g t x p c n sp per puts M) (hp : PSt n sp per M' puts' mvb (n + 1 + sp)) (hb : mvb ≤ 4611686018427387904) : GAt (setT H t x p c n per puts' M') g t x p c n sp per puts' M' :=
  h.step (h.tn.setT hp.pl hp.ok (hp.len.trans h.tn.l.len.symm) (by have := hp.mv; omega)) setT_frt

theorem log_finish.s {x1 : Sl} {l : List (Int × List Int)} {K : Int → AH → Prop} (h : GAt H g t x p c n sp per puts M) (hp : PSt n sp per M puts mvb (n + 1 + sp)) (hb : mvb + l.length < 4611686018427387904) (hr : Abs.Rows H x1 9 putV l) (hok : ∀ q ∈ l, putOK q) (hl : l.length ≤ 100000)
    (hx1 : 0 < l.length → ∀ b, x1.a.map (·.block) = some b → b ≠ t ∧ b ≠ p ∧ b ≠ c)
    (hk : ∀ H', GAt H' g t x p c n sp per (finN n sp per l M puts).2.1 (finN n sp per l M puts).1 → Frt H H' t p c → H'.size = H.size → K (finN n sp per l M puts).2.2 H') : log_Log_finish (some ⟨g, 0, none⟩) x1 H K := by
  have hfin := hp.fin h.tn.n1 hb hok
  refine canon1 (κ := .int .i64) (v := (finN n sp per l M puts).2.2) (H2 := setT H t x p c n per (finN n sp per l M puts).2.1 (finN n sp per l M puts).1) (by simp) rfl (log_Log_finish.link ?_) (hk _ (h.setT hfin (by omega)) setT_frt rfl)
  unfold log_Log_finish.b
  refine loopT_inv (t := (((0 : Int), (0 : Int)) : Int × Int)) (I := fun (t' : Int × Int) H' => ∃ i : Nat, ∃ pt M', t'.2 = (i : Int) ∧ i ≤ l.length ∧ TAt H' t x p c n sp per pt M' ∧ Frt H H' t p c ∧ PSt n sp per M' pt (mvb + i) (n + 1 + sp) ∧ tputs n sp per l M puts = tputs n sp per (l.drop i) M' pt) (m := fun (t' : Int × Int) _ => Int.toNat ((l.length : Int) - t'.2)) ?_ ⟨0, puts, M, rfl, by omega, h.tn, Frt.refl, hp, rfl⟩
  intro t' H1 hI it hit
  obtain ⟨t1, t2⟩ := t'
  obtain ⟨i, pt, M1, e1, hi, hT, f, hps, heq⟩ := hI
  simp only at e1
  subst e1
  have hG := h.step hT f
  unfold log_Log_finish.l2
  simp only [bcase_eq, decide_eq_true_eq, hr.1]
  by_cases hlt : (i : Int) < (l.length : Int)
  · rw [if_pos hlt]
    have hi' : i < l.length := by omega
    obtain ⟨b, o, ha, hbz, hrow⟩ := hr.at hi'
    have hbne := hx1 (by omega) b (by rw [ha]; rfl)
    have hrow1 : AH.row? H1 (Addr.add ⟨b, o, none⟩ (i * 9)) 9 = some (putV l[i]) := by
      rw [← hrow, addr_add]
      simp only [AH.row?, f.get b hbz hbne.1 hbne.2.1 hbne.2.2]
    refine ⟨by omega, ?_⟩
    rw [ha, onPtr_mk, Int.toNat_natCast, ldA_some hrow1]
    have hcl := hok _ (List.getElem_mem hi')
    rw [List.drop_eq_getElem_cons hi'] at heq
    generalize l[i] = q at *
    refine new_put hcl rfl ?_
    intro hQ
    have hG2 := hG.push ⟨putV q, .rw, 0⟩
    have f2 : Frt H (H1.push ⟨putV q, .rw, 0⟩) t p c := f.trans (Frt.of_keeps ((Keeps.refl H1).push _))
    have s2 : H1.size < (H1.push ⟨putV q, .rw, 0⟩).size := by simp [push_size]
    simp only [onPtr_mk, hG2.c1, elP_some, hQ.c0, elI_some]
    rw [ldA_some hQ.row]
    obtain ⟨k1, hlv1⟩ := hps.lv
    have hmv1 := hps.mv
    refine turn_Put.s hG2.tn hlv1 (by omega) hcl.line ?_
    intro H3 hT3 f3 _
    have hps3 := hps.tput h.tn.n1 (by omega) (line := q.1) hcl.line
    have hdef : tputs n sp per (q :: l.drop (i + 1)) M1 pt = if (tput n sp per M1 pt q.1 q.2).2.2 = 0 then tputs n sp per (l.drop (i + 1)) (tput n sp per M1 pt q.1 q.2).1 (tput n sp per M1 pt q.1 q.2).2.1 else tput n sp per M1 pt q.1 q.2 := rfl
    rw [hdef] at heq
    by_cases he : (tput n sp per M1 pt q.1 q.2).2.2 = 0
    · rw [if_pos he] at heq
      rw [if_pos (by simpa using he), wrap_i64 (n := (i : Int) + 1) (by omega) (by omega)]
      exact hit _ _ ⟨i + 1, _, _, by simp, by omega, hT3, f2.trans f3, hps3.mono (by omega), heq⟩ (by simp only; omega)
    · rw [if_neg he] at heq
      rw [if_neg (by simpa using he)]
      unfold finN
      simp only [heq]
      rw [if_neg he]
      by_cases he3 : (tput n sp per M1 pt q.1 q.2).2.2 = 3
      · rw [if_pos he3, if_pos (by simpa using he3)]
        exact ⟨h.tn.at hT3 (f2.trans f3), rfl⟩
      · rw [if_neg he3, if_neg (by simpa using he3)]
        exact ⟨h.tn.at hT3 (f2.trans f3), rfl⟩
  · rw [if_neg hlt]
    have : i = l.length := by omega
    subst this
    rw [List.drop_length] at heq
    have heq' : tputs n sp per l M puts = (M1, pt, 0) := heq
    unfold log_Log_finish.j1
    simp only [onPtr_mk, hG.c0, elP_some]
    unfold finN
    simp only [heq', if_true]
    refine nvm_Memory_Set.g hT.l.m (by unfold isU; omega) (Prod.eta _).symm ?_
    intro H3 hm3 f3
    have hs := hps.set1 (v := 0) (by unfold isU; omega)
    have hT3 : TAt H3 t x p c n sp per pt (M1.set 1 0).1 := hT.mem ⟨by rw [f3.get _ hT.l.xp hT.l.xc, hT.l.hx], by rw [f3.size]; exact hT.l.lx, hT.l.xp, hT.l.xc, hm3, hs.len, hT.l.n1, hT.l.sp16⟩ f3 (by have := hs.mv; omega)
    exact ⟨h.tn.at hT3 (f.trans (Frt.of_frm f3)), rfl⟩
end
end Go.Proofs.Ytgechnnadjonaab
