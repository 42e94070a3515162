import Derived.Test.YtgechnnadjonaabT1
set_option linter.all false
set_option linter.all false
namespace Go.Proofs.Ytgechnnadjonaab
open Go Go.Abs

section
variable {H : AH}

/-! ### the gap -/

theorem tmod_nat (a b : Nat) : Int.tmod (a : Int) (b : Int) = ((a % b : Nat) : Int) := by
  rw [Int.tmod_eq_emod_of_nonneg (by omega)]; rfl
theorem tdiv_nat (a b : Nat) : Int.tdiv (a : Int) (b : Int) = ((a / b : Nat) : Int) := by
  rw [Int.tdiv_eq_ediv_of_nonneg (by omega)]; rfl

variable {n mv line : Nat}
theorem gap_may.s {k : Bool → AH → Prop} (hn : 1 ≤ n ∧ n ≤ 1000) (h : k true H) : gap_may n mv H k := by
  refine gap_may.link ?_
  unfold gap_may.b
  rw [show decide ((n : Int) ≥ 1) = true from by simp; omega, bcase_true, show decide ((n : Int) ≤ 100000) = true from by simp; omega, bcase_true, show decide ((mv : Int) ≥ 0) = true from by simp]
  exact h
theorem gap_Gap.s {k : Int → AH → Prop} (hn : 1 ≤ n ∧ n ≤ 1000) (h : k (gapN n mv : Nat) H) : gap_Gap n mv H k := by
  refine gap_Gap.link ?_
  unfold gap_Gap.b
  refine gap_may.s hn ?_
  rw [Bool.not_true, bcase_false, wrap_i64 (n := (n : Int) + 1) (by omega) (by omega)]
  refine ⟨by omega, ?_⟩
  have e : (n : Int) + 1 = ((n + 1 : Nat) : Int) := by omega
  have hm := Nat.mod_lt mv (show n + 1 > 0 by omega)
  rw [e, tmod_nat]
  have e2 : IntKind.wrap .i64 ((n : Int) - ((mv % (n + 1) : Nat) : Int)) = ((gapN n mv : Nat) : Int) := by
    unfold gapN
    generalize mv % (n + 1) = r at *
    rw [wrap_i64 (by omega) (by omega)]; omega
  rw [e2]
  exact h
theorem gap_turned.s {k : Int → AH → Prop} (hn : 1 ≤ n ∧ n ≤ 1000) (hmv : mv ≤ 4611686018427387904) (h : k (mv / (n + 1) % n : Nat) H) : gap_turned n mv H k := by
  refine gap_turned.link ?_
  unfold gap_turned.b
  rw [wrap_i64 (n := (n : Int) + 1) (by omega) (by omega)]
  refine ⟨by omega, by omega, ?_⟩
  have e : (n : Int) + 1 = ((n + 1 : Nat) : Int) := by omega
  have hd := Nat.div_le_self mv (n + 1)
  rw [e, tdiv_nat]
  generalize mv / (n + 1) = r at *
  rw [wrap_i64 (n := (r : Int)) (by omega) (by omega), tmod_nat]
  exact h
theorem gap_Slot.s {k : Int → AH → Prop} (hn : 1 ≤ n ∧ n ≤ 1000) (hmv : mv ≤ 4611686018427387904) (hl : line < n) (h : k (slotN n mv line : Nat) H) : gap_Slot n mv line H k := by
  refine gap_Slot.link ?_
  unfold gap_Slot.b gap_Slot.j1
  refine gap_may.s hn ?_
  rw [Bool.not_true, bcase_false, show decide ((line : Int) < 0) = false from by simp, bcase_false, show decide ((line : Int) ≥ (n : Int)) = false from by simp; omega, bcase_false]
  refine gap_turned.s hn hmv ?_
  refine ⟨by omega, ?_⟩
  refine gap_Gap.s hn ?_
  have hb : Int.tmod (IntKind.wrap .i64 ((line : Int) + ((mv / (n + 1) % n : Nat) : Int))) (n : Int) = ((baseN n mv line : Nat) : Int) := by
    unfold baseN
    have ht := Nat.mod_lt (mv / (n + 1)) (show n > 0 by omega)
    generalize mv / (n + 1) % n = t at *
    rw [wrap_i64 (by omega) (by omega)]
    have : (line : Int) + (t : Int) = ((line + t : Nat) : Int) := by omega
    rw [this, tmod_nat]
  have hlt := baseN_lt (mv := mv) (line := line) hn.1
  rw [hb]
  unfold slotN at h
  simp only [bcase_eq, decide_eq_true_eq]
  by_cases hc : gapN n mv ≤ baseN n mv line
  · rw [if_pos hc] at h
    rw [if_pos (by omega), wrap_i64 (by omega) (by omega)]
    exact_mod_cast h
  · rw [if_neg hc] at h
    rw [if_neg (by omega)]
    exact h
theorem gap_Move.s {k : Int → Int → AH → Prop} (hn : 1 ≤ n ∧ n ≤ 1000) (h : k (fromN n mv : Nat) (gapN n mv : Nat) H) : gap_Move n mv H k := by
  refine gap_Move.link ?_
  unfold gap_Move.b
  refine gap_Gap.s hn ?_
  have hg := gapN_le (n := n) (mv := mv)
  unfold fromN at h
  simp only [bcase_eq, beq_iff_eq]
  rw [if_neg (by omega)]
  by_cases h0 : gapN n mv = 0
  · rw [if_pos h0] at h
    rw [if_pos (by omega)]
    rw [h0] at h
    exact h
  · rw [if_neg h0] at h
    rw [if_neg (by omega), wrap_i64 (by omega) (by omega)]
    have : ((gapN n mv : Nat) : Int) - 1 = ((gapN n mv - 1 : Nat) : Int) := by omega
    rw [this]
    exact h
end

/-! ### a turn -/

def tobj (p x n period puts : Nat) : AObj := ⟨[.pointer (some ⟨p, 0, none⟩), .pointer (some ⟨x, 0, none⟩), .int .i64 n, .int .i64 period, .int .i64 puts], .rw, 0⟩

structure TAt (H : AH) (t x p c n sp period puts : Nat) (M : Mem) : Prop where
  ht : H.get t = tobj p x n period puts
  lt : t < H.size
  tp : t ≠ p
  tc : t ≠ c
  tx : t ≠ x
  l : LAt H x p c (n + 1) sp M
  n1 : 1 ≤ n
  per : 1 ≤ period ∧ period ≤ 1000
  pl : puts < period
  mv : M.mv ≤ 4611686018427387904

/-- All old blocks are as they were but for these three. -/
structure Frt (H H' : AH) (t p c : Nat) : Prop where
  size : H.size ≤ H'.size
  get : ∀ b, b < H.size → b ≠ t → b ≠ p → b ≠ c → H'.get b = H.get b
theorem Frt.refl {H : AH} {t p c : Nat} : Frt H H t p c := ⟨Nat.le_refl _, fun _ _ _ _ _ => rfl⟩
theorem Frt.trans {H H' H2 : AH} {t p c : Nat} (h : Frt H H' t p c) (h' : Frt H' H2 t p c) : Frt H H2 t p c :=
  ⟨Nat.le_trans h.size h'.size, fun b hb h1 h2 h3 => (h'.get b (by have := h.size; omega) h1 h2 h3).trans (h.get b hb h1 h2 h3)⟩
theorem Frt.of_keeps {H H' : AH} {t p c : Nat} (h : Keeps H H') : Frt H H' t p c := ⟨h.1, fun b hb _ _ _ => h.2 b hb⟩
theorem Frt.of_frm {H H' : AH} {t p c : Nat} (h : Frm H H' p c) : Frt H H' t p c := ⟨by rw [h.size]; exact Nat.le_refl _, fun b _ _ h2 h3 => h.get b h2 h3⟩
theorem Frt.keeps {H0 H H' : AH} {t p c : Nat} (h : Frt H H' t p c) (hk : Keeps H0 H) (ht : H0.size ≤ t) (hp : H0.size ≤ p) (hc : H0.size ≤ c) : Keeps H0 H' :=
  ⟨Nat.le_trans hk.1 h.size, fun b hb => by rw [h.get b (by have := hk.1; omega) (by omega) (by omega) (by omega)]; exact hk.2 b hb⟩

section
variable {H H' : AH} {t x p c n sp period puts puts' : Nat} {M M' : Mem} {line : Int}

theorem TAt.cell (h : TAt H t x p c n sp period puts M) (i : Nat) : AH.cell? H (Addr.add ⟨t, 0, none⟩ i) = (tobj p x n period puts).cells[i]? := by
  rw [addr_add, Nat.zero_add]
  simp only [AH.cell?, h.ht, Option.isSome_none, Bool.false_eq_true, if_false]
  rw [if_neg (by simp [tobj])]
theorem TAt.c0 (h : TAt H t x p c n sp period puts M) : AH.cell? H (Addr.add ⟨t, 0, none⟩ 0) = some (.pointer (some ⟨p, 0, none⟩)) := h.cell 0
theorem TAt.c1 (h : TAt H t x p c n sp period puts M) : AH.cell? H (Addr.add ⟨t, 0, none⟩ 1) = some (.pointer (some ⟨x, 0, none⟩)) := h.cell 1
theorem TAt.c2 (h : TAt H t x p c n sp period puts M) : AH.cell? H (Addr.add ⟨t, 0, none⟩ 2) = some (.int .i64 n) := h.cell 2
theorem TAt.c3 (h : TAt H t x p c n sp period puts M) : AH.cell? H (Addr.add ⟨t, 0, none⟩ 3) = some (.int .i64 period) := h.cell 3
theorem TAt.c4 (h : TAt H t x p c n sp period puts M) : AH.cell? H (Addr.add ⟨t, 0, none⟩ 4) = some (.int .i64 puts) := h.cell 4
theorem TAt.n200 (h : TAt H t x p c n sp period puts M) : n + 1 + sp ≤ 200 := h.l.n200
theorem TAt.keeps (h : TAt H t x p c n sp period puts M) (hk : Keeps H H') : TAt H' t x p c n sp period puts M :=
  ⟨by rw [hk.2 t h.lt, h.ht], by have := hk.1; have := h.lt; omega, h.tp, h.tc, h.tx, h.l.keeps hk, h.n1, h.per, h.pl, h.mv⟩
theorem TAt.push (h : TAt H t x p c n sp period puts M) (o : AObj) : TAt (H.push o) t x p c n sp period puts M := h.keeps ((Keeps.refl H).push o)
theorem TAt.mem (h : TAt H t x p c n sp period puts M) (hl : LAt H' x p c (n + 1) sp M') (f : Frm H H' p c) (hmv : M'.mv ≤ 4611686018427387904) : TAt H' t x p c n sp period puts M' :=
  ⟨by rw [f.get t h.tp h.tc, h.ht], by rw [f.size]; exact h.lt, h.tp, h.tc, h.tx, hl, h.n1, h.per, h.pl, hmv⟩

def setT (H : AH) (t x p c n period puts : Nat) (M : Mem) : AH := (setM H p c M).upd t (tobj p x n period puts)

theorem TAt.at (h : TAt H t x p c n sp period puts M) (h' : TAt H' t x p c n sp period puts' M') (f : Frt H H' t p c) : At H H' (setT H t x p c n period puts' M') := by
  have hlt := h.lt
  have hlx := h.l.lx
  have hlp := h.l.m.lp
  have hlc := h.l.m.lc
  have hget : ∀ b, (setT H t x p c n period puts' M').get b = if b = t then tobj p x n period puts' else if b = p then memObj c M' else if b = c then celObj M' else H.get b := fun _ => rfl
  have hmem := MemAt.at (M' := M') (H' := setM H p c M') h.l.m (fun _ _ => rfl)
  refine ⟨rfl, fun b hb => ?_, fun b hb => ?_, fun b hb => ?_⟩
  · rw [hget]
    split
    · rename_i e; rw [e, h'.ht]
    · split
      · rename_i e; rw [e, h'.l.m.hp]
      · split
        · rename_i e; rw [e, h'.l.m.hc]
        · exact f.get b hb ‹_› ‹_› ‹_›
  · rw [hget, if_neg (by omega), if_neg (by omega), if_neg (by omega)]
  · by_cases hbt : b = t
    · right
      rw [hget, if_pos hbt]
      simp [tobj, lowV, hlp, hlx, flatC]
    · have e : (setT H t x p c n period puts' M').get b = (setM H p c M').get b := by rw [hget, if_neg hbt, setM_get]
      rw [e]
      exact hmem.low b hb

theorem TAt.setT (h : TAt H t x p c n sp period puts M) (hpl : puts' < period) (hok : M'.ok) (hl : M'.cs.length = M.cs.length) (hmv : M'.mv ≤ 4611686018427387904) : TAt (setT H t x p c n period puts' M') t x p c n sp period puts' M' := by
  have hget : ∀ b, (Go.Proofs.Ytgechnnadjonaab.setT H t x p c n period puts' M').get b = if b = t then tobj p x n period puts' else (setM H p c M').get b := fun _ => rfl
  have hL := h.l.set hok hl
  refine ⟨by rw [hget, if_pos rfl], h.lt, h.tp, h.tc, h.tx, ⟨by rw [hget, if_neg (Ne.symm h.tx), hL.hx], hL.lx, hL.xp, hL.xc, hL.m.keep (Nat.le_refl _) (by rw [hget, if_neg (Ne.symm h.tp)]) (by rw [hget, if_neg (Ne.symm h.tc)]), hL.len, hL.n1, hL.sp16⟩, h.n1, h.per, hpl, hmv⟩
theorem setT_frt : Frt H (setT H t x p c n period puts M) t p c := ⟨Nat.le_refl _, fun b _ h1 h2 h3 => by
  show (if b = t then _ else (setM H p c M).get b) = _
  rw [if_neg h1, setM_other h2 h3]⟩

theorem turn_Moves.s {k : Int → AH → Prop} (h : TAt H t x p c n sp period puts M) (hd : M.down = false) (hk : k (M.mv : Nat) H) : turn_Turn_Moves (some ⟨t, 0, none⟩) H k := by
  refine turn_Turn_Moves.link ?_
  unfold turn_Turn_Moves.b
  simp only [Option.isNone_some, bcase_eq, Bool.false_eq_true, if_false, onPtr_mk, h.c0, elP_some]
  refine nvm_Memory_Reg.s h.l.m ?_
  have h0 := reg0_nonneg h.l.m.ok
  have hmv := h.mv
  have e : M.reg 0 = ((M.mv : Int), 0) := by
    unfold Mem.reg
    rw [if_pos ⟨by omega, by omega⟩, if_neg (by simp [hd])]
    unfold Mem.mv
    refine Prod.ext ?_ rfl
    show M.regs.getD 0 0 = _
    omega
  rw [e, wrap_i64 (n := (M.mv : Int)) (by omega) (by omega)]
  exact hk
theorem turn_Moves.d {k : Int → AH → Prop} (h : TAt H t x p c n sp period puts M) (hd : M.down = true) (hk : k 0 H) : turn_Turn_Moves (some ⟨t, 0, none⟩) H k := by
  refine turn_Turn_Moves.link ?_
  unfold turn_Turn_Moves.b
  simp only [Option.isNone_some, bcase_eq, Bool.false_eq_true, if_false, onPtr_mk, h.c0, elP_some]
  refine nvm_Memory_Reg.s h.l.m ?_
  have e : M.reg 0 = (0, 2) := by
    unfold Mem.reg
    rw [if_pos ⟨by omega, by omega⟩, if_pos hd]
  rw [e]
  exact hk
theorem turn_Moves.nil {k : Int → AH → Prop} (hk : k 0 H) : turn_Turn_Moves none H k := by
  refine turn_Turn_Moves.link ?_
  unfold turn_Turn_Moves.b
  simp only [Option.isNone_none, bcase_eq, if_true]
  exact hk

def tmay (n : Nat) (M : Mem) (line : Int) : Int := if 0 ≤ line ∧ line < n then if M.down then 2 else 0 else 1
theorem turn_may.s {k : Int → AH → Prop} (h : TAt H t x p c n sp period puts M) (hk : k (tmay n M line) H) : turn_Turn_may (some ⟨t, 0, none⟩) line H k := by
  refine turn_Turn_may.link ?_
  unfold turn_Turn_may.b turn_Turn_may.j1
  unfold tmay at hk
  simp only [Option.isNone_some, bcase_eq, Bool.false_eq_true, if_false, if_true, onPtr_mk, h.c0, h.c2, elP_some, elI_some, decide_eq_true_eq]
  by_cases h1 : line < 0
  · rw [if_pos h1]
    rw [if_neg (by omega)] at hk
    exact hk
  rw [if_neg h1]
  by_cases h2 : line ≥ (n : Int)
  · rw [if_pos h2]
    rw [if_neg (by omega)] at hk
    exact hk
  rw [if_neg h2]
  rw [if_pos ⟨by omega, by omega⟩] at hk
  refine nvm_Memory_Down.s h.l.m ?_
  by_cases hd : M.down = true
  · rw [if_pos hd] at hk ⊢; exact hk
  · rw [if_neg hd] at hk ⊢; exact hk
theorem turn_may.nil {k : Int → AH → Prop} (hk : k 1 H) : turn_Turn_may none line H k := by
  refine turn_Turn_may.link ?_
  unfold turn_Turn_may.b turn_Turn_may.j1
  simp only [Option.isNone_none, bcase_eq, if_true]
  exact hk

theorem turn_Lines.s {k : Int → AH → Prop} (h : TAt H t x p c n sp period puts M) (hk : k n H) : turn_Turn_Lines (some ⟨t, 0, none⟩) H k := by
  refine turn_Turn_Lines.link ?_
  unfold turn_Turn_Lines.b
  simp only [Option.isNone_some, bcase_eq, Bool.false_eq_true, if_false, onPtr_mk, h.c2, elI_some]
  exact hk
theorem turn_Lines.nil {k : Int → AH → Prop} (hk : k 0 H) : turn_Turn_Lines none H k := by
  refine turn_Turn_Lines.link ?_
  unfold turn_Turn_Lines.b
  simp only [Option.isNone_none, bcase_eq, if_true]
  exact hk
theorem fin_line {H1 : AH} {l : List Int} {Q : List Value → AH → Prop} (hk : Keeps (H.push ⟨lineV (List.replicate 8 0), .rw, 0⟩) H1) (hl : isLine l) (hQ : ∀ H', Keeps H H' → Q (lineV l) H') :
    ((lineV l).length = 8 ∧ List.all (lineV l) cellOK = true) ∧ stC H1 ⟨H.size, 0, none⟩ (lineV l) fun Hs => ldA Hs ⟨H.size, 0, none⟩ 8 fun r0 => Q r0 Hs := by
  have hg : H1.get H.size = ⟨lineV (List.replicate 8 0), .rw, 0⟩ := by rw [hk.2 _ (by simp [push_size]), push_get, if_pos rfl]
  refine ⟨⟨lineV_len hl.1, lineV_ok _⟩, stC_to ⟨rfl, by rw [hg], by rw [hg, lineV_len hl.1]; simp only [lineV_len (l := List.replicate 8 0) rfl]; omega⟩ (lineV_put rfl hl.1 hg) ?_⟩
  have hrow : AH.row? (H1.upd H.size ⟨lineV l, .rw, 0⟩) ⟨H.size, 0, none⟩ 8 = some (lineV l) := by
    simp only [AH.row?, upd_get, if_true, Option.isSome_none, Bool.false_eq_true, if_false, List.drop_zero]
    rw [if_neg (by simp), List.take_of_length_le (by rw [lineV_len hl.1]; omega), if_pos ⟨by rw [lineV_len hl.1]; omega, lineV_ok _⟩]
  rw [ldA_some hrow]
  exact hQ _ ((((Keeps.refl H).push _).trans hk).upd (Nat.le_refl _) _)

theorem LAt.lineOf (h : LAt H x p c n sp M) {s : Nat} (hs : s < n) : isLine (M.view n sp s) := by
  have hp := place_lt (M := M) (n := n) (sp := sp) hs
  have hlen := h.len
  have : M.cl (M.place n s sp) ∈ M.cs := by
    unfold Mem.cl
    rw [List.getD_eq_getElem?_getD, List.getElem?_eq_getElem (by omega)]
    exact List.getElem_mem _
  exact h.m.ok.lines _ this
theorem TAt.lineOf (h : TAt H t x p c n sp period puts M) (s : Nat) : isLine (M.tview n sp s) :=
  h.l.lineOf (by have := slotN_le (mv := M.mv) (line := s) h.n1; omega)

theorem turn_Get.s {k : List Value → Int → AH → Prop} (h : TAt H t x p c n sp period puts M) (hk : k (lineV (tget n sp M line).1) (tget n sp M line).2 H) : turn_Turn_Get (some ⟨t, 0, none⟩) line H k := by
  refine canon2 (κ := .agg) (μ := .int .i64) (by simp) (by simp) (lineV_flat _) rfl (turn_Turn_Get.link ?_) hk
  unfold turn_Turn_Get.b
  rw [newC_eq, zeroV]
  have hT := h.push ⟨lineV (List.replicate 8 0), .rw, 0⟩
  simp only [bcase_eq]
  refine turn_may.s hT ?_
  unfold tmay tget
  by_cases hs : 0 ≤ line ∧ line < n
  · rw [if_pos hs, if_pos hs]
    by_cases hd : M.down = true
    · rw [if_pos hd, if_pos hd, if_pos (by simp)]
      exact fin_line (Q := fun r H' => At H H' H ∧ r = _ ∧ _) (Keeps.refl _) zero_line fun H' hk => ⟨At.of_keeps hk, rfl, rfl⟩
    · have hd' : M.down = false := by simpa using hd
      obtain ⟨ln, rfl⟩ := Int.eq_ofNat_of_zero_le hs.1
      rw [if_neg hd, if_neg hd, if_neg (by simp)]
      simp only [onPtr_mk, hT.c1, hT.c2, elP_some, elI_some]
      refine turn_Moves.s hT hd' ⟨hT.c2, hT.c1, ?_⟩
      have hn200 := h.n200
      refine gap_Slot.s ⟨h.n1, by omega⟩ h.mv (by omega) ⟨hT.c1, ?_⟩
      refine lines_Get.s hT.l ?_
      have hsl := slotN_le (mv := M.mv) (line := ln) h.n1
      have hg : lget (n + 1) sp M ((slotN n M.mv ln : Nat) : Int) = (M.tview n sp ln, 0) := by
        unfold lget; rw [if_pos ⟨by omega, by omega⟩, if_neg hd]; rfl
      rw [hg, Int.toNat_natCast]
      exact fin_line (Q := fun r H' => At H H' H ∧ r = _ ∧ _) (Keeps.refl _) (h.lineOf ln) fun H' hk => ⟨At.of_keeps hk, rfl, rfl⟩
  · rw [if_neg hs, if_neg hs, if_pos (by simp)]
    exact fin_line (Q := fun r H' => At H H' H ∧ r = _ ∧ _) (Keeps.refl _) zero_line fun H' hk => ⟨At.of_keeps hk, rfl, rfl⟩
theorem turn_Get.nil {k : List Value → Int → AH → Prop} (hk : k (lineV (List.replicate 8 0)) 1 H) : turn_Turn_Get none line H k := by
  refine canon2 (κ := .agg) (μ := .int .i64) (by simp) (by simp) (lineV_flat _) rfl (turn_Turn_Get.link ?_) hk
  unfold turn_Turn_Get.b
  rw [newC_eq, zeroV]
  simp only [bcase_eq]
  refine turn_may.nil ?_
  rw [if_pos (by simp)]
  exact fin_line (Q := fun r H' => At H H' H ∧ r = _ ∧ _) (Keeps.refl _) zero_line fun H' hk => ⟨At.of_keeps hk, rfl, rfl⟩

theorem turn_move.s {k : Int → AH → Prop} (h : TAt H t x p c n sp period puts M) (hd : M.down = false) (hk : k (tmove n sp M).2 (setM H p c (tmove n sp M).1)) : turn_Turn_move (some ⟨t, 0, none⟩) H k := by
  have hn200 := h.n200
  have hg := gapN_le (n := n) (mv := M.mv)
  have hf := fromN_le (n := n) (mv := M.mv)
  refine canon1 (κ := .int .i64) (by simp) rfl (turn_Turn_move.link ?_) hk
  unfold turn_Turn_move.b
  simp only [bcase_eq]
  refine turn_Moves.s h hd ?_
  rw [onPtr_mk, h.c2, elI_some]
  refine gap_Move.s ⟨h.n1, by omega⟩ ?_
  rw [onPtr_mk, h.c1, elP_some]
  refine lines_Get.s h.l ?_
  have hg' : lget (n + 1) sp M ((fromN n M.mv : Nat) : Int) = (M.view (n + 1) sp (fromN n M.mv), 0) := by
    unfold lget; rw [if_pos ⟨by omega, by omega⟩, if_neg (by simp [hd])]; rfl
  have hl := h.l.lineOf (s := fromN n M.mv) (by omega)
  rw [hg', zeroV]
  refine new_line hl ?_
  rw [if_neg (by simp)]
  have hT := h.push ⟨lineV (M.view (n + 1) sp (fromN n M.mv)), .rw, 0⟩
  rw [onPtr_mk, hT.c1, elP_some, ldA_some (line_new hl)]
  have fin : ∀ {M' : Mem} {H' : AH}, MemAt H' p c M' → Frm (H.push ⟨lineV (M.view (n + 1) sp (fromN n M.mv)), .rw, 0⟩) H' p c → At H H' (setM H p c M') := by
    intro M' H' hm f
    refine h.l.m.at fun b hb => ?_
    rw [setM_get]
    split
    · rename_i e; rw [e, hm.hp]
    · split
      · rename_i e; rw [e, hm.hc]
      · rw [f.get b ‹_› ‹_›, push_get_ne (by omega)]
  refine lines_Put.g hT.l hl (Prod.eta _).symm ?_
  intro H2 hL2 f2
  unfold tmove
  simp only
  have hmv := h.mv
  by_cases he : (lput (n + 1) sp M ((gapN n M.mv : Nat) : Int) (M.view (n + 1) sp (fromN n M.mv))).2 = 0
  · rw [if_pos he, if_neg (by simp [he])]
    have hT2 : TAt H2 t x p c n sp period puts (lput (n + 1) sp M ((gapN n M.mv : Nat) : Int) (M.view (n + 1) sp (fromN n M.mv))).1 → True := fun _ => trivial
    have c0 : AH.cell? H2 (Addr.add ⟨t, 0, none⟩ 0) = some (.pointer (some ⟨p, 0, none⟩)) := by
      rw [addr_add, f2.cell h.tp h.tc, ← addr_add]; exact hT.c0
    rw [onPtr_mk, c0, elP_some, wrap_u64 (n := (M.mv : Int)) (by omega) (by omega), wrap_u64 (n := (M.mv : Int) + 1) (by omega) (by omega)]
    refine nvm_Memory_Set.g hL2.m (by unfold isU; omega) (Prod.eta _).symm ?_
    intro H3 hm3 f3
    exact ⟨fin hm3 (f2.trans f3), rfl⟩
  · rw [if_neg he, if_pos (by simpa using he)]
    exact ⟨fin hL2.m f2, rfl⟩
end
end Go.Proofs.Ytgechnnadjonaab
