import Derived.Test.YtgechnnadjonaabT2
set_option linter.all false
set_option linter.all false
namespace Go.Proofs.Ytgechnnadjonaab
open Go Go.Abs

section
variable {H H' : AH} {t x p c n sp period puts puts' : Nat} {M M' : Mem} {line : Int}

/-- A store into the turn's own struct. -/
theorem TAt.putsTo (h : TAt H t x p c n sp period puts M) (hp : puts' < period) : AH.canPut H (Addr.add ⟨t, 0, none⟩ 4) 1 ∧ TAt (AH.put H (Addr.add ⟨t, 0, none⟩ 4) [.int .i64 (puts' : Int)]) t x p c n sp period puts' M ∧ Frt H (AH.put H (Addr.add ⟨t, 0, none⟩ 4) [.int .i64 (puts' : Int)]) t p c ∧ (∀ b, b ≠ t → (AH.put H (Addr.add ⟨t, 0, none⟩ 4) [.int .i64 (puts' : Int)]).get b = H.get b) := by
  rw [addr_add, Nat.zero_add]
  have other : ∀ b, b ≠ t → (AH.put H ⟨t, 4, none⟩ [.int .i64 (puts' : Int)]).get b = H.get b := fun b hb => by simp only [AH.put, upd_get]; rw [if_neg hb]
  refine ⟨⟨rfl, congrArg AObj.md h.ht, by rw [h.ht]; simp [tobj]⟩, ⟨?_, h.lt, h.tp, h.tc, h.tx, ⟨by rw [other x (Ne.symm h.tx), h.l.hx], h.l.lx, h.l.xp, h.l.xc, h.l.m.keep (Nat.le_refl _) (other p (Ne.symm h.tp)) (other c (Ne.symm h.tc)), h.l.len, h.l.n1, h.l.sp16⟩, h.n1, h.per, hp, h.mv⟩, ⟨Nat.le_refl _, fun b _ h1 _ _ => other b h1⟩, other⟩
  simp only [AH.put, upd_get, if_true, h.ht]
  rfl

theorem tput_ok {k : Nat} {d : List Int} (hd : isLine d) (h : LV M (n + 1) sp k) (hn : 1 ≤ n) (hok : M.ok) (hmv : M.mv ≤ 4611686018427387904) : (tput n sp period M puts line d).1.ok := by
  have hl := h.len
  have hok2 := hok.len
  unfold tput
  split
  · split
    · exact hok
    · split
      · have h1 := tmove_ok h hok hmv
        simp only
        split
        · exact lput_ok hd (by omega) h1
        · exact h1
      · exact lput_ok hd (by omega) hok
  · exact hok
theorem tput_len {d : List Int} : (tput n sp period M puts line d).1.cs.length = M.cs.length := by
  unfold tput
  split
  · split
    · rfl
    · split
      · simp only
        split
        · rw [lput_len, tmove_len]
        · exact tmove_len
      · exact lput_len
  · rfl

/-- A PUT, with the next heap's name alone. -/
theorem turn_Put.s {d : List Int} {k : Nat} {K : Int → AH → Prop} (h : TAt H t x p c n sp period puts M) (hlv : LV M (n + 1) sp k) (hmv : M.mv < 4611686018427387904) (hd : isLine d)
    (hk : ∀ H', TAt H' t x p c n sp period (tput n sp period M puts line d).2.1 (tput n sp period M puts line d).1 → Frt H H' t p c → H'.size = H.size → K (tput n sp period M puts line d).2.2 H') : turn_Turn_Put (some ⟨t, 0, none⟩) line (lineV d) H K := by
  have hn200 := h.n200
  have hper := h.per
  have hpl := h.pl
  have hok := h.l.m.ok
  have lt := h.lt
  have lp := h.l.m.lp
  have lc := h.l.m.lc
  have lx := h.l.lx
  have hok2 := tput_ok (period := period) (puts := puts) (line := line) hd hlv h.n1 hok h.mv
  have hlen2 := tput_len (n := n) (sp := sp) (period := period) (M := M) (puts := puts) (line := line) (d := d)
  have hmain : (tput n sp period M puts line d).2.1 < period ∧ (tput n sp period M puts line d).1.mv ≤ 4611686018427387904 := by
    by_cases hin : 0 ≤ line ∧ line < n
    · by_cases hdn : M.down = true
      · unfold tput; rw [if_pos hin, if_pos hdn]; exact ⟨hpl, h.mv⟩
      · obtain ⟨ln, rfl⟩ := Int.eq_ofNat_of_zero_le hin.1
        obtain ⟨h1, h2⟩ := tput_any (line := ln) (period := period) (puts := puts) hlv h.n1 hok h.mv (by simpa using hdn) (by omega) hd.1
        refine ⟨by rw [h2]; split <;> omega, ?_⟩
        have := h1.mv.2.1
        split at this <;> omega
    · unfold tput; rw [if_neg hin]; exact ⟨hpl, h.mv⟩
  refine canon1 (κ := .int .i64) (v := (tput n sp period M puts line d).2.2) (H2 := setT H t x p c n period (tput n sp period M puts line d).2.1 (tput n sp period M puts line d).1) (by simp) rfl (turn_Turn_Put.link ?_) (hk _ (h.setT hmain.1 hok2 hlen2 hmain.2) setT_frt rfl)
  clear hk hok2 hlen2
  have hmv2 := hmain.2
  unfold turn_Turn_Put.b
  rw [newC_eq]
  simp only [bcase_eq, beq_iff_eq]
  have hT := h.push ⟨lineV d, .rw, 0⟩
  have f0 : Frt H (H.push ⟨lineV d, .rw, 0⟩) t p c := Frt.of_keeps ((Keeps.refl H).push _)
  have g0 : (H.push ⟨lineV d, .rw, 0⟩).get H.size = ⟨lineV d, .rw, 0⟩ := by rw [push_get, if_pos rfl]
  have s0 : H.size < (H.push ⟨lineV d, .rw, 0⟩).size := by simp [push_size]
  generalize H.push ⟨lineV d, .rw, 0⟩ = H1 at *
  refine turn_may.s hT ?_
  unfold tmay
  by_cases hin : 0 ≤ line ∧ line < n
  rotate_left 1
  · unfold tput
    rw [if_neg hin, if_neg hin, if_pos (by simp)]
    exact ⟨h.at hT f0, rfl⟩
  rw [if_pos hin]
  by_cases hdn : M.down = true
  · unfold tput
    rw [if_pos hin, if_pos hdn, if_pos hdn, if_pos (by simp)]
    exact ⟨h.at hT f0, rfl⟩
  rw [if_neg hdn, if_neg (by simp)]
  obtain ⟨ln, rfl⟩ := Int.eq_ofNat_of_zero_le hin.1
  have hln : ln < n := by omega
  have hup : M.down = false := by simpa using hdn
  have rowd : ∀ H2 : AH, H2.get H.size = ⟨lineV d, .rw, 0⟩ → AH.row? H2 ⟨H.size, 0, none⟩ 8 = some (lineV d) := by
    intro H2 hg
    simp only [AH.row?, hg, Option.isSome_none, Bool.false_eq_true, if_false, List.drop_zero]
    rw [if_neg (by simp), List.take_of_length_le (by rw [lineV_len hd.1]; omega), if_pos ⟨by rw [lineV_len hd.1]; omega, lineV_ok _⟩]
  -- the line is put where it is
  have tail : ∀ (H2 : AH) (M2 : Mem) (puts2 : Nat), TAt H2 t x p c n sp period puts2 M2 → Frt H H2 t p c → H2.get H.size = ⟨lineV d, .rw, 0⟩ → M2.down = false → (lput (n + 1) sp M2 (slotN n M2.mv ln : Nat) d).1.mv ≤ 4611686018427387904 →
      ∀ Q : Int → AH → Prop, (∀ H3, TAt H3 t x p c n sp period puts2 (lput (n + 1) sp M2 (slotN n M2.mv ln : Nat) d).1 → Frt H H3 t p c → Q (lput (n + 1) sp M2 (slotN n M2.mv ln : Nat) d).2 H3) → turn_Turn_Put.j1 (some ⟨t, 0, none⟩) (ln : Int) Q H.size H2 := by
    intro H2 M2 puts2 hT2 f2 g2 hd2 hm2 Q hQ
    unfold turn_Turn_Put.j1
    simp only [onPtr_mk, hT2.c1, hT2.c2, elP_some, elI_some]
    rw [ldA_some (rowd _ g2)]
    refine turn_Moves.s hT2 hd2 ⟨rowd _ g2, hT2.c2, hT2.c1, ?_⟩
    refine gap_Slot.s ⟨h.n1, by omega⟩ hT2.mv hln ⟨rowd _ g2, hT2.c1, ?_⟩
    refine lines_Put.g hT2.l hd (Prod.eta _).symm ?_
    intro H3 hL3 f3
    exact hQ H3 (hT2.mem hL3 f3 hm2) (f2.trans (Frt.of_frm f3))
  rw [onPtr_mk, hT.c4, elI_some, onPtr_mk, wrap_i64 (n := (puts : Int) + 1) (by omega) (by omega)]
  unfold tput at hmv2 ⊢
  rw [if_pos (show 0 ≤ (ln : Int) ∧ (ln : Int) < (n : Int) from ⟨by omega, by omega⟩), if_neg hdn, Int.toNat_natCast] at hmv2 ⊢
  -- the count is stored, before it is looked at
  have other1 : ∀ (v : Int) (b : Nat), b ≠ t → (AH.put H1 (Addr.add ⟨t, 0, none⟩ 4) [.int .i64 v]).get b = H1.get b := fun v b hb => by rw [addr_add]; simp only [AH.put, upd_get]; rw [if_neg hb]
  have hobj : (AH.put H1 (Addr.add ⟨t, 0, none⟩ 4) [.int .i64 ((puts : Int) + 1)]).get t = tobj p x n period (puts + 1) := by
    rw [addr_add]; simp only [AH.put, upd_get, if_true, hT.ht]; rfl
  refine stC_to (hT.putsTo (puts' := puts) hpl).1 rfl ?_
  generalize hH2 : AH.put H1 (Addr.add ⟨t, 0, none⟩ 4) [.int .i64 ((puts : Int) + 1)] = H2 at *
  have o2 : ∀ b, b ≠ t → H2.get b = H1.get b := fun b hb => by rw [← hH2]; exact other1 _ b hb
  have s2 : H2.size = H1.size := by rw [← hH2]; rfl
  have c4 : AH.cell? H2 (Addr.add ⟨t, 0, none⟩ 4) = some (.int .i64 ((puts : Int) + 1)) := by
    rw [addr_add]
    simp only [AH.cell?, hobj, Option.isSome_none, Bool.false_eq_true, if_false]
    rw [if_neg (by simp [tobj])]
    simp [tobj]
  have c3 : AH.cell? H2 (Addr.add ⟨t, 0, none⟩ 3) = some (.int .i64 (period : Int)) := by
    rw [addr_add]
    simp only [AH.cell?, hobj, Option.isSome_none, Bool.false_eq_true, if_false]
    rw [if_neg (by simp [tobj])]
    rfl
  have hL2 : LAt H2 x p c (n + 1) sp M := ⟨by rw [o2 x (Ne.symm h.tx), hT.l.hx], by rw [s2]; exact hT.l.lx, hT.l.xp, hT.l.xc, hT.l.m.keep (by rw [s2]; exact Nat.le_refl _) (o2 p (Ne.symm h.tp)) (o2 c (Ne.symm h.tc)), hT.l.len, hT.l.n1, hT.l.sp16⟩
  have f2 : Frt H H2 t p c := f0.trans ⟨by rw [s2]; exact Nat.le_refl _, fun b _ h1 _ _ => o2 b h1⟩
  have g2 : H2.get H.size = ⟨lineV d, .rw, 0⟩ := by rw [o2 _ (by omega), g0]
  rw [onPtr_mk, c4, elI_some, onPtr_mk, c3, elI_some]
  by_cases hp : puts + 1 = period
  · rw [if_pos hp] at hmv2 ⊢
    rw [if_pos (by omega), onPtr_mk]
    have hcan : AH.canPut H2 (Addr.add ⟨t, 0, none⟩ 4) 1 := by rw [addr_add]; exact ⟨rfl, congrArg AObj.md hobj, by rw [hobj]; simp [tobj]⟩
    have hput : AH.put H2 (Addr.add ⟨t, 0, none⟩ 4) [.int .i64 0] = H2.upd t (tobj p x n period 0) := by
      rw [addr_add]; simp only [AH.put, hobj]; rfl
    refine stC_to hcan hput ?_
    have o3 : ∀ b, b ≠ t → (H2.upd t (tobj p x n period 0)).get b = H2.get b := fun b hb => by rw [upd_get, if_neg hb]
    have hT3 : TAt (H2.upd t (tobj p x n period 0)) t x p c n sp period 0 M :=
      ⟨by rw [upd_get, if_pos rfl], by rw [upd_size, s2]; exact hT.lt, h.tp, h.tc, h.tx, ⟨by rw [o3 x (Ne.symm h.tx), hL2.hx], hL2.lx, hL2.xp, hL2.xc, hL2.m.keep (Nat.le_refl _) (o3 p (Ne.symm h.tp)) (o3 c (Ne.symm h.tc)), hL2.len, hL2.n1, hL2.sp16⟩, h.n1, h.per, by omega, h.mv⟩
    have f3 : Frt H (H2.upd t (tobj p x n period 0)) t p c := f2.trans ⟨Nat.le_refl _, fun b _ h1 _ _ => o3 b h1⟩
    have g3 : (H2.upd t (tobj p x n period 0)).get H.size = ⟨lineV d, .rw, 0⟩ := by rw [o3 _ (by omega), g2]
    have s3 : H.size < (H2.upd t (tobj p x n period 0)).size := by rw [upd_size, s2]; exact s0
    generalize H2.upd t (tobj p x n period 0) = H3 at *
    refine turn_move.s hT3 hup ?_
    have hm1 := tmove_any (d := d) hlv h.n1 hok.regs (reg0_nonneg hok) hup hok.cut.1 (fun s hs => (lv_line_len hlv hok hs).1)
    have hokm := tmove_ok hlv hok h.mv
    have hlenm := tmove_len (n := n) (sp := sp) (M := M)
    have hmvm := hm1.mv.2.1
    have hT4 : TAt (setM H3 p c (tmove n sp M).1) t x p c n sp period 0 (tmove n sp M).1 := hT3.mem (hT3.l.set hokm hlenm) (Frm.set _ _ _ _) (by omega)
    have f4 : Frt H (setM H3 p c (tmove n sp M).1) t p c := f3.trans (Frt.of_frm (Frm.set _ _ _ _))
    have g4 : (setM H3 p c (tmove n sp M).1).get H.size = ⟨lineV d, .rw, 0⟩ := by rw [setM_other (by omega) (by omega), g3]
    generalize setM H3 p c (tmove n sp M).1 = H4 at *
    simp only at hmv2 ⊢
    by_cases he : (tmove n sp M).2 = 0
    · rw [if_pos he] at hmv2 ⊢
      rw [if_neg (by simp [he])]
      have hup4 : (tmove n sp M).1.down = false := by
        rcases hm1.res with ⟨_, a, _⟩ | ⟨a, _⟩ | ⟨a, _⟩
        · exact a
        · omega
        · omega
      refine tail H4 _ 0 hT4 f4 g4 hup4 hmv2 _ ?_
      intro H5 hT5 f5
      exact ⟨h.at hT5 f5, rfl⟩
    · rw [if_neg he] at hmv2 ⊢
      rw [if_pos (by simpa using he)]
      exact ⟨h.at hT4 f4, rfl⟩
  · rw [if_neg hp] at hmv2 ⊢
    rw [if_neg (by omega)]
    have hT3 : TAt H2 t x p c n sp period (puts + 1) M := ⟨hobj, by rw [s2]; exact hT.lt, h.tp, h.tc, h.tx, hL2, h.n1, h.per, by omega, h.mv⟩
    refine tail H2 M (puts + 1) hT3 f2 g2 hup hmv2 _ ?_
    intro H5 hT5 f5
    exact ⟨h.at hT5 f5, rfl⟩
theorem turn_Put.nil {d : List Int} {K : Int → AH → Prop} (hk : K 1 H) : turn_Turn_Put none line (lineV d) H K := by
  refine canon1 (κ := .int .i64) (by simp) rfl (turn_Turn_Put.link ?_) hk
  unfold turn_Turn_Put.b
  rw [newC_eq]
  refine turn_may.nil ?_
  simp only [bcase_eq]
  rw [if_pos (by simp)]
  exact ⟨At.of_keeps ((Keeps.refl H).push _), trivial⟩
end

section
variable {H : AH} {p c : Nat} {M : Mem} {n sp period : Int}

def GoodTurn (M : Mem) (n sp period : Int) : Prop := 1 ≤ n ∧ 1 ≤ period ∧ period ≤ 1000 ∧ 0 ≤ sp ∧ sp ≤ 16 ∧ (M.cs.length : Int) = n + 1 + sp ∧ M.down = false ∧ MayT (tblL M sp.toNat) (n + 1) ∧ M.mv ≤ 1099511627776
instance : Decidable (GoodTurn M n sp period) := by unfold GoodTurn; infer_instance

theorem turn_New.s {k : Option Addr → AH → Prop} (hm : MemAt H p c M) (hsr : isI sp) (h0 : ¬ GoodTurn M n sp period → k none H)
    (h1 : GoodTurn M n sp period → ∀ H' t x, TAt H' t x p c n.toNat sp.toNat period.toNat 0 M → Keeps H H' → H.size ≤ t → H.size ≤ x → k (some ⟨t, 0, none⟩) H') : turn_New (some ⟨p, 0, none⟩) n sp period H k := by
  have hlen := hm.ok.len
  have h00 := reg0_nonneg hm.ok
  have hreg : M.down = false → M.reg 0 = ((M.mv : Int), 0) := by
    intro hd
    unfold Mem.reg
    rw [if_pos ⟨by omega, by omega⟩, if_neg (by simp [hd])]
    unfold Mem.mv
    refine Prod.ext ?_ rfl
    show M.regs.getD 0 0 = _
    omega
  have common : ∀ {Q : Option Addr → AH → Prop}, (¬ GoodTurn M n sp period → ∀ H', Keeps H H' → Q none H') → (GoodTurn M n sp period → ∀ H' t x, TAt H' t x p c n.toNat sp.toNat period.toNat 0 M → Keeps H H' → H.size ≤ t → H.size ≤ x → Q (some ⟨t, 0, none⟩) H') →
      turn_New.b (some ⟨p, 0, none⟩) n sp period H Q := by
    intro Q q0 q1
    unfold turn_New.b turn_New.j2 turn_New.j1
    simp only [bcase_eq, decide_eq_true_eq]
    by_cases a1 : n < 1
    · rw [if_pos a1]; exact q0 (fun h => by have := h.1; omega) _ (Keeps.refl _)
    rw [if_neg a1]
    refine nvm_Memory_Lines.s hm ?_
    by_cases a2 : n > (M.cs.length : Int)
    · rw [if_pos a2]; exact q0 (fun h => by have := h.2.2.2.1; have := h.2.2.2.2.2.1; omega) _ (Keeps.refl _)
    rw [if_neg a2]
    by_cases a3 : period < 1
    · rw [if_pos a3]; exact q0 (fun h => by have := h.2.1; omega) _ (Keeps.refl _)
    rw [if_neg a3]
    by_cases a4 : period > 1000
    · rw [if_pos a4]; exact q0 (fun h => by have := h.2.2.1; omega) _ (Keeps.refl _)
    rw [if_neg a4, wrap_i64 (n := n + 1) (by omega) (by omega)]
    refine lines_New.s hm (by unfold isI; omega) hsr ?_ ?_
    · intro hb
      rw [Option.isNone_none, if_pos rfl]
      exact q0 (fun h => hb ⟨by have := h.1; omega, h.2.2.2.1, h.2.2.2.2.1, by have := h.2.2.2.2.2.1; omega, h.2.2.2.2.2.2.1, h.2.2.2.2.2.2.2.1⟩) _ (Keeps.refl _)
    · intro hg H2 hL hk _
      rw [Option.isNone_some, if_neg (by simp)]
      refine nvm_Memory_Reg.s hL.m ?_
      rw [hreg hg.2.2.2.2.1, if_neg (by simp)]
      by_cases a5 : (M.mv : Int) > 1099511627776
      · rw [if_pos a5]
        exact q0 (fun h => by have := h.2.2.2.2.2.2.2.2; omega) _ hk
      · rw [if_neg a5, newC_eq]
        have hgood : GoodTurn M n sp period := ⟨by omega, by omega, by omega, hg.2.1, hg.2.2.1, by have := hg.2.2.2.1; omega, hg.2.2.2.2.1, hg.2.2.2.2.2, by omega⟩
        have hL' := hL.push (tobj p H.size n.toNat period.toNat 0)
        have en : (n + 1).toNat = n.toNat + 1 := by omega
        rw [en] at hL'
        have hobj : (⟨[(Value.pointer (some ⟨p, 0, none⟩)), (Value.pointer (some ⟨H.size, 0, none⟩)), (Value.int .i64 n), (Value.int .i64 period), (Value.int .i64 (0 : Int))], .rw, 0⟩ : AObj) = tobj p H.size n.toNat period.toNat 0 := by
          simp only [tobj]
          rw [show ((n.toNat : Nat) : Int) = n by omega, show ((period.toNat : Nat) : Int) = period by omega]
          rfl
        rw [hobj]
        have hlp := hm.lp
        have hlc := hm.lc
        have hk1 := hk.1
        have hlx := hL.lx
        exact q1 hgood _ _ H.size ⟨by rw [push_get, if_pos rfl], by simp [push_size], by omega, by omega, by omega, hL', by omega, by omega, by omega, by omega⟩ (hk.push _) (by omega) (by omega)
  by_cases hg : GoodTurn M n sp period
  · exact turn_New.link (common (fun h => absurd hg h) h1)
  · refine canon1 (κ := .ptr) (v := none) (by simp) rfl (turn_New.link (common ?_ ?_)) (h0 hg)
    · intro _ H' hk; exact ⟨At.of_keeps hk, rfl⟩
    · intro h; exact absurd h hg
theorem turn_New.nil {k : Option Addr → AH → Prop} (hk : k none H) : turn_New none n sp period H k := by
  refine turn_New.link ?_
  unfold turn_New.b turn_New.j2
  simp only [bcase_eq, decide_eq_true_eq]
  by_cases a1 : n < 1
  · rw [if_pos a1]; exact hk
  rw [if_neg a1]
  refine nvm_Memory_Lines.n ?_
  rw [if_pos (by omega)]
  exact hk

def a9 : Mem × Nat × Int := tput 3 0 1 (Mem.new 4 []) 0 1 [5, 0, 0, 0, 0, 0, 0, 0]
end
end Go.Proofs.Ytgechnnadjonaab
