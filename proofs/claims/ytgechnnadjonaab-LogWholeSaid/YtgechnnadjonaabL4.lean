import Derived.Test.YtgechnnadjonaabL3
set_option linter.all false
set_option linter.all false
namespace Go.Proofs.Ytgechnnadjonaab
open Go Go.Abs

theorem setLine0 : setMany (lineV (List.replicate 8 0)) 0 (lineV (List.replicate 8 0)) = lineV (List.replicate 8 0) := rfl

section
variable {H : AH} {x p c n sp : Nat} {M : Mem} {slot : Int}

theorem lines_place.s {k : Int → Sl → Int → AH → Prop} (h : LAt H x p c n sp M) (h1 : ¬ (0 ≤ slot ∧ slot < n) → k 0 ⟨none, 0, 0⟩ 1 H) (h2 : 0 ≤ slot ∧ slot < n → M.down = true → k slot ⟨none, 0, 0⟩ 2 H)
    (h3 : 0 ≤ slot ∧ slot < n → M.down = false → ∀ s, SlAt H.size sp s → k (M.place n slot.toNat sp : Nat) s 0 (H.push (tblO M sp))) : lines_Lines_place (some ⟨x, 0, none⟩) slot H k := by
  have hn := h.n200
  have hsp := h.sp16
  refine lines_Lines_place.link ?_
  unfold lines_Lines_place.b lines_Lines_place.j1
  simp only [Option.isNone_some, bcase_eq, Bool.false_eq_true, if_false, if_true, onPtr_mk, h.c1, elI_some, decide_eq_true_eq]
  by_cases hs : slot < 0
  · rw [if_pos hs]; exact h1 (by omega)
  rw [if_neg hs]
  by_cases hs' : slot ≥ (n : Int)
  · rw [if_pos hs']; exact h1 (by omega)
  rw [if_neg hs']
  obtain ⟨sl, rfl⟩ := Int.eq_ofNat_of_zero_le (show 0 ≤ slot by omega)
  refine lines_table.s h ?_ ?_
  · intro hd
    rw [h.c1, elI_some]
    refine spare_Place.s (t := []) rows_nil (by simp) (by omega) (by omega) ?_
    exact h2 ⟨by omega, by omega⟩ hd
  · intro hd s hs
    have hL := h.push (tblO M sp)
    rw [hL.c1, elI_some]
    have hR : Abs.Rows (H.push (tblO M sp)) s 1 wU (tblL M sp) := slAt_rows (b := H.size) (fun _ => rfl) (fun _ => rfl) (by rw [tblL_len]; exact hs) (by simp [push_size]) (by rw [push_get, if_pos rfl]; rfl)
    refine spare_Place.s hR (by rw [tblL_len]; exact hsp) (by omega) (by omega) ?_
    rw [tblL_len, placeT_eq _ _ _ _ (Nat.le_refl _)]
    exact h3 ⟨by omega, by omega⟩ hd s hs

theorem lines_place.nil {k : Int → Sl → Int → AH → Prop} (h1 : k 0 ⟨none, 0, 0⟩ 1 H) : lines_Lines_place none slot H k := by
  refine lines_Lines_place.link ?_
  unfold lines_Lines_place.b lines_Lines_place.j1
  simp only [Option.isNone_none, bcase_eq, if_true]
  exact h1

def lleft (M : Mem) (sp : Nat) : Nat := if M.down then 0 else leftT (tblL M sp) sp
theorem lget_line (h : LAt H x p c n sp M) : isLine (lget n sp M slot).1 := by
  unfold lget
  split
  · rename_i hs
    split
    · exact zero_line
    · have hp := place_lt (M := M) (n := n) (sp := sp) (s := slot.toNat) (by omega)
      have hlen := h.len
      have : M.cl (M.place n slot.toNat sp) ∈ M.cs := by
        unfold Mem.cl
        rw [List.getD_eq_getElem?_getD, List.getElem?_eq_getElem (by omega)]
        exact List.getElem_mem _
      exact h.m.ok.lines _ this
  · exact zero_line

theorem lines_Get.s {k : List Value → Int → AH → Prop} (h : LAt H x p c n sp M) (hk : k (lineV (lget n sp M slot).1) (lget n sp M slot).2 H) : lines_Lines_Get (some ⟨x, 0, none⟩) slot H k := by
  refine canon2 (κ := .agg) (μ := .int .i64) (by simp) (by simp) (lineV_flat _) rfl (lines_Lines_Get.link ?_) hk
  unfold lines_Lines_Get.b
  rw [newC_eq, zeroV]
  have hL := h.push ⟨lineV (List.replicate 8 0), .rw, 0⟩
  have fin : ∀ {H1 : AH} {l : List Int} {Q : List Value → AH → Prop}, Keeps (H.push ⟨lineV (List.replicate 8 0), .rw, 0⟩) H1 → isLine l → (∀ H', Keeps H H' → Q (lineV l) H') →
      ((lineV l).length = 8 ∧ List.all (lineV l) cellOK = true) ∧ stC H1 ⟨H.size, 0, none⟩ (lineV l) fun Hs => ldA Hs ⟨H.size, 0, none⟩ 8 fun r0 => Q r0 Hs := by
    intro H1 l Q hk hl hQ
    have hg : H1.get H.size = ⟨lineV (List.replicate 8 0), .rw, 0⟩ := by rw [hk.2 _ (by simp [push_size]), push_get, if_pos rfl]
    refine ⟨⟨lineV_len hl.1, lineV_ok _⟩, stC_to ⟨rfl, by rw [hg], by rw [hg, lineV_len hl.1]; simp only [lineV_len (l := List.replicate 8 0) rfl]; omega⟩ (lineV_put rfl hl.1 hg) ?_⟩
    have hrow : AH.row? (H1.upd H.size ⟨lineV l, .rw, 0⟩) ⟨H.size, 0, none⟩ 8 = some (lineV l) := by
      simp only [AH.row?, upd_get, if_true, Option.isSome_none, Bool.false_eq_true, if_false, List.drop_zero]
      rw [if_neg (by simp), List.take_of_length_le (by rw [lineV_len hl.1]; omega), if_pos ⟨by rw [lineV_len hl.1]; omega, lineV_ok _⟩]
    rw [ldA_some hrow]
    exact hQ _ ((((Keeps.refl H).push _).trans hk).upd (Nat.le_refl _) _)
  have hline := lget_line (slot := slot) h
  unfold lget at hline ⊢
  simp only [bcase_eq]
  refine lines_place.s hL ?_ ?_ ?_
  · intro hs
    rw [if_neg hs] at hline ⊢
    rw [if_pos (by simp)]
    exact fin (Q := fun r H' => At H H' H ∧ r = _ ∧ _) (Keeps.refl _) zero_line fun H' hk => ⟨At.of_keeps hk, rfl, rfl⟩
  · intro hs hd
    rw [if_pos hs, if_pos hd] at hline ⊢
    rw [if_pos (by simp)]
    exact fin (Q := fun r H' => At H H' H ∧ r = _ ∧ _) (Keeps.refl _) zero_line fun H' hk => ⟨At.of_keeps hk, rfl, rfl⟩
  · intro hs hd s _
    rw [if_pos hs, if_neg (show ¬ M.down = true by simp [hd])] at hline ⊢
    rw [if_neg (by simp)]
    have hL2 := hL.push (tblO M sp)
    rw [onPtr_mk, hL2.c0, elP_some]
    refine nvm_Memory_Get.s hL2.m ?_
    have hp := place_lt (M := M) (n := n) (sp := sp) (s := slot.toNat) (by omega)
    have hlen := h.len
    have hg : M.get ((M.place n slot.toNat sp : Nat) : Int) = (M.view n sp slot.toNat, 0) := by
      unfold Mem.get
      rw [if_pos ⟨by omega, by omega⟩, if_neg (by simp [hd])]; rfl
    rw [hg]
    exact fin (Q := fun r H' => At H H' H ∧ r = _ ∧ _) ((Keeps.refl _).push _) hline fun H' hk => ⟨At.of_keeps hk, rfl, rfl⟩
theorem lines_Get.nil {k : List Value → Int → AH → Prop} (hk : k (lineV (List.replicate 8 0)) 1 H) : lines_Lines_Get none slot H k := by
  refine canon2 (κ := .agg) (μ := .int .i64) (by simp) (by simp) (lineV_flat _) rfl (lines_Lines_Get.link ?_) hk
  unfold lines_Lines_Get.b
  rw [newC_eq, zeroV]
  refine lines_place.nil ?_
  simp only [bcase_eq]
  rw [if_pos (by simp)]
  refine ⟨⟨lineV_len rfl, lineV_ok _⟩, stC_to (canPut_new.2 (by omega)) (put_new _ _ _ _ _) ?_⟩
  rw [setLine0, ldA_some (line_new zero_line)]
  exact ⟨At.of_keeps ((Keeps.refl H).push _), rfl, trivial⟩

/-! ### Put -/

theorem lgo_ok {j slot : Nat} {d : List Int} (hd : isLine d) (hs : (slot : Int) + 1 ≤ 18446744073709551615) (hn : n ≤ 1000000) : ∀ {M : Mem}, M.ok → (lgo n sp slot d j M).1.ok := by
  induction j with
  | zero => intro M h; exact h
  | succ j ih =>
    intro M h
    unfold lgo
    have h1 := Mem.put_ok (i := ((n + (sp - (j + 1)) : Nat) : Int)) h hd
    simp only
    split
    · exact Mem.set_ok h1 (by unfold isU; omega)
    · split
      · have h2 := Mem.set_ok (i := ((3 + (sp - (j + 1)) : Nat) : Int)) (v := (n : Int) + 1) h1 (by unfold isU; omega)
        split
        · exact ih h2
        · exact h2
      · exact h1
theorem lput_ok {d : List Int} (hd : isLine d) (hn : n ≤ 1000000) (h : M.ok) : (lput n sp M slot d).1.ok := by
  unfold lput
  split
  · rename_i hs
    split
    · exact h
    · simp only
      split
      · exact lgo_ok hd (by omega) hn (Mem.put_ok h hd)
      · exact Mem.put_ok h hd
  · exact h
theorem lgo_len {j slot : Nat} {d : List Int} : ∀ {M : Mem}, (lgo n sp slot d j M).1.cs.length = M.cs.length := by
  induction j with
  | zero => intro M; rfl
  | succ j ih =>
    intro M
    unfold lgo
    simp only
    split
    · rw [Mem.set_len, Mem.put_len]
    · split
      · split
        · rw [ih, Mem.set_len, Mem.put_len]
        · rw [Mem.set_len, Mem.put_len]
      · rw [Mem.put_len]
theorem lput_len {d : List Int} : (lput n sp M slot d).1.cs.length = M.cs.length := by
  unfold lput
  split
  · split
    · rfl
    · simp only
      split
      · rw [lgo_len, Mem.put_len]
      · rw [Mem.put_len]
  · rfl

theorem lines_Put.s {d : List Int} {k : Int → AH → Prop} (h : LAt H x p c n sp M) (hd : isLine d) (hk : k (lput n sp M slot d).2 (setM H p c (lput n sp M slot d).1)) : lines_Lines_Put (some ⟨x, 0, none⟩) slot (lineV d) H k := by
  have hn := h.n200
  have hsp := h.sp16
  have hlp := h.m.lp
  have hlc := h.m.lc
  have hlx := h.lx
  have key : ∀ {B : AH} {M' : Mem}, Keeps H B → At H (setM B p c M') (setM H p c M') := by
    intro B M' hB
    refine h.m.at fun b hb => ?_
    simp only [setM_get]
    rw [hB.2 b hb]
  refine canon1 (κ := .int .i64) (by simp) rfl (lines_Lines_Put.link ?_) hk
  unfold lines_Lines_Put.b
  rw [newC_eq]
  simp only [bcase_eq]
  have hL := h.push ⟨lineV d, .rw, 0⟩
  have hgd : (H.push ⟨lineV d, .rw, 0⟩).get H.size = ⟨lineV d, .rw, 0⟩ := by rw [push_get, if_pos rfl]
  have hkd : Keeps H (H.push ⟨lineV d, .rw, 0⟩) := (Keeps.refl H).push _
  have hsd : (H.push ⟨lineV d, .rw, 0⟩).size = H.size + 1 := rfl
  generalize H.push ⟨lineV d, .rw, 0⟩ = Hd at *
  unfold lput
  refine lines_place.s hL ?_ ?_ ?_
  · intro hs
    rw [if_neg hs, if_pos (by simp)]
    have := key (M' := M) hkd
    rw [h.m.same, hL.m.same] at this
    rw [h.m.same]
    exact ⟨this, rfl⟩
  · intro hs hdn
    rw [if_pos hs, if_pos hdn, if_pos (by simp)]
    have := key (M' := M) hkd
    rw [h.m.same, hL.m.same] at this
    rw [h.m.same]
    exact ⟨this, rfl⟩
  · intro hs hdn s hsl
    rw [if_pos hs, if_neg (show ¬ M.down = true by simp [hdn]), if_neg (by simp)]
    have hL2 := hL.push (tblO M sp)
    have hR : Abs.Rows (Hd.push (tblO M sp)) s 1 wU (tblL M sp) := slAt_rows (b := Hd.size) (fun _ => rfl) (fun _ => rfl) (by rw [tblL_len]; exact hsl) (by simp [push_size]) (by rw [push_get, if_pos rfl]; rfl)
    have hsb : ∀ y, s.a = some y → y.block = Hd.size := by
      intro y hy
      rcases hsl with rfl | ⟨_, rfl⟩
      · injection hy with hy; subst hy; rfl
      · cases hy
    have hgd2 : (Hd.push (tblO M sp)).get H.size = ⟨lineV d, .rw, 0⟩ := by rw [push_get_ne (by omega), hgd]
    have hkB : Keeps H (Hd.push (tblO M sp)) := hkd.push _
    have hsB : (Hd.push (tblO M sp)).size = H.size + 2 := by simp [push_size, hsd]
    generalize hBB : Hd.push (tblO M sp) = B at *
    have rowd : ∀ M', AH.row? (setM B p c M') ⟨H.size, 0, none⟩ 8 = some (lineV d) := by
      intro M'
      rw [row_setM (by omega) (by omega)]
      simp only [AH.row?, hgd2, Option.isSome_none, Bool.false_eq_true, if_false, List.drop_zero]
      rw [if_neg (by simp), List.take_of_length_le (by rw [lineV_len hd.1]; omega), if_pos ⟨by rw [lineV_len hd.1]; omega, lineV_ok _⟩]
    have rowd0 : AH.row? B ⟨H.size, 0, none⟩ 8 = some (lineV d) := by have := rowd M; rwa [hL2.m.same] at this
    rw [onPtr_mk, hL2.c0, elP_some, ldA_some rowd0]
    refine nvm_Memory_Put.s hL2.m hd ?_
    have hok1 := Mem.put_ok (i := ((M.place n slot.toNat sp : Nat) : Int)) h.m.ok hd
    have hlen1 : (M.put ((M.place n slot.toNat sp : Nat) : Int) d).1.cs.length = M.cs.length := Mem.put_len
    simp only
    generalize M.put ((M.place n slot.toNat sp : Nat) : Int) d = R at *
    by_cases he : R.2 = 3
    · rw [if_pos he, if_neg (by simp [he])]
      have hL3 := hL2.set hok1 hlen1
      have hR3 : Abs.Rows (setM B p c R.1) s 1 wU (tblL M sp) := by
        refine ⟨hR.1, fun i v hv => ?_⟩
        obtain ⟨y, h1, h2, h3, h4⟩ := hR.2 i v hv
        have hb := hsb y h1
        refine ⟨y, h1, h2, h3, ?_⟩
        rw [row_setM (by omega) (by omega)]
        exact h4
      have hnx := nextT_eq M (sp := sp) sp (Nat.le_refl _)
      refine spare_Next.s hR3 (by rw [tblL_len]; exact hsp) ?_ ?_
      · rw [tblL_len, hnx]
        intro hlt
        rw [if_neg (by simp)]
        generalize hF : lgo n sp slot.toNat d (sp - M.next sp sp) R.1 = F at *
        refine loopT_inv (t := (((0 : Int), ((M.next sp sp : Nat) : Int)) : Int × Int)) (I := fun (t : Int × Int) H' => ∃ j : Nat, t.2 = ((sp - j : Nat) : Int) ∧ j ≤ sp ∧ ∃ Mi : Mem, H' = setM B p c Mi ∧ Mi.ok ∧ Mi.cs.length = M.cs.length ∧ lgo n sp slot.toNat d j Mi = F) (m := fun (t : Int × Int) _ => Int.toNat ((sp : Int) - t.2)) ?_ ⟨sp - M.next sp sp, by simp only; omega, by omega, R.1, rfl, hok1, hlen1, hF⟩
        intro t H4 hI it hit
        obtain ⟨t1, t2⟩ := t
        obtain ⟨j, e1, hj, Mi, rfl, hoki, hleni, hlg⟩ := hI
        simp only at e1
        subst e1
        have hLi := hL2.set hoki hleni
        unfold lines_Lines_Put.l1
        simp only [bcase_eq, decide_eq_true_eq, onPtr_mk, hLi.c2, hLi.c1, hLi.c0, elI_some, elP_some]
        by_cases hz : ((sp - j : Nat) : Int) < (sp : Int)
        · rw [if_pos hz]
          obtain ⟨i, rfl⟩ : ∃ i, j = i + 1 := ⟨j - 1, by omega⟩
          rw [ldA_some (rowd Mi), wrap_i64 (n := (n : Int) + ((sp - (i + 1) : Nat) : Int)) (by omega) (by omega), wrap_i64 (n := (3 : Int) + ((sp - (i + 1) : Nat) : Int)) (by omega) (by omega), wrap_i64 (n := ((sp - (i + 1) : Nat) : Int) + 1) (by omega) (by omega)]
          rw [show (n : Int) + ((sp - (i + 1) : Nat) : Int) = ((n + (sp - (i + 1)) : Nat) : Int) from by omega, show (3 : Int) + ((sp - (i + 1) : Nat) : Int) = ((3 + (sp - (i + 1)) : Nat) : Int) from by omega]
          refine nvm_Memory_Put.s hLi.m hd ?_
          have hok2 := Mem.put_ok (i := ((n + (sp - (i + 1)) : Nat) : Int)) hoki hd
          have hlen2 : (Mi.put ((n + (sp - (i + 1)) : Nat) : Int) d).1.cs.length = M.cs.length := by rw [Mem.put_len]; exact hleni
          rw [← hlg]
          unfold lgo at hlg ⊢
          simp only at hlg ⊢
          rw [setM_setM]
          generalize Mi.put ((n + (sp - (i + 1)) : Nat) : Int) d = R2 at *
          have hL4 := hL2.set hok2 hlen2
          simp only [hL4.c0, hL4.c1, elP_some, elI_some]
          by_cases e0 : R2.2 = 0
          · rw [if_pos e0, if_pos (by simpa using e0)]
            rw [wrap_u64 (n := slot) (by omega) (by omega), wrap_u64 (n := slot + 1) (by omega) (by omega)]
            refine nvm_Memory_Set.s hL4.m (by unfold isU; omega) ?_
            rw [setM_setM, show ((slot.toNat : Nat) : Int) + 1 = slot + 1 from by omega]
            exact ⟨key hkB, rfl⟩
          · rw [if_neg e0, if_neg (by simpa using e0)]
            rw [if_neg e0] at hlg
            by_cases e3 : R2.2 = 3
            · rw [if_pos e3, if_pos (by simpa using e3)]
              rw [if_pos e3] at hlg
              refine spare_Dead.s (by have := h.n1; omega) ?_
              simp only [hL4.c0, elP_some]
              refine nvm_Memory_Set.s hL4.m (by unfold isU; omega) ?_
              rw [setM_setM]
              have hok3 := Mem.set_ok (i := ((3 + (sp - (i + 1)) : Nat) : Int)) (v := (n : Int) + 1) hok2 (by unfold isU; omega)
              have hlen3 : (R2.1.set ((3 + (sp - (i + 1)) : Nat) : Int) ((n : Int) + 1)).1.cs.length = M.cs.length := by rw [Mem.set_len]; exact hlen2
              generalize R2.1.set ((3 + (sp - (i + 1)) : Nat) : Int) ((n : Int) + 1) = Q at *
              by_cases e4 : Q.2 = 0
              · rw [if_pos e4, if_neg (by simp [e4])]
                rw [if_pos e4] at hlg
                exact hit _ _ ⟨i, by simp only; omega, by omega, Q.1, rfl, hok3, hlen3, hlg⟩ (by simp only; omega)
              · rw [if_neg e4, if_pos (by simpa using e4)]
                exact ⟨key hkB, rfl⟩
            · rw [if_neg e3, if_neg (by simpa using e3)]
              exact ⟨key hkB, rfl⟩
        · rw [if_neg hz]
          have : j = 0 := by omega
          subst this
          rw [← hlg]
          exact ⟨key hkB, rfl⟩
      · rw [tblL_len, hnx]
        intro heq
        rw [if_pos (by simp), heq, Nat.sub_self]
        exact ⟨key hkB, rfl⟩
    · rw [if_neg he, if_pos (by simpa using he)]
      exact ⟨key hkB, rfl⟩
theorem lines_Put.nil {d : List Int} {k : Int → AH → Prop} (hk : k 1 H) : lines_Lines_Put none slot (lineV d) H k := by
  refine canon1 (κ := .int .i64) (by simp) rfl (lines_Lines_Put.link ?_) hk
  unfold lines_Lines_Put.b
  rw [newC_eq]
  refine lines_place.nil ?_
  simp only [bcase_eq]
  rw [if_pos (by simp)]
  exact ⟨At.of_keeps ((Keeps.refl H).push _), trivial⟩
end
end Go.Proofs.Ytgechnnadjonaab
