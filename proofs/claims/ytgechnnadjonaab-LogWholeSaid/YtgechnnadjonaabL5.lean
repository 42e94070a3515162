import Derived.Test.YtgechnnadjonaabL4
set_option linter.all false
set_option linter.all false
namespace Go.Proofs.Ytgechnnadjonaab
open Go Go.Abs

section
variable {M : Mem} {n sp k : Nat}

theorem LV.may (h : LV M n sp k) : MayT (tblL M sp) n := by
  refine ⟨by have := h.n1; omega, fun i hi => ?_⟩
  rw [tblL_len] at hi
  unfold mayAt
  rw [tblL_get M hi]
  rcases Nat.lt_or_ge i k with hk | hk
  · have := h.used i hk
    refine ⟨this.2, fun h0 _ => ?_⟩
    rw [tblL_get M (show i - 1 < sp by omega)]
    have := h.used (i - 1) (by omega)
    omega
  · rw [h.free i hk hi]
    exact ⟨by have := h.n1; omega, fun _ hh => absurd rfl hh⟩

theorem LV.left (h : LV M n sp k) : leftT (tblL M sp) sp = sp - k := by
  have key : ∀ j, j ≤ sp → leftT (tblL M sp) j = j - k := by
    intro j
    induction j with
    | zero => intro _; simp [leftT]
    | succ j ih =>
      intro hj
      simp only [leftT, ih (by omega), tblL_get M (show j < sp by omega)]
      rcases Nat.lt_or_ge j k with hk | hk
      · have := h.used j hk
        rw [if_neg (by omega)]; omega
      · rw [if_pos (h.free j hk (by omega))]; omega
  exact key sp (Nat.le_refl _)

theorem LV.zero (hl : M.cs.length = n + sp) (hn : 1 ≤ n) (hs : sp ≤ 16) (h : ∀ i, i < sp → M.whose i = 0) : LV M n sp 0 :=
  ⟨hl, hn, hs, Nat.zero_le _, fun i hi => by omega, fun i _ hi => h i hi⟩
theorem view_zero {s : Nat} (h : ∀ i, i < sp → M.whose i = 0) : M.view n sp s = (M.cl s).line := by
  unfold Mem.view
  rcases place_cases M n s sp with h1 | ⟨j, h1, _, h3⟩
  · rw [h1]
  · have := h j h1; omega
theorem whose_new {n : Nat} {limits : List Int} {i : Nat} (hi : i < 16) : (Mem.new n limits).whose i = 0 := by
  have : 3 + i < 35 := by omega
  unfold Mem.whose Mem.new
  rw [List.getD_eq_getElem?_getD, List.getElem?_replicate, if_pos this]
  rfl
end

section
variable {H : AH} {p c : Nat} {M : Mem} {n sp : Int}

theorem lines_New.s {k : Option Addr → AH → Prop} (hm : MemAt H p c M) (hnr : isI n) (hsr : isI sp)
    (h0 : ¬ (1 ≤ n ∧ 0 ≤ sp ∧ sp ≤ 16 ∧ (M.cs.length : Int) = n + sp ∧ M.down = false ∧ MayT (tblL M sp.toNat) n) → k none H)
    (h1 : 1 ≤ n ∧ 0 ≤ sp ∧ sp ≤ 16 ∧ (M.cs.length : Int) = n + sp ∧ M.down = false ∧ MayT (tblL M sp.toNat) n → ∀ H', LAt H' H.size p c n.toNat sp.toNat M → Keeps H H' → H.size < H'.size → k (some ⟨H.size, 0, none⟩) H') : lines_New (some ⟨p, 0, none⟩) n sp H k := by
  have hlen := hm.ok.len
  unfold isI at hnr hsr
  by_cases he : 1 ≤ n ∧ 0 ≤ sp ∧ sp ≤ 16 ∧ (M.cs.length : Int) = n + sp
  · obtain ⟨n', rfl⟩ := Int.eq_ofNat_of_zero_le (show 0 ≤ n by omega)
    obtain ⟨sp', rfl⟩ := Int.eq_ofNat_of_zero_le (show 0 ≤ sp by omega)
    simp only [Int.toNat_natCast] at h0 h1
    have common : ∀ {Q : Option Addr → AH → Prop}, (M.down = true → ∀ H', Keeps H H' → Q none H') → (M.down = false → ¬ MayT (tblL M sp') n' → ∀ H', Keeps H H' → Q none H') →
        (M.down = false → MayT (tblL M sp') n' → ∀ H', LAt H' H.size p c n' sp' M → Keeps H H' → H.size < H'.size → Q (some ⟨H.size, 0, none⟩) H') → lines_New.b (some ⟨p, 0, none⟩) n' sp' H Q := by
      intro Q q1 q2 q3
      unfold lines_New.b lines_New.j1
      simp only [Option.isNone_some, bcase_eq, Bool.false_eq_true, if_false, decide_eq_true_eq]
      rw [if_neg (by omega), if_neg (by omega), if_neg (by omega)]
      refine nvm_Memory_Lines.s hm ?_
      rw [wrap_i64 (by omega) (by omega), if_neg (by simp; omega)]
      simp only [newC_eq]
      have hL : LAt (H.push (lobj p n' sp')) H.size p c n' sp' M :=
        ⟨by rw [push_get, if_pos rfl], by simp [push_size], by have := hm.lp; omega, by have := hm.lc; omega, hm.push _, by omega, by omega, by omega⟩
      have e : (⟨[(Value.pointer (some ⟨p, 0, none⟩)), (Value.int .i64 (n' : Int)), (Value.int .i64 (sp' : Int))], .rw, 0⟩ : AObj) = lobj p n' sp' := rfl
      rw [e]
      refine lines_table.s hL ?_ ?_
      · intro hd
        rw [if_pos (by simp)]
        exact q1 hd _ ((Keeps.refl H).push _)
      · intro hd s hs
        rw [if_neg (by simp)]
        have hR : Abs.Rows ((H.push (lobj p n' sp')).push (tblO M sp')) s 1 wU (tblL M sp') := slAt_rows (b := (H.push (lobj p n' sp')).size) (fun _ => rfl) (fun _ => rfl) (by rw [tblL_len]; exact hs) (by simp [push_size]) (by rw [push_get, if_pos rfl]; rfl)
        refine spare_May.s hR (by rw [tblL_len]; omega) ?_ (by omega) ?_
        · intro v hv
          simp only [tblL, List.mem_map, List.mem_range] at hv
          obtain ⟨i, hi, rfl⟩ := hv
          unfold Mem.whose
          have hr := hm.ok.regs
          rw [List.getD_eq_getElem?_getD, List.getElem?_eq_getElem (by omega), Option.getD_some]
          exact (hm.ok.regU _ (List.getElem_mem _)).1
        · by_cases hM : MayT (tblL M sp') n'
          · rw [if_neg (by simp [hM])]
            exact q3 hd hM _ (hL.push _) (((Keeps.refl H).push _).push _) (by simp [push_size]; omega)
          · rw [if_pos (by simp [hM])]
            exact q2 hd hM _ (((Keeps.refl H).push _).push _)
    by_cases hgood : M.down = false ∧ MayT (tblL M sp') n'
    · refine lines_New.link (common ?_ ?_ ?_)
      · intro hd; rw [hgood.1] at hd; cases hd
      · intro _ hM; exact absurd hgood.2 hM
      · intro hd hM H' hL hK hs
        exact h1 ⟨by omega, by omega, by omega, by omega, hd, hM⟩ H' hL hK hs
    · refine canon1 (κ := .ptr) (v := none) (by simp) rfl (lines_New.link (common ?_ ?_ ?_)) (h0 ?_)
      · intro hd H' hk; exact ⟨At.of_keeps hk, rfl⟩
      · intro _ _ H' hk; exact ⟨At.of_keeps hk, rfl⟩
      · intro hd hM; exact absurd ⟨hd, hM⟩ hgood
      · intro h; exact hgood ⟨h.2.2.2.2.1, h.2.2.2.2.2⟩
  · refine lines_New.link ?_
    have hk := h0 (fun h => he ⟨h.1, h.2.1, h.2.2.1, h.2.2.2.1⟩)
    unfold lines_New.b lines_New.j1
    simp only [Option.isNone_some, bcase_eq, Bool.false_eq_true, if_false, if_true, decide_eq_true_eq]
    by_cases h1 : n < 1
    · rw [if_pos h1]; exact hk
    rw [if_neg h1]
    by_cases h2 : sp < 0
    · rw [if_pos h2]; exact hk
    rw [if_neg h2]
    by_cases h3 : sp > 16
    · rw [if_pos h3]; exact hk
    rw [if_neg h3]
    refine nvm_Memory_Lines.s hm ?_
    rw [wrap_i64 (by omega) (by omega), if_pos (by simp; omega)]
    exact hk

theorem lines_New.nil {k : Option Addr → AH → Prop} (hk : k none H) : lines_New none n sp H k := by
  refine lines_New.link ?_
  unfold lines_New.b lines_New.j1
  simp only [Option.isNone_none, bcase_eq, if_true]
  exact hk

/-- A Put, with the next heap's name alone. -/
theorem lines_Put.g {x n sp : Nat} {slot r : Int} {d : List Int} {M' : Mem} {k : Int → AH → Prop} (h : LAt H x p c n sp M) (hd : isLine d) (e : lput n sp M slot d = (M', r)) (hk : ∀ H', LAt H' x p c n sp M' → Frm H H' p c → k r H') : lines_Lines_Put (some ⟨x, 0, none⟩) slot (lineV d) H k := by
  refine lines_Put.s h hd ?_
  have hn := h.n200
  have ok := lput_ok (n := n) (sp := sp) (slot := slot) hd (by omega) h.m.ok
  have hl := lput_len (n := n) (sp := sp) (M := M) (slot := slot) (d := d)
  rw [e] at ok hl ⊢
  exact hk _ (h.set ok hl) (Frm.set _ _ _ _)
end

section
variable {H : AH}
end
end Go.Proofs.Ytgechnnadjonaab
