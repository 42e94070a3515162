import Derived.Test.YtomeldimnhapfaaL4
set_option linter.all false
set_option linter.all false
namespace Go.Proofs.Ytomeldimnhapfaa
open Go Go.Abs

section
variable {M : Mem} {n sp k : Nat}

theorem LV.may (h : LV M n sp k) : MayT (tblL M sp) n := by
  refine ⟨by have := h.n1; omega, fun i hi => ?_⟩
  rw [tblL_len] at hi
  unfold mayAt
  rw [tblL_get M hi]
  rcases Nat.lt_or_ge i k with hk | hk
  · have := h.used i hk
    refine ⟨this.2, fun h0 _ => ?_⟩
    rw [tblL_get M (show i - 1 < sp by omega)]
    have := h.used (i - 1) (by omega)
    omega
  · rw [h.free i hk hi]
    exact ⟨by have := h.n1; omega, fun _ hh => absurd rfl hh⟩

theorem LV.left (h : LV M n sp k) : leftT (tblL M sp) sp = sp - k := by
  have key : ∀ j, j ≤ sp → leftT (tblL M sp) j = j - k := by
    intro j
    induction j with
    | zero => intro _; simp [leftT]
    | succ j ih =>
      intro hj
      simp only [leftT, ih (by omega), tblL_get M (show j < sp by omega)]
      rcases Nat.lt_or_ge j k with hk | hk
      · have := h.used j hk
        rw [if_neg (by omega)]; omega
      · rw [if_pos (h.free j hk (by omega))]; omega
  exact key sp (Nat.le_refl _)

theorem LV.zero (hl : M.cs.length = n + sp) (hn : 1 ≤ n) (hs : sp ≤ 16) (h : ∀ i, i < sp → M.whose i = 0) : LV M n sp 0 :=
  ⟨hl, hn, hs, Nat.zero_le _, fun i hi => by omega, fun i _ hi => h i hi⟩
theorem view_zero {s : Nat} (h : ∀ i, i < sp → M.whose i = 0) : M.view n sp s = (M.cl s).line := by
  unfold Mem.view
  rcases place_cases M n s sp with h1 | ⟨j, h1, _, h3⟩
  · rw [h1]
  · have := h j h1; omega
theorem whose_new {n : Nat} {limits : List Int} {i : Nat} (hi : i < 16) : (Mem.new n limits).whose i = 0 := by
  have : 3 + i < 35 := by omega
  unfold Mem.whose Mem.new
  rw [List.getD_eq_getElem?_getD, List.getElem?_replicate, if_pos this]
  rfl
end

section
variable {H : AH} {p c : Nat} {M : Mem} {n sp : Int}

theorem lines_New.s {k : Option Addr → AH → Prop} (hm : MemAt H p c M) (hnr : isI n) (hsr : isI sp)
    (h0 : ¬ (1 ≤ n ∧ 0 ≤ sp ∧ sp ≤ 16 ∧ (M.cs.length : Int) = n + sp ∧ M.down = false ∧ MayT (tblL M sp.toNat) n) → k none H)
    (h1 : 1 ≤ n ∧ 0 ≤ sp ∧ sp ≤ 16 ∧ (M.cs.length : Int) = n + sp ∧ M.down = false ∧ MayT (tblL M sp.toNat) n → ∀ H', LAt H' H.size p c n.toNat sp.toNat M → Keeps H H' → H.size < H'.size → k (some ⟨H.size, 0, none⟩) H') : lines_New (some ⟨p, 0, none⟩) n sp H k := by
  have hlen := hm.ok.len
  unfold isI at hnr hsr
  by_cases he : 1 ≤ n ∧ 0 ≤ sp ∧ sp ≤ 16 ∧ (M.cs.length : Int) = n + sp
  · obtain ⟨n', rfl⟩ := Int.eq_ofNat_of_zero_le (show 0 ≤ n by omega)
    obtain ⟨sp', rfl⟩ := Int.eq_ofNat_of_zero_le (show 0 ≤ sp by omega)
    simp only [Int.toNat_natCast] at h0 h1
    have common : ∀ {Q : Option Addr → AH → Prop}, (M.down = true → ∀ H', Keeps H H' → Q none H') → (M.down = false → ¬ MayT (tblL M sp') n' → ∀ H', Keeps H H' → Q none H') →
        (M.down = false → MayT (tblL M sp') n' → ∀ H', LAt H' H.size p c n' sp' M → Keeps H H' → H.size < H'.size → Q (some ⟨H.size, 0, none⟩) H') → lines_New.b (some ⟨p, 0, none⟩) n' sp' H Q := by
      intro Q q1 q2 q3
      unfold lines_New.b lines_New.j1
      simp only [Option.isNone_some, bcase_eq, Bool.false_eq_true, if_false, decide_eq_true_eq]
      rw [if_neg (by omega), if_neg (by omega), if_neg (by omega)]
      refine nvm_Memory_Lines.s hm ?_
      rw [wrap_i64 (by omega) (by omega), if_neg (by simp; omega)]
      simp only [newC_eq]
      have hL : LAt (H.push (lobj p n' sp')) H.size p c n' sp' M :=
        ⟨by rw [push_get, if_pos rfl], by simp [push_size], by have := hm.lp; omega, by have := hm.lc; omega, hm.push _, by omega, by omega, by omega⟩
      have e : (⟨[(Value.pointer (some ⟨p, 0, none⟩)), (Value.int .i64 (n' : Int)), (Value.int .i64 (sp' : Int))], .rw, 0⟩ : AObj) = lobj p n' sp' := rfl
      rw [e]
      refine lines_table.s hL ?_ ?_
      · intro hd
        rw [if_pos (by simp)]
        exact q1 hd _ ((Keeps.refl H).push _)
      · intro hd s hs
        rw [if_neg (by simp)]
        have hR : Abs.Rows ((H.push (lobj p n' sp')).push (tblO M sp')) s 1 wU (tblL M sp') := slAt_rows (b := (H.push (lobj p n' sp')).size) (fun _ => rfl) (fun _ => rfl) (by rw [tblL_len]; exact hs) (by simp [push_size]) (by rw [push_get, if_pos rfl]; rfl)
        refine spare_May.s hR (by rw [tblL_len]; omega) ?_ (by omega) ?_
        · intro v hv
          simp only [tblL, List.mem_map, List.mem_range] at hv
          obtain ⟨i, hi, rfl⟩ := hv
          unfold Mem.whose
          have hr := hm.ok.regs
          rw [List.getD_eq_getElem?_getD, List.getElem?_eq_getElem (by omega), Option.getD_some]
          exact (hm.ok.regU _ (List.getElem_mem _)).1
        · by_cases hM : MayT (tblL M sp') n'
          · rw [if_neg (by simp [hM])]
            exact q3 hd hM _ (hL.push _) (((Keeps.refl H).push _).push _) (by simp [push_size]; omega)
          · rw [if_pos (by simp [hM])]
            exact q2 hd hM _ (((Keeps.refl H).push _).push _)
    by_cases hgood : M.down = false ∧ MayT (tblL M sp') n'
    · refine lines_New.link (common ?_ ?_ ?_)
      · intro hd; rw [hgood.1] at hd; cases hd
      · intro _ hM; exact absurd hgood.2 hM
      · intro hd hM H' hL hK hs
        exact h1 ⟨by omega, by omega, by omega, by omega, hd, hM⟩ H' hL hK hs
    · refine canon1 (κ := .ptr) (v := none) (by simp) rfl (lines_New.link (common ?_ ?_ ?_)) (h0 ?_)
      · intro hd H' hk; exact ⟨At.of_keeps hk, rfl⟩
      · intro _ _ H' hk; exact ⟨At.of_keeps hk, rfl⟩
      · intro hd hM; exact absurd ⟨hd, hM⟩ hgood
      · intro h; exact hgood ⟨h.2.2.2.2.1, h.2.2.2.2.2⟩
  · refine lines_New.link ?_
    have hk := h0 (fun h => he ⟨h.1, h.2.1, h.2.2.1, h.2.2.2.1⟩)
    unfold lines_New.b lines_New.j1
    simp only [Option.isNone_some, bcase_eq, Bool.false_eq_true, if_false, if_true, decide_eq_true_eq]
    by_cases h1 : n < 1
    · rw [if_pos h1]; exact hk
    rw [if_neg h1]
    by_cases h2 : sp < 0
    · rw [if_pos h2]; exact hk
    rw [if_neg h2]
    by_cases h3 : sp > 16
    · rw [if_pos h3]; exact hk
    rw [if_neg h3]
    refine nvm_Memory_Lines.s hm ?_
    rw [wrap_i64 (by omega) (by omega), if_pos (by simp; omega)]
    exact hk

theorem lines_New.nil {k : Option Addr → AH → Prop} (hk : k none H) : lines_New none n sp H k := by
  refine lines_New.link ?_
  unfold lines_New.b lines_New.j1
  simp only [Option.isNone_none, bcase_eq, if_true]
  exact hk

theorem darningref4_MayTable.s {k : Bool → AH → Prop} {s : Sl} {t : List Int} {n : Int} (hR : Abs.Rows H s 1 wU t) (ht : t.length ≤ 16) (hn : 1 ≤ n ∧ n ≤ 1000000) (hk : k (decide (MayT t n)) H) : darningref4_MayTable s n H k := by
  refine darningref4_MayTable.link ?_
  unfold darningref4_MayTable.b
  simp only [bcase_eq, decide_eq_true_eq]
  rw [if_neg (by omega)]
  refine loopT_inv (t := ((false, (0 : Int)) : Bool × Int)) (I := fun (t' : Bool × Int) H' => H' = H ∧ ∃ j : Nat, t'.2 = (j : Int) ∧ j ≤ t.length ∧ ∀ i, i < j → mayAt t n i) (m := fun (t' : Bool × Int) _ => Int.toNat ((t.length : Int) - t'.2)) ?_ ⟨rfl, 0, rfl, Nat.zero_le _, fun i hi => by omega⟩
  intro t' H1 hI it hit
  obtain ⟨t1, t2⟩ := t'
  obtain ⟨rfl, j, e, hj, hall⟩ := hI
  simp only at e
  subst e
  unfold darningref4_MayTable.l2 darningref4_MayTable.j1
  simp only [bcase_eq, decide_eq_true_eq, hR.1]
  by_cases hlt : (j : Int) < (t.length : Int)
  · rw [if_pos hlt]
    refine ⟨by omega, ?_⟩
    obtain ⟨ad, ha, hc⟩ := cellT hR (j := j) (by omega)
    rw [ha, onPtr_mk, Int.toNat_natCast, hc, elI_some, wrap_u64 (n := n) (by omega) (by omega), wrap_u64 (n := n + 1) (by omega) (by omega)]
    rw [wrap_i64 (n := (j : Int) + 1) (by omega) (by omega)]
    have bad : ¬ mayAt t n j → k false H1 := by
      intro hb
      rw [decide_eq_false (fun hM => hb (hM.2 j (by omega)))] at hk
      exact hk
    have good : mayAt t n j → it (t1, (j : Int) + 1) H1 := by
      intro hg
      refine hit _ _ ⟨rfl, j + 1, by simp, by omega, fun i hi => ?_⟩ (by simp only; omega)
      rcases Nat.lt_or_ge i j with h | h
      · exact hall i h
      · have : i = j := by omega
        subst this; exact hg
    by_cases h1 : t.getD j 0 > n + 1
    · rw [if_pos h1]; exact bad (fun h => by have := h.1; omega)
    · rw [if_neg h1]
      by_cases h2 : (j : Int) > 0
      · rw [if_pos h2]
        by_cases h3 : t.getD j 0 = 0
        · rw [if_neg (by rw [h3]; simp)]
          exact good ⟨by omega, fun _ hh => absurd h3 hh⟩
        · rw [if_pos (by simpa using h3), wrap_i64 (by omega) (by omega)]
          refine ⟨by omega, ?_⟩
          obtain ⟨ad', ha', hc'⟩ := cellT hR (j := j - 1) (by omega)
          rw [ha] at ha'
          injection ha' with ha'
          subst ha'
          have e1 : ((j : Int) - 1).toNat = j - 1 := by omega
          rw [onPtr_mk, e1, hc', elI_some]
          by_cases h4 : t.getD (j - 1) 0 = 0
          · rw [if_pos (by simpa using h4)]
            exact bad (fun h => h.2 (by omega) h3 h4)
          · rw [if_neg (by simpa using h4)]
            exact good ⟨by omega, fun _ _ => h4⟩
      · rw [if_neg h2]
        exact good ⟨by omega, fun h => by omega⟩
  · rw [if_neg hlt]
    have : j = t.length := by omega
    subst this
    rw [show true = decide (MayT t n) from (decide_eq_true ⟨hn.1, hall⟩).symm]
    exact hk

/-- A Put, with the next heap's name alone. -/
theorem lines_Put.g {x n sp : Nat} {slot r : Int} {d : List Int} {M' : Mem} {k : Int → AH → Prop} (h : LAt H x p c n sp M) (hd : isLine d) (e : lput n sp M slot d = (M', r)) (hk : ∀ H', LAt H' x p c n sp M' → Frm H H' p c → k r H') : lines_Lines_Put (some ⟨x, 0, none⟩) slot (lineV d) H k := by
  refine lines_Put.s h hd ?_
  have hn := h.n200
  have ok := lput_ok (n := n) (sp := sp) (slot := slot) hd (by omega) h.m.ok
  have hl := lput_len (n := n) (sp := sp) (M := M) (slot := slot) (d := d)
  rw [e] at ok hl ⊢
  exact hk _ (h.set ok hl) (Frm.set _ _ _ _)
end

section
variable {H : AH}
def a7 : Mem := (lput 5 2 (Mem.new 7 [0]) 0 [4, 0, 0, 0, 0, 0, 0, 0]).1
theorem darninglaw7_awake.s {k : Bool → AH → Prop} (h : k true H) : darninglaw7_awake H k := by
  refine canon1 (κ := .bool) (by simp) rfl (darninglaw7_awake.link (_u := ()) ?_) h
  unfold darninglaw7_awake.b
  simp only [bcase_eq]
  rw [newC_eq]
  refine nvm_New.s (limits := [0]) (rows_one (g := fun v => Value.int .i64 v) (fun _ => rfl) 0) ?_ (fun h => absurd (by omega) h)
  intro _ H1 hm hk _
  have hK1 : Keeps H H1 := ((Keeps.refl H).push _).trans hk
  have hp : H.size ≤ (H.push ⟨[Value.int .i64 0], .rw, 1⟩).size := by simp [push_size]
  generalize (H.push ⟨[Value.int .i64 0], .rw, 1⟩).size = c at *
  refine lines_New.s hm (by unfold isI; omega) (by unfold isI; omega) (fun hh => absurd (by decide) hh) ?_
  intro _ H2 hL hk2 _
  rw [Option.isNone_some, if_neg (by simp), lineV_lit]
  have hl4 : isLine [4, 0, 0, 0, 0, 0, 0, 0] := isLine_lit (by unfold isU; omega)
  refine lines_Put.g (M' := a7) (r := 0) hL hl4 (Prod.ext rfl (by decide)) ?_
  intro H3 hL3 f3
  refine lines_Get.s hL3 ?_
  have e3 : lget (Int.toNat 5) (Int.toNat 2) a7 0 = ([4, 0, 0, 0, 0, 0, 0, 0], 0) := by decide
  rw [e3, zeroV]
  refine new_line hl4 ?_
  simp only [beq_self_eq_true, if_true]
  rw [ldA_some (line_new hl4), eq_line hl4 hl4]
  simp only [beq_self_eq_true, if_true]
  refine lines_Left.s (hL3.push _) ?_
  have e4 : lleft a7 (Int.toNat 2) = 1 := by decide
  rw [e4]
  rw [show (((1 : Nat) : Int) == 1) = true from rfl]
  refine lines_Slots.s (hL3.push _) ?_
  exact ⟨At.of_keeps ((f3.keeps (hK1.trans hk2) (by omega) hp).push _), rfl⟩
end
end Go.Proofs.Ytomeldimnhapfaa
