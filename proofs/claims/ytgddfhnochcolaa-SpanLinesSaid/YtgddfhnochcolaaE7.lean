import Derived.Test.YtgddfhnochcolaaE6
set_option linter.all false
set_option linter.all false
namespace Go.Proofs.Ytgddfhnochcolaa
open Go Go.Abs

/-! ## The reference model -/
def Ok (ws : List Int) : Prop := ∃ e, MR ws.length e ws
theorem MW.ok {F : Nat → Prop} {H : AH} {p : Nat} {ws : List Int} {root : Int} (h : MW F H p ws root) : Ok ws := by obtain ⟨s, E, h1, h2⟩ := h; exact ⟨_, h2⟩
theorem Ok.len {ws : List Int} (h : Ok ws) : 8 ≤ ws.length ∧ ws.length ≤ 512 ∧ words64 ws := by obtain ⟨e, h⟩ := h; have := h.range; exact ⟨by omega, by omega, h.u⟩
theorem Ok.blocks {ws : List Int} (h : Ok ws) : blocksN ws = some (blkL ws) := by obtain ⟨e, h⟩ := h; unfold blkL; rw [h.blocks]; rfl
theorem Ok.may {ws : List Int} (h : Ok ws) : MayB (blkL ws) ws.length := blocksN_may h.blocks
theorem Ok.blen {ws : List Int} (h : Ok ws) : (blkL ws).length ≤ 256 ∧ ∀ b ∈ blkL ws, 0 ≤ b.1 ∧ b.1 + b.2.1 ≤ ws.length ∧ 2 ≤ b.2.1 := by
  have h1 := h.may.len
  have h2 := h.len
  refine ⟨by omega, fun b hb => ?_⟩
  have := h.may.mem hb
  omega

structure RW (F : Nat → Prop) (H : AH) (p : Nat) (ws : List Int) (root : Int) (s : Sl) : Prop where
  obj : H.get p = ⟨[s.val, .int .i64 root], .rw, 0⟩
  own : Own 0 H s 1 wU ws
  fp : F p
  fs : ∀ a, s.a = some a → F a.block
  lt : Lt F H
def RM (F : Nat → Prop) (H : AH) (p : Nat) (ws : List Int) (root : Int) : Prop := ∃ s, RW F H p ws root s

section
variable {F : Nat → Prop} {H : AH} {p : Nat} {ws : List Int} {root : Int}
theorem RW.rows {s : Sl} (h : RW F H p ws root s) : Abs.Rows H s 1 wU ws := h.own.rows (fun _ => rfl) (fun _ => rfl)
theorem RW.c0 {s : Sl} (h : RW F H p ws root s) : AH.cell? H (Addr.add ⟨p, 0, none⟩ 0) = some (.slice s.a s.n s.k) := by simp [addr_add, AH.cell?, h.obj, Sl.val]
theorem RW.c1 {s : Sl} (h : RW F H p ws root s) : AH.cell? H (Addr.add ⟨p, 0, none⟩ 1) = some (.int .i64 root) := by simp [addr_add, AH.cell?, h.obj]
theorem RW.congr {H' : AH} {s : Sl} (h : RW F H p ws root s) (hs : H.size ≤ H'.size) (hg : ∀ b, F b → H'.get b = H.get b) : RW F H' p ws root s := by
  refine ⟨by rw [hg p h.fp]; exact h.obj, ?_, h.fp, h.fs, fun b hb => by have := h.lt b hb; omega⟩
  rcases h.own with h0 | ⟨b, h1, h2, h3, h4⟩
  · exact .inl h0
  · refine .inr ⟨b, h1, h2, by omega, ?_⟩
    rw [hg b (h.fs ⟨b, 0, none⟩ (by rw [h1]))]; exact h4
theorem RW.keeps {H' : AH} {s : Sl} (h : RW F H p ws root s) (hk : Keeps H H') : RW F H' p ws root s := h.congr hk.1 fun b hb => hk.2 b (h.lt b hb)
theorem RM.lt (h : RM F H p ws root) : Lt F H := by obtain ⟨s, h⟩ := h; exact h.lt
theorem RM.congr {H' : AH} (h : RM F H p ws root) (hs : H.size ≤ H'.size) (hg : ∀ b, F b → H'.get b = H.get b) : RM F H' p ws root := by
  obtain ⟨s, h⟩ := h
  exact ⟨s, h.congr hs hg⟩
theorem RM.keeps {H' : AH} (h : RM F H p ws root) (hk : Keeps H H') : RM F H' p ws root := h.congr hk.1 fun b hb => hk.2 b (h.lt b hb)
theorem RM.up {F1 F1' : Nat → Prop} {H' : AH} (h : RM F H p ws root) (hu : Up F1 H F1' H') (hd : Dj F1 F) : RM F H' p ws root := h.congr hu.1.1 fun b hb => hu.get hd h.lt hb

/-- New words are put. -/
theorem RW.put_words {H1 : AH} {s s' : Sl} {ws' : List Int} (h : RW F H p ws root s) (hk : Keeps H H1) (hO : Own H.size H1 s' 1 wU ws') :
    H1.canPut (Addr.add ⟨p, 0, none⟩ 0) 1 ∧ (∀ F' H', F' = (fun b => F b ∨ (H.size ≤ b ∧ b < H1.size)) → H' = H1.put (Addr.add ⟨p, 0, none⟩ 0) [s'.val] → RM F' H' p ws' root ∧ Up F H F' H') := by
  have hp := h.lt p h.fp
  have hobj : H1.get p = ⟨[s.val, .int .i64 root], .rw, 0⟩ := by rw [hk.2 p hp]; exact h.obj
  rw [addr_add]
  have hg : ∀ b, b ≠ p → (H1.put ⟨p, 0 + 0, none⟩ [s'.val]).get b = H1.get b := fun b hb => by simp [AH.put, upd_get, hb]
  refine ⟨⟨rfl, by simp [hobj], by simp [hobj]⟩, ?_⟩
  rintro F' H' rfl rfl
  refine ⟨⟨s', by simp [AH.put, upd_get, hobj, setMany], ?_, .inl h.fp, fun a ha => ?_, fun b hb => ?_⟩, ⟨⟨hk.1, fun b hb hn => ?_⟩, fun b hb => hb⟩⟩
  · rcases hO with h0 | ⟨b, h1, h2, h3, h4⟩
    · exact .inl h0
    · refine .inr ⟨b, h1, by omega, h3, ?_⟩
      rw [hg b (by omega)]; exact h4
  · rcases hO with ⟨h0, _⟩ | ⟨b, h1, h2, h3, h4⟩
    · rw [h0] at ha; cases ha
    · rw [h1] at ha
      injection ha with ha
      subst ha
      exact .inr ⟨h2, h3⟩
  · rcases hb with hb | hb
    · have := h.lt b hb; have := hk.1; show b < H1.size; omega
    · exact hb.2
  · rw [hg b (fun he => hn (he ▸ h.fp)), hk.2 b hb]

theorem darningref4_NewModel.s {n : Int} {k : Option Addr → AH → Prop} (h0 : ¬ mayW n → k none H) (h1 : mayW n → ∀ F' p' H', Keeps H H' → Up (fun _ => False) H F' H' → RM F' H' p' (firstN n) 0 → k (some ⟨p', 0, none⟩) H') : darningref4_NewModel n H k := by
  refine darningref4_NewModel.link ?_
  unfold darningref4_NewModel.b
  refine darningref4_mayWords.s ?_
  by_cases hm : mayW n
  rotate_left 1
  · rw [decide_eq_false hm, Bool.not_false, bcase_true]
    exact h0 hm
  rw [decide_eq_true hm, Bool.not_true, bcase_false]
  refine darningref4_First.s ?_
  intro s7 H7 hk7 hO7
  rw [newC_eq]
  have hk := hk7.push ⟨[s7.val, .int .i64 0], .rw, 0⟩
  have hge := hk7.1
  refine h1 hm (fun b => H.size ≤ b ∧ b < H7.size + 1) H7.size _ hk ⟨Keeps.kp hk, fun b hb => .inr hb⟩ ⟨s7, by rw [push_get, if_pos rfl], ?_, ⟨hge, by omega⟩, fun a ha => ?_, fun b hb => hb.2⟩
  · exact own_base (hO7.keep (by simp [push_size]) (fun b _ hb => push_get_ne (by omega))) (by omega)
  · rcases hO7 with ⟨h0, _⟩ | ⟨b, h1, h2, h3, h4⟩
    · rw [h0] at ha; cases ha
    · rw [h1] at ha
      injection ha with ha
      subst ha
      exact ⟨h2, by simp only; omega⟩

theorem darningref4_Model_Blocks.s {k : Sl → AH → Prop} (hok : Ok ws) (hM : RM F H p ws root) (h : ∀ s H', Keeps H H' → Own H.size H' s 3 bkV (blkL ws) → k s H') : darningref4_Model_Blocks (some ⟨p, 0, none⟩) H k := by
  obtain ⟨s, hA⟩ := hM
  have hl := hok.len
  refine darningref4_Model_Blocks.link ?_
  unfold darningref4_Model_Blocks.b
  rw [onPtr_mk, hA.c0, elL_some]
  refine darningref4_Blocks.s hA.rows hl.2.2 (by omega) ?_ (fun hb => by rw [hok.blocks] at hb; cases hb)
  intro l hb s' H' hk hO
  rw [hok.blocks] at hb
  injection hb with hb
  subst hb
  exact h s' H' hk hO

theorem darningref4_Model_Fits.s {n : Int} {k : Sl → AH → Prop} (hok : Ok ws) (hM : RM F H p ws root) (hn : isI n) (h : ∀ s H', Keeps H H' → Own H.size H' s 1 iV (fitO ws n) → k s H') : darningref4_Model_Fits (some ⟨p, 0, none⟩) n H k := by
  obtain ⟨hb1, hb3⟩ := hok.blen
  refine darningref4_Model_Fits.link ?_
  unfold darningref4_Model_Fits.b
  refine darningref4_Model_Blocks.s hok hM ?_
  intro s10 H10 hk10 hO10
  refine darningref4_Need.s hn ?_
  have hR10 := hO10.rows bkV_len bkV_ok
  refine darningref4_Fits.s hR10 (by omega) ?_
  intro s14 H14 hk14 hO14
  have hR14 := hO14.rows (fun _ => rfl) (fun _ => rfl)
  have hfl : (fitsL (blkL ws) (needN n)).length ≤ 256 := by
    have := fitO_len (ws := ws) (n := n)
    unfold fitO at this
    rw [List.length_map] at this; omega
  have hfm : ∀ i ∈ fitsL (blkL ws) (needN n), i < (blkL ws).length := by
    intro i hi
    unfold fitsL at hi
    split at hi
    · cases hi
    · exact (fitsTo_mem hi).1
  unfold fitO at h
  generalize fitsL (blkL ws) (needN n) = fl at *
  refine loopT_inv (t := ((⟨none, 0, 0⟩, (0 : Int)) : Sl × Int)) (I := fun (t : Sl × Int) H' => ∃ i : Nat, t.2 = (i : Int) ∧ i ≤ fl.length ∧ Keeps H14 H' ∧ Own H14.size H' t.1 1 iV ((fl.take i).map fun i => offN (bkAt (blkL ws) i).1)) (m := fun (t : Sl × Int) _ => Int.toNat ((fl.length : Int) - t.2)) ?_ ⟨0, rfl, by omega, Keeps.refl H14, .inl ⟨rfl, rfl⟩⟩
  intro t H1 hI it hit
  obtain ⟨s, t2⟩ := t
  obtain ⟨i, e1, hi, hk, hO⟩ := hI
  simp only at e1 hO
  subst e1
  unfold darningref4_Model_Fits.l1
  simp only [bcase_eq, decide_eq_true_eq, hR14.1]
  by_cases hlt : (i : Int) < (fl.length : Int)
  · rw [if_pos hlt]
    have hi' : i < fl.length := by omega
    have hR14' := hR14.keep hk
    obtain ⟨b, o, ha, hb, hcells⟩ := rows_cells hR14' (by omega)
    refine ⟨by omega, ?_⟩
    have hc := (hcells i fl[i] (List.getElem?_eq_getElem hi')).2 0 _ rfl
    rw [addr_add, addr_add] at hc
    rw [ha, onPtr_mk, Int.toNat_natCast, addr_add, show AH.cell? H1 ⟨b, o + i * 1, none⟩ = _ from hc, elI_some]
    have hj := hfm fl[i] (List.getElem_mem hi')
    have hgj := bkAt_get hj
    have hR10' := hR10.keep (hk14.trans hk)
    refine ⟨by rw [hR10.1]; omega, ?_⟩
    obtain ⟨b2, o2, ha2, hb2', hcells2⟩ := rows_cells hR10' (by omega)
    rw [ha2, onPtr_mk, Int.toNat_natCast, ldA_some (hcells2 _ _ hgj).1]
    refine darningref4_Off.s ?_
    rw [newC_eq]
    refine append_own (H0 := H14) (B := H14.size) (f := iV) (x := offN (bkAt (blkL ws) fl[i]).1) (fun _ => rfl) rfl hO (Nat.le_refl _) hk.1 hk (by rw [List.length_map, List.length_take]; simp only [lim]; omega) ?_
    intro s' H' hO' hk' _ _
    rw [wrap_i64 (n := (i : Int) + 1) (by omega) (by omega)]
    refine hit _ _ ⟨i + 1, by simp, by omega, hk', ?_⟩ (by simp only; omega)
    rw [List.take_succ, List.getElem?_eq_getElem hi', List.map_append]
    exact hO'
  · rw [if_neg hlt]
    have : i = fl.length := by omega
    subst this
    rw [List.take_length] at hO
    have hkk := (hk10.trans hk14)
    exact h _ _ (hkk.trans hk) (own_base hO hkk.1)


theorem darningref4_Model_Free.s {off : Int} {k : Int → AH → Prop} (hok : Ok ws) (hM : RM F H p ws root) (h : ∀ F' H', Up F H F' H' → RM F' H' p (aFree ws root off).2 root → k (aFree ws root off).1 H') : darningref4_Model_Free (some ⟨p, 0, none⟩) off H k := by
  have hM0 := hM
  obtain ⟨s, hA⟩ := hM
  have hl := hok.len
  refine darningref4_Model_Free.link ?_
  unfold darningref4_Model_Free.b
  rw [onPtr_mk, hA.c0, elL_some]
  refine darningref4_ImageFree.s hA.rows hl.2.2 (by omega) ?_
  intro s13 H13 hk13 hO13
  unfold aFree at h
  have hfl : (imgFree ws off).1.length ≤ 1 := by
    unfold imgFree
    split
    · simp
    · split <;> simp
  generalize imgFree ws off = r at *
  rw [bcase_eq]
  by_cases h0 : r.2 = 0
  rotate_left 1
  · rw [if_pos (by simpa using h0)]
    rw [if_pos h0] at h
    exact h F H13 ⟨Keeps.kp hk13, fun b hb => .inl hb⟩ (hM0.keeps hk13)
  rw [if_neg (by simpa using h0)]
  rw [if_neg (by simpa using h0)] at h
  have hA13 := hA.keeps hk13
  rw [onPtr_mk, hA13.c1, elI_some, bcase_eq]
  by_cases h1 : root = off
  · rw [if_pos (by simpa using h1)]
    rw [if_pos h1] at h
    exact h F H13 ⟨Keeps.kp hk13, fun b hb => .inl hb⟩ (hM0.keeps hk13)
  rw [if_neg (by simpa using h1)]
  rw [if_neg h1] at h
  rw [onPtr_mk, hA13.c0, elL_some]
  refine darningref4_Apply.s hA13.rows (by omega) (hO13.rows (fun _ => rfl) (fun _ => rfl)) (by omega) ?_
  intro s33 H33 hk33 hO33
  rw [onPtr_mk]
  obtain ⟨c1, c2⟩ := hA.put_words (hk13.trans hk33) (own_base hO33 hk13.1)
  refine ⟨c1, ?_⟩
  obtain ⟨c3, c4⟩ := c2 _ _ rfl rfl
  exact h _ _ c4 c3

theorem darningref4_Model_Write.s {off : Int} {x2 : Sl} {bs : List Int} {k : Int → AH → Prop} (hok : Ok ws) (hM : RM F H p ws root) (hoff : isI off) (hb : Abs.Rows H x2 1 bU bs) (h8 : bytes8 bs) (hbl : bs.length ≤ 1000000000000)
    (h : ∀ F' H', Up F H F' H' → RM F' H' p (aWrite ws off bs).2 root → k (aWrite ws off bs).1 H') : darningref4_Model_Write (some ⟨p, 0, none⟩) off x2 H k := by
  have hM0 := hM
  obtain ⟨s, hA⟩ := hM
  have hl := hok.len
  refine darningref4_Model_Write.link ?_
  unfold darningref4_Model_Write.b
  rw [onPtr_mk, hA.c0, elL_some]
  refine darningref4_ImageWrite.s hA.rows hl.2.2 (by omega) hoff hb h8 hbl ?_
  intro s16 H16 hk16 hO16
  unfold aWrite at h
  have hfl : (imgWrite ws off bs).1.length ≤ 1000 := by
    unfold imgWrite
    split
    · simp
    · split
      · rename_i hw
        have := hw.2.1
        unfold editsOf
        rw [List.length_map, List.length_range]
        unfold touched
        split <;> omega
      · simp
  generalize imgWrite ws off bs = r at *
  rw [bcase_eq]
  by_cases h0 : r.2 = 0
  rotate_left 1
  · rw [if_neg (by simpa using h0)]
    rw [if_neg h0] at h
    exact h F H16 ⟨Keeps.kp hk16, fun b hb => .inl hb⟩ (hM0.keeps hk16)
  rw [if_pos (by simpa using h0)]
  rw [if_pos h0] at h
  have hA16 := hA.keeps hk16
  rw [onPtr_mk, hA16.c0, elL_some]
  refine darningref4_Apply.s hA16.rows (by omega) (hO16.rows (fun _ => rfl) (fun _ => rfl)) (by omega) ?_
  intro s27 H27 hk27 hO27
  rw [onPtr_mk]
  obtain ⟨c1, c2⟩ := hA.put_words (hk16.trans hk27) (own_base hO27 hk16.1)
  refine ⟨c1, ?_⟩
  obtain ⟨c3, c4⟩ := c2 _ _ rfl rfl
  rw [h0]
  exact h _ _ c4 c3

theorem darningref4_Model_SetRoot.s {off : Int} {k : Int → AH → Prop} (hok : Ok ws) (hM : RM F H p ws root) (h : ∀ H', Up F H F H' → RM F H' p ws (aRoot ws root off).2 → k (aRoot ws root off).1 H') : darningref4_Model_SetRoot (some ⟨p, 0, none⟩) off H k := by
  have hM0 := hM
  obtain ⟨s, hA⟩ := hM
  obtain ⟨hbl, _⟩ := hok.blen
  refine darningref4_Model_SetRoot.link ?_
  unfold darningref4_Model_SetRoot.b
  have bad : ∀ H', Keeps H H' → off ≠ 0 ∧ isN off (blkL ws) 0 < 0 → darningref4_Model_SetRoot.j1 (some ⟨p, 0, none⟩) off k true H' := by
    intro H' hk hb
    unfold darningref4_Model_SetRoot.j1
    rw [bcase_true]
    unfold aRoot at h
    rw [if_pos hb] at h
    exact h H' ⟨Keeps.kp hk, fun b hb => .inl hb⟩ (hM0.keeps hk)
  have good : ∀ H', Keeps H H' → ¬ (off ≠ 0 ∧ isN off (blkL ws) 0 < 0) → darningref4_Model_SetRoot.j1 (some ⟨p, 0, none⟩) off k false H' := by
    intro H' hk hb
    unfold darningref4_Model_SetRoot.j1
    rw [bcase_false, onPtr_mk]
    unfold aRoot at h
    rw [if_neg hb] at h
    have hA' := hA.keeps hk
    have hobj := hA'.obj
    rw [addr_add]
    have hg : ∀ b, b ≠ p → (H'.put ⟨p, 0 + 1, none⟩ [.int .i64 off]).get b = H'.get b := fun b hb => by simp [AH.put, upd_get, hb]
    refine ⟨⟨rfl, by simp [hobj], by simp [hobj]⟩, ?_⟩
    refine h _ ⟨⟨hk.1, fun b hb hn => by rw [hg b (fun he => hn (he ▸ hA.fp)), hk.2 b hb]⟩, fun b hb => .inl hb⟩ ⟨s, by simp [AH.put, upd_get, hobj, setMany], ?_, hA.fp, hA.fs, hA'.lt⟩
    rcases hA'.own with h0 | ⟨b, h1, h2, h3, h4⟩
    · exact .inl h0
    · refine .inr ⟨b, h1, h2, h3, ?_⟩
      rw [hg b (fun he => by rw [he, hobj] at h4; simp at h4)]; exact h4
  rw [bcase_eq]
  by_cases h0 : off = 0
  · rw [if_neg (by simpa using h0)]
    exact good H (Keeps.refl H) (fun hh => hh.1 h0)
  · rw [if_pos (by simpa using h0)]
    refine darningref4_Model_Blocks.s hok hM0 ?_
    intro s9 H9 hk9 hO9
    refine darningref4_Is.s (hO9.rows bkV_len bkV_ok) (by omega) ?_
    by_cases hf : isN off (blkL ws) 0 < 0
    · rw [decide_eq_true hf]; exact bad H9 hk9 ⟨h0, hf⟩
    · rw [decide_eq_false hf]; exact good H9 hk9 (fun hh => hf hh.2)

theorem darningref4_ReadBytes.s {x0 : Sl} {off n : Int} {k : Sl → Bool → AH → Prop} (hr : Abs.Rows H x0 1 wU ws) (h64 : words64 ws) (hl : ws.length ≤ 1000) (hoff : isI off) (hn : isI n)
    (h1 : inside ws.length off n → ∀ s H', Keeps H H' → Own H.size H' s 1 bU (bytesOf ws off.toNat n.toNat) → k s true H') (h0 : ¬ inside ws.length off n → k ⟨none, 0, 0⟩ false H) : darningref4_ReadBytes x0 off n H k := by
  refine darningref4_ReadBytes.link ?_
  unfold darningref4_ReadBytes.b
  rw [hr.1]
  refine darningref4_inside.s (by omega) hoff hn ?_
  by_cases hin : inside ws.length off n
  rotate_left 1
  · rw [decide_eq_false hin, Bool.not_false, bcase_true]; exact h0 hin
  rw [decide_eq_true hin, Bool.not_true, bcase_false]
  have hin' := hin
  unfold inside at hin'
  obtain ⟨o, rfl⟩ := Int.eq_ofNat_of_zero_le hin'.1
  obtain ⟨m, rfl⟩ := Int.eq_ofNat_of_zero_le hin'.2.1
  simp only [Int.toNat_natCast] at h1
  refine loopT_inv (t := ((⟨none, 0, 0⟩, (o : Int)) : Sl × Int)) (I := fun (t : Sl × Int) H' => ∃ j : Nat, t.2 = (o : Int) + (j : Int) ∧ j ≤ m ∧ Keeps H H' ∧ Own H.size H' t.1 1 bU (bytesOf ws o j)) (m := fun (t : Sl × Int) _ => Int.toNat ((o : Int) + (m : Int) - t.2)) ?_ ⟨0, by simp, by omega, Keeps.refl H, .inl ⟨rfl, rfl⟩⟩
  intro t H1 hI it hit
  obtain ⟨s, t2⟩ := t
  obtain ⟨j, e1, hj, hk, hO⟩ := hI
  simp only at e1 hO
  subst e1
  unfold darningref4_ReadBytes.l1
  simp only [bcase_eq, decide_eq_true_eq]
  rw [wrap_i64 (n := (o : Int) + (m : Int)) (by omega) (by omega)]
  by_cases hlt : (o : Int) + (j : Int) < (o : Int) + (m : Int)
  rotate_left 1
  · rw [if_neg hlt]
    have : j = m := by omega
    subst this
    exact h1 hin s H1 hk hO
  rw [if_pos hlt]
  have e8 : ((o : Int) + (j : Int)) / 8 = (((o + j) / 8 : Nat) : Int) := by omega
  have em : ((o : Int) + (j : Int)) % 8 = (((o + j) % 8 : Nat) : Int) := by omega
  rw [Int.tdiv_eq_ediv_of_nonneg (by omega), Int.tmod_eq_emod_of_nonneg (by omega), e8, em, wrap_i64 (n := (((o + j) / 8 : Nat) : Int)) (by omega) (by omega), wrap_i64 (n := (((o + j) % 8 : Nat) : Int) * 8) (by omega) (by omega), wrap_u64 (by omega) (by omega)]
  have hlt8 : (o + j) / 8 < ws.length := by omega
  refine ⟨by decide, ⟨by omega, by rw [hr.1]; omega⟩, ?_⟩
  obtain ⟨b, ofs, ha, hb, hcells⟩ := rows_cells (hr.keep hk) (by omega)
  have hc := (hcells ((o + j) / 8) _ (List.getElem?_eq_getElem hlt8)).2 0 _ rfl
  rw [addr_add, addr_add] at hc
  rw [ha, onPtr_mk, Int.toNat_natCast, addr_add, show AH.cell? H1 ⟨b, ofs + (o + j) / 8 * 1, none⟩ = _ from hc, elI_some]
  refine ⟨by decide, by omega, ?_⟩
  rw [newC_eq]
  have hw : isU ws[(o + j) / 8] := h64 _ (List.getElem_mem hlt8)
  have hval : IntKind.wrap .u8 (shrI .u64 ws[(o + j) / 8] ((((o + j) % 8 : Nat) : Int) * 8)) = byteAt ws (o + j) := by
    rw [Int.mul_comm, word_get hw (by omega)]
    unfold byteAt
    rw [List.getD_eq_getElem?_getD, List.getElem?_eq_getElem hlt8]; rfl
  rw [hval]
  have hsn : bytesOf ws o j ++ [byteAt ws (o + j)] = bytesOf ws o (j + 1) := by
    unfold bytesOf
    rw [List.range_succ, List.map_append]; rfl
  refine append_own (H0 := H) (B := H.size) (f := bU) (x := byteAt ws (o + j)) (fun _ => rfl) rfl hO (Nat.le_refl _) hk.1 hk (by rw [bytesOf_len]; simp only [lim]; omega) ?_
  intro s' H' hO' hk' _ _
  rw [hsn] at hO'
  rw [wrap_i64 (n := (o : Int) + (j : Int) + 1) (by omega) (by omega)]
  exact hit _ _ ⟨j + 1, by simp only; omega, by omega, hk', hO'⟩ (by simp only; omega)

theorem darningref4_Model_Read.s {off n : Int} {k : Sl → Int → AH → Prop} (hok : Ok ws) (hM : RM F H p ws root) (hoff : isI off) (hn : isI n)
    (h : ∀ s H', Keeps H H' → Own H.size H' s 1 bU (aRead ws off n).1 → k s (aRead ws off n).2 H') : darningref4_Model_Read (some ⟨p, 0, none⟩) off n H k := by
  obtain ⟨s, hA⟩ := hM
  have hl := hok.len
  obtain ⟨hbl, hbm⟩ := hok.blen
  refine darningref4_Model_Read.link ?_
  unfold darningref4_Model_Read.b
  rw [onPtr_mk, hA.c0, elL_some]
  refine darningref4_ImageRead.link ?_
  unfold darningref4_ImageRead.b
  refine darningref4_Blocks.s hA.rows hl.2.2 (by omega) ?_ (fun hb => by rw [hok.blocks] at hb; cases hb)
  intro l hb s14 H14 hk14 hO14
  rw [hok.blocks] at hb
  injection hb with hb
  subst hb
  rw [Bool.not_true, bcase_false]
  unfold aRead at h
  refine darningref4_Within.s (hO14.rows bkV_len bkV_ok) (by omega) (fun b hb => by have := hbm b hb; omega) ?_ ?_
  · intro hw
    rw [Bool.not_true, bcase_false]
    rw [if_pos hw] at h
    have hin := within_inside hok.may hw
    refine darningref4_ReadBytes.s (hA.keeps hk14).rows hl.2.2 (by omega) hoff hn ?_ (fun hni => absurd hin hni)
    intro _ s28 H28 hk28 hO28
    exact h s28 H28 (hk14.trans hk28) (own_base hO28 hk14.1)
  · intro hw
    rw [Bool.not_false, bcase_true]
    rw [if_neg hw] at h
    exact h _ H14 hk14 (.inl ⟨rfl, rfl⟩)

theorem darningref4_Model_Alloc.s {n off : Int} {k : Bool → AH → Prop} (hok : Ok ws) (hM : RM F H p ws root) (hn : isI n) (h : ∀ F' H', Up F H F' H' → RM F' H' p (aAlloc ws n off).2 root → k (aAlloc ws n off).1 H') : darningref4_Model_Alloc (some ⟨p, 0, none⟩) n off H k := by
  have hM0 := hM
  obtain ⟨s, hA⟩ := hM
  have hl := hok.len
  obtain ⟨hbl, hbm⟩ := hok.blen
  refine darningref4_Model_Alloc.link ?_
  unfold darningref4_Model_Alloc.b
  refine darningref4_Model_Blocks.s hok hM0 ?_
  intro s11 H11 hk11 hO11
  refine darningref4_Need.s hn ?_
  have hR11 := hO11.rows bkV_len bkV_ok
  refine darningref4_Fits.s hR11 (by omega) ?_
  intro s15 H15 hk15 hO15
  have hR15 := hO15.rows (fun _ => rfl) (fun _ => rfl)
  have hfm : ∀ i ∈ fitI ws n, i < (blkL ws).length ∧ (bkAt (blkL ws) i).2.2 = false ∧ needN n ≤ (bkAt (blkL ws) i).2.1 ∧ 2 ≤ needN n := fun i hi => fitI_mem hi
  have hfl : (fitI ws n).length ≤ 256 := by
    have := fitO_len (ws := ws) (n := n)
    unfold fitO at this
    rw [List.length_map] at this
    unfold fitI; omega
  unfold aAlloc at h
  have hfe : fitsL (blkL ws) (needN n) = fitI ws n := rfl
  rw [hfe] at hR15
  generalize fitI ws n = fl at *
  have hk0 := hk11.trans hk15
  refine loopT_inv (t := ((false, (0 : Int)) : Bool × Int)) (I := fun (t : Bool × Int) H' => ∃ i : Nat, t.2 = (i : Int) ∧ i ≤ fl.length ∧ Keeps H15 H' ∧ fl.find? (fun i => offN (bkAt (blkL ws) i).1 == off) = (fl.drop i).find? (fun i => offN (bkAt (blkL ws) i).1 == off)) (m := fun (t : Bool × Int) _ => Int.toNat ((fl.length : Int) - t.2)) ?_ ⟨0, rfl, by omega, Keeps.refl H15, rfl⟩
  intro t H1 hI it hit
  obtain ⟨t0, t2⟩ := t
  obtain ⟨i, e1, hi, hk, hfd⟩ := hI
  simp only at e1
  subst e1
  unfold darningref4_Model_Alloc.l1
  simp only [bcase_eq, decide_eq_true_eq, hR15.1]
  have hkH := hk0.trans hk
  by_cases hlt : (i : Int) < (fl.length : Int)
  rotate_left 1
  · rw [if_neg hlt]
    have : i = fl.length := by omega
    subst this
    rw [List.drop_length] at hfd
    rw [hfd] at h
    exact h F H1 ⟨Keeps.kp hkH, fun b hb => .inl hb⟩ (hM0.keeps hkH)
  rw [if_pos hlt]
  have hi' : i < fl.length := by omega
  obtain ⟨b, o, ha, hb, hcells⟩ := rows_cells (hR15.keep hk) (by omega)
  refine ⟨by omega, ?_⟩
  have hc := (hcells i fl[i] (List.getElem?_eq_getElem hi')).2 0 _ rfl
  rw [addr_add, addr_add] at hc
  rw [ha, onPtr_mk, Int.toNat_natCast, addr_add, show AH.cell? H1 ⟨b, o + i * 1, none⟩ = _ from hc, elI_some]
  obtain ⟨q1, q2, q3, q4⟩ := hfm fl[i] (List.getElem_mem hi')
  have hR11' := hR11.keep (hk15.trans hk)
  refine ⟨by rw [hR11.1]; omega, ?_⟩
  obtain ⟨b2, o2, ha2, hb2', hcells2⟩ := rows_cells hR11' (by omega)
  rw [ha2, onPtr_mk, Int.toNat_natCast, ldA_some (hcells2 _ _ (bkAt_get q1)).1]
  refine darningref4_Off.s ?_
  rw [drop_cons hi', List.find?_cons] at hfd
  by_cases ho : offN (bkAt (blkL ws) fl[i]).1 = off
  rotate_left 1
  · rw [if_neg (by simpa using ho), wrap_i64 (n := (i : Int) + 1) (by omega) (by omega)]
    rw [show (offN (bkAt (blkL ws) fl[i]).1 == off) = false by simpa using ho] at hfd
    exact hit _ _ ⟨i + 1, by simp, by omega, hk, hfd⟩ (by simp only; omega)
  rw [if_pos (by simpa using ho)]
  rw [show (offN (bkAt (blkL ws) fl[i]).1 == off) = true by simpa using ho] at hfd
  rw [hfd] at h
  have hA1 := hA.keeps hkH
  rw [onPtr_mk, hA1.c0, elL_some]
  refine darningref4_Need.s hn ?_
  refine ⟨hA1.c0, ?_⟩
  refine darningref4_CarveEdits.s hR11' hok.may q1 q2 ⟨q4, q3⟩ ?_
  intro s37 H37 hk37 hO37
  have hA37 := hA1.keeps hk37
  refine ⟨hA37.c0, ?_⟩
  have hcl := (carveE_mem (b := bkAt (blkL ws) fl[i]) ⟨q4, q3⟩).2
  have hnl := needN_le n
  refine darningref4_Apply.s hA37.rows (by omega) (hO37.rows (fun _ => rfl) (fun _ => rfl)) (by omega) ?_
  intro s38 H38 hk38 hO38
  rw [onPtr_mk]
  obtain ⟨c1, c2⟩ := hA.put_words ((hkH.trans hk37).trans hk38) (own_base hO38 (hkH.trans hk37).1)
  refine ⟨c1, ?_⟩
  obtain ⟨c3, c4⟩ := c2 _ _ rfl rfl
  exact h _ _ c4 c3
end
end Go.Proofs.Ytgddfhnochcolaa
