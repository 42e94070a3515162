import Derived.Test.YtgddfhnochcolaaE2
set_option linter.all false
set_option linter.all false
namespace Go.Proofs.Ytgddfhnochcolaa
open Go Go.Abs

/-! ### plain: extents and blocks -/
def findX (off : Int) : List (Ex × Nat) → Nat → Int
  | [], _ => -1
  | x :: r, i => if (x.1.1 + 1) * 8 = off then (i : Int) else findX off r (i + 1)
theorem findX_cases (off : Int) : ∀ (l : List (Ex × Nat)) (i : Nat), (findX off l i = -1 ∧ ∀ x ∈ l, (x.1.1 + 1) * 8 ≠ off) ∨
    ∃ e1 x e2, l = e1 ++ x :: e2 ∧ findX off l i = ((i + e1.length : Nat) : Int) ∧ (x.1.1 + 1) * 8 = off := by
  intro l
  induction l with
  | nil => intro i; exact .inl ⟨rfl, fun x hx => by cases hx⟩
  | cons x r ih =>
    intro i
    unfold findX
    split
    · rename_i h; exact .inr ⟨[], x, r, rfl, rfl, h⟩
    · rename_i h
      rcases ih (i + 1) with ⟨h1, h2⟩ | ⟨e1, y, e2, h1, h2, h3⟩
      · refine .inl ⟨h1, fun y hy => ?_⟩
        rw [List.mem_cons] at hy
        rcases hy with rfl | hy
        · exact h
        · exact h2 y hy
      · exact .inr ⟨x :: e1, y, e2, by rw [h1]; rfl, by rw [h2]; simp only [List.length_cons]; omega, h3⟩
theorem isN_none {off : Int} : ∀ {l : List Bk} {i : Nat}, isN off l i = -1 → ∀ b ∈ l, ¬ (b.2.2 = true ∧ offN b.1 = off) := by
  intro l
  induction l with
  | nil => intro i _ b hb; cases hb
  | cons a r ih =>
    intro i h b hb
    unfold isN at h
    split at h
    · omega
    · rename_i hn
      rw [List.mem_cons] at hb
      rcases hb with rfl | hb
      · exact hn
      · exact ih h b hb
section
variable {words off : Int} {e e1 e2 : List Ex} {x : Ex} {ws : List Int}
theorem MR.offx (h : MR words e ws) (hx : x ∈ e) : offN x.1 = (x.1 + 1) * 8 := by
  have := h.mem hx
  have := h.range
  unfold offN; rw [if_pos (by omega)]
theorem MR.is_none (h : MR words e ws) (hn : ∀ x ∈ e, (x.1 + 1) * 8 ≠ off) : isN off (blkX words e) 0 = -1 := by
  rcases isN_cases off (blkX words e) 0 with h0 | ⟨j, h1, h2, h3, h4⟩
  · exact h0
  · exfalso
    obtain ⟨x, hx, hb⟩ := used_mem (List.mem_of_getElem? (bkAt_get h2)) h3
    rw [hb] at h4
    simp only at h4
    rw [h.offx hx] at h4
    exact hn x hx h4
theorem MR.is_at (h : MR words (e1 ++ x :: e2) ws) (ho : (x.1 + 1) * 8 = off) : isN off (blkX words (e1 ++ x :: e2)) 0 = (((bg 0 e1).length + (gapB (endX 0 e1) x.1).length : Nat) : Int) := by
  have hxm : x ∈ e1 ++ x :: e2 := by simp
  rcases isN_cases off (blkX words (e1 ++ x :: e2)) 0 with h0 | ⟨j, h1, h2, h3, h4⟩
  · exfalso
    exact isN_none h0 _ (mem_used hxm) ⟨rfl, by simp only; rw [h.offx hxm]; exact ho⟩
  · obtain ⟨e1', y, e2', hE, hj, hb⟩ := used_split (bkAt_get h2) h3
    have hb' : bkAt (blkX words (e1 ++ x :: e2)) j = (y.1, y.2.1, true) := hb
    rw [hb'] at h4
    simp only at h4
    have hym : y ∈ e1 ++ x :: e2 := by rw [hE]; simp
    rw [h.offx hym] at h4
    obtain ⟨u1, u2, u3⟩ := ex_uniq h.ok.1 hE (show x.1 = y.1 by omega)
    rw [h1, hj, u1, u2]
    congr 1; omega
theorem MR.imgFree_none (h : MR words e ws) (hn : ∀ x ∈ e, (x.1 + 1) * 8 ≠ off) : imgFree ws off = ([], 1) := by
  unfold imgFree
  rw [h.blocks]
  simp only
  rw [h.is_none hn, if_pos (by omega)]
theorem MR.imgFree_at (h : MR words (e1 ++ x :: e2) ws) (ho : (x.1 + 1) * 8 = off) : imgFree ws off = ([(endX 0 e1, wordN (startX words e2 - endX 0 e1) false)], 0) := by
  unfold imgFree
  rw [h.blocks]
  simp only
  rw [h.is_at ho, if_neg (by omega), Int.toNat_natCast]
  obtain ⟨m1, m2⟩ := merged_at h.ok rfl
  rw [m1, m2]
theorem MR.within (h : MR words e ws) {n : Int} : withinN (blkX words e) off n ↔ 0 ≤ n ∧ n ≤ 448 ∧ ∃ x ∈ e, (x.1 + 1) * 8 ≤ off ∧ off + n ≤ (x.1 + x.2.1) * 8 := by
  unfold withinN inB
  constructor
  · rintro ⟨h1, h2, b, hb, h3, h4, h5, h6⟩
    obtain ⟨x, hx, rfl⟩ := used_mem hb h3
    simp only at h4 h5 h6
    rw [h.offx hx] at h4
    exact ⟨h1, h2, x, hx, by omega⟩
  · rintro ⟨h1, h2, x, hx, h3, h4⟩
    refine ⟨h1, h2, _, mem_used hx, rfl, ?_⟩
    simp only
    rw [h.offx hx]; omega
end

/-! ### pure answers -/
def aFree (ws : List Int) (root off : Int) : Int × List Int := if (imgFree ws off).2 ≠ 0 then ((imgFree ws off).2, ws) else if root = off then (5, ws) else (0, applyE ws (imgFree ws off).1)
def aWrite (ws : List Int) (off : Int) (bs : List Int) : Int × List Int := if (imgWrite ws off bs).2 = 0 then (0, applyE ws (imgWrite ws off bs).1) else ((imgWrite ws off bs).2, ws)
def aRoot (ws : List Int) (root off : Int) : Int × Int := if off ≠ 0 ∧ isN off (blkL ws) 0 < 0 then (1, root) else (0, off)
def aRead (ws : List Int) (off n : Int) : List Int × Int := if withinN (blkL ws) off n then (bytesOf ws off.toNat n.toNat, 0) else ([], 1)

section
variable {F : Nat → Prop} {H : AH} {p : Nat} {ws : List Int} {root : Int}

theorem model_Model_Blocks.s {k : Sl → AH → Prop} (hM : MW F H p ws root) (h : ∀ s H', Keeps H H' → Own H.size H' s 3 bkV (blkL ws) → k s H') : model_Model_Blocks (some ⟨p, 0, none⟩) H k := by
  obtain ⟨s, E, hA, hR⟩ := hM
  refine model_Model_Blocks.link ?_
  unfold model_Model_Blocks.b
  have hrange := hR.range
  rw [Option.isNone_some, bcase_false, onPtr_mk, hA.c1, elL_some, onPtr_mk, hA.c0, elI_some]
  refine ⟨rfl, ?_⟩
  rw [newC_eq]
  have hk1 := (Keeps.refl H).push ⟨[.int .i64 (ws.length : Int), .int .i64 0, .slice none 0 0], .rw, 3⟩
  have hrows : Abs.Rows H s 3 exW (E.map toW) := rows_map toW (fun _ => rfl) hA.rows
  have hel : E.length ≤ 512 := by
    have h1 := hR.may.len
    have h2 : (E.map (·.1)).length ≤ (blkX ws.length (E.map (·.1))).length := by
      have : ∀ (e : List Ex) (p : Int), e.length ≤ (bg p e).length := by
        intro e
        induction e with
        | nil => intro p; exact Nat.zero_le _
        | cons x r ih => intro p; have := ih (x.1 + x.2.1); simp only [bg, List.length_cons, List.length_append]; omega
      have := this (E.map (·.1)) 0
      unfold blkX
      rw [List.length_append]; omega
    rw [List.length_map] at h2
    omega
  have hg1 : (H.push ⟨[.int .i64 (ws.length : Int), .int .i64 0, .slice none 0 0], .rw, 3⟩).get H.size = ⟨exW ((ws.length : Int), 0, ⟨none, 0, 0⟩), .rw, 3⟩ := by rw [push_get, if_pos rfl]; rfl
  have hz1 : H.size < (H.push ⟨[.int .i64 (ws.length : Int), .int .i64 0, .slice none 0 0], .rw, 3⟩).size := by simp [push_size]
  generalize H.push ⟨[.int .i64 (ws.length : Int), .int .i64 0, .slice none 0 0], .rw, 3⟩ = H1 at *
  refine slices_Clone_extent.s (f := exW) (l := E.map toW) (fun _ => rfl) (fun _ => rfl) (hrows.keep hk1) (by rw [List.length_map]; omega) ?_
  intro s13 H13 hk13 hO13
  have hk := hk1.trans hk13
  refine ⟨(hA.keeps hk).c0, ?_⟩
  refine append_listS (H0 := H) (B := H1.size) (l := E.map toW) (r := [((ws.length : Int), 0, ⟨none, 0, 0⟩)]) (f := exW) (fun _ => rfl) (fun _ => rfl) hO13 (one_rows (fun _ => rfl) (fun _ => rfl) (by have := hk13.1; omega) (by rw [hk13.2 _ hz1, hg1])) (by have := hk1.1; omega) hk13.1 hk (Nat.le_trans (by simp [lim]; omega) (limS_le 3)) ?_
  intro s20 H20 hO20 hk20 _ _
  refine model_Blocks_loop (hO20.rows (fun _ => rfl) (fun _ => rfl)) hR.mw hR.ok ?_ ?_
  · simp [toW]
  · intro s' H' hk' hO'
    refine h s' H' (hk20.trans hk') ?_
    rw [MW.blk hR]
    exact own_base hO' hk20.1

theorem MW.blen (hM : MW F H p ws root) : (blkL ws).length ≤ 256 ∧ ws.length ≤ 512 ∧ ∀ b ∈ blkL ws, 0 ≤ b.1 ∧ b.1 + b.2.1 ≤ ws.length ∧ 2 ≤ b.2.1 := by
  obtain ⟨s, E, hA, hR⟩ := hM
  rw [MW.blk hR]
  have := hR.may.len
  refine ⟨by omega, by omega, fun b hb => ?_⟩
  have := hR.may.mem hb
  omega

theorem fitO_len {n : Int} : (fitO ws n).length ≤ (blkL ws).length := by
  unfold fitO fitsL
  rw [List.length_map]
  split
  · exact Nat.zero_le _
  · exact fitsTo_len

theorem model_Model_Fits.s {n : Int} {k : Sl → AH → Prop} (hM : MW F H p ws root) (hn : isI n) (h : ∀ s H', Keeps H H' → Own H.size H' s 1 iV (fitO ws n) → k s H') : model_Model_Fits (some ⟨p, 0, none⟩) n H k := by
  obtain ⟨hb1, hb2, hb3⟩ := hM.blen
  refine model_Model_Fits.link ?_
  unfold model_Model_Fits.b
  refine model_Model_Blocks.s hM ?_
  intro s10 H10 hk10 hO10
  refine fit_Need.s hn ?_
  have hR10 := hO10.rows bkV_len bkV_ok
  refine fit_Fits.s hR10 (by omega) ?_
  intro s14 H14 hk14 hO14
  have hR14 := hO14.rows (fun _ => rfl) (fun _ => rfl)
  have hfl : (fitsL (blkL ws) (needN n)).length ≤ 256 := by
    have := fitO_len (ws := ws) (n := n)
    unfold fitO at this
    rw [List.length_map] at this; omega
  have hfm : ∀ i ∈ fitsL (blkL ws) (needN n), i < (blkL ws).length := by
    intro i hi
    unfold fitsL at hi
    split at hi
    · cases hi
    · exact (fitsTo_mem hi).1
  unfold fitO at h
  generalize fitsL (blkL ws) (needN n) = fl at *
  refine loopT_inv (t := ((⟨none, 0, 0⟩, (0 : Int)) : Sl × Int)) (I := fun (t : Sl × Int) H' => ∃ i : Nat, t.2 = (i : Int) ∧ i ≤ fl.length ∧ Keeps H14 H' ∧ Own H14.size H' t.1 1 iV ((fl.take i).map fun i => offN (bkAt (blkL ws) i).1)) (m := fun (t : Sl × Int) _ => Int.toNat ((fl.length : Int) - t.2)) ?_ ⟨0, rfl, by omega, Keeps.refl H14, .inl ⟨rfl, rfl⟩⟩
  intro t H1 hI it hit
  obtain ⟨s, t2⟩ := t
  obtain ⟨i, e1, hi, hk, hO⟩ := hI
  simp only at e1 hO
  subst e1
  unfold model_Model_Fits.l1
  simp only [bcase_eq, decide_eq_true_eq, hR14.1]
  by_cases hlt : (i : Int) < (fl.length : Int)
  · rw [if_pos hlt]
    have hi' : i < fl.length := by omega
    have hR14' := hR14.keep hk
    obtain ⟨b, o, ha, hb, hcells⟩ := rows_cells hR14' (by omega)
    refine ⟨by omega, ?_⟩
    have hc := (hcells i fl[i] (List.getElem?_eq_getElem hi')).2 0 _ rfl
    rw [addr_add, addr_add] at hc
    rw [ha, onPtr_mk, Int.toNat_natCast, addr_add, show AH.cell? H1 ⟨b, o + i * 1, none⟩ = _ from hc, elI_some]
    have hj := hfm fl[i] (List.getElem_mem hi')
    have hgj := bkAt_get hj
    have hR10' := hR10.keep (hk14.trans hk)
    refine ⟨by rw [hR10.1]; omega, ?_⟩
    obtain ⟨b2, o2, ha2, hb2', hcells2⟩ := rows_cells hR10' (by omega)
    rw [ha2, onPtr_mk, Int.toNat_natCast, ldA_some (hcells2 _ _ hgj).1]
    refine carve_Off.s ?_
    rw [newC_eq]
    refine append_own (H0 := H14) (B := H14.size) (f := iV) (x := offN (bkAt (blkL ws) fl[i]).1) (fun _ => rfl) rfl hO (Nat.le_refl _) hk.1 hk (by rw [List.length_map, List.length_take]; simp only [lim]; omega) ?_
    intro s' H' hO' hk' _ _
    rw [wrap_i64 (n := (i : Int) + 1) (by omega) (by omega)]
    refine hit _ _ ⟨i + 1, by simp, by omega, hk', ?_⟩ (by simp only; omega)
    rw [List.take_succ, List.getElem?_eq_getElem hi', List.map_append]
    exact hO'
  · rw [if_neg hlt]
    have : i = fl.length := by omega
    subst this
    rw [List.take_length] at hO
    have hkk := (hk10.trans hk14)
    exact h _ _ (hkk.trans hk) (own_base hO hkk.1)

theorem model_Model_find_1.s {x : Ex × Nat} {o : Nat} {off : Int} {k : Bool → AH → Prop} (hx : 0 ≤ x.1.1 ∧ x.1.1 ≤ 100000) (ho : o < H.size) (hc : AH.cell? H ⟨o, 0, none⟩ = some (.int .i64 off)) (h : k ((x.1.1 + 1) * 8 == off) H) : model_Model_find_1 (exV x) (some ⟨o, 0, none⟩) H k := by
  refine gcB ((x.1.1 + 1) * 8 == off) (model_Model_find_1.link ?_) h
  unfold model_Model_find_1.b
  rw [newC_eq]
  have hk := (Keeps.refl H).push ⟨exV x, .rw, 0⟩
  have hrow : AH.row? (H.push ⟨exV x, .rw, 0⟩) ⟨H.size, 0, none⟩ 3 = some (exV x) := row_new rfl rfl
  have hc' : AH.cell? (H.push ⟨exV x, .rw, 0⟩) ⟨o, 0, none⟩ = some (.int .i64 off) := by rw [← hc]; simp only [AH.cell?]; rw [push_get_ne (by omega)]
  generalize H.push ⟨exV x, .rw, 0⟩ = H1 at *
  rw [ldA_some hrow, onPtr_mk, hc', elI_some]
  refine model_extent_off.s hx ?_
  exact ⟨hc', hk, rfl⟩

theorem slices_IndexFunc_extent_at_model_Model_find_1.s {x0 : Sl} {E : List (Ex × Nat)} {o : Nat} {off : Int} {k : Int → AH → Prop} (hr : Abs.Rows H x0 3 exV E) (hl : E.length ≤ 100000) (hE : ∀ x ∈ E, 0 ≤ x.1.1 ∧ x.1.1 ≤ 100000) (ho : o < H.size) (hc : AH.cell? H ⟨o, 0, none⟩ = some (.int .i64 off))
    (h : k (findX off E 0) H) : slices_IndexFunc_extent_at_model_Model_find_1 x0 (some ⟨o, 0, none⟩) H k := by
  refine gcI (j := .i64) (findX off E 0) (slices_IndexFunc_extent_at_model_Model_find_1.link ?_) h
  unfold slices_IndexFunc_extent_at_model_Model_find_1.b
  refine loopT_inv (t := (((0 : Int), (0 : Int)) : Int × Int)) (I := fun (t : Int × Int) H' => ∃ i : Nat, t.2 = (i : Int) ∧ i ≤ E.length ∧ Keeps H H' ∧ findX off E 0 = findX off (E.drop i) i) (m := fun (t : Int × Int) _ => Int.toNat ((E.length : Int) - t.2)) ?_ ⟨0, rfl, by omega, Keeps.refl H, rfl⟩
  intro t H1 hI it hit
  obtain ⟨t1, t2⟩ := t
  obtain ⟨i, e1, hi, hk, he⟩ := hI
  simp only at e1
  subst e1
  unfold slices_IndexFunc_extent_at_model_Model_find_1.l1
  simp only [bcase_eq, decide_eq_true_eq, hr.1]
  by_cases hlt : (i : Int) < (E.length : Int)
  · rw [if_pos hlt]
    have hi' : i < E.length := by omega
    obtain ⟨b, ofs, ha, hb, hcells⟩ := rows_cells (hr.keep hk) (by omega)
    refine ⟨by omega, ?_⟩
    rw [ha, onPtr_mk, Int.toNat_natCast, ldA_some (hcells i E[i] (List.getElem?_eq_getElem hi')).1]
    have hh1 := hk.1
    refine model_Model_find_1.s (off := off) (hE _ (List.getElem_mem hi')) (by omega) (by rw [← hc]; simp only [AH.cell?]; rw [hk.2 o ho]) ?_
    rw [drop_cons hi'] at he
    simp only [findX] at he
    by_cases h1 : (E[i].1.1 + 1) * 8 = off
    · rw [if_pos (by simpa using h1)]
      rw [if_pos h1] at he
      exact ⟨hk, he.symm⟩
    · rw [if_neg (by simpa using h1)]
      rw [if_neg h1] at he
      rw [wrap_i64 (n := (i : Int) + 1) (by omega) (by omega)]
      exact hit _ _ ⟨i + 1, by simp, by omega, hk, he⟩ (by simp only; omega)
  · rw [if_neg hlt]
    have : i = E.length := by omega
    subst this
    rw [List.drop_length] at he
    exact ⟨hk, he.symm⟩

theorem MdAt.elen {s : Sl} {E : List (Ex × Nat)} (hR : MR ws.length (E.map (·.1)) ws) : E.length ≤ 256 ∧ ∀ x ∈ E, 0 ≤ x.1.1 ∧ x.1.1 + x.1.2.1 ≤ ws.length ∧ 2 ≤ x.1.2.1 ∧ ws.length ≤ 512 ∧ x.1.2.2.length = (x.1.2.1.toNat - 1) * 8 := by
  have h1 := hR.may.len
  have h2 : (E.map (·.1)).length ≤ (blkX ws.length (E.map (·.1))).length := by
    have : ∀ (e : List Ex) (p : Int), e.length ≤ (bg p e).length := by
      intro e
      induction e with
      | nil => intro p; exact Nat.zero_le _
      | cons x r ih => intro p; have := ih (x.1 + x.2.1); simp only [bg, List.length_cons, List.length_append]; omega
    have := this (E.map (·.1)) 0
    unfold blkX
    rw [List.length_append]; omega
  rw [List.length_map] at h2
  refine ⟨by omega, fun x hx => ?_⟩
  have hm : x.1 ∈ E.map (·.1) := List.mem_map_of_mem hx
  have := hR.mem hm
  exact ⟨this.1, this.2.1, this.2.2, by omega, hR.blen hm⟩

theorem model_Model_find.s {s : Sl} {E : List (Ex × Nat)} {off : Int} {k : Int → AH → Prop} (hA : MdAt F H p ws.length s E root) (hR : MR ws.length (E.map (·.1)) ws) (h : k (findX off E 0) H) : model_Model_find (some ⟨p, 0, none⟩) off H k := by
  refine gcI (j := .i64) (findX off E 0) (model_Model_find.link ?_) h
  unfold model_Model_find.b
  rw [newC_eq]
  have hk := (Keeps.refl H).push ⟨[.int .i64 off], .rw, 0⟩
  have hc : AH.cell? (H.push ⟨[.int .i64 off], .rw, 0⟩) ⟨H.size, 0, none⟩ = some (.int .i64 off) := by simp [AH.cell?, push_get]
  have hz : H.size < (H.push ⟨[.int .i64 off], .rw, 0⟩).size := by simp [push_size]
  have hA' := hA.keeps hk
  generalize H.push ⟨[.int .i64 off], .rw, 0⟩ = H1 at *
  rw [Option.isNone_some, bcase_false, onPtr_mk, hA'.c1, elL_some]
  obtain ⟨h1, h2⟩ := MdAt.elen (s := s) hR
  refine slices_IndexFunc_extent_at_model_Model_find_1.s (E := E) hA'.rows (by omega) (fun x hx => by have := h2 x hx; omega) hz hc ?_
  exact ⟨hk, rfl⟩

theorem find_neg {E : List (Ex × Nat)} {off : Int} (hR : MR ws.length (E.map (·.1)) ws) : findX off E 0 < 0 ↔ isN off (blkL ws) 0 < 0 := by
  rw [MW.blk hR]
  rcases findX_cases off E 0 with ⟨h1, h2⟩ | ⟨e1, x, e2, h1, h2, h3⟩
  · rw [h1, hR.is_none (fun y hy => ?_)]
    rw [List.mem_map] at hy
    obtain ⟨z, hz, rfl⟩ := hy
    exact h2 z hz
  · rw [h2]
    subst h1
    rw [List.map_append, List.map_cons] at hR ⊢
    rw [hR.is_at h3]
    omega

theorem model_Model_Root.s {k : Int → AH → Prop} (hM : MW F H p ws root) (h : k root H) : model_Model_Root (some ⟨p, 0, none⟩) H k := by
  obtain ⟨s, E, hA, hR⟩ := hM
  refine model_Model_Root.link ?_
  unfold model_Model_Root.b
  rw [Option.isNone_some, bcase_false, onPtr_mk, hA.c2, elI_some]
  exact h

theorem MdAt.put_root {s : Sl} {E : List (Ex × Nat)} {words r2 : Int} (hA : MdAt F H p words s E root) : H.canPut (Addr.add ⟨p, 0, none⟩ 2) 1 ∧ MdAt F (H.put (Addr.add ⟨p, 0, none⟩ 2) [.int .i64 r2]) p words s E r2 ∧ Up F H F (H.put (Addr.add ⟨p, 0, none⟩ 2) [.int .i64 r2]) := by
  rw [addr_add]
  have hg : ∀ b, b ≠ p → (H.put ⟨p, 0 + 2, none⟩ [.int .i64 r2]).get b = H.get b := fun b hb => by simp [AH.put, upd_get, hb]
  have hp : (H.put ⟨p, 0 + 2, none⟩ [.int .i64 r2]).get p = ⟨[.int .i64 words, s.val, .int .i64 r2], .rw, 0⟩ := by simp [AH.put, upd_get, hA.obj, setMany]
  refine ⟨⟨rfl, by simp [hA.obj], by simp [hA.obj]⟩, ⟨hp, ?_, fun x hx => by rw [hg _ (hA.nx x hx).1]; exact hA.bys x hx, hA.fp, hA.fs, hA.fx, hA.lt, hA.np, hA.nx, hA.nd⟩, ⟨Nat.le_refl _, fun b _ hn => hg b (fun hh => hn (hh ▸ hA.fp))⟩, fun _ hb => .inl hb⟩
  rcases hA.own with h0 | ⟨b, h1, h2, h3, h4⟩
  · exact .inl h0
  · refine .inr ⟨b, h1, h2, h3, ?_⟩
    rw [hg b (hA.np ⟨b, 0, none⟩ (by rw [h1]))]; exact h4

theorem model_Model_SetRoot.s {off : Int} {k : Int → AH → Prop} (hM : MW F H p ws root) (h : ∀ H', Up F H F H' → MW F H' p ws (aRoot ws root off).2 → k (aRoot ws root off).1 H') : model_Model_SetRoot (some ⟨p, 0, none⟩) off H k := by
  obtain ⟨s, E, hA, hR⟩ := hM
  refine model_Model_SetRoot.link ?_
  unfold model_Model_SetRoot.b
  rw [Option.isNone_some, bcase_false]
  have bad : off ≠ 0 ∧ isN off (blkL ws) 0 < 0 → model_Model_SetRoot.j1 (some ⟨p, 0, none⟩) off k true H := by
    intro hb
    unfold model_Model_SetRoot.j1
    rw [bcase_true]
    unfold aRoot at h
    rw [if_pos hb] at h
    exact h H (Up.refl H) ⟨s, E, hA, hR⟩
  have good : ¬ (off ≠ 0 ∧ isN off (blkL ws) 0 < 0) → model_Model_SetRoot.j1 (some ⟨p, 0, none⟩) off k false H := by
    intro hb
    unfold model_Model_SetRoot.j1
    rw [bcase_false, onPtr_mk]
    unfold aRoot at h
    rw [if_neg hb] at h
    obtain ⟨h1, h2, h3⟩ := hA.put_root (r2 := off)
    exact ⟨h1, h _ h3 ⟨s, E, h2, hR⟩⟩
  rw [bcase_eq]
  by_cases h0 : off = 0
  · rw [if_neg (by simpa using h0)]
    exact good (fun hh => hh.1 h0)
  · rw [if_pos (by simpa using h0)]
    refine model_Model_find.s hA hR ?_
    by_cases hf : findX off E 0 < 0
    · rw [decide_eq_true hf]; exact bad ⟨h0, (find_neg hR).1 hf⟩
    · rw [decide_eq_false hf]; exact good (fun hh => hf ((find_neg hR).2 hh.2))
end
end Go.Proofs.Ytgddfhnochcolaa
