import Derived.Test.YtgddfhnochcolaaI4
set_option linter.all false
set_option linter.all false
namespace Go.Proofs.Ytgddfhnochcolaa
open Go Go.Abs

def carveTo (pt tk : Int) (j : Nat) : List (Int × Int) := (pt, wordN tk true) :: (List.range (j - 1)).map fun (t : Nat) => (pt + ((t : Int) + 1), (0 : Int))
def carveE (b : Bk) (need : Int) : List (Int × Int) :=
  carveTo b.1 (takesN b.2.1 need) (takesN b.2.1 need).toNat ++ (if takesN b.2.1 need < b.2.1 then [(b.1 + takesN b.2.1 need, wordN (b.2.1 - takesN b.2.1 need) false)] else [])
theorem carveTo_succ (pt tk : Int) {j : Nat} (hj : 1 ≤ j) : carveTo pt tk (j + 1) = carveTo pt tk j ++ [(pt + (j : Int), 0)] := by
  unfold carveTo
  obtain ⟨i, rfl⟩ : ∃ i, j = i + 1 := ⟨j - 1, by omega⟩
  simp only [Nat.add_sub_cancel, List.range_succ, List.map_append, List.map_cons, List.map_nil, List.cons_append]
  congr 2

theorem eU_len (x : Int × Int) : (eU x).length = 2 := rfl
theorem eU_ok (x : Int × Int) : (eU x).all cellOK = true := rfl

section
variable {H : AH}

theorem cells_keep {H' : AH} {b : Nat} {a : Nat} {i : Nat} (hk : Keeps H H') (hb : b < H.size) (v : Option Value) (h : AH.cell? H (Addr.add (Addr.add ⟨b, a, none⟩ i) 0) = v) : AH.cell? H' (Addr.add (Addr.add ⟨b, a, none⟩ i) 0) = v := by
  rw [addr_add, addr_add] at h ⊢
  rw [← h]
  simp only [AH.cell?, hk.2 b hb]
theorem cells_keep' {H' : AH} {b : Nat} {a : Nat} {i j : Nat} (hk : Keeps H H') (hb : b < H.size) (v : Option Value) (h : AH.cell? H (Addr.add (Addr.add ⟨b, a, none⟩ i) j) = v) : AH.cell? H' (Addr.add (Addr.add ⟨b, a, none⟩ i) j) = v := by
  rw [addr_add, addr_add] at h ⊢
  rw [← h]
  simp only [AH.cell?, hk.2 b hb]

theorem one_rows {α : Type} {o z : Nat} {f : α → List Value} {x : α} (hf : ∀ x, (f x).length = z) (hc : ∀ x, (f x).all cellOK = true) (hb : o < H.size) (hg : H.get o = ⟨f x, .rw, z⟩) : Abs.Rows H ⟨some ⟨o, 0, none⟩, 1, 1⟩ z f [x] :=
  Own.rows (B := 0) (.inr ⟨o, rfl, Nat.zero_le _, hb, by rw [hg]; simp⟩) hf hc

theorem darningref4_Carved.s {x0 : Sl} {need words : Int} {l : List Bk} {i : Nat} {k : Sl → Bool → AH → Prop} (hr : Abs.Rows H x0 3 bkV l) (hB : MayB l words) (hi : i < l.length) (hu : (bkAt l i).2.2 = false) (hn : 2 ≤ need ∧ need ≤ (bkAt l i).2.1)
    (h : ∀ s H', Keeps H H' → k s true H') : darningref4_Carved x0 (i : Int) need H k := by
  have hlen := hB.len
  have hgi := bkAt_get hi
  have hm := hB.mem (List.mem_of_getElem? hgi)
  refine darningref4_Carved.link ?_
  unfold darningref4_Carved.b
  refine darningref4_sizes.s hr hB ?_
  refine darningref4_MayBlocks.s hr (by omega) (fun b hb => by have := hB.mem hb; omega) (by have := hB.1; unfold mayW at this; omega) ?_
  rw [decide_eq_true hB, Bool.not_true, bcase_false]
  obtain ⟨b, o, ha, hb, hcells⟩ := rows_cells hr (by omega)
  obtain ⟨hrow, hcell⟩ := hcells i _ hgi
  have c0 := hcell 0 _ rfl
  have c1 := hcell 1 _ rfl
  have c2 := hcell 2 _ rfl
  generalize bkAt l i = q at *
  have hti : Int.toNat (i : Int) = i := Int.toNat_natCast i
  have htk : takesN q.2.1 need ≠ 0 ∧ 2 ≤ takesN q.2.1 need ∧ takesN q.2.1 need ≤ q.2.1 := by
    unfold takesN; rw [if_pos ⟨hn.1, hn.2⟩]; split <;> omega
  simp only [bcase_eq, decide_eq_true_eq, hr.1, ha, onPtr_mk, hti, c1, c2, elB_some, elI_some]
  rw [if_neg (by omega), if_neg (by omega)]
  refine ⟨by omega, ?_⟩
  rw [hu, if_neg (by simp)]
  refine ⟨by omega, ?_⟩
  refine darningref4_Takes.s (by omega) (by omega) ?_
  unfold darningref4_Carved.j2
  rw [show (takesN q.2.1 need == 0) = false by simp [htk.1], bcase_false, hr.1]
  refine ⟨by omega, ?_⟩
  simp only [ha, onPtr_mk, hti, c1, elI_some, bcase_eq, decide_eq_true_eq]
  refine darningref4_Takes.s (by omega) (by omega) ?_
  refine ⟨by omega, by omega, ?_⟩
  generalize takesN q.2.1 need = tk at *
  rw [c0, elI_some]
  refine ⟨rfl, ?_⟩
  rw [newC_eq]
  have e1 : [Value.int .i64 q.1, Value.int .i64 tk, Value.bool true] = bkV (q.1, tk, true) := rfl
  rw [e1]
  have hk1 : Keeps H (H.push ⟨bkV (q.1, tk, true), .rw, 3⟩) := (Keeps.refl H).push _
  have g1 : (H.push ⟨bkV (q.1, tk, true), .rw, 3⟩).get H.size = ⟨bkV (q.1, tk, true), .rw, 3⟩ := by rw [push_get, if_pos rfl]
  have s1 : H.size < (H.push ⟨bkV (q.1, tk, true), .rw, 3⟩).size := by simp [push_size]
  generalize H.push ⟨bkV (q.1, tk, true), .rw, 3⟩ = H1 at *
  have l1 : l.length ≤ 256 := by omega
  have rt := rows_takeZ (hr.keep hk1) (k := i) (by omega)
  rw [ha] at rt
  refine append_list (H0 := H1) (B := H1.size) (l := []) bkV_len bkV_ok (.inl ⟨rfl, rfl⟩) rt (Nat.le_refl _) (Nat.le_refl _) (Keeps.refl H1) (by simp [lim]; omega) ?_
  intro s52 H52 hO52 hk52 _ _
  refine ⟨cells_keep' (hk1.trans hk52) hb _ c0, ?_⟩
  have r60 : Abs.Rows H52 ⟨some ⟨H.size, 0, none⟩, 1, 1⟩ 3 bkV [(q.1, tk, true)] := one_rows bkV_len bkV_ok (by have := hk52.1; omega) (by rw [hk52.2 _ s1, g1])
  refine append_list (H0 := H1) (B := H1.size) bkV_len bkV_ok hO52 r60 (Nat.le_refl _) hk52.1 hk52 (by simp [lim]; omega) ?_
  intro s61 H61 hO61 hk61 _ _
  refine ⟨by omega, ?_⟩
  have hk61' := hk1.trans hk61
  rw [cells_keep' hk61' hb _ c1, elI_some]
  have hwi : IntKind.wrap .i64 ((i : Int) + 1) = ((i + 1 : Nat) : Int) := by rw [wrap_i64 (by omega) (by omega)]; omega
  have j1 : ∀ (s : Sl) (acc : List Bk) (Hj : AH), Own H1.size Hj s 3 bkV acc → Keeps H1 Hj → acc.length ≤ 1000 → darningref4_Carved.j1 x0 (i : Int) k s Hj := by
    intro s acc Hj hO hkj hl
    unfold darningref4_Carved.j1
    rw [hwi, Int.toNat_natCast, hr.1]
    refine ⟨by omega, ?_⟩
    have rd := rows_dropZ (hr.keep (hk1.trans hkj)) (k := i + 1) (by omega)
    rw [hr.1] at rd
    refine append_list (H0 := H1) (B := H1.size) bkV_len bkV_ok hO rd (Nat.le_refl _) hkj.1 hkj (by simp [lim]; omega) ?_
    intro s' H' _ hk' _ _
    exact h _ _ (hk1.trans hk')
  by_cases hc : tk < q.2.1
  · rw [if_pos hc]
    refine ⟨by omega, ?_⟩
    rw [cells_keep' hk61' hb _ c0, elI_some]
    refine ⟨by omega, ?_⟩
    rw [elI_some]
    refine ⟨rfl, ?_⟩
    rw [newC_eq]
    have e2 : [Value.int .i64 (IntKind.wrap .i64 (q.1 + tk)), Value.int .i64 (IntKind.wrap .i64 (q.2.1 - tk)), Value.bool false] = bkV (IntKind.wrap .i64 (q.1 + tk), IntKind.wrap .i64 (q.2.1 - tk), false) := rfl
    rw [e2]
    refine append_own (H0 := H1) (B := H1.size) bkV_len (bkV_ok _) hO61 (Nat.le_refl _) hk61.1 hk61 (by simp [lim]; omega) ?_
    intro s86 H86 hO86 hk86 _ _
    exact j1 _ _ _ hO86 hk86 (by simp; omega)
  · rw [if_neg hc]
    exact j1 _ _ _ hO61 hk61 (by simp; omega)

theorem darningref4_CarveEdits.s {x0 : Sl} {need words : Int} {l : List Bk} {i : Nat} {k : Sl → AH → Prop} (hr : Abs.Rows H x0 3 bkV l) (hB : MayB l words) (hi : i < l.length) (hu : (bkAt l i).2.2 = false) (hn : 2 ≤ need ∧ need ≤ (bkAt l i).2.1)
    (h : ∀ s H', Keeps H H' → Own H.size H' s 2 eU (carveE (bkAt l i) need) → k s H') : darningref4_CarveEdits x0 (i : Int) need H k := by
  have hlen := hB.len
  have hgi := bkAt_get hi
  have hm := hB.mem (List.mem_of_getElem? hgi)
  refine darningref4_CarveEdits.link ?_
  unfold darningref4_CarveEdits.b
  refine darningref4_Carved.s hr hB hi hu hn ?_
  intro s16 H16 hk16
  rw [Bool.not_true, bcase_false, hr.1]
  obtain ⟨b, o, ha, hb, hcells⟩ := rows_cells hr (by omega)
  obtain ⟨hrow, hcell⟩ := hcells i _ hgi
  have c0 := hcell 0 _ rfl
  have c1 := hcell 1 _ rfl
  unfold carveE at h
  generalize bkAt l i = q at *
  have hti : Int.toNat (i : Int) = i := Int.toNat_natCast i
  have htk : 2 ≤ takesN q.2.1 need ∧ takesN q.2.1 need ≤ q.2.1 := by
    unfold takesN; rw [if_pos ⟨hn.1, hn.2⟩]; split <;> omega
  refine ⟨by omega, ?_⟩
  simp only [ha, onPtr_mk, hti]
  rw [cells_keep' hk16 hb _ c1, elI_some]
  refine darningref4_Takes.s (by omega) (by omega) ?_
  generalize takesN q.2.1 need = tk at *
  refine ⟨by omega, ?_⟩
  rw [cells_keep' hk16 hb _ c0, elI_some]
  refine darningref4_Word.s ⟨cells_keep' hk16 hb _ c0, rfl, ?_⟩
  rw [newC_eq]
  have e1 : [Value.int .i64 q.1, Value.int .u64 (wordN tk true)] = eU (q.1, wordN tk true) := rfl
  rw [e1]
  have hkp := hk16.1
  have hO0 : Own H.size (H16.push ⟨eU (q.1, wordN tk true), .rw, 2⟩) ⟨some ⟨H16.size, 0, none⟩, 1, 1⟩ 2 eU (carveTo q.1 tk 1) := .inr ⟨H16.size, rfl, hkp, by simp [push_size], by rw [push_get, if_pos rfl]; rfl⟩
  refine loopT_inv (t := ((⟨some ⟨H16.size, 0, none⟩, 1, 1⟩, (1 : Int)) : Sl × Int)) (I := fun (t : Sl × Int) H' => ∃ j : Nat, t.2 = (j : Int) ∧ 1 ≤ j ∧ (j : Int) ≤ tk ∧ Keeps H H' ∧ Own H.size H' t.1 2 eU (carveTo q.1 tk j)) (m := fun (t : Sl × Int) _ => Int.toNat (tk - t.2)) ?_ ⟨1, rfl, by omega, by omega, hk16.push _, hO0⟩
  intro t H1 hI it hit
  obtain ⟨s, t2⟩ := t
  obtain ⟨j, e2, hj, hjt, hk, hO⟩ := hI
  simp only at e2 hO
  subst e2
  unfold darningref4_CarveEdits.l2
  simp only [bcase_eq, decide_eq_true_eq, hr.1, ha, onPtr_mk, hti]
  have hcl : (carveTo q.1 tk j).length = j := by unfold carveTo; simp; omega
  by_cases hlt : (j : Int) < tk
  · rw [if_pos hlt]
    refine ⟨by omega, ?_⟩
    rw [cells_keep' hk hb _ c0, elI_some]
    refine ⟨rfl, ?_⟩
    rw [newC_eq, wrap_i64 (n := q.1 + (j : Int)) (by omega) (by omega), wrap_i64 (n := (j : Int) + 1) (by omega) (by omega)]
    have e3 : [Value.int .i64 (q.1 + (j : Int)), Value.int .u64 0] = eU (q.1 + (j : Int), 0) := rfl
    rw [e3]
    refine append_own (H0 := H) (B := H.size) eU_len (eU_ok _) hO (Nat.le_refl _) hk.1 hk (by rw [hcl]; simp only [lim]; omega) ?_
    intro s' H' hO' hk' _ _
    rw [← carveTo_succ _ _ hj] at hO'
    exact hit _ _ ⟨j + 1, by simp, by omega, by omega, hk', hO'⟩ (by simp only; omega)
  · rw [if_neg hlt]
    have htj : tk.toNat = j := by omega
    rw [htj] at h
    unfold darningref4_CarveEdits.j1
    simp only [bcase_eq, decide_eq_true_eq, hr.1, ha, onPtr_mk, hti]
    refine ⟨by omega, ?_⟩
    rw [cells_keep' hk hb _ c1, elI_some]
    by_cases hc : tk < q.2.1
    · rw [if_pos hc] at h ⊢
      refine ⟨by omega, ?_⟩
      rw [cells_keep' hk hb _ c0, elI_some]
      refine ⟨by omega, ?_⟩
      rw [elI_some, wrap_i64 (n := q.2.1 - tk) (by omega) (by omega)]
      refine darningref4_Word.s ⟨cells_keep' hk hb _ c0, rfl, ?_⟩
      rw [newC_eq, wrap_i64 (n := q.1 + tk) (by omega) (by omega)]
      have e3 : [Value.int .i64 (q.1 + tk), Value.int .u64 (wordN (q.2.1 - tk) false)] = eU (q.1 + tk, wordN (q.2.1 - tk) false) := rfl
      rw [e3]
      refine append_own (H0 := H) (B := H.size) eU_len (eU_ok _) hO (Nat.le_refl _) hk.1 hk (by rw [hcl]; simp only [lim]; omega) ?_
      intro s' H' hO' hk' _ _
      exact h _ _ hk' hO'
    · rw [if_neg hc] at h ⊢
      rw [List.append_nil] at h
      exact h _ _ hk hO
end
end Go.Proofs.Ytgddfhnochcolaa
