import Derived.Test.YtgddfhnochcolaaE8
set_option linter.all false
set_option linter.all false
namespace Go.Proofs.Ytgddfhnochcolaa
open Go Go.Abs

theorem getB_range (v : Int) (j : Nat) : 0 ≤ getB v j ∧ getB v j ≤ 255 := by unfold getB; omega
theorem bytesOf_8 (ws : List Int) (o n : Nat) : bytes8 (bytesOf ws o n) := by
  intro v hv
  unfold bytesOf at hv
  rw [List.mem_map] at hv
  obtain ⟨j, _, rfl⟩ := hv
  exact getB_range _ _
theorem aRead_8 (ws : List Int) (off n : Int) : bytes8 (aRead ws off n).1 := by
  unfold aRead
  split
  · exact bytesOf_8 _ _ _
  · intro v hv; cases hv

section
variable {F1 F2 : Nat → Prop} {H : AH} {p w : Nat} {ws : List Int} {root : Int}

theorem min_bytes {z : Int} (hz : 2 ≤ z ∧ z ≤ 512) : (if (IntKind.wrap .i64 ((IntKind.wrap .i64 (z - 1)) * 8)) < 448 then (IntKind.wrap .i64 ((IntKind.wrap .i64 (z - 1)) * 8)) else 448) = (if (z - 1) * 8 < 448 then (z - 1) * 8 else 448) := by
  rw [wrap_i64 (n := z - 1) (by omega) (by omega), wrap_i64 (n := (z - 1) * 8) (by omega) (by omega)]

theorem aRead_used {b : Bk} {n : Int} (hok : Ok ws) (hb : b ∈ blkL ws) (hu : b.2.2 = true) (hn : 0 ≤ n ∧ n ≤ 448 ∧ n ≤ (b.2.1 - 1) * 8) : (aRead ws (offN b.1) n).2 = 0 := by
  unfold aRead
  rw [if_pos]
  have hm := hok.blen.2 b hb
  have hl := hok.len
  have ho : offN b.1 = (b.1 + 1) * 8 := by unfold offN; rw [if_pos (by omega)]
  exact ⟨hn.1, hn.2.1, b, hb, hu, Int.le_refl _, by omega, by omega⟩

theorem darninglaw20_same.s {k : Bool → AH → Prop} (hM : MW F1 H p ws root) (hW : RM F2 H w ws root) (h : k true H) : darninglaw20_same (some ⟨p, 0, none⟩) (some ⟨w, 0, none⟩) H k := by
  refine gcB true (darninglaw20_same.link ?_) h
  have hok := hM.ok
  obtain ⟨hbl, hbm⟩ := hok.blen
  have hl := hok.len
  unfold darninglaw20_same.b
  have hW0 := hW
  obtain ⟨sw, hR⟩ := hW
  rw [onPtr_mk, hR.c1, elI_some]
  refine model_Model_Root.s hM ?_
  refine ⟨hR.c1, ?_⟩
  rw [bcase_eq, if_neg (by simp)]
  refine model_Model_Blocks.s hM ?_
  intro s21 H21 hk21 hO21
  refine darningref4_Model_Blocks.s hok (hW0.keeps hk21) ?_
  intro s23 H23 hk23 hO23
  refine darningref4_SameBlocks.s ((hO21.rows bkV_len bkV_ok).keep hk23) (hO23.rows bkV_len bkV_ok) (by omega) ?_
  have hk0 := hk21.trans hk23
  show darninglaw20_same.j3 _ _ _ false H23
  unfold darninglaw20_same.j3
  rw [bcase_false]
  refine darningref4_Model_Blocks.s hok (hW0.keeps hk0) ?_
  intro s28 H28 hk28 hO28
  have hR28 := hO28.rows bkV_len bkV_ok
  have hk28' := hk0.trans hk28
  refine loopT_inv (t := ((false, (0 : Int)) : Bool × Int)) (I := fun (t : Bool × Int) H' => ∃ i : Nat, t.2 = (i : Int) ∧ i ≤ (blkL ws).length ∧ Keeps H28 H') (m := fun (t : Bool × Int) _ => Int.toNat (((blkL ws).length : Int) - t.2)) ?_ ⟨0, rfl, by omega, Keeps.refl H28⟩
  rintro ⟨t0, t2⟩ H1 ⟨i, e1, hi, hk⟩ it hit
  simp only at e1
  subst e1
  unfold darninglaw20_same.l2
  simp only [bcase_eq, decide_eq_true_eq, hR28.1]
  by_cases hlt : (i : Int) < ((blkL ws).length : Int)
  rotate_left 1
  · rw [if_neg hlt]
    exact ⟨hk28'.trans hk, trivial⟩
  rw [if_pos hlt]
  have hi' : i < (blkL ws).length := by omega
  obtain ⟨b, ofs, ha, hb, hcells⟩ := rows_cells (hR28.keep hk) (by omega)
  refine ⟨by omega, ?_⟩
  rw [ha, onPtr_mk, Int.toNat_natCast, ldA_some (hcells i _ (List.getElem?_eq_getElem hi')).1]
  have hqm := List.getElem_mem hi'
  have hq := hbm _ hqm
  have hread := fun n => aRead_used (n := n) hok hqm
  generalize (blkL ws)[i] = q at *
  refine new_row (n := 3) rfl (bkV_len q) (bkV_ok q) ?_
  have hB : BkAt (H1.push ⟨bkV q, .rw, 0⟩) H1.size q := BkAt.new
  have hk2 : Keeps H28 (H1.push ⟨bkV q, .rw, 0⟩) := hk.push _
  have hz2 : H1.size < (H1.push ⟨bkV q, .rw, 0⟩).size := by simp [push_size]
  generalize H1.push ⟨bkV q, .rw, 0⟩ = H2 at *
  rw [wrap_i64 (n := (i : Int) + 1) (by omega) (by omega)]
  have next : ∀ H', Keeps H2 H' → it (t0, (i : Int) + 1) H' := fun H' hk' => hit _ _ ⟨i + 1, by simp, by omega, hk2.trans hk'⟩ (by simp only; omega)
  rw [hB.c2, elB_some]
  by_cases hu : q.2.2 = true
  rotate_left 1
  · rw [if_pos (by simpa using hu)]
    exact next _ (Keeps.refl _)
  rw [if_neg (by simpa using hu), hB.c1, elI_some, min_bytes (by omega), ldA_some hB.row]
  refine darningref4_Off.s ?_
  have hoq := offN_range q.1
  have hkH2 := hk28'.trans hk2
  have hn : isI (if (q.2.1 - 1) * 8 < 448 then (q.2.1 - 1) * 8 else 448) := by unfold isI; split <;> omega
  have hcode := hread (if (q.2.1 - 1) * 8 < 448 then (q.2.1 - 1) * 8 else 448) hu (by split <;> omega)
  generalize (if (q.2.1 - 1) * 8 < 448 then (q.2.1 - 1) * 8 else 448) = n at *
  refine model_Model_Read.s (hM.keeps hkH2) (by unfold isI; omega) hn ?_
  intro s47 H47 hk47 hO47
  rw [ldA_some (hB.keep (hk47.2 _ hz2)).row]
  refine darningref4_Off.s ?_
  refine darningref4_Model_Read.s hok (hW0.keeps (hkH2.trans hk47)) (by unfold isI; omega) hn ?_
  intro s55 H55 hk55 hO55
  rw [hcode, if_neg (by simp)]
  have h8 := aRead_8 ws (offN q.1) n
  refine own_str (hO47.keep hk55.1 (fun b _ hb => hk55.2 b hb)) h8 ?_
  refine own_str hO55 h8 ?_
  rw [beq_self_eq_true, Bool.not_true]
  unfold darninglaw20_same.j1
  rw [bcase_false]
  show it (t0, IntKind.wrap .i64 ((i : Int) + 1)) H55
  rw [wrap_i64 (n := (i : Int) + 1) (by omega) (by omega)]
  exact next H55 (hk47.trans hk55)
end

/-! ### what is played -/
structure StR where
  k : Int
  n : Int
  off : Int
  sl : Sl
  bs : List Int
def stepV (d : StR) : List Value := [.int .i64 d.k, .int .i64 d.n, .int .i64 d.off, d.sl.val]
theorem stepV_len (d : StR) : (stepV d).length = 4 := rfl
theorem stepV_ok (d : StR) : (stepV d).all cellOK = true := rfl
structure stepOK (H : AH) (d : StR) : Prop where
  n : isI d.n
  off : isI d.off
  rows : Abs.Rows H d.sl 1 bU d.bs
  u8 : ∀ v ∈ d.bs, isB v
def StAt (H : AH) (o : Nat) (d : StR) : Prop := ∃ e, H.get o = ⟨stepV d, .rw, e⟩
section
variable {H : AH} {o : Nat} {d : StR}
theorem StAt.c0 (h : StAt H o d) : AH.cell? H (Addr.add ⟨o, 0, none⟩ 0) = some (.int .i64 d.k) := by obtain ⟨e, h⟩ := h; simp [addr_add, AH.cell?, h, stepV]
theorem StAt.c1 (h : StAt H o d) : AH.cell? H (Addr.add ⟨o, 0, none⟩ 1) = some (.int .i64 d.n) := by obtain ⟨e, h⟩ := h; simp [addr_add, AH.cell?, h, stepV]
theorem StAt.c2 (h : StAt H o d) : AH.cell? H (Addr.add ⟨o, 0, none⟩ 2) = some (.int .i64 d.off) := by obtain ⟨e, h⟩ := h; simp [addr_add, AH.cell?, h, stepV]
theorem StAt.c3 (h : StAt H o d) : AH.cell? H (Addr.add ⟨o, 0, none⟩ 3) = some (.slice d.sl.a d.sl.n d.sl.k) := by obtain ⟨e, h⟩ := h; simp [addr_add, AH.cell?, h, stepV, Sl.val]
theorem StAt.keep {H' : AH} (h : StAt H o d) (hg : H'.get o = H.get o) : StAt H' o d := by obtain ⟨e, h⟩ := h; exact ⟨e, hg.trans h⟩
theorem StAt.new {e : Nat} : StAt (H.push ⟨stepV d, .rw, e⟩) H.size d := ⟨e, by rw [push_get, if_pos rfl]⟩
end

/-- Both models, with the same words. -/
structure Both (F1 F2 : Nat → Prop) (H : AH) (p w : Nat) (ws : List Int) (root : Int) : Prop where
  m : MW F1 H p ws root
  r : RM F2 H w ws root
  d : Dj F1 F2
/-- What was made of both. -/
def Up2 (F1 F2 : Nat → Prop) (H : AH) (F1' F2' : Nat → Prop) (H' : AH) : Prop := Up (fun b => F1 b ∨ F2 b) H (fun b => F1' b ∨ F2' b) H'
section
variable {F1 F2 F1' F2' : Nat → Prop} {H H' H'' : AH} {p w : Nat} {ws ws' : List Int} {root root' : Int}
theorem Both.keeps (h : Both F1 F2 H p w ws root) (hk : Keeps H H') : Both F1 F2 H' p w ws root := ⟨h.m.keeps hk, h.r.keeps hk, h.d⟩
theorem Up2.keeps (hk : Keeps H H') : Up2 F1 F2 H F1 F2 H' := ⟨Keeps.kp hk, fun b hb => .inl hb⟩
theorem Up.left (h : Up F1 H F1' H') (hd : Dj F1 F2) (hl : Lt F2 H) : Up2 F1 F2 H F1' F2 H' := by
  refine ⟨⟨h.1.1, fun b hb hn => h.1.2 b hb (fun hh => hn (.inl hh))⟩, fun b hb => ?_⟩
  rcases hb with hb | hb
  · rcases h.2 b hb with h0 | h0
    · exact .inl (.inl h0)
    · exact .inr h0
  · exact .inl (.inr hb)
theorem Up.right (h : Up F2 H F2' H') (hd : Dj F1 F2) (hl : Lt F1 H) : Up2 F1 F2 H F1 F2' H' := by
  refine ⟨⟨h.1.1, fun b hb hn => h.1.2 b hb (fun hh => hn (.inr hh))⟩, fun b hb => ?_⟩
  rcases hb with hb | hb
  · exact .inl (.inl hb)
  · rcases h.2 b hb with h0 | h0
    · exact .inl (.inr h0)
    · exact .inr h0
theorem Dj.symm (h : Dj F1 F2) : Dj F2 F1 := fun b h1 h2 => h b h2 h1

/-- Both are played alike: the model first. -/
theorem Both.step (h : Both F1 F2 H p w ws root) (hu1 : Up F1 H F1' H') (hm : MW F1' H' p ws' root') (hu2 : Up F2 H' F2' H'') (hr : RM F2' H'' w ws' root') :
    Both F1' F2' H'' p w ws' root' ∧ Up2 F1 F2 H F1' F2' H'' := by
  have hd1 : Dj F1' F2 := hu1.dj h.d h.r.lt
  have hd2 : Dj F2' F1' := hu2.dj hd1.symm hm.lt
  exact ⟨⟨hm.up hu2 hd1.symm, hr, hd2.symm⟩, (Up.left hu1 h.d h.r.lt).trans (Up.right hu2 hd1 hm.lt)⟩
end
end Go.Proofs.Ytgddfhnochcolaa
