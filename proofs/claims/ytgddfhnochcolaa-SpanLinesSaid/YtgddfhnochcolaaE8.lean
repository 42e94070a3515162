import Derived.Test.YtgddfhnochcolaaE7
set_option linter.all false
set_option linter.all false
namespace Go.Proofs.Ytgddfhnochcolaa
open Go Go.Abs

section
variable {F : Nat → Prop} {H : AH} {p : Nat} {ws : List Int} {root : Int}

/-! ### Copy -/
theorem model_Model_Copy.s {k : Option Addr → AH → Prop} (hM : MW F H p ws root) (h : ∀ F' p' H', Keeps H H' → Up (fun _ => False) H F' H' → MW F' H' p' ws root → k (some ⟨p', 0, none⟩) H') : model_Model_Copy (some ⟨p, 0, none⟩) H k := by
  obtain ⟨s, E, hA, hR⟩ := hM
  obtain ⟨hel, hex⟩ := MdAt.elen (s := s) hR
  refine model_Model_Copy.link ?_
  unfold model_Model_Copy.b
  rw [Option.isNone_some, bcase_false, onPtr_mk, hA.c0, elI_some, onPtr_mk, hA.c2, elI_some, newC_eq, onPtr_mk]
  have hk0 := (Keeps.refl H).push ⟨[.int .i64 (ws.length : Int), .slice none 0 0, .int .i64 root], .rw, 0⟩
  have hg0 : (H.push ⟨[.int .i64 (ws.length : Int), .slice none 0 0, .int .i64 root], .rw, 0⟩).get H.size = ⟨[.int .i64 (ws.length : Int), .slice none 0 0, .int .i64 root], .rw, 0⟩ := by rw [push_get, if_pos rfl]
  have hz0 : (H.push ⟨[.int .i64 (ws.length : Int), .slice none 0 0, .int .i64 root], .rw, 0⟩).size = H.size + 1 := rfl
  generalize H.push ⟨[.int .i64 (ws.length : Int), .slice none 0 0, .int .i64 root], .rw, 0⟩ = H0 at *
  rw [(hA.keeps hk0).c1, elL_some]
  refine loopT_inv (t := (0 : Int)) (I := fun (t : Int) H' => ∃ (i : Nat) (s' : Sl) (E' : List (Ex × Nat)), t = (i : Int) ∧ i ≤ E.length ∧ Keeps H H' ∧ H0.size ≤ H'.size ∧ MdAt (fun b => H.size ≤ b ∧ b < H'.size) H' H.size ws.length s' E' root ∧ E'.map (·.1) = (E.map (·.1)).take i) (m := fun (t : Int) _ => Int.toNat ((E.length : Int) - t)) ?_ ?_
  rotate_left 1
  · refine ⟨0, ⟨none, 0, 0⟩, [], rfl, by omega, hk0, Nat.le_refl _, ⟨hg0, .inl ⟨rfl, rfl⟩, fun x hx => (by cases hx), ⟨Nat.le_refl _, by omega⟩, fun a ha => (by cases ha), fun x hx => (by cases hx), fun b hb => hb.2, fun a ha => (by cases ha), fun x hx => (by cases hx), List.nodup_nil⟩, rfl⟩
  rintro t H1 ⟨i, s', E', rfl, hi, hk, hz, hB, hE'⟩ it hit
  unfold model_Model_Copy.l1
  have hA1 := hA.keeps hk
  have hr1 := hA1.rows
  simp only [bcase_eq, decide_eq_true_eq]
  rw [hr1.1]
  by_cases hlt : (i : Int) < (E.length : Int)
  rotate_left 1
  · rw [if_neg hlt]
    have : i = E.length := by omega
    subst this
    refine h _ H.size H1 hk ⟨Keeps.kp hk, fun b hb => .inr hb⟩ ⟨s', E', hB, ?_⟩
    rw [hE', List.take_of_length_le (by simp)]
    exact hR
  rw [if_pos hlt]
  have hi' : i < E.length := by omega
  obtain ⟨b, ofs, ha, hb, hcells⟩ := rows_cells hr1 (by omega)
  refine ⟨by omega, ?_⟩
  rw [ha, onPtr_mk, Int.toNat_natCast, ldA_some (hcells i E[i] (List.getElem?_eq_getElem hi')).1]
  have hxm : E[i] ∈ E := List.getElem_mem hi'
  have hq := hex _ hxm
  have hEi : (E.map (·.1)).take (i + 1) = E'.map (·.1) ++ [E[i].1] := by
    rw [List.take_succ, List.getElem?_map, List.getElem?_eq_getElem hi', hE']; rfl
  generalize hqe : E[i] = q at *
  refine new_row (n := 3) rfl (exV_len q) (exV_ok q) ?_
  obtain ⟨H2, hH2⟩ : ∃ H2, H2 = H1.push ⟨exV q, .rw, 0⟩ := ⟨_, rfl⟩
  have hX : ExAt H2 H1.size q := by rw [hH2]; exact ExAt.new
  have hk2 : Keeps H1 H2 := by rw [hH2]; exact (Keeps.refl H1).push _
  have hz2 : H2.size = H1.size + 1 := by rw [hH2]; rfl
  have hg2 : H2.get H1.size = ⟨exV q, .rw, 0⟩ := by rw [hH2, push_get, if_pos rfl]
  rw [← hH2]
  clear hH2
  rw [hX.c2, elL_some]
  have hbr := bytes_rows (hA1.keeps hk2) hxm (a := 0) (n := q.1.2.2.length) (by omega)
  rw [List.drop_zero, List.take_length] at hbr
  refine slices_Clone_bytebyte.s (bs := q.1.2.2) ⟨hbr.1, hbr.2⟩ (by omega) ?_
  intro s29 H3 hk3 hO3
  have hn3 : q.1.2.2 ≠ [] := fun h0 => by rw [h0] at hq; simp at hq; omega
  rcases hO3 with ⟨_, h0⟩ | ⟨nb, rfl, hnb1, hnb2, hnbg⟩
  · exact absurd h0 hn3
  rw [addr_add]
  have hg3 : H3.get H1.size = ⟨exV q, .rw, 0⟩ := by rw [hk3.2 _ (by omega), hg2]
  refine ⟨⟨rfl, by simp [hg3], by simp [hg3, exV]⟩, ?_⟩
  have hz3 := hk3.1
  have hX4 : ExAt (H3.put ⟨H1.size, 0 + 2, none⟩ [Sl.val ⟨some ⟨nb, 0, none⟩, q.1.2.2.length, 1⟩]) H1.size (q.1, nb) := ⟨0, by simp [AH.put, upd_get, hg3, setMany, exV, Sl.val]⟩
  have hg4 : (H3.put ⟨H1.size, 0 + 2, none⟩ [Sl.val ⟨some ⟨nb, 0, none⟩, q.1.2.2.length, 1⟩]).get nb = ⟨q.1.2.2.flatMap bU, .rw, 1⟩ := by
    have : nb ≠ H1.size := by omega
    simp [AH.put, upd_get, this, hnbg]
  have hk4 : Keeps H1 (H3.put ⟨H1.size, 0 + 2, none⟩ [Sl.val ⟨some ⟨nb, 0, none⟩, q.1.2.2.length, 1⟩]) := (hk2.trans hk3).put (Nat.le_refl _) _
  have hz4 : (H3.put ⟨H1.size, 0 + 2, none⟩ [Sl.val ⟨some ⟨nb, 0, none⟩, q.1.2.2.length, 1⟩]).size = H3.size := rfl
  generalize H3.put ⟨H1.size, 0 + 2, none⟩ [Sl.val ⟨some ⟨nb, 0, none⟩, q.1.2.2.length, 1⟩] = H4 at *
  have hB4 := hB.keeps hk4
  show elL (AH.cell? H4 (Addr.add ⟨H.size, 0, none⟩ 1)) _
  rw [hB4.c1, elL_some, ldA_some hX4.row]
  refine ⟨rfl, ?_⟩
  rw [newC_eq]
  have hm5 : setMany [Value.int .i64 0, .int .i64 0, .slice none 0 0] 0 (exV (q.1, nb)) = exV (q.1, nb) := rfl
  rw [hm5]
  obtain ⟨H5, hH5⟩ : ∃ H5, H5 = H4.push ⟨exV (q.1, nb), .rw, 3⟩ := ⟨_, rfl⟩
  have hk5 : Keeps H4 H5 := by rw [hH5]; exact (Keeps.refl H4).push _
  have hz5 : H5.size = H4.size + 1 := by rw [hH5]; rfl
  have hg5 : H5.get H4.size = ⟨exV (q.1, nb), .rw, 3⟩ := by rw [hH5, push_get, if_pos rfl]
  rw [← hH5]
  clear hH5
  have hB5 := hB4.keeps hk5
  have hE'l : E'.length = i := by have := congrArg List.length hE'; simp at this; omega
  refine append_fresh exV_len exV_ok hB5.own (one_rows (x := (q.1, nb)) exV_len exV_ok (by omega) hg5) (by simp) (Nat.le_trans (by simp [lim]; omega) (limS_le 3)) ?_
  intro s6 H6 hO6 hz6 hfr
  have hge := hk.1
  have hold : ∀ b, (H.size ≤ b ∧ b < H1.size) → (∀ a, s'.a = some a → b ≠ a.block) → H6.get b = H1.get b := fun b hb hne => by
    rw [hfr b (by omega) hne, hk5.2 b (by omega), hk4.2 b hb.2]
  have hsb : ∀ a, s'.a = some a → a.block < H1.size := fun a ha => (hB.fs a ha).2
  have hnbN : nb < H3.size := hnb2
  obtain ⟨p1, p2, p3⟩ := MdAt.put_ext (G := fun b => H.size ≤ b ∧ b < H6.size) (root := root) (words := (ws.length : Int)) (p := H.size) (s := s') (H1 := H6) (E' := E' ++ [(q.1, nb)]) (s' := s6) (by rw [hold H.size ⟨Nat.le_refl _, by omega⟩ hB.pne]; exact hB.obj) (own_base hO6 (by omega))
    (fun y hy => by
      rw [List.mem_append] at hy
      rcases hy with hy | hy
      · rw [hold y.2 (hB.fx y hy) (fun a ha he => (hB.nx y hy).2 a ha he.symm)]; exact hB.bys y hy
      · simp at hy
        subst hy
        rw [hfr nb (by omega) (fun a ha he => by have := hsb a ha; omega), hk5.2 nb (by omega)]
        exact hg4)
    ⟨Nat.le_refl _, by omega⟩
    (fun a ha => by
      rcases hO6 with ⟨h0, _⟩ | ⟨b, h0, h5, h6, _⟩
      · rw [h0] at ha; cases ha
      · rw [h0] at ha
        injection ha with ha
        subst ha
        exact ⟨by simp only; omega, h6⟩)
    (fun y hy => by
      rw [List.mem_append] at hy
      rcases hy with hy | hy
      · have := hB.fx y hy; exact ⟨this.1, by omega⟩
      · simp at hy
        subst hy
        exact ⟨by simp only; omega, by simp only; omega⟩)
    (fun b hb => hb.2)
    (by
      rw [List.map_append, List.nodup_append]
      refine ⟨hB.nd, by simp, fun a ha c hc he => ?_⟩
      rw [List.mem_map] at ha
      obtain ⟨y, hy, rfl⟩ := ha
      simp at hc
      have := (hB.fx y hy).2
      omega)
  refine ⟨p1, ?_⟩
  rw [wrap_i64 (n := (i : Int) + 1) (by omega) (by omega)]
  refine hit _ _ ⟨i + 1, s6, E' ++ [(q.1, nb)], by simp, by omega, ?_, show H0.size ≤ H6.size by omega, p2, ?_⟩ (by omega)
  · refine ⟨show H.size ≤ H6.size by omega, fun b hb => ?_⟩
    rw [p3 b (by omega), hfr b (by omega) (fun a ha he => by have := (hB.fs a ha).1; omega), hk5.2 b (by omega), hk4.2 b (by omega), hk.2 b hb]
  · rw [hEi, List.map_append]; rfl

theorem darningref4_Model_Clone.s {k : Option Addr → AH → Prop} (hok : Ok ws) (hM : RM F H p ws root) (h : ∀ F' p' H', Keeps H H' → Up (fun _ => False) H F' H' → RM F' H' p' ws root → k (some ⟨p', 0, none⟩) H') : darningref4_Model_Clone (some ⟨p, 0, none⟩) H k := by
  obtain ⟨s, hA⟩ := hM
  have hl := hok.len
  refine darningref4_Model_Clone.link ?_
  unfold darningref4_Model_Clone.b
  rw [onPtr_mk, hA.c0, elL_some, onPtr_mk, hA.c1, elI_some]
  have hne : ws ≠ [] := fun h0 => by rw [h0] at hl; simp at hl
  refine append_list (H0 := H) (B := H.size) (l := []) (r := ws) (f := wU) (fun _ => rfl) (fun _ => rfl) (.inl ⟨rfl, rfl⟩) hA.rows (Nat.le_refl _) (Nat.le_refl _) (Keeps.refl H) (by simp [lim]; omega) ?_
  intro s7 H7 hO7 hk7 _ _
  refine ⟨(hA.keeps hk7).c1, ?_⟩
  rw [newC_eq]
  have hk := hk7.push ⟨[s7.val, .int .i64 root], .rw, 0⟩
  have hge := hk7.1
  rw [List.nil_append] at hO7
  refine h (fun b => H.size ≤ b ∧ b < H7.size + 1) H7.size _ hk ⟨Keeps.kp hk, fun b hb => .inr hb⟩ ⟨s7, by rw [push_get, if_pos rfl], ?_, ⟨hge, by omega⟩, fun a ha => ?_, fun b hb => hb.2⟩
  · exact own_base (hO7.keep (by simp [push_size]) (fun b _ hb => push_get_ne (by omega))) (by omega)
  · rcases hO7 with ⟨h0, _⟩ | ⟨b, h1, h2, h3, h4⟩
    · rw [h0] at ha; cases ha
    · rw [h1] at ha
      injection ha with ha
      subst ha
      exact ⟨h2, by simp only; omega⟩

/-! ### comparing -/
theorem darningref1_Ints.s {x0 x1 : Sl} {l : List Int} {k : Bool → AH → Prop} (h0 : Abs.Rows H x0 1 iV l) (h1 : Abs.Rows H x1 1 iV l) (hl : l.length ≤ 100000) (h : k true H) : darningref1_Ints x0 x1 H k := by
  refine gcB true (darningref1_Ints.link ?_) h
  unfold darningref1_Ints.b
  rw [h0.1, h1.1, bcase_eq, if_neg (by simp)]
  refine loopT_inv (t := ((false, (0 : Int)) : Bool × Int)) (I := fun (t : Bool × Int) H' => H' = H ∧ ∃ i : Nat, t.2 = (i : Int) ∧ i ≤ l.length) (m := fun (t : Bool × Int) _ => Int.toNat ((l.length : Int) - t.2)) ?_ ⟨rfl, 0, rfl, by omega⟩
  rintro ⟨t0, t2⟩ H1 ⟨rfl, i, e1, hi⟩ it hit
  simp only at e1
  subst e1
  unfold darningref1_Ints.l1
  simp only [bcase_eq, decide_eq_true_eq]
  rw [h0.1]
  by_cases hlt : (i : Int) < (l.length : Int)
  rotate_left 1
  · rw [if_neg hlt]; exact ⟨Keeps.refl _, trivial⟩
  rw [if_pos hlt]
  have hi' : i < l.length := by omega
  obtain ⟨b, o, ha, hb, hcells⟩ := rows_cells h0 (by omega)
  obtain ⟨b2, o2, ha2, hb2, hcells2⟩ := rows_cells h1 (by omega)
  have hc := (hcells i _ (List.getElem?_eq_getElem hi')).2 0 _ rfl
  have hc2 := (hcells2 i _ (List.getElem?_eq_getElem hi')).2 0 _ rfl
  rw [addr_add, addr_add] at hc hc2
  refine ⟨by omega, ?_⟩
  rw [ha, onPtr_mk, Int.toNat_natCast, addr_add, show AH.cell? H1 ⟨b, o + i * 1, none⟩ = _ from hc, elI_some]
  refine ⟨by rw [h1.1]; omega, ?_⟩
  rw [ha2, onPtr_mk, addr_add, show AH.cell? H1 ⟨b2, o2 + i * 1, none⟩ = _ from hc2, elI_some, if_neg (by simp), wrap_i64 (n := (i : Int) + 1) (by omega) (by omega)]
  exact hit _ _ ⟨rfl, i + 1, by simp, by omega⟩ (by simp only; omega)

theorem eqCells_bk (b : Bk) : eqCells [(K.int .i64), (K.int .i64), K.bool] (bkV b) (bkV b) = some true := by
  simp [eqCells, bkV]
theorem darningref4_SameBlocks.s {x0 x1 : Sl} {l : List Bk} {k : Bool → AH → Prop} (h0 : Abs.Rows H x0 3 bkV l) (h1 : Abs.Rows H x1 3 bkV l) (hl : l.length ≤ 100000) (h : k true H) : darningref4_SameBlocks x0 x1 H k := by
  refine gcB true (darningref4_SameBlocks.link ?_) h
  unfold darningref4_SameBlocks.b
  rw [h0.1, h1.1, bcase_eq, if_neg (by simp)]
  refine loopT_inv (t := ((false, (0 : Int)) : Bool × Int)) (I := fun (t : Bool × Int) H' => H' = H ∧ ∃ i : Nat, t.2 = (i : Int) ∧ i ≤ l.length) (m := fun (t : Bool × Int) _ => Int.toNat ((l.length : Int) - t.2)) ?_ ⟨rfl, 0, rfl, by omega⟩
  rintro ⟨t0, t2⟩ H1 ⟨rfl, i, e1, hi⟩ it hit
  simp only at e1
  subst e1
  unfold darningref4_SameBlocks.l1
  simp only [bcase_eq, decide_eq_true_eq]
  rw [h0.1]
  by_cases hlt : (i : Int) < (l.length : Int)
  rotate_left 1
  · rw [if_neg hlt]; exact ⟨Keeps.refl _, trivial⟩
  rw [if_pos hlt]
  have hi' : i < l.length := by omega
  obtain ⟨b, o, ha, hb, hcells⟩ := rows_cells h0 (by omega)
  obtain ⟨b2, o2, ha2, hb2, hcells2⟩ := rows_cells h1 (by omega)
  refine ⟨by omega, ?_⟩
  rw [ha, onPtr_mk, Int.toNat_natCast, ldA_some (hcells i _ (List.getElem?_eq_getElem hi')).1]
  refine ⟨by rw [h1.1]; omega, ?_⟩
  rw [ha2, onPtr_mk, ldA_some (hcells2 i _ (List.getElem?_eq_getElem hi')).1, eqCells_bk]
  refine ⟨true, rfl, ?_⟩
  show ite _ _ _
  rw [if_neg (by simp), wrap_i64 (n := (i : Int) + 1) (by omega) (by omega)]
  exact hit _ _ ⟨rfl, i + 1, by simp, by omega⟩ (by simp only; omega)
end
end Go.Proofs.Ytgddfhnochcolaa
