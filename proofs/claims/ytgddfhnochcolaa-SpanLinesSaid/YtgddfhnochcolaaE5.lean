import Derived.Test.YtgddfhnochcolaaE4
set_option linter.all false
set_option linter.all false
namespace Go.Proofs.Ytgddfhnochcolaa
open Go Go.Abs

section
variable {F : Nat → Prop} {H : AH} {p : Nat} {ws : List Int} {root words : Int}

/-- The extents' slice anew. -/
theorem MdAt.put_ext {H1 : AH} {s s' : Sl} {E' : List (Ex × Nat)} {G : Nat → Prop} (hobj : H1.get p = ⟨[.int .i64 words, s.val, .int .i64 root], .rw, 0⟩) (hown : Own 0 H1 s' 3 exV E')
    (hbys : ∀ x ∈ E', H1.get x.2 = ⟨x.1.2.2.flatMap bU, .rw, 1⟩) (hp : G p) (hs : ∀ a, s'.a = some a → G a.block) (hx : ∀ x ∈ E', G x.2) (hlt : Lt G H1) (hnd : (E'.map (·.2)).Nodup) :
    H1.canPut (Addr.add ⟨p, 0, none⟩ 1) 1 ∧ MdAt G (H1.put (Addr.add ⟨p, 0, none⟩ 1) [s'.val]) p words s' E' root ∧ ∀ b, b ≠ p → (H1.put (Addr.add ⟨p, 0, none⟩ 1) [s'.val]).get b = H1.get b := by
  rw [addr_add]
  have hg : ∀ b, b ≠ p → (H1.put ⟨p, 0 + 1, none⟩ [s'.val]).get b = H1.get b := fun b hb => by simp [AH.put, upd_get, hb]
  have hgp : (H1.put ⟨p, 0 + 1, none⟩ [s'.val]).get p = ⟨[.int .i64 words, s'.val, .int .i64 root], .rw, 0⟩ := by simp [AH.put, upd_get, hobj, setMany]
  have hnp : ∀ a, s'.a = some a → a.block ≠ p := by
    intro a ha he
    rcases hown with ⟨h0, _⟩ | ⟨b, h0, _, _, h4⟩
    · rw [h0] at ha; cases ha
    · rw [h0] at ha
      injection ha with ha
      subst ha
      simp only at he
      subst he
      rw [hobj] at h4
      simp at h4
  have hnx : ∀ x ∈ E', x.2 ≠ p ∧ ∀ a, s'.a = some a → a.block ≠ x.2 := by
    intro x hx
    refine ⟨fun he => ?_, fun a ha he => ?_⟩
    · have := hbys x hx
      rw [he, hobj] at this
      simp at this
    · rcases hown with ⟨h0, _⟩ | ⟨b, h0, _, _, h4⟩
      · rw [h0] at ha; cases ha
      · rw [h0] at ha
        injection ha with ha
        subst ha
        simp only at he
        subst he
        rw [hbys x hx] at h4
        simp at h4
  refine ⟨⟨rfl, by simp [hobj], by simp [hobj]⟩, ⟨hgp, ?_, fun x hx => by rw [hg _ (hnx x hx).1]; exact hbys x hx, hp, hs, hx, hlt, hnp, hnx, hnd⟩, hg⟩
  rcases hown with h0 | ⟨b, h1, h2, h3, h4⟩
  · exact .inl h0
  · refine .inr ⟨b, h1, h2, h3, ?_⟩
    rw [hg b (hnp ⟨b, 0, none⟩ (by rw [h1]))]; exact h4

theorem MdAt.pne {s : Sl} {E : List (Ex × Nat)} (hA : MdAt F H p words s E root) : ∀ a, s.a = some a → p ≠ a.block := fun a ha he => hA.np a ha he.symm

theorem model_Model_Free.s {off : Int} {k : Int → AH → Prop} (hM : MW F H p ws root) (h : ∀ F' H', Up F H F' H' → MW F' H' p (aFree ws root off).2 root → k (aFree ws root off).1 H') : model_Model_Free (some ⟨p, 0, none⟩) off H k := by
  obtain ⟨s, E, hA, hR⟩ := hM
  refine model_Model_Free.link ?_
  unfold model_Model_Free.b
  refine model_Model_find.s hA hR ?_
  obtain ⟨hel, hex⟩ := MdAt.elen (s := s) hR
  unfold aFree at h
  rcases findX_cases off E 0 with ⟨h1, h2⟩ | ⟨e1, x, e2, hE, h2, h3⟩
  · rw [h1, decide_eq_true (by omega), bcase_true]
    have himg : imgFree ws off = ([], 1) := hR.imgFree_none fun y hy => by
      rw [List.mem_map] at hy
      obtain ⟨z, hz, rfl⟩ := hy
      exact h2 z hz
    rw [himg] at h
    exact h F H (Up.refl H) ⟨s, E, hA, hR⟩
  · rw [h2, decide_eq_false (by omega), bcase_false, onPtr_mk, hA.c2, elI_some, bcase_eq]
    have hR' := hR
    rw [hE, List.map_append, List.map_cons] at hR'
    have himg := hR'.imgFree_at (off := off) h3
    rw [himg] at h
    simp only [ne_eq, not_true_eq_false, if_false] at h
    by_cases hr : root = off
    · rw [if_pos (by simpa using hr)]
      rw [if_pos hr] at h
      exact h F H (Up.refl H) ⟨s, E, hA, hR⟩
    rw [if_neg (by simpa using hr)]
    rw [if_neg hr] at h
    rw [onPtr_mk, hA.c1, elL_some, Nat.zero_add]
    have hlen : e1.length < E.length := by rw [hE]; simp
    rw [wrap_i64 (n := (e1.length : Int) + 1) (by omega) (by omega)]
    refine slices_Delete_extent.s (B := 0) exV_len exV_ok hA.own hlen (by omega) ?_
    intro s' H' hO' hs' hfr
    have hEr : E.eraseIdx e1.length = e1 ++ e2 := by
      rw [hE, List.eraseIdx_append_of_length_le (Nat.le_refl _), Nat.sub_self]; rfl
    rw [hEr] at hO'
    have hsub : ∀ y ∈ e1 ++ e2, y ∈ E := by
      intro y hy
      rw [hE]; simp at hy ⊢
      rcases hy with hy | hy
      · exact .inl hy
      · exact .inr (.inr hy)
    rw [onPtr_mk]
    have hplt := hA.lt p hA.fp
    obtain ⟨p1, p2, p3⟩ := MdAt.put_ext (G := fun b => F b ∨ (H.size ≤ b ∧ b < H'.size)) (root := root) (words := (ws.length : Int)) (p := p) (s := s) (H1 := H') (E' := e1 ++ e2) (s' := s') (by rw [hfr p hplt hA.pne]; exact hA.obj) (own_base hO' (by omega))
      (fun y hy => by rw [hfr y.2 (hA.lt _ (hA.fx y (hsub y hy))) (fun a ha he => (hA.nx y (hsub y hy)).2 a ha he.symm)]; exact hA.bys y (hsub y hy))
      (.inl hA.fp) (fun a ha => by
        rcases hO' with ⟨h0, _⟩ | ⟨b, h0, h5, h6, _⟩
        · rw [h0] at ha; cases ha
        · rw [h0] at ha
          injection ha with ha
          subst ha
          exact .inr ⟨h5, h6⟩) (fun y hy => .inl (hA.fx y (hsub y hy)))
      (fun b hb => by
        rcases hb with hb | hb
        · have := hA.lt b hb; omega
        · exact hb.2)
      (by
        have := hA.nd
        rw [hE, List.map_append, List.map_cons] at this
        rw [List.map_append]
        exact this.sublist (List.Sublist.append (List.Sublist.refl _) (List.sublist_cons_self _ _)))
    refine ⟨p1, ?_⟩
    refine h (fun b => F b ∨ (H.size ≤ b ∧ b < H'.size)) _ ⟨⟨hs', fun b hb hn => ?_⟩, fun b hb => hb⟩ ⟨s', e1 ++ e2, ?_, ?_⟩
    · rw [p3 b (fun he => hn (he ▸ hA.fp)), hfr b hb (fun a ha he => hn (he ▸ hA.fs a ha))]
    · rw [applyE_length]; exact p2
    · rw [applyE_length, List.map_append]
      exact hR'.free

/-! ### Write -/
theorem flat_bU (l : List Int) : l.flatMap bU = l.map (fun v => Value.int .u8 v) := by
  induction l with
  | nil => rfl
  | cons a r ih => rw [List.flatMap_cons, ih]; rfl
theorem setMany_bytes {l bs : List Int} {a : Nat} (h : a + bs.length ≤ l.length) : setMany (l.flatMap bU) a (bs.flatMap bU) = (putL l a bs).flatMap bU := by
  rw [flat_bU, flat_bU, flat_bU]
  apply List.ext_getElem?
  intro i
  rw [setMany_get _ _ _ _ (by simp; omega), List.getElem?_map, List.getElem?_map, List.getElem?_map, putL_get h, List.length_map]
  split <;> rfl
theorem MdAt.put_bytes {s : Sl} {e1 e2 : List (Ex × Nat)} {x : Ex × Nat} {a : Nat} {bs : List Int} (hA : MdAt F H p words s (e1 ++ x :: e2) root) (h : a + bs.length ≤ x.1.2.2.length) :
    H.canPut ⟨x.2, a, none⟩ (bs.flatMap bU).length ∧ MdAt F (H.put ⟨x.2, a, none⟩ (bs.flatMap bU)) p words s (e1 ++ ((x.1.1, x.1.2.1, putL x.1.2.2 a bs), x.2) :: e2) root ∧ Up F H F (H.put ⟨x.2, a, none⟩ (bs.flatMap bU)) := by
  have hxm : x ∈ e1 ++ x :: e2 := by simp
  have hb := hA.bys x hxm
  have hl1 : ∀ l : List Int, (l.flatMap bU).length = l.length := fun l => by rw [flat_bU, List.length_map]
  have hg : ∀ b, b ≠ x.2 → (H.put ⟨x.2, a, none⟩ (bs.flatMap bU)).get b = H.get b := fun b hb => by simp [AH.put, upd_get, hb]
  have hgx : (H.put ⟨x.2, a, none⟩ (bs.flatMap bU)).get x.2 = ⟨(putL x.1.2.2 a bs).flatMap bU, .rw, 1⟩ := by
    simp only [AH.put, upd_get, if_true, hb]
    rw [setMany_bytes h]
  have hnd := hA.nd
  rw [List.map_append, List.map_cons, List.nodup_append, List.nodup_cons] at hnd
  obtain ⟨n1, ⟨n2, n3⟩, n4⟩ := hnd
  have hmap : (e1 ++ ((x.1.1, x.1.2.1, putL x.1.2.2 a bs), x.2) :: e2).map (·.2) = (e1 ++ x :: e2).map (·.2) := by simp
  have hfl : (e1 ++ ((x.1.1, x.1.2.1, putL x.1.2.2 a bs), x.2) :: e2).flatMap exV = (e1 ++ x :: e2).flatMap exV := by
    simp only [List.flatMap_append, List.flatMap_cons]
    congr 2
    simp only [exV, putL_len h]
  have hmem : ∀ y ∈ e1 ++ ((x.1.1, x.1.2.1, putL x.1.2.2 a bs), x.2) :: e2, (y = ((x.1.1, x.1.2.1, putL x.1.2.2 a bs), x.2)) ∨ (y ∈ e1 ++ x :: e2 ∧ y.2 ≠ x.2) := by
    intro y hy
    rw [List.mem_append, List.mem_cons] at hy
    rcases hy with hy | hy | hy
    · refine .inr ⟨by simp [hy], fun he => ?_⟩
      exact n4 y.2 (List.mem_map_of_mem hy) x.2 (by simp) he
    · exact .inl hy
    · refine .inr ⟨by simp [hy], fun he => n2 ?_⟩
      rw [← he]; exact List.mem_map_of_mem hy
  refine ⟨⟨rfl, by simp [hb], by simp only [hb, hl1]; omega⟩, ⟨by rw [hg p (fun he => (hA.nx x hxm).1 he.symm)]; exact hA.obj, ?_, fun y hy => ?_, hA.fp, hA.fs, fun y hy => ?_, hA.lt, hA.np, fun y hy => ?_, by rw [hmap]; exact hA.nd⟩, ⟨Nat.le_refl _, fun b _ hn => hg b (fun he => hn (he ▸ hA.fx x hxm))⟩, fun b hb => .inl hb⟩
  · rcases hA.own with ⟨_, h0⟩ | ⟨b, h1, h2, h3, h4⟩
    · simp at h0
    · refine .inr ⟨b, by rw [h1]; simp, h2, h3, ?_⟩
      rw [hg b ((hA.nx x hxm).2 ⟨b, 0, none⟩ (by rw [h1])), h4, hfl]
  · rcases hmem y hy with rfl | ⟨h1, h2⟩
    · exact hgx
    · rw [hg _ h2]; exact hA.bys y h1
  · rcases hmem y hy with rfl | ⟨h1, h2⟩
    · exact hA.fx x hxm
    · exact hA.fx y h1
  · rcases hmem y hy with rfl | ⟨h1, h2⟩
    · exact hA.nx x hxm
    · exact hA.nx y h1

theorem aWrite_in {off : Int} {bs : List Int} {E : List (Ex × Nat)} (hR : MR ws.length (E.map (·.1)) ws) (hw : withinN (blkL ws) off bs.length) : aWrite ws off bs = (0, putBs ws off.toNat bs) := by
  unfold aWrite imgWrite
  have hb := hR.blocks
  have he : blkL ws = blkX ws.length (E.map (·.1)) := MW.blk hR
  rw [hb]
  rw [he] at hw
  simp only
  rw [if_pos hw]
  simp only [if_true]
  have hin := within_inside hR.may hw
  unfold inside at hin
  rw [applyE_edits (by omega)]
theorem aWrite_out {off : Int} {bs : List Int} {E : List (Ex × Nat)} (hR : MR ws.length (E.map (·.1)) ws) (hw : ¬ withinN (blkL ws) off bs.length) : aWrite ws off bs = (1, ws) := by
  unfold aWrite imgWrite
  have hb := hR.blocks
  have he : blkL ws = blkX ws.length (E.map (·.1)) := MW.blk hR
  rw [hb]
  rw [he] at hw
  simp only
  rw [if_neg hw]
  simp

theorem model_Model_Write.s {off : Int} {x2 : Sl} {bs : List Int} {k : Int → AH → Prop} (hM : MW F H p ws root) (hoff : isI off) (hb : Abs.Rows H x2 1 bU bs) (h8 : bytes8 bs) (hbl : bs.length ≤ 1000000000000000)
    (h : ∀ F' H', Up F H F' H' → MW F' H' p (aWrite ws off bs).2 root → k (aWrite ws off bs).1 H') : model_Model_Write (some ⟨p, 0, none⟩) off x2 H k := by
  obtain ⟨s, E, hA, hR⟩ := hM
  refine model_Model_Write.link ?_
  unfold model_Model_Write.b
  rw [hb.1]
  refine model_Model_bytes.s hA hR hoff (by unfold isI; omega) ?_ ?_
  · intro hw H' hk
    rw [aWrite_out hR hw] at h
    show copyC 1 H' ⟨none, 0, 0⟩ x2 _
    unfold copyC
    rw [if_pos (by simp only [Nat.min_def]; split <;> omega)]
    exact h F H' ⟨Keeps.kp hk, fun b hb => .inl hb⟩ ⟨s, E, hA.keeps hk, hR⟩
  · intro e1 x e2 hE hn0 hn1 hh H' hk
    have hxm : x ∈ E := by rw [hE]; simp
    rw [aWrite_in hR ((within_iff hR).2 ⟨hn0, hn1, x, hxm, hh⟩)] at h
    obtain ⟨_, hex⟩ := MdAt.elen (s := s) hR
    have hq := hex x hxm
    have hh1 := hh.1
    have hh2 := hh.2
    have hA' := hA.keeps hk
    unfold copyC
    have hmin : Nat.min x2.n (((bs.length : Nat) : Int)).toNat = bs.length := by rw [hb.1]; simp only [Nat.min_def, Int.toNat_natCast]; split <;> omega
    simp only [hmin]
    by_cases h0 : bs.length = 0
    · rw [if_pos h0]
      have : bs = [] := List.length_eq_zero_iff.1 h0
      subst this
      exact h F H' ⟨Keeps.kp hk, fun b hb => .inl hb⟩ ⟨s, E, hA', hR⟩
    rw [if_neg h0]
    have hrow := rows_flat (f := bU) (z := 1) (fun _ => rfl) (fun _ => rfl) (s := ⟨x2.a, bs.length, x2.k⟩) (l := bs) ⟨rfl, (hb.keep hk).2⟩
    refine ⟨_, hrow, ?_⟩
    rw [onPtr_mk]
    have hEE := hE
    subst hE
    obtain ⟨c1, c2, c3⟩ := hA'.put_bytes (a := (off - (x.1.1 + 1) * 8).toNat) (bs := bs) (by omega)
    refine ⟨c1, ?_⟩
    rw [List.map_append, List.map_cons] at hR
    have hw := hR.write (off := off.toNat) h8 (by omega) (by omega)
    refine h F _ (Up.of_keeps hk c3) ⟨s, _, by rw [putBs_length]; exact c2, ?_⟩
    rw [putBs_length, List.map_append, List.map_cons]
    rw [show off.toNat - (x.1.1.toNat + 1) * 8 = (off - (x.1.1 + 1) * 8).toNat by omega] at hw
    exact hw
end
end Go.Proofs.Ytgddfhnochcolaa
