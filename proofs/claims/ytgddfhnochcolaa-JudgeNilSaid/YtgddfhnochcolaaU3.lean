import Derived.Test.YtgddfhnochcolaaU2
set_option linter.all false
set_option linter.all false
namespace Go.Proofs.Ytgddfhnochcolaa
open Go Go.Abs

structure JRs (F : Nat → Prop) (H : AH) (j : Nat) (ws : List Int) (root : Int) (worn : Bool) (p : Nat) (G : Nat → Prop) : Prop where
  obj : H.get j = ⟨[.pointer (some ⟨p, 0, none⟩), .bool worn], .rw, 0⟩
  m : RM G H p ws root
  fj : F j
  fg : ∀ b, G b → F b
  nj : ¬ G j
  lt : Lt F H
def JR (F : Nat → Prop) (H : AH) (j : Nat) (ws : List Int) (root : Int) (worn : Bool) : Prop := ∃ p G, JRs F H j ws root worn p G
section
variable {F : Nat → Prop} {H : AH} {j : Nat} {ws : List Int} {root : Int} {worn : Bool} {p : Nat} {G : Nat → Prop}
theorem JRs.c0 (h : JRs F H j ws root worn p G) : AH.cell? H (Addr.add ⟨j, 0, none⟩ 0) = some (.pointer (some ⟨p, 0, none⟩)) := by simp [addr_add, AH.cell?, h.obj]
theorem JRs.c1 (h : JRs F H j ws root worn p G) : AH.cell? H (Addr.add ⟨j, 0, none⟩ 1) = some (.bool worn) := by simp [addr_add, AH.cell?, h.obj]
theorem JRs.congr {H' : AH} (h : JRs F H j ws root worn p G) (hs : H.size ≤ H'.size) (hg : ∀ b, F b → H'.get b = H.get b) : JRs F H' j ws root worn p G :=
  ⟨by rw [hg j h.fj]; exact h.obj, h.m.congr hs (fun b hb => hg b (h.fg b hb)), h.fj, h.fg, h.nj, fun b hb => by have := h.lt b hb; omega⟩
theorem JRs.keeps {H' : AH} (h : JRs F H j ws root worn p G) (hk : Keeps H H') : JRs F H' j ws root worn p G := h.congr hk.1 fun b hb => hk.2 b (h.lt b hb)
theorem JR.lt (h : JR F H j ws root worn) : Lt F H := by obtain ⟨p, G, h⟩ := h; exact h.lt
theorem JR.keeps {H' : AH} (h : JR F H j ws root worn) (hk : Keeps H H') : JR F H' j ws root worn := by obtain ⟨p, G, h⟩ := h; exact ⟨p, G, h.keeps hk⟩
theorem JR.up {F1 F1' : Nat → Prop} {H' : AH} (h : JR F H j ws root worn) (hu : Up F1 H F1' H') (hd : Dj F1 F) : JR F H' j ws root worn := by
  obtain ⟨p, G, h0⟩ := h
  exact ⟨p, G, h0.congr hu.1.1 fun b hb => hu.get hd h0.lt hb⟩
theorem JRs.put_worn {w2 : Bool} (h : JRs F H j ws root worn p G) : H.canPut (Addr.add ⟨j, 0, none⟩ 1) 1 ∧ JR F (H.put (Addr.add ⟨j, 0, none⟩ 1) [.bool w2]) j ws root w2 ∧ Up F H F (H.put (Addr.add ⟨j, 0, none⟩ 1) [.bool w2]) := by
  rw [addr_add]
  have hg : ∀ b, b ≠ j → (H.put ⟨j, 0 + 1, none⟩ [.bool w2]).get b = H.get b := fun b hb => by simp [AH.put, upd_get, hb]
  refine ⟨⟨rfl, by simp [h.obj], by simp [h.obj]⟩, ⟨p, G, by simp [AH.put, upd_get, h.obj, setMany], h.m.congr (Nat.le_refl _) (fun b hb => hg b (fun he => h.nj (he ▸ hb))), h.fj, h.fg, h.nj, h.lt⟩, ⟨Nat.le_refl _, fun b _ hn => hg b (fun he => hn (he ▸ h.fj))⟩, fun b hb => .inl hb⟩
theorem JRs.put_ptr {H1 : AH} {p2 : Nat} {G2 : Nat → Prop} {ws2 : List Int} {root2 : Int} (h : JRs F H j ws root worn p G) (hk : Keeps H H1) (hm : RM G2 H1 p2 ws2 root2) (hge : ∀ b, G2 b → H.size ≤ b) :
    H1.canPut (Addr.add ⟨j, 0, none⟩ 0) 1 ∧ ∀ F' H', F' = (fun b => F b ∨ (H.size ≤ b ∧ b < H1.size)) → H' = H1.put (Addr.add ⟨j, 0, none⟩ 0) [.pointer (some ⟨p2, 0, none⟩)] → JR F' H' j ws2 root2 worn ∧ Up F H F' H' := by
  have hj := h.lt j h.fj
  have hobj : H1.get j = ⟨[.pointer (some ⟨p, 0, none⟩), .bool worn], .rw, 0⟩ := by rw [hk.2 j hj]; exact h.obj
  rw [addr_add]
  have hg : ∀ b, b ≠ j → (H1.put ⟨j, 0 + 0, none⟩ [.pointer (some ⟨p2, 0, none⟩)]).get b = H1.get b := fun b hb => by simp [AH.put, upd_get, hb]
  refine ⟨⟨rfl, by simp [hobj], by simp [hobj]⟩, ?_⟩
  rintro F' H' rfl rfl
  refine ⟨⟨p2, G2, by simp [AH.put, upd_get, hobj, setMany], hm.congr (Nat.le_refl _) (fun b hb => hg b (fun he => by have := hge b hb; omega)), .inl h.fj, fun b hb => .inr ⟨hge b hb, hm.lt b hb⟩, fun hb => by have := hge j hb; omega, fun b hb => ?_⟩, ⟨hk.1, fun b hb hn => by rw [hg b (fun he => hn (he ▸ h.fj)), hk.2 b hb]⟩, fun b hb => hb⟩
  rcases hb with hb | hb
  · have := h.lt b hb; have := hk.1; show b < H1.size; omega
  · exact hb.2
end

section
variable {F : Nat → Prop} {H : AH} {j : Nat} {ws : List Int} {root : Int} {worn : Bool} {K a b c cd m : Int} {sl al : Sl} {bs av : List Int} {k : Bool → AH → Prop}

theorem darningref4_Judge_See.s (hok : Ok ws) (hJ : JR F H j ws root worn) (ha : isI a) (hbI : isI b) (hm : isI m) (hb : Abs.Rows H sl 1 bU bs) (h8b : bytes8 bs) (hl : bs.length ≤ 1000000000000) (hr : Abs.Rows H al 1 bU av) (h8 : bytes8 av)
    (h : ∀ r, seeP ws root worn K a b bs cd m av = r → ∀ F' H', Up F H F' H' → JR F' H' j r.2.1 r.2.2.1 r.2.2.2 → k r.1 H') : darningref4_Judge_See (some ⟨j, 0, none⟩) (opl K a b c sl) (ansl cd m al) H k := by
  obtain ⟨p, G, hJ⟩ := hJ
  refine darningref4_Judge_See.link ?_
  unfold darningref4_Judge_See.b
  rw [newC_eq, newC_eq]
  have hk := ((Keeps.refl H).push ⟨opl K a b c sl, .rw, 0⟩).push ⟨ansl cd m al, .rw, 0⟩
  have hA : OpAt ((H.push ⟨opl K a b c sl, .rw, 0⟩).push ⟨ansl cd m al, .rw, 0⟩) H.size K a b c sl := (OpAt.new (H := H) (e := 0)).keep (push_get_ne (by simp [push_size]))
  have hB : AnAt ((H.push ⟨opl K a b c sl, .rw, 0⟩).push ⟨ansl cd m al, .rw, 0⟩) (H.push ⟨opl K a b c sl, .rw, 0⟩).size cd m al := AnAt.new
  have hz4 : H.size < ((H.push ⟨opl K a b c sl, .rw, 0⟩).push ⟨ansl cd m al, .rw, 0⟩).size := by simp [push_size]; omega
  have hz5 : (H.push ⟨opl K a b c sl, .rw, 0⟩).size < ((H.push ⟨opl K a b c sl, .rw, 0⟩).push ⟨ansl cd m al, .rw, 0⟩).size := by simp [push_size]
  generalize (H.push ⟨opl K a b c sl, .rw, 0⟩).size = o5 at *
  generalize (H.push ⟨opl K a b c sl, .rw, 0⟩).push ⟨ansl cd m al, .rw, 0⟩ = H5 at *
  have hJ5 := hJ.keeps hk
  have hr5 := hr.keep hk
  have hsee := seeP_eq ws root worn K a b bs cd m av
  rw [ldA_some hB.row, hB.c0, elI_some]
  refine darningref4_SameAns.s (l2 := []) hr5 rows_none h8 bytes8_nil ?_
  have hq0 : decide (cd = cd ∧ m = 0 ∧ av = []) = decide (m = 0 ∧ av = []) := dec_eq ⟨fun hh => hh.2, fun hh => ⟨rfl, hh⟩⟩
  rw [hq0]
  rw [onPtr_mk, hJ5.c0, elP_some]
  refine darningref4_Model_Clone.s hok hJ5.m ?_
  intro G2 p22 H22 hk22 hu22 hM22
  have hA22 := hA.keep (hk22.2 _ hz4)
  have hB22 := hB.keep (hk22.2 _ hz5)
  have hge22 : ∀ b, G2 b → H5.size ≤ b := fun b hb => by rcases hu22.2 b hb with h0 | h0; exact h0.elim; exact h0.1
  have hJ22 := hJ5.keeps hk22
  have hk' := hk.trans hk22
  have hsz22 := hk22.1
  -- nothing has changed
  have stay : ∀ H', Keeps H22 H' → ∀ r, seeP ws root worn K a b bs cd m av = r → r.2 = (ws, root, worn) → k r.1 H' := fun H' hkk r h1 h2 => h r h1 F H' ⟨Keeps.kp (hk'.trans hkk), fun b hb => .inl hb⟩ ⟨p, G, by rw [h2]; exact hJ22.keeps hkk⟩
  -- the clone has moved on
  have hkm : ∀ {G3 : Nat → Prop} {H3 : AH}, Up G2 H22 G3 H3 → Keeps H5 H3 ∧ (∀ b, G3 b → H5.size ≤ b) := fun {G3 H3} hu => by
    have h1 := hu.1.1
    refine ⟨⟨by omega, fun b hb => by rw [hu.1.2 b (by omega) (fun hh => by have := hge22 b hh; omega), hk22.2 b hb]⟩, fun b hb => ?_⟩
    rcases hu.2 b hb with h0 | h0
    · exact hge22 b h0
    · omega
  have put : ∀ {G3 : Nat → Prop} {H3 : AH} {ws3 : List Int} {root3 : Int}, Up G2 H22 G3 H3 → RM G3 H3 p22 ws3 root3 → seeP ws root worn K a b bs cd m av = (true, ws3, root3, worn) → onPtr (some (⟨j, 0, none⟩ : Addr)) fun a97 => stC H3 (Addr.add a97 0) [(Value.pointer (some ⟨p22, 0, none⟩))] fun Hs => k true Hs := by
    intro G3 H3 ws3 root3 hu hM hs
    obtain ⟨hk3, hge3⟩ := hkm hu
    rw [onPtr_mk]
    obtain ⟨c1, c2⟩ := hJ5.put_ptr hk3 hM hge3
    refine ⟨c1, ?_⟩
    obtain ⟨c3, c4⟩ := c2 _ _ rfl rfl
    exact h _ hs _ _ (Up.of_keeps hk c4) c3
  rw [hA22.c0, elI_some]
  simp only [bcase_eq, decide_eq_true_eq, beq_iff_eq]
  have other : seeP ws root worn K a b bs cd m av = (decide (cd = 1 ∧ m = 0 ∧ av = []), ws, root, worn) → (if m = 0 ∧ av = [] then elI .i64 (AH.cell? H22 (Addr.add ⟨o5, 0, none⟩ 0)) fun n28 => k ((n28 : Int) == 1) H22 else k false H22) := by
    intro hs
    by_cases hq : m = 0 ∧ av = []
    · rw [if_pos hq, hB22.c0, elI_some]
      have e : (cd == 1) = decide (cd = 1 ∧ m = 0 ∧ av = []) := by
        by_cases h1 : cd = 1
        · rw [decide_eq_true ⟨h1, hq⟩]; simpa using h1
        · rw [decide_eq_false (fun hh => h1 hh.1)]; simpa using h1
      rw [e]
      exact stay H22 (Keeps.refl _) _ hs rfl
    · rw [if_neg hq]
      rw [decide_eq_false (fun hh => hq hh.2)] at hs
      exact stay H22 (Keeps.refl _) _ hs rfl
  by_cases h1 : K = 1
  · rw [if_pos h1, hA22.c2, elI_some]
    rw [if_pos h1] at hsee
    refine darningref4_Need.s hbI ?_
    by_cases hn : needN b = 0
    · rw [if_pos (by simpa using hn)]
      rw [if_pos hn] at hsee
      exact other hsee
    rw [if_neg (by simpa using hn), hB22.c0, elI_some]
    rw [if_neg hn] at hsee
    by_cases h3 : cd = 3
    · rw [if_pos (by simpa using h3), onPtr_mk, hJ22.c1, elB_some]
      rw [if_pos h3] at hsee
      by_cases hw : worn = true
      · subst hw
        rw [if_pos rfl, onPtr_mk]
        obtain ⟨c1, c2, c3⟩ := hJ22.put_worn (w2 := true)
        refine ⟨c1, ?_⟩
        exact h _ hsee F _ (Up.of_keeps hk' c3) c2
      · have hw' : worn = false := by cases worn; rfl; exact absurd rfl hw
        subst hw'
        rw [if_neg (by simp), onPtr_mk]
        obtain ⟨c1, c2, c3⟩ := hJ22.put_worn (w2 := decide (m = 0 ∧ av = []))
        refine ⟨c1, ?_⟩
        rw [Bool.false_or] at hsee
        exact h _ hsee F _ (Up.of_keeps hk' c3) c2
    rw [if_neg (by simpa using h3), onPtr_mk, hJ22.c1, elB_some]
    rw [if_neg h3] at hsee
    by_cases hw : worn = true
    · rw [if_pos hw]
      rw [if_pos hw] at hsee
      exact stay H22 (Keeps.refl _) _ hsee rfl
    rw [if_neg hw, elI_some]
    rw [if_neg hw] at hsee
    by_cases h4 : cd = 4
    · rw [if_pos (by simpa using h4)]
      rw [if_pos h4] at hsee
      by_cases hq : m = 0 ∧ av = []
      · rw [if_pos hq, hA22.c2, elI_some]
        refine darningref4_Model_Fits.s hok hM22 hbI ?_
        intro s73 H73 hk73 hO73
        rw [own_len hO73]
        have e : ((((fitO ws b).length : Nat) : Int) == 0) = decide ((m = 0 ∧ av = []) ∧ (fitO ws b).length = 0) := by
          by_cases hz : (fitO ws b).length = 0
          · rw [decide_eq_true ⟨hq, hz⟩, hz]; rfl
          · rw [decide_eq_false (fun hh => hz hh.2)]
            have : ¬ (((fitO ws b).length : Nat) : Int) = 0 := by omega
            simpa using this
        rw [e]
        exact stay H73 hk73 _ hsee rfl
      · rw [if_neg hq]
        rw [decide_eq_false (fun hh => hq hh.1)] at hsee
        exact stay H22 (Keeps.refl _) _ hsee rfl
    rw [if_neg (by simpa using h4), elI_some]
    rw [if_neg h4] at hsee
    have bad : (cd ≠ 0 ∨ av ≠ []) → darningref4_Judge_See.j5 (some ⟨j, 0, none⟩) k (some ⟨p22, 0, none⟩) true H22 := by
      intro hne
      rw [if_pos hne] at hsee
      unfold darningref4_Judge_See.j5
      rw [bcase_true]
      exact stay H22 (Keeps.refl _) _ hsee rfl
    by_cases h0 : cd = 0
    rotate_left 1
    · rw [if_pos (by simpa using h0)]; exact bad (.inl h0)
    rw [if_neg (by simpa using h0), hB22.c2, elL_some]
    by_cases hv : av = []
    rotate_left 1
    · rw [if_pos]
      · exact bad (.inr hv)
      · show (((al.n : Nat) : Int) != 0) = true
        rw [show (((al.n : Nat) : Int) != 0) = !(((al.n : Nat) : Int) == 0) from rfl, nil_len hr, decide_eq_false hv]; rfl
    rw [if_neg]
    rotate_left 1
    · show ¬ (((al.n : Nat) : Int) != 0) = true
      rw [show (((al.n : Nat) : Int) != 0) = !(((al.n : Nat) : Int) == 0) from rfl, nil_len hr, decide_eq_true hv]; simp
    rw [if_neg (by rintro (hh | hh); exact hh h0; exact hh hv)] at hsee
    rw [hA22.c2, elI_some, hB22.c1, elI_some]
    refine darningref4_Model_Alloc.s hok hM22 hbI ?_
    intro G3 H92 hu92 hM92
    unfold darningref4_Judge_See.j5
    rw [bcase_eq]
    by_cases hal : (aAlloc ws b m).1 = true
    · rw [if_neg (by simpa using hal)]
      rw [hal] at hsee
      exact put hu92 hM92 hsee
    · rw [if_pos (by simpa using hal)]
      have hf : (aAlloc ws b m).1 = false := by simpa using hal
      have hws : (aAlloc ws b m).2 = ws := by
        rcases aAlloc_cases ws b m with ⟨_, e⟩ | ⟨_, i, _, _, e⟩
        · rw [e]
        · rw [e] at hf; cases hf
      rw [hf, hws] at hsee
      obtain ⟨hk3, _⟩ := hkm hu92
      exact h _ hsee F H92 ⟨Keeps.kp (hk.trans hk3), fun b hb => .inl hb⟩ ⟨p, G, hJ5.keeps hk3⟩
  rw [if_neg h1]
  rw [if_neg h1] at hsee
  have hfail := doP_fail (ws := ws) (root := root) (K := K) (off := a) (bs := bs)
  -- a change
  have change : (K = 2 ∨ K = 4 ∨ K = 5) → ∀ code ws' root', doP ws root K a bs = (code, ws', root') → ∀ G3 H3, Up G2 H22 G3 H3 → RM G3 H3 p22 ws' root' → darningref4_Judge_See.j4 (some ⟨j, 0, none⟩) k H.size o5 (decide (m = 0 ∧ av = [])) (some ⟨p22, 0, none⟩) code H3 := by
    intro hK code ws' root' hdp G3 H3 hu hM
    obtain ⟨hk3, hge3⟩ := hkm hu
    rw [if_pos hK, hdp] at hsee
    rw [hdp] at hfail
    simp only at hsee hfail
    have hA3 := hA.keep (hk3.2 _ hz4)
    have hB3 := hB.keep (hk3.2 _ hz5)
    have hJ3 := hJ5.keeps hk3
    have hkh := hk.trans hk3
    have stay3 : ∀ r, seeP ws root worn K a b bs cd m av = r → r.2 = (ws, root, worn) → k r.1 H3 := fun r h1 h2 => h r h1 F H3 ⟨Keeps.kp hkh, fun b hb => .inl hb⟩ ⟨p, G, by rw [h2]; exact hJ3⟩
    unfold darningref4_Judge_See.j4
    by_cases hq : m = 0 ∧ av = []
    rotate_left 1
    · rw [decide_eq_false hq, Bool.not_false, bcase_true]
      rw [if_pos hq] at hsee
      exact stay3 _ hsee rfl
    rw [decide_eq_true hq, Bool.not_true, bcase_false, hA3.c0, elI_some]
    rw [if_neg (by simpa using hq)] at hsee
    have j2t : (code = 0 ∧ ¬ (K = 4 ∧ bs = []) ∧ (worn = true ∨ cd = 3)) → darningref4_Judge_See.j2 (some ⟨j, 0, none⟩) k o5 (some ⟨p22, 0, none⟩) H3 code true := by
      intro hc
      rw [if_pos hc] at hsee
      unfold darningref4_Judge_See.j2 darningref4_Judge_See.j1
      rw [bcase_true, onPtr_mk, hJ3.c1, elB_some, bcase_eq]
      have e3 : (cd == 3) = decide (cd = 3) := by
        by_cases h3 : cd = 3
        · rw [decide_eq_true h3]; simpa using h3
        · rw [decide_eq_false h3]; simpa using h3
      have fin : ∀ w2, w2 = (worn || decide (cd = 3)) → ∀ Hs, Hs = H3.put (Addr.add ⟨j, 0, none⟩ 1) [.bool w2] → elI .i64 (AH.cell? Hs (Addr.add ⟨o5, 0, none⟩ 0)) fun n185 => k ((n185 : Int) == (3 : Int)) Hs := by
        rintro w2 hw2 Hs rfl
        obtain ⟨c1, c2, c3⟩ := hJ3.put_worn (w2 := w2)
        have hne : o5 ≠ j := fun he => by
          have hh := hJ3.obj
          obtain ⟨e, he5⟩ := hB3
          rw [← he, he5] at hh
          simp [ansl] at hh
        have hBs : AnAt (H3.put (Addr.add ⟨j, 0, none⟩ 1) [.bool w2]) o5 cd m al := hB3.keep (by rw [addr_add]; simp [AH.put, upd_get, hne])
        rw [hBs.c0, elI_some, e3]
        refine h _ hsee F _ (Up.of_keeps hkh c3) ?_
        rw [← hw2]
        exact c2
      by_cases hw : worn = true
      · rw [if_pos hw, onPtr_mk]
        obtain ⟨c1, _, _⟩ := hJ3.put_worn (w2 := true)
        refine ⟨c1, fin true ?_ _ rfl⟩
        rw [hw]; rfl
      · rw [if_neg hw, hB3.c0, elI_some, onPtr_mk, e3]
        obtain ⟨c1, _, _⟩ := hJ3.put_worn (w2 := decide (cd = 3))
        refine ⟨c1, fin _ ?_ _ rfl⟩
        rw [show worn = false from by cases worn; rfl; exact absurd rfl hw]; rfl
    have j2f : ¬ (code = 0 ∧ ¬ (K = 4 ∧ bs = []) ∧ (worn = true ∨ cd = 3)) → darningref4_Judge_See.j2 (some ⟨j, 0, none⟩) k o5 (some ⟨p22, 0, none⟩) H3 code false := by
      intro hc
      rw [if_neg hc] at hsee
      unfold darningref4_Judge_See.j2
      rw [bcase_false, hB3.c0, elI_some, bcase_eq]
      by_cases he : cd = code
      rotate_left 1
      · rw [if_pos (by simpa using he)]
        rw [if_pos he] at hsee
        exact stay3 _ hsee rfl
      rw [if_neg (by simpa using he), bcase_eq]
      rw [if_neg (by simpa using he)] at hsee
      by_cases h0 : code = 0
      · rw [if_pos (by simpa using h0)]
        exact put hu hM hsee
      · rw [if_neg (by simpa using h0)]
        have := hfail h0
        injection this with t1 t2
        rw [t1, t2] at hsee
        exact stay3 _ hsee rfl
    have j3 : ∀ x12 : Bool, (x12 = true ↔ K = 4 ∧ bs = []) → darningref4_Judge_See.j3 (some ⟨j, 0, none⟩) k o5 (some ⟨p22, 0, none⟩) H3 code x12 := by
      intro x12 hx
      unfold darningref4_Judge_See.j3
      rw [bcase_eq]
      by_cases h0 : code = 0
      rotate_left 1
      · rw [if_neg (by simpa using h0)]; exact j2f (fun hh => h0 hh.1)
      rw [if_pos (by simpa using h0), bcase_eq]
      by_cases hxx : K = 4 ∧ bs = []
      · rw [if_neg (by rw [hx.2 hxx]; simp)]; exact j2f (fun hh => hh.2.1 hxx)
      rw [if_pos (by rw [show x12 = false from by cases x12; rfl; exact absurd (hx.1 rfl) hxx]; rfl), onPtr_mk, hJ3.c1, elB_some, bcase_eq]
      by_cases hw : worn = true
      · rw [if_pos hw]; exact j2t ⟨h0, hxx, .inl hw⟩
      · rw [if_neg hw, hB3.c0, elI_some]
        by_cases h3 : cd = 3
        · rw [show (cd == 3) = true by simpa using h3]; exact j2t ⟨h0, hxx, .inr h3⟩
        · rw [show (cd == 3) = false by simpa using h3]
          exact j2f (fun hh => by rcases hh.2.2 with h9 | h9; exact hw h9; exact h3 h9)
    rw [bcase_eq]
    by_cases h4 : K = 4
    · rw [if_pos (by simpa using h4), opc4 hA3, elL_some]
      show darningref4_Judge_See.j3 _ k _ _ H3 code (((sl.n : Nat) : Int) == 0)
      rw [nil_len hb]
      refine j3 _ ?_
      rw [decide_eq_true_eq]
      exact ⟨fun hh => ⟨h4, hh⟩, fun hh => hh.2⟩
    · rw [if_neg (by simpa using h4)]
      refine j3 false ?_
      exact ⟨fun hh => (by cases hh), fun hh => absurd hh.1 h4⟩
  by_cases h2 : K = 2
  · rw [if_pos h2, hA22.c1, elI_some]
    refine darningref4_Model_Free.s hok hM22 ?_
    intro G3 H3 hu hM
    exact change (.inl h2) _ _ _ (by unfold doP; rw [if_pos h2]) G3 H3 hu hM
  rw [if_neg h2]
  by_cases h4 : K = 4
  · rw [if_pos h4, hA22.c1, elI_some, opc4 hA22, elL_some]
    refine darningref4_Model_Write.s hok hM22 ha (hb.keep hk') h8b hl ?_
    intro G3 H3 hu hM
    exact change (.inr (.inl h4)) _ _ _ (by unfold doP; rw [if_neg h2, if_pos h4]) G3 H3 hu hM
  rw [if_neg h4]
  by_cases h5 : K = 5
  · rw [if_pos h5, hA22.c1, elI_some]
    refine darningref4_Model_SetRoot.s hok hM22 ?_
    intro H3 hu hM
    exact change (.inr (.inr h5)) _ _ _ (by unfold doP; rw [if_neg h2, if_neg h4]) G2 H3 hu hM
  rw [if_neg h5]
  rw [if_neg (by omega)] at hsee
  by_cases h3 : K = 3
  · rw [if_pos h3, hA22.c1, elI_some, hA22.c2, elI_some]
    rw [if_pos h3] at hsee
    refine darningref4_Model_Read.s hok hM22 ha hbI ?_
    intro s127 H127 hk127 hO127
    rw [ldA_some (hB22.keep (hk127.2 _ (by omega))).row]
    refine darningref4_SameAns.s (l2 := (aRead ws a b).1) (hr5.keep (hk22.trans hk127)) (hO127.rows (fun _ => rfl) (fun _ => rfl)) h8 (aRead_8 _ _ _) ?_
    exact stay H127 hk127 _ hsee rfl
  rw [if_neg h3]
  rw [if_neg h3] at hsee
  by_cases h6 : K = 6
  · rw [if_pos h6, ldA_some hB22.row, onPtr_mk]
    rw [if_pos h6] at hsee
    obtain ⟨sw, hRW⟩ := hM22
    rw [hRW.c1, elI_some]
    refine darningref4_SameAns.s (l2 := []) (hr5.keep hk22) rows_none h8 bytes8_nil ?_
    exact stay H22 (Keeps.refl _) _ hsee rfl
  · rw [if_neg h6]
    rw [if_neg h6] at hsee
    exact other hsee
end
end Go.Proofs.Ytgddfhnochcolaa
