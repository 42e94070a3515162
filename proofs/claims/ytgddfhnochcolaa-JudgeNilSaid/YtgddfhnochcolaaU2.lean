import Derived.Test.YtgddfhnochcolaaU1
set_option linter.all false
set_option linter.all false
namespace Go.Proofs.Ytgddfhnochcolaa
open Go Go.Abs

section
variable {F : Nat → Prop} {H : AH} {j : Nat} {ws : List Int} {root : Int} {worn : Bool} {K a b c cd m : Int} {sl al : Sl} {bs av : List Int} {k : Bool → AH → Prop}

theorem dec_eq {p q : Prop} [Decidable p] [Decidable q] (h : p ↔ q) : decide p = decide q := by
  by_cases hp : p
  · rw [decide_eq_true hp, decide_eq_true (h.1 hp)]
  · rw [decide_eq_false hp, decide_eq_false (fun hq => hp (h.2 hq))]
theorem nil_len {s : Sl} {l : List Int} (h : Abs.Rows H s 1 bU l) : (((s.n : Nat) : Int) == 0) = decide (l = []) := by
  rw [h.1]
  cases l with
  | nil => rfl
  | cons x r => simp; omega
theorem bytes8_nil : bytes8 [] := fun v hv => by cases hv

theorem judge_Judge_alloc.s (hJ : JW F H j ws root worn) (ha : isI b) (hm : isI m) (hr : Abs.Rows H al 1 bU av) (h8 : bytes8 av)
    (h : ∀ r, seeP ws root worn 1 a b bs cd m av = r → ∀ F' H', Up F H F' H' → JW F' H' j r.2.1 r.2.2.1 r.2.2.2 → k r.1 H') : judge_Judge_alloc (some ⟨j, 0, none⟩) (opl 1 a b c sl) (ansl cd m al) H k := by
  obtain ⟨p, G, hJ⟩ := hJ
  refine judge_Judge_alloc.link ?_
  unfold judge_Judge_alloc.b
  rw [newC_eq, newC_eq]
  have hk := ((Keeps.refl H).push ⟨opl 1 a b c sl, .rw, 0⟩).push ⟨ansl cd m al, .rw, 0⟩
  have hA : OpAt ((H.push ⟨opl 1 a b c sl, .rw, 0⟩).push ⟨ansl cd m al, .rw, 0⟩) H.size 1 a b c sl := (OpAt.new (H := H) (e := 0)).keep (push_get_ne (by simp [push_size]))
  have hB : AnAt ((H.push ⟨opl 1 a b c sl, .rw, 0⟩).push ⟨ansl cd m al, .rw, 0⟩) (H.push ⟨opl 1 a b c sl, .rw, 0⟩).size cd m al := AnAt.new
  generalize (H.push ⟨opl 1 a b c sl, .rw, 0⟩).size = o5 at *
  generalize (H.push ⟨opl 1 a b c sl, .rw, 0⟩).push ⟨ansl cd m al, .rw, 0⟩ = H5 at *
  have hJ5 := hJ.keeps hk
  have hr5 := hr.keep hk
  have stay : ∀ r, seeP ws root worn 1 a b bs cd m av = r → r.2 = (ws, root, worn) → k r.1 H5 := fun r h1 h2 => h r h1 F H5 ⟨Keeps.kp hk, fun b hb => .inl hb⟩ ⟨p, G, by rw [h2]; exact hJ5⟩
  have hsee := seeP_eq ws root worn 1 a b bs cd m av
  rw [if_pos rfl] at hsee
  rw [hA.c2, elI_some]
  refine fit_Need.s ha ?_
  rw [bcase_eq]
  by_cases hn : needN b = 0
  · rw [if_pos (by simpa using hn), ldA_some hB.row]
    rw [if_pos hn] at hsee
    refine judge_same.s (l2 := []) hr5 rows_none h8 bytes8_nil ?_
    exact stay _ hsee rfl
  rw [if_neg (by simpa using hn), ldA_some hB.row]
  rw [if_neg hn] at hsee
  refine judge_same.s (l2 := []) hr5 rows_none h8 bytes8_nil ?_
  rw [bcase_eq]
  by_cases h3 : cd = 3
  · rw [if_pos h3] at hsee
    by_cases hq : m = 0 ∧ av = []
    · rw [if_pos (by simpa using ⟨h3, hq⟩), onPtr_mk]
      obtain ⟨c1, c2, c3⟩ := hJ5.put_worn (w2 := true)
      refine ⟨c1, ?_⟩
      rw [decide_eq_true hq, Bool.or_true] at hsee
      exact h _ hsee F _ (Up.of_keeps hk c3) c2
    · rw [if_neg (by simp only [decide_eq_true_eq]; exact fun hh => hq hh.2), onPtr_mk, hJ5.c1, elB_some, bcase_eq]
      rw [decide_eq_false hq, Bool.or_false] at hsee
      by_cases hw : worn = true
      · rw [if_pos hw]; exact stay _ hsee rfl
      · rw [if_neg hw, hB.c0, elI_some, bcase_eq, if_neg (by simp; omega)]
        unfold judge_Judge_alloc.j1
        rw [bcase_false, ldA_some hB.row]
        refine judge_same.s (l2 := []) hr5 rows_none h8 bytes8_nil ?_
        rw [decide_eq_false (fun hh => by omega), bcase_false]
        exact stay _ hsee rfl
  rw [if_neg h3] at hsee
  rw [if_neg (by simp only [decide_eq_true_eq]; exact fun hh => h3 hh.1), onPtr_mk, hJ5.c1, elB_some, bcase_eq]
  by_cases hw : worn = true
  · rw [if_pos hw] at hsee
    rw [if_pos hw]; exact stay _ hsee rfl
  rw [if_neg hw] at hsee
  rw [if_neg hw, hB.c0, elI_some, bcase_eq]
  have j1f : (cd ≠ 0 ∨ av ≠ []) → judge_Judge_alloc.j1 (some ⟨j, 0, none⟩) k H.size o5 H5 false := by
    intro hne
    unfold judge_Judge_alloc.j1
    rw [bcase_false, ldA_some hB.row]
    refine judge_same.s (l2 := []) hr5 rows_none h8 bytes8_nil ?_
    rw [bcase_eq]
    by_cases h4 : cd = 4
    · rw [if_pos h4] at hsee
      by_cases hq : m = 0 ∧ av = []
      · rw [if_pos (by simpa using ⟨h4, hq⟩), onPtr_mk, hJ5.c0, elP_some, hA.c2, elI_some]
        refine model_Model_Fits.s hJ5.m ha ?_
        intro s56 H56 hk56 hO56
        rw [own_len hO56]
        have e : ((((fitO ws b).length : Nat) : Int) == 0) = decide ((m = 0 ∧ av = []) ∧ (fitO ws b).length = 0) := by
          by_cases hz : (fitO ws b).length = 0
          · rw [decide_eq_true ⟨hq, hz⟩, hz]; rfl
          · rw [decide_eq_false (fun hh => hz hh.2)]
            have : ¬ (((fitO ws b).length : Nat) : Int) = 0 := by omega
            simpa using this
        rw [e]
        have hkk := hk.trans hk56
        exact h _ hsee F H56 ⟨Keeps.kp hkk, fun b hb => .inl hb⟩ ⟨p, G, hJ.keeps hkk⟩
      · rw [if_neg (by simp only [decide_eq_true_eq]; exact fun hh => hq hh.2)]
        rw [decide_eq_false (fun hh => hq hh.1)] at hsee
        exact stay _ hsee rfl
    · rw [if_neg h4, if_pos hne] at hsee
      rw [if_neg (by simp only [decide_eq_true_eq]; exact fun hh => h4 hh.1)]
      exact stay _ hsee rfl
  by_cases h0 : cd = 0
  rotate_left 1
  · rw [if_neg (by simpa using h0)]; exact j1f (.inl h0)
  rw [if_pos (by simpa using h0), hB.c2, elL_some]
  show judge_Judge_alloc.j1 _ k _ _ H5 (((al.n : Nat) : Int) == 0)
  rw [nil_len hr]
  by_cases hv : av = []
  rotate_left 1
  · rw [decide_eq_false hv]; exact j1f (.inr hv)
  rw [decide_eq_true hv]
  rw [if_neg (by omega), if_neg (by rintro (hh | hh); exact hh h0; exact hh hv)] at hsee
  unfold judge_Judge_alloc.j1
  rw [bcase_true, onPtr_mk, hJ5.c0, elP_some, hA.c2, elI_some, hB.c1, elI_some]
  refine model_Model_Alloc.s hJ5.m ha hm ?_
  intro G' H45 hu45 hM45
  obtain ⟨F', hJ', hu'⟩ := hJ5.step hu45 hM45
  exact h _ hsee F' H45 (Up.of_keeps hk hu') hJ'

theorem judge_does.s {p : Nat} {G : Nat → Prop} {kk : Int → AH → Prop} (hM : MW G H p ws root) (ha : isI a) (hr : Abs.Rows H sl 1 bU bs) (h8 : bytes8 bs) (hl : bs.length ≤ 1000000000000)
    (h : ∀ G' H', Up G H G' H' → MW G' H' p (doP ws root K a bs).2.1 (doP ws root K a bs).2.2 → kk (doP ws root K a bs).1 H') : judge_does (some ⟨p, 0, none⟩) (opl K a b c sl) H kk := by
  refine judge_does.link ?_
  unfold judge_does.b
  rw [newC_eq]
  have hk := (Keeps.refl H).push ⟨opl K a b c sl, .rw, 0⟩
  have hA : OpAt (H.push ⟨opl K a b c sl, .rw, 0⟩) H.size K a b c sl := OpAt.new
  generalize H.push ⟨opl K a b c sl, .rw, 0⟩ = H3 at *
  have hM3 := hM.keeps hk
  unfold doP at h
  rw [hA.c0, elI_some, bcase_eq]
  by_cases h2 : K = 2
  · rw [if_pos h2] at h
    rw [if_pos (by simpa using h2), hA.c1, elI_some]
    refine model_Model_Free.s hM3 ?_
    intro G' H' hu hM'
    exact h G' H' (Up.of_keeps hk hu) hM'
  rw [if_neg h2] at h
  rw [if_neg (by simpa using h2), bcase_eq]
  by_cases h4 : K = 4
  · rw [if_pos h4] at h
    rw [if_pos (by simpa using h4), hA.c1, elI_some, opc4 hA, elL_some]
    refine model_Model_Write.s hM3 ha (hr.keep hk) h8 (by omega) ?_
    intro G' H' hu hM'
    exact h G' H' (Up.of_keeps hk hu) hM'
  rw [if_neg h4] at h
  rw [if_neg (by simpa using h4), hA.c1, elI_some]
  refine model_Model_SetRoot.s hM3 ?_
  intro H' hu hM'
  exact h G H' (Up.of_keeps hk hu) hM'

theorem judge_Judge_change.s (hJ : JW F H j ws root worn) (hK : K = 2 ∨ K = 4 ∨ K = 5) (ha : isI a) (hb : Abs.Rows H sl 1 bU bs) (h8b : bytes8 bs) (hl : bs.length ≤ 1000000000000) (hr : Abs.Rows H al 1 bU av) (h8 : bytes8 av)
    (h : ∀ r, seeP ws root worn K a b bs cd m av = r → ∀ F' H', Up F H F' H' → JW F' H' j r.2.1 r.2.2.1 r.2.2.2 → k r.1 H') : judge_Judge_change (some ⟨j, 0, none⟩) (opl K a b c sl) (ansl cd m al) H k := by
  obtain ⟨p, G, hJ⟩ := hJ
  refine judge_Judge_change.link ?_
  unfold judge_Judge_change.b
  rw [newC_eq, newC_eq]
  have hk := ((Keeps.refl H).push ⟨opl K a b c sl, .rw, 0⟩).push ⟨ansl cd m al, .rw, 0⟩
  have hA : OpAt ((H.push ⟨opl K a b c sl, .rw, 0⟩).push ⟨ansl cd m al, .rw, 0⟩) H.size K a b c sl := (OpAt.new (H := H) (e := 0)).keep (push_get_ne (by simp [push_size]))
  have hB : AnAt ((H.push ⟨opl K a b c sl, .rw, 0⟩).push ⟨ansl cd m al, .rw, 0⟩) (H.push ⟨opl K a b c sl, .rw, 0⟩).size cd m al := AnAt.new
  have hz4 : H.size < ((H.push ⟨opl K a b c sl, .rw, 0⟩).push ⟨ansl cd m al, .rw, 0⟩).size := by simp [push_size]; omega
  have hz5 : (H.push ⟨opl K a b c sl, .rw, 0⟩).size < ((H.push ⟨opl K a b c sl, .rw, 0⟩).push ⟨ansl cd m al, .rw, 0⟩).size := by simp [push_size]
  generalize (H.push ⟨opl K a b c sl, .rw, 0⟩).size = o5 at *
  generalize (H.push ⟨opl K a b c sl, .rw, 0⟩).push ⟨ansl cd m al, .rw, 0⟩ = H5 at *
  have hJ5 := hJ.keeps hk
  rw [onPtr_mk, hJ5.c0, elP_some]
  refine model_Model_Copy.s hJ5.m ?_
  intro G2 p14 H14 hk14 hu14 hM14
  have hA14 := hA.keep (hk14.2 _ hz4)
  have hkk := hk.trans hk14
  rw [ldA_some hA14.row]
  have hge14 : ∀ b, G2 b → H5.size ≤ b := fun b hb => by rcases hu14.2 b hb with h0 | h0; exact h0.elim; exact h0.1
  refine judge_does.s hM14 ha (hb.keep hkk) h8b hl ?_
  intro G3 H17 hu17 hM17
  have h514 := hk14.1
  have h1417 := hu17.1.1
  have hk17 : Keeps H5 H17 := ⟨by omega, fun b hb => by rw [hu17.1.2 b (by omega) (fun hh => by have := hge14 b hh; omega), hk14.2 b hb]⟩
  have hge17 : ∀ b, G3 b → H5.size ≤ b := fun b hb => by rcases hu17.2 b hb with h0 | h0; exact hge14 b h0; omega
  have hA17 := hA.keep (hk17.2 _ hz4)
  have hB17 := hB.keep (hk17.2 _ hz5)
  have hJ17 := hJ5.keeps hk17
  have hkh := hk.trans hk17
  have hr17 := hr.keep hkh
  have hfail := doP_fail (ws := ws) (root := root) (K := K) (off := a) (bs := bs)
  rw [hA17.c0, elI_some]
  have hsee := seeP_eq ws root worn K a b bs cd m av
  rw [if_neg (by omega), if_pos hK] at hsee
  generalize doP ws root K a bs = dp at *
  obtain ⟨code, ws', root'⟩ := dp
  simp only at hM17 hsee hfail ⊢
  have stay : ∀ r, seeP ws root worn K a b bs cd m av = r → r.2 = (ws, root, worn) → k r.1 H17 := fun r h1 h2 => h r h1 F H17 ⟨Keeps.kp hkh, fun b hb => .inl hb⟩ ⟨p, G, by rw [h2]; exact hJ17⟩
  -- the new model is put
  have put : seeP ws root worn K a b bs cd m av = (true, ws', root', worn) → judge_Judge_change.j1 (some ⟨j, 0, none⟩) k (some ⟨p14, 0, none⟩) H17 := by
    intro hs
    unfold judge_Judge_change.j1
    rw [onPtr_mk]
    obtain ⟨c1, c2⟩ := hJ5.put_ptr hk17 hM17 hge17
    refine ⟨c1, ?_⟩
    obtain ⟨c3, c4⟩ := c2 _ _ rfl rfl
    exact h _ hs _ _ (Up.of_keeps hk c4) c3
  have tail : ¬ (code = 0 ∧ ¬ (K = 4 ∧ bs = []) ∧ (worn = true ∨ cd = 3)) → ∀ k2 : Prop, k2 = (ldA H17 ⟨o5, 0, none⟩ 3 fun c56 => judge_same c56 [(Value.int .i64 code), (Value.int .i64 0), (Value.slice none 0 0)] H17 fun b59 H59 => bcase (!b59) (k false H59) (judge_Judge_change.j1 (some ⟨j, 0, none⟩) k (some ⟨p14, 0, none⟩) H59)) → k2 := by
    rintro hno k2 rfl
    rw [ldA_some hB17.row]
    refine judge_same.s (l2 := []) hr17 rows_none h8 bytes8_nil ?_
    by_cases hq : m = 0 ∧ av = []
    · rw [if_neg (by simpa using hq), if_neg hno] at hsee
      by_cases hc : cd = code
      · rw [if_neg (by simpa using hc)] at hsee
        rw [decide_eq_true ⟨hc, hq⟩, Bool.not_true, bcase_false]
        exact put hsee
      · rw [if_pos hc] at hsee
        rw [decide_eq_false (fun hh => hc hh.1), Bool.not_false, bcase_true]
        exact stay _ hsee rfl
    · rw [if_pos hq] at hsee
      rw [decide_eq_false (fun hh => hq hh.2), Bool.not_false, bcase_true]
      exact stay _ hsee rfl
  have j2f : ∀ x9 : Bool, (x9 = true ↔ K = 4 ∧ bs = []) → ¬ (code = 0 ∧ ¬ (K = 4 ∧ bs = []) ∧ (cd = 3 ∧ m = 0 ∧ av = [])) → judge_Judge_change.j2 (some ⟨j, 0, none⟩) k o5 (some ⟨p14, 0, none⟩) code x9 false H17 := by
    intro x9 hx9 hn3
    unfold judge_Judge_change.j2
    rw [bcase_false, bcase_eq]
    by_cases h0 : code = 0
    · rw [if_pos (by simpa using h0), bcase_eq]
      by_cases hx : K = 4 ∧ bs = []
      · rw [if_neg (by rw [hx9.2 hx]; simp)]
        exact tail (fun hh => hh.2.1 hx) _ rfl
      · rw [if_pos (by rw [show x9 = false from by cases x9; rfl; exact absurd (hx9.1 rfl) hx]; rfl), onPtr_mk, hJ17.c1, elB_some, bcase_eq]
        by_cases hw : worn = true
        · rw [if_pos hw]
          by_cases hq : m = 0 ∧ av = []
          · rw [if_neg (by simpa using hq), if_pos ⟨h0, hx, .inl hw⟩] at hsee
            have h3 : cd ≠ 3 := fun h3 => hn3 ⟨h0, hx, h3, hq⟩
            rw [decide_eq_false h3, Bool.or_false] at hsee
            exact stay _ hsee rfl
          · rw [if_pos hq] at hsee
            exact stay _ hsee rfl
        · rw [if_neg hw]
          by_cases h3 : cd = 3
          · -- not quiet and three, but the rest differs
            have hq : ¬ (m = 0 ∧ av = []) := fun hq => hn3 ⟨h0, hx, h3, hq⟩
            rw [if_pos hq] at hsee
            rw [ldA_some hB17.row]
            refine judge_same.s (l2 := []) hr17 rows_none h8 bytes8_nil ?_
            rw [decide_eq_false (fun hh => hq hh.2), Bool.not_false, bcase_true]
            exact stay _ hsee rfl
          · exact tail (fun hh => by rcases hh.2.2 with h9 | h9; exact hw h9; exact h3 h9) _ rfl
    · rw [if_neg (by simpa using h0)]
      exact tail (fun hh => h0 hh.1) _ rfl
  have j3 : ∀ x9 : Bool, (x9 = true ↔ K = 4 ∧ bs = []) → judge_Judge_change.j3 (some ⟨j, 0, none⟩) k o5 (some ⟨p14, 0, none⟩) H17 code x9 := by
    intro x9 hx9
    unfold judge_Judge_change.j3
    rw [bcase_eq]
    by_cases h0 : code = 0
    · rw [if_pos (by simpa using h0), bcase_eq]
      by_cases hx : K = 4 ∧ bs = []
      · rw [if_neg (by rw [hx9.2 hx]; simp)]
        exact j2f x9 hx9 (fun hh => hh.2.1 hx)
      · rw [if_pos (by rw [show x9 = false from by cases x9; rfl; exact absurd (hx9.1 rfl) hx]; rfl), ldA_some hB17.row]
        refine judge_same.s (l2 := []) hr17 rows_none h8 bytes8_nil ?_
        by_cases h3 : cd = 3 ∧ m = 0 ∧ av = []
        · rw [decide_eq_true h3]
          unfold judge_Judge_change.j2
          rw [bcase_true, onPtr_mk]
          rw [if_neg (by simpa using h3.2), if_pos ⟨h0, hx, .inr h3.1⟩, decide_eq_true h3.1, Bool.or_true] at hsee
          obtain ⟨c1, c2, c3⟩ := hJ17.put_worn (w2 := true)
          refine ⟨c1, ?_⟩
          exact h _ hsee F _ (Up.of_keeps hkh c3) c2
        · rw [decide_eq_false h3]
          exact j2f x9 hx9 (fun hh => h3 hh.2.2)
    · rw [if_neg (by simpa using h0)]
      exact j2f x9 hx9 (fun hh => h0 hh.1)
  rw [bcase_eq]
  by_cases h4 : K = 4
  · rw [if_pos (by simpa using h4), opc4 hA17, elL_some]
    show judge_Judge_change.j3 _ k _ _ H17 code (((sl.n : Nat) : Int) == 0)
    rw [nil_len hb]
    refine j3 _ ?_
    rw [decide_eq_true_eq]
    exact ⟨fun hh => ⟨h4, hh⟩, fun hh => hh.2⟩
  · rw [if_neg (by simpa using h4)]
    refine j3 false ?_
    exact ⟨fun hh => (by cases hh), fun hh => absurd hh.1 h4⟩

theorem judge_Judge_See.s (hJ : JW F H j ws root worn) (ha : isI a) (hbI : isI b) (hm : isI m) (hb : Abs.Rows H sl 1 bU bs) (h8b : bytes8 bs) (hl : bs.length ≤ 1000000000000) (hr : Abs.Rows H al 1 bU av) (h8 : bytes8 av)
    (h : ∀ r, seeP ws root worn K a b bs cd m av = r → ∀ F' H', Up F H F' H' → JW F' H' j r.2.1 r.2.2.1 r.2.2.2 → k r.1 H') : judge_Judge_See (some ⟨j, 0, none⟩) (opl K a b c sl) (ansl cd m al) H k := by
  have hJ0 := hJ
  obtain ⟨p, G, hJ⟩ := hJ
  refine judge_Judge_See.link ?_
  unfold judge_Judge_See.b
  rw [newC_eq, newC_eq]
  have hk := ((Keeps.refl H).push ⟨opl K a b c sl, .rw, 0⟩).push ⟨ansl cd m al, .rw, 0⟩
  have hA : OpAt ((H.push ⟨opl K a b c sl, .rw, 0⟩).push ⟨ansl cd m al, .rw, 0⟩) H.size K a b c sl := (OpAt.new (H := H) (e := 0)).keep (push_get_ne (by simp [push_size]))
  have hB : AnAt ((H.push ⟨opl K a b c sl, .rw, 0⟩).push ⟨ansl cd m al, .rw, 0⟩) (H.push ⟨opl K a b c sl, .rw, 0⟩).size cd m al := AnAt.new
  have hz5 : (H.push ⟨opl K a b c sl, .rw, 0⟩).size < ((H.push ⟨opl K a b c sl, .rw, 0⟩).push ⟨ansl cd m al, .rw, 0⟩).size := by simp [push_size]
  generalize (H.push ⟨opl K a b c sl, .rw, 0⟩).size = o5 at *
  generalize (H.push ⟨opl K a b c sl, .rw, 0⟩).push ⟨ansl cd m al, .rw, 0⟩ = H5 at *
  have hJ5 := hJ.keeps hk
  have hr5 := hr.keep hk
  have h' : ∀ r, seeP ws root worn K a b bs cd m av = r → ∀ F' H', Up F H5 F' H' → JW F' H' j r.2.1 r.2.2.1 r.2.2.2 → k r.1 H' := fun r hs F' H' hu hj => h r hs F' H' (Up.of_keeps hk hu) hj
  have stay : ∀ H', Keeps H5 H' → ∀ r, seeP ws root worn K a b bs cd m av = r → r.2 = (ws, root, worn) → k r.1 H' := fun H' hk' r h1 h2 => h' r h1 F H' ⟨Keeps.kp hk', fun b hb => .inl hb⟩ ⟨p, G, by rw [h2]; exact hJ5.keeps hk'⟩
  rw [Option.isNone_some, bcase_false, hA.c0, elI_some, bcase_eq]
  by_cases h1 : K = 1
  · subst h1
    rw [if_pos (by simp), ldA_some hA.row, ldA_some hB.row]
    exact judge_Judge_alloc.s ⟨p, G, hJ5⟩ hbI hm hr5 h8 h'
  rw [if_neg (by simpa using h1)]
  have ch : (K = 2 ∨ K = 4 ∨ K = 5) → judge_Judge_See.j1 (some ⟨j, 0, none⟩) k H.size o5 H5 K true := by
    intro hK
    unfold judge_Judge_See.j1
    rw [bcase_true, ldA_some hA.row, ldA_some hB.row]
    exact judge_Judge_change.s ⟨p, G, hJ5⟩ hK ha (hb.keep hk) h8b hl hr5 h8 h'
  rw [bcase_eq]
  by_cases h2 : K = 2
  · rw [if_pos (by simpa using h2), show (K == 2) = true by simpa using h2]
    exact ch (.inl h2)
  rw [if_neg (by simpa using h2), bcase_eq]
  by_cases h4 : K = 4
  · rw [if_pos (by simpa using h4), show (K == 4) = true by simpa using h4]
    exact ch (.inr (.inl h4))
  rw [if_neg (by simpa using h4)]
  by_cases h5 : K = 5
  · rw [show (K == 5) = true by simpa using h5]
    exact ch (.inr (.inr h5))
  rw [show (K == 5) = false by simpa using h5]
  have hsee := seeP_eq ws root worn K a b bs cd m av
  rw [if_neg h1, if_neg (by omega)] at hsee
  unfold judge_Judge_See.j1
  rw [bcase_false, bcase_eq]
  by_cases h3 : K = 3
  · rw [if_pos h3] at hsee
    rw [if_pos (by simpa using h3), onPtr_mk, hJ5.c0, elP_some, hA.c1, elI_some, hA.c2, elI_some]
    refine model_Model_Read.s hJ5.m ha hbI ?_
    intro s38 H38 hk38 hO38
    have hB38 := hB.keep (hk38.2 _ hz5)
    rw [ldA_some hB38.row]
    refine judge_same.s (l2 := (aRead ws a b).1) (hr5.keep hk38) (hO38.rows (fun _ => rfl) (fun _ => rfl)) h8 (aRead_8 _ _ _) ?_
    exact stay H38 hk38 _ hsee rfl
  rw [if_neg h3] at hsee
  rw [if_neg (by simpa using h3), bcase_eq]
  by_cases h6 : K = 6
  · rw [if_pos h6] at hsee
    rw [if_pos (by simpa using h6), ldA_some hB.row, onPtr_mk, hJ5.c0, elP_some]
    refine model_Model_Root.s hJ5.m ?_
    refine ⟨hB.row, ?_⟩
    refine judge_same.s (l2 := []) hr5 rows_none h8 bytes8_nil ?_
    exact stay H5 (Keeps.refl _) _ hsee rfl
  · rw [if_neg h6] at hsee
    rw [if_neg (by simpa using h6), ldA_some hB.row]
    refine judge_same.s (l2 := []) hr5 rows_none h8 bytes8_nil ?_
    exact stay H5 (Keeps.refl _) _ hsee rfl
end
end Go.Proofs.Ytgddfhnochcolaa
