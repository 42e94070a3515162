/- Lemmas for the law: an abstract machine, and what the functions do on it. No condition. -/
import Derived.Test.YtdcbkjgoaknmkaaGreatET14
set_option linter.all false
open List renaming replicate → qli
open Int renaming toNat_natCast → qlj
open Option renaming isNone_some → qls
open Go.Abs renaming Rows → qlA
open Bool renaming not_false → qlV
set_option linter.all false
namespace Go.Proofs.YtdcbkjgoaknmkaaGreat
open Go Go.Abs
section
variable {F : Nat → Prop} {H : AH} {j : Nat} {ws : List Int} {root : Int} {worn : Bool} {K a b c cd m : Int} {sl al : Sl} {bs av : List Int} {k : Bool → AH → Prop}
theorem nil_len {s : Sl} {l : List Int} (h : qlA H s 1 bU l) : (((s.n : Nat) : Int) == 0) = decide (l = []) := by
 rw [h.1]
 cases l with
 | nil => rfl
 | cons x r => simp; omega
theorem qbI : qaW [] := fun v hv => by cases hv
theorem qQ.s (hJ : JW F H j ws root worn) (ha : isI b) (hm : isI m) (hr : qlA H al 1 bU av) (h8 : qaW av)
  (h : ∀ r, seeP ws root worn 1 a b bs cd m av = r → ∀ F' H', Up F H F' H' → JW F' H' j r.2.1 r.2.2.1 r.2.2.2 → k r.1 H') : qQ (some ⟨j, 0, none⟩) (opl 1 a b c sl) (ansl cd m al) H k := by
 obtain ⟨p, G, hJ⟩ := hJ
 refine qQ.link ?_
 unfold qQ.b
 rw [qr, qr]
 have hk := ((qa.refl H).push ⟨opl 1 a b c sl, .rw, 0⟩).push ⟨ansl cd m al, .rw, 0⟩
 have hA : OpAt ((H.push ⟨opl 1 a b c sl, .rw, 0⟩).push ⟨ansl cd m al, .rw, 0⟩) H.size 1 a b c sl := (OpAt.new (H := H) (e := 0)).keep (qB (by simp [qi]))
 have hB : AnAt ((H.push ⟨opl 1 a b c sl, .rw, 0⟩).push ⟨ansl cd m al, .rw, 0⟩) (H.push ⟨opl 1 a b c sl, .rw, 0⟩).size cd m al := AnAt.new
 generalize (H.push ⟨opl 1 a b c sl, .rw, 0⟩).size = o5 at *
 generalize (H.push ⟨opl 1 a b c sl, .rw, 0⟩).push ⟨ansl cd m al, .rw, 0⟩ = H5 at *
 have hJ5 := hJ.keeps hk
 have hr5 := hr.keep hk
 have stay : ∀ r, seeP ws root worn 1 a b bs cd m av = r → r.2 = (ws, root, worn) → k r.1 H5 := fun r h1 h2 => h r h1 F H5 ⟨qa.kp hk, fun b hb => .inl hb⟩ ⟨p, G, by rw [h2]; exact hJ5⟩
 have hsee := qcN ws root worn 1 a b bs cd m av
 rw [if_pos rfl] at hsee
 rw [hA.c2, qg]
 refine qa9.s ha ?_
 rw [qf]
 by_cases hn : needN b = 0
 ·rw [if_pos (by simpa using hn), qn hB.row]
  rw [if_pos hn] at hsee
  refine qY.s (l2 := []) hr5 qbB h8 qbI ?_
  exact stay _ hsee rfl
 rw [if_neg (by simpa using hn), qn hB.row]
 rw [if_neg hn] at hsee
 refine qY.s (l2 := []) hr5 qbB h8 qbI ?_
 rw [qf]
 by_cases h3 : cd = 3
 ·rw [if_pos h3] at hsee
  by_cases hq : m = 0 ∧ av = []
  ·rw [if_pos (by simpa using ⟨h3, hq⟩), qd]
   obtain ⟨c1, c2, c3⟩ := hJ5.put_worn (w2 := true)
   refine ⟨c1, ?_⟩
   rw [decide_eq_true hq, Bool.or_true] at hsee
   exact h _ hsee F _ (Up.of_keeps hk c3) c2
  ·rw [if_neg (by simp only [decide_eq_true_eq]; exact fun hh => hq hh.2), qd, hJ5.c1, qa3, qf]
   rw [decide_eq_false hq, Bool.or_false] at hsee
   by_cases hw : worn = true
   ·rw [if_pos hw]; exact stay _ hsee rfl
   ·rw [if_neg hw, hB.c0, qg, qf, if_neg (by simp; omega)]
    unfold qQ.j1
    rw [qc, qn hB.row]
    refine qY.s (l2 := []) hr5 qbB h8 qbI ?_
    rw [decide_eq_false (fun hh => by omega), qc]
    exact stay _ hsee rfl
 rw [if_neg h3] at hsee
 rw [if_neg (by simp only [decide_eq_true_eq]; exact fun hh => h3 hh.1), qd, hJ5.c1, qa3, qf]
 by_cases hw : worn = true
 ·rw [if_pos hw] at hsee
  rw [if_pos hw]; exact stay _ hsee rfl
 rw [if_neg hw] at hsee
 rw [if_neg hw, hB.c0, qg, qf]
 have j1f : (cd ≠ 0 ∨ av ≠ []) → qQ.j1 (some ⟨j, 0, none⟩) k H.size o5 H5 false := by
  intro hne
  unfold qQ.j1
  rw [qc, qn hB.row]
  refine qY.s (l2 := []) hr5 qbB h8 qbI ?_
  rw [qf]
  by_cases h4 : cd = 4
  ·rw [if_pos h4] at hsee
   by_cases hq : m = 0 ∧ av = []
   ·rw [if_pos (by simpa using ⟨h4, hq⟩), qd, hJ5.c0, qK, hA.c2, qg]
    refine qae.s hJ5.m ha ?_
    intro s56 H56 hk56 hO56
    rw [own_len hO56]
    have e : ((((fitO ws b).length : Nat) : Int) == 0) = decide ((m = 0 ∧ av = []) ∧ (fitO ws b).length = 0) := by
     by_cases hz : (fitO ws b).length = 0
     ·rw [decide_eq_true ⟨hq, hz⟩, hz]; rfl
     ·rw [decide_eq_false (fun hh => hz hh.2)]
      have : ¬ (((fitO ws b).length : Nat) : Int) = 0 := by omega
      simpa using this
    rw [e]
    have hkk := hk.trans hk56
    exact h _ hsee F H56 ⟨qa.kp hkk, fun b hb => .inl hb⟩ ⟨p, G, hJ.keeps hkk⟩
   ·rw [if_neg (by simp only [decide_eq_true_eq]; exact fun hh => hq hh.2)]
    rw [decide_eq_false (fun hh => hq hh.1)] at hsee
    exact stay _ hsee rfl
  ·rw [if_neg h4, if_pos hne] at hsee
   rw [if_neg (by simp only [decide_eq_true_eq]; exact fun hh => h4 hh.1)]
   exact stay _ hsee rfl
 by_cases h0 : cd = 0
 rotate_left 1
 ·rw [if_neg (by simpa using h0)]; exact j1f (.inl h0)
 rw [if_pos (by simpa using h0), hB.c2, qac]
 show qQ.j1 _ k _ _ H5 (((al.n : Nat) : Int) == 0)
 rw [nil_len hr]
 by_cases hv : av = []
 rotate_left 1
 ·rw [decide_eq_false hv]; exact j1f (.inr hv)
 rw [decide_eq_true hv]
 rw [if_neg (by omega), if_neg (by rintro (hh | hh); exact hh h0; exact hh hv)] at hsee
 unfold qQ.j1
 rw [qk, qd, hJ5.c0, qK, hA.c2, qg, hB.c1, qg]
 refine qH.s hJ5.m ha hm ?_
 intro G' H45 hu45 hM45
 obtain ⟨F', hJ', hu'⟩ := hJ5.step hu45 hM45
 exact h _ hsee F' H45 (Up.of_keeps hk hu') hJ'
theorem qcs.s {p : Nat} {G : Nat → Prop} {kk : Int → AH → Prop} (hM : MW G H p ws root) (ha : isI a) (hr : qlA H sl 1 bU bs) (h8 : qaW bs) (hl : bs.length ≤ 1000000000000)
  (h : ∀ G' H', Up G H G' H' → MW G' H' p (doP ws root K a bs).2.1 (doP ws root K a bs).2.2 → kk (doP ws root K a bs).1 H') : qcs (some ⟨p, 0, none⟩) (opl K a b c sl) H kk := by
 refine qcs.link ?_
 unfold qcs.b
 rw [qr]
 have hk := (qa.refl H).push ⟨opl K a b c sl, .rw, 0⟩
 have hA : OpAt (H.push ⟨opl K a b c sl, .rw, 0⟩) H.size K a b c sl := OpAt.new
 generalize H.push ⟨opl K a b c sl, .rw, 0⟩ = H3 at *
 have hM3 := hM.keeps hk
 unfold doP at h
 rw [hA.c0, qg, qf]
 by_cases h2 : K = 2
 ·rw [if_pos h2] at h
  rw [if_pos (by simpa using h2), hA.c1, qg]
  refine qbh.s hM3 ?_
  intro G' H' hu hM'
  exact h G' H' (Up.of_keeps hk hu) hM'
 rw [if_neg h2] at h
 rw [if_neg (by simpa using h2), qf]
 by_cases h4 : K = 4
 ·rw [if_pos h4] at h
  rw [if_pos (by simpa using h4), hA.c1, qg, opc4 hA, qac]
  refine qa7.s hM3 ha (hr.keep hk) h8 (by omega) ?_
  intro G' H' hu hM'
  exact h G' H' (Up.of_keeps hk hu) hM'
 rw [if_neg h4] at h
 rw [if_neg (by simpa using h4), hA.c1, qg]
 refine qO.s hM3 ?_
 intro H' hu hM'
 exact h G H' (Up.of_keeps hk hu) hM'
theorem qx.s (hJ : JW F H j ws root worn) (hK : K = 2 ∨ K = 4 ∨ K = 5) (ha : isI a) (hb : qlA H sl 1 bU bs) (h8b : qaW bs) (hl : bs.length ≤ 1000000000000) (hr : qlA H al 1 bU av) (h8 : qaW av)
  (h : ∀ r, seeP ws root worn K a b bs cd m av = r → ∀ F' H', Up F H F' H' → JW F' H' j r.2.1 r.2.2.1 r.2.2.2 → k r.1 H') : qx (some ⟨j, 0, none⟩) (opl K a b c sl) (ansl cd m al) H k := by
 obtain ⟨p, G, hJ⟩ := hJ
 refine qx.link ?_
 unfold qx.b
 rw [qr, qr]
 have hk := ((qa.refl H).push ⟨opl K a b c sl, .rw, 0⟩).push ⟨ansl cd m al, .rw, 0⟩
 have hA : OpAt ((H.push ⟨opl K a b c sl, .rw, 0⟩).push ⟨ansl cd m al, .rw, 0⟩) H.size K a b c sl := (OpAt.new (H := H) (e := 0)).keep (qB (by simp [qi]))
 have hB : AnAt ((H.push ⟨opl K a b c sl, .rw, 0⟩).push ⟨ansl cd m al, .rw, 0⟩) (H.push ⟨opl K a b c sl, .rw, 0⟩).size cd m al := AnAt.new
 have hz4 : H.size < ((H.push ⟨opl K a b c sl, .rw, 0⟩).push ⟨ansl cd m al, .rw, 0⟩).size := by simp [qi]; omega
 have hz5 : (H.push ⟨opl K a b c sl, .rw, 0⟩).size < ((H.push ⟨opl K a b c sl, .rw, 0⟩).push ⟨ansl cd m al, .rw, 0⟩).size := by simp [qi]
 generalize (H.push ⟨opl K a b c sl, .rw, 0⟩).size = o5 at *
 generalize (H.push ⟨opl K a b c sl, .rw, 0⟩).push ⟨ansl cd m al, .rw, 0⟩ = H5 at *
 have hJ5 := hJ.keeps hk
 rw [qd, hJ5.c0, qK]
 refine qar.s hJ5.m ?_
 intro G2 p14 H14 hk14 hu14 hM14
 have hA14 := hA.keep (hk14.2 _ hz4)
 have hkk := hk.trans hk14
 rw [qn hA14.row]
 have hge14 : ∀ b, G2 b → H5.size ≤ b := fun b hb => by rcases hu14.2 b hb with h0 | h0; exact h0.elim; exact h0.1
 refine qcs.s hM14 ha (hb.keep hkk) h8b hl ?_
 intro G3 H17 hu17 hM17
 have h514 := hk14.1
 have h1417 := hu17.1.1
 have hk17 : qa H5 H17 := ⟨by omega, fun b hb => by rw [hu17.1.2 b (by omega) (fun hh => by have := hge14 b hh; omega), hk14.2 b hb]⟩
 have hge17 : ∀ b, G3 b → H5.size ≤ b := fun b hb => by rcases hu17.2 b hb with h0 | h0; exact hge14 b h0; omega
 have hA17 := hA.keep (hk17.2 _ hz4)
 have hB17 := hB.keep (hk17.2 _ hz5)
 have hJ17 := hJ5.keeps hk17
 have hkh := hk.trans hk17
 have hr17 := hr.keep hkh
 have hfail := qkY (ws := ws) (root := root) (K := K) (off := a) (bs := bs)
 rw [hA17.c0, qg]
 have hsee := qcN ws root worn K a b bs cd m av
 rw [if_neg (by omega), if_pos hK] at hsee
 generalize doP ws root K a bs = dp at *
 obtain ⟨code, ws', root'⟩ := dp
 simp only at hM17 hsee hfail ⊢
 have stay : ∀ r, seeP ws root worn K a b bs cd m av = r → r.2 = (ws, root, worn) → k r.1 H17 := fun r h1 h2 => h r h1 F H17 ⟨qa.kp hkh, fun b hb => .inl hb⟩ ⟨p, G, by rw [h2]; exact hJ17⟩
 -- the new model is put
 have put : seeP ws root worn K a b bs cd m av = (true, ws', root', worn) → qx.j1 (some ⟨j, 0, none⟩) k (some ⟨p14, 0, none⟩) H17 := by
  intro hs
  unfold qx.j1
  rw [qd]
  obtain ⟨c1, c2⟩ := hJ5.put_ptr hk17 hM17 hge17
  refine ⟨c1, ?_⟩
  obtain ⟨c3, c4⟩ := c2 _ _ rfl rfl
  exact h _ hs _ _ (Up.of_keeps hk c4) c3
 have tail : ¬ (code = 0 ∧ ¬ (K = 4 ∧ bs = []) ∧ (worn = true ∨ cd = 3)) → ∀ k2 : Prop, k2 = (ldA H17 ⟨o5, 0, none⟩ 3 fun c56 => qY c56 [(Value.int .i64 code), (Value.int .i64 0), (Value.slice none 0 0)] H17 fun b59 H59 => bcase (!b59) (k false H59) (qx.j1 (some ⟨j, 0, none⟩) k (some ⟨p14, 0, none⟩) H59)) → k2 := by
  rintro hno k2 rfl
  rw [qn hB17.row]
  refine qY.s (l2 := []) hr17 qbB h8 qbI ?_
  by_cases hq : m = 0 ∧ av = []
  ·rw [if_neg (by simpa using hq), if_neg hno] at hsee
   by_cases hc : cd = code
   ·rw [if_neg (by simpa using hc)] at hsee
    rw [decide_eq_true ⟨hc, hq⟩, Bool.not_true, qc]
    exact put hsee
   ·rw [if_pos hc] at hsee
    rw [decide_eq_false (fun hh => hc hh.1), qlV, qk]
    exact stay _ hsee rfl
  ·rw [if_pos hq] at hsee
   rw [decide_eq_false (fun hh => hq hh.2), qlV, qk]
   exact stay _ hsee rfl
 have j2f : ∀ x9 : Bool, (x9 = true ↔ K = 4 ∧ bs = []) → ¬ (code = 0 ∧ ¬ (K = 4 ∧ bs = []) ∧ (cd = 3 ∧ m = 0 ∧ av = [])) → qx.j2 (some ⟨j, 0, none⟩) k o5 (some ⟨p14, 0, none⟩) code x9 false H17 := by
  intro x9 hx9 hn3
  unfold qx.j2
  rw [qc, qf]
  by_cases h0 : code = 0
  ·rw [if_pos (by simpa using h0), qf]
   by_cases hx : K = 4 ∧ bs = []
   ·rw [if_neg (by rw [hx9.2 hx]; simp)]
    exact tail (fun hh => hh.2.1 hx) _ rfl
   ·rw [if_pos (by rw [show x9 = false from by cases x9; rfl; exact absurd (hx9.1 rfl) hx]; rfl), qd, hJ17.c1, qa3, qf]
    by_cases hw : worn = true
    ·rw [if_pos hw]
     by_cases hq : m = 0 ∧ av = []
     ·rw [if_neg (by simpa using hq), if_pos ⟨h0, hx, .inl hw⟩] at hsee
      have h3 : cd ≠ 3 := fun h3 => hn3 ⟨h0, hx, h3, hq⟩
      rw [decide_eq_false h3, Bool.or_false] at hsee
      exact stay _ hsee rfl
     ·rw [if_pos hq] at hsee
      exact stay _ hsee rfl
    ·rw [if_neg hw]
     by_cases h3 : cd = 3
     ·-- not quiet and three, but the rest differs
      have hq : ¬ (m = 0 ∧ av = []) := fun hq => hn3 ⟨h0, hx, h3, hq⟩
      rw [if_pos hq] at hsee
      rw [qn hB17.row]
      refine qY.s (l2 := []) hr17 qbB h8 qbI ?_
      rw [decide_eq_false (fun hh => hq hh.2), qlV, qk]
      exact stay _ hsee rfl
     ·exact tail (fun hh => by rcases hh.2.2 with h9 | h9; exact hw h9; exact h3 h9) _ rfl
  ·rw [if_neg (by simpa using h0)]
   exact tail (fun hh => h0 hh.1) _ rfl
 have j3 : ∀ x9 : Bool, (x9 = true ↔ K = 4 ∧ bs = []) → qx.j3 (some ⟨j, 0, none⟩) k o5 (some ⟨p14, 0, none⟩) H17 code x9 := by
  intro x9 hx9
  unfold qx.j3
  rw [qf]
  by_cases h0 : code = 0
  ·rw [if_pos (by simpa using h0), qf]
   by_cases hx : K = 4 ∧ bs = []
   ·rw [if_neg (by rw [hx9.2 hx]; simp)]
    exact j2f x9 hx9 (fun hh => hh.2.1 hx)
   ·rw [if_pos (by rw [show x9 = false from by cases x9; rfl; exact absurd (hx9.1 rfl) hx]; rfl), qn hB17.row]
    refine qY.s (l2 := []) hr17 qbB h8 qbI ?_
    by_cases h3 : cd = 3 ∧ m = 0 ∧ av = []
    ·rw [decide_eq_true h3]
     unfold qx.j2
     rw [qk, qd]
     rw [if_neg (by simpa using h3.2), if_pos ⟨h0, hx, .inr h3.1⟩, decide_eq_true h3.1, Bool.or_true] at hsee
     obtain ⟨c1, c2, c3⟩ := hJ17.put_worn (w2 := true)
     refine ⟨c1, ?_⟩
     exact h _ hsee F _ (Up.of_keeps hkh c3) c2
    ·rw [decide_eq_false h3]
     exact j2f x9 hx9 (fun hh => h3 hh.2.2)
  ·rw [if_neg (by simpa using h0)]
   exact j2f x9 hx9 (fun hh => h0 hh.1)
 rw [qf]
 by_cases h4 : K = 4
 ·rw [if_pos (by simpa using h4), opc4 hA17, qac]
  show qx.j3 _ k _ _ H17 code (((sl.n : Nat) : Int) == 0)
  rw [nil_len hb]
  refine j3 _ ?_
  rw [decide_eq_true_eq]
  exact ⟨fun hh => ⟨h4, hh⟩, fun hh => hh.2⟩
 ·rw [if_neg (by simpa using h4)]
  refine j3 false ?_
  exact ⟨fun hh => (by cases hh), fun hh => absurd hh.1 h4⟩
theorem qP.s (hJ : JW F H j ws root worn) (ha : isI a) (hbI : isI b) (hm : isI m) (hb : qlA H sl 1 bU bs) (h8b : qaW bs) (hl : bs.length ≤ 1000000000000) (hr : qlA H al 1 bU av) (h8 : qaW av)
  (h : ∀ r, seeP ws root worn K a b bs cd m av = r → ∀ F' H', Up F H F' H' → JW F' H' j r.2.1 r.2.2.1 r.2.2.2 → k r.1 H') : qP (some ⟨j, 0, none⟩) (opl K a b c sl) (ansl cd m al) H k := by
 have hJ0 := hJ
 obtain ⟨p, G, hJ⟩ := hJ
 refine qP.link ?_
 unfold qP.b
 rw [qr, qr]
 have hk := ((qa.refl H).push ⟨opl K a b c sl, .rw, 0⟩).push ⟨ansl cd m al, .rw, 0⟩
 have hA : OpAt ((H.push ⟨opl K a b c sl, .rw, 0⟩).push ⟨ansl cd m al, .rw, 0⟩) H.size K a b c sl := (OpAt.new (H := H) (e := 0)).keep (qB (by simp [qi]))
 have hB : AnAt ((H.push ⟨opl K a b c sl, .rw, 0⟩).push ⟨ansl cd m al, .rw, 0⟩) (H.push ⟨opl K a b c sl, .rw, 0⟩).size cd m al := AnAt.new
 have hz5 : (H.push ⟨opl K a b c sl, .rw, 0⟩).size < ((H.push ⟨opl K a b c sl, .rw, 0⟩).push ⟨ansl cd m al, .rw, 0⟩).size := by simp [qi]
 generalize (H.push ⟨opl K a b c sl, .rw, 0⟩).size = o5 at *
 generalize (H.push ⟨opl K a b c sl, .rw, 0⟩).push ⟨ansl cd m al, .rw, 0⟩ = H5 at *
 have hJ5 := hJ.keeps hk
 have hr5 := hr.keep hk
 have h' : ∀ r, seeP ws root worn K a b bs cd m av = r → ∀ F' H', Up F H5 F' H' → JW F' H' j r.2.1 r.2.2.1 r.2.2.2 → k r.1 H' := fun r hs F' H' hu hj => h r hs F' H' (Up.of_keeps hk hu) hj
 have stay : ∀ H', qa H5 H' → ∀ r, seeP ws root worn K a b bs cd m av = r → r.2 = (ws, root, worn) → k r.1 H' := fun H' hk' r h1 h2 => h' r h1 F H' ⟨qa.kp hk', fun b hb => .inl hb⟩ ⟨p, G, by rw [h2]; exact hJ5.keeps hk'⟩
 rw [qls, qc, hA.c0, qg, qf]
 by_cases h1 : K = 1
 ·subst h1
  rw [if_pos (by simp), qn hA.row, qn hB.row]
  exact qQ.s ⟨p, G, hJ5⟩ hbI hm hr5 h8 h'
 rw [if_neg (by simpa using h1)]
 have ch : (K = 2 ∨ K = 4 ∨ K = 5) → qP.j1 (some ⟨j, 0, none⟩) k H.size o5 H5 K true := by
  intro hK
  unfold qP.j1
  rw [qk, qn hA.row, qn hB.row]
  exact qx.s ⟨p, G, hJ5⟩ hK ha (hb.keep hk) h8b hl hr5 h8 h'
 rw [qf]
 by_cases h2 : K = 2
 ·rw [if_pos (by simpa using h2), show (K == 2) = true by simpa using h2]
  exact ch (.inl h2)
 rw [if_neg (by simpa using h2), qf]
 by_cases h4 : K = 4
 ·rw [if_pos (by simpa using h4), show (K == 4) = true by simpa using h4]
  exact ch (.inr (.inl h4))
 rw [if_neg (by simpa using h4)]
 by_cases h5 : K = 5
 ·rw [show (K == 5) = true by simpa using h5]
  exact ch (.inr (.inr h5))
 rw [show (K == 5) = false by simpa using h5]
 have hsee := qcN ws root worn K a b bs cd m av
 rw [if_neg h1, if_neg (by omega)] at hsee
 unfold qP.j1
 rw [qc, qf]
 by_cases h3 : K = 3
 ·rw [if_pos h3] at hsee
  rw [if_pos (by simpa using h3), qd, hJ5.c0, qK, hA.c1, qg, hA.c2, qg]
  refine qbd.s hJ5.m ha hbI ?_
  intro s38 H38 hk38 hO38
  have hB38 := hB.keep (hk38.2 _ hz5)
  rw [qn hB38.row]
  refine qY.s (l2 := (aRead ws a b).1) (hr5.keep hk38) (hO38.rows (fun _ => rfl) (fun _ => rfl)) h8 (aRead_8 _ _ _) ?_
  exact stay H38 hk38 _ hsee rfl
 rw [if_neg h3] at hsee
 rw [if_neg (by simpa using h3), qf]
 by_cases h6 : K = 6
 ·rw [if_pos h6] at hsee
  rw [if_pos (by simpa using h6), qn hB.row, qd, hJ5.c0, qK]
  refine qaQ.s hJ5.m ?_
  refine ⟨hB.row, ?_⟩
  refine qY.s (l2 := []) hr5 qbB h8 qbI ?_
  exact stay H5 (qa.refl _) _ hsee rfl
 ·rw [if_neg h6] at hsee
  rw [if_neg (by simpa using h6), qn hB.row]
  refine qY.s (l2 := []) hr5 qbB h8 qbI ?_
  exact stay H5 (qa.refl _) _ hsee rfl
end
section
variable {F : Nat → Prop} {H : AH} {j : Nat} {ws : List Int} {root : Int} {worn : Bool}
theorem qca.s {n : Int} {k : Option Addr → AH → Prop} (h0 : ¬ mayW n → k none H) (h1 : mayW n → ∀ F' p' H', qa H H' → Up (fun _ => False) H F' H' → JW F' H' p' (firstN n) 0 false → k (some ⟨p', 0, none⟩) H') : qca n H k := by
 refine qca.link ?_
 unfold qca.b
 refine qcD.s (fun hm => ?_) ?_
 ·rw [Option.isNone_none, qk]; exact h0 hm
 intro hm G p H5 hk5 hu5 hM5
 rw [qls, qc, qr]
 have hk := hk5.push ⟨[.pointer (some ⟨p, 0, none⟩), .bool false], .rw, 0⟩
 have hge := hk5.1
 have hlt := hM5.lt
 have hG : ∀ b, G b → H.size ≤ b := fun b hb => by rcases hu5.2 b hb with h | h; exact h.elim; exact h.1
 refine h1 hm (fun b => H.size ≤ b ∧ b < H5.size + 1) H5.size _ hk ⟨qa.kp hk, fun b hb => .inr hb⟩ ⟨p, G, by rw [qm, if_pos rfl], hM5.keeps ((qa.refl H5).push _), ⟨hge, by omega⟩, fun b hb => ⟨hG b hb, by have := hlt b hb; omega⟩, fun hb => by have := hlt _ hb; omega, fun b hb => hb.2⟩
theorem qaY.s {k : Sl → AH → Prop} (hJ : JW F H j ws root worn) (h : ∀ s H', qa H H' → Own H.size H' s 3 bkV (blkL ws) → k s H') : qaY (some ⟨j, 0, none⟩) H k := by
 obtain ⟨p, G, hJ⟩ := hJ
 refine qaY.link ?_
 unfold qaY.b
 rw [qls, qc, qd, hJ.c0, qK]
 exact qv.s hJ.m h
theorem qbe.s {k : Bool → AH → Prop} (hJ : JW F H j ws root worn) (h : k worn H) : qbe (some ⟨j, 0, none⟩) H k := by
 obtain ⟨p, G, hJ⟩ := hJ
 refine qbe.link ?_
 unfold qbe.b
 rw [qls, qlV, qk, qd, hJ.c1, qa3]
 exact h
theorem qbg.s {k : Int → AH → Prop} (hJ : JW F H j ws root worn) (h : k root H) : qbg (some ⟨j, 0, none⟩) H k := by
 obtain ⟨p, G, hJ⟩ := hJ
 refine qbg.link ?_
 unfold qbg.b
 rw [qls, qc, qd, hJ.c0, qK]
 exact qaQ.s hJ.m h
theorem See.at {K a b c cd m : Int} {sl al : Sl} {bs av : List Int} {k : Bool → AH → Prop} {r : Bool × List Int × Int × Bool} (hJ : JW F H j ws root worn) (ha : isI a) (hbI : isI b) (hm : isI m) (hb : qlA H sl 1 bU bs) (h8b : qaW bs) (hl : bs.length ≤ 1000000000000) (hr : qlA H al 1 bU av) (h8 : qaW av)
  (hs : seeP ws root worn K a b bs cd m av = r) (h : ∀ F' H', Up F H F' H' → JW F' H' j r.2.1 r.2.2.1 r.2.2.2 → k r.1 H') : qP (some ⟨j, 0, none⟩) (opl K a b c sl) (ansl cd m al) H k :=
 qP.s hJ ha hbI hm hb h8b hl hr h8 fun r' hr' F' H' hu hj => by
  rw [hs] at hr'
  subst hr'
  exact h F' H' hu hj
theorem qcH {n : Int} (h : -1000000 ≤ n ∧ n ≤ 1000000) : isI n := by unfold isI; omega
theorem single8 {v : Int} (h : 0 ≤ v ∧ v ≤ 255) : qaW [v] := fun x hx => by simp at hx; subst hx; exact h
theorem qjW {n words : Int} (hw : mayW words) (hn : 1 ≤ n ∧ n ≤ 448) (hfit : needN n ≤ words) (bs : List Int) :
  ∃ tk ws1, takesN words (needN n) = tk ∧ seeP (firstN words) 0 false 1 0 n bs 0 8 [] = (true, ws1, 0, false) ∧ MR words [(0, tk, qli ((tk.toNat - 1) * 8) 0)] ws1 := by
 obtain ⟨hfo, tk, htk, ha1, hR1⟩ := qiM hw hn hfit
 refine ⟨tk, (aAlloc (firstN words) n 8).2, htk, ?_, hR1⟩
 have hneed : needN n ≠ 0 := by unfold needN; rw [if_pos hn]; omega
 rw [qcN, if_pos rfl, if_neg hneed, if_neg (by omega), if_neg (by simp), if_neg (by omega), if_neg (by simp), ha1]
section
variable {words tk : Int} {ws1 : List Int}
theorem qkt (hR : MR words [(0, tk, qli ((tk.toNat - 1) * 8) 0)] ws1) {off : Int} (hoff : off ≠ 8) : aFree ws1 root off = (1, ws1) := hR.fr1 fun x hx => by simp at hx; subst hx; simp; omega
theorem qkq (hR : MR words [(0, tk, qli ((tk.toNat - 1) * 8) 0)] ws1) (htk : 2 ≤ tk ∧ tk ≤ 512) : aRead ws1 8 1 = ([0], 0) := by
 have hxm : ((0 : Int), tk, qli ((tk.toNat - 1) * 8) (0 : Int)) ∈ [((0 : Int), tk, qli ((tk.toNat - 1) * 8) (0 : Int))] := by simp
 rw [hR.rd ⟨by omega, by omega, _, hxm, by simp, by simp only; omega⟩]
 have hby := qiq hR hxm
 simp only at hby
 have h9 := qe6 (ws := ws1) (o := ((0 : Int).toNat + 1) * 8) (m := (tk.toNat - 1) * 8) (a := 0) (n := 1) (by omega)
 rw [hby, List.drop_zero, List.take_replicate, Nat.add_zero] at h9
 have : bytesOf ws1 (8 : Int).toNat (1 : Int).toNat = [0] := by
  show bytesOf ws1 (((0 : Int).toNat + 1) * 8) 1 = [0]
  rw [← h9, show min 1 ((tk.toNat - 1) * 8) = 1 by omega]; rfl
 rw [this]
theorem one_blk (hR : MR words [(0, tk, qli ((tk.toNat - 1) * 8) 0)] ws1) : blkL ws1 = (0, tk, true) :: gapB tk words := by
 rw [hR.blk']
 unfold blkX
 simp [bg, gapB, endX]
end
theorem qam.s {k : Bool → AH → Prop} (hk : ∀ H', k true H') : qam H k := by
 refine qam.link (_u := ()) ?_
 unfold qam.b
 refine qca.s (fun h => absurd may16 h) ?_
 intro _ F5 p5 H5 hk5 hu5 hJ5
 rw [qls, qc]
 obtain ⟨tk, ws1, htk, hs1, hR1⟩ := qjW (n := 8) (words := 16) may16 (by omega) (by rw [need8]; omega) []
 rw [need8, takes16] at htk
 subst htk
 refine See.at (c := 0) (sl := ⟨none, 0, 0⟩) (al := ⟨none, 0, 0⟩) hJ5 (qcH (by omega)) (qcH (by omega)) (qcH (by omega)) qbB qbI (by simp) qbB qbI hs1 ?_
 intro F11 H11 hu11 hJ11
 simp only at hJ11 ⊢
 have hs2 : seeP ws1 0 false 2 16 0 [] 0 0 [] = (false, ws1, 0, false) := by
  have hf : doP ws1 0 2 16 [] = (1, ws1, 0) := by unfold doP; rw [if_pos rfl, qkt hR1 (by omega)]
  rw [qcN, if_neg (by omega), if_pos (.inl rfl), if_neg (by simp), hf, if_neg (by simp), if_pos (by simp)]
 refine See.at (c := 0) (sl := ⟨none, 0, 0⟩) (al := ⟨none, 0, 0⟩) hJ11 (qcH (by omega)) (qcH (by omega)) (qcH (by omega)) qbB qbI (by simp) qbB qbI hs2 ?_
 intro F15 H15 hu15 hJ15
 simp only at hJ15 ⊢
 rw [qr]
 have hr18 : qlA (H15.push ⟨[.int .u8 0], .rw, 1⟩) ⟨some ⟨H15.size, 0, none⟩, 1, 1⟩ 1 bU [0] := qkE (g := fun v => Value.int .u8 v) (fun _ => rfl) 0
 have hJ18 := hJ15.keeps ((qa.refl H15).push ⟨[.int .u8 0], .rw, 1⟩)
 generalize H15.push ⟨[.int .u8 0], .rw, 1⟩ = H18 at *
 have hs3 : seeP ws1 0 false 3 8 1 [] 0 0 [0] = (true, ws1, 0, false) := by
  rw [qcN, if_neg (by omega), if_neg (by omega), if_pos rfl, qkq hR1 (by omega), decide_eq_true (by simp)]
 refine See.at (c := 0) (sl := ⟨none, 0, 0⟩) (al := ⟨some ⟨H15.size, 0, none⟩, 1, 1⟩) hJ18 (qcH (by omega)) (qcH (by omega)) (qcH (by omega)) qbB qbI (by simp) hr18 (single8 (by omega)) hs3 ?_
 intro F20 H20 hu20 hJ20
 simp only at hJ20 ⊢
 rw [qk, qlV, qk, qk]
 refine qaY.s hJ20 ?_
 intro s31 H31 hk31 hO31
 rw [own_len hO31]
 have hb2 : (blkL ws1).length = 2 := by rw [one_blk hR1]; rfl
 rw [hb2, qf, if_pos (by simp)]
 refine qbe.s (hJ20.keeps hk31) ?_
 rw [qlV, qk]
 refine qbg.s (hJ20.keeps hk31) ?_
 exact hk _
end
theorem qi1 {l : List Bk} {cs : List Int} : ∀ {f : List Nat} {b : Int}, 0 ≤ b → 0 ≤ f.foldl (chStep l cs) b := by
 intro f
 induction f with
 | nil => intro b h; exact h
 | cons a r ih =>
  intro b h
  rw [List.foldl_cons]
  refine ih ?_
  unfold chStep
  split
  ·omega
  ·exact h
theorem qiw {l : List Bk} {need : Int} {cs : List Int} (h : chooseN l need cs < 0) : fitsL l need = [] := by
 unfold chooseN at h
 cases hf : fitsL l need with
 | nil => rfl
 | cons a r =>
  rw [hf, List.foldl_cons] at h
  have : chStep l cs (-1) a = (a : Int) := by unfold chStep; rw [if_pos (.inl (by omega))]
  rw [this] at h
  have := qi1 (l := l) (cs := cs) (f := r) (b := (a : Int)) (by omega)
  omega
section
variable {pa pb pc pd : Int} {s : HS} {ws : List Int} {root : Int} {mvb : Nat} {cb : Int}
theorem qkI {jw : Bool} {K off n : Int} {bs : List Int} (hio : isI off) (h8 : qaW bs) (hp : HP pa pb pc pd s ws root mvb cb) (hup : s.M.down = false) (hcut : s.M.cut = -1) (hj : jw = true → s.stuck) (hb : mvb + 2000 < 4611686018427387904) (hcb : cb + 100 < 4611686018427387904) :
    ∃ ws' root' jw', seeP ws root jw K off n bs (doH pa pb pc pd s K off n bs).2.1 (doH pa pb pc pd s K off n bs).2.2.1 (doH pa pb pc pd s K off n bs).2.2.2 = (true, ws', root', jw') ∧ HP pa pb pc pd (doH pa pb pc pd s K off n bs).1 ws' root' (mvb + 40) (cb + 14) ∧
      (doH pa pb pc pd s K off n bs).1.M.down = false ∧ (doH pa pb pc pd s K off n bs).1.M.cut = -1 ∧ (jw' = true → (doH pa pb pc pd s K off n bs).1.stuck) := by
  have hcut' := (do_side (K := K) (off := off) (n := n) (bs := bs) hio h8 hp hup hb hcb).cut hcut
  have hp' : HP pa pb pc pd s ws root (mvb + 40) (cb + 14) := hp.mono (by omega) (by omega)
  -- what changes words or the root
  have change : ∀ (code e : Int) (W : List Int) (r : Int) (s' : HS), (K = 2 ∨ K = 4 ∨ K = 5) → doP ws root K off bs = (code, W, r) → (code ≠ 0 → W = ws ∧ r = root) → doH pa pb pc pd s K off n bs = (s', e, 0, []) →
      ((e = 3 ∧ code = 0 ∧ ¬ (K = 4 ∧ bs = []) ∧ s'.M.down = false ∧ s'.stuck ∧ HP pa pb pc pd s' ws root (mvb + 40) (cb + 14)) ∨
       (e = code ∧ e ≠ 3 ∧ s'.M.down = false ∧ HP pa pb pc pd s' W r (mvb + 40) (cb + 14) ∧ (s.stuck → (code ≠ 0 ∨ (K = 4 ∧ bs = [])) ∧ s' = s))) →
      ∃ ws' root' jw', seeP ws root jw K off n bs (doH pa pb pc pd s K off n bs).2.1 (doH pa pb pc pd s K off n bs).2.2.1 (doH pa pb pc pd s K off n bs).2.2.2 = (true, ws', root', jw') ∧ HP pa pb pc pd (doH pa pb pc pd s K off n bs).1 ws' root' (mvb + 40) (cb + 14) ∧
        (doH pa pb pc pd s K off n bs).1.M.down = false ∧ (doH pa pb pc pd s K off n bs).1.M.cut = -1 ∧ (jw' = true → (doH pa pb pc pd s K off n bs).1.stuck) := by
    intro code e W r s' hK hdp hsame hD hc
    rw [hD] at hcut' ⊢
    simp only at hcut' ⊢
    rw [qcN, if_neg (by omega), if_pos hK, if_neg (by simp), hdp]
    simp only
    rcases hc with ⟨h1, h2, h3, h4, h5, h6⟩ | ⟨h1, h2, h4, h6, h7⟩
    · refine ⟨ws, root, true, ?_, h6, h4, hcut', fun _ => h5⟩
      rw [if_pos ⟨h2, h3, .inr h1⟩, decide_eq_true h1, Bool.or_true]
    · refine ⟨W, r, jw, ?_, h6, h4, hcut', fun hw => ?_⟩
      · rw [if_neg, if_neg (by omega)]
        rintro ⟨q1, q2, q3⟩
        rcases q3 with q3 | q3
        · rcases (h7 (hj q3)).1 with q | q
          · exact q q1
          · exact q2 q
        · exact h2 q3
      · rw [(h7 (hj hw)).2]; exact hj hw
  by_cases k1 : K = 1
  · obtain ⟨c1, c2, c3, c4, c5⟩ := qe1 (n := n) hp hup hb hcb
    have hD : doH pa pb pc pd s K off n bs = ((allocH pa pb pc pd s n).1, (allocH pa pb pc pd s n).2.1, (if (allocH pa pb pc pd s n).2.1 = 0 then (allocH pa pb pc pd s n).2.2 else 0), []) := by unfold doH; rw [if_pos k1]
    have hneed : (imgAlloc ws n s.now).2.2 = 1 ↔ needN n = 0 := by
      unfold imgAlloc
      rw [hp.ok.blocks]
      by_cases h0 : needN n = 0
      · rw [if_pos h0]; exact ⟨fun _ => h0, fun _ => rfl⟩
      · rw [if_neg h0]
        simp only
        constructor
        · split <;> intro hh <;> simp at hh
        · intro hh; exact absurd hh h0
    have hfour : (imgAlloc ws n s.now).2.2 = 0 ∨ (imgAlloc ws n s.now).2.2 = 1 ∨ ((imgAlloc ws n s.now).2.2 = 4 ∧ (fitO ws n).length = 0) := by
      unfold imgAlloc fitO
      rw [hp.ok.blocks]
      by_cases h0 : needN n = 0
      · rw [if_pos h0]; exact .inr (.inl rfl)
      · rw [if_neg h0]
        simp only
        by_cases hc : chooseN (blkL ws) (needN n) s.now < 0
        · rw [if_pos hc, qiw hc]; exact .inr (.inr ⟨rfl, rfl⟩)
        · rw [if_neg hc]; exact .inl rfl
    rw [hD] at hcut' ⊢
    simp only at hcut' ⊢
    rw [qcN, if_pos k1]
    rcases c1 with ⟨a, a2, a3, a4, a5, _, _⟩ | ⟨a, a2, a3, a4, _, _, _⟩ | ⟨a, a2, hE⟩ | ⟨_, _, _, _, a, _⟩
    · obtain ⟨b1, b2, b3⟩ := c5 a
      have hn0 : needN n ≠ 0 := fun hh => by have := hneed.2 hh; omega
      obtain ⟨_, _, _, kA, _⟩ := qdU hp.ok a2
      refine ⟨applyE ws (imgAlloc ws n s.now).1, root, jw, ?_, a5, a4, hcut', fun hw => absurd (hj hw) a3⟩
      rw [if_neg hn0, a, if_neg (by omega), if_neg (fun hw => a3 (hj hw)), if_neg (by omega), if_neg (by simp), if_pos rfl, b3, kA]
    · have hn0 : needN n ≠ 0 := fun hh => by have := hneed.2 hh; exact c3 a this
      refine ⟨ws, root, true, ?_, a3, a2, hcut', fun _ => a4⟩
      rw [if_neg hn0, a, if_pos rfl, if_neg (by omega), decide_eq_true ⟨rfl, rfl⟩, Bool.or_true]
    · rw [a2] at hcut' ⊢
      rcases hfour with h0 | h1 | ⟨h4, hf⟩
      · -- cannot be: a block that fits is taken
        have ha0 : (allocH pa pb pc pd s n).2.1 = 0 := by omega
        obtain ⟨b1, b2, b3⟩ := c5 ha0
        have hn0 : needN n ≠ 0 := fun hh => by have := hneed.2 hh; omega
        obtain ⟨_, _, kl, kA, _⟩ := qdU hp.ok h0
        have hE' := hE h0
        rw [hE'] at kl
        simp [eLines] at kl
      · have hn0 := hneed.1 h1
        refine ⟨ws, root, jw, ?_, hp', hup, hcut', hj⟩
        rw [if_pos hn0, a, h1, if_neg (by omega), decide_eq_true ⟨rfl, rfl, rfl⟩]
      · have hn0 : needN n ≠ 0 := fun hh => by have := hneed.2 hh; omega
        refine ⟨ws, root, jw, ?_, hp', hup, hcut', hj⟩
        have hns : ¬ jw = true := fun hw => by have := c4 (hj hw) (by omega); omega
        rw [if_neg hn0, a, h4, if_neg (by omega), if_neg hns, if_pos rfl, if_neg (by omega), decide_eq_true ⟨⟨rfl, rfl⟩, hf⟩]
    · exact absurd hcut a
  by_cases k2 : K = 2
  · obtain ⟨c1, c2, c3⟩ := qhh (off := off) hp hup hb hcb
    have hD : doH pa pb pc pd s K off n bs = ((freeH pa pb pc pd s off).1, (freeH pa pb pc pd s off).2, 0, []) := by unfold doH; rw [if_neg k1, if_pos k2]
    have eA : aFree ws root off = (errFree ws root off, if errFree ws root off = 0 then applyE ws (imgFree ws off).1 else ws) := by
      unfold aFree errFree
      by_cases h0 : (imgFree ws off).2 ≠ 0
      · rw [if_pos h0, if_pos h0, if_neg h0]
      · rw [if_neg h0, if_neg h0]
        by_cases hr : root = off
        · rw [if_pos hr, if_pos hr]; rfl
        · rw [if_neg hr, if_neg hr]; rfl
    have hdp : doP ws root K off bs = (errFree ws root off, (if errFree ws root off = 0 then applyE ws (imgFree ws off).1 else ws), root) := by unfold doP; rw [if_pos k2, eA]
    refine change _ _ _ _ _ (.inl k2) hdp (fun hne => ⟨if_neg hne, rfl⟩) hD ?_
    rcases c1 with ⟨b, c, d, e, f, _⟩ | ⟨b, b2, c, d, _⟩ | ⟨b, c, d⟩ | ⟨_, _, _, _, b, _⟩
    · exact .inr ⟨by omega, by omega, e, by rw [if_pos c]; exact f, fun hs => absurd hs d⟩
    · exact .inl ⟨b, c3 b, by omega, b2, d, c⟩
    · by_cases h0 : errFree ws root off = 0
      · exfalso
        have hE := d h0
        have hne2 : (imgFree ws off).2 = 0 := by unfold errFree at h0; by_cases hx0 : (imgFree ws off).2 ≠ 0; rw [if_pos hx0] at h0; exact absurd h0 hx0; exact Decidable.not_not.1 hx0
        have := (qgO hp.ok hne2).2.2.1
        rw [hE] at this; simp [eLines] at this
      · have h3 : (freeH pa pb pc pd s off).2 ≠ 3 := fun hh => h0 (c3 hh)
        exact .inr ⟨b, h3, by rw [c]; exact hup, by rw [if_neg h0, c]; exact hp', fun _ => ⟨.inl h0, c⟩⟩
    · exact absurd hcut b
  by_cases k4 : K = 4
  · obtain ⟨c1, c2, c3, c4, c5⟩ := qgQ (off := off) (bs := bs) h8 hp hup hb hcb
    have hD : doH pa pb pc pd s K off n bs = ((writeH pa pb pc pd s off bs).1, (writeH pa pb pc pd s off bs).2, 0, []) := by unfold doH; rw [if_neg k1, if_neg k2, if_neg (by omega), if_pos k4]
    have eA : aWrite ws off bs = ((imgWrite ws off bs).2, if (imgWrite ws off bs).2 = 0 then applyE ws (imgWrite ws off bs).1 else ws) := by
      unfold aWrite
      by_cases h0 : (imgWrite ws off bs).2 = 0
      · rw [if_pos h0, if_pos h0, h0]
      · rw [if_neg h0, if_neg h0]
    have hdp : doP ws root K off bs = ((imgWrite ws off bs).2, (if (imgWrite ws off bs).2 = 0 then applyE ws (imgWrite ws off bs).1 else ws), root) := by unfold doP; rw [if_neg k2, if_pos k4, eA]
    refine change _ _ _ _ _ (.inr (.inl k4)) hdp (fun hne => ⟨if_neg hne, rfl⟩) hD ?_
    rcases c1 with ⟨b, c, d, e, f, _⟩ | ⟨b, b2, c, d, _⟩ | ⟨b, c, d⟩ | ⟨_, _, _, _, b, _⟩
    · exact .inr ⟨by omega, by omega, e, by rw [if_pos c]; exact f, fun hs => absurd hs d⟩
    · exact .inl ⟨b, (c3 b).1, fun hh => by have := (c3 b).2; rw [hh.2] at this; simp at this, b2, d, c⟩
    · have h3 : (writeH pa pb pc pd s off bs).2 ≠ 3 := fun hh => by have := (c3 hh).1; omega
      refine .inr ⟨b, h3, by rw [c]; exact hup, ?_, fun _ => ⟨?_, c⟩⟩
      · by_cases h0 : (imgWrite ws off bs).2 = 0
        · rw [if_pos h0, c, d h0]; exact hp'
        · rw [if_neg h0, c]; exact hp'
      · by_cases h0 : (imgWrite ws off bs).2 = 0
        · right
          refine ⟨k4, ?_⟩
          obtain ⟨l1, _⟩ := qgV (E := (imgWrite ws off bs).1) (ws := ws) (off := off) (bs := bs) (Prod.ext rfl h0)
          exact List.length_eq_zero_iff.1 (l1.1 (by rw [d h0]; rfl))
        · exact .inl h0
    · exact absurd hcut b
  by_cases k5 : K = 5
  · obtain ⟨c2, _, _, c1⟩ := qhF (off := off) hio hp hup
    have hD : doH pa pb pc pd s K off n bs = ((setRootH pa pb s off).1, (setRootH pa pb s off).2, 0, []) := by unfold doH; rw [if_neg k1, if_neg k2, if_neg (by omega), if_neg k4, if_pos k5]
    have eA : aRoot ws root off = if off = 0 ∨ isUsed ws off = true then (0, off) else (1, root) := by
      unfold aRoot
      by_cases h0 : off = 0 ∨ isUsed ws off = true
      · rw [if_pos h0, if_neg]
        rintro ⟨h1, h2⟩
        rcases h0 with h0 | h0
        · exact h1 h0
        · exact (rootChk hp.ok).1 h0 h2
      · rw [if_neg h0, if_pos]
        refine ⟨fun h => h0 (.inl h), ?_⟩
        by_cases h2 : isN off (blkL ws) 0 < 0
        · exact h2
        · exact absurd (.inr ((rootChk hp.ok).2 h2)) h0
    have hdp0 : doP ws root K off bs = ((aRoot ws root off).1, ws, (aRoot ws root off).2) := by unfold doP; rw [if_neg k2, if_neg k4]
    rw [eA] at hdp0
    rcases c1 with ⟨u0, u1, u2⟩ | ⟨u0, u1, u2⟩ | ⟨u0, u1, u2, u3, u4, u5⟩ | ⟨_, _, _, _, u, _⟩
    · rw [if_neg (by simp [u0, u1])] at hdp0
      rw [u2] at hD
      exact change _ _ _ _ _ (.inr (.inr k5)) hdp0 (fun _ => ⟨rfl, rfl⟩) hD (.inr ⟨rfl, by omega, hup, hp', fun _ => ⟨.inl (by omega), rfl⟩⟩)
    · rw [if_pos u0] at hdp0
      rw [u2] at hD
      exact change _ _ _ _ _ (.inr (.inr k5)) hdp0 (fun hh => absurd rfl hh) hD (.inl ⟨rfl, rfl, by omega, hup, u1, hp'⟩)
    · rw [if_pos u0] at hdp0
      refine change _ _ _ _ _ (.inr (.inr k5)) hdp0 (fun hh => absurd rfl hh) hD (.inr ⟨u2, by omega, u3, u5.mono (by omega) (by omega), fun hs => absurd hs u1⟩)
    · exact absurd hcut u
  by_cases k3 : K = 3
  · have hD : doH pa pb pc pd s K off n bs = (s, (aRead ws off n).2, 0, if (aRead ws off n).2 = 0 then (aRead ws off n).1 else []) := by rw [k3, do_read hp hup]
    have hsame : (if (aRead ws off n).2 = 0 then (aRead ws off n).1 else []) = (aRead ws off n).1 := by
      split
      · rfl
      · rename_i hne
        unfold aRead at hne ⊢
        split
        · rename_i hw; rw [if_pos hw] at hne; exact absurd rfl hne
        · rfl
    rw [hD] at hcut' ⊢
    refine ⟨ws, root, jw, ?_, hp', hup, hcut', hj⟩
    rw [qcN, if_neg k1, if_neg (by omega), if_pos k3]
    simp only [hsame, and_self, decide_true]
  by_cases k6 : K = 6
  · have hD : doH pa pb pc pd s K off n bs = (s, 0, root, []) := by rw [k6, do_get hp hup]
    rw [hD] at hcut' ⊢
    refine ⟨ws, root, jw, ?_, hp', hup, hcut', hj⟩
    rw [qcN, if_neg k1, if_neg (by omega), if_neg k3, if_pos k6]
    simp only [and_self, decide_true]
  have hD : doH pa pb pc pd s K off n bs = (s, 1, 0, []) := by unfold doH; rw [if_neg k1, if_neg k2, if_neg k3, if_neg k4, if_neg k5, if_neg k6]
  rw [hD] at hcut' ⊢
  refine ⟨ws, root, jw, ?_, hp', hup, hcut', hj⟩
  rw [qcN, if_neg k1, if_neg (by omega), if_neg k3, if_neg k6]
  simp only [and_self, decide_true]
end
section
variable {H : AH} {L : Pl} {F : Nat → Prop} {pa pb pc pd : Int} {s : HS} {ws : List Int} {root : Int} {mvb : Nat} {cb : Int}
theorem made_in {o e : Nat} {x1 : Sl} {limits : List Int} {BAD : AH → Prop} {GO : Option Addr → Option Addr → Int → AH → Prop} (g : H.get o = ⟨pl pa pb pc pd, .rw, e⟩) (ho : o < H.size) (hr : qlA H x1 1 iV limits) (hmay : mayP pa pb pc pd = true)
  (h0 : limits ≠ [] → ∀ H', qa H H' → BAD H')
  (h1 : ∀ H' L s p, HA H' L pa pb pc pd s → HP pa pb pc pd s (firstN (8 * pa)) 0 15 0 → s.M.down = false → s.M.cut = -1 → ¬ s.stuck → (limits = [] → NL s.M) → (∀ b, L.has b → H.size ≤ b) → qa H H' → GO p (some ⟨L.h, 0, none⟩) 0 H') :
  qbf (pl pa pb pc pd) H fun n28 H28 => nvm_New n28 x1 H28 fun p30 H30 => ldA H30 ⟨o, 0, none⟩ 4 fun c32 => qJ p30 c32 H30 fun n33 H33 => bcase ((n33 : Int) != (0 : Int)) (BAD H33) (ldA H33 ⟨o, 0, none⟩ 4 fun c43 => qZ p30 c43 H33 fun p44a n44b H44 => GO p30 p44a n44b H44) := by
 have hmp := qak.1 hmay
 refine qbf.s ?_
 have hdev : deviceP pa pb pc pd = ((16 + pa.toNat + 1 + pb.toNat : Nat) : Int) := by unfold deviceP; rw [if_pos hmay]; omega
 rw [hdev]
 refine nvm_New.s hr ?_ (fun hn => absurd (by omega) hn)
 intro _ H2 hM2 hk2 hs2
 rw [qlj] at hM2
 have g2 : H2.get o = ⟨pl pa pb pc pd, .rw, e⟩ := by rw [hk2.2 _ ho]; exact g
 rw [qn (plg_row g2)]
 obtain ⟨f1, f2, f3, _, _, f4⟩ := formed (limits := limits) hmay
 refine qJ.s hM2 hmay ?_
 intro H3 hM3 fr3
 have g3 : H3.get o = ⟨pl pa pb pc pd, .rw, e⟩ := by rw [fr3.get _ (by omega) (by omega) (by omega)]; exact g2
 have hkk : qa H H3 := fr3.keeps hk2 (by omega) (by omega)
 rcases f4 with ⟨e0, hMP, hc⟩ | e0
 ·rw [e0, show ((0 : Int) != 0) = false from rfl, qc, qn (plg_row g3)]
  have hrc : recN (16 + pa.toNat) pb.toNat pc.toNat (formN pa pb pc limits).1 0 = ((formN pa pb pc limits).1, 0, 0) := qgT f1 hc
  have hop := hMP.opened f1 (by omega)
  refine qZ.s hMP hM3 f1 (by omega) (by omega) (fun hh => by rw [hrc] at hh; exact absurd rfl hh) ?_
  intro he H4 L hA hp hcc l1 l2 l3 l4 l5 l6 l7 fr4
  have hs := fr3.size
  have hP : HP pa pb pc pd (openS pa pb pc pd (formN pa pb pc limits).1) (firstN (8 * pa)) 0 (1 + 14) 0 := by
   rcases hop.2.2 with ⟨_, _, hP⟩ | ⟨e2, _⟩
   ·exact hP
   ·omega
  have eM : (openS pa pb pc pd (formN pa pb pc limits).1).M = (formN pa pb pc limits).1 := by unfold openS; rw [hrc]
  have hpl : L.p = H.size + 1 := hp
  have hcl : L.c = H.size := hcc
  refine h1 H4 L _ _ hA hP (by rw [eM]; exact f1) (by rw [eM]; exact f2) ?_ (fun hl => by rw [eM]; exact (f3 hl).2) ?_ (fr4.keeps hkk (by omega) (by omega))
  ·intro hst
   rcases hst with hst | ⟨_, hst⟩
   ·cases hst
   ·rw [eM] at hst; exact hst hc
  ·intro b hb
   rcases hb with rfl | rfl | rfl | rfl | rfl | rfl | rfl | rfl | rfl <;> omega
 ·rw [e0, show ((3 : Int) != 0) = true from rfl, qk]
  exact h0 (fun hl => by have := (f3 hl).1; omega) _ hkk
theorem do_isI {K off n : Int} {bs : List Int} (hp : HP pa pb pc pd s ws root mvb cb) (hup : s.M.down = false) (hb : mvb + 2000 < 4611686018427387904) (hcb : cb + 100 < 4611686018427387904) : isI (doH pa pb pc pd s K off n bs).2.2.1 := by
 have h0 : isI 0 := by unfold isI; omega
 unfold doH
 by_cases k1 : K = 1
 ·rw [if_pos k1]
  simp only
  by_cases he : (allocH pa pb pc pd s n).2.1 = 0
  ·rw [if_pos he]
   obtain ⟨c1, c2, c3, c4, c5⟩ := qe1 (n := n) hp hup hb hcb
   obtain ⟨b1, b2, b3⟩ := c5 he
   obtain ⟨a1, _, _, _, _, a6⟩ := qdU hp.ok b1
   rw [b3]
   have := a1.used_range a6
   have := a1.len
   unfold isI; omega
  ·rw [if_neg he]; exact h0
 rw [if_neg k1]
 by_cases k2 : K = 2
 ·rw [if_pos k2]; exact h0
 rw [if_neg k2]
 by_cases k3 : K = 3
 ·rw [if_pos k3]; exact h0
 rw [if_neg k3]
 by_cases k4 : K = 4
 ·rw [if_pos k4]; exact h0
 rw [if_neg k4]
 by_cases k5 : K = 5
 ·rw [if_pos k5]; exact h0
 rw [if_neg k5]
 by_cases k6 : K = 6
 ·rw [if_pos k6, if_neg (by simp [hup])]
  simp only
  rw [hp.rootN.1]
  have := hp.rootN.2
  unfold isI; omega
 ·rw [if_neg k6]; exact h0
theorem qim (h1 : 1 ≤ pa ∧ pa ≤ 24) (hmay : mayP pa pb pc pd = true) : wordsP pa pb pc pd = 8 * pa ∧ mayW (8 * pa) := by
 refine ⟨?_, by unfold mayW; omega⟩
 unfold wordsP
 rw [if_pos hmay]
theorem qt.t {x0 x1 x2 x3 : Int} {x4 x5 : Sl} {limits : List Int} {l : List OpR} (_ : (Lit.int .i64 x0).wf = true) (_ : (Lit.int .i64 x1).wf = true) (_ : (Lit.int .i64 x2).wf = true) (_ : (Lit.int .i64 x3).wf = true)
  (hr1 : qlA H x4 1 iV limits) (_ : ∀ v ∈ limits, isI v) (_ : limits.length ≤ maxLen) (hr : qlA H x5 5 opRV l) (hok : ∀ d ∈ l, opROK H d) (_ : l.length ≤ maxLen) : qt (pl x0 x1 x2 x3) x4 x5 H (fun r _ => r = true) := by
 have aw : ∀ H', qam H' fun b _ => b = true := fun H' => qam.s fun _ => rfl
 refine qt.link ?_
 unfold qt.b
 rw [qr]
 have hk1 : qa H (H.push ⟨pl x0 x1 x2 x3, .rw, 0⟩) := (qa.refl H).push _
 have g1 : (H.push ⟨pl x0 x1 x2 x3, .rw, 0⟩).get H.size = ⟨pl x0 x1 x2 x3, .rw, 0⟩ := by rw [qm, if_pos rfl]
 have hz1 : H.size < (H.push ⟨pl x0 x1 x2 x3, .rw, 0⟩).size := by simp [qi]
 generalize H.push ⟨pl x0 x1 x2 x3, .rw, 0⟩ = H1 at *
 refine qw.s (l := l) (hr.keep hk1) ?_ ?_
 rotate_left 1
 ·intro v hv
  rw [decide_eq_true hv, qk]
  exact aw _
 intro hsl hl80 _
 rw [show (decide ((0 : Int) > 0)) = false from rfl, qc]
 refine qk9 g1 ?_
 intro pa pb pc pd r1 r2 r3 r4
 have hmay := qiT r1 r2 r3 r4
 have hk2 : qa H (H1.upd H.size ⟨pl pa pb pc pd, .rw, 0⟩) := hk1.upd (Nat.le_refl _) _
 have g2 : (H1.upd H.size ⟨pl pa pb pc pd, .rw, 0⟩).get H.size = ⟨pl pa pb pc pd, .rw, 0⟩ := by rw [qG, if_pos rfl]
 have hz2 : H.size < (H1.upd H.size ⟨pl pa pb pc pd, .rw, 0⟩).size := hz1
 generalize H1.upd H.size ⟨pl pa pb pc pd, .rw, 0⟩ = H2 at *
 refine made_in (GO := fun p30 p44a n44b H44 => ldA H44 ⟨H.size, 0, none⟩ 4 fun c47 => qbW c47 H44 fun n48 H48 => qca n48 H48 fun p49 H49 => bcase ((n44b : Int) != (0 : Int)) (qt.j3 x4 x5 (fun r _ => r = true) p44a n44b H49 p49 true) (bcase (Option.isNone p44a) (qt.j3 x4 x5 (fun r _ => r = true) p44a n44b H49 p49 true) (qt.j3 x4 x5 (fun r _ => r = true) p44a n44b H49 p49 (Option.isNone p49)))) g2 hz2 (hr1.keep hk2) hmay ?_ ?_
 ·intro hl H' _
  have : 0 < limits.length := List.length_pos_iff.2 hl
  rw [hr1.1, decide_eq_true (by omega), qk]
  exact aw _
 intro H44 L s p30 hA hP hup hcut hns hnl hlo hk44
 have g44 : H44.get H.size = ⟨pl pa pb pc pd, .rw, 0⟩ := by rw [hk44.2 _ hz2]; exact g2
 rw [qn (plg_row g44)]
 refine qbW.s ?_
 obtain ⟨ew, hmw⟩ := qim (pb := pb) (pc := pc) (pd := pd) r1 hmay
 rw [ew]
 refine qca.s (fun hn => absurd hmw hn) ?_
 intro _ F j H49 hk49 hu49 hJ49
 rw [show ((0 : Int) != 0) = false from rfl, qc, qls, qc, qls]
 unfold qt.j3
 rw [qc]
 have hs44 := hk44.1
 refine qI (t := ((false, (0 : Int)) : Bool × Int)) (I := fun (t : Bool × Int) H' => ∃ (i : Nat) (F : Nat → Prop) (s : HS) (ws : List Int) (root : Int) (jw : Bool), t = (false, (i : Int)) ∧ i ≤ l.length ∧ qa H2 H' ∧ HA H' L pa pb pc pd s ∧ HP pa pb pc pd s ws root (15 + 40 * i) (14 * i) ∧ s.M.down = false ∧ s.M.cut = -1 ∧ JW F H' j ws root jw ∧ (∀ b, F b → H2.size ≤ b) ∧ (∀ b, L.has b → F b → False) ∧ (jw = true → s.stuck)) (m := fun (t : Bool × Int) _ => Int.toNat ((l.length : Int) - t.2)) ?_
  ⟨0, F, s, _, 0, false, rfl, by omega, hk44.trans hk49, HAt.keeps hA hk49, hP, hup, hcut, hJ49, fun b hb => (hu49.2 b hb).elim (fun h => h.elim) (fun h => by omega), fun b h1 h2 => (hu49.2 b h2).elim (fun h => h.elim) (fun h => by have := HA.lt hA h1; omega), fun h => by cases h⟩
 rintro ⟨q1, q2⟩ H5 ⟨i, F, s, ws, root, jw, e1, hi, hk5, hA, hP, hup, hcut, hJ, hF, hD, hjw⟩ it hit
 injection e1 with e1 e2
 subst e1 e2
 unfold qt.l2
 rw [hr.1]
 by_cases hlt : (i : Int) < (l.length : Int)
 rotate_left 1
 ·rw [decide_eq_false hlt, qc]
  unfold qt.j1
  exact aw _
 rw [decide_eq_true hlt, qk]
 have hi' : i < l.length := by omega
 have hrK := (hr.keep (hk2.trans hk5))
 obtain ⟨b, o, ha, hb, hcells⟩ := qaA hrK (by omega)
 refine ⟨by omega, ?_⟩
 rw [ha, qd, qlj, qn (hcells i _ (List.getElem?_eq_getElem hi')).1]
 have hd := hok _ (List.getElem_mem hi')
 have hdn := hsl _ (List.getElem_mem hi')
 generalize l[i] = d at *
 refine qcj (n := 5) rfl rfl rfl ?_
 have hO : OpAt (H5.push ⟨opRV d, .rw, 0⟩) H5.size d.K d.off d.n d.c d.sl := OpAt.new
 have hkp : qa H5 (H5.push ⟨opRV d, .rw, 0⟩) := (qa.refl H5).push _
 have hzp : H5.size < (H5.push ⟨opRV d, .rw, 0⟩).size := by simp [qi]
 generalize H5.push ⟨opRV d, .rw, 0⟩ = H6 at *
 rw [qn hO.row, qn hO.row]
 have hA6 : HA H6 L pa pb pc pd s := HAt.keeps hA hkp
 have hk6 := hk5.trans hkp
 have hk26 := hk2.trans hk6
 refine qj0 (s := s) (K := d.K) (off := d.off) (n := d.n) (mask := d.c) (x := d.sl) (bs := d.bs) (hP.hok hA6 (by omega) (by omega)) hd.off hd.n (fun _ => ⟨hd.rows.keep hk26, hd.u8⟩) ?_
 intro H80 x80 hA80 f80 hO80
 obtain ⟨ws', root', jw', hs, hP', hup', hcut', hjw'⟩ := qkI (jw := jw) (K := d.K) (off := d.off) (n := d.n) (bs := d.bs) hd.off hd.u8 hP hup hcut hjw (by omega) (by omega)
 have hb8 := qk4 (K := d.K) (off := d.off) (n := d.n) (bs := d.bs) hP hup
 have hI := do_isI (K := d.K) (off := d.off) (n := d.n) (bs := d.bs) hP hup (by omega) (by omega)
 generalize doH pa pb pc pd s d.K d.off d.n d.bs = R at *
 have hLlt : ∀ b, L.has b → b < H5.size := fun b hb => HA.lt hA hb
 have nO : ¬ L.has H5.size := fun hh => by have := hLlt _ hh; omega
 refine ⟨(hO.keep (f80.out hzp nO)).row, ?_⟩
 have hk80 : qa H2 H80 := f80.base hk6 hlo
 have hJ6 := hJ.keeps hkp
 have hJ80 : JW F H80 j ws root jw := by
  obtain ⟨p, G, h0⟩ := hJ6
  exact ⟨p, G, h0.congr f80.size fun b hb => f80.out (h0.lt b hb) (fun hh => hD b hh hb)⟩
 have hbl : d.bs.length ≤ 500 := by have := hd.rows.1; omega
 refine See.at hJ80 hd.off hd.n hI (hd.rows.keep (hk2.trans hk80)) hd.u8 (by omega) (hO80.rows (fun _ => rfl) (fun _ => rfl)) hb8 hs ?_
 intro F' H81 hu81 hJ81
 simp only at hJ81 ⊢
 rw [Bool.not_true, qc, qe (n := (i : Int) + 1) (by omega) (by omega)]
 have hJlt := hJ80.lt
 have hs80 := f80.size
 have hk0 := hk6.1
 refine hit _ _ ⟨i + 1, F', R.1, ws', root', jw', by simp, by omega, hu81.1.base hk80 hF, HA.congr hA80 hu81.1.1 fun b hb => hu81.1.2 b (HA.lt hA80 hb) (fun hh => hD b hb hh), ?_, hup', hcut', hJ81, fun b hb => ?_, fun b h1 h2 => ?_, hjw'⟩ (by simp only; omega)
 ·have q1 : 15 + 40 * (i + 1) = 15 + 40 * i + 40 := by omega
  have q2 : (14 : Int) * ((i + 1 : Nat) : Int) = 14 * (i : Int) + 14 := by omega
  rw [q1, q2]; exact hP'
 ·rcases hu81.2 b hb with hb | hb
  ·exact hF b hb
  ·omega
 ·rcases hu81.2 b h2 with h2 | h2
  ·exact hD b h1 h2
  ·have := HA.lt hA80 h1; omega
end
end Go.Proofs.YtdcbkjgoaknmkaaGreat
