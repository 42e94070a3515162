import Derived.Test.YtgddfhnochcolaaU4
set_option linter.all false
set_option linter.all false
namespace Go.Proofs.Ytgddfhnochcolaa
open Go Go.Abs

section
variable {H : AH}
theorem AnAt.store {o : Nat} {cd m cd2 m2 : Int} {sl sl2 : Sl} {k : AH → Prop} (h : AnAt H o cd m sl) (hk : ∀ H', AnAt H' o cd2 m2 sl2 → (∀ x, x ≠ o → H'.get x = H.get x) → H'.size = H.size → k H') :
    ((ansl cd2 m2 sl2).length = 3 ∧ (ansl cd2 m2 sl2).all cellOK = true) ∧ stC H ⟨o, 0, none⟩ (ansl cd2 m2 sl2) k := by
  obtain ⟨e, h⟩ := h
  refine ⟨⟨rfl, rfl⟩, ?_⟩
  refine ⟨⟨rfl, congrArg AObj.md h, by rw [h]; simp [ansl]⟩, hk _ ⟨e, ?_⟩ (fun x hx => by simp only [AH.put, upd_get]; rw [if_neg hx]) rfl⟩
  simp only [AH.put, upd_get, if_true, h]
  rfl

theorem darninglaw25_JudgeNil.t {a b c d e f g : Int} {s1 s2 : Sl} : darninglaw25_JudgeNil [.int .i64 a, .int .i64 b, .int .i64 c, .int .i64 d, s1.val, .int .i64 f, .int .i64 g, s2.val] H (fun r _ => r = true) := by
  have aw : ∀ H', darninglaw25_awake H' fun b _ => b = true := fun H' => darninglaw25_awake.s fun _ => rfl
  refine darninglaw25_JudgeNil.link ?_
  unfold darninglaw25_JudgeNil.b
  rw [newC_eq]
  have hg : (H.push ⟨[.int .i64 a, .int .i64 b, .int .i64 c, .int .i64 d, s1.val, .int .i64 f, .int .i64 g, s2.val], .rw, 0⟩).get H.size = ⟨[.int .i64 a, .int .i64 b, .int .i64 c, .int .i64 d, s1.val, .int .i64 f, .int .i64 g, s2.val], .rw, 0⟩ := by rw [push_get, if_pos rfl]
  generalize H.push ⟨[.int .i64 a, .int .i64 b, .int .i64 c, .int .i64 d, s1.val, .int .i64 f, .int .i64 g, s2.val], .rw, 0⟩ = H1 at *
  have c4 : AH.cell? H1 (Addr.add (Addr.add ⟨H.size, 0, none⟩ 0) 4) = some (.slice s1.a s1.n s1.k) := by rw [addr_add, addr_add]; simp [AH.cell?, hg, Sl.val]
  have c7 : AH.cell? H1 (Addr.add (Addr.add ⟨H.size, 0, none⟩ 5) 2) = some (.slice s2.a s2.n s2.k) := by rw [addr_add, addr_add]; simp [AH.cell?, hg, Sl.val]
  have r0 : AH.row? H1 (Addr.add ⟨H.size, 0, none⟩ 0) 5 = some (opl a b c d s1) := by
    rw [addr_add]
    simp only [AH.row?, hg, Option.isSome_none, Bool.false_eq_true, if_false]
    rw [if_neg (by simp)]
    rfl
  have r5 : AH.row? H1 (Addr.add ⟨H.size, 0, none⟩ 5) 3 = some (ansl f g s2) := by
    rw [addr_add]
    simp only [AH.row?, hg, Option.isSome_none, Bool.false_eq_true, if_false]
    rw [if_neg (by simp)]
    rfl
  have j1 : ∀ x, darninglaw25_JudgeNil.j1 (fun r _ => r = true) H.size H1 x := by
    intro x
    unfold darninglaw25_JudgeNil.j1
    rw [bcase_eq]
    by_cases hx : x = true
    · rw [if_pos hx]; exact aw _
    rw [if_neg hx, ldA_some r0, ldA_some r5]
    refine gcB false (judge_Judge_See.link ?_) ?_
    · unfold judge_Judge_See.b
      rw [newC_eq, newC_eq, Option.isNone_none, bcase_true]
      exact ⟨((Keeps.refl H1).push _).push _, rfl⟩
    show bcase (!false) _ _
    rw [Bool.not_false, bcase_true]
    refine judge_Judge_Blocks.link ?_
    unfold judge_Judge_Blocks.b
    rw [Option.isNone_none, bcase_true]
    show bcase ((((0 : Nat) : Int)) == 0) _ _
    rw [bcase_eq, if_pos (by simp)]
    refine judge_Judge_Worn.link ?_
    unfold judge_Judge_Worn.b
    rw [Option.isNone_none, Bool.not_true, bcase_false]
    show bcase (!false) _ _
    rw [Bool.not_false, bcase_true]
    refine judge_Judge_Root.link ?_
    unfold judge_Judge_Root.b
    rw [Option.isNone_none, bcase_true]
    show bcase ((0 : Int) == 0) _ _
    rw [bcase_eq, if_pos (by simp)]
    exact aw _
  rw [c4, elL_some]
  show bcase _ _ _
  rw [bcase_eq]
  split
  · exact j1 _
  · rw [c7, elL_some]; exact j1 _

theorem m64 : mayW 64 := by unfold mayW; omega

theorem umod1 (x : Int) : ∃ r, 1 ≤ r ∧ r ≤ 100 ∧ IntKind.wrap .i64 (1 + IntKind.wrap .i64 (Int.tmod (IntKind.wrap .u64 x) 100)) = r := by
  obtain ⟨r, h1, h2, h3⟩ := umod' (x := x) (m := 100) (by omega)
  exact ⟨1 + r, by omega, by omega, by rw [h3, wrap_i64 (by omega) (by omega)]⟩

theorem darninglaw25_JudgeWorn.t {x0 x1 : Int} (h0 : (Lit.int .i64 x0).wf = true) (h1 : (Lit.int .u8 x1).wf = true) : darninglaw25_JudgeWorn x0 x1 H (fun r _ => r = true) := by
  have aw : ∀ H', darninglaw25_awake H' fun b _ => b = true := fun H' => darninglaw25_awake.s fun _ => rfl
  have hx1 : isB x1 := wf_u8 h1
  refine darninglaw25_JudgeWorn.link ?_
  unfold darninglaw25_JudgeWorn.b
  refine ⟨by decide, ?_⟩
  refine judge_New.s (fun h => absurd m64 h) ?_
  intro _ F17 p17 H17 hk17 hu17 hJ17
  rw [Option.isNone_some, bcase_false]
  obtain ⟨n, hn1, hn2, hn⟩ := umod1 x0
  rw [hn]
  have hneed : needN n = 1 + (n + 7) / 8 := by unfold needN; rw [if_pos (by omega)]
  obtain ⟨tk, ws1, htk, hs1, hR1⟩ := first_see (n := n) (words := 64) m64 (by omega) (by omega) []
  have htr := takesN_range' (sz := 64) (need := needN n) (by omega)
  rw [htk] at htr
  have htk2 : 2 ≤ tk ∧ tk ≤ 512 := by omega
  refine See.at (c := 0) (sl := ⟨none, 0, 0⟩) (al := ⟨none, 0, 0⟩) hJ17 (isI_small (by omega)) (isI_small (by omega)) (isI_small (by omega)) rows_none bytes8_nil (by simp) rows_none bytes8_nil hs1 ?_
  intro F25 H25 hu25 hJ25
  simp only at hJ25 ⊢
  rw [Bool.not_true, bcase_false, newC_eq]
  have hr31 : Abs.Rows (H25.push ⟨[.int .u8 x1], .rw, 1⟩) ⟨some ⟨H25.size, 0, none⟩, 1, 1⟩ 1 bU [x1] := rows_lit (g := fun v => Value.int .u8 v) (fun _ => rfl) x1
  have hJ31 := hJ25.keeps ((Keeps.refl H25).push ⟨[.int .u8 x1], .rw, 1⟩)
  generalize H25.push ⟨[.int .u8 x1], .rw, 1⟩ = H31 at *
  have hw := one_write hR1 htk2 (bs := [x1]) (by simp)
  have hd4 : (doP ws1 0 4 8 [x1]).1 = 0 := by unfold doP; rw [if_neg (by omega), if_pos rfl]; exact hw
  have hs2 : ∀ n, seeP ws1 0 false 4 8 n [x1] 3 0 [] = (true, ws1, 0, true) := fun n => by
    rw [seeP_eq, if_neg (by omega), if_pos (.inr (.inl rfl)), if_neg (by simp), if_pos ⟨hd4, by simp, .inr rfl⟩]; rfl
  refine See.at (c := 0) (al := ⟨none, 0, 0⟩) hJ31 (isI_small (by omega)) (isI_small (by omega)) (isI_small (by omega)) hr31 (single8 hx1) (by simp) rows_none bytes8_nil (hs2 0) ?_
  intro F34 H34 hu34 hJ34
  simp only at hJ34 ⊢
  rw [Bool.not_true, bcase_false]
  refine judge_Judge_Worn.s hJ34 ?_
  unfold darninglaw25_JudgeWorn.j1
  rw [Bool.not_true, bcase_false, newC_eq]
  have hr44 : Abs.Rows (H34.push ⟨[.int .u8 x1], .rw, 1⟩) ⟨some ⟨H34.size, 0, none⟩, 1, 1⟩ 1 bU [x1] := rows_lit (g := fun v => Value.int .u8 v) (fun _ => rfl) x1
  have hJ44 := hJ34.keeps ((Keeps.refl H34).push ⟨[.int .u8 x1], .rw, 1⟩)
  generalize H34.push ⟨[.int .u8 x1], .rw, 1⟩ = H44 at *
  have hs3 : seeP ws1 0 true 4 8 0 [x1] 0 0 [] = (false, ws1, 0, true) := by
    rw [seeP_eq, if_neg (by omega), if_pos (.inr (.inl rfl)), if_neg (by simp), if_pos ⟨hd4, by simp, .inl rfl⟩]; rfl
  refine See.at (c := 0) (al := ⟨none, 0, 0⟩) hJ44 (isI_small (by omega)) (isI_small (by omega)) (isI_small (by omega)) hr44 (single8 hx1) (by simp) rows_none bytes8_nil hs3 ?_
  intro F47 H47 hu47 hJ47
  simp only at hJ47 ⊢
  have hd2 : (doP ws1 0 2 8 []).1 = 0 := by unfold doP; rw [if_pos rfl]; exact one_free8 hR1
  have hs4 : ∀ cd, seeP ws1 0 true 2 8 0 [] cd 0 [] = (decide (cd = 3), ws1, 0, true) := fun cd => by
    rw [seeP_eq, if_neg (by omega), if_pos (.inl rfl), if_neg (by simp), if_pos ⟨hd2, by simp, .inl rfl⟩]; rfl
  refine See.at (c := 0) (sl := ⟨none, 0, 0⟩) (al := ⟨none, 0, 0⟩) hJ47 (isI_small (by omega)) (isI_small (by omega)) (isI_small (by omega)) rows_none bytes8_nil (by simp) rows_none bytes8_nil (hs4 0) ?_
  intro F51 H51 hu51 hJ51
  simp only at hJ51 ⊢
  refine See.at (c := 0) (sl := ⟨none, 0, 0⟩) (al := ⟨none, 0, 0⟩) hJ51 (isI_small (by omega)) (isI_small (by omega)) (isI_small (by omega)) rows_none bytes8_nil (by simp) rows_none bytes8_nil (hs4 3) ?_
  intro F55 H55 hu55 hJ55
  simp only at hJ55 ⊢
  have hs5 : seeP ws1 0 true 1 0 1 [] 4 0 [] = (false, ws1, 0, true) := by
    have hn1 : needN 1 ≠ 0 := by decide
    rw [seeP_eq, if_pos rfl, if_neg hn1, if_neg (by omega), if_pos rfl]
  refine See.at (c := 0) (sl := ⟨none, 0, 0⟩) (al := ⟨none, 0, 0⟩) hJ55 (isI_small (by omega)) (isI_small (by omega)) (isI_small (by omega)) rows_none bytes8_nil (by simp) rows_none bytes8_nil hs5 ?_
  intro F59 H59 hu59 hJ59
  simp only at hJ59 ⊢
  rw [newC_eq]
  have hr62 : Abs.Rows (H59.push ⟨[.int .u8 0], .rw, 1⟩) ⟨some ⟨H59.size, 0, none⟩, 1, 1⟩ 1 bU [0] := rows_lit (g := fun v => Value.int .u8 v) (fun _ => rfl) 0
  have hJ62 := hJ59.keeps ((Keeps.refl H59).push ⟨[.int .u8 0], .rw, 1⟩)
  generalize H59.push ⟨[.int .u8 0], .rw, 1⟩ = H62 at *
  have hs6 : seeP ws1 0 true 3 8 1 [] 0 0 [0] = (true, ws1, 0, true) := by
    rw [seeP_eq, if_neg (by omega), if_neg (by omega), if_pos rfl, one_read hR1 htk2, decide_eq_true (by simp)]
  refine See.at (c := 0) (sl := ⟨none, 0, 0⟩) (al := ⟨some ⟨H59.size, 0, none⟩, 1, 1⟩) hJ62 (isI_small (by omega)) (isI_small (by omega)) (isI_small (by omega)) rows_none bytes8_nil (by simp) hr62 (single8 (by omega)) hs6 ?_
  intro F64 H64 hu64 hJ64
  simp only at hJ64 ⊢
  have hs7 : seeP ws1 0 true 2 16 0 [] 1 0 [] = (true, ws1, 0, true) := by
    have hf : doP ws1 0 2 16 [] = (1, ws1, 0) := by unfold doP; rw [if_pos rfl, one_free hR1 (by omega)]
    rw [seeP_eq, if_neg (by omega), if_pos (.inl rfl), if_neg (by simp), hf, if_neg (by simp), if_neg (by simp)]
  refine See.at (c := 0) (sl := ⟨none, 0, 0⟩) (al := ⟨none, 0, 0⟩) hJ64 (isI_small (by omega)) (isI_small (by omega)) (isI_small (by omega)) rows_none bytes8_nil (by simp) rows_none bytes8_nil hs7 ?_
  intro F68 H68 hu68 hJ68
  simp only at hJ68 ⊢
  rw [Bool.not_false, bcase_true, show (!(decide ((0 : Int) = 3))) = true from by simp, bcase_true, decide_eq_true trivial, bcase_true, bcase_true, bcase_true, bcase_true]
  refine judge_Judge_Blocks.s hJ68 ?_
  intro s90 H90 hk90 hO90
  rw [own_len hO90]
  have hb2 : 1 ≤ (blkL ws1).length := by rw [one_blk hR1]; simp
  rw [bcase_eq, if_pos (by simp; omega)]
  exact aw _

theorem darninglaw25_JudgeLies.t {x0 x1 x2 : Int} (h0 : (Lit.int .i64 x0).wf = true) (h1 : (Lit.int .i64 x1).wf = true) (h2 : (Lit.int .i64 x2).wf = true) : darninglaw25_JudgeLies x0 x1 x2 H (fun r _ => r = true) := by
  have aw : ∀ H', darninglaw25_awake H' fun b _ => b = true := fun H' => darninglaw25_awake.s fun _ => rfl
  refine darninglaw25_JudgeLies.link ?_
  unfold darninglaw25_JudgeLies.b
  refine ⟨by decide, by decide, ?_⟩
  refine judge_New.s (fun h => absurd m64 h) ?_
  intro _ F21 p21 H21 hk21 hu21 hJ21
  rw [Option.isNone_some, bcase_false]
  obtain ⟨n, hn1, hn2, hn⟩ := umod1 x0
  obtain ⟨v, hv1, hv2, hv⟩ := umod1 x1
  unfold darninglaw25_JudgeLies.j2
  rw [hn, hv]
  have hneed : needN n = 1 + (n + 7) / 8 := by unfold needN; rw [if_pos (by omega)]
  obtain ⟨tk, ws1, htk, hs1, hR1⟩ := first_see (n := n) (words := 64) m64 (by omega) (by omega) []
  have htk' : tk = needN n := by
    rw [← htk]
    unfold takesN
    rw [if_pos (by omega), if_neg (by omega)]
  have htk2 : 2 ≤ tk ∧ tk ≤ 512 := by omega
  refine See.at (c := 0) (sl := ⟨none, 0, 0⟩) (al := ⟨none, 0, 0⟩) hJ21 (isI_small (by omega)) (isI_small (by omega)) (isI_small (by omega)) rows_none bytes8_nil (by simp) rows_none bytes8_nil hs1 ?_
  intro F29 H29 hu29 hJ29
  simp only at hJ29 ⊢
  rw [Bool.not_true, bcase_false]
  refine judge_Judge_Blocks.s hJ29 ?_
  intro s33 H33 hk33 hO33
  have hJ33 := hJ29.keeps hk33
  rw [newC_eq, newC_eq]
  have hb256 : (blkL ws1).length ≤ 256 := hJ29.ok.blen.1
  have hk10 := ((Keeps.refl H33).push ⟨[.int .i64 0, .int .i64 0, .int .i64 0, .int .i64 0, .slice none 0 0], .rw, 0⟩).push ⟨[.int .i64 0, .int .i64 0, .slice none 0 0], .rw, 0⟩
  have hA : OpAt ((H33.push ⟨[.int .i64 0, .int .i64 0, .int .i64 0, .int .i64 0, .slice none 0 0], .rw, 0⟩).push ⟨[.int .i64 0, .int .i64 0, .slice none 0 0], .rw, 0⟩) H33.size 0 0 0 0 ⟨none, 0, 0⟩ := (OpAt.new (H := H33) (K := 0) (a := 0) (b := 0) (c := 0) (sl := ⟨none, 0, 0⟩) (e := 0)).keep (push_get_ne (by simp [push_size]))
  have hB : AnAt ((H33.push ⟨[.int .i64 0, .int .i64 0, .int .i64 0, .int .i64 0, .slice none 0 0], .rw, 0⟩).push ⟨[.int .i64 0, .int .i64 0, .slice none 0 0], .rw, 0⟩) (H33.push ⟨[.int .i64 0, .int .i64 0, .int .i64 0, .int .i64 0, .slice none 0 0], .rw, 0⟩).size 0 0 ⟨none, 0, 0⟩ := AnAt.new (cd := 0) (m := 0) (sl := ⟨none, 0, 0⟩)
  have hne : (H33.push ⟨[.int .i64 0, .int .i64 0, .int .i64 0, .int .i64 0, .slice none 0 0], .rw, 0⟩).size ≠ H33.size := by simp [push_size]
  have hz9 : H33.size < ((H33.push ⟨[.int .i64 0, .int .i64 0, .int .i64 0, .int .i64 0, .slice none 0 0], .rw, 0⟩).push ⟨[.int .i64 0, .int .i64 0, .slice none 0 0], .rw, 0⟩).size := by simp [push_size]; omega
  have hz10 : (H33.push ⟨[.int .i64 0, .int .i64 0, .int .i64 0, .int .i64 0, .slice none 0 0], .rw, 0⟩).size < ((H33.push ⟨[.int .i64 0, .int .i64 0, .int .i64 0, .int .i64 0, .slice none 0 0], .rw, 0⟩).push ⟨[.int .i64 0, .int .i64 0, .slice none 0 0], .rw, 0⟩).size := by simp [push_size]
  have hge9 : H33.size ≤ (H33.push ⟨[.int .i64 0, .int .i64 0, .int .i64 0, .int .i64 0, .slice none 0 0], .rw, 0⟩).size := by simp [push_size]
  generalize (H33.push ⟨[.int .i64 0, .int .i64 0, .int .i64 0, .int .i64 0, .slice none 0 0], .rw, 0⟩).size = o10 at *
  generalize (H33.push ⟨[.int .i64 0, .int .i64 0, .int .i64 0, .int .i64 0, .slice none 0 0], .rw, 0⟩).push ⟨[.int .i64 0, .int .i64 0, .slice none 0 0], .rw, 0⟩ = H10 at *
  -- both are put
  have stores : ∀ {H0 : AH} {K a b c K' a' b' c' cd m cd' m' : Int} {sl al sl' al' : Sl} {kk : AH → Prop}, Keeps H33 H0 → OpAt H0 H33.size K a b c sl → AnAt H0 o10 cd m al →
      (∀ H', Keeps H33 H' → OpAt H' H33.size K' a' b' c' sl' → AnAt H' o10 cd' m' al' → (∀ x, x ≠ H33.size → x ≠ o10 → H'.get x = H0.get x) → H'.size = H0.size → kk H') →
      ((opl K' a' b' c' sl').length = 5 ∧ (opl K' a' b' c' sl').all cellOK = true) ∧ stC H0 ⟨H33.size, 0, none⟩ (opl K' a' b' c' sl') fun H1 => ((ansl cd' m' al').length = 3 ∧ (ansl cd' m' al').all cellOK = true) ∧ stC H1 ⟨o10, 0, none⟩ (ansl cd' m' al') kk := by
    intro H0 K a b c K' a' b' c' cd m cd' m' sl al sl' al' kk hk0 hA0 hB0 hkk
    refine hA0.store fun H1 hA1 hg1 hz1 => ?_
    have hB1 := hB0.keep (hg1 _ hne)
    refine hB1.store fun H2 hB2 hg2 hz2 => ?_
    refine hkk H2 ⟨by have := hk0.1; omega, fun b hb => by rw [hg2 b (by omega), hg1 b (by omega), hk0.2 b hb]⟩ (hA1.keep (hg2 _ (fun he => hne he.symm))) hB2 (fun x h1 h2 => by rw [hg2 x h2, hg1 x h1]) (by omega)
  -- a lie is seen
  have lie : ∀ {Hj : AH} {K a b c cd m : Int} {sl al : Sl} {bs av : List Int}, Keeps H33 Hj → OpAt Hj H33.size K a b c sl → AnAt Hj o10 cd m al → isI a → isI b → isI m → Abs.Rows Hj sl 1 bU bs → bytes8 bs → bs.length ≤ 1000000 → Abs.Rows Hj al 1 bU av → bytes8 av →
      seeP ws1 0 false K a b bs cd m av = (false, ws1, 0, false) → darninglaw25_JudgeLies.j1 (fun r _ => r = true) (some ⟨p21, 0, none⟩) s33 H33.size o10 Hj := by
    intro Hj K a b c cd m sl al bs av hkj hAj hBj ha hb hm hrb h8b hlb hra h8a hs
    unfold darninglaw25_JudgeLies.j1
    rw [ldA_some hAj.row, ldA_some hBj.row]
    refine See.at (hJ33.keeps hkj) ha hb hm hrb h8b (by omega) hra h8a hs ?_
    intro F74 H74 hu74 hJ74
    simp only at hJ74 ⊢
    rw [Bool.not_false, bcase_true]
    refine judge_Judge_Blocks.s hJ74 ?_
    intro s78 H78 hk78 hO78
    have hO74 : Own H29.size H74 s33 3 bkV (blkL ws1) := by
      have h1 := hO33.keep hkj.1 (fun b _ hb => hkj.2 b hb)
      have hl29 := hJ29.lt
      exact h1.keep hu74.1.1 (fun b h1 h2 => hu74.1.2 b h2 (fun hh => by have := hl29 b hh; omega))
    refine darningref4_SameBlocks.s (l := blkL ws1) (hO78.rows bkV_len bkV_ok) ((hO74.rows bkV_len bkV_ok).keep hk78) (by omega) ?_
    rw [bcase_true]
    refine judge_Judge_Worn.s (hJ74.keeps hk78) ?_
    rw [Bool.not_false, bcase_true]
    exact aw _
  have hxm : ((0 : Int), tk, List.replicate ((tk.toNat - 1) * 8) (0 : Int)) ∈ [((0 : Int), tk, List.replicate ((tk.toNat - 1) * 8) (0 : Int))] := by simp
  have Z : ∀ {z : Int}, -1000000 ≤ z ∧ z ≤ 1000000 → isI z := fun h => isI_small h
  refine stores (K' := 2) (a' := 8) (b' := 0) (c' := 0) (sl' := ⟨none, 0, 0⟩) (cd' := 0) (m' := v) (al' := ⟨none, 0, 0⟩) hk10 hA hB ?_
  intro Hs4 hks4 hA4 hB4 _ hzs4
  refine ⟨by decide, ?_⟩
  simp only [bcase_eq, beq_iff_eq]
  generalize Int.tmod (IntKind.wrap .u64 x2) 7 = q
  by_cases q0 : q = 0
  · rw [if_pos q0]
    refine stores (K' := 1) (a' := 0) (b' := n) (c' := 0) (sl' := ⟨none, 0, 0⟩) (cd' := 0) (m' := 8) (al' := ⟨none, 0, 0⟩) hks4 hA4 hB4 ?_
    intro Hs8 hk8 hA8 hB8 _ _
    refine lie (bs := []) (av := []) hk8 hA8 hB8 (Z (by omega)) (Z (by omega)) (Z (by omega)) rows_none bytes8_nil (by simp) rows_none bytes8_nil ?_
    rw [seeP_eq, if_pos rfl, if_neg (by omega), if_neg (by omega), if_neg (by simp), if_neg (by omega), if_neg (by simp), one_not8 hR1]
  rw [if_neg q0]
  by_cases q1 : q = 1
  · rw [if_pos q1, newC_eq]
    have hwv : IntKind.wrap .u8 v = v := by
      have : IntKind.wrap .u8 v = v % 256 := by unfold IntKind.wrap; simp [IntKind.signed, IntKind.bits]
      rw [this]; omega
    rw [hwv]
    have hr50 : Abs.Rows (Hs4.push ⟨[.int .u8 v], .rw, 1⟩) ⟨some ⟨Hs4.size, 0, none⟩, 1, 1⟩ 1 bU [v] := rows_lit (g := fun v => Value.int .u8 v) (fun _ => rfl) v
    have hz50 : Hs4.size < (Hs4.push ⟨[.int .u8 v], .rw, 1⟩).size := by simp [push_size]
    have hk50 := hks4.push ⟨[.int .u8 v], .rw, 1⟩
    have hlt4 := hks4.1
    have hA50 : OpAt (Hs4.push ⟨[.int .u8 v], .rw, 1⟩) H33.size 2 8 0 0 ⟨none, 0, 0⟩ := hA4.keep (push_get_ne (by omega))
    have hB50 : AnAt (Hs4.push ⟨[.int .u8 v], .rw, 1⟩) o10 0 v ⟨none, 0, 0⟩ := hB4.keep (push_get_ne (by omega))
    have hg50 : (Hs4.push ⟨[.int .u8 v], .rw, 1⟩).get Hs4.size = ⟨[.int .u8 v], .rw, 1⟩ := by rw [push_get, if_pos rfl]
    generalize Hs4.push ⟨[.int .u8 v], .rw, 1⟩ = H50 at *
    refine stores (K' := 3) (a' := 8) (b' := 1) (c' := 0) (sl' := ⟨none, 0, 0⟩) (cd' := 0) (m' := 0) (al' := ⟨some ⟨Hs4.size, 0, none⟩, 1, 1⟩) hk50 hA50 hB50 ?_
    intro Hs8 hk8 hA8 hB8 hg8 hz8
    have hr8 : Abs.Rows Hs8 ⟨some ⟨Hs4.size, 0, none⟩, 1, 1⟩ 1 bU [v] := one_rows (fun _ => rfl) (fun _ => rfl) (by omega) (by rw [hg8 _ (by omega) (by omega), hg50]; rfl)
    refine lie (bs := []) (av := [v]) hk8 hA8 hB8 (Z (by omega)) (Z (by omega)) (Z (by omega)) rows_none bytes8_nil (by simp) hr8 (single8 (by omega)) ?_
    rw [seeP_eq, if_neg (by omega), if_neg (by omega), if_pos rfl, one_read hR1 htk2, decide_eq_false (by simp; omega)]
  rw [if_neg q1]
  by_cases q2 : q = 2
  · rw [if_pos q2]
    refine stores (K' := 6) (a' := 0) (b' := 0) (c' := 0) (sl' := ⟨none, 0, 0⟩) (cd' := 0) (m' := 8) (al' := ⟨none, 0, 0⟩) hks4 hA4 hB4 ?_
    intro Hs8 hk8 hA8 hB8 _ _
    refine lie (bs := []) (av := []) hk8 hA8 hB8 (Z (by omega)) (Z (by omega)) (Z (by omega)) rows_none bytes8_nil (by simp) rows_none bytes8_nil ?_
    rw [seeP_eq, if_neg (by omega), if_neg (by omega), if_neg (by omega), if_pos rfl, decide_eq_false (by omega)]
  rw [if_neg q2]
  by_cases q3 : q = 3
  · rw [if_pos q3]
    refine stores (K' := 1) (a' := 0) (b' := 1) (c' := 0) (sl' := ⟨none, 0, 0⟩) (cd' := 4) (m' := 0) (al' := ⟨none, 0, 0⟩) hks4 hA4 hB4 ?_
    intro Hs8 hk8 hA8 hB8 _ _
    refine lie (bs := []) (av := []) hk8 hA8 hB8 (Z (by omega)) (Z (by omega)) (Z (by omega)) rows_none bytes8_nil (by simp) rows_none bytes8_nil ?_
    have hn1 : needN 1 ≠ 0 := by decide
    rw [seeP_eq, if_pos rfl, if_neg hn1, if_neg (by omega), if_neg (by simp), if_pos rfl, decide_eq_false (fun hh => one_fits hR1 (by omega) hh.2)]
  rw [if_neg q3]
  by_cases q4 : q = 4
  · rw [if_pos q4, wrap_i64 (n := v * 8) (by omega) (by omega), wrap_i64 (n := 16 + v * 8) (by omega) (by omega)]
    refine stores (K' := 5) (a' := 16 + v * 8) (b' := 0) (c' := 0) (sl' := ⟨none, 0, 0⟩) (cd' := 0) (m' := 0) (al' := ⟨none, 0, 0⟩) hks4 hA4 hB4 ?_
    intro Hs8 hk8 hA8 hB8 _ _
    refine lie (bs := []) (av := []) hk8 hA8 hB8 (Z (by omega)) (Z (by omega)) (Z (by omega)) rows_none bytes8_nil (by simp) rows_none bytes8_nil ?_
    have hf : doP ws1 0 5 (16 + v * 8) [] = (1, ws1, 0) := by
      unfold doP
      rw [if_neg (by omega), if_neg (by omega), hR1.rt1 (fun x hx => by simp at hx; subst hx; simp only; omega) (by omega)]
    rw [seeP_eq, if_neg (by omega), if_pos (.inr (.inr rfl)), if_neg (by simp), hf, if_neg (by simp), if_pos (by simp)]
  rw [if_neg q4]
  by_cases q5 : q = 5
  · rw [if_pos q5]
    refine stores (K' := 4) (a' := 8) (b' := 0) (c' := 0) (sl' := ⟨none, 0, 0⟩) (cd' := 3) (m' := 0) (al' := ⟨none, 0, 0⟩) hks4 hA4 hB4 ?_
    intro Hs8 hk8 hA8 hB8 _ _
    refine lie (bs := []) (av := []) hk8 hA8 hB8 (Z (by omega)) (Z (by omega)) (Z (by omega)) rows_none bytes8_nil (by simp) rows_none bytes8_nil ?_
    have hw := one_write hR1 htk2 (bs := []) (by simp)
    have hd4 : (doP ws1 0 4 8 []).1 = 0 := by unfold doP; rw [if_neg (by omega), if_pos rfl]; exact hw
    rw [seeP_eq, if_neg (by omega), if_pos (.inr (.inl rfl)), if_neg (by simp), if_neg (fun hh => hh.2.1 ⟨rfl, rfl⟩), if_pos (by rw [hd4]; omega)]
  rw [if_neg q5]
  refine lie (bs := []) (av := []) hks4 hA4 hB4 (Z (by omega)) (Z (by omega)) (Z (by omega)) rows_none bytes8_nil (by simp) rows_none bytes8_nil ?_
  rw [seeP_eq, if_neg (by omega), if_pos (.inl rfl), if_pos (by intro hh; omega)]
end
end Go.Proofs.Ytgddfhnochcolaa
