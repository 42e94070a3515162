import Derived.Test.YtgddfhnochcolaaE9
set_option linter.all false
set_option linter.all false
namespace Go.Proofs.Ytgddfhnochcolaa
open Go Go.Abs

section
variable {F1 F2 F1' F2' : Nat → Prop} {H H' HB : AH} {p w : Nat} {ws ws' : List Int} {root root' : Int}
def Ge (F1 F2 : Nat → Prop) (HB : AH) : Prop := ∀ b, F1 b ∨ F2 b → HB.size ≤ b
theorem Up2.base (hu : Up2 F1 F2 H F1' F2' H') (hk : Keeps HB H) (hg : Ge F1 F2 HB) : Keeps HB H' ∧ Ge F1' F2' HB := by
  have h1 := hk.1
  have h2 := hu.1.1
  refine ⟨⟨by omega, fun b hb => by rw [hu.1.2 b (by omega) (fun hh => by have := hg b hh; omega), hk.2 b hb]⟩, fun b hb => ?_⟩
  rcases hu.2 b hb with h0 | h0
  · exact hg b h0
  · omega

theorem darninglaw20_plays.s {x2 : Sl} {l : List StR} {k : Bool → AH → Prop} (hB : Both F1 F2 H p w ws root) (hK : Keeps HB H) (hge : Ge F1 F2 HB) (hr : Abs.Rows HB x2 4 stepV l) (hl : l.length ≤ 100000) (hok : ∀ d ∈ l, stepOK HB d)
    (h : ∀ F1' F2' ws' root' H', Up2 F1 F2 H F1' F2' H' → Both F1' F2' H' p w ws' root' → k true H') : darninglaw20_plays (some ⟨p, 0, none⟩) (some ⟨w, 0, none⟩) x2 H k := by
  refine darninglaw20_plays.link ?_
  unfold darninglaw20_plays.b
  rw [Option.isNone_some, bcase_false]
  refine loopT_inv (t := ((false, (0 : Int)) : Bool × Int)) (I := fun (t : Bool × Int) H' => ∃ (i : Nat) (G1 G2 : Nat → Prop) (ws' : List Int) (root' : Int), t.2 = (i : Int) ∧ i ≤ l.length ∧ Up2 F1 F2 H G1 G2 H' ∧ Both G1 G2 H' p w ws' root') (m := fun (t : Bool × Int) _ => Int.toNat ((l.length : Int) - t.2)) ?_ ⟨0, F1, F2, ws, root, rfl, by omega, Up2.keeps (Keeps.refl H), hB⟩
  rintro ⟨t0, t2⟩ H1 ⟨i, G1, G2, ws', root', e1, hi, hu, hB1⟩ it hit
  simp only at e1
  subst e1
  obtain ⟨hK1, hge1⟩ := Up2.base hu hK hge
  have hr1 := hr.keep hK1
  unfold darninglaw20_plays.l2
  simp only [bcase_eq, decide_eq_true_eq]
  rw [hr1.1]
  by_cases hlt : (i : Int) < (l.length : Int)
  rotate_left 1
  · rw [if_neg hlt]
    exact h _ _ _ _ _ hu hB1
  rw [if_pos hlt]
  have hi' : i < l.length := by omega
  obtain ⟨b, ofs, ha, hb, hcells⟩ := rows_cells hr1 (by omega)
  refine ⟨by omega, ?_⟩
  rw [ha, onPtr_mk, Int.toNat_natCast, ldA_some (hcells i _ (List.getElem?_eq_getElem hi')).1]
  have hd := hok _ (List.getElem_mem hi')
  generalize l[i] = d at *
  refine new_row (n := 4) rfl (stepV_len d) (stepV_ok d) ?_
  obtain ⟨H2, hH2⟩ : ∃ H2, H2 = H1.push ⟨stepV d, .rw, 0⟩ := ⟨_, rfl⟩
  have hS : StAt H2 H1.size d := by rw [hH2]; exact StAt.new
  have hk2 : Keeps H1 H2 := by rw [hH2]; exact (Keeps.refl H1).push _
  have hz2 : H1.size < H2.size := by rw [hH2]; simp [push_size]
  rw [← hH2]
  clear hH2
  rw [hS.c3, elL_some]
  have hB2 := hB1.keeps hk2
  have hn1 : ∀ b, G1 b → b ≠ H1.size := fun b hb he => by have := hB1.m.lt b hb; omega
  have hn2 : ∀ b, G2 b → b ≠ H1.size := fun b hb he => by have := hB1.r.lt b hb; omega
  have hu2 : Up2 F1 F2 H G1 G2 H2 := Up.trans hu (Up2.keeps hk2)
  by_cases hbig : ((d.sl.n : Nat) : Int) > 500
  · rw [if_pos hbig]
    exact h _ _ _ _ _ hu2 hB2
  rw [if_neg hbig, hS.c0, elI_some]
  have hK2 : Keeps HB H2 := hK1.trans hk2
  have tail : ∀ G1' G2' ws'' root'' H3, Up2 G1 G2 H2 G1' G2' H3 → Both G1' G2' H3 p w ws'' root'' → darninglaw20_plays.j1 (some ⟨p, 0, none⟩) (some ⟨w, 0, none⟩) k (t0, (i : Int)) it true H3 := by
    intro G1' G2' ws'' root'' H3 hu3 hB3
    unfold darninglaw20_plays.j1
    rw [Bool.not_true, bcase_false]
    refine darninglaw20_same.s hB3.m hB3.r ?_
    rw [Bool.not_true, bcase_false]
    show it (t0, IntKind.wrap .i64 ((i : Int) + 1)) H3
    rw [wrap_i64 (n := (i : Int) + 1) (by omega) (by omega)]
    exact hit _ _ ⟨i + 1, G1', G2', ws'', root'', by simp, by omega, Up.trans hu2 hu3, hB3⟩ (by simp only; omega)
  have hS3 : ∀ {G1' : Nat → Prop} {H3 : AH}, Up G1 H2 G1' H3 → StAt H3 H1.size d := fun hu3 => hS.keep (hu3.1.2 _ hz2 (fun hh => hn1 _ hh rfl))
  have hokw := hB2.m.ok
  obtain ⟨hbl, hbm⟩ := hokw.blen
  by_cases k0 : d.k = 0
  · rw [if_pos (by simpa using k0), hS.c1, elI_some, elI_some]
    refine model_Model_Fits.s hB2.m hd.n ?_
    intro s61 H61 hk61 hO61
    have hS61 := hS.keep (hk61.2 _ hz2)
    refine ⟨hS61.c1, ?_⟩
    refine darningref4_Model_Fits.s hokw (hB2.r.keeps hk61) hd.n ?_
    intro s65 H65 hk65 hO65
    have hfl := fitO_len (ws := ws') (n := d.n)
    refine darningref1_Ints.s ((hO61.rows (fun _ => rfl) (fun _ => rfl)).keep hk65) (hO65.rows (fun _ => rfl) (fun _ => rfl)) (by omega) ?_
    rw [if_pos rfl]
    have hS65 := hS61.keep (hk65.2 _ (by have := hk61.1; omega))
    rw [hS65.c1, elI_some, hS65.c2, elI_some, elI_some, elI_some]
    have hkk := hk61.trans hk65
    have hB65 := hB2.keeps hkk
    refine model_Model_Alloc.s hB65.m hd.n hd.off ?_
    intro G1' H73 hu73 hM73
    have hS73 : StAt H73 H1.size d := hS65.keep (hu73.1.2 _ (by have := hkk.1; omega) (fun hh => hn1 _ hh rfl))
    refine ⟨hS73.c2, hS73.c1, ?_⟩
    refine darningref4_Model_Alloc.s hokw (hB65.r.up hu73 hB65.d) hd.n ?_
    intro G2' H79 hu79 hR79
    obtain ⟨hB79, hu'⟩ := hB65.step hu73 hM73 hu79 hR79
    rw [beq_self_eq_true]
    exact tail _ _ _ _ _ (Up.of_keeps hkk hu') hB79
  rw [if_neg (by simpa using k0)]
  by_cases k1 : d.k = 1
  · rw [if_pos (by simpa using k1), hS.c2, elI_some, elI_some]
    refine model_Model_Free.s hB2.m ?_
    intro G1' H87 hu87 hM87
    refine ⟨(hS3 hu87).c2, ?_⟩
    refine darningref4_Model_Free.s hokw (hB2.r.up hu87 hB2.d) ?_
    intro G2' H91 hu91 hR91
    obtain ⟨hB91, hu'⟩ := hB2.step hu87 hM87 hu91 hR91
    rw [beq_self_eq_true]
    exact tail _ _ _ _ _ hu' hB91
  rw [if_neg (by simpa using k1)]
  by_cases k2 : d.k = 2
  · rw [if_pos (by simpa using k2), hS.c2, elI_some, elL_some, elI_some, elL_some]
    have hrd : d.bs.length ≤ 500 := by have := hd.rows.1; omega
    refine model_Model_Write.s hB2.m hd.off (hd.rows.keep hK2) hd.u8 (by omega) ?_
    intro G1' H100 hu100 hM100
    refine ⟨(hS3 hu100).c3, (hS3 hu100).c2, ?_⟩
    have hK100 := ((Up.left hu100 hB2.d hB2.r.lt).base hK2 hge1).1
    refine darningref4_Model_Write.s hokw (hB2.r.up hu100 hB2.d) hd.off (hd.rows.keep hK100) hd.u8 (by omega) ?_
    intro G2' H106 hu106 hR106
    obtain ⟨hB106, hu'⟩ := hB2.step hu100 hM100 hu106 hR106
    rw [beq_self_eq_true]
    exact tail _ _ _ _ _ hu' hB106
  rw [if_neg (by simpa using k2)]
  by_cases k3 : d.k = 3
  · rw [if_pos (by simpa using k3), hS.c2, elI_some, elI_some]
    refine model_Model_SetRoot.s hB2.m ?_
    intro H113 hu113 hM113
    refine ⟨(hS3 hu113).c2, ?_⟩
    refine darningref4_Model_SetRoot.s hokw (hB2.r.up hu113 hB2.d) ?_
    intro H117 hu117 hR117
    obtain ⟨hB117, hu'⟩ := hB2.step (ws' := ws') hu113 hM113 hu117 hR117
    rw [beq_self_eq_true]
    exact tail _ _ _ _ _ hu' hB117
  rw [if_neg (by simpa using k3), hS.c2, elI_some, hS.c1, elI_some]
  refine model_Model_Read.s hB2.m hd.off hd.n ?_
  intro s34 H34 hk34 hO34
  have hS34 := hS.keep (hk34.2 _ hz2)
  rw [hS34.c2, elI_some, hS34.c1, elI_some]
  refine darningref4_Model_Read.s hokw (hB2.r.keeps hk34) hd.off hd.n ?_
  intro s43 H43 hk43 hO43
  have h8 := aRead_8 ws' d.off d.n
  refine own_str (hO34.keep hk43.1 (fun b _ hb => hk43.2 b hb)) h8 ?_
  refine own_str hO43 h8 ?_
  rw [beq_self_eq_true, if_pos rfl, beq_self_eq_true]
  exact tail _ _ _ _ _ (Up2.keeps (hk34.trans hk43)) (hB2.keeps (hk34.trans hk43))
end

/-! ### awake -/
section
variable {H : AH}
theorem may16 : mayW 16 := by unfold mayW; omega
theorem first16 : MR ((firstN 16).length : Nat) [] (firstN 16) := by
  have h : ((firstN 16).length : Int) = 16 := by unfold firstN; rw [if_pos may16]; rfl
  rw [h]
  exact MR.first may16
theorem len16 : (firstN 16).length = 16 := by unfold firstN; rw [if_pos may16]; rfl

theorem MR.blk' {words : Int} {e : List Ex} {ws : List Int} (h : MR words e ws) : blkL ws = blkX words e := by unfold blkL; rw [h.blocks]; rfl

/-- The first block of a model of so many words. -/
theorem alloc_first {n words : Int} (hw : mayW words) (hn : 1 ≤ n ∧ n ≤ 448) (hfit : needN n ≤ words) :
    fitO (firstN words) n = [8] ∧ ∃ tk, takesN words (needN n) = tk ∧ (aAlloc (firstN words) n 8).1 = true ∧ MR words [(0, tk, List.replicate ((tk.toNat - 1) * 8) 0)] (aAlloc (firstN words) n 8).2 := by
  have hm := MR.first hw
  have hw' := hw
  unfold mayW at hw'
  have hb : blkL (firstN words) = [(0, words, false)] := by
    rw [hm.blk']
    show gapB 0 words = _
    unfold gapB
    rw [if_pos (by omega), Int.sub_zero]
  have hneed : 2 ≤ needN n := by unfold needN; rw [if_pos hn]; omega
  have hf : fitI (firstN words) n = [0] := by
    unfold fitI fitsL
    rw [if_neg (by omega), hb]
    show fitStep _ _ [] 0 = [0]
    unfold fitStep
    have h1 : bkAt [((0 : Int), words, false)] 0 = (0, words, false) := rfl
    rw [h1, if_neg (by simp; omega)]
    rfl
  have hfo : fitO (firstN words) n = [8] := by
    show (fitI (firstN words) n).map _ = _
    rw [hf, hb]; rfl
  refine ⟨hfo, takesN words (needN n), rfl, ?_⟩
  rcases aAlloc_cases (firstN words) n 8 with ⟨h0, _⟩ | ⟨_, i, hi, _, hA⟩
  · rw [hfo] at h0; simp at h0
  · rw [hf] at hi
    have hi0 : i = 0 := by simpa using hi
    subst hi0
    rw [hA]
    refine ⟨rfl, ?_⟩
    have hbk : bkAt (blkL (firstN words)) 0 = (0, words, false) := by rw [hb]; rfl
    rw [hbk]
    obtain ⟨e1, e2, hE, _, _, hMR⟩ := hm.alloc (i := 0) (b := (0, words, false)) (need := needN n) (by rw [← hm.blk', hb]; rfl) rfl ⟨hneed, hfit⟩
    have h2 : e1 = [] ∧ e2 = [] := by
      cases e1 <;> cases e2 <;> simp at hE ⊢
    rw [h2.1, h2.2] at hMR
    exact hMR

theorem own_one {s : Sl} {H' : AH} {B : Nat} {v : Int} (h : Own B H' s 1 iV [v]) : s.n = 1 ∧ ∃ b, s.a = some ⟨b, 0, none⟩ ∧ AH.cell? H' ⟨b, 0, none⟩ = some (.int .i64 v) ∧ b < H'.size ∧ B ≤ b := by
  rcases h with ⟨_, h0⟩ | ⟨b, rfl, h1, h2, h3⟩
  · cases h0
  · exact ⟨rfl, b, rfl, by simp [AH.cell?, h3, iV], h2, h1⟩
end
end Go.Proofs.Ytgddfhnochcolaa
