import Derived.Test.YtgddfhnochcolaaU3
set_option linter.all false
set_option linter.all false
namespace Go.Proofs.Ytgddfhnochcolaa
open Go Go.Abs

section
variable {F : Nat → Prop} {H : AH} {j : Nat} {ws : List Int} {root : Int} {worn : Bool}

theorem judge_New.s {n : Int} {k : Option Addr → AH → Prop} (h0 : ¬ mayW n → k none H) (h1 : mayW n → ∀ F' p' H', Keeps H H' → Up (fun _ => False) H F' H' → JW F' H' p' (firstN n) 0 false → k (some ⟨p', 0, none⟩) H') : judge_New n H k := by
  refine judge_New.link ?_
  unfold judge_New.b
  refine model_New.s (fun hm => ?_) ?_
  · rw [Option.isNone_none, bcase_true]; exact h0 hm
  intro hm G p H5 hk5 hu5 hM5
  rw [Option.isNone_some, bcase_false, newC_eq]
  have hk := hk5.push ⟨[.pointer (some ⟨p, 0, none⟩), .bool false], .rw, 0⟩
  have hge := hk5.1
  have hlt := hM5.lt
  have hG : ∀ b, G b → H.size ≤ b := fun b hb => by rcases hu5.2 b hb with h | h; exact h.elim; exact h.1
  refine h1 hm (fun b => H.size ≤ b ∧ b < H5.size + 1) H5.size _ hk ⟨Keeps.kp hk, fun b hb => .inr hb⟩ ⟨p, G, by rw [push_get, if_pos rfl], hM5.keeps ((Keeps.refl H5).push _), ⟨hge, by omega⟩, fun b hb => ⟨hG b hb, by have := hlt b hb; omega⟩, fun hb => by have := hlt _ hb; omega, fun b hb => hb.2⟩
theorem judge_Judge_Blocks.s {k : Sl → AH → Prop} (hJ : JW F H j ws root worn) (h : ∀ s H', Keeps H H' → Own H.size H' s 3 bkV (blkL ws) → k s H') : judge_Judge_Blocks (some ⟨j, 0, none⟩) H k := by
  obtain ⟨p, G, hJ⟩ := hJ
  refine judge_Judge_Blocks.link ?_
  unfold judge_Judge_Blocks.b
  rw [Option.isNone_some, bcase_false, onPtr_mk, hJ.c0, elP_some]
  exact model_Model_Blocks.s hJ.m h
theorem judge_Judge_Worn.s {k : Bool → AH → Prop} (hJ : JW F H j ws root worn) (h : k worn H) : judge_Judge_Worn (some ⟨j, 0, none⟩) H k := by
  obtain ⟨p, G, hJ⟩ := hJ
  refine judge_Judge_Worn.link ?_
  unfold judge_Judge_Worn.b
  rw [Option.isNone_some, Bool.not_false, bcase_true, onPtr_mk, hJ.c1, elB_some]
  exact h
theorem judge_Judge_Root.s {k : Int → AH → Prop} (hJ : JW F H j ws root worn) (h : k root H) : judge_Judge_Root (some ⟨j, 0, none⟩) H k := by
  obtain ⟨p, G, hJ⟩ := hJ
  refine judge_Judge_Root.link ?_
  unfold judge_Judge_Root.b
  rw [Option.isNone_some, bcase_false, onPtr_mk, hJ.c0, elP_some]
  exact model_Model_Root.s hJ.m h

/-- What a judge saw, where the answer is known. -/
theorem See.at {K a b c cd m : Int} {sl al : Sl} {bs av : List Int} {k : Bool → AH → Prop} {r : Bool × List Int × Int × Bool} (hJ : JW F H j ws root worn) (ha : isI a) (hbI : isI b) (hm : isI m) (hb : Abs.Rows H sl 1 bU bs) (h8b : bytes8 bs) (hl : bs.length ≤ 1000000000000) (hr : Abs.Rows H al 1 bU av) (h8 : bytes8 av)
    (hs : seeP ws root worn K a b bs cd m av = r) (h : ∀ F' H', Up F H F' H' → JW F' H' j r.2.1 r.2.2.1 r.2.2.2 → k r.1 H') : judge_Judge_See (some ⟨j, 0, none⟩) (opl K a b c sl) (ansl cd m al) H k :=
  judge_Judge_See.s hJ ha hbI hm hb h8b hl hr h8 fun r' hr' F' H' hu hj => by
    rw [hs] at hr'
    subst hr'
    exact h F' H' hu hj

theorem isI_small {n : Int} (h : -1000000 ≤ n ∧ n ≤ 1000000) : isI n := by unfold isI; omega
theorem single8 {v : Int} (h : 0 ≤ v ∧ v ≤ 255) : bytes8 [v] := fun x hx => by simp at hx; subst hx; exact h

/-- After the first block is handed out. -/
theorem first_see {n words : Int} (hw : mayW words) (hn : 1 ≤ n ∧ n ≤ 448) (hfit : needN n ≤ words) (bs : List Int) :
    ∃ tk ws1, takesN words (needN n) = tk ∧ seeP (firstN words) 0 false 1 0 n bs 0 8 [] = (true, ws1, 0, false) ∧ MR words [(0, tk, List.replicate ((tk.toNat - 1) * 8) 0)] ws1 := by
  obtain ⟨hfo, tk, htk, ha1, hR1⟩ := alloc_first hw hn hfit
  refine ⟨tk, (aAlloc (firstN words) n 8).2, htk, ?_, hR1⟩
  have hneed : needN n ≠ 0 := by unfold needN; rw [if_pos hn]; omega
  rw [seeP_eq, if_pos rfl, if_neg hneed, if_neg (by omega), if_neg (by simp), if_neg (by omega), if_neg (by simp), ha1]

section
variable {words tk : Int} {ws1 : List Int}
theorem one_free (hR : MR words [(0, tk, List.replicate ((tk.toNat - 1) * 8) 0)] ws1) {off : Int} (hoff : off ≠ 8) : aFree ws1 root off = (1, ws1) := hR.fr1 fun x hx => by simp at hx; subst hx; simp; omega
theorem one_read (hR : MR words [(0, tk, List.replicate ((tk.toNat - 1) * 8) 0)] ws1) (htk : 2 ≤ tk ∧ tk ≤ 512) : aRead ws1 8 1 = ([0], 0) := by
  have hxm : ((0 : Int), tk, List.replicate ((tk.toNat - 1) * 8) (0 : Int)) ∈ [((0 : Int), tk, List.replicate ((tk.toNat - 1) * 8) (0 : Int))] := by simp
  rw [hR.rd ⟨by omega, by omega, _, hxm, by simp, by simp only; omega⟩]
  have hby := bytesOf_ext hR hxm
  simp only at hby
  have h9 := bytesOf_part (ws := ws1) (o := ((0 : Int).toNat + 1) * 8) (m := (tk.toNat - 1) * 8) (a := 0) (n := 1) (by omega)
  rw [hby, List.drop_zero, List.take_replicate, Nat.add_zero] at h9
  have : bytesOf ws1 (8 : Int).toNat (1 : Int).toNat = [0] := by
    show bytesOf ws1 (((0 : Int).toNat + 1) * 8) 1 = [0]
    rw [← h9, show min 1 ((tk.toNat - 1) * 8) = 1 by omega]; rfl
  rw [this]
theorem one_write (hR : MR words [(0, tk, List.replicate ((tk.toNat - 1) * 8) 0)] ws1) (htk : 2 ≤ tk ∧ tk ≤ 512) {bs : List Int} (hb : bs.length ≤ 1) : (aWrite ws1 8 bs).1 = 0 := by
  rw [hR.wr ⟨by omega, by omega, (0, tk, List.replicate ((tk.toNat - 1) * 8) 0), by simp, by simp, by simp only; omega⟩]
theorem one_blk (hR : MR words [(0, tk, List.replicate ((tk.toNat - 1) * 8) 0)] ws1) : blkL ws1 = (0, tk, true) :: gapB tk words := by
  rw [hR.blk']
  unfold blkX
  simp [bg, gapB, endX]
theorem one_free8 (hR : MR words [(0, tk, List.replicate ((tk.toNat - 1) * 8) 0)] ws1) : (aFree ws1 0 8).1 = 0 := (MR.fr0 (e1 := []) (e2 := []) (root := 0) (off := 8) hR (by simp) (by omega)).1
theorem one_not8 (hR : MR words [(0, tk, List.replicate ((tk.toNat - 1) * 8) 0)] ws1) {n : Int} : aAlloc ws1 n 8 = (false, ws1) := by
  rcases aAlloc_cases ws1 n 8 with ⟨_, h⟩ | ⟨_, i, hi, hio, _⟩
  · exact h
  · exfalso
    obtain ⟨h1, h2, _, _⟩ := fitI_mem hi
    have hrg := hR.range
    have hm := hR.may.mem (b := bkAt (blkL ws1) i) (by rw [← hR.blk']; exact List.mem_of_getElem? (bkAt_get h1))
    rw [one_blk hR] at h1 h2 hio hm
    cases i with
    | zero => simp [bkAt] at h2
    | succ i =>
      have hb : bkAt ((0, tk, true) :: gapB tk words) (i + 1) = bkAt (gapB tk words) i := rfl
      rw [hb] at hio hm
      have hx := hR.mem (x := (0, tk, List.replicate ((tk.toNat - 1) * 8) 0)) (by simp)
      unfold gapB at h1 hio hm
      split at h1
      · rename_i hlt
        rw [if_pos hlt] at hio hm
        have hi0 : i = 0 := by simp at h1; omega
        subst hi0
        have hbb : bkAt [(tk, words - tk, false)] 0 = (tk, words - tk, false) := rfl
        rw [hbb] at hio
        simp only at hio hx
        unfold offN at hio
        split at hio <;> omega
      · simp at h1
theorem one_fits (hR : MR words [(0, tk, List.replicate ((tk.toNat - 1) * 8) 0)] ws1) (h : tk + 2 ≤ words) : (fitO ws1 1).length ≠ 0 := by
  have hl : (blkL ws1) = [(0, tk, true), (tk, words - tk, false)] := by
    rw [one_blk hR]; unfold gapB; rw [if_pos (by omega)]
  have hn : needN 1 = 2 := by decide
  unfold fitO fitsL
  rw [List.length_map, if_neg (by rw [hn]; omega), hl, hn]
  have e : fitsTo [(0, tk, true), (tk, words - tk, false)] 2 [((0 : Int), tk, true), (tk, words - tk, false)].length = fitStep [(0, tk, true), (tk, words - tk, false)] 2 (fitStep [(0, tk, true), (tk, words - tk, false)] 2 [] 0) 1 := rfl
  rw [e]
  have h0 : fitStep [((0 : Int), tk, true), (tk, words - tk, false)] 2 [] 0 = [] := rfl
  rw [h0]
  unfold fitStep
  have h1 : bkAt [((0 : Int), tk, true), (tk, words - tk, false)] 1 = (tk, words - tk, false) := rfl
  rw [h1, if_neg (by simp; omega)]
  simp
end

theorem darninglaw25_awake.s {k : Bool → AH → Prop} (hk : ∀ H', k true H') : darninglaw25_awake H k := by
  refine darninglaw25_awake.link (_u := ()) ?_
  unfold darninglaw25_awake.b
  refine judge_New.s (fun h => absurd may16 h) ?_
  intro _ F5 p5 H5 hk5 hu5 hJ5
  rw [Option.isNone_some, bcase_false]
  obtain ⟨tk, ws1, htk, hs1, hR1⟩ := first_see (n := 8) (words := 16) may16 (by omega) (by rw [need8]; omega) []
  rw [need8, takes16] at htk
  subst htk
  refine See.at (c := 0) (sl := ⟨none, 0, 0⟩) (al := ⟨none, 0, 0⟩) hJ5 (isI_small (by omega)) (isI_small (by omega)) (isI_small (by omega)) rows_none bytes8_nil (by simp) rows_none bytes8_nil hs1 ?_
  intro F11 H11 hu11 hJ11
  simp only at hJ11 ⊢
  have hs2 : seeP ws1 0 false 2 16 0 [] 0 0 [] = (false, ws1, 0, false) := by
    have hf : doP ws1 0 2 16 [] = (1, ws1, 0) := by unfold doP; rw [if_pos rfl, one_free hR1 (by omega)]
    rw [seeP_eq, if_neg (by omega), if_pos (.inl rfl), if_neg (by simp), hf, if_neg (by simp), if_pos (by simp)]
  refine See.at (c := 0) (sl := ⟨none, 0, 0⟩) (al := ⟨none, 0, 0⟩) hJ11 (isI_small (by omega)) (isI_small (by omega)) (isI_small (by omega)) rows_none bytes8_nil (by simp) rows_none bytes8_nil hs2 ?_
  intro F15 H15 hu15 hJ15
  simp only at hJ15 ⊢
  rw [newC_eq]
  have hr18 : Abs.Rows (H15.push ⟨[.int .u8 0], .rw, 1⟩) ⟨some ⟨H15.size, 0, none⟩, 1, 1⟩ 1 bU [0] := rows_lit (g := fun v => Value.int .u8 v) (fun _ => rfl) 0
  have hJ18 := hJ15.keeps ((Keeps.refl H15).push ⟨[.int .u8 0], .rw, 1⟩)
  generalize H15.push ⟨[.int .u8 0], .rw, 1⟩ = H18 at *
  have hs3 : seeP ws1 0 false 3 8 1 [] 0 0 [0] = (true, ws1, 0, false) := by
    rw [seeP_eq, if_neg (by omega), if_neg (by omega), if_pos rfl, one_read hR1 (by omega), decide_eq_true (by simp)]
  refine See.at (c := 0) (sl := ⟨none, 0, 0⟩) (al := ⟨some ⟨H15.size, 0, none⟩, 1, 1⟩) hJ18 (isI_small (by omega)) (isI_small (by omega)) (isI_small (by omega)) rows_none bytes8_nil (by simp) hr18 (single8 (by omega)) hs3 ?_
  intro F20 H20 hu20 hJ20
  simp only at hJ20 ⊢
  rw [bcase_true, Bool.not_false, bcase_true, bcase_true]
  refine judge_Judge_Blocks.s hJ20 ?_
  intro s31 H31 hk31 hO31
  rw [own_len hO31]
  have hb2 : (blkL ws1).length = 2 := by rw [one_blk hR1]; rfl
  rw [hb2, bcase_eq, if_pos (by simp)]
  refine judge_Judge_Worn.s (hJ20.keeps hk31) ?_
  rw [Bool.not_false, bcase_true]
  refine judge_Judge_Root.s (hJ20.keeps hk31) ?_
  exact hk _
end
end Go.Proofs.Ytgddfhnochcolaa
