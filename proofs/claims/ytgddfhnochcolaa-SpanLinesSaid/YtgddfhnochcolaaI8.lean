import Derived.Test.YtgddfhnochcolaaI7
set_option linter.all false
set_option linter.all false
namespace Go.Proofs.Ytgddfhnochcolaa
open Go Go.Abs

theorem rows_none {α : Type} {H : AH} {z : Nat} {f : α → List Value} : Abs.Rows H ⟨none, 0, 0⟩ z f [] := ⟨rfl, fun i x h => by simp at h⟩
instance {off n : Int} {b : Bk} : Decidable (inB off n b) := by unfold inB; infer_instance
instance {l : List Bk} {off n : Int} : Decidable (withinN l off n) := by unfold withinN; infer_instance

def imgAlloc (ws : List Int) (n : Int) (cs : List Int) : List (Int × Int) × Int × Int :=
  if needN n = 0 then ([], 0, 1) else
  match blocksN ws with
  | none => ([], 0, 6)
  | some l => if chooseN l (needN n) cs < 0 then ([], 0, 4) else (carveE (bkAt l (chooseN l (needN n) cs).toNat) (needN n), offN (bkAt l (chooseN l (needN n) cs).toNat).1, 0)
def imgFree (ws : List Int) (off : Int) : List (Int × Int) × Int :=
  match blocksN ws with
  | none => ([], 6)
  | some l => if isN off l 0 < 0 then ([], 1) else
    ([((bkAt l (mFrom l (isN off l 0).toNat)).1, wordN (sumTo l (mFrom l (isN off l 0).toNat) (mTo l (isN off l 0).toNat - mFrom l (isN off l 0).toNat)) false)], 0)
def imgWrite (ws : List Int) (off : Int) (bs : List Int) : List (Int × Int) × Int :=
  match blocksN ws with
  | none => ([], 6)
  | some l => if withinN l off bs.length then (editsOf (putBs ws off.toNat bs) (off.toNat / 8) (touched off.toNat bs.length), 0) else ([], 1)

theorem blocksN_nil {l : List Bk} : blocksN [] ≠ some l := by
  intro h
  have := (blocksN_may h).1.1
  simp at this
theorem within_inside {ws : List Int} {l : List Bk} {off n : Int} (hB : MayB l ws.length) (h : withinN l off n) : inside ws.length off n := by
  obtain ⟨h1, h2, b, hb, hi⟩ := h
  have hm := hB.mem hb
  have hl := hB.len
  obtain ⟨_, h3, h4, h5⟩ := hi
  have : offN b.1 = (b.1 + 1) * 8 := by unfold offN; rw [if_pos (by omega)]
  unfold inside
  omega

section
variable {H : AH}

theorem darningref4_ImageFree.s {x0 : Sl} {off : Int} {ws : List Int} {k : Sl → Int → AH → Prop} (hr : Abs.Rows H x0 1 wU ws) (h64 : words64 ws) (hl : ws.length ≤ 1000)
    (h : ∀ s H', Keeps H H' → Own H.size H' s 2 eU (imgFree ws off).1 → k s (imgFree ws off).2 H') : darningref4_ImageFree x0 off H k := by
  refine darningref4_ImageFree.link ?_
  unfold darningref4_ImageFree.b
  unfold imgFree at h
  refine darningref4_Blocks.s hr h64 hl ?_ ?_
  rotate_left 1
  · intro hb H' hk
    rw [hb] at h
    rw [Bool.not_false, bcase_true]
    exact h _ _ hk (.inl ⟨rfl, rfl⟩)
  intro l hb s12 H12 hk12 hO12
  rw [hb] at h
  rw [Bool.not_true, bcase_false]
  simp only at h
  have hB := blocksN_may hb
  have hlen := hB.len
  have hR := hO12.rows bkV_len bkV_ok
  refine darningref4_Is.s hR (by omega) ?_
  rcases isN_cases off l 0 with hc | ⟨i, hc, hi, hu, ho⟩
  · rw [hc]
    rw [hc, if_pos (by omega)] at h
    refine darningref4_Merged.s0 hR hB ?_
    rw [Bool.not_false, bcase_true]
    exact h _ _ hk12 (.inl ⟨rfl, rfl⟩)
  rw [Nat.zero_add] at hc
  rw [hc]
  rw [hc, if_neg (by omega), Int.toNat_natCast] at h
  refine darningref4_Merged.s hR hB hi hu ?_
  intro s22 H22 hk22 hO22
  have hg := mergedN_get hi
  rw [Bool.not_true, bcase_false]
  have hR22 := hO22.rows bkV_len bkV_ok
  have hlt := (List.getElem?_eq_some_iff.1 hg).1
  obtain ⟨b, o, ha, hbz, hcells⟩ := rows_cells hR22 (by omega)
  have c0 := (hcells _ _ hg).2 0 _ rfl
  have c1 := (hcells _ _ hg).2 1 _ rfl
  simp only at c0 c1
  rw [hR22.1]
  generalize mFrom l i = F at *
  generalize hsm : sumTo l F (mTo l i - F) = sm at *
  refine ⟨by omega, ?_⟩
  rw [ha, onPtr_mk, Int.toNat_natCast, c0, elI_some]
  refine ⟨by omega, ?_⟩
  rw [onPtr_mk, c1, elI_some]
  refine darningref4_Word.s ⟨c0, rfl, ?_⟩
  rw [newC_eq]
  have hk := hk12.trans hk22
  exact h _ _ (hk.push _) (.inr ⟨H22.size, rfl, hk.1, by simp [push_size], by rw [push_get, if_pos rfl]; rfl⟩)

theorem darningref4_ImageWrite.s {x0 x2 : Sl} {off : Int} {ws bs : List Int} {k : Sl → Int → AH → Prop} (hr : Abs.Rows H x0 1 wU ws) (h64 : words64 ws) (hl : ws.length ≤ 1000) (hoff : isI off) (hb : Abs.Rows H x2 1 bU bs) (h8 : bytes8 bs) (hbl : bs.length ≤ 1000000000000)
    (h : ∀ s H', Keeps H H' → Own H.size H' s 2 eU (imgWrite ws off bs).1 → k s (imgWrite ws off bs).2 H') : darningref4_ImageWrite x0 off x2 H k := by
  refine darningref4_ImageWrite.link ?_
  unfold darningref4_ImageWrite.b
  unfold imgWrite at h
  refine darningref4_Blocks.s hr h64 hl ?_ ?_
  rotate_left 1
  · intro hb' H' hk
    rw [hb'] at h
    rw [Bool.not_false, bcase_true]
    exact h _ _ hk (.inl ⟨rfl, rfl⟩)
  intro l hbk s14 H14 hk14 hO14
  rw [hbk] at h
  rw [Bool.not_true, bcase_false]
  simp only at h
  have hB := blocksN_may hbk
  have hlen := hB.len
  have hR := hO14.rows bkV_len bkV_ok
  rw [hb.1]
  refine darningref4_Within.s hR (by omega) (fun b hb => by have := hB.mem hb; omega) ?_ ?_
  · intro hw
    rw [Bool.not_true, bcase_false]
    rw [if_pos hw] at h
    have hin := within_inside hB hw
    refine darningref4_ByteEdits.s (hr.keep hk14) h64 (by omega) (hb.keep hk14) hbl h8 hoff ?_ (fun hn => absurd hin hn)
    intro _ s29 H29 hk29 hO29
    exact h _ _ (hk14.trans hk29) (own_base hO29 hk14.1)
  · intro hw
    rw [Bool.not_false, bcase_true]
    rw [if_neg hw] at h
    exact h _ _ hk14 (.inl ⟨rfl, rfl⟩)

theorem darningref4_Apply.s {x0 x1 : Sl} {ws : List Int} {l : List (Int × Int)} {k : Sl → AH → Prop} (hw : Abs.Rows H x0 1 wU ws) (hwl : ws.length ≤ 1000000) (hl : Abs.Rows H x1 2 eU l) (hll : l.length ≤ 1000000)
    (h : ∀ s H', Keeps H H' → Own H.size H' s 1 wU (applyE ws l) → k s H') : darningref4_Apply x0 x1 H k := by
  refine darningref4_Apply.link ?_
  unfold darningref4_Apply.b
  refine append_list (H0 := H) (B := H.size) (l := []) (f := wU) (fun _ => rfl) (fun _ => rfl) (.inl ⟨rfl, rfl⟩) hw (Nat.le_refl _) (Nat.le_refl _) (Keeps.refl H) (by simp [lim]; omega) ?_
  intro s9 H9 hO9 hK9 _ _
  rw [List.nil_append] at hO9
  refine loopT_inv (t := (0 : Int)) (H := H9) (I := fun (t : Int) H' => ∃ j : Nat, t = (j : Int) ∧ j ≤ l.length ∧ Keeps H H' ∧ Own H.size H' s9 1 wU (applyE ws (l.take j))) (m := fun (t : Int) _ => Int.toNat ((l.length : Int) - t)) ?_ ⟨0, rfl, by omega, hK9, hO9⟩
  intro t H1 hI it hit
  obtain ⟨j, rfl, hj, hK, hO⟩ := hI
  have hR := hl.keep hK
  unfold darningref4_Apply.l2
  rw [hl.1]
  by_cases hlt : j < l.length
  · rw [show decide ((j : Int) < (l.length : Int)) = true from by simpa using hlt, bcase_true]
    obtain ⟨b, o, ha, hb, hrow⟩ := hR.at hlt
    refine ⟨⟨by omega, by omega⟩, ?_⟩
    rw [ha, onPtr_mk, Int.toNat_natCast, ldA_some hrow]
    generalize hx : l[j] = x at *
    have htk : applyE ws (l.take (j + 1)) = putE (applyE ws (l.take j)) x := by
      rw [List.take_succ, List.getElem?_eq_getElem hlt, hx, Option.toList_some]
      simp [applyE, List.foldl_append]
    have hn : s9.n = ws.length := by rw [own_n hO, applyE_length]
    simp only [newC_eq, stC_eq, ed_nil, ed_put, ed_can, ed_0, ed_1, elI_some, show (eU x).length = 2 from rfl, show (eU x).all cellOK = true from rfl, true_and]
    have hnext : ∀ H', Keeps H H' → Own H.size H' s9 1 wU (putE (applyE ws (l.take j)) x) → it ((j : Int) + 1) H' := by
      intro H' hK' hO'
      rw [← htk] at hO'
      exact hit _ _ ⟨j + 1, by simp, by omega, hK', hO'⟩ (by omega)
    have hO1 : Own H.size (H1.push ⟨eU x, .rw, 0⟩) s9 1 wU (applyE ws (l.take j)) := hO.keep (by simp [push_size]) (fun b _ hb => push_get_ne (by omega))
    unfold darningref4_Apply.j1
    simp only [ed_0, ed_1, elI_some]
    rw [wrap_i64 (n := (j : Int) + 1) (by omega) (by omega), hn]
    by_cases h0 : x.1 ≥ 0
    · rw [show decide (x.1 ≥ 0) = true from by simpa using h0, bcase_true]
      by_cases h1 : x.1 < (ws.length : Int)
      · rw [show decide (x.1 < (ws.length : Int)) = true from by simpa using h1, bcase_true]
        refine ⟨⟨h0, h1⟩, ?_⟩
        have hlw : x.1.toNat < (applyE ws (l.take j)).length := by rw [applyE_length]; omega
        obtain ⟨b', ha', hb1, hb2, hcan, hO', _⟩ := hO1.put (y := x.2) (fun _ => rfl) (List.getElem?_eq_getElem hlw) (j := 0) (by omega) (v := .int .u64 x.2) rfl
        rw [ha', onPtr_mk, addr_add, Nat.zero_add]
        refine ⟨hcan, ?_⟩
        refine hnext _ ((hK.push _).put hb1 _) ?_
        have hp : putE (applyE ws (l.take j)) x = (applyE ws (l.take j)).set x.1.toNat x.2 := by
          unfold putE; rw [if_pos ⟨h0, by rw [applyE_length]; exact h1⟩]
        rw [hp]; exact hO'
      · rw [show decide (x.1 < (ws.length : Int)) = false from by simpa using h1, bcase_false]
        refine hnext _ (hK.push _) ?_
        have hp : putE (applyE ws (l.take j)) x = applyE ws (l.take j) := by unfold putE; rw [if_neg (by rw [applyE_length]; omega)]
        rw [hp]; exact hO1
    · rw [show decide (x.1 ≥ 0) = false from by simpa using h0, bcase_false, bcase_false]
      refine hnext _ (hK.push _) ?_
      have hp : putE (applyE ws (l.take j)) x = applyE ws (l.take j) := by unfold putE; rw [if_neg (by omega)]
      rw [hp]; exact hO1
  · rw [show decide ((j : Int) < (l.length : Int)) = false from by simpa using hlt, bcase_false]
    have : j = l.length := by omega
    subst this
    rw [List.take_length] at hO
    exact h _ _ hK hO

def firstN (n : Int) : List Int := if mayW n then wordN n false :: List.replicate (n.toNat - 1) 0 else []
theorem firstN_len {n : Int} : ((firstN n).length : Int) ≤ 512 := by
  unfold firstN
  split
  · rename_i h; unfold mayW at h; simp; omega
  · simp
theorem wordN_u (n : Int) (u : Bool) : isU (wordN n u) := by
  unfold wordN isU
  split
  · rename_i h; unfold mayS at h; split <;> omega
  · omega
theorem firstN_u (n : Int) : words64 (firstN n) := by
  intro v hv
  unfold firstN at hv
  split at hv
  · rw [List.mem_cons] at hv
    rcases hv with rfl | hv
    · exact wordN_u _ _
    · rw [List.eq_of_mem_replicate hv]; omega
  · cases hv
theorem darningref4_First.s {n : Int} {k : Sl → AH → Prop} (h : ∀ s H', Keeps H H' → Own H.size H' s 1 wU (firstN n) → k s H') : darningref4_First n H k := by
  refine darningref4_First.link ?_
  unfold darningref4_First.b
  unfold firstN at h
  refine darningref4_mayWords.s ?_
  by_cases hm : mayW n
  rotate_left 1
  · rw [decide_eq_false hm, Bool.not_false, bcase_true]
    rw [if_neg hm] at h
    exact h _ _ (Keeps.refl H) (.inl ⟨rfl, rfl⟩)
  rw [decide_eq_true hm, Bool.not_true, bcase_false]
  rw [if_pos hm] at h
  unfold mayW at hm
  refine ⟨by simp only [lim]; omega, ?_⟩
  rw [newC_eq]
  obtain ⟨m, hm1⟩ : ∃ m : Nat, n.toNat = m + 1 := ⟨n.toNat - 1, by omega⟩
  rw [hm1] at h ⊢
  rw [Nat.add_sub_cancel] at h
  refine darningref4_Word.s ?_
  refine ⟨by omega, ?_⟩
  have hz : zerosOf (m + 1) [Value.int .u64 0] = (List.replicate (m + 1) (0 : Int)).flatMap wU := by
    unfold zerosOf
    rw [List.flatMap_def, List.map_replicate]; rfl
  rw [hz]
  have hO : Own H.size (H.push ⟨(List.replicate (m + 1) (0 : Int)).flatMap wU, .rw, 1⟩) ⟨some ⟨H.size, 0, none⟩, m + 1, 1⟩ 1 wU (List.replicate (m + 1) 0) :=
    .inr ⟨H.size, by simp, Nat.le_refl _, by simp [push_size], by rw [push_get, if_pos rfl]⟩
  have hk := (Keeps.refl H).push ⟨(List.replicate (m + 1) (0 : Int)).flatMap wU, .rw, 1⟩
  generalize H.push ⟨(List.replicate (m + 1) (0 : Int)).flatMap wU, .rw, 1⟩ = H1 at *
  obtain ⟨b', ha', hb1, hb2, hcan, hO', _⟩ := hO.put (i := 0) (x := 0) (y := wordN n false) (fun _ => rfl) (by simp) (j := 0) (by omega) (v := .int .u64 (wordN n false)) rfl
  simp only [Option.some.injEq, Addr.mk.injEq, true_and, and_true] at ha'
  subst ha'
  rw [addr_add]
  refine ⟨hcan, ?_⟩
  exact h _ _ (hk.put hb1 _) hO'
end
end Go.Proofs.Ytgddfhnochcolaa
