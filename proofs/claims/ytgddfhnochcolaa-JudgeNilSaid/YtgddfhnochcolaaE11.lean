import Derived.Test.YtgddfhnochcolaaE10
set_option linter.all false
set_option linter.all false
namespace Go.Proofs.Ytgddfhnochcolaa
open Go Go.Abs

section
variable {words root off : Int} {e : List Ex} {ws : List Int}
theorem emap (e : List Ex) : (e.map fun x => ((x, 0) : Ex × Nat)).map (·.1) = e := by
  induction e with
  | nil => rfl
  | cons a r ih => simp only [List.map_cons, ih]
theorem MR.wr (h : MR words e ws) {bs : List Int} (hw : 0 ≤ (bs.length : Int) ∧ (bs.length : Int) ≤ 448 ∧ ∃ x ∈ e, (x.1 + 1) * 8 ≤ off ∧ off + bs.length ≤ (x.1 + x.2.1) * 8) : aWrite ws off bs = (0, putBs ws off.toNat bs) := by
  have hl := h.len
  refine aWrite_in (E := e.map fun x => (x, 0)) (by rw [emap, hl]; exact h) ?_
  rw [h.blk', h.within]; exact hw
theorem MR.wr0 (h : MR words e ws) {bs : List Int} (hw : ¬ (0 ≤ (bs.length : Int) ∧ (bs.length : Int) ≤ 448 ∧ ∃ x ∈ e, (x.1 + 1) * 8 ≤ off ∧ off + bs.length ≤ (x.1 + x.2.1) * 8)) : aWrite ws off bs = (1, ws) := by
  have hl := h.len
  refine aWrite_out (E := e.map fun x => (x, 0)) (by rw [emap, hl]; exact h) ?_
  rw [h.blk', h.within]; exact hw
theorem MR.rd (h : MR words e ws) {n : Int} (hw : 0 ≤ n ∧ n ≤ 448 ∧ ∃ x ∈ e, (x.1 + 1) * 8 ≤ off ∧ off + n ≤ (x.1 + x.2.1) * 8) : aRead ws off n = (bytesOf ws off.toNat n.toNat, 0) := by
  unfold aRead
  rw [if_pos]
  rw [h.blk', h.within]; exact hw
theorem MR.rd0 (h : MR words e ws) {n : Int} (hw : ¬ (0 ≤ n ∧ n ≤ 448 ∧ ∃ x ∈ e, (x.1 + 1) * 8 ≤ off ∧ off + n ≤ (x.1 + x.2.1) * 8)) : aRead ws off n = ([], 1) := by
  unfold aRead
  rw [if_neg]
  rw [h.blk', h.within]; exact hw
theorem MR.rt (h : MR words e ws) {x : Ex} (hx : x ∈ e) (ho : (x.1 + 1) * 8 = off) : aRoot ws root off = (0, off) := by
  unfold aRoot
  rw [if_neg]
  rw [h.blk']
  intro hh
  obtain ⟨e1, e2, rfl⟩ := List.append_of_mem hx
  have := h.is_at ho
  omega
theorem MR.rt1 (h : MR words e ws) (hn : ∀ x ∈ e, (x.1 + 1) * 8 ≠ off) (h0 : off ≠ 0) : aRoot ws root off = (1, root) := by
  unfold aRoot
  rw [if_pos]
  rw [h.blk', h.is_none hn]
  exact ⟨h0, by omega⟩
theorem aRoot0 : aRoot ws root 0 = (0, 0) := by unfold aRoot; rw [if_neg (fun h => h.1 rfl)]
theorem MR.fr (h : MR words e ws) {x : Ex} (hx : x ∈ e) (ho : (x.1 + 1) * 8 = off) : aFree ws off off = (5, ws) := by
  unfold aFree
  obtain ⟨e1, e2, rfl⟩ := List.append_of_mem hx
  rw [h.imgFree_at ho]; simp
theorem MR.fr1 (h : MR words e ws) (hn : ∀ x ∈ e, (x.1 + 1) * 8 ≠ off) : aFree ws root off = (1, ws) := by
  unfold aFree
  rw [h.imgFree_none hn]; simp
theorem MR.fr0 {e1 e2 : List Ex} {x : Ex} (h : MR words (e1 ++ x :: e2) ws) (ho : (x.1 + 1) * 8 = off) (hr : root ≠ off) : (aFree ws root off).1 = 0 ∧ MR words (e1 ++ e2) (aFree ws root off).2 := by
  unfold aFree
  rw [h.imgFree_at ho]
  simp only [ne_eq, not_true_eq_false, if_false]
  rw [if_neg hr]
  exact ⟨rfl, h.free⟩
end

section
variable {H : AH}
/-- A slice of its own stays, where only F changes. -/
theorem Own.upk {α : Type} {F F' : Nat → Prop} {H0 H H' : AH} {s : Sl} {z : Nat} {f : α → List Value} {l : List α} (h : Own H0.size H s z f l) (hl : Lt F H0) (hu : Up F H F' H') : Own H0.size H' s z f l :=
  h.keep hu.1.1 fun b h1 h2 => hu.1.2 b h2 fun hh => by have := hl b hh; omega

theorem need8 : needN 8 = 2 := by decide
theorem takes16 : takesN 16 2 = 2 := by decide

theorem darninglaw20_awake.s {k : Bool → AH → Prop} (hk : ∀ H', k true H') : darninglaw20_awake H k := by
  refine darninglaw20_awake.link (_u := ()) ?_
  unfold darninglaw20_awake.b
  refine model_New.s (fun h => absurd may16 h) ?_
  intro _ F8 p8 H8 hk8 hu8 hM8
  rw [Option.isNone_some, bcase_false]
  obtain ⟨hfo, tk, htk, ha1, hR1⟩ := alloc_first (n := 8) (words := 16) may16 (by omega) (by rw [need8]; omega)
  rw [need8, takes16] at htk
  subst htk
  refine model_Model_Fits.s hM8 (by unfold isI; omega) ?_
  intro s12 H12 hk12 hO12
  rw [hfo] at hO12
  obtain ⟨hn12, b12, ha12, hc12, hb12, hb12'⟩ := own_one hO12
  have hM12 := hM8.keeps hk12
  have hlt8 := hM8.lt
  refine model_Model_Alloc.s hM12 (by unfold isI; omega) (by unfold isI; omega) ?_
  intro F14 H14 hu14 hM14
  rw [ha1]
  rw [newC_eq]
  have hk16 := (Keeps.refl H14).push ⟨[.int .u8 5], .rw, 1⟩
  have hr16 : Abs.Rows (H14.push ⟨[.int .u8 5], .rw, 1⟩) ⟨some ⟨H14.size, 0, none⟩, 1, 1⟩ 1 bU [5] := rows_lit (g := fun v => Value.int .u8 v) (fun _ => rfl) 5
  have hw := hR1.wr (off := 8) (bs := [5]) ⟨by simp, by simp, (0, 2, List.replicate 8 0), by simp, by simp, by simp⟩
  have hR2 := hR1.write (e1 := []) (e2 := []) (off := 8) (bs := [5]) (by intro v hv; simp at hv; subst hv; omega) (by simp) (by simp)
  generalize (aAlloc (firstN 16) 8 8).2 = ws1 at *
  generalize H14.push ⟨[.int .u8 5], .rw, 1⟩ = H16 at *
  refine model_Model_Write.s (hM14.keeps hk16) (by unfold isI; omega) hr16 (by intro v hv; simp at hv; subst hv; omega) (by simp) ?_
  intro F17 H17 hu17 hM17
  rw [hw] at hM17 ⊢
  simp only at hM17
  have e8 : (8 : Int).toNat = 8 := rfl
  rw [e8] at hM17
  have hrd := hR2.rd (off := 8) (n := 2) ⟨by omega, by omega, _, by simp; rfl, by simp, by simp⟩
  have h50 : bytesOf (putBs ws1 8 [5]) 8 2 = [5, 0] := by
    have h1 := hR2.by8 _ (by simp; rfl)
    have h2 := bytesOf_part (ws := putBs ws1 8 [5]) (o := 8) (m := 8) (a := 0) (n := 2) (by omega)
    simp only at h1
    rw [← h2]
    have h3 : ((0 : Int).toNat + 1) * 8 = 8 := rfl
    have h4 : ((2 : Int).toNat - 1) * 8 = 8 := rfl
    rw [h3, h4] at h1
    rw [← h1]; rfl
  generalize putBs ws1 8 [5] = ws2 at *
  refine model_Model_Read.s hM17 (by unfold isI; omega) (by unfold isI; omega) ?_
  intro s20 H20 hk20 hO20
  rw [hrd] at hO20 ⊢
  simp only [e8, show (2 : Int).toNat = 2 from rfl] at hO20
  rw [h50] at hO20
  refine model_Model_SetRoot.s (hM17.keeps hk20) ?_
  intro H24 hu24 hM24
  have hxm : ((0 : Int), (2 : Int), putL (List.replicate 8 0) (8 - ((0 : Int).toNat + 1) * 8) [5]) ∈ ([] ++ ((0 : Int), (2 : Int), putL (List.replicate 8 0) (8 - ((0 : Int).toNat + 1) * 8) [5]) :: []) := by simp
  have hrt := hR2.rt (root := 0) (off := 8) hxm (by simp)
  rw [hrt] at hM24 ⊢
  simp only at hM24
  rw [hn12, bcase_eq, if_pos (by simp)]
  refine ⟨by omega, ?_⟩
  rw [ha12, onPtr_mk, addr_add]
  have hnF8 : ¬ F8 b12 := fun h => by have := hlt8 _ h; omega
  have hnF14 : ¬ F14 b12 := fun h => by rcases hu14.2 _ h with h0 | h0; exact hnF8 h0; omega
  have h14 := hu14.1.1
  have h16 := hk16.1
  have hnF17 : ¬ F17 b12 := fun h => by rcases hu17.2 _ h with h0 | h0; exact hnF14 h0; omega
  have h17 := hu17.1.1
  have h20 := hk20.1
  have hg24 : H24.get b12 = H12.get b12 := by rw [hu24.1.2 _ (by omega) hnF17, hk20.2 _ (by omega), hu17.1.2 _ (by omega) hnF14, hk16.2 _ (by omega), hu14.1.2 _ hb12 hnF8]
  have hc24 : AH.cell? H24 ⟨b12, 0 + Int.toNat 0 * 1, none⟩ = some (.int .i64 8) := by rw [← hc12]; simp only [AH.cell?, hg24]; rfl
  rw [hc24, elI_some, bcase_eq, if_pos (by simp), bcase_true, bcase_eq, if_pos (by simp), bcase_eq, if_pos (by simp)]
  refine own_str (Own.upk hO20 hM17.lt hu24) (by intro v hv; rw [List.mem_cons, List.mem_cons] at hv; rcases hv with rfl | rfl | hv; omega; omega; cases hv) ?_
  have hbb : (⟨List.toArray ([(5 : Int), 0].map fun v => UInt8.ofNat v.toNat)⟩ : ByteArray) = ⟨#[5, 0]⟩ := rfl
  rw [hbb, beq_self_eq_true, bcase_true, bcase_eq, if_pos (by simp)]
  refine model_Model_Root.s hM24 ?_
  rw [bcase_eq, if_pos (by simp)]
  refine model_Model_Free.s hM24 ?_
  intro F61 H61 hu61 hM61
  rw [hR2.fr hxm (by simp)] at hM61 ⊢
  rw [bcase_eq, if_pos (by simp)]
  refine model_Model_Blocks.s hM61 ?_
  intro s66 H66 _ hO66
  have hb2 : (blkL ws2).length = 2 := by rw [hR2.blk']; rfl
  rw [own_len hO66]
  simp only at hO66 ⊢
  rw [hb2]
  exact hk _

theorem darninglaw20_ModelPlays.t {x0 : Int} {x1 x2 : Sl} {l1 l2 : List StR} (h0 : (Lit.int .i64 x0).wf = true) (hr1 : Abs.Rows H x1 4 stepV l1) (hok1 : ∀ d ∈ l1, stepOK H d) (hl1 : l1.length * 48 ≤ reachBytes)
    (hr2 : Abs.Rows H x2 4 stepV l2) (hok2 : ∀ d ∈ l2, stepOK H d) (hl2 : l2.length * 48 ≤ reachBytes) : darninglaw20_ModelPlays x0 x1 x2 H (fun r _ => r = true) := by
  have aw : ∀ H', darninglaw20_awake H' fun b _ => b = true := fun H' => darninglaw20_awake.s fun _ => rfl
  unfold reachBytes at hl1 hl2
  refine darninglaw20_ModelPlays.link ?_
  unfold darninglaw20_ModelPlays.b
  rw [hr1.1, hr2.1]
  by_cases hbig : IntKind.wrap .i64 ((l1.length : Int) + (l2.length : Int)) > 120
  · rw [decide_eq_true hbig, bcase_true]; exact aw H
  rw [decide_eq_false hbig, bcase_false]
  have hsum : l1.length ≤ 100000 ∧ l2.length ≤ 100000 := by
    rw [IntKind.wrap_i64] at hbig
    omega
  refine model_New.s (fun hm => ?_) ?_
  · refine darningref4_NewModel.s (fun _ => ?_) (fun hh => absurd hh hm)
    rw [bcase_eq, if_neg (by simp)]
    rw [Option.isNone_none, bcase_true]
    exact aw H
  intro hm F1 p H18 hk18 hu18 hM18
  refine darningref4_NewModel.s (fun hh => absurd hm hh) ?_
  intro _ F2 w H20 hk20 hu20 hR20
  rw [bcase_eq, if_neg (by simp), Option.isNone_some, bcase_false]
  have hge1 : ∀ b, F1 b → H.size ≤ b ∧ b < H18.size := fun b hb => by rcases hu18.2 b hb with h | h; exact h.elim; exact h
  have hge2 : ∀ b, F2 b → H18.size ≤ b ∧ b < H20.size := fun b hb => by rcases hu20.2 b hb with h | h; exact h.elim; exact h
  have hs18 := hk18.1
  have hB : Both F1 F2 H20 p w (firstN x0) 0 := ⟨hM18.keeps hk20, hR20, fun b h1 h2 => by have := hge1 b h1; have := hge2 b h2; omega⟩
  have hK : Keeps H H20 := hk18.trans hk20
  have hGe : Ge F1 F2 H := fun b hb => by rcases hb with hb | hb; exact (hge1 b hb).1; have := hge2 b hb; omega
  refine darninglaw20_plays.s hB hK hGe hr1 hsum.1 hok1 ?_
  intro G1 G2 ws1 root1 H32 hu32 hB32
  rw [Bool.not_true, bcase_false]
  obtain ⟨hK32, hGe32⟩ := hu32.base hK hGe
  refine darningref4_Model_Clone.s hB32.m.ok hB32.r ?_
  intro F3 p35 H35 hk35 hu35 hR35
  refine model_Model_Copy.s (hB32.m.keeps hk35) ?_
  intro F4 p37 H37 hk37 hu37 hM37
  have hge3 : ∀ b, F3 b → H32.size ≤ b ∧ b < H35.size := fun b hb => by rcases hu35.2 b hb with h | h; exact h.elim; exact h
  have hge4 : ∀ b, F4 b → H35.size ≤ b ∧ b < H37.size := fun b hb => by rcases hu37.2 b hb with h | h; exact h.elim; exact h
  have h35 := hk35.1
  have h37 := hk37.1
  have hlt1 := hB32.m.lt
  have hlt2 := hB32.r.lt
  have hB37 : Both F4 G2 H37 p37 w ws1 root1 := ⟨hM37, hB32.r.keeps (hk35.trans hk37), fun b h1 h2 => by have := hge4 b h1; have := hlt2 b h2; omega⟩
  have hK37 := (hK32.trans hk35).trans hk37
  have hszB := hK32.1
  have hGe37 : Ge F4 G2 H := fun b hb => by
    rcases hb with hb | hb
    · have := hge4 b hb; omega
    · exact hGe32 b (.inr hb)
  refine darninglaw20_plays.s hB37 hK37 hGe37 hr2 hsum.2 hok2 ?_
  intro J1 J2 ws2 root2 H40 hu40 hB40
  rw [Bool.not_true, bcase_false]
  have hdm : Dj (fun b => F4 b ∨ G2 b) G1 := fun b hb h1 => by
    rcases hb with hb | hb
    · have := hge4 b hb; have := hlt1 b h1; omega
    · exact hB32.d b h1 hb
  have hdr : Dj (fun b => F4 b ∨ G2 b) F3 := fun b hb h1 => by
    rcases hb with hb | hb
    · have := hge4 b hb; have := hge3 b h1; omega
    · have := hge3 b h1; have := hlt2 b hb; omega
  refine darninglaw20_same.s ((hB32.m.keeps (hk35.trans hk37)).up hu40 hdm) ((hR35.keeps hk37).up hu40 hdr) ?_
  rw [bcase_true]
  exact aw _
end
end Go.Proofs.Ytgddfhnochcolaa
