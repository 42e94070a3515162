import Derived.Test.YtgddfhnochcolaaI6
set_option linter.all false
set_option linter.all false
namespace Go.Proofs.Ytgddfhnochcolaa
open Go Go.Abs

def mFrom (l : List Bk) (i : Nat) : Nat := if 0 < i ∧ (bkAt l (i - 1)).2.2 = false then i - 1 else i
def mTo (l : List Bk) (i : Nat) : Nat := if i + 1 < l.length ∧ (bkAt l (i + 1)).2.2 = false then i + 2 else i + 1
def sumTo (l : List Bk) (a : Nat) : Nat → Int
  | 0 => 0
  | j + 1 => sumTo l a j + (bkAt l (a + j)).2.1
def mergedN (l : List Bk) (i : Nat) : List Bk := l.take (mFrom l i) ++ [((bkAt l (mFrom l i)).1, sumTo l (mFrom l i) (mTo l i - mFrom l i), false)] ++ l.drop (mTo l i)

theorem mergedN_get {l : List Bk} {i : Nat} (hi : i < l.length) : (mergedN l i)[mFrom l i]? = some ((bkAt l (mFrom l i)).1, sumTo l (mFrom l i) (mTo l i - mFrom l i), false) := by
  have hf : mFrom l i ≤ i := by unfold mFrom; split <;> omega
  unfold mergedN
  rw [List.append_assoc, List.getElem?_append_right (by simp; omega)]
  simp
  rw [Nat.min_eq_left (by omega), Nat.sub_self]
  rfl

theorem own_base {α : Type} {B B' : Nat} {H : AH} {s : Sl} {z : Nat} {f : α → List Value} {l : List α} (h : Own B H s z f l) (hb : B' ≤ B) : Own B' H s z f l :=
  h.imp id fun ⟨b, e, h1, h2, h3⟩ => ⟨b, e, Nat.le_trans hb h1, h2, h3⟩

section
variable {H : AH}

theorem darningref4_Merged.s0 {x0 : Sl} {words : Int} {l : List Bk} {k : Sl → Int → Bool → AH → Prop} (hr : Abs.Rows H x0 3 bkV l) (hB : MayB l words) (h : k ⟨none, 0, 0⟩ 0 false H) : darningref4_Merged x0 (-1) H k := by
  have hlen := hB.len
  refine darningref4_Merged.link ?_
  unfold darningref4_Merged.b
  refine darningref4_sizes.s hr hB ?_
  refine darningref4_MayBlocks.s hr (by omega) (fun b hb => by have := hB.mem hb; omega) (by have := hB.1; unfold mayW at this; omega) ?_
  rw [decide_eq_true hB, Bool.not_true, bcase_false, decide_eq_true (show (-1 : Int) < 0 by omega), bcase_true]
  unfold darningref4_Merged.j7
  rw [bcase_true]
  exact h

theorem darningref4_Merged.s {x0 : Sl} {words : Int} {l : List Bk} {i : Nat} {k : Sl → Int → Bool → AH → Prop} (hr : Abs.Rows H x0 3 bkV l) (hB : MayB l words) (hi : i < l.length) (hu : (bkAt l i).2.2 = true)
    (h : ∀ s H', Keeps H H' → Own H.size H' s 3 bkV (mergedN l i) → k s (mFrom l i : Nat) true H') : darningref4_Merged x0 (i : Int) H k := by
  have hlen := hB.len
  have hgi := bkAt_get hi
  refine darningref4_Merged.link ?_
  unfold darningref4_Merged.b
  refine darningref4_sizes.s hr hB ?_
  refine darningref4_MayBlocks.s hr (by omega) (fun b hb => by have := hB.mem hb; omega) (by have := hB.1; unfold mayW at this; omega) ?_
  rw [decide_eq_true hB, Bool.not_true, bcase_false]
  obtain ⟨b, o, ha, hb, hcells⟩ := rows_cells hr (by omega)
  have hcell : ∀ j, j < l.length → ∀ t v, (bkV (bkAt l j))[t]? = some v → AH.cell? H (Addr.add (Addr.add ⟨b, o, none⟩ (j * 3)) t) = some v := fun j hj => (hcells j _ (bkAt_get hj)).2
  have hti : Int.toNat (i : Int) = i := Int.toNat_natCast i
  have hsz : ∀ j, j < l.length → 0 ≤ (bkAt l j).2.1 ∧ (bkAt l j).2.1 ≤ 512 := fun j hj => by have := hB.mem (List.mem_of_getElem? (bkAt_get hj)); omega
  simp only [bcase_eq, decide_eq_true_eq, hr.1, ha, onPtr_mk, hti, hcell i hi 2 _ rfl, elB_some]
  rw [if_neg (by omega), if_neg (by omega)]
  refine ⟨by omega, ?_⟩
  rw [hu]
  unfold darningref4_Merged.j7
  rw [Bool.not_true, bcase_false]
  have hw1 : IntKind.wrap .i64 ((i : Int) + 1) = ((i + 1 : Nat) : Int) := by rw [wrap_i64 (by omega) (by omega)]; omega
  have hw2 : IntKind.wrap .i64 (((i + 1 : Nat) : Int) + 1) = ((i + 2 : Nat) : Int) := by rw [wrap_i64 (by omega) (by omega)]; omega
  -- from the places on
  have j3 : ∀ F T : Nat, F < T → T ≤ l.length → T - F ≤ 3 → (∀ s H', Keeps H H' → Own H.size H' s 3 bkV (l.take F ++ [((bkAt l F).1, sumTo l F (T - F), false)] ++ l.drop T) → k s (F : Int) true H') → darningref4_Merged.j3 x0 k H (F : Int) (T : Int) := by
    intro F T hFT hT h3 hk
    unfold darningref4_Merged.j3
    rw [hr.1]
    refine ⟨by omega, ?_⟩
    have hsum : ∀ j, j ≤ T - F → 0 ≤ sumTo l F j ∧ sumTo l F j ≤ 512 * j := by
      intro j
      induction j with
      | zero => intro _; simp [sumTo]
      | succ j ih =>
        intro hj
        have h1 := ih (by omega)
        have h2 := hsz (F + j) (by omega)
        simp only [sumTo]; omega
    refine loopT_inv (t := (((0 : Int), (0 : Int)) : Int × Int)) (I := fun (t : Int × Int) H' => ∃ j : Nat, t.2 = (j : Int) ∧ j ≤ T - F ∧ Keeps H H' ∧ t.1 = sumTo l F j) (m := fun (t : Int × Int) _ => Int.toNat (((T - F : Nat) : Int) - t.2)) ?_ ⟨0, rfl, by omega, Keeps.refl H, rfl⟩
    intro t H1 hI it hit
    obtain ⟨t1, t2⟩ := t
    obtain ⟨j, e1, hj, hkk, e2⟩ := hI
    simp only at e1 e2
    subst e1 e2
    unfold darningref4_Merged.l2
    simp only [bcase_eq, decide_eq_true_eq, Int.toNat_natCast, ha, Option.map_some, onPtr_mk]
    by_cases hlt : (j : Int) < ((T - F : Nat) : Int)
    · rw [if_pos hlt]
      refine ⟨by omega, ?_⟩
      have hFj : F + j < l.length := by omega
      have hrow : AH.row? H1 (Addr.add (Addr.add ⟨b, o, none⟩ (F * 3)) (j * 3)) 3 = some (bkV (bkAt l (F + j))) := by
        have := (hcells (F + j) _ (bkAt_get hFj)).1
        rw [addr_add] at this
        rw [addr_add, addr_add, show o + F * 3 + j * 3 = o + (F + j) * 3 by omega, ← this]
        simp only [AH.row?, hkk.2 b hb]
      rw [ldA_some hrow]
      have hq := hsz _ hFj
      have hs1 := hsum j hj
      have hsS : sumTo l F (j + 1) = sumTo l F j + (bkAt l (F + j)).2.1 := rfl
      generalize bkAt l (F + j) = q at *
      refine new_row (n := 3) rfl (bkV_len q) (bkV_ok q) ?_
      have hBk : BkAt (H1.push ⟨bkV q, .rw, 0⟩) H1.size q := BkAt.new
      have hk2 : Keeps H (H1.push ⟨bkV q, .rw, 0⟩) := hkk.push _
      generalize H1.push ⟨bkV q, .rw, 0⟩ = H2 at *
      rw [hBk.c1, elI_some, wrap_i64 (n := sumTo l F j + q.2.1) (by omega) (by omega), wrap_i64 (n := (j : Int) + 1) (by omega) (by omega)]
      exact hit _ _ ⟨j + 1, by simp, by omega, hk2, hsS.symm⟩ (by simp only; omega)
    · rw [if_neg hlt]
      have : j = T - F := by omega
      subst this
      have hFl : F < l.length := by omega
      unfold darningref4_Merged.j1
      simp only [hr.1, ha, onPtr_mk, Option.map_some, Int.toNat_natCast]
      refine ⟨by omega, by omega, ?_⟩
      have c0 := cells_keep' hkk hb _ (hcell F hFl 0 _ rfl)
      rw [c0, elI_some]
      refine ⟨rfl, ?_⟩
      generalize hqF : bkAt l F = qF at *
      generalize sumTo l F (T - F) = sm at *
      rw [newC_eq]
      have e1 : [Value.int .i64 qF.1, Value.int .i64 sm, Value.bool false] = bkV (qF.1, sm, false) := rfl
      rw [e1]
      have hk1 : Keeps H (H1.push ⟨bkV (qF.1, sm, false), .rw, 3⟩) := hkk.push _
      have g1 : (H1.push ⟨bkV (qF.1, sm, false), .rw, 3⟩).get H1.size = ⟨bkV (qF.1, sm, false), .rw, 3⟩ := by rw [push_get, if_pos rfl]
      have s1 : H1.size < (H1.push ⟨bkV (qF.1, sm, false), .rw, 3⟩).size := by simp [push_size]
      generalize H1.push ⟨bkV (qF.1, sm, false), .rw, 3⟩ = H2 at *
      have rt := rows_takeZ (hr.keep hk1) (k := F) (by omega)
      rw [ha] at rt
      refine append_list (H0 := H2) (B := H2.size) (l := []) bkV_len bkV_ok (.inl ⟨rfl, rfl⟩) rt (Nat.le_refl _) (Nat.le_refl _) (Keeps.refl H2) (by simp [lim]; omega) ?_
      intro s83 H83 hO83 hk83 _ _
      refine ⟨cells_keep' (hk1.trans hk83) hb _ (hqF ▸ hcell F hFl 0 _ rfl), ?_⟩
      have r60 : Abs.Rows H83 ⟨some ⟨H1.size, 0, none⟩, 1, 1⟩ 3 bkV [(qF.1, sm, false)] := one_rows bkV_len bkV_ok (by have := hk83.1; omega) (by rw [hk83.2 _ s1, g1])
      refine append_list (H0 := H2) (B := H2.size) bkV_len bkV_ok hO83 r60 (Nat.le_refl _) hk83.1 hk83 (by simp [lim]; omega) ?_
      intro s92 H92 hO92 hk92 _ _
      refine ⟨by omega, ?_⟩
      have rd := rows_dropZ (hr.keep (hk1.trans hk92)) (k := T) hT
      rw [hr.1, ha, Option.map_some] at rd
      refine append_list (H0 := H2) (B := H2.size) bkV_len bkV_ok hO92 rd (Nat.le_refl _) hk92.1 hk92 (by simp [lim]; omega) ?_
      intro s97 H97 hO97 hk97 _ _
      rw [List.nil_append] at hO97
      refine hk _ _ (hk1.trans hk97) (own_base hO97 (by have := hk1.1; omega))
  have hF : mFrom l i ≤ i := by unfold mFrom; split <;> omega
  have hF2 : i ≤ mFrom l i + 1 := by unfold mFrom; split <;> omega
  have hT : i < mTo l i ∧ mTo l i ≤ i + 2 ∧ mTo l i ≤ l.length := by unfold mTo; split <;> omega
  have fin := j3 (mFrom l i) (mTo l i) (by omega) hT.2.2 (by omega) h
  have j5 : darningref4_Merged.j5 x0 (i : Int) k H (mFrom l i : Nat) := by
    unfold darningref4_Merged.j5
    simp only [bcase_eq, decide_eq_true_eq, hr.1, ha, onPtr_mk, hw1, Int.toNat_natCast]
    have j4 : ∀ x : Bool, (x = true ↔ (i + 1 < l.length ∧ (bkAt l (i + 1)).2.2 = false)) → darningref4_Merged.j4 x0 (i : Int) k H (mFrom l i : Nat) x := by
      intro x hx
      unfold darningref4_Merged.j4
      rw [hw1, hw2, bcase_eq]
      unfold mTo at fin
      by_cases hx' : x = true
      · rw [if_pos hx']; rw [if_pos (hx.1 hx')] at fin; exact fin
      · rw [if_neg hx']; rw [if_neg (fun hh => hx' (hx.2 hh))] at fin; exact fin
    by_cases hc : ((i + 1 : Nat) : Int) < (l.length : Int)
    · rw [if_pos hc]
      refine ⟨by omega, ?_⟩
      rw [hcell (i + 1) (by omega) 2 _ rfl, elB_some]
      refine j4 _ ?_
      simp
      omega
    · rw [if_neg hc]
      exact j4 false ⟨fun hh => (by cases hh), fun hh => by omega⟩
  have j6 : ∀ x : Bool, (x = true ↔ (0 < i ∧ (bkAt l (i - 1)).2.2 = false)) → darningref4_Merged.j6 x0 (i : Int) k H x := by
    intro x hx
    unfold darningref4_Merged.j6
    rw [bcase_eq]
    unfold mFrom at j5
    by_cases hx' : x = true
    · rw [if_pos hx']
      have := hx.1 hx'
      rw [if_pos this] at j5
      rw [wrap_i64 (n := (i : Int) - 1) (by omega) (by omega), show (i : Int) - 1 = ((i - 1 : Nat) : Int) by omega]
      exact j5
    · rw [if_neg hx']
      rw [if_neg (fun hh => hx' (hx.2 hh))] at j5
      exact j5
  simp only [bcase_eq, decide_eq_true_eq, hr.1, ha, onPtr_mk]
  by_cases hc : (i : Int) > 0
  · rw [if_pos hc, wrap_i64 (n := (i : Int) - 1) (by omega) (by omega), show (i : Int) - 1 = ((i - 1 : Nat) : Int) by omega, Int.toNat_natCast]
    refine ⟨by omega, ?_⟩
    rw [hcell (i - 1) (by omega) 2 _ rfl, elB_some]
    refine j6 _ ?_
    simp
    omega
  · rw [if_neg hc]
    exact j6 false ⟨fun hh => (by cases hh), fun hh => by omega⟩
end
end Go.Proofs.Ytgddfhnochcolaa
