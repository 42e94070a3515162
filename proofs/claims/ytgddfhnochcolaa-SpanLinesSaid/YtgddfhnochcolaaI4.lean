import Derived.Test.YtgddfhnochcolaaI3
set_option linter.all false
set_option linter.all false
namespace Go.Proofs.Ytgddfhnochcolaa
open Go Go.Abs

/-! ### Is, Within -/

def isN (off : Int) : List Bk → Nat → Int
  | [], _ => -1
  | b :: r, i => if b.2.2 = true ∧ offN b.1 = off then (i : Int) else isN off r (i + 1)
theorem isN_cases (off : Int) : ∀ (l : List Bk) (i : Nat), isN off l i = -1 ∨ ∃ j : Nat, isN off l i = ((i + j : Nat) : Int) ∧ j < l.length ∧ (bkAt l j).2.2 = true ∧ offN (bkAt l j).1 = off := by
  intro l
  induction l with
  | nil => intro i; exact .inl rfl
  | cons b r ih =>
    intro i
    unfold isN
    split
    · rename_i h; exact .inr ⟨0, rfl, by simp, h.1, h.2⟩
    · rcases ih (i + 1) with h | ⟨j, h1, h2, h3⟩
      · exact .inl h
      · exact .inr ⟨j + 1, by rw [h1]; congr 1; omega, by simpa using h2, h3⟩
def inB (off n : Int) (b : Bk) : Prop := b.2.2 = true ∧ offN b.1 ≤ off ∧ off ≤ (b.1 + b.2.1) * 8 ∧ n ≤ (b.1 + b.2.1) * 8 - off
def withinN (l : List Bk) (off n : Int) : Prop := 0 ≤ n ∧ n ≤ 448 ∧ ∃ b ∈ l, inB off n b
theorem offN_range (pt : Int) : 0 ≤ offN pt ∧ offN pt ≤ 4104 := by unfold offN; split <;> omega

section
variable {H : AH}

theorem darningref4_Is.s {x0 : Sl} {off : Int} {l : List Bk} {k : Int → AH → Prop} (hr : Abs.Rows H x0 3 bkV l) (hl : l.length ≤ 1000) (h : k (isN off l 0) H) : darningref4_Is x0 off H k := by
  refine gcI (j := .i64) (isN off l 0) (darningref4_Is.link ?_) h
  unfold darningref4_Is.b
  refine loopT_inv (t := (((0 : Int), (0 : Int)) : Int × Int)) (I := fun (t : Int × Int) H' => ∃ i : Nat, t.2 = (i : Int) ∧ i ≤ l.length ∧ Keeps H H' ∧ isN off l 0 = isN off (l.drop i) i) (m := fun (t : Int × Int) _ => Int.toNat ((l.length : Int) - t.2)) ?_ ⟨0, rfl, by omega, Keeps.refl H, rfl⟩
  intro t H1 hI it hit
  obtain ⟨t1, t2⟩ := t
  obtain ⟨i, e1, hi, hk, he⟩ := hI
  simp only at e1
  subst e1
  unfold darningref4_Is.l1
  simp only [bcase_eq, decide_eq_true_eq, hr.1]
  by_cases hlt : (i : Int) < (l.length : Int)
  · rw [if_pos hlt]
    have hi' : i < l.length := by omega
    obtain ⟨b, o, ha, hb, hcells⟩ := rows_cells (hr.keep hk) (by omega)
    refine ⟨by omega, ?_⟩
    obtain ⟨hrow, _⟩ := hcells i l[i] (List.getElem?_eq_getElem hi')
    rw [ha, onPtr_mk, Int.toNat_natCast, ldA_some hrow]
    rw [drop_cons hi'] at he
    simp only [isN] at he
    generalize l[i] = q at *
    refine new_row (n := 3) rfl (bkV_len q) (bkV_ok q) ?_
    have hB : BkAt (H1.push ⟨bkV q, .rw, 0⟩) H1.size q := BkAt.new
    have hk2 : Keeps H (H1.push ⟨bkV q, .rw, 0⟩) := hk.push _
    generalize H1.push ⟨bkV q, .rw, 0⟩ = H2 at *
    simp only [hB.c2, elB_some]
    rw [ldA_some hB.row, wrap_i64 (n := (i : Int) + 1) (by omega) (by omega)]
    have next : ¬ (q.2.2 = true ∧ offN q.1 = off) → it (t1, (i : Int) + 1) H2 := fun hn => by
      rw [if_neg hn] at he
      exact hit _ _ ⟨i + 1, by simp, by omega, hk2, he⟩ (by simp only; omega)
    by_cases hu : q.2.2 = true
    · rw [if_pos hu]
      refine darningref4_Off.s ?_
      by_cases ho : offN q.1 = off
      · rw [if_pos (by simpa using ho)]
        rw [if_pos ⟨hu, ho⟩] at he
        exact ⟨hk2, he.symm⟩
      · rw [if_neg (by simpa using ho)]
        exact next (fun hh => ho hh.2)
    · rw [if_neg hu]; exact next (fun hh => hu hh.1)
  · rw [if_neg hlt]
    have : i = l.length := by omega
    subst this
    rw [List.drop_length] at he
    exact ⟨hk, he.symm⟩

theorem darningref4_Within.s {x0 : Sl} {off n : Int} {l : List Bk} {k : Bool → AH → Prop} (hr : Abs.Rows H x0 3 bkV l) (hl : l.length ≤ 1000) (hok : ∀ b ∈ l, 0 ≤ b.1 ∧ b.1 ≤ 100000 ∧ 0 ≤ b.2.1 ∧ b.2.1 ≤ 100000)
    (h1 : withinN l off n → k true H) (h0 : ¬ withinN l off n → k false H) : darningref4_Within x0 off n H k := by
  have main : ∀ v : Bool, (v = true ↔ withinN l off n) → darningref4_Within x0 off n H k := by
    intro v hv
    refine gcB v (darningref4_Within.link ?_) (by cases v; exact h0 (fun hh => by have := hv.2 hh; cases this); exact h1 (hv.1 rfl))
    unfold darningref4_Within.b darningref4_Within.j2
    simp only [bcase_eq, decide_eq_true_eq]
    have hf : ¬ withinN l off n → v = false := fun hh => by cases v; rfl; exact absurd (hv.1 rfl) hh
    by_cases c1 : n < 0
    · rw [if_pos c1, bcase_true]; exact ⟨Keeps.refl H, (hf (fun hh => by have := hh.1; omega)).symm⟩
    rw [if_neg c1]
    by_cases c2 : n > 448
    · rw [if_pos c2]; exact ⟨Keeps.refl H, (hf (fun hh => by have := hh.2.1; omega)).symm⟩
    rw [if_neg c2]
    refine loopT_inv (t := ((false, (0 : Int)) : Bool × Int)) (I := fun (t : Bool × Int) H' => ∃ i : Nat, t.2 = (i : Int) ∧ i ≤ l.length ∧ Keeps H H' ∧ ∀ j, j < i → ¬ inB off n (bkAt l j)) (m := fun (t : Bool × Int) _ => Int.toNat ((l.length : Int) - t.2)) ?_ ⟨0, rfl, by omega, Keeps.refl H, fun j hj => by omega⟩
    intro t H1 hI it hit
    obtain ⟨t1, t2⟩ := t
    obtain ⟨i, e1, hi, hk, he⟩ := hI
    simp only at e1
    subst e1
    unfold darningref4_Within.l1
    simp only [bcase_eq, decide_eq_true_eq, hr.1]
    by_cases hlt : (i : Int) < (l.length : Int)
    · rw [if_pos hlt]
      have hi' : i < l.length := by omega
      obtain ⟨b, o, ha, hb, hcells⟩ := rows_cells (hr.keep hk) (by omega)
      refine ⟨by omega, ?_⟩
      have hgi := bkAt_get hi'
      obtain ⟨hrow, _⟩ := hcells i _ hgi
      have hq := hok _ (List.mem_of_getElem? hgi)
      have hmem := List.mem_of_getElem? hgi
      rw [ha, onPtr_mk, Int.toNat_natCast, ldA_some hrow]
      generalize hqq : bkAt l i = q at *
      refine new_row (n := 3) rfl (bkV_len q) (bkV_ok q) ?_
      have hB : BkAt (H1.push ⟨bkV q, .rw, 0⟩) H1.size q := BkAt.new
      have hk2 : Keeps H (H1.push ⟨bkV q, .rw, 0⟩) := hk.push _
      generalize H1.push ⟨bkV q, .rw, 0⟩ = H2 at *
      simp only [hB.c0, hB.c1, hB.c2, elB_some, elI_some]
      rw [ldA_some hB.row, wrap_i64 (n := (i : Int) + 1) (by omega) (by omega), wrap_i64 (n := q.1 + q.2.1) (by omega) (by omega), wrap_i64 (n := (q.1 + q.2.1) * 8) (by omega) (by omega)]
      have next : ¬ inB off n q → it (t1, (i : Int) + 1) H2 := fun hn => by
        refine hit _ _ ⟨i + 1, by simp, by omega, hk2, fun j hj => ?_⟩ (by simp only; omega)
        by_cases hji : j = i
        · subst hji; rw [hqq]; exact hn
        · exact he j (by omega)
      by_cases hu : q.2.2 = true
      · rw [if_pos hu]
        refine darningref4_Off.s ?_
        have hor := offN_range q.1
        by_cases c3 : off ≥ offN q.1
        · rw [if_pos c3]
          by_cases c4 : off ≤ (q.1 + q.2.1) * 8
          · rw [if_pos c4, wrap_i64 (n := (q.1 + q.2.1) * 8 - off) (by omega) (by omega)]
            by_cases c5 : n ≤ (q.1 + q.2.1) * 8 - off
            · rw [if_pos c5]
              exact ⟨hk2, (hv.2 ⟨by omega, by omega, q, hmem, hu, c3, c4, c5⟩).symm⟩
            · rw [if_neg c5]; exact next (fun hh => c5 hh.2.2.2)
          · rw [if_neg c4]; exact next (fun hh => c4 hh.2.2.1)
        · rw [if_neg c3]; exact next (fun hh => c3 hh.2.1)
      · rw [if_neg hu]; exact next (fun hh => hu hh.1)
    · rw [if_neg hlt]
      have : i = l.length := by omega
      subst this
      refine ⟨hk, (hf ?_).symm⟩
      rintro ⟨_, _, b, hb, hin⟩
      obtain ⟨j, hj, e⟩ := List.getElem_of_mem hb
      have hg := bkAt_get hj
      rw [List.getElem?_eq_getElem hj] at hg
      injection hg with hg
      exact he j hj (by rw [← hg, e]; exact hin)
  by_cases hw : withinN l off n
  · exact main true ⟨fun _ => hw, fun _ => rfl⟩
  · exact main false ⟨fun hh => (by cases hh), fun hh => absurd hh hw⟩
end
end Go.Proofs.Ytgddfhnochcolaa
