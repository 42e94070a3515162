import Derived.Test.YtgddfhnochcolaaI8
set_option linter.all false
set_option linter.all false
namespace Go.Proofs.Ytgddfhnochcolaa
open Go Go.Abs

/-! ### lines of edits -/

def insS (n : Int) : List Int → List Int
  | [] => [n]
  | a :: r => if a < n then a :: insS n r else if a = n then a :: r else n :: a :: r
def posN (n : Int) : List Int → Nat
  | [] => 0
  | a :: r => if a < n then posN n r + 1 else 0
def eStep (out : List Int) (e : Int × Int) : List Int := if e.1 < 0 then out else insS (e.1 / 8) out
def eLines (l : List (Int × Int)) : List Int := l.foldl eStep []

theorem posN_le (n : Int) : ∀ l : List Int, posN n l ≤ l.length := by
  intro l
  induction l with
  | nil => exact Nat.le_refl _
  | cons a r ih => simp only [posN, List.length_cons]; split <;> omega
theorem insS_eq (n : Int) : ∀ out : List Int, insS n out = if posN n out = out.length ∨ out.getD (posN n out) 0 ≠ n then out.take (posN n out) ++ [n] ++ out.drop (posN n out) else out := by
  intro out
  induction out with
  | nil => simp [insS, posN]
  | cons a r ih =>
    by_cases h1 : a < n
    · have e : posN n (a :: r) = posN n r + 1 := by simp only [posN]; rw [if_pos h1]
      have e2 : insS n (a :: r) = a :: insS n r := by simp only [insS]; rw [if_pos h1]
      simp only [e, e2, ih, List.length_cons, List.getD_cons_succ, List.take_succ_cons, List.drop_succ_cons, Nat.add_right_cancel_iff]
      split <;> rfl
    · have e : posN n (a :: r) = 0 := by simp only [posN]; rw [if_neg h1]
      have e2 : insS n (a :: r) = if a = n then a :: r else n :: a :: r := by simp only [insS]; rw [if_neg h1]
      simp only [e, e2]
      by_cases h2 : a = n
      · subst h2; rw [if_pos rfl, if_neg (by simp)]
      · rw [if_neg h2, if_pos (.inr (by simpa using h2))]; rfl
theorem insS_mem (n : Int) : ∀ out : List Int, ∀ x, x ∈ insS n out ↔ x = n ∨ x ∈ out := by
  intro out
  induction out with
  | nil => intro x; simp [insS]
  | cons a r ih =>
    intro x
    simp only [insS]
    split
    · rw [List.mem_cons, ih, List.mem_cons]
      constructor
      · rintro (h | h | h)
        · exact .inr (.inl h)
        · exact .inl h
        · exact .inr (.inr h)
      · rintro (h | h | h)
        · exact .inr (.inl h)
        · exact .inl h
        · exact .inr (.inr h)
    · split
      · rename_i h2; subst h2; simp
      · simp
theorem insS_sorted (n : Int) : ∀ out : List Int, out.Pairwise (· < ·) → (insS n out).Pairwise (· < ·) := by
  intro out
  induction out with
  | nil => intro _; simp [insS]
  | cons a r ih =>
    intro h
    rw [List.pairwise_cons] at h
    simp only [insS]
    split
    · rename_i h1
      rw [List.pairwise_cons]
      refine ⟨fun x hx => ?_, ih h.2⟩
      rw [insS_mem] at hx
      rcases hx with rfl | hx
      · exact h1
      · exact h.1 x hx
    · rename_i h1
      split
      · rw [List.pairwise_cons]; exact h
      · rename_i h2
        rw [List.pairwise_cons, List.pairwise_cons]
        refine ⟨fun x hx => ?_, h⟩
        rw [List.mem_cons] at hx
        rcases hx with rfl | hx
        · omega
        · have := h.1 x hx; omega
theorem insS_len (n : Int) (out : List Int) : (insS n out).length ≤ out.length + 1 := by
  rw [insS_eq]
  have := posN_le n out
  split
  · simp; omega
  · omega
theorem eFold (l : List (Int × Int)) : ∀ out : List Int, out.Pairwise (· < ·) → (l.foldl eStep out).Pairwise (· < ·) ∧ (∀ x, x ∈ l.foldl eStep out → x ∈ out ∨ ∃ e ∈ l, 0 ≤ e.1 ∧ x = e.1 / 8) ∧ (l.foldl eStep out).length ≤ out.length + l.length := by
  induction l with
  | nil => intro out h; exact ⟨h, fun x hx => .inl hx, by simp⟩
  | cons e r ih =>
    intro out h
    simp only [List.foldl_cons]
    have hs : (eStep out e).Pairwise (· < ·) := by
      unfold eStep; split
      · exact h
      · exact insS_sorted _ _ h
    obtain ⟨h1, h2, h3⟩ := ih _ hs
    refine ⟨h1, fun x hx => ?_, ?_⟩
    · rcases h2 x hx with h | ⟨e', he', h⟩
      · unfold eStep at h
        split at h
        · exact .inl h
        · rename_i hn
          rw [insS_mem] at h
          rcases h with h | h
          · exact .inr ⟨e, by simp, by omega, h⟩
          · exact .inl h
      · exact .inr ⟨e', by simp [he'], h⟩
    · have : (eStep out e).length ≤ out.length + 1 := by
        unfold eStep; split
        · omega
        · exact insS_len _ _
      simp only [List.length_cons]; omega
theorem sorted_len {hi : Int} : ∀ {l : List Int} {lo : Int}, l.Pairwise (· < ·) → (∀ x ∈ l, lo ≤ x ∧ x ≤ hi) → lo ≤ hi + 1 → (l.length : Int) ≤ hi - lo + 1 := by
  intro l
  induction l with
  | nil => intro lo _ _ h; simp; omega
  | cons a r ih =>
    intro lo hs hb h
    rw [List.pairwise_cons] at hs
    have ha := hb a (by simp)
    have := ih (lo := a + 1) hs.2 (fun x hx => ⟨by have := hs.1 x hx; omega, (hb x (by simp [hx])).2⟩) (by omega)
    simp only [List.length_cons]; omega
theorem eLines_len {l : List (Int × Int)} {lo hi : Int} (h : ∀ e ∈ l, lo ≤ e.1 ∧ e.1 ≤ hi) (hlh : lo ≤ hi) : ((eLines l).length : Int) ≤ hi / 8 - lo / 8 + 1 := by
  obtain ⟨h1, h2, _⟩ := eFold l [] List.Pairwise.nil
  refine sorted_len h1 (fun x hx => ?_) (by omega)
  rcases h2 x hx with hx | ⟨e, he, _, rfl⟩
  · cases hx
  · have := h e he; omega

section
variable {H : AH}

theorem darningref4_EditLines.s {x0 : Sl} {l : List (Int × Int)} {k : Sl → AH → Prop} (hr : Abs.Rows H x0 2 eU l) (hl : l.length ≤ 1000000) (hi : ∀ e ∈ l, isI e.1)
    (h : ∀ s H', Keeps H H' → Own H.size H' s 1 iV (eLines l) → k s H') : darningref4_EditLines x0 H k := by
  refine darningref4_EditLines.link ?_
  unfold darningref4_EditLines.b
  refine loopT_inv (t := ((⟨none, 0, 0⟩, (0 : Int)) : Sl × Int)) (I := fun (t : Sl × Int) H' => ∃ j : Nat, t.2 = (j : Int) ∧ j ≤ l.length ∧ Keeps H H' ∧ Own H.size H' t.1 1 iV (eLines (l.take j))) (m := fun (t : Sl × Int) _ => Int.toNat ((l.length : Int) - t.2)) ?_ ⟨0, rfl, by omega, Keeps.refl H, .inl ⟨rfl, rfl⟩⟩
  intro t H1 hI it hit
  obtain ⟨s, t2⟩ := t
  obtain ⟨j, e1, hj, hk, hO⟩ := hI
  simp only at e1 hO
  subst e1
  unfold darningref4_EditLines.l5
  simp only [bcase_eq, decide_eq_true_eq, hr.1]
  by_cases hlt : (j : Int) < (l.length : Int)
  · rw [if_pos hlt]
    have hj' : j < l.length := by omega
    obtain ⟨b, o, ha, hb, hrow⟩ := (hr.keep hk).at hj'
    refine ⟨by omega, ?_⟩
    rw [ha, onPtr_mk, Int.toNat_natCast, ldA_some hrow]
    have htk : eLines (l.take (j + 1)) = eStep (eLines (l.take j)) l[j] := by
      unfold eLines
      rw [List.take_succ, List.getElem?_eq_getElem hj', Option.toList_some, List.foldl_append]; rfl
    have hlen : (eLines (l.take j)).length ≤ j := by
      have := (eFold (l.take j) [] List.Pairwise.nil).2.2
      simp at this
      unfold eLines; omega
    have hxi := hi _ (List.getElem_mem hj')
    unfold isI at hxi
    generalize eLines (l.take j) = out at *
    generalize l[j] = x at *
    have hwj : IntKind.wrap .i64 ((j : Int) + 1) = ((j + 1 : Nat) : Int) := by rw [wrap_i64 (by omega) (by omega)]; omega
    refine new_row (n := 2) rfl (eU_len x) (eU_ok x) ?_
    simp only [ed_0, elI_some]
    have hk2 : Keeps H (H1.push ⟨eU x, .rw, 0⟩) := hk.push _
    have hO2 : Own H.size (H1.push ⟨eU x, .rw, 0⟩) s 1 iV out := hO.keep (by simp [push_size]) (fun b _ hb => push_get_ne (by omega))
    generalize H1.push ⟨eU x, .rw, 0⟩ = H2 at *
    have next : ∀ s' H', Keeps H H' → Own H.size H' s' 1 iV (eStep out x) → it (s', IntKind.wrap .i64 ((j : Int) + 1)) H' := by
      intro s' H' hk' hO'
      rw [← htk] at hO'
      rw [hwj]
      exact hit _ _ ⟨j + 1, rfl, by omega, hk', hO'⟩ (by simp only; omega)
    unfold eStep at next
    by_cases hneg : x.1 < 0
    · rw [if_pos hneg]
      rw [if_pos hneg] at next
      exact next _ _ hk2 hO2
    rw [if_neg hneg]
    rw [if_neg hneg] at next
    refine ⟨by decide, ?_⟩
    have hdiv : IntKind.wrap .i64 (Int.tdiv x.1 8) = x.1 / 8 := by rw [Int.tdiv_eq_ediv_of_nonneg (by omega), wrap_i64 (by omega) (by omega)]
    rw [insS_eq] at next
    have hsn := own_n hO2
    have hposle := posN_le (x.1 / 8) out
    have hcell : ∀ i (hi : i < out.length), ∃ b, s.a = some ⟨b, 0, none⟩ ∧ AH.cell? H2 (Addr.add ⟨b, 0, none⟩ (i * 1)) = some (.int .i64 (out.getD i 0)) := by
      intro i hi'
      have hg : out[i]? = some (out.getD i 0) := by rw [List.getD_eq_getElem?_getD, List.getElem?_eq_getElem hi']; rfl
      obtain ⟨b, ha, _, _, hc⟩ := hO2.cell (fun _ => rfl) hg (j := 0) (by omega)
      exact ⟨b, ha, by rw [addr_add, Nat.zero_add]; exact hc⟩
    refine loopT_inv (t := (0 : Int)) (I := fun (t : Int) H' => ∃ i : Nat, t = (i : Int) ∧ i ≤ out.length ∧ H' = H2 ∧ posN (x.1 / 8) out = i + posN (x.1 / 8) (out.drop i)) (m := fun (t : Int) _ => Int.toNat ((out.length : Int) - t)) ?_ ⟨0, rfl, by omega, rfl, by simp⟩
    intro t H' hI it2 hit2
    obtain ⟨i, rfl, hi1, rfl, hp⟩ := hI
    have hwi : IntKind.wrap .i64 ((i : Int) + 1) = ((i + 1 : Nat) : Int) := by rw [wrap_i64 (by omega) (by omega)]; omega
    have j2 : i = posN (x.1 / 8) out → darningref4_EditLines.j2 (s, (j : Int)) it x.1 (i : Int) H' := by
      intro hip
      have j1 : ∀ v : Bool, (v = true ↔ (i = out.length ∨ out.getD i 0 ≠ x.1 / 8)) → darningref4_EditLines.j1 (s, (j : Int)) it x.1 (i : Int) H' v := by
        intro v hv
        unfold darningref4_EditLines.j1
        simp only [hdiv, hsn, Int.toNat_natCast]
        rw [← hip] at next
        by_cases hv' : v = true
        · rw [if_pos (hv.1 hv')] at next
          rw [hv', bcase_true]
          refine ⟨by omega, ?_⟩
          rw [newC_eq]
          have e1 : [Value.int .i64 (x.1 / 8)] = iV (x.1 / 8) := rfl
          rw [e1]
          have hk3 : Keeps H (H'.push ⟨iV (x.1 / 8), .rw, 1⟩) := hk2.push _
          have hR := (hO2.rows (fun _ => rfl) (fun _ => rfl)).keep ((Keeps.refl H').push ⟨iV (x.1 / 8), .rw, 1⟩)
          have g1 : (H'.push ⟨iV (x.1 / 8), .rw, 1⟩).get H'.size = ⟨iV (x.1 / 8), .rw, 1⟩ := by rw [push_get, if_pos rfl]
          have s1 : H'.size < (H'.push ⟨iV (x.1 / 8), .rw, 1⟩).size := by simp [push_size]
          generalize H'.push ⟨iV (x.1 / 8), .rw, 1⟩ = H3 at *
          refine ⟨by omega, ?_⟩
          refine append_list (H0 := H3) (B := H3.size) (l := []) (f := iV) (fun _ => rfl) (fun _ => rfl) (.inl ⟨rfl, rfl⟩) (rows_takeZ hR hi1) (Nat.le_refl _) (Nat.le_refl _) (Keeps.refl H3) (by simp [lim]; omega) ?_
          intro s49 H49 hO49 hk49 _ _
          have r51 : Abs.Rows H49 ⟨some ⟨H'.size, 0, none⟩, 1, 1⟩ 1 iV [x.1 / 8] := one_rows (fun _ => rfl) (fun _ => rfl) (by have := hk49.1; omega) (by rw [hk49.2 _ s1, g1])
          refine append_list (H0 := H3) (B := H3.size) (f := iV) (fun _ => rfl) (fun _ => rfl) hO49 r51 (Nat.le_refl _) hk49.1 hk49 (by simp [lim]; omega) ?_
          intro s52 H52 hO52 hk52 _ _
          have rd := rows_dropZ (hR.keep hk52) (k := i) hi1
          rw [hsn] at rd
          refine append_list (H0 := H3) (B := H3.size) (f := iV) (fun _ => rfl) (fun _ => rfl) hO52 rd (Nat.le_refl _) hk52.1 hk52 (by simp [lim]; omega) ?_
          intro s56 H56 hO56 hk56 _ _
          rw [List.nil_append] at hO56
          exact next _ _ (hk3.trans hk56) (own_base hO56 hk3.1)
        · rw [if_neg (fun hh => hv' (hv.2 hh))] at next
          have : v = false := by simpa using hv'
          rw [this, bcase_false]
          exact next _ _ hk2 hO2
      unfold darningref4_EditLines.j2
      simp only [bcase_eq, hsn, hdiv]
      by_cases hil : i = out.length
      · rw [if_pos (by simp; omega)]
        exact j1 true ⟨fun _ => .inl hil, fun _ => rfl⟩
      · rw [if_neg (by simp; omega)]
        obtain ⟨b1, ha1, hc1⟩ := hcell i (by omega)
        refine ⟨by omega, ?_⟩
        rw [ha1, onPtr_mk, Int.toNat_natCast, hc1, elI_some]
        refine j1 _ ?_
        simp
        omega
    unfold darningref4_EditLines.l4
    simp only [bcase_eq, decide_eq_true_eq, hsn, hdiv]
    have j3 : ∀ v : Bool, (v = true ↔ (i < out.length ∧ out.getD i 0 < x.1 / 8)) → darningref4_EditLines.j3 (s, (j : Int)) it x.1 (i : Int) it2 H' v := by
      intro v hv
      unfold darningref4_EditLines.j3
      rw [bcase_eq]
      by_cases hv' : v = true
      · obtain ⟨q1, q2⟩ := hv.1 hv'
        rw [if_pos hv', hwi]
        refine hit2 _ _ ⟨i + 1, rfl, by omega, rfl, ?_⟩ (by omega)
        rw [drop_cons q1] at hp
        have hg : out[i] = out.getD i 0 := by rw [List.getD_eq_getElem?_getD, List.getElem?_eq_getElem q1]; rfl
        simp only [posN] at hp
        rw [if_pos (by rw [hg]; exact q2)] at hp
        omega
      · rw [if_neg hv']
        refine j2 ?_
        by_cases q1 : i < out.length
        · rw [drop_cons q1] at hp
          have hg : out[i] = out.getD i 0 := by rw [List.getD_eq_getElem?_getD, List.getElem?_eq_getElem q1]; rfl
          simp only [posN] at hp
          rw [if_neg (by rw [hg]; exact fun hh => hv' (hv.2 ⟨q1, hh⟩))] at hp
          omega
        · rw [List.drop_eq_nil_of_le (by omega)] at hp
          simp only [posN] at hp
          omega
    by_cases q1 : (i : Int) < (out.length : Int)
    · rw [if_pos q1]
      obtain ⟨b1, ha1, hc1⟩ := hcell i (by omega)
      refine ⟨by omega, ?_⟩
      rw [ha1, onPtr_mk, Int.toNat_natCast, hc1, elI_some]
      refine j3 _ ?_
      rw [decide_eq_true_eq]
      exact ⟨fun hh => ⟨by omega, hh⟩, fun hh => hh.2⟩
    · rw [if_neg q1]
      exact j3 false ⟨fun hh => (by cases hh), fun hh => by omega⟩
  · rw [if_neg hlt]
    have : j = l.length := by omega
    subst this
    rw [List.take_length] at hO
    exact h _ _ hk hO
end
end Go.Proofs.Ytgddfhnochcolaa
