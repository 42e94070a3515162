import Derived.Test.YtgddfhnochcolaaQ1
import Derived.Test.YtgddfhnochcolaaS10
import Derived.Test.YtgddfhnochcolaaE8
set_option linter.all false
set_option linter.all false
namespace Go.Proofs.Ytgddfhnochcolaa
open Go Go.Abs

structure edOK (_ : AH) (x : Int × Int) : Prop where
  i : isI x.1
  u : isU x.2

/-- The lines of edits, as they come. -/
def linesR (l : List (Int × Int)) : List Int := l.filterMap fun e => if 0 ≤ e.1 then some (e.1 / 8) else none
theorem linesR_mem {l : List (Int × Int)} {x : Int} : x ∈ linesR l ↔ ∃ e ∈ l, 0 ≤ e.1 ∧ x = e.1 / 8 := by
  unfold linesR
  rw [List.mem_filterMap]
  constructor
  · rintro ⟨e, he, h⟩
    split at h
    · injection h with h; exact ⟨e, he, by assumption, h.symm⟩
    · cases h
  · rintro ⟨e, he, h0, rfl⟩
    exact ⟨e, he, by rw [if_pos h0]⟩
theorem eFold_mem : ∀ (l : List (Int × Int)) (out : List Int) (x : Int), x ∈ l.foldl eStep out ↔ x ∈ out ∨ ∃ e ∈ l, 0 ≤ e.1 ∧ x = e.1 / 8 := by
  intro l
  induction l with
  | nil => intro out x; simp
  | cons e r ih =>
    intro out x
    rw [List.foldl_cons, ih]
    have : x ∈ eStep out e ↔ x ∈ out ∨ (0 ≤ e.1 ∧ x = e.1 / 8) := by
      unfold eStep
      split
      · constructor
        · intro h; exact .inl h
        · rintro (h | h)
          · exact h
          · omega
      · rw [insS_mem]
        constructor
        · rintro (h | h)
          · exact .inr ⟨by omega, h⟩
          · exact .inl h
        · rintro (h | h)
          · exact .inr h
          · exact .inl h.2
    rw [this]
    constructor
    · rintro ((h | h) | ⟨e', he', h⟩)
      · exact .inl h
      · exact .inr ⟨e, by simp, h⟩
      · exact .inr ⟨e', by simp [he'], h⟩
    · rintro (h | ⟨e', he', h⟩)
      · exact .inl (.inl h)
      · rw [List.mem_cons] at he'
        rcases he' with rfl | he'
        · exact .inl (.inr h)
        · exact .inr ⟨e', he', h⟩
theorem eLines_mem {l : List (Int × Int)} {x : Int} : x ∈ eLines l ↔ ∃ e ∈ l, 0 ≤ e.1 ∧ x = e.1 / 8 := by
  unfold eLines
  rw [eFold_mem]; simp
theorem lines_eq (l : List (Int × Int)) : Lib.compact (sortL (linesR l)) = eLines l := by
  obtain ⟨h1, h2⟩ := compact_sorted (linesR l)
  have h3 := (eFold l [] List.Pairwise.nil).1
  refine strict_eq h1 h3 fun x => ?_
  rw [h2, linesR_mem]
  exact eLines_mem.symm

section
variable {H : AH}
theorem span_Lines.s {x0 : Sl} {l : List (Int × Int)} {k : Sl → AH → Prop} (hr : Abs.Rows H x0 2 eU l) (hl : l.length ≤ 1000000) (hi : ∀ e ∈ l, isI e.1)
    (h : ∀ s H', Keeps H H' → Own H.size H' s 1 iV (eLines l) → k s H') : span_Lines x0 H k := by
  refine span_Lines.link ?_
  unfold span_Lines.b
  refine loopT_inv (t := ((⟨none, 0, 0⟩, (0 : Int)) : Sl × Int)) (I := fun (t : Sl × Int) H' => ∃ j : Nat, t.2 = (j : Int) ∧ j ≤ l.length ∧ Keeps H H' ∧ Own H.size H' t.1 1 iV (linesR (l.take j))) (m := fun (t : Sl × Int) _ => Int.toNat ((l.length : Int) - t.2)) ?_ ⟨0, rfl, by omega, Keeps.refl H, .inl ⟨rfl, rfl⟩⟩
  intro t H1 hI it hit
  obtain ⟨s, t2⟩ := t
  obtain ⟨j, e1, hj, hk, hO⟩ := hI
  simp only at e1 hO
  subst e1
  have hlen : ∀ j, (linesR (l.take j)).length ≤ 1000000 := fun j => by
    have := List.length_filterMap_le (fun e : Int × Int => if 0 ≤ e.1 then some (e.1 / 8) else none) (l.take j)
    rw [List.length_take] at this
    unfold linesR; omega
  unfold span_Lines.l2
  simp only [bcase_eq, decide_eq_true_eq, hr.1]
  by_cases hlt : (j : Int) < (l.length : Int)
  rotate_left 1
  · rw [if_neg hlt]
    have : j = l.length := by omega
    subst this
    rw [List.take_length] at hO
    have hlr := hlen l.length
    rw [List.take_length] at hlr
    unfold span_Lines.j1
    have ownlow : ∀ {q : Sl} {B : Nat} {H' : AH} {z : List Int}, Own B H' q 1 iV z → ∀ a, q.a = some a → B ≤ a.block := by
      intro q B H' z hq a ha
      rcases hq with ⟨h0, _⟩ | ⟨b, h0, h1, _⟩
      · rw [h0] at ha; cases ha
      · rw [h0] at ha; injection ha with ha; rw [← ha]; exact h1
    refine slices_Sort_intint.s hO (by omega) ?_
    intro H23 hO23 hz23 hf23
    have hk23 : Keeps H H23 := ⟨by have := hk.1; omega, fun b hb => by rw [hf23 b (by have := hk.1; omega) (fun a ha he => by have := ownlow hO a ha; omega), hk.2 b hb]⟩
    refine slices_Compact_intint.s hO23 (by rw [sortL_len]; omega) ?_
    intro s25 H25 hO25 hz25 hf25
    have hk25 : Keeps H H25 := ⟨by have := hk23.1; omega, fun b hb => by rw [hf25 b (by have := hk23.1; omega) (fun a ha he => by have := ownlow hO23 a ha; omega), hk23.2 b hb]⟩
    rw [lines_eq] at hO25
    exact h _ _ hk25 (own_base hO25 hk23.1)
  rw [if_pos hlt]
  have hj' : j < l.length := by omega
  obtain ⟨b, o, ha, hb, hrow⟩ := (hr.keep hk).at hj'
  refine ⟨by omega, ?_⟩
  rw [ha, onPtr_mk, Int.toNat_natCast, ldA_some hrow]
  have htk : linesR (l.take (j + 1)) = linesR (l.take j) ++ (if 0 ≤ l[j].1 then [l[j].1 / 8] else []) := by
    unfold linesR
    rw [List.take_succ, List.getElem?_eq_getElem hj', List.filterMap_append]
    congr 1
    simp only [Option.toList_some, List.filterMap_cons, List.filterMap_nil]
    split
    · rename_i h0; rw [if_neg]; intro hh; rw [if_pos hh] at h0; cases h0
    · rename_i v h0
      split at h0
      · rename_i hh; rw [if_pos hh]; injection h0 with h0; rw [h0]
      · cases h0
  have hxi := hi _ (List.getElem_mem hj')
  unfold isI at hxi
  have hlj := hlen j
  generalize linesR (l.take j) = out at *
  generalize l[j] = x at *
  have hwj : IntKind.wrap .i64 ((j : Int) + 1) = ((j + 1 : Nat) : Int) := by rw [wrap_i64 (by omega) (by omega)]; omega
  refine new_row (n := 2) rfl (eU_len x) (eU_ok x) ?_
  simp only [ed_0, elI_some]
  have hk2 : Keeps H (H1.push ⟨eU x, .rw, 0⟩) := hk.push _
  have hO2 : Own H.size (H1.push ⟨eU x, .rw, 0⟩) s 1 iV out := hO.keep (by simp [push_size]) (fun b _ hb => push_get_ne (by omega))
  generalize H1.push ⟨eU x, .rw, 0⟩ = H2 at *
  rw [hwj]
  by_cases h0 : x.1 ≥ 0
  · rw [if_pos h0]
    rw [if_pos (show 0 ≤ x.1 from h0)] at htk
    refine ⟨by decide, ?_⟩
    rw [newC_eq, Int.tdiv_eq_ediv_of_nonneg (by omega), wrap_i64 (n := x.1 / 8) (by omega) (by omega)]
    refine append_own (H0 := H) (B := H.size) (f := iV) (x := x.1 / 8) (fun _ => rfl) rfl hO2 (Nat.le_refl _) hk2.1 hk2 (by simp only [lim]; omega) ?_
    intro s' H' hO' hk' _ _
    rw [← htk] at hO'
    exact hit _ _ ⟨j + 1, rfl, by omega, hk', hO'⟩ (by simp only; omega)
  · rw [if_neg h0]
    rw [if_neg (show ¬ 0 ≤ x.1 from h0), List.append_nil] at htk
    exact hit _ _ ⟨j + 1, rfl, by omega, hk2, by rw [htk]; exact hO2⟩ (by simp only; omega)

/-! ### pieces -/
theorem Chain.uniq {e b : Int} : ∀ {l1 l2 : List (Int × Int × Int)} {a : Int}, Chain e a l1 b → Chain e a l2 b → b ≤ e → l1 = l2 := by
  intro l1
  induction l1 with
  | nil =>
    intro l2 a h1 h2 _
    cases l2 with
    | nil => rfl
    | cons y s => simp only [Chain] at h1; have := h2.le; simp only [List.length_cons] at this; omega
  | cons x r ih =>
    intro l2 a h1 h2 hb
    cases l2 with
    | nil => simp only [Chain] at h2; have := h1.le; simp only [List.length_cons] at this; omega
    | cons y s =>
      obtain ⟨a1, a2, a3, a4, a5, a6⟩ := h1
      obtain ⟨b1, b2, b3, b4, b5, b6⟩ := h2
      have hr := a6.le
      have hs := b6.le
      have h3 : x.2.2 = y.2.2 := by omega
      have h4 : x.1 = y.1 ∧ x.2.1 = y.2.1 := by omega
      rw [h3] at a6
      have hxy : x = y := by
        obtain ⟨x1, x2, x3⟩ := x
        obtain ⟨y1, y2, y3⟩ := y
        simp only at h3 h4
        rw [h3, h4.1, h4.2]
      rw [hxy, ih a6 b6 hb]

theorem darningref4_Pieces.s {a n : Int} {k : Sl → AH → Prop} (hr : 0 ≤ a ∧ a ≤ 1000000 ∧ 0 ≤ n ∧ n ≤ 448)
    (h : ∀ s H' l, Keeps H H' → Chain (a + n) a l (a + n) → Own H.size H' s 3 pc l → k s H') : darningref4_Pieces a n H k := by
  refine darningref4_Pieces.link ?_
  unfold darningref4_Pieces.b
  rw [show decide (a < 0) = false from by simp; omega, bcase_false, show decide (n < 0) = false from by simp; omega, bcase_false,
    show decide (a > 1000000) = false from by simp; omega, bcase_false, show decide (n > 448) = false from by simp; omega]
  unfold darningref4_Pieces.j2
  rw [bcase_false]
  refine loopT_inv (t := ((a, n, ⟨none, 0, 0⟩) : Int × Int × Sl)) (H := H) (I := fun (t : Int × Int × Sl) H' => ∃ l, Chain (a + n) a l t.1 ∧ 0 ≤ t.2.1 ∧ t.1 + t.2.1 = a + n ∧ Keeps H H' ∧ Own H.size H' t.2.2 3 pc l) (m := fun (t : Int × Int × Sl) _ => Int.toNat t.2.1) ?_ ⟨[], rfl, hr.2.2.1, rfl, Keeps.refl H, .inl ⟨rfl, rfl⟩⟩
  rintro ⟨at', n', s⟩ H1 ⟨l, hc, h0, hsum, hK, hO⟩ it hit
  simp only at hc h0 hsum hO
  have hlen := hc.le
  unfold darningref4_Pieces.l1
  simp only
  by_cases hlt : n' > 0
  · rw [decide_eq_true hlt, bcase_true]
    rw [Int.tdiv_eq_ediv_of_nonneg (by omega), Int.tmod_eq_emod_of_nonneg (by omega), wrap_i64 (n := at' / 8) (by omega) (by omega), wrap_i64 (n := 8 - at' % 8) (by omega) (by omega)]
    refine ⟨by decide, by decide, by decide, rfl, ?_⟩
    generalize hm : (if 8 - at' % 8 < n' then 8 - at' % 8 else n') = m
    have hm1 : 1 ≤ m ∧ m ≤ n' ∧ m ≤ 8 - at' % 8 := by rw [← hm]; split <;> omega
    rw [newC_eq]
    refine append_own (H0 := H) (B := H.size) (f := pc) (x := (at' / 8, at' % 8, m)) (l := l) (fun _ => rfl) rfl hO (Nat.le_refl _) hK.1 hK (by simp only [lim]; omega) ?_
    intro s' H' hO' hK' hsz hsame
    rw [wrap_i64 (n := at' + m) (by omega) (by omega), wrap_i64 (n := n' - m) (by omega) (by omega)]
    refine hit _ _ ⟨l ++ [(at' / 8, at' % 8, m)], ?_, by simp only; omega, by simp only; omega, hK', hO'⟩ (by simp only; omega)
    exact hc.snoc (x := (at' / 8, at' % 8, m)) hm1.1 (by simp only; omega) (by simp only; omega) (by simp only; omega) (by simp only; rw [← hm]; split <;> omega)
  · rw [decide_eq_false hlt, bcase_false]
    have : at' = a + n := by omega
    subst this
    exact h _ _ l hK hc hO

theorem eqCells_ed (b : Int × Int) : eqCells [(K.int .i64), (K.int .u64)] (eU b) (eU b) = some true := by
  simp [eqCells, eU]
theorem eqCells_pc (b : Int × Int × Int) : eqCells [(K.int .i64), (K.int .i64), (K.int .i64)] (pc b) (pc b) = some true := by
  simp [eqCells, pc]
theorem darningref4_SameEdits.s {x0 x1 : Sl} {l : List (Int × Int)} {k : Bool → AH → Prop} (h0 : Abs.Rows H x0 2 eU l) (h1 : Abs.Rows H x1 2 eU l) (hl : l.length ≤ 1000000) (h : k true H) : darningref4_SameEdits x0 x1 H k := by
  refine gcB true (darningref4_SameEdits.link ?_) h
  unfold darningref4_SameEdits.b
  rw [h0.1, h1.1, bcase_eq, if_neg (by simp)]
  refine loopT_inv (t := ((false, (0 : Int)) : Bool × Int)) (I := fun (t : Bool × Int) H' => H' = H ∧ ∃ i : Nat, t.2 = (i : Int) ∧ i ≤ l.length) (m := fun (t : Bool × Int) _ => Int.toNat ((l.length : Int) - t.2)) ?_ ⟨rfl, 0, rfl, by omega⟩
  rintro ⟨t0, t2⟩ H1 ⟨rfl, i, e1, hi⟩ it hit
  simp only at e1
  subst e1
  unfold darningref4_SameEdits.l1
  simp only [bcase_eq, decide_eq_true_eq]
  rw [h0.1]
  by_cases hlt : (i : Int) < (l.length : Int)
  rotate_left 1
  · rw [if_neg hlt]; exact ⟨Keeps.refl _, trivial⟩
  rw [if_pos hlt]
  have hi' : i < l.length := by omega
  obtain ⟨b, o, ha, hb, hcells⟩ := rows_cells h0 (by omega)
  obtain ⟨b2, o2, ha2, hb2, hcells2⟩ := rows_cells h1 (by omega)
  refine ⟨by omega, ?_⟩
  rw [ha, onPtr_mk, Int.toNat_natCast, ldA_some (hcells i _ (List.getElem?_eq_getElem hi')).1]
  refine ⟨by rw [h1.1]; omega, ?_⟩
  rw [ha2, onPtr_mk, ldA_some (hcells2 i _ (List.getElem?_eq_getElem hi')).1, eqCells_ed]
  refine ⟨true, rfl, ?_⟩
  show ite _ _ _
  rw [if_neg (by simp), wrap_i64 (n := (i : Int) + 1) (by omega) (by omega)]
  exact hit _ _ ⟨rfl, i + 1, by simp, by omega⟩ (by simp only; omega)
end
end Go.Proofs.Ytgddfhnochcolaa
