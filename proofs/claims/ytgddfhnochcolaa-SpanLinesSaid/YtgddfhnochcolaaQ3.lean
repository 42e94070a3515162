import Derived.Test.YtgddfhnochcolaaQ2
import Derived.Test.YtgddfhnochcolaaE9
set_option linter.all false
set_option linter.all false
namespace Go.Proofs.Ytgddfhnochcolaa
open Go Go.Abs

section
variable {H : AH}
theorem span_Apply.s' {x0 x1 : Sl} {ws : List Int} {l : List (Int × Int)} {k : Sl → AH → Prop} (hw : Abs.Rows H x0 1 wU ws) (hwl : ws.length ≤ 1000000) (hl : Abs.Rows H x1 2 eU l) (hll : l.length ≤ 1000000)
    (h : ∀ s H', Keeps H H' → Abs.Rows H' s 1 wU (applyE ws l) → k s H') : span_Apply x0 x1 H k := by
  refine span_Apply.s hw hwl hl hll ?_
  intro s H' hk hO
  refine h s H' hk ?_
  rcases hO with hO | ⟨h0, h1⟩
  · exact hO.rows (fun _ => rfl) (fun _ => rfl)
  · have : applyE ws l = [] := List.length_eq_zero_iff.1 (by rw [applyE_length, h0]; rfl)
    rw [this]
    exact ⟨h1, fun i x hi => by simp at hi⟩

/-- Pieces, whatever the two numbers. -/
theorem pieces_both {a n : Int} {k : Sl → Sl → AH → Prop} (ha : isI a) (hn : isI n)
    (h : ∀ l s1 s2 H', Keeps H H' → l.length ≤ 1000 → Abs.Rows H' s1 3 pc l → Abs.Rows H' s2 3 pc l → k s1 s2 H') : span_Pieces a n H fun s38 H38 => darningref4_Pieces a n H38 fun s41 H41 => k s38 s41 H41 := by
  by_cases hr : 0 ≤ a ∧ a ≤ 1000000 ∧ 0 ≤ n ∧ n ≤ 448
  · refine span_Pieces.s hr ?_
    intro s H' l hk hc hO
    refine darningref4_Pieces.s hr ?_
    intro s2 H2 l2 hk2 hc2 hO2
    have := Chain.uniq hc2 hc (Int.le_refl _)
    subst this
    have hl := hc.le
    refine h l2 s s2 H2 (hk.trans hk2) (by omega) ((hO.rows (fun _ => rfl) (fun _ => rfl)).keep hk2) (hO2.rows (fun _ => rfl) (fun _ => rfl))
  · have e1 : ∀ {kk : Sl → AH → Prop} {H1 : AH}, kk ⟨none, 0, 0⟩ H1 → span_Pieces a n H1 kk := by
      intro kk H1 hh
      refine span_Pieces.link ?_
      unfold span_Pieces.b span_Pieces.j2
      simp only [bcase_eq, decide_eq_true_eq]
      by_cases h1 : a < 0
      · rw [if_pos h1]; exact hh
      rw [if_neg h1]
      by_cases h2 : n < 0
      · rw [if_pos h2]; exact hh
      rw [if_neg h2]
      by_cases h3 : a > 1000000
      · rw [if_pos h3]; exact hh
      rw [if_neg h3, if_pos (by omega)]; exact hh
    have e2 : ∀ {kk : Sl → AH → Prop} {H1 : AH}, kk ⟨none, 0, 0⟩ H1 → darningref4_Pieces a n H1 kk := by
      intro kk H1 hh
      refine darningref4_Pieces.link ?_
      unfold darningref4_Pieces.b darningref4_Pieces.j2
      simp only [bcase_eq, decide_eq_true_eq]
      by_cases h1 : a < 0
      · rw [if_pos h1]; exact hh
      rw [if_neg h1]
      by_cases h2 : n < 0
      · rw [if_pos h2]; exact hh
      rw [if_neg h2]
      by_cases h3 : a > 1000000
      · rw [if_pos h3]; exact hh
      rw [if_neg h3, if_pos (by omega)]; exact hh
    refine e1 ?_
    refine e2 ?_
    exact h [] _ _ H (Keeps.refl H) (by simp) rows_none rows_none

theorem darninglaw18_SpanForms.t {x0 : Sl} {ws : List Int} {x1 x2 : Int} {x3 : Sl} {bs : List Int} {x4 : Sl} {l : List (Int × Int)} (h0 : Abs.Rows H x0 1 wU ws) (h64 : ∀ v ∈ ws, isU v) (_ : ws.length ≤ maxLen)
    (h1 : (Lit.int .i64 x1).wf = true) (h2 : (Lit.int .i64 x2).wf = true) (h3 : Abs.Rows H x3 1 bU bs) (h8 : ∀ v ∈ bs, isB v) (_ : bs.length ≤ maxLen)
    (h4 : Abs.Rows H x4 2 eU l) (hE : ∀ e ∈ l, edOK H e) (_ : l.length ≤ maxLen) : darninglaw18_SpanForms x0 x1 x2 x3 x4 H (fun r _ => r = true) := by
  have aw : ∀ H', darninglaw18_awake H' fun b _ => b = true := fun H' => darninglaw18_awake.s fun _ => rfl
  have hx1 : isI x1 := wf_i64 h1
  have hx2 : isI x2 := wf_i64 h2
  have hx1' := hx1
  unfold isI at hx1'
  refine darninglaw18_SpanForms.link ?_
  unfold darninglaw18_SpanForms.b
  rw [h0.1, h3.1, h4.1]
  have j3t : darninglaw18_SpanForms.j3 x0 x1 x2 x3 x4 H (fun r _ => r = true) true := by unfold darninglaw18_SpanForms.j3; rw [bcase_true]; exact aw H
  by_cases b1 : ((ws.length : Nat) : Int) > 600
  · rw [decide_eq_true b1, bcase_true]; exact j3t
  rw [decide_eq_false b1, bcase_false]
  by_cases b2 : ((bs.length : Nat) : Int) > 600
  · rw [decide_eq_true b2, bcase_true]; exact j3t
  rw [decide_eq_false b2, bcase_false]
  by_cases b3 : ((l.length : Nat) : Int) > 300
  · rw [decide_eq_true b3]; exact j3t
  rw [decide_eq_false b3]
  unfold darninglaw18_SpanForms.j3
  rw [bcase_false]
  refine pieces_both hx1 hx2 ?_
  intro lp s38 s41 H41 hk41 hlp hr38 hr41
  rw [hr38.1, hr41.1, bcase_eq, if_neg (by simp)]
  -- the rest
  have j1 : darninglaw18_SpanForms.j1 x0 x1 x2 x3 x4 (fun r _ => r = true) H41 := by
    unfold darninglaw18_SpanForms.j1
    have r0 := h0.keep hk41
    have r3 := h3.keep hk41
    have r4 := h4.keep hk41
    have tail : ∀ {s80 s87 b80 H87}, Keeps H41 H87 → Abs.Rows H87 s80 2 eU b80 → Abs.Rows H87 s87 2 eU b80 → b80.length ≤ 1000000 → ∀ v : Bool,
        (darningref4_SameEdits s80 s87 H87 fun b103 H103 => bcase b103 (bcase (v == v) (span_Apply x0 x4 H103 fun s113 H113 => darningref4_Apply x0 x4 H113 fun s116 H116 => darningref4_SameWords s113 s116 H116 fun b117 H117 => bcase b117 (span_Lines x4 H117 fun s121 H121 => darningref4_EditLines x4 H121 fun s123 H123 => darningref1_Ints s121 s123 H123 fun b124 H124 => bcase b124 (darninglaw18_awake H124 fun b127 H127 => b127 = true) (false = true)) (false = true)) (false = true)) (false = true)) := by
      intro s80 s87 b80 H87 hk87 hr80 hr87 hbl v
      refine darningref4_SameEdits.s hr80 hr87 hbl ?_
      rw [bcase_true, beq_self_eq_true, bcase_true]
      have q0 := r0.keep hk87
      have q4 := r4.keep hk87
      refine span_Apply.s' q0 (by omega) q4 (by omega) ?_
      intro s113 H113 hk113 hr113
      refine darningref4_Apply.s (q0.keep hk113) (by omega) (q4.keep hk113) (by omega) ?_
      intro s116 H116 hk116 hO116
      refine darningref4_SameWords.s (hr113.keep hk116) (hO116.rows (fun _ => rfl) (fun _ => rfl)) (by rw [applyE_length]; omega) rfl ?_
      rw [bcase_true]
      have q4' := (q4.keep hk113).keep hk116
      have hEi : ∀ e ∈ l, isI e.1 := fun e he => (hE e he).i
      refine span_Lines.s q4' (by omega) hEi ?_
      intro s121 H121 hk121 hO121
      refine darningref4_EditLines.s (q4'.keep hk121) (by omega) hEi ?_
      intro s123 H123 hk123 hO123
      have hle : (eLines l).length ≤ 100000 := by
        have := (eFold l [] List.Pairwise.nil).2.2
        simp at this
        unfold eLines; omega
      refine darningref1_Ints.s ((hO121.rows (fun _ => rfl) (fun _ => rfl)).keep hk123) (hO123.rows (fun _ => rfl) (fun _ => rfl)) hle ?_
      rw [bcase_true]
      exact aw _
    -- reading
    have mid : ∀ {s66 s73 H73 rd}, Keeps H41 H73 → Abs.Rows H73 s66 1 bU rd → Abs.Rows H73 s73 1 bU rd → bytes8 rd → ∀ v : Bool,
        (span_Edits x0 x1 x3 H73 fun s80a b80b H80 => darningref4_ByteEdits x0 x1 x3 H80 fun s87a b87b H87 => strC H87 s66 fun y91 => strC H87 s73 fun y93 => bcase (ByteArray.toList ⟨List.toArray y91⟩ == ByteArray.toList ⟨List.toArray y93⟩) (bcase (v == v) (darningref4_SameEdits s80a s87a H87 fun b103 H103 => bcase b103 (bcase (b80b == b87b) (span_Apply x0 x4 H103 fun s113 H113 => darningref4_Apply x0 x4 H113 fun s116 H116 => darningref4_SameWords s113 s116 H116 fun b117 H117 => bcase b117 (span_Lines x4 H117 fun s121 H121 => darningref4_EditLines x4 H121 fun s123 H123 => darningref1_Ints s121 s123 H123 fun b124 H124 => bcase b124 (darninglaw18_awake H124 fun b127 H127 => b127 = true) (false = true)) (false = true)) (false = true)) (false = true)) (false = true)) (false = true)) := by
      intro s66 s73 H73 rd hk73 hr66 hr73 h8rd v
      have q0 := r0.keep hk73
      have q3 := r3.keep hk73
      have fin : ∀ {H87 s80 s87 ed}, Keeps H73 H87 → Abs.Rows H87 s80 2 eU ed → Abs.Rows H87 s87 2 eU ed → ed.length ≤ 1000000 → ∀ u : Bool,
          strC H87 s66 fun y91 => strC H87 s73 fun y93 => bcase (ByteArray.toList ⟨List.toArray y91⟩ == ByteArray.toList ⟨List.toArray y93⟩) (bcase (v == v) (darningref4_SameEdits s80 s87 H87 fun b103 H103 => bcase b103 (bcase (u == u) (span_Apply x0 x4 H103 fun s113 H113 => darningref4_Apply x0 x4 H113 fun s116 H116 => darningref4_SameWords s113 s116 H116 fun b117 H117 => bcase b117 (span_Lines x4 H117 fun s121 H121 => darningref4_EditLines x4 H121 fun s123 H123 => darningref1_Ints s121 s123 H123 fun b124 H124 => bcase b124 (darninglaw18_awake H124 fun b127 H127 => b127 = true) (false = true)) (false = true)) (false = true)) (false = true)) (false = true)) (false = true) := by
        intro H87 s80 s87 ed hk87 hr80 hr87 hel u
        refine rows_str (hr66.keep hk87) h8rd ?_
        refine rows_str (hr73.keep hk87) h8rd ?_
        rw [beq_self_eq_true, bcase_true, beq_self_eq_true, bcase_true]
        exact tail (hk73.trans hk87) hr80 hr87 hel u
      refine span_Edits.s q0 h64 (by omega) q3 h8 hx1' ?_ ?_
      · intro hin s80 H80 hk80 hO80
        have hin' := hin
        unfold inside at hin'
        refine darningref4_ByteEdits.s (q0.keep hk80) h64 (by omega) (q3.keep hk80) (by omega) h8 hx1' ?_ (fun hh => absurd hin hh)
        intro _ s87 H87 hk87 hO87
        refine fin (hk80.trans hk87) ((hO80.rows (fun _ => rfl) (fun _ => rfl)).keep hk87) (hO87.rows (fun _ => rfl) (fun _ => rfl)) ?_ true
        unfold editsOf
        rw [List.length_map, List.length_range]
        unfold touched
        split <;> omega
      · intro hin
        refine darningref4_ByteEdits.s q0 h64 (by omega) q3 (by omega) h8 hx1' (fun hh => absurd hh hin) (fun _ => ?_)
        exact fin (Keeps.refl _) rows_none rows_none (by simp) false
    refine span_Read.s r0 h64 (by omega) hx1' ?_ ?_
    · intro hin s66 H66 hk66 hO66
      refine darningref4_ReadBytes.s (r0.keep hk66) h64 (by omega) hx1 hx2 ?_ (fun hh => absurd hin hh)
      intro _ s73 H73 hk73 hO73
      exact mid (hk66.trans hk73) ((hO66.rows (fun _ => rfl) (fun _ => rfl)).keep hk73) (hO73.rows (fun _ => rfl) (fun _ => rfl)) (bytesOf_8 _ _ _) true
    · intro hin
      refine darningref4_ReadBytes.s r0 h64 (by omega) hx1 hx2 (fun hh => absurd hh hin) (fun _ => ?_)
      exact mid (Keeps.refl _) rows_none rows_none (fun v hv => by cases hv) false
  refine loopT_inv (t := ((false, (0 : Int)) : Bool × Int)) (I := fun (t : Bool × Int) H' => H' = H41 ∧ ∃ i : Nat, t.2 = (i : Int) ∧ i ≤ lp.length) (m := fun (t : Bool × Int) _ => Int.toNat ((lp.length : Int) - t.2)) ?_ ⟨rfl, 0, rfl, by omega⟩
  rintro ⟨t0, t2⟩ H1 ⟨rfl, i, e1, hi⟩ it hit
  simp only at e1
  subst e1
  unfold darninglaw18_SpanForms.l2
  simp only [bcase_eq, decide_eq_true_eq]
  rw [hr38.1]
  by_cases hlt : (i : Int) < (lp.length : Int)
  rotate_left 1
  · rw [if_neg hlt]; exact j1
  rw [if_pos hlt]
  have hi' : i < lp.length := by omega
  obtain ⟨b, o, ha, hb, hcells⟩ := rows_cells hr38 (by omega)
  obtain ⟨b2, o2, ha2, hb2, hcells2⟩ := rows_cells hr41 (by omega)
  refine ⟨by omega, ?_⟩
  rw [ha, onPtr_mk, Int.toNat_natCast, ldA_some (hcells i _ (List.getElem?_eq_getElem hi')).1]
  refine ⟨by rw [hr41.1]; omega, ?_⟩
  rw [ha2, onPtr_mk, ldA_some (hcells2 i _ (List.getElem?_eq_getElem hi')).1, eqCells_pc]
  refine ⟨true, rfl, ?_⟩
  show ite _ _ _
  rw [if_neg (by simp), wrap_i64 (n := (i : Int) + 1) (by omega) (by omega)]
  exact hit _ _ ⟨rfl, i + 1, by simp, by omega⟩ (by simp only; omega)

theorem applyE_far {i : Nat} : ∀ (l : List (Int × Int)) (ws : List Int), (∀ e ∈ l, e.1 ≠ (i : Int)) → (applyE ws l)[i]? = ws[i]? := by
  intro l
  induction l with
  | nil => intro ws _; rfl
  | cons e r ih =>
    intro ws h
    show (applyE (putE ws e) r)[i]? = _
    rw [ih _ (fun e' he' => h e' (by simp [he']))]
    have h1 := h e (by simp)
    unfold putE
    split
    · rw [List.getElem?_set_ne]; omega
    · rfl

theorem darninglaw18_SpanLines.t {x0 : Sl} {ws : List Int} {x1 : Sl} {l : List (Int × Int)} (h0 : Abs.Rows H x0 1 wU ws) (h64 : ∀ v ∈ ws, isU v) (_ : ws.length ≤ maxLen)
    (h4 : Abs.Rows H x1 2 eU l) (hE : ∀ e ∈ l, edOK H e) (_ : l.length ≤ maxLen) : darninglaw18_SpanLines x0 x1 H (fun r _ => r = true) := by
  have aw : ∀ H', darninglaw18_awake H' fun b _ => b = true := fun H' => darninglaw18_awake.s fun _ => rfl
  refine darninglaw18_SpanLines.link ?_
  unfold darninglaw18_SpanLines.b
  rw [h0.1, h4.1]
  have j7t : darninglaw18_SpanLines.j7 x0 x1 H (fun r _ => r = true) true := by unfold darninglaw18_SpanLines.j7; rw [bcase_true]; exact aw H
  by_cases b1 : ((ws.length : Nat) : Int) > 300
  · rw [decide_eq_true b1, bcase_true]; exact j7t
  rw [decide_eq_false b1, bcase_false]
  by_cases b3 : ((l.length : Nat) : Int) > 100
  · rw [decide_eq_true b3]; exact j7t
  rw [decide_eq_false b3]
  unfold darninglaw18_SpanLines.j7
  rw [bcase_false]
  refine span_Lines.s h4 (by omega) (fun e he => (hE e he).i) ?_
  intro s22 H22 hk22 hO22
  refine span_Apply.s' (h0.keep hk22) (by omega) (h4.keep hk22) (by omega) ?_
  intro s25 H25 hk25 hr25
  rw [hr25.1, applyE_length, h0.1, bcase_eq, if_neg (by simp)]
  have r22 := (hO22.rows (fun _ => rfl) (fun _ => rfl)).keep hk25
  have r0 := (h0.keep hk22).keep hk25
  obtain ⟨hsort, _, hlen⟩ := eFold l [] List.Pairwise.nil
  have hmem : ∀ {x : Int}, x ∈ eLines l ↔ ∃ e ∈ l, 0 ≤ e.1 ∧ x = e.1 / 8 := eLines_mem
  have hsort : (eLines l).Pairwise (· < ·) := hsort
  have hlen : (eLines l).length ≤ l.length := by unfold eLines; simpa using hlen
  generalize eLines l = ln at *
  refine loopT_inv (t := ((false, (0 : Int)) : Bool × Int)) (I := fun (t : Bool × Int) H' => H' = H25 ∧ ∃ i : Nat, t.2 = (i : Int) ∧ i ≤ ws.length) (m := fun (t : Bool × Int) _ => Int.toNat ((ws.length : Int) - t.2)) ?_ ⟨rfl, 0, rfl, by omega⟩
  rintro ⟨t0, t2⟩ H1 ⟨rfl, i, e1, hi⟩ it hit
  simp only at e1
  subst e1
  unfold darninglaw18_SpanLines.l6
  rw [h0.1, bcase_eq]
  by_cases hlt : (i : Int) < (ws.length : Int)
  · rw [if_pos (by simpa using hlt)]
    have hi' : i < ws.length := by omega
    have next : it (t0, IntKind.wrap .i64 ((i : Int) + 1)) H1 := by
      rw [wrap_i64 (n := (i : Int) + 1) (by omega) (by omega)]
      exact hit _ _ ⟨rfl, i + 1, by simp, by omega⟩ (by simp only; omega)
    refine loopT_inv (t := ((false, (0 : Int)) : Bool × Int)) (I := fun (t : Bool × Int) H' => H' = H1 ∧ ∃ j : Nat, t.2 = (j : Int) ∧ j ≤ ln.length ∧ t.1 = decide (((i : Int) / 8) ∈ ln.take j)) (m := fun (t : Bool × Int) _ => Int.toNat ((ln.length : Int) - t.2)) ?_ ⟨rfl, 0, rfl, by omega, by simp⟩
    rintro ⟨u0, u2⟩ H2 ⟨rfl, j, e2, hj, hfd⟩ it2 hit2
    simp only at e2 hfd
    subst e2 hfd
    unfold darninglaw18_SpanLines.l3
    rw [r22.1]
    by_cases hlt2 : (j : Int) < (ln.length : Int)
    · rw [decide_eq_true hlt2, bcase_true]
      refine ⟨by omega, ?_⟩
      have hj' : j < ln.length := by omega
      simp only [Int.toNat_natCast]
      obtain ⟨b, o, ha, hb, hcells⟩ := rows_cells r22 (by omega)
      have hc := (hcells j _ (List.getElem?_eq_getElem hj')).2 0 _ rfl
      rw [addr_add, addr_add] at hc
      rw [ha, onPtr_mk, addr_add, show AH.cell? H2 ⟨b, o + j * 1, none⟩ = _ from hc, elI_some]
      have htk : ln.take (j + 1) = ln.take j ++ [ln[j]] := by rw [List.take_succ, List.getElem?_eq_getElem hj']; rfl
      have hnx : ∀ v : Bool, v = decide ((i : Int) / 8 ∈ ln.take (j + 1)) → it2 (v, IntKind.wrap .i64 ((j : Int) + 1)) H2 := by
        intro v hv
        rw [wrap_i64 (n := (j : Int) + 1) (by omega) (by omega)]
        exact hit2 _ _ ⟨rfl, j + 1, by simp, by omega, hv⟩ (by simp only; omega)
      rw [bcase_eq]
      by_cases hin : (i : Int) / 8 ∈ ln.take j
      · rw [if_pos (by simpa using hin)]
        refine hnx true ?_
        rw [htk, decide_eq_true (List.mem_append_left _ hin)]
      · rw [if_neg (by simpa using hin)]
        refine ⟨by decide, ?_⟩
        rw [Int.tdiv_eq_ediv_of_nonneg (by omega), wrap_i64 (n := (i : Int) / 8) (by omega) (by omega)]
        refine hnx _ ?_
        rw [htk]
        by_cases he : ln[j] = (i : Int) / 8
        · rw [he]; simp
        · rw [show (ln[j] == (i : Int) / 8) = false by simpa using he, decide_eq_false]
          rw [List.mem_append]
          rintro (h | h)
          · exact hin h
          · simp at h; exact he h.symm
    · rw [decide_eq_false hlt2, bcase_false]
      have hjl : j = ln.length := by omega
      subst hjl
      rw [List.take_length]
      unfold darninglaw18_SpanLines.j2 darninglaw18_SpanLines.j1
      rw [bcase_eq]
      by_cases hin : (i : Int) / 8 ∈ ln
      · rw [if_neg (by simpa using hin), bcase_false]
        exact next
      · rw [if_pos (by simpa using hin)]
        have hsame : (applyE ws l)[i]? = ws[i]? := applyE_far l ws fun e he hee => hin (hmem.2 ⟨e, he, by omega, by rw [hee]⟩)
        have hi2 : i < (applyE ws l).length := by rw [applyE_length]; exact hi'
        refine ⟨by rw [hr25.1, applyE_length]; omega, ?_⟩
        obtain ⟨b, o, ha, hb, hcells⟩ := rows_cells hr25 (by omega)
        have hc := (hcells i ws[i] (by rw [hsame]; exact List.getElem?_eq_getElem hi')).2 0 _ rfl
        rw [addr_add, addr_add] at hc
        simp only [Int.toNat_natCast]
        rw [ha, onPtr_mk, addr_add, show AH.cell? H2 ⟨b, o + i * 1, none⟩ = _ from hc, elI_some]
        refine ⟨by rw [h0.1]; omega, ?_⟩
        obtain ⟨b2, o2, ha2, hb2, hcells2⟩ := rows_cells r0 (by omega)
        have hc2 := (hcells2 i _ (List.getElem?_eq_getElem hi')).2 0 _ rfl
        rw [addr_add, addr_add] at hc2
        rw [ha2, onPtr_mk, addr_add, show AH.cell? H2 ⟨b2, o2 + i * 1, none⟩ = _ from hc2, elI_some]
        rw [show (ws[i] != ws[i]) = false by simp, bcase_false]
        exact next
  · rw [if_neg (by simpa using hlt)]
    refine loopT_inv (t := ((t0, (1 : Int)) : Bool × Int)) (I := fun (t : Bool × Int) H' => H' = H1 ∧ ∃ j : Nat, t.2 = (j : Int) ∧ 1 ≤ j ∧ j ≤ ln.length + 1) (m := fun (t : Bool × Int) _ => Int.toNat ((ln.length : Int) + 1 - t.2)) ?_ ⟨rfl, 1, rfl, by omega, by omega⟩
    rintro ⟨u0, u2⟩ H2 ⟨rfl, j, e2, hj1, hj⟩ it2 hit2
    simp only at e2
    subst e2
    unfold darninglaw18_SpanLines.l5
    rw [r22.1]
    by_cases hlt2 : (j : Int) < (ln.length : Int)
    · rw [decide_eq_true hlt2, bcase_true]
      refine ⟨by omega, ?_⟩
      have hj' : j < ln.length := by omega
      have hjm : (j : Int) - 1 = ((j - 1 : Nat) : Int) := by omega
      rw [wrap_i64 (n := (j : Int) - 1) (by omega) (by omega), hjm]
      simp only [Int.toNat_natCast]
      obtain ⟨b, o, ha, hb, hcells⟩ := rows_cells r22 (by omega)
      have hc := (hcells j _ (List.getElem?_eq_getElem hj')).2 0 _ rfl
      have hc2 := (hcells (j - 1) _ (List.getElem?_eq_getElem (show j - 1 < ln.length by omega))).2 0 _ rfl
      rw [addr_add, addr_add] at hc hc2
      rw [ha, onPtr_mk, addr_add, show AH.cell? H2 ⟨b, o + j * 1, none⟩ = _ from hc, elI_some]
      refine ⟨by omega, ?_⟩
      rw [onPtr_mk, addr_add, show AH.cell? H2 ⟨b, o + (j - 1) * 1, none⟩ = _ from hc2, elI_some]
      have := List.pairwise_iff_getElem.1 hsort (j - 1) j (by omega) hj' (by omega)
      rw [decide_eq_false (by omega), bcase_false, wrap_i64 (n := (j : Int) + 1) (by omega) (by omega)]
      exact hit2 _ _ ⟨rfl, j + 1, by simp, by omega, by omega⟩ (by simp only; omega)
    · rw [decide_eq_false hlt2, bcase_false]
      unfold darninglaw18_SpanLines.j4
      rw [r22.1, h4.1, decide_eq_true (by omega), bcase_true]
      exact aw _
end
end Go.Proofs.Ytgddfhnochcolaa
