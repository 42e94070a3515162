import Derived.Test.YtgddfhnochcolaaI1
set_option linter.all false
set_option linter.all false
namespace Go.Proofs.Ytgddfhnochcolaa
open Go Go.Abs

def chainB (words : Int) : Int → Bool → List Bk → Prop
  | pt, _, [] => pt = words
  | pt, pu, b :: r => b.1 = pt ∧ mayS b.2.1 ∧ b.2.1 ≤ words - pt ∧ (pu = true ∨ b.2.2 = true) ∧ chainB words (pt + b.2.1) b.2.2 r
instance chainB.dec {words : Int} : ∀ (l : List Bk) (pt : Int) (pu : Bool), Decidable (chainB words pt pu l)
  | [], pt, pu => by unfold chainB; infer_instance
  | b :: r, pt, pu => by
    unfold chainB
    have := chainB.dec (words := words) r (pt + b.2.1) b.2.2
    infer_instance
def MayB (l : List Bk) (words : Int) : Prop := mayW words ∧ chainB words 0 true l
instance {l : List Bk} {words : Int} : Decidable (MayB l words) := by unfold MayB; infer_instance

def puAt (l : List Bk) : Nat → Bool
  | 0 => true
  | i + 1 => (l.getD i (0, 0, false)).2.2

theorem drop_cons {α : Type} {l : List α} {i : Nat} (hi : i < l.length) : l.drop i = l[i] :: l.drop (i + 1) := by
  rw [List.drop_eq_getElem_cons hi]

section
variable {H : AH}

theorem darningref4_MayBlocks.s {x0 : Sl} {words : Int} {l : List Bk} {k : Bool → AH → Prop} (hr : Abs.Rows H x0 3 bkV l) (hl : l.length ≤ 100000) (hok : ∀ b ∈ l, 0 ≤ b.2.1 ∧ b.2.1 ≤ 100000) (hw : 0 ≤ words ∧ words ≤ 100000) (h : k (decide (MayB l words)) H) : darningref4_MayBlocks x0 words H k := by
  refine gcB (decide (MayB l words)) (darningref4_MayBlocks.link ?_) h
  unfold darningref4_MayBlocks.b
  refine darningref4_mayWords.s ?_
  by_cases hm : mayW words
  rotate_left 1
  · rw [decide_eq_false hm, Bool.not_false, bcase_true]
    exact ⟨Keeps.refl H, (decide_eq_false (fun hh : MayB l words => hm hh.1)).symm⟩
  rw [decide_eq_true hm, Bool.not_true, bcase_false]
  refine loopT_inv (t := ((false, (0 : Int), (0 : Int)) : Bool × Int × Int)) (I := fun (t : Bool × Int × Int) H' => ∃ i : Nat, t.2.2 = (i : Int) ∧ i ≤ l.length ∧ Keeps H H' ∧ 0 ≤ t.2.1 ∧ t.2.1 ≤ words ∧ (MayB l words ↔ chainB words t.2.1 (puAt l i) (l.drop i))) (m := fun (t : Bool × Int × Int) _ => Int.toNat ((l.length : Int) - t.2.2)) ?_ ⟨0, rfl, by omega, Keeps.refl H, by simp only; omega, by simp only; omega, ⟨fun hh => hh.2, fun hh => ⟨hm, hh⟩⟩⟩
  intro t H1 hI it hit
  obtain ⟨t1, pt, t3⟩ := t
  obtain ⟨i, e1, hi, hk, hp0, hp1, hiff⟩ := hI
  simp only at e1 hp0 hp1 hiff
  subst e1
  unfold darningref4_MayBlocks.l2
  simp only [bcase_eq, decide_eq_true_eq, hr.1]
  by_cases hlt : (i : Int) < (l.length : Int)
  · rw [if_pos hlt]
    have hi' : i < l.length := by omega
    obtain ⟨b, o, ha, hb, hcells⟩ := rows_cells (hr.keep hk) (by omega)
    refine ⟨by omega, ?_⟩
    obtain ⟨hrow, _⟩ := hcells i l[i] (List.getElem?_eq_getElem hi')
    have hq := hok _ (List.getElem_mem hi')
    rw [ha, onPtr_mk, Int.toNat_natCast, ldA_some hrow]
    rw [drop_cons hi'] at hiff
    have hpu : puAt l (i + 1) = l[i].2.2 := by simp [puAt, List.getD_eq_getElem?_getD, hi']
    generalize hqq : l[i] = q at *
    refine new_row (n := 3) rfl (bkV_len q) (bkV_ok q) ?_
    have hB : BkAt (H1.push ⟨bkV q, .rw, 0⟩) H1.size q := BkAt.new
    have hk2 : Keeps H (H1.push ⟨bkV q, .rw, 0⟩) := hk.push _
    have hc2 : ∀ j x, l[j]? = some x → AH.cell? (H1.push ⟨bkV q, .rw, 0⟩) (Addr.add (Addr.add ⟨b, o, none⟩ (j * 3)) 2) = some (.bool x.2.2) := fun j x hx => by
      have := (hcells j x hx).2 2 (.bool x.2.2) rfl
      rw [addr_add, addr_add] at this ⊢
      rw [AH.cell?, push_get_ne (by show b ≠ H1.size; omega)]
      exact this
    generalize H1.push ⟨bkV q, .rw, 0⟩ = H2 at *
    have no : ¬ chainB words pt (puAt l i) (q :: l.drop (i + 1)) → darningref4_MayBlocks.j1 (fun r H' => Keeps H H' ∧ r = decide (MayB l words)) (t1, pt, (i : Int)) it H1.size true H2 := by
      intro hn
      unfold darningref4_MayBlocks.j1
      rw [bcase_true]
      exact ⟨hk2, (decide_eq_false (fun hh => hn (hiff.1 hh))).symm⟩
    simp only [hB.c0, elI_some]
    by_cases c1 : q.1 = pt
    rotate_left 1
    · rw [if_pos (by simpa using c1)]; exact no (fun hh => c1 hh.1)
    rw [if_neg (by simpa using c1)]
    simp only [hB.c1, elI_some]
    refine darningref4_MaySize.s ?_
    by_cases c2 : mayS q.2.1
    rotate_left 1
    · rw [decide_eq_false c2, if_pos (by simp)]; exact no (fun hh => c2 hh.2.1)
    rw [decide_eq_true c2, if_neg (by simp), hB.c1, elI_some, wrap_i64 (n := words - pt) (by omega) (by omega)]
    by_cases c3 : q.2.1 > words - pt
    · rw [if_pos c3]; exact no (fun hh => by have := hh.2.2.1; omega)
    rw [if_neg c3]
    have fin : ∀ x, (x = true ↔ ¬ (puAt l i = true ∨ q.2.2 = true)) → darningref4_MayBlocks.j1 (fun r H' => Keeps H H' ∧ r = decide (MayB l words)) (t1, pt, (i : Int)) it H1.size x H2 := by
      intro x hx
      cases x with
      | true => exact no (fun hh => (hx.1 rfl) hh.2.2.2.1)
      | false =>
        have hor : puAt l i = true ∨ q.2.2 = true := by
          by_cases hh : puAt l i = true ∨ q.2.2 = true
          · exact hh
          · exact absurd (hx.2 hh) (by simp)
        unfold darningref4_MayBlocks.j1
        rw [bcase_false, hB.c1, elI_some, wrap_i64 (n := pt + q.2.1) (by omega) (by omega), wrap_i64 (n := (i : Int) + 1) (by omega) (by omega)]
        refine hit _ _ ⟨i + 1, by simp, by omega, hk2, by simp only; omega, by simp only; omega, ?_⟩ (by simp only; omega)
        simp only
        rw [hpu, hiff]
        exact ⟨fun hh => hh.2.2.2.2, fun hh => ⟨c1, c2, by omega, hor, hh⟩⟩
    by_cases c4 : (i : Int) > 0
    · rw [if_pos c4, hB.c2, elB_some]
      by_cases c5 : q.2.2 = true
      · rw [c5, if_neg (by simp)]
        exact fin false (by simp [c5])
      · have c5' : q.2.2 = false := by simpa using c5
        rw [c5', if_pos (by simp), wrap_i64 (n := (i : Int) - 1) (by omega) (by omega)]
        refine ⟨by omega, ?_⟩
        obtain ⟨i', rfl⟩ : ∃ i', i = i' + 1 := ⟨i - 1, by omega⟩
        have e : (((i' + 1 : Nat) : Int) - 1).toNat = i' := by omega
        rw [onPtr_mk, e, hc2 i' l[i'] (List.getElem?_eq_getElem (by omega)), elB_some]
        have hpu' : puAt l (i' + 1) = l[i'].2.2 := by simp [puAt, List.getD_eq_getElem?_getD, show i' < l.length by omega]
        refine fin _ ?_
        rw [hpu', c5']
        simp
    · rw [if_neg c4]
      have : i = 0 := by omega
      subst this
      exact fin false (by simp [puAt])
  · rw [if_neg hlt]
    have : i = l.length := by omega
    subst this
    refine ⟨hk, ?_⟩
    rw [List.drop_length] at hiff
    by_cases hpw : pt = words
    · rw [decide_eq_true (hiff.2 hpw)]; simpa using hpw
    · rw [decide_eq_false (fun hh => hpw (hiff.1 hh))]; simpa using hpw

/-- Blocks from a word on. -/
def blkFrom (ws : List Int) (pt : Nat) : Option (List Bk) :=
  if h : pt < ws.length then
    if h2 : mayS (ws.getD pt 0 / 2) then (blkFrom ws (pt + (ws.getD pt 0 / 2).toNat)).map (((pt : Int), ws.getD pt 0 / 2, (ws.getD pt 0 % 2 == 1)) :: ·) else none
  else some []
termination_by ws.length - pt
decreasing_by unfold mayS at h2; omega

theorem blkFrom_eq (ws : List Int) (pt : Nat) : blkFrom ws pt = if h : pt < ws.length then
    if h2 : mayS (ws.getD pt 0 / 2) then (blkFrom ws (pt + (ws.getD pt 0 / 2).toNat)).map (((pt : Int), ws.getD pt 0 / 2, (ws.getD pt 0 % 2 == 1)) :: ·) else none
  else some [] := by rw [blkFrom]

def blocksN (ws : List Int) : Option (List Bk) := (blkFrom ws 0).bind fun l => if MayB l ws.length then some l else none

theorem blocksN_may {ws : List Int} {l : List Bk} (h : blocksN ws = some l) : MayB l ws.length := by
  unfold blocksN at h
  rw [Option.bind_eq_some_iff] at h
  obtain ⟨l', _, h2⟩ := h
  split at h2
  · injection h2 with h2; subst h2; assumption
  · cases h2

theorem darningref4_Blocks.s {x0 : Sl} {ws : List Int} {k : Sl → Bool → AH → Prop} (hr : Abs.Rows H x0 1 wU ws) (h64 : words64 ws) (hl : ws.length ≤ 1000)
    (h1 : ∀ l, blocksN ws = some l → ∀ s H', Keeps H H' → Own H.size H' s 3 bkV l → k s true H') (h0 : blocksN ws = none → ∀ H', Keeps H H' → k ⟨none, 0, 0⟩ false H') : darningref4_Blocks x0 H k := by
  refine darningref4_Blocks.link ?_
  unfold darningref4_Blocks.b
  refine loopT_inv (t := ((⟨none, 0, 0⟩, false, ⟨none, 0, 0⟩, (0 : Int)) : Sl × Bool × Sl × Int)) (I := fun (t : Sl × Bool × Sl × Int) H' => ∃ (pt : Nat) (acc : List Bk), t.2.2.2 = (pt : Int) ∧ pt ≤ ws.length + 512 ∧ 2 * acc.length ≤ pt ∧ Keeps H H' ∧ Own H.size H' t.2.2.1 3 bkV acc ∧ (∀ b ∈ acc, 0 ≤ b.2.1 ∧ b.2.1 ≤ 100000) ∧ blkFrom ws 0 = (blkFrom ws pt).map (acc ++ ·)) (m := fun (t : Sl × Bool × Sl × Int) _ => Int.toNat ((ws.length : Int) - t.2.2.2)) ?_
    ⟨0, [], rfl, by omega, by simp, Keeps.refl H, .inl ⟨rfl, rfl⟩, by simp, by simp⟩
  intro t H1 hI it hit
  obtain ⟨u1, u2, u3, u4⟩ := t
  obtain ⟨pt, acc, e1, hp, ha, hk, hO, hok, hb⟩ := hI
  simp only at e1 hO
  subst e1
  unfold darningref4_Blocks.l2
  simp only [bcase_eq, decide_eq_true_eq, hr.1]
  by_cases hlt : (pt : Int) < (ws.length : Int)
  · rw [if_pos hlt]
    have hlt' : pt < ws.length := by omega
    obtain ⟨b1, o1, ha1, _, hc1⟩ := rows_cell1 (g := fun v => Value.int .u64 v) (hr.keep hk) (i := pt) hlt'
    refine ⟨by omega, ?_⟩
    rw [ha1, onPtr_mk, Int.toNat_natCast, hc1, elI_some]
    have hg : ws.getD pt 0 = ws[pt] := by rw [List.getD_eq_getElem?_getD, List.getElem?_eq_getElem hlt']; rfl
    have hv : isU ws[pt] := h64 _ (List.getElem_mem hlt')
    rw [blkFrom_eq ws pt, dif_pos hlt', hg] at hb
    generalize ws[pt] = v at *
    refine darningref4_ParseWord.s hv ?_ ?_
    · intro hm
      rw [dif_pos hm] at hb
      have hm' := hm
      unfold mayS at hm'
      rw [if_neg (by simp)]
      refine ⟨rfl, ?_⟩
      rw [newC_eq]
      have hbk : [Value.int .i64 (pt : Int), Value.int .i64 (v / 2), Value.bool (v % 2 == 1)] = bkV ((pt : Int), v / 2, (v % 2 == 1)) := rfl
      rw [hbk]
      refine append_own (H0 := H) (B := H.size) (f := bkV) (x := ((pt : Int), v / 2, (v % 2 == 1))) (l := acc) bkV_len (bkV_ok _) hO (Nat.le_refl _) hk.1 hk (by simp only [lim]; omega) ?_
      intro s' H' hO' hK' _ _
      have e2 : (pt : Int) + v / 2 = ((pt + (v / 2).toNat : Nat) : Int) := by omega
      rw [wrap_i64 (n := (pt : Int) + v / 2) (by omega) (by omega), e2]
      refine hit _ _ ⟨pt + (v / 2).toNat, acc ++ [((pt : Int), v / 2, (v % 2 == 1))], rfl, by omega, by simp; omega, hK', hO', ?_, ?_⟩ (by simp only; omega)
      · intro b hb'
        rw [List.mem_append] at hb'
        rcases hb' with hb' | hb'
        · exact hok b hb'
        · simp at hb'; subst hb'; simp only; omega
      · rw [hb, Option.map_map]
        congr 1
        funext r
        simp
    · intro hm
      rw [dif_neg hm] at hb
      rw [if_pos (by simp)]
      refine h0 ?_ _ hk
      unfold blocksN
      rw [hb]; rfl
  · rw [if_neg hlt]
    have hb' : blkFrom ws 0 = some acc := by
      rw [hb, blkFrom_eq ws pt, dif_neg (by omega)]
      simp
    unfold darningref4_Blocks.j1
    rw [hr.1]
    refine darningref4_MayBlocks.s (hO.rows bkV_len bkV_ok) (by omega) hok (by omega) ?_
    by_cases hm : MayB acc (ws.length : Int)
    · rw [decide_eq_true hm, Bool.not_true, bcase_false]
      refine h1 acc ?_ _ _ hk hO
      unfold blocksN
      rw [hb', Option.bind_some, if_pos hm]
    · rw [decide_eq_false hm, Bool.not_false, bcase_true]
      refine h0 ?_ _ hk
      unfold blocksN
      rw [hb', Option.bind_some, if_neg hm]

theorem chainB.le {words : Int} : ∀ {l : List Bk} {pt : Int} {pu : Bool}, chainB words pt pu l → pt + 2 * l.length ≤ words := by
  intro l
  induction l with
  | nil => intro pt pu h; simp only [chainB] at h; simp; omega
  | cons b r ih =>
    intro pt pu h
    have := ih h.2.2.2.2
    have := h.2.1
    unfold mayS at this
    simp only [List.length_cons]; omega
theorem chainB.mem {words : Int} : ∀ {l : List Bk} {pt : Int} {pu : Bool}, chainB words pt pu l → ∀ b ∈ l, pt ≤ b.1 ∧ b.1 + b.2.1 ≤ words ∧ mayS b.2.1 := by
  intro l
  induction l with
  | nil => intro pt pu h b hb; cases hb
  | cons a r ih =>
    intro pt pu h b hb
    have hs := h.2.1
    unfold mayS at hs
    rw [List.mem_cons] at hb
    rcases hb with rfl | hb
    · have := h.2.2.1; have := h.1; exact ⟨by omega, by omega, h.2.1⟩
    · have := ih h.2.2.2.2 b hb; exact ⟨by omega, this.2⟩
theorem MayB.len {l : List Bk} {words : Int} (h : MayB l words) : 2 * (l.length : Int) ≤ words ∧ words ≤ 512 := by
  have := h.2.le; have := h.1.2.1; omega
theorem MayB.mem {l : List Bk} {words : Int} (h : MayB l words) {b : Bk} (hb : b ∈ l) : 0 ≤ b.1 ∧ b.1 + b.2.1 ≤ words ∧ 2 ≤ b.2.1 ∧ b.2.1 ≤ 512 := by
  have := h.2.mem b hb; have h2 := this.2.2; unfold mayS at h2; omega

theorem darningref4_sizes.s {x0 : Sl} {words : Int} {l : List Bk} {k : Int → AH → Prop} (hr : Abs.Rows H x0 3 bkV l) (hB : MayB l words) (h : k words H) : darningref4_sizes x0 H k := by
  have hlen := hB.len
  refine gcI (j := .i64) words (darningref4_sizes.link ?_) h
  unfold darningref4_sizes.b
  refine loopT_inv (t := (((0 : Int), (0 : Int), (0 : Int)) : Int × Int × Int)) (I := fun (t : Int × Int × Int) H' => ∃ i : Nat, ∃ pu, t.2.2 = (i : Int) ∧ i ≤ l.length ∧ Keeps H H' ∧ 0 ≤ t.2.1 ∧ t.2.1 ≤ words ∧ chainB words t.2.1 pu (l.drop i)) (m := fun (t : Int × Int × Int) _ => Int.toNat ((l.length : Int) - t.2.2)) ?_ ⟨0, true, rfl, by omega, Keeps.refl H, by simp, by simp only; omega, hB.2⟩
  intro t H1 hI it hit
  obtain ⟨t1, pt, t3⟩ := t
  obtain ⟨i, pu, e1, hi, hk, hp0, hp1, hch⟩ := hI
  simp only at e1 hp0 hp1 hch
  subst e1
  unfold darningref4_sizes.l2
  simp only [bcase_eq, decide_eq_true_eq, hr.1]
  by_cases hlt : (i : Int) < (l.length : Int)
  · rw [if_pos hlt]
    have hi' : i < l.length := by omega
    obtain ⟨b, o, ha, hb, hcells⟩ := rows_cells (hr.keep hk) (by omega)
    refine ⟨by omega, ?_⟩
    obtain ⟨hrow, _⟩ := hcells i l[i] (List.getElem?_eq_getElem hi')
    rw [ha, onPtr_mk, Int.toNat_natCast, ldA_some hrow]
    rw [drop_cons hi'] at hch
    generalize l[i] = q at *
    refine new_row (n := 3) rfl (bkV_len q) (bkV_ok q) ?_
    have hB : BkAt (H1.push ⟨bkV q, .rw, 0⟩) H1.size q := BkAt.new
    have hk2 : Keeps H (H1.push ⟨bkV q, .rw, 0⟩) := hk.push _
    generalize H1.push ⟨bkV q, .rw, 0⟩ = H2 at *
    have hs := hch.2.1
    unfold mayS at hs
    have hle := hch.2.2.1
    simp only [hB.c1, elI_some]
    rw [if_neg (by omega)]
    unfold darningref4_sizes.j1
    rw [decide_eq_false (show ¬ q.2.1 > 1000 by omega), bcase_false, hB.c1, elI_some, wrap_i64 (n := pt + q.2.1) (by omega) (by omega), wrap_i64 (n := (i : Int) + 1) (by omega) (by omega)]
    exact hit _ _ ⟨i + 1, q.2.2, by simp, by omega, hk2, by simp only; omega, by simp only; omega, hch.2.2.2.2⟩ (by simp only; omega)
  · rw [if_neg hlt]
    have : i = l.length := by omega
    subst this
    rw [List.drop_length] at hch
    exact ⟨hk, hch⟩
end
end Go.Proofs.Ytgddfhnochcolaa
