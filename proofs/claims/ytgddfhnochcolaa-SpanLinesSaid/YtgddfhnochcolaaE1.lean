import Derived.Test.YtgddfhnochcolaaMCon
import Derived.Test.YtgddfhnochcolaaI10
set_option linter.all false
set_option linter.all false
namespace Go.Proofs.Ytgddfhnochcolaa
open Go Go.Abs
section
variable {H : AH}
theorem fit_Need.s {n : Int} {k : Int → AH → Prop} (hn : isI n) (h : k (needN n) H) : fit_Need n H k := by
  unfold isI at hn
  refine fit_Need.link ?_
  unfold fit_Need.b fit_Need.j1
  unfold needN at h
  simp only [bcase_eq, decide_eq_true_eq]
  by_cases h1 : n < 1
  · rw [if_pos h1]; rw [if_neg (by omega)] at h; exact h
  rw [if_neg h1]
  by_cases h2 : n > 448
  · rw [if_pos h2]; rw [if_neg (by omega)] at h; exact h
  rw [if_neg h2]
  rw [if_pos (by omega)] at h
  refine ⟨by decide, ?_⟩
  rw [wrap_i64 (n := n + 7) (by omega) (by omega), Int.tdiv_eq_ediv_of_nonneg (by omega), wrap_i64 (n := (n + 7) / 8) (by omega) (by omega), wrap_i64 (by omega) (by omega)]
  rw [show (n + 7) / 8 + 1 = 1 + (n + 7) / 8 by omega]
  exact h
theorem block_May.s {n : Int} {k : Bool → AH → Prop} (h : k (decide (mayS n)) H) : block_May n H k := by
  refine block_May.link ?_
  unfold block_May.b
  simp only [bcase_eq, decide_eq_true_eq]
  by_cases h1 : n ≥ 2
  · rw [if_pos h1]
    by_cases h2 : n ≤ 512
    · rw [decide_eq_true h2]; rw [decide_eq_true (show mayS n from ⟨h1, h2⟩)] at h; exact h
    · rw [decide_eq_false h2]; rw [decide_eq_false (fun hh : mayS n => h2 hh.2)] at h; exact h
  · rw [if_neg h1]; rw [decide_eq_false (fun hh : mayS n => h1 hh.1)] at h; exact h
theorem chain_mayWords.s {n : Int} {k : Bool → AH → Prop} (h : k (decide (mayW n)) H) : chain_mayWords n H k := by
  refine chain_mayWords.link ?_
  unfold chain_mayWords.b
  simp only [bcase_eq, decide_eq_true_eq]
  by_cases h1 : n ≥ 8
  · rw [if_pos h1]
    by_cases h2 : n ≤ 512
    · rw [if_pos h2]
      refine ⟨by decide, ?_⟩
      rw [Int.tmod_eq_emod_of_nonneg (by omega)]
      have e : (n % 8 == 0) = decide (mayW n) := by
        by_cases h3 : n % 8 = 0
        · rw [decide_eq_true (show mayW n from ⟨h1, h2, h3⟩)]; simpa using h3
        · rw [decide_eq_false (fun hh : mayW n => h3 hh.2.2)]; simpa using h3
      rw [e]; exact h
    · rw [if_neg h2]; rw [decide_eq_false (fun hh : mayW n => h2 hh.2.1)] at h; exact h
  · rw [if_neg h1]; rw [decide_eq_false (fun hh : mayW n => h1 hh.1)] at h; exact h
theorem fit_Takes.s {a b : Int} {k : Int → AH → Prop} (ha : 0 ≤ a ∧ a ≤ 1000) (hb : 0 ≤ b ∧ b ≤ 1000) (h : k (takesN a b) H) : fit_Takes a b H k := by
  refine fit_Takes.link ?_
  unfold fit_Takes.b fit_Takes.j1
  unfold takesN at h
  simp only [bcase_eq, decide_eq_true_eq]
  by_cases h1 : b < 2
  · rw [if_pos h1]; rw [if_neg (by omega)] at h; exact h
  rw [if_neg h1]
  by_cases h2 : b > a
  · rw [if_pos h2]; rw [if_neg (by omega)] at h; exact h
  rw [if_neg h2]
  rw [if_pos (by omega)] at h
  rw [wrap_i64 (n := a - b) (by omega) (by omega)]
  by_cases h3 : a - b < 2
  · rw [if_pos h3]; rw [if_pos h3] at h; exact h
  · rw [if_neg h3]; rw [if_neg h3] at h; exact h
theorem block_Word.s {n : Int} {u : Bool} {k : Int → AH → Prop} (h : k (wordN n u) H) : block_Word n u H k := by
  refine block_Word.link ?_
  unfold block_Word.b
  refine block_May.s ?_
  unfold wordN at h
  by_cases h1 : mayS n
  · rw [decide_eq_true h1, Bool.not_true, bcase_false]
    rw [if_pos h1] at h
    refine ⟨by decide, ?_⟩
    rw [shl1 h1, or1 h1]
    cases u with
    | true => rw [bcase_true]; exact h
    | false =>
      rw [bcase_false]
      rw [if_neg (by simp), Int.add_zero] at h
      exact h
  · rw [decide_eq_false h1, Bool.not_false, bcase_true]
    rw [if_neg h1] at h
    exact h
theorem chain_First.s {n : Int} {k : Sl → AH → Prop} (h : ∀ s H', Keeps H H' → Own H.size H' s 1 wU (firstN n) → k s H') : chain_First n H k := by
  refine chain_First.link ?_
  unfold chain_First.b
  unfold firstN at h
  refine chain_mayWords.s ?_
  by_cases hm : mayW n
  rotate_left 1
  · rw [decide_eq_false hm, Bool.not_false, bcase_true]
    rw [if_neg hm] at h
    exact h _ _ (Keeps.refl H) (.inl ⟨rfl, rfl⟩)
  rw [decide_eq_true hm, Bool.not_true, bcase_false]
  rw [if_pos hm] at h
  unfold mayW at hm
  refine ⟨by simp only [lim]; omega, ?_⟩
  rw [newC_eq]
  obtain ⟨m, hm1⟩ : ∃ m : Nat, n.toNat = m + 1 := ⟨n.toNat - 1, by omega⟩
  rw [hm1] at h ⊢
  rw [Nat.add_sub_cancel] at h
  refine block_Word.s ?_
  refine ⟨by omega, ?_⟩
  have hz : zerosOf (m + 1) [Value.int .u64 0] = (List.replicate (m + 1) (0 : Int)).flatMap wU := by
    unfold zerosOf
    rw [List.flatMap_def, List.map_replicate]; rfl
  rw [hz]
  have hO : Own H.size (H.push ⟨(List.replicate (m + 1) (0 : Int)).flatMap wU, .rw, 1⟩) ⟨some ⟨H.size, 0, none⟩, m + 1, 1⟩ 1 wU (List.replicate (m + 1) 0) :=
    .inr ⟨H.size, by simp, Nat.le_refl _, by simp [push_size], by rw [push_get, if_pos rfl]⟩
  have hk := (Keeps.refl H).push ⟨(List.replicate (m + 1) (0 : Int)).flatMap wU, .rw, 1⟩
  generalize H.push ⟨(List.replicate (m + 1) (0 : Int)).flatMap wU, .rw, 1⟩ = H1 at *
  obtain ⟨b', ha', hb1, hb2, hcan, hO', _⟩ := hO.put (i := 0) (x := 0) (y := wordN n false) (fun _ => rfl) (by simp) (j := 0) (by omega) (v := .int .u64 (wordN n false)) rfl
  simp only [Option.some.injEq, Addr.mk.injEq, true_and, and_true] at ha'
  subst ha'
  rw [addr_add]
  refine ⟨hcan, ?_⟩
  exact h _ _ (hk.put hb1 _) hO'
theorem carve_Off.s {b : Bk} {k : Int → AH → Prop} (h : k (offN b.1) H) : carve_Off (bkV b) H k := by
  refine gcI (j := .i64) (offN b.1) (carve_Off.link ?_) h
  unfold carve_Off.b carve_Off.j1
  rw [newC_eq]
  have hk := (Keeps.refl H).push ⟨bkV b, .rw, 0⟩
  have hB : BkAt (H.push ⟨bkV b, .rw, 0⟩) H.size b := BkAt.new
  generalize H.push ⟨bkV b, .rw, 0⟩ = H1 at *
  simp only [hB.c0, elI_some]
  unfold offN
  by_cases h1 : b.1 < 0
  · rw [decide_eq_true h1, bcase_true, bcase_true, if_neg (by omega)]; exact ⟨hk, rfl⟩
  rw [decide_eq_false h1, bcase_false]
  by_cases h2 : b.1 > 512
  · rw [decide_eq_true h2, bcase_true, if_neg (by omega)]; exact ⟨hk, rfl⟩
  rw [decide_eq_false h2, bcase_false, if_pos (by omega), wrap_i64 (n := b.1 + 1) (by omega) (by omega), wrap_i64 (by omega) (by omega)]
  exact ⟨hk, rfl⟩


def fitG (l : List Bk) (need : Int) (j : Nat) : List Nat := if need < 2 then [] else fitsTo l need j
theorem fitG_succ (l : List Bk) (need : Int) (i : Nat) : fitG l need (i + 1) = if need < 2 ∨ (bkAt l i).2.2 = true ∨ (bkAt l i).2.1 < need then fitG l need i else
  let out1 := if 0 < (fitG l need i).length ∧ (bkAt l ((fitG l need i).getD 0 0)).2.1 > (bkAt l i).2.1 then [] else fitG l need i
  if out1.length = 0 ∨ (bkAt l (out1.getD 0 0)).2.1 = (bkAt l i).2.1 then out1 ++ [i] else out1 := by
  unfold fitG
  by_cases h : need < 2
  · simp [h]
  · simp only [h, if_false, false_or]
    rw [fitsTo_succ]; rfl
theorem fitG_mem {l : List Bk} {need : Int} {i j : Nat} (h : i ∈ fitG l need j) : i < j := by
  unfold fitG at h
  split at h
  · cases h
  · exact (fitsTo_mem h).1
theorem fitG_len {l : List Bk} {need : Int} {j : Nat} : (fitG l need j).length ≤ j := by
  unfold fitG
  split
  · exact Nat.zero_le _
  · exact fitsTo_len
theorem fit_Fits.s {x0 : Sl} {need : Int} {l : List Bk} {k : Sl → AH → Prop} (hr : Abs.Rows H x0 3 bkV l) (hl : l.length ≤ 100000)
    (h : ∀ s H', Keeps H H' → Own H.size H' s 1 nV (fitsL l need) → k s H') : fit_Fits x0 need H k := by
  refine fit_Fits.link ?_
  unfold fit_Fits.b
  refine loopT_inv (t := ((⟨none, 0, 0⟩, (0 : Int)) : Sl × Int)) (I := fun (t : Sl × Int) H' => ∃ i : Nat, t.2 = (i : Int) ∧ i ≤ l.length ∧ Keeps H H' ∧ Own H.size H' t.1 1 nV (fitG l need i)) (m := fun (t : Sl × Int) _ => Int.toNat ((l.length : Int) - t.2)) ?_ ⟨0, rfl, by omega, Keeps.refl H, .inl ⟨rfl, by unfold fitG fitsTo; split <;> rfl⟩⟩
  intro t H1 hI it hit
  obtain ⟨s, t2⟩ := t
  obtain ⟨i, e1, hi, hk, hO⟩ := hI
  simp only at e1 hO
  subst e1
  unfold fit_Fits.l5
  simp only [bcase_eq, decide_eq_true_eq, hr.1]
  by_cases hlt : (i : Int) < (l.length : Int)
  · rw [if_pos hlt]
    have hi' : i < l.length := by omega
    obtain ⟨b, o, ha, hb, hcells⟩ := rows_cells (hr.keep hk) (by omega)
    refine ⟨by omega, ?_⟩
    have hgi := bkAt_get hi'
    obtain ⟨hrow, _⟩ := hcells i _ hgi
    rw [ha, onPtr_mk, Int.toNat_natCast, ldA_some hrow]
    have hstep := fitG_succ l need i
    unfold fitStep at hstep
    simp only at hstep
    have hmem : ∀ j, j ∈ fitG l need i → j < l.length := fun j hj => by have := fitG_mem hj; omega
    have hlen := fitG_len (l := l) (need := need) (j := i)
    generalize hq : bkAt l i = q at *
    generalize fitG l need i = out at *
    refine new_row (n := 3) rfl (bkV_len q) (bkV_ok q) ?_
    have hB : BkAt (H1.push ⟨bkV q, .rw, 0⟩) H1.size q := BkAt.new
    have hk2 : Keeps H (H1.push ⟨bkV q, .rw, 0⟩) := hk.push _
    have hO2 : Own H.size (H1.push ⟨bkV q, .rw, 0⟩) s 1 nV out := hO.keep (by simp [push_size]) (fun b _ hb => push_get_ne (by omega))
    have hcs : ∀ j x, l[j]? = some x → AH.cell? (H1.push ⟨bkV q, .rw, 0⟩) (Addr.add (Addr.add ⟨b, o, none⟩ (j * 3)) 1) = some (.int .i64 x.2.1) := fun j x hx => by
      have := (hcells j x hx).2 1 (.int .i64 x.2.1) rfl
      rw [addr_add, addr_add] at this ⊢
      rw [AH.cell?, push_get_ne (by show b ≠ H1.size; omega)]
      exact this
    generalize H1.push ⟨bkV q, .rw, 0⟩ = H2 at *
    have hwi : IntKind.wrap .i64 ((i : Int) + 1) = ((i + 1 : Nat) : Int) := by rw [wrap_i64 (by omega) (by omega)]; omega
    have next : ∀ s' H', Keeps H H' → Own H.size H' s' 1 nV (fitG l need (i + 1)) → it (s', ((i + 1 : Nat) : Int)) H' := fun s' H' a b => hit _ _ ⟨i + 1, rfl, by omega, a, b⟩ (by simp only; omega)
    have oN : ∀ {s' : Sl} {o' : List Nat}, Own H.size H2 s' 1 nV o' → s'.n = o'.length := fun h => own_n h
    have j2 : ∀ (s' : Sl) (o' : List Nat), Own H.size H2 s' 1 nV o' → (∀ j, j ∈ o' → j < l.length) → o'.length ≤ i → fitG l need (i + 1) = (if o'.length = 0 ∨ (bkAt l (o'.getD 0 0)).2.1 = q.2.1 then o' ++ [i] else o') → fit_Fits.j2 x0 (s, (i : Int)) it H1.size H2 s' := by
      intro s' o' hO' hm' hl' hst
      have j1 : ∀ x : Bool, (x = true ↔ (o'.length = 0 ∨ (bkAt l (o'.getD 0 0)).2.1 = q.2.1)) → fit_Fits.j1 (s, (i : Int)) it H2 s' x := by
        intro x hx
        unfold fit_Fits.j1
        rw [hwi, bcase_eq]
        by_cases hx' : x = true
        · rw [if_pos hx', newC_eq]
          rw [if_pos (hx.1 hx')] at hst
          refine append_own (H0 := H) (B := H.size) (f := nV) (x := i) (l := o') (fun _ => rfl) rfl hO' (Nat.le_refl _) hk2.1 hk2 (by simp only [lim]; omega) ?_
          intro s'' H' hO'' hK' _ _
          rw [← hst] at hO''
          exact next _ _ hK' hO''
        · rw [if_neg hx']
          rw [if_neg (fun hh => hx' (hx.2 hh))] at hst
          refine next _ _ hk2 ?_
          rw [hst]; exact hO'
      unfold fit_Fits.j2
      simp only [bcase_eq, oN hO']
      by_cases h0 : o'.length = 0
      · rw [if_pos (by simpa using h0)]
        exact j1 true (by simp [h0])
      · rw [if_neg (by simpa using h0), hB.c1, elI_some]
        have hg0 : o'[0]? = some (o'.getD 0 0) := by rw [List.getD_eq_getElem?_getD, List.getElem?_eq_getElem (by omega)]; rfl
        have hmem0 := hm' (o'.getD 0 0) (List.mem_of_getElem? hg0)
        obtain ⟨b0, ha0, _, _, hc0⟩ := hO'.cell (fun _ => rfl) hg0 (j := 0) (by omega)
        refine ⟨by omega, ?_⟩
        rw [ha0, onPtr_mk, addr_add, show AH.cell? H2 ⟨b0, 0 + Int.toNat 0 * 1, none⟩ = some (.int .i64 ((o'.getD 0 0 : Nat) : Int)) from hc0, elI_some, hr.1]
        refine ⟨by omega, ?_⟩
        rw [ha, onPtr_mk, Int.toNat_natCast, hcs _ _ (bkAt_get hmem0), elI_some]
        refine j1 _ ?_
        simp only [h0, false_or, beq_iff_eq]; exact eq_comm
    have j4 : ∀ x : Bool, (x = true ↔ (need < 2 ∨ q.2.2 = true ∨ q.2.1 < need)) → fit_Fits.j4 x0 (s, (i : Int)) it H1.size H2 x := by
      intro x hx
      unfold fit_Fits.j4
      rw [hwi]
      simp only [bcase_eq, decide_eq_true_eq]
      by_cases hx' : x = true
      · rw [if_pos hx']
        rw [if_pos (hx.1 hx')] at hstep
        exact next _ _ hk2 (by rw [hstep]; exact hO2)
      · rw [if_neg hx']
        rw [if_neg (fun hh => hx' (hx.2 hh))] at hstep
        have j3 : ∀ y : Bool, (y = true ↔ (0 < out.length ∧ (bkAt l (out.getD 0 0)).2.1 > q.2.1)) → fit_Fits.j3 x0 (s, (i : Int)) it H1.size H2 y := by
          intro y hy
          unfold fit_Fits.j3
          rw [bcase_eq]
          by_cases hy' : y = true
          · rw [if_pos hy']
            rw [if_pos (hy.1 hy')] at hstep
            exact j2 _ [] (.inl ⟨rfl, rfl⟩) (fun j hj => by cases hj) (Nat.zero_le _) hstep
          · rw [if_neg hy']
            rw [if_neg (fun hh => hy' (hy.2 hh))] at hstep
            exact j2 _ out hO2 hmem hlen hstep
        rw [oN hO2]
        by_cases h0 : (out.length : Int) > 0
        · rw [if_pos h0, hB.c1, elI_some]
          have hg0 : out[0]? = some (out.getD 0 0) := by rw [List.getD_eq_getElem?_getD, List.getElem?_eq_getElem (by omega)]; rfl
          have hmem0 := hmem (out.getD 0 0) (List.mem_of_getElem? hg0)
          obtain ⟨b0, ha0, _, _, hc0⟩ := hO2.cell (fun _ => rfl) hg0 (j := 0) (by omega)
          refine ⟨by omega, ?_⟩
          rw [ha0, onPtr_mk, addr_add, show AH.cell? H2 ⟨b0, 0 + Int.toNat 0 * 1, none⟩ = some (.int .i64 ((out.getD 0 0 : Nat) : Int)) from hc0, elI_some, hr.1]
          refine ⟨by omega, ?_⟩
          rw [ha, onPtr_mk, Int.toNat_natCast, hcs _ _ (bkAt_get hmem0), elI_some]
          refine j3 _ ?_
          rw [decide_eq_true_eq]
          exact ⟨fun hh => ⟨by omega, hh⟩, fun hh => hh.2⟩
        · rw [if_neg h0]
          refine j3 false ?_
          constructor
          · intro hh; cases hh
          · intro hh; omega
    by_cases hn : need < 2
    · rw [if_pos hn]; exact j4 true (by simp [hn])
    rw [if_neg hn]
    simp only [hB.c2, elB_some]
    by_cases hu : q.2.2 = true
    · rw [if_pos hu]; exact j4 true (by simp [hu])
    · rw [if_neg hu, hB.c1, elI_some]
      refine j4 _ ?_
      rw [decide_eq_true_eq]
      exact ⟨fun hh => .inr (.inr hh), fun hh => (hh.resolve_left hn).resolve_left hu⟩
  · rw [if_neg hlt]
    have : i = l.length := by omega
    subst this
    exact h _ _ hk hO


/-! ### look-ups -/
def idxN (x : Int) : List Int → Nat → Int
  | [], _ => -1
  | a :: r, i => if x = a then (i : Int) else idxN x r (i + 1)
theorem idxN_mem (x : Int) : ∀ (l : List Int) (i : Nat), (0 ≤ idxN x l i ↔ x ∈ l) := by
  intro l
  induction l with
  | nil => intro i; simp [idxN]
  | cons a r ih =>
    intro i
    simp only [idxN, List.mem_cons]
    split
    · rename_i h; simp [h]
    · rename_i h; rw [ih]; simp [h]
theorem slices_Index_intint.s {x0 : Sl} {x : Int} {l : List Int} {k : Int → AH → Prop} (hr : Abs.Rows H x0 1 iV l) (hl : l.length ≤ 100000) (h : k (idxN x l 0) H) : slices_Index_intint x0 x H k := by
  refine gcI (j := .i64) (idxN x l 0) (slices_Index_intint.link ?_) h
  unfold slices_Index_intint.b
  refine loopT_inv (t := (((0 : Int), (0 : Int)) : Int × Int)) (I := fun (t : Int × Int) H' => ∃ i : Nat, t.2 = (i : Int) ∧ i ≤ l.length ∧ Keeps H H' ∧ idxN x l 0 = idxN x (l.drop i) i) (m := fun (t : Int × Int) _ => Int.toNat ((l.length : Int) - t.2)) ?_ ⟨0, rfl, by omega, Keeps.refl H, rfl⟩
  intro t H1 hI it hit
  obtain ⟨t1, t2⟩ := t
  obtain ⟨i, e1, hi, hk, he⟩ := hI
  simp only at e1
  subst e1
  unfold slices_Index_intint.l1
  simp only [bcase_eq, decide_eq_true_eq, hr.1]
  by_cases hlt : (i : Int) < (l.length : Int)
  · rw [if_pos hlt]
    have hi' : i < l.length := by omega
    obtain ⟨b, o, ha, hb, hcells⟩ := rows_cells (hr.keep hk) (by omega)
    refine ⟨by omega, ?_⟩
    have hc := (hcells i l[i] (List.getElem?_eq_getElem hi')).2 0 _ rfl
    rw [addr_add, addr_add] at hc
    rw [ha, onPtr_mk, Int.toNat_natCast, addr_add, show AH.cell? H1 ⟨b, o + i * 1, none⟩ = _ from hc, elI_some]
    rw [drop_cons hi'] at he
    simp only [idxN] at he
    by_cases h1 : x = l[i]
    · rw [if_pos (by simpa using h1)]
      rw [if_pos h1] at he
      exact ⟨hk, he.symm⟩
    · rw [if_neg (by simpa using h1)]
      rw [if_neg h1] at he
      rw [wrap_i64 (n := (i : Int) + 1) (by omega) (by omega)]
      exact hit _ _ ⟨i + 1, by simp, by omega, hk, he⟩ (by simp only; omega)
  · rw [if_neg hlt]
    have : i = l.length := by omega
    subst this
    rw [List.drop_length] at he
    exact ⟨hk, he.symm⟩
theorem slices_Contains_intint.s {x0 : Sl} {x : Int} {l : List Int} {k : Bool → AH → Prop} (hr : Abs.Rows H x0 1 iV l) (hl : l.length ≤ 100000) (h : k (decide (x ∈ l)) H) : slices_Contains_intint x0 x H k := by
  refine slices_Contains_intint.link ?_
  unfold slices_Contains_intint.b
  refine slices_Index_intint.s hr hl ?_
  have e : decide (idxN x l 0 ≥ 0) = decide (x ∈ l) := by
    have := idxN_mem x l 0
    by_cases hm : x ∈ l
    · rw [decide_eq_true hm, decide_eq_true (this.2 hm)]
    · rw [decide_eq_false hm, decide_eq_false (fun hh => hm (this.1 hh))]
  rw [e]; exact h

/-- The block that holds a word. -/
def atN (pt : Int) : List Bk → Nat → Int
  | [], _ => -1
  | b :: r, i => if b.1 ≤ pt ∧ 0 < b.2.1 ∧ pt - b.1 < b.2.1 then (i : Int) else atN pt r (i + 1)
theorem wrap_u64' {n : Int} (h1 : 0 ≤ n) (h2 : n ≤ 18446744073709551615) : IntKind.wrap .u64 n = n := wrap_u64 h1 (by omega)
theorem chain_At.s {x0 : Sl} {pt : Int} {l : List Bk} {k : Int → AH → Prop} (hr : Abs.Rows H x0 3 bkV l) (hl : l.length ≤ 100000) (hok : ∀ b ∈ l, 0 ≤ b.1 ∧ 0 ≤ b.2.1 ∧ b.1 ≤ 100000 ∧ b.2.1 ≤ 100000) (hpt : isI pt) (h : k (atN pt l 0) H) : chain_At x0 pt H k := by
  unfold isI at hpt
  refine gcI (j := .i64) (atN pt l 0) (chain_At.link ?_) h
  unfold chain_At.b
  refine loopT_inv (t := (((0 : Int), (0 : Int)) : Int × Int)) (I := fun (t : Int × Int) H' => ∃ i : Nat, t.2 = (i : Int) ∧ i ≤ l.length ∧ Keeps H H' ∧ atN pt l 0 = atN pt (l.drop i) i) (m := fun (t : Int × Int) _ => Int.toNat ((l.length : Int) - t.2)) ?_ ⟨0, rfl, by omega, Keeps.refl H, rfl⟩
  intro t H1 hI it hit
  obtain ⟨t1, t2⟩ := t
  obtain ⟨i, e1, hi, hk, he⟩ := hI
  simp only at e1
  subst e1
  unfold chain_At.l1
  simp only [bcase_eq, decide_eq_true_eq, hr.1]
  by_cases hlt : (i : Int) < (l.length : Int)
  · rw [if_pos hlt]
    have hi' : i < l.length := by omega
    obtain ⟨b, o, ha, hb, hcells⟩ := rows_cells (hr.keep hk) (by omega)
    refine ⟨by omega, ?_⟩
    obtain ⟨hrow, _⟩ := hcells i l[i] (List.getElem?_eq_getElem hi')
    have hq := hok l[i] (List.getElem_mem hi')
    rw [ha, onPtr_mk, Int.toNat_natCast, ldA_some hrow]
    rw [drop_cons hi'] at he
    simp only [atN] at he
    generalize l[i] = q at *
    refine new_row (n := 3) rfl (bkV_len q) (bkV_ok q) ?_
    have hB : BkAt (H1.push ⟨bkV q, .rw, 0⟩) H1.size q := BkAt.new
    have hk2 : Keeps H (H1.push ⟨bkV q, .rw, 0⟩) := hk.push _
    generalize H1.push ⟨bkV q, .rw, 0⟩ = H2 at *
    simp only [hB.c0, hB.c1, elI_some]
    rw [wrap_i64 (n := (i : Int) + 1) (by omega) (by omega)]
    have next : ¬ (q.1 ≤ pt ∧ 0 < q.2.1 ∧ pt - q.1 < q.2.1) → it (t1, (i : Int) + 1) H2 := fun hn => by
      rw [if_neg hn] at he
      exact hit _ _ ⟨i + 1, by simp, by omega, hk2, he⟩ (by simp only; omega)
    by_cases h1 : pt ≥ q.1
    · rw [if_pos h1]
      by_cases h2 : q.2.1 > 0
      · rw [if_pos h2, wrap_u64' (n := pt) (by omega) (by omega), wrap_u64' (n := q.1) (by omega) (by omega), wrap_u64' (n := q.2.1) (by omega) (by omega), wrap_u64' (n := pt - q.1) (by omega) (by omega)]
        by_cases h3 : pt - q.1 < q.2.1
        · rw [if_pos h3]
          rw [if_pos ⟨h1, h2, h3⟩] at he
          exact ⟨hk2, he.symm⟩
        · rw [if_neg h3]; exact next (fun hh => h3 hh.2.2)
      · rw [if_neg h2]; exact next (fun hh => h2 hh.2.1)
    · rw [if_neg h1]; exact next (fun hh => h1 hh.1)
  · rw [if_neg hlt]
    have : i = l.length := by omega
    subst this
    rw [List.drop_length] at he
    exact ⟨hk, he.symm⟩

/-! ### clones -/
theorem slices_Clone_bytebyte.s {sl : Sl} {bs : List Int} {k : Sl → AH → Prop} (hw : Abs.Rows H sl 1 bU bs) (hl : bs.length ≤ 1000000)
    (h : ∀ s H', Keeps H H' → Own H.size H' s 1 bU bs → k s H') : slices_Clone_bytebyte sl H k := by
  refine slices_Clone_bytebyte.link ?_
  unfold slices_Clone_bytebyte.b
  cases ha : sl.a with
  | none =>
    rw [Option.isNone_none, bcase_true]
    refine h _ _ (Keeps.refl H) (.inl ⟨rfl, ?_⟩)
    cases bs with
    | nil => rfl
    | cons x r =>
      obtain ⟨a, h1, _⟩ := hw.2 0 x rfl
      rw [ha] at h1; cases h1
  | some a =>
    rw [Option.isNone_some, bcase_false, newC_eq]
    refine append_list (H0 := H) (B := H.size) (l := []) (r := bs) (fun _ => rfl) (fun _ => rfl) (.inr ⟨H.size, rfl, Nat.le_refl _, by simp [push_size], by simp [push_get]⟩) (hw.keep ((Keeps.refl H).push _)) (Nat.le_refl _) (by simp [push_size]) ((Keeps.refl H).push _) (by simp [lim]; omega) ?_
    intro s' H' hO hk _ _
    exact h s' H' hk hO
theorem slices_Clone_extent.s {α : Type} {f : α → List Value} {sl : Sl} {l : List α} {k : Sl → AH → Prop} (hf : ∀ x, (f x).length = 3) (hc : ∀ x, (f x).all cellOK = true) (hw : Abs.Rows H sl 3 f l) (hl : l.length ≤ 1000000)
    (h : ∀ s H', Keeps H H' → Own H.size H' s 3 f l → k s H') : slices_Clone_extent sl H k := by
  refine slices_Clone_extent.link ?_
  unfold slices_Clone_extent.b
  cases ha : sl.a with
  | none =>
    rw [Option.isNone_none, bcase_true]
    refine h _ _ (Keeps.refl H) (.inl ⟨rfl, ?_⟩)
    cases l with
    | nil => rfl
    | cons x r =>
      obtain ⟨a, h1, _⟩ := hw.2 0 x rfl
      rw [ha] at h1; cases h1
  | some a =>
    rw [Option.isNone_some, bcase_false, newC_eq]
    refine append_list (H0 := H) (B := H.size) (l := []) (r := l) hf hc (.inr ⟨H.size, rfl, Nat.le_refl _, by simp [push_size], by simp [push_get]⟩) (hw.keep ((Keeps.refl H).push _)) (Nat.le_refl _) (by simp [push_size]) ((Keeps.refl H).push _) (by simp [lim]; omega) ?_
    intro s' H' hO hk _ _
    exact h s' H' hk hO
end
end Go.Proofs.Ytgddfhnochcolaa
