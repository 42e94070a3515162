import Derived.Test.YtgechnnadjonaabN10
set_option linter.all false
set_option linter.all false
namespace Go.Proofs.Ytgechnnadjonaab
open Go Go.Abs

section
variable {n sp per : Nat} {mvb len : Nat}

theorem getD_lt {l : List (Int × List Int)} {i : Nat} (hi : i < l.length) : l.getD i (0, []) = l[i] := by rw [List.getD_eq_getElem?_getD, List.getElem?_eq_getElem hi]; rfl
theorem may_nodup {l : List (Int × List Int)} (h : MayL n l) : (l.map (·.1)).Nodup := by
  rw [List.nodup_iff_pairwise_ne, List.pairwise_iff_getElem]
  intro i j hi hj hij
  rw [List.length_map] at hi hj
  have := (h.2.2.2 j hj).2.2 i hij
  unfold lnAt at this
  rw [getD_lt hi, getD_lt hj] at this
  simpa using this
theorem may_range {l : List (Int × List Int)} (h : MayL n l) {q : Int × List Int} (hq : q ∈ l) : 16 ≤ q.1 ∧ q.1 < n := by
  obtain ⟨i, hi, rfl⟩ := List.getElem_of_mem hq
  have := h.2.2.2 i hi
  unfold lnAt at this
  rw [getD_lt hi] at this
  exact ⟨this.1, this.2.1⟩
theorem rowPuts_nodup (l : List (Int × List Int)) : ((rowPuts l).map (·.1)).Nodup := by
  unfold rowPuts
  rw [List.map_map, List.nodup_iff_pairwise_ne, List.pairwise_iff_getElem]
  intro i j hi hj hij
  simp only [List.length_map, List.length_range] at hi hj
  simp only [List.getElem_map, List.getElem_range, Function.comp]
  omega
theorem rowPuts_mem {l : List (Int × List Int)} {q : Int × List Int} (hq : q ∈ rowPuts l) : ∃ i, i < (rowsN l).length ∧ q = ((i : Int), (rowsN l).getD i []) := by
  unfold rowPuts at hq
  rw [List.mem_map] at hq
  obtain ⟨i, hi, rfl⟩ := hq
  exact ⟨i, List.mem_range.1 hi, rfl⟩
theorem rowPuts_at {l : List (Int × List Int)} {i : Nat} (hi : i < (rowsN l).length) : ((i : Int), (rowsN l).getD i []) ∈ rowPuts l := by
  unfold rowPuts
  rw [List.mem_map]
  exact ⟨i, List.mem_range.2 hi, rfl⟩
theorem rowsN_idx {l : List (Int × List Int)} {j : Nat} (hj : j < idxN l.length) : (rowsN l).getD j [] = idxLine l l.length j := by
  unfold rowsN rowsTo
  rw [List.getD_eq_getElem?_getD, List.getElem?_append_left (by simpa using hj), List.getElem?_map, List.getElem?_range hj]; rfl
theorem rowsN_data {l : List (Int × List Int)} {i : Nat} (hi : i < l.length) : (rowsN l).getD (idxN l.length + i) [] = (l.getD i (0, [])).2 := by
  unfold rowsN rowsTo
  rw [List.getD_eq_getElem?_getD, List.getElem?_append_right (by simp), List.length_map, List.length_range, Nat.add_sub_cancel_left, List.take_length, List.getElem?_map, List.getElem?_eq_getElem hi, getD_lt hi]; rfl

/-- A commit that is written in full is read back. -/
theorem homes_back {M : Mem} {l : List (Int × List Int)} (hm : MayL n l) (hn : n ≤ 1000) (hup : M.down = false) (hc : commits M = l.length) (hrow : ∀ i, i < (rowsN l).length → M.tview n sp i = (rowsN l).getD i []) : homesN n sp M = (l, 0) := by
  have hl14 := hm.2.2.1
  have hlen : (rowsN l).length = idxN l.length + l.length := rowsTo_len l (Nat.le_refl _)
  unfold homesN
  rw [if_neg (by simp [hup]), hc, if_neg (by omega), Int.toNat_natCast]
  refine Prod.ext ?_ rfl
  show (List.range l.length).map (homeAt n sp M l.length) = l
  apply List.ext_getElem?
  intro i
  by_cases hi : i < l.length
  · rw [List.getElem?_map, List.getElem?_range hi, List.getElem?_eq_getElem hi, Option.map_some]
    congr 1
    have h8 : i / 8 < idxN l.length := by unfold idxN; omega
    have e1 : M.tview n sp (i / 8) = idxLine l l.length (i / 8) := by rw [hrow _ (by omega), rowsN_idx h8]
    have e2 : M.tview n sp (idxN l.length + i) = l[i].2 := by rw [hrow _ (by omega), rowsN_data hi, getD_lt hi]
    have hr := may_range hm (List.getElem_mem hi)
    have hln : lnAt l i = l[i].1 := by unfold lnAt; rw [getD_lt hi]
    have e3 : (M.tview n sp (i / 8)).getD (i % 8) 0 = l[i].1 := by
      rw [e1]
      unfold idxLine
      rw [List.getD_eq_getElem?_getD, List.getElem?_map, List.getElem?_range (by omega), Option.map_some, Option.getD_some, show 8 * (i / 8) + i % 8 = i by omega, if_pos hi, hln, wrap_u64 (by omega) (by omega)]
    unfold homeAt homeLine
    rw [e2, e3, if_pos hr.2]
  · rw [List.getElem?_eq_none (by simp; omega), List.getElem?_eq_none (by omega)]

/-- What a Commit does without a cut. -/
theorem com_calm {M : Mem} {pt : Nat} {l : List (Int × List Int)} (h : Calm n sp per M pt mvb len) (hn : 16 < n ∧ n ≤ 1000) (hb : mvb + 1000 < 4611686018427387904) (hok : ∀ q ∈ l, putOK q) (hm : MayL n l) (hc : commits M = 0) :
    Calm n sp per (comN n sp per l M pt).1 (comN n sp per l M pt).2.1 (mvb + 40) len ∧
    (((comN n sp per l M pt).2.2 = 3 ∧ commits (comN n sp per l M pt).1 = 0 ∧ ∀ s, 16 ≤ s → s < n → (comN n sp per l M pt).1.tview n sp s = M.tview n sp s) ∨
     ((comN n sp per l M pt).2.2 = 0 ∧ commits (comN n sp per l M pt).1 = 0 ∧ (∀ q ∈ l, (comN n sp per l M pt).1.tview n sp q.1.toNat = q.2) ∧ ∀ s : Nat, 16 ≤ s → s < n → (∀ q ∈ l, q.1 ≠ (s : Int)) → (comN n sp per l M pt).1.tview n sp s = M.tview n sp s) ∨
     ((comN n sp per l M pt).2.2 = 0 ∧ commits (comN n sp per l M pt).1 = l.length ∧ homesN n sp (comN n sp per l M pt).1 = (l, 0) ∧ ∀ s : Nat, 16 ≤ s → s < n → (∀ q ∈ l, q.1 ≠ (s : Int)) → (comN n sp per l M pt).1.tview n sp s = M.tview n sp s)) := by
  have hl14 := hm.2.2.1
  have hl1 := hm.2.1
  have hidx : idxN l.length ≤ 2 := by unfold idxN; omega
  have hlen : (rowsN l).length = idxN l.length + l.length := rowsTo_len l (Nat.le_refl _)
  have hrl := rowPuts_len l
  have hro := rowPuts_ok hok (by omega)
  have hrm : ∀ q ∈ rowPuts l, 0 ≤ q.1 ∧ q.1 < 16 ∧ isLine q.2 := by
    intro q hq
    have h2 := (hro q hq).line
    obtain ⟨i, hi, rfl⟩ := rowPuts_mem hq
    exact ⟨by simp only; omega, by simp only; omega, h2⟩
  obtain ⟨r1, r2, r3, r4, r5, r6⟩ := tputs_calm (by omega) h (by omega) (fun q hq => by have := hrm q hq; exact ⟨this.1, by omega, this.2.2⟩) (rowPuts_nodup l)
  unfold comN
  rw [if_neg (fun hh => hh hm), if_neg (by simp [h.up]), if_neg (by simp [hc])]
  have hhigh : ∀ s : Nat, 16 ≤ s → s < n → (tputs n sp per (rowPuts l) M pt).1.tview n sp s = M.tview n sp s := fun s h1 h2 => r3 s h2 fun q hq => by have := hrm q hq; omega
  generalize tputs n sp per (rowPuts l) M pt = R at *
  by_cases he : R.2.2 = 0
  rotate_left 1
  · rw [if_pos he]
    have he3 : R.2.2 = 3 := by omega
    refine ⟨⟨r1.ps.mono (by omega), r1.up, r1.cut⟩, .inl ⟨he3, ?_, hhigh⟩⟩
    have := r6 1 (.inl rfl)
    unfold commits at hc ⊢
    omega
  rw [if_neg (fun hh => hh he)]
  have hU : isU (l.length : Int) := by unfold isU; omega
  obtain ⟨s1, s2, s3, s4⟩ := set1_calm r1 hU
  rw [if_neg (fun hh => hh s1)]
  have hrow2 : ∀ i, i < (rowsN l).length → (R.1.set 1 (l.length : Int)).1.tview n sp i = (rowsN l).getD i [] := by
    intro i hi
    rw [s4]
    have := r4 he _ (rowPuts_at hi)
    simpa using this
  have hhigh2 : ∀ s : Nat, 16 ≤ s → s < n → (R.1.set 1 (l.length : Int)).1.tview n sp s = M.tview n sp s := fun s h1 h2 => by rw [s4, hhigh s h1 h2]
  generalize (R.1.set 1 (l.length : Int)).1 = M2 at *
  obtain ⟨t1, t2, t3, t4, t5, t6⟩ := tputs_calm (by omega) s2 (by omega) (fun q hq => by have := may_range hm hq; exact ⟨by omega, this.2, (hok q hq).line⟩) (may_nodup hm)
  unfold finN
  simp only
  have hlow3 : ∀ i, i < (rowsN l).length → (tputs n sp per l M2 R.2.1).1.tview n sp i = (rowsN l).getD i [] := by
    intro i hi
    rw [t3 i (by omega) (fun q hq => by have := may_range hm hq; omega), hrow2 i hi]
  have hoth3 : ∀ s : Nat, 16 ≤ s → s < n → (∀ q ∈ l, q.1 ≠ (s : Int)) → (tputs n sp per l M2 R.2.1).1.tview n sp s = M.tview n sp s := fun s h1 h2 h3 => by rw [t3 s h2 h3, hhigh2 s h1 h2]
  have hcm3 : commits (tputs n sp per l M2 R.2.1).1 = l.length := by
    have := t6 1 (.inl rfl)
    unfold commits at s3 ⊢
    rw [this, s3]
  generalize tputs n sp per l M2 R.2.1 = P at *
  by_cases hp : P.2.2 = 0
  · rw [if_pos hp]
    obtain ⟨z1, z2, z3, z4⟩ := set1_calm t1 (v := 0) (by unfold isU; omega)
    refine ⟨⟨z2.ps.mono (by omega), z2.up, z2.cut⟩, .inr (.inl ⟨z1, z3, fun q hq => by rw [z4]; exact t4 hp q hq, fun s h1 h2 h3 => by rw [z4]; exact hoth3 s h1 h2 h3⟩)⟩
  · rw [if_neg hp, if_pos (by omega)]
    refine ⟨⟨t1.ps.mono (by omega), t1.up, t1.cut⟩, .inr (.inr ⟨rfl, hcm3, homes_back hm hn.2 t1.up hcm3 hlow3, hoth3⟩)⟩
end
end Go.Proofs.Ytgechnnadjonaab
