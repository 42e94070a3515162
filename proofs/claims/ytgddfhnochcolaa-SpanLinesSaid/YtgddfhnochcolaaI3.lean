import Derived.Test.YtgddfhnochcolaaI2
set_option linter.all false
set_option linter.all false
namespace Go.Proofs.Ytgddfhnochcolaa
open Go Go.Abs

def nV (i : Nat) : List Value := [.int .i64 (i : Int)]
def bkAt (l : List Bk) (i : Nat) : Bk := l.getD i (0, 0, false)
def fitStep (l : List Bk) (need : Int) (out : List Nat) (i : Nat) : List Nat :=
  if (bkAt l i).2.2 = true ∨ (bkAt l i).2.1 < need then out else
  let out1 := if 0 < out.length ∧ (bkAt l (out.getD 0 0)).2.1 > (bkAt l i).2.1 then [] else out
  if out1.length = 0 ∨ (bkAt l (out1.getD 0 0)).2.1 = (bkAt l i).2.1 then out1 ++ [i] else out1
def fitsTo (l : List Bk) (need : Int) (j : Nat) : List Nat := (List.range j).foldl (fitStep l need) []
def fitsL (l : List Bk) (need : Int) : List Nat := if need < 2 then [] else fitsTo l need l.length
theorem fitsTo_succ (l : List Bk) (need : Int) (j : Nat) : fitsTo l need (j + 1) = fitStep l need (fitsTo l need j) j := by
  unfold fitsTo; rw [List.range_succ, List.foldl_append]; rfl
theorem fitStep_mem {l : List Bk} {need : Int} {out : List Nat} {i j : Nat} (h : j ∈ fitStep l need out i) : j ∈ out ∨ (j = i ∧ (bkAt l i).2.2 = false ∧ need ≤ (bkAt l i).2.1) := by
  unfold fitStep at h
  split at h
  · exact .inl h
  · rename_i h1
    simp only at h
    have h3 : (bkAt l i).2.2 = false ∧ need ≤ (bkAt l i).2.1 := by
      constructor
      · cases hh : (bkAt l i).2.2
        · rfl
        · exact absurd (.inl hh) h1
      · exact Int.not_lt.1 fun hh => h1 (.inr hh)
    have hsub : ∀ x, x ∈ (if 0 < out.length ∧ (bkAt l (out.getD 0 0)).2.1 > (bkAt l i).2.1 then [] else out) → x ∈ out := by
      intro x hx
      split at hx
      · cases hx
      · exact hx
    generalize (if 0 < out.length ∧ (bkAt l (out.getD 0 0)).2.1 > (bkAt l i).2.1 then [] else out) = o1 at h hsub
    split at h
    · rw [List.mem_append] at h
      rcases h with h | h
      · exact .inl (hsub _ h)
      · simp at h; exact .inr ⟨h, h3⟩
    · exact .inl (hsub _ h)
theorem fitsTo_mem {l : List Bk} {need : Int} : ∀ {j i : Nat}, i ∈ fitsTo l need j → i < j ∧ (bkAt l i).2.2 = false ∧ need ≤ (bkAt l i).2.1 := by
  intro j
  induction j with
  | zero => intro i h; cases h
  | succ j ih =>
    intro i h
    rw [fitsTo_succ] at h
    rcases fitStep_mem h with h | ⟨rfl, h⟩
    · have := ih h; exact ⟨by omega, this.2⟩
    · exact ⟨by omega, h⟩
theorem fitsTo_len {l : List Bk} {need : Int} : ∀ {j : Nat}, (fitsTo l need j).length ≤ j := by
  intro j
  induction j with
  | zero => exact Nat.le_refl _
  | succ j ih =>
    rw [fitsTo_succ]
    unfold fitStep
    split
    · omega
    · simp only
      have hx : (if 0 < (fitsTo l need j).length ∧ (bkAt l ((fitsTo l need j).getD 0 0)).2.1 > (bkAt l j).2.1 then [] else fitsTo l need j).length ≤ j := by
        split
        · exact Nat.zero_le _
        · exact ih
      generalize (if 0 < (fitsTo l need j).length ∧ (bkAt l ((fitsTo l need j).getD 0 0)).2.1 > (bkAt l j).2.1 then [] else fitsTo l need j) = o1 at *
      split
      · rw [List.length_append]; simp only [List.length_cons, List.length_nil]; omega
      · omega
theorem bkAt_get {l : List Bk} {i : Nat} (hi : i < l.length) : l[i]? = some (bkAt l i) := by
  unfold bkAt; rw [List.getD_eq_getElem?_getD, List.getElem?_eq_getElem hi]; rfl

def countN (pt : Int) (cs : List Int) : Int := if pt < 0 ∨ (cs.length : Int) ≤ pt / 32 then 0 else cs.getD (pt / 32).toNat 0
def chStep (l : List Bk) (cs : List Int) (best : Int) (i : Nat) : Int :=
  if best < 0 ∨ countN (bkAt l i).1 cs < countN (bkAt l best.toNat).1 cs ∨ (countN (bkAt l i).1 cs = countN (bkAt l best.toNat).1 cs ∧ (bkAt l i).1 < (bkAt l best.toNat).1) then (i : Int) else best
def chooseN (l : List Bk) (need : Int) (cs : List Int) : Int := (fitsL l need).foldl (chStep l cs) (-1)
theorem chFold_mem {l : List Bk} {cs : List Int} : ∀ {f : List Nat} {b : Int}, f.foldl (chStep l cs) b = b ∨ ∃ i ∈ f, f.foldl (chStep l cs) b = (i : Int) := by
  intro f
  induction f with
  | nil => intro b; exact .inl rfl
  | cons a r ih =>
    intro b
    simp only [List.foldl_cons]
    rcases ih (b := chStep l cs b a) with h | ⟨i, hi, h⟩
    · rw [h]
      unfold chStep
      split
      · exact .inr ⟨a, by simp, rfl⟩
      · exact .inl rfl
    · exact .inr ⟨i, by simp [hi], h⟩
theorem chooseN_mem {l : List Bk} {need : Int} {cs : List Int} : chooseN l need cs = -1 ∨ ∃ i : Nat, chooseN l need cs = (i : Int) ∧ i < l.length ∧ (bkAt l i).2.2 = false ∧ need ≤ (bkAt l i).2.1 ∧ 2 ≤ need := by
  unfold chooseN
  rcases chFold_mem (l := l) (cs := cs) (f := fitsL l need) (b := -1) with h | ⟨i, hi, h⟩
  · exact .inl h
  · unfold fitsL at hi
    split at hi
    · cases hi
    · obtain ⟨h1, h2, h3⟩ := fitsTo_mem hi
      exact .inr ⟨i, h, h1, h2, h3, by omega⟩

section
variable {H : AH}

theorem darningref4_Fits.s {x0 : Sl} {need : Int} {l : List Bk} {k : Sl → AH → Prop} (hr : Abs.Rows H x0 3 bkV l) (hl : l.length ≤ 100000)
    (h : ∀ s H', Keeps H H' → Own H.size H' s 1 nV (fitsL l need) → k s H') : darningref4_Fits x0 need H k := by
  refine darningref4_Fits.link ?_
  unfold darningref4_Fits.b
  simp only [bcase_eq, decide_eq_true_eq]
  by_cases hn : need < 2
  · rw [if_pos hn]
    exact h _ _ (Keeps.refl H) (by unfold fitsL; rw [if_pos hn]; exact .inl ⟨rfl, rfl⟩)
  rw [if_neg hn]
  refine loopT_inv (t := ((⟨none, 0, 0⟩, (0 : Int)) : Sl × Int)) (I := fun (t : Sl × Int) H' => ∃ i : Nat, t.2 = (i : Int) ∧ i ≤ l.length ∧ Keeps H H' ∧ Own H.size H' t.1 1 nV (fitsTo l need i)) (m := fun (t : Sl × Int) _ => Int.toNat ((l.length : Int) - t.2)) ?_ ⟨0, rfl, by omega, Keeps.refl H, .inl ⟨rfl, rfl⟩⟩
  intro t H1 hI it hit
  obtain ⟨s, t2⟩ := t
  obtain ⟨i, e1, hi, hk, hO⟩ := hI
  simp only at e1 hO
  subst e1
  unfold darningref4_Fits.l5
  simp only [bcase_eq, decide_eq_true_eq, hr.1]
  by_cases hlt : (i : Int) < (l.length : Int)
  · rw [if_pos hlt]
    have hi' : i < l.length := by omega
    obtain ⟨b, o, ha, hb, hcells⟩ := rows_cells (hr.keep hk) (by omega)
    refine ⟨by omega, ?_⟩
    have hgi := bkAt_get hi'
    obtain ⟨hrow, _⟩ := hcells i _ hgi
    rw [ha, onPtr_mk, Int.toNat_natCast, ldA_some hrow]
    have hstep := fitsTo_succ l need i
    unfold fitStep at hstep
    simp only at hstep
    have hmem : ∀ j, j ∈ fitsTo l need i → j < l.length := fun j hj => by have := (fitsTo_mem hj).1; omega
    have hlen := fitsTo_len (l := l) (need := need) (j := i)
    generalize hq : bkAt l i = q at *
    generalize fitsTo l need i = out at *
    refine new_row (n := 3) rfl (bkV_len q) (bkV_ok q) ?_
    have hB : BkAt (H1.push ⟨bkV q, .rw, 0⟩) H1.size q := BkAt.new
    have hk2 : Keeps H (H1.push ⟨bkV q, .rw, 0⟩) := hk.push _
    have hO2 : Own H.size (H1.push ⟨bkV q, .rw, 0⟩) s 1 nV out := hO.keep (by simp [push_size]) (fun b _ hb => push_get_ne (by omega))
    have hcs : ∀ j x, l[j]? = some x → AH.cell? (H1.push ⟨bkV q, .rw, 0⟩) (Addr.add (Addr.add ⟨b, o, none⟩ (j * 3)) 1) = some (.int .i64 x.2.1) := fun j x hx => by
      have := (hcells j x hx).2 1 (.int .i64 x.2.1) rfl
      rw [addr_add, addr_add] at this ⊢
      rw [AH.cell?, push_get_ne (by show b ≠ H1.size; omega)]
      exact this
    generalize H1.push ⟨bkV q, .rw, 0⟩ = H2 at *
    have hwi : IntKind.wrap .i64 ((i : Int) + 1) = ((i + 1 : Nat) : Int) := by rw [wrap_i64 (by omega) (by omega)]; omega
    have next : ∀ s' H', Keeps H H' → Own H.size H' s' 1 nV (fitsTo l need (i + 1)) → it (s', ((i + 1 : Nat) : Int)) H' := fun s' H' a b => hit _ _ ⟨i + 1, rfl, by omega, a, b⟩ (by simp only; omega)
    have oN : ∀ {s' : Sl} {o' : List Nat}, Own H.size H2 s' 1 nV o' → s'.n = o'.length := fun h => own_n h
    have j2 : ∀ (s' : Sl) (o' : List Nat), Own H.size H2 s' 1 nV o' → (∀ j, j ∈ o' → j < l.length) → o'.length ≤ i → fitsTo l need (i + 1) = (if o'.length = 0 ∨ (bkAt l (o'.getD 0 0)).2.1 = q.2.1 then o' ++ [i] else o') → darningref4_Fits.j2 x0 (s, (i : Int)) it H1.size H2 s' := by
      intro s' o' hO' hm' hl' hst
      have j1 : ∀ x : Bool, (x = true ↔ (o'.length = 0 ∨ (bkAt l (o'.getD 0 0)).2.1 = q.2.1)) → darningref4_Fits.j1 (s, (i : Int)) it H2 s' x := by
        intro x hx
        unfold darningref4_Fits.j1
        rw [hwi, bcase_eq]
        by_cases hx' : x = true
        · rw [if_pos hx', newC_eq]
          rw [if_pos (hx.1 hx')] at hst
          refine append_own (H0 := H) (B := H.size) (f := nV) (x := i) (l := o') (fun _ => rfl) rfl hO' (Nat.le_refl _) hk2.1 hk2 (by simp only [lim]; omega) ?_
          intro s'' H' hO'' hK' _ _
          rw [← hst] at hO''
          exact next _ _ hK' hO''
        · rw [if_neg hx']
          rw [if_neg (fun hh => hx' (hx.2 hh))] at hst
          refine next _ _ hk2 ?_
          rw [hst]; exact hO'
      unfold darningref4_Fits.j2
      simp only [bcase_eq, oN hO']
      by_cases h0 : o'.length = 0
      · rw [if_pos (by simpa using h0)]
        exact j1 true (by simp [h0])
      · rw [if_neg (by simpa using h0)]
        have hg0 : o'[0]? = some (o'.getD 0 0) := by rw [List.getD_eq_getElem?_getD, List.getElem?_eq_getElem (by omega)]; rfl
        have hmem0 := hm' (o'.getD 0 0) (List.mem_of_getElem? hg0)
        obtain ⟨b0, ha0, _, _, hc0⟩ := hO'.cell (fun _ => rfl) hg0 (j := 0) (by omega)
        refine ⟨by omega, ?_⟩
        rw [ha0, onPtr_mk, addr_add, show AH.cell? H2 ⟨b0, 0 + Int.toNat 0 * 1, none⟩ = some (.int .i64 ((o'.getD 0 0 : Nat) : Int)) from hc0, elI_some, hr.1]
        refine ⟨by omega, ?_⟩
        rw [ha, onPtr_mk, Int.toNat_natCast, hcs _ _ (bkAt_get hmem0), elI_some, hB.c1, elI_some]
        refine j1 _ ?_
        simp [h0]
    have j4 : ∀ x : Bool, (x = true ↔ (q.2.2 = true ∨ q.2.1 < need)) → darningref4_Fits.j4 x0 (s, (i : Int)) it H1.size H2 x := by
      intro x hx
      unfold darningref4_Fits.j4
      rw [hwi]
      simp only [bcase_eq, decide_eq_true_eq]
      by_cases hx' : x = true
      · rw [if_pos hx']
        rw [if_pos (hx.1 hx')] at hstep
        exact next _ _ hk2 (by rw [hstep]; exact hO2)
      · rw [if_neg hx']
        rw [if_neg (fun hh => hx' (hx.2 hh))] at hstep
        have j3 : ∀ y : Bool, (y = true ↔ (0 < out.length ∧ (bkAt l (out.getD 0 0)).2.1 > q.2.1)) → darningref4_Fits.j3 x0 (s, (i : Int)) it H1.size H2 y := by
          intro y hy
          unfold darningref4_Fits.j3
          rw [bcase_eq]
          by_cases hy' : y = true
          · rw [if_pos hy']
            rw [if_pos (hy.1 hy')] at hstep
            exact j2 _ [] (.inl ⟨rfl, rfl⟩) (fun j hj => by cases hj) (Nat.zero_le _) hstep
          · rw [if_neg hy']
            rw [if_neg (fun hh => hy' (hy.2 hh))] at hstep
            exact j2 _ out hO2 hmem hlen hstep
        rw [oN hO2]
        by_cases h0 : (out.length : Int) > 0
        · rw [if_pos h0]
          have hg0 : out[0]? = some (out.getD 0 0) := by rw [List.getD_eq_getElem?_getD, List.getElem?_eq_getElem (by omega)]; rfl
          have hmem0 := hmem (out.getD 0 0) (List.mem_of_getElem? hg0)
          obtain ⟨b0, ha0, _, _, hc0⟩ := hO2.cell (fun _ => rfl) hg0 (j := 0) (by omega)
          refine ⟨by omega, ?_⟩
          rw [ha0, onPtr_mk, addr_add, show AH.cell? H2 ⟨b0, 0 + Int.toNat 0 * 1, none⟩ = some (.int .i64 ((out.getD 0 0 : Nat) : Int)) from hc0, elI_some, hr.1]
          refine ⟨by omega, ?_⟩
          rw [ha, onPtr_mk, Int.toNat_natCast, hcs _ _ (bkAt_get hmem0), elI_some, hB.c1, elI_some]
          refine j3 _ ?_
          rw [decide_eq_true_eq]
          exact ⟨fun hh => ⟨by omega, hh⟩, fun hh => hh.2⟩
        · rw [if_neg h0]
          refine j3 false ?_
          constructor
          · intro hh; cases hh
          · intro hh; omega
    simp only [hB.c2, elB_some]
    by_cases hu : q.2.2 = true
    · rw [if_pos hu]; exact j4 true (by simp [hu])
    · rw [if_neg hu, hB.c1, elI_some]
      refine j4 _ ?_
      rw [decide_eq_true_eq]
      exact ⟨fun hh => .inr hh, fun hh => hh.resolve_left hu⟩
  · rw [if_neg hlt]
    have : i = l.length := by omega
    subst this
    exact h _ _ hk (by unfold fitsL; rw [if_neg hn]; exact hO)

end
end Go.Proofs.Ytgddfhnochcolaa
