import Derived.Test.YtgechnnadjonaabN1
set_option linter.all false
set_option linter.all false
namespace Go.Proofs.Ytgechnnadjonaab
open Go Go.Abs

instance {n : Int} {len : Nat} {z : Nat → Int} : Decidable (MayZ n len z) := by unfold MayZ; infer_instance
def lnAt (l : List (Int × List Int)) (i : Nat) : Int := (l.getD i (0, [])).1
def MayL (n : Int) (l : List (Int × List Int)) : Prop := MayZ n l.length (lnAt l)
instance {n : Int} {l : List (Int × List Int)} : Decidable (MayL n l) := by unfold MayL; infer_instance

section
variable {H : AH}
theorem vrel_int {φ : Emb} {k : IntKind} {n : Int} {v : Value} (h : VRel φ (.int k n) v) : v = .int k n := by cases h; rfl

theorem log_May.s {n : Int} {s : Sl} {l : List (Int × List Int)} {k : Bool → AH → Prop} (hr : Abs.Rows H s 9 putV l) (hok : ∀ q ∈ l, putOK q) (hlen : l.length ≤ 1000000) (h : k (decide (MayL n l)) H) : log_May n s H k := by
  unfold log_May
  refine ⟨by kernel_rfl, fun W w φ args' hl R => ?_⟩
  obtain ⟨a0, a1, rfl⟩ : ∃ a0 a1, args' = #[a0, a1] := by
    have h2 := hl.1
    rcases args' with ⟨l'⟩
    match l', h2 with
    | [a, b], _ => exact ⟨a, b, rfl⟩
  have h0 := vrel_int (hl.2 0 _ _ rfl rfl)
  have h1 := hl.2 1 _ _ rfl rfl
  subst h0
  have fin : ∀ e w', (e = Ending.returned (.bool (decide (MayL n l))) ∧ RowKit.Below w.heap.size w w' ∧ ∀ a, w'.frozen? a = w.frozen? a) → ∃ le φ' H', Hist φ H φ' H' ∧ EndRel φ' le e ∧ Rel W φ' H' w' ∧ in1 .bool le noPan (fun r0 => k r0 H') := by
    rintro e w' ⟨rfl, hb, hf⟩
    exact ⟨.ret (.bool (decide (MayL n l))), φ, H, Hist.refl _ _, .bool _, rel_below R hb hf, ⟨_, rfl, h⟩⟩
  have hzero : l.length = 0 → decide (MayL n l) = false := fun h0 => decide_eq_false fun hm => by have := hm.2.1; omega
  have hn := hr.1
  obtain ⟨a, m, kk⟩ := s
  simp only at hn
  simp only [Sl.val] at h1
  cases h1 with
  | sl0 =>
    refine (may_none _ _ n w).mono fun e w' he => fin e w' ?_
    rw [hzero hn.symm]; exact he
  | sle a a' k' =>
    refine (may_none _ _ n w).mono fun e w' he => fin e w' ?_
    rw [hzero hn.symm]; exact he
  | @sl b B o _ _ k' hb hk' hcap =>
    subst hn
    by_cases h0 : l.length = 0
    · rw [h0]
      refine (may_none _ _ n w).mono fun e w' he => fin e w' ?_
      rw [hzero h0]; exact he
    have hcell : ∀ (i : Nat) (q : Int × List Int), l[i]? = some q → ∀ (j : Nat) (kd : IntKind) (v : Int), (putV q)[j]? = some (.int kd v) → w.cell? ⟨B.c, o + i * 9 + j, none⟩ = some (.int kd v) := by
      intro i q hq j kd v hv
      obtain ⟨a, e1, e2, e3, e4⟩ := hr.2 i q hq
      simp only [Option.some.injEq] at e1
      subst e1
      have hc := (AH.row?_cell e4).2.2.2.2 j _ hv
      obtain ⟨v', h1, h2⟩ := R.load hb hc
      rw [h1, vrel_int h2]
    have hget : ∀ i, i < l.length → l[i]? = some (l.getD i (0, [])) := fun i hi => by rw [List.getD_eq_getElem?_getD, List.getElem?_eq_getElem hi]; rfl
    have hmem : ∀ i, i < l.length → putOK (l.getD i (0, [])) := fun i hi => hok _ (List.mem_of_getElem? (hget i hi))
    refine (may_any (H := Unit) B.c o l.length k' n w (decide (MayL n l)) (lnAt l) (R.dom b B hb).2 hlen decide_eq_true_iff (fun i j => (l.getD i (0, [])).2.getD (j - 1) 0) ?_ ?_ ?_).mono fun e w' he => fin e w' he
    · intro i j hi h1 h9
      have hl8 := (hmem i hi).line.1
      refine hcell i _ (hget i hi) j _ _ ?_
      obtain ⟨t, rfl⟩ : ∃ t, j = t + 1 := ⟨j - 1, by omega⟩
      simp only [putV, List.cons_append, List.nil_append, List.getElem?_cons_succ, lineV, List.getElem?_map, Nat.add_sub_cancel]
      generalize (l.getD i (0, [])).2 = d at hl8 ⊢
      rw [List.getD_eq_getElem?_getD, List.getElem?_eq_getElem (show t < d.length by omega)]
      rfl
    · intro i hi
      exact hcell i _ (hget i hi) 0 _ _ rfl
    · intro i
      by_cases hi : i < l.length
      · have := (hmem i hi).i
        unfold isI at this
        unfold lnAt
        simp only [Lit.wf, IntKind.min, IntKind.max, IntKind.signed, IntKind.bits, Bool.and_eq_true, decide_eq_true_eq, if_true]
        omega
      · unfold lnAt
        rw [List.getD_eq_getElem?_getD, List.getElem?_eq_none (by omega)]
        decide
end
end Go.Proofs.Ytgechnnadjonaab
