import Derived.Test.YtgechnnadjonaabN11
set_option linter.all false
set_option linter.all false
namespace Go.Proofs.Ytgechnnadjonaab
open Go Go.Abs

/-- A slice whose elements are slices of homes. -/
def slV {α : Type} (q : Sl × List α) : List Value := [q.1.val]
def SlOK {α : Type} (f : α → List Value) (ok : α → Prop) (z : Nat) (H : AH) (q : Sl × List α) : Prop := Abs.Rows H q.1 z f q.2 ∧ ∀ p ∈ q.2, ok p
def RR (H : AH) (x : Sl) (L : List (Sl × List (Int × List Int))) : Prop :=
  Abs.Rows H x 1 slV L ∧ ∀ q ∈ L, SlOK putV putOK 9 H q

section
variable {H H' : AH}

theorem RR.keep {x : Sl} {L : List (Sl × List (Int × List Int))} (h : RR H x L) (hk : Keeps H H') : RR H' x L :=
  ⟨h.1.keep hk, fun q hq => ⟨(h.2 q hq).1.keep hk, (h.2 q hq).2⟩⟩
theorem cell_row1 {b o i : Nat} {v : Value} (h : AH.row? H (Addr.add ⟨b, o, none⟩ (i * 1)) 1 = some [v]) : AH.cell? H (Addr.add ⟨b, o, none⟩ (i * 1)) = some v := by
  rw [addr_add] at h ⊢
  have := (AH.row?_cell h).2.2.2.2 0 v rfl
  simpa using this
theorem RR.at {x : Sl} {L : List (Sl × List (Int × List Int))} (h : RR H x L) {i : Nat} (hi : i < L.length) : ∃ b o, x.a = some ⟨b, o, none⟩ ∧ b < H.size ∧ AH.cell? H (Addr.add ⟨b, o, none⟩ (i * 1)) = some L[i].1.val := by
  obtain ⟨b, o, h1, h2, h3⟩ := h.1.at hi
  exact ⟨b, o, h1, h2, cell_row1 h3⟩

theorem darninglaw12_heavy.s {x0 x1 : Sl} {L : List (Sl × List (Int × List Int))} {k : Int → AH → Prop} (hr : RR H x0 L)
    (h : ∀ r : Int, (r ≤ 0 → L.length ≤ 30 ∧ x1.n ≤ 200 ∧ ∀ q ∈ L, q.2.length ≤ 30) → k r H) : darninglaw12_heavy x0 x1 H k := by
  refine darninglaw12_heavy.link ?_
  unfold darninglaw12_heavy.b darninglaw12_heavy.j2
  simp only [bcase_eq, decide_eq_true_eq, hr.1.1]
  by_cases c1 : (L.length : Int) > 30
  · rw [if_pos c1, bcase_true]; exact h 1 (by omega)
  rw [if_neg c1]
  by_cases c2 : (x1.n : Int) > 200
  · simp only [c2, decide_true, bcase_true]; exact h 1 (by omega)
  simp only [c2, decide_false, bcase_false]
  refine loopT_inv (t := ((0, 0) : Int × Int)) (I := fun (t : Int × Int) H' => ∃ i : Nat, t.2 = (i : Int) ∧ i ≤ L.length ∧ H' = H ∧ ∀ j (hj : j < L.length), j < i → (L[j]).2.length ≤ 30) (m := fun (t : Int × Int) _ => Int.toNat ((L.length : Int) - t.2)) ?_ ⟨0, rfl, by omega, rfl, fun j _ h => by omega⟩
  intro t H1 hI it hit
  obtain ⟨t1, t2⟩ := t
  obtain ⟨i, e1, hi, rfl, hz⟩ := hI
  simp only at e1
  subst e1
  unfold darninglaw12_heavy.l1
  simp only [bcase_eq, decide_eq_true_eq, hr.1.1]
  by_cases hlt : (i : Int) < (L.length : Int)
  · rw [if_pos hlt]
    have hi' : i < L.length := by omega
    obtain ⟨b, o, ha, hb, hc⟩ := hr.at hi'
    refine ⟨by omega, ?_⟩
    rw [ha, onPtr_mk, Int.toNat_natCast, hc, show elL (some (Sl.val L[i].1)) _ = _ from propext (elL_some _ _ _ _), (hr.2 _ (List.getElem_mem hi')).1.1]
    by_cases c3 : ((L[i].2.length : Nat) : Int) > 30
    · rw [if_pos c3]; exact h 2 (by omega)
    · rw [if_neg c3, wrap_i64 (n := (i : Int) + 1) (by omega) (by omega)]
      refine hit _ _ ⟨i + 1, by simp, by omega, rfl, fun j hj hlt => ?_⟩ (by simp only; omega)
      by_cases e : j = i
      · subst e; omega
      · exact hz j hj (by omega)
  · rw [if_neg hlt]
    refine h 0 fun _ => ⟨by omega, by omega, fun q hq => ?_⟩
    obtain ⟨j, hj, rfl⟩ := List.getElem_of_mem hq
    exact hz j hj (by omega)
end
end Go.Proofs.Ytgechnnadjonaab
