import Derived.Test.YtgddfhnochcolaaS9
set_option linter.all false
set_option linter.all false
namespace Go.Proofs.Ytgddfhnochcolaa
open Go Go.Abs

theorem putBs_app : ∀ (a b ws : List Int) (i : Nat), putBs (putBs ws i a) (i + a.length) b = putBs ws i (a ++ b) := by
  intro a
  induction a with
  | nil => intro b ws i; rfl
  | cons c r ih =>
    intro b ws i
    simp only [List.cons_append, putBs, List.length_cons]
    rw [show i + (r.length + 1) = i + 1 + r.length by omega]
    exact ih b _ _
/-- Written again they are the same. -/
theorem getB_ext {v w : Int} (hv : 0 ≤ v ∧ v ≤ 18446744073709551615) (hw : 0 ≤ w ∧ w ≤ 18446744073709551615) (h : ∀ j, j < 8 → getB v j = getB w j) : v = w := by
  have h0 := h 0 (by omega)
  have h1 := h 1 (by omega)
  have h2 := h 2 (by omega)
  have h3 := h 3 (by omega)
  have h4 := h 4 (by omega)
  have h5 := h 5 (by omega)
  have h6 := h 6 (by omega)
  have h7 := h 7 (by omega)
  simp only [getB, Nat.reduceMul, Int.reducePow] at h0 h1 h2 h3 h4 h5 h6 h7
  omega
theorem putBs_again {ws bs : List Int} {off : Nat} (h64 : words64 ws) (h8 : bytes8 bs) (hl : off + bs.length ≤ ws.length * 8) : putBs (putBs ws off bs) off bs = putBs ws off bs := by
  have h1 := words64_putBs bs ws off h64
  have h2 := words64_putBs bs (putBs ws off bs) off h1
  have hlen := putBs_length bs ws off
  refine words_ext (putBs_length _ _ _) fun w hw => ?_
  rw [putBs_length, hlen] at hw
  have hm : ∀ (l : List Int), words64 l → l.length = ws.length → 0 ≤ l.getD w 0 ∧ l.getD w 0 ≤ 18446744073709551615 := by
    intro l hl' hll
    rw [List.getD_eq_getElem?_getD, List.getElem?_eq_getElem (by omega), Option.getD_some]
    exact hl' _ (List.getElem_mem _)
  refine getB_ext (hm _ h2 (by rw [putBs_length, hlen])) (hm _ h1 hlen) fun j hj => ?_
  have e : ∀ l : List Int, getB (l.getD w 0) j = byteAt l (w * 8 + j) := fun l => by
    unfold byteAt
    rw [show (w * 8 + j) / 8 = w by omega, show (w * 8 + j) % 8 = j by omega]
  rw [e, e, byteAt_putBs _ _ _ _ h1 h8 (by rw [hlen]; exact hl) (by rw [hlen]; omega), byteAt_putBs _ _ _ _ h64 h8 hl (by omega)]
  split <;> rfl

theorem rows_take {α : Type} {H : AH} {s : Sl} {f : α → List Value} {l : List α} {k : Nat} (h : Abs.Rows H s 1 f l) (hk : k ≤ l.length) : Abs.Rows H ⟨s.a, k, 0⟩ 1 f (l.take k) := by
  refine ⟨by simp; omega, fun i x hi => h.2 i x ?_⟩
  rw [List.getElem?_take] at hi
  split at hi
  · exact hi
  · cases hi
theorem rows_drop {α : Type} {H : AH} {s : Sl} {f : α → List Value} {l : List α} {k : Nat} (h : Abs.Rows H s 1 f l) (hk : k ≤ l.length) : Abs.Rows H ⟨Option.map (fun x => Addr.add x (k * 1)) s.a, s.n - k, 0⟩ 1 f (l.drop k) := by
  refine ⟨by simp [h.1], fun i x hi => ?_⟩
  rw [List.getElem?_drop] at hi
  obtain ⟨a, h1, h2, h3, h4⟩ := h.2 _ _ hi
  obtain ⟨b, o, sp⟩ := a
  simp only at h2 h3 h4
  subst h2
  refine ⟨⟨b, o + k * 1, none⟩, by rw [h1, Option.map_some, addr_add], rfl, h3, ?_⟩
  rw [← h4]
  simp only
  congr 2
  omega

section
variable {H : AH}
theorem darningref4_SameWords.s {x0 x1 : Sl} {a b : List Int} {k : Bool → AH → Prop} (h0 : Abs.Rows H x0 1 wU a) (h1 : Abs.Rows H x1 1 wU b) (hl : a.length ≤ 1000000) (hab : a = b) (hk : k true H) : darningref4_SameWords x0 x1 H k := by
  subst hab
  refine darningref4_SameWords.link ?_
  unfold darningref4_SameWords.b
  rw [h0.1, h1.1, show ((a.length : Int) != (a.length : Int)) = false by simp, bcase_false]
  refine loopT_inv (t := ((false, (0 : Int)) : Bool × Int)) (I := fun (t : Bool × Int) H' => ∃ i : Nat, t.2 = (i : Int) ∧ i ≤ a.length ∧ H' = H) (m := fun (t : Bool × Int) _ => Int.toNat ((a.length : Int) - t.2)) ?_ ⟨0, rfl, by omega, rfl⟩
  intro t H' hI it hit
  obtain ⟨t1, t2⟩ := t
  obtain ⟨i, e1, hi, rfl⟩ := hI
  simp only at e1
  subst e1
  unfold darningref4_SameWords.l1
  simp only [bcase_eq, decide_eq_true_eq, h0.1, h1.1]
  by_cases hlt : (i : Int) < (a.length : Int)
  · rw [if_pos hlt]
    obtain ⟨b1, o1, e1, _, c1⟩ := rows_cell1 (g := fun v => Value.int .u64 v) h0 (i := i) (by omega)
    obtain ⟨b2, o2, e2, _, c2⟩ := rows_cell1 (g := fun v => Value.int .u64 v) h1 (i := i) (by omega)
    rw [e1, e2]
    refine ⟨by omega, ?_⟩
    rw [onPtr_mk, Int.toNat_natCast, c1, elI_some]
    refine ⟨by omega, ?_⟩
    rw [onPtr_mk, c2, elI_some, if_neg (by simp), wrap_i64 (n := (i : Int) + 1) (by omega) (by omega)]
    exact hit _ _ ⟨i + 1, by simp, by omega, rfl⟩ (by simp only; omega)
  · rw [if_neg hlt]; exact hk

end
end Go.Proofs.Ytgddfhnochcolaa
