import Derived.Test.YtgechnnadjonaabN19
set_option linter.all false
set_option linter.all false
namespace Go.Proofs.Ytgechnnadjonaab
open Go Go.Abs

theorem row_flat {α : Type} {cells : List Value} {z : Nat} {f : α → List Value} : ∀ {l : List α} {o : Nat}, (∀ i x, l[i]? = some x → (cells.drop (o + i * z)).take z = f x ∧ (f x).length = z) → (cells.drop o).take (l.length * z) = l.flatMap f := by
  intro l
  induction l with
  | nil => intro o _; simp
  | cons a r ih =>
    intro o h
    have h0 := h 0 a rfl
    rw [Nat.zero_mul, Nat.add_zero] at h0
    have hr := ih (o := o + z) fun i x hx => by
      have := h (i + 1) x (by simpa using hx)
      rw [show o + z + i * z = o + (i + 1) * z by rw [Nat.add_mul]; omega]
      exact this
    simp only [List.length_cons, List.flatMap_cons]
    rw [Nat.add_mul, Nat.one_mul, Nat.add_comm, List.take_add, h0.1, List.drop_drop, hr]

/-- Puts that lie in a list of the call's own, in one row. -/
theorem own_row {B : Nat} {H : AH} {s : Sl} {l : List (Int × List Int)} (hO : Own B H s 9 putV l) (hok : ∀ q ∈ l, putOK q) : AH.rowS? H s 9 = some (l.flatMap putV) := by
  have hl : ∀ q ∈ l, (putV q).length = 9 := fun q hq => putV_len (hok q hq)
  rcases hO with ⟨rfl, rfl⟩ | ⟨b, rfl, h1, h2, h3⟩
  · rfl
  · simp only [AH.rowS?]
    by_cases h0 : l.length = 0
    · rw [if_pos h0, List.length_eq_zero_iff.1 h0]; rfl
    · rw [if_neg h0]
      have hlen : (l.flatMap putV).length = l.length * 9 := flat_len' hl
      simp only [AH.row?, h3, Option.isSome_none, Bool.false_eq_true, if_false, Nat.zero_add, List.drop_zero]
      rw [if_neg (by simp), ← hlen, List.take_length, if_pos ⟨Nat.le_refl _, by simp [List.all_flatMap, putV_ok]⟩]
/-- A list of puts is laid behind one of the call's own. -/
theorem append_puts {H0 H : AH} {B B' : Nat} {s t : Sl} {l r : List (Int × List Int)} {k : Sl → AH → Prop} (hl : ∀ q ∈ l, putOK q) (hr : ∀ q ∈ r, putOK q)
    (hO : Own B H s 9 putV l) (hR : Own B' H t 9 putV r) (hB : H0.size ≤ B) (hBH : B ≤ H.size) (hK : Keeps H0 H) (hlim : l.length + r.length ≤ lim)
    (h : ∀ s' H', Own B H' s' 9 putV (l ++ r) → Keeps H0 H' → H.size ≤ H'.size → (∀ b, b < H.size → (∀ a, s.a = some a → b ≠ a.block) → H'.get b = H.get b) → k s' H') :
    appendC 9 H s t k := by
  have hrow := own_row hR hr
  have hge := hK.1
  have hs : s.n = l.length := own_nn hO
  have ht : t.n = r.length := own_nn hR
  refine ⟨by rw [hs, ht]; exact le_limS hlim _, ?_⟩
  by_cases h0 : t.n = 0
  · rw [if_pos h0]
    have : r = [] := List.length_eq_zero_iff.1 (by rw [← ht]; exact h0)
    subst this
    refine h _ _ (by rw [List.append_nil]; exact hO) hK (Nat.le_refl _) fun _ _ _ => rfl
  rw [if_neg h0]
  refine ⟨_, hrow, ?_⟩
  rcases hO with ⟨rfl, rfl⟩ | ⟨b, rfl, hb1, hb2, hg⟩
  · refine h _ _ (.inr ⟨H.size, ?_, ?_, ?_, ?_⟩) (hK.push _) (by simp [push_size]) ?_
    · simp [newAt, ht]
    · omega
    · simp [push_size]
    · simp [push_get]
    · intro b hb _; exact push_get_ne (by omega)
  · refine ⟨⟨rfl, rfl, rfl, by rw [hg], by rw [hg]; exact flat_len' fun q hq => putV_len (hl q hq), by rw [hg]⟩, ?_⟩
    refine h _ _ (.inr ⟨H.size, ?_, ?_, ?_, ?_⟩) ((hK.kill (b := b) (Nat.le_trans hB hb1)).push _) (by simp [push_size, kill_size]) ?_
    · simp [newAt, ht]
    · omega
    · simp [push_size, kill_size]
    · simp only [push_get, kill_size, if_true]
      rw [hg]
      simp
    · intro b' hb' hne
      have hne' : b' ≠ b := hne _ rfl
      rw [push_get_ne (by simp only [kill_size]; omega), kill_get_ne hne']

def mostL (d : List Int) (m : Nat) : List (Int × List Int) := (List.range m).map fun (i : Nat) => (35 - (i : Int), d)
theorem mostL_len {d : List Int} {m : Nat} : (mostL d m).length = m := by simp [mostL]
theorem mostL_ok {d : List Int} (hd : isLine d) {m : Nat} (hm : m ≤ 20) : ∀ q ∈ mostL d m, putOK q := by
  intro q hq
  unfold mostL at hq
  rw [List.mem_map] at hq
  obtain ⟨i, hi, rfl⟩ := hq
  rw [List.mem_range] at hi
  exact ⟨by unfold isI; simp only; omega, hd⟩
theorem mostL_succ {d : List Int} {m : Nat} : mostL d (m + 1) = mostL d m ++ [(35 - (m : Int), d)] := by
  unfold mostL; rw [List.range_succ, List.map_append]; rfl
theorem mostL_ln {d : List Int} {m i : Nat} {r : List (Int × List Int)} (hi : i < m) : lnAt (mostL d m ++ r) i = 35 - (i : Int) := by
  unfold lnAt mostL
  rw [List.getD_eq_getElem?_getD, List.getElem?_append_left (by simpa using hi), List.getElem?_map, List.getElem?_range hi]; rfl
theorem mostL_may {d : List Int} {m : Nat} (hm : m ≤ 20) : MayL 36 (mostL d m) ↔ 1 ≤ m ∧ m ≤ 14 := by
  unfold MayL MayZ
  rw [mostL_len]
  refine ⟨fun h => ⟨h.2.1, h.2.2.1⟩, fun h => ⟨by omega, h.1, h.2, fun i hi => ?_⟩⟩
  have e : ∀ j, j < m → lnAt (mostL d m) j = 35 - (j : Int) := fun j hj => by have := mostL_ln (d := d) (r := []) hj; rwa [List.append_nil] at this
  rw [e i hi]
  exact ⟨by omega, by omega, fun j hj => by rw [e j (by omega)]; omega⟩
theorem mostL_low {d d' : List Int} {m : Nat} : ¬ MayL 36 (mostL d m ++ [(((m % 16 : Nat) : Int), d')]) := by
  intro h
  have hl : (mostL d m ++ [(((m % 16 : Nat) : Int), d')]).length = m + 1 := by simp [mostL_len]
  have := h.2.2.2 m (by omega)
  have e : lnAt (mostL d m ++ [(((m % 16 : Nat) : Int), d')]) m = ((m % 16 : Nat) : Int) := by
    unfold lnAt
    rw [List.getD_eq_getElem?_getD, List.getElem?_append_right (by simp [mostL_len])]; simp [mostL_len]
  rw [e] at this
  omega
theorem mostL_twice {d d' : List Int} {m : Nat} (hm : 0 < m) : ¬ MayL 36 (mostL d m ++ [((35 : Int), d')]) := by
  intro h
  have hl : (mostL d m ++ [((35 : Int), d')]).length = m + 1 := by simp [mostL_len]
  have := (h.2.2.2 m (by omega)).2.2 0 hm
  have e : lnAt (mostL d m ++ [((35 : Int), d')]) m = 35 := by
    unfold lnAt
    rw [List.getD_eq_getElem?_getD, List.getElem?_append_right (by simp [mostL_len])]; simp [mostL_len]
  rw [e, mostL_ln hm] at this
  exact this rfl

section
variable {H : AH}
end
end Go.Proofs.Ytgechnnadjonaab
