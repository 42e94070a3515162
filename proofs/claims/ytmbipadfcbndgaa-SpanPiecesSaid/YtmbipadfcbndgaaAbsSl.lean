import Derived.Test.YtmbipadfcbndgaaAbsE2
set_option linter.all false
/-
  Slices of the call's own, and their rows.
-/
namespace Go.Abs

theorem push_get_ne {H : AH} {o : AObj} {b : Nat} (h : b ≠ H.size) : (H.push o).get b = H.get b := by simp [push_get, h]
theorem kill_get_ne {H : AH} {b b' : Nat} (h : b' ≠ b) : (H.kill b).get b' = H.get b' := by simp [AH.kill, upd_get, h]

theorem flat_len {α : Type} {f : α → List Value} {z : Nat} (hf : ∀ x, (f x).length = z) (l : List α) : (l.flatMap f).length = l.length * z := by
  induction l with
  | nil => simp
  | cons a l ih => simp [ih, hf, Nat.succ_mul, Nat.add_comm]

theorem flat_row {α : Type} {f : α → List Value} {z : Nat} (hf : ∀ x, (f x).length = z) : ∀ (l : List α) (i : Nat) (x : α), l[i]? = some x → ((l.flatMap f).drop (i * z)).take z = f x := by
  intro l
  induction l with
  | nil => intro i x h; simp at h
  | cons a l ih =>
    intro i x h
    cases i with
    | zero =>
      simp only [List.getElem?_cons_zero, Option.some.injEq] at h
      subst h
      simp only [Nat.zero_mul, List.drop_zero, List.flatMap_cons]
      rw [List.take_append_of_le_length (by rw [hf]; exact Nat.le_refl _), ← hf a, List.take_length]
    | succ i =>
      simp only [List.getElem?_cons_succ] at h
      rw [← ih i x h, List.flatMap_cons, Nat.succ_mul, Nat.add_comm, ← List.drop_drop]
      congr 2
      rw [← hf a, List.drop_left]

/-- Row i of the slice, wherever it lies, is f of the list's i-th. -/
def Rows {α : Type} (H : AH) (s : Sl) (z : Nat) (f : α → List Value) (l : List α) : Prop :=
  s.n = l.length ∧ ∀ i x, l[i]? = some x → ∃ a, s.a = some a ∧ a.spot = none ∧ a.block < H.size ∧ AH.row? H ⟨a.block, a.off + i * z, none⟩ z = some (f x)

/-- A slice that the call has made, and may grow. -/
def Own {α : Type} (B : Nat) (H : AH) (s : Sl) (z : Nat) (f : α → List Value) (l : List α) : Prop :=
  (s = ⟨none, 0, 0⟩ ∧ l = []) ∨ ∃ b, s = ⟨some ⟨b, 0, none⟩, l.length, 1⟩ ∧ B ≤ b ∧ b < H.size ∧ H.get b = ⟨l.flatMap f, .rw, z⟩

theorem Own.rows {α : Type} {B : Nat} {H : AH} {s : Sl} {z : Nat} {f : α → List Value} {l : List α} (h : Own B H s z f l) (hf : ∀ x, (f x).length = z) (hc : ∀ x, (f x).all cellOK = true) : Rows H s z f l := by
  rcases h with ⟨rfl, rfl⟩ | ⟨b, rfl, _, hb, hg⟩
  · exact ⟨rfl, fun i x h => by simp at h⟩
  · refine ⟨rfl, fun i x hi => ⟨_, rfl, rfl, hb, ?_⟩⟩
    have hlt : i < l.length := (List.getElem?_eq_some_iff.1 hi).1
    have hr := flat_row hf l i x hi
    simp only [AH.row?, hg, Option.isSome_none, Bool.false_eq_true, if_false, Nat.zero_add]
    have hle : i * z + z ≤ (l.flatMap f).length := by
      rw [flat_len hf]
      calc i * z + z = (i + 1) * z := by rw [Nat.succ_mul]
        _ ≤ l.length * z := Nat.mul_le_mul_right _ hlt
    rw [if_neg (by simp), hr, if_pos ⟨hle, hc x⟩]

theorem Own.keep {α : Type} {B : Nat} {H H' : AH} {s : Sl} {z : Nat} {f : α → List Value} {l : List α} (h : Own B H s z f l) (hs : H.size ≤ H'.size) (hg : ∀ b, B ≤ b → b < H.size → H'.get b = H.get b) : Own B H' s z f l := by
  rcases h with h | ⟨b, h1, h2, h3, h4⟩
  · exact .inl h
  · exact .inr ⟨b, h1, h2, by omega, by rw [hg b h2 h3]; exact h4⟩

theorem Rows.keep {α : Type} {H H' : AH} {s : Sl} {z : Nat} {f : α → List Value} {l : List α} (h : Rows H s z f l) (hs : Keeps H H') : Rows H' s z f l := by
  refine ⟨h.1, fun i x hi => ?_⟩
  obtain ⟨a, h1, h2, h3, h4⟩ := h.2 i x hi
  refine ⟨a, h1, h2, by have := hs.1; omega, ?_⟩
  simp only [AH.row?] at h4 ⊢
  rw [hs.2 _ h3]
  exact h4

theorem Rows.at {α : Type} {H : AH} {s : Sl} {z : Nat} {f : α → List Value} {l : List α} (h : Rows H s z f l) {i : Nat} (hi : i < l.length) :
    ∃ b o, s.a = some ⟨b, o, none⟩ ∧ b < H.size ∧ AH.row? H (Addr.add ⟨b, o, none⟩ (i * z)) z = some (f (l[i])) := by
  obtain ⟨a, h1, h2, h3, h4⟩ := h.2 i l[i] (List.getElem?_eq_getElem hi)
  obtain ⟨b, o, sp⟩ := a
  simp only at h2 h3 h4
  subst h2
  exact ⟨b, o, h1, h3, by rw [addr_add]; exact h4⟩

/-- One more row is laid behind a slice of the call's own: H is the heap at the append, o the object of the row. -/
theorem append_own {α : Type} {H0 H : AH} {B : Nat} {s : Sl} {z : Nat} {f : α → List Value} {l : List α} {x : α} {k : Sl → AH → Prop} (hf : ∀ x, (f x).length = z) (hc : (f x).all cellOK = true)
    (hO : Own B H s z f l) (hB : H0.size ≤ B) (hBH : B ≤ H.size) (hK : Keeps H0 H) (hlim : l.length + 1 ≤ lim)
    (h : ∀ s' H', Own B H' s' z f (l ++ [x]) → Keeps H0 H' → H.size ≤ H'.size → (∀ b, b < H.size → (∀ a, s.a = some a → b ≠ a.block) → H'.get b = H.get b) → k s' H') :
    appendC z (H.push ⟨f x, .rw, z⟩) s ⟨some ⟨H.size, 0, none⟩, 1, 1⟩ k := by
  have hrow : AH.rowS? (H.push ⟨f x, .rw, z⟩) ⟨some ⟨H.size, 0, none⟩, 1, 1⟩ z = some (f x) := by
    simp only [AH.rowS?, Nat.one_mul]
    rw [if_neg (by simp)]
    exact row_new (hf x) hc
  have hKp := hK.push (⟨f x, .rw, z⟩ : AObj)
  have hge := hK.1
  rcases hO with ⟨rfl, rfl⟩ | ⟨b, rfl, hb1, hb2, hg⟩
  · refine ⟨by simp [lim], ?_⟩
    rw [if_neg (by simp)]
    refine ⟨_, hrow, ?_⟩
    refine h _ _ (.inr ⟨_, rfl, ?_, ?_, ?_⟩) (hKp.push _) ?_ ?_
    · simp only [push_size]; omega
    · simp [push_size]
    · simp [push_get]
    · simp [push_size]; omega
    · intro b hb _
      rw [push_get_ne (by simp only [push_size]; omega), push_get_ne (by omega)]
  · refine ⟨hlim, ?_⟩
    rw [if_neg (by simp)]
    refine ⟨_, hrow, ⟨rfl, rfl, rfl, ?_, ?_, ?_⟩, ?_⟩
    · simp only [push_get]; rw [if_neg (by omega), hg]
    · simp only [push_get]; rw [if_neg (by omega), hg, flat_len hf]
    · simp only [push_get]; rw [if_neg (by omega), hg]
    · refine h _ _ (.inr ⟨H.size + 1, ?_, ?_, ?_, ?_⟩) ((hKp.kill (b := b) (Nat.le_trans hB hb1)).push _) ?_ ?_
      · simp [newAt, push_size]
      · omega
      · simp [push_size, kill_size]
      · simp only [push_get, kill_size, push_size, if_true]
        rw [if_neg (by omega), hg]
        simp
      · simp [push_size, kill_size]; omega
      · intro b' hb' hne
        have hne' : b' ≠ b := hne _ rfl
        rw [push_get_ne (by simp only [kill_size, push_size]; omega), kill_get_ne hne', push_get_ne (by omega)]

end Go.Abs
