import Derived.Test.YtgechnnadjonaabM1
import Derived.Test.YtgechnnadjonaabG3b
set_option linter.all false
/-
  The memory's methods, as what they make of the heap.
-/
namespace Go.Proofs.Ytgechnnadjonaab
open Go Go.Abs

section
variable {H : AH} {p c : Nat} {M : Mem} {i : Int}

theorem onPtr_p (a : Addr) (k : Addr → Prop) (h : k a) : onPtr (some a) k := h

theorem stC_to {H H' : AH} {a : Addr} {vs : List Value} {k : AH → Prop} (h1 : H.canPut a vs.length) (h2 : H.put a vs = H') (h3 : k H') : stC H a vs k := ⟨h1, by rw [h2]; exact h3⟩
theorem row_push {H : AH} {o : AObj} {b i n : Nat} (h : b < H.size) : AH.row? (H.push o) ⟨b, i, none⟩ n = AH.row? H ⟨b, i, none⟩ n := row_old (by omega)
theorem cell_push {H : AH} {o : AObj} {b i : Nat} (h : b < H.size) : AH.cell? (H.push o) ⟨b, i, none⟩ = AH.cell? H ⟨b, i, none⟩ := cell_old (by omega)
theorem row_setM {b i n : Nat} (h : b ≠ p) (h' : b ≠ c) : AH.row? (setM H p c M) ⟨b, i, none⟩ n = AH.row? H ⟨b, i, none⟩ n := by
  simp only [AH.row?, setM_other h h']
theorem cell_setM {b i : Nat} (h : b ≠ p) (h' : b ≠ c) : AH.cell? (setM H p c M) ⟨b, i, none⟩ = AH.cell? H ⟨b, i, none⟩ := by
  simp only [AH.cell?, setM_other h h']

theorem cl_get (hi : M.has i) : M.cs[i.toNat]? = some (M.cl i.toNat) := by
  unfold Mem.has at hi
  have hl : i.toNat < M.cs.length := by omega
  unfold Mem.cl
  rw [List.getD_eq_getElem?_getD, List.getElem?_eq_getElem hl, Option.getD_some]
theorem cl_mem (hi : M.has i) : M.cl i.toNat ∈ M.cs := List.mem_of_getElem? (cl_get hi)
theorem clV_len {x : Cl} (h : isLine x.line) : (clV x).length = 10 := by simp [clV, lineV, h.1]

theorem flat_len' {α : Type} {f : α → List Value} {z : Nat} : ∀ {l : List α}, (∀ x ∈ l, (f x).length = z) → (l.flatMap f).length = l.length * z := by
  intro l
  induction l with
  | nil => intro _; simp
  | cons a l ih => intro h; simp [ih (fun x hx => h x (by simp [hx])), h a (by simp), Nat.succ_mul, Nat.add_comm]
theorem flat_row' {α : Type} {f : α → List Value} {z : Nat} : ∀ {l : List α} (_ : ∀ x ∈ l, (f x).length = z) (i : Nat) (x : α), l[i]? = some x → ((l.flatMap f).drop (i * z)).take z = f x := by
  intro l
  induction l with
  | nil => intro _ i x h; simp at h
  | cons a l ih =>
    intro hf i x h
    cases i with
    | zero =>
      simp only [List.getElem?_cons_zero, Option.some.injEq] at h
      subst h
      simp only [Nat.zero_mul, List.drop_zero, List.flatMap_cons]
      rw [List.take_append_of_le_length (by rw [hf a (by simp)]; exact Nat.le_refl _), ← hf a (by simp), List.take_length]
    | succ i =>
      simp only [List.getElem?_cons_succ] at h
      rw [← ih (fun x hx => hf x (by simp [hx])) i x h, List.flatMap_cons, Nat.succ_mul, Nat.add_comm, ← List.drop_drop]
      congr 2
      rw [← hf a (by simp), List.drop_left]
theorem flat_setMany {α : Type} {f : α → List Value} {z : Nat} {j : Nat} {vs : List Value} (hj : j + vs.length ≤ z) : ∀ {l : List α} (_ : ∀ x ∈ l, (f x).length = z) (i : Nat) (x y : α), l[i]? = some x → f y = setMany (f x) j vs →
    setMany (l.flatMap f) (i * z + j) vs = (l.set i y).flatMap f := by
  intro l hf i x y hx hy
  apply List.ext_getElem?
  intro t
  have hlen := flat_len' hf
  have hlt : i < l.length := (List.getElem?_eq_some_iff.1 hx).1
  have hle : i * z + z ≤ l.length * z := by
    calc i * z + z = (i + 1) * z := by rw [Nat.succ_mul]
      _ ≤ l.length * z := Nat.mul_le_mul_right _ hlt
  have hfy : (f y).length = z := by rw [hy, setMany_length, hf x (List.mem_of_getElem? hx)]
  have hf' : ∀ x ∈ l.set i y, (f x).length = z := by
    intro x' hx'
    rcases List.mem_or_eq_of_mem_set hx' with h | rfl
    · exact hf _ h
    · exact hfy
  rw [setMany_get _ _ _ _ (by omega)]
  have cellOf : ∀ {l : List α}, (∀ x ∈ l, (f x).length = z) → ∀ q r x, l[q]? = some x → r < z → (l.flatMap f)[q * z + r]? = (f x)[r]? := by
    intro l hl q r x hq hr
    have := flat_row' hl q x hq
    rw [← this, List.getElem?_take, if_pos hr, List.getElem?_drop]
  by_cases hz : z = 0
  · subst hz
    have e1 : (l.flatMap f).length = 0 := by rw [hlen]; omega
    have e2 : ((l.set i y).flatMap f).length = 0 := by rw [flat_len' hf']; omega
    rw [List.getElem?_eq_none (by omega : ((l.set i y).flatMap f).length ≤ t), List.getElem?_eq_none (by omega : (l.flatMap f).length ≤ t)]
    rw [if_neg (by omega)]
  · have ht : t = t / z * z + t % z := by rw [Nat.mul_comm]; exact (Nat.div_add_mod t z).symm
    have hr : t % z < z := Nat.mod_lt _ (by omega)
    generalize t / z = q at ht
    generalize t % z = r at ht hr
    subst ht
    by_cases hq : q < l.length
    · by_cases hqi : q = i
      · subst hqi
        rw [cellOf hf' q r y (by rw [List.getElem?_set_self hlt]) hr, hy, setMany_get _ _ _ _ (by rw [hf x (List.mem_of_getElem? hx)]; exact hj)]
        by_cases h1 : j ≤ r ∧ r < j + vs.length
        · rw [if_pos h1, if_pos (by omega)]; congr 1; omega
        · rw [if_neg h1, if_neg (by omega), cellOf hf q r x hx hr]
      · have hne : ¬ (i * z + j ≤ q * z + r ∧ q * z + r < i * z + j + vs.length) := by
          intro ⟨h1, h2⟩
          rcases Nat.lt_or_gt_of_ne hqi with h | h
          · have : (q + 1) * z ≤ i * z := Nat.mul_le_mul_right _ h
            rw [Nat.succ_mul] at this; omega
          · have : (i + 1) * z ≤ q * z := Nat.mul_le_mul_right _ h
            rw [Nat.succ_mul] at this; omega
        rw [if_neg hne, cellOf hf q r l[q] (List.getElem?_eq_getElem hq) hr, cellOf hf' q r l[q] (by rw [List.getElem?_set_ne (by omega), List.getElem?_eq_getElem hq]) hr]
    · have : l.length * z ≤ q * z := Nat.mul_le_mul_right _ (by omega)
      rw [if_neg (by omega), List.getElem?_eq_none (by omega), List.getElem?_eq_none (by rw [flat_len' hf', List.length_set]; omega)]

theorem MemAt.cell_c (h : MemAt H p c M) (hi : M.has i) {j : Nat} (hj : j < 10) : AH.cell? H (Addr.add (Addr.add ⟨c, 0, none⟩ (i.toNat * 10)) j) = (clV (M.cl i.toNat))[j]? := by
  rw [addr_add, addr_add, Nat.zero_add]
  simp only [AH.cell?, h.hc, Option.isSome_none, Bool.false_eq_true, if_false, celObj]
  rw [if_neg (by simp)]
  rw [← flat_row' (fun x hx => clV_len (h.ok.lines x hx)) i.toNat _ (cl_get hi), List.getElem?_take, if_pos hj, List.getElem?_drop]
theorem MemAt.c8 (h : MemAt H p c M) (hi : M.has i) : AH.cell? H (Addr.add (Addr.add ⟨c, 0, none⟩ (i.toNat * 10)) 8) = some (.int .i64 (M.cl i.toNat).wear) := by
  rw [h.cell_c hi (by omega)]
  simp only [clV]
  rw [List.getElem?_append_right (by simp [lineV, (h.ok.lines _ (cl_mem hi)).1])]
  simp [lineV, (h.ok.lines _ (cl_mem hi)).1, i64V]
theorem MemAt.c9 (h : MemAt H p c M) (hi : M.has i) : AH.cell? H (Addr.add (Addr.add ⟨c, 0, none⟩ (i.toNat * 10)) 9) = some (.int .i64 (M.cl i.toNat).limit) := by
  rw [h.cell_c hi (by omega)]
  simp only [clV]
  rw [List.getElem?_append_right (by simp [lineV, (h.ok.lines _ (cl_mem hi)).1])]
  simp [lineV, (h.ok.lines _ (cl_mem hi)).1, i64V]
theorem MemAt.cl_le (h : MemAt H p c M) (hi : M.has i) : i.toNat * 10 + 10 ≤ (celObj M).cells.length := by
  simp only [celObj]
  rw [flat_len' (fun x hx => clV_len (h.ok.lines x hx))]
  unfold Mem.has at hi
  omega
theorem lineV_ok (l : List Int) : (lineV l).all cellOK = true := by simp [lineV, u64V, cellOK]
theorem MemAt.row_c (h : MemAt H p c M) (hi : M.has i) : AH.row? H (Addr.add (Addr.add ⟨c, 0, none⟩ (i.toNat * 10)) 0) 8 = some (lineV (M.cl i.toNat).line) := by
  rw [addr_add, addr_add, Nat.zero_add, Nat.add_zero]
  have hr := flat_row' (fun x hx => clV_len (h.ok.lines x hx)) i.toNat _ (cl_get hi)
  have hl := (h.ok.lines _ (cl_mem hi)).1
  have h8 : (((celObj M).cells.drop (i.toNat * 10)).take 8) = lineV (M.cl i.toNat).line := by
    have : (((celObj M).cells.drop (i.toNat * 10)).take 8) = ((((celObj M).cells.drop (i.toNat * 10)).take 10).take 8) := by rw [List.take_take]; rfl
    rw [this]
    simp only [celObj] at hr ⊢
    rw [hr, clV, List.take_append_of_le_length (by simp [lineV, hl]), List.take_of_length_le (by simp [lineV, hl])]
  have hle := h.cl_le hi
  simp only [AH.row?, h.hc, Option.isSome_none, Bool.false_eq_true, if_false]
  rw [if_neg (by simp [celObj]), h8, if_pos ⟨by omega, lineV_ok _⟩]
theorem MemAt.can_c (h : MemAt H p c M) (hi : M.has i) {j n : Nat} (hj : j + n ≤ 10) : AH.canPut H (Addr.add (Addr.add ⟨c, 0, none⟩ (i.toNat * 10)) j) n := by
  rw [addr_add, addr_add, Nat.zero_add]
  have hle := h.cl_le hi
  exact ⟨rfl, congrArg AObj.md h.hc, by rw [h.hc]; simp only; omega⟩
theorem MemAt.put_c (h : MemAt H p c M) (hi : M.has i) {j : Nat} {vs : List Value} {x : Cl} (hj : j + vs.length ≤ 10) (hx : clV x = setMany (clV (M.cl i.toNat)) j vs) :
    AH.put H (Addr.add (Addr.add ⟨c, 0, none⟩ (i.toNat * 10)) j) vs = setM H p c (M.setc i.toNat x) := by
  rw [addr_add, addr_add, Nat.zero_add]
  have hs := flat_setMany hj (fun x hx => clV_len (h.ok.lines x hx)) i.toNat _ x (cl_get hi) hx
  refine AH.ext' rfl fun b => ?_
  simp only [AH.put, upd_get, setM_get]
  have hm : memObj c (M.setc i.toNat x) = memObj c M := by simp [memObj, Mem.setc]
  by_cases hbc : b = c
  · subst hbc
    rw [if_pos rfl, if_neg h.ne, if_pos rfl, h.hc]
    simp only [celObj, hs]
    rfl
  · rw [if_neg hbc]
    by_cases hbp : b = p
    · subst hbp; rw [if_pos rfl, hm, h.hp]
    · rw [if_neg hbp, if_neg hbc]
theorem clV_line {x : Cl} {l : List Int} (hx : isLine x.line) (hl : isLine l) : clV { x with line := l } = setMany (clV x) 0 (lineV l) := by
  apply List.ext_getElem?
  intro t
  rw [setMany_get _ _ _ _ (by rw [clV_len hx]; simp [lineV, hl.1])]
  simp only [clV]
  by_cases h : t < 8
  · rw [if_pos (by simp [lineV, hl.1]; omega), List.getElem?_append_left (by simp [lineV, hl.1]; omega)]; rfl
  · rw [if_neg (by simp [lineV, hl.1]; omega), List.getElem?_append_right (by simp [lineV, hl.1]; omega), List.getElem?_append_right (by simp [lineV, hx.1]; omega)]
    simp [lineV, hl.1, hx.1]
theorem clV_wear {x : Cl} {v : Int} (hx : isLine x.line) : clV { x with wear := v } = setMany (clV x) 8 [.int .i64 v] := by
  simp only [setMany, clV]
  rw [List.set_append_right _ _ (by simp [lineV, hx.1])]
  simp [lineV, hx.1, i64V]
end
end Go.Proofs.Ytgechnnadjonaab
