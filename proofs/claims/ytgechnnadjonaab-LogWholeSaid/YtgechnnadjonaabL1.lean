import Derived.Test.YtgechnnadjonaabM9
set_option linter.all false
set_option linter.all false
namespace Go.Proofs.Ytgechnnadjonaab
open Go Go.Abs

theorem Mem.wr_mask {M : Mem} : M.wr.mask = M.mask := by
  unfold Mem.wr; split
  · rfl
  · split <;> rfl

/-! ## What a write may do, the power going anywhere -/

structure PutAny (M : Mem) (i : Nat) (l : List Int) (M' : Mem) (e : Int) : Prop where
  regs : M'.regs = M.regs
  len : M'.cs.length = M.cs.length
  mask : M'.mask = M.mask
  other : ∀ j, j ≠ i → M'.cl j = M.cl j
  limit : (M'.cl i).limit = (M.cl i).limit
  res : (e = 0 ∧ M'.down = false ∧ (M.cl i).worn = false ∧ (M'.cl i).line = l) ∨
    (e = 3 ∧ M'.down = false ∧ (M.cl i).worn = true ∧ M'.cl i = M.cl i) ∨
    (e = 2 ∧ M'.down = true ∧ M.cut ≠ -1 ∧ ((M'.cl i).line = (M.cl i).line ∨ (M'.cl i).line = mixL (M.cl i).line l M.mask))
  cut : M.cut = -1 → M'.cut = -1
  cutge : -1 ≤ M'.cut

theorem Mem.wr_cutge {M : Mem} (h : -1 ≤ M.cut) : -1 ≤ M.wr.cut := by
  unfold Mem.wr; split
  · exact h
  · split
    · simp only; omega
    · exact h
theorem Mem.put_any {M : Mem} {i : Nat} {l : List Int} (hd : M.down = false) (hi : i < M.cs.length) (hl : l.length = 8) (hc : -1 ≤ M.cut) : PutAny M i l (M.put i l).1 (M.put i l).2 := by
  have hhas : M.has i := ⟨by omega, by omega⟩
  unfold Mem.put
  rw [if_pos hhas, if_neg (by simp [hd]), Int.toNat_natCast]
  have hi' : i < M.wr.cs.length := by rw [Mem.wr_cs]; exact hi
  have hwr : (M.cut = 0 ∧ M.wr.down = true ∧ M.wmask = M.mask) ∨ (M.cut ≠ 0 ∧ M.wr.down = false ∧ M.wmask = -1) := by
    unfold Mem.wr Mem.wmask
    by_cases h0 : M.cut = 0
    · left; rw [if_pos h0, if_pos h0]; exact ⟨h0, rfl, rfl⟩
    · right; rw [if_neg h0, if_neg h0]; refine ⟨h0, ?_, rfl⟩
      split <;> exact hd
  have hcut : M.cut = -1 → M.wr.cut = -1 := by
    intro h; unfold Mem.wr; rw [if_neg (by omega), if_neg (by omega)]; exact h
  have hmask : M.wr.mask = M.mask := by exact Mem.wr_mask
  simp only
  by_cases hw : (M.cl i).worn = true
  · rw [if_pos hw]
    refine ⟨Mem.wr_regs, by rw [Mem.wr_cs], hmask, fun j _ => Mem.wr_cl, by rw [Mem.wr_cl], ?_, hcut, Mem.wr_cutge hc⟩
    rcases hwr with ⟨h0, h1, h2⟩ | ⟨h0, h1, h2⟩
    · exact .inr (.inr ⟨by simp [Mem.told, h1], h1, by omega, .inl (by rw [Mem.wr_cl])⟩)
    · exact .inr (.inl ⟨by simp [Mem.told, h1], h1, hw, Mem.wr_cl⟩)
  · rw [if_neg hw]
    refine ⟨Mem.wr_regs, by simp [Mem.setc, Mem.wr_cs], hmask, fun j hj => by rw [Mem.setc_cl' hi', if_neg hj, Mem.wr_cl], by rw [Mem.setc_cl' hi', if_pos rfl], ?_, hcut, Mem.wr_cutge hc⟩
    rcases hwr with ⟨h0, h1, h2⟩ | ⟨h0, h1, h2⟩
    · refine .inr (.inr ⟨by simp [Mem.told, h1], h1, by omega, .inr ?_⟩)
      rw [Mem.setc_cl' hi', if_pos rfl, h2]
    · refine .inl ⟨by simp [Mem.told, h1], h1, by simpa using hw, ?_⟩
      rw [Mem.setc_cl' hi', if_pos rfl, h2, mixL_all hl]

structure SetAny (M : Mem) (i : Nat) (v : Int) (M' : Mem) (e : Int) : Prop where
  cs : M'.cs = M.cs
  mask : M'.mask = M.mask
  res : (e = 0 ∧ M'.down = false ∧ M'.regs = M.regs.set i v) ∨ (e = 2 ∧ M'.down = true ∧ M.cut ≠ -1 ∧ (M'.regs = M.regs ∨ M'.regs = M.regs.set i v))
  cut : M.cut = -1 → M'.cut = -1
  cutge : -1 ≤ M'.cut
theorem Mem.set_any {M : Mem} {i : Nat} {v : Int} (hd : M.down = false) (hi : i < 35) (hc : -1 ≤ M.cut) : SetAny M i v (M.set i v).1 (M.set i v).2 := by
  unfold Mem.set
  rw [if_pos ⟨by omega, by omega⟩, if_neg (by simp [hd]), Int.toNat_natCast]
  have hmask : M.wr.mask = M.mask := by exact Mem.wr_mask
  by_cases h0 : M.cut = 0
  · have h1 : M.wr.down = true := by unfold Mem.wr; rw [if_pos h0]
    by_cases hb : mbit M.wmask 0 = true
    · rw [if_pos hb]
      exact ⟨Mem.wr_cs, hmask, .inr ⟨by simp [Mem.told, h1], h1, by omega, .inr rfl⟩, by omega, Mem.wr_cutge hc⟩
    · rw [if_neg hb]
      exact ⟨Mem.wr_cs, hmask, .inr ⟨by simp [Mem.told, h1], h1, by omega, .inl Mem.wr_regs⟩, by omega, Mem.wr_cutge hc⟩
  · have h1 : M.wr.down = false := by unfold Mem.wr; rw [if_neg h0]; split <;> exact hd
    have h2 : M.wmask = -1 := by unfold Mem.wmask; rw [if_neg h0]
    rw [h2, mbit_neg 0 (by omega), if_pos rfl]
    refine ⟨Mem.wr_cs, hmask, .inl ⟨by simp [Mem.told, h1], h1, rfl⟩, fun h => ?_, Mem.wr_cutge hc⟩
    simp only [Mem.wr]; rw [if_neg h0, if_neg (by omega)]; exact h

/-! ## Lines that don't fail, in plain Lean -/

/-- Whose spare line i is. -/
def Mem.whose (M : Mem) (i : Nat) : Int := M.regs.getD (3 + i) 0
/-- The line that stands for slot s. -/
def Mem.place (M : Mem) (n s : Nat) : Nat → Nat
  | 0 => s
  | j + 1 => if M.whose j = (s : Int) + 1 then n + j else M.place n s j
def Mem.view (M : Mem) (n sp s : Nat) : List Int := (M.cl (M.place n s sp)).line

/-- The table is one of k used lines. -/
structure LV (M : Mem) (n sp k : Nat) : Prop where
  len : M.cs.length = n + sp
  n1 : 1 ≤ n
  sp16 : sp ≤ 16
  kle : k ≤ sp
  used : ∀ i, i < k → 1 ≤ M.whose i ∧ M.whose i ≤ (n : Int) + 1
  free : ∀ i, k ≤ i → i < sp → M.whose i = 0

def Mem.next (M : Mem) (sp : Nat) : Nat → Nat
  | 0 => sp
  | j + 1 => if M.whose (sp - (j + 1)) = 0 then sp - (j + 1) else M.next sp j

/-- From spare line i on, the first one that lasts is taken. -/
def lgo (n sp slot : Nat) (d : List Int) : Nat → Mem → Mem × Int
  | 0, M => (M, 3)
  | j + 1, M =>
    let r := M.put ((n + (sp - (j + 1)) : Nat) : Int) d
    if r.2 = 0 then r.1.set ((3 + (sp - (j + 1)) : Nat) : Int) ((slot : Int) + 1)
    else if r.2 = 3 then
      let q := r.1.set ((3 + (sp - (j + 1)) : Nat) : Int) ((n : Int) + 1)
      if q.2 = 0 then lgo n sp slot d j q.1 else q
    else r

def lput (n sp : Nat) (M : Mem) (slot : Int) (d : List Int) : Mem × Int :=
  if 0 ≤ slot ∧ slot < n then
    if M.down then (M, 2) else
    let r := M.put ((M.place n slot.toNat sp : Nat) : Int) d
    if r.2 = 3 then lgo n sp slot.toNat d (sp - M.next sp sp) r.1 else r
  else (M, 1)

def lget (n sp : Nat) (M : Mem) (slot : Int) : List Int × Int :=
  if 0 ≤ slot ∧ slot < n then if M.down then (List.replicate 8 0, 2) else (M.view n sp slot.toNat, 0) else (List.replicate 8 0, 1)

section
variable {M M' : Mem} {n sp k s : Nat}

theorem place_cases (M : Mem) (n s sp : Nat) : M.place n s sp = s ∨ ∃ j, j < sp ∧ M.place n s sp = n + j ∧ M.whose j = (s : Int) + 1 := by
  induction sp with
  | zero => exact .inl rfl
  | succ j ih =>
    simp only [Mem.place]
    by_cases h : M.whose j = (s : Int) + 1
    · rw [if_pos h]; exact .inr ⟨j, by omega, rfl, h⟩
    · rw [if_neg h]
      rcases ih with ih | ⟨i, h1, h2, h3⟩
      · exact .inl ih
      · exact .inr ⟨i, by omega, h2, h3⟩
theorem place_lt (hs : s < n) : M.place n s sp < n + sp := by
  rcases place_cases M n s sp with h | ⟨j, h1, h2, _⟩ <;> omega
theorem place_inj {s' : Nat} (hs : s < n) (hs' : s' < n) (h : M.place n s sp = M.place n s' sp) : s = s' := by
  rcases place_cases M n s sp with h1 | ⟨j, h1, h2, h3⟩ <;> rcases place_cases M n s' sp with h4 | ⟨i, h4, h5, h6⟩
  · omega
  · omega
  · omega
  · have : i = j := by omega
    subst this
    omega
theorem place_congr (h : ∀ j, j < sp → (M'.whose j = (s : Int) + 1 ↔ M.whose j = (s : Int) + 1)) : M'.place n s sp = M.place n s sp := by
  induction sp with
  | zero => rfl
  | succ j ih =>
    simp only [Mem.place]
    have := h j (by omega)
    by_cases hj : M.whose j = (s : Int) + 1
    · rw [if_pos hj, if_pos (this.2 hj)]
    · rw [if_neg hj, if_neg (fun hh => hj (this.1 hh)), ih fun i hi => h i (by omega)]
theorem place_top {i : Nat} (hi : i < sp) (h : M.whose i = (s : Int) + 1) (hz : ∀ j, i < j → j < sp → M.whose j ≠ (s : Int) + 1) : M.place n s sp = n + i := by
  induction sp with
  | zero => omega
  | succ j ih =>
    simp only [Mem.place]
    by_cases hj : i = j
    · subst hj; rw [if_pos h]
    · rw [if_neg (hz j (by omega) (by omega))]
      exact ih (by omega) fun q h1 h2 => hz q h1 (by omega)

theorem LV.next (h : LV M n sp k) : M.next sp sp = k := by
  have key : ∀ j, j ≤ sp → sp - k ≤ j → M.next sp j = k := by
    intro j
    induction j with
    | zero => intro _ h2; simp only [Mem.next]; have := h.kle; omega
    | succ j ih =>
      intro h1 h2
      simp only [Mem.next]
      by_cases hz : M.whose (sp - (j + 1)) = 0
      · rw [if_pos hz]
        by_cases hlt : sp - (j + 1) < k
        · have := h.used _ hlt; omega
        · omega
      · rw [if_neg hz]
        refine ih (by omega) ?_
        have : sp - (j + 1) < k := by
          rcases Nat.lt_or_ge (sp - (j + 1)) k with hh | hh
          · exact hh
          · exact absurd (h.free _ hh (by omega)) hz
        omega
  exact key sp (Nat.le_refl _) (by omega)

theorem LV.same (h : LV M n sp k) (hr : M'.regs = M.regs) (hl : M'.cs.length = M.cs.length) : LV M' n sp k :=
  ⟨by rw [hl]; exact h.len, h.n1, h.sp16, h.kle, fun i hi => by simp only [Mem.whose, hr]; exact h.used i hi, fun i hi hi' => by simp only [Mem.whose, hr]; exact h.free i hi hi'⟩
theorem whose_set (hr : M.regs.length = 35) {i j : Nat} {v : Int} (hi : i < 16) (hM : M'.regs = M.regs.set (3 + i) v) : M'.whose j = if j = i then v else M.whose j := by
  unfold Mem.whose
  rw [hM]
  simp only [List.getD_eq_getElem?_getD]
  by_cases hij : j = i
  · subst hij; rw [List.getElem?_set_self (by omega), if_pos rfl]; rfl
  · rw [List.getElem?_set_ne (by omega), if_neg hij]
theorem view_same (hr : M'.regs = M.regs) (hl : (M'.cl (M.place n s sp)).line = (M.cl (M.place n s sp)).line) : M'.view n sp s = M.view n sp s := by
  unfold Mem.view
  rw [place_congr (M' := M') (M := M) fun j _ => by simp only [Mem.whose, hr]]
  exact hl

/-- All that the layers above may rely on, of a Put of a slot. -/
structure LPut (n sp : Nat) (M : Mem) (slot : Nat) (d : List Int) (k : Nat) (M' : Mem) (e : Int) : Prop where
  lv : ∃ k', k ≤ k' ∧ LV M' n sp k' ∧ (e = 3 → k' = sp)
  other : ∀ s, s < n → s ≠ slot → M'.view n sp s = M.view n sp s
  regs : ∀ r, (r < 3 ∨ 19 ≤ r) → M'.regs.getD r 0 = M.regs.getD r 0
  mask : M'.mask = M.mask
  rlen : M'.regs.length = 35
  res : (e = 0 ∧ M'.down = false ∧ M'.view n sp slot = d) ∨ (e = 3 ∧ M'.down = false ∧ M'.view n sp slot = M.view n sp slot) ∨
    (e = 2 ∧ M'.down = true ∧ M.cut ≠ -1 ∧ (M'.view n sp slot = M.view n sp slot ∨ M'.view n sp slot = d ∨ M'.view n sp slot = mixL (M.view n sp slot) d M.mask))
  cut : M.cut = -1 → M'.cut = -1
  cutge : -1 ≤ M'.cut
end
end Go.Proofs.Ytgechnnadjonaab
