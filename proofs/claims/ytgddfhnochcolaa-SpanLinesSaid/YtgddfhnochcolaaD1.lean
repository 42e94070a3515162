import Derived.Test.YtgddfhnochcolaaI9
set_option linter.all false
set_option linter.all false
namespace Go.Proofs.Ytgddfhnochcolaa
open Go Go.Abs

/-! ## Blocks of words, and extents: plain -/

def hdr (b : Bk) : Int := 2 * b.2.1 + (if b.2.2 = true then 1 else 0)
theorem hdr_half (b : Bk) : hdr b / 2 = b.2.1 := by unfold hdr; split <;> omega
theorem hdr_used (b : Bk) : (hdr b % 2 == 1) = b.2.2 := by
  obtain ⟨p, z, u⟩ := b
  unfold hdr
  cases u
  · simp only [Bool.false_eq_true, if_false]
    rw [show (2 * z + 0) % 2 = 0 by omega]; rfl
  · simp only [if_true]
    rw [show (2 * z + 1) % 2 = 1 by omega]; rfl
theorem wordN_hdr {b : Bk} (h : mayS b.2.1) : wordN b.2.1 b.2.2 = hdr b := by unfold wordN hdr; rw [if_pos h]

theorem blkFrom_of {ws : List Int} : ∀ {l : List Bk} {pt : Nat} {pu : Bool}, chainB ws.length pt pu l → (∀ b ∈ l, ws.getD b.1.toNat 0 = hdr b) → blkFrom ws pt = some l := by
  intro l
  induction l with
  | nil =>
    intro pt pu h _
    simp only [chainB] at h
    rw [blkFrom_eq, dif_neg (by omega)]
  | cons b r ih =>
    intro pt pu h hh
    obtain ⟨h1, h2, h3, h4, h5⟩ := h
    have hs := h2
    unfold mayS at hs
    have hb := hh b (by simp)
    rw [h1, Int.toNat_natCast] at hb
    have hm : mayS (ws.getD pt 0 / 2) := by rw [hb, hdr_half]; exact h2
    rw [blkFrom_eq, dif_pos (by omega), dif_pos hm]
    rw [hb, hdr_half, hdr_used]
    have e : ((pt + b.2.1.toNat : Nat) : Int) = (pt : Int) + b.2.1 := by omega
    rw [ih (pt := pt + b.2.1.toNat) (pu := b.2.2) (by rw [e]; exact h5) fun b' hb' => hh b' (by simp [hb'])]
    simp only [Option.map_some, Option.some.injEq, List.cons.injEq, and_true]
    obtain ⟨b1, b2, b3⟩ := b
    simp only at h1 ⊢
    rw [h1]
theorem blkFrom_hdr {ws : List Int} (h64 : words64 ws) : ∀ {l : List Bk} {pt : Nat}, blkFrom ws pt = some l → ∀ b ∈ l, ws.getD b.1.toNat 0 = hdr b := by
  intro l
  induction l with
  | nil => intro pt _ b hb; cases hb
  | cons a r ih =>
    intro pt h b hb
    rw [blkFrom_eq] at h
    split at h
    · rename_i hlt
      split at h
      · rename_i hm
        rw [Option.map_eq_some_iff] at h
        obtain ⟨r', h1, h2⟩ := h
        injection h2 with h2 h3
        subst h3
        rw [List.mem_cons] at hb
        rcases hb with rfl | hb
        · rw [← h2]
          simp only [Int.toNat_natCast]
          have hv : 0 ≤ ws.getD pt 0 := by
            rw [List.getD_eq_getElem?_getD, List.getElem?_eq_getElem hlt]
            exact (h64 _ (List.getElem_mem hlt)).1
          generalize ws.getD pt 0 = v at *
          unfold hdr
          simp only [beq_iff_eq]
          split <;> omega
        · exact ih h1 b hb
      · cases h
    · injection h with h; cases h
theorem blocksN_iff {ws : List Int} {l : List Bk} (h64 : words64 ws) : blocksN ws = some l ↔ MayB l ws.length ∧ ∀ b ∈ l, ws.getD b.1.toNat 0 = hdr b := by
  constructor
  · intro h
    refine ⟨blocksN_may h, ?_⟩
    unfold blocksN at h
    rw [Option.bind_eq_some_iff] at h
    obtain ⟨l', h1, h2⟩ := h
    split at h2
    · injection h2 with h2; subst h2; exact blkFrom_hdr h64 h1
    · cases h2
  · intro ⟨h1, h2⟩
    unfold blocksN
    rw [blkFrom_of (pt := 0) h1.2 h2, Option.bind_some, if_pos h1]

/-! ### extents -/

abbrev Ex : Type := Int × Int × List Int
def gapB (p q : Int) : List Bk := if p < q then [(p, q - p, false)] else []
def bg : Int → List Ex → List Bk
  | _, [] => []
  | p, x :: r => gapB p x.1 ++ (x.1, x.2.1, true) :: bg (x.1 + x.2.1) r
def endX : Int → List Ex → Int
  | p, [] => p
  | _, x :: r => endX (x.1 + x.2.1) r
def blkX (words : Int) (ext : List Ex) : List Bk := bg 0 ext ++ gapB (endX 0 ext) words
def tailB (words : Int) : List Ex → List Bk
  | [] => []
  | x :: r => (x.1, x.2.1, true) :: (bg (x.1 + x.2.1) r ++ gapB (endX (x.1 + x.2.1) r) words)
def startX (words : Int) : List Ex → Int
  | [] => words
  | x :: _ => x.1
theorem blk_from (words p : Int) (e : List Ex) : bg p e ++ gapB (endX p e) words = gapB p (startX words e) ++ tailB words e := by
  cases e with
  | nil => simp [bg, endX, startX, tailB]
  | cons x r => simp [bg, endX, startX, tailB]
theorem bg_app : ∀ (e1 e2 : List Ex) (p : Int), bg p (e1 ++ e2) = bg p e1 ++ bg (endX p e1) e2 := by
  intro e1
  induction e1 with
  | nil => intro e2 p; rfl
  | cons x r ih => intro e2 p; simp [bg, endX, ih]
theorem endX_app : ∀ (e1 e2 : List Ex) (p : Int), endX p (e1 ++ e2) = endX (endX p e1) e2 := by
  intro e1
  induction e1 with
  | nil => intro e2 p; rfl
  | cons x r ih => intro e2 p; simp [endX, ih]
theorem blkX_split (words : Int) (e1 e2 : List Ex) : blkX words (e1 ++ e2) = bg 0 e1 ++ (gapB (endX 0 e1) (startX words e2) ++ tailB words e2) := by
  unfold blkX
  rw [bg_app, endX_app, List.append_assoc, blk_from]

def ExPre (words : Int) : Int → List Ex → Prop
  | _, [] => True
  | p, x :: r => (p = x.1 ∨ p + 2 ≤ x.1) ∧ 2 ≤ x.2.1 ∧ x.1 + x.2.1 ≤ words ∧ ExPre words (x.1 + x.2.1) r
def ExOK (words p : Int) (e : List Ex) : Prop := ExPre words p e ∧ (endX p e = words ∨ endX p e + 2 ≤ words)
theorem exPre_app {words : Int} : ∀ {e1 e2 : List Ex} {p : Int}, ExPre words p (e1 ++ e2) ↔ ExPre words p e1 ∧ ExPre words (endX p e1) e2 := by
  intro e1
  induction e1 with
  | nil => intro e2 p; simp [ExPre, endX]
  | cons x r ih => intro e2 p; simp only [List.cons_append, ExPre, endX, ih]; constructor <;> (rintro h; simp_all)
theorem exOK_app {words p : Int} {e1 e2 : List Ex} : ExOK words p (e1 ++ e2) ↔ ExPre words p e1 ∧ ExOK words (endX p e1) e2 := by
  unfold ExOK
  rw [exPre_app, endX_app, and_assoc]
theorem exPre_end {words : Int} : ∀ {e : List Ex} {p : Int}, ExPre words p e → p ≤ endX p e ∧ (p ≤ words → endX p e ≤ words) := by
  intro e
  induction e with
  | nil => intro p _; exact ⟨Int.le_refl _, fun h => h⟩
  | cons x r ih =>
    intro p h
    obtain ⟨h1, h2, h3, h4⟩ := h
    have := ih h4
    simp only [endX]
    exact ⟨by omega, fun _ => this.2 h3⟩
theorem exOK_start {words p : Int} {e : List Ex} (h : ExOK words p e) : p = startX words e ∨ p + 2 ≤ startX words e := by
  cases e with
  | nil => exact h.2
  | cons x r => exact h.1.1
theorem exOK_startle {words p : Int} {e : List Ex} (h : ExOK words p e) : startX words e ≤ words := by
  cases e with
  | nil => exact Int.le_refl _
  | cons x r => have := h.1.2.1; have := h.1.2.2.1; simp only [startX]; omega
theorem exOK_from {words p q : Int} {e : List Ex} (h : ExOK words p e) (hq : q = startX words e ∨ q + 2 ≤ startX words e) : ExOK words q e := by
  cases e with
  | nil => exact ⟨trivial, hq⟩
  | cons x r => exact ⟨⟨hq, h.1.2⟩, h.2⟩
theorem exOK_head {words p : Int} {x : Ex} {e : List Ex} (h : ExOK words p (x :: e)) : (p = x.1 ∨ p + 2 ≤ x.1) ∧ 2 ≤ x.2.1 ∧ x.1 + x.2.1 ≤ words ∧ ExOK words (x.1 + x.2.1) e :=
  ⟨h.1.1, h.1.2.1, h.1.2.2.1, h.1.2.2.2, h.2⟩
theorem exOK_cons {words p : Int} {x : Ex} {e : List Ex} (h1 : p = x.1 ∨ p + 2 ≤ x.1) (h2 : 2 ≤ x.2.1) (h3 : x.1 + x.2.1 ≤ words) (h : ExOK words (x.1 + x.2.1) e) : ExOK words p (x :: e) :=
  ⟨⟨h1, h2, h3, h.1⟩, h.2⟩
theorem exOK_chain {words : Int} (hw : mayW words) : ∀ {e : List Ex} {p : Int}, 0 ≤ p → ExOK words p e → chainB words p true (bg p e ++ gapB (endX p e) words) := by
  have hw' := hw
  unfold mayW at hw'
  intro e
  induction e with
  | nil =>
    intro p hp h
    have h2 := h.2
    simp only [endX] at h2
    simp only [bg, endX, List.nil_append]
    unfold gapB
    split
    · simp only [chainB]
      refine ⟨trivial, ?_, Int.le_refl _, .inl trivial, by omega⟩
      unfold mayS; omega
    · simp only [chainB]; omega
  | cons x r ih =>
    intro p hp h
    obtain ⟨h1, h2, h3, h4⟩ := exOK_head h
    have hc := ih (p := x.1 + x.2.1) (by omega) h4
    simp only [bg, endX, List.append_assoc, List.cons_append]
    unfold gapB at *
    split
    · simp only [List.cons_append, List.nil_append, chainB]
      refine ⟨trivial, by unfold mayS; omega, by omega, .inl trivial, by omega, by unfold mayS; omega, by omega, .inr trivial, ?_⟩
      rw [show p + (x.1 - p) + x.2.1 = x.1 + x.2.1 by omega]
      exact hc
    · simp only [List.nil_append, chainB]
      refine ⟨by omega, by unfold mayS; omega, by omega, .inl trivial, ?_⟩
      rw [show p + x.2.1 = x.1 + x.2.1 by omega]
      exact hc
theorem exOK_may {words : Int} (hw : mayW words) {e : List Ex} (h : ExOK words 0 e) : MayB (blkX words e) words := ⟨hw, exOK_chain hw (Int.le_refl 0) h⟩

theorem bg_mem {words : Int} : ∀ {e : List Ex} {p : Int}, ExPre words p e → ∀ b ∈ bg p e, p ≤ b.1 ∧ b.1 + b.2.1 ≤ endX p e ∧ 2 ≤ b.2.1 := by
  intro e
  induction e with
  | nil => intro p _ b hb; cases hb
  | cons x r ih =>
    intro p h b hb
    obtain ⟨h1, h2, h3, h4⟩ := h
    have he := exPre_end h4
    simp only [bg, List.mem_append, List.mem_cons] at hb
    simp only [endX]
    rcases hb with hb | rfl | hb
    · unfold gapB at hb
      split at hb
      · simp only [List.mem_cons, List.not_mem_nil, or_false] at hb; subst hb; simp only; omega
      · cases hb
    · simp only; omega
    · have := ih h4 b hb; omega
theorem ex_mem {words : Int} : ∀ {e : List Ex} {p : Int}, ExPre words p e → ∀ x ∈ e, p ≤ x.1 ∧ x.1 + x.2.1 ≤ endX p e ∧ 2 ≤ x.2.1 := by
  intro e
  induction e with
  | nil => intro p _ b hb; cases hb
  | cons x r ih =>
    intro p h b hb
    obtain ⟨h1, h2, h3, h4⟩ := h
    have he := exPre_end h4
    simp only [endX]
    rw [List.mem_cons] at hb
    rcases hb with rfl | hb
    · omega
    · have := ih h4 b hb; omega
theorem tail_mem {words : Int} {e : List Ex} {p : Int} (h : ExOK words p e) : ∀ b ∈ tailB words e, startX words e ≤ b.1 := by
  cases e with
  | nil => intro b hb; cases hb
  | cons x r =>
    obtain ⟨h1, h2, h3, h4⟩ := exOK_head h
    intro b hb
    simp only [tailB, List.mem_cons, List.mem_append] at hb
    simp only [startX]
    have he := exPre_end h4.1
    rcases hb with rfl | hb | hb
    · exact Int.le_refl _
    · have := bg_mem h4.1 b hb; omega
    · unfold gapB at hb
      split at hb
      · simp only [List.mem_cons, List.not_mem_nil, or_false] at hb; subst hb; simp only; omega
      · cases hb

theorem free_split {words : Int} : ∀ {e : List Ex} {p : Int} {i : Nat} {b : Bk}, (bg p e ++ gapB (endX p e) words)[i]? = some b → b.2.2 = false →
    ∃ e1 e2, e = e1 ++ e2 ∧ i = (bg p e1).length ∧ b = (endX p e1, startX words e2 - endX p e1, false) ∧ endX p e1 < startX words e2 := by
  intro e
  induction e with
  | nil =>
    intro p i b h hu
    simp only [bg, endX, List.nil_append] at h
    unfold gapB at h
    split at h
    · cases i with
      | zero => simp at h; subst h; exact ⟨[], [], rfl, rfl, rfl, by simpa [endX, startX]⟩
      | succ i => simp at h
    · simp at h
  | cons x r ih =>
    intro p i b h hu
    simp only [bg, endX, List.append_assoc, List.cons_append] at h
    unfold gapB at h
    split at h
    · rename_i hlt
      cases i with
      | zero => simp at h; subst h; exact ⟨[], x :: r, rfl, rfl, rfl, by simpa [endX, startX]⟩
      | succ i =>
        cases i with
        | zero => simp at h; subst h; simp at hu
        | succ i =>
          simp only [List.cons_append, List.nil_append, List.getElem?_cons_succ] at h
          obtain ⟨e1, e2, h1, h2, h3, h4⟩ := ih (i := i) h hu
          refine ⟨x :: e1, e2, by rw [h1]; rfl, ?_, by simpa [endX] using h3, by simpa [endX] using h4⟩
          simp only [bg, List.length_append, List.length_cons]
          unfold gapB
          rw [if_pos hlt]; simp; omega
    · rename_i hlt
      cases i with
      | zero => simp at h; subst h; simp at hu
      | succ i =>
        simp only [List.nil_append, List.getElem?_cons_succ] at h
        obtain ⟨e1, e2, h1, h2, h3, h4⟩ := ih (i := i) h hu
        refine ⟨x :: e1, e2, by rw [h1]; rfl, ?_, by simpa [endX] using h3, by simpa [endX] using h4⟩
        simp only [bg, List.length_append, List.length_cons]
        unfold gapB
        rw [if_neg hlt]; simp; omega
theorem used_split {words : Int} : ∀ {e : List Ex} {p : Int} {i : Nat} {b : Bk}, (bg p e ++ gapB (endX p e) words)[i]? = some b → b.2.2 = true →
    ∃ e1 x e2, e = e1 ++ x :: e2 ∧ i = (bg p e1).length + (gapB (endX p e1) x.1).length ∧ b = (x.1, x.2.1, true) := by
  intro e
  induction e with
  | nil =>
    intro p i b h hu
    simp only [bg, endX, List.nil_append] at h
    unfold gapB at h
    split at h
    · cases i with
      | zero => simp at h; subst h; simp at hu
      | succ i => simp at h
    · simp at h
  | cons x r ih =>
    intro p i b h hu
    simp only [bg, endX, List.append_assoc, List.cons_append] at h
    unfold gapB at h
    split at h
    · rename_i hlt
      cases i with
      | zero => simp at h; subst h; simp at hu
      | succ i =>
        cases i with
        | zero =>
          simp at h; subst h
          refine ⟨[], x, r, rfl, ?_, rfl⟩
          have e0 : (gapB p x.1).length = 1 := by unfold gapB; rw [if_pos hlt]; rfl
          show 0 + 1 = 0 + (gapB p x.1).length
          omega
        | succ i =>
          simp only [List.cons_append, List.nil_append, List.getElem?_cons_succ] at h
          obtain ⟨e1, y, e2, h1, h2, h3⟩ := ih (i := i) h hu
          refine ⟨x :: e1, y, e2, by rw [h1]; rfl, ?_, h3⟩
          simp only [bg, endX, List.length_append, List.length_cons]
          have e0 : (gapB p x.1).length = 1 := by unfold gapB; rw [if_pos hlt]; rfl
          omega
    · rename_i hlt
      cases i with
      | zero =>
        simp at h; subst h
        refine ⟨[], x, r, rfl, ?_, rfl⟩
        have e0 : (gapB p x.1).length = 0 := by unfold gapB; rw [if_neg hlt]; rfl
        show 0 = 0 + (gapB p x.1).length
        omega
      | succ i =>
        simp only [List.nil_append, List.getElem?_cons_succ] at h
        obtain ⟨e1, y, e2, h1, h2, h3⟩ := ih (i := i) h hu
        refine ⟨x :: e1, y, e2, by rw [h1]; rfl, ?_, h3⟩
        simp only [bg, endX, List.length_append, List.length_cons]
        have e0 : (gapB p x.1).length = 0 := by unfold gapB; rw [if_neg hlt]; rfl
        omega
theorem used_mem {words : Int} {e : List Ex} {b : Bk} (hb : b ∈ blkX words e) (hu : b.2.2 = true) : ∃ x ∈ e, b = (x.1, x.2.1, true) := by
  obtain ⟨i, hi⟩ := List.mem_iff_getElem?.1 hb
  obtain ⟨e1, x, e2, h1, _, h3⟩ := used_split hi hu
  exact ⟨x, by rw [h1]; simp, h3⟩
theorem ex_used {words : Int} {e1 e2 : List Ex} {x : Ex} : (blkX words (e1 ++ x :: e2))[(bg 0 e1).length + (gapB (endX 0 e1) x.1).length]? = some (x.1, x.2.1, true) := by
  rw [blkX_split, List.getElem?_append_right (by omega), List.getElem?_append_right (by simp [startX])]
  simp [startX, tailB]
theorem mem_used {words : Int} {e : List Ex} {x : Ex} (hx : x ∈ e) : (x.1, x.2.1, true) ∈ blkX words e := by
  obtain ⟨e1, e2, rfl⟩ := List.append_of_mem hx
  exact List.mem_of_getElem? ex_used
theorem ex_uniq {words : Int} : ∀ {e1 e2 e1' e2' : List Ex} {x x' : Ex} {p : Int}, ExPre words p (e1 ++ x :: e2) → e1 ++ x :: e2 = e1' ++ x' :: e2' → x.1 = x'.1 → e1 = e1' ∧ x = x' ∧ e2 = e2' := by
  intro e1
  induction e1 with
  | nil =>
    intro e2 e1' e2' x x' p h he hx
    cases e1' with
    | nil => simp only [List.nil_append, List.cons.injEq] at he; exact ⟨rfl, he.1, he.2⟩
    | cons y r =>
      simp only [List.nil_append, List.cons_append, List.cons.injEq] at he
      obtain ⟨rfl, rfl⟩ := he
      obtain ⟨h1, h2, h3, h4⟩ := h
      have := ex_mem h4 x' (by simp)
      omega
  | cons y r ih =>
    intro e2 e1' e2' x x' p h he hx
    cases e1' with
    | nil =>
      simp only [List.nil_append, List.cons_append, List.cons.injEq] at he
      obtain ⟨rfl, rfl⟩ := he
      obtain ⟨h1, h2, h3, h4⟩ := h
      have := ex_mem h4 x (by simp)
      omega
    | cons y' r' =>
      simp only [List.cons_append, List.cons.injEq] at he
      obtain ⟨rfl, he⟩ := he
      obtain ⟨h1, h2, h3, h4⟩ := h
      obtain ⟨a, b, c⟩ := ih h4 he hx
      exact ⟨by rw [a], b, c⟩
end Go.Proofs.Ytgddfhnochcolaa
