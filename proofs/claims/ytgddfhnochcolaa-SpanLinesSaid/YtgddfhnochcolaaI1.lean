import Derived.Test.YtgddfhnochcolaaS10
import Derived.Test.YtgddfhnochcolaaAbsTwo
set_option linter.all false
set_option linter.all false
namespace Go.Proofs.Ytgddfhnochcolaa
open Go Go.Abs

/-! ## Words of blocks -/

abbrev Bk : Type := Int × Int × Bool
def bkV (b : Bk) : List Value := [.int .i64 b.1, .int .i64 b.2.1, .bool b.2.2]
theorem bkV_len (b : Bk) : (bkV b).length = 3 := rfl
theorem bkV_ok (b : Bk) : (bkV b).all cellOK = true := rfl

def needN (n : Int) : Int := if 1 ≤ n ∧ n ≤ 448 then 1 + (n + 7) / 8 else 0
def takesN (size need : Int) : Int := if 2 ≤ need ∧ need ≤ size then (if size - need < 2 then size else need) else 0
def mayS (n : Int) : Prop := 2 ≤ n ∧ n ≤ 512
instance (n : Int) : Decidable (mayS n) := by unfold mayS; infer_instance
def wordN (n : Int) (u : Bool) : Int := if mayS n then 2 * n + (if u then 1 else 0) else 0
def offN (pt : Int) : Int := if 0 ≤ pt ∧ pt ≤ 512 then (pt + 1) * 8 else 0
def mayW (n : Int) : Prop := 8 ≤ n ∧ n ≤ 512 ∧ n % 8 = 0
instance (n : Int) : Decidable (mayW n) := by unfold mayW; infer_instance

theorem shr1 {v : Int} (h : 0 ≤ v) : shrI .u64 v 1 = v / 2 := by
  unfold shrI
  rw [Int.fdiv_eq_ediv_of_nonneg _ (by decide)]
  rfl
theorem and1 {v : Int} (h : isU v) : andI .u64 v 1 = v % 2 := by
  unfold isU at h
  obtain ⟨n, rfl⟩ := Int.eq_ofNat_of_zero_le h.1
  have hn : n < 2 ^ 64 := by omega
  unfold andI
  have e : (BitVec.ofInt (IntKind.bits .u64) (n : Int) &&& BitVec.ofInt (IntKind.bits .u64) 1).toNat = n % 2 := by
    rw [BitVec.toNat_and]
    have e1 : (BitVec.ofInt (IntKind.bits .u64) (n : Int)).toNat = n := by
      show (BitVec.ofInt 64 (n : Int)).toNat = n
      rw [BitVec.toNat_ofInt]
      omega
    have e2 : (BitVec.ofInt (IntKind.bits .u64) 1).toNat = 1 := rfl
    rw [e1, e2, Nat.and_one_is_mod]
  rw [e, wrap_u64 (by omega) (by omega)]
  omega
theorem shl1 {n : Int} (h : mayS n) : shlI .u64 (IntKind.wrap .u64 n) 1 = 2 * n := by
  unfold mayS at h
  unfold shlI
  rw [wrap_u64 (n := n) (by omega) (by omega)]
  have : (2 : Int) ^ (min (Int.toNat 1) (IntKind.bits .u64)) = 2 := rfl
  rw [this, wrap_u64 (by omega) (by omega)]; omega
theorem or1 {n : Int} (h : mayS n) : orI .u64 (2 * n) 1 = 2 * n + 1 := by
  unfold mayS at h
  obtain ⟨m, rfl⟩ := Int.eq_ofNat_of_zero_le (show 0 ≤ n by omega)
  have hm : m < 513 := by omega
  have key : ∀ m : Fin 513, orI .u64 (2 * ((m.val : Nat) : Int)) 1 = 2 * ((m.val : Nat) : Int) + 1 := by decide +kernel
  exact key ⟨m, hm⟩

section
variable {H : AH}

theorem darningref4_Need.s {n : Int} {k : Int → AH → Prop} (hn : isI n) (h : k (needN n) H) : darningref4_Need n H k := by
  unfold isI at hn
  refine darningref4_Need.link ?_
  unfold darningref4_Need.b darningref4_Need.j1
  unfold needN at h
  simp only [bcase_eq, decide_eq_true_eq]
  by_cases h1 : n < 1
  · rw [if_pos h1]; rw [if_neg (by omega)] at h; exact h
  rw [if_neg h1]
  by_cases h2 : n > 448
  · rw [if_pos h2]; rw [if_neg (by omega)] at h; exact h
  rw [if_neg h2]
  rw [if_pos (by omega)] at h
  refine ⟨by decide, ?_⟩
  rw [wrap_i64 (n := n + 7) (by omega) (by omega), Int.tdiv_eq_ediv_of_nonneg (by omega), wrap_i64 (n := (n + 7) / 8) (by omega) (by omega), wrap_i64 (by omega) (by omega)]
  exact h
theorem darningref4_MaySize.s {n : Int} {k : Bool → AH → Prop} (h : k (decide (mayS n)) H) : darningref4_MaySize n H k := by
  refine darningref4_MaySize.link ?_
  unfold darningref4_MaySize.b
  simp only [bcase_eq, decide_eq_true_eq]
  by_cases h1 : n ≥ 2
  · rw [if_pos h1]
    by_cases h2 : n ≤ 512
    · rw [decide_eq_true h2]; rw [decide_eq_true (show mayS n from ⟨h1, h2⟩)] at h; exact h
    · rw [decide_eq_false h2]; rw [decide_eq_false (fun hh : mayS n => h2 hh.2)] at h; exact h
  · rw [if_neg h1]; rw [decide_eq_false (fun hh : mayS n => h1 hh.1)] at h; exact h
theorem darningref4_mayWords.s {n : Int} {k : Bool → AH → Prop} (h : k (decide (mayW n)) H) : darningref4_mayWords n H k := by
  refine darningref4_mayWords.link ?_
  unfold darningref4_mayWords.b
  simp only [bcase_eq, decide_eq_true_eq]
  by_cases h1 : n ≥ 8
  · rw [if_pos h1]
    by_cases h2 : n ≤ 512
    · rw [if_pos h2]
      refine ⟨by decide, ?_⟩
      rw [Int.tmod_eq_emod_of_nonneg (by omega)]
      have e : (n % 8 == 0) = decide (mayW n) := by
        by_cases h3 : n % 8 = 0
        · rw [decide_eq_true (show mayW n from ⟨h1, h2, h3⟩)]; simpa using h3
        · rw [decide_eq_false (fun hh : mayW n => h3 hh.2.2)]; simpa using h3
      rw [e]; exact h
    · rw [if_neg h2]; rw [decide_eq_false (fun hh : mayW n => h2 hh.2.1)] at h; exact h
  · rw [if_neg h1]; rw [decide_eq_false (fun hh : mayW n => h1 hh.1)] at h; exact h
theorem darningref4_Takes.s {a b : Int} {k : Int → AH → Prop} (ha : 0 ≤ a ∧ a ≤ 1000) (hb : 0 ≤ b ∧ b ≤ 1000) (h : k (takesN a b) H) : darningref4_Takes a b H k := by
  refine darningref4_Takes.link ?_
  unfold darningref4_Takes.b darningref4_Takes.j1
  unfold takesN at h
  simp only [bcase_eq, decide_eq_true_eq]
  by_cases h1 : b < 2
  · rw [if_pos h1]; rw [if_neg (by omega)] at h; exact h
  rw [if_neg h1]
  by_cases h2 : b > a
  · rw [if_pos h2]; rw [if_neg (by omega)] at h; exact h
  rw [if_neg h2]
  rw [if_pos (by omega)] at h
  rw [wrap_i64 (n := a - b) (by omega) (by omega)]
  by_cases h3 : a - b < 2
  · rw [if_pos h3]; rw [if_pos h3] at h; exact h
  · rw [if_neg h3]; rw [if_neg h3] at h; exact h
theorem darningref4_Word.s {n : Int} {u : Bool} {k : Int → AH → Prop} (h : k (wordN n u) H) : darningref4_Word n u H k := by
  refine darningref4_Word.link ?_
  unfold darningref4_Word.b
  refine darningref4_MaySize.s ?_
  unfold wordN at h
  by_cases h1 : mayS n
  · rw [decide_eq_true h1, Bool.not_true, bcase_false]
    rw [if_pos h1] at h
    refine ⟨by decide, ?_⟩
    rw [shl1 h1, or1 h1]
    cases u with
    | true => rw [bcase_true]; exact h
    | false =>
      rw [bcase_false]
      rw [if_neg (by simp), Int.add_zero] at h
      exact h
  · rw [decide_eq_false h1, Bool.not_false, bcase_true]
    rw [if_neg h1] at h
    exact h
theorem darningref4_ParseWord.s {v : Int} {k : Int → Bool → Bool → AH → Prop} (hv : isU v) (h1 : mayS (v / 2) → k (v / 2) (v % 2 == 1) true H) (h0 : ¬ mayS (v / 2) → k 0 false false H) : darningref4_ParseWord v H k := by
  have hv' := hv
  unfold isU at hv'
  refine darningref4_ParseWord.link ?_
  unfold darningref4_ParseWord.b darningref4_ParseWord.j1
  rw [shr1 hv'.1, and1 hv]
  simp only [bcase_eq, decide_eq_true_eq]
  refine ⟨by decide, ?_⟩
  by_cases a1 : v / 2 < 2
  · rw [if_pos a1]; exact h0 (fun hh => by unfold mayS at hh; omega)
  rw [if_neg a1]
  refine ⟨by decide, ?_⟩
  by_cases a2 : v / 2 > 512
  · rw [if_pos a2]; exact h0 (fun hh => by unfold mayS at hh; omega)
  rw [if_neg a2, wrap_i64 (n := v / 2) (by omega) (by omega)]
  exact ⟨by decide, h1 ⟨by omega, by omega⟩⟩
def BkAt (H : AH) (o : Nat) (b : Bk) : Prop := ∃ e, H.get o = ⟨bkV b, .rw, e⟩
theorem BkAt.c0 {o : Nat} {b : Bk} (h : BkAt H o b) : AH.cell? H (Addr.add ⟨o, 0, none⟩ 0) = some (.int .i64 b.1) := by obtain ⟨e, h⟩ := h; simp [addr_add, AH.cell?, h, bkV]
theorem BkAt.c1 {o : Nat} {b : Bk} (h : BkAt H o b) : AH.cell? H (Addr.add ⟨o, 0, none⟩ 1) = some (.int .i64 b.2.1) := by obtain ⟨e, h⟩ := h; simp [addr_add, AH.cell?, h, bkV]
theorem BkAt.c2 {o : Nat} {b : Bk} (h : BkAt H o b) : AH.cell? H (Addr.add ⟨o, 0, none⟩ 2) = some (.bool b.2.2) := by obtain ⟨e, h⟩ := h; simp [addr_add, AH.cell?, h, bkV]
theorem BkAt.row {o : Nat} {b : Bk} (h : BkAt H o b) : AH.row? H ⟨o, 0, none⟩ 3 = some (bkV b) := by
  obtain ⟨e, h⟩ := h
  simp only [AH.row?, h, Option.isSome_none, Bool.false_eq_true, if_false, List.drop_zero]
  rw [if_neg (by simp), List.take_of_length_le (by rw [bkV_len]; omega), if_pos ⟨by rw [bkV_len]; omega, bkV_ok _⟩]
theorem BkAt.keep {H' : AH} {o : Nat} {b : Bk} (h : BkAt H o b) (hg : H'.get o = H.get o) : BkAt H' o b := by obtain ⟨e, h⟩ := h; exact ⟨e, hg.trans h⟩
theorem BkAt.new {b : Bk} {e : Nat} : BkAt (H.push ⟨bkV b, .rw, e⟩) H.size b := ⟨e, by rw [push_get, if_pos rfl]⟩

theorem darningref4_Off.s {b : Bk} {k : Int → AH → Prop} (h : k (offN b.1) H) : darningref4_Off (bkV b) H k := by
  refine gcI (j := .i64) (offN b.1) (darningref4_Off.link ?_) h
  unfold darningref4_Off.b darningref4_Off.j1
  rw [newC_eq]
  have hk := (Keeps.refl H).push ⟨bkV b, .rw, 0⟩
  have hB : BkAt (H.push ⟨bkV b, .rw, 0⟩) H.size b := BkAt.new
  generalize H.push ⟨bkV b, .rw, 0⟩ = H1 at *
  simp only [hB.c0, elI_some]
  unfold offN
  by_cases h1 : b.1 < 0
  · rw [decide_eq_true h1, bcase_true, bcase_true, if_neg (by omega)]; exact ⟨hk, rfl⟩
  rw [decide_eq_false h1, bcase_false]
  by_cases h2 : b.1 > 512
  · rw [decide_eq_true h2, bcase_true, if_neg (by omega)]; exact ⟨hk, rfl⟩
  rw [decide_eq_false h2, bcase_false, if_pos (by omega), wrap_i64 (n := b.1 + 1) (by omega) (by omega), wrap_i64 (by omega) (by omega)]
  exact ⟨hk, rfl⟩

theorem rows_cells {α : Type} {s : Sl} {z : Nat} {f : α → List Value} {l : List α} (h : Abs.Rows H s z f l) (hp : 0 < l.length) :
    ∃ b o, s.a = some ⟨b, o, none⟩ ∧ b < H.size ∧ ∀ i x, l[i]? = some x → AH.row? H (Addr.add ⟨b, o, none⟩ (i * z)) z = some (f x) ∧ ∀ j v, (f x)[j]? = some v → AH.cell? H (Addr.add (Addr.add ⟨b, o, none⟩ (i * z)) j) = some v := by
  obtain ⟨b, o, h1, h2, _⟩ := h.at hp
  refine ⟨b, o, h1, h2, fun i x hx => ?_⟩
  obtain ⟨a, e1, e2, e3, e4⟩ := h.2 i x hx
  rw [h1] at e1
  injection e1 with e1
  subst e1
  rw [addr_add]
  refine ⟨e4, fun j v hv => ?_⟩
  rw [addr_add]
  exact (AH.row?_cell e4).2.2.2.2 j v hv

/-- A copy of one's own of a row. -/
theorem new_row {cs vs : List Value} {e n : Nat} {K : Nat → AH → Prop} (hc : cs.length = n) (hv : vs.length = n) (ho : vs.all cellOK = true)
    (hK : K H.size (H.push ⟨vs, .rw, e⟩)) : newC H ⟨cs, .rw, e⟩ fun o H1 => (vs.length = n ∧ vs.all cellOK = true) ∧ stC H1 ⟨o, 0, none⟩ vs fun Hs => K o Hs := by
  rw [newC_eq]
  refine ⟨⟨hv, ho⟩, ?_⟩
  rw [stC_eq]
  have e1 : AH.put (H.push ⟨cs, .rw, e⟩) ⟨H.size, 0, none⟩ vs = H.push ⟨vs, .rw, e⟩ := by
    rw [put_new]
    congr 2
    apply List.ext_getElem?
    intro t
    rw [setMany_get _ _ _ _ (by omega)]
    by_cases ht : t < vs.length
    · rw [if_pos (by omega)]; rfl
    · rw [if_neg (by omega), List.getElem?_eq_none (by omega), List.getElem?_eq_none (by omega)]
  rw [e1]
  exact ⟨canPut_new.2 (by omega), hK⟩
end
end Go.Proofs.Ytgddfhnochcolaa
