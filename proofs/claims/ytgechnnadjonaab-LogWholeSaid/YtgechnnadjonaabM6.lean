import Derived.Test.YtgechnnadjonaabM5
set_option linter.all false
set_option linter.all false
namespace Go.Proofs.Ytgechnnadjonaab
open Go Go.Abs

theorem eqCells_u64 : ∀ {n : Nat} {a b : List Int}, a.length = n → b.length = n → eqCells (List.replicate n (K.int .u64)) (lineV a) (lineV b) = some (a == b) := by
  intro n
  induction n with
  | zero => intro a b ha hb; simp at ha hb; subst ha hb; rfl
  | succ n ih =>
    intro a b ha hb
    obtain _ | ⟨x, a⟩ := a
    · simp at ha
    obtain _ | ⟨y, b⟩ := b
    · simp at hb
    have := ih (a := a) (b := b) (by simpa using ha) (by simpa using hb)
    simp only [lineV, u64V, List.replicate_succ, List.map_cons, eqCells, and_self, if_true] at this ⊢
    rw [this]
    rfl
theorem eq_line {a b : List Int} {k : Bool → Prop} (ha : isLine a) (hb : isLine b) : elO (eqCells (List.replicate 8 (K.int .u64)) (lineV a) (lineV b)) k ↔ k (a == b) := by
  rw [eqCells_u64 ha.1 hb.1, elO_some]
theorem lineV_lit (a b c d e f g h : Int) : [(Value.int .u64 a), (Value.int .u64 b), (Value.int .u64 c), (Value.int .u64 d), (Value.int .u64 e), (Value.int .u64 f), (Value.int .u64 g), (Value.int .u64 h)] = lineV [a, b, c, d, e, f, g, h] := rfl
theorem isLine_lit {a : Int} (h : isU a) : isLine [a, 0, 0, 0, 0, 0, 0, 0] := by
  refine ⟨rfl, fun v hv => ?_⟩
  simp only [List.mem_cons, List.mem_nil_iff, or_false] at hv
  unfold isU at *
  omega
theorem zero_lit : List.replicate 8 (0 : Int) = [0, 0, 0, 0, 0, 0, 0, 0] := rfl

theorem rows_one {H : AH} {g : Int → Value} (hg : ∀ v, cellOK (g v) = true) (v : Int) {e : Nat} : Abs.Rows (H.push ⟨[g v], .rw, e⟩) ⟨some ⟨H.size, 0, none⟩, 1, 1⟩ 1 (fun x => [g x]) [v] := by
  refine ⟨rfl, fun i x hi => ?_⟩
  cases i with
  | zero =>
    simp only [List.getElem?_cons_zero, Option.some.injEq] at hi
    subst hi
    refine ⟨_, rfl, rfl, by simp [push_size], ?_⟩
    exact row_new rfl (by simp [hg])
  | succ i => simp at hi
theorem rows_nil {α : Type} {H : AH} {z : Nat} {f : α → List Value} : Abs.Rows H ⟨none, 0, 0⟩ z f [] := ⟨rfl, fun i x h => by simp at h⟩

/-- A local line is laid down. -/
theorem new_line {H : AH} {l : List Int} {K : Nat → AH → Prop} (hl : isLine l) (h : K H.size (H.push ⟨lineV l, .rw, 0⟩)) :
    newC H ⟨lineV (List.replicate 8 0), .rw, 0⟩ fun o H1 => ((lineV l).length = 8 ∧ List.all (lineV l) cellOK = true) ∧ stC H1 ⟨o, 0, none⟩ (lineV l) fun Hs => K o Hs :=
  new_st (lineV_len rfl) (lineV_len hl.1) (lineV_ok _) h

section
variable {H : AH}

/-- The next heap, of which only this is known. -/
theorem setM_gen {p c : Nat} {M M' : Mem} {K : AH → Prop} (hm : MemAt H p c M) (hok : M'.ok) (h : ∀ H', MemAt H' p c M' → H'.size = H.size → (∀ b, b ≠ p → b ≠ c → H'.get b = H.get b) → K H') : K (setM H p c M') :=
  h _ (hm.set hok) rfl fun b h1 h2 => setM_other h1 h2

/-! ### the laws -/

def callV (c : (Int × Int × Int) × List Int × Int) : List Value := [.int .i64 c.1.1, .int .i64 c.1.2.1, .int .i64 c.1.2.2] ++ lineV c.2.1 ++ [.int .u64 c.2.2]
structure callOK (c : (Int × Int × Int) × List Int × Int) : Prop where
  line : isLine c.2.1
  u : isU c.2.2
  i0 : isI c.1.1
  i1 : isI c.1.2.1
  i2 : isI c.1.2.2
theorem callV_len {c : (Int × Int × Int) × List Int × Int} (h : callOK c) : (callV c).length = 12 := by simp [callV, lineV, h.line.1]
theorem callV_ok (c : (Int × Int × Int) × List Int × Int) : (callV c).all cellOK = true := by simp [callV, lineV, u64V, cellOK]

/-- What is read off a call that lies at the block o. -/
structure CallAt (H : AH) (o : Nat) (c : (Int × Int × Int) × List Int × Int) : Prop where
  g : ∃ e, H.get o = ⟨callV c, .rw, e⟩
  ok : callOK c
theorem CallAt.c0 {o : Nat} {c : (Int × Int × Int) × List Int × Int} (h : CallAt H o c) : AH.cell? H (Addr.add ⟨o, 0, none⟩ 0) = some (.int .i64 c.1.1) := by
  obtain ⟨⟨e, h⟩, _⟩ := h; simp [addr_add, AH.cell?, h, callV]
theorem CallAt.c1 {o : Nat} {c : (Int × Int × Int) × List Int × Int} (h : CallAt H o c) : AH.cell? H (Addr.add ⟨o, 0, none⟩ 1) = some (.int .i64 c.1.2.1) := by
  obtain ⟨⟨e, h⟩, _⟩ := h; simp [addr_add, AH.cell?, h, callV]
theorem CallAt.c2 {o : Nat} {c : (Int × Int × Int) × List Int × Int} (h : CallAt H o c) : AH.cell? H (Addr.add ⟨o, 0, none⟩ 2) = some (.int .i64 c.1.2.2) := by
  obtain ⟨⟨e, h⟩, _⟩ := h; simp [addr_add, AH.cell?, h, callV]
theorem CallAt.c11 {o : Nat} {c : (Int × Int × Int) × List Int × Int} (h : CallAt H o c) : AH.cell? H (Addr.add ⟨o, 0, none⟩ 11) = some (.int .u64 c.2.2) := by
  obtain ⟨⟨e, h⟩, hok⟩ := h
  have hl := hok.line.1
  simp only [addr_add, AH.cell?, h, callV, Option.isSome_none, Bool.false_eq_true, if_false]
  rw [if_neg (by simp), List.getElem?_append_right (by simp [lineV, hl])]
  simp [lineV, hl]
theorem CallAt.row {o : Nat} {c : (Int × Int × Int) × List Int × Int} (h : CallAt H o c) : AH.row? H (Addr.add ⟨o, 0, none⟩ 3) 8 = some (lineV c.2.1) := by
  obtain ⟨⟨e, h⟩, hok⟩ := h
  have hl := hok.line.1
  have e8 : ((callV c).drop 3).take 8 = lineV c.2.1 := by
    simp only [callV, List.cons_append, List.nil_append, List.drop_succ_cons, List.drop_zero]
    rw [List.take_append_of_le_length (by simp [lineV, hl]), List.take_of_length_le (by simp [lineV, hl])]
  simp only [addr_add, AH.row?, h, Option.isSome_none, Bool.false_eq_true, if_false, Nat.zero_add]
  rw [if_neg (by simp), e8, if_pos ⟨by rw [callV_len hok]; omega, lineV_ok _⟩]
theorem CallAt.keep {H' : AH} {o : Nat} {c : (Int × Int × Int) × List Int × Int} (h : CallAt H o c) (hg : H'.get o = H.get o) : CallAt H' o c := ⟨by rw [hg]; exact h.g, h.ok⟩
theorem new_call {c : (Int × Int × Int) × List Int × Int} (h : callOK c) {cs : List Value} {K : Nat → AH → Prop} (hn : cs.length = 12) (hK : CallAt (H.push ⟨callV c, .rw, 0⟩) H.size c → K H.size (H.push ⟨callV c, .rw, 0⟩)) :
    newC H ⟨cs, .rw, 0⟩ fun o H1 => ((callV c).length = 12 ∧ List.all (callV c) cellOK = true) ∧ stC H1 ⟨o, 0, none⟩ (callV c) fun Hs => K o Hs :=
  new_st hn (callV_len h) (callV_ok c) (hK ⟨⟨0, by simp [push_get]⟩, h⟩)

end
end Go.Proofs.Ytgechnnadjonaab
