import Derived.Test.YtmbipadfcbndgaaC1
import Derived.Test.YtmbipadfcbndgaaAbsTwo
set_option linter.all false
namespace Go.Proofs.Ytmbipadfcbndgaa
open Go Go.Abs

def pc (x : Int × Int × Int) : List Value := [.int .i64 x.1, .int .i64 x.2.1, .int .i64 x.2.2]
/-- The pieces l are the bytes from a to b; no piece could be longer on the way to e. -/
def Chain (e : Int) : Int → List (Int × Int × Int) → Int → Prop
  | a, [], b => a = b
  | a, x :: l, b => 1 ≤ x.2.2 ∧ 0 ≤ x.2.1 ∧ x.2.1 + x.2.2 ≤ 8 ∧ x.1 * 8 + x.2.1 = a ∧ (x.2.1 + x.2.2 = 8 ∨ a + x.2.2 = e) ∧ Chain e (a + x.2.2) l b

theorem Chain.snoc {e a b : Int} {x : Int × Int × Int} : ∀ {l : List (Int × Int × Int)}, Chain e a l b → 1 ≤ x.2.2 → 0 ≤ x.2.1 → x.2.1 + x.2.2 ≤ 8 → x.1 * 8 + x.2.1 = b → (x.2.1 + x.2.2 = 8 ∨ b + x.2.2 = e) → Chain e a (l ++ [x]) (b + x.2.2) := by
  intro l
  induction l generalizing a with
  | nil => intro h h1 h2 h3 h4 h5; simp only [Chain] at h; subst h; exact ⟨h1, h2, h3, h4, h5, rfl⟩
  | cons y l ih => intro h h1 h2 h3 h4 h5; exact ⟨h.1, h.2.1, h.2.2.1, h.2.2.2.1, h.2.2.2.2.1, ih h.2.2.2.2.2 h1 h2 h3 h4 h5⟩

theorem Chain.le {e b : Int} : ∀ {l : List (Int × Int × Int)} {a : Int}, Chain e a l b → a + l.length ≤ b := by
  intro l
  induction l with
  | nil => intro a h; simp only [Chain] at h; simp; omega
  | cons y l ih => intro a h; have := ih h.2.2.2.2.2; have := h.1; simp only [List.length_cons]; omega

theorem Chain.known {l : List (Int × Int × Int)} (h : Chain 10 6 l 10) : l = [(0, 6, 2), (1, 0, 2)] := by
  match l, h with
  | [], h => simp [Chain] at h
  | [x], h =>
    obtain ⟨w, o, n⟩ := x
    simp only [Chain] at h
    omega
  | [x, y], h =>
    obtain ⟨w, o, n⟩ := x
    obtain ⟨w', o', n'⟩ := y
    simp only [Chain] at h
    have : w = 0 ∧ o = 6 ∧ n = 2 ∧ w' = 1 ∧ o' = 0 ∧ n' = 2 := by omega
    obtain ⟨rfl, rfl, rfl, rfl, rfl, rfl⟩ := this
    rfl
  | x :: y :: z :: l, h =>
    obtain ⟨w, o, n⟩ := x
    obtain ⟨w', o', n'⟩ := y
    obtain ⟨w2, o2, n2⟩ := z
    have hl := h.2.2.2.2.2.2.2.2.2.2.2.2.2.2.2.le
    simp only [Chain] at h
    simp only at hl
    omega

section
variable {a n x y : Int} {H : AH}

/-- The local struct of a piece. -/
theorem pc_nil : ([(Value.int .i64 (0 : Int)), (Value.int .i64 (0 : Int)), (Value.int .i64 (0 : Int))] : List Value) = pc (0, 0, 0) := rfl
theorem pc_mk (p q r : Int) : ([(Value.int .i64 p), (Value.int .i64 q), (Value.int .i64 r)] : List Value) = pc (p, q, r) := rfl
theorem pc_put {e : Nat} (p p' : Int × Int × Int) : AH.put (H.push ⟨pc p, .rw, e⟩) ⟨H.size, 0, none⟩ (pc p') = H.push ⟨pc p', .rw, e⟩ := put_new _ _ _ _ _
theorem pc_put2 {e : Nat} (p q r v : Int) : AH.put (H.push ⟨pc (p, q, r), .rw, e⟩) (Addr.add ⟨H.size, 0, none⟩ 2) [.int .i64 v] = H.push ⟨pc (p, q, v), .rw, e⟩ := put_new _ _ _ _ _
theorem pc_can {e : Nat} (p : Int × Int × Int) : AH.canPut (H.push ⟨pc p, .rw, e⟩) ⟨H.size, 0, none⟩ 3 := canPut_new.2 (by simp [pc])
theorem pc_can2 {e : Nat} (p : Int × Int × Int) : AH.canPut (H.push ⟨pc p, .rw, e⟩) (Addr.add ⟨H.size, 0, none⟩ 2) 1 := canPut_new.2 (by simp [pc])
theorem pc_0 {e : Nat} (p : Int × Int × Int) : AH.cell? (H.push ⟨pc p, .rw, e⟩) (Addr.add ⟨H.size, 0, none⟩ 0) = some (.int .i64 p.1) := cell_new _ _ _ _
theorem pc_1 {e : Nat} (p : Int × Int × Int) : AH.cell? (H.push ⟨pc p, .rw, e⟩) (Addr.add ⟨H.size, 0, none⟩ 1) = some (.int .i64 p.2.1) := cell_new _ _ _ _
theorem pc_2 {e : Nat} (p : Int × Int × Int) : AH.cell? (H.push ⟨pc p, .rw, e⟩) (Addr.add ⟨H.size, 0, none⟩ 2) = some (.int .i64 p.2.2) := cell_new _ _ _ _
theorem pc_ld {e : Nat} (p : Int × Int × Int) {k : List Value → Prop} : ldA (H.push ⟨pc p, .rw, e⟩) ⟨H.size, 0, none⟩ 3 k ↔ k (pc p) := ldA_some (row_new rfl rfl)
theorem pc_len (p : Int × Int × Int) : (pc p).length = 3 := rfl
theorem pc_ok (p : Int × Int × Int) : (pc p).all cellOK = true := rfl

theorem span_Pieces.s {k : Sl → AH → Prop} (hr : 0 ≤ a ∧ a ≤ 1000000 ∧ 0 ≤ n ∧ n ≤ 448)
    (h : ∀ s H' l, Keeps H H' → Chain (a + n) a l (a + n) → Own H.size H' s 3 pc l → k s H') : span_Pieces a n H k := by
  refine span_Pieces.link ?_
  unfold span_Pieces.b
  rw [show decide (a < 0) = false from by simp; omega, bcase_false, show decide (n < 0) = false from by simp; omega, bcase_false,
    show decide (a > 1000000) = false from by simp; omega, bcase_false, show decide (n > 448) = false from by simp; omega]
  unfold span_Pieces.j2
  rw [bcase_false]
  have base : ∃ l, Chain (a + n) a l a ∧ a ≤ a + n ∧ Keeps H H ∧ Own H.size H (⟨none, 0, 0⟩ : Sl) 3 pc l := ⟨[], rfl, by omega, Keeps.refl H, .inl ⟨rfl, rfl⟩⟩
  refine loopT_inv (t := ((a, ⟨none, 0, 0⟩) : Int × Sl)) (H := H) (I := fun t H' => ∃ l, Chain (a + n) a l t.1 ∧ t.1 ≤ a + n ∧ Keeps H H' ∧ Own H.size H' t.2 3 pc l) (m := fun t _ => Int.toNat (a + n - t.1)) ?_ base
  intro t H1 hI it hit
  obtain ⟨at', s⟩ := t
  obtain ⟨l, hc, hle, hK, hO⟩ := hI
  simp only at hc hle hK hO
  have hlen := hc.le
  unfold span_Pieces.l1
  simp only
  rw [wrap_i64 (n := a + n) (by omega) (by omega)]
  by_cases hlt : at' < a + n
  · rw [show decide (at' < a + n) = true from by simpa using hlt, bcase_true]
    rw [Int.tdiv_eq_ediv_of_nonneg (by omega), Int.tmod_eq_emod_of_nonneg (by omega), wrap_i64 (n := at' / 8) (by omega) (by omega), wrap_i64 (n := a + n - at') (by omega) (by omega)]
    simp only [newC_eq, stC_eq, pc_nil, pc_mk, pc_len, pc_put, pc_put2, pc_can, pc_can2, pc_ok, pc_0, pc_1, pc_2, pc_ld, elI_some, List.length_cons, List.length_nil, Nat.zero_add, true_and]
    refine ⟨by decide, by decide, ?_⟩
    rw [wrap_i64 (n := 8 - at' % 8) (by omega) (by omega)]
    generalize hm : (if a + n - at' < 8 - at' % 8 then a + n - at' else 8 - at' % 8) = m
    have hm1 : 1 ≤ m ∧ m ≤ a + n - at' ∧ m ≤ 8 - at' % 8 := by rw [← hm]; split <;> omega
    have hset : setMany (pc (0, 0, 0)) 0 (pc (at' / 8, at' % 8, m)) = pc (at' / 8, at' % 8, m) := rfl
    rw [hset]
    refine append_own (H0 := H) (B := H.size) (f := pc) (x := (at' / 8, at' % 8, m)) (l := l) (fun _ => rfl) rfl (hO.keep (by simp [push_size]) (fun b _ hb => by simp only [push_get]; rw [if_neg (by omega)])) (Nat.le_refl _) (by simp only [push_size]; have := hK.1; omega) (hK.push _) (by simp only [lim]; omega) ?_
    intro s' H' hO' hK' hsz hsame
    have hg : H'.get H1.size = ⟨pc (at' / 8, at' % 8, m), .rw, 0⟩ := by
      rw [hsame H1.size (by simp [push_size]) ?_]
      · simp [push_get]
      · intro ad had
        rcases hO with ⟨rfl, _⟩ | ⟨b, rfl, _, hb, _⟩
        · cases had
        · simp only [Option.some.injEq] at had; subst had; simp only; omega
    have hcell : AH.cell? H' (Addr.add ⟨H1.size, 0, none⟩ 2) = some (.int .i64 m) := by
      rw [addr_add]
      simp [AH.cell?, hg, pc]
    rw [hcell, elI_some, wrap_i64 (n := at' + m) (by omega) (by omega)]
    refine hit _ _ ⟨l ++ [(at' / 8, at' % 8, m)], ?_, by simp only; omega, hK', hO'⟩ (by simp only; omega)
    exact hc.snoc (x := (at' / 8, at' % 8, m)) hm1.1 (by simp only; omega) (by simp only; omega) (by simp only; omega) (by simp only; rw [← hm]; split <;> omega)
  · rw [show decide (at' < a + n) = false from by simpa using hlt, bcase_false]
    have : at' = a + n := by omega
    subst this
    exact h _ _ l hK hc hO

theorem Chain.drop {e b : Int} : ∀ {l : List (Int × Int × Int)} {a : Int} {x : Int × Int × Int} {r : List (Int × Int × Int)}, l = x :: r → Chain e a l b → 1 ≤ x.2.2 ∧ 0 ≤ x.2.1 ∧ x.2.1 + x.2.2 ≤ 8 ∧ x.1 * 8 + x.2.1 = a ∧ Chain e (a + x.2.2) r b := by
  intro l a x r hl h
  subst hl
  exact ⟨h.1, h.2.1, h.2.2.1, h.2.2.2.1, h.2.2.2.2.2⟩

theorem SpanPieces_t {x y : Int} {H : AH} (haw : ∀ (H : AH) (k : Bool → AH → Prop), (∀ H', k true H') → darninglaw18_awake H k) : darninglaw18_SpanPieces x y H (fun r _ => r = true) := by
  refine darninglaw18_SpanPieces.link ?_
  unfold darninglaw18_SpanPieces.b
  have hx := umod (m := 1000001) (by omega) x
  have hy := umod (m := 449) (by omega) y
  refine ⟨by decide, by decide, ?_⟩
  generalize hp : Int.tmod (IntKind.wrap .u64 x) 1000001 = p at *
  generalize hq : Int.tmod (IntKind.wrap .u64 y) 449 = q at *
  rw [wrap_i64 (n := p) (by omega) (by omega), wrap_i64 (n := q) (by omega) (by omega)]
  refine span_Pieces.s (by omega) ?_
  intro s H' l hK hc hO
  have hR := hO.rows (fun _ => rfl) (fun _ => rfl)
  have hlen := hc.le
  have base : ∃ i : Nat, (0 : Int) = i ∧ i ≤ l.length ∧ True ∧ Chain (p + q) p (l.drop i) (p + q) ∧ Keeps H' H' := ⟨0, rfl, by omega, trivial, by simpa using hc, Keeps.refl _⟩
  refine loopT_inv (t := ((false, p, (0 : Int)) : Bool × Int × Int)) (H := H') (I := fun (t : Bool × Int × Int) H1 => ∃ i : Nat, t.2.2 = (i : Int) ∧ i ≤ l.length ∧ p ≤ t.2.1 ∧ Chain (p + q) t.2.1 (l.drop i) (p + q) ∧ Keeps H' H1) (m := fun (t : Bool × Int × Int) _ => Int.toNat ((l.length : Int) - t.2.2)) ?_ ?_
  · intro t H1 hI it hit
    obtain ⟨t0, at', i'⟩ := t
    obtain ⟨i, hi, hil, hbd, hch, hKe⟩ := hI
    simp only at hi hbd hch
    subst hi
    have hR1 := hR.keep hKe
    unfold darninglaw18_SpanPieces.l3
    simp only
    rw [hR1.1]
    by_cases hlt : i < l.length
    · obtain ⟨bb, oo, ha, hb, hrow⟩ := hR1.at hlt
      rw [show decide ((i : Int) < (l.length : Int)) = true from by simpa using hlt, bcase_true]
      refine ⟨⟨by omega, by omega⟩, ?_⟩
      rw [ha, onPtr_mk, Int.toNat_natCast, ldA_some hrow]
      have hd : l.drop i = l[i] :: l.drop (i + 1) := List.drop_eq_getElem_cons hlt
      obtain ⟨c1, c2, c3, c4, c5⟩ := Chain.drop hd hch
      have hle := c5.le
      simp only [newC_eq, stC_eq, pc_nil, pc_len, pc_put, pc_can, pc_ok, pc_0, pc_1, pc_2, elI_some, true_and]
      generalize l[i] = w at *
      rw [show decide (w.2.2 < 1) = false from by simp; omega, bcase_false, show decide (w.2.1 < 0) = false from by simp; omega, bcase_false]
      rw [wrap_i64 (n := w.2.1 + w.2.2) (by omega) (by omega), show decide (w.2.1 + w.2.2 > 8) = false from by simp; omega, bcase_false]
      rw [wrap_i64 (n := w.1 * 8) (by omega) (by omega), wrap_i64 (n := w.1 * 8 + w.2.1) (by omega) (by omega), show (w.1 * 8 + w.2.1 != at') = false from by simp; omega]
      unfold darninglaw18_SpanPieces.j2
      rw [bcase_false, pc_2, elI_some]
      rw [wrap_i64 (n := at' + w.2.2) (by omega) (by omega), wrap_i64 (n := (i : Int) + 1) (by omega) (by omega)]
      exact hit _ _ ⟨i + 1, by simp, by omega, by simp only; omega, c5, hKe.push _⟩ (by simp only; omega)
    · rw [show decide ((i : Int) < (l.length : Int)) = false from by simp; omega, bcase_false]
      have : l.drop i = [] := List.drop_eq_nil_of_le (by omega)
      rw [this] at hch
      simp only [Chain] at hch
      unfold darninglaw18_SpanPieces.j1
      simp only
      rw [hp, hq, wrap_i64 (n := p) (by omega) (by omega), wrap_i64 (n := q) (by omega) (by omega), wrap_i64 (n := p + q) (by omega) (by omega), hch, beq_self_eq_true, bcase_true]
      exact haw _ _ (fun _ => rfl)
  · obtain ⟨i, h1, h2, h3, h4, h5⟩ := base
    exact ⟨i, h1, h2, Int.le_refl _, h4, h5⟩
end
end Go.Proofs.Ytmbipadfcbndgaa
