import Derived.Test.YtgddfhnochcolaaC1
import Derived.Test.YtgddfhnochcolaaAbsTwo
set_option linter.all false
namespace Go.Proofs.Ytgddfhnochcolaa
open Go Go.Abs

def pc (x : Int × Int × Int) : List Value := [.int .i64 x.1, .int .i64 x.2.1, .int .i64 x.2.2]
/-- The pieces l are the bytes from a to b; no piece could be longer on the way to e. -/
def Chain (e : Int) : Int → List (Int × Int × Int) → Int → Prop
  | a, [], b => a = b
  | a, x :: l, b => 1 ≤ x.2.2 ∧ 0 ≤ x.2.1 ∧ x.2.1 + x.2.2 ≤ 8 ∧ x.1 * 8 + x.2.1 = a ∧ (x.2.1 + x.2.2 = 8 ∨ a + x.2.2 = e) ∧ Chain e (a + x.2.2) l b

theorem Chain.snoc {e a b : Int} {x : Int × Int × Int} : ∀ {l : List (Int × Int × Int)}, Chain e a l b → 1 ≤ x.2.2 → 0 ≤ x.2.1 → x.2.1 + x.2.2 ≤ 8 → x.1 * 8 + x.2.1 = b → (x.2.1 + x.2.2 = 8 ∨ b + x.2.2 = e) → Chain e a (l ++ [x]) (b + x.2.2) := by
  intro l
  induction l generalizing a with
  | nil => intro h h1 h2 h3 h4 h5; simp only [Chain] at h; subst h; exact ⟨h1, h2, h3, h4, h5, rfl⟩
  | cons y l ih => intro h h1 h2 h3 h4 h5; exact ⟨h.1, h.2.1, h.2.2.1, h.2.2.2.1, h.2.2.2.2.1, ih h.2.2.2.2.2 h1 h2 h3 h4 h5⟩

theorem Chain.le {e b : Int} : ∀ {l : List (Int × Int × Int)} {a : Int}, Chain e a l b → a + l.length ≤ b := by
  intro l
  induction l with
  | nil => intro a h; simp only [Chain] at h; simp; omega
  | cons y l ih => intro a h; have := ih h.2.2.2.2.2; have := h.1; simp only [List.length_cons]; omega

theorem Chain.known {l : List (Int × Int × Int)} (h : Chain 10 6 l 10) : l = [(0, 6, 2), (1, 0, 2)] := by
  match l, h with
  | [], h => simp [Chain] at h
  | [x], h =>
    obtain ⟨w, o, n⟩ := x
    simp only [Chain] at h
    omega
  | [x, y], h =>
    obtain ⟨w, o, n⟩ := x
    obtain ⟨w', o', n'⟩ := y
    simp only [Chain] at h
    have : w = 0 ∧ o = 6 ∧ n = 2 ∧ w' = 1 ∧ o' = 0 ∧ n' = 2 := by omega
    obtain ⟨rfl, rfl, rfl, rfl, rfl, rfl⟩ := this
    rfl
  | x :: y :: z :: l, h =>
    obtain ⟨w, o, n⟩ := x
    obtain ⟨w', o', n'⟩ := y
    obtain ⟨w2, o2, n2⟩ := z
    have hl := h.2.2.2.2.2.2.2.2.2.2.2.2.2.2.2.le
    simp only [Chain] at h
    simp only at hl
    omega

section
variable {a n x y : Int} {H : AH}

/-- The local struct of a piece. -/
theorem pc_nil : ([(Value.int .i64 (0 : Int)), (Value.int .i64 (0 : Int)), (Value.int .i64 (0 : Int))] : List Value) = pc (0, 0, 0) := rfl
theorem pc_mk (p q r : Int) : ([(Value.int .i64 p), (Value.int .i64 q), (Value.int .i64 r)] : List Value) = pc (p, q, r) := rfl
theorem pc_put {e : Nat} (p p' : Int × Int × Int) : AH.put (H.push ⟨pc p, .rw, e⟩) ⟨H.size, 0, none⟩ (pc p') = H.push ⟨pc p', .rw, e⟩ := put_new _ _ _ _ _
theorem pc_put2 {e : Nat} (p q r v : Int) : AH.put (H.push ⟨pc (p, q, r), .rw, e⟩) (Addr.add ⟨H.size, 0, none⟩ 2) [.int .i64 v] = H.push ⟨pc (p, q, v), .rw, e⟩ := put_new _ _ _ _ _
theorem pc_can {e : Nat} (p : Int × Int × Int) : AH.canPut (H.push ⟨pc p, .rw, e⟩) ⟨H.size, 0, none⟩ 3 := canPut_new.2 (by simp [pc])
theorem pc_can2 {e : Nat} (p : Int × Int × Int) : AH.canPut (H.push ⟨pc p, .rw, e⟩) (Addr.add ⟨H.size, 0, none⟩ 2) 1 := canPut_new.2 (by simp [pc])
theorem pc_0 {e : Nat} (p : Int × Int × Int) : AH.cell? (H.push ⟨pc p, .rw, e⟩) (Addr.add ⟨H.size, 0, none⟩ 0) = some (.int .i64 p.1) := cell_new _ _ _ _
theorem pc_1 {e : Nat} (p : Int × Int × Int) : AH.cell? (H.push ⟨pc p, .rw, e⟩) (Addr.add ⟨H.size, 0, none⟩ 1) = some (.int .i64 p.2.1) := cell_new _ _ _ _
theorem pc_2 {e : Nat} (p : Int × Int × Int) : AH.cell? (H.push ⟨pc p, .rw, e⟩) (Addr.add ⟨H.size, 0, none⟩ 2) = some (.int .i64 p.2.2) := cell_new _ _ _ _
theorem pc_ld {e : Nat} (p : Int × Int × Int) {k : List Value → Prop} : ldA (H.push ⟨pc p, .rw, e⟩) ⟨H.size, 0, none⟩ 3 k ↔ k (pc p) := ldA_some (row_new rfl rfl)
theorem pc_len (p : Int × Int × Int) : (pc p).length = 3 := rfl
theorem pc_ok (p : Int × Int × Int) : (pc p).all cellOK = true := rfl

theorem span_Pieces.s {k : Sl → AH → Prop} (hr : 0 ≤ a ∧ a ≤ 1000000 ∧ 0 ≤ n ∧ n ≤ 448)
    (h : ∀ s H' l, Keeps H H' → Chain (a + n) a l (a + n) → Own H.size H' s 3 pc l → k s H') : span_Pieces a n H k := by
  refine span_Pieces.link ?_
  unfold span_Pieces.b
  rw [show decide (a < 0) = false from by simp; omega, bcase_false, show decide (n < 0) = false from by simp; omega, bcase_false,
    show decide (a > 1000000) = false from by simp; omega, bcase_false, show decide (n > 448) = false from by simp; omega]
  unfold span_Pieces.j2
  rw [bcase_false]
  have base : ∃ l, Chain (a + n) a l a ∧ a ≤ a + n ∧ Keeps H H ∧ Own H.size H (⟨none, 0, 0⟩ : Sl) 3 pc l := ⟨[], rfl, by omega, Keeps.refl H, .inl ⟨rfl, rfl⟩⟩
  refine loopT_inv (t := ((a, ⟨none, 0, 0⟩) : Int × Sl)) (H := H) (I := fun t H' => ∃ l, Chain (a + n) a l t.1 ∧ t.1 ≤ a + n ∧ Keeps H H' ∧ Own H.size H' t.2 3 pc l) (m := fun t _ => Int.toNat (a + n - t.1)) ?_ base
  intro t H1 hI it hit
  obtain ⟨at', s⟩ := t
  obtain ⟨l, hc, hle, hK, hO⟩ := hI
  simp only at hc hle hK hO
  have hlen := hc.le
  unfold span_Pieces.l1
  simp only
  rw [wrap_i64 (n := a + n) (by omega) (by omega)]
  by_cases hlt : at' < a + n
  · rw [show decide (at' < a + n) = true from by simpa using hlt, bcase_true]
    rw [Int.tdiv_eq_ediv_of_nonneg (by omega), Int.tmod_eq_emod_of_nonneg (by omega), wrap_i64 (n := at' / 8) (by omega) (by omega), wrap_i64 (n := a + n - at') (by omega) (by omega)]
    simp only [newC_eq, stC_eq, pc_nil, pc_mk, pc_len, pc_put, pc_put2, pc_can, pc_can2, pc_ok, pc_0, pc_1, pc_2, pc_ld, elI_some, List.length_cons, List.length_nil, Nat.zero_add, true_and]
    refine ⟨by decide, by decide, ?_⟩
    rw [wrap_i64 (n := 8 - at' % 8) (by omega) (by omega)]
    generalize hm : (if a + n - at' < 8 - at' % 8 then a + n - at' else 8 - at' % 8) = m
    have hm1 : 1 ≤ m ∧ m ≤ a + n - at' ∧ m ≤ 8 - at' % 8 := by rw [← hm]; split <;> omega
    have hset : setMany (pc (0, 0, 0)) 0 (pc (at' / 8, at' % 8, m)) = pc (at' / 8, at' % 8, m) := rfl
    rw [hset]
    refine append_own (H0 := H) (B := H.size) (f := pc) (x := (at' / 8, at' % 8, m)) (l := l) (fun _ => rfl) rfl (hO.keep (by simp [push_size]) (fun b _ hb => by simp only [push_get]; rw [if_neg (by omega)])) (Nat.le_refl _) (by simp only [push_size]; have := hK.1; omega) (hK.push _) (by simp only [lim]; omega) ?_
    intro s' H' hO' hK' hsz hsame
    have hg : H'.get H1.size = ⟨pc (at' / 8, at' % 8, m), .rw, 0⟩ := by
      rw [hsame H1.size (by simp [push_size]) ?_]
      · simp [push_get]
      · intro ad had
        rcases hO with ⟨rfl, _⟩ | ⟨b, rfl, _, hb, _⟩
        · cases had
        · simp only [Option.some.injEq] at had; subst had; simp only; omega
    have hcell : AH.cell? H' (Addr.add ⟨H1.size, 0, none⟩ 2) = some (.int .i64 m) := by
      rw [addr_add]
      simp [AH.cell?, hg, pc]
    rw [hcell, elI_some, wrap_i64 (n := at' + m) (by omega) (by omega)]
    refine hit _ _ ⟨l ++ [(at' / 8, at' % 8, m)], ?_, by simp only; omega, hK', hO'⟩ (by simp only; omega)
    exact hc.snoc (x := (at' / 8, at' % 8, m)) hm1.1 (by simp only; omega) (by simp only; omega) (by simp only; omega) (by simp only; rw [← hm]; split <;> omega)
  · rw [show decide (at' < a + n) = false from by simpa using hlt, bcase_false]
    have : at' = a + n := by omega
    subst this
    exact h _ _ l hK hc hO

theorem Chain.drop {e b : Int} : ∀ {l : List (Int × Int × Int)} {a : Int} {x : Int × Int × Int} {r : List (Int × Int × Int)}, l = x :: r → Chain e a l b → 1 ≤ x.2.2 ∧ 0 ≤ x.2.1 ∧ x.2.1 + x.2.2 ≤ 8 ∧ x.1 * 8 + x.2.1 = a ∧ Chain e (a + x.2.2) r b := by
  intro l a x r hl h
  subst hl
  exact ⟨h.1, h.2.1, h.2.2.1, h.2.2.2.1, h.2.2.2.2.2⟩

end
end Go.Proofs.Ytgddfhnochcolaa
