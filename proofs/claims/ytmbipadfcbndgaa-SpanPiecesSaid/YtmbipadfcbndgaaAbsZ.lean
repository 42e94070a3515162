import Derived.Test.YtmbipadfcbndgaaAbsY
set_option linter.all false
/-
  Words for reading the printed forms.
-/
namespace Go.Abs

theorem newC_eq (H : AH) (o : AObj) (k : Nat → AH → Prop) : newC H o k = k H.size (H.push o) := rfl

theorem elI_some (j : IntKind) (n : Int) (k : Int → Prop) : elI j (some (.int j n)) k ↔ k n := by simp [elI]
theorem elB_some (b : Bool) (k : Bool → Prop) : elB (some (.bool b)) k ↔ k b := by simp [elB]
theorem elS_some (s : ByteArray) (k : ByteArray → Prop) : elS (some (.string s)) k ↔ k s := by simp [elS]
theorem elP_some (p : Option Addr) (k : Option Addr → Prop) : elP (some (.pointer p)) k ↔ k p := by simp [elP]
theorem elL_some (a : Option Addr) (n c : Nat) (k : Sl → Prop) : elL (some (.slice a n c)) k ↔ k ⟨a, n, c⟩ := by
  constructor
  · rintro ⟨⟨a', n', c'⟩, h, hk⟩
    simp only [Sl.val, Option.some.injEq, Value.slice.injEq] at h
    obtain ⟨rfl, rfl, rfl⟩ := h
    exact hk
  · intro h; exact ⟨_, rfl, h⟩
theorem elO_some {α : Type} (x : α) (k : α → Prop) : elO (some x) k ↔ k x := by simp [elO]

theorem onPtr_mk (a : Addr) (k : Addr → Prop) : onPtr (some a) k ↔ k a := Iff.rfl

theorem addr_add (b o k : Nat) : Addr.add ⟨b, o, none⟩ k = ⟨b, o + k, none⟩ := by
  unfold Addr.add
  split
  · rename_i h; subst h; rfl
  · rfl

theorem push_size (H : AH) (o : AObj) : (H.push o).size = H.size + 1 := rfl
theorem push_get (H : AH) (o : AObj) (b : Nat) : (H.push o).get b = if b = H.size then o else H.get b := rfl
theorem put_size (H : AH) (a : Addr) (vs : List Value) : (H.put a vs).size = H.size := rfl
theorem kill_size (H : AH) (b : Nat) : (H.kill b).size = H.size := rfl
theorem upd_size (H : AH) (b : Nat) (o : AObj) : (H.upd b o).size = H.size := rfl
theorem upd_get (H : AH) (b : Nat) (o : AObj) (x : Nat) : (H.upd b o).get x = if x = b then o else H.get x := rfl

theorem cell_new (H : AH) (cs : List Value) (e i : Nat) : AH.cell? (H.push ⟨cs, .rw, e⟩) ⟨H.size, i, none⟩ = cs[i]? := by
  simp [AH.cell?, push_get]
theorem cell_old {H : AH} {o : AObj} {b i : Nat} (h : b ≠ H.size) : AH.cell? (H.push o) ⟨b, i, none⟩ = AH.cell? H ⟨b, i, none⟩ := by
  simp [AH.cell?, push_get, h]
theorem row_new {H : AH} {cs : List Value} {e n : Nat} (hn : cs.length = n) (hc : cs.all cellOK = true) : AH.row? (H.push ⟨cs, .rw, e⟩) ⟨H.size, 0, none⟩ n = some cs := by
  subst hn
  simp only [AH.row?, push_get]
  simp only [Option.isSome_none, Bool.false_eq_true, if_false, if_true]
  rw [if_neg (by simp), if_pos (by simp only [List.drop_zero, List.take_length]; exact ⟨by omega, hc⟩)]
  simp
theorem row_old {H : AH} {o : AObj} {b i n : Nat} (h : b ≠ H.size) : AH.row? (H.push o) ⟨b, i, none⟩ n = AH.row? H ⟨b, i, none⟩ n := by
  simp [AH.row?, push_get, h]
theorem ldA_some {H : AH} {a : Addr} {n : Nat} {cs : List Value} {k : List Value → Prop} (h : H.row? a n = some cs) : ldA H a n k ↔ k cs := by
  simp [ldA, h]

theorem AH.ext' {H H' : AH} (h : H.size = H'.size) (hg : ∀ b, H.get b = H'.get b) : H = H' := by
  obtain ⟨s, g⟩ := H
  obtain ⟨s', g'⟩ := H'
  simp only at h hg
  obtain rfl := h
  obtain rfl : g = g' := funext hg
  rfl

theorem put_new (H : AH) (cs : List Value) (e i : Nat) (vs : List Value) : AH.put (H.push ⟨cs, .rw, e⟩) ⟨H.size, i, none⟩ vs = H.push ⟨setMany cs i vs, .rw, e⟩ := by
  refine AH.ext' rfl fun b => ?_
  simp only [AH.put, upd_get, push_get]
  split <;> simp_all
theorem put_old {H : AH} {o : AObj} {b i : Nat} {vs : List Value} (h : b ≠ H.size) : AH.put (H.push o) ⟨b, i, none⟩ vs = (AH.put H ⟨b, i, none⟩ vs).push o := by
  refine AH.ext' rfl fun x => ?_
  simp only [AH.put, upd_get, push_get, upd_size]
  by_cases hx : x = b
  · subst hx; simp [h]
  · simp [hx]
theorem canPut_new {H : AH} {cs : List Value} {e i n : Nat} : AH.canPut (H.push ⟨cs, .rw, e⟩) ⟨H.size, i, none⟩ n ↔ i + n ≤ cs.length := by
  simp [AH.canPut, push_get]
theorem canPut_old {H : AH} {o : AObj} {b i n : Nat} (h : b ≠ H.size) : AH.canPut (H.push o) ⟨b, i, none⟩ n ↔ AH.canPut H ⟨b, i, none⟩ n := by
  simp [AH.canPut, push_get, h]
theorem stC_eq (H : AH) (a : Addr) (vs : List Value) (k : AH → Prop) : stC H a vs k ↔ H.canPut a vs.length ∧ k (H.put a vs) := Iff.rfl

theorem Keeps.put {H H' : AH} (h : Keeps H H') {a : Addr} (ha : H.size ≤ a.block) (vs : List Value) : Keeps H (H'.put a vs) := h.upd ha _
theorem Keeps.kill {H H' : AH} (h : Keeps H H') {b : Nat} (hb : H.size ≤ b) : Keeps H (H'.kill b) := h.upd hb _

/-- The rule of a loop: an invariant and a measure. -/
theorem loopT_inv {τ : Type} {step : τ → AH → (τ → AH → Prop) → Prop} (I : τ → AH → Prop) (m : τ → AH → Nat)
    (hs : ∀ t H, I t H → ∀ it : τ → AH → Prop, (∀ t' H', I t' H' → m t' H' < m t H → it t' H') → step t H it) {t : τ} {H : AH} (h : I t H) : loopT step t H := by
  refine ⟨m t H + 1, ?_⟩
  have key : ∀ n t H, I t H → m t H < n → loopN step n t H := by
    intro n
    induction n with
    | zero => intro t H _ h; omega
    | succ n ih =>
      intro t H hI hm
      exact hs t H hI _ fun t' H' hI' hm' => ih t' H' hI' (by omega)
  exact key _ t H h (by omega)

theorem wrap_i64 {n : Int} (h : -9223372036854775808 ≤ n) (h' : n ≤ 9223372036854775807) : IntKind.wrap .i64 n = n := by
  simp only [IntKind.wrap, IntKind.bits, IntKind.signed]
  simp only [Bool.true_and, decide_eq_true_eq, ge_iff_le, Nat.reduceSub, Int.reducePow]
  split <;> omega

theorem wrap_u64 {n : Int} (h : 0 ≤ n) (h' : n ≤ 18446744073709551615) : IntKind.wrap .u64 n = n := by
  simp only [IntKind.wrap, IntKind.bits, IntKind.signed, Bool.false_and, Int.reducePow]
  simp only [Bool.false_eq_true, if_false]
  omega

end Go.Abs
