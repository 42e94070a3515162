import Derived.Test.YtmbipadfcbndgaaAbsZ
set_option linter.all false
/-
  What a law's arguments look like, off the reading.
-/
namespace Go.Abs
open Go.RowKit

theorem mapM_each {α β : Type} {f : α → Option β} : ∀ {l : List α} {r : List β}, l.mapM f = some r → ∀ x ∈ l, ∃ y, f x = some y := by
  intro l
  induction l with
  | nil => intro r _ x hx; cases hx
  | cons a l ih =>
    intro r h x hx
    rw [List.mapM_cons] at h
    cases ha : f a with
    | none => rw [ha] at h; simp at h
    | some y =>
      rw [ha] at h
      cases hl : l.mapM f with
      | none => rw [hl] at h; simp at h
      | some ys =>
        rcases List.mem_cons.1 hx with rfl | hx
        · exact ⟨y, ha⟩
        · exact ih hl x hx

/-- These cells read as a value of the type. -/
def Rd {H : Type} (enc : TypeId × Value → H) (P : Program) (W : World) (t : TypeId) (cs : List Value) : Prop :=
  ∃ fuel x, DataW.trod enc P W 0 (fun _ => true) true fuel t cs = some x

section
variable {H : Type} {enc : TypeId × Value → H} {P : Program} {W : World} {t e : TypeId} {cs : List Value}

theorem Rd.of {v : Value} {d : DataW H} {ps : List MemPlace} (h : DataW.Trod enc P W 0 (fun _ => true) true t v d ps) : Rd enc P W t v.cells.toList := by
  obtain ⟨fuel, h⟩ := h
  exact ⟨fuel, _, h⟩

theorem Rd.step (h : Rd enc P W t cs) : ∃ (r : TypeId → List Value → Option (DataW H × List MemPlace)) (x : DataW H × List MemPlace),
    (∀ t cs x, r t cs = some x → Rd enc P W t cs) ∧ DataW.trodStep enc P W 0 (fun _ => true) true r t cs = some x := by
  obtain ⟨fuel, x, h⟩ := h
  cases fuel with
  | zero => simp [DataW.trod] at h
  | succ n =>
    rw [DataW.trod_step] at h
    exact ⟨_, x, fun t cs x hx => ⟨n, x, hx⟩, h⟩

theorem Rd.int {k : IntKind} (hu : P.underlying t = some (.int k)) (h : Rd enc P W t cs) : ∃ n, cs = [.int k n] ∧ (Lit.int k n).wf = true := by
  obtain ⟨r, x, _, h⟩ := h.step
  unfold DataW.trodStep at h
  rw [hu] at h
  split at h <;> simp_all

theorem Rd.bool (hu : P.underlying t = some .bool) (h : Rd enc P W t cs) : ∃ b, cs = [.bool b] := by
  obtain ⟨r, x, _, h⟩ := h.step
  unfold DataW.trodStep at h
  rw [hu] at h
  split at h <;> simp_all

theorem Rd.str (hu : P.underlying t = some .string) (h : Rd enc P W t cs) : ∃ s, cs = [.string s] ∧ s.size ≤ maxLen := by
  obtain ⟨r, x, _, h⟩ := h.step
  unfold DataW.trodStep at h
  rw [hu] at h
  split at h <;> simp_all

theorem Rd.struct {fs : Array Field} (hu : P.underlying t = some (.struct fs)) (h : Rd enc P W t cs) :
    cs.length = P.cellsOf t ∧ ∀ f ∈ fs.toList, Rd enc P W f.type ((cs.drop f.offset).take (P.cellsOf f.type)) := by
  obtain ⟨r, x, hr, h⟩ := h.step
  simp only [DataW.trodStep, hu] at h
  split at h
  · rename_i hl
    refine ⟨hl, fun f hf => ?_⟩
    rw [Option.map_eq_some_iff] at h
    obtain ⟨xs, hm, _⟩ := h
    obtain ⟨y, hy⟩ := mapM_each hm f hf
    exact hr _ _ _ hy
  · cases h

theorem Rd.field {fs : Array Field} (hu : P.underlying t = some (.struct fs)) (h : Rd enc P W t cs) (j : Nat) {f : Field} (hf : fs[j]? = some f) :
    Rd enc P W f.type ((cs.drop f.offset).take (P.cellsOf f.type)) :=
  (h.struct hu).2 f (by rw [← Array.getElem?_toList] at hf; exact List.mem_of_getElem? hf)

theorem take_one {cs : List Value} {o : Nat} {v : Value} (h : (cs.drop o).take 1 = [v]) : cs[o]? = some v := by
  have : ((cs.drop o).take 1)[0]? = some v := by rw [h]; rfl
  rw [List.getElem?_take] at this
  simpa using this

theorem Rd.intAt {o : Nat} {k : IntKind} (hu : P.underlying t = some (.int k)) (hc : P.cellsOf t = 1) (h : Rd enc P W t ((cs.drop o).take (P.cellsOf t))) : ∃ n, cs[o]? = some (.int k n) ∧ (Lit.int k n).wf = true := by
  obtain ⟨n, h1, h2⟩ := h.int hu
  rw [hc] at h1
  exact ⟨n, take_one h1, h2⟩

theorem Rd.boolAt {o : Nat} (hu : P.underlying t = some .bool) (hc : P.cellsOf t = 1) (h : Rd enc P W t ((cs.drop o).take (P.cellsOf t))) : ∃ b, cs[o]? = some (.bool b) := by
  obtain ⟨n, h1⟩ := h.bool hu
  rw [hc] at h1
  exact ⟨n, take_one h1⟩

theorem Rd.array {n : Nat} (hu : P.underlying t = some (.array n e)) (h : Rd enc P W t cs) :
    cs.length = P.cellsOf t ∧ ∀ i, i < n → Rd enc P W e ((cs.drop (i * P.cellsOf e)).take (P.cellsOf e)) := by
  obtain ⟨r, x, hr, h⟩ := h.step
  simp only [DataW.trodStep, hu] at h
  split at h
  · rename_i hl
    refine ⟨hl, fun i hi => ?_⟩
    rw [Option.map_eq_some_iff] at h
    obtain ⟨xs, hm, _⟩ := h
    obtain ⟨y, hy⟩ := mapM_each hm i (by simpa using hi)
    exact hr _ _ _ hy
  · cases h

theorem Rd.slice (hu : P.underlying t = some (.slice e)) (h : Rd enc P W t cs) :
    cs = [.slice none 0 0] ∨ ∃ a n c, cs = [.slice (some a) n c] ∧ n ≤ c ∧ c ≤ maxLen ∧ ∀ i, i < n → ∃ row, W.cells? 0 (a.add (i * P.cellsOf e)) (P.cellsOf e) = some row ∧ Rd enc P W e row := by
  obtain ⟨r, x, hr, h⟩ := h.step
  have hs : cs = [.slice none 0 0] ∨ ∃ a n c, cs = [.slice (some a) n c] := by
    unfold DataW.trodStep at h
    rw [hu] at h
    split at h <;> simp_all
  rcases hs with rfl | ⟨a, n, c, rfl⟩
  · exact .inl rfl
  · simp only [DataW.trodStep, hu] at h
    split at h
    · rename_i hc
      rw [Option.bind_eq_some_iff] at h
      obtain ⟨xs, hm, _⟩ := h
      refine .inr ⟨a, n, c, rfl, hc.2.1, hc.2.2, fun i hi => ?_⟩
      obtain ⟨y, hy⟩ := mapM_each hm i (by simpa using hi)
      rw [Option.bind_eq_some_iff] at hy
      obtain ⟨row, h1, h2⟩ := hy
      exact ⟨row, h1, hr _ _ _ h2⟩
    · cases h

end

theorem okWide_agg {P : Program} {W : World} {t : TypeId} {v : Value} {base : Nat} {fs : Array Field} (hu : P.underlying t = some (.struct fs)) (h : Value.okWide P W .any base t v) : ∃ cs, v = .agg cs := by
  simp only [Value.okWide, hu] at h
  obtain ⟨cs, h1, _⟩ := h
  exact ⟨cs, h1⟩
theorem okWide_arr {P : Program} {W : World} {t e : TypeId} {n : Nat} {v : Value} {base : Nat} (hu : P.underlying t = some (.array n e)) (h : Value.okWide P W .any base t v) : ∃ cs, v = .agg cs := by
  simp only [Value.okWide, hu] at h
  obtain ⟨cs, h1, _⟩ := h
  exact ⟨cs, h1⟩

/-- A struct or an array by value, as the abstract machine has it. -/
theorem absAgg_rel (W : World) (cs : Array Value) : VRel (stE W) (.agg (List.toArray (cs.toList.map (absC W)))) (.agg cs) := by
  refine .agg _ _ (by simp) fun i hi => ?_
  have hi' : i < cs.size := by simpa using hi
  simp only [Array.getD_eq_getD_getElem?]
  simp only [List.getElem?_toArray, List.getElem?_map, Array.getElem?_toList, Array.getElem?_eq_getElem hi', Option.map_some, Option.getD_some]
  exact absC_rel W _

theorem LRel.nil0 {φ : Emb} : LRel φ [] [] := ⟨rfl, fun i x y h => by simp at h⟩
theorem LRel.cons0 {φ : Emb} {x y : Value} {xs ys : List Value} (h : VRel φ x y) (hs : LRel φ xs ys) : LRel φ (x :: xs) (y :: ys) := by
  refine ⟨by simp [hs.1], fun i a b ha hb => ?_⟩
  cases i with
  | zero => simp at ha hb; subst ha hb; exact h
  | succ i => simp at ha hb; exact hs.2 i a b ha hb

theorem wf_i64 {n : Int} (h : (Lit.int .i64 n).wf = true) : -9223372036854775808 ≤ n ∧ n ≤ 9223372036854775807 := by
  simp [Lit.wf, IntKind.min, IntKind.max, IntKind.signed, IntKind.bits] at h; omega
theorem wf_u64 {n : Int} (h : (Lit.int .u64 n).wf = true) : 0 ≤ n ∧ n ≤ 18446744073709551615 := by
  simp [Lit.wf, IntKind.min, IntKind.max, IntKind.signed, IntKind.bits] at h; omega
theorem wf_u8 {n : Int} (h : (Lit.int .u8 n).wf = true) : 0 ≤ n ∧ n ≤ 255 := by
  simp [Lit.wf, IntKind.min, IntKind.max, IntKind.signed, IntKind.bits] at h; omega

theorem args_stay {H : Type} {enc : TypeId × Value → H} {P : Program} (hl : laidOutB P = true) {W W' : World} (hb : Below W.heap.size W W') {sp : Nat → Bool}
    {ts : List TypeId} {vs : List Value} {ds : List (DataW H)} {ps : List MemPlace} (ht : ts.all (fun t => P.readableRec t && Nat.blt t P.types.size) = true)
    (h : DataW.TrodAll enc P W 0 (fun _ => true) true ts vs ds ps) (hlt : ∀ x ∈ ps, x.block < W.heap.size) (hsp : ∀ x ∈ ps, sp x.block = true) : DataW.TrodAll enc P W' 0 sp true ts vs ds ps := by
  refine trodAll_stays hl hb (fun t h' => ?_) h hlt hsp
  have := List.all_eq_true.1 ht t h'
  simp only [Bool.and_eq_true] at this
  exact ⟨this.1, by simpa [Nat.blt_eq] using this.2⟩

end Go.Abs
