import Derived.Test.YtmbipadfcbndgaaAbsK
import Derived.Laws.AppendOwn
set_option linter.all false
namespace Go.Abs

/-! ## Operations that change memory -/

def stC (H : AH) (a : Addr) (vs : List Value) (k : AH → Prop) : Prop := H.canPut a vs.length ∧ k (H.put a vs)

def appendC (size : Nat) (H : AH) (x y : Sl) (k : Sl → AH → Prop) : Prop :=
  x.n + y.n ≤ lim ∧
  if y.n = 0 then k x H else
  ∃ ys, H.rowS? y size = some ys ∧
    match x.a with
    | none => k ⟨newAt H.size, x.n + y.n, 1⟩ (H.push ⟨ys, .rw, size⟩)
    | some a => (a.spot = none ∧ a.off = 0 ∧ x.k = 1 ∧ (H.get a.block).md = .rw ∧ (H.get a.block).cells.length = x.n * size ∧ (H.get a.block).esz = size) ∧
      k ⟨newAt H.size, x.n + y.n, 1⟩ ((H.kill a.block).push ⟨(H.get a.block).cells ++ ys, .rw, size⟩)

def copyC (size : Nat) (H : AH) (x y : Sl) (k : Int → AH → Prop) : Prop :=
  if Nat.min y.n x.n = 0 then k 0 H else
  ∃ ys, H.rowS? ⟨y.a, Nat.min y.n x.n, y.k⟩ size = some ys ∧ onPtr x.a fun a => stC H a ys fun H' => k (Nat.min y.n x.n : Nat) H'

def appendElem (T : Nat → TyE) (ts : List TypeId) : Option TypeId :=
  match ts with
  | [t, u] =>
    match (T t).k, (T t).sub, decide (t = u) with
    | .sl, .elem e, true => if (T e).k = .bad ∨ (T e).size = 0 ∨ (T e).zero.length ≠ (T e).size ∨ (T e).bytes > 4096 then none else some e
    | _, _, _ => none
  | _ => none

def effOp (T : Nat → TyE) (ρ : Operand → Value) (op : Op) (H : AH) (k : Value → AH → Prop) : Prop :=
  match op with
  | .store t a x =>
    match ρ a with
    | .pointer p => onPtr p fun a =>
      match (T t).k, ρ x with
      | .bad, _ => False
      | .agg, .agg arr => (arr.toList.length = (T t).size ∧ arr.toList.all cellOK = true) ∧ stC H a arr.toList fun H' => k undef H'
      | .agg, _ => False
      | _, .agg _ => False
      | _, .tuple _ => False
      | _, v => if (T t).size = 1 then stC H a [v] fun H' => k undef H' else False
    | _ => False
  | .call c =>
    match c.callee with
    | .builtin .append =>
      match appendElem T c.argTypes.toList, c.args.toList with
      | some e, [x, y] =>
        match ρ x, ρ y with
        | .slice a n k', .slice a' n' k'' => appendC (T e).size H ⟨a, n, k'⟩ ⟨a', n', k''⟩ fun s H' => k s.val H'
        | _, _ => False
      | _, _ => False
    | .builtin .copy =>
      match appendElem T c.argTypes.toList, c.args.toList with
      | some e, [x, y] =>
        match ρ x, ρ y with
        | .slice a n k', .slice a' n' k'' => copyC (T e).size H ⟨a, n, k'⟩ ⟨a', n', k''⟩ fun i H' => k (.int .i64 i) H'
        | _, _ => False
      | _, _ => False
    | _ => False
  | _ => False

section
variable {P : Program} {T : Nat → TyE}

theorem Rel.cells {W w : World} {φ : Emb} {H : AH} (R : Rel W φ H w) {b : Nat} {B : Blk} (hb : φ b = some B) (hd : (H.get b).md ≠ .dead) :
    ∃ cs' : List Value, LRel φ (H.get b).cells cs' ∧ ∀ j v, cs'[j]? = some v → w.cell? ((⟨B.c, 0, none⟩ : Addr).add j) = some v := by
  refine ⟨(List.range (H.get b).cells.length).map fun j => ((w.cell? ⟨B.c, j, none⟩).getD undef), ⟨by simp, ?_⟩, ?_⟩
  · intro i x y hx hy
    have hi : i < (H.get b).cells.length := (List.getElem?_eq_some_iff.1 hx).1
    obtain ⟨v', h1, h2⟩ := R.cell b B hb hd i x hx
    simp [List.getElem?_map, List.getElem?_range hi, h1] at hy
    subst hy
    exact h2
  · intro j v hv
    have hi : j < (H.get b).cells.length := by
      have := (List.getElem?_eq_some_iff.1 hv).1
      simpa using this
    obtain ⟨v', h1, _⟩ := R.cell b B hb hd j _ (List.getElem?_eq_getElem hi)
    simp [List.getElem?_map, List.getElem?_range hi, h1] at hv
    subst hv
    rw [add_off]
    simpa using h1

theorem Rel.unfrozen {W w : World} {φ : Emb} {H : AH} (R : Rel W φ H w) {c : Nat} (h : W.heap.size ≤ c) (i : Nat) : w.frozen? ⟨c, i, none⟩ = false := by
  rw [R.froz]
  unfold World.frozen?
  have : W.heap[c]? = none := Array.getElem?_eq_none h
  simp [this]

/-- Nobody alive looks at the block: whatever is stored there. -/
theorem Rel.scribble {W : World} {φ : Emb} {H : AH} {c : Nat} (hW : W.heap.size ≤ c) (hd : ∀ x X, φ x = some X → X.c = c → (H.get x).md = .dead) :
    ∀ (vs : List Value) (o : Nat) {w : World}, Rel W φ H w → Rel W φ H (w.setCells c o vs)
  | [], _, _, R => R
  | v :: vs, o, w, R => by
    refine Rel.scribble hW hd vs (o + 1) (w := w.setCell ⟨c, o, none⟩ v) ?_
    have ne : ∀ x X, φ x = some X → (H.get x).md ≠ .dead → c ≠ X.c := fun x X hx hn he => hn (hd x X hx he.symm)
    refine { below := ?_, size := by simpa using R.size, tape := R.tape, os := R.os, output := R.output, froz := ?_, dom := ?_, cell := ?_, room := ?_, own := R.own, out := R.out }
    · intro k hk
      rw [heap_setCell_ne _ _ _ _ (by simp; omega)]
      exact R.below k hk
    · intro a; rw [World.frozen?_setCell]; exact R.froz a
    · intro x X hx; simpa using R.dom x X hx
    · intro x X hx hn i u hu
      rw [World.cell?_setCell_other _ _ _ _ (by simp; intro h; exact absurd h (ne x X hx hn))]
      exact R.cell x X hx hn i u hu
    · intro x X hx hm
      obtain ⟨h1, h2, h3⟩ := R.room x X hx hm
      refine ⟨h1, fun i hi => ?_, h3⟩
      obtain ⟨u, hu⟩ := h2 i hi
      exact ⟨u, by rw [World.cell?_setCell_other _ _ _ _ (by simp; intro h; exact absurd h (ne x X hx (by simp [hm])))]; exact hu⟩

theorem Rel.put {W w : World} {φ : Emb} {H : AH} (R : Rel W φ H w) {b o : Nat} {B : Blk} (hb : φ b = some B) {vs vs' : List Value} (hcan : H.canPut ⟨b, o, none⟩ vs.length) (hl : LRel φ vs vs') (h1 : ∀ v ∈ vs', v.oneCell' = true) :
    Rel W φ (H.put ⟨b, o, none⟩ vs) (w.setCells B.c o vs') ∧ (storeCells ⟨B.c, o, none⟩ vs' 0).run P w = .ok () (w.setCells B.c o vs') := by
  obtain ⟨_, hm, hlen⟩ := hcan
  refine ⟨Rel.setMany' b B hb vs vs' o R hm hlen hl.1 (fun j v v' hv hv' => hl.2 j v v' hv hv'), ?_⟩
  obtain ⟨hW, _, _⟩ := R.room b B hb hm
  have := run_storeCells_cells (P := P) B.c o vs' 0 w (fun j hj => by
      have hj' : o + j < (H.get b).cells.length := by rw [← hl.1] at hj; simp at hlen; omega
      obtain ⟨v', hv', _⟩ := R.cell b B hb (by simp [hm]) (o + j) _ (List.getElem?_eq_getElem hj')
      simp [hv'])
    (fun j _ => R.unfrozen hW _) h1
  simpa using this

theorem cell_setCells_in {w : World} (c : Nat) : ∀ (vs : List Value) (o : Nat), (∀ j, j < vs.length → ∃ u, w.cell? ⟨c, o + j, none⟩ = some u) →
    ∀ j (h : j < vs.length), (w.setCells c o vs).cell? ⟨c, o + j, none⟩ = some vs[j] := by
  intro vs
  induction vs generalizing w with
  | nil => intro o _ j h; simp at h
  | cons v vs ih =>
    intro o hc j h
    simp only [World.setCells]
    cases j with
    | zero =>
      rw [World.cell?_setCells_out _ _ _ _ _ (by intro _ _; simp)]
      obtain ⟨u, hu⟩ := hc 0 (by simp)
      exact World.cell?_setCell_same _ _ _ hu
    | succ j =>
      have := ih (w := w.setCell ⟨c, o, none⟩ v) (o + 1) (fun j hj => by
        obtain ⟨u, hu⟩ := hc (j + 1) (by simpa using hj)
        refine ⟨u, ?_⟩
        rw [World.cell?_setCell_other _ _ _ _ (by simp; omega)]
        rw [show o + 1 + j = o + (j + 1) by omega]
        exact hu) j (by simpa using h)
      rw [show o + 1 + j = o + (j + 1) by omega] at this
      simpa using this

theorem Hist.put {φ : Emb} {H : AH} {b o : Nat} {B : Blk} (hb : φ b = some B) (vs : List Value) : Hist φ H φ (H.put ⟨b, o, none⟩ vs) := by
  refine ⟨Emb.le_refl φ, Nat.le_refl _, fun _ _ h => h, fun x _ hn => ?_⟩
  have : x ≠ b := fun e => by subst e; rw [hb] at hn; cases hn
  simp [AH.put, AH.upd, this]

theorem appendElem_spec (hT : Agrees P T) {ts : List TypeId} {e : TypeId} (h : appendElem T ts = some e) :
    ∃ t, ts = [t, t] ∧ P.underlying t = some (.slice e) ∧ (T e).k ≠ .bad ∧ (T e).size ≠ 0 ∧ (T e).zero.length = (T e).size ∧ (T e).bytes ≤ 4096 := by
  unfold appendElem at h
  split at h
  · rename_i t u
    split at h
    · rename_i e' hk hs hd
      split at h
      · cases h
      · rename_i hc
        simp only [not_or, Nat.not_lt, Decidable.not_not] at hc
        injection h with h
        subst h
        obtain ⟨e'', hu, hse⟩ := hT.sl hk
        rw [hs] at hse
        injection hse with hse
        subst hse
        have : t = u := by simpa using hd
        subst this
        exact ⟨t, rfl, hu, hc.1, hc.2.1, hc.2.2.1, hc.2.2.2⟩
    · cases h
  · cases h

/-- The cells of a slice that is read. -/
theorem Rel.rowS {W w : World} {φ : Emb} {H : AH} (R : Rel W φ H w) {s : Sl} {size : Nat} {ys : List Value} (h : H.rowS? s size = some ys) (hn : s.n ≠ 0) {v' : Value} (hv : VRel φ s.val v') :
    ∃ b B o c ys', s.a = some ⟨b, o, none⟩ ∧ φ b = some B ∧ v' = .slice (some ⟨B.c, o, none⟩) s.n c ∧ ys.length = s.n * size ∧ LRel φ ys ys' ∧
      (∀ j v, ys'[j]? = some v → w.cell? ((⟨B.c, o, none⟩ : Addr).add j) = some v) ∧ (∀ v ∈ ys', v.oneCell' = true) := by
  obtain ⟨sa, sn, sk⟩ := s
  simp only at hn
  unfold AH.rowS? at h
  simp only [hn, if_false] at h
  unfold Sl.val at hv
  simp only at hv
  cases hv with
  | sl0 => exact absurd rfl hn
  | @sl b B o _ _ k' hb hle hk =>
    obtain ⟨ys', h1, h2, h3⟩ := R.row hb h
    exact ⟨b, B, o, k', ys', rfl, hb, rfl, (AH.row?_cell h).2.1, h1, h2, h3⟩
  | sle a a' k' => exact absurd rfl hn

theorem LRel.mono {φ φ' : Emb} (h : φ.le φ') {xs ys : List Value} (r : LRel φ xs ys) : LRel φ' xs ys := ⟨r.1, fun i x y hx hy => (r.2 i x y hx hy).mono h⟩

theorem LRel.append {φ : Emb} {xs ys xs' ys' : List Value} (h : LRel φ xs ys) (h' : LRel φ xs' ys') : LRel φ (xs ++ xs') (ys ++ ys') := by
  refine ⟨by simp [h.1, h'.1], fun i x y hx hy => ?_⟩
  by_cases hi : i < xs.length
  · rw [List.getElem?_append_left hi] at hx
    rw [List.getElem?_append_left (by rw [← h.1]; exact hi)] at hy
    exact h.2 i x y hx hy
  · rw [List.getElem?_append_right (by omega)] at hx
    rw [List.getElem?_append_right (by rw [← h.1]; omega)] at hy
    rw [← h.1] at hy
    exact h'.2 _ x y hx hy

end
end Go.Abs
