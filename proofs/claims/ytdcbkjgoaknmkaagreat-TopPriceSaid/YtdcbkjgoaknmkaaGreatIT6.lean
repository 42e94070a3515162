/- Lemmas for the law: an abstract machine, and what the functions do on it. No condition. -/
import Derived.Test.YtdcbkjgoaknmkaaGreatIT5
import Derived.SizedLaws
set_option linter.all false
open List renaming getElem?_eq_getElem → qkV, length_map → qlK
open Bool renaming false_eq_true → qk4
open Option renaming isSome_none → qld
namespace Go.Abs
open Go.RowKit
theorem qiR {H : Type} {enc : TypeId × Value → H} {P : Program} {W : World} {ts : List TypeId} {ds : List (DataW H)} {j : Nat} {t e : TypeId} {a : Option Addr} {n c : Nat} {d : DataW H} {ps : List MemPlace}
  (hsz : (DataW.weightsEach P ts ds).all (· ≤ reachBytes) = true) (ht : ts[j]? = some t) (hd : ds[j]? = some d) (hu : P.underlying t = some (.slice e)) (h : DataW.Trod enc P W 0 (fun _ => true) true t (.slice a n c) d ps) :
  n * P.bytesOf e ≤ reachBytes := by
 obtain ⟨fuel, h⟩ := h
 rcases DataW.trod_slice hu h with ⟨e1, _⟩ | ⟨a', len, cap, elems, rest, _, _, e1, e2, _, _, _, e3, _⟩
 ·simp only [Value.cells, List.cons.injEq, and_true] at e1
  injection e1 with _ h2 _
  subst h2
  rw [Nat.zero_mul]; exact Nat.zero_le _
 ·simp only [Value.cells, List.cons.injEq, and_true] at e1
  injection e1 with _ h2 _
  injection e2 with e2 _
  subst e2
  have hs := sized_slice hsz ht hd hu
  simp only [qlK] at hs
  have hle : n * P.bytesOf e ≤ (elems.length + rest.length) * P.bytesOf e := Nat.mul_le_mul_right _ (by omega)
  omega
theorem qkj {W : World} {a : Addr} {n z : Nat} {row : List Value} (hs : a.spot = none) (h : W.cells? 0 (a.add n) z = some row) (hf : (row.map (absC W)).all qn = true) (hz : 0 < z) :
  AH.row? (stH W) ⟨a.block, a.off + n, none⟩ z = some (row.map (absC W)) := by
 unfold World.cells? at h
 rw [if_pos (Nat.zero_le _)] at h
 obtain ⟨h1, h2⟩ := qhA h
 have hlen : row.length = z := by simpa using h1
 have hcell : ∀ j, j < z → ∃ v, (row.map (absC W))[j]? = some v ∧ AH.cell? (stH W) ⟨a.block, a.off + n + j, none⟩ = some v := by
  intro j hj
  obtain ⟨v, hv, hc⟩ := h2 j j (by simp [hj])
  rw [qhp hs] at hc
  exact ⟨absC W v, by rw [List.getElem?_map, hv]; rfl, qhU hc⟩
 have hm : ((stH W).get a.block).md ≠ .dead := by
  intro hm
  obtain ⟨v, _, hc⟩ := hcell 0 hz
  simp [AH.cell?, hm] at hc
 have hget : ∀ j, j < z → ((stH W).get a.block).cells[a.off + n + j]? = (row.map (absC W))[j]? := by
  intro j hj
  obtain ⟨v, hv, hc⟩ := hcell j hj
  simp only [AH.cell?, qld, qk4, if_false] at hc
  rw [if_neg hm] at hc
  rw [hc, hv]
 have hle : a.off + n + z ≤ ((stH W).get a.block).cells.length := by
  have := hget (z - 1) (by omega)
  rw [qkV (show z - 1 < (row.map (absC W)).length by rw [qlK]; omega)] at this
  have := (List.getElem?_eq_some_iff.1 this).1
  omega
 have htake : (((stH W).get a.block).cells.drop (a.off + n)).take z = row.map (absC W) := by
  apply List.ext_getElem?
  intro j
  rw [List.getElem?_take]
  by_cases hj : j < z
  ·rw [if_pos hj, List.getElem?_drop, hget j hj]
  ·rw [if_neg hj, List.getElem?_eq_none (by rw [qlK]; omega)]
 simp only [AH.row?, qld, qk4, if_false]
 rw [if_neg hm, htake, if_pos ⟨hle, hf⟩]
theorem qkC {H : Type} {enc : TypeId × Value → H} {P : Program} {W : World} {e : TypeId} {α : Type} {f : α → List Value} {ok : α → Prop} {s : Sl} {z : Nat} (hz : 0 < z) (hc : P.cellsOf e = z) (hf : ∀ x, (f x).all qn = true) (dec : ∀ row, Rd enc P W e row → ∃ x, ok x ∧ row.map (absC W) = f x)
  (h : s.k = 0 ∧ s.n ≤ maxLen ∧ ∀ i, i < s.n → ∃ a row, s.a = some a ∧ a.spot = none ∧ a.block < W.heap.size ∧ W.cells? 0 (a.add (i * P.cellsOf e)) (P.cellsOf e) = some row ∧ Rd enc P W e row) :
  ∃ l : List α, Rows (stH W) s z f l ∧ ∀ x ∈ l, ok x := by
 obtain ⟨l, h1, h2⟩ := qfx (p := fun i (x : α) => ok x ∧ ∃ a, s.a = some a ∧ a.spot = none ∧ a.block < (stH W).size ∧ AH.row? (stH W) ⟨a.block, a.off + i * z, none⟩ z = some (f x)) s.n (by
  intro i hi
  obtain ⟨a, row, e1, e2, e3, e4, e5⟩ := h.2.2 i hi
  obtain ⟨x, hx, hr⟩ := dec row e5
  rw [hc] at e4
  exact ⟨x, hx, a, e1, e2, e3, by rw [← hr]; exact qkj e2 e4 (by rw [hr]; exact hf x) hz⟩)
 refine ⟨l, ⟨h1.symm, fun i x hi => (h2 i x hi).2⟩, fun x hx => ?_⟩
 obtain ⟨i, hi, e⟩ := List.getElem_of_mem hx
 exact (h2 i x (by rw [qkV hi, e])).1
end Go.Abs
