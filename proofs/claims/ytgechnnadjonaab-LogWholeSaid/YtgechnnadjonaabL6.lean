import Derived.Test.YtgechnnadjonaabL5
import Derived.Test.YtgechnnadjonaabM8
set_option linter.all false
set_option linter.all false
namespace Go.Proofs.Ytgechnnadjonaab
open Go Go.Abs

def putV (q : Int × List Int) : List Value := [.int .i64 q.1] ++ lineV q.2
structure putOK (q : Int × List Int) : Prop where
  i : isI q.1
  line : isLine q.2
theorem putV_len {q : Int × List Int} (h : putOK q) : (putV q).length = 9 := by simp [putV, lineV, h.line.1]
theorem putV_ok (q : Int × List Int) : (putV q).all cellOK = true := by simp [putV, lineV, u64V, cellOK]
theorem putV_flat (q : Int × List Int) : (putV q).all flatC = true := by
  simp only [putV, List.all_append, flat_u64, Bool.and_true]; rfl
theorem put_eq {cs : List Value} {x0 : Int} {x1 : List Int} (n : cs.length = 9) (e0 : cs[0]? = some (.int .i64 x0)) (e1 : (cs.drop 1).take 8 = x1.map fun v => Value.int .u64 v) : cs = putV ⟨x0, x1⟩ := by
  match cs, n with
  | a :: r, n =>
    simp only [List.getElem?_cons_zero, Option.some.injEq] at e0
    subst e0
    simp only [List.drop_succ_cons, List.drop_zero] at e1
    rw [List.take_of_length_le (by simp at n; omega)] at e1
    subst e1
    rfl

structure PutAt (H : AH) (o : Nat) (q : Int × List Int) : Prop where
  g : ∃ e, H.get o = ⟨putV q, .rw, e⟩
  ok : putOK q
theorem PutAt.c0 {H : AH} {o : Nat} {q : Int × List Int} (h : PutAt H o q) : AH.cell? H (Addr.add ⟨o, 0, none⟩ 0) = some (.int .i64 q.1) := by
  obtain ⟨⟨e, h⟩, _⟩ := h; simp [addr_add, AH.cell?, h, putV]
theorem PutAt.row {H : AH} {o : Nat} {q : Int × List Int} (h : PutAt H o q) : AH.row? H (Addr.add ⟨o, 0, none⟩ 1) 8 = some (lineV q.2) := by
  obtain ⟨⟨e, h⟩, hok⟩ := h
  have e8 : ((putV q).drop 1).take 8 = lineV q.2 := by
    simp only [putV, List.cons_append, List.nil_append, List.drop_succ_cons, List.drop_zero]
    rw [List.take_of_length_le (by simp [lineV, hok.line.1])]
  simp only [addr_add, AH.row?, h, Option.isSome_none, Bool.false_eq_true, if_false, Nat.zero_add]
  rw [if_neg (by simp), e8, if_pos ⟨by rw [putV_len hok]; omega, lineV_ok _⟩]
theorem PutAt.keep {H H' : AH} {o : Nat} {q : Int × List Int} (h : PutAt H o q) (hg : H'.get o = H.get o) : PutAt H' o q := ⟨by rw [hg]; exact h.g, h.ok⟩
theorem new_put {H : AH} {q : Int × List Int} (h : putOK q) {cs : List Value} {K : Nat → AH → Prop} (hn : cs.length = 9) (hK : PutAt (H.push ⟨putV q, .rw, 0⟩) H.size q → K H.size (H.push ⟨putV q, .rw, 0⟩)) :
    newC H ⟨cs, .rw, 0⟩ fun o H1 => ((putV q).length = 9 ∧ List.all (putV q) cellOK = true) ∧ stC H1 ⟨o, 0, none⟩ (putV q) fun Hs => K o Hs :=
  new_st hn (putV_len h) (putV_ok q) (hK ⟨⟨0, by simp [push_get]⟩, h⟩)

theorem zeros_flat7 (n : Nat) : zerosOf n (lineV (List.replicate 8 0)) = (List.replicate n (List.replicate 8 (0 : Int))).flatMap lineV := by
  unfold zerosOf
  rw [List.flatMap_def, List.map_replicate]

/-- An array of lines of the law's own. -/
structure WantAt (H : AH) (o : Nat) (ws : List (List Int)) : Prop where
  g : H.get o = ⟨ws.flatMap lineV, .rw, 8⟩
  lt : o < H.size
  ok : ∀ l ∈ ws, isLine l
theorem WantAt.row {H : AH} {o : Nat} {ws : List (List Int)} (h : WantAt H o ws) {i : Nat} (hi : i < ws.length) : AH.row? H (Addr.add ⟨o, 0, none⟩ (i * 8)) 8 = some (lineV (ws.getD i [])) := by
  rw [addr_add, Nat.zero_add]
  have hg : ws[i]? = some (ws.getD i []) := by rw [List.getD_eq_getElem?_getD, List.getElem?_eq_getElem hi, Option.getD_some]
  have hr := flat_row' (fun x hx => lineV_len (h.ok x hx).1) i _ hg
  have hr' : ((ws.flatMap lineV).drop (i * 8)).take 8 = lineV (ws.getD i []) := hr
  have hle : i * 8 + 8 ≤ (ws.flatMap lineV).length := by rw [flat_len' (fun x hx => lineV_len (h.ok x hx).1)]; omega
  simp only [AH.row?, h.g, Option.isSome_none, Bool.false_eq_true, if_false]
  rw [if_neg (by simp), hr', if_pos ⟨hle, lineV_ok _⟩]
theorem WantAt.line {H : AH} {o : Nat} {ws : List (List Int)} (h : WantAt H o ws) {i : Nat} (hi : i < ws.length) : isLine (ws.getD i []) := by
  rw [List.getD_eq_getElem?_getD, List.getElem?_eq_getElem hi, Option.getD_some]
  exact h.ok _ (List.getElem_mem _)
theorem WantAt.keep {H H' : AH} {o : Nat} {ws : List (List Int)} (h : WantAt H o ws) (hg : H'.get o = H.get o) (hs : H.size ≤ H'.size) : WantAt H' o ws := ⟨by rw [hg, h.g], by have := h.lt; omega, h.ok⟩
theorem WantAt.push {H : AH} {o : Nat} {ws : List (List Int)} (h : WantAt H o ws) (ob : AObj) : WantAt (H.push ob) o ws := h.keep (push_get_ne (by have := h.lt; omega)) (by simp [push_size])
theorem WantAt.put {H : AH} {o : Nat} {ws : List (List Int)} (h : WantAt H o ws) {i : Nat} (hi : i < ws.length) {l : List Int} (hl : isLine l) :
    AH.canPut H (Addr.add ⟨o, 0, none⟩ (i * 8)) (lineV l).length ∧ WantAt (AH.put H (Addr.add ⟨o, 0, none⟩ (i * 8)) (lineV l)) o (ws.set i l) ∧ (∀ b, b ≠ o → (AH.put H (Addr.add ⟨o, 0, none⟩ (i * 8)) (lineV l)).get b = H.get b) := by
  rw [addr_add, Nat.zero_add]
  have hg : ws[i]? = some (ws.getD i []) := by rw [List.getD_eq_getElem?_getD, List.getElem?_eq_getElem hi, Option.getD_some]
  have hle : i * 8 + 8 ≤ (ws.flatMap lineV).length := by rw [flat_len' (fun x hx => lineV_len (h.ok x hx).1)]; omega
  have h0 := (h.line hi).1
  have hset : setMany (lineV (ws.getD i [])) 0 (lineV l) = lineV l := by
    apply List.ext_getElem?
    intro t
    rw [setMany_get _ _ _ _ (by rw [lineV_len h0, lineV_len hl.1]; omega), lineV_len hl.1]
    by_cases ht : t < 8
    · rw [if_pos (by omega)]; rfl
    · rw [if_neg (by omega), List.getElem?_eq_none (by rw [lineV_len h0]; omega), List.getElem?_eq_none (by rw [lineV_len hl.1]; omega)]
  have hs := flat_setMany (j := 0) (vs := lineV l) (by rw [lineV_len hl.1]; omega) (fun x hx => lineV_len (h.ok x hx).1) i _ l hg hset.symm
  rw [Nat.add_zero] at hs
  have other : ∀ x, x ≠ o → (AH.put H ⟨o, i * 8, none⟩ (lineV l)).get x = H.get x := fun x hx => by simp only [AH.put, upd_get]; rw [if_neg hx]
  refine ⟨⟨rfl, congrArg AObj.md h.g, by rw [h.g, lineV_len hl.1]; exact hle⟩, ⟨?_, h.lt, ?_⟩, other⟩
  · simp only [AH.put, upd_get, if_true, h.g, hs]
  · intro x hx
    rcases List.mem_or_eq_of_mem_set hx with h' | rfl
    · exact h.ok x h'
    · exact hl

section
variable {H0 H H' : AH} {x p c n sp o k : Nat} {M M' : Mem} {ws : List (List Int)}
/-- A Put out of range. -/
theorem lput_out {slot : Int} {d : List Int} (h : ¬ (0 ≤ slot ∧ slot < n)) : lput n sp M slot d = (M, 1) := by unfold lput; rw [if_neg h]

end

section
variable {H : AH}

end
end Go.Proofs.Ytgechnnadjonaab
