import Derived.Test.YtgddfhnochcolaaS5
set_option linter.all false
namespace Go.Proofs.Ytgddfhnochcolaa
open Go Go.Abs

def putE (ws : List Int) (x : Int × Int) : List Int := if 0 ≤ x.1 ∧ x.1 < ws.length then ws.set x.1.toNat x.2 else ws
def applyE (ws : List Int) (l : List (Int × Int)) : List Int := l.foldl putE ws
theorem putE_length (ws : List Int) (x : Int × Int) : (putE ws x).length = ws.length := by unfold putE; split <;> simp
theorem applyE_length (l : List (Int × Int)) : ∀ ws, (applyE ws l).length = ws.length := by
  induction l with
  | nil => intro ws; rfl
  | cons x r ih => intro ws; simp only [applyE, List.foldl_cons]; exact (ih _).trans (putE_length _ _)

theorem ed_put {H : AH} (x y : Int × Int) : AH.put (H.push ⟨eU x, .rw, 0⟩) ⟨H.size, 0, none⟩ (eU y) = H.push ⟨eU y, .rw, 0⟩ := put_new _ _ _ _ _
theorem ed_can {H : AH} (x : Int × Int) : AH.canPut (H.push ⟨eU x, .rw, 0⟩) ⟨H.size, 0, none⟩ 2 := canPut_new.2 (by simp [eU])
theorem ed_0 {H : AH} (x : Int × Int) : AH.cell? (H.push ⟨eU x, .rw, 0⟩) (Addr.add ⟨H.size, 0, none⟩ 0) = some (.int .i64 x.1) := cell_new _ _ _ _
theorem ed_1 {H : AH} (x : Int × Int) : AH.cell? (H.push ⟨eU x, .rw, 0⟩) (Addr.add ⟨H.size, 0, none⟩ 1) = some (.int .u64 x.2) := cell_new _ _ _ _
theorem ed_nil : ([(Value.int .i64 (0 : Int)), (Value.int .u64 (0 : Int))] : List Value) = eU (0, 0) := rfl

theorem span_Apply.s {H : AH} {x0 x1 : Sl} {ws : List Int} {l : List (Int × Int)} {k : Sl → AH → Prop} (hw : Abs.Rows H x0 1 wU ws) (hwl : ws.length ≤ 1000000) (hl : Abs.Rows H x1 2 eU l) (hll : l.length ≤ 1000000)
    (h : ∀ s H', Keeps H H' → Own H.size H' s 1 wU (applyE ws l) ∨ (ws = [] ∧ s.n = 0) → k s H') : span_Apply x0 x1 H k := by
  refine span_Apply.link ?_
  unfold span_Apply.b
  refine slices_Clone_uint64uint64.s hw hwl ?_
  intro s9 H9 hK9 hO9
  refine loopT_inv (t := (0 : Int)) (H := H9) (I := fun (t : Int) H' => ∃ j : Nat, t = (j : Int) ∧ j ≤ l.length ∧ Keeps H H' ∧ (Own H.size H' s9 1 wU (applyE ws (l.take j)) ∨ (ws = [] ∧ s9.n = 0))) (m := fun (t : Int) _ => Int.toNat ((l.length : Int) - t)) ?_ ⟨0, rfl, by omega, hK9, hO9⟩
  intro t H1 hI it hit
  obtain ⟨j, rfl, hj, hK, hO⟩ := hI
  have hR := hl.keep hK
  unfold span_Apply.l2
  rw [hl.1]
  by_cases hlt : j < l.length
  · rw [show decide ((j : Int) < (l.length : Int)) = true from by simpa using hlt, bcase_true]
    obtain ⟨b, o, ha, hb, hrow⟩ := hR.at hlt
    refine ⟨⟨by omega, by omega⟩, ?_⟩
    rw [ha, onPtr_mk, Int.toNat_natCast, ldA_some hrow]
    generalize hx : l[j] = x at *
    have htk : applyE ws (l.take (j + 1)) = putE (applyE ws (l.take j)) x := by
      rw [List.take_succ, List.getElem?_eq_getElem hlt, hx, Option.toList_some]
      simp [applyE, List.foldl_append]
    have hn : s9.n = ws.length := by
      rcases hO with hO | ⟨rfl, h0⟩
      · rw [own_n hO, applyE_length]
      · rw [h0]; rfl
    simp only [newC_eq, stC_eq, ed_nil, ed_put, ed_can, ed_0, ed_1, elI_some, show (eU x).length = 2 from rfl, show (eU x).all cellOK = true from rfl, true_and]
    have hnext : ∀ H', Keeps H H' → (Own H.size H' s9 1 wU (putE (applyE ws (l.take j)) x) ∨ (ws = [] ∧ s9.n = 0)) → it ((j : Int) + 1) H' := by
      intro H' hK' hO'
      rw [← htk] at hO'
      exact hit _ _ ⟨j + 1, by simp, by omega, hK', hO'⟩ (by omega)
    have hO1 : Own H.size (H1.push ⟨eU x, .rw, 0⟩) s9 1 wU (applyE ws (l.take j)) ∨ (ws = [] ∧ s9.n = 0) :=
      hO.imp (fun hO => hO.keep (by simp [push_size]) (fun b _ hb => push_get_ne (by omega))) id
    unfold span_Apply.j1
    simp only [ed_0, ed_1, elI_some]
    rw [wrap_i64 (n := (j : Int) + 1) (by omega) (by omega), hn]
    by_cases h0 : x.1 ≥ 0
    · rw [show decide (x.1 ≥ 0) = true from by simpa using h0, bcase_true]
      by_cases h1 : x.1 < (ws.length : Int)
      · rw [show decide (x.1 < (ws.length : Int)) = true from by simpa using h1, bcase_true]
        refine ⟨⟨h0, h1⟩, ?_⟩
        rcases hO1 with hO1 | ⟨rfl, _⟩
        · have hlw : x.1.toNat < (applyE ws (l.take j)).length := by rw [applyE_length]; omega
          obtain ⟨b', ha', hb1, hb2, hcan, hO', _⟩ := hO1.put (y := x.2) (fun _ => rfl) (List.getElem?_eq_getElem hlw) (j := 0) (by omega) (v := .int .u64 x.2) rfl
          rw [ha', onPtr_mk, addr_add, Nat.zero_add]
          refine ⟨hcan, ?_⟩
          refine hnext _ ((hK.push _).put hb1 _) (.inl ?_)
          have hp : putE (applyE ws (l.take j)) x = (applyE ws (l.take j)).set x.1.toNat x.2 := by
            unfold putE; rw [if_pos ⟨h0, by rw [applyE_length]; exact h1⟩]
          rw [hp]; exact hO'
        · simp at h1; omega
      · rw [show decide (x.1 < (ws.length : Int)) = false from by simpa using h1, bcase_false]
        refine hnext _ (hK.push _) (hO1.imp (fun hO => ?_) id)
        have hp : putE (applyE ws (l.take j)) x = applyE ws (l.take j) := by unfold putE; rw [if_neg (by rw [applyE_length]; omega)]
        rw [hp]; exact hO
    · rw [show decide (x.1 ≥ 0) = false from by simpa using h0, bcase_false, bcase_false]
      refine hnext _ (hK.push _) (hO1.imp (fun hO => ?_) id)
      have hp : putE (applyE ws (l.take j)) x = applyE ws (l.take j) := by unfold putE; rw [if_neg (by omega)]
      rw [hp]; exact hO
  · rw [show decide ((j : Int) < (l.length : Int)) = false from by simpa using hlt, bcase_false]
    have : j = l.length := by omega
    subst this
    rw [List.take_length] at hO
    exact h _ _ hK hO
end Go.Proofs.Ytgddfhnochcolaa
