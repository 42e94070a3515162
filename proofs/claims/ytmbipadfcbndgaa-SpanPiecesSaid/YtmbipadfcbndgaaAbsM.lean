import Derived.Test.YtmbipadfcbndgaaAbsL
set_option linter.all false
namespace Go.Abs
section
variable {P : Program} {T : Nat → TyE}

theorem zeroCells_size (z : Array Value) (n : Nat) : (Builtin.zeroCells z n).size = n * z.size := by simp [Builtin.zeroCells]

theorem append_sound (hT : Agrees P T) {t e : TypeId} (hu : P.underlying t = some (.slice e)) (he : (T e).k ≠ .bad) (hsz : (T e).size ≠ 0) (hzl : (T e).zero.length = (T e).size) (hby : (T e).bytes ≤ 4096)
    {H : AH} {x y : Sl} {k : Sl → AH → Prop} (h : appendC (T e).size H x y k) {W w : World} {φ : Emb} (R : Rel W φ H w) {x' y' : Value} (hx : VRel φ x.val x') (hy : VRel φ y.val y') (ty : TypeId) :
    ∃ v' w' s φ' H', (Builtin.append_ #[t, t] ty #[x', y']).run P w = .ok v' w' ∧ Hist φ H φ' H' ∧ VRel φ' s.val v' ∧ Rel W φ' H' w' ∧ k s H' := by
  obtain ⟨hlim, h⟩ := h
  unfold lim at hlim
  obtain ⟨i, hi, his, hib, z, hz, hzc⟩ := hT.size he
  have hzs : z.cells.size = (T e).size := by have := congrArg List.length hzc; simp at this; omega
  split at h
  · rename_i hy0
    refine ⟨x', w, x, φ, H, ?_, Hist.refl φ H, hx, R, h⟩
    obtain ⟨ya, yn, yk⟩ := y
    simp only at hy0
    subst hy0
    have hyl : ∃ a c, y' = .slice a 0 c := by
      unfold Sl.val at hy; simp only at hy
      cases hy <;> exact ⟨_, _, rfl⟩
    obtain ⟨a, c, rfl⟩ := hyl
    have hfc : ∀ w, (Builtin.firstCells i.size 0 (.slice a 0 c)).run P w = .ok #[] w := by
      intro w; cases a <;> simp [Builtin.firstCells, loadCells, loadCellsFrom]
    obtain ⟨xa, xn, xk⟩ := x
    unfold Sl.val at hx; simp only at hx
    cases hx with
    | sl0 => simp [Builtin.append_, run_underlying hu, sizeOf, typeInfo, hi, Builtin.lenOf, hfc]
    | sl o _ _ k' hb hn hk => simp [Builtin.append_, run_underlying hu, sizeOf, typeInfo, hi, Builtin.lenOf, hfc, hn, storeCells]
    | sle a0 a' k' => simp [Builtin.append_, run_underlying hu, sizeOf, typeInfo, hi, Builtin.lenOf, hfc, storeCells]
  · rename_i hy0
    obtain ⟨ys, hrow, h⟩ := h
    obtain ⟨yb, yB, yo, yc, ys', hya, hyb, rfl, hyl, hyr, hycell, hy1⟩ := R.rowS hrow hy0 hy
    have hyl' : ys'.length = y.n * i.size := by rw [← hyr.1, hyl, his]
    obtain ⟨xa, xn, xk⟩ := x
    have hbytes : (xn + y.n) * i.bytes ≤ 140737488355328 := by
      rw [hib]
      calc (xn + y.n) * (T e).bytes ≤ 4294967296 * 4096 := Nat.mul_le_mul hlim hby
        _ ≤ 140737488355328 := by decide
    split at h
    · rename_i hxa
      simp only at hxa hlim
      subst hxa
      unfold Sl.val at hx; simp only at hx
      generalize hxv : Value.slice none xn xk = xv at hx
      cases hx <;> cases hxv
      have hrun := run_append_nil (P := P) w t ty e i z hu hi hz ⟨yB.c, yo, none⟩ y.n yc ys' hyl' hycell (by omega) (by omega) (by simp at hbytes; omega)
      have R1 := (R.push ⟨ys, .rw, (T e).size⟩).drew
      have hfresh := R.fresh
      have hlay := alloc_lay (cs := ys'.toArray ++ Builtin.zeroCells z.cells (grownCap w y.n 0 e - y.n)) R1 (b := H.size) (by simp [AH.push]) hfresh e (cells := ys) (esz := (T e).size) (by simp [AH.push])
        (by have := hyr.1; simp; omega) (fun j v hj => by
          have hlt : j < ys'.length := by rw [← hyr.1]; exact (List.getElem?_eq_some_iff.1 hj).1
          have : (ys'.toArray ++ Builtin.zeroCells z.cells (grownCap w y.n 0 e - y.n)).getD j undef = ys'[j] := by
            simp [Array.getElem?_append, hlt, List.getElem?_eq_getElem hlt]
          rw [this]
          exact hyr.2 j v _ hj (List.getElem?_eq_getElem hlt))
      have hcap := grownCap_ge w y.n 0 e
      refine ⟨_, _, ⟨newAt H.size, 0 + y.n, 1⟩, _, _, hrun, ?_, ?_, hlay, h⟩
      · refine ⟨Emb.le_add hfresh, by simp [AH.push], fun b hb hn => ?_, fun b hb _ => ?_⟩
        · have : b ≠ H.size := by omega
          simp [Emb.add, this, hn]
        · have : b ≠ H.size := by omega
          simp [AH.push, this]
      · simp only [Nat.zero_add]
        refine .sl 0 y.n 1 _ (Emb.add_self _ _ _) hcap (.inr ?_)
        simp only [World.size_drew, Nat.zero_add, Array.size_append, List.size_toArray, zeroCells_size, hzs, hyl', his]
        rw [← Nat.add_mul]
        have : y.n + (grownCap w y.n 0 e - y.n) = grownCap w y.n 0 e := by omega
        rw [this]
        exact Nat.le_refl _
    · rename_i a hxa
      simp only at hxa
      subst hxa
      obtain ⟨⟨hspot, hoff, hk1, hm, hcl, hesz⟩, h⟩ := h
      simp only at hk1 hcl hlim
      subst hk1
      unfold Sl.val at hx; simp only at hx
      generalize hxv : Value.slice (some a) xn 1 = xv at hx
      cases hx with
      | @sl b B o _ _ k' hb hn hkk =>
        injection hxv with h1 h2 h3
        injection h1 with h1
        subst h1 h2
        simp only at hoff hspot hm hcl hesz h
        subst hoff
        obtain ⟨hW, hroom, hes⟩ := R.room b B hb hm
        have hBsz : B.sz = (T e).size := by
          rcases hes with hes | hes
          · exact absurd (hesz ▸ hes) hsz
          · rw [← hes, hesz]
        have hkk' : k' * (T e).size ≤ B.m := by rcases hkk with h0 | h0
                                                · omega
                                                · rw [hBsz] at h0; omega
        obtain ⟨xs', hxr, hxcell⟩ := R.cells hb (by simp [hm])
        have hfresh : φ H.size = none := R.fresh
        have hbne : b ≠ H.size := fun e => by rw [← e, hb] at hfresh; cases hfresh
        have hkill : (H.kill b).size = H.size := rfl
        have R1 : Rel W φ ((H.kill b).push ⟨(H.get b).cells ++ ys, .rw, (T e).size⟩) w := (R.kill b).push _
        have hdead : ∀ x X, φ x = some X → X.c = B.c → (((H.kill b).push ⟨(H.get b).cells ++ ys, .rw, (T e).size⟩).get x).md = .dead := by
          intro x X hx hc
          have hxs : x ≠ H.size := fun e => by rw [e, hfresh] at hx; cases hx
          simp only [AH.push, hkill, hxs, if_false]
          by_cases hxb : x = b
          · subst hxb; simp [AH.kill, AH.upd]
          · rcases R.own b B hb hm x X hx hc with h0 | h0
            · exact absurd h0 hxb
            · simp [AH.kill, AH.upd, hxb, h0]
        have hist : ∀ B', Hist φ H (φ.add H.size B') ((H.kill b).push ⟨(H.get b).cells ++ ys, .rw, (T e).size⟩) := by
          intro B'
          refine ⟨Emb.le_add hfresh, by simp [AH.push, hkill], fun x hx hn => ?_, fun x hx hn => ?_⟩
          · have : x ≠ H.size := by omega
            simp [Emb.add, this, hn]
          · have h1 : x ≠ H.size := by omega
            have h2 : x ≠ b := fun e => by rw [e, hb] at hn; cases hn
            simp [AH.push, hkill, h1, AH.kill, AH.upd, h2]
        by_cases hfit : xn + y.n ≤ k'
        · -- there is room
          have hf := run_firstCells_some (P := P) w i.size y.n ⟨yB.c, yo, none⟩ y.n yc ys' hyl' hycell
          have hidx : ∀ j, j < ys'.length → xn * i.size + j < B.m := by
            intro j hj
            rw [hyl', his] at hj
            rw [his]
            have : xn * (T e).size + y.n * (T e).size ≤ k' * (T e).size := by rw [← Nat.add_mul]; exact Nat.mul_le_mul_right _ hfit
            omega
          have hst := run_storeCells_cells (P := P) B.c (xn * i.size) ys' 0 w (fun j hj => by
              obtain ⟨v, hv⟩ := hroom (xn * i.size + j) (hidx j hj)
              simp [hv]) (fun j _ => R.unfrozen hW _) hy1
          simp only [Nat.add_zero] at hst
          have hrun : (Builtin.append_ #[t, t] ty #[.slice (some ⟨B.c, 0, none⟩) xn k', .slice (some ⟨yB.c, yo, none⟩) y.n yc]).run P w = .ok (.slice (some ⟨B.c, 0, none⟩) (xn + y.n) k') (w.setCells B.c (xn * i.size) ys') := by
            simp [Builtin.append_, run_underlying hu, sizeOf, typeInfo, hi, Builtin.lenOf, hfit, hf, add_off, hst]
          have R2 := Rel.scribble hW hdead ys' (xn * i.size) R1
          have hget : ((H.kill b).push ⟨(H.get b).cells ++ ys, .rw, (T e).size⟩).get H.size = ⟨(H.get b).cells ++ ys, .rw, (T e).size⟩ := by simp [AH.push, hkill]
          have R3 := R2.over (b := H.size) (b' := b) (B := B) hfresh (by simp [AH.push, hkill]) hb hdead hW (fun j hj => by
              obtain ⟨v, hv⟩ := hroom j hj
              by_cases hin : xn * i.size ≤ j ∧ j < xn * i.size + ys'.length
              · have : ∃ u, (w.setCells B.c (xn * i.size) ys').cell? ⟨B.c, j, none⟩ = some u := by
                  have := cell_setCells_in (w := w) B.c ys' (xn * i.size) (fun j hj => by obtain ⟨v, hv⟩ := hroom (xn * i.size + j) (hidx j hj); exact ⟨v, hv⟩) (j - xn * i.size) (by omega)
                  rw [show xn * i.size + (j - xn * i.size) = j by omega] at this
                  exact ⟨_, this⟩
                exact this
              · exact ⟨v, by rw [World.cell?_setCells_out _ _ _ _ _ (by intro _ _; simp; omega)]; exact hv⟩)
            (by rw [hget]) (by rw [hget]; exact hBsz.symm) (by
              rw [hget]
              intro j v hj
              simp only at hj
              by_cases hlt : j < (H.get b).cells.length
              · rw [List.getElem?_append_left hlt] at hj
                obtain ⟨v', hv', hvr⟩ := R.cell b B hb (by simp [hm]) j v hj
                refine ⟨v', ?_, hvr⟩
                rw [World.cell?_setCells_out _ _ _ _ _ (by intro _ _; simp; left; rw [his, ← hcl]; exact hlt)]
                exact hv'
              · rw [List.getElem?_append_right (by omega)] at hj
                have hj' : j - (H.get b).cells.length < ys'.length := by rw [← hyr.1]; exact (List.getElem?_eq_some_iff.1 hj).1
                have := cell_setCells_in (w := w) B.c ys' (xn * i.size) (fun j hj => by obtain ⟨v, hv⟩ := hroom (xn * i.size + j) (hidx j hj); exact ⟨v, hv⟩) (j - (H.get b).cells.length) hj'
                have e1 : xn * i.size + (j - (H.get b).cells.length) = j := by rw [his, ← hcl]; omega
                rw [e1] at this
                exact ⟨_, this, hyr.2 _ v _ hj (List.getElem?_eq_getElem hj')⟩)
          refine ⟨_, _, ⟨newAt H.size, xn + y.n, 1⟩, _, _, hrun, hist B, ?_, R3, h⟩
          exact .sl 0 (xn + y.n) 1 k' (Emb.add_self _ _ _) hfit (.inr (by rw [hBsz]; omega))
        · -- a new block
          have hrun := run_append_grow (P := P) w t ty e i z hu hi hz ⟨B.c, 0, none⟩ xn k' xs' (by rw [← hxr.1, hcl, his]) hxcell ⟨yB.c, yo, none⟩ y.n yc ys' hyl' hycell (by omega) (by omega)
            (growslice_fits (by omega) hbytes)
          have hcap := grownCap_ge w (xn + y.n) k' e
          have hlay := alloc_lay (cs := xs'.toArray ++ ys'.toArray ++ Builtin.zeroCells z.cells (grownCap w (xn + y.n) k' e - (xn + y.n))) R1.drew (b := H.size) (by simp [AH.push, hkill]) hfresh e
            (cells := (H.get b).cells ++ ys) (esz := (T e).size) (by simp [AH.push, hkill])
            (by have h1 := hyr.1; have h2 := hxr.1; simp; omega) (fun j v hj => by
              have hlt : j < (xs' ++ ys').length := by
                have h1 := (hxr.append hyr).1
                rw [← h1]; exact (List.getElem?_eq_some_iff.1 hj).1
              have : (xs'.toArray ++ ys'.toArray ++ Builtin.zeroCells z.cells (grownCap w (xn + y.n) k' e - (xn + y.n))).getD j undef = (xs' ++ ys')[j] := by
                have h0 : (xs'.toArray ++ ys'.toArray ++ Builtin.zeroCells z.cells (grownCap w (xn + y.n) k' e - (xn + y.n)))[j]? = (xs' ++ ys')[j]? := by
                  simp only [List.append_toArray]
                  rw [Array.getElem?_append_left (by simpa using hlt)]
                  simp
                simp only [Array.getD_eq_getD_getElem?, h0, List.getElem?_eq_getElem hlt, Option.getD_some]
              rw [this]
              exact (hxr.append hyr).2 j v _ hj (List.getElem?_eq_getElem hlt))
          refine ⟨_, _, ⟨newAt H.size, xn + y.n, 1⟩, _, _, hrun, hist _, ?_, hlay, h⟩
          refine .sl 0 (xn + y.n) 1 _ (Emb.add_self _ _ _) hcap (.inr ?_)
          have h1 := hxr.1
          have h2 := hyr.1
          simp only [Nat.zero_add, Array.size_append, List.size_toArray, zeroCells_size, hzs, ← h1, ← h2, hcl, hyl]
          rw [← Nat.add_mul, ← Nat.add_mul]
          have : xn + y.n + (grownCap w (xn + y.n) k' e - (xn + y.n)) = grownCap w (xn + y.n) k' e := by omega
          rw [this]
          exact Nat.le_refl _
      | sl0 => cases hxv
      | sle a0 a' k' => cases hxv
      | _ => cases hxv

end
end Go.Abs
