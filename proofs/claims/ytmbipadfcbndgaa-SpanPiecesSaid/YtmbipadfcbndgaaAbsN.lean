import Derived.Test.YtmbipadfcbndgaaAbsM
set_option linter.all false
namespace Go.Abs
section
variable {P : Program} {T : Nat → TyE}

theorem copy_sound (hT : Agrees P T) {t e : TypeId} (hu : P.underlying t = some (.slice e)) (he : (T e).k ≠ .bad)
    {H : AH} {x y : Sl} {k : Int → AH → Prop} (h : copyC (T e).size H x y k) {W w : World} {φ : Emb} (R : Rel W φ H w) {x' y' : Value} (hx : VRel φ x.val x') (hy : VRel φ y.val y') (ty : TypeId) :
    ∃ (n : Int) (w' : World) (H' : AH), (Builtin.copy_ #[t, t] ty #[x', y']).run P w = .ok (.int .i64 n) w' ∧ Hist φ H φ H' ∧ Rel W φ H' w' ∧ k n H' := by
  obtain ⟨i, hi, his, _⟩ := hT.size he
  have shape : ∀ (s : Sl) (v : Value), VRel φ s.val v → ∃ a c, v = .slice a s.n c := by
    intro s v hv
    obtain ⟨sa, sn, sk⟩ := s
    unfold Sl.val at hv; simp only at hv
    cases hv <;> exact ⟨_, _, rfl⟩
  unfold copyC at h
  split at h
  · rename_i h0
    refine ⟨0, w, H, ?_, Hist.refl φ H, R, h⟩
    obtain ⟨a, c, rfl⟩ := shape x x' hx
    obtain ⟨a', c', rfl⟩ := shape y y' hy
    have hl : ∀ (x : Addr), (loadCells x 0).run P w = .ok #[] w := fun x => by simpa using run_loadCells_list (P := P) w x [] (by simp)
    cases a <;> cases a' <;> simp [Builtin.copy_, run_underlying hu, Builtin.lenOf, Builtin.firstCells, sizeOf, typeInfo, hi, h0, storeCells, hl, goInt]
  · rename_i h0
    obtain ⟨ys, hrow, h⟩ := h
    obtain ⟨a, hxa, hcan, h⟩ := onPtr_some h
    obtain ⟨c', a', hy'⟩ := shape y y' hy
    have hyv : VRel φ (Sl.val ⟨y.a, Nat.min y.n x.n, y.k⟩) (match y' with | .slice a n c => .slice a (Nat.min y.n x.n) c | v => v) := by
      obtain ⟨ya, yn, yk⟩ := y
      unfold Sl.val at hy ⊢; simp only at hy ⊢ h0
      have hle : Nat.min yn x.n ≤ yn := Nat.min_le_left _ _
      cases hy with
      | sl0 => simp at h0
      | sl o _ _ k' hb hn hk => exact .sl _ _ _ _ hb (Nat.le_trans hle hn) hk
      | sle a a' k' => simp at h0
    obtain ⟨yb, yB, yo, yc, ys', hya, hyb, hyv', hyl, hyr, hycell, hy1⟩ := R.rowS hrow h0 hyv
    subst hy'
    simp only at hyv'
    injection hyv' with e1 e2 e3
    subst e1 e3
    obtain ⟨xa, xn, xk⟩ := x
    simp only at hxa
    subst hxa
    unfold Sl.val at hx; simp only at hx h0 hyl h
    generalize hxv : Value.slice (some a) xn xk = xv at hx
    cases hx with
    | @sl b B o _ _ k' hb hn hkk =>
      injection hxv with h1 h2 h3
      injection h1 with h1
      subst h1 h2 h3
      obtain ⟨R2, hst⟩ := R.put (P := P) hb hcan hyr hy1
      refine ⟨_, _, _, ?_, Hist.put hb ys, R2, h⟩
      have hl : (loadCells ⟨yB.c, yo, none⟩ (Nat.min y.n xn * (T e).size)).run P w = .ok ys'.toArray w := by
        rw [← hyl, hyr.1]
        exact run_loadCells_list w _ ys' hycell
      rw [← his] at hl
      simp [Builtin.copy_, run_underlying hu, Builtin.lenOf, Builtin.firstCells, sizeOf, typeInfo, hi, hl, hst, goInt]
    | sle a0 a'' k' =>
      have : Nat.min y.n 0 = 0 := Nat.min_zero _
      injection hxv with _ h2 _
      subst h2
      exact absurd this h0
    | sl0 => cases hxv
    | _ => cases hxv

theorem eff_sound (hT : Agrees P T) {ρ : Operand → Value} {o : Oper} {H : AH} {k : Value → AH → Prop} (h : effOp T ρ o.op H k) {φ : Emb} {ρ' : Operand → Value} (hr : ∀ x ∈ o.op.operands, VRel φ (ρ x) (ρ' x))
    {W w : World} (R : Rel W φ H w) :
    ∃ r w' v v' φ' H', (execOp ρ' o).run P w = .ok r w' ∧ (r = .value v' ∨ (r = .skip ∧ v' = undef)) ∧ Hist φ H φ' H' ∧ VRel φ' v v' ∧ Rel W φ' H' w' ∧ k v H' := by
  obtain ⟨dst, op, type, pos, after, guard⟩ := o
  simp only at h hr
  cases op with
  | store t a x =>
    simp only [effOp] at h
    split at h
    · rename_i p hp
      obtain ⟨a0, rfl, h⟩ := onPtr_some h
      have har := hr a (by simp [Op.operands])
      have hxr := hr x (by simp [Op.operands])
      rw [hp] at har
      obtain ⟨b, B, o, rfl, hb, hae⟩ := vrel_ptr har
      have scalar : ∀ (v : Value), ρ x = v → cellOK v = true → (T t).k ≠ .bad → (T t).size = 1 → stC H ⟨b, o, none⟩ [v] (fun H' => k undef H') →
          ∃ r w' v v' φ' H', (execOp ρ' { dst, op := .store t a x, type, pos, after, guard }).run P w = .ok r w' ∧ (r = .value v' ∨ (r = .skip ∧ v' = undef)) ∧ Hist φ H φ' H' ∧ VRel φ' v v' ∧ Rel W φ' H' w' ∧ k v H' := by
        intro v hv hok hnb hs1 ⟨hcan, hk⟩
        rw [hv] at hxr
        have hone : (ρ' x).oneCell' = true := hxr.oneCell hok
        have hcells : (ρ' x).cells = #[ρ' x] := by
          generalize ρ' x = q at hone
          cases q <;> first | rfl | (simp [Value.oneCell'] at hone)
        obtain ⟨R2, hst⟩ := R.put (P := P) (vs := [v]) (vs' := [ρ' x]) hb hcan ⟨rfl, fun i x0 y0 hx0 hy0 => by
            cases i with
            | zero => simp at hx0 hy0; subst hx0 hy0; exact hxr
            | succ i => simp at hx0⟩ (by simpa using hone)
        refine ⟨.skip, _, undef, undef, φ, _, ?_, .inr ⟨rfl, rfl⟩, Hist.put hb [v], .undef _, R2, hk⟩
        simp [execOp, Instr.storeAt, hae, Instr.sureAddr, storeVar, hcells, run_sizeOf hT hnb, hs1, hst]
      split at h
      · exact h.elim
      · rename_i arr hk hxv
        obtain ⟨⟨hlen, hall⟩, hcan, hkv⟩ := h
        rw [hxv] at hxr
        generalize hx' : ρ' x = x' at hxr
        cases hxr with
        | agg _ bs h1 h2 =>
          have hl := LRel.of_arr h1 h2
          obtain ⟨R2, hst⟩ := R.put (P := P) (vs := arr.toList) (vs' := bs.toList) hb hcan hl (fun v hv => by
            obtain ⟨j, hj⟩ := List.mem_iff_getElem?.1 hv
            have hlt : j < arr.toList.length := by rw [hl.1]; exact (List.getElem?_eq_some_iff.1 hj).1
            exact (hl.2 j _ v (List.getElem?_eq_getElem hlt) hj).oneCell (List.all_eq_true.1 hall _ (List.getElem_mem hlt)))
          refine ⟨.skip, _, undef, undef, φ, _, ?_, .inr ⟨rfl, rfl⟩, Hist.put hb _, .undef _, R2, hkv⟩
          have hsz : bs.size = (T t).size := by have := hl.1; simp at this hlen; omega
          simp [execOp, Instr.storeAt, hae, Instr.sureAddr, storeVar, hx', Value.cells, run_sizeOf hT (t := t) (by simp [hk]), hsz, hst]
      · exact h.elim
      · exact h.elim
      · exact h.elim
      · rename_i hnb _ hnag hag _
        split at h
        · rename_i hs1
          refine scalar (ρ x) rfl ?_ (fun hb => hnb hb) hs1 h
          generalize hq : ρ x = q
          cases q <;> first | rfl | (exact absurd hq (hnag _)) | (exact absurd hq (hag _))
        · exact h.elim
    · exact h.elim
  | call c =>
    obtain ⟨callee, args, argTypes⟩ := c
    simp only [effOp] at h
    split at h
    · split at h
      · rename_i e x y hel hargs
        obtain ⟨t, hts, hu, he, hsz, hzl, hby⟩ := appendElem_spec hT hel
        split at h
        · rename_i a n k' a' n' k'' hx hy
          have hxm : x ∈ (Op.call { callee := .builtin .append, args, argTypes }).operands := by
            simp only [Op.operands, Call.operands, Array.mem_append]
            exact .inr (Array.mem_toList_iff.1 (by rw [hargs]; simp))
          have hym : y ∈ (Op.call { callee := .builtin .append, args, argTypes }).operands := by
            simp only [Op.operands, Call.operands, Array.mem_append]
            exact .inr (Array.mem_toList_iff.1 (by rw [hargs]; simp))
          have hxr := hr x hxm
          have hyr := hr y hym
          rw [hx] at hxr
          rw [hy] at hyr
          obtain ⟨v', w', s, φ', H', h1, h2, h3, h4, h5⟩ := append_sound hT hu he hsz hzl hby h R hxr hyr type
          refine ⟨.value v', w', _, v', φ', H', ?_, .inl rfl, h2, h3, h4, h5⟩
          have e1 : argTypes = #[t, t] := by apply Array.ext'; simpa using hts
          have e2 : args.map ρ' = #[ρ' x, ρ' y] := by apply Array.ext'; simp [hargs]
          simp [execOp, resolve, invoke, builtin, e1, e2, h1]
        · exact h.elim
      · exact h.elim
    · split at h
      · rename_i e x y hel hargs
        obtain ⟨t, hts, hu, he, hsz, hzl, hby⟩ := appendElem_spec hT hel
        split at h
        · rename_i a n k' a' n' k'' hx hy
          have hxm : x ∈ (Op.call { callee := .builtin .copy, args, argTypes }).operands := by
            simp only [Op.operands, Call.operands, Array.mem_append]
            exact .inr (Array.mem_toList_iff.1 (by rw [hargs]; simp))
          have hym : y ∈ (Op.call { callee := .builtin .copy, args, argTypes }).operands := by
            simp only [Op.operands, Call.operands, Array.mem_append]
            exact .inr (Array.mem_toList_iff.1 (by rw [hargs]; simp))
          have hxr := hr x hxm
          have hyr := hr y hym
          rw [hx] at hxr
          rw [hy] at hyr
          obtain ⟨n, w', H', h1, h2, h4, h5⟩ := copy_sound hT hu he h R hxr hyr type
          refine ⟨.value (.int .i64 n), w', _, _, φ, H', ?_, .inl rfl, h2, .int _ _, h4, h5⟩
          have e1 : argTypes = #[t, t] := by apply Array.ext'; simpa using hts
          have e2 : args.map ρ' = #[ρ' x, ρ' y] := by apply Array.ext'; simp [hargs]
          simp [execOp, resolve, invoke, builtin, e1, e2, h1]
        · exact h.elim
      · exact h.elim
    · exact h.elim
  | _ => simp [effOp] at h

end
end Go.Abs
