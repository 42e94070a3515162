import Derived.Test.YtmbipadfcbndgaaAbsE
set_option linter.all false
namespace Go.Abs
section
variable {P : Program} {T : Nat → TyE}

theorem run_equal_arr {t e : TypeId} {n : Nat} {j : IntKind} (ht : P.underlying t = some (.array n e)) (he : P.underlying e = some (.int j)) (hs : P.cellsOf e = 1)
    {xs ys : Array Value} {r : Bool} (h : eqCells (List.replicate n (.int j)) xs.toList ys.toList = some r) (d : Nat) (w : World) :
    (Op.equalIn (d + 2) t (.agg xs) (.agg ys)).run P w = .ok r w := by
  have hsz : ∀ w, (sizeOf e).run P w = .ok 1 w := by
    intro w
    unfold Program.cellsOf at hs
    cases hi : P.info? e with
    | none => rw [hi] at hs; simp at hs
    | some i => rw [hi] at hs; simp at hs; simp [sizeOf, typeInfo, hi, hs]
  have hl := run_eqLoop (P := P) d e j he xs ys n 0 r (by simpa using h) w
  obtain ⟨D, hD⟩ : ∃ D, D = d + 1 := ⟨_, rfl⟩
  rw [← hD] at hl
  show (Op.equalIn (d + 1 + 1) t (.agg xs) (.agg ys)).run P w = .ok r w
  rw [← hD]
  have e1 : ∀ (f : Nat → Option Bool × Unit → Sem (ForInStep (Option Bool × Unit))), (forIn (m := Sem) [0:n] ((none : Option Bool), ()) f) = forIn (List.range' 0 n) (none, ()) f := by
    intro f
    simp [Std.Legacy.Range.forIn_eq_forIn_range', Std.Legacy.Range.size]
  simp only [Op.equalIn, Sem.run_bind, run_underlying ht, Result.andThen_ok, hsz, e1]
  rw [hl]
  cases r <;> simp

theorem run_equal_flat (hT : Agrees P T) {t : TypeId} (hk : (T t).k = .agg) (he : (T t).eqs = true) {xs ys : Array Value} {r : Bool}
    (h : eqCells (eqKinds T t) xs.toList ys.toList = some r) (w : World) :
    (Op.equal t (.agg xs) (.agg ys)).run P w = .ok r w ∧ P.eqGuardType P.depth t = false := by
  obtain ⟨_, _, _, _, _, _, _, _, hf, _⟩ := hT.get (t := t) (by simp [hk])
  rw [he] at hf
  refine ⟨?_, eqFlat_of hf⟩
  unfold eqFlat at hf
  rcases hT.agg hk with ⟨n, e, hu, hs⟩ | ⟨fs, hu, hs⟩
  · rw [hu] at hf
    simp only [Bool.and_eq_true] at hf
    obtain ⟨⟨hint, hsz⟩, _⟩ := hf
    have : ∃ j, P.underlying e = some (.int j) := by
      split at hint
      · exact ⟨_, ‹_›⟩
      · cases hint
    obtain ⟨j, hj⟩ := this
    have hkinds : eqKinds T t = List.replicate n (T e).k := by simp [eqKinds, hs]
    rw [hkinds] at h
    by_cases hbad : (T e).k = .bad
    · cases n with
      | zero => exact run_equal_arr hu hj (by simpa using hsz) (by simpa using h) 9998 w
      | succ n => rw [hbad] at h; simp [eqCells, List.replicate_succ] at h
    · have hke : (T e).k = .int j := by
        obtain ⟨_, d, _, hd, hkd, _⟩ := hT.get hbad
        rw [hj] at hd
        injection hd with hd
        subst hd
        simp [K.of] at hkd
        exact hkd.1.symm
      rw [hke] at h
      exact run_equal_arr hu hj (by simpa using hsz) h 9998 w
  · rw [hu] at hf
    simp only [Bool.and_eq_true, List.all_eq_true, bne_iff_ne, ne_eq, beq_iff_eq, Bool.not_eq_true'] at hf
    obtain ⟨⟨⟨hn, ho⟩, hst⟩, _⟩ := hf
    have hfo : P.fieldsOf t = fs := by simp [Program.fieldsOf, hu]
    have hkinds : eqKinds T t = fs.toList.map fun f => (T f.type).k := by simp [eqKinds, hs, Function.comp_def]
    rw [hkinds] at h
    show (Op.equalIn (9999 + 1) t (.agg xs) (.agg ys)).run P w = .ok r w
    rw [run_equalIn_struct w 9999 t xs ys (by rw [hfo]; exact hu) hst, hfo]
    exact run_eqFields hT 9998 xs ys fs.toList 0 r (fun f hf => (hn f hf).1) (by rw [ho]; simp [List.range_eq_range']) (by simpa using h) w

theorem run_equal_bool {t : TypeId} (h : P.underlying t = some .bool) (a b : Bool) (w : World) : (Op.equal t (.bool a) (.bool b)).run P w = .ok (a == b) w :=
  run_equalIn_bool' w 9999 t a b h

theorem run_equalIn_ptr_nil (d : Nat) {t e : TypeId} (h : P.underlying t = some (.pointer e)) (p : Option Addr) (w : World) :
    (Op.equalIn (d + 1) t (.pointer p) (.pointer none)).run P w = .ok p.isNone w := by
  cases p <;> simp [Op.equalIn, run_underlying h]
theorem run_equal_ptr_nil {t e : TypeId} (h : P.underlying t = some (.pointer e)) (p : Option Addr) (w : World) : (Op.equal t (.pointer p) (.pointer none)).run P w = .ok p.isNone w :=
  run_equalIn_ptr_nil 9999 h p w

theorem run_equalIn_sl_nil (d : Nat) {t e : TypeId} (h : P.underlying t = some (.slice e)) (a : Option Addr) (l c l' c' : Nat) (w : World) :
    (Op.equalIn (d + 1) t (.slice a l c) (.slice none l' c')).run P w = .ok a.isNone w := by
  cases a <;> simp [Op.equalIn, run_underlying h]
theorem run_equal_sl_nil {t e : TypeId} (h : P.underlying t = some (.slice e)) (a : Option Addr) (l c l' c' : Nat) (w : World) : (Op.equal t (.slice a l c) (.slice none l' c')).run P w = .ok a.isNone w :=
  run_equalIn_sl_nil 9999 h a l c l' c' w

/-- A binary operation, its guard ahead of it. -/
theorem binL_sound (hT : Agrees P T) {op : BinOp} {xt : TypeId} {x y : Value} {k : Value → Prop} (h : binL T op xt x y k) :
    ∃ v, k v ∧ (∀ φ, VRel φ v v) ∧ ∀ φ x' y' (X Y : Operand), VRel φ x x' → VRel φ y y' → ∀ w, (do eqGuard op xt X Y x' y'; binOp op xt x' y').run P w = .ok v w := by
  unfold binL at h
  split at h
  · rename_i j a j' b
    split at h
    · rename_i hj
      obtain ⟨v, hk, hv, hr⟩ := run_intBin xt hj h
      refine ⟨v, hk, hv, fun φ x' y' X Y hx hy w => ?_⟩
      cases hx; cases hy
      have hg : (eqGuard op xt X Y (.int j a) (.int j' b)).run P w = .ok () w := by unfold eqGuard; cases op <;> simp
      rw [Sem.run_bind, hg]
      exact hr w
    · exact h.elim
  · rename_i a b
    split at h
    · rename_i hb
      rcases eqOut_sound h with ⟨rfl, hk⟩ | ⟨rfl, hk⟩ <;>
      · refine ⟨_, hk, fun φ => .bool _, fun φ x' y' X Y hx hy w => ?_⟩
        cases hx; cases hy
        simp [eqGuard, binOp, run_equal_bool (hT.bool hb)]
    · exact h.elim
  · rename_i a b
    rcases eqOut_sound h with ⟨rfl, hk⟩ | ⟨rfl, hk⟩ <;>
    · refine ⟨_, hk, fun φ => .bool _, fun φ x' y' X Y hx hy w => ?_⟩
      cases hx; cases hy
      simp [eqGuard, binOp, Op.stringOp]
  · rename_i p
    split at h
    · rename_i hb
      obtain ⟨e, hu, _⟩ := hT.ptr hb
      have hr := fun (q : Option Addr) (w : World) => run_equal_ptr_nil hu q w
      rcases eqOut_sound h with ⟨rfl, hk⟩ | ⟨rfl, hk⟩ <;>
      · refine ⟨_, hk, fun φ => .bool _, fun φ x' y' X Y hx hy w => ?_⟩
        cases hy
        cases hx <;> simp [eqGuard, binOp, hr]
    · exact h.elim
  · rename_i a n c n' c'
    split at h
    · rename_i hb
      obtain ⟨e, hu, _⟩ := hT.sl hb
      have hr := fun (q : Option Addr) (l c l' c' : Nat) (w : World) => run_equal_sl_nil hu q l c l' c' w
      rcases eqOut_sound h with ⟨rfl, hk⟩ | ⟨rfl, hk⟩ <;>
      · refine ⟨_, hk, fun φ => .bool _, fun φ x' y' X Y hx hy w => ?_⟩
        cases hy
        cases hx <;> simp [eqGuard, binOp, hr]
    · exact h.elim
  · rename_i xs ys
    split at h
    · rename_i he
      obtain ⟨r, hr, h⟩ := h
      obtain ⟨hk, he⟩ := he
      rcases eqOut_sound h with ⟨rfl, hkk⟩ | ⟨rfl, hkk⟩ <;>
      · refine ⟨_, hkk, fun φ => .bool _, fun φ x' y' X Y hx hy w => ?_⟩
        cases hx with
        | agg _ xs' hs1 hx =>
          cases hy with
          | agg _ ys' hs2 hy =>
            have rel : ∀ (as bs : Array Value), as.size = bs.size → (∀ i, i < as.size → VRel φ (as.getD i (.tuple #[])) (bs.getD i (.tuple #[]))) →
                ∀ (i : Nat) (x x' : Value), as.toList[i]? = some x → bs.toList[i]? = some x' → VRel φ x x' := by
              intro as bs _ h i x x' h1 h2
              simp only [Array.getElem?_toList] at h1 h2
              have hi : i < as.size := by
                rcases Nat.lt_or_ge i as.size with hh | hh
                · exact hh
                · simp [Array.getElem?_eq_none hh] at h1
              have := h i hi
              simpa [h1, h2] using this
            have hr' := eqCells_rel _ _ _ xs'.toList ys'.toList r hr (by simpa using hs1) (by simpa using hs2) (rel _ _ hs1 hx) (rel _ _ hs2 hy)
            obtain ⟨h1, h2⟩ := run_equal_flat hT hk he hr' w
            simp [eqGuard, binOp, h1, h2]
    · exact h.elim
  · exact h.elim

end
end Go.Abs
