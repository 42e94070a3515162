import Derived.Test.YtmbipadfcbndgaaAbsG
set_option linter.all false
namespace Go.Abs
section
variable {P : Program} {T : Nat → TyE}

theorem Agrees.zeros (hT : Agrees P T) {t : TypeId} (h : (T t).k ≠ .bad) {φ : Emb} : ∀ x ∈ (T t).zero, VRel φ x x := by
  obtain ⟨_, _, _, _, _, _, _, _, _, hz⟩ := hT.get h
  intro x hx
  exact VRel.scalarConst (List.all_eq_true.1 hz x hx)

theorem mapM_fields (hT : Agrees P T) (w : World) : ∀ (fs : List Field), fieldsOK T (fs.map fun f => (f.offset, f.type)) = true →
    (fs.mapM (m := Sem) fun f => do pure (f.offset, ← sizeOf f.type)).run P w = .ok (fs.map fun f => (f.offset, (T f.type).size)) w := by
  intro fs
  induction fs with
  | nil => intro _; simp
  | cons f fs ih =>
    intro h
    simp only [fieldsOK, List.map_cons, List.all_cons, Bool.and_eq_true, decide_eq_true_eq] at h
    have ih' := ih (by simpa [fieldsOK] using h.2)
    simp only [List.mapM_cons, Sem.run_bind, run_sizeOf hT h.1, Result.andThen_ok, Sem.run_pure, ih', List.map_cons]

theorem build_sound (hT : Agrees P T) {t : TypeId} {parts : List (Nat × Value)} {k : Value → Prop} (h : buildC T t parts k) {φ : Emb} {parts' : List (Nat × Value)}
    (hl : parts.length = parts'.length) (hp : ∀ (j : Nat) (p p' : Nat × Value), parts[j]? = some p → parts'[j]? = some p' → p.1 = p'.1 ∧ VRel φ p.2 p'.2) :
    ∃ v v', k v ∧ VRel φ v v' ∧ ∀ w, (Instr.build t parts'.toArray).run P w = .ok v' w := by
  unfold buildC at h
  split at h
  · rename_i l hk hsub
    split at h
    · rename_i hok
      have hnb : (T t).k ≠ .bad := by simp [hk]
      obtain ⟨z, hz, hzr⟩ := run_zeroValue hT hnb
      rcases hT.agg hk with ⟨n, e, hu, hs⟩ | ⟨fs, hu, hs⟩
      · rw [hsub] at hs; cases hs
      · rw [hsub] at hs
        injection hs with hs
        obtain ⟨cs, cs', h1, h2, h3⟩ := fillC_sound (φ := φ) (fun i => (l[i]?).map fun f => (f.1, (T f.2).size)) (fun i => (fs.toList.map fun f => (f.offset, (T f.type).size))[i]?)
          (by
            intro i x hx
            subst hs
            simp only [List.getElem?_map, Option.map_map] at hx ⊢
            cases hf : fs.toList[i]? with
            | none => rw [hf] at hx; simp at hx
            | some f => rw [hf] at hx; simpa using hx)
          (T t).zero.length parts parts' (T t).zero z.cells _ rfl (by rw [hz]; exact LRel.refl_of (hT.zeros hnb)) hl hp h
        refine ⟨_, .agg cs', h1, .agg _ _ (h3.to_arr rfl rfl).1 (h3.to_arr rfl rfl).2, fun w => ?_⟩
        subst hs
        have hm := mapM_fields hT w fs.toList hok
        simp only [Instr.build, Sem.run_bind, hzr, Result.andThen_ok, run_underlying hu]
        rw [Array.mapM_eq_mapM_toList]
        simp only [Sem.run_map, hm, Result.andThen_ok, Sem.run_bind]
        simp only [List.getElem?_toArray, h2]
        simp
    · exact h.elim
  · rename_i n e hk hsub
    split at h
    · rename_i hok
      have hnb : (T t).k ≠ .bad := by simp [hk]
      obtain ⟨z, hz, hzr⟩ := run_zeroValue hT hnb
      rcases hT.agg hk with ⟨n', e', hu, hs⟩ | ⟨fs, hu, hs⟩
      · rw [hsub] at hs
        injection hs with hs1 hs2
        subst hs1 hs2
        obtain ⟨cs, cs', h1, h2, h3⟩ := fillC_sound (φ := φ) (fun i => some (i * (T e).size, (T e).size)) (fun i => some (i * (T e).size, (T e).size))
          (by intro i x hx; exact hx)
          (T t).zero.length parts parts' (T t).zero z.cells _ rfl (by rw [hz]; exact LRel.refl_of (hT.zeros hnb)) hl hp h
        refine ⟨_, .agg cs', h1, .agg _ _ (h3.to_arr rfl rfl).1 (h3.to_arr rfl rfl).2, fun w => ?_⟩
        simp only [Instr.build, Sem.run_bind, hzr, Result.andThen_ok, run_underlying hu, run_sizeOf hT hok]
        simp only [h2]
        simp
      · rw [hsub] at hs; cases hs
    · exact h.elim
  · exact h.elim

theorem elim_notbad {κ : K} {v : Option Value} {k : Value → Prop} (h : elim κ v k) : κ ≠ .agg ∧ κ ≠ .bad := by
  cases κ <;> simp [elim] at h <;> simp

theorem Agrees.notAgg (hT : Agrees P T) {t : TypeId} (h : (T t).k ≠ .bad) (h' : (T t).k ≠ .agg) (w : World) : (isAgg t).run P w = .ok false w := by
  obtain ⟨i, d, _, hd, hk, _⟩ := hT.get h
  cases d <;> simp [K.of] at hk <;> simp_all [isAgg, run_underlying hd]

theorem Agrees.isAgg (hT : Agrees P T) {t : TypeId} (h : (T t).k = .agg) (w : World) : (isAgg t).run P w = .ok true w := by
  rcases hT.agg h with ⟨n, e, hu, _⟩ | ⟨fs, hu, _⟩ <;> simp [Go.isAgg, run_underlying hu]

theorem LRel.drop {φ : Emb} {xs ys : List Value} (h : LRel φ xs ys) (n : Nat) : LRel φ (xs.drop n) (ys.drop n) := by
  refine ⟨by simp [h.1], fun i x y hx hy => ?_⟩
  rw [List.getElem?_drop] at hx hy
  exact h.2 _ x y hx hy

theorem LRel.take {φ : Emb} {xs ys : List Value} (h : LRel φ xs ys) (n : Nat) : LRel φ (xs.take n) (ys.take n) := by
  refine ⟨by simp [h.1], fun i x y hx hy => ?_⟩
  rw [List.getElem?_take] at hx hy
  split at hx
  · rw [if_pos ‹_›] at hy; exact h.2 _ x y hx hy
  · cases hx

theorem part_sound (hT : Agrees P T) {t : TypeId} {cs : List Value} {off : Nat} {k : Value → Prop} (h : partC T t cs off k) {φ : Emb} {cs' : Array Value} (hr : LRel φ cs cs'.toList) :
    ∃ v v', k v ∧ VRel φ v v' ∧ ∀ w, (part t cs' off).run P w = .ok v' w := by
  unfold partC at h
  split at h
  · rename_i hk
    refine ⟨_, .agg (cs'.extract off (off + (T t).size)), h, ?_, fun w => ?_⟩
    · have := (hr.drop off).take (T t).size
      have e : (cs'.extract off (off + (T t).size)).toList = (cs'.toList.drop off).take (T t).size := by simp [Array.toList_extract, List.extract_eq_take_drop]
      exact .agg _ _ (this.to_arr rfl e).1 (this.to_arr rfl e).2
    · simp [part, hT.isAgg hk, run_sizeOf hT (t := t) (by simp [hk])]
  · exact h.elim
  · rename_i hna hnb
    obtain ⟨x, hx, hk⟩ := elim_some h
    have hlt : off < cs'.toList.length := by
      rw [← hr.1]; exact (List.getElem?_eq_some_iff.1 hx).1
    have hget := List.getElem?_eq_getElem hlt
    refine ⟨x, _, hk, hr.2 off x _ hx hget, fun w => ?_⟩
    have hget' : cs'[off]? = some cs'.toList[off] := by rw [← Array.getElem?_toList]; exact hget
    simp [part, hT.notAgg hnb hna, hget']

theorem minMax_sound {isMax : Bool} : ∀ (rest : List Value) (x : Value) (k : Value → Prop), minMax isMax x rest k →
    ∃ v, k v ∧ (∀ φ, VRel φ v v) ∧ ∀ (φ : Emb) (x' : Value) (rest' : List Value), VRel φ x x' → rest.length = rest'.length → (∀ (i : Nat) (a b : Value), rest[i]? = some a → rest'[i]? = some b → VRel φ a b) →
      ∀ w, (rest'.foldlM (if isMax = true then Builtin.max2 else Builtin.min2) x').run P w = Result.ok v w := by
  intro rest
  induction rest with
  | nil =>
    intro x k h
    cases x <;> simp only [minMax] at h
    refine ⟨_, h, fun φ => .int _ _, fun φ x' rest' hx hl _ w => ?_⟩
    have : rest' = [] := List.length_eq_zero_iff.1 (by simpa using hl.symm)
    subst this
    cases hx
    simp
  | cons y rest ih =>
    intro x k h
    cases x <;> cases y <;> simp only [minMax] at h
    rename_i j a j' b
    obtain ⟨v, hk, hv, hr⟩ := ih _ k h
    refine ⟨v, hk, hv, fun φ x' rest' hx hl hp w => ?_⟩
    obtain _ | ⟨y', rest'⟩ := rest'
    · simp at hl
    have hy := hp 0 _ _ rfl rfl
    cases hx; cases hy
    have := hr φ _ rest' (.int _ _) (by simpa using hl) (fun i a b ha hb => hp (i + 1) a b ha hb) w
    simp only [List.foldlM_cons, Sem.run_bind]
    cases isMax
    · simpa [Builtin.min2] using this
    · simpa [Builtin.max2] using this

end
end Go.Abs
