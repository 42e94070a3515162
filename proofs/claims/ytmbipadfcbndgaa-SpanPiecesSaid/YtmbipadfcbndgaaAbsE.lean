import Derived.Test.YtmbipadfcbndgaaAbsD
set_option linter.all false
namespace Go.Abs
section
variable {P : Program} {T : Nat → TyE}

def isAggD : TypeDesc → Bool
  | .struct _ => true
  | .array _ _ => true
  | _ => false

theorem run_part_scalar {t : TypeId} {d : TypeDesc} (hd : P.underlying t = some d) (hs : isAggD d = false)
    {cs : Array Value} {off : Nat} {v : Value} (h : cs.toList[off]? = some v) (w : World) : (part t cs off).run P w = .ok v w := by
  have h' : cs[off]? = some v := by simpa using h
  cases d <;> simp_all [part, isAgg, run_underlying hd, isAggD]

theorem eqFlat_of {t : TypeId} (h : eqFlat P t = true) : P.eqGuardType P.depth t = false := by
  unfold eqFlat at h
  split at h <;> simp_all

theorem run_eqFields (hT : Agrees P T) (d : Nat) (xs ys : Array Value) : ∀ (fs : List Field) (base : Nat) (r : Bool),
    (∀ f ∈ fs, f.name ≠ "_") → fs.map (·.offset) = (List.range' base fs.length) →
    eqCells (fs.map fun f => (T f.type).k) (xs.toList.drop base) (ys.toList.drop base) = some r → ∀ w,
    (Op.eqFields (d + 1) xs ys fs).run P w = .ok r w := by
  intro fs
  induction fs with
  | nil =>
    intro base r _ _ h w
    simp only [List.map_nil] at h
    cases hx : xs.toList.drop base <;> cases hy : ys.toList.drop base <;> rw [hx, hy] at h <;> simp [eqCells] at h
    subst h
    simp [Op.eqFields]
  | cons f fs ih =>
    intro base r hn ho h w
    have hf : f.offset = base := by
      have := congrArg (fun l => l[0]?) ho
      simpa using this
    have ho' : fs.map (·.offset) = List.range' (base + 1) fs.length := by
      simp only [List.map_cons, List.length_cons, List.range'_succ] at ho
      exact (List.cons.inj ho).2
    have hname : f.name ≠ "_" := hn f (by simp)
    cases hx : xs.toList.drop base with
    | nil => rw [hx] at h; simp [eqCells] at h
    | cons x xr =>
      cases hy : ys.toList.drop base with
      | nil => rw [hx, hy] at h; cases hk : (T f.type).k <;> simp [eqCells, hk] at h
      | cons y yr =>
        rw [hx, hy] at h
        have hxr : xs.toList.drop (base + 1) = xr := by rw [← List.drop_drop, hx]; rfl
        have hyr : ys.toList.drop (base + 1) = yr := by rw [← List.drop_drop, hy]; rfl
        have hx0 : xs.toList[f.offset]? = some x := by
          rw [hf]; have := congrArg (fun l => l[0]?) hx; simpa using this
        have hy0 : ys.toList[f.offset]? = some y := by
          rw [hf]; have := congrArg (fun l => l[0]?) hy; simpa using this
        simp only [List.map_cons] at h
        have step : ∀ (r0 r' : Bool), eqCells (fs.map fun f => (T f.type).k) xr yr = some r' → (Op.equalIn (d + 1) f.type x y).run P w = .ok r0 w →
            ∀ (dd : TypeDesc), P.underlying f.type = some dd → isAggD dd = false →
            (Op.eqFields (d + 1) xs ys (f :: fs)).run P w = .ok (r0 && r') w := by
          intro r0 r' hr' he dd hdd hns
          simp only [Op.eqFields, hname, ne_eq, not_false_eq_true, if_true, Sem.run_bind, run_part_scalar hdd hns hx0, run_part_scalar hdd hns hy0, Result.andThen_ok, he, Sem.run_ite, Sem.run_pure]
          cases r0
          · simp
          · simp only [Bool.not_true, Bool.false_eq_true, if_false, Bool.true_and]
            exact ih (base + 1) r' (fun f hf => hn f (by simp [hf])) ho' (by rw [hxr, hyr]; exact hr') w
        cases hk : (T f.type).k with
        | int j =>
          rw [hk] at h
          cases x <;> cases y <;> simp only [eqCells] at h <;> try (cases h; done)
          rename_i i a i' b
          split at h
          · rename_i hij
            obtain ⟨rfl, rfl⟩ := hij
            cases hr : eqCells (fs.map fun f => (T f.type).k) xr yr with
            | none => rw [hr] at h; cases h
            | some r' =>
              rw [hr] at h
              simp only [Option.map_some, Option.some.injEq] at h
              subst h
              exact step _ _ hr (run_equalIn_int w d f.type _ _ a b (hT.int hk)) _ (hT.int hk) rfl
          · cases h
        | bool =>
          rw [hk] at h
          cases x <;> cases y <;> simp only [eqCells] at h <;> try (cases h; done)
          rename_i a b
          cases hr : eqCells (fs.map fun f => (T f.type).k) xr yr with
          | none => rw [hr] at h; cases h
          | some r' =>
            rw [hr] at h
            simp only [Option.map_some, Option.some.injEq] at h
            subst h
            exact step _ _ hr (run_equalIn_bool' w d f.type a b (hT.bool hk)) _ (hT.bool hk) rfl
        | _ => rw [hk] at h; simp [eqCells] at h

/-- The loop over an array's cells. -/
theorem run_eqLoop (d : Nat) (e : TypeId) (j : IntKind) (he : P.underlying e = some (.int j)) (xs ys : Array Value) :
    ∀ (n base : Nat) (r : Bool), eqCells (List.replicate n (.int j)) (xs.toList.drop base) (ys.toList.drop base) = some r → ∀ w,
    (forIn (m := Sem) (List.range' base n) (none, ()) fun i _ => do
        if !(← Op.equalIn (d + 1) e (← part e xs (i * 1)) (← part e ys (i * 1))) then pure (ForInStep.done (some false, ())) else pure (ForInStep.yield (none, ())) : Sem (Option Bool × Unit)).run P w = .ok (if r then none else some false, ()) w := by
  intro n
  induction n with
  | zero =>
    intro base r h w
    simp only [List.replicate_zero] at h
    cases hx : xs.toList.drop base <;> cases hy : ys.toList.drop base <;> rw [hx, hy] at h <;> simp [eqCells] at h
    subst h
    simp
  | succ n ih =>
    intro base r h w
    cases hx : xs.toList.drop base with
    | nil => rw [hx] at h; simp [eqCells, List.replicate_succ] at h
    | cons x xr =>
      cases hy : ys.toList.drop base with
      | nil => rw [hx, hy] at h; cases x <;> simp [eqCells, List.replicate_succ] at h
      | cons y yr =>
        rw [hx, hy] at h
        have hxr : xs.toList.drop (base + 1) = xr := by rw [← List.drop_drop, hx]; rfl
        have hyr : ys.toList.drop (base + 1) = yr := by rw [← List.drop_drop, hy]; rfl
        have hx0 : xs.toList[base * 1]? = some x := by
          have := congrArg (fun l => l[0]?) hx; simpa using this
        have hy0 : ys.toList[base * 1]? = some y := by
          have := congrArg (fun l => l[0]?) hy; simpa using this
        simp only [List.replicate_succ] at h
        cases x <;> cases y <;> simp only [eqCells] at h <;> try (cases h; done)
        rename_i i a i' b
        split at h
        · rename_i hij
          obtain ⟨rfl, rfl⟩ := hij
          cases hr : eqCells (List.replicate n (.int i')) xr yr with
          | none => rw [hr] at h; cases h
          | some r' =>
            rw [hr] at h
            simp only [Option.map_some, Option.some.injEq] at h
            subst h
            have ih' := ih (base + 1) r' (by rw [hxr, hyr]; exact hr) w
            simp only [List.range'_succ, List.forIn_cons, Sem.run_bind, run_part_scalar he rfl hx0, run_part_scalar he rfl hy0, Result.andThen_ok,
              run_equalIn_int w d e _ _ a b he, Sem.run_ite, Sem.run_pure]
            cases hab : (a == b)
            · simp
            · simp only [Bool.not_true, Bool.false_eq_true, if_false, Result.andThen_ok, Bool.true_and]
              exact ih'
        · cases h

end
end Go.Abs
