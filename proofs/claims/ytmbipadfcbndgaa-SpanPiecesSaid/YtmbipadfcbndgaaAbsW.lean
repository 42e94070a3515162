import Derived.Test.YtmbipadfcbndgaaAbsV
set_option linter.all false
namespace Go.Abs

/-! ## Functions -/

def argFr (args : List Value) : Fr := fun s => args.getD s undef

def resVals (T : Nat → TyE) (fr : Fr) (H : AH) : List ResultVar → (List Value → Prop) → Prop
  | [], k => k []
  | .tmp t :: r, k => resVals T fr H r fun vs => k (fr t :: vs)
  | .cell a t :: r, k =>
    match fr a with
    | .pointer p => onPtr p fun ad =>
      match (T t).k with
      | .agg => ldA H ad (T t).size fun cs => resVals T fr H r fun vs => k (.agg cs.toArray :: vs)
      | .bad => False
      | κ => elim κ (H.cell? ad) fun v => resVals T fr H r fun vs => k (v :: vs)
    | _ => False

def oneOf : List Value → Value
  | [v] => v
  | vs => .tuple vs.toArray

def bodyK (T : Nat → TyE) (res : List ResultVar) (Q : LEnd → AH → Prop) : LExit → Fr → AH → Prop := fun e fr H =>
  match e with
  | .normal => resVals T fr H res fun vs => Q (.ret (oneOf vs)) H
  | .ret => resVals T fr H res fun vs => Q (.ret (oneOf vs)) H
  | .pan v => Q (.pan v) H
  | .exit _ => False

def resOne (tmps : Array Value) : ResultVar → Sem Value
  | .tmp t => pure (tmps.getD t undef)
  | .cell a t => do loadVar t (← asAddr (tmps.getD a undef))

theorem results_eq (fn : Func) (tmps : Array Value) : results fn tmps = (do
    let vs ← fn.results.mapM (resOne tmps)
    pure (if h : vs.size = 1 then vs[0] else .tuple vs)) := by
  unfold results
  congr 1

section
variable {P : Program} {T : Nat → TyE}

theorem resVals_sound (hT : Agrees P T) {fr : Fr} {H : AH} {W w : World} {φ : Emb} {n : Nat} {a : Act} (A : ARel φ n fr a) (R : Rel W φ H w) :
    ∀ (l : List ResultVar) (k : List Value → Prop), resVals T fr H l k → ∃ vs vs', k vs ∧ LRel φ vs vs' ∧
      ((l.mapM (resOne a.tmps)).run P w) = .ok vs' w := by
  intro l
  induction l with
  | nil => intro k h; exact ⟨[], [], h, ⟨rfl, fun i x y hx => by simp at hx⟩, by simp⟩
  | cons r l ih =>
    intro k h
    have cons : ∀ (v v' : Value), VRel φ v v' → resVals T fr H l (fun vs => k (v :: vs)) →
        ((resOne a.tmps r).run P w) = .ok v' w →
        ∃ vs vs', k vs ∧ LRel φ vs vs' ∧ (((r :: l).mapM (resOne a.tmps)).run P w) = .ok vs' w := by
      intro v v' hv hk hrun
      obtain ⟨vs, vs', h1, h2, h3⟩ := ih _ hk
      refine ⟨v :: vs, v' :: vs', h1, ⟨by simp [h2.1], fun i x y hx hy => ?_⟩, ?_⟩
      · cases i with
        | zero => simp at hx hy; subst hx hy; exact hv
        | succ i => exact h2.2 i x y (by simpa using hx) (by simpa using hy)
      · rw [List.mapM_cons]
        simp only [Sem.run_bind, hrun, Result.andThen_ok, h3, Sem.run_pure]
    cases r with
    | tmp t =>
      simp only [resVals] at h
      exact cons (fr t) _ (A.tmp t) h rfl
    | cell x t =>
      simp only [resVals] at h
      split at h
      · rename_i p hp
        obtain ⟨ad, rfl, h⟩ := onPtr_some h
        have hx := A.tmp x
        rw [hp] at hx
        obtain ⟨b, B, o, rfl, hb, he⟩ := vrel_ptr hx
        split at h
        · rename_i hk
          obtain ⟨cs, hrow, h⟩ := h
          obtain ⟨cs', h1, _, h3⟩ := run_loadCells_rel (P := P) R hb hrow
          refine cons _ (.agg cs'.toArray) h1.agg h ?_
          simp only [resOne]
          rw [he]
          simp [asAddr, loadVar, hT.isAgg hk, run_sizeOf hT (t := t) (by simp [hk]), h3]
        · exact h.elim
        · rename_i hna hnb
          change elim (T t).k (H.cell? ⟨b, o, none⟩) (fun v => resVals T fr H l fun vs => k (v :: vs)) at h
          obtain ⟨v, hv, h⟩ := elim_some h
          obtain ⟨v', h1, h2⟩ := R.load hb hv
          refine cons v v' h2 h ?_
          simp only [resOne]
          rw [he]
          simp [asAddr, loadVar, hT.notAgg hnb hna, h1]
      · exact h.elim

theorem lcalls_of (hT : Agrees P T) (hm : P.follows .mixedOrders = true) {pan : Nat → Bool} {f : FuncId} {fn : Func} (hf : P.funcs[f]? = some fn) (hent : enterable P f = true)
    (A : Ann) {args : List Value} {H : AH} {Q : LEnd → AH → Prop} (hlen : args.length ≤ fn.ntmps)
    (h : wpC P T pan fn.ntmps A (fn.body.getD .skip) (argFr args) H (bodyK T fn.results.toList Q)) : LCalls P f args H Q := by
  obtain ⟨c, hb⟩ : ∃ c, fn.body = some c := by
    unfold enterable at hent
    rw [hf] at hent
    simp only [Bool.and_eq_true] at hent
    exact Option.isSome_iff_exists.1 hent.2
  rw [hb, Option.getD_some] at h
  refine ⟨hent, fun W w φ args' hl R => ?_⟩
  have hsz : args'.size = args.length := by have := hl.1; simp at this; omega
  refine calls_of_wp hf hb ?_
  have A0 : ARel φ fn.ntmps (argFr args) { tmps := args' ++ Array.replicate (fn.ntmps - args'.size) undef, defers := [] } := by
    refine ⟨rfl, by simp; omega, fun s => ?_⟩
    unfold argFr
    by_cases hs : s < args.length
    · have h1 : args.getD s undef = args[s] := by simp [List.getD_eq_getElem?_getD, List.getElem?_eq_getElem hs]
      have h2 : (args' ++ Array.replicate (fn.ntmps - args'.size) undef).getD s undef = args'[s]'(by omega) := by
        simp [Array.getD_eq_getD_getElem?, Array.getElem?_append, show s < args'.size by omega]
      rw [h1]
      simp only
      rw [h2]
      exact hl.2 s _ _ (List.getElem?_eq_getElem hs) (by simp [show s < args'.size by omega])
    · have h1 : args.getD s undef = undef := by simp [List.getD_eq_getElem?_getD, List.getElem?_eq_none (Nat.le_of_not_lt hs)]
      rw [h1]
      exact .undef _
  refine wpC_sound (W := W) (QQ := fun _ _ _ => True) hT hm trivial c (argFr args) H _ φ _ w _ trivial h A0 R ?_
  intro le e φ' fr' H' a' w' hh he hdf hA R' hq
  have ret : resVals T fr' H' fn.results.toList (fun vs => Q (.ret (oneOf vs)) H') → ARel φ' fn.ntmps fr' a' →
      a'.defers = [] ∧ ∃ v, (results fn a'.tmps).run P w' = .ok v w' ∧ (∃ le φ' H', Hist φ H φ' H' ∧ EndRel φ' le (.returned v) ∧ Rel W φ' H' w' ∧ Q le H') := by
    intro hr A'
    obtain ⟨vs, vs', hk, hlv, hrun⟩ := resVals_sound hT A' R' _ _ hr
    refine ⟨hdf, oneOf vs', ?_, ⟨.ret (oneOf vs), φ', H', hh, ?_, R', hk⟩⟩
    · rw [results_eq, Array.mapM_eq_mapM_toList]
      simp only [Sem.run_bind, Sem.run_map, hrun, Result.andThen_ok, Sem.run_pure]
      congr 1
      cases vs' with
      | nil => rfl
      | cons x xs => cases xs with
        | nil => rfl
        | cons y ys => simp [oneOf]
    · have hl' := hlv.1
      unfold oneOf
      cases vs with
      | nil =>
        have : vs' = [] := List.length_eq_zero_iff.1 (by simpa using hl'.symm)
        subst this
        exact .undef _
      | cons x xs =>
        cases vs' with
        | nil => simp at hl'
        | cons x' xs' =>
          cases xs with
          | nil =>
            have : xs' = [] := List.length_eq_zero_iff.1 (by simpa using hl'.symm)
            subst this
            exact hlv.2 0 x x' rfl rfl
          | cons y ys =>
            cases xs' with
            | nil => simp at hl'
            | cons y' ys' => exact .tup _ _ (hlv.to_arr rfl rfl).1 (hlv.to_arr rfl rfl).2
  cases le with
  | normal =>
    cases e <;> simp only [ERel] at he
    exact ret hq (hA rfl).1
  | ret =>
    cases e <;> simp only [ERel] at he
    exact ret hq (hA rfl).1
  | exit i => exact hq.elim
  | pan v =>
    cases e <;> simp only [ERel] at he
    obtain ⟨v', rfl, hv⟩ := he
    exact ⟨hdf, ⟨.pan v, φ', H', hh, ⟨v', rfl, hv⟩, R', hq⟩⟩

end

/-! ### words of the printed forms -/

def newC (H : AH) (o : AObj) (k : Nat → AH → Prop) : Prop := k H.size (H.push o)

def onRet (e : LEnd) (k : Value → Prop) (pk : Value → Prop) : Prop :=
  match e with
  | .ret v => k v
  | .pan v => pk v

def K.el : (κ : K) → Value → (κ.T → Prop) → Prop
  | .int j, v, k => elI j (some v) k
  | .bool, v, k => elB (some v) k
  | .str, v, k => elS (some v) k
  | .ptr, v, k => elP (some v) k
  | .sl, v, k => elL (some v) k
  | .agg, v, k => elA v k
  | .map, v, k => elM (some v) k
  | .any, v, k => elV (some v) k
  | .bad, _, _ => False

def noPan : Value → Prop := fun _ => False

def in1 (κ : K) (e : LEnd) (pk : Value → Prop) (k : κ.T → Prop) : Prop := onRet e (fun v => κ.el v k) pk
def in2 (κ μ : K) (e : LEnd) (pk : Value → Prop) (k : κ.T → μ.T → Prop) : Prop := onRet e (fun v => ret2 v fun a b => κ.el a fun x => μ.el b fun y => k x y) pk
def in3 (κ μ ν : K) (e : LEnd) (pk : Value → Prop) (k : κ.T → μ.T → ν.T → Prop) : Prop :=
  onRet e (fun v => ret3 v fun a b c => κ.el a fun x => μ.el b fun y => ν.el c fun z => k x y z) pk
def in0 (e : LEnd) (pk : Value → Prop) (k : Prop) : Prop := onRet e (fun _ => k) pk

def out1 (κ : K) (e : LEnd) (pk : Value → Prop) (k : κ.T → Prop) : Prop :=
  match e with
  | .ret v => κ.out v k
  | .pan v => pk v
def out2 (κ μ : K) (e : LEnd) (pk : Value → Prop) (k : κ.T → μ.T → Prop) : Prop :=
  match e with
  | .ret v => match v with
    | .tuple vs => match vs.toList with
      | [a, b] => κ.out a fun x => μ.out b fun y => k x y
      | _ => False
    | _ => False
  | .pan v => pk v
def out3 (κ μ ν : K) (e : LEnd) (pk : Value → Prop) (k : κ.T → μ.T → ν.T → Prop) : Prop :=
  match e with
  | .ret v => match v with
    | .tuple vs => match vs.toList with
      | [a, b, c] => κ.out a fun x => μ.out b fun y => ν.out c fun z => k x y z
      | _ => False
    | _ => False
  | .pan v => pk v
def out0 (e : LEnd) (pk : Value → Prop) (k : Prop) : Prop :=
  match e with
  | .ret _ => k
  | .pan v => pk v

theorem K.out_el {κ : K} (hκ : κ ≠ .bad) {v : Value} {k : κ.T → Prop} (h : κ.out v k) : κ.el v k := by
  cases κ <;> simp only [K.out] at h
  case int j =>
    cases v <;> simp only at h
    split at h
    · rename_i he; subst he; exact ⟨_, rfl, h⟩
    · exact h.elim
  case any => exact ⟨_, rfl, h⟩
  case bad => exact absurd rfl hκ
  case bool => cases v <;> simp only at h; exact ⟨_, rfl, h⟩
  case str => cases v <;> simp only at h; exact ⟨_, rfl, h⟩
  case ptr => cases v <;> simp only at h; exact ⟨_, rfl, h⟩
  case sl => cases v <;> simp only at h; exact ⟨_, rfl, h⟩
  case agg => cases v <;> simp only at h; exact ⟨_, rfl, h⟩
  case map => cases v <;> simp only at h; exact ⟨_, rfl, h⟩

theorem K.el_mono {κ : K} {v : Value} {k k' : κ.T → Prop} (hk : ∀ x, k x → k' x) (h : κ.el v k) : κ.el v k' := by
  cases κ <;> simp only [K.el, elI, elB, elS, elP, elL, elA, elM, elV] at h ⊢
  all_goals (obtain ⟨x, h1, h2⟩ := h; exact ⟨x, h1, hk _ h2⟩)

theorem out1_in {κ : K} (h1 : κ ≠ .bad) {e : LEnd} {pk : Value → Prop} {k : κ.T → Prop} (h : out1 κ e pk k) : in1 κ e pk k := by
  cases e
  · exact K.out_el h1 h
  · exact h

theorem out0_in {e : LEnd} {pk : Value → Prop} {k : Prop} (h : out0 e pk k) : in0 e pk k := by
  cases e <;> exact h

theorem out2_in {κ μ : K} (h1 : κ ≠ .bad) (h2 : μ ≠ .bad) {e : LEnd} {pk : Value → Prop} {k : κ.T → μ.T → Prop} (h : out2 κ μ e pk k) : in2 κ μ e pk k := by
  cases e
  · rename_i v
    simp only [out2] at h
    split at h
    · rename_i vs
      split at h
      · rename_i a b hvs
        refine ⟨a, b, ?_, K.el_mono (fun x hx => K.out_el h2 hx) (K.out_el h1 h)⟩
        have : vs = #[a, b] := by apply Array.ext'; simpa using hvs
        rw [this]
      · exact h.elim
    · exact h.elim
  · exact h

theorem out3_in {κ μ ν : K} (h1 : κ ≠ .bad) (h2 : μ ≠ .bad) (h3 : ν ≠ .bad) {e : LEnd} {pk : Value → Prop} {k : κ.T → μ.T → ν.T → Prop} (h : out3 κ μ ν e pk k) : in3 κ μ ν e pk k := by
  cases e
  · rename_i v
    simp only [out3] at h
    split at h
    · rename_i vs
      split at h
      · rename_i a b c hvs
        refine ⟨a, b, c, ?_, K.el_mono (fun x hx => K.el_mono (fun y hy => K.out_el h3 hy) (K.out_el h2 hx)) (K.out_el h1 h)⟩
        have : vs = #[a, b, c] := by apply Array.ext'; simpa using hvs
        rw [this]
      · exact h.elim
    · exact h.elim
  · exact h

def badT : TyE := { k := .bad, sub := .none, size := 0, bytes := 0, zero := [], eqs := false }

def tyLook (l : List (Nat × TyE)) (t : Nat) : TyE :=
  match l with
  | [] => badT
  | (a, e) :: r => cond (Nat.beq a t) e (tyLook r t)

def K.isBad : K → Bool
  | .bad => true
  | _ => false

theorem agrees_of {P : Program} {l : List (Nat × TyE)} (h : l.map (fun p => cond p.2.k.isBad (some p.2) (tyOf P p.1)) = l.map (fun p => some p.2)) : Agrees P (tyLook l) := by
  intro t
  induction l with
  | nil => intro h; exact absurd rfl h
  | cons p l ih =>
    obtain ⟨a, e⟩ := p
    simp only [List.map_cons, List.cons.injEq] at h
    intro ht
    simp only [tyLook] at ht ⊢
    cases hb : Nat.beq a t with
    | true =>
      have : a = t := Nat.eq_of_beq_eq_true hb
      subst this
      have h1 := h.1
      rw [hb] at ht
      simp only [cond_true] at ht
      have hk : e.k.isBad = false := by cases hk : e.k <;> simp_all [K.isBad]
      rw [hk] at h1
      exact h1
    | false =>
      rw [hb] at ht
      exact ih h.2 ht

end Go.Abs
