import Derived.Test.YtmbipadfcbndgaaAbsC
import Derived.Laws.Entries
set_option linter.all false
namespace Go.Abs

/-! ## Operations that do not look at memory -/

def andI (j : IntKind) (a b : Int) : Int := j.wrap ((BitVec.ofInt j.bits a &&& BitVec.ofInt j.bits b).toNat : Int)
def orI (j : IntKind) (a b : Int) : Int := j.wrap ((BitVec.ofInt j.bits a ||| BitVec.ofInt j.bits b).toNat : Int)
def xorI (j : IntKind) (a b : Int) : Int := j.wrap ((BitVec.ofInt j.bits a ^^^ BitVec.ofInt j.bits b).toNat : Int)
def andNotI (j : IntKind) (a b : Int) : Int := j.wrap ((BitVec.ofInt j.bits a &&& ~~~(BitVec.ofInt j.bits b)).toNat : Int)
def shlI (j : IntKind) (a b : Int) : Int := j.wrap (a * 2 ^ (min b.toNat j.bits))
def shrI (j : IntKind) (a b : Int) : Int := a.fdiv (2 ^ (min b.toNat j.bits))

def intBin (op : BinOp) (j : IntKind) (a b : Int) (k : Value → Prop) : Prop :=
  match op with
  | .add => k (.int j (j.wrap (a + b)))
  | .sub => k (.int j (j.wrap (a - b)))
  | .mul => k (.int j (j.wrap (a * b)))
  | .quo => b ≠ 0 ∧ k (.int j (j.wrap (a.tdiv b)))
  | .rem => b ≠ 0 ∧ k (.int j (a.tmod b))
  | .and => k (.int j (andI j a b))
  | .or => k (.int j (orI j a b))
  | .xor => k (.int j (xorI j a b))
  | .andNot => k (.int j (andNotI j a b))
  | .shl => 0 ≤ b ∧ k (.int j (shlI j a b))
  | .shr => 0 ≤ b ∧ k (.int j (shrI j a b))
  | .eql => k (.bool (a == b))
  | .neq => k (.bool (a != b))
  | .lss => k (.bool (decide (a < b)))
  | .leq => k (.bool (decide (a ≤ b)))
  | .gtr => k (.bool (decide (a > b)))
  | .geq => k (.bool (decide (a ≥ b)))

def isShift : BinOp → Bool
  | .shl => true
  | .shr => true
  | _ => false

def eqOut (op : BinOp) (r : Bool) (k : Value → Prop) : Prop :=
  match op with
  | .eql => k (.bool r)
  | .neq => k (.bool !r)
  | _ => False

def eqCells : List K → List Value → List Value → Option Bool
  | [], [], [] => some true
  | .int j :: ks, .int i a :: xs, .int i' b :: ys =>
    if i = j ∧ i' = j then (eqCells ks xs ys).map fun r => a == b && r else none
  | .bool :: ks, .bool a :: xs, .bool b :: ys => (eqCells ks xs ys).map fun r => a == b && r
  | _, _, _ => none

def eqKinds (T : Nat → TyE) (t : TypeId) : List K :=
  match (T t).sub with
  | .arr n e => List.replicate n (T e).k
  | .fields l => l.map fun f => (T f.2).k
  | _ => []

def elO {α : Type} (o : Option α) (k : α → Prop) : Prop := ∃ r, o = some r ∧ k r

def binL (T : Nat → TyE) (op : BinOp) (xt : TypeId) (x y : Value) (k : Value → Prop) : Prop :=
  match x, y with
  | .int j a, .int j' b => if isShift op = true ∨ j = j' then intBin op j a b k else False
  | .bool a, .bool b => if (T xt).k = .bool then eqOut op (a == b) k else False
  | .string a, .string b => eqOut op (a.toList == b.toList) k
  | .pointer p, .pointer none => if (T xt).k = .ptr then eqOut op p.isNone k else False
  | .slice a _ _, .slice none _ _ => if (T xt).k = .sl then eqOut op a.isNone k else False
  | .agg xs, .agg ys => if (T xt).k = .agg ∧ (T xt).eqs = true then elO (eqCells (eqKinds T xt) xs.toList ys.toList) fun r => eqOut op r k else False
  | _, _ => False

/-! ### soundness of binary operations -/

section
variable {P : Program} {T : Nat → TyE}

theorem Agrees.int (hT : Agrees P T) {t : TypeId} {j : IntKind} (h : (T t).k = .int j) : P.underlying t = some (.int j) := by
  obtain ⟨i, d, _, hd, hk, _⟩ := hT.get (t := t) (by simp [h])
  rw [hd]
  rw [h] at hk
  cases d <;> simp [K.of] at hk
  simp [hk.1]

theorem Agrees.bool (hT : Agrees P T) {t : TypeId} (h : (T t).k = .bool) : P.underlying t = some .bool := by
  obtain ⟨i, d, _, hd, hk, _⟩ := hT.get (t := t) (by simp [h])
  rw [hd]; rw [h] at hk
  cases d <;> simp [K.of] at hk
  rfl

theorem Agrees.str (hT : Agrees P T) {t : TypeId} (h : (T t).k = .str) : P.underlying t = some .string := by
  obtain ⟨i, d, _, hd, hk, _⟩ := hT.get (t := t) (by simp [h])
  rw [hd]; rw [h] at hk
  cases d <;> simp [K.of] at hk
  rfl

theorem Agrees.ptr (hT : Agrees P T) {t : TypeId} (h : (T t).k = .ptr) : ∃ e, P.underlying t = some (.pointer e) ∧ (T t).sub = .elem e := by
  obtain ⟨i, d, _, hd, hk, _⟩ := hT.get (t := t) (by simp [h])
  rw [h] at hk
  cases d <;> simp [K.of] at hk
  exact ⟨_, hd, hk.symm⟩

theorem Agrees.sl (hT : Agrees P T) {t : TypeId} (h : (T t).k = .sl) : ∃ e, P.underlying t = some (.slice e) ∧ (T t).sub = .elem e := by
  obtain ⟨i, d, _, hd, hk, _⟩ := hT.get (t := t) (by simp [h])
  rw [h] at hk
  cases d <;> simp [K.of] at hk
  exact ⟨_, hd, hk.symm⟩

theorem Agrees.agg (hT : Agrees P T) {t : TypeId} (h : (T t).k = .agg) :
    (∃ n e, P.underlying t = some (.array n e) ∧ (T t).sub = .arr n e) ∨
    (∃ fs, P.underlying t = some (.struct fs) ∧ (T t).sub = .fields (fs.toList.map fun f => (f.offset, f.type))) := by
  obtain ⟨i, d, _, hd, hk, _⟩ := hT.get (t := t) (by simp [h])
  rw [h] at hk
  cases d <;> simp [K.of] at hk
  · exact .inl ⟨_, _, hd, hk.symm⟩
  · exact .inr ⟨_, hd, hk.symm⟩

theorem Agrees.size (hT : Agrees P T) {t : TypeId} (h : (T t).k ≠ .bad) : ∃ i, P.info? t = some i ∧ i.size = (T t).size ∧ i.bytes = (T t).bytes ∧ (∃ z, i.zero = some z ∧ z.cells.toList = (T t).zero) := by
  obtain ⟨i, d, hi, _, _, hs, hb, hz, _⟩ := hT.get h
  exact ⟨i, hi, hs, hb, hz⟩

theorem run_intBin {op : BinOp} {j j' : IntKind} {a b : Int} {k : Value → Prop} (xt : TypeId) (hj : isShift op = true ∨ j = j') (h : intBin op j a b k) :
    ∃ v, k v ∧ (∀ φ, VRel φ v v) ∧ ∀ w, (binOp op xt (.int j a) (.int j' b)).run P w = .ok v w := by
  cases op <;> simp only [isShift, Bool.false_eq_true, false_or] at hj <;> simp only [intBin] at h
  case shl =>
    refine ⟨_, h.2, fun φ => .int _ _, fun w => ?_⟩
    simp [binOp, Op.shift, shlI, show ¬ b < 0 by omega]
  case shr =>
    refine ⟨_, h.2, fun φ => .int _ _, fun w => ?_⟩
    simp [binOp, Op.shift, shrI, show ¬ b < 0 by omega]
  case quo => subst hj; exact ⟨_, h.2, fun φ => .int _ _, fun w => by simp [binOp, Op.intDiv, h.1]⟩
  case rem => subst hj; exact ⟨_, h.2, fun φ => .int _ _, fun w => by simp [binOp, Op.intDiv, h.1]⟩
  all_goals first
    | (subst hj; refine ⟨_, h, fun φ => .int _ _, fun w => ?_⟩; simp [binOp, Op.intArith]; done)
    | (subst hj; refine ⟨_, h, fun φ => .bool _, fun w => ?_⟩; simp [binOp, Op.intCmp]; done)
    | (subst hj; refine ⟨_, h, fun φ => .int _ _, fun w => ?_⟩; simp [binOp]; rfl)

theorem eqOut_sound {op : BinOp} {r : Bool} {k : Value → Prop} (h : eqOut op r k) : (op = .eql ∧ k (.bool r)) ∨ (op = .neq ∧ k (.bool !r)) := by
  cases op <;> simp only [eqOut] at h
  · exact .inl ⟨rfl, h⟩
  · exact .inr ⟨rfl, h⟩


/-! ### equality of rows of cells -/

theorem getD_list {xs : Array Value} {i : Nat} (h : i < xs.size) : xs.getD i undef = xs[i] := by simp [h]

theorem eqCells_rel {φ : Emb} : ∀ (ks : List K) (xs ys xs' ys' : List Value) (r : Bool), eqCells ks xs ys = some r → xs.length = xs'.length → ys.length = ys'.length →
    (∀ (i : Nat) (x x' : Value), xs[i]? = some x → xs'[i]? = some x' → VRel φ x x') → (∀ (i : Nat) (x x' : Value), ys[i]? = some x → ys'[i]? = some x' → VRel φ x x') →
    eqCells ks xs' ys' = some r := by
  intro ks xs ys
  induction ks, xs, ys using eqCells.induct with
  | case1 =>
    intro xs' ys' r h h1 h2 _ _
    have e1 : xs' = [] := List.length_eq_zero_iff.1 (by simpa using h1.symm)
    have e2 : ys' = [] := List.length_eq_zero_iff.1 (by simpa using h2.symm)
    subst e1 e2
    exact h
  | case2 j ks i a xs i' b ys hij ih =>
    intro xs' ys' r h h1 h2 hx hy
    obtain _ | ⟨x', xs'⟩ := xs'
    · simp at h1
    obtain _ | ⟨y', ys'⟩ := ys'
    · simp at h2
    have hx0 := hx 0 _ _ rfl rfl
    have hy0 := hy 0 _ _ rfl rfl
    cases hx0
    cases hy0
    simp only [eqCells, hij, and_self, if_true] at h ⊢
    cases hr : eqCells ks xs ys with
    | none => rw [hr] at h; cases h
    | some r' =>
      rw [ih xs' ys' r' hr (by simpa using h1) (by simpa using h2) (fun i x x' h h' => hx (i + 1) x x' h h') (fun i x x' h h' => hy (i + 1) x x' h h')]
      rw [hr] at h
      exact h
  | case3 j ks i a xs i' b ys hij =>
    intro xs' ys' r h
    simp only [eqCells] at h
    rw [if_neg hij] at h
    cases h
  | case4 ks a xs b ys ih =>
    intro xs' ys' r h h1 h2 hx hy
    obtain _ | ⟨x', xs'⟩ := xs'
    · simp at h1
    obtain _ | ⟨y', ys'⟩ := ys'
    · simp at h2
    have hx0 := hx 0 _ _ rfl rfl
    have hy0 := hy 0 _ _ rfl rfl
    cases hx0
    cases hy0
    simp only [eqCells] at h ⊢
    cases hr : eqCells ks xs ys with
    | none => rw [hr] at h; cases h
    | some r' =>
      rw [ih xs' ys' r' hr (by simpa using h1) (by simpa using h2) (fun i x x' h h' => hx (i + 1) x x' h h') (fun i x x' h h' => hy (i + 1) x x' h h')]
      rw [hr] at h
      exact h
  | case5 ks xs ys h1 h2 h3 =>
    intro xs' ys' r h
    unfold eqCells at h
    split at h
    · exact absurd rfl (h1 rfl rfl)
    · exact absurd rfl (h2 _ _ _ _ _ _ _ _ rfl rfl)
    · exact absurd rfl (h3 _ _ _ _ _ rfl rfl)
    · cases h

theorem eqCells_length : ∀ (ks : List K) (xs ys : List Value) (r : Bool), eqCells ks xs ys = some r → xs.length = ks.length ∧ ys.length = ks.length := by
  intro ks xs ys
  induction ks, xs, ys using eqCells.induct with
  | case1 => intro r _; exact ⟨rfl, rfl⟩
  | case2 j ks i a xs i' b ys hij ih =>
    intro r h
    simp only [eqCells, hij, and_self, if_true] at h
    cases hr : eqCells ks xs ys with
    | none => rw [hr] at h; cases h
    | some r' => obtain ⟨h1, h2⟩ := ih r' hr; simp [h1, h2]
  | case3 j ks i a xs i' b ys hij => intro r h; simp only [eqCells] at h; rw [if_neg hij] at h; cases h
  | case4 ks a xs b ys ih =>
    intro r h
    simp only [eqCells] at h
    cases hr : eqCells ks xs ys with
    | none => rw [hr] at h; cases h
    | some r' => obtain ⟨h1, h2⟩ := ih r' hr; simp [h1, h2]
  | case5 ks xs ys h1 h2 h3 =>
    intro r h
    unfold eqCells at h
    split at h
    · exact absurd rfl (h1 rfl rfl)
    · exact absurd rfl (h2 _ _ _ _ _ _ _ _ rfl rfl)
    · exact absurd rfl (h3 _ _ _ _ _ rfl rfl)
    · cases h

end
end Go.Abs
