/- Lemmas for the law: an abstract machine, and what the functions do on it. No condition. -/
import Derived.Test.YtdcbkjgoaknmkaaGreatFT2
import Derived.Laws.Entries
set_option linter.all false
open List renaming getElem?_eq_getElem → qlK,replicate → qlN,getElem?_eq_some_iff → qlT,getElem?_map → qlW,mem_of_getElem? → qlX,getElem?_range → qmh,length_eq_zero_iff → qmk,mem_map → qml,all_eq_true → qmu,map_cons → qmv
open Nat renaming le_refl → qlS
open Bool renaming false_eq_true → qlU,and_eq_true → qm4
open Go.Op renaming operands → qmg
open Option renaming map_some → qmi
open Go.Result renaming andThen_ok → qmF
open BitVec renaming ofInt → qmH
open Array renaming getElem?_toList → qmN,getElem?_eq_none → qm7
open Option.some renaming injEq → qmU
open Go.Sem renaming run_bind → qmW
namespace Go.Abs
def andI (j : IntKind) (a b : Int) : Int := j.wrap ((qmH j.bits a &&& qmH j.bits b).toNat : Int)
def orI (j : IntKind) (a b : Int) : Int := j.wrap ((qmH j.bits a ||| qmH j.bits b).toNat : Int)
def xorI (j : IntKind) (a b : Int) : Int := j.wrap ((qmH j.bits a ^^^ qmH j.bits b).toNat : Int)
def andNotI (j : IntKind) (a b : Int) : Int := j.wrap ((qmH j.bits a &&& ~~~(qmH j.bits b)).toNat : Int)
def shlI (j : IntKind) (a b : Int) : Int := j.wrap (a * 2 ^ (min b.toNat j.bits))
def shrI (j : IntKind) (a b : Int) : Int := a.fdiv (2 ^ (min b.toNat j.bits))
def intBin (op : BinOp) (j : IntKind) (a b : Int) (k : Value → Prop) : Prop :=
 match op with
 | .add => k (.int j (j.wrap (a + b)))
 | .sub => k (.int j (j.wrap (a - b)))
 | .mul => k (.int j (j.wrap (a * b)))
 | .quo => b ≠ 0 ∧ k (.int j (j.wrap (a.tdiv b)))
 | .rem => b ≠ 0 ∧ k (.int j (a.tmod b))
 | .and => k (.int j (andI j a b))
 | .or => k (.int j (orI j a b))
 | .xor => k (.int j (xorI j a b))
 | .andNot => k (.int j (andNotI j a b))
 | .shl => 0 ≤ b ∧ k (.int j (shlI j a b))
 | .shr => 0 ≤ b ∧ k (.int j (shrI j a b))
 | .eql => k (.bool (a == b))
 | .neq => k (.bool (a != b))
 | .lss => k (.bool (decide (a < b)))
 | .leq => k (.bool (decide (a ≤ b)))
 | .gtr => k (.bool (decide (a > b)))
 | .geq => k (.bool (decide (a ≥ b)))
def isShift : BinOp → Bool
 | .shl => true
 | .shr => true
 | _ => false
def eqOut (op : BinOp) (r : Bool) (k : Value → Prop) : Prop :=
 match op with
 | .eql => k (.bool r)
 | .neq => k (.bool !r)
 | _ => False
def eqCells : List K → List Value → List Value → Option Bool
 | [],[],[] => some true
 | .int j :: ks,.int i a :: xs,.int i' b :: ys =>
  if i = j ∧ i' = j then (eqCells ks xs ys).map fun r => a == b && r else none
 | .bool :: ks,.bool a :: xs,.bool b :: ys => (eqCells ks xs ys).map fun r => a == b && r
 | _,_,_ => none
def eqKinds (T : Nat → TyE) (t : TypeId) : List K :=
 match (T t).sub with
 | .arr n e => qlN n (T e).k
 | .fields l => l.map fun f => (T f.2).k
 | _ => []
def elO {α : Type} (o : Option α) (k : α → Prop) : Prop := ∃ r,o = some r ∧ k r
def binL (T : Nat → TyE) (op : BinOp) (xt : TypeId) (x y : Value) (k : Value → Prop) : Prop :=
 match x,y with
 | .int j a,.int j' b => if isShift op = true ∨ j = j' then intBin op j a b k else False
 | .bool a,.bool b => if (T xt).k = .bool then eqOut op (a == b) k else False
 | .string a,.string b => eqOut op (a.toList == b.toList) k
 | .pointer p,.pointer none => if (T xt).k = .ptr then eqOut op p.isNone k else False
 | .slice a _ _,.slice none _ _ => if (T xt).k = .sl then eqOut op a.isNone k else False
 | .agg xs,.agg ys => if (T xt).k = .agg ∧ (T xt).eqs = true then elO (eqCells (eqKinds T xt) xs.toList ys.toList) fun r => eqOut op r k else False
 | _,_ => False
section
variable {P : Program} {T : Nat → TyE}
theorem qW.int (hT : qW P T) {t : TypeId} {j : IntKind} (h : (T t).k = .int j) : P.underlying t = some (.int j) := by
 obtain ⟨i,d,_,hd,hk,_⟩ := hT.get (t := t) (by simp [h])
 rw [hd]
 rw [h] at hk
 cases d <;> simp [K.of] at hk
 simp [hk.1]
theorem qW.bool (hT : qW P T) {t : TypeId} (h : (T t).k = .bool) : P.underlying t = some .bool := by
 obtain ⟨i,d,_,hd,hk,_⟩ := hT.get (t := t) (by simp [h])
 rw [hd]; rw [h] at hk
 cases d <;> simp [K.of] at hk
 rfl
theorem qW.str (hT : qW P T) {t : TypeId} (h : (T t).k = .str) : P.underlying t = some .string := by
 obtain ⟨i,d,_,hd,hk,_⟩ := hT.get (t := t) (by simp [h])
 rw [hd]; rw [h] at hk
 cases d <;> simp [K.of] at hk
 rfl
theorem qW.ptr (hT : qW P T) {t : TypeId} (h : (T t).k = .ptr) : ∃ e,P.underlying t = some (.pointer e) ∧ (T t).sub = .elem e := by
 obtain ⟨i,d,_,hd,hk,_⟩ := hT.get (t := t) (by simp [h])
 rw [h] at hk
 cases d <;> simp [K.of] at hk
 exact ⟨_,hd,hk.symm⟩
theorem qW.sl (hT : qW P T) {t : TypeId} (h : (T t).k = .sl) : ∃ e,P.underlying t = some (.slice e) ∧ (T t).sub = .elem e := by
 obtain ⟨i,d,_,hd,hk,_⟩ := hT.get (t := t) (by simp [h])
 rw [h] at hk
 cases d <;> simp [K.of] at hk
 exact ⟨_,hd,hk.symm⟩
theorem qW.agg (hT : qW P T) {t : TypeId} (h : (T t).k = .agg) :
  (∃ n e,P.underlying t = some (.array n e) ∧ (T t).sub = .arr n e) ∨
  (∃ fs,P.underlying t = some (.struct fs) ∧ (T t).sub = .fields (fs.toList.map fun f => (f.offset,f.type))) := by
 obtain ⟨i,d,_,hd,hk,_⟩ := hT.get (t := t) (by simp [h])
 rw [h] at hk
 cases d <;> simp [K.of] at hk
 ·exact .inl ⟨_,_,hd,hk.symm⟩
 ·exact .inr ⟨_,hd,hk.symm⟩
theorem qW.size (hT : qW P T) {t : TypeId} (h : (T t).k ≠ .bad) : ∃ i,P.info? t = some i ∧ i.size = (T t).size ∧ i.bytes = (T t).bytes ∧ (∃ z,i.zero = some z ∧ z.cells.toList = (T t).zero) := by
 obtain ⟨i,d,hi,_,_,hs,hb,hz,_⟩ := hT.get h
 exact ⟨i,hi,hs,hb,hz⟩
theorem qjw {op : BinOp} {j j' : IntKind} {a b : Int} {k : Value → Prop} (xt : TypeId) (hj : isShift op = true ∨ j = j') (h : intBin op j a b k) :
  ∃ v,k v ∧ (∀ φ,VRel φ v v) ∧ ∀ w,(binOp op xt (.int j a) (.int j' b)).run P w = .ok v w := by
 cases op <;> simp only [isShift,qlU,false_or] at hj <;> simp only [intBin] at h
 case shl =>
  refine ⟨_,h.2,fun φ => .int _ _,fun w => ?_⟩
  simp [binOp,Op.shift,shlI,show ¬ b < 0 by omega]
 case shr =>
  refine ⟨_,h.2,fun φ => .int _ _,fun w => ?_⟩
  simp [binOp,Op.shift,shrI,show ¬ b < 0 by omega]
 case quo => subst hj; exact ⟨_,h.2,fun φ => .int _ _,fun w => by simp [binOp,Op.intDiv,h.1]⟩
 case rem => subst hj; exact ⟨_,h.2,fun φ => .int _ _,fun w => by simp [binOp,Op.intDiv,h.1]⟩
 all_goals first
  | (subst hj; refine ⟨_,h,fun φ => .int _ _,fun w => ?_⟩; simp [binOp,Op.intArith]; done)
  | (subst hj; refine ⟨_,h,fun φ => .bool _,fun w => ?_⟩; simp [binOp,Op.intCmp]; done)
  | (subst hj; refine ⟨_,h,fun φ => .int _ _,fun w => ?_⟩; simp [binOp]; rfl)
theorem qdv {op : BinOp} {r : Bool} {k : Value → Prop} (h : eqOut op r k) : (op = .eql ∧ k (.bool r)) ∨ (op = .neq ∧ k (.bool !r)) := by
 cases op <;> simp only [eqOut] at h
 ·exact .inl ⟨rfl,h⟩
 ·exact .inr ⟨rfl,h⟩
theorem qiY {φ : Emb} : ∀ (ks : List K) (xs ys xs' ys' : List Value) (r : Bool),eqCells ks xs ys = some r → xs.length = xs'.length → ys.length = ys'.length →
  (∀ (i : Nat) (x x' : Value),xs[i]? = some x → xs'[i]? = some x' → VRel φ x x') → (∀ (i : Nat) (x x' : Value),ys[i]? = some x → ys'[i]? = some x' → VRel φ x x') →
  eqCells ks xs' ys' = some r := by
 intro ks xs ys
 induction ks,xs,ys using eqCells.induct with
 | case1 =>
  intro xs' ys' r h h1 h2 _ _
  have e1 : xs' = [] := List.length_eq_zero_iff.1 (by simpa using h1.symm)
  have e2 : ys' = [] := List.length_eq_zero_iff.1 (by simpa using h2.symm)
  subst e1 e2
  exact h
 | case2 j ks i a xs i' b ys hij ih =>
  intro xs' ys' r h h1 h2 hx hy
  obtain _ | ⟨x',xs'⟩ := xs'
  ·simp at h1
  obtain _ | ⟨y',ys'⟩ := ys'
  ·simp at h2
  have hx0 := hx 0 _ _ rfl rfl
  have hy0 := hy 0 _ _ rfl rfl
  cases hx0
  cases hy0
  simp only [eqCells,hij,and_self,if_true] at h ⊢
  cases hr : eqCells ks xs ys with
  | none => rw [hr] at h; cases h
  | some r' =>
   rw [ih xs' ys' r' hr (by simpa using h1) (by simpa using h2) (fun i x x' h h' => hx (i + 1) x x' h h') (fun i x x' h h' => hy (i + 1) x x' h h')]
   rw [hr] at h
   exact h
 | case3 j ks i a xs i' b ys hij =>
  intro xs' ys' r h
  simp only [eqCells] at h
  rw [if_neg hij] at h
  cases h
 | case4 ks a xs b ys ih =>
  intro xs' ys' r h h1 h2 hx hy
  obtain _ | ⟨x',xs'⟩ := xs'
  ·simp at h1
  obtain _ | ⟨y',ys'⟩ := ys'
  ·simp at h2
  have hx0 := hx 0 _ _ rfl rfl
  have hy0 := hy 0 _ _ rfl rfl
  cases hx0
  cases hy0
  simp only [eqCells] at h ⊢
  cases hr : eqCells ks xs ys with
  | none => rw [hr] at h; cases h
  | some r' =>
   rw [ih xs' ys' r' hr (by simpa using h1) (by simpa using h2) (fun i x x' h h' => hx (i + 1) x x' h h') (fun i x x' h h' => hy (i + 1) x x' h h')]
   rw [hr] at h
   exact h
 | case5 ks xs ys h1 h2 h3 =>
  intro xs' ys' r h
  unfold eqCells at h
  split at h
  ·exact absurd rfl (h1 rfl rfl)
  ·exact absurd rfl (h2 _ _ _ _ _ _ _ _ rfl rfl)
  ·exact absurd rfl (h3 _ _ _ _ _ rfl rfl)
  ·cases h
end
section
variable {P : Program} {T : Nat → TyE}
def isAggD : TypeDesc → Bool
 | .struct _ => true
 | .array _ _ => true
 | _ => false
theorem qde {t : TypeId} {d : TypeDesc} (hd : P.underlying t = some d) (hs : isAggD d = false)
  {cs : Array Value} {off : Nat} {v : Value} (h : cs.toList[off]? = some v) (w : World) : (part t cs off).run P w = .ok v w := by
 have h' : cs[off]? = some v := by simpa using h
 cases d <;> simp_all [part,isAgg,run_underlying hd,isAggD]
theorem qks {t : TypeId} (h : eqFlat P t = true) : P.eqGuardType P.depth t = false := by
 unfold eqFlat at h
 split at h <;> simp_all
theorem qh3 (hT : qW P T) (d : Nat) (xs ys : Array Value) : ∀ (fs : List Field) (base : Nat) (r : Bool),
  (∀ f ∈ fs, f.name ≠ "_") → fs.map (·.offset) = (List.range' base fs.length) →
  eqCells (fs.map fun f => (T f.type).k) (xs.toList.drop base) (ys.toList.drop base) = some r → ∀ w,
  (Op.eqFields (d + 1) xs ys fs).run P w = .ok r w := by
 intro fs
 induction fs with
 | nil =>
  intro base r _ _ h w
  simp only [List.map_nil] at h
  cases hx : xs.toList.drop base <;> cases hy : ys.toList.drop base <;> rw [hx,hy] at h <;> simp [eqCells] at h
  subst h
  simp [Op.eqFields]
 | cons f fs ih =>
  intro base r hn ho h w
  have hf : f.offset = base := by
   have := congrArg (fun l => l[0]?) ho
   simpa using this
  have ho' : fs.map (·.offset) = List.range' (base + 1) fs.length := by
   simp only [qmv,List.length_cons,List.range'_succ] at ho
   exact (List.cons.inj ho).2
  have hname : f.name ≠ "_" := hn f (by simp)
  cases hx : xs.toList.drop base with
  | nil => rw [hx] at h; simp [eqCells] at h
  | cons x xr =>
   cases hy : ys.toList.drop base with
   | nil => rw [hx,hy] at h; cases hk : (T f.type).k <;> simp [eqCells,hk] at h
   | cons y yr =>
    rw [hx,hy] at h
    have hxr : xs.toList.drop (base + 1) = xr := by rw [← List.drop_drop,hx]; rfl
    have hyr : ys.toList.drop (base + 1) = yr := by rw [← List.drop_drop,hy]; rfl
    have hx0 : xs.toList[f.offset]? = some x := by
     rw [hf]; have := congrArg (fun l => l[0]?) hx; simpa using this
    have hy0 : ys.toList[f.offset]? = some y := by
     rw [hf]; have := congrArg (fun l => l[0]?) hy; simpa using this
    simp only [qmv] at h
    have step : ∀ (r0 r' : Bool),eqCells (fs.map fun f => (T f.type).k) xr yr = some r' → (Op.equalIn (d + 1) f.type x y).run P w = .ok r0 w →
      ∀ (dd : TypeDesc),P.underlying f.type = some dd → isAggD dd = false →
      (Op.eqFields (d + 1) xs ys (f :: fs)).run P w = .ok (r0 && r') w := by
     intro r0 r' hr' he dd hdd hns
     simp only [Op.eqFields,hname,ne_eq,not_false_eq_true,if_true,qmW,qde hdd hns hx0,qde hdd hns hy0,qmF,he,Sem.run_ite,Sem.run_pure]
     cases r0
     ·simp
     ·simp only [Bool.not_true,qlU,if_false,Bool.true_and]
      exact ih (base + 1) r' (fun f hf => hn f (by simp [hf])) ho' (by rw [hxr,hyr]; exact hr') w
    cases hk : (T f.type).k with
    | int j =>
     rw [hk] at h
     cases x <;> cases y <;> simp only [eqCells] at h <;> try (cases h; done)
     rename_i i a i' b
     split at h
     ·rename_i hij
      obtain ⟨rfl,rfl⟩ := hij
      cases hr : eqCells (fs.map fun f => (T f.type).k) xr yr with
      | none => rw [hr] at h; cases h
      | some r' =>
       rw [hr] at h
       simp only [qmi,qmU] at h
       subst h
       exact step _ _ hr (run_equalIn_int w d f.type _ _ a b (hT.int hk)) _ (hT.int hk) rfl
     ·cases h
    | bool =>
     rw [hk] at h
     cases x <;> cases y <;> simp only [eqCells] at h <;> try (cases h; done)
     rename_i a b
     cases hr : eqCells (fs.map fun f => (T f.type).k) xr yr with
     | none => rw [hr] at h; cases h
     | some r' =>
      rw [hr] at h
      simp only [qmi,qmU] at h
      subst h
      exact step _ _ hr (run_equalIn_bool' w d f.type a b (hT.bool hk)) _ (hT.bool hk) rfl
    | _ => rw [hk] at h; simp [eqCells] at h
theorem qjX (d : Nat) (e : TypeId) (j : IntKind) (he : P.underlying e = some (.int j)) (xs ys : Array Value) :
  ∀ (n base : Nat) (r : Bool),eqCells (qlN n (.int j)) (xs.toList.drop base) (ys.toList.drop base) = some r → ∀ w,
  (forIn (m := Sem) (List.range' base n) (none,()) fun i _ => do
    if !(← Op.equalIn (d + 1) e (← part e xs (i * 1)) (← part e ys (i * 1))) then pure (ForInStep.done (some false,())) else pure (ForInStep.yield (none,())) : Sem (Option Bool × Unit)).run P w = .ok (if r then none else some false,()) w := by
 intro n
 induction n with
 | zero =>
  intro base r h w
  simp only [List.replicate_zero] at h
  cases hx : xs.toList.drop base <;> cases hy : ys.toList.drop base <;> rw [hx,hy] at h <;> simp [eqCells] at h
  subst h
  simp
 | succ n ih =>
  intro base r h w
  cases hx : xs.toList.drop base with
  | nil => rw [hx] at h; simp [eqCells,List.replicate_succ] at h
  | cons x xr =>
   cases hy : ys.toList.drop base with
   | nil => rw [hx,hy] at h; cases x <;> simp [eqCells,List.replicate_succ] at h
   | cons y yr =>
    rw [hx,hy] at h
    have hxr : xs.toList.drop (base + 1) = xr := by rw [← List.drop_drop,hx]; rfl
    have hyr : ys.toList.drop (base + 1) = yr := by rw [← List.drop_drop,hy]; rfl
    have hx0 : xs.toList[base * 1]? = some x := by
     have := congrArg (fun l => l[0]?) hx; simpa using this
    have hy0 : ys.toList[base * 1]? = some y := by
     have := congrArg (fun l => l[0]?) hy; simpa using this
    simp only [List.replicate_succ] at h
    cases x <;> cases y <;> simp only [eqCells] at h <;> try (cases h; done)
    rename_i i a i' b
    split at h
    ·rename_i hij
     obtain ⟨rfl,rfl⟩ := hij
     cases hr : eqCells (qlN n (.int i')) xr yr with
     | none => rw [hr] at h; cases h
     | some r' =>
      rw [hr] at h
      simp only [qmi,qmU] at h
      subst h
      have ih' := ih (base + 1) r' (by rw [hxr,hyr]; exact hr) w
      simp only [List.range'_succ,List.forIn_cons,qmW,qde he rfl hx0,qde he rfl hy0,qmF,
       run_equalIn_int w d e _ _ a b he,Sem.run_ite,Sem.run_pure]
      cases hab : (a == b)
      ·simp
      ·simp only [Bool.not_true,qlU,if_false,qmF,Bool.true_and]
       exact ih'
    ·cases h
end
section
variable {P : Program} {T : Nat → TyE}
theorem qfg {t e : TypeId} {n : Nat} {j : IntKind} (ht : P.underlying t = some (.array n e)) (he : P.underlying e = some (.int j)) (hs : P.cellsOf e = 1)
  {xs ys : Array Value} {r : Bool} (h : eqCells (qlN n (.int j)) xs.toList ys.toList = some r) (d : Nat) (w : World) :
  (Op.equalIn (d + 2) t (.agg xs) (.agg ys)).run P w = .ok r w := by
 have hsz : ∀ w,(sizeOf e).run P w = .ok 1 w := by
  intro w
  unfold Program.cellsOf at hs
  cases hi : P.info? e with
  | none => rw [hi] at hs; simp at hs
  | some i => rw [hi] at hs; simp at hs; simp [sizeOf,typeInfo,hi,hs]
 have hl := qjX (P := P) d e j he xs ys n 0 r (by simpa using h) w
 obtain ⟨D,hD⟩ : ∃ D,D = d + 1 := ⟨_,rfl⟩
 rw [← hD] at hl
 show (Op.equalIn (d + 1 + 1) t (.agg xs) (.agg ys)).run P w = .ok r w
 rw [← hD]
 have e1 : ∀ (f : Nat → Option Bool × Unit → Sem (ForInStep (Option Bool × Unit))),(forIn (m := Sem) [0:n] ((none : Option Bool),()) f) = forIn (List.range' 0 n) (none,()) f := by
  intro f
  simp [Std.Legacy.Range.forIn_eq_forIn_range',Std.Legacy.Range.size]
 simp only [Op.equalIn,qmW,run_underlying ht,qmF,hsz,e1]
 rw [hl]
 cases r <;> simp
theorem qg5 (hT : qW P T) {t : TypeId} (hk : (T t).k = .agg) (he : (T t).eqs = true) {xs ys : Array Value} {r : Bool}
  (h : eqCells (eqKinds T t) xs.toList ys.toList = some r) (w : World) :
  (Op.equal t (.agg xs) (.agg ys)).run P w = .ok r w ∧ P.eqGuardType P.depth t = false := by
 obtain ⟨_,_,_,_,_,_,_,_,hf,_⟩ := hT.get (t := t) (by simp [hk])
 rw [he] at hf
 refine ⟨?_,qks hf⟩
 unfold eqFlat at hf
 rcases hT.agg hk with ⟨n,e,hu,hs⟩ | ⟨fs,hu,hs⟩
 ·rw [hu] at hf
  simp only [qm4] at hf
  obtain ⟨⟨hint,hsz⟩,_⟩ := hf
  have : ∃ j,P.underlying e = some (.int j) := by
   split at hint
   ·exact ⟨_,‹_›⟩
   ·cases hint
  obtain ⟨j,hj⟩ := this
  have hkinds : eqKinds T t = qlN n (T e).k := by simp [eqKinds,hs]
  rw [hkinds] at h
  by_cases hbad : (T e).k = .bad
  ·cases n with
   | zero => exact qfg hu hj (by simpa using hsz) (by simpa using h) 9998 w
   | succ n => rw [hbad] at h; simp [eqCells,List.replicate_succ] at h
  ·have hke : (T e).k = .int j := by
    obtain ⟨_,d,_,hd,hkd,_⟩ := hT.get hbad
    rw [hj] at hd
    injection hd with hd
    subst hd
    simp [K.of] at hkd
    exact hkd.1.symm
   rw [hke] at h
   exact qfg hu hj (by simpa using hsz) h 9998 w
 ·rw [hu] at hf
  simp only [qm4,qmu,bne_iff_ne,ne_eq,beq_iff_eq,Bool.not_eq_true'] at hf
  obtain ⟨⟨⟨hn,ho⟩,hst⟩,_⟩ := hf
  have hfo : P.fieldsOf t = fs := by simp [Program.fieldsOf,hu]
  have hkinds : eqKinds T t = fs.toList.map fun f => (T f.type).k := by simp [eqKinds,hs,Function.comp_def]
  rw [hkinds] at h
  show (Op.equalIn (9999 + 1) t (.agg xs) (.agg ys)).run P w = .ok r w
  rw [run_equalIn_struct w 9999 t xs ys (by rw [hfo]; exact hu) hst,hfo]
  exact qh3 hT 9998 xs ys fs.toList 0 r (fun f hf => (hn f hf).1) (by rw [ho]; simp [List.range_eq_range']) (by simpa using h) w
theorem qg6 {t : TypeId} (h : P.underlying t = some .bool) (a b : Bool) (w : World) : (Op.equal t (.bool a) (.bool b)).run P w = .ok (a == b) w :=
 run_equalIn_bool' w 9999 t a b h
theorem qfk (d : Nat) {t e : TypeId} (h : P.underlying t = some (.pointer e)) (p : Option Addr) (w : World) :
  (Op.equalIn (d + 1) t (.pointer p) (.pointer none)).run P w = .ok p.isNone w := by
 cases p <;> simp [Op.equalIn,run_underlying h]
theorem qfV {t e : TypeId} (h : P.underlying t = some (.pointer e)) (p : Option Addr) (w : World) : (Op.equal t (.pointer p) (.pointer none)).run P w = .ok p.isNone w :=
 qfk 9999 h p w
theorem qfD (d : Nat) {t e : TypeId} (h : P.underlying t = some (.slice e)) (a : Option Addr) (l c l' c' : Nat) (w : World) :
  (Op.equalIn (d + 1) t (.slice a l c) (.slice none l' c')).run P w = .ok a.isNone w := by
 cases a <;> simp [Op.equalIn,run_underlying h]
theorem qgh {t e : TypeId} (h : P.underlying t = some (.slice e)) (a : Option Addr) (l c l' c' : Nat) (w : World) : (Op.equal t (.slice a l c) (.slice none l' c')).run P w = .ok a.isNone w :=
 qfD 9999 h a l c l' c' w
theorem qjF (hT : qW P T) {op : BinOp} {xt : TypeId} {x y : Value} {k : Value → Prop} (h : binL T op xt x y k) :
  ∃ v,k v ∧ (∀ φ,VRel φ v v) ∧ ∀ φ x' y' (X Y : Operand),VRel φ x x' → VRel φ y y' → ∀ w,(do eqGuard op xt X Y x' y'; binOp op xt x' y').run P w = .ok v w := by
 unfold binL at h
 split at h
 ·rename_i j a j' b
  split at h
  ·rename_i hj
   obtain ⟨v,hk,hv,hr⟩ := qjw xt hj h
   refine ⟨v,hk,hv,fun φ x' y' X Y hx hy w => ?_⟩
   cases hx; cases hy
   have hg : (eqGuard op xt X Y (.int j a) (.int j' b)).run P w = .ok () w := by unfold eqGuard; cases op <;> simp
   rw [qmW,hg]
   exact hr w
  ·exact h.elim
 ·rename_i a b
  split at h
  ·rename_i hb
   rcases qdv h with ⟨rfl,hk⟩ | ⟨rfl,hk⟩ <;>
   ·refine ⟨_,hk,fun φ => .bool _,fun φ x' y' X Y hx hy w => ?_⟩
    cases hx; cases hy
    simp [eqGuard,binOp,qg6 (hT.bool hb)]
  ·exact h.elim
 ·rename_i a b
  rcases qdv h with ⟨rfl,hk⟩ | ⟨rfl,hk⟩ <;>
  ·refine ⟨_,hk,fun φ => .bool _,fun φ x' y' X Y hx hy w => ?_⟩
   cases hx; cases hy
   simp [eqGuard,binOp,Op.stringOp]
 ·rename_i p
  split at h
  ·rename_i hb
   obtain ⟨e,hu,_⟩ := hT.ptr hb
   have hr := fun (q : Option Addr) (w : World) => qfV hu q w
   rcases qdv h with ⟨rfl,hk⟩ | ⟨rfl,hk⟩ <;>
   ·refine ⟨_,hk,fun φ => .bool _,fun φ x' y' X Y hx hy w => ?_⟩
    cases hy
    cases hx <;> simp [eqGuard,binOp,hr]
  ·exact h.elim
 ·rename_i a n c n' c'
  split at h
  ·rename_i hb
   obtain ⟨e,hu,_⟩ := hT.sl hb
   have hr := fun (q : Option Addr) (l c l' c' : Nat) (w : World) => qgh hu q l c l' c' w
   rcases qdv h with ⟨rfl,hk⟩ | ⟨rfl,hk⟩ <;>
   ·refine ⟨_,hk,fun φ => .bool _,fun φ x' y' X Y hx hy w => ?_⟩
    cases hy
    cases hx <;> simp [eqGuard,binOp,hr]
  ·exact h.elim
 ·rename_i xs ys
  split at h
  ·rename_i he
   obtain ⟨r,hr,h⟩ := h
   obtain ⟨hk,he⟩ := he
   rcases qdv h with ⟨rfl,hkk⟩ | ⟨rfl,hkk⟩ <;>
   ·refine ⟨_,hkk,fun φ => .bool _,fun φ x' y' X Y hx hy w => ?_⟩
    cases hx with
    | agg _ xs' hs1 hx =>
     cases hy with
     | agg _ ys' hs2 hy =>
      have rel : ∀ (as bs : Array Value),as.size = bs.size → (∀ i,i < as.size → VRel φ (as.getD i (.tuple #[])) (bs.getD i (.tuple #[]))) →
        ∀ (i : Nat) (x x' : Value),as.toList[i]? = some x → bs.toList[i]? = some x' → VRel φ x x' := by
       intro as bs _ h i x x' h1 h2
       simp only [qmN] at h1 h2
       have hi : i < as.size := by
        rcases Nat.lt_or_ge i as.size with hh | hh
        ·exact hh
        ·simp [qm7 hh] at h1
       have := h i hi
       simpa [h1,h2] using this
      have hr' := qiY _ _ _ xs'.toList ys'.toList r hr (by simpa using hs1) (by simpa using hs2) (rel _ _ hs1 hx) (rel _ _ hs2 hy)
      obtain ⟨h1,h2⟩ := qg5 hT hk he hr' w
      simp [eqGuard,binOp,h1,h2]
  ·exact h.elim
 ·exact h.elim
end
def fieldAt? (T : Nat → TyE) (s : TypeId) (f : Nat) : Option (Nat × TypeId) :=
 match (T s).k,(T s).sub with
 | .agg,.fields l => l[f]?
 | _,_ => none
def fillC (place : Nat → Option (Nat × Nat)) (n : Nat) : List Value → List (Nat × Value) → (List Value → Prop) → Prop
 | cells,[],k => k cells
 | cells,(i,v) :: rest,k =>
  match place i with
  | none => False
  | some (off,size) =>
   if off + size ≤ n then
    match v with
    | .agg arr => arr.toList.length = size ∧ fillC place n (setMany cells off arr.toList) rest k
    | .tuple _ => False
    | v => if size = 1 then fillC place n (cells.set off v) rest k else False
   else False
def fieldsOK (T : Nat → TyE) (l : List (Nat × TypeId)) : Bool := l.all fun f => decide ((T f.2).k ≠ .bad)
def buildC (T : Nat → TyE) (t : TypeId) (parts : List (Nat × Value)) (k : Value → Prop) : Prop :=
 match (T t).k,(T t).sub with
 | .agg,.fields l =>
  if fieldsOK T l = true then
   fillC (fun i => (l[i]?).map fun f => (f.1,(T f.2).size)) (T t).zero.length (T t).zero parts fun cs => k (.agg cs.toArray)
  else False
 | .agg,.arr _ e =>
  if (T e).k ≠ .bad then fillC (fun i => some (i * (T e).size,(T e).size)) (T t).zero.length (T t).zero parts fun cs => k (.agg cs.toArray) else False
 | _,_ => False
def sliceC (s : Sl) (lo hi : Option Value) (size : Nat) (k : Value → Prop) : Prop :=
 match lo,hi with
 | none,none => k s.val
 | some (.int _ l),none => (0 ≤ l ∧ l ≤ s.n) ∧ k (.slice (s.a.map (·.add (l.toNat * size))) (s.n - l.toNat) 0)
 | none,some (.int _ h) => (0 ≤ h ∧ h ≤ s.n) ∧ k (.slice s.a h.toNat 0)
 | some (.int _ l),some (.int _ h) => (0 ≤ l ∧ l ≤ h ∧ h ≤ s.n) ∧ k (.slice (s.a.map (·.add (l.toNat * size))) (h.toNat - l.toNat) 0)
 | _,_ => False
def partC (T : Nat → TyE) (t : TypeId) (cs : List Value) (off : Nat) (k : Value → Prop) : Prop :=
 match (T t).k with
 | .agg => k (.agg ((cs.drop off).take (T t).size).toArray)
 | .bad => False
 | κ => elim κ cs[off]? k
def isPlainKind : K → Bool
 | .any => false
 | .bad => false
 | _ => true
def minMax (isMax : Bool) : Value → List Value → (Value → Prop) → Prop
 | .int j a,[],k => k (.int j a)
 | .int j a,.int _ b :: rest,k => minMax isMax (.int j (if isMax = true then (if b > a then b else a) else (if b < a then b else a))) rest k
 | _,_,_ => False
def qcq (T : Nat → TyE) (ρ : Operand → Value) (op : Op) (k : Value → Prop) : Prop :=
 match op with
 | .move x => k (ρ x)
 | .assign x => k (ρ x)
 | .pick c a b =>
  match ρ c with
  | .bool t => bcase t (k (ρ a)) (k (ρ b))
  | _ => False
 | .build t parts => buildC T t (parts.toList.map fun p => (p.1,ρ p.2)) k
 | .nilCheck x =>
  match ρ x with
  | .pointer p => onPtr p fun a => k (.pointer (some a))
  | _ => False
 | .binOp op xt x y _ => binL T op xt (ρ x) (ρ y) k
 | .unOp op _ x =>
  match op,ρ x with
  | .not,.bool b => k (.bool !b)
  | .neg,.int j n => k (.int j (j.wrap (0 - n)))
  | _,_ => False
 | .convert src dst x =>
  if (T src).k = .bad then False else
  match (T dst).k,ρ x with
  | .int j,.int _ n => k (.int j (j.wrap n))
  | .str,.string s => k (.string s)
  | _,_ => False
 | .makeInterface t x => if isPlainKind (T t).k = true then k (.iface t (ρ x)) else False
 | .makeFunc fn first captured => k (.func fn (first.map ρ) (captured.map ρ))
 | .slice t x lo hi none =>
  match (T t).k,(T t).sub,ρ x with
  | .sl,.elem e,.slice a n c => if (T e).k = .bad then False else sliceC ⟨a,n,c⟩ (lo.map ρ) (hi.map ρ) (T e).size k
  | .agg,.arr n e,.pointer p => if (T e).k = .bad then False else
   match lo,hi with
   | none,none => onPtr p fun a => k (.slice (some a) n 0)
   | _,_ => False
  | _,_,_ => False
 | .fieldAddr s x f =>
  match fieldAt? T s f,ρ x with
  | some (off,ft),.pointer p => if (T ft).k = .bad ∨ (T ft).size = 0 then False else onPtr p fun a => k (.pointer (some (a.add off)))
  | _,_ => False
 | .field s x f =>
  match fieldAt? T s f,ρ x with
  | some (off,ft),.agg cs => partC T ft cs.toList off k
  | _,_ => False
 | .indexAddr t x ix =>
  match (T t).k,(T t).sub,ρ x,ρ ix with
  | .sl,.elem e,.slice a n _,.int _ i => if (T e).k = .bad then False else (0 ≤ i ∧ i < n) ∧ onPtr a fun a => k (.pointer (some (a.add (i.toNat * (T e).size))))
  | .agg,.arr n e,.pointer p,.int _ i => if (T e).k = .bad then False else (0 ≤ i ∧ i < n) ∧ onPtr p fun a => k (.pointer (some (a.add (i.toNat * (T e).size))))
  | _,_,_,_ => False
 | .index t x ix =>
  match (T t).k,(T t).sub,ρ x,ρ ix with
  | .agg,.arr n e,.agg cs,.int _ i => (0 ≤ i ∧ i < n) ∧ partC T e cs.toList (i.toNat * (T e).size) k
  | _,_,_,_ => False
 | .extract x i =>
  match ρ x with
  | .tuple vs => if vs.size = 1 then False else match vs.toList[i]? with
   | some v => k v
   | none => False
  | _ => False
 | .call c =>
  match c.callee with
  | .builtin .len =>
   match c.argTypes.toList,c.args.toList with
   | t :: _,x :: _ =>
    match (T t).k,(T t).sub,ρ x with
    | .sl,_,.slice _ n _ => k (.int .i64 n)
    | .str,_,.string s => k (.int .i64 s.size)
    | .agg,.arr n _,_ => k (.int .i64 n)
    | _,_,_ => False
   | _,_ => False
  | .builtin .min =>
   match c.args.toList with
   | x :: rest => minMax false (ρ x) (rest.map ρ) k
   | _ => False
  | .builtin .max =>
   match c.args.toList with
   | x :: rest => minMax true (ρ x) (rest.map ρ) k
   | _ => False
  | _ => False
 | _ => False
def PureOK (P : Program) (ρ : Operand → Value) (o : Oper) (v : Value) : Prop :=
 ∀ φ (ρ' : Operand → Value),(∀ x ∈ o.op.operands,VRel φ (ρ x) (ρ' x)) → ∃ v',(∀ w,(execOp ρ' o).run P w = .ok (.value v') w) ∧ VRel φ v v'
section
variable {P : Program} {T : Nat → TyE}
theorem qdd (b o n : Nat) : (⟨b,o,none⟩ : Addr).add n = ⟨b,o + n,none⟩ := by
 unfold Addr.add
 split
 ·rename_i h; simp [h]
 ·rfl
theorem qcL {p : Option Addr} {k : Addr → Prop} (h : onPtr p k) : ∃ a,p = some a ∧ k a := by
 cases p with
 | none => exact h.elim
 | some a => exact ⟨a,rfl,h⟩
theorem qc5 {φ : Emb} {a : Addr} {v' : Value} (h : VRel φ (.pointer (some a)) v') :
  ∃ b B o,a = ⟨b,o,none⟩ ∧ φ b = some B ∧ v' = .pointer (some ⟨B.c,o,none⟩) := by
 cases h with
 | ptr o h => exact ⟨_,_,_,rfl,h,rfl⟩
theorem qbC (hT : qW P T) {t : TypeId} (h : (T t).k ≠ .bad) (w : World) : (sizeOf t).run P w = .ok (T t).size w := by
 obtain ⟨i,hi,hs,_⟩ := hT.size h
 simp [sizeOf,typeInfo,hi,hs]
theorem qc8 (hT : qW P T) {t : TypeId} (h : (T t).k ≠ .bad) : ∃ z : Value,z.cells.toList = (T t).zero ∧ ∀ w,(zeroValue t).run P w = .ok z w := by
 obtain ⟨i,hi,hs,_,z,hz,hc⟩ := hT.size h
 exact ⟨z,hc,fun w => by simp [zeroValue,typeInfo,hi,hz]⟩
def LRel (φ : Emb) (xs ys : List Value) : Prop := xs.length = ys.length ∧ ∀ (i : Nat) (x y : Value),xs[i]? = some x → ys[i]? = some y → VRel φ x y
theorem LRel.of_arr {φ : Emb} {as bs : Array Value} (h1 : as.size = bs.size) (h2 : ∀ i,i < as.size → VRel φ (as.getD i (.tuple #[])) (bs.getD i (.tuple #[]))) :
  LRel φ as.toList bs.toList := by
 refine ⟨by simpa using h1,fun i x y hx hy => ?_⟩
 simp only [qmN] at hx hy
 have hi : i < as.size := by
  rcases Nat.lt_or_ge i as.size with hh | hh
  ·exact hh
  ·simp [qm7 hh] at hx
 have := h2 i hi
 simpa [hx,hy] using this
theorem LRel.to_arr {φ : Emb} {xs ys : List Value} (h : LRel φ xs ys) {as bs : Array Value} (ha : as.toList = xs) (hb : bs.toList = ys) :
  as.size = bs.size ∧ ∀ i,i < as.size → VRel φ (as.getD i (.tuple #[])) (bs.getD i (.tuple #[])) := by
 subst ha hb
 obtain ⟨h1,h2⟩ := h
 have hs : as.size = bs.size := by simpa using h1
 refine ⟨hs,fun i hi => ?_⟩
 have hi' : i < bs.size := hs ▸ hi
 have := h2 i as[i] bs[i] (by simp [hi]) (by simp [hi'])
 simpa [hi,hi'] using this
theorem LRel.agg {φ : Emb} {xs ys : List Value} (h : LRel φ xs ys) : VRel φ (.agg xs.toArray) (.agg ys.toArray) :=
 .agg _ _ (h.to_arr rfl rfl).1 (h.to_arr rfl rfl).2
theorem LRel.set {φ : Emb} {xs ys : List Value} (h : LRel φ xs ys) {x y : Value} (hv : VRel φ x y) (i : Nat) : LRel φ (xs.set i x) (ys.set i y) := by
 refine ⟨by simp [h.1],fun j a b ha hb => ?_⟩
 by_cases hij : i = j
 ·subst hij
  rw [List.getElem?_set] at ha hb
  simp only [if_true] at ha hb
  split at ha <;> split at hb <;> simp at ha hb
  subst ha hb
  exact hv
 ·rw [List.getElem?_set_ne hij] at ha hb
  exact h.2 j a b ha hb
theorem LRel.setMany {φ : Emb} : ∀ (vs ws : List Value) (xs ys : List Value) (i : Nat),LRel φ xs ys → LRel φ vs ws → LRel φ (setMany xs i vs) (setMany ys i ws)
 | [],[],_,_,_,h,_ => h
 | [],_ :: _,_,_,_,_,h => by have := h.1; simp at this
 | _ :: _,[],_,_,_,_,h => by have := h.1; simp at this
 | v :: vs,w :: ws,xs,ys,i,h,h' => by
  have hv : VRel φ v w := h'.2 0 v w rfl rfl
  exact LRel.setMany vs ws _ _ (i + 1) (h.set hv i) ⟨by have := h'.1; simpa using this,fun j a b ha hb => h'.2 (j + 1) a b ha hb⟩
theorem LRel.refl_of {φ : Emb} {xs : List Value} (h : ∀ x ∈ xs,VRel φ x x) : LRel φ xs xs := by
 refine ⟨rfl,fun i x y hx hy => ?_⟩
 rw [hx] at hy
 injection hy with hy
 subst hy
 exact h x (qlX hx)
theorem qkf (vc : Array Value) (off : Nat) (cells : Array Value) :
  (vc.zipIdx.foldl (fun cs (x : Value × Nat) => cs.setIfInBounds (off + x.2) x.1) cells).toList = setMany cells.toList off vc.toList := by
 rw [← Array.foldl_toList]
 have hz : (vc.zipIdx).toList = vc.toList.zipIdx := by simp
 rw [hz]
 have key : ∀ (l : List Value) (n : Nat) (cells : Array Value),
   ((l.zipIdx n).foldl (fun cs (x : Value × Nat) => cs.setIfInBounds (off + x.2) x.1) cells).toList = setMany cells.toList (off + n) l := by
  intro l
  induction l with
  | nil => intro n cells; rfl
  | cons v l ih =>
   intro n cells
   simp only [List.zipIdx_cons,List.foldl_cons,setMany]
   rw [ih (n + 1)]
   simp [Nat.add_assoc]
 simpa using key vc.toList 0 cells
theorem qeF (place place' : Nat → Option (Nat × Nat)) (hp : ∀ i x,place i = some x → place' i = some x) (n : Nat) {φ : Emb} :
  ∀ (parts parts' : List (Nat × Value)) (cells : List Value) (cells' : Array Value) (k : List Value → Prop),cells.length = n → LRel φ cells cells'.toList →
   parts.length = parts'.length → (∀ (j : Nat) (p p' : Nat × Value),parts[j]? = some p → parts'[j]? = some p' → p.1 = p'.1 ∧ VRel φ p.2 p'.2) → fillC place n cells parts k →
   ∃ cs cs',k cs ∧ Instr.fill place' cells' parts' = some cs' ∧ LRel φ cs cs'.toList := by
 intro parts
 induction parts with
 | nil =>
  intro parts' cells cells' k hn hr hl _ h
  have : parts' = [] := List.length_eq_zero_iff.1 (by simpa using hl.symm)
  subst this
  exact ⟨cells,cells',h,rfl,hr⟩
 | cons p parts ih =>
  intro parts' cells cells' k hn hr hl hpp h
  obtain _ | ⟨p',parts'⟩ := parts'
  ·simp at hl
  obtain ⟨i,v⟩ := p
  obtain ⟨i',v'⟩ := p'
  obtain ⟨hi,hv⟩ := hpp 0 (i,v) (i',v') rfl rfl
  simp only at hi hv
  subst hi
  simp only [fillC] at h
  split at h
  ·exact h.elim
  ·rename_i off size hpl
   have hpl' := hp i _ hpl
   split at h
   ·rename_i hle
    have hcs : cells'.size = n := by have := hr.1; simp at this; omega
    have go : ∀ (c : List Value) (v' : Value),VRel φ v v' → v'.cells.size = size → setMany cells off c = setMany cells off c → LRel φ c v'.cells.toList →
      fillC place n (setMany cells off c) parts k →
      ∃ cs cs',k cs ∧ Instr.fill place' cells' ((i,v') :: parts') = some cs' ∧ LRel φ cs cs'.toList := by
     intro c v' _ hsz _ hcr hk
     have hst := qkf v'.cells off cells'
     obtain ⟨cs,cs',h1,h2,h3⟩ := ih parts' (setMany cells off c) (v'.cells.zipIdx.foldl (fun cs (x : Value × Nat) => cs.setIfInBounds (off + x.2) x.1) cells') k
      (by rw [qdT]; exact hn) (by rw [hst]; exact LRel.setMany _ _ _ _ _ hr hcr) (by simpa using hl)
      (fun j p p' hp hp' => hpp (j + 1) p p' hp hp') hk
     refine ⟨cs,cs',h1,?_,h3⟩
     simp only [Instr.fill,hpl',hsz]
     rw [if_neg (by simp; omega)]
     exact h2
    split at h
    ·rename_i arr
     obtain ⟨hlen,hk⟩ := h
     cases hv with
     | agg _ bs hs hb =>
      exact go arr.toList (.agg bs) (.agg _ _ hs hb) (by simp [Value.cells]; simp at hlen; omega) rfl (LRel.of_arr hs hb) hk
    ·exact h.elim
    ·rename_i h1 h2
     split at h
     ·rename_i hs1
      have hc : v'.cells = #[v'] := by
       cases hv <;> first | rfl | (exact absurd rfl (h1 _)) | (exact absurd rfl (h2 _))
      refine go [v] v' hv (by rw [hc]; simp [hs1]) rfl ?_ h
      rw [hc]
      refine ⟨rfl,fun j a b ha hb => ?_⟩
      cases j with
      | zero => simp at ha hb; subst ha hb; exact hv
      | succ j => simp at ha
     ·exact h.elim
   ·exact h.elim
end
section
variable {P : Program} {T : Nat → TyE}
theorem qW.zeros (hT : qW P T) {t : TypeId} (h : (T t).k ≠ .bad) {φ : Emb} : ∀ x ∈ (T t).zero,VRel φ x x := by
 obtain ⟨_,_,_,_,_,_,_,_,_,hz⟩ := hT.get h
 intro x hx
 exact VRel.scalarConst (List.all_eq_true.1 hz x hx)
theorem qjb (hT : qW P T) (w : World) : ∀ (fs : List Field),fieldsOK T (fs.map fun f => (f.offset,f.type)) = true →
  (fs.mapM (m := Sem) fun f => do pure (f.offset,← sizeOf f.type)).run P w = .ok (fs.map fun f => (f.offset,(T f.type).size)) w := by
 intro fs
 induction fs with
 | nil => intro _; simp
 | cons f fs ih =>
  intro h
  simp only [fieldsOK,qmv,List.all_cons,qm4,decide_eq_true_eq] at h
  have ih' := ih (by simpa [fieldsOK] using h.2)
  simp only [List.mapM_cons,qmW,qbC hT h.1,qmF,Sem.run_pure,ih',qmv]
theorem qiK (hT : qW P T) {t : TypeId} {parts : List (Nat × Value)} {k : Value → Prop} (h : buildC T t parts k) {φ : Emb} {parts' : List (Nat × Value)}
  (hl : parts.length = parts'.length) (hp : ∀ (j : Nat) (p p' : Nat × Value),parts[j]? = some p → parts'[j]? = some p' → p.1 = p'.1 ∧ VRel φ p.2 p'.2) :
  ∃ v v',k v ∧ VRel φ v v' ∧ ∀ w,(Instr.build t parts'.toArray).run P w = .ok v' w := by
 unfold buildC at h
 split at h
 ·rename_i l hk hsub
  split at h
  ·rename_i hok
   have hnb : (T t).k ≠ .bad := by simp [hk]
   obtain ⟨z,hz,hzr⟩ := qc8 hT hnb
   rcases hT.agg hk with ⟨n,e,hu,hs⟩ | ⟨fs,hu,hs⟩
   ·rw [hsub] at hs; cases hs
   ·rw [hsub] at hs
    injection hs with hs
    obtain ⟨cs,cs',h1,h2,h3⟩ := qeF (φ := φ) (fun i => (l[i]?).map fun f => (f.1,(T f.2).size)) (fun i => (fs.toList.map fun f => (f.offset,(T f.type).size))[i]?)
     (by
      intro i x hx
      subst hs
      simp only [qlW,Option.map_map] at hx ⊢
      cases hf : fs.toList[i]? with
      | none => rw [hf] at hx; simp at hx
      | some f => rw [hf] at hx; simpa using hx)
     (T t).zero.length parts parts' (T t).zero z.cells _ rfl (by rw [hz]; exact LRel.refl_of (hT.zeros hnb)) hl hp h
    refine ⟨_,.agg cs',h1,.agg _ _ (h3.to_arr rfl rfl).1 (h3.to_arr rfl rfl).2,fun w => ?_⟩
    subst hs
    have hm := qjb hT w fs.toList hok
    simp only [Instr.build,qmW,hzr,qmF,run_underlying hu]
    rw [Array.mapM_eq_mapM_toList]
    simp only [Sem.run_map,hm,qmF,qmW]
    simp only [List.getElem?_toArray,h2]
    simp
  ·exact h.elim
 ·rename_i n e hk hsub
  split at h
  ·rename_i hok
   have hnb : (T t).k ≠ .bad := by simp [hk]
   obtain ⟨z,hz,hzr⟩ := qc8 hT hnb
   rcases hT.agg hk with ⟨n',e',hu,hs⟩ | ⟨fs,hu,hs⟩
   ·rw [hsub] at hs
    injection hs with hs1 hs2
    subst hs1 hs2
    obtain ⟨cs,cs',h1,h2,h3⟩ := qeF (φ := φ) (fun i => some (i * (T e).size,(T e).size)) (fun i => some (i * (T e).size,(T e).size))
     (by intro i x hx; exact hx)
     (T t).zero.length parts parts' (T t).zero z.cells _ rfl (by rw [hz]; exact LRel.refl_of (hT.zeros hnb)) hl hp h
    refine ⟨_,.agg cs',h1,.agg _ _ (h3.to_arr rfl rfl).1 (h3.to_arr rfl rfl).2,fun w => ?_⟩
    simp only [Instr.build,qmW,hzr,qmF,run_underlying hu,qbC hT hok]
    simp only [h2]
    simp
   ·rw [hsub] at hs; cases hs
  ·exact h.elim
 ·exact h.elim
theorem qW.notAgg (hT : qW P T) {t : TypeId} (h : (T t).k ≠ .bad) (h' : (T t).k ≠ .agg) (w : World) : (isAgg t).run P w = .ok false w := by
 obtain ⟨i,d,_,hd,hk,_⟩ := hT.get h
 cases d <;> simp [K.of] at hk <;> simp_all [isAgg,run_underlying hd]
theorem qW.isAgg (hT : qW P T) {t : TypeId} (h : (T t).k = .agg) (w : World) : (isAgg t).run P w = .ok true w := by
 rcases hT.agg h with ⟨n,e,hu,_⟩ | ⟨fs,hu,_⟩ <;> simp [Go.isAgg,run_underlying hu]
theorem LRel.drop {φ : Emb} {xs ys : List Value} (h : LRel φ xs ys) (n : Nat) : LRel φ (xs.drop n) (ys.drop n) := by
 refine ⟨by simp [h.1],fun i x y hx hy => ?_⟩
 rw [List.getElem?_drop] at hx hy
 exact h.2 _ x y hx hy
theorem LRel.take {φ : Emb} {xs ys : List Value} (h : LRel φ xs ys) (n : Nat) : LRel φ (xs.take n) (ys.take n) := by
 refine ⟨by simp [h.1],fun i x y hx hy => ?_⟩
 rw [List.getElem?_take] at hx hy
 split at hx
 ·rw [if_pos ‹_›] at hy; exact h.2 _ x y hx hy
 ·cases hx
theorem qgH (hT : qW P T) {t : TypeId} {cs : List Value} {off : Nat} {k : Value → Prop} (h : partC T t cs off k) {φ : Emb} {cs' : Array Value} (hr : LRel φ cs cs'.toList) :
  ∃ v v',k v ∧ VRel φ v v' ∧ ∀ w,(part t cs' off).run P w = .ok v' w := by
 unfold partC at h
 split at h
 ·rename_i hk
  refine ⟨_,.agg (cs'.extract off (off + (T t).size)),h,?_,fun w => ?_⟩
  ·have := (hr.drop off).take (T t).size
   have e : (cs'.extract off (off + (T t).size)).toList = (cs'.toList.drop off).take (T t).size := by simp [Array.toList_extract,List.extract_eq_take_drop]
   exact .agg _ _ (this.to_arr rfl e).1 (this.to_arr rfl e).2
  ·simp [part,hT.isAgg hk,qbC hT (t := t) (by simp [hk])]
 ·exact h.elim
 ·rename_i hna hnb
  obtain ⟨x,hx,hk⟩ := qev h
  have hlt : off < cs'.toList.length := by
   rw [← hr.1]; exact (List.getElem?_eq_some_iff.1 hx).1
  have hget := qlK hlt
  refine ⟨x,_,hk,hr.2 off x _ hx hget,fun w => ?_⟩
  have hget' : cs'[off]? = some cs'.toList[off] := by rw [← qmN]; exact hget
  simp [part,hT.notAgg hnb hna,hget']
theorem qfE {isMax : Bool} : ∀ (rest : List Value) (x : Value) (k : Value → Prop),minMax isMax x rest k →
  ∃ v,k v ∧ (∀ φ,VRel φ v v) ∧ ∀ (φ : Emb) (x' : Value) (rest' : List Value),VRel φ x x' → rest.length = rest'.length → (∀ (i : Nat) (a b : Value),rest[i]? = some a → rest'[i]? = some b → VRel φ a b) →
   ∀ w,(rest'.foldlM (if isMax = true then Builtin.max2 else Builtin.min2) x').run P w = Result.ok v w := by
 intro rest
 induction rest with
 | nil =>
  intro x k h
  cases x <;> simp only [minMax] at h
  refine ⟨_,h,fun φ => .int _ _,fun φ x' rest' hx hl _ w => ?_⟩
  have : rest' = [] := List.length_eq_zero_iff.1 (by simpa using hl.symm)
  subst this
  cases hx
  simp
 | cons y rest ih =>
  intro x k h
  cases x <;> cases y <;> simp only [minMax] at h
  rename_i j a j' b
  obtain ⟨v,hk,hv,hr⟩ := ih _ k h
  refine ⟨v,hk,hv,fun φ x' rest' hx hl hp w => ?_⟩
  obtain _ | ⟨y',rest'⟩ := rest'
  ·simp at hl
  have hy := hp 0 _ _ rfl rfl
  cases hx; cases hy
  have := hr φ _ rest' (.int _ _) (by simpa using hl) (fun i a b ha hb => hp (i + 1) a b ha hb) w
  simp only [List.foldlM_cons,qmW]
  cases isMax
  ·simpa [Builtin.min2] using this
  ·simpa [Builtin.max2] using this
end
section
variable {P : Program} {T : Nat → TyE}
theorem qhT {s : Sl} {lo hi : Option Value} {size : Nat} {k : Value → Prop} (h : sliceC s lo hi size k) :
  ∃ v,k v ∧ ∀ (φ : Emb) (s' : Value) (lo' hi' : Option Value),VRel φ s.val s' → (∀ l,lo = some l → ∃ l',lo' = some l' ∧ VRel φ l l') → (lo = none → lo' = none) →
   (∀ l,hi = some l → ∃ l',hi' = some l' ∧ VRel φ l l') → (hi = none → hi' = none) →
   ∃ a n c v' r,s' = .slice a n c ∧ VRel φ v v' ∧ (∀ w,(Instr.sliceBounds true n c lo' hi' none).run P w = .ok r w) ∧
    v' = .slice (if r.2.2 = r.1 then a else a.map (·.add (r.1 * size))) (r.2.1 - r.1) (r.2.2 - r.1) := by
 have key : ∀ (l h' : Nat),l ≤ h' → h' ≤ s.n → ∀ (φ : Emb) (a : Option Addr) (n c : Nat),VRel φ s.val (.slice a n c) →
   n = s.n ∧ h' ≤ c ∧ VRel φ (.slice (s.a.map (·.add (l * size))) (h' - l) 0) (.slice (if c = l then a else a.map (·.add (l * size))) (h' - l) (c - l)) := by
  intro l h' hlh hhn φ a n c hv
  unfold Sl.val at hv
  obtain ⟨sa,sn,sk⟩ := s
  simp only at hv hhn ⊢
  cases hv with
  | sl0 =>
   obtain rfl : h' = 0 := by omega
   obtain rfl : l = 0 := by omega
   refine ⟨rfl,qlS _,?_⟩
   simp
   exact .sl0
  | @sl b B o _ _ _ hb hn hk =>
   refine ⟨rfl,by omega,?_⟩
   by_cases hcl : c = l
   ·rw [if_pos hcl]
    have : h' - l = 0 := by omega
    rw [this,hcl]
    simp only [qmi]
    exact .sle _ _ _
   ·rw [if_neg hcl]
    simp only [qmi,qdd]
    exact .sl _ _ _ _ hb (by omega) (.inl rfl)
  | sle a0 a' k' =>
   obtain rfl : h' = 0 := by omega
   obtain rfl : l = 0 := by omega
   refine ⟨rfl,by omega,?_⟩
   simp only [Nat.sub_self,Nat.zero_mul,qmi]
   split <;> exact .sle _ _ _
 have shape : ∀ (φ : Emb) (s' : Value),VRel φ s.val s' → ∃ a n c,s' = .slice a n c := by
  intro φ s' hv
  obtain ⟨sa,sn,sk⟩ := s
  unfold Sl.val at hv
  simp only at hv
  cases hv <;> exact ⟨_,_,_,rfl⟩
 have bnd : ∀ (k' : IntKind) (i : Int) (y : Nat) (code : BoundsCode) (w : World),0 ≤ i → i ≤ y → (Instr.sliceBound (.int k' i) y code).run P w = .ok i.toNat w := by
  intro k' i y code w h0 h1
  simp [Instr.sliceBound,asIntOf,h0,h1]
 unfold sliceC at h
 split at h
 ·refine ⟨_,h,fun φ s' lo' hi' hs _ hl _ hh => ?_⟩
  obtain ⟨a,n,c,rfl⟩ := shape φ s' hs
  have e1 := hl rfl
  have e2 := hh rfl
  subst e1 e2
  refine ⟨a,n,c,.slice a n c,(0,n,c),rfl,hs,fun w => by simp [Instr.sliceBounds],?_⟩
  cases a with
  | none => simp
  | some a => simp [Addr.add]
 ·rename_i l
  obtain ⟨⟨h0,h1⟩,hk⟩ := h
  refine ⟨_,hk,fun φ s' lo' hi' hs hl _ _ hh => ?_⟩
  obtain ⟨a,n,c,rfl⟩ := shape φ s' hs
  obtain ⟨l',rfl,hvl⟩ := hl _ rfl
  have e2 := hh rfl
  subst e2
  cases hvl
  obtain ⟨e,hc,hv⟩ := key l.toNat s.n (by omega) (qlS _) φ a n c hs
  subst e
  refine ⟨a,s.n,c,_,(l.toNat,s.n,c),rfl,hv,fun w => ?_,rfl⟩
  simp [Instr.sliceBounds,bnd,h0,h1]
 ·rename_i h'
  obtain ⟨⟨h0,h1⟩,hk⟩ := h
  refine ⟨_,hk,fun φ s' lo' hi' hs _ hl hh _ => ?_⟩
  obtain ⟨a,n,c,rfl⟩ := shape φ s' hs
  obtain ⟨l',rfl,hvl⟩ := hh _ rfl
  have e2 := hl rfl
  subst e2
  cases hvl
  obtain ⟨e,hc,hv⟩ := key 0 h'.toNat (by omega) (by omega) φ a n c hs
  have ha : s.a.map (·.add (0 * size)) = s.a := by cases s.a <;> simp [Addr.add]
  rw [ha] at hv
  refine ⟨a,n,c,_,(0,h'.toNat,c),rfl,hv,fun w => ?_,rfl⟩
  have : h' ≤ (c : Int) := by omega
  simp [Instr.sliceBounds,bnd,h0,this]
 ·rename_i l _ h'
  obtain ⟨⟨h0,h1,h2⟩,hk⟩ := h
  refine ⟨_,hk,fun φ s' lo' hi' hs hl _ hh _ => ?_⟩
  obtain ⟨a,n,c,rfl⟩ := shape φ s' hs
  obtain ⟨l',rfl,hvl⟩ := hl _ rfl
  obtain ⟨h'',rfl,hvh⟩ := hh _ rfl
  cases hvl
  cases hvh
  obtain ⟨e,hc,hv⟩ := key l.toNat h'.toNat (by omega) (by omega) φ a n c hs
  refine ⟨a,n,c,_,(l.toNat,h'.toNat,c),rfl,hv,fun w => ?_,rfl⟩
  have e1 : h' ≤ (c : Int) := by omega
  have e2 : l ≤ ((h'.toNat : Nat) : Int) := by omega
  have e3 : 0 ≤ h' := by omega
  have b1 := fun kk => bnd kk h' c .sliceAcap w e3 e1
  have b2 := fun kk => bnd kk l h'.toNat .sliceB w h0 e2
  simp [Instr.sliceBounds,b1,b2]
 ·exact h.elim
theorem LRel.map {φ : Emb} {ρ ρ' : Operand → Value} (l : List Operand) (h : ∀ x ∈ l,VRel φ (ρ x) (ρ' x)) : LRel φ (l.map ρ) (l.map ρ') := by
 refine ⟨by simp,fun i x y hx hy => ?_⟩
 simp only [qlW] at hx hy
 cases ho : l[i]? with
 | none => rw [ho] at hx; simp at hx
 | some o =>
  rw [ho] at hx hy
  simp at hx hy
  subst hx hy
  exact h o (qlX ho)
theorem qgQ {place : Nat → Option (Nat × Nat)} {n : Nat} {k k' : List Value → Prop} : ∀ (parts : List (Nat × Value)) (cells : List Value) (_ : Unit),(∀ x,k x → k' x) →
  fillC place n cells parts k → fillC place n cells parts k' := by
 intro parts
 induction parts with
 | nil => intro cells _ hk h; exact hk _ h
 | cons p parts ih =>
  intro cells u hk h
  obtain ⟨i,v⟩ := p
  simp only [fillC] at h ⊢
  split at h
  ·exact h.elim
  ·split at h
   ·rename_i hle
    rw [if_pos hle]
    split at h
    ·exact ⟨h.1,ih _ u hk h.2⟩
    ·exact h.elim
    ·split at h
     ·rename_i hs
      rw [if_pos hs]
      exact ih _ u hk h
     ·exact h.elim
   ·exact h.elim
theorem qlE {κ : K} {v : Option Value} {k : Value → Prop} (h : elim κ v k) : ∃ x,k x ∧ elim κ v (· = x) := by
 cases κ <;> simp only [elim,elI,elB,elS,elP,elL,elM,elV] at h
 case int j => obtain ⟨n,h,hk⟩ := h; exact ⟨_,hk,n,h,rfl⟩
 case bool => obtain ⟨n,h,hk⟩ := h; exact ⟨_,hk,n,h,rfl⟩
 case str => obtain ⟨n,h,hk⟩ := h; exact ⟨_,hk,n,h,rfl⟩
 case ptr => obtain ⟨n,h,hk⟩ := h; exact ⟨_,hk,n,h,rfl⟩
 case sl => obtain ⟨n,h,hk⟩ := h; exact ⟨_,hk,n,h,rfl⟩
 case map => obtain ⟨n,h,hk⟩ := h; exact ⟨_,hk,n,h,rfl⟩
 case any => obtain ⟨n,h,hk⟩ := h; exact ⟨_,hk,n,h,rfl⟩
theorem qhr {t : TypeId} {cs : List Value} {off : Nat} {k : Value → Prop} (h : partC T t cs off k) : ∃ x,k x ∧ partC T t cs off (· = x) := by
 unfold partC at h ⊢
 split at h
 ·exact ⟨_,h,rfl⟩
 ·exact h.elim
 ·exact qlE h
theorem qfw {place : Nat → Option (Nat × Nat)} {n : Nat} : ∀ (parts : List (Nat × Value)) (cells : List Value) (k : List Value → Prop),fillC place n cells parts k →
  ∃ cs,k cs ∧ fillC place n cells parts (· = cs) := by
 intro parts
 induction parts with
 | nil => intro cells k h; exact ⟨cells,h,rfl⟩
 | cons p parts ih =>
  intro cells k h
  obtain ⟨i,v⟩ := p
  simp only [fillC] at h ⊢
  split at h
  ·exact h.elim
  ·split at h
   ·rename_i hle
    simp only [if_pos hle]
    split at h
    ·obtain ⟨h1,h2⟩ := h
     obtain ⟨cs,hk,hc⟩ := ih _ _ h2
     exact ⟨cs,hk,h1,hc⟩
    ·exact h.elim
    ·split at h
     ·rename_i hs
      simp only [if_pos hs]
      exact ih _ _ h
     ·exact h.elim
   ·exact h.elim
theorem qjr {t : TypeId} {parts : List (Nat × Value)} {k : Value → Prop} (h : buildC T t parts k) : ∃ x,k x ∧ buildC T t parts (· = x) := by
 unfold buildC at h ⊢
 split at h
 ·split at h
  ·rename_i hok
   obtain ⟨cs,hk,hc⟩ := qfw _ _ _ h
   refine ⟨_,hk,?_⟩
   rw [if_pos hok]
   exact qgQ _ _ () (fun x hx => by rw [hx]) hc
  ·exact h.elim
 ·split at h
  ·rename_i hok
   obtain ⟨cs,hk,hc⟩ := qfw _ _ _ h
   refine ⟨_,hk,?_⟩
   rw [if_pos hok]
   exact qgQ _ _ () (fun x hx => by rw [hx]) hc
  ·exact h.elim
 ·exact h.elim
theorem qgK (hT : qW P T) {ρ : Operand → Value} {o : Oper} {k : Value → Prop} (h : qcq T ρ o.op k) : ∃ v,k v ∧ PureOK P ρ o v := by
 obtain ⟨dst,op,type,pos,after,guard⟩ := o
 simp only at h
 unfold PureOK
 simp only
 cases op with
 | move x => exact ⟨_,h,fun φ ρ' hr => ⟨_,fun w => rfl,hr x (by simp [qmg])⟩⟩
 | assign x => exact ⟨_,h,fun φ ρ' hr => ⟨_,fun w => rfl,hr x (by simp [qmg])⟩⟩
 | pick c a b =>
  simp only [qcq] at h
  split at h
  ·rename_i t ht
   cases t
   ·refine ⟨_,by simpa using h,fun φ ρ' hr => ⟨ρ' b,fun w => ?_,hr b (by simp [qmg])⟩⟩
    have hc := hr c (by simp [qmg])
    rw [ht] at hc
    generalize hx : ρ' c = x at hc
    cases hc
    simp [execOp,hx,asBool]
   ·refine ⟨_,by simpa using h,fun φ ρ' hr => ⟨ρ' a,fun w => ?_,hr a (by simp [qmg])⟩⟩
    have hc := hr c (by simp [qmg])
    rw [ht] at hc
    generalize hx : ρ' c = x at hc
    cases hc
    simp [execOp,hx,asBool]
  ·exact h.elim
 | build t parts =>
  simp only [qcq] at h
  obtain ⟨v,hk,hb⟩ := qjr h
  refine ⟨v,hk,fun φ ρ' hr => ?_⟩
  obtain ⟨v0,v',rfl,h2,h1⟩ := qiK (φ := φ) hT hb (parts' := parts.toList.map fun p => (p.1,ρ' p.2)) (by simp) (by
   intro j p p' hp hp'
   simp only [qlW] at hp hp'
   cases hq : parts.toList[j]? with
   | none => rw [hq] at hp; simp at hp
   | some q =>
    rw [hq] at hp hp'
    simp at hp hp'
    subst hp hp'
    refine ⟨rfl,hr q.2 ?_⟩
    simp only [qmg,List.mem_toArray,qml]
    exact ⟨q,qlX hq,rfl⟩)
  have e : (parts.toList.map fun p => (p.1,ρ' p.2)).toArray = parts.map fun p => (p.1,ρ' p.2) := by
   apply Array.ext'; simp
  rw [e] at h1
  exact ⟨v',fun w => by simp [execOp,h1 w],h2⟩
 | nilCheck x =>
  simp only [qcq] at h
  split at h
  ·rename_i p hp
   obtain ⟨a,rfl,hk⟩ := qcL h
   refine ⟨_,hk,fun φ ρ' hr => ?_⟩
   have hx := hr x (by simp [qmg])
   rw [hp] at hx
   obtain ⟨b,B,o,rfl,hb,he⟩ := qc5 hx
   exact ⟨_,fun w => by simp [execOp,he],.ptr o hb⟩
  ·exact h.elim
 | binOp op xt x y yt =>
  simp only [qcq] at h
  obtain ⟨v,hk,hv,hr0⟩ := qjF hT h
  refine ⟨v,hk,fun φ ρ' hr => ⟨v,fun w => ?_,hv φ⟩⟩
  have := hr0 φ _ _ x y (hr x (by simp [qmg])) (hr y (by simp [qmg])) w
  simp only [execOp,qmW,Sem.run_pure] at this ⊢
  rw [this]
  rfl
 | unOp op t x =>
  simp only [qcq] at h
  split at h
  ·rename_i b hb
   refine ⟨_,h,fun φ ρ' hr => ⟨_,fun w => ?_,.bool _⟩⟩
   have hx := hr x (by simp [qmg])
   rw [hb] at hx
   generalize hx' : ρ' x = x' at hx
   cases hx
   simp [execOp,hx',Op.unary]
  ·rename_i j n hn
   refine ⟨_,h,fun φ ρ' hr => ⟨_,fun w => ?_,.int _ _⟩⟩
   have hx := hr x (by simp [qmg])
   rw [hn] at hx
   generalize hx' : ρ' x = x' at hx
   cases hx
   simp [execOp,hx',Op.unary,Op.intArith]
  ·exact h.elim
 | convert src dst x =>
  simp only [qcq] at h
  split at h
  ·exact h.elim
  ·rename_i hsrc
   obtain ⟨_,ds,_,hds,_⟩ := hT.get hsrc
   split at h
   ·rename_i j j' n hj hn
    refine ⟨_,h,fun φ ρ' hr => ⟨_,fun w => ?_,.int _ _⟩⟩
    have hx := hr x (by simp [qmg])
    rw [hn] at hx
    generalize hx' : ρ' x = x' at hx
    cases hx
    simp [execOp,hx',convert,run_underlying hds,run_underlying (hT.int hj),Conv.intToInt]
   ·rename_i s hj hs
    refine ⟨_,h,fun φ ρ' hr => ⟨_,fun w => ?_,.str _⟩⟩
    have hx := hr x (by simp [qmg])
    rw [hs] at hx
    generalize hx' : ρ' x = x' at hx
    cases hx
    simp [execOp,hx',convert,run_underlying hds,run_underlying (hT.str hj)]
   ·exact h.elim
 | makeInterface t x =>
  simp only [qcq] at h
  split at h
  ·rename_i ht
   refine ⟨_,h,fun φ ρ' hr => ⟨_,fun w => ?_,.iface _ _ _ (hr x (by simp [qmg]))⟩⟩
   have hnb : (T t).k ≠ .bad := by intro hb; rw [hb] at ht; cases ht
   obtain ⟨_,d,_,hd,hk,_⟩ := hT.get hnb
   cases d <;> simp [K.of] at hk <;> simp [execOp,Instr.makeInterface,run_underlying hd]
   rw [← hk.1] at ht
   cases ht
  ·exact h.elim
 | makeFunc fn first captured =>
  simp only [qcq] at h
  refine ⟨_,h,fun φ ρ' hr => ⟨.func fn (first.map ρ') (captured.map ρ'),fun w => rfl,?_⟩⟩
  have h1 := LRel.map (φ := φ) (ρ := ρ) (ρ' := ρ') first.toList (fun x hx => hr x (by simp [qmg]; exact .inl (by simpa using hx)))
  have h2 := LRel.map (φ := φ) (ρ := ρ) (ρ' := ρ') captured.toList (fun x hx => hr x (by simp [qmg]; exact .inr (by simpa using hx)))
  have a1 := h1.to_arr (as := first.map ρ) (bs := first.map ρ') (by simp) (by simp)
  have a2 := h2.to_arr (as := captured.map ρ) (bs := captured.map ρ') (by simp) (by simp)
  exact .fn _ _ _ _ _ a1.1 a1.2 a2.1 a2.2
 | slice t x lo hi mx =>
  simp only [qcq] at h
  cases mx with
  | some m => simp at h
  | none =>
   simp only at h
   split at h
   ·rename_i e a n c hk hs hx
    split at h
    ·exact h.elim
    ·rename_i he
     obtain ⟨v,hkv,hv⟩ := qhT (P := P) h
     refine ⟨v,hkv,fun φ ρ' hr => ?_⟩
     obtain ⟨e',hu,hse⟩ := hT.sl hk
     rw [hs] at hse
     injection hse with hse
     subst hse
     have hxr := hr x (by simp [qmg])
     rw [hx] at hxr
     obtain ⟨a',n',c',v',r,hx',hvv,hrun,hv'⟩ := hv φ (ρ' x) (lo.map ρ') (hi.map ρ') hxr
      (by intro l hl; cases lo with
        | none => cases hl
        | some l0 => simp at hl; subst hl; exact ⟨_,rfl,hr l0 (by simp [qmg])⟩)
      (by intro hl; cases lo with
        | none => rfl
        | some l0 => cases hl)
      (by intro l hl; cases hi with
        | none => cases hl
        | some l0 => simp at hl; subst hl; exact ⟨_,rfl,hr l0 (by simp [qmg])⟩)
      (by intro hl; cases hi with
        | none => rfl
        | some l0 => cases hl)
     refine ⟨v',fun w => ?_,hvv⟩
     rw [hv']
     obtain ⟨r1,r2,r3⟩ := r
     simp [execOp,Instr.sliceAt,Instr.slice,run_underlying hu,hx',hrun w,qbC hT he]
   ·rename_i n e p hk hs hx
    split at h
    ·exact h.elim
    ·rename_i he
     split at h
     ·obtain ⟨a,rfl,hkv⟩ := qcL h
      refine ⟨_,hkv,fun φ ρ' hr => ?_⟩
      rcases hT.agg hk with ⟨n',e',hu,hse⟩ | ⟨fs,hu,hse⟩
      ·rw [hs] at hse
       injection hse with h1 h2
       subst h1 h2
       have hxr := hr x (by simp [qmg])
       rw [hx] at hxr
       obtain ⟨b,B,o,rfl,hb,hxe⟩ := qc5 hxr
       refine ⟨.slice (some ⟨B.c,o,none⟩) n n,fun w => ?_,.sl _ _ _ _ hb (qlS _) (.inl rfl)⟩
       simp [execOp,Instr.sliceAt,run_underlying hu,hxe,Instr.sureAddr,Instr.sliceBounds,qbC hT he,Addr.add]
      ·rw [hs] at hse; cases hse
     ·exact h.elim
   ·exact h.elim
 | fieldAddr s x f =>
  simp only [qcq] at h
  split at h
  ·rename_i off ft p hf hx
   split at h
   ·exact h.elim
   ·rename_i hsz
    obtain ⟨a,rfl,hkv⟩ := qcL h
    refine ⟨_,hkv,fun φ ρ' hr => ?_⟩
    have hxr := hr x (by simp [qmg])
    rw [hx] at hxr
    obtain ⟨b,B,o,rfl,hb,hxe⟩ := qc5 hxr
    unfold fieldAt? at hf
    split at hf
    ·rename_i l hk hs
     rcases hT.agg hk with ⟨n',e',hu,hse⟩ | ⟨fs,hu,hse⟩
     ·rw [hs] at hse; cases hse
     ·rw [hs] at hse
      injection hse with hse
      subst hse
      simp only [qlW,qmN] at hf
      cases hfd : fs[f]? with
      | none => rw [hfd] at hf; cases hf
      | some fd =>
       rw [hfd] at hf
       simp at hf
       obtain ⟨rfl,rfl⟩ := hf
       have hz : ¬ (T fd.type).size = 0 := fun hh => hsz (.inr hh)
       have hbad : (T fd.type).k ≠ .bad := fun hh => hsz (.inl hh)
       refine ⟨.pointer (some ⟨B.c,o + fd.offset,none⟩),fun w => ?_,?_⟩
       ·simp [execOp,Instr.fieldAt,run_underlying hu,hfd,hxe,Instr.sureAddr,fieldPlace,qbC hT hbad,hz,qdd]
       ·rw [qdd]; exact .ptr _ hb
    ·cases hf
  ·exact h.elim
 | field s x f =>
  simp only [qcq] at h
  split at h
  ·rename_i off ft cs hf hx
   obtain ⟨v,hkv,hp⟩ := qhr h
   refine ⟨v,hkv,fun φ ρ' hr => ?_⟩
   have hxr := hr x (by simp [qmg])
   rw [hx] at hxr
   generalize hx' : ρ' x = x' at hxr
   cases hxr with
   | agg _ cs' h1 h2 =>
    obtain ⟨v0,v',rfl,hv,hrun⟩ := qgH hT hp (LRel.of_arr h1 h2)
    unfold fieldAt? at hf
    split at hf
    ·rename_i l hk hs
     rcases hT.agg hk with ⟨n',e',hu,hse⟩ | ⟨fs,hu,hse⟩
     ·rw [hs] at hse; cases hse
     ·rw [hs] at hse
      injection hse with hse
      subst hse
      simp only [qlW,qmN] at hf
      cases hfd : fs[f]? with
      | none => rw [hfd] at hf; cases hf
      | some fd =>
       rw [hfd] at hf
       simp at hf
       obtain ⟨rfl,rfl⟩ := hf
       exact ⟨v',fun w => by simp [execOp,Instr.field,run_underlying hu,hfd,hx',asAgg,hrun w],hv⟩
    ·cases hf
  ·exact h.elim
 | indexAddr t x ix =>
  simp only [qcq] at h
  split at h
  ·rename_i e a n c j i hk hs hx hi
   split at h
   ·exact h.elim
   ·rename_i he
    obtain ⟨⟨h0,h1⟩,h⟩ := h
    obtain ⟨a,rfl,hkv⟩ := qcL h
    refine ⟨_,hkv,fun φ ρ' hr => ?_⟩
    have hxr := hr x (by simp [qmg])
    have hir := hr ix (by simp [qmg])
    rw [hx] at hxr
    rw [hi] at hir
    obtain ⟨e',hu,hse⟩ := hT.sl hk
    rw [hs] at hse
    injection hse with hse
    subst hse
    generalize hx' : ρ' x = x' at hxr
    generalize hi' : ρ' ix = i' at hir
    cases hir
    cases hxr with
    | @sl b B o _ _ k' hb hn hkk =>
     refine ⟨.pointer (some ⟨B.c,o + i.toNat * (T e).size,none⟩),fun w => ?_,?_⟩
     ·simp [execOp,Instr.indexAt,hx',hi',asIntOf,run_underlying hu,h0,h1,qbC hT he,qdd]
     ·rw [qdd]; exact .ptr _ hb
    | sle a a' k' => omega
  ·rename_i n e p j i hk hs hx hi
   split at h
   ·exact h.elim
   ·rename_i he
    obtain ⟨⟨h0,h1⟩,h⟩ := h
    obtain ⟨a,rfl,hkv⟩ := qcL h
    refine ⟨_,hkv,fun φ ρ' hr => ?_⟩
    have hxr := hr x (by simp [qmg])
    have hir := hr ix (by simp [qmg])
    rw [hx] at hxr
    rw [hi] at hir
    obtain ⟨b,B,o,rfl,hb,hxe⟩ := qc5 hxr
    rcases hT.agg hk with ⟨n',e',hu,hse⟩ | ⟨fs,hu,hse⟩
    ·rw [hs] at hse
     injection hse with h1 h2
     subst h1 h2
     generalize hi' : ρ' ix = i' at hir
     cases hir
     refine ⟨.pointer (some ⟨B.c,o + i.toNat * (T e).size,none⟩),fun w => ?_,?_⟩
     ·simp [execOp,Instr.indexAt,hxe,hi',asIntOf,run_underlying hu,h0,h1,qbC hT he,qdd,Instr.sureAddr]
     ·rw [qdd]; exact .ptr _ hb
    ·rw [hs] at hse; cases hse
  ·exact h.elim
 | index t x ix =>
  simp only [qcq] at h
  split at h
  ·rename_i n e cs j i hk hs hx hi
   obtain ⟨⟨h0,h1⟩,h⟩ := h
   obtain ⟨v,hkv,hp⟩ := qhr h
   refine ⟨v,hkv,fun φ ρ' hr => ?_⟩
   have hxr := hr x (by simp [qmg])
   have hir := hr ix (by simp [qmg])
   rw [hx] at hxr
   rw [hi] at hir
   have he : (T e).k ≠ .bad := by
    intro hb; unfold partC at hp; rw [hb] at hp; exact hp.elim
   rcases hT.agg hk with ⟨n',e',hu,hse⟩ | ⟨fs,hu,hse⟩
   ·rw [hs] at hse
    injection hse with h1' h2
    subst h1' h2
    generalize hi' : ρ' ix = i' at hir
    generalize hx' : ρ' x = x' at hxr
    cases hir
    cases hxr with
    | agg _ cs' h1'' h2 =>
     obtain ⟨v0,v',rfl,hv,hrun⟩ := qgH hT hp (LRel.of_arr h1'' h2)
     exact ⟨v',fun w => by simp [execOp,Instr.index,hx',hi',asIntOf,run_underlying hu,h0,h1,qbC hT he,hrun w],hv⟩
   ·rw [hs] at hse; cases hse
  ·exact h.elim
 | extract x i =>
  simp only [qcq] at h
  split at h
  ·rename_i vs hx
   split at h
   ·exact h.elim
   rename_i hone
   split at h
   ·rename_i v hv
    refine ⟨v,h,fun φ ρ' hr => ?_⟩
    have hxr := hr x (by simp [qmg])
    rw [hx] at hxr
    generalize hx' : ρ' x = x' at hxr
    cases hxr with
    | undef => simp at hv
    | skip => simp at hone
    | tup _ ws h1 h2 =>
     have hl := LRel.of_arr h1 h2
     have hlt : i < ws.toList.length := by
      rw [← hl.1]; exact (List.getElem?_eq_some_iff.1 hv).1
     have hw := qlK hlt
     have hw' : ws[i]? = some ws.toList[i] := by rw [← qmN]; exact hw
     exact ⟨ws.toList[i],fun w => by simp [execOp,Instr.extract,hx',hw'],hl.2 i v _ hv hw⟩
   ·exact h.elim
  ·exact h.elim
 | call c =>
  obtain ⟨callee,args,argTypes⟩ := c
  simp only [qcq] at h
  split at h
  ·split at h
   ·rename_i t ts x xs hts hxs
    have ht0 : argTypes[0]? = some t := by rw [← qmN,hts]; rfl
    have hx0 : args[0]? = some x := by rw [← qmN,hxs]; rfl
    have hxm : x ∈ (Op.call { callee := .builtin .len,args,argTypes }).operands := by
     simp only [qmg,Call.operands,Array.mem_append]
     exact .inr (Array.mem_of_getElem? hx0)
    have hrunlen : ∀ (ρ' : Operand → Value) (w : World) (n : Int),(Builtin.len_ argTypes type (args.map ρ')).run P w = .ok (.int .i64 n) w →
      (execOp ρ' { dst,op := .call { callee := .builtin .len,args,argTypes },type,pos,after,guard }).run P w = .ok (.value (.int .i64 n)) w := by
     intro ρ' w n hn
     simp [execOp,resolve,invoke,builtin,hn]
    split at h
    ·rename_i a n c hk hx
     refine ⟨_,h,fun φ ρ' hr => ?_⟩
     have hxr := hr x hxm
     rw [hx] at hxr
     obtain ⟨e,hu,_⟩ := hT.sl hk
     refine ⟨_,fun w => hrunlen ρ' w n ?_,.int _ _⟩
     generalize hx' : ρ' x = x' at hxr
     cases hxr <;> simp [Builtin.len_,ht0,hx0,hx',run_underlying hu,goInt]
    ·rename_i s hk hx
     refine ⟨_,h,fun φ ρ' hr => ?_⟩
     have hxr := hr x hxm
     rw [hx] at hxr
     refine ⟨_,fun w => hrunlen ρ' w _ ?_,.int _ _⟩
     generalize hx' : ρ' x = x' at hxr
     cases hxr
     simp [Builtin.len_,ht0,hx0,hx',run_underlying (hT.str hk),goInt]
    ·rename_i n e hk hs
     refine ⟨_,h,fun φ ρ' hr => ?_⟩
     rcases hT.agg hk with ⟨n',e',hu,hse⟩ | ⟨fs,hu,hse⟩
     ·rw [hs] at hse
      injection hse with h1 h2
      subst h1 h2
      refine ⟨_,fun w => hrunlen ρ' w _ ?_,.int _ _⟩
      simp [Builtin.len_,ht0,hx0,run_underlying hu,goInt]
     ·rw [hs] at hse; cases hse
    ·exact h.elim
   ·exact h.elim
  ·split at h
   ·rename_i x xs hxs
    obtain ⟨v,hkv,hv,hrun⟩ := qfE (P := P) _ _ _ h
    refine ⟨v,hkv,fun φ ρ' hr => ⟨v,fun w => ?_,hv φ⟩⟩
    have hmem : ∀ y ∈ x :: xs,VRel φ (ρ y) (ρ' y) := fun y hy => hr y (by
     simp only [qmg,Call.operands,Array.mem_append]
     exact .inr (Array.mem_toList_iff.1 (hxs ▸ hy)))
    have := hrun φ (ρ' x) (xs.map ρ') (hmem x (by simp)) (by simp) (fun i a b ha hb => (LRel.map xs (fun y hy => hmem y (by simp [hy]))).2 i a b ha hb) w
    simp [execOp,resolve,invoke,builtin,Builtin.min_,hxs] at this ⊢
    rw [this]
    rfl
   ·exact h.elim
  ·split at h
   ·rename_i x xs hxs
    obtain ⟨v,hkv,hv,hrun⟩ := qfE (P := P) _ _ _ h
    refine ⟨v,hkv,fun φ ρ' hr => ⟨v,fun w => ?_,hv φ⟩⟩
    have hmem : ∀ y ∈ x :: xs,VRel φ (ρ y) (ρ' y) := fun y hy => hr y (by
     simp only [qmg,Call.operands,Array.mem_append]
     exact .inr (Array.mem_toList_iff.1 (hxs ▸ hy)))
    have := hrun φ (ρ' x) (xs.map ρ') (hmem x (by simp)) (by simp) (fun i a b ha hb => (LRel.map xs (fun y hy => hmem y (by simp [hy]))).2 i a b ha hb) w
    simp [execOp,resolve,invoke,builtin,Builtin.max_,hxs] at this ⊢
    rw [this]
    rfl
   ·exact h.elim
  ·exact h.elim
 | _ => simp [qcq] at h
end
def ldA (H : AH) (a : Addr) (n : Nat) (k : List Value → Prop) : Prop := ∃ cs : List Value,H.row? a n = some cs ∧ k cs
def AH.rowS? (H : AH) (s : Sl) (size : Nat) : Option (List Value) :=
 if s.n = 0 then some [] else
 match s.a with
 | some a => H.row? a (s.n * size)
 | none => none
def byteV (b : UInt8) : Value := .int .u8 b.toNat
def strC (H : AH) (s : Sl) (k : List UInt8 → Prop) : Prop := ∃ bs : List UInt8,H.rowS? s 1 = some (bs.map byteV) ∧ k bs
def isLoad (T : Nat → TyE) (op : Op) : Bool :=
 match op with
 | .load _ _ => true
 | .convert src dst _ => match (T src).k,(T dst).k with
  | .sl,.str => true
  | _,_ => false
 | _ => false
def loadOp (T : Nat → TyE) (ρ : Operand → Value) (op : Op) (H : AH) (k : Value → (AH → Prop) → Prop) : Prop :=
 match op with
 | .load t a =>
  match ρ a with
  | .pointer p => onPtr p fun a =>
   match (T t).k with
   | .agg => ldA H a (T t).size fun cs => k (.agg cs.toArray) fun H' => H'.row? a (T t).size = some cs
   | .bad => False
   | κ => elim κ (H.cell? a) fun v => k v fun H' => H'.cell? a = some v
  | _ => False
 | .convert src dst x =>
  match (T src).k,(T src).sub,(T dst).k,ρ x with
  | .sl,.elem e,.str,.slice a n c =>
   if (T e).k = .int .u8 then strC H ⟨a,n,c⟩ fun bs => k (.string ⟨bs.toArray⟩) fun H' => H'.rowS? ⟨a,n,c⟩ 1 = some (bs.map byteV) else False
  | _,_,_,_ => False
 | _ => False
def LoadOK (P : Program) (ρ : Operand → Value) (o : Oper) (v : Value) (rec : AH → Prop) : Prop :=
 ∀ (φ : Emb) (ρ' : Operand → Value) (W w : World) (H : AH),(∀ x ∈ o.op.operands,VRel φ (ρ x) (ρ' x)) → Rel W φ H w → rec H →
  ∃ v',(execOp ρ' o).run P w = .ok (.value v') w ∧ VRel φ v v'
section
variable {P : Program} {T : Nat → TyE}
theorem Rel.row {W w : World} {φ : Emb} {H : AH} (R : Rel W φ H w) {b o n : Nat} {B : Blk} (hb : φ b = some B) {cs : List Value} (h : H.row? ⟨b,o,none⟩ n = some cs) :
  ∃ cs' : List Value,LRel φ cs cs' ∧ (∀ j v,cs'[j]? = some v → w.cell? ((⟨B.c,o,none⟩ : Addr).add j) = some v) ∧ ∀ v ∈ cs',v.oneCell' = true := by
 obtain ⟨_,hlen,hall,hd,hc⟩ := AH.row?_cell h
 have step : ∀ j,j < cs.length → ∃ v',w.cell? ⟨B.c,o + j,none⟩ = some v' ∧ ∀ v,cs[j]? = some v → VRel φ v v' := by
  intro j hj
  obtain ⟨v',h1,h2⟩ := R.load hb (hc j _ (qlK hj))
  exact ⟨v',h1,fun v hv => by rw [qlK hj] at hv; injection hv with hv; subst hv; exact h2⟩
 refine ⟨(List.range cs.length).map fun j => ((w.cell? ⟨B.c,o + j,none⟩).getD undef),⟨by simp,?_⟩,?_,?_⟩
 ·intro i x y hx hy
  have hi : i < cs.length := (List.getElem?_eq_some_iff.1 hx).1
  obtain ⟨v',h1,h2⟩ := step i hi
  simp [qlW,qmh hi,h1] at hy
  subst hy
  exact h2 x hx
 ·intro j v hv
  have hi : j < cs.length := by
   have := (List.getElem?_eq_some_iff.1 hv).1
   simpa using this
  obtain ⟨v',h1,_⟩ := step j hi
  simp [qlW,qmh hi,h1] at hv
  subst hv
  rw [qdd]
  exact h1
 ·intro v hv
  simp only [qml,List.mem_range] at hv
  obtain ⟨j,hj,rfl⟩ := hv
  obtain ⟨v',h1,h2⟩ := step j hj
  rw [h1]
  simp only [Option.getD_some]
  have hj' := qlK hj
  exact (h2 _ hj').oneCell (List.all_eq_true.1 hall _ (List.getElem_mem hj))
theorem qds {W w : World} {φ : Emb} {H : AH} (R : Rel W φ H w) {b o n : Nat} {B : Blk} (hb : φ b = some B) {cs : List Value} (h : H.row? ⟨b,o,none⟩ n = some cs) :
  ∃ cs' : List Value,LRel φ cs cs' ∧ (∀ v ∈ cs',v.oneCell' = true) ∧ (loadCells ⟨B.c,o,none⟩ n).run P w = .ok cs'.toArray w := by
 obtain ⟨cs',h1,h2,h3⟩ := R.row hb h
 refine ⟨cs',h1,h3,?_⟩
 have hn : n = cs'.length := by rw [← h1.1]; exact (AH.row?_cell h).2.1.symm
 rw [hn]
 exact run_loadCells_list w _ cs' h2
theorem qh4 {φ : Emb} : ∀ (bs : List UInt8) (cs' : List Value),LRel φ (bs.map byteV) cs' → cs' = bs.map byteV := by
 intro bs
 induction bs with
 | nil => intro cs' h; have := h.1; simpa using this.symm
 | cons b bs ih =>
  intro cs' h
  obtain _ | ⟨c,cs'⟩ := cs'
  ·have := h.1; simp at this
  have h0 := h.2 0 (byteV b) c (by simp) rfl
  cases h0
  rw [ih cs' ⟨by have := h.1; simpa using this,fun i x y hx hy => h.2 (i + 1) x y (by simpa using hx) (by simpa using hy)⟩]
  rfl
theorem qhI (w : World) (f : Value → ByteArray → Sem (ForInStep ByteArray)) (hf : ∀ b s,f (byteV b) s = pure (ForInStep.yield (s.push (UInt8.ofNat ((b.toNat : Int)).toNat)))) :
  ∀ (bs : List UInt8) (acc : ByteArray),((forIn (m := Sem) (bs.map byteV).toArray acc f).run P w) = .ok ⟨acc.data ++ bs.toArray⟩ w := by
 intro bs
 induction bs with
 | nil => intro acc; simp
 | cons b bs ih =>
  intro acc
  have := ih (acc.push (UInt8.ofNat ((b.toNat : Int)).toNat))
  rw [← Array.forIn_toList] at this ⊢
  simp only [qmv,List.forIn_cons,hf,qmW,Sem.run_pure,qmF]
  rw [this]
  congr 2
  simp
def Stays (rec : AH → Prop) : Prop := ∀ (H : AH) (ob : AObj),(∀ b,H.size ≤ b → (H.get b).md = .dead) → rec H → rec (H.push ob)
theorem qjo (a : Addr) (v : Value) : Stays fun H => H.cell? a = some v := by
 intro H ob hout h
 unfold AH.cell? at h ⊢
 split at h
 ·cases h
 ·rename_i hs
  rw [if_neg hs]
  split at h
  ·cases h
  ·rename_i hd
   have hne : a.block ≠ H.size := fun e => hd (hout _ (by omega))
   simp only [AH.push,hne,if_false,hd]
   exact h
theorem qhi (a : Addr) (n : Nat) (cs : List Value) : Stays fun H => H.row? a n = some cs := by
 intro H ob hout h
 unfold AH.row? at h ⊢
 split at h
 ·cases h
 ·rename_i hs
  rw [if_neg hs]
  split at h
  ·cases h
  ·rename_i hd
   have hne : a.block ≠ H.size := fun e => hd (hout _ (by omega))
   simp only [AH.push,hne,if_false,hd]
   exact h
theorem qj0 (s : Sl) (n : Nat) (cs : List Value) : Stays fun H => H.rowS? s n = some cs := by
 intro H ob hout h
 unfold AH.rowS? at h ⊢
 split at h
 ·rename_i h0; rw [if_pos h0]; exact h
 ·rename_i h0
  rw [if_neg h0]
  split at h
  ·exact qhi _ _ cs H ob hout h
  ·cases h
theorem qgD (hT : qW P T) {ρ : Operand → Value} {o : Oper} {H : AH} {k : Value → (AH → Prop) → Prop} (h : loadOp T ρ o.op H k) :
  ∃ v rec,k v rec ∧ rec H ∧ LoadOK P ρ o v rec ∧ Stays rec := by
 obtain ⟨dst,op,type,pos,after,guard⟩ := o
 simp only at h
 unfold LoadOK
 simp only
 cases op with
 | load t a =>
  simp only [loadOp] at h
  split at h
  ·rename_i p hp
   obtain ⟨a0,rfl,h⟩ := qcL h
   split at h
   ·rename_i hk
    obtain ⟨cs,hrow,hkv⟩ := h
    refine ⟨_,_,hkv,hrow,fun φ ρ' W w H' hr R hrec => ?_,qhi _ _ _⟩
    have hx := hr a (by simp [qmg])
    rw [hp] at hx
    obtain ⟨b,B,o,rfl,hb,he⟩ := qc5 hx
    obtain ⟨cs',h1,_,h3⟩ := qds (P := P) R hb hrec
    exact ⟨_,by simp [execOp,Instr.loadAt,he,Instr.sureAddr,loadVar,hT.isAgg hk,qbC hT (t := t) (by simp [hk]),h3],h1.agg⟩
   ·exact h.elim
   ·rename_i hna hnb
    change elim (T t).k (H.cell? a0) (fun v => k v fun H' => H'.cell? a0 = some v) at h
    obtain ⟨v,hv,hkv⟩ := qev h
    refine ⟨_,_,hkv,hv,fun φ ρ' W w H' hr R hrec => ?_,qjo _ _⟩
    have hx := hr a (by simp [qmg])
    rw [hp] at hx
    obtain ⟨b,B,o,rfl,hb,he⟩ := qc5 hx
    obtain ⟨v',h1,h2⟩ := R.load hb hrec
    exact ⟨v',by simp [execOp,Instr.loadAt,he,Instr.sureAddr,loadVar,hT.notAgg hnb hna,h1],h2⟩
  ·exact h.elim
 | convert src dst x =>
  simp only [loadOp] at h
  split at h
  ·rename_i e a n c hk hs hd hx
   split at h
   ·rename_i he
    obtain ⟨bs,hrow,hkv⟩ := h
    refine ⟨_,_,hkv,hrow,fun φ ρ' W w H' hr R hrec => ⟨_,?_,.str _⟩,qj0 _ _ _⟩
    obtain ⟨e',hu,hse⟩ := hT.sl hk
    rw [hs] at hse
    injection hse with hse
    subst hse
    have hxr := hr x (by simp [qmg])
    rw [hx] at hxr
    generalize hx' : ρ' x = x' at hxr
    unfold AH.rowS? at hrec
    have hud := hT.str hd
    have hue := hT.int he
    have nil_case : n = 0 → bs = [] := by
     intro hn; simp only [hn,if_true] at hrec; simpa using hrec.symm
    cases hxr with
    | sl0 =>
     obtain rfl := nil_case rfl
     simp [execOp,convert,run_underlying hu,run_underlying hud,run_underlying hue,hx',Conv.bytesToString,ByteArray.empty,ByteArray.emptyWithCapacity]; rfl
    | @sl b B o _ _ k' hb hn hkk =>
     by_cases hn0 : n = 0
     ·obtain rfl := nil_case hn0
      subst hn0
      simp [execOp,convert,run_underlying hu,run_underlying hud,run_underlying hue,hx',Conv.bytesToString,loadCells,loadCellsFrom,ByteArray.empty,ByteArray.emptyWithCapacity]; rfl
     ·simp only [hn0,if_false,Nat.mul_one] at hrec
      obtain ⟨cs',h1,_,h3⟩ := qds (P := P) R hb hrec
      have hcs := qh4 bs cs' h1
      subst hcs
      simp only [execOp,convert,qmW,run_underlying hu,run_underlying hud,run_underlying hue,hx',Conv.bytesToString,qmF,h3]
      rw [qhI (P := P) w _ (fun b s => rfl)]
      simp [ByteArray.empty,ByteArray.emptyWithCapacity]
      rfl
    | sle a a' k' =>
     obtain rfl := nil_case rfl
     simp [execOp,convert,run_underlying hu,run_underlying hud,run_underlying hue,hx',Conv.bytesToString,loadCells,loadCellsFrom,ByteArray.empty,ByteArray.emptyWithCapacity]; rfl
   ·exact h.elim
  ·exact h.elim
 | _ => simp [loadOp] at h
end
def isAlloc (op : Op) : Bool :=
 match op with
 | .alloc _ => true
 | .box _ _ => true
 | .buildSlice _ _ _ => true
 | .makeSlice _ _ _ => true
 | _ => false
def newAt (b : Nat) : Option Addr := some ⟨b,0,none⟩
def zerosOf (n : Nat) (z : List Value) : List Value := (qlN n z).flatten
def lim : Nat := 4294967296
def allocOp (T : Nat → TyE) (ρ : Operand → Value) (op : Op) (b : Nat) (k : Value → AObj → Prop) : Prop :=
 match op with
 | .alloc e => if (T e).k = .bad then False else k (.pointer (newAt b)) ⟨(T e).zero,.rw,0⟩
 | .box _ x =>
  match ρ x with
  | .agg arr => k (.pointer (newAt b)) ⟨arr.toList,.rw,0⟩
  | .tuple _ => False
  | v => k (.pointer (newAt b)) ⟨[v],.rw,0⟩
 | .buildSlice t n parts =>
  match (T t).k,(T t).sub with
  | .sl,.elem e =>
   if (T e).k = .bad ∨ (T e).size = 0 ∨ (T e).zero.length ≠ (T e).size ∨ n * (T e).size > 2 ^ 24 then False else
   fillC (fun i => some (i * (T e).size,(T e).size)) (n * (T e).size) (zerosOf n (T e).zero) (parts.toList.map fun p => (p.1,ρ p.2)) fun cs =>
    k (.slice (newAt b) n 1) ⟨cs,.rw,(T e).size⟩
  | _,_ => False
 | .makeSlice t l c =>
  match (T t).k,(T t).sub,ρ l,ρ c with
  | .sl,.elem e,.int _ n,.int _ m =>
   if (T e).k = .bad ∨ (T e).size = 0 ∨ (T e).zero.length ≠ (T e).size ∨ (T e).bytes > 4096 then False else
   (0 ≤ n ∧ n ≤ m ∧ m ≤ lim) ∧ k (.slice (newAt b) n.toNat 1) ⟨zerosOf n.toNat (T e).zero,.rw,(T e).size⟩
  | _,_,_,_ => False
 | _ => False
def AllocOK (P : Program) (ρ : Operand → Value) (o : Oper) (b : Nat) (v : Value) (ob : AObj) : Prop :=
 ∀ (φ : Emb) (ρ' : Operand → Value) (W w : World) (H : AH),(∀ x ∈ o.op.operands,VRel φ (ρ x) (ρ' x)) → Rel W φ H w → H.get b = ob → b < H.size → φ b = none →
  ∃ v' w' B,(execOp ρ' o).run P w = .ok (.value v') w' ∧ VRel (φ.add b B) v v' ∧ Rel W (φ.add b B) H w'
section
variable {P : Program} {T : Nat → TyE}
theorem Emb.add_self (φ : Emb) (b : Nat) (B : Blk) : φ.add b B b = some B := by simp [Emb.add]
theorem qgy (z : Array Value) : ∀ n,((Array.range (n * z.size)).map (fun i => z[i % z.size]!)).toList = zerosOf n z.toList := by
 intro n
 have key : ∀ n,(List.range (n * z.size)).map (fun i => z[i % z.size]!) = zerosOf n z.toList := by
  intro n
  induction n with
  | zero => simp [zerosOf]
  | succ n ih =>
   have : (n + 1) * z.size = n * z.size + z.size := by rw [Nat.add_mul]; omega
   rw [this,List.range_add,List.map_append,ih]
   unfold zerosOf
   rw [List.replicate_succ',List.flatten_append]
   congr 1
   simp only [List.flatten_cons,List.flatten_nil,List.append_nil,List.map_map]
   apply List.ext_getElem
   ·simp
   ·intro i h1 h2
    have hi : i < z.size := by simpa using h1
    simp [Nat.mul_add_mod_self_right,Nat.mod_eq_of_lt hi,hi]
 simp only [Array.toList_map,Array.toList_range]
 exact key n
theorem qdU (n : Nat) (z : List Value) : (zerosOf n z).length = n * z.length := by
 induction n with
 | zero => simp [zerosOf]
 | succ n ih =>
  unfold zerosOf at ih ⊢
  rw [List.replicate_succ,List.flatten_cons,List.length_append,ih,Nat.add_mul]; omega
theorem qf3 {n : Nat} {z : List Value} {x : Value} (h : x ∈ zerosOf n z) : x ∈ z := by
 unfold zerosOf at h
 simp only [List.mem_flatten,List.mem_replicate] at h
 obtain ⟨l,⟨_,rfl⟩,hx⟩ := h
 exact hx
theorem qc1 {W w : World} {φ : Emb} {H : AH} (R : Rel W φ H w) {b : Nat} (hlt : b < H.size) (hb : φ b = none) {cells : List Value} {cs : Array Value} {esz : Nat} (e : TypeId)
  (hob : H.get b = ⟨cells,.rw,esz⟩) (hlen : cells.length ≤ cs.size) (hv : ∀ i v,cells[i]? = some v → VRel φ v (cs.getD i undef)) :
  Rel W (φ.add b ⟨w.heap.size,cs.size,esz⟩) H (w.alloc (.cells cs e)) := by
 have h1 : (H.get b).cells = cells := by rw [hob]
 have h2 : (H.get b).esz = esz := by rw [hob]
 have h3 : (H.get b).md = .rw := by rw [hob]
 have := R.lay (b := b) hb hlt cs e h3 (by rw [h1]; exact hlen) (fun i v hi => by
  rw [h1] at hi
  exact (hv i v hi).mono (Emb.le_add hb))
 rw [h2] at this
 exact this
theorem LRel.getD {φ : Emb} {xs : List Value} {ys : Array Value} (h : LRel φ xs ys.toList) (i : Nat) (v : Value) (hi : xs[i]? = some v) : VRel φ v (ys.getD i undef) := by
 have hlt : i < ys.size := by
  have := (List.getElem?_eq_some_iff.1 hi).1
  have h1 := h.1
  simp at h1; omega
 have : ys.getD i undef = ys[i] := by simp [hlt]
 rw [this]
 exact h.2 i v _ hi (by simp [hlt])
theorem qff (f : Nat → Value) : (Array.range 0).map f = #[] := by
 apply Array.ext'; simp
theorem qiq {place : Nat → Option (Nat × Nat)} {n : Nat} : ∀ (parts : List (Nat × Value)) (cells : List Value) {cs : List Value},fillC place n cells parts (· = cs) → cs.length = cells.length := by
 intro parts
 induction parts with
 | nil => intro cells cs h; exact h ▸ rfl
 | cons p parts ih =>
  intro cells cs h
  obtain ⟨i,v⟩ := p
  simp only [fillC] at h
  split at h
  ·exact h.elim
  ·split at h
   ·split at h
    ·rw [ih _ h.2,qdT]
    ·exact h.elim
    ·split at h
     ·rw [ih _ h]; simp
     ·exact h.elim
   ·exact h.elim
theorem qga (hT : qW P T) {ρ : Operand → Value} {o : Oper} {b : Nat} {k : Value → AObj → Prop} (h : allocOp T ρ o.op b k) :
  ∃ v ob,k v ob ∧ AllocOK P ρ o b v ob := by
 obtain ⟨dst,op,type,pos,after,guard⟩ := o
 simp only at h
 unfold AllocOK
 simp only
 cases op with
 | alloc e =>
  simp only [allocOp] at h
  split at h
  ·exact h.elim
  ·rename_i he
   obtain ⟨z,hz,hrun⟩ := qc8 hT he
   refine ⟨_,_,h,fun φ ρ' W w H hr R hob hlt hb => ⟨.pointer (some ⟨w.heap.size,0,none⟩),w.alloc (.cells z.cells e),⟨w.heap.size,z.cells.size,0⟩,?_,.ptr 0 (Emb.add_self _ _ _),?_⟩⟩
   ·simp [execOp,Instr.alloc,hrun,newVar,newRow]
   ·exact qc1 R hlt hb e hob (by rw [← hz]; simp) (LRel.getD (by rw [hz]; exact LRel.refl_of (hT.zeros he)))
 | box e x =>
  simp only [allocOp] at h
  split at h
  ·rename_i arr hx
   refine ⟨_,_,h,fun φ ρ' W w H hr R hob hlt hb => ?_⟩
   have hxr := hr x (by simp [qmg])
   rw [hx] at hxr
   generalize hx' : ρ' x = x' at hxr
   cases hxr with
   | agg _ bs h1 h2 =>
    refine ⟨.pointer (some ⟨w.heap.size,0,none⟩),w.alloc (.cells bs e),⟨w.heap.size,bs.size,0⟩,?_,.ptr 0 (Emb.add_self _ _ _),?_⟩
    ·simp [execOp,Instr.box,newVar,newRow,hx',Value.cells]
    ·exact qc1 R hlt hb e hob (by simp [h1]) (LRel.getD (LRel.of_arr h1 h2))
  ·exact h.elim
  ·rename_i h1 h2
   refine ⟨_,_,h,fun φ ρ' W w H hr R hob hlt hb => ?_⟩
   have hxr := hr x (by simp [qmg])
   have hc : (ρ' x).cells = #[ρ' x] := by
    generalize hq : ρ x = q at hxr
    generalize ρ' x = q' at hxr
    cases hxr <;> first | rfl | (exact absurd hq (h1 _)) | (exact absurd hq (h2 _))
   refine ⟨.pointer (some ⟨w.heap.size,0,none⟩),w.alloc (.cells #[ρ' x] e),⟨w.heap.size,1,0⟩,?_,.ptr 0 (Emb.add_self _ _ _),?_⟩
   ·simp [execOp,Instr.box,newVar,newRow,hc]
   ·refine qc1 (cs := #[ρ' x]) R hlt hb e hob (by simp) (LRel.getD (ys := #[ρ' x]) ⟨rfl,fun i x0 y0 hx hy => ?_⟩)
    cases i with
    | zero => simp at hx hy; subst hx hy; exact hxr
    | succ i => simp at hx
 | buildSlice t n parts =>
  simp only [allocOp] at h
  split at h
  ·rename_i e hk hs
   split at h
   ·exact h.elim
   ·rename_i hc
    simp only [not_or,Nat.not_lt,Decidable.not_not] at hc
    obtain ⟨he,hsz,hzl,hn⟩ := hc
    obtain ⟨e',hu,hse⟩ := hT.sl hk
    rw [hs] at hse
    injection hse with hse
    subst hse
    obtain ⟨z,hz,hzr⟩ := qc8 hT he
    obtain ⟨cs,hkv,hfill⟩ := qfw _ _ _ h
    refine ⟨_,_,hkv,fun φ ρ' W w H hr R hob hlt hb => ?_⟩
    have hzs : z.cells.size = (T e).size := by have := congrArg List.length hz; simp at this; omega
    have hz0 : ((Array.range (n * (T e).size)).map (fun i => z.cells[i % z.cells.size]!)).toList = zerosOf n (T e).zero := by
     rw [← hzs,qgy,hz]
    obtain ⟨cs0,cs',rfl,hf,hl⟩ := qeF (φ := φ) (fun i => some (i * (T e).size,(T e).size)) (fun i => some (i * (T e).size,(T e).size)) (fun i x hx => hx) (n * (T e).size)
     (parts.toList.map fun p => (p.1,ρ p.2)) (parts.toList.map fun p => (p.1,ρ' p.2)) (zerosOf n (T e).zero)
     ((Array.range (n * (T e).size)).map (fun i => z.cells[i % z.cells.size]!)) _ (by rw [qdU,hzl])
     (by rw [hz0]; exact LRel.refl_of (fun x hx => hT.zeros he x (qf3 hx))) (by simp) (by
      intro j p p' hp hp'
      simp only [qlW] at hp hp'
      cases hq : parts.toList[j]? with
      | none => rw [hq] at hp; simp at hp
      | some q =>
       rw [hq] at hp hp'
       simp at hp hp'
       subst hp hp'
       refine ⟨rfl,hr q.2 ?_⟩
       simp only [qmg,List.mem_toArray,qml]
       exact ⟨q,qlX hq,rfl⟩) hfill
    have hlen : n * (T e).size ≤ cs'.size := by
     have h1 := hl.1
     have h2 : cs0.length = n * (T e).size := by
      have := qiq _ _ hfill
      rw [this,qdU,hzl]
     simp at h1; omega
    refine ⟨.slice (some ⟨w.heap.size,0,none⟩) n n,w.alloc (.cells cs' e),⟨w.heap.size,cs'.size,(T e).size⟩,?_,?_,?_⟩
    ·have hmap : (parts.map fun p => (p.1,ρ' p.2)).toList = parts.toList.map fun p => (p.1,ρ' p.2) := by simp
     have hgt : ¬ n * (T e).size > 2 ^ 24 := by omega
     by_cases hn0 : n * (T e).size = 0
     ·simp only [execOp,Instr.buildSlice,qmW,run_underlying hu,qmF,qbC hT he,hn0,if_true,Sem.run_pure,hmap]
      simp only [hn0] at hf
      rw [qff] at hf
      simp only [qff]
      simp [hf,newRow]
     ·simp only [execOp,Instr.buildSlice,qmW,run_underlying hu,qmF,qbC hT he,hgt,if_false,hn0,hzr,Sem.run_pure,hmap,hf]
      simp [newRow]
    ·exact .sl 0 n 1 n (Emb.add_self _ _ _) (qlS _) (.inr (by simp; exact hlen))
    ·exact qc1 R hlt hb e hob (by have := hl.1; simp at this; omega) (LRel.getD hl)
  ·exact h.elim
 | makeSlice t l c =>
  simp only [allocOp] at h
  split at h
  ·rename_i e j n j' m hk hs hln hcm
   split at h
   ·exact h.elim
   ·rename_i hc
    simp only [not_or,Nat.not_lt,Decidable.not_not] at hc
    obtain ⟨he,hsz,hzl,hby⟩ := hc
    obtain ⟨⟨h0,h1,h2⟩,hkv⟩ := h
    obtain ⟨e',hu,hse⟩ := hT.sl hk
    rw [hs] at hse
    injection hse with hse
    subst hse
    obtain ⟨z,hz,hzr⟩ := qc8 hT he
    have hzs : z.cells.size = (T e).size := by have := congrArg List.length hz; simp at this; omega
    refine ⟨_,_,hkv,fun φ ρ' W w H hr R hob hlt hb => ?_⟩
    have hlr := hr l (by simp [qmg])
    have hcr := hr c (by simp [qmg])
    rw [hln] at hlr
    rw [hcm] at hcr
    generalize hl' : ρ' l = l' at hlr
    generalize hc' : ρ' c = c' at hcr
    cases hlr
    cases hcr
    obtain ⟨i,hi,his,hib,_⟩ := hT.size he
    unfold lim at h2
    have wn : IntKind.i64.wrap n = n := by unfold IntKind.wrap; simp [IntKind.bits,IntKind.signed]; omega
    have wm : IntKind.i64.wrap m = m := by unfold IntKind.wrap; simp [IntKind.bits,IntKind.signed]; omega
    have hlarge : ((i.bytes : Int) * m > 2 ^ 48) = False := by
     simp only [eq_iff_iff,iff_false,gt_iff_lt,Int.not_lt]
     rw [hib]
     have hb' : ((T e).bytes : Int) ≤ 4096 := by omega
     calc ((T e).bytes : Int) * m ≤ 4096 * m := Int.mul_le_mul_of_nonneg_right hb' (by omega)
      _ ≤ 2 ^ 48 := by omega
    have hz0 : ((Array.range (m.toNat * (T e).size)).map (fun i => z.cells[i % z.cells.size]!)).toList = zerosOf m.toNat (T e).zero := by
     rw [← hzs,qgy,hz]
    have hlen : n.toNat * (T e).size ≤ m.toNat * (T e).size := Nat.mul_le_mul_right _ (by omega)
    refine ⟨.slice (some ⟨w.heap.size,0,none⟩) n.toNat m.toNat,w.alloc (.cells ((Array.range (m.toNat * (T e).size)).map (fun i => z.cells[i % z.cells.size]!)) e),
     ⟨w.heap.size,((Array.range (m.toNat * (T e).size)).map (fun i => z.cells[i % z.cells.size]!)).size,(T e).size⟩,?_,?_,?_⟩
    ·have hnot : ¬ m < 0 := by omega
     have hnot' : ¬ n < 0 := by omega
     have hnot'' : ¬ n > m := by omega
     simp only [execOp,Instr.makeSlice,qmW,run_underlying hu,qmF,hl',hc',asInt,asIntOf,Sem.run_pure,typeInfo,run_program,hi,wn,wm,hlarge,hnot,hnot',hnot'',decide_false,Bool.or_self,qlU,if_false,run_askRoom]
     simp only [sizeOf,qmW,typeInfo,run_program,qmF,hi,Sem.run_pure,his]
     by_cases hm0 : m.toNat * (T e).size = 0
     ·simp only [hm0,qff]
      simp [newRow]
     ·simp [hm0,hzr,newRow]
    ·refine .sl 0 n.toNat 1 m.toNat (Emb.add_self _ _ _) (by omega) (.inr ?_)
     simp
    ·refine qc1 R hlt hb e hob (by rw [qdU,hzl]; simpa using hlen) (fun i v hi => ?_)
     have hv : v ∈ (T e).zero := qf3 (qlX hi)
     have hpre : (zerosOf m.toNat (T e).zero)[i]? = some v := by
      have : zerosOf m.toNat (T e).zero = zerosOf n.toNat (T e).zero ++ zerosOf (m.toNat - n.toNat) (T e).zero := by
       unfold zerosOf
       rw [← List.flatten_append,List.replicate_append_replicate]
       congr 2; omega
      rw [this,List.getElem?_append_left (List.getElem?_eq_some_iff.1 hi).1]
      exact hi
     have hg := hpre
     rw [← hz0] at hg
     have hlt' : i < ((Array.range (m.toNat * (T e).size)).map (fun i => z.cells[i % z.cells.size]!)).size := by
      have := (List.getElem?_eq_some_iff.1 hg).1
      simpa using this
     have : ((Array.range (m.toNat * (T e).size)).map (fun i => z.cells[i % z.cells.size]!)).getD i undef = v := by
      have h5 : ((Array.range (m.toNat * (T e).size)).map (fun i => z.cells[i % z.cells.size]!))[i]? = some v := by rw [← qmN]; exact hg
      simp only [Array.getD_eq_getD_getElem?,h5,Option.getD_some]
     rw [this]
     exact hT.zeros he v hv
  ·exact h.elim
 | _ => simp [allocOp] at h
end
end Go.Abs
