/- Lemmas for the law: an abstract machine, and what the functions do on it. No condition. -/
import Derived.Test.YtdcbkjgoaknmkaaGreatFT1
import Derived.Laws.StructEq
set_option linter.all false
namespace Go.Abs
variable {Ds : List Deferred}
def scalarConst : Value → Bool
 | .bool _ => true
 | .int _ _ => true
 | .string _ => true
 | .pointer none => true
 | .slice none 0 0 => true
 | .map none => true
 | .nilFunc => true
 | .nilIface => true
 | _ => false
inductive K where
 | int (k : IntKind) | bool | str | ptr | sl | agg | map | any | bad
 deriving DecidableEq
inductive Sub where
 | none
 | elem (e : TypeId)
 | arr (n : Nat) (e : TypeId)
 | fields (l : List (Nat × TypeId))
 | tup (ts : List TypeId)
structure TyE where
 k : K
 sub : Sub
 size : Nat
 bytes : Nat
 zero : List Value
 eqs : Bool
def K.of : TypeDesc → K × Sub
 | .bool => (.bool,.none)
 | .int k => (.int k,.none)
 | .string => (.str,.none)
 | .pointer e => (.ptr,.elem e)
 | .slice e => (.sl,.elem e)
 | .array n e => (.agg,.arr n e)
 | .struct fs => (.agg,.fields (fs.toList.map fun f => (f.offset,f.type)))
 | .map _ _ => (.map,.none)
 | .func _ _ _ => (.any,.none)
 | .interface _ => (.any,.none)
 | .tuple ts => (.any,.tup ts.toList)
 | _ => (.bad,.none)
def isScalar (P : Program) (t : TypeId) : Bool :=
 match P.underlying t with
 | some (.int _) => true
 | some .bool => true
 | _ => false
def eqFlat (P : Program) (t : TypeId) : Bool :=
 match P.underlying t with
 | some (.array _ e) => (match P.underlying e with | some (.int _) => true | _ => false) && P.cellsOf e == 1 && !P.eqGuardType P.depth t
 | some (.struct fs) => fs.toList.all (fun f => f.name != "_" && isScalar P f.type) && (fs.toList.map (·.offset)) == List.range fs.toList.length && !P.stoodInHeld t && !P.eqGuardType P.depth t
 | _ => false
def tyOf (P : Program) (t : TypeId) : Option TyE :=
 match P.info? t,P.underlying t with
 | some i,some d =>
  match i.zero with
  | some z => if z.cells.toList.all scalarConst = true then some { k := (K.of d).1,sub := (K.of d).2,size := i.size,bytes := i.bytes,zero := z.cells.toList,eqs := eqFlat P t } else none
  | none => none
 | _,_ => none
def qW (P : Program) (T : Nat → TyE) : Prop := ∀ t,(T t).k ≠ .bad → tyOf P t = some (T t)
theorem qW.get {P : Program} {T : Nat → TyE} (h : qW P T) {t : Nat} (ht : (T t).k ≠ .bad) :
  ∃ i d,P.info? t = some i ∧ P.underlying t = some d ∧ K.of d = ((T t).k,(T t).sub) ∧ i.size = (T t).size ∧ i.bytes = (T t).bytes ∧
   (∃ z,i.zero = some z ∧ z.cells.toList = (T t).zero) ∧ eqFlat P t = (T t).eqs ∧ (T t).zero.all scalarConst = true := by
 have h1 := h t ht
 unfold tyOf at h1
 split at h1
 ·rename_i i d hi hd
  split at h1
  ·rename_i z hz
   split at h1
   ·rename_i hall
    injection h1 with h1
    refine ⟨i,d,hi,hd,?_,?_,?_,⟨z,hz,?_⟩,?_,?_⟩ <;> rw [← h1]
    exact hall
   ·cases h1
  ·cases h1
 ·cases h1
structure Sl where
 a : Option Addr
 n : Nat
 k : Nat
@[reducible] def Sl.val (s : Sl) : Value := .slice s.a s.n s.k
abbrev bcase (t : Bool) (A B : Prop) : Prop := @Bool.rec (fun _ => Prop) B A t
@[simp] theorem qj (A B : Prop) : bcase true A B = A := rfl
@[simp] theorem qc (A B : Prop) : bcase false A B = B := rfl
theorem qi (t : Bool) (A B : Prop) : bcase t A B = if t = true then A else B := by cases t <;> simp
def onPtr (p : Option Addr) (k : Addr → Prop) : Prop :=
 match p with
 | some a => k a
 | none => False
def elI (j : IntKind) (v : Option Value) (k : Int → Prop) : Prop := ∃ n : Int,v = some (.int j n) ∧ k n
def elB (v : Option Value) (k : Bool → Prop) : Prop := ∃ b : Bool,v = some (.bool b) ∧ k b
def elS (v : Option Value) (k : ByteArray → Prop) : Prop := ∃ s : ByteArray,v = some (.string s) ∧ k s
def elP (v : Option Value) (k : Option Addr → Prop) : Prop := ∃ p : Option Addr,v = some (.pointer p) ∧ k p
def elL (v : Option Value) (k : Sl → Prop) : Prop := ∃ s : Sl,v = some s.val ∧ k s
def elM (v : Option Value) (k : Option Nat → Prop) : Prop := ∃ m : Option Nat,v = some (.map m) ∧ k m
def elV (v : Option Value) (k : Value → Prop) : Prop := ∃ x : Value,v = some x ∧ k x
def elim (κ : K) (v : Option Value) (k : Value → Prop) : Prop :=
 match κ with
 | .int j => elI j v fun n => k (.int j n)
 | .bool => elB v fun b => k (.bool b)
 | .str => elS v fun s => k (.string s)
 | .ptr => elP v fun p => k (.pointer p)
 | .sl => elL v fun s => k s.val
 | .map => elM v fun m => k (.map m)
 | .any => elV v k
 | .agg => False
 | .bad => False
theorem qev {κ : K} {v : Option Value} {k : Value → Prop} (h : elim κ v k) : ∃ x,v = some x ∧ k x := by
 cases κ <;> simp only [elim,elI,elB,elS,elP,elL,elM,elV] at h
 case int j => obtain ⟨n,h,hk⟩ := h; exact ⟨_,h,hk⟩
 case bool => obtain ⟨n,h,hk⟩ := h; exact ⟨_,h,hk⟩
 case str => obtain ⟨n,h,hk⟩ := h; exact ⟨_,h,hk⟩
 case ptr => obtain ⟨n,h,hk⟩ := h; exact ⟨_,h,hk⟩
 case sl => obtain ⟨n,h,hk⟩ := h; exact ⟨_,h,hk⟩
 case map => obtain ⟨n,h,hk⟩ := h; exact ⟨_,h,hk⟩
 case any => obtain ⟨n,h,hk⟩ := h; exact ⟨_,h,hk⟩
def constOK : Value → Bool
 | .agg cs => cs.toList.all scalarConst
 | v => scalarConst v
theorem VRel.scalarConst {φ : Emb} {v : Value} (h : scalarConst v = true) : VRel φ v v := by
 cases v with
 | bool b => exact .bool b
 | int k n => exact .int k n
 | string s => exact .str s
 | pointer p => cases p <;> simp [Abs.scalarConst] at h; exact .ptr0
 | slice a n c =>
  unfold Abs.scalarConst at h
  split at h <;> try contradiction
  rename_i heq
  injection heq with h1 h2 h3
  subst h1 h2 h3
  exact .sl0
 | map m => cases m <;> simp [Abs.scalarConst] at h; exact .map0
 | nilFunc => exact .nilFunc
 | nilIface => exact .nilIface
 | _ => simp [Abs.scalarConst] at h
theorem VRel.constOK {φ : Emb} {v : Value} (h : constOK v = true) : VRel φ v v := by
 unfold Abs.constOK at h
 split at h
 ·rename_i cs
  refine .agg _ _ rfl fun i hi => ?_
  have : cs.getD i (.tuple #[]) = cs[i] := by simp [hi]
  rw [this]
  exact VRel.scalarConst (List.all_eq_true.1 h _ (by simp))
 ·exact VRel.scalarConst h
abbrev Fr := Nat → Value
def ev (fr : Fr) : Operand → Value
 | .tmp t => fr t
 | .const v => if constOK v = true then v else undef
 | .global _ => undef
 | .func f => .func (.func f) #[] #[]
structure ARel (Ds : List Deferred) (φ : Emb) (n : Nat) (fr : Fr) (a : Act) : Prop where
 defers : a.defers = Ds
 size : a.tmps.size = n
 tmp : ∀ s,VRel φ (fr s) (a.tmps.getD s undef)
theorem ARel.mono {φ φ' : Emb} (h : φ.le φ') {n : Nat} {fr : Fr} {a : Act} (r : ARel Ds φ n fr a) : ARel Ds φ' n fr a :=
 ⟨r.defers,r.size,fun s => (r.tmp s).mono h⟩
theorem ARel.ev {φ : Emb} {n : Nat} {fr : Fr} {a : Act} (r : ARel Ds φ n fr a) (x : Operand) : VRel φ (Abs.ev fr x) (a.eval x) := by
 cases x with
 | tmp t => exact r.tmp t
 | const v =>
  simp only [Abs.ev,Act.eval]
  split
  ·exact VRel.constOK ‹_›
  ·exact .undef v
 | global g => exact .undef _
 | func f => exact .fn _ _ _ _ _ rfl (by simp) rfl (by simp)
def frput (fr : Fr) (d : Option Nat) (v : Value) : Fr :=
 match d with
 | some d => fun s => cond (Nat.beq s d) v (fr s)
 | none => fr
theorem qdK (fr : Fr) (d : Nat) (v : Value) : frput fr (some d) v d = v := by
 have : Nat.beq d d = true := Nat.beq_refl d
 simp [frput,this]
theorem qdm (fr : Fr) {d s : Nat} (v : Value) (h : s ≠ d) : frput fr (some d) v s = fr s := by
 have : Nat.beq s d = false := by
  cases hb : Nat.beq s d with
  | false => rfl
  | true => exact absurd (Nat.eq_of_beq_eq_true hb) h
 simp [frput,this]
theorem ARel.put {φ : Emb} {n : Nat} {fr : Fr} {a : Act} (r : ARel Ds φ n fr a) {d : Option Nat} (hd : ∀ t,d = some t → t < n) {v v' : Value} (hv : VRel φ v v') :
  ARel Ds φ n (frput fr d v) (a.put d v') := by
 cases d with
 | none => exact r
 | some d =>
  have hlt : d < a.tmps.size := by rw [r.size]; exact hd d rfl
  refine ⟨r.defers,by simp [Act.put,r.size],fun s => ?_⟩
  by_cases h : s = d
  ·subst h
   rw [qdK]
   simp [Act.put,hlt]
   exact hv
  ·have : (a.tmps.setIfInBounds d v').getD s undef = a.tmps.getD s undef := by
    simp [Array.getD_eq_getD_getElem?,Array.getElem?_setIfInBounds_ne (Ne.symm h)]
   rw [qdm _ _ h]
   simp only [Act.put,this]
   exact r.tmp s
end Go.Abs
