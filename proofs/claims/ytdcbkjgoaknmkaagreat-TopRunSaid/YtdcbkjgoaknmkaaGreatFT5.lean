/- Lemmas for the law: an abstract machine, and what the functions do on it. No condition. -/
import Derived.Test.YtdcbkjgoaknmkaaGreatFT4
import Derived.Carry
import Derived.OpenShut
import Derived.ProofKit
set_option linter.all false
open Go.IntKind renaming wrap → qlJ,bits → qmQ,signed → qnk
open List renaming getElem?_eq_getElem → qlK,getD_eq_getElem?_getD → qlM,getElem?_eq_none → qlR,getElem?_eq_some_iff → qlT,getElem?_map → qlW,mem_of_getElem? → qlX,getElem?_append_right → ql8,getElem?_append_left → qmd,length_eq_zero_iff → qmk,flatMap_cons → qmn,getElem?_take → qmr,all_eq_true → qmu,take_length → qmI,drop_zero → qmY,mem_append_left → qnf
open Go.Addr renaming add → qlL
open Bool renaming false_eq_true → qlU
open Option renaming isSome_none → ql4,map_some → qmi,getD_some → qms
open Array renaming getD_eq_getD_getElem? → ql9,getElem?_toList → qmN
open Nat renaming zero_le → qmT
open Option.some renaming injEq → qmU
namespace Go.Abs
open Go.RowKit
def stE (W : World) : Emb := fun b => if b < W.heap.size then some ⟨b,0,0⟩ else none
open Classical in
noncomputable def absC (W : World) (v : Value) : Value :=
 match v with
 | .slice (some a) n c => if n = 0 then .slice (some a) 0 0 else if a.spot = none ∧ a.block < W.heap.size ∧ n ≤ c then .slice (some a) n 0 else undef
 | v => if VRel (stE W) v v then v else undef
theorem qe2 (W : World) (v : Value) : VRel (stE W) (absC W v) v := by
 unfold absC
 split
 ·rename_i a n c
  split
  ·rename_i h; subst h; exact .sle _ _ _
  ·split
   ·rename_i h
    obtain ⟨b,o,s⟩ := a
    obtain ⟨h1,h2,h3⟩ := h
    simp only at h1 h2
    subst h1
    have hb : stE W b = some ⟨b,0,0⟩ := by simp [stE,h2]
    exact VRel.sl (B := ⟨b,0,0⟩) o n 0 c hb h3 (.inl rfl)
   ·exact .undef _
 ·split
  ·assumption
  ·exact .undef _
@[simp] theorem qlH (W : World) (k : IntKind) (n : Int) : absC W (.int k n) = .int k n := by simp [absC,VRel.int]
@[simp] theorem qlF (W : World) (b : Bool) : absC W (.bool b) = .bool b := by simp [absC,VRel.bool]
@[simp] theorem qlG (W : World) (s : ByteArray) : absC W (.string s) = .string s := by simp [absC,VRel.str]
@[simp] theorem qlv (W : World) : absC W (.slice none 0 0) = .slice none 0 0 := by simp [absC,VRel.sl0]
noncomputable def stH (W : World) : AH where
 size := W.heap.size
 get b := match W.heap[b]? with
  | some (.cells c _ _) => ⟨c.toList.map (absC W),.ro,0⟩
  | some _ => ⟨[],.ro,0⟩
  | none => ⟨[],.dead,0⟩
theorem stH_rel (W : World) : Rel W (stE W) (stH W) W := by
 have hdom : ∀ b B,stE W b = some B → b < W.heap.size ∧ B = ⟨b,0,0⟩ := by
  intro b B h
  unfold stE at h
  split at h
  ·injection h with h; exact ⟨‹_›,h.symm⟩
  ·cases h
 refine ⟨fun _ _ => rfl,Nat.le_refl _,rfl,rfl,rfl,fun _ _ _ _ => rfl,?_,?_,?_,?_,?_⟩
 ·intro b B h
  obtain ⟨h1,rfl⟩ := hdom b B h
  exact ⟨h1,h1⟩
 ·intro b B h hm i v hv
  obtain ⟨h1,rfl⟩ := hdom b B h
  simp only [stH] at hv hm
  split at hv
  ·rename_i c t fz hc
   simp only [qlW] at hv
   cases hi : c.toList[i]? with
   | none => simp [hi] at hv
   | some x =>
    rw [hi] at hv
    simp only [qmi,qmU] at hv
    subst hv
    refine ⟨x,?_,qe2 W x⟩
    simp only [World.cell?,hc]
    simpa using hi
  ·simp at hv
  ·simp at hv
 ·intro b B h hm
  simp only [stH] at hm
  split at hm <;> cases hm
 ·intro b B h hm
  simp only [stH] at hm
  split at hm <;> cases hm
 ·intro b hb
  have : W.heap[b]? = none := by simp; exact hb
  simp [stH,this]
theorem qkY {W : World} {a : Addr} {v : Value} (h : W.cell? a = some v) : (stH W).cell? a = some (absC W v) := by
 unfold World.cell? at h
 split at h
 ·rename_i c t fz hc
  split at h
  ·cases h
  ·rename_i hs
   have hs' : a.spot.isSome = false := by simpa using hs
   simp only [AH.cell?,stH,hc,hs',qlU,if_false]
   rw [if_neg (by simp)]
   simp only [qlW,qmN,h,qmi]
 ·cases h
theorem qke {P : Program} {f : FuncId} {args : List Value} {args' : Array Value} {W : World} (hl : LRel (stE W) args args'.toList)
  (h : qh P f args (stH W) fun e _ => in1 .bool e qn fun r => r = true) :
  Calls P f args' W fun e W' => e = .returned (.bool true) ∧ Below W.heap.size W W' ∧ ∀ a,a.block < W.heap.size → W'.frozen? a = W.frozen? a :=
 (h.2 W W (stE W) args' hl (stH_rel W)).mono fun e W' ⟨le,φ',H',_,he,R,hq⟩ => by
  cases le with
  | pan v => exact hq.elim
  | ret v =>
   simp only [in1,onRet,K.el,elB] at hq
   obtain ⟨b,hb,rfl⟩ := hq
   injection hb with hb
   subst hb
   cases e <;> simp only [qcR] at he
   cases he
   exact ⟨rfl,⟨R.os,R.tape,R.output,R.size,R.below⟩,fun a ha => by simp only [World.frozen?,R.below _ ha]⟩
theorem qfj {H : Type} {enc : TypeId × Value → H} {P : Program} (hl : laidOutB P = true) {W W' : World} (hb : Below W.heap.size W W') {sp : Nat → Bool} :
  ∀ {ts : List TypeId} {vs : List Value} {ds : List (DataW H)} {ps : List MemPlace},(∀ t ∈ ts,P.readableRec t = true ∧ t < P.types.size) →
   DataW.TrodAll enc P W 0 (fun _ => true) true ts vs ds ps → (∀ x ∈ ps,x.block < W.heap.size) → (∀ x ∈ ps,sp x.block = true) → DataW.TrodAll enc P W' 0 sp true ts vs ds ps
 | [],[],[],_,_,h,_,_ => h
 | [],_ :: _,_,_,_,h,_,_ => by simp [DataW.TrodAll] at h
 | [],[],_ :: _,_,_,h,_,_ => by simp [DataW.TrodAll] at h
 | _ :: _,[],_,_,_,h,_,_ => by simp [DataW.TrodAll] at h
 | _ :: _,_ :: _,[],_,_,h,_,_ => by simp [DataW.TrodAll] at h
 | t :: ts,v :: vs,d :: ds,ps,ht,⟨p,q,h1,h2,e⟩,hlt,hsp =>
  ⟨p,q,WideElems.Trod_stays hl (ht t (by simp)).1 (ht t (by simp)).2 h1 (fun x hx => hb.same (hlt x (by rw [e]; exact qnf _ hx))) (fun x hx => hsp x (by rw [e]; exact qnf _ hx)),
   qfj hl hb (fun t' h' => ht t' (by simp [h'])) h2 (fun x hx => hlt x (by rw [e]; exact List.mem_append_right _ hx)) (fun x hx => hsp x (by rw [e]; exact List.mem_append_right _ hx)),e⟩
end Go.Abs
namespace Go.Abs
theorem qp (H : AH) (o : AObj) (k : Nat → AH → Prop) : newC H o k = k H.size (H.push o) := rfl
theorem qf (j : IntKind) (n : Int) (k : Int → Prop) : elI j (some (.int j n)) k ↔ k n := by simp [elI]
theorem qbi (b : Bool) (k : Bool → Prop) : elB (some (.bool b)) k ↔ k b := by simp [elB]
theorem qE (p : Option Addr) (k : Option Addr → Prop) : elP (some (.pointer p)) k ↔ k p := by simp [elP]
theorem qag (a : Option Addr) (n c : Nat) (k : Sl → Prop) : elL (some (.slice a n c)) k ↔ k ⟨a,n,c⟩ := by
 constructor
 ·rintro ⟨⟨a',n',c'⟩,h,hk⟩
  simp only [Sl.val,qmU,Value.slice.injEq] at h
  obtain ⟨rfl,rfl,rfl⟩ := h
  exact hk
 ·intro h; exact ⟨_,rfl,h⟩
theorem qk9 {α : Type} (x : α) (k : α → Prop) : elO (some x) k ↔ k x := by simp [elO]
theorem qd (a : Addr) (k : Addr → Prop) : onPtr (some a) k ↔ k a := Iff.rfl
theorem qk (b o k : Nat) : qlL ⟨b,o,none⟩ k = ⟨b,o + k,none⟩ := by
 unfold qlL
 split
 ·rename_i h; subst h; rfl
 ·rfl
theorem qe (H : AH) (o : AObj) : (H.push o).size = H.size + 1 := rfl
theorem qm (H : AH) (o : AObj) (b : Nat) : (H.push o).get b = if b = H.size then o else H.get b := rfl
theorem qP (H : AH) (b : Nat) : (H.kill b).size = H.size := rfl
theorem qiB (H : AH) (b : Nat) (o : AObj) : (H.upd b o).size = H.size := rfl
theorem qu (H : AH) (b : Nat) (o : AObj) (x : Nat) : (H.upd b o).get x = if x = b then o else H.get x := rfl
theorem qdQ (H : AH) (cs : List Value) (e i : Nat) : AH.cell? (H.push ⟨cs,.rw,e⟩) ⟨H.size,i,none⟩ = cs[i]? := by
 simp [AH.cell?,qm]
theorem row_new {H : AH} {cs : List Value} {e n : Nat} (hn : cs.length = n) (hc : cs.all qo = true) : AH.row? (H.push ⟨cs,.rw,e⟩) ⟨H.size,0,none⟩ n = some cs := by
 subst hn
 simp only [AH.row?,qm]
 simp only [ql4,qlU,if_false,if_true]
 rw [if_neg (by simp),if_pos (by simp only [qmY,qmI]; exact ⟨by omega,hc⟩)]
 simp
theorem ql {H : AH} {a : Addr} {n : Nat} {cs : List Value} {k : List Value → Prop} (h : H.row? a n = some cs) : ldA H a n k ↔ k cs := by
 simp [ldA,h]
theorem AH.ext' {H H' : AH} (h : H.size = H'.size) (hg : ∀ b,H.get b = H'.get b) : H = H' := by
 obtain ⟨s,g⟩ := H
 obtain ⟨s',g'⟩ := H'
 simp only at h hg
 obtain rfl := h
 obtain rfl : g = g' := funext hg
 rfl
theorem qdq (H : AH) (cs : List Value) (e i : Nat) (vs : List Value) : AH.put (H.push ⟨cs,.rw,e⟩) ⟨H.size,i,none⟩ vs = H.push ⟨setMany cs i vs,.rw,e⟩ := by
 refine AH.ext' rfl fun b => ?_
 simp only [AH.put,qu,qm]
 split <;> simp_all
theorem qcC {H : AH} {cs : List Value} {e i n : Nat} : AH.canPut (H.push ⟨cs,.rw,e⟩) ⟨H.size,i,none⟩ n ↔ i + n ≤ cs.length := by
 simp [AH.canPut,qm]
theorem qaQ (H : AH) (a : Addr) (vs : List Value) (k : AH → Prop) : stC H a vs k ↔ H.canPut a vs.length ∧ k (H.put a vs) := Iff.rfl
theorem qa.put {H H' : AH} (h : qa H H') {a : Addr} (ha : H.size ≤ a.block) (vs : List Value) : qa H (H'.put a vs) := h.upd ha _
theorem qa.kill {H H' : AH} (h : qa H H') {b : Nat} (hb : H.size ≤ b) : qa H (H'.kill b) := h.upd hb _
theorem qI {τ : Type} {step : τ → AH → (τ → AH → Prop) → Prop} (I : τ → AH → Prop) (m : τ → AH → Nat)
  (hs : ∀ t H,I t H → ∀ it : τ → AH → Prop,(∀ t' H',I t' H' → m t' H' < m t H → it t' H') → step t H it) {t : τ} {H : AH} (h : I t H) : loopT step t H := by
 refine ⟨m t H + 1,?_⟩
 have key : ∀ n t H,I t H → m t H < n → loopN step n t H := by
  intro n
  induction n with
  | zero => intro t H _ h; omega
  | succ n ih =>
   intro t H hI hm
   exact hs t H hI _ fun t' H' hI' hm' => ih t' H' hI' (by omega)
 exact key _ t H h (by omega)
theorem qg {n : Int} (h : -9223372036854775808 ≤ n) (h' : n ≤ 9223372036854775807) : qlJ .i64 n = n := by
 simp only [qlJ,qmQ,qnk]
 simp only [Bool.true_and,decide_eq_true_eq,ge_iff_le,Nat.reduceSub,Int.reducePow]
 split <;> omega
theorem qbE {n : Int} (h : 0 ≤ n) (h' : n ≤ 18446744073709551615) : qlJ .u64 n = n := by
 simp only [qlJ,qmQ,qnk,Bool.false_and,Int.reducePow]
 simp only [qlU,if_false]
 omega
end Go.Abs
namespace Go.Abs
open Go.RowKit
theorem qfO {α β : Type} {f : α → Option β} : ∀ {l : List α} {r : List β},l.mapM f = some r → ∀ x ∈ l,∃ y,f x = some y := by
 intro l
 induction l with
 | nil => intro r _ x hx; cases hx
 | cons a l ih =>
  intro r h x hx
  rw [List.mapM_cons] at h
  cases ha : f a with
  | none => rw [ha] at h; simp at h
  | some y =>
   rw [ha] at h
   cases hl : l.mapM f with
   | none => rw [hl] at h; simp at h
   | some ys =>
    rcases List.mem_cons.1 hx with rfl | hx
    ·exact ⟨y,ha⟩
    ·exact ih hl x hx
def Rd {H : Type} (enc : TypeId × Value → H) (P : Program) (W : World) (t : TypeId) (cs : List Value) : Prop :=
 ∃ fuel x,DataW.trod enc P W 0 (fun _ => true) true fuel t cs = some x
section
variable {H : Type} {enc : TypeId × Value → H} {P : Program} {W : World} {t e : TypeId} {cs : List Value}
theorem Rd.of {v : Value} {d : DataW H} {ps : List MemPlace} (h : DataW.Trod enc P W 0 (fun _ => true) true t v d ps) : Rd enc P W t v.cells.toList := by
 obtain ⟨fuel,h⟩ := h
 exact ⟨fuel,_,h⟩
theorem Rd.step (h : Rd enc P W t cs) : ∃ (r : TypeId → List Value → Option (DataW H × List MemPlace)) (x : DataW H × List MemPlace),
  (∀ t cs x,r t cs = some x → Rd enc P W t cs) ∧ DataW.trodStep enc P W 0 (fun _ => true) true r t cs = some x := by
 obtain ⟨fuel,x,h⟩ := h
 cases fuel with
 | zero => simp [DataW.trod] at h
 | succ n =>
  rw [DataW.trod_step] at h
  exact ⟨_,x,fun t cs x hx => ⟨n,x,hx⟩,h⟩
theorem Rd.int {k : IntKind} (hu : P.underlying t = some (.int k)) (h : Rd enc P W t cs) : ∃ n,cs = [.int k n] ∧ (Lit.int k n).wf = true := by
 obtain ⟨r,x,_,h⟩ := h.step
 unfold DataW.trodStep at h
 rw [hu] at h
 split at h <;> simp_all
theorem Rd.struct {fs : Array Field} (hu : P.underlying t = some (.struct fs)) (h : Rd enc P W t cs) :
  cs.length = P.cellsOf t ∧ ∀ f ∈ fs.toList,Rd enc P W f.type ((cs.drop f.offset).take (P.cellsOf f.type)) := by
 obtain ⟨r,x,hr,h⟩ := h.step
 simp only [DataW.trodStep,hu] at h
 split at h
 ·rename_i hl
  refine ⟨hl,fun f hf => ?_⟩
  rw [Option.map_eq_some_iff] at h
  obtain ⟨xs,hm,_⟩ := h
  obtain ⟨y,hy⟩ := qfO hm f hf
  exact hr _ _ _ hy
 ·cases h
theorem Rd.field {fs : Array Field} (hu : P.underlying t = some (.struct fs)) (h : Rd enc P W t cs) (j : Nat) {f : Field} (hf : fs[j]? = some f) :
  Rd enc P W f.type ((cs.drop f.offset).take (P.cellsOf f.type)) :=
 (h.struct hu).2 f (by rw [← qmN] at hf; exact qlX hf)
theorem qlD {cs : List Value} {o : Nat} {v : Value} (h : (cs.drop o).take 1 = [v]) : cs[o]? = some v := by
 have : ((cs.drop o).take 1)[0]? = some v := by rw [h]; rfl
 rw [qmr] at this
 simpa using this
theorem Rd.intAt {o : Nat} {k : IntKind} (hu : P.underlying t = some (.int k)) (hc : P.cellsOf t = 1) (h : Rd enc P W t ((cs.drop o).take (P.cellsOf t))) : ∃ n,cs[o]? = some (.int k n) ∧ (Lit.int k n).wf = true := by
 obtain ⟨n,h1,h2⟩ := h.int hu
 rw [hc] at h1
 exact ⟨n,qlD h1,h2⟩
theorem Rd.slice (hu : P.underlying t = some (.slice e)) (h : Rd enc P W t cs) :
  cs = [.slice none 0 0] ∨ ∃ a n c,cs = [.slice (some a) n c] ∧ n ≤ c ∧ c ≤ maxLen ∧ ∀ i,i < n → ∃ row,W.cells? 0 (a.add (i * P.cellsOf e)) (P.cellsOf e) = some row ∧ Rd enc P W e row := by
 obtain ⟨r,x,hr,h⟩ := h.step
 have hs : cs = [.slice none 0 0] ∨ ∃ a n c,cs = [.slice (some a) n c] := by
  unfold DataW.trodStep at h
  rw [hu] at h
  split at h <;> simp_all
 rcases hs with rfl | ⟨a,n,c,rfl⟩
 ·exact .inl rfl
 ·simp only [DataW.trodStep,hu] at h
  split at h
  ·rename_i hc
   rw [Option.bind_eq_some_iff] at h
   obtain ⟨xs,hm,_⟩ := h
   refine .inr ⟨a,n,c,rfl,hc.2.1,hc.2.2,fun i hi => ?_⟩
   obtain ⟨y,hy⟩ := qfO hm i (by simpa using hi)
   rw [Option.bind_eq_some_iff] at hy
   obtain ⟨row,h1,h2⟩ := hy
   exact ⟨row,h1,hr _ _ _ h2⟩
  ·cases h
end
theorem qjl {P : Program} {W : World} {t : TypeId} {v : Value} {base : Nat} {fs : Array Field} (hu : P.underlying t = some (.struct fs)) (h : Value.okWide P W .any base t v) : ∃ cs,v = .agg cs := by
 simp only [Value.okWide,hu] at h
 obtain ⟨cs,h1,_⟩ := h
 exact ⟨cs,h1⟩
theorem qjG (W : World) (cs : Array Value) : VRel (stE W) (.agg (List.toArray (cs.toList.map (absC W)))) (.agg cs) := by
 refine .agg _ _ (by simp) fun i hi => ?_
 have hi' : i < cs.size := by simpa using hi
 simp only [ql9]
 simp only [List.getElem?_toArray,qlW,qmN,Array.getElem?_eq_getElem hi',qmi,qms]
 exact qe2 W _
theorem LRel.nil0 {φ : Emb} : LRel φ [] [] := ⟨rfl,fun i x y h => by simp at h⟩
theorem LRel.cons0 {φ : Emb} {x y : Value} {xs ys : List Value} (h : VRel φ x y) (hs : LRel φ xs ys) : LRel φ (x :: xs) (y :: ys) := by
 refine ⟨by simp [hs.1],fun i a b ha hb => ?_⟩
 cases i with
 | zero => simp at ha hb; subst ha hb; exact h
 | succ i => simp at ha hb; exact hs.2 i a b ha hb
theorem wf_i64 {n : Int} (h : (Lit.int .i64 n).wf = true) : -9223372036854775808 ≤ n ∧ n ≤ 9223372036854775807 := by
 simp [Lit.wf,IntKind.min,IntKind.max,qnk,qmQ] at h; omega
theorem wf_u8 {n : Int} (h : (Lit.int .u8 n).wf = true) : 0 ≤ n ∧ n ≤ 255 := by
 simp [Lit.wf,IntKind.min,IntKind.max,qnk,qmQ] at h; omega
theorem qkr {H : Type} {enc : TypeId × Value → H} {P : Program} (hl : laidOutB P = true) {W W' : World} (hb : Below W.heap.size W W') {sp : Nat → Bool}
  {ts : List TypeId} {vs : List Value} {ds : List (DataW H)} {ps : List MemPlace} (ht : ts.all (fun t => P.readableRec t && Nat.blt t P.types.size) = true)
  (h : DataW.TrodAll enc P W 0 (fun _ => true) true ts vs ds ps) (hlt : ∀ x ∈ ps,x.block < W.heap.size) (hsp : ∀ x ∈ ps,sp x.block = true) : DataW.TrodAll enc P W' 0 sp true ts vs ds ps := by
 refine qfj hl hb (fun t h' => ?_) h hlt hsp
 have := List.all_eq_true.1 ht t h'
 simp only [Bool.and_eq_true] at this
 exact ⟨this.1,by simpa [Nat.blt_eq] using this.2⟩
end Go.Abs
namespace Go.Abs
theorem qi8 {W : World} {a : Addr} {n : Nat} {row : List Value} (hn : 0 < n) (h : W.cells? 0 a n = some row) : a.spot = none ∧ a.block < W.heap.size := by
 unfold World.cells? at h
 rw [if_pos (qmT _)] at h
 obtain ⟨y,hy⟩ := qfO h 0 (by simpa using hn)
 have ha : a.add 0 = a := by simp [qlL]
 rw [ha] at hy
 unfold World.cell? at hy
 split at hy
 ·rename_i c t fz hc
  have hb : a.block < W.heap.size := (Array.getElem?_eq_some_iff.1 hc).1
  split at hy
  ·cases hy
  ·rename_i hs
   exact ⟨by simpa using hs,hb⟩
 ·cases hy
theorem Rd.sliceS {H : Type} {enc : TypeId × Value → H} {P : Program} {W : World} {t e : TypeId} {v : Value} (hu : P.underlying t = some (.slice e)) (hz : 0 < P.cellsOf e) (h : Rd enc P W t [v]) :
  ∃ s : Sl,absC W v = s.val ∧ s.k = 0 ∧ s.n ≤ maxLen ∧ ∀ i,i < s.n → ∃ a row,s.a = some a ∧ a.spot = none ∧ a.block < W.heap.size ∧ W.cells? 0 (a.add (i * P.cellsOf e)) (P.cellsOf e) = some row ∧ Rd enc P W e row := by
 rcases h.slice hu with h | ⟨a,n,c,h,hn,hc,hr⟩
 ·simp only [List.cons.injEq,and_true] at h
  subst h
  exact ⟨⟨none,0,0⟩,qlv W,rfl,qmT _,fun i hi => by simp at hi⟩
 ·simp only [List.cons.injEq,and_true] at h
  subst h
  by_cases h0 : n = 0
  ·subst h0
   exact ⟨⟨some a,0,0⟩,by simp [absC],rfl,qmT _,fun i hi => by simp at hi⟩
  ·obtain ⟨row,h1,_⟩ := hr 0 (by omega)
   have ha : a.add (0 * P.cellsOf e) = a := by simp [qlL]
   rw [ha] at h1
   obtain ⟨hs,hb⟩ := qi8 hz h1
   refine ⟨⟨some a,n,0⟩,?_,rfl,Nat.le_trans hn hc,fun i hi => ?_⟩
   ·simp only [absC]
    rw [if_neg h0,if_pos ⟨hs,hb,hn⟩]
   ·obtain ⟨row,h1,h2⟩ := hr i hi
    exact ⟨a,row,rfl,hs,hb,h1,h2⟩
def AH.more (H : AH) (os : List AObj) : AH where
 size := H.size + os.length
 get b := if b < H.size then H.get b else (os[b - H.size]?).getD (H.get b)
theorem qgF (H : AH) (o : AObj) : H.push o = H.more [o] := by
 refine AH.ext' (by simp [AH.push,AH.more]) fun b => ?_
 simp only [qm,AH.more]
 by_cases h : b < H.size
 ·rw [if_neg (by omega),if_pos h]
 ·by_cases h' : b = H.size
  ·subst h'; simp
  ·rw [if_neg h',if_neg h]
   have : 0 < b - H.size := by omega
   obtain ⟨k,hk⟩ : ∃ k,b - H.size = k + 1 := ⟨b - H.size - 1,by omega⟩
   rw [hk]; simp
theorem qc2 (H : AH) (os : List AObj) : (H.more os).size = H.size + os.length := rfl
theorem qef (H : AH) (os : List AObj) (i : Nat) : (H.more os).get (H.size + i) = (os[i]?).getD (H.get (H.size + i)) := by
 simp only [AH.more]
 rw [if_neg (by omega)]
 simp
theorem qgs (H : AH) (os : List AObj) {b : Nat} (h : b < H.size) : (H.more os).get b = H.get b := by simp [AH.more,h]
theorem qli (H : AH) (os : List AObj) (i : Nat) (o : AObj) (h : i < os.length) : (H.more os).upd (H.size + i) o = H.more (os.set i o) := by
 refine AH.ext' (by simp [AH.upd,AH.more]) fun b => ?_
 simp only [qu,AH.more]
 by_cases hb : b < H.size
 ·rw [if_neg (by omega),if_pos hb,if_pos hb]
 ·simp only [if_neg hb]
  by_cases h' : b = H.size + i
  ·subst h'; simp [h]
  ·rw [if_neg h',List.getElem?_set_ne (by omega)]
theorem qhO (H : AH) (os : List AObj) (i j : Nat) (vs : List Value) (o : AObj) (h : os[i]? = some o) :
  (H.more os).put ⟨H.size + i,j,none⟩ vs = H.more (os.set i ⟨setMany o.cells j vs,o.md,o.esz⟩) := by
 have hi : i < os.length := by
  rcases Nat.lt_or_ge i os.length with h' | h'
  ·exact h'
  ·rw [qlR h'] at h; cases h
 simp only [AH.put]
 rw [qli _ _ _ _ hi,qef,h]
 rfl
theorem qgc (H : AH) (os : List AObj) (i n : Nat) (o : AObj) (h : os[i]? = some o) (hm : o.md ≠ .dead) (hn : o.cells.length = n) (hc : o.cells.all qo = true) :
  AH.row? (H.more os) ⟨H.size + i,0,none⟩ n = some o.cells := by
 subst hn
 simp only [AH.row?,qef,h,qms,ql4,qlU,if_false]
 rw [if_neg hm,if_pos (by simp only [qmY,qmI]; exact ⟨by omega,hc⟩)]
 simp
theorem qf9 (H : AH) (os : List AObj) (i j n : Nat) (o : AObj) (h : os[i]? = some o) (hm : o.md = .rw) (hn : j + n ≤ o.cells.length) : AH.canPut (H.more os) ⟨H.size + i,j,none⟩ n := by
 simp only [AH.canPut,qef,h,qms]
 exact ⟨trivial,hm,hn⟩
theorem qa.more (H : AH) (os : List AObj) : qa H (H.more os) := ⟨by simp [qc2],fun b hb => qgs H os hb⟩
theorem qv {H : AH} {o : AObj} {b : Nat} (h : b ≠ H.size) : (H.push o).get b = H.get b := by simp [qm,h]
theorem qcy {H : AH} {b b' : Nat} (h : b' ≠ b) : (H.kill b).get b' = H.get b' := by simp [AH.kill,qu,h]
theorem qcQ {α : Type} {f : α → List Value} {z : Nat} (hf : ∀ x,(f x).length = z) (l : List α) : (l.flatMap f).length = l.length * z := by
 induction l with
 | nil => simp
 | cons a l ih => simp [ih,hf,Nat.succ_mul,Nat.add_comm]
theorem qge {α : Type} {f : α → List Value} {z : Nat} (hf : ∀ x,(f x).length = z) : ∀ (l : List α) (i : Nat) (x : α),l[i]? = some x → ((l.flatMap f).drop (i * z)).take z = f x := by
 intro l
 induction l with
 | nil => intro i x h; simp at h
 | cons a l ih =>
  intro i x h
  cases i with
  | zero =>
   simp only [List.getElem?_cons_zero,qmU] at h
   subst h
   simp only [Nat.zero_mul,qmY,qmn]
   rw [List.take_append_of_le_length (by rw [hf]; exact Nat.le_refl _),← hf a,qmI]
  | succ i =>
   simp only [List.getElem?_cons_succ] at h
   rw [← ih i x h,qmn,Nat.succ_mul,Nat.add_comm,← List.drop_drop]
   congr 2
   rw [← hf a,List.drop_left]
def Rows {α : Type} (H : AH) (s : Sl) (z : Nat) (f : α → List Value) (l : List α) : Prop :=
 s.n = l.length ∧ ∀ i x,l[i]? = some x → ∃ a,s.a = some a ∧ a.spot = none ∧ a.block < H.size ∧ AH.row? H ⟨a.block,a.off + i * z,none⟩ z = some (f x)
def Own {α : Type} (B : Nat) (H : AH) (s : Sl) (z : Nat) (f : α → List Value) (l : List α) : Prop :=
 (s = ⟨none,0,0⟩ ∧ l = []) ∨ ∃ b,s = ⟨some ⟨b,0,none⟩,l.length,1⟩ ∧ B ≤ b ∧ b < H.size ∧ H.get b = ⟨l.flatMap f,.rw,z⟩
theorem Own.rows {α : Type} {B : Nat} {H : AH} {s : Sl} {z : Nat} {f : α → List Value} {l : List α} (h : Own B H s z f l) (hf : ∀ x,(f x).length = z) (hc : ∀ x,(f x).all qo = true) : Rows H s z f l := by
 rcases h with ⟨rfl,rfl⟩ | ⟨b,rfl,_,hb,hg⟩
 ·exact ⟨rfl,fun i x h => by simp at h⟩
 ·refine ⟨rfl,fun i x hi => ⟨_,rfl,rfl,hb,?_⟩⟩
  have hlt : i < l.length := (List.getElem?_eq_some_iff.1 hi).1
  have hr := qge hf l i x hi
  simp only [AH.row?,hg,ql4,qlU,if_false,Nat.zero_add]
  have hle : i * z + z ≤ (l.flatMap f).length := by
   rw [qcQ hf]
   calc i * z + z = (i + 1) * z := by rw [Nat.succ_mul]
    _ ≤ l.length * z := Nat.mul_le_mul_right _ hlt
  rw [if_neg (by simp),hr,if_pos ⟨hle,hc x⟩]
theorem Own.keep {α : Type} {B : Nat} {H H' : AH} {s : Sl} {z : Nat} {f : α → List Value} {l : List α} (h : Own B H s z f l) (hs : H.size ≤ H'.size) (hg : ∀ b,B ≤ b → b < H.size → H'.get b = H.get b) : Own B H' s z f l := by
 rcases h with h | ⟨b,h1,h2,h3,h4⟩
 ·exact .inl h
 ·exact .inr ⟨b,h1,h2,by omega,by rw [hg b h2 h3]; exact h4⟩
theorem Rows.keep {α : Type} {H H' : AH} {s : Sl} {z : Nat} {f : α → List Value} {l : List α} (h : Rows H s z f l) (hs : qa H H') : Rows H' s z f l := by
 refine ⟨h.1,fun i x hi => ?_⟩
 obtain ⟨a,h1,h2,h3,h4⟩ := h.2 i x hi
 refine ⟨a,h1,h2,by have := hs.1; omega,?_⟩
 simp only [AH.row?] at h4 ⊢
 rw [hs.2 _ h3]
 exact h4
theorem Rows.at {α : Type} {H : AH} {s : Sl} {z : Nat} {f : α → List Value} {l : List α} (h : Rows H s z f l) {i : Nat} (hi : i < l.length) :
  ∃ b o,s.a = some ⟨b,o,none⟩ ∧ b < H.size ∧ AH.row? H (qlL ⟨b,o,none⟩ (i * z)) z = some (f (l[i])) := by
 obtain ⟨a,h1,h2,h3,h4⟩ := h.2 i l[i] (qlK hi)
 obtain ⟨b,o,sp⟩ := a
 simp only at h2 h3 h4
 subst h2
 exact ⟨b,o,h1,h3,by rw [qk]; exact h4⟩
theorem qbB {α : Type} {H0 H : AH} {B : Nat} {s : Sl} {z : Nat} {f : α → List Value} {l : List α} {x : α} {k : Sl → AH → Prop} (hf : ∀ x,(f x).length = z) (hc : (f x).all qo = true)
  (hO : Own B H s z f l) (hB : H0.size ≤ B) (hBH : B ≤ H.size) (hK : qa H0 H) (hlim : l.length + 1 ≤ lim)
  (h : ∀ s' H',Own B H' s' z f (l ++ [x]) → qa H0 H' → H.size ≤ H'.size → (∀ b,b < H.size → (∀ a,s.a = some a → b ≠ a.block) → H'.get b = H.get b) → k s' H') :
  appendC z (H.push ⟨f x,.rw,z⟩) s ⟨some ⟨H.size,0,none⟩,1,1⟩ k := by
 have hrow : AH.rowS? (H.push ⟨f x,.rw,z⟩) ⟨some ⟨H.size,0,none⟩,1,1⟩ z = some (f x) := by
  simp only [AH.rowS?,Nat.one_mul]
  rw [if_neg (by simp)]
  exact row_new (hf x) hc
 have hKp := hK.push (⟨f x,.rw,z⟩ : AObj)
 have hge := hK.1
 rcases hO with ⟨rfl,rfl⟩ | ⟨b,rfl,hb1,hb2,hg⟩
 ·refine ⟨le_limS (by simp [lim]) _,?_⟩
  rw [if_neg (by simp)]
  refine ⟨_,hrow,?_⟩
  refine h _ _ (.inr ⟨_,rfl,?_,?_,?_⟩) (hKp.push _) ?_ ?_
  ·simp only [qe]; omega
  ·simp [qe]
  ·simp [qm]
  ·simp [qe]; omega
  ·intro b hb _
   rw [qv (by simp only [qe]; omega),qv (by omega)]
 ·refine ⟨le_limS hlim _,?_⟩
  rw [if_neg (by simp)]
  refine ⟨_,hrow,⟨rfl,rfl,rfl,?_,?_,?_⟩,?_⟩
  ·simp only [qm]; rw [if_neg (by omega),hg]
  ·simp only [qm]; rw [if_neg (by omega),hg,qcQ hf]
  ·simp only [qm]; rw [if_neg (by omega),hg]
  ·refine h _ _ (.inr ⟨H.size + 1,?_,?_,?_,?_⟩) ((hKp.kill (b := b) (Nat.le_trans hB hb1)).push _) ?_ ?_
   ·simp [newAt,qe]
   ·omega
   ·simp [qe,qP]
   ·simp only [qm,qP,qe,if_true]
    rw [if_neg (by omega),hg]
    simp
   ·simp [qe,qP]; omega
   ·intro b' hb' hne
    have hne' : b' ≠ b := hne _ rfl
    rw [qv (by simp only [qP,qe]; omega),qcy hne',qv (by omega)]
inductive RV (ρ : Nat → Option Nat) : Value → Value → Prop where
 | flat {v : Value} (h : flatC v = true) : RV ρ v v
 | undef (v : Value) : RV ρ (.tuple #[]) v
 | ptr {b b' : Nat} (o : Nat) (h : ρ b = some b') : RV ρ (.pointer (some ⟨b,o,none⟩)) (.pointer (some ⟨b',o,none⟩))
 | sl {b b' : Nat} (o n k : Nat) (h : ρ b = some b') : RV ρ (.slice (some ⟨b,o,none⟩) n k) (.slice (some ⟨b',o,none⟩) n k)
 | agg (as bs : List Value) (h1 : as.length = bs.length) (h2 : ∀ i,i < as.length → RV ρ (as.getD i (.tuple #[])) (bs.getD i (.tuple #[]))) : RV ρ (.agg as.toArray) (.agg bs.toArray)
theorem RV.rel {ρ : Nat → Option Nat} {φ : Emb} {x y v : Value} (h : RV ρ x y) : VRel φ y v → VRel (fun b => (ρ b).bind φ) x v := by
 induction h generalizing v with
 | flat h => exact fun r => qfn h r
 | undef v => exact fun _ => .undef _
 | ptr o h =>
  intro r
  cases r with
  | ptr _ hb => exact .ptr o (by simp [h,hb])
 | sl o n k h =>
  intro r
  cases r with
  | sl _ _ _ k' hb hn hk => exact .sl o n k k' (by simp [h,hb]) hn hk
  | sle a a' k' => exact .sle _ _ _
 | agg as bs h1 h2 ih =>
  intro r
  cases r with
  | agg _ cs e1 e2 =>
   refine .agg _ cs (by simpa [h1] using e1) fun i hi => ?_
   have hi' : i < as.length := by simpa using hi
   have e3 := e2 i (by simpa [← h1] using hi')
   have e4 : bs.toArray.getD i (.tuple #[]) = bs.getD i (.tuple #[]) := by simp [qlM,ql9]
   have e5 : as.toArray.getD i (.tuple #[]) = as.getD i (.tuple #[]) := by simp [qlM,ql9]
   rw [e4] at e3
   rw [e5]
   exact ih i hi' e3
def REnd (ρ : Nat → Option Nat) : LEnd → LEnd → Prop
 | .ret x,.ret y => RV ρ x y ∨ ∃ as bs : List Value,x = .tuple as.toArray ∧ y = .tuple bs.toArray ∧ as ≠ [] ∧ as.length = bs.length ∧ ∀ (i : Nat) (a b : Value),as[i]? = some a → bs[i]? = some b → RV ρ a b
 | .pan x,.pan y => RV ρ x y
 | _,_ => False
theorem qkZ {ρ : Nat → Option Nat} {φ : Emb} {as bs : List Value} {v : Value} (h0 : ∀ (i : Nat) (a b : Value),as[i]? = some a → bs[i]? = some b → RV ρ a b) (h1 : as.length = bs.length) (hne : as ≠ []) (r : VRel φ (.tuple bs.toArray) v) :
  VRel (fun b => (ρ b).bind φ) (.tuple as.toArray) v := by
 generalize hx : Value.tuple bs.toArray = x at r
 cases r with
 | undef v =>
  injection hx with hx
  have : bs = [] := by simpa using congrArg Array.toList hx
  subst this
  exact absurd (List.length_eq_zero_iff.1 h1) hne
 | skip =>
  injection hx with hx
  have hb : bs = [.tuple #[]] := by simpa using congrArg Array.toList hx
  subst hb
  match as,h1 with
  | [a],_ =>
   have h := h0 0 a _ rfl rfl
   cases h with
   | flat h => simp [flatC] at h
   | undef _ =>
    exact .skip
 | tup _ cs e1 e2 =>
  injection hx with hx
  subst hx
  refine .tup _ cs (by simpa [h1] using e1) fun i hi => ?_
  have hi' : i < as.length := by simpa using hi
  have hb : i < bs.length := by omega
  have h := h0 i as[i] bs[i] (by simp [hi']) (by simp [hb])
  have h2 := e2 i (by simpa using hb)
  have ea : as.toArray.getD i (.tuple #[]) = as[i] := by simp [ql9,hi']
  have eb : bs.toArray.getD i (.tuple #[]) = bs[i] := by simp [ql9,hb]
  rw [ea]
  rw [eb] at h2
  exact h.rel h2
 | _ => cases hx
theorem REnd.rel {ρ : Nat → Option Nat} {φ : Emb} {le le' : LEnd} {e : Ending} (h : REnd ρ le le') (r : qcR φ le' e) : qcR (fun b => (ρ b).bind φ) le e := by
 cases le with
 | ret x =>
  cases le' with
  | ret y =>
   cases e <;> simp only [qcR] at r ⊢
   rcases h with h | ⟨as,bs,rfl,rfl,h0,h1,h2⟩
   ·exact h.rel r
   ·exact qkZ h2 h1 h0 r
  | pan y => exact h.elim
 | pan x =>
  cases le' with
  | ret y => exact h.elim
  | pan y =>
   cases e <;> simp only [qcR] at r ⊢
   obtain ⟨v',rfl,hv⟩ := r
   exact ⟨v',rfl,RV.rel h hv⟩
def OLike (ρ : Nat → Option Nat) (o o' : AObj) : Prop :=
 o.md = o'.md ∧ o.esz = o'.esz ∧ ∀ (i : Nat) (v : Value),o.cells[i]? = some v → ∃ v',o'.cells[i]? = some v' ∧ RV ρ v v'
structure Ren (ρ : Nat → Option Nat) (H H' H2 : AH) : Prop where
 size : H.size ≤ H2.size
 low : ∀ b,b < H.size → ρ b = some b
 src : ∀ b b',ρ b = some b' → b < H2.size
 inj : ∀ b c x,ρ b = some x → ρ c = some x → b = c
 same : ∀ b,b < H.size → H'.get b = H.get b → H2.get b = H.get b
 obj : ∀ b b',ρ b = some b' → (b < H.size ∧ H'.get b = H.get b) ∨ OLike ρ (H2.get b) (H'.get b')
 out : ∀ b,H2.size ≤ b → (H2.get b).md = .dead
theorem Rel.ren {W w w' : World} {φ φ' : Emb} {H H' H2 : AH} {ρ : Nat → Option Nat} (R : Rel W φ H w) (R' : Rel W φ' H' w') (hh : Hist φ H φ' H') (hr : Ren ρ H H' H2) :
  Rel W (fun b => (ρ b).bind φ') H2 w' ∧ Hist φ H (fun b => (ρ b).bind φ') H2 := by
 have hle : φ.le (fun b => (ρ b).bind φ') := by
  intro b B hb
  simp only [hr.low b (R.dom b B hb).1,Option.bind_some]
  exact hh.1 b B hb
 have get : ∀ {b B},((ρ b).bind φ') = some B → ∃ b',ρ b = some b' ∧ φ' b' = some B := by
  intro b B h
  cases hb : ρ b with
  | none => rw [hb] at h; cases h
  | some b' => rw [hb] at h; exact ⟨b',rfl,h⟩
 have old : ∀ {b B},b < H.size → φ' b = some B → φ b = some B := by
  intro b B hb h
  cases hp : φ b with
  | none => rw [hh.2.2.1 b hb hp] at h; cases h
  | some C => rw [hh.1 b C hp] at h; exact h
 have self : ∀ {b b'},b < H.size → ρ b = some b' → b' = b := by
  intro b b' h1 h2
  rw [hr.low b h1] at h2
  exact (Option.some.inj h2).symm
 -- modes
 have md : ∀ {b b'},ρ b = some b' → (H2.get b).md = (H'.get b').md ∧ (H2.get b).esz = (H'.get b').esz := by
  intro b b' hb
  rcases hr.obj b b' hb with ⟨h1,h2⟩ | h
  ·rw [self h1 hb,hr.same b h1 h2,h2]; exact ⟨rfl,rfl⟩
  ·exact ⟨h.1,h.2.1⟩
 refine ⟨⟨R'.below,R'.size,R'.tape,R'.os,R'.output,fun b B h => by obtain ⟨b',_,h2⟩ := get h; exact R'.froz b' B h2,?_,?_,?_,?_,hr.out⟩,hle,hr.size,?_,?_⟩
 ·intro b B h
  obtain ⟨b',h1,h2⟩ := get h
  exact ⟨hr.src b b' h1,(R'.dom b' B h2).2⟩
 ·intro b B h hm i v hv
  obtain ⟨b',h1,h2⟩ := get h
  rcases hr.obj b b' h1 with ⟨h3,h4⟩ | ho
  ·obtain rfl := self h3 h1
   rw [hr.same _ h3 h4] at hm hv
   have hB := old h3 h2
   obtain ⟨v0,_,hv0⟩ := R.cell _ B hB hm i v hv
   obtain ⟨v',hc,hr'⟩ := R'.cell _ B h2 (by rw [h4]; exact hm) i v (by rw [h4]; exact hv)
   exact ⟨v',hc,(hv0.back hh.1 hr').mono hle⟩
  ·obtain ⟨v1,h5,h6⟩ := ho.2.2 i v hv
   obtain ⟨v',hc,hr'⟩ := R'.cell b' B h2 (by rw [← ho.1]; exact hm) i v1 h5
   exact ⟨v',hc,h6.rel hr'⟩
 ·intro b B h hm
  obtain ⟨b',h1,h2⟩ := get h
  obtain ⟨e1,e2⟩ := md h1
  rw [e1] at hm
  rw [e2]
  exact R'.room b' B h2 hm
 ·intro b B h hm c C h' hc
  obtain ⟨b',h1,h2⟩ := get h
  obtain ⟨c',h1',h2'⟩ := get h'
  rw [(md h1).1] at hm
  rcases R'.own b' B h2 hm c' C h2' hc with e | e
  ·subst e; exact .inl (hr.inj _ _ _ h1' h1)
  ·exact .inr (by rw [(md h1').1]; exact e)
 ·intro b hb hn
  simp only [hr.low b hb,Option.bind_some]
  exact hh.2.2.1 b hb hn
 ·intro b hb hn
  exact hr.same b hb (hh.2.2.2 b hb hn)
theorem qh.canon {P : Program} {f : FuncId} {args : List Value} {H : AH} {Q Q2 : LEnd → AH → Prop} (h : qh P f args H Q)
  (hc : ∀ e H',H.size ≤ H'.size → Q e H' → ∃ ρ e2 H2,Ren ρ H H' H2 ∧ REnd ρ e2 e ∧ Q2 e2 H2) : qh P f args H Q2 :=
 ⟨h.1,fun W w φ args' hl R => (h.2 W w φ args' hl R).mono fun _ _ ⟨le,φ',H',hh,he,R',hq⟩ => by
  obtain ⟨ρ,e2,H2,hr,hre,hq2⟩ := hc le H' hh.2.1 hq
  obtain ⟨R2,hh2⟩ := R.ren R' hh hr
  exact ⟨e2,_,H2,hh2,hre.rel he,R2,hq2⟩⟩
def AH.good (H : AH) : Prop := ∀ b,H.size ≤ b → (H.get b).md = .dead
theorem qh.good {P : Program} {f : FuncId} {args : List Value} {H : AH} {Q : LEnd → AH → Prop} (h0 : enterable P f = true) (h : H.good → qh P f args H Q) : qh P f args H Q :=
 ⟨h0,fun W w φ args' hl R => (h R.out).2 W w φ args' hl R⟩
def lowV (n : Nat) : Value → Bool
 | .pointer (some ⟨b,_,none⟩) => decide (b < n)
 | .slice (some ⟨b,_,none⟩) _ _ => decide (b < n)
 | v => flatC v
theorem rv_low {ρ : Nat → Option Nat} {n : Nat} (hρ : ∀ b,b < n → ρ b = some b) {v : Value} (h : lowV n v = true) : RV ρ v v := by
 unfold lowV at h
 split at h
 ·rename_i b o
  exact .ptr o (hρ b (by simpa using h))
 ·rename_i b o m k
  exact .sl o m k (hρ b (by simpa using h))
 ·exact .flat h
theorem qe7 {ρ : Nat → Option Nat} {v : Value} (h : flatV v = true) : RV ρ v v := by
 cases v with
 | agg vs =>
  have := RV.agg (ρ := ρ) vs.toList vs.toList rfl (fun i hi => .flat ?_)
  ·simpa using this
  ·simp only [flatV,qmu] at h
   refine h _ ?_
   rw [qlM,qlK hi,qms]
   exact List.getElem_mem hi
 | _ => exact .flat h
structure At (H H' H2 : AH) : Prop where
 size : H2.size = H.size
 get : ∀ b,b < H.size → H'.get b = H2.get b
 out : ∀ b,H.size ≤ b → H2.get b = H.get b
 low : ∀ b,b < H.size → H2.get b = H.get b ∨ (H2.get b).cells.all (lowV H.size) = true
theorem At.of_keeps {H H' : AH} (h : qa H H') : At H H' H := ⟨rfl,h.2,fun _ _ => rfl,fun _ _ => .inl rfl⟩
theorem qh8 {ρ : Nat → Option Nat} {H H' Hu : AH} (hg : H.good) (hu : At H H' Hu) (os : List AObj) (bs : List (Option Nat)) (hl : bs.length = os.length) (hρ : ∀ b,ρ b = if b < H.size then some b else (bs[b - H.size]?).getD none)
  (hb : ∀ b,some b ∈ bs → H.size ≤ b) (hd : ∀ (i j b : Nat),bs[i]? = some (some b) → bs[j]? = some (some b) → i = j)
  (ho : ∀ (i b : Nat) (o : AObj),bs[i]? = some (some b) → os[i]? = some o → OLike ρ o (H'.get b)) : Ren ρ H H' (Hu.more os) := by
 have hs := hu.size
 have lowρ : ∀ b,b < H.size → ρ b = some b := fun b hb => by rw [hρ,if_pos hb]
 have new : ∀ {b x},ρ b = some x → (b < H.size ∧ x = b) ∨ (H.size ≤ b ∧ bs[b - H.size]? = some (some x)) := by
  intro b x h
  rw [hρ] at h
  split at h
  ·exact .inl ⟨‹_›,(Option.some.inj h).symm⟩
  ·refine .inr ⟨by omega,?_⟩
   cases hx : bs[b - H.size]? with
   | none => rw [hx] at h; cases h
   | some y => rw [hx] at h; simp at h; rw [h]
 refine ⟨by rw [qc2]; omega,lowρ,?_,?_,?_,?_,?_⟩
 ·intro b x h
  rw [qc2]
  rcases new h with ⟨h1,_⟩ | ⟨h1,h2⟩
  ·omega
  ·have := (List.getElem?_eq_some_iff.1 h2).1; omega
 ·intro b c x h h'
  rcases new h with ⟨h1,e1⟩ | ⟨h1,h2⟩ <;> rcases new h' with ⟨h1',e1'⟩ | ⟨h1',h2'⟩
  ·omega
  ·have := hb x (qlX h2'); omega
  ·have := hb x (qlX h2); omega
  ·have := hd _ _ _ h2 h2'; omega
 ·intro b hb he
  rw [qgs _ _ (by omega),← hu.get b hb,he]
 ·intro b x h
  rcases new h with ⟨h1,e1⟩ | ⟨h1,h2⟩
  ·subst e1
   rw [qgs _ _ (by omega)]
   rcases hu.low _ h1 with h3 | h3
   ·exact .inl ⟨h1,by rw [hu.get _ h1,h3]⟩
   ·refine .inr ⟨by rw [hu.get _ h1],by rw [hu.get _ h1],fun i v hv => ⟨v,by rw [hu.get _ h1]; exact hv,?_⟩⟩
    exact rv_low (n := H.size) lowρ (List.all_eq_true.1 h3 v (qlX hv))
  ·right
   have hlt := (List.getElem?_eq_some_iff.1 h2).1
   have e : b = Hu.size + (b - H.size) := by omega
   have : (Hu.more os).get b = os[b - H.size]'(by omega) := by
    conv => lhs; rw [e]
    rw [qef,qlK (by omega),qms]
   rw [this]
   exact ho _ _ _ h2 (qlK (by omega))
 ·intro b hb
  rw [qc2] at hb
  have e : b = Hu.size + (b - Hu.size) := by omega
  rw [e,qef,qlR (by omega),Option.getD_none,← e,hu.out b (by omega)]
  exact hg b (by omega)
theorem qfM (H : AH) (os : List AObj) (b : Nat) : (H.more os).get b = if b < H.size then H.get b else (os[b - H.size]?).getD (H.get b) := rfl
theorem qkb (H : AH) (os os' : List AObj) : (H.more os).more os' = H.more (os ++ os') := by
 refine AH.ext' (by simp [qc2]; omega) fun b => ?_
 rw [qfM,qfM,qfM,qc2]
 by_cases h : b < H.size
 ·rw [if_pos (by omega),if_pos h,if_pos h]
 ·simp only [if_neg h]
  by_cases h' : b < H.size + os.length
  ·rw [if_pos h',qmd (by omega)]
  ·rw [if_neg h',ql8 (by omega),show b - (H.size + os.length) = b - H.size - os.length from by omega,qlR (by omega : os.length ≤ b - H.size)]
   rfl
theorem qlw (H : AH) : H.more [] = H := AH.ext' (by simp [qc2]) fun b => by
 simp only [AH.more]; split
 ·rfl
 ·simp
theorem ren_at {H H' Hu : AH} (hg : H.good) (hu : At H H' Hu) : Ren (fun b => if b < H.size then some b else none) H H' Hu := by
 have := qh8 (ρ := fun b => if b < H.size then some b else none) hg hu [] [] rfl (fun b => by simp) (by simp) (by simp) (by simp)
 rwa [qlw] at this
def oneB (n : Nat) (b : Option Nat) : Nat → Option Nat := fun x => if x < n then some x else if x = n then b else none
theorem qiz {H H' Hu : AH} (hg : H.good) (hu : At H H' Hu) (o : AObj) (b : Option Nat) (hb : ∀ x,b = some x → H.size ≤ x) (ho : ∀ x,b = some x → OLike (oneB H.size b) o (H'.get x)) : Ren (oneB H.size b) H H' (Hu.push o) := by
 rw [qgF]
 refine qh8 (ρ := oneB H.size b) hg hu [o] [b] rfl (fun x => ?_) (fun x hx => hb x (by simpa [eq_comm] using hx)) ?_ ?_
 ·unfold oneB
  by_cases h : x < H.size
  ·simp [h]
  ·by_cases h' : x = H.size
   ·subst h'; simp
   ·obtain ⟨k,hk⟩ : ∃ k,x - H.size = k + 1 := ⟨x - H.size - 1,by omega⟩
    simp [h,h',hk]
 ·intro i j x h1 h2
  have := (List.getElem?_eq_some_iff.1 h1).1
  have := (List.getElem?_eq_some_iff.1 h2).1
  simp at *; omega
 ·intro i x o' h1 h2
  have := (List.getElem?_eq_some_iff.1 h1).1
  obtain rfl : i = 0 := by simp at this; omega
  simp at h1 h2
  subst h2
  exact ho x h1
section
variable {P : Program} {f : FuncId} {args : List Value} {H H2 : AH}
theorem el_inj {κ : K} (h : κ ≠ .bad) {v : Value} {k : κ.T → Prop} : κ.el v k ↔ ∃ x,v = κ.inj x ∧ k x := by
 cases κ <;> first | exact absurd rfl h | simp [K.el,elI,elB,elS,elP,elL,elM,elV,elA,K.inj]
theorem qcZ {κ : K} {v : κ.T} {k : κ.T → AH → Prop} (hκ : κ ≠ .bad) (hf : flatV (κ.inj v) = true) (h : qh P f args H fun e H' => in1 κ e qn fun r => At H H' H2 ∧ r = v) (hk : k v H2) :
  qh P f args H fun e H' => in1 κ e qn fun r => k r H' := by
 refine qh.good h.1 fun hg => h.canon fun e H' _ he => ?_
 cases e with
 | pan v => exact he.elim
 | ret x =>
  obtain ⟨y,rfl,ha,rfl⟩ := (el_inj hκ).1 he
  exact ⟨_,.ret _,H2,ren_at hg ha,.inl (qe7 hf),(el_inj hκ).2 ⟨_,rfl,hk⟩⟩
theorem canon2 {κ μ : K} {v : κ.T} {u : μ.T} {k : κ.T → μ.T → AH → Prop} (hκ : κ ≠ .bad) (hμ : μ ≠ .bad) (hf : flatV (κ.inj v) = true) (hf' : flatV (μ.inj u) = true)
  (h : qh P f args H fun e H' => in2 κ μ e qn fun r s => At H H' H2 ∧ r = v ∧ s = u) (hk : k v u H2) : qh P f args H fun e H' => in2 κ μ e qn fun r s => k r s H' := by
 refine qh.good h.1 fun hg => h.canon fun e H' _ he => ?_
 cases e with
 | pan v => exact he.elim
 | ret x =>
  obtain ⟨a,b,rfl,he1⟩ := he
  obtain ⟨y,rfl,he2⟩ := (el_inj hκ).1 he1
  obtain ⟨z,rfl,ha,rfl,rfl⟩ := (el_inj hμ).1 he2
  refine ⟨_,.ret _,H2,ren_at hg ha,.inr ⟨[κ.inj y,μ.inj z],[κ.inj y,μ.inj z],rfl,rfl,by simp,rfl,?_⟩,⟨_,_,rfl,(el_inj hκ).2 ⟨_,rfl,(el_inj hμ).2 ⟨_,rfl,hk⟩⟩⟩⟩
  intro i a b h1 h2
  match i with
  | 0 => simp at h1 h2; subst h1 h2; exact qe7 hf
  | 1 => simp at h1 h2; subst h1 h2; exact qe7 hf'
  | i + 2 => simp at h1
def SlAt (b n : Nat) (s : Sl) : Prop := s = ⟨some ⟨b,0,none⟩,n,1⟩ ∨ (n = 0 ∧ s = ⟨none,0,0⟩)
variable {α : Type} {z : Nat} {g : α → List Value} {l : List α}
theorem own_ren {H' : AH} {s : Sl} (hg : H.good) (hu : At H H' H2) (hO : Own H.size H' s z g l) (hc : ∀ x ∈ l,(g x).all flatC = true) :
  ∃ b s',SlAt H.size l.length s' ∧ Ren (oneB H.size b) H H' (H2.push ⟨l.flatMap g,.rw,z⟩) ∧ RV (oneB H.size b) s'.val s.val := by
 rcases hO with ⟨rfl,rfl⟩ | ⟨b,rfl,h1,h2,h3⟩
 ·exact ⟨none,⟨none,0,0⟩,.inr ⟨rfl,rfl⟩,qiz hg hu _ _ (by simp) (by simp),.flat rfl⟩
 ·refine ⟨some b,⟨some ⟨H.size,0,none⟩,l.length,1⟩,.inl rfl,qiz hg hu _ _ ?_ ?_,.sl _ _ _ (by simp [oneB])⟩
  ·intro x hx; injection hx with hx; omega
  ·intro x hx
   injection hx with hx
   subst hx
   rw [h3]
   refine ⟨rfl,rfl,fun i v hv => ⟨v,hv,.flat ?_⟩⟩
   obtain ⟨x,hx,hv⟩ := List.mem_flatMap.1 (qlX hv)
   exact List.all_eq_true.1 (hc x hx) v hv
theorem canonS2 {μ : K} {u : μ.T} {k : Sl → μ.T → AH → Prop} (hμ : μ ≠ .bad) (hf' : flatV (μ.inj u) = true) (hc : ∀ x ∈ l,(g x).all flatC = true)
  (h : qh P f args H fun e H' => in2 .sl μ e qn fun s r => At H H' H2 ∧ Own H.size H' s z g l ∧ r = u)
  (hk : ∀ s,SlAt H.size l.length s → k s u (H2.push ⟨l.flatMap g,.rw,z⟩)) : qh P f args H fun e H' => in2 .sl μ e qn fun s r => k s r H' := by
 refine qh.good h.1 fun hg => h.canon fun e H' _ he => ?_
 cases e with
 | pan v => exact he.elim
 | ret x =>
  obtain ⟨a,b,rfl,he1⟩ := he
  obtain ⟨y,rfl,he2⟩ := (el_inj (κ := .sl) (by simp)).1 he1
  obtain ⟨z',rfl,ha,hO,rfl⟩ := (el_inj hμ).1 he2
  obtain ⟨b,s',h1,h2,h3⟩ := own_ren hg ha hO hc
  refine ⟨_,.ret (.tuple #[s'.val,μ.inj z']),_,h2,.inr ⟨[s'.val,μ.inj z'],[y.val,μ.inj z'],rfl,rfl,by simp,rfl,?_⟩,⟨_,_,rfl,(el_inj (κ := .sl) (by simp)).2 ⟨s',rfl,(el_inj hμ).2 ⟨_,rfl,hk s' h1⟩⟩⟩⟩
  intro i a b h1 h2
  match i with
  | 0 => simp at h1 h2; subst h1 h2; exact h3
  | 1 => simp at h1 h2; subst h1 h2; exact qe7 hf'
  | i + 2 => simp at h1
theorem SlAt.own {H : AH} {s : Sl} {b : Nat} {B : Nat} (h : SlAt b l.length s) (hB : B ≤ b) (hb : b < H.size) (hg : H.get b = ⟨l.flatMap g,.rw,z⟩) : Own B H s z g l := by
 rcases h with rfl | ⟨h,rfl⟩
 ·exact .inr ⟨b,rfl,hB,hb,hg⟩
 ·exact .inl ⟨rfl,List.length_eq_zero_iff.1 h⟩
end
end Go.Abs
namespace Go.Abs
open Go.RowKit
theorem qkN (W : World) {v : Value} (h : flatC v = true) : absC W v = v := by
 unfold flatC at h
 split at h <;> first | (simp [absC,VRel.bool,VRel.int,VRel.str,VRel.ptr0,VRel.sl0,VRel.map0,VRel.nilFunc,VRel.nilIface]; done) | cases h
theorem flat_ok {v : Value} (h : flatC v = true) : qo v = true := by
 unfold flatC at h
 split at h <;> first | rfl | cases h
theorem qln {l : List Value} (h : l.all flatC = true) : l.all qo = true := by
 simp only [qmu] at h ⊢
 exact fun v hv => flat_ok (h v hv)
theorem qlz {a : Addr} (hs : a.spot = none) (n j : Nat) : (a.add n).add j = ⟨a.block,a.off + n + j,none⟩ := by
 obtain ⟨b,o,s⟩ := a
 simp only at hs
 subst hs
 rw [qk,qk]
theorem qlA {α β : Type} {f : α → Option β} : ∀ {l : List α} {r : List β},l.mapM f = some r → r.length = l.length ∧ ∀ (i : Nat) (x : α),l[i]? = some x → ∃ y,r[i]? = some y ∧ f x = some y := by
 intro l
 induction l with
 | nil => intro r h; simp at h; subst h; exact ⟨rfl,fun i x h => by simp at h⟩
 | cons a l ih =>
  intro r h
  rw [List.mapM_cons] at h
  cases ha : f a with
  | none => rw [ha] at h; simp at h
  | some y =>
   rw [ha] at h
   cases hl : l.mapM f with
   | none => rw [hl] at h; simp at h
   | some ys =>
    rw [hl] at h
    simp at h
    subst h
    obtain ⟨h1,h2⟩ := ih hl
    refine ⟨by simp [h1],fun i x hx => ?_⟩
    cases i with
    | zero => simp at hx; subst hx; exact ⟨y,rfl,ha⟩
    | succ i => simp at hx; obtain ⟨z,hz,hf⟩ := h2 i x hx; exact ⟨z,by simpa using hz,hf⟩
theorem stH_row {W : World} {a : Addr} {n z : Nat} {row : List Value} (hs : a.spot = none) (h : W.cells? 0 (a.add n) z = some row) (hf : row.all flatC = true) (hz : 0 < z) :
  AH.row? (stH W) ⟨a.block,a.off + n,none⟩ z = some row := by
 unfold World.cells? at h
 rw [if_pos (qmT _)] at h
 obtain ⟨h1,h2⟩ := qlA h
 have hlen : row.length = z := by simpa using h1
 have hcell : ∀ j,j < z → ∃ v,row[j]? = some v ∧ AH.cell? (stH W) ⟨a.block,a.off + n + j,none⟩ = some v := by
  intro j hj
  obtain ⟨v,hv,hc⟩ := h2 j j (by simp [hj])
  rw [qlz hs] at hc
  refine ⟨v,hv,?_⟩
  rw [qkY hc,qkN W (List.all_eq_true.1 hf v (qlX hv))]
 have hm : ((stH W).get a.block).md ≠ .dead := by
  intro hm
  obtain ⟨v,_,hc⟩ := hcell 0 hz
  simp [AH.cell?,hm] at hc
 have hget : ∀ j,j < z → ((stH W).get a.block).cells[a.off + n + j]? = row[j]? := by
  intro j hj
  obtain ⟨v,hv,hc⟩ := hcell j hj
  simp only [AH.cell?,ql4,qlU,if_false] at hc
  rw [if_neg hm] at hc
  rw [hc,hv]
 have hle : a.off + n + z ≤ ((stH W).get a.block).cells.length := by
  have := hget (z - 1) (by omega)
  rw [qlK (show z - 1 < row.length by omega)] at this
  have := (List.getElem?_eq_some_iff.1 this).1
  omega
 have htake : (((stH W).get a.block).cells.drop (a.off + n)).take z = row := by
  apply List.ext_getElem?
  intro j
  rw [qmr]
  by_cases hj : j < z
  ·rw [if_pos hj,List.getElem?_drop,hget j hj]
  ·rw [if_neg hj,qlR (by omega)]
 simp only [AH.row?,ql4,qlU,if_false]
 rw [if_neg hm,htake,if_pos ⟨hle,qln hf⟩]
theorem qiN {α : Type} {p : Nat → α → Prop} : ∀ n : Nat,(∀ i,i < n → ∃ x,p i x) → ∃ l : List α,l.length = n ∧ ∀ (i : Nat) (x : α),l[i]? = some x → p i x := by
 intro n
 induction n with
 | zero => intro _; exact ⟨[],rfl,fun i x h => by simp at h⟩
 | succ n ih =>
  intro h
  obtain ⟨l,h1,h2⟩ := ih fun i hi => h i (by omega)
  obtain ⟨x,hx⟩ := h n (by omega)
  refine ⟨l ++ [x],by simp [h1],fun i y hy => ?_⟩
  by_cases hi : i < n
  ·rw [qmd (by omega)] at hy; exact h2 i y hy
  ·rw [ql8 (by omega)] at hy
   have : i - l.length = 0 := by
    have := (List.getElem?_eq_some_iff.1 hy).1
    simp at this; omega
   rw [this] at hy
   simp at hy
   subst hy
   have : i = n := by omega
   subst this; exact hx
section
variable {H : Type} {enc : TypeId × Value → H} {P : Program} {W : World} {t e : TypeId} {cs : List Value}
theorem rows_of {α : Type} {f : α → List Value} {ok : α → Prop} {s : Sl} {z : Nat} (hz : 0 < z) (hc : P.cellsOf e = z) (hf : ∀ x,(f x).all flatC = true) (dec : ∀ row,Rd enc P W e row → ∃ x,ok x ∧ row = f x)
  (h : s.k = 0 ∧ s.n ≤ maxLen ∧ ∀ i,i < s.n → ∃ a row,s.a = some a ∧ a.spot = none ∧ a.block < W.heap.size ∧ W.cells? 0 (a.add (i * P.cellsOf e)) (P.cellsOf e) = some row ∧ Rd enc P W e row) :
  ∃ l : List α,Rows (stH W) s z f l ∧ ∀ x ∈ l,ok x := by
 obtain ⟨l,h1,h2⟩ := qiN (p := fun i (x : α) => ok x ∧ ∃ a,s.a = some a ∧ a.spot = none ∧ a.block < (stH W).size ∧ AH.row? (stH W) ⟨a.block,a.off + i * z,none⟩ z = some (f x)) s.n (by
  intro i hi
  obtain ⟨a,row,ha,hs,hb,hr,hrd⟩ := h.2.2 i hi
  obtain ⟨x,hx,rfl⟩ := dec row hrd
  rw [hc] at hr
  exact ⟨x,hx,a,ha,hs,hb,stH_row hs hr (hf x) hz⟩)
 exact ⟨l,⟨h1.symm,fun i x hx => (h2 i x hx).2⟩,fun x hx => by
  obtain ⟨i,hi,hx⟩ := List.mem_iff_getElem.1 hx
  exact (h2 i x (by rw [← hx]; exact qlK hi)).1⟩
end
end Go.Abs
