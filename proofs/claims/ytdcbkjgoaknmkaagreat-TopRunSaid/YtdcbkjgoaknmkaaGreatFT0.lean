/- Lemmas for the law: an abstract machine, and what the functions do on it. No condition. -/
import Derived.Orders
import Derived.Laws.Sem
import Derived.Laws.Cells
import Derived.Laws.World
set_option linter.all false
namespace Go.Abs
inductive Md where
 | ro | rw | dead
 deriving DecidableEq
structure AObj where
 cells : List Value
 md : Md
 esz : Nat
structure AH where
 size : Nat
 get : Nat → AObj
structure Blk where
 c : Nat
 m : Nat
 sz : Nat
abbrev Emb := Nat → Option Blk
def qo : Value → Bool
 | .agg _ => false
 | .tuple _ => false
 | _ => true
def AH.cell? (H : AH) (a : Addr) : Option Value :=
 if a.spot.isSome then none else if (H.get a.block).md = .dead then none else (H.get a.block).cells[a.off]?
def AH.row? (H : AH) (a : Addr) (n : Nat) : Option (List Value) :=
 if a.spot.isSome then none else if (H.get a.block).md = .dead then none else
 if a.off + n ≤ (H.get a.block).cells.length ∧ (((H.get a.block).cells.drop a.off).take n).all qo = true then some (((H.get a.block).cells.drop a.off).take n) else none
def AH.upd (H : AH) (b : Nat) (o : AObj) : AH := { size := H.size,get := fun x => if x = b then o else H.get x }
def AH.push (H : AH) (o : AObj) : AH := { size := H.size + 1,get := fun x => if x = H.size then o else H.get x }
def setMany : List Value → Nat → List Value → List Value
 | l,_,[] => l
 | l,i,v :: vs => setMany (l.set i v) (i + 1) vs
def AH.canPut (H : AH) (a : Addr) (n : Nat) : Prop :=
 a.spot = none ∧ (H.get a.block).md = .rw ∧ a.off + n ≤ (H.get a.block).cells.length
def AH.put (H : AH) (a : Addr) (vs : List Value) : AH :=
 H.upd a.block { (H.get a.block) with cells := setMany (H.get a.block).cells a.off vs }
def AH.kill (H : AH) (b : Nat) : AH := H.upd b { (H.get b) with md := .dead }
theorem qdT (vs : List Value) : ∀ (l : List Value) (i : Nat),(setMany l i vs).length = l.length := by
 induction vs with
 | nil => intro l i; rfl
 | cons v vs ih => intro l i; simp [setMany,ih]
def skipV : Value := .tuple #[.tuple #[]]
inductive VRel (φ : Emb) : Value → Value → Prop where
 | undef (v : Value) : VRel φ (.tuple #[]) v
 | skip : VRel φ (.tuple #[.tuple #[]]) (.tuple #[])
 | bool (b : Bool) : VRel φ (.bool b) (.bool b)
 | int (k : IntKind) (n : Int) : VRel φ (.int k n) (.int k n)
 | str (s : ByteArray) : VRel φ (.string s) (.string s)
 | ptr0 : VRel φ (.pointer none) (.pointer none)
 | ptr {b : Nat} {B : Blk} (o : Nat) (h : φ b = some B) : VRel φ (.pointer (some ⟨b,o,none⟩)) (.pointer (some ⟨B.c,o,none⟩))
 | sl0 : VRel φ (.slice none 0 0) (.slice none 0 0)
 | sl {b : Nat} {B : Blk} (o n k k' : Nat) (h : φ b = some B) (hn : n ≤ k') (hk : k = 0 ∨ o + k' * B.sz ≤ B.m) :
   VRel φ (.slice (some ⟨b,o,none⟩) n k) (.slice (some ⟨B.c,o,none⟩) n k')
 | sle (a a' : Addr) (k' : Nat) : VRel φ (.slice (some a) 0 0) (.slice (some a') 0 k')
 | map0 : VRel φ (.map none) (.map none)
 | fn (f : Fn) (as bs cs ds : Array Value) (h1 : as.size = bs.size) (h2 : ∀ i,i < as.size → VRel φ (as.getD i (.tuple #[])) (bs.getD i (.tuple #[])))
   (h3 : cs.size = ds.size) (h4 : ∀ i,i < cs.size → VRel φ (cs.getD i (.tuple #[])) (ds.getD i (.tuple #[]))) : VRel φ (.func f as cs) (.func f bs ds)
 | nilFunc : VRel φ .nilFunc .nilFunc
 | nilIface : VRel φ .nilIface .nilIface
 | iface (t : TypeId) (v v' : Value) (h : VRel φ v v') : VRel φ (.iface t v) (.iface t v')
 | agg (as bs : Array Value) (h1 : as.size = bs.size) (h2 : ∀ i,i < as.size → VRel φ (as.getD i (.tuple #[])) (bs.getD i (.tuple #[]))) : VRel φ (.agg as) (.agg bs)
 | tup (as bs : Array Value) (h1 : as.size = bs.size) (h2 : ∀ i,i < as.size → VRel φ (as.getD i (.tuple #[])) (bs.getD i (.tuple #[]))) : VRel φ (.tuple as) (.tuple bs)
def Emb.le (φ φ' : Emb) : Prop := ∀ b B,φ b = some B → φ' b = some B
theorem Emb.le_refl (φ : Emb) : φ.le φ := fun _ _ h => h
theorem Emb.le_trans {φ φ' φ'' : Emb} (h : φ.le φ') (h' : φ'.le φ'') : φ.le φ'' := fun b B hb => h' b B (h b B hb)
theorem VRel.mono {φ φ' : Emb} (h : φ.le φ') {v v' : Value} (r : VRel φ v v') : VRel φ' v v' := by
 induction r with
 | undef v => exact .undef v
 | skip => exact .skip
 | bool b => exact .bool b
 | int k n => exact .int k n
 | str s => exact .str s
 | ptr0 => exact .ptr0
 | ptr o hb => exact .ptr o (h _ _ hb)
 | sl0 => exact .sl0
 | sl o n k k' hb hn hk => exact .sl o n k k' (h _ _ hb) hn hk
 | sle a a' k' => exact .sle a a' k'
 | map0 => exact .map0
 | fn f as bs cs ds h1 h2 h3 h4 ih2 ih4 => exact .fn f as bs cs ds h1 ih2 h3 ih4
 | nilFunc => exact .nilFunc
 | nilIface => exact .nilIface
 | iface t v v' _ ih => exact .iface t v v' ih
 | agg as bs h1 h2 ih => exact .agg as bs h1 ih
 | tup as bs h1 h2 ih => exact .tup as bs h1 ih
theorem VRel.oneCell {φ : Emb} {v v' : Value} (r : VRel φ v v') (h : qo v = true) : v'.oneCell' = true := by
 cases r <;> simp_all [qo,Value.oneCell']
structure Rel (W : World) (φ : Emb) (H : AH) (w : World) : Prop where
 below : ∀ b,b < W.heap.size → w.heap[b]? = W.heap[b]?
 size : W.heap.size ≤ w.heap.size
 tape : w.tape = W.tape
 os : w.os = W.os
 output : w.output = W.output
 froz : ∀ b B,φ b = some B → ∀ i,w.frozen? ⟨B.c,i,none⟩ = W.frozen? ⟨B.c,i,none⟩
 dom : ∀ b B,φ b = some B → b < H.size ∧ B.c < w.heap.size
 cell : ∀ b B,φ b = some B → (H.get b).md ≠ .dead → ∀ i v,(H.get b).cells[i]? = some v → ∃ v',w.cell? ⟨B.c,i,none⟩ = some v' ∧ VRel φ v v'
 room : ∀ b B,φ b = some B → (H.get b).md = .rw → W.heap.size ≤ B.c ∧ (∀ i,i < B.m → ∃ v,w.cell? ⟨B.c,i,none⟩ = some v) ∧ ((H.get b).esz = 0 ∨ (H.get b).esz = B.sz)
 own : ∀ b B,φ b = some B → (H.get b).md = .rw → ∀ b' B',φ b' = some B' → B'.c = B.c → b' = b ∨ (H.get b').md = .dead
 out : ∀ b,H.size ≤ b → (H.get b).md = .dead
def Hist (φ : Emb) (H : AH) (φ' : Emb) (H' : AH) : Prop :=
 φ.le φ' ∧ H.size ≤ H'.size ∧ (∀ b,b < H.size → φ b = none → φ' b = none) ∧ ∀ b,b < H.size → φ b = none → H'.get b = H.get b
theorem Hist.refl (φ : Emb) (H : AH) : Hist φ H φ H := ⟨Emb.le_refl φ,Nat.le_refl _,fun _ _ h => h,fun _ _ _ => rfl⟩
theorem Hist.trans {φ φ' φ'' : Emb} {H H' H'' : AH} (h : Hist φ H φ' H') (h' : Hist φ' H' φ'' H'') : Hist φ H φ'' H'' := by
 obtain ⟨a,b,c,d⟩ := h
 obtain ⟨a',b',c',d'⟩ := h'
 refine ⟨Emb.le_trans a a',Nat.le_trans b b',fun x hx hn => c' x (by omega) (c x hx hn),fun x hx hn => ?_⟩
 rw [d' x (by omega) (c x hx hn),d x hx hn]
theorem Rel.load {W w : World} {φ : Emb} {H : AH} (R : Rel W φ H w) {b o : Nat} {B : Blk} (hb : φ b = some B) {v : Value}
  (h : H.cell? ⟨b,o,none⟩ = some v) : ∃ v',w.cell? ⟨B.c,o,none⟩ = some v' ∧ VRel φ v v' := by
 unfold AH.cell? at h
 simp only [Option.isSome_none,Bool.false_eq_true,if_false] at h
 split at h
 ·cases h
 ·exact R.cell b B hb ‹_› o v h
theorem AH.row?_cell {H : AH} {a : Addr} {n : Nat} {cs : List Value} (h : H.row? a n = some cs) :
  a.spot = none ∧ cs.length = n ∧ cs.all qo = true ∧ (H.get a.block).md ≠ .dead ∧ ∀ j v,cs[j]? = some v → H.cell? ⟨a.block,a.off + j,none⟩ = some v := by
 unfold AH.row? at h
 split at h
 ·cases h
 ·rename_i hs
  split at h
  ·cases h
  ·rename_i hd
   split at h
   ·rename_i hc
    obtain ⟨hlen,hall⟩ := hc
    injection h with h
    subst h
    refine ⟨by simpa using hs,by simp; omega,hall,hd,fun j v hj => ?_⟩
    rw [List.getElem?_take] at hj
    split at hj
    ·rw [List.getElem?_drop] at hj
     simp [AH.cell?,hd,hj]
    ·cases hj
   ·cases h
theorem qb5 (vs : List Value) : ∀ (l : List Value) (i j : Nat),i + vs.length ≤ l.length →
  (setMany l i vs)[j]? = if i ≤ j ∧ j < i + vs.length then vs[j - i]? else l[j]? := by
 induction vs with
 | nil => intro l i j _; simp [setMany]; intro h1 h2; omega
 | cons v vs ih =>
  intro l i j h
  simp only [List.length_cons] at h
  rw [setMany,ih (l.set i v) (i + 1) j (by simp; omega)]
  simp only [List.length_cons]
  by_cases h1 : i + 1 ≤ j ∧ j < i + 1 + vs.length
  ·rw [if_pos h1,if_pos (by omega)]
   have : j - i = (j - (i + 1)) + 1 := by omega
   rw [this,List.getElem?_cons_succ]
  ·rw [if_neg h1]
   by_cases h2 : j = i
   ·subst h2
    rw [if_pos (by omega)]
    rw [List.getElem?_set_self (by omega)]
    simp
   ·rw [if_neg (by omega),List.getElem?_set_ne (Ne.symm h2)]
end Go.Abs
