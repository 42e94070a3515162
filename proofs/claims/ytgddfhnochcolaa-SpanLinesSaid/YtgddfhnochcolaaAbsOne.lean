import Derived.Below
import Derived.Laws.AppendOwn
import Derived.Laws.Cells
import Derived.Laws.Entries
import Derived.Laws.IdiomCopy
import Derived.Laws.Sem
import Derived.Laws.StructEq
import Derived.Laws.World
import Derived.Orders
import Derived.RowKit3
set_option linter.all false
namespace Go.Abs

/-! ## Abstract values, abstract heaps -/

inductive Md where
  | ro | rw | dead
  deriving DecidableEq

structure AObj where
  cells : List Value
  md : Md
  esz : Nat

structure AH where
  size : Nat
  get : Nat → AObj

structure Blk where
  c : Nat
  m : Nat
  sz : Nat

abbrev Emb := Nat → Option Blk

def cellOK : Value → Bool
  | .agg _ => false
  | .tuple _ => false
  | _ => true

def AH.cell? (H : AH) (a : Addr) : Option Value :=
  if a.spot.isSome then none else if (H.get a.block).md = .dead then none else (H.get a.block).cells[a.off]?

def AH.row? (H : AH) (a : Addr) (n : Nat) : Option (List Value) :=
  if a.spot.isSome then none else if (H.get a.block).md = .dead then none else
  if a.off + n ≤ (H.get a.block).cells.length ∧ (((H.get a.block).cells.drop a.off).take n).all cellOK = true then some (((H.get a.block).cells.drop a.off).take n) else none

def AH.upd (H : AH) (b : Nat) (o : AObj) : AH := { size := H.size, get := fun x => if x = b then o else H.get x }
def AH.push (H : AH) (o : AObj) : AH := { size := H.size + 1, get := fun x => if x = H.size then o else H.get x }

def setMany : List Value → Nat → List Value → List Value
  | l, _, [] => l
  | l, i, v :: vs => setMany (l.set i v) (i + 1) vs

def AH.canPut (H : AH) (a : Addr) (n : Nat) : Prop :=
  a.spot = none ∧ (H.get a.block).md = .rw ∧ a.off + n ≤ (H.get a.block).cells.length
def AH.put (H : AH) (a : Addr) (vs : List Value) : AH :=
  H.upd a.block { (H.get a.block) with cells := setMany (H.get a.block).cells a.off vs }
def AH.kill (H : AH) (b : Nat) : AH := H.upd b { (H.get b) with md := .dead }

theorem setMany_length (vs : List Value) : ∀ (l : List Value) (i : Nat), (setMany l i vs).length = l.length := by
  induction vs with
  | nil => intro l i; rfl
  | cons v vs ih => intro l i; simp [setMany, ih]

/-! ## Values alike -/

/-- What an operation that was passed over leaves. -/
def skipV : Value := .tuple #[.tuple #[]]

inductive VRel (φ : Emb) : Value → Value → Prop where
  | undef (v : Value) : VRel φ (.tuple #[]) v
  | skip : VRel φ (.tuple #[.tuple #[]]) (.tuple #[])
  | bool (b : Bool) : VRel φ (.bool b) (.bool b)
  | int (k : IntKind) (n : Int) : VRel φ (.int k n) (.int k n)
  | str (s : ByteArray) : VRel φ (.string s) (.string s)
  | ptr0 : VRel φ (.pointer none) (.pointer none)
  | ptr {b : Nat} {B : Blk} (o : Nat) (h : φ b = some B) : VRel φ (.pointer (some ⟨b, o, none⟩)) (.pointer (some ⟨B.c, o, none⟩))
  | sl0 : VRel φ (.slice none 0 0) (.slice none 0 0)
  | sl {b : Nat} {B : Blk} (o n k k' : Nat) (h : φ b = some B) (hn : n ≤ k') (hk : k = 0 ∨ o + k' * B.sz ≤ B.m) :
      VRel φ (.slice (some ⟨b, o, none⟩) n k) (.slice (some ⟨B.c, o, none⟩) n k')
  | sle (a a' : Addr) (k' : Nat) : VRel φ (.slice (some a) 0 0) (.slice (some a') 0 k')
  | map0 : VRel φ (.map none) (.map none)
  | fn (f : Fn) (as bs cs ds : Array Value) (h1 : as.size = bs.size) (h2 : ∀ i, i < as.size → VRel φ (as.getD i (.tuple #[])) (bs.getD i (.tuple #[])))
      (h3 : cs.size = ds.size) (h4 : ∀ i, i < cs.size → VRel φ (cs.getD i (.tuple #[])) (ds.getD i (.tuple #[]))) : VRel φ (.func f as cs) (.func f bs ds)
  | nilFunc : VRel φ .nilFunc .nilFunc
  | nilIface : VRel φ .nilIface .nilIface
  | iface (t : TypeId) (v v' : Value) (h : VRel φ v v') : VRel φ (.iface t v) (.iface t v')
  | agg (as bs : Array Value) (h1 : as.size = bs.size) (h2 : ∀ i, i < as.size → VRel φ (as.getD i (.tuple #[])) (bs.getD i (.tuple #[]))) : VRel φ (.agg as) (.agg bs)
  | tup (as bs : Array Value) (h1 : as.size = bs.size) (h2 : ∀ i, i < as.size → VRel φ (as.getD i (.tuple #[])) (bs.getD i (.tuple #[]))) : VRel φ (.tuple as) (.tuple bs)

def Emb.le (φ φ' : Emb) : Prop := ∀ b B, φ b = some B → φ' b = some B

theorem Emb.le_refl (φ : Emb) : φ.le φ := fun _ _ h => h
theorem Emb.le_trans {φ φ' φ'' : Emb} (h : φ.le φ') (h' : φ'.le φ'') : φ.le φ'' := fun b B hb => h' b B (h b B hb)

theorem VRel.mono {φ φ' : Emb} (h : φ.le φ') {v v' : Value} (r : VRel φ v v') : VRel φ' v v' := by
  induction r with
  | undef v => exact .undef v
  | skip => exact .skip
  | bool b => exact .bool b
  | int k n => exact .int k n
  | str s => exact .str s
  | ptr0 => exact .ptr0
  | ptr o hb => exact .ptr o (h _ _ hb)
  | sl0 => exact .sl0
  | sl o n k k' hb hn hk => exact .sl o n k k' (h _ _ hb) hn hk
  | sle a a' k' => exact .sle a a' k'
  | map0 => exact .map0
  | fn f as bs cs ds h1 h2 h3 h4 ih2 ih4 => exact .fn f as bs cs ds h1 ih2 h3 ih4
  | nilFunc => exact .nilFunc
  | nilIface => exact .nilIface
  | iface t v v' _ ih => exact .iface t v v' ih
  | agg as bs h1 h2 ih => exact .agg as bs h1 ih
  | tup as bs h1 h2 ih => exact .tup as bs h1 ih

theorem VRel.oneCell {φ : Emb} {v v' : Value} (r : VRel φ v v') (h : cellOK v = true) : v'.oneCell' = true := by
  cases r <;> simp_all [cellOK, Value.oneCell']

/-! ## Heaps alike -/

structure Rel (W : World) (φ : Emb) (H : AH) (w : World) : Prop where
  below : ∀ b, b < W.heap.size → w.heap[b]? = W.heap[b]?
  size : W.heap.size ≤ w.heap.size
  tape : w.tape = W.tape
  os : w.os = W.os
  output : w.output = W.output
  froz : ∀ b B, φ b = some B → ∀ i, w.frozen? ⟨B.c, i, none⟩ = W.frozen? ⟨B.c, i, none⟩
  dom : ∀ b B, φ b = some B → b < H.size ∧ B.c < w.heap.size
  cell : ∀ b B, φ b = some B → (H.get b).md ≠ .dead → ∀ i v, (H.get b).cells[i]? = some v → ∃ v', w.cell? ⟨B.c, i, none⟩ = some v' ∧ VRel φ v v'
  room : ∀ b B, φ b = some B → (H.get b).md = .rw → W.heap.size ≤ B.c ∧ (∀ i, i < B.m → ∃ v, w.cell? ⟨B.c, i, none⟩ = some v) ∧ ((H.get b).esz = 0 ∨ (H.get b).esz = B.sz)
  own : ∀ b B, φ b = some B → (H.get b).md = .rw → ∀ b' B', φ b' = some B' → B'.c = B.c → b' = b ∨ (H.get b').md = .dead
  out : ∀ b, H.size ≤ b → (H.get b).md = .dead

def Hist (φ : Emb) (H : AH) (φ' : Emb) (H' : AH) : Prop :=
  φ.le φ' ∧ H.size ≤ H'.size ∧ (∀ b, b < H.size → φ b = none → φ' b = none) ∧ ∀ b, b < H.size → φ b = none → H'.get b = H.get b

theorem Hist.refl (φ : Emb) (H : AH) : Hist φ H φ H := ⟨Emb.le_refl φ, Nat.le_refl _, fun _ _ h => h, fun _ _ _ => rfl⟩
theorem Hist.trans {φ φ' φ'' : Emb} {H H' H'' : AH} (h : Hist φ H φ' H') (h' : Hist φ' H' φ'' H'') : Hist φ H φ'' H'' := by
  obtain ⟨a, b, c, d⟩ := h
  obtain ⟨a', b', c', d'⟩ := h'
  refine ⟨Emb.le_trans a a', Nat.le_trans b b', fun x hx hn => c' x (by omega) (c x hx hn), fun x hx hn => ?_⟩
  rw [d' x (by omega) (c x hx hn), d x hx hn]

/-! ### loads -/

theorem Rel.load {W w : World} {φ : Emb} {H : AH} (R : Rel W φ H w) {b o : Nat} {B : Blk} (hb : φ b = some B) {v : Value}
    (h : H.cell? ⟨b, o, none⟩ = some v) : ∃ v', w.cell? ⟨B.c, o, none⟩ = some v' ∧ VRel φ v v' := by
  unfold AH.cell? at h
  simp only [Option.isSome_none, Bool.false_eq_true, if_false] at h
  split at h
  · cases h
  · exact R.cell b B hb ‹_› o v h

theorem AH.row?_cell {H : AH} {a : Addr} {n : Nat} {cs : List Value} (h : H.row? a n = some cs) :
    a.spot = none ∧ cs.length = n ∧ cs.all cellOK = true ∧ (H.get a.block).md ≠ .dead ∧ ∀ j v, cs[j]? = some v → H.cell? ⟨a.block, a.off + j, none⟩ = some v := by
  unfold AH.row? at h
  split at h
  · cases h
  · rename_i hs
    split at h
    · cases h
    · rename_i hd
      split at h
      · rename_i hc
        obtain ⟨hlen, hall⟩ := hc
        injection h with h
        subst h
        refine ⟨by simpa using hs, by simp; omega, hall, hd, fun j v hj => ?_⟩
        rw [List.getElem?_take] at hj
        split at hj
        · rw [List.getElem?_drop] at hj
          simp [AH.cell?, hd, hj]
        · cases hj
      · cases h

/-! ### a store -/

theorem setMany_get (vs : List Value) : ∀ (l : List Value) (i j : Nat), i + vs.length ≤ l.length →
    (setMany l i vs)[j]? = if i ≤ j ∧ j < i + vs.length then vs[j - i]? else l[j]? := by
  induction vs with
  | nil => intro l i j _; simp [setMany]; intro h1 h2; omega
  | cons v vs ih =>
    intro l i j h
    simp only [List.length_cons] at h
    rw [setMany, ih (l.set i v) (i + 1) j (by simp; omega)]
    simp only [List.length_cons]
    by_cases h1 : i + 1 ≤ j ∧ j < i + 1 + vs.length
    · rw [if_pos h1, if_pos (by omega)]
      have : j - i = (j - (i + 1)) + 1 := by omega
      rw [this, List.getElem?_cons_succ]
    · rw [if_neg h1]
      by_cases h2 : j = i
      · subst h2
        rw [if_pos (by omega)]
        rw [List.getElem?_set_self (by omega)]
        simp
      · rw [if_neg (by omega), List.getElem?_set_ne (Ne.symm h2)]

end Go.Abs

namespace Go.Abs
open Go.RowKit

theorem heap_setCell_ne (w : World) (a : Addr) (u : Value) (k : Nat) (h : k ≠ a.block) : (w.setCell a u).heap[k]? = w.heap[k]? :=
  Below.heap_setCell w a u k h

section
variable {W w : World} {φ : Emb} {H : AH}

/-- One cell is stored. -/
theorem Rel.set (R : Rel W φ H w) {b o : Nat} {B : Blk} (hb : φ b = some B) (hm : (H.get b).md = .rw) (ho : o < (H.get b).cells.length) {v v' : Value}
    (hv : VRel φ v v') : Rel W φ (H.upd b { (H.get b) with cells := (H.get b).cells.set o v }) (w.setCell ⟨B.c, o, none⟩ v') := by
  obtain ⟨hc, hroom, hesz⟩ := R.room b B hb hm
  have hcell0 : ∃ u, w.cell? ⟨B.c, o, none⟩ = some u := by
    obtain ⟨u, hu, _⟩ := R.cell b B hb (by simp [hm]) o _ (List.getElem?_eq_getElem ho)
    exact ⟨u, hu⟩
  refine { below := ?_, size := ?_, tape := R.tape, os := R.os, output := R.output, froz := ?_, dom := ?_, cell := ?_, room := ?_, own := ?_, out := ?_ }
  · intro k hk
    rw [heap_setCell_ne _ _ _ _ (by simp; omega)]
    exact R.below k hk
  · simpa using R.size
  · intro x X hx i; rw [World.frozen?_setCell]; exact R.froz x X hx i
  · intro b' B' hb'
    have := R.dom b' B' hb'
    simpa [AH.upd] using this
  · intro b' B' hb' hd i x hx
    by_cases hbb : b' = b
    · subst hbb
      rw [hb] at hb'
      obtain rfl : B = B' := by simpa using hb'
      simp only [AH.upd, if_true] at hx
      by_cases hio : o = i
      · subst hio
        rw [List.getElem?_set_self ho] at hx
        obtain rfl : v = x := by simpa using hx
        obtain ⟨u, hu⟩ := hcell0
        exact ⟨v', World.cell?_setCell_same _ _ _ hu, hv⟩
      · rw [List.getElem?_set_ne hio] at hx
        rw [World.cell?_setCell_other _ _ _ _ (by simpa using hio)]
        exact R.cell b' B hb (by simp [hm]) i x hx
    · simp only [AH.upd, hbb, if_false] at hx hd
      have hne : B.c ≠ B'.c := by
        intro he
        rcases R.own b B hb hm b' B' hb' he.symm with h | h
        · exact hbb h
        · exact hd h
      rw [World.cell?_setCell_other _ _ _ _ (by simp; intro h; exact absurd h hne)]
      exact R.cell b' B' hb' hd i x hx
  · intro b' B' hb' hm'
    have hm'' : (H.get b').md = .rw := by
      by_cases hbb : b' = b
      · subst hbb; exact hm
      · simpa [AH.upd, hbb] using hm'
    obtain ⟨h1, h2, h3⟩ := R.room b' B' hb' hm''
    refine ⟨h1, fun i hi => ?_, ?_⟩
    · obtain ⟨u, hu⟩ := h2 i hi
      by_cases he : (⟨B.c, o, none⟩ : Addr) = ⟨B'.c, i, none⟩
      · rw [← he] at hu ⊢; exact ⟨v', World.cell?_setCell_same _ _ _ hu⟩
      · exact ⟨u, by rw [World.cell?_setCell_other _ _ _ _ he]; exact hu⟩
    · by_cases hbb : b' = b
      · subst hbb; simpa [AH.upd] using h3
      · simpa [AH.upd, hbb] using h3
  · intro b' B' hb' hm' b'' B'' hb'' he
    have md_eq : ∀ x, ((H.upd b { (H.get b) with cells := (H.get b).cells.set o v }).get x).md = (H.get x).md := by
      intro x; by_cases hx : x = b
      · subst hx; simp [AH.upd]
      · simp [AH.upd, hx]
    rw [md_eq] at hm' ⊢
    exact R.own b' B' hb' hm' b'' B'' hb'' he
  · intro x hx
    have hne : x ≠ b := fun e => by subst e; have := (R.dom x B hb).1; simp only [AH.upd] at hx; omega
    simp only [AH.upd, hne, if_false]
    exact R.out x hx

/-- A row of cells is stored. -/
theorem Rel.setMany' (b : Nat) (B : Blk) (hb : φ b = some B) : ∀ (vs vs' : List Value) (o : Nat) {H : AH} {w : World} (_ : Rel W φ H w) (_ : (H.get b).md = .rw)
    (_ : o + vs.length ≤ (H.get b).cells.length) (_ : vs.length = vs'.length) (_ : ∀ (j : Nat) (v v' : Value), vs[j]? = some v → vs'[j]? = some v' → VRel φ v v'),
    Rel W φ (H.upd b { (H.get b) with cells := setMany (H.get b).cells o vs }) (w.setCells B.c o vs')
  | [], [], o, H, w, R, hm, hl, _, _ => by
    have : H.upd b { (H.get b) with cells := setMany (H.get b).cells o [] } = H := by
      cases H with
      | mk s g =>
        simp only [AH.upd, setMany, AH.mk.injEq, true_and]
        funext x; by_cases hx : x = b
        · subst hx; simp
        · simp [hx]
    rw [this]
    exact R
  | [], _ :: _, _, _, _, _, _, _, h, _ => by simp at h
  | _ :: _, [], _, _, _, _, _, _, h, _ => by simp at h
  | v :: vs, v' :: vs', o, H, w, R, hm, hl, hlen, hv => by
    simp only [List.length_cons] at hl hlen
    have R1 := R.set hb hm (o := o) (by omega) (hv 0 v v' rfl rfl)
    have ih := Rel.setMany' b B hb vs vs' (o + 1) R1 (by simp [AH.upd, hm]) (by simp [AH.upd]; omega) (by omega) (fun j x x' hx hx' => hv (j + 1) x x' hx hx')
    have e : (H.upd b { (H.get b) with cells := (H.get b).cells.set o v }).upd b { ((H.upd b { (H.get b) with cells := (H.get b).cells.set o v }).get b) with cells := setMany ((H.upd b { (H.get b) with cells := (H.get b).cells.set o v }).get b).cells (o + 1) vs } = H.upd b { (H.get b) with cells := setMany (H.get b).cells o (v :: vs) } := by
      cases H with
      | mk s g =>
        simp only [AH.upd, setMany, AH.mk.injEq, true_and, if_true]
        funext x; by_cases hx : x = b
        · simp [hx]
        · simp [hx]
    rw [e] at ih
    exact ih

/-- A new abstract object of which nothing is known yet in memory. -/
theorem Rel.fresh (R : Rel W φ H w) : φ H.size = none := by
  cases h : φ H.size with
  | none => rfl
  | some B => exact absurd (R.dom _ _ h).1 (Nat.lt_irrefl _)

theorem Rel.push (R : Rel W φ H w) (o : AObj) : Rel W φ (H.push o) w := by
  have hf := R.fresh
  have key : ∀ b B, φ b = some B → (H.push o).get b = H.get b := by
    intro b B hb
    have : b ≠ H.size := fun h => by subst h; rw [hf] at hb; cases hb
    simp [AH.push, this]
  refine { below := R.below, size := R.size, tape := R.tape, os := R.os, output := R.output, froz := R.froz, dom := ?_, cell := ?_, room := ?_, own := ?_, out := ?_ }
  · intro b B hb
    have := R.dom b B hb
    simp only [AH.push]; omega
  · intro b B hb hd i v hv; rw [key b B hb] at hd hv; exact R.cell b B hb hd i v hv
  · intro b B hb hm; rw [key b B hb] at hm ⊢; exact R.room b B hb hm
  · intro b B hb hm b' B' hb' he; rw [key b B hb] at hm; rw [key b' B' hb']; exact R.own b B hb hm b' B' hb' he
  · intro x hx
    simp only [AH.push] at hx
    have hne : x ≠ H.size := by omega
    simp only [AH.push, hne, if_false]
    exact R.out x (by omega)

/-- An object dies. -/
theorem Rel.kill (R : Rel W φ H w) (b : Nat) : Rel W φ (H.kill b) w := by
  have key : ∀ x, ((H.kill b).get x).md ≠ .dead → (H.kill b).get x = H.get x := by
    intro x hx
    by_cases h : x = b
    · subst h; simp [AH.kill, AH.upd] at hx
    · simp [AH.kill, AH.upd, h]
  have dead : ∀ x, (H.get x).md = .dead → ((H.kill b).get x).md = .dead := by
    intro x hx
    by_cases h : x = b
    · subst h; simp [AH.kill, AH.upd]
    · simp [AH.kill, AH.upd, h, hx]
  refine { below := R.below, size := R.size, tape := R.tape, os := R.os, output := R.output, froz := R.froz, dom := ?_, cell := ?_, room := ?_, own := ?_, out := fun x hx => dead x (R.out x hx) }
  · intro x B hb; exact R.dom x B hb
  · intro x B hb hd i v hv; have hk := key x hd; rw [hk] at hd hv; exact R.cell x B hb hd i v hv
  · intro x B hb hm
    have hx := key x (by simp [hm])
    rw [hx] at hm ⊢; exact R.room x B hb hm
  · intro x B hb hm b' B' hb' he
    have hx := key x (by simp [hm])
    rw [hx] at hm
    rcases R.own x B hb hm b' B' hb' he with h | h
    · exact .inl h
    · exact .inr (dead b' h)

theorem Rel.drew (R : Rel W φ H w) : Rel W φ H w.drew :=
  { below := R.below, size := R.size, tape := R.tape, os := R.os, output := R.output, froz := R.froz, dom := R.dom, cell := R.cell, room := R.room, own := R.own, out := R.out }

def Emb.add (φ : Emb) (b : Nat) (B : Blk) : Emb := fun x => if x = b then some B else φ x

theorem Emb.le_add {φ : Emb} {b : Nat} {B : Blk} (h : φ b = none) : φ.le (φ.add b B) := by
  intro x X hx
  have : x ≠ b := fun e => by subst e; rw [h] at hx; cases hx
  simp [Emb.add, this, hx]

/-- What an abstract object stands for is laid in memory. -/
theorem Rel.lay (R : Rel W φ H w) {b : Nat} (hb : φ b = none) (hlt : b < H.size) (cs : Array Value) (e : TypeId)
    (hmd : (H.get b).md = .rw) (hlen : (H.get b).cells.length ≤ cs.size)
    (hv : ∀ i v, (H.get b).cells[i]? = some v → VRel (φ.add b ⟨w.heap.size, cs.size, (H.get b).esz⟩) v (cs.getD i undef)) :
    Rel W (φ.add b ⟨w.heap.size, cs.size, (H.get b).esz⟩) H (w.alloc (.cells cs e)) := by
  have hle := Emb.le_add (φ := φ) (B := ⟨w.heap.size, cs.size, (H.get b).esz⟩) hb
  have cases' : ∀ x X, (φ.add b ⟨w.heap.size, cs.size, (H.get b).esz⟩) x = some X → (x = b ∧ X = ⟨w.heap.size, cs.size, (H.get b).esz⟩) ∨ (x ≠ b ∧ φ x = some X ∧ X.c < w.heap.size) := by
    intro x X hx
    by_cases h : x = b
    · subst h; simp [Emb.add] at hx; exact .inl ⟨rfl, hx.symm⟩
    · simp [Emb.add, h] at hx; exact .inr ⟨h, hx, (R.dom _ _ hx).2⟩
  refine { below := ?_, size := ?_, tape := R.tape, os := R.os, output := R.output, froz := ?_, dom := ?_, cell := ?_, room := ?_, own := ?_, out := R.out }
  · intro k hk
    rw [Below.heap_alloc _ _ _ (Nat.lt_of_lt_of_le hk R.size)]
    exact R.below k hk
  · simp; exact Nat.le_succ_of_le R.size
  · intro x X hx i
    rw [frozen?_alloc_cells]
    rcases cases' x X hx with ⟨rfl, rfl⟩ | ⟨_, hx, hc⟩
    · have h1 : w.heap[w.heap.size]? = none := Array.getElem?_eq_none (Nat.le_refl _)
      have h2 : W.heap[w.heap.size]? = none := Array.getElem?_eq_none R.size
      simp only [World.frozen?, h1, h2]
    · exact R.froz x X hx i
  · intro x X hx
    rcases cases' x X hx with ⟨rfl, rfl⟩ | ⟨_, hx, hc⟩
    · simp [hlt]
    · simp; exact ⟨(R.dom _ _ hx).1, by omega⟩
  · intro x X hx hd i v hi
    rcases cases' x X hx with ⟨rfl, rfl⟩ | ⟨_, hx, hc⟩
    · have hi' : i < cs.size := by
        have := (List.getElem?_eq_some_iff.1 hi).1; omega
      refine ⟨cs.getD i undef, ?_, hv i v hi⟩
      rw [World.cell?_alloc_new]
      simp [hi']
    · obtain ⟨v', h1, h2⟩ := R.cell x X hx hd i v hi
      exact ⟨v', by rw [World.cell?_alloc_lt _ _ _ (by simpa using hc)]; exact h1, h2.mono hle⟩
  · intro x X hx hm
    rcases cases' x X hx with ⟨rfl, rfl⟩ | ⟨_, hx, hc⟩
    · refine ⟨R.size, fun i hi => ⟨cs.getD i undef, ?_⟩, .inr rfl⟩
      simp only at hi
      rw [World.cell?_alloc_new]
      simp [hi]
    · obtain ⟨h1, h2, h3⟩ := R.room x X hx hm
      exact ⟨h1, fun i hi => by rw [World.cell?_alloc_lt _ _ _ (by simpa using hc)]; exact h2 i hi, h3⟩
  · intro x X hx hm y Y hy he
    rcases cases' x X hx with ⟨rfl, rfl⟩ | ⟨_, hx, hc⟩ <;> rcases cases' y Y hy with ⟨rfl, rfl⟩ | ⟨_, hy, hc'⟩
    · exact .inl rfl
    · simp at he; omega
    · simp at he; omega
    · exact R.own x X hx hm y Y hy he

/-- A dead object's block is taken over by a new abstract object. -/
theorem Rel.over (R : Rel W φ H w) {b b' : Nat} {B : Blk} (hb : φ b = none) (hlt : b < H.size) (hb' : φ b' = some B)
    (hd : ∀ x X, φ x = some X → X.c = B.c → (H.get x).md = .dead) (hW : W.heap.size ≤ B.c) (hroom : ∀ i, i < B.m → ∃ v, w.cell? ⟨B.c, i, none⟩ = some v)
    (hmd : (H.get b).md = .rw) (hesz : (H.get b).esz = B.sz)
    (hv : ∀ i v, (H.get b).cells[i]? = some v → ∃ v', w.cell? ⟨B.c, i, none⟩ = some v' ∧ VRel φ v v') :
    Rel W (φ.add b B) H w := by
  have hle := Emb.le_add (φ := φ) (B := B) hb
  have cases' : ∀ x X, (φ.add b B) x = some X → (x = b ∧ X = B) ∨ (x ≠ b ∧ φ x = some X) := by
    intro x X hx
    by_cases h : x = b
    · subst h; simp [Emb.add] at hx; exact .inl ⟨rfl, hx.symm⟩
    · simp [Emb.add, h] at hx; exact .inr ⟨h, hx⟩
  refine { below := R.below, size := R.size, tape := R.tape, os := R.os, output := R.output, froz := ?_, dom := ?_, cell := ?_, room := ?_, own := ?_, out := R.out }
  · intro x X hx i
    rcases cases' x X hx with ⟨rfl, rfl⟩ | ⟨_, hx⟩
    · exact R.froz _ _ hb' i
    · exact R.froz _ _ hx i
  · intro x X hx
    rcases cases' x X hx with ⟨rfl, rfl⟩ | ⟨_, hx⟩
    · exact ⟨hlt, (R.dom _ _ hb').2⟩
    · exact R.dom _ _ hx
  · intro x X hx hdd i v hi
    rcases cases' x X hx with ⟨rfl, rfl⟩ | ⟨_, hx⟩
    · obtain ⟨v', h1, h2⟩ := hv i v hi; exact ⟨v', h1, h2.mono hle⟩
    · obtain ⟨v', h1, h2⟩ := R.cell x X hx hdd i v hi; exact ⟨v', h1, h2.mono hle⟩
  · intro x X hx hm
    rcases cases' x X hx with ⟨rfl, rfl⟩ | ⟨_, hx⟩
    · exact ⟨hW, hroom, .inr hesz⟩
    · exact R.room x X hx hm
  · intro x X hx hm y Y hy he
    rcases cases' x X hx with ⟨rfl, rfl⟩ | ⟨_, hx⟩ <;> rcases cases' y Y hy with ⟨rfl, rfl⟩ | ⟨_, hy⟩
    · exact .inl rfl
    · exact .inr (hd _ _ hy he)
    · exfalso; have h0 := hd _ _ ‹φ x = some X› he.symm; rw [hm] at h0; cases h0
    · exact R.own x X hx hm y Y hy he
end
end Go.Abs

namespace Go.Abs

/-! ## Types, as the abstract machine sees them -/

def scalarConst : Value → Bool
  | .bool _ => true
  | .int _ _ => true
  | .string _ => true
  | .pointer none => true
  | .slice none 0 0 => true
  | .map none => true
  | .nilFunc => true
  | .nilIface => true
  | _ => false



inductive K where
  | int (k : IntKind) | bool | str | ptr | sl | agg | map | any | bad
  deriving DecidableEq

inductive Sub where
  | none
  | elem (e : TypeId)
  | arr (n : Nat) (e : TypeId)
  | fields (l : List (Nat × TypeId))
  | tup (ts : List TypeId)

structure TyE where
  k : K
  sub : Sub
  size : Nat
  bytes : Nat
  zero : List Value
  eqs : Bool

def K.of : TypeDesc → K × Sub
  | .bool => (.bool, .none)
  | .int k => (.int k, .none)
  | .string => (.str, .none)
  | .pointer e => (.ptr, .elem e)
  | .slice e => (.sl, .elem e)
  | .array n e => (.agg, .arr n e)
  | .struct fs => (.agg, .fields (fs.toList.map fun f => (f.offset, f.type)))
  | .map _ _ => (.map, .none)
  | .func _ _ _ => (.any, .none)
  | .interface _ => (.any, .none)
  | .tuple ts => (.any, .tup ts.toList)
  | _ => (.bad, .none)

def isScalar (P : Program) (t : TypeId) : Bool :=
  match P.underlying t with
  | some (.int _) => true
  | some .bool => true
  | _ => false

/-- Values of the type may be compared cell by cell. -/
def eqFlat (P : Program) (t : TypeId) : Bool :=
  match P.underlying t with
  | some (.array _ e) => (match P.underlying e with | some (.int _) => true | _ => false) && P.cellsOf e == 1 && !P.eqGuardType P.depth t
  | some (.struct fs) => fs.toList.all (fun f => f.name != "_" && isScalar P f.type) && (fs.toList.map (·.offset)) == List.range fs.toList.length && !P.stoodInHeld t && !P.eqGuardType P.depth t
  | _ => false

def tyOf (P : Program) (t : TypeId) : Option TyE :=
  match P.info? t, P.underlying t with
  | some i, some d =>
    match i.zero with
    | some z => if z.cells.toList.all scalarConst = true then some { k := (K.of d).1, sub := (K.of d).2, size := i.size, bytes := i.bytes, zero := z.cells.toList, eqs := eqFlat P t } else none
    | none => none
  | _, _ => none

def Agrees (P : Program) (T : Nat → TyE) : Prop := ∀ t, (T t).k ≠ .bad → tyOf P t = some (T t)

theorem Agrees.get {P : Program} {T : Nat → TyE} (h : Agrees P T) {t : Nat} (ht : (T t).k ≠ .bad) :
    ∃ i d, P.info? t = some i ∧ P.underlying t = some d ∧ K.of d = ((T t).k, (T t).sub) ∧ i.size = (T t).size ∧ i.bytes = (T t).bytes ∧
      (∃ z, i.zero = some z ∧ z.cells.toList = (T t).zero) ∧ eqFlat P t = (T t).eqs ∧ (T t).zero.all scalarConst = true := by
  have h1 := h t ht
  unfold tyOf at h1
  split at h1
  · rename_i i d hi hd
    split at h1
    · rename_i z hz
      split at h1
      · rename_i hall
        injection h1 with h1
        refine ⟨i, d, hi, hd, ?_, ?_, ?_, ⟨z, hz, ?_⟩, ?_, ?_⟩ <;> rw [← h1]
        exact hall
      · cases h1
    · cases h1
  · cases h1

/-! ## Words of both the deep and the shallow forms -/

structure Sl where
  a : Option Addr
  n : Nat
  k : Nat

@[reducible] def Sl.val (s : Sl) : Value := .slice s.a s.n s.k

/-- A case by a truth value; in a form that the kernel takes apart at once. -/
abbrev bcase (t : Bool) (A B : Prop) : Prop := @Bool.rec (fun _ => Prop) B A t
@[simp] theorem bcase_true (A B : Prop) : bcase true A B = A := rfl
@[simp] theorem bcase_false (A B : Prop) : bcase false A B = B := rfl
theorem bcase_eq (t : Bool) (A B : Prop) : bcase t A B = if t = true then A else B := by cases t <;> simp

def onPtr (p : Option Addr) (k : Addr → Prop) : Prop :=
  match p with
  | some a => k a
  | none => False

def elI (j : IntKind) (v : Option Value) (k : Int → Prop) : Prop := ∃ n : Int, v = some (.int j n) ∧ k n
def elB (v : Option Value) (k : Bool → Prop) : Prop := ∃ b : Bool, v = some (.bool b) ∧ k b
def elS (v : Option Value) (k : ByteArray → Prop) : Prop := ∃ s : ByteArray, v = some (.string s) ∧ k s
def elP (v : Option Value) (k : Option Addr → Prop) : Prop := ∃ p : Option Addr, v = some (.pointer p) ∧ k p
def elL (v : Option Value) (k : Sl → Prop) : Prop := ∃ s : Sl, v = some s.val ∧ k s
def elM (v : Option Value) (k : Option Nat → Prop) : Prop := ∃ m : Option Nat, v = some (.map m) ∧ k m
def elV (v : Option Value) (k : Value → Prop) : Prop := ∃ x : Value, v = some x ∧ k x

def elim (κ : K) (v : Option Value) (k : Value → Prop) : Prop :=
  match κ with
  | .int j => elI j v fun n => k (.int j n)
  | .bool => elB v fun b => k (.bool b)
  | .str => elS v fun s => k (.string s)
  | .ptr => elP v fun p => k (.pointer p)
  | .sl => elL v fun s => k s.val
  | .map => elM v fun m => k (.map m)
  | .any => elV v k
  | .agg => False
  | .bad => False

theorem elim_some {κ : K} {v : Option Value} {k : Value → Prop} (h : elim κ v k) : ∃ x, v = some x ∧ k x := by
  cases κ <;> simp only [elim, elI, elB, elS, elP, elL, elM, elV] at h
  case int j => obtain ⟨n, h, hk⟩ := h; exact ⟨_, h, hk⟩
  case bool => obtain ⟨n, h, hk⟩ := h; exact ⟨_, h, hk⟩
  case str => obtain ⟨n, h, hk⟩ := h; exact ⟨_, h, hk⟩
  case ptr => obtain ⟨n, h, hk⟩ := h; exact ⟨_, h, hk⟩
  case sl => obtain ⟨n, h, hk⟩ := h; exact ⟨_, h, hk⟩
  case map => obtain ⟨n, h, hk⟩ := h; exact ⟨_, h, hk⟩
  case any => obtain ⟨n, h, hk⟩ := h; exact ⟨_, h, hk⟩

/-! ### constants, operands -/

def constOK : Value → Bool
  | .agg cs => cs.toList.all scalarConst
  | v => scalarConst v

theorem VRel.scalarConst {φ : Emb} {v : Value} (h : scalarConst v = true) : VRel φ v v := by
  cases v with
  | bool b => exact .bool b
  | int k n => exact .int k n
  | string s => exact .str s
  | pointer p => cases p <;> simp [Abs.scalarConst] at h; exact .ptr0
  | slice a n c =>
    unfold Abs.scalarConst at h
    split at h <;> try contradiction
    rename_i heq
    injection heq with h1 h2 h3
    subst h1 h2 h3
    exact .sl0
  | map m => cases m <;> simp [Abs.scalarConst] at h; exact .map0
  | nilFunc => exact .nilFunc
  | nilIface => exact .nilIface
  | _ => simp [Abs.scalarConst] at h

theorem VRel.constOK {φ : Emb} {v : Value} (h : constOK v = true) : VRel φ v v := by
  unfold Abs.constOK at h
  split at h
  · rename_i cs
    refine .agg _ _ rfl fun i hi => ?_
    have : cs.getD i (.tuple #[]) = cs[i] := by simp [hi]
    rw [this]
    exact VRel.scalarConst (List.all_eq_true.1 h _ (by simp))
  · exact VRel.scalarConst h

abbrev Fr := Nat → Value

def ev (fr : Fr) : Operand → Value
  | .tmp t => fr t
  | .const v => if constOK v = true then v else undef
  | .global _ => undef
  | .func f => .func (.func f) #[] #[]

structure ARel (φ : Emb) (n : Nat) (fr : Fr) (a : Act) : Prop where
  defers : a.defers = []
  size : a.tmps.size = n
  tmp : ∀ s, VRel φ (fr s) (a.tmps.getD s undef)

theorem ARel.mono {φ φ' : Emb} (h : φ.le φ') {n : Nat} {fr : Fr} {a : Act} (r : ARel φ n fr a) : ARel φ' n fr a :=
  ⟨r.defers, r.size, fun s => (r.tmp s).mono h⟩

theorem ARel.ev {φ : Emb} {n : Nat} {fr : Fr} {a : Act} (r : ARel φ n fr a) (x : Operand) : VRel φ (Abs.ev fr x) (a.eval x) := by
  cases x with
  | tmp t => exact r.tmp t
  | const v =>
    simp only [Abs.ev, Act.eval]
    split
    · exact VRel.constOK ‹_›
    · exact .undef v
  | global g => exact .undef _
  | func f => exact .fn _ _ _ _ _ rfl (by simp) rfl (by simp)

def frput (fr : Fr) (d : Option Nat) (v : Value) : Fr :=
  match d with
  | some d => fun s => cond (Nat.beq s d) v (fr s)
  | none => fr

theorem frput_same (fr : Fr) (d : Nat) (v : Value) : frput fr (some d) v d = v := by
  have : Nat.beq d d = true := Nat.beq_refl d
  simp [frput, this]
theorem frput_ne (fr : Fr) {d s : Nat} (v : Value) (h : s ≠ d) : frput fr (some d) v s = fr s := by
  have : Nat.beq s d = false := by
    cases hb : Nat.beq s d with
    | false => rfl
    | true => exact absurd (Nat.eq_of_beq_eq_true hb) h
  simp [frput, this]

theorem ARel.put {φ : Emb} {n : Nat} {fr : Fr} {a : Act} (r : ARel φ n fr a) {d : Option Nat} (hd : ∀ t, d = some t → t < n) {v v' : Value} (hv : VRel φ v v') :
    ARel φ n (frput fr d v) (a.put d v') := by
  cases d with
  | none => exact r
  | some d =>
    have hlt : d < a.tmps.size := by rw [r.size]; exact hd d rfl
    refine ⟨r.defers, by simp [Act.put, r.size], fun s => ?_⟩
    by_cases h : s = d
    · subst h
      rw [frput_same]
      simp [Act.put, hlt]
      exact hv
    · have : (a.tmps.setIfInBounds d v').getD s undef = a.tmps.getD s undef := by
        simp [Array.getD_eq_getD_getElem?, Array.getElem?_setIfInBounds_ne (Ne.symm h)]
      rw [frput_ne _ _ h]
      simp only [Act.put, this]
      exact r.tmp s

end Go.Abs

namespace Go.Abs

/-! ## Operations that do not look at memory -/

def andI (j : IntKind) (a b : Int) : Int := j.wrap ((BitVec.ofInt j.bits a &&& BitVec.ofInt j.bits b).toNat : Int)
def orI (j : IntKind) (a b : Int) : Int := j.wrap ((BitVec.ofInt j.bits a ||| BitVec.ofInt j.bits b).toNat : Int)
def xorI (j : IntKind) (a b : Int) : Int := j.wrap ((BitVec.ofInt j.bits a ^^^ BitVec.ofInt j.bits b).toNat : Int)
def andNotI (j : IntKind) (a b : Int) : Int := j.wrap ((BitVec.ofInt j.bits a &&& ~~~(BitVec.ofInt j.bits b)).toNat : Int)
def shlI (j : IntKind) (a b : Int) : Int := j.wrap (a * 2 ^ (min b.toNat j.bits))
def shrI (j : IntKind) (a b : Int) : Int := a.fdiv (2 ^ (min b.toNat j.bits))

def intBin (op : BinOp) (j : IntKind) (a b : Int) (k : Value → Prop) : Prop :=
  match op with
  | .add => k (.int j (j.wrap (a + b)))
  | .sub => k (.int j (j.wrap (a - b)))
  | .mul => k (.int j (j.wrap (a * b)))
  | .quo => b ≠ 0 ∧ k (.int j (j.wrap (a.tdiv b)))
  | .rem => b ≠ 0 ∧ k (.int j (a.tmod b))
  | .and => k (.int j (andI j a b))
  | .or => k (.int j (orI j a b))
  | .xor => k (.int j (xorI j a b))
  | .andNot => k (.int j (andNotI j a b))
  | .shl => 0 ≤ b ∧ k (.int j (shlI j a b))
  | .shr => 0 ≤ b ∧ k (.int j (shrI j a b))
  | .eql => k (.bool (a == b))
  | .neq => k (.bool (a != b))
  | .lss => k (.bool (decide (a < b)))
  | .leq => k (.bool (decide (a ≤ b)))
  | .gtr => k (.bool (decide (a > b)))
  | .geq => k (.bool (decide (a ≥ b)))

def isShift : BinOp → Bool
  | .shl => true
  | .shr => true
  | _ => false

def eqOut (op : BinOp) (r : Bool) (k : Value → Prop) : Prop :=
  match op with
  | .eql => k (.bool r)
  | .neq => k (.bool !r)
  | _ => False

def eqCells : List K → List Value → List Value → Option Bool
  | [], [], [] => some true
  | .int j :: ks, .int i a :: xs, .int i' b :: ys =>
    if i = j ∧ i' = j then (eqCells ks xs ys).map fun r => a == b && r else none
  | .bool :: ks, .bool a :: xs, .bool b :: ys => (eqCells ks xs ys).map fun r => a == b && r
  | _, _, _ => none

def eqKinds (T : Nat → TyE) (t : TypeId) : List K :=
  match (T t).sub with
  | .arr n e => List.replicate n (T e).k
  | .fields l => l.map fun f => (T f.2).k
  | _ => []

def elO {α : Type} (o : Option α) (k : α → Prop) : Prop := ∃ r, o = some r ∧ k r

def binL (T : Nat → TyE) (op : BinOp) (xt : TypeId) (x y : Value) (k : Value → Prop) : Prop :=
  match x, y with
  | .int j a, .int j' b => if isShift op = true ∨ j = j' then intBin op j a b k else False
  | .bool a, .bool b => if (T xt).k = .bool then eqOut op (a == b) k else False
  | .string a, .string b => eqOut op (a.toList == b.toList) k
  | .pointer p, .pointer none => if (T xt).k = .ptr then eqOut op p.isNone k else False
  | .slice a _ _, .slice none _ _ => if (T xt).k = .sl then eqOut op a.isNone k else False
  | .agg xs, .agg ys => if (T xt).k = .agg ∧ (T xt).eqs = true then elO (eqCells (eqKinds T xt) xs.toList ys.toList) fun r => eqOut op r k else False
  | _, _ => False

/-! ### soundness of binary operations -/

section
variable {P : Program} {T : Nat → TyE}

theorem Agrees.int (hT : Agrees P T) {t : TypeId} {j : IntKind} (h : (T t).k = .int j) : P.underlying t = some (.int j) := by
  obtain ⟨i, d, _, hd, hk, _⟩ := hT.get (t := t) (by simp [h])
  rw [hd]
  rw [h] at hk
  cases d <;> simp [K.of] at hk
  simp [hk.1]

theorem Agrees.bool (hT : Agrees P T) {t : TypeId} (h : (T t).k = .bool) : P.underlying t = some .bool := by
  obtain ⟨i, d, _, hd, hk, _⟩ := hT.get (t := t) (by simp [h])
  rw [hd]; rw [h] at hk
  cases d <;> simp [K.of] at hk
  rfl

theorem Agrees.str (hT : Agrees P T) {t : TypeId} (h : (T t).k = .str) : P.underlying t = some .string := by
  obtain ⟨i, d, _, hd, hk, _⟩ := hT.get (t := t) (by simp [h])
  rw [hd]; rw [h] at hk
  cases d <;> simp [K.of] at hk
  rfl

theorem Agrees.ptr (hT : Agrees P T) {t : TypeId} (h : (T t).k = .ptr) : ∃ e, P.underlying t = some (.pointer e) ∧ (T t).sub = .elem e := by
  obtain ⟨i, d, _, hd, hk, _⟩ := hT.get (t := t) (by simp [h])
  rw [h] at hk
  cases d <;> simp [K.of] at hk
  exact ⟨_, hd, hk.symm⟩

theorem Agrees.sl (hT : Agrees P T) {t : TypeId} (h : (T t).k = .sl) : ∃ e, P.underlying t = some (.slice e) ∧ (T t).sub = .elem e := by
  obtain ⟨i, d, _, hd, hk, _⟩ := hT.get (t := t) (by simp [h])
  rw [h] at hk
  cases d <;> simp [K.of] at hk
  exact ⟨_, hd, hk.symm⟩

theorem Agrees.agg (hT : Agrees P T) {t : TypeId} (h : (T t).k = .agg) :
    (∃ n e, P.underlying t = some (.array n e) ∧ (T t).sub = .arr n e) ∨
    (∃ fs, P.underlying t = some (.struct fs) ∧ (T t).sub = .fields (fs.toList.map fun f => (f.offset, f.type))) := by
  obtain ⟨i, d, _, hd, hk, _⟩ := hT.get (t := t) (by simp [h])
  rw [h] at hk
  cases d <;> simp [K.of] at hk
  · exact .inl ⟨_, _, hd, hk.symm⟩
  · exact .inr ⟨_, hd, hk.symm⟩

theorem Agrees.size (hT : Agrees P T) {t : TypeId} (h : (T t).k ≠ .bad) : ∃ i, P.info? t = some i ∧ i.size = (T t).size ∧ i.bytes = (T t).bytes ∧ (∃ z, i.zero = some z ∧ z.cells.toList = (T t).zero) := by
  obtain ⟨i, d, hi, _, _, hs, hb, hz, _⟩ := hT.get h
  exact ⟨i, hi, hs, hb, hz⟩

theorem run_intBin {op : BinOp} {j j' : IntKind} {a b : Int} {k : Value → Prop} (xt : TypeId) (hj : isShift op = true ∨ j = j') (h : intBin op j a b k) :
    ∃ v, k v ∧ (∀ φ, VRel φ v v) ∧ ∀ w, (binOp op xt (.int j a) (.int j' b)).run P w = .ok v w := by
  cases op <;> simp only [isShift, Bool.false_eq_true, false_or] at hj <;> simp only [intBin] at h
  case shl =>
    refine ⟨_, h.2, fun φ => .int _ _, fun w => ?_⟩
    simp [binOp, Op.shift, shlI, show ¬ b < 0 by omega]
  case shr =>
    refine ⟨_, h.2, fun φ => .int _ _, fun w => ?_⟩
    simp [binOp, Op.shift, shrI, show ¬ b < 0 by omega]
  case quo => subst hj; exact ⟨_, h.2, fun φ => .int _ _, fun w => by simp [binOp, Op.intDiv, h.1]⟩
  case rem => subst hj; exact ⟨_, h.2, fun φ => .int _ _, fun w => by simp [binOp, Op.intDiv, h.1]⟩
  all_goals first
    | (subst hj; refine ⟨_, h, fun φ => .int _ _, fun w => ?_⟩; simp [binOp, Op.intArith]; done)
    | (subst hj; refine ⟨_, h, fun φ => .bool _, fun w => ?_⟩; simp [binOp, Op.intCmp]; done)
    | (subst hj; refine ⟨_, h, fun φ => .int _ _, fun w => ?_⟩; simp [binOp]; rfl)

theorem eqOut_sound {op : BinOp} {r : Bool} {k : Value → Prop} (h : eqOut op r k) : (op = .eql ∧ k (.bool r)) ∨ (op = .neq ∧ k (.bool !r)) := by
  cases op <;> simp only [eqOut] at h
  · exact .inl ⟨rfl, h⟩
  · exact .inr ⟨rfl, h⟩


/-! ### equality of rows of cells -/

theorem getD_list {xs : Array Value} {i : Nat} (h : i < xs.size) : xs.getD i undef = xs[i] := by simp [h]

theorem eqCells_rel {φ : Emb} : ∀ (ks : List K) (xs ys xs' ys' : List Value) (r : Bool), eqCells ks xs ys = some r → xs.length = xs'.length → ys.length = ys'.length →
    (∀ (i : Nat) (x x' : Value), xs[i]? = some x → xs'[i]? = some x' → VRel φ x x') → (∀ (i : Nat) (x x' : Value), ys[i]? = some x → ys'[i]? = some x' → VRel φ x x') →
    eqCells ks xs' ys' = some r := by
  intro ks xs ys
  induction ks, xs, ys using eqCells.induct with
  | case1 =>
    intro xs' ys' r h h1 h2 _ _
    have e1 : xs' = [] := List.length_eq_zero_iff.1 (by simpa using h1.symm)
    have e2 : ys' = [] := List.length_eq_zero_iff.1 (by simpa using h2.symm)
    subst e1 e2
    exact h
  | case2 j ks i a xs i' b ys hij ih =>
    intro xs' ys' r h h1 h2 hx hy
    obtain _ | ⟨x', xs'⟩ := xs'
    · simp at h1
    obtain _ | ⟨y', ys'⟩ := ys'
    · simp at h2
    have hx0 := hx 0 _ _ rfl rfl
    have hy0 := hy 0 _ _ rfl rfl
    cases hx0
    cases hy0
    simp only [eqCells, hij, and_self, if_true] at h ⊢
    cases hr : eqCells ks xs ys with
    | none => rw [hr] at h; cases h
    | some r' =>
      rw [ih xs' ys' r' hr (by simpa using h1) (by simpa using h2) (fun i x x' h h' => hx (i + 1) x x' h h') (fun i x x' h h' => hy (i + 1) x x' h h')]
      rw [hr] at h
      exact h
  | case3 j ks i a xs i' b ys hij =>
    intro xs' ys' r h
    simp only [eqCells] at h
    rw [if_neg hij] at h
    cases h
  | case4 ks a xs b ys ih =>
    intro xs' ys' r h h1 h2 hx hy
    obtain _ | ⟨x', xs'⟩ := xs'
    · simp at h1
    obtain _ | ⟨y', ys'⟩ := ys'
    · simp at h2
    have hx0 := hx 0 _ _ rfl rfl
    have hy0 := hy 0 _ _ rfl rfl
    cases hx0
    cases hy0
    simp only [eqCells] at h ⊢
    cases hr : eqCells ks xs ys with
    | none => rw [hr] at h; cases h
    | some r' =>
      rw [ih xs' ys' r' hr (by simpa using h1) (by simpa using h2) (fun i x x' h h' => hx (i + 1) x x' h h') (fun i x x' h h' => hy (i + 1) x x' h h')]
      rw [hr] at h
      exact h
  | case5 ks xs ys h1 h2 h3 =>
    intro xs' ys' r h
    unfold eqCells at h
    split at h
    · exact absurd rfl (h1 rfl rfl)
    · exact absurd rfl (h2 _ _ _ _ _ _ _ _ rfl rfl)
    · exact absurd rfl (h3 _ _ _ _ _ rfl rfl)
    · cases h

theorem eqCells_length : ∀ (ks : List K) (xs ys : List Value) (r : Bool), eqCells ks xs ys = some r → xs.length = ks.length ∧ ys.length = ks.length := by
  intro ks xs ys
  induction ks, xs, ys using eqCells.induct with
  | case1 => intro r _; exact ⟨rfl, rfl⟩
  | case2 j ks i a xs i' b ys hij ih =>
    intro r h
    simp only [eqCells, hij, and_self, if_true] at h
    cases hr : eqCells ks xs ys with
    | none => rw [hr] at h; cases h
    | some r' => obtain ⟨h1, h2⟩ := ih r' hr; simp [h1, h2]
  | case3 j ks i a xs i' b ys hij => intro r h; simp only [eqCells] at h; rw [if_neg hij] at h; cases h
  | case4 ks a xs b ys ih =>
    intro r h
    simp only [eqCells] at h
    cases hr : eqCells ks xs ys with
    | none => rw [hr] at h; cases h
    | some r' => obtain ⟨h1, h2⟩ := ih r' hr; simp [h1, h2]
  | case5 ks xs ys h1 h2 h3 =>
    intro r h
    unfold eqCells at h
    split at h
    · exact absurd rfl (h1 rfl rfl)
    · exact absurd rfl (h2 _ _ _ _ _ _ _ _ rfl rfl)
    · exact absurd rfl (h3 _ _ _ _ _ rfl rfl)
    · cases h

end
end Go.Abs

namespace Go.Abs
section
variable {P : Program} {T : Nat → TyE}

def isAggD : TypeDesc → Bool
  | .struct _ => true
  | .array _ _ => true
  | _ => false

theorem run_part_scalar {t : TypeId} {d : TypeDesc} (hd : P.underlying t = some d) (hs : isAggD d = false)
    {cs : Array Value} {off : Nat} {v : Value} (h : cs.toList[off]? = some v) (w : World) : (part t cs off).run P w = .ok v w := by
  have h' : cs[off]? = some v := by simpa using h
  cases d <;> simp_all [part, isAgg, run_underlying hd, isAggD]

theorem eqFlat_of {t : TypeId} (h : eqFlat P t = true) : P.eqGuardType P.depth t = false := by
  unfold eqFlat at h
  split at h <;> simp_all

theorem run_eqFields (hT : Agrees P T) (d : Nat) (xs ys : Array Value) : ∀ (fs : List Field) (base : Nat) (r : Bool),
    (∀ f ∈ fs, f.name ≠ "_") → fs.map (·.offset) = (List.range' base fs.length) →
    eqCells (fs.map fun f => (T f.type).k) (xs.toList.drop base) (ys.toList.drop base) = some r → ∀ w,
    (Op.eqFields (d + 1) xs ys fs).run P w = .ok r w := by
  intro fs
  induction fs with
  | nil =>
    intro base r _ _ h w
    simp only [List.map_nil] at h
    cases hx : xs.toList.drop base <;> cases hy : ys.toList.drop base <;> rw [hx, hy] at h <;> simp [eqCells] at h
    subst h
    simp [Op.eqFields]
  | cons f fs ih =>
    intro base r hn ho h w
    have hf : f.offset = base := by
      have := congrArg (fun l => l[0]?) ho
      simpa using this
    have ho' : fs.map (·.offset) = List.range' (base + 1) fs.length := by
      simp only [List.map_cons, List.length_cons, List.range'_succ] at ho
      exact (List.cons.inj ho).2
    have hname : f.name ≠ "_" := hn f (by simp)
    cases hx : xs.toList.drop base with
    | nil => rw [hx] at h; simp [eqCells] at h
    | cons x xr =>
      cases hy : ys.toList.drop base with
      | nil => rw [hx, hy] at h; cases hk : (T f.type).k <;> simp [eqCells, hk] at h
      | cons y yr =>
        rw [hx, hy] at h
        have hxr : xs.toList.drop (base + 1) = xr := by rw [← List.drop_drop, hx]; rfl
        have hyr : ys.toList.drop (base + 1) = yr := by rw [← List.drop_drop, hy]; rfl
        have hx0 : xs.toList[f.offset]? = some x := by
          rw [hf]; have := congrArg (fun l => l[0]?) hx; simpa using this
        have hy0 : ys.toList[f.offset]? = some y := by
          rw [hf]; have := congrArg (fun l => l[0]?) hy; simpa using this
        simp only [List.map_cons] at h
        have step : ∀ (r0 r' : Bool), eqCells (fs.map fun f => (T f.type).k) xr yr = some r' → (Op.equalIn (d + 1) f.type x y).run P w = .ok r0 w →
            ∀ (dd : TypeDesc), P.underlying f.type = some dd → isAggD dd = false →
            (Op.eqFields (d + 1) xs ys (f :: fs)).run P w = .ok (r0 && r') w := by
          intro r0 r' hr' he dd hdd hns
          simp only [Op.eqFields, hname, ne_eq, not_false_eq_true, if_true, Sem.run_bind, run_part_scalar hdd hns hx0, run_part_scalar hdd hns hy0, Result.andThen_ok, he, Sem.run_ite, Sem.run_pure]
          cases r0
          · simp
          · simp only [Bool.not_true, Bool.false_eq_true, if_false, Bool.true_and]
            exact ih (base + 1) r' (fun f hf => hn f (by simp [hf])) ho' (by rw [hxr, hyr]; exact hr') w
        cases hk : (T f.type).k with
        | int j =>
          rw [hk] at h
          cases x <;> cases y <;> simp only [eqCells] at h <;> try (cases h; done)
          rename_i i a i' b
          split at h
          · rename_i hij
            obtain ⟨rfl, rfl⟩ := hij
            cases hr : eqCells (fs.map fun f => (T f.type).k) xr yr with
            | none => rw [hr] at h; cases h
            | some r' =>
              rw [hr] at h
              simp only [Option.map_some, Option.some.injEq] at h
              subst h
              exact step _ _ hr (run_equalIn_int w d f.type _ _ a b (hT.int hk)) _ (hT.int hk) rfl
          · cases h
        | bool =>
          rw [hk] at h
          cases x <;> cases y <;> simp only [eqCells] at h <;> try (cases h; done)
          rename_i a b
          cases hr : eqCells (fs.map fun f => (T f.type).k) xr yr with
          | none => rw [hr] at h; cases h
          | some r' =>
            rw [hr] at h
            simp only [Option.map_some, Option.some.injEq] at h
            subst h
            exact step _ _ hr (run_equalIn_bool' w d f.type a b (hT.bool hk)) _ (hT.bool hk) rfl
        | _ => rw [hk] at h; simp [eqCells] at h

/-- The loop over an array's cells. -/
theorem run_eqLoop (d : Nat) (e : TypeId) (j : IntKind) (he : P.underlying e = some (.int j)) (xs ys : Array Value) :
    ∀ (n base : Nat) (r : Bool), eqCells (List.replicate n (.int j)) (xs.toList.drop base) (ys.toList.drop base) = some r → ∀ w,
    (forIn (m := Sem) (List.range' base n) (none, ()) fun i _ => do
        if !(← Op.equalIn (d + 1) e (← part e xs (i * 1)) (← part e ys (i * 1))) then pure (ForInStep.done (some false, ())) else pure (ForInStep.yield (none, ())) : Sem (Option Bool × Unit)).run P w = .ok (if r then none else some false, ()) w := by
  intro n
  induction n with
  | zero =>
    intro base r h w
    simp only [List.replicate_zero] at h
    cases hx : xs.toList.drop base <;> cases hy : ys.toList.drop base <;> rw [hx, hy] at h <;> simp [eqCells] at h
    subst h
    simp
  | succ n ih =>
    intro base r h w
    cases hx : xs.toList.drop base with
    | nil => rw [hx] at h; simp [eqCells, List.replicate_succ] at h
    | cons x xr =>
      cases hy : ys.toList.drop base with
      | nil => rw [hx, hy] at h; cases x <;> simp [eqCells, List.replicate_succ] at h
      | cons y yr =>
        rw [hx, hy] at h
        have hxr : xs.toList.drop (base + 1) = xr := by rw [← List.drop_drop, hx]; rfl
        have hyr : ys.toList.drop (base + 1) = yr := by rw [← List.drop_drop, hy]; rfl
        have hx0 : xs.toList[base * 1]? = some x := by
          have := congrArg (fun l => l[0]?) hx; simpa using this
        have hy0 : ys.toList[base * 1]? = some y := by
          have := congrArg (fun l => l[0]?) hy; simpa using this
        simp only [List.replicate_succ] at h
        cases x <;> cases y <;> simp only [eqCells] at h <;> try (cases h; done)
        rename_i i a i' b
        split at h
        · rename_i hij
          obtain ⟨rfl, rfl⟩ := hij
          cases hr : eqCells (List.replicate n (.int i')) xr yr with
          | none => rw [hr] at h; cases h
          | some r' =>
            rw [hr] at h
            simp only [Option.map_some, Option.some.injEq] at h
            subst h
            have ih' := ih (base + 1) r' (by rw [hxr, hyr]; exact hr) w
            simp only [List.range'_succ, List.forIn_cons, Sem.run_bind, run_part_scalar he rfl hx0, run_part_scalar he rfl hy0, Result.andThen_ok,
              run_equalIn_int w d e _ _ a b he, Sem.run_ite, Sem.run_pure]
            cases hab : (a == b)
            · simp
            · simp only [Bool.not_true, Bool.false_eq_true, if_false, Result.andThen_ok, Bool.true_and]
              exact ih'
        · cases h

end
end Go.Abs

namespace Go.Abs
section
variable {P : Program} {T : Nat → TyE}

theorem run_equal_arr {t e : TypeId} {n : Nat} {j : IntKind} (ht : P.underlying t = some (.array n e)) (he : P.underlying e = some (.int j)) (hs : P.cellsOf e = 1)
    {xs ys : Array Value} {r : Bool} (h : eqCells (List.replicate n (.int j)) xs.toList ys.toList = some r) (d : Nat) (w : World) :
    (Op.equalIn (d + 2) t (.agg xs) (.agg ys)).run P w = .ok r w := by
  have hsz : ∀ w, (sizeOf e).run P w = .ok 1 w := by
    intro w
    unfold Program.cellsOf at hs
    cases hi : P.info? e with
    | none => rw [hi] at hs; simp at hs
    | some i => rw [hi] at hs; simp at hs; simp [sizeOf, typeInfo, hi, hs]
  have hl := run_eqLoop (P := P) d e j he xs ys n 0 r (by simpa using h) w
  obtain ⟨D, hD⟩ : ∃ D, D = d + 1 := ⟨_, rfl⟩
  rw [← hD] at hl
  show (Op.equalIn (d + 1 + 1) t (.agg xs) (.agg ys)).run P w = .ok r w
  rw [← hD]
  have e1 : ∀ (f : Nat → Option Bool × Unit → Sem (ForInStep (Option Bool × Unit))), (forIn (m := Sem) [0:n] ((none : Option Bool), ()) f) = forIn (List.range' 0 n) (none, ()) f := by
    intro f
    simp [Std.Legacy.Range.forIn_eq_forIn_range', Std.Legacy.Range.size]
  simp only [Op.equalIn, Sem.run_bind, run_underlying ht, Result.andThen_ok, hsz, e1]
  rw [hl]
  cases r <;> simp

theorem run_equal_flat (hT : Agrees P T) {t : TypeId} (hk : (T t).k = .agg) (he : (T t).eqs = true) {xs ys : Array Value} {r : Bool}
    (h : eqCells (eqKinds T t) xs.toList ys.toList = some r) (w : World) :
    (Op.equal t (.agg xs) (.agg ys)).run P w = .ok r w ∧ P.eqGuardType P.depth t = false := by
  obtain ⟨_, _, _, _, _, _, _, _, hf, _⟩ := hT.get (t := t) (by simp [hk])
  rw [he] at hf
  refine ⟨?_, eqFlat_of hf⟩
  unfold eqFlat at hf
  rcases hT.agg hk with ⟨n, e, hu, hs⟩ | ⟨fs, hu, hs⟩
  · rw [hu] at hf
    simp only [Bool.and_eq_true] at hf
    obtain ⟨⟨hint, hsz⟩, _⟩ := hf
    have : ∃ j, P.underlying e = some (.int j) := by
      split at hint
      · exact ⟨_, ‹_›⟩
      · cases hint
    obtain ⟨j, hj⟩ := this
    have hkinds : eqKinds T t = List.replicate n (T e).k := by simp [eqKinds, hs]
    rw [hkinds] at h
    by_cases hbad : (T e).k = .bad
    · cases n with
      | zero => exact run_equal_arr hu hj (by simpa using hsz) (by simpa using h) 9998 w
      | succ n => rw [hbad] at h; simp [eqCells, List.replicate_succ] at h
    · have hke : (T e).k = .int j := by
        obtain ⟨_, d, _, hd, hkd, _⟩ := hT.get hbad
        rw [hj] at hd
        injection hd with hd
        subst hd
        simp [K.of] at hkd
        exact hkd.1.symm
      rw [hke] at h
      exact run_equal_arr hu hj (by simpa using hsz) h 9998 w
  · rw [hu] at hf
    simp only [Bool.and_eq_true, List.all_eq_true, bne_iff_ne, ne_eq, beq_iff_eq, Bool.not_eq_true'] at hf
    obtain ⟨⟨⟨hn, ho⟩, hst⟩, _⟩ := hf
    have hfo : P.fieldsOf t = fs := by simp [Program.fieldsOf, hu]
    have hkinds : eqKinds T t = fs.toList.map fun f => (T f.type).k := by simp [eqKinds, hs, Function.comp_def]
    rw [hkinds] at h
    show (Op.equalIn (9999 + 1) t (.agg xs) (.agg ys)).run P w = .ok r w
    rw [run_equalIn_struct w 9999 t xs ys (by rw [hfo]; exact hu) hst, hfo]
    exact run_eqFields hT 9998 xs ys fs.toList 0 r (fun f hf => (hn f hf).1) (by rw [ho]; simp [List.range_eq_range']) (by simpa using h) w

theorem run_equal_bool {t : TypeId} (h : P.underlying t = some .bool) (a b : Bool) (w : World) : (Op.equal t (.bool a) (.bool b)).run P w = .ok (a == b) w :=
  run_equalIn_bool' w 9999 t a b h

theorem run_equalIn_ptr_nil (d : Nat) {t e : TypeId} (h : P.underlying t = some (.pointer e)) (p : Option Addr) (w : World) :
    (Op.equalIn (d + 1) t (.pointer p) (.pointer none)).run P w = .ok p.isNone w := by
  cases p <;> simp [Op.equalIn, run_underlying h]
theorem run_equal_ptr_nil {t e : TypeId} (h : P.underlying t = some (.pointer e)) (p : Option Addr) (w : World) : (Op.equal t (.pointer p) (.pointer none)).run P w = .ok p.isNone w :=
  run_equalIn_ptr_nil 9999 h p w

theorem run_equalIn_sl_nil (d : Nat) {t e : TypeId} (h : P.underlying t = some (.slice e)) (a : Option Addr) (l c l' c' : Nat) (w : World) :
    (Op.equalIn (d + 1) t (.slice a l c) (.slice none l' c')).run P w = .ok a.isNone w := by
  cases a <;> simp [Op.equalIn, run_underlying h]
theorem run_equal_sl_nil {t e : TypeId} (h : P.underlying t = some (.slice e)) (a : Option Addr) (l c l' c' : Nat) (w : World) : (Op.equal t (.slice a l c) (.slice none l' c')).run P w = .ok a.isNone w :=
  run_equalIn_sl_nil 9999 h a l c l' c' w

/-- A binary operation, its guard ahead of it. -/
theorem binL_sound (hT : Agrees P T) {op : BinOp} {xt : TypeId} {x y : Value} {k : Value → Prop} (h : binL T op xt x y k) :
    ∃ v, k v ∧ (∀ φ, VRel φ v v) ∧ ∀ φ x' y' (X Y : Operand), VRel φ x x' → VRel φ y y' → ∀ w, (do eqGuard op xt X Y x' y'; binOp op xt x' y').run P w = .ok v w := by
  unfold binL at h
  split at h
  · rename_i j a j' b
    split at h
    · rename_i hj
      obtain ⟨v, hk, hv, hr⟩ := run_intBin xt hj h
      refine ⟨v, hk, hv, fun φ x' y' X Y hx hy w => ?_⟩
      cases hx; cases hy
      have hg : (eqGuard op xt X Y (.int j a) (.int j' b)).run P w = .ok () w := by unfold eqGuard; cases op <;> simp
      rw [Sem.run_bind, hg]
      exact hr w
    · exact h.elim
  · rename_i a b
    split at h
    · rename_i hb
      rcases eqOut_sound h with ⟨rfl, hk⟩ | ⟨rfl, hk⟩ <;>
      · refine ⟨_, hk, fun φ => .bool _, fun φ x' y' X Y hx hy w => ?_⟩
        cases hx; cases hy
        simp [eqGuard, binOp, run_equal_bool (hT.bool hb)]
    · exact h.elim
  · rename_i a b
    rcases eqOut_sound h with ⟨rfl, hk⟩ | ⟨rfl, hk⟩ <;>
    · refine ⟨_, hk, fun φ => .bool _, fun φ x' y' X Y hx hy w => ?_⟩
      cases hx; cases hy
      simp [eqGuard, binOp, Op.stringOp]
  · rename_i p
    split at h
    · rename_i hb
      obtain ⟨e, hu, _⟩ := hT.ptr hb
      have hr := fun (q : Option Addr) (w : World) => run_equal_ptr_nil hu q w
      rcases eqOut_sound h with ⟨rfl, hk⟩ | ⟨rfl, hk⟩ <;>
      · refine ⟨_, hk, fun φ => .bool _, fun φ x' y' X Y hx hy w => ?_⟩
        cases hy
        cases hx <;> simp [eqGuard, binOp, hr]
    · exact h.elim
  · rename_i a n c n' c'
    split at h
    · rename_i hb
      obtain ⟨e, hu, _⟩ := hT.sl hb
      have hr := fun (q : Option Addr) (l c l' c' : Nat) (w : World) => run_equal_sl_nil hu q l c l' c' w
      rcases eqOut_sound h with ⟨rfl, hk⟩ | ⟨rfl, hk⟩ <;>
      · refine ⟨_, hk, fun φ => .bool _, fun φ x' y' X Y hx hy w => ?_⟩
        cases hy
        cases hx <;> simp [eqGuard, binOp, hr]
    · exact h.elim
  · rename_i xs ys
    split at h
    · rename_i he
      obtain ⟨r, hr, h⟩ := h
      obtain ⟨hk, he⟩ := he
      rcases eqOut_sound h with ⟨rfl, hkk⟩ | ⟨rfl, hkk⟩ <;>
      · refine ⟨_, hkk, fun φ => .bool _, fun φ x' y' X Y hx hy w => ?_⟩
        cases hx with
        | agg _ xs' hs1 hx =>
          cases hy with
          | agg _ ys' hs2 hy =>
            have rel : ∀ (as bs : Array Value), as.size = bs.size → (∀ i, i < as.size → VRel φ (as.getD i (.tuple #[])) (bs.getD i (.tuple #[]))) →
                ∀ (i : Nat) (x x' : Value), as.toList[i]? = some x → bs.toList[i]? = some x' → VRel φ x x' := by
              intro as bs _ h i x x' h1 h2
              simp only [Array.getElem?_toList] at h1 h2
              have hi : i < as.size := by
                rcases Nat.lt_or_ge i as.size with hh | hh
                · exact hh
                · simp [Array.getElem?_eq_none hh] at h1
              have := h i hi
              simpa [h1, h2] using this
            have hr' := eqCells_rel _ _ _ xs'.toList ys'.toList r hr (by simpa using hs1) (by simpa using hs2) (rel _ _ hs1 hx) (rel _ _ hs2 hy)
            obtain ⟨h1, h2⟩ := run_equal_flat hT hk he hr' w
            simp [eqGuard, binOp, h1, h2]
    · exact h.elim
  · exact h.elim

end
end Go.Abs

namespace Go.Abs

/-! ## The operations that do not look at memory -/

def fieldAt? (T : Nat → TyE) (s : TypeId) (f : Nat) : Option (Nat × TypeId) :=
  match (T s).k, (T s).sub with
  | .agg, .fields l => l[f]?
  | _, _ => none

def fillC (place : Nat → Option (Nat × Nat)) (n : Nat) : List Value → List (Nat × Value) → (List Value → Prop) → Prop
  | cells, [], k => k cells
  | cells, (i, v) :: rest, k =>
    match place i with
    | none => False
    | some (off, size) =>
      if off + size ≤ n then
        match v with
        | .agg arr => arr.toList.length = size ∧ fillC place n (setMany cells off arr.toList) rest k
        | .tuple _ => False
        | v => if size = 1 then fillC place n (cells.set off v) rest k else False
      else False

def fieldsOK (T : Nat → TyE) (l : List (Nat × TypeId)) : Bool := l.all fun f => decide ((T f.2).k ≠ .bad)

def buildC (T : Nat → TyE) (t : TypeId) (parts : List (Nat × Value)) (k : Value → Prop) : Prop :=
  match (T t).k, (T t).sub with
  | .agg, .fields l =>
    if fieldsOK T l = true then
      fillC (fun i => (l[i]?).map fun f => (f.1, (T f.2).size)) (T t).zero.length (T t).zero parts fun cs => k (.agg cs.toArray)
    else False
  | .agg, .arr _ e =>
    if (T e).k ≠ .bad then fillC (fun i => some (i * (T e).size, (T e).size)) (T t).zero.length (T t).zero parts fun cs => k (.agg cs.toArray) else False
  | _, _ => False

def sliceC (s : Sl) (lo hi : Option Value) (size : Nat) (k : Value → Prop) : Prop :=
  match lo, hi with
  | none, none => k s.val
  | some (.int _ l), none => (0 ≤ l ∧ l ≤ s.n) ∧ k (.slice (s.a.map (·.add (l.toNat * size))) (s.n - l.toNat) 0)
  | none, some (.int _ h) => (0 ≤ h ∧ h ≤ s.n) ∧ k (.slice s.a h.toNat 0)
  | some (.int _ l), some (.int _ h) => (0 ≤ l ∧ l ≤ h ∧ h ≤ s.n) ∧ k (.slice (s.a.map (·.add (l.toNat * size))) (h.toNat - l.toNat) 0)
  | _, _ => False

def partC (T : Nat → TyE) (t : TypeId) (cs : List Value) (off : Nat) (k : Value → Prop) : Prop :=
  match (T t).k with
  | .agg => k (.agg ((cs.drop off).take (T t).size).toArray)
  | .bad => False
  | κ => elim κ cs[off]? k

def isPlainKind : K → Bool
  | .any => false
  | .bad => false
  | _ => true

def minMax (isMax : Bool) : Value → List Value → (Value → Prop) → Prop
  | .int j a, [], k => k (.int j a)
  | .int j a, .int _ b :: rest, k => minMax isMax (.int j (if isMax = true then (if b > a then b else a) else (if b < a then b else a))) rest k
  | _, _, _ => False

def pureOp (T : Nat → TyE) (ρ : Operand → Value) (op : Op) (k : Value → Prop) : Prop :=
  match op with
  | .move x => k (ρ x)
  | .assign x => k (ρ x)
  | .pick c a b =>
    match ρ c with
    | .bool t => bcase t (k (ρ a)) (k (ρ b))
    | _ => False
  | .build t parts => buildC T t (parts.toList.map fun p => (p.1, ρ p.2)) k
  | .nilCheck x =>
    match ρ x with
    | .pointer p => onPtr p fun a => k (.pointer (some a))
    | _ => False
  | .binOp op xt x y _ => binL T op xt (ρ x) (ρ y) k
  | .unOp op _ x =>
    match op, ρ x with
    | .not, .bool b => k (.bool !b)
    | .neg, .int j n => k (.int j (j.wrap (0 - n)))
    | _, _ => False
  | .convert src dst x =>
    if (T src).k = .bad then False else
    match (T dst).k, ρ x with
    | .int j, .int _ n => k (.int j (j.wrap n))
    | .str, .string s => k (.string s)
    | _, _ => False
  | .makeInterface t x => if isPlainKind (T t).k = true then k (.iface t (ρ x)) else False
  | .makeFunc fn first captured => k (.func fn (first.map ρ) (captured.map ρ))
  | .slice t x lo hi none =>
    match (T t).k, (T t).sub, ρ x with
    | .sl, .elem e, .slice a n c => if (T e).k = .bad then False else sliceC ⟨a, n, c⟩ (lo.map ρ) (hi.map ρ) (T e).size k
    | .agg, .arr n e, .pointer p => if (T e).k = .bad then False else
      match lo, hi with
      | none, none => onPtr p fun a => k (.slice (some a) n 0)
      | _, _ => False
    | _, _, _ => False
  | .fieldAddr s x f =>
    match fieldAt? T s f, ρ x with
    | some (off, ft), .pointer p => if (T ft).k = .bad ∨ (T ft).size = 0 then False else onPtr p fun a => k (.pointer (some (a.add off)))
    | _, _ => False
  | .field s x f =>
    match fieldAt? T s f, ρ x with
    | some (off, ft), .agg cs => partC T ft cs.toList off k
    | _, _ => False
  | .indexAddr t x ix =>
    match (T t).k, (T t).sub, ρ x, ρ ix with
    | .sl, .elem e, .slice a n _, .int _ i => if (T e).k = .bad then False else (0 ≤ i ∧ i < n) ∧ onPtr a fun a => k (.pointer (some (a.add (i.toNat * (T e).size))))
    | .agg, .arr n e, .pointer p, .int _ i => if (T e).k = .bad then False else (0 ≤ i ∧ i < n) ∧ onPtr p fun a => k (.pointer (some (a.add (i.toNat * (T e).size))))
    | _, _, _, _ => False
  | .index t x ix =>
    match (T t).k, (T t).sub, ρ x, ρ ix with
    | .agg, .arr n e, .agg cs, .int _ i => (0 ≤ i ∧ i < n) ∧ partC T e cs.toList (i.toNat * (T e).size) k
    | _, _, _, _ => False
  | .extract x i =>
    match ρ x with
    | .tuple vs => if vs.size = 1 then False else match vs.toList[i]? with
      | some v => k v
      | none => False
    | _ => False
  | .call c =>
    match c.callee with
    | .builtin .len =>
      match c.argTypes.toList, c.args.toList with
      | t :: _, x :: _ =>
        match (T t).k, (T t).sub, ρ x with
        | .sl, _, .slice _ n _ => k (.int .i64 n)
        | .str, _, .string s => k (.int .i64 s.size)
        | .agg, .arr n _, _ => k (.int .i64 n)
        | _, _, _ => False
      | _, _ => False
    | .builtin .min =>
      match c.args.toList with
      | x :: rest => minMax false (ρ x) (rest.map ρ) k
      | _ => False
    | .builtin .max =>
      match c.args.toList with
      | x :: rest => minMax true (ρ x) (rest.map ρ) k
      | _ => False
    | _ => False
  | _ => False

/-- In whatever memory the operation gives a value like 'v', and does nothing else. -/
def PureOK (P : Program) (ρ : Operand → Value) (o : Oper) (v : Value) : Prop :=
  ∀ φ (ρ' : Operand → Value), (∀ x ∈ o.op.operands, VRel φ (ρ x) (ρ' x)) → ∃ v', (∀ w, (execOp ρ' o).run P w = .ok (.value v') w) ∧ VRel φ v v'

section
variable {P : Program} {T : Nat → TyE}

theorem add_off (b o n : Nat) : (⟨b, o, none⟩ : Addr).add n = ⟨b, o + n, none⟩ := by
  unfold Addr.add
  split
  · rename_i h; simp [h]
  · rfl

theorem onPtr_some {p : Option Addr} {k : Addr → Prop} (h : onPtr p k) : ∃ a, p = some a ∧ k a := by
  cases p with
  | none => exact h.elim
  | some a => exact ⟨a, rfl, h⟩

theorem vrel_ptr {φ : Emb} {a : Addr} {v' : Value} (h : VRel φ (.pointer (some a)) v') :
    ∃ b B o, a = ⟨b, o, none⟩ ∧ φ b = some B ∧ v' = .pointer (some ⟨B.c, o, none⟩) := by
  cases h with
  | ptr o h => exact ⟨_, _, _, rfl, h, rfl⟩

theorem run_sizeOf (hT : Agrees P T) {t : TypeId} (h : (T t).k ≠ .bad) (w : World) : (sizeOf t).run P w = .ok (T t).size w := by
  obtain ⟨i, hi, hs, _⟩ := hT.size h
  simp [sizeOf, typeInfo, hi, hs]

theorem run_zeroValue (hT : Agrees P T) {t : TypeId} (h : (T t).k ≠ .bad) : ∃ z : Value, z.cells.toList = (T t).zero ∧ ∀ w, (zeroValue t).run P w = .ok z w := by
  obtain ⟨i, hi, hs, _, z, hz, hc⟩ := hT.size h
  exact ⟨z, hc, fun w => by simp [zeroValue, typeInfo, hi, hz]⟩

/-- Rows of cells, one like the other. -/
def LRel (φ : Emb) (xs ys : List Value) : Prop := xs.length = ys.length ∧ ∀ (i : Nat) (x y : Value), xs[i]? = some x → ys[i]? = some y → VRel φ x y

theorem LRel.of_arr {φ : Emb} {as bs : Array Value} (h1 : as.size = bs.size) (h2 : ∀ i, i < as.size → VRel φ (as.getD i (.tuple #[])) (bs.getD i (.tuple #[]))) :
    LRel φ as.toList bs.toList := by
  refine ⟨by simpa using h1, fun i x y hx hy => ?_⟩
  simp only [Array.getElem?_toList] at hx hy
  have hi : i < as.size := by
    rcases Nat.lt_or_ge i as.size with hh | hh
    · exact hh
    · simp [Array.getElem?_eq_none hh] at hx
  have := h2 i hi
  simpa [hx, hy] using this

theorem LRel.to_arr {φ : Emb} {xs ys : List Value} (h : LRel φ xs ys) {as bs : Array Value} (ha : as.toList = xs) (hb : bs.toList = ys) :
    as.size = bs.size ∧ ∀ i, i < as.size → VRel φ (as.getD i (.tuple #[])) (bs.getD i (.tuple #[])) := by
  subst ha hb
  obtain ⟨h1, h2⟩ := h
  have hs : as.size = bs.size := by simpa using h1
  refine ⟨hs, fun i hi => ?_⟩
  have hi' : i < bs.size := hs ▸ hi
  have := h2 i as[i] bs[i] (by simp [hi]) (by simp [hi'])
  simpa [hi, hi'] using this

theorem LRel.agg {φ : Emb} {xs ys : List Value} (h : LRel φ xs ys) : VRel φ (.agg xs.toArray) (.agg ys.toArray) :=
  .agg _ _ (h.to_arr rfl rfl).1 (h.to_arr rfl rfl).2

theorem LRel.set {φ : Emb} {xs ys : List Value} (h : LRel φ xs ys) {x y : Value} (hv : VRel φ x y) (i : Nat) : LRel φ (xs.set i x) (ys.set i y) := by
  refine ⟨by simp [h.1], fun j a b ha hb => ?_⟩
  by_cases hij : i = j
  · subst hij
    rw [List.getElem?_set] at ha hb
    simp only [if_true] at ha hb
    split at ha <;> split at hb <;> simp at ha hb
    subst ha hb
    exact hv
  · rw [List.getElem?_set_ne hij] at ha hb
    exact h.2 j a b ha hb

theorem LRel.setMany {φ : Emb} : ∀ (vs ws : List Value) (xs ys : List Value) (i : Nat), LRel φ xs ys → LRel φ vs ws → LRel φ (setMany xs i vs) (setMany ys i ws)
  | [], [], _, _, _, h, _ => h
  | [], _ :: _, _, _, _, _, h => by have := h.1; simp at this
  | _ :: _, [], _, _, _, _, h => by have := h.1; simp at this
  | v :: vs, w :: ws, xs, ys, i, h, h' => by
    have hv : VRel φ v w := h'.2 0 v w rfl rfl
    exact LRel.setMany vs ws _ _ (i + 1) (h.set hv i) ⟨by have := h'.1; simpa using this, fun j a b ha hb => h'.2 (j + 1) a b ha hb⟩

theorem LRel.refl_of {φ : Emb} {xs : List Value} (h : ∀ x ∈ xs, VRel φ x x) : LRel φ xs xs := by
  refine ⟨rfl, fun i x y hx hy => ?_⟩
  rw [hx] at hy
  injection hy with hy
  subst hy
  exact h x (List.mem_of_getElem? hx)

theorem fill_step (vc : Array Value) (off : Nat) (cells : Array Value) :
    (vc.zipIdx.foldl (fun cs (x : Value × Nat) => cs.setIfInBounds (off + x.2) x.1) cells).toList = setMany cells.toList off vc.toList := by
  rw [← Array.foldl_toList]
  have hz : (vc.zipIdx).toList = vc.toList.zipIdx := by simp
  rw [hz]
  have key : ∀ (l : List Value) (n : Nat) (cells : Array Value),
      ((l.zipIdx n).foldl (fun cs (x : Value × Nat) => cs.setIfInBounds (off + x.2) x.1) cells).toList = setMany cells.toList (off + n) l := by
    intro l
    induction l with
    | nil => intro n cells; rfl
    | cons v l ih =>
      intro n cells
      simp only [List.zipIdx_cons, List.foldl_cons, setMany]
      rw [ih (n + 1)]
      simp [Nat.add_assoc]
  simpa using key vc.toList 0 cells

theorem fillC_sound (place place' : Nat → Option (Nat × Nat)) (hp : ∀ i x, place i = some x → place' i = some x) (n : Nat) {φ : Emb} :
    ∀ (parts parts' : List (Nat × Value)) (cells : List Value) (cells' : Array Value) (k : List Value → Prop), cells.length = n → LRel φ cells cells'.toList →
      parts.length = parts'.length → (∀ (j : Nat) (p p' : Nat × Value), parts[j]? = some p → parts'[j]? = some p' → p.1 = p'.1 ∧ VRel φ p.2 p'.2) → fillC place n cells parts k →
      ∃ cs cs', k cs ∧ Instr.fill place' cells' parts' = some cs' ∧ LRel φ cs cs'.toList := by
  intro parts
  induction parts with
  | nil =>
    intro parts' cells cells' k hn hr hl _ h
    have : parts' = [] := List.length_eq_zero_iff.1 (by simpa using hl.symm)
    subst this
    exact ⟨cells, cells', h, rfl, hr⟩
  | cons p parts ih =>
    intro parts' cells cells' k hn hr hl hpp h
    obtain _ | ⟨p', parts'⟩ := parts'
    · simp at hl
    obtain ⟨i, v⟩ := p
    obtain ⟨i', v'⟩ := p'
    obtain ⟨hi, hv⟩ := hpp 0 (i, v) (i', v') rfl rfl
    simp only at hi hv
    subst hi
    simp only [fillC] at h
    split at h
    · exact h.elim
    · rename_i off size hpl
      have hpl' := hp i _ hpl
      split at h
      · rename_i hle
        have hcs : cells'.size = n := by have := hr.1; simp at this; omega
        have go : ∀ (c : List Value) (v' : Value), VRel φ v v' → v'.cells.size = size → setMany cells off c = setMany cells off c → LRel φ c v'.cells.toList →
            fillC place n (setMany cells off c) parts k →
            ∃ cs cs', k cs ∧ Instr.fill place' cells' ((i, v') :: parts') = some cs' ∧ LRel φ cs cs'.toList := by
          intro c v' _ hsz _ hcr hk
          have hst := fill_step v'.cells off cells'
          obtain ⟨cs, cs', h1, h2, h3⟩ := ih parts' (setMany cells off c) (v'.cells.zipIdx.foldl (fun cs (x : Value × Nat) => cs.setIfInBounds (off + x.2) x.1) cells') k
            (by rw [setMany_length]; exact hn) (by rw [hst]; exact LRel.setMany _ _ _ _ _ hr hcr) (by simpa using hl)
            (fun j p p' hp hp' => hpp (j + 1) p p' hp hp') hk
          refine ⟨cs, cs', h1, ?_, h3⟩
          simp only [Instr.fill, hpl', hsz]
          rw [if_neg (by simp; omega)]
          exact h2
        split at h
        · rename_i arr
          obtain ⟨hlen, hk⟩ := h
          cases hv with
          | agg _ bs hs hb =>
            exact go arr.toList (.agg bs) (.agg _ _ hs hb) (by simp [Value.cells]; simp at hlen; omega) rfl (LRel.of_arr hs hb) hk
        · exact h.elim
        · rename_i h1 h2
          split at h
          · rename_i hs1
            have hc : v'.cells = #[v'] := by
              cases hv <;> first | rfl | (exact absurd rfl (h1 _)) | (exact absurd rfl (h2 _))
            refine go [v] v' hv (by rw [hc]; simp [hs1]) rfl ?_ h
            rw [hc]
            refine ⟨rfl, fun j a b ha hb => ?_⟩
            cases j with
            | zero => simp at ha hb; subst ha hb; exact hv
            | succ j => simp at ha
          · exact h.elim
      · exact h.elim
end
end Go.Abs

namespace Go.Abs
section
variable {P : Program} {T : Nat → TyE}

theorem Agrees.zeros (hT : Agrees P T) {t : TypeId} (h : (T t).k ≠ .bad) {φ : Emb} : ∀ x ∈ (T t).zero, VRel φ x x := by
  obtain ⟨_, _, _, _, _, _, _, _, _, hz⟩ := hT.get h
  intro x hx
  exact VRel.scalarConst (List.all_eq_true.1 hz x hx)

theorem mapM_fields (hT : Agrees P T) (w : World) : ∀ (fs : List Field), fieldsOK T (fs.map fun f => (f.offset, f.type)) = true →
    (fs.mapM (m := Sem) fun f => do pure (f.offset, ← sizeOf f.type)).run P w = .ok (fs.map fun f => (f.offset, (T f.type).size)) w := by
  intro fs
  induction fs with
  | nil => intro _; simp
  | cons f fs ih =>
    intro h
    simp only [fieldsOK, List.map_cons, List.all_cons, Bool.and_eq_true, decide_eq_true_eq] at h
    have ih' := ih (by simpa [fieldsOK] using h.2)
    simp only [List.mapM_cons, Sem.run_bind, run_sizeOf hT h.1, Result.andThen_ok, Sem.run_pure, ih', List.map_cons]

theorem build_sound (hT : Agrees P T) {t : TypeId} {parts : List (Nat × Value)} {k : Value → Prop} (h : buildC T t parts k) {φ : Emb} {parts' : List (Nat × Value)}
    (hl : parts.length = parts'.length) (hp : ∀ (j : Nat) (p p' : Nat × Value), parts[j]? = some p → parts'[j]? = some p' → p.1 = p'.1 ∧ VRel φ p.2 p'.2) :
    ∃ v v', k v ∧ VRel φ v v' ∧ ∀ w, (Instr.build t parts'.toArray).run P w = .ok v' w := by
  unfold buildC at h
  split at h
  · rename_i l hk hsub
    split at h
    · rename_i hok
      have hnb : (T t).k ≠ .bad := by simp [hk]
      obtain ⟨z, hz, hzr⟩ := run_zeroValue hT hnb
      rcases hT.agg hk with ⟨n, e, hu, hs⟩ | ⟨fs, hu, hs⟩
      · rw [hsub] at hs; cases hs
      · rw [hsub] at hs
        injection hs with hs
        obtain ⟨cs, cs', h1, h2, h3⟩ := fillC_sound (φ := φ) (fun i => (l[i]?).map fun f => (f.1, (T f.2).size)) (fun i => (fs.toList.map fun f => (f.offset, (T f.type).size))[i]?)
          (by
            intro i x hx
            subst hs
            simp only [List.getElem?_map, Option.map_map] at hx ⊢
            cases hf : fs.toList[i]? with
            | none => rw [hf] at hx; simp at hx
            | some f => rw [hf] at hx; simpa using hx)
          (T t).zero.length parts parts' (T t).zero z.cells _ rfl (by rw [hz]; exact LRel.refl_of (hT.zeros hnb)) hl hp h
        refine ⟨_, .agg cs', h1, .agg _ _ (h3.to_arr rfl rfl).1 (h3.to_arr rfl rfl).2, fun w => ?_⟩
        subst hs
        have hm := mapM_fields hT w fs.toList hok
        simp only [Instr.build, Sem.run_bind, hzr, Result.andThen_ok, run_underlying hu]
        rw [Array.mapM_eq_mapM_toList]
        simp only [Sem.run_map, hm, Result.andThen_ok, Sem.run_bind]
        simp only [List.getElem?_toArray, h2]
        simp
    · exact h.elim
  · rename_i n e hk hsub
    split at h
    · rename_i hok
      have hnb : (T t).k ≠ .bad := by simp [hk]
      obtain ⟨z, hz, hzr⟩ := run_zeroValue hT hnb
      rcases hT.agg hk with ⟨n', e', hu, hs⟩ | ⟨fs, hu, hs⟩
      · rw [hsub] at hs
        injection hs with hs1 hs2
        subst hs1 hs2
        obtain ⟨cs, cs', h1, h2, h3⟩ := fillC_sound (φ := φ) (fun i => some (i * (T e).size, (T e).size)) (fun i => some (i * (T e).size, (T e).size))
          (by intro i x hx; exact hx)
          (T t).zero.length parts parts' (T t).zero z.cells _ rfl (by rw [hz]; exact LRel.refl_of (hT.zeros hnb)) hl hp h
        refine ⟨_, .agg cs', h1, .agg _ _ (h3.to_arr rfl rfl).1 (h3.to_arr rfl rfl).2, fun w => ?_⟩
        simp only [Instr.build, Sem.run_bind, hzr, Result.andThen_ok, run_underlying hu, run_sizeOf hT hok]
        simp only [h2]
        simp
      · rw [hsub] at hs; cases hs
    · exact h.elim
  · exact h.elim

theorem elim_notbad {κ : K} {v : Option Value} {k : Value → Prop} (h : elim κ v k) : κ ≠ .agg ∧ κ ≠ .bad := by
  cases κ <;> simp [elim] at h <;> simp

theorem Agrees.notAgg (hT : Agrees P T) {t : TypeId} (h : (T t).k ≠ .bad) (h' : (T t).k ≠ .agg) (w : World) : (isAgg t).run P w = .ok false w := by
  obtain ⟨i, d, _, hd, hk, _⟩ := hT.get h
  cases d <;> simp [K.of] at hk <;> simp_all [isAgg, run_underlying hd]

theorem Agrees.isAgg (hT : Agrees P T) {t : TypeId} (h : (T t).k = .agg) (w : World) : (isAgg t).run P w = .ok true w := by
  rcases hT.agg h with ⟨n, e, hu, _⟩ | ⟨fs, hu, _⟩ <;> simp [Go.isAgg, run_underlying hu]

theorem LRel.drop {φ : Emb} {xs ys : List Value} (h : LRel φ xs ys) (n : Nat) : LRel φ (xs.drop n) (ys.drop n) := by
  refine ⟨by simp [h.1], fun i x y hx hy => ?_⟩
  rw [List.getElem?_drop] at hx hy
  exact h.2 _ x y hx hy

theorem LRel.take {φ : Emb} {xs ys : List Value} (h : LRel φ xs ys) (n : Nat) : LRel φ (xs.take n) (ys.take n) := by
  refine ⟨by simp [h.1], fun i x y hx hy => ?_⟩
  rw [List.getElem?_take] at hx hy
  split at hx
  · rw [if_pos ‹_›] at hy; exact h.2 _ x y hx hy
  · cases hx

theorem part_sound (hT : Agrees P T) {t : TypeId} {cs : List Value} {off : Nat} {k : Value → Prop} (h : partC T t cs off k) {φ : Emb} {cs' : Array Value} (hr : LRel φ cs cs'.toList) :
    ∃ v v', k v ∧ VRel φ v v' ∧ ∀ w, (part t cs' off).run P w = .ok v' w := by
  unfold partC at h
  split at h
  · rename_i hk
    refine ⟨_, .agg (cs'.extract off (off + (T t).size)), h, ?_, fun w => ?_⟩
    · have := (hr.drop off).take (T t).size
      have e : (cs'.extract off (off + (T t).size)).toList = (cs'.toList.drop off).take (T t).size := by simp [Array.toList_extract, List.extract_eq_take_drop]
      exact .agg _ _ (this.to_arr rfl e).1 (this.to_arr rfl e).2
    · simp [part, hT.isAgg hk, run_sizeOf hT (t := t) (by simp [hk])]
  · exact h.elim
  · rename_i hna hnb
    obtain ⟨x, hx, hk⟩ := elim_some h
    have hlt : off < cs'.toList.length := by
      rw [← hr.1]; exact (List.getElem?_eq_some_iff.1 hx).1
    have hget := List.getElem?_eq_getElem hlt
    refine ⟨x, _, hk, hr.2 off x _ hx hget, fun w => ?_⟩
    have hget' : cs'[off]? = some cs'.toList[off] := by rw [← Array.getElem?_toList]; exact hget
    simp [part, hT.notAgg hnb hna, hget']

theorem minMax_sound {isMax : Bool} : ∀ (rest : List Value) (x : Value) (k : Value → Prop), minMax isMax x rest k →
    ∃ v, k v ∧ (∀ φ, VRel φ v v) ∧ ∀ (φ : Emb) (x' : Value) (rest' : List Value), VRel φ x x' → rest.length = rest'.length → (∀ (i : Nat) (a b : Value), rest[i]? = some a → rest'[i]? = some b → VRel φ a b) →
      ∀ w, (rest'.foldlM (if isMax = true then Builtin.max2 else Builtin.min2) x').run P w = Result.ok v w := by
  intro rest
  induction rest with
  | nil =>
    intro x k h
    cases x <;> simp only [minMax] at h
    refine ⟨_, h, fun φ => .int _ _, fun φ x' rest' hx hl _ w => ?_⟩
    have : rest' = [] := List.length_eq_zero_iff.1 (by simpa using hl.symm)
    subst this
    cases hx
    simp
  | cons y rest ih =>
    intro x k h
    cases x <;> cases y <;> simp only [minMax] at h
    rename_i j a j' b
    obtain ⟨v, hk, hv, hr⟩ := ih _ k h
    refine ⟨v, hk, hv, fun φ x' rest' hx hl hp w => ?_⟩
    obtain _ | ⟨y', rest'⟩ := rest'
    · simp at hl
    have hy := hp 0 _ _ rfl rfl
    cases hx; cases hy
    have := hr φ _ rest' (.int _ _) (by simpa using hl) (fun i a b ha hb => hp (i + 1) a b ha hb) w
    simp only [List.foldlM_cons, Sem.run_bind]
    cases isMax
    · simpa [Builtin.min2] using this
    · simpa [Builtin.max2] using this

end
end Go.Abs

namespace Go.Abs
section
variable {P : Program} {T : Nat → TyE}

theorem sliceC_sound {s : Sl} {lo hi : Option Value} {size : Nat} {k : Value → Prop} (h : sliceC s lo hi size k) :
    ∃ v, k v ∧ ∀ (φ : Emb) (s' : Value) (lo' hi' : Option Value), VRel φ s.val s' → (∀ l, lo = some l → ∃ l', lo' = some l' ∧ VRel φ l l') → (lo = none → lo' = none) →
      (∀ l, hi = some l → ∃ l', hi' = some l' ∧ VRel φ l l') → (hi = none → hi' = none) →
      ∃ a n c v' r, s' = .slice a n c ∧ VRel φ v v' ∧ (∀ w, (Instr.sliceBounds true n c lo' hi' none).run P w = .ok r w) ∧
        v' = .slice (if r.2.2 = r.1 then a else a.map (·.add (r.1 * size))) (r.2.1 - r.1) (r.2.2 - r.1) := by
  have key : ∀ (l h' : Nat), l ≤ h' → h' ≤ s.n → ∀ (φ : Emb) (a : Option Addr) (n c : Nat), VRel φ s.val (.slice a n c) →
      n = s.n ∧ h' ≤ c ∧ VRel φ (.slice (s.a.map (·.add (l * size))) (h' - l) 0) (.slice (if c = l then a else a.map (·.add (l * size))) (h' - l) (c - l)) := by
    intro l h' hlh hhn φ a n c hv
    unfold Sl.val at hv
    obtain ⟨sa, sn, sk⟩ := s
    simp only at hv hhn ⊢
    cases hv with
    | sl0 =>
      obtain rfl : h' = 0 := by omega
      obtain rfl : l = 0 := by omega
      refine ⟨rfl, Nat.le_refl _, ?_⟩
      simp
      exact .sl0
    | @sl b B o _ _ _ hb hn hk =>
      refine ⟨rfl, by omega, ?_⟩
      by_cases hcl : c = l
      · rw [if_pos hcl]
        have : h' - l = 0 := by omega
        rw [this, hcl]
        simp only [Option.map_some]
        exact .sle _ _ _
      · rw [if_neg hcl]
        simp only [Option.map_some, add_off]
        exact .sl _ _ _ _ hb (by omega) (.inl rfl)
    | sle a0 a' k' =>
      obtain rfl : h' = 0 := by omega
      obtain rfl : l = 0 := by omega
      refine ⟨rfl, by omega, ?_⟩
      simp only [Nat.sub_self, Nat.zero_mul, Option.map_some]
      split <;> exact .sle _ _ _
  have shape : ∀ (φ : Emb) (s' : Value), VRel φ s.val s' → ∃ a n c, s' = .slice a n c := by
    intro φ s' hv
    obtain ⟨sa, sn, sk⟩ := s
    unfold Sl.val at hv
    simp only at hv
    cases hv <;> exact ⟨_, _, _, rfl⟩
  have bnd : ∀ (k' : IntKind) (i : Int) (y : Nat) (code : BoundsCode) (w : World), 0 ≤ i → i ≤ y → (Instr.sliceBound (.int k' i) y code).run P w = .ok i.toNat w := by
    intro k' i y code w h0 h1
    simp [Instr.sliceBound, asIntOf, h0, h1]
  unfold sliceC at h
  split at h
  · refine ⟨_, h, fun φ s' lo' hi' hs _ hl _ hh => ?_⟩
    obtain ⟨a, n, c, rfl⟩ := shape φ s' hs
    have e1 := hl rfl
    have e2 := hh rfl
    subst e1 e2
    refine ⟨a, n, c, .slice a n c, (0, n, c), rfl, hs, fun w => by simp [Instr.sliceBounds], ?_⟩
    cases a with
    | none => simp
    | some a => simp [Addr.add]
  · rename_i l
    obtain ⟨⟨h0, h1⟩, hk⟩ := h
    refine ⟨_, hk, fun φ s' lo' hi' hs hl _ _ hh => ?_⟩
    obtain ⟨a, n, c, rfl⟩ := shape φ s' hs
    obtain ⟨l', rfl, hvl⟩ := hl _ rfl
    have e2 := hh rfl
    subst e2
    cases hvl
    obtain ⟨e, hc, hv⟩ := key l.toNat s.n (by omega) (Nat.le_refl _) φ a n c hs
    subst e
    refine ⟨a, s.n, c, _, (l.toNat, s.n, c), rfl, hv, fun w => ?_, rfl⟩
    simp [Instr.sliceBounds, bnd, h0, h1]
  · rename_i h'
    obtain ⟨⟨h0, h1⟩, hk⟩ := h
    refine ⟨_, hk, fun φ s' lo' hi' hs _ hl hh _ => ?_⟩
    obtain ⟨a, n, c, rfl⟩ := shape φ s' hs
    obtain ⟨l', rfl, hvl⟩ := hh _ rfl
    have e2 := hl rfl
    subst e2
    cases hvl
    obtain ⟨e, hc, hv⟩ := key 0 h'.toNat (by omega) (by omega) φ a n c hs
    have ha : s.a.map (·.add (0 * size)) = s.a := by cases s.a <;> simp [Addr.add]
    rw [ha] at hv
    refine ⟨a, n, c, _, (0, h'.toNat, c), rfl, hv, fun w => ?_, rfl⟩
    have : h' ≤ (c : Int) := by omega
    simp [Instr.sliceBounds, bnd, h0, this]
  · rename_i l _ h'
    obtain ⟨⟨h0, h1, h2⟩, hk⟩ := h
    refine ⟨_, hk, fun φ s' lo' hi' hs hl _ hh _ => ?_⟩
    obtain ⟨a, n, c, rfl⟩ := shape φ s' hs
    obtain ⟨l', rfl, hvl⟩ := hl _ rfl
    obtain ⟨h'', rfl, hvh⟩ := hh _ rfl
    cases hvl
    cases hvh
    obtain ⟨e, hc, hv⟩ := key l.toNat h'.toNat (by omega) (by omega) φ a n c hs
    refine ⟨a, n, c, _, (l.toNat, h'.toNat, c), rfl, hv, fun w => ?_, rfl⟩
    have e1 : h' ≤ (c : Int) := by omega
    have e2 : l ≤ ((h'.toNat : Nat) : Int) := by omega
    have e3 : 0 ≤ h' := by omega
    have b1 := fun kk => bnd kk h' c .sliceAcap w e3 e1
    have b2 := fun kk => bnd kk l h'.toNat .sliceB w h0 e2
    simp [Instr.sliceBounds, b1, b2]
  · exact h.elim

theorem LRel.map {φ : Emb} {ρ ρ' : Operand → Value} (l : List Operand) (h : ∀ x ∈ l, VRel φ (ρ x) (ρ' x)) : LRel φ (l.map ρ) (l.map ρ') := by
  refine ⟨by simp, fun i x y hx hy => ?_⟩
  simp only [List.getElem?_map] at hx hy
  cases ho : l[i]? with
  | none => rw [ho] at hx; simp at hx
  | some o =>
    rw [ho] at hx hy
    simp at hx hy
    subst hx hy
    exact h o (List.mem_of_getElem? ho)


theorem fillC_mono {place : Nat → Option (Nat × Nat)} {n : Nat} {k k' : List Value → Prop} : ∀ (parts : List (Nat × Value)) (cells : List Value) (_ : Unit), (∀ x, k x → k' x) →
    fillC place n cells parts k → fillC place n cells parts k' := by
  intro parts
  induction parts with
  | nil => intro cells _ hk h; exact hk _ h
  | cons p parts ih =>
    intro cells u hk h
    obtain ⟨i, v⟩ := p
    simp only [fillC] at h ⊢
    split at h
    · exact h.elim
    · split at h
      · rename_i hle
        rw [if_pos hle]
        split at h
        · exact ⟨h.1, ih _ u hk h.2⟩
        · exact h.elim
        · split at h
          · rename_i hs
            rw [if_pos hs]
            exact ih _ u hk h
          · exact h.elim
      · exact h.elim

/-! ### what is told does not hang on who asks -/

theorem elim_fac {κ : K} {v : Option Value} {k : Value → Prop} (h : elim κ v k) : ∃ x, k x ∧ elim κ v (· = x) := by
  cases κ <;> simp only [elim, elI, elB, elS, elP, elL, elM, elV] at h
  case int j => obtain ⟨n, h, hk⟩ := h; exact ⟨_, hk, n, h, rfl⟩
  case bool => obtain ⟨n, h, hk⟩ := h; exact ⟨_, hk, n, h, rfl⟩
  case str => obtain ⟨n, h, hk⟩ := h; exact ⟨_, hk, n, h, rfl⟩
  case ptr => obtain ⟨n, h, hk⟩ := h; exact ⟨_, hk, n, h, rfl⟩
  case sl => obtain ⟨n, h, hk⟩ := h; exact ⟨_, hk, n, h, rfl⟩
  case map => obtain ⟨n, h, hk⟩ := h; exact ⟨_, hk, n, h, rfl⟩
  case any => obtain ⟨n, h, hk⟩ := h; exact ⟨_, hk, n, h, rfl⟩

theorem partC_fac {t : TypeId} {cs : List Value} {off : Nat} {k : Value → Prop} (h : partC T t cs off k) : ∃ x, k x ∧ partC T t cs off (· = x) := by
  unfold partC at h ⊢
  split at h
  · exact ⟨_, h, rfl⟩
  · exact h.elim
  · exact elim_fac h

theorem fillC_fac {place : Nat → Option (Nat × Nat)} {n : Nat} : ∀ (parts : List (Nat × Value)) (cells : List Value) (k : List Value → Prop), fillC place n cells parts k →
    ∃ cs, k cs ∧ fillC place n cells parts (· = cs) := by
  intro parts
  induction parts with
  | nil => intro cells k h; exact ⟨cells, h, rfl⟩
  | cons p parts ih =>
    intro cells k h
    obtain ⟨i, v⟩ := p
    simp only [fillC] at h ⊢
    split at h
    · exact h.elim
    · split at h
      · rename_i hle
        simp only [if_pos hle]
        split at h
        · obtain ⟨h1, h2⟩ := h
          obtain ⟨cs, hk, hc⟩ := ih _ _ h2
          exact ⟨cs, hk, h1, hc⟩
        · exact h.elim
        · split at h
          · rename_i hs
            simp only [if_pos hs]
            exact ih _ _ h
          · exact h.elim
      · exact h.elim

theorem buildC_fac {t : TypeId} {parts : List (Nat × Value)} {k : Value → Prop} (h : buildC T t parts k) : ∃ x, k x ∧ buildC T t parts (· = x) := by
  unfold buildC at h ⊢
  split at h
  · split at h
    · rename_i hok
      obtain ⟨cs, hk, hc⟩ := fillC_fac _ _ _ h
      refine ⟨_, hk, ?_⟩
      rw [if_pos hok]
      exact fillC_mono _ _ () (fun x hx => by rw [hx]) hc
    · exact h.elim
  · split at h
    · rename_i hok
      obtain ⟨cs, hk, hc⟩ := fillC_fac _ _ _ h
      refine ⟨_, hk, ?_⟩
      rw [if_pos hok]
      exact fillC_mono _ _ () (fun x hx => by rw [hx]) hc
    · exact h.elim
  · exact h.elim

theorem pure_sound (hT : Agrees P T) {ρ : Operand → Value} {o : Oper} {k : Value → Prop} (h : pureOp T ρ o.op k) : ∃ v, k v ∧ PureOK P ρ o v := by
  obtain ⟨dst, op, type, pos, after, guard⟩ := o
  simp only at h
  unfold PureOK
  simp only
  cases op with
  | move x => exact ⟨_, h, fun φ ρ' hr => ⟨_, fun w => rfl, hr x (by simp [Op.operands])⟩⟩
  | assign x => exact ⟨_, h, fun φ ρ' hr => ⟨_, fun w => rfl, hr x (by simp [Op.operands])⟩⟩
  | pick c a b =>
    simp only [pureOp] at h
    split at h
    · rename_i t ht
      cases t
      · refine ⟨_, by simpa using h, fun φ ρ' hr => ⟨ρ' b, fun w => ?_, hr b (by simp [Op.operands])⟩⟩
        have hc := hr c (by simp [Op.operands])
        rw [ht] at hc
        generalize hx : ρ' c = x at hc
        cases hc
        simp [execOp, hx, asBool]
      · refine ⟨_, by simpa using h, fun φ ρ' hr => ⟨ρ' a, fun w => ?_, hr a (by simp [Op.operands])⟩⟩
        have hc := hr c (by simp [Op.operands])
        rw [ht] at hc
        generalize hx : ρ' c = x at hc
        cases hc
        simp [execOp, hx, asBool]
    · exact h.elim
  | build t parts =>
    simp only [pureOp] at h
    obtain ⟨v, hk, hb⟩ := buildC_fac h
    refine ⟨v, hk, fun φ ρ' hr => ?_⟩
    obtain ⟨v0, v', rfl, h2, h1⟩ := build_sound (φ := φ) hT hb (parts' := parts.toList.map fun p => (p.1, ρ' p.2)) (by simp) (by
      intro j p p' hp hp'
      simp only [List.getElem?_map] at hp hp'
      cases hq : parts.toList[j]? with
      | none => rw [hq] at hp; simp at hp
      | some q =>
        rw [hq] at hp hp'
        simp at hp hp'
        subst hp hp'
        refine ⟨rfl, hr q.2 ?_⟩
        simp only [Op.operands, List.mem_toArray, List.mem_map]
        exact ⟨q, List.mem_of_getElem? hq, rfl⟩)
    have e : (parts.toList.map fun p => (p.1, ρ' p.2)).toArray = parts.map fun p => (p.1, ρ' p.2) := by
      apply Array.ext'; simp
    rw [e] at h1
    exact ⟨v', fun w => by simp [execOp, h1 w], h2⟩
  | nilCheck x =>
    simp only [pureOp] at h
    split at h
    · rename_i p hp
      obtain ⟨a, rfl, hk⟩ := onPtr_some h
      refine ⟨_, hk, fun φ ρ' hr => ?_⟩
      have hx := hr x (by simp [Op.operands])
      rw [hp] at hx
      obtain ⟨b, B, o, rfl, hb, he⟩ := vrel_ptr hx
      exact ⟨_, fun w => by simp [execOp, he], .ptr o hb⟩
    · exact h.elim
  | binOp op xt x y yt =>
    simp only [pureOp] at h
    obtain ⟨v, hk, hv, hr0⟩ := binL_sound hT h
    refine ⟨v, hk, fun φ ρ' hr => ⟨v, fun w => ?_, hv φ⟩⟩
    have := hr0 φ _ _ x y (hr x (by simp [Op.operands])) (hr y (by simp [Op.operands])) w
    simp only [execOp, Sem.run_bind, Sem.run_pure] at this ⊢
    rw [this]
    rfl
  | unOp op t x =>
    simp only [pureOp] at h
    split at h
    · rename_i b hb
      refine ⟨_, h, fun φ ρ' hr => ⟨_, fun w => ?_, .bool _⟩⟩
      have hx := hr x (by simp [Op.operands])
      rw [hb] at hx
      generalize hx' : ρ' x = x' at hx
      cases hx
      simp [execOp, hx', Op.unary]
    · rename_i j n hn
      refine ⟨_, h, fun φ ρ' hr => ⟨_, fun w => ?_, .int _ _⟩⟩
      have hx := hr x (by simp [Op.operands])
      rw [hn] at hx
      generalize hx' : ρ' x = x' at hx
      cases hx
      simp [execOp, hx', Op.unary, Op.intArith]
    · exact h.elim
  | convert src dst x =>
    simp only [pureOp] at h
    split at h
    · exact h.elim
    · rename_i hsrc
      obtain ⟨_, ds, _, hds, _⟩ := hT.get hsrc
      split at h
      · rename_i j j' n hj hn
        refine ⟨_, h, fun φ ρ' hr => ⟨_, fun w => ?_, .int _ _⟩⟩
        have hx := hr x (by simp [Op.operands])
        rw [hn] at hx
        generalize hx' : ρ' x = x' at hx
        cases hx
        simp [execOp, hx', convert, run_underlying hds, run_underlying (hT.int hj), Conv.intToInt]
      · rename_i s hj hs
        refine ⟨_, h, fun φ ρ' hr => ⟨_, fun w => ?_, .str _⟩⟩
        have hx := hr x (by simp [Op.operands])
        rw [hs] at hx
        generalize hx' : ρ' x = x' at hx
        cases hx
        simp [execOp, hx', convert, run_underlying hds, run_underlying (hT.str hj)]
      · exact h.elim
  | makeInterface t x =>
    simp only [pureOp] at h
    split at h
    · rename_i ht
      refine ⟨_, h, fun φ ρ' hr => ⟨_, fun w => ?_, .iface _ _ _ (hr x (by simp [Op.operands]))⟩⟩
      have hnb : (T t).k ≠ .bad := by intro hb; rw [hb] at ht; cases ht
      obtain ⟨_, d, _, hd, hk, _⟩ := hT.get hnb
      cases d <;> simp [K.of] at hk <;> simp [execOp, Instr.makeInterface, run_underlying hd]
      rw [← hk.1] at ht
      cases ht
    · exact h.elim
  | makeFunc fn first captured =>
    simp only [pureOp] at h
    refine ⟨_, h, fun φ ρ' hr => ⟨.func fn (first.map ρ') (captured.map ρ'), fun w => rfl, ?_⟩⟩
    have h1 := LRel.map (φ := φ) (ρ := ρ) (ρ' := ρ') first.toList (fun x hx => hr x (by simp [Op.operands]; exact .inl (by simpa using hx)))
    have h2 := LRel.map (φ := φ) (ρ := ρ) (ρ' := ρ') captured.toList (fun x hx => hr x (by simp [Op.operands]; exact .inr (by simpa using hx)))
    have a1 := h1.to_arr (as := first.map ρ) (bs := first.map ρ') (by simp) (by simp)
    have a2 := h2.to_arr (as := captured.map ρ) (bs := captured.map ρ') (by simp) (by simp)
    exact .fn _ _ _ _ _ a1.1 a1.2 a2.1 a2.2
  | slice t x lo hi mx =>
    simp only [pureOp] at h
    cases mx with
    | some m => simp at h
    | none =>
      simp only at h
      split at h
      · rename_i e a n c hk hs hx
        split at h
        · exact h.elim
        · rename_i he
          obtain ⟨v, hkv, hv⟩ := sliceC_sound (P := P) h
          refine ⟨v, hkv, fun φ ρ' hr => ?_⟩
          obtain ⟨e', hu, hse⟩ := hT.sl hk
          rw [hs] at hse
          injection hse with hse
          subst hse
          have hxr := hr x (by simp [Op.operands])
          rw [hx] at hxr
          obtain ⟨a', n', c', v', r, hx', hvv, hrun, hv'⟩ := hv φ (ρ' x) (lo.map ρ') (hi.map ρ') hxr
            (by intro l hl; cases lo with
                | none => cases hl
                | some l0 => simp at hl; subst hl; exact ⟨_, rfl, hr l0 (by simp [Op.operands])⟩)
            (by intro hl; cases lo with
                | none => rfl
                | some l0 => cases hl)
            (by intro l hl; cases hi with
                | none => cases hl
                | some l0 => simp at hl; subst hl; exact ⟨_, rfl, hr l0 (by simp [Op.operands])⟩)
            (by intro hl; cases hi with
                | none => rfl
                | some l0 => cases hl)
          refine ⟨v', fun w => ?_, hvv⟩
          rw [hv']
          obtain ⟨r1, r2, r3⟩ := r
          simp [execOp, Instr.sliceAt, Instr.slice, run_underlying hu, hx', hrun w, run_sizeOf hT he]
      · rename_i n e p hk hs hx
        split at h
        · exact h.elim
        · rename_i he
          split at h
          · obtain ⟨a, rfl, hkv⟩ := onPtr_some h
            refine ⟨_, hkv, fun φ ρ' hr => ?_⟩
            rcases hT.agg hk with ⟨n', e', hu, hse⟩ | ⟨fs, hu, hse⟩
            · rw [hs] at hse
              injection hse with h1 h2
              subst h1 h2
              have hxr := hr x (by simp [Op.operands])
              rw [hx] at hxr
              obtain ⟨b, B, o, rfl, hb, hxe⟩ := vrel_ptr hxr
              refine ⟨.slice (some ⟨B.c, o, none⟩) n n, fun w => ?_, .sl _ _ _ _ hb (Nat.le_refl _) (.inl rfl)⟩
              simp [execOp, Instr.sliceAt, run_underlying hu, hxe, Instr.sureAddr, Instr.sliceBounds, run_sizeOf hT he, Addr.add]
            · rw [hs] at hse; cases hse
          · exact h.elim
      · exact h.elim
  | fieldAddr s x f =>
    simp only [pureOp] at h
    split at h
    · rename_i off ft p hf hx
      split at h
      · exact h.elim
      · rename_i hsz
        obtain ⟨a, rfl, hkv⟩ := onPtr_some h
        refine ⟨_, hkv, fun φ ρ' hr => ?_⟩
        have hxr := hr x (by simp [Op.operands])
        rw [hx] at hxr
        obtain ⟨b, B, o, rfl, hb, hxe⟩ := vrel_ptr hxr
        unfold fieldAt? at hf
        split at hf
        · rename_i l hk hs
          rcases hT.agg hk with ⟨n', e', hu, hse⟩ | ⟨fs, hu, hse⟩
          · rw [hs] at hse; cases hse
          · rw [hs] at hse
            injection hse with hse
            subst hse
            simp only [List.getElem?_map, Array.getElem?_toList] at hf
            cases hfd : fs[f]? with
            | none => rw [hfd] at hf; cases hf
            | some fd =>
              rw [hfd] at hf
              simp at hf
              obtain ⟨rfl, rfl⟩ := hf
              have hz : ¬ (T fd.type).size = 0 := fun hh => hsz (.inr hh)
              have hbad : (T fd.type).k ≠ .bad := fun hh => hsz (.inl hh)
              refine ⟨.pointer (some ⟨B.c, o + fd.offset, none⟩), fun w => ?_, ?_⟩
              · simp [execOp, Instr.fieldAt, run_underlying hu, hfd, hxe, Instr.sureAddr, fieldPlace, run_sizeOf hT hbad, hz, add_off]
              · rw [add_off]; exact .ptr _ hb
        · cases hf
    · exact h.elim
  | field s x f =>
    simp only [pureOp] at h
    split at h
    · rename_i off ft cs hf hx
      obtain ⟨v, hkv, hp⟩ := partC_fac h
      refine ⟨v, hkv, fun φ ρ' hr => ?_⟩
      have hxr := hr x (by simp [Op.operands])
      rw [hx] at hxr
      generalize hx' : ρ' x = x' at hxr
      cases hxr with
      | agg _ cs' h1 h2 =>
        obtain ⟨v0, v', rfl, hv, hrun⟩ := part_sound hT hp (LRel.of_arr h1 h2)
        unfold fieldAt? at hf
        split at hf
        · rename_i l hk hs
          rcases hT.agg hk with ⟨n', e', hu, hse⟩ | ⟨fs, hu, hse⟩
          · rw [hs] at hse; cases hse
          · rw [hs] at hse
            injection hse with hse
            subst hse
            simp only [List.getElem?_map, Array.getElem?_toList] at hf
            cases hfd : fs[f]? with
            | none => rw [hfd] at hf; cases hf
            | some fd =>
              rw [hfd] at hf
              simp at hf
              obtain ⟨rfl, rfl⟩ := hf
              exact ⟨v', fun w => by simp [execOp, Instr.field, run_underlying hu, hfd, hx', asAgg, hrun w], hv⟩
        · cases hf
    · exact h.elim
  | indexAddr t x ix =>
    simp only [pureOp] at h
    split at h
    · rename_i e a n c j i hk hs hx hi
      split at h
      · exact h.elim
      · rename_i he
        obtain ⟨⟨h0, h1⟩, h⟩ := h
        obtain ⟨a, rfl, hkv⟩ := onPtr_some h
        refine ⟨_, hkv, fun φ ρ' hr => ?_⟩
        have hxr := hr x (by simp [Op.operands])
        have hir := hr ix (by simp [Op.operands])
        rw [hx] at hxr
        rw [hi] at hir
        obtain ⟨e', hu, hse⟩ := hT.sl hk
        rw [hs] at hse
        injection hse with hse
        subst hse
        generalize hx' : ρ' x = x' at hxr
        generalize hi' : ρ' ix = i' at hir
        cases hir
        cases hxr with
        | @sl b B o _ _ k' hb hn hkk =>
          refine ⟨.pointer (some ⟨B.c, o + i.toNat * (T e).size, none⟩), fun w => ?_, ?_⟩
          · simp [execOp, Instr.indexAt, hx', hi', asIntOf, run_underlying hu, h0, h1, run_sizeOf hT he, add_off]
          · rw [add_off]; exact .ptr _ hb
        | sle a a' k' => omega
    · rename_i n e p j i hk hs hx hi
      split at h
      · exact h.elim
      · rename_i he
        obtain ⟨⟨h0, h1⟩, h⟩ := h
        obtain ⟨a, rfl, hkv⟩ := onPtr_some h
        refine ⟨_, hkv, fun φ ρ' hr => ?_⟩
        have hxr := hr x (by simp [Op.operands])
        have hir := hr ix (by simp [Op.operands])
        rw [hx] at hxr
        rw [hi] at hir
        obtain ⟨b, B, o, rfl, hb, hxe⟩ := vrel_ptr hxr
        rcases hT.agg hk with ⟨n', e', hu, hse⟩ | ⟨fs, hu, hse⟩
        · rw [hs] at hse
          injection hse with h1 h2
          subst h1 h2
          generalize hi' : ρ' ix = i' at hir
          cases hir
          refine ⟨.pointer (some ⟨B.c, o + i.toNat * (T e).size, none⟩), fun w => ?_, ?_⟩
          · simp [execOp, Instr.indexAt, hxe, hi', asIntOf, run_underlying hu, h0, h1, run_sizeOf hT he, add_off, Instr.sureAddr]
          · rw [add_off]; exact .ptr _ hb
        · rw [hs] at hse; cases hse
    · exact h.elim
  | index t x ix =>
    simp only [pureOp] at h
    split at h
    · rename_i n e cs j i hk hs hx hi
      obtain ⟨⟨h0, h1⟩, h⟩ := h
      obtain ⟨v, hkv, hp⟩ := partC_fac h
      refine ⟨v, hkv, fun φ ρ' hr => ?_⟩
      have hxr := hr x (by simp [Op.operands])
      have hir := hr ix (by simp [Op.operands])
      rw [hx] at hxr
      rw [hi] at hir
      have he : (T e).k ≠ .bad := by
        intro hb; unfold partC at hp; rw [hb] at hp; exact hp.elim
      rcases hT.agg hk with ⟨n', e', hu, hse⟩ | ⟨fs, hu, hse⟩
      · rw [hs] at hse
        injection hse with h1' h2
        subst h1' h2
        generalize hi' : ρ' ix = i' at hir
        generalize hx' : ρ' x = x' at hxr
        cases hir
        cases hxr with
        | agg _ cs' h1'' h2 =>
          obtain ⟨v0, v', rfl, hv, hrun⟩ := part_sound hT hp (LRel.of_arr h1'' h2)
          exact ⟨v', fun w => by simp [execOp, Instr.index, hx', hi', asIntOf, run_underlying hu, h0, h1, run_sizeOf hT he, hrun w], hv⟩
      · rw [hs] at hse; cases hse
    · exact h.elim
  | extract x i =>
    simp only [pureOp] at h
    split at h
    · rename_i vs hx
      split at h
      · exact h.elim
      rename_i hone
      split at h
      · rename_i v hv
        refine ⟨v, h, fun φ ρ' hr => ?_⟩
        have hxr := hr x (by simp [Op.operands])
        rw [hx] at hxr
        generalize hx' : ρ' x = x' at hxr
        cases hxr with
        | undef => simp at hv
        | skip => simp at hone
        | tup _ ws h1 h2 =>
          have hl := LRel.of_arr h1 h2
          have hlt : i < ws.toList.length := by
            rw [← hl.1]; exact (List.getElem?_eq_some_iff.1 hv).1
          have hw := List.getElem?_eq_getElem hlt
          have hw' : ws[i]? = some ws.toList[i] := by rw [← Array.getElem?_toList]; exact hw
          exact ⟨ws.toList[i], fun w => by simp [execOp, Instr.extract, hx', hw'], hl.2 i v _ hv hw⟩
      · exact h.elim
    · exact h.elim
  | call c =>
    obtain ⟨callee, args, argTypes⟩ := c
    simp only [pureOp] at h
    split at h
    · split at h
      · rename_i t ts x xs hts hxs
        have ht0 : argTypes[0]? = some t := by rw [← Array.getElem?_toList, hts]; rfl
        have hx0 : args[0]? = some x := by rw [← Array.getElem?_toList, hxs]; rfl
        have hxm : x ∈ (Op.call { callee := .builtin .len, args, argTypes }).operands := by
          simp only [Op.operands, Call.operands, Array.mem_append]
          exact .inr (Array.mem_of_getElem? hx0)
        have hrunlen : ∀ (ρ' : Operand → Value) (w : World) (n : Int), (Builtin.len_ argTypes type (args.map ρ')).run P w = .ok (.int .i64 n) w →
            (execOp ρ' { dst, op := .call { callee := .builtin .len, args, argTypes }, type, pos, after, guard }).run P w = .ok (.value (.int .i64 n)) w := by
          intro ρ' w n hn
          simp [execOp, resolve, invoke, builtin, hn]
        split at h
        · rename_i a n c hk hx
          refine ⟨_, h, fun φ ρ' hr => ?_⟩
          have hxr := hr x hxm
          rw [hx] at hxr
          obtain ⟨e, hu, _⟩ := hT.sl hk
          refine ⟨_, fun w => hrunlen ρ' w n ?_, .int _ _⟩
          generalize hx' : ρ' x = x' at hxr
          cases hxr <;> simp [Builtin.len_, ht0, hx0, hx', run_underlying hu, goInt]
        · rename_i s hk hx
          refine ⟨_, h, fun φ ρ' hr => ?_⟩
          have hxr := hr x hxm
          rw [hx] at hxr
          refine ⟨_, fun w => hrunlen ρ' w _ ?_, .int _ _⟩
          generalize hx' : ρ' x = x' at hxr
          cases hxr
          simp [Builtin.len_, ht0, hx0, hx', run_underlying (hT.str hk), goInt]
        · rename_i n e hk hs
          refine ⟨_, h, fun φ ρ' hr => ?_⟩
          rcases hT.agg hk with ⟨n', e', hu, hse⟩ | ⟨fs, hu, hse⟩
          · rw [hs] at hse
            injection hse with h1 h2
            subst h1 h2
            refine ⟨_, fun w => hrunlen ρ' w _ ?_, .int _ _⟩
            simp [Builtin.len_, ht0, hx0, run_underlying hu, goInt]
          · rw [hs] at hse; cases hse
        · exact h.elim
      · exact h.elim
    · split at h
      · rename_i x xs hxs
        obtain ⟨v, hkv, hv, hrun⟩ := minMax_sound (P := P) _ _ _ h
        refine ⟨v, hkv, fun φ ρ' hr => ⟨v, fun w => ?_, hv φ⟩⟩
        have hmem : ∀ y ∈ x :: xs, VRel φ (ρ y) (ρ' y) := fun y hy => hr y (by
          simp only [Op.operands, Call.operands, Array.mem_append]
          exact .inr (Array.mem_toList_iff.1 (hxs ▸ hy)))
        have := hrun φ (ρ' x) (xs.map ρ') (hmem x (by simp)) (by simp) (fun i a b ha hb => (LRel.map xs (fun y hy => hmem y (by simp [hy]))).2 i a b ha hb) w
        simp [execOp, resolve, invoke, builtin, Builtin.min_, hxs] at this ⊢
        rw [this]
        rfl
      · exact h.elim
    · split at h
      · rename_i x xs hxs
        obtain ⟨v, hkv, hv, hrun⟩ := minMax_sound (P := P) _ _ _ h
        refine ⟨v, hkv, fun φ ρ' hr => ⟨v, fun w => ?_, hv φ⟩⟩
        have hmem : ∀ y ∈ x :: xs, VRel φ (ρ y) (ρ' y) := fun y hy => hr y (by
          simp only [Op.operands, Call.operands, Array.mem_append]
          exact .inr (Array.mem_toList_iff.1 (hxs ▸ hy)))
        have := hrun φ (ρ' x) (xs.map ρ') (hmem x (by simp)) (by simp) (fun i a b ha hb => (LRel.map xs (fun y hy => hmem y (by simp [hy]))).2 i a b ha hb) w
        simp [execOp, resolve, invoke, builtin, Builtin.max_, hxs] at this ⊢
        rw [this]
        rfl
      · exact h.elim
    · exact h.elim
  | _ => simp [pureOp] at h

end
end Go.Abs

namespace Go.Abs

/-! ## Loads -/

def ldA (H : AH) (a : Addr) (n : Nat) (k : List Value → Prop) : Prop := ∃ cs : List Value, H.row? a n = some cs ∧ k cs

def AH.rowS? (H : AH) (s : Sl) (size : Nat) : Option (List Value) :=
  if s.n = 0 then some [] else
  match s.a with
  | some a => H.row? a (s.n * size)
  | none => none

def byteV (b : UInt8) : Value := .int .u8 b.toNat

def strC (H : AH) (s : Sl) (k : List UInt8 → Prop) : Prop := ∃ bs : List UInt8, H.rowS? s 1 = some (bs.map byteV) ∧ k bs

def isLoad (T : Nat → TyE) (op : Op) : Bool :=
  match op with
  | .load _ _ => true
  | .convert src dst _ => match (T src).k, (T dst).k with
    | .sl, .str => true
    | _, _ => false
  | _ => false

def loadOp (T : Nat → TyE) (ρ : Operand → Value) (op : Op) (H : AH) (k : Value → (AH → Prop) → Prop) : Prop :=
  match op with
  | .load t a =>
    match ρ a with
    | .pointer p => onPtr p fun a =>
      match (T t).k with
      | .agg => ldA H a (T t).size fun cs => k (.agg cs.toArray) fun H' => H'.row? a (T t).size = some cs
      | .bad => False
      | κ => elim κ (H.cell? a) fun v => k v fun H' => H'.cell? a = some v
    | _ => False
  | .convert src dst x =>
    match (T src).k, (T src).sub, (T dst).k, ρ x with
    | .sl, .elem e, .str, .slice a n c =>
      if (T e).k = .int .u8 then strC H ⟨a, n, c⟩ fun bs => k (.string ⟨bs.toArray⟩) fun H' => H'.rowS? ⟨a, n, c⟩ 1 = some (bs.map byteV) else False
    | _, _, _, _ => False
  | _ => False

def LoadOK (P : Program) (ρ : Operand → Value) (o : Oper) (v : Value) (rec : AH → Prop) : Prop :=
  ∀ (φ : Emb) (ρ' : Operand → Value) (W w : World) (H : AH), (∀ x ∈ o.op.operands, VRel φ (ρ x) (ρ' x)) → Rel W φ H w → rec H →
    ∃ v', (execOp ρ' o).run P w = .ok (.value v') w ∧ VRel φ v v'

section
variable {P : Program} {T : Nat → TyE}

theorem Rel.row {W w : World} {φ : Emb} {H : AH} (R : Rel W φ H w) {b o n : Nat} {B : Blk} (hb : φ b = some B) {cs : List Value} (h : H.row? ⟨b, o, none⟩ n = some cs) :
    ∃ cs' : List Value, LRel φ cs cs' ∧ (∀ j v, cs'[j]? = some v → w.cell? ((⟨B.c, o, none⟩ : Addr).add j) = some v) ∧ ∀ v ∈ cs', v.oneCell' = true := by
  obtain ⟨_, hlen, hall, hd, hc⟩ := AH.row?_cell h
  have step : ∀ j, j < cs.length → ∃ v', w.cell? ⟨B.c, o + j, none⟩ = some v' ∧ ∀ v, cs[j]? = some v → VRel φ v v' := by
    intro j hj
    obtain ⟨v', h1, h2⟩ := R.load hb (hc j _ (List.getElem?_eq_getElem hj))
    exact ⟨v', h1, fun v hv => by rw [List.getElem?_eq_getElem hj] at hv; injection hv with hv; subst hv; exact h2⟩
  refine ⟨(List.range cs.length).map fun j => ((w.cell? ⟨B.c, o + j, none⟩).getD undef), ⟨by simp, ?_⟩, ?_, ?_⟩
  · intro i x y hx hy
    have hi : i < cs.length := (List.getElem?_eq_some_iff.1 hx).1
    obtain ⟨v', h1, h2⟩ := step i hi
    simp [List.getElem?_map, List.getElem?_range hi, h1] at hy
    subst hy
    exact h2 x hx
  · intro j v hv
    have hi : j < cs.length := by
      have := (List.getElem?_eq_some_iff.1 hv).1
      simpa using this
    obtain ⟨v', h1, _⟩ := step j hi
    simp [List.getElem?_map, List.getElem?_range hi, h1] at hv
    subst hv
    rw [add_off]
    exact h1
  · intro v hv
    simp only [List.mem_map, List.mem_range] at hv
    obtain ⟨j, hj, rfl⟩ := hv
    obtain ⟨v', h1, h2⟩ := step j hj
    rw [h1]
    simp only [Option.getD_some]
    have hj' := List.getElem?_eq_getElem hj
    exact (h2 _ hj').oneCell (List.all_eq_true.1 hall _ (List.getElem_mem hj))

theorem run_loadCells_rel {W w : World} {φ : Emb} {H : AH} (R : Rel W φ H w) {b o n : Nat} {B : Blk} (hb : φ b = some B) {cs : List Value} (h : H.row? ⟨b, o, none⟩ n = some cs) :
    ∃ cs' : List Value, LRel φ cs cs' ∧ (∀ v ∈ cs', v.oneCell' = true) ∧ (loadCells ⟨B.c, o, none⟩ n).run P w = .ok cs'.toArray w := by
  obtain ⟨cs', h1, h2, h3⟩ := R.row hb h
  refine ⟨cs', h1, h3, ?_⟩
  have hn : n = cs'.length := by rw [← h1.1]; exact (AH.row?_cell h).2.1.symm
  rw [hn]
  exact run_loadCells_list w _ cs' h2

theorem bytes_of_rel {φ : Emb} : ∀ (bs : List UInt8) (cs' : List Value), LRel φ (bs.map byteV) cs' → cs' = bs.map byteV := by
  intro bs
  induction bs with
  | nil => intro cs' h; have := h.1; simpa using this.symm
  | cons b bs ih =>
    intro cs' h
    obtain _ | ⟨c, cs'⟩ := cs'
    · have := h.1; simp at this
    have h0 := h.2 0 (byteV b) c (by simp) rfl
    cases h0
    rw [ih cs' ⟨by have := h.1; simpa using this, fun i x y hx hy => h.2 (i + 1) x y (by simpa using hx) (by simpa using hy)⟩]
    rfl

theorem run_bytesLoop (w : World) (f : Value → ByteArray → Sem (ForInStep ByteArray)) (hf : ∀ b s, f (byteV b) s = pure (ForInStep.yield (s.push (UInt8.ofNat ((b.toNat : Int)).toNat)))) :
    ∀ (bs : List UInt8) (acc : ByteArray), ((forIn (m := Sem) (bs.map byteV).toArray acc f).run P w) = .ok ⟨acc.data ++ bs.toArray⟩ w := by
  intro bs
  induction bs with
  | nil => intro acc; simp
  | cons b bs ih =>
    intro acc
    have := ih (acc.push (UInt8.ofNat ((b.toNat : Int)).toNat))
    rw [← Array.forIn_toList] at this ⊢
    simp only [List.map_cons, List.forIn_cons, hf, Sem.run_bind, Sem.run_pure, Result.andThen_ok]
    rw [this]
    congr 2
    simp

/-- What was read stays when a new object is laid. -/
def Stays (rec : AH → Prop) : Prop := ∀ (H : AH) (ob : AObj), (∀ b, H.size ≤ b → (H.get b).md = .dead) → rec H → rec (H.push ob)

theorem stays_cell (a : Addr) (v : Value) : Stays fun H => H.cell? a = some v := by
  intro H ob hout h
  unfold AH.cell? at h ⊢
  split at h
  · cases h
  · rename_i hs
    rw [if_neg hs]
    split at h
    · cases h
    · rename_i hd
      have hne : a.block ≠ H.size := fun e => hd (hout _ (by omega))
      simp only [AH.push, hne, if_false, hd]
      exact h

theorem stays_row (a : Addr) (n : Nat) (cs : List Value) : Stays fun H => H.row? a n = some cs := by
  intro H ob hout h
  unfold AH.row? at h ⊢
  split at h
  · cases h
  · rename_i hs
    rw [if_neg hs]
    split at h
    · cases h
    · rename_i hd
      have hne : a.block ≠ H.size := fun e => hd (hout _ (by omega))
      simp only [AH.push, hne, if_false, hd]
      exact h

theorem stays_rowS (s : Sl) (n : Nat) (cs : List Value) : Stays fun H => H.rowS? s n = some cs := by
  intro H ob hout h
  unfold AH.rowS? at h ⊢
  split at h
  · rename_i h0; rw [if_pos h0]; exact h
  · rename_i h0
    rw [if_neg h0]
    split at h
    · exact stays_row _ _ cs H ob hout h
    · cases h

theorem load_sound (hT : Agrees P T) {ρ : Operand → Value} {o : Oper} {H : AH} {k : Value → (AH → Prop) → Prop} (h : loadOp T ρ o.op H k) :
    ∃ v rec, k v rec ∧ rec H ∧ LoadOK P ρ o v rec ∧ Stays rec := by
  obtain ⟨dst, op, type, pos, after, guard⟩ := o
  simp only at h
  unfold LoadOK
  simp only
  cases op with
  | load t a =>
    simp only [loadOp] at h
    split at h
    · rename_i p hp
      obtain ⟨a0, rfl, h⟩ := onPtr_some h
      split at h
      · rename_i hk
        obtain ⟨cs, hrow, hkv⟩ := h
        refine ⟨_, _, hkv, hrow, fun φ ρ' W w H' hr R hrec => ?_, stays_row _ _ _⟩
        have hx := hr a (by simp [Op.operands])
        rw [hp] at hx
        obtain ⟨b, B, o, rfl, hb, he⟩ := vrel_ptr hx
        obtain ⟨cs', h1, _, h3⟩ := run_loadCells_rel (P := P) R hb hrec
        exact ⟨_, by simp [execOp, Instr.loadAt, he, Instr.sureAddr, loadVar, hT.isAgg hk, run_sizeOf hT (t := t) (by simp [hk]), h3], h1.agg⟩
      · exact h.elim
      · rename_i hna hnb
        change elim (T t).k (H.cell? a0) (fun v => k v fun H' => H'.cell? a0 = some v) at h
        obtain ⟨v, hv, hkv⟩ := elim_some h
        refine ⟨_, _, hkv, hv, fun φ ρ' W w H' hr R hrec => ?_, stays_cell _ _⟩
        have hx := hr a (by simp [Op.operands])
        rw [hp] at hx
        obtain ⟨b, B, o, rfl, hb, he⟩ := vrel_ptr hx
        obtain ⟨v', h1, h2⟩ := R.load hb hrec
        exact ⟨v', by simp [execOp, Instr.loadAt, he, Instr.sureAddr, loadVar, hT.notAgg hnb hna, h1], h2⟩
    · exact h.elim
  | convert src dst x =>
    simp only [loadOp] at h
    split at h
    · rename_i e a n c hk hs hd hx
      split at h
      · rename_i he
        obtain ⟨bs, hrow, hkv⟩ := h
        refine ⟨_, _, hkv, hrow, fun φ ρ' W w H' hr R hrec => ⟨_, ?_, .str _⟩, stays_rowS _ _ _⟩
        obtain ⟨e', hu, hse⟩ := hT.sl hk
        rw [hs] at hse
        injection hse with hse
        subst hse
        have hxr := hr x (by simp [Op.operands])
        rw [hx] at hxr
        generalize hx' : ρ' x = x' at hxr
        unfold AH.rowS? at hrec
        have hud := hT.str hd
        have hue := hT.int he
        have nil_case : n = 0 → bs = [] := by
          intro hn; simp only [hn, if_true] at hrec; simpa using hrec.symm
        cases hxr with
        | sl0 =>
          obtain rfl := nil_case rfl
          simp [execOp, convert, run_underlying hu, run_underlying hud, run_underlying hue, hx', Conv.bytesToString, ByteArray.empty, ByteArray.emptyWithCapacity]; rfl
        | @sl b B o _ _ k' hb hn hkk =>
          by_cases hn0 : n = 0
          · obtain rfl := nil_case hn0
            subst hn0
            simp [execOp, convert, run_underlying hu, run_underlying hud, run_underlying hue, hx', Conv.bytesToString, loadCells, loadCellsFrom, ByteArray.empty, ByteArray.emptyWithCapacity]; rfl
          · simp only [hn0, if_false, Nat.mul_one] at hrec
            obtain ⟨cs', h1, _, h3⟩ := run_loadCells_rel (P := P) R hb hrec
            have hcs := bytes_of_rel bs cs' h1
            subst hcs
            simp only [execOp, convert, Sem.run_bind, run_underlying hu, run_underlying hud, run_underlying hue, hx', Conv.bytesToString, Result.andThen_ok, h3]
            rw [run_bytesLoop (P := P) w _ (fun b s => rfl)]
            simp [ByteArray.empty, ByteArray.emptyWithCapacity]
            rfl
        | sle a a' k' =>
          obtain rfl := nil_case rfl
          simp [execOp, convert, run_underlying hu, run_underlying hud, run_underlying hue, hx', Conv.bytesToString, loadCells, loadCellsFrom, ByteArray.empty, ByteArray.emptyWithCapacity]; rfl
      · exact h.elim
    · exact h.elim
  | _ => simp [loadOp] at h

end
end Go.Abs

namespace Go.Abs

/-! ## Operations that lay a new object -/

def isAlloc (op : Op) : Bool :=
  match op with
  | .alloc _ => true
  | .box _ _ => true
  | .buildSlice _ _ _ => true
  | .makeSlice _ _ _ => true
  | _ => false

def newAt (b : Nat) : Option Addr := some ⟨b, 0, none⟩

def zerosOf (n : Nat) (z : List Value) : List Value := (List.replicate n z).flatten

def lim : Nat := 4294967296

def allocOp (T : Nat → TyE) (ρ : Operand → Value) (op : Op) (b : Nat) (k : Value → AObj → Prop) : Prop :=
  match op with
  | .alloc e => if (T e).k = .bad then False else k (.pointer (newAt b)) ⟨(T e).zero, .rw, 0⟩
  | .box _ x =>
    match ρ x with
    | .agg arr => k (.pointer (newAt b)) ⟨arr.toList, .rw, 0⟩
    | .tuple _ => False
    | v => k (.pointer (newAt b)) ⟨[v], .rw, 0⟩
  | .buildSlice t n parts =>
    match (T t).k, (T t).sub with
    | .sl, .elem e =>
      if (T e).k = .bad ∨ (T e).size = 0 ∨ (T e).zero.length ≠ (T e).size ∨ n * (T e).size > 2 ^ 24 then False else
      fillC (fun i => some (i * (T e).size, (T e).size)) (n * (T e).size) (zerosOf n (T e).zero) (parts.toList.map fun p => (p.1, ρ p.2)) fun cs =>
        k (.slice (newAt b) n 1) ⟨cs, .rw, (T e).size⟩
    | _, _ => False
  | .makeSlice t l c =>
    match (T t).k, (T t).sub, ρ l, ρ c with
    | .sl, .elem e, .int _ n, .int _ m =>
      if (T e).k = .bad ∨ (T e).size = 0 ∨ (T e).zero.length ≠ (T e).size ∨ (T e).bytes > 4096 then False else
      (0 ≤ n ∧ n ≤ m ∧ m ≤ lim) ∧ k (.slice (newAt b) n.toNat 1) ⟨zerosOf n.toNat (T e).zero, .rw, (T e).size⟩
    | _, _, _, _ => False
  | _ => False

def AllocOK (P : Program) (ρ : Operand → Value) (o : Oper) (b : Nat) (v : Value) (ob : AObj) : Prop :=
  ∀ (φ : Emb) (ρ' : Operand → Value) (W w : World) (H : AH), (∀ x ∈ o.op.operands, VRel φ (ρ x) (ρ' x)) → Rel W φ H w → H.get b = ob → b < H.size → φ b = none →
    ∃ v' w' B, (execOp ρ' o).run P w = .ok (.value v') w' ∧ VRel (φ.add b B) v v' ∧ Rel W (φ.add b B) H w'

section
variable {P : Program} {T : Nat → TyE}

theorem Emb.add_self (φ : Emb) (b : Nat) (B : Blk) : φ.add b B b = some B := by simp [Emb.add]

theorem zeros_list (z : Array Value) : ∀ n, ((Array.range (n * z.size)).map (fun i => z[i % z.size]!)).toList = zerosOf n z.toList := by
  intro n
  have key : ∀ n, (List.range (n * z.size)).map (fun i => z[i % z.size]!) = zerosOf n z.toList := by
    intro n
    induction n with
    | zero => simp [zerosOf]
    | succ n ih =>
      have : (n + 1) * z.size = n * z.size + z.size := by rw [Nat.add_mul]; omega
      rw [this, List.range_add, List.map_append, ih]
      unfold zerosOf
      rw [List.replicate_succ', List.flatten_append]
      congr 1
      simp only [List.flatten_cons, List.flatten_nil, List.append_nil, List.map_map]
      apply List.ext_getElem
      · simp
      · intro i h1 h2
        have hi : i < z.size := by simpa using h1
        simp [Nat.mul_add_mod_self_right, Nat.mod_eq_of_lt hi, hi]
  simp only [Array.toList_map, Array.toList_range]
  exact key n

theorem zerosOf_length (n : Nat) (z : List Value) : (zerosOf n z).length = n * z.length := by
  induction n with
  | zero => simp [zerosOf]
  | succ n ih =>
    unfold zerosOf at ih ⊢
    rw [List.replicate_succ, List.flatten_cons, List.length_append, ih, Nat.add_mul]; omega

theorem zerosOf_mem {n : Nat} {z : List Value} {x : Value} (h : x ∈ zerosOf n z) : x ∈ z := by
  unfold zerosOf at h
  simp only [List.mem_flatten, List.mem_replicate] at h
  obtain ⟨l, ⟨_, rfl⟩, hx⟩ := h
  exact hx

theorem alloc_lay {W w : World} {φ : Emb} {H : AH} (R : Rel W φ H w) {b : Nat} (hlt : b < H.size) (hb : φ b = none) {cells : List Value} {cs : Array Value} {esz : Nat} (e : TypeId)
    (hob : H.get b = ⟨cells, .rw, esz⟩) (hlen : cells.length ≤ cs.size) (hv : ∀ i v, cells[i]? = some v → VRel φ v (cs.getD i undef)) :
    Rel W (φ.add b ⟨w.heap.size, cs.size, esz⟩) H (w.alloc (.cells cs e)) := by
  have h1 : (H.get b).cells = cells := by rw [hob]
  have h2 : (H.get b).esz = esz := by rw [hob]
  have h3 : (H.get b).md = .rw := by rw [hob]
  have := R.lay (b := b) hb hlt cs e h3 (by rw [h1]; exact hlen) (fun i v hi => by
    rw [h1] at hi
    exact (hv i v hi).mono (Emb.le_add hb))
  rw [h2] at this
  exact this

theorem LRel.getD {φ : Emb} {xs : List Value} {ys : Array Value} (h : LRel φ xs ys.toList) (i : Nat) (v : Value) (hi : xs[i]? = some v) : VRel φ v (ys.getD i undef) := by
  have hlt : i < ys.size := by
    have := (List.getElem?_eq_some_iff.1 hi).1
    have h1 := h.1
    simp at h1; omega
  have : ys.getD i undef = ys[i] := by simp [hlt]
  rw [this]
  exact h.2 i v _ hi (by simp [hlt])

theorem map_range0 (f : Nat → Value) : (Array.range 0).map f = #[] := by
  apply Array.ext'; simp

theorem fillC_length {place : Nat → Option (Nat × Nat)} {n : Nat} : ∀ (parts : List (Nat × Value)) (cells : List Value) {cs : List Value}, fillC place n cells parts (· = cs) → cs.length = cells.length := by
  intro parts
  induction parts with
  | nil => intro cells cs h; exact h ▸ rfl
  | cons p parts ih =>
    intro cells cs h
    obtain ⟨i, v⟩ := p
    simp only [fillC] at h
    split at h
    · exact h.elim
    · split at h
      · split at h
        · rw [ih _ h.2, setMany_length]
        · exact h.elim
        · split at h
          · rw [ih _ h]; simp
          · exact h.elim
      · exact h.elim

theorem alloc_sound (hT : Agrees P T) {ρ : Operand → Value} {o : Oper} {b : Nat} {k : Value → AObj → Prop} (h : allocOp T ρ o.op b k) :
    ∃ v ob, k v ob ∧ AllocOK P ρ o b v ob := by
  obtain ⟨dst, op, type, pos, after, guard⟩ := o
  simp only at h
  unfold AllocOK
  simp only
  cases op with
  | alloc e =>
    simp only [allocOp] at h
    split at h
    · exact h.elim
    · rename_i he
      obtain ⟨z, hz, hrun⟩ := run_zeroValue hT he
      refine ⟨_, _, h, fun φ ρ' W w H hr R hob hlt hb => ⟨.pointer (some ⟨w.heap.size, 0, none⟩), w.alloc (.cells z.cells e), ⟨w.heap.size, z.cells.size, 0⟩, ?_, .ptr 0 (Emb.add_self _ _ _), ?_⟩⟩
      · simp [execOp, Instr.alloc, hrun, newVar, newRow]
      · exact alloc_lay R hlt hb e hob (by rw [← hz]; simp) (LRel.getD (by rw [hz]; exact LRel.refl_of (hT.zeros he)))
  | box e x =>
    simp only [allocOp] at h
    split at h
    · rename_i arr hx
      refine ⟨_, _, h, fun φ ρ' W w H hr R hob hlt hb => ?_⟩
      have hxr := hr x (by simp [Op.operands])
      rw [hx] at hxr
      generalize hx' : ρ' x = x' at hxr
      cases hxr with
      | agg _ bs h1 h2 =>
        refine ⟨.pointer (some ⟨w.heap.size, 0, none⟩), w.alloc (.cells bs e), ⟨w.heap.size, bs.size, 0⟩, ?_, .ptr 0 (Emb.add_self _ _ _), ?_⟩
        · simp [execOp, Instr.box, newVar, newRow, hx', Value.cells]
        · exact alloc_lay R hlt hb e hob (by simp [h1]) (LRel.getD (LRel.of_arr h1 h2))
    · exact h.elim
    · rename_i h1 h2
      refine ⟨_, _, h, fun φ ρ' W w H hr R hob hlt hb => ?_⟩
      have hxr := hr x (by simp [Op.operands])
      have hc : (ρ' x).cells = #[ρ' x] := by
        generalize hq : ρ x = q at hxr
        generalize ρ' x = q' at hxr
        cases hxr <;> first | rfl | (exact absurd hq (h1 _)) | (exact absurd hq (h2 _))
      refine ⟨.pointer (some ⟨w.heap.size, 0, none⟩), w.alloc (.cells #[ρ' x] e), ⟨w.heap.size, 1, 0⟩, ?_, .ptr 0 (Emb.add_self _ _ _), ?_⟩
      · simp [execOp, Instr.box, newVar, newRow, hc]
      · refine alloc_lay (cs := #[ρ' x]) R hlt hb e hob (by simp) (LRel.getD (ys := #[ρ' x]) ⟨rfl, fun i x0 y0 hx hy => ?_⟩)
        cases i with
        | zero => simp at hx hy; subst hx hy; exact hxr
        | succ i => simp at hx
  | buildSlice t n parts =>
    simp only [allocOp] at h
    split at h
    · rename_i e hk hs
      split at h
      · exact h.elim
      · rename_i hc
        simp only [not_or, Nat.not_lt, Decidable.not_not] at hc
        obtain ⟨he, hsz, hzl, hn⟩ := hc
        obtain ⟨e', hu, hse⟩ := hT.sl hk
        rw [hs] at hse
        injection hse with hse
        subst hse
        obtain ⟨z, hz, hzr⟩ := run_zeroValue hT he
        obtain ⟨cs, hkv, hfill⟩ := fillC_fac _ _ _ h
        refine ⟨_, _, hkv, fun φ ρ' W w H hr R hob hlt hb => ?_⟩
        have hzs : z.cells.size = (T e).size := by have := congrArg List.length hz; simp at this; omega
        have hz0 : ((Array.range (n * (T e).size)).map (fun i => z.cells[i % z.cells.size]!)).toList = zerosOf n (T e).zero := by
          rw [← hzs, zeros_list, hz]
        obtain ⟨cs0, cs', rfl, hf, hl⟩ := fillC_sound (φ := φ) (fun i => some (i * (T e).size, (T e).size)) (fun i => some (i * (T e).size, (T e).size)) (fun i x hx => hx) (n * (T e).size)
          (parts.toList.map fun p => (p.1, ρ p.2)) (parts.toList.map fun p => (p.1, ρ' p.2)) (zerosOf n (T e).zero)
          ((Array.range (n * (T e).size)).map (fun i => z.cells[i % z.cells.size]!)) _ (by rw [zerosOf_length, hzl])
          (by rw [hz0]; exact LRel.refl_of (fun x hx => hT.zeros he x (zerosOf_mem hx))) (by simp) (by
            intro j p p' hp hp'
            simp only [List.getElem?_map] at hp hp'
            cases hq : parts.toList[j]? with
            | none => rw [hq] at hp; simp at hp
            | some q =>
              rw [hq] at hp hp'
              simp at hp hp'
              subst hp hp'
              refine ⟨rfl, hr q.2 ?_⟩
              simp only [Op.operands, List.mem_toArray, List.mem_map]
              exact ⟨q, List.mem_of_getElem? hq, rfl⟩) hfill
        have hlen : n * (T e).size ≤ cs'.size := by
          have h1 := hl.1
          have h2 : cs0.length = n * (T e).size := by
            have := fillC_length _ _ hfill
            rw [this, zerosOf_length, hzl]
          simp at h1; omega
        refine ⟨.slice (some ⟨w.heap.size, 0, none⟩) n n, w.alloc (.cells cs' e), ⟨w.heap.size, cs'.size, (T e).size⟩, ?_, ?_, ?_⟩
        · have hmap : (parts.map fun p => (p.1, ρ' p.2)).toList = parts.toList.map fun p => (p.1, ρ' p.2) := by simp
          have hgt : ¬ n * (T e).size > 2 ^ 24 := by omega
          by_cases hn0 : n * (T e).size = 0
          · simp only [execOp, Instr.buildSlice, Sem.run_bind, run_underlying hu, Result.andThen_ok, run_sizeOf hT he, hn0, if_true, Sem.run_pure, hmap]
            simp only [hn0] at hf
            rw [map_range0] at hf
            simp only [map_range0]
            simp [hf, newRow]
          · simp only [execOp, Instr.buildSlice, Sem.run_bind, run_underlying hu, Result.andThen_ok, run_sizeOf hT he, hgt, if_false, hn0, hzr, Sem.run_pure, hmap, hf]
            simp [newRow]
        · exact .sl 0 n 1 n (Emb.add_self _ _ _) (Nat.le_refl _) (.inr (by simp; exact hlen))
        · exact alloc_lay R hlt hb e hob (by have := hl.1; simp at this; omega) (LRel.getD hl)
    · exact h.elim
  | makeSlice t l c =>
    simp only [allocOp] at h
    split at h
    · rename_i e j n j' m hk hs hln hcm
      split at h
      · exact h.elim
      · rename_i hc
        simp only [not_or, Nat.not_lt, Decidable.not_not] at hc
        obtain ⟨he, hsz, hzl, hby⟩ := hc
        obtain ⟨⟨h0, h1, h2⟩, hkv⟩ := h
        obtain ⟨e', hu, hse⟩ := hT.sl hk
        rw [hs] at hse
        injection hse with hse
        subst hse
        obtain ⟨z, hz, hzr⟩ := run_zeroValue hT he
        have hzs : z.cells.size = (T e).size := by have := congrArg List.length hz; simp at this; omega
        refine ⟨_, _, hkv, fun φ ρ' W w H hr R hob hlt hb => ?_⟩
        have hlr := hr l (by simp [Op.operands])
        have hcr := hr c (by simp [Op.operands])
        rw [hln] at hlr
        rw [hcm] at hcr
        generalize hl' : ρ' l = l' at hlr
        generalize hc' : ρ' c = c' at hcr
        cases hlr
        cases hcr
        obtain ⟨i, hi, his, hib, _⟩ := hT.size he
        unfold lim at h2
        have wn : IntKind.i64.wrap n = n := by unfold IntKind.wrap; simp [IntKind.bits, IntKind.signed]; omega
        have wm : IntKind.i64.wrap m = m := by unfold IntKind.wrap; simp [IntKind.bits, IntKind.signed]; omega
        have hlarge : ((i.bytes : Int) * m > 2 ^ 48) = False := by
          simp only [eq_iff_iff, iff_false, gt_iff_lt, Int.not_lt]
          rw [hib]
          have hb' : ((T e).bytes : Int) ≤ 4096 := by omega
          calc ((T e).bytes : Int) * m ≤ 4096 * m := Int.mul_le_mul_of_nonneg_right hb' (by omega)
            _ ≤ 2 ^ 48 := by omega
        have hz0 : ((Array.range (m.toNat * (T e).size)).map (fun i => z.cells[i % z.cells.size]!)).toList = zerosOf m.toNat (T e).zero := by
          rw [← hzs, zeros_list, hz]
        have hlen : n.toNat * (T e).size ≤ m.toNat * (T e).size := Nat.mul_le_mul_right _ (by omega)
        refine ⟨.slice (some ⟨w.heap.size, 0, none⟩) n.toNat m.toNat, w.alloc (.cells ((Array.range (m.toNat * (T e).size)).map (fun i => z.cells[i % z.cells.size]!)) e),
          ⟨w.heap.size, ((Array.range (m.toNat * (T e).size)).map (fun i => z.cells[i % z.cells.size]!)).size, (T e).size⟩, ?_, ?_, ?_⟩
        · have hnot : ¬ m < 0 := by omega
          have hnot' : ¬ n < 0 := by omega
          have hnot'' : ¬ n > m := by omega
          simp only [execOp, Instr.makeSlice, Sem.run_bind, run_underlying hu, Result.andThen_ok, hl', hc', asInt, asIntOf, Sem.run_pure, typeInfo, run_program, hi, wn, wm, hlarge, hnot, hnot', hnot'', decide_false, Bool.or_self, Bool.false_eq_true, if_false, run_askRoom]
          simp only [sizeOf, Sem.run_bind, typeInfo, run_program, Result.andThen_ok, hi, Sem.run_pure, his]
          by_cases hm0 : m.toNat * (T e).size = 0
          · simp only [hm0, map_range0]
            simp [newRow]
          · simp [hm0, hzr, newRow]
        · refine .sl 0 n.toNat 1 m.toNat (Emb.add_self _ _ _) (by omega) (.inr ?_)
          simp
        · refine alloc_lay R hlt hb e hob (by rw [zerosOf_length, hzl]; simpa using hlen) (fun i v hi => ?_)
          have hv : v ∈ (T e).zero := zerosOf_mem (List.mem_of_getElem? hi)
          have hpre : (zerosOf m.toNat (T e).zero)[i]? = some v := by
            have : zerosOf m.toNat (T e).zero = zerosOf n.toNat (T e).zero ++ zerosOf (m.toNat - n.toNat) (T e).zero := by
              unfold zerosOf
              rw [← List.flatten_append, List.replicate_append_replicate]
              congr 2; omega
            rw [this, List.getElem?_append_left (List.getElem?_eq_some_iff.1 hi).1]
            exact hi
          have hg := hpre
          rw [← hz0] at hg
          have hlt' : i < ((Array.range (m.toNat * (T e).size)).map (fun i => z.cells[i % z.cells.size]!)).size := by
            have := (List.getElem?_eq_some_iff.1 hg).1
            simpa using this
          have : ((Array.range (m.toNat * (T e).size)).map (fun i => z.cells[i % z.cells.size]!)).getD i undef = v := by
            have h5 : ((Array.range (m.toNat * (T e).size)).map (fun i => z.cells[i % z.cells.size]!))[i]? = some v := by rw [← Array.getElem?_toList]; exact hg
            simp only [Array.getD_eq_getD_getElem?, h5, Option.getD_some]
          rw [this]
          exact hT.zeros he v hv
    · exact h.elim
  | _ => simp [allocOp] at h

end
end Go.Abs

namespace Go.Abs

/-! ## Operations that change memory -/

def stC (H : AH) (a : Addr) (vs : List Value) (k : AH → Prop) : Prop := H.canPut a vs.length ∧ k (H.put a vs)

/-- How many elements of so many cells an append may come to. -/
def limS (z : Nat) : Nat := if z = 1 then 5864062014805 else if z = 5 then 2513169434916 else 4294967296
theorem limS_le (z : Nat) : lim ≤ limS z := by unfold lim limS; split <;> (try split) <;> omega
theorem le_limS {n : Nat} (h : n ≤ lim) (z : Nat) : n ≤ limS z := Nat.le_trans h (limS_le z)

def appendC (size : Nat) (H : AH) (x y : Sl) (k : Sl → AH → Prop) : Prop :=
  x.n + y.n ≤ limS size ∧
  if y.n = 0 then k x H else
  ∃ ys, H.rowS? y size = some ys ∧
    match x.a with
    | none => k ⟨newAt H.size, x.n + y.n, 1⟩ (H.push ⟨ys, .rw, size⟩)
    | some a => (a.spot = none ∧ a.off = 0 ∧ x.k = 1 ∧ (H.get a.block).md = .rw ∧ (H.get a.block).cells.length = x.n * size ∧ (H.get a.block).esz = size) ∧
      k ⟨newAt H.size, x.n + y.n, 1⟩ ((H.kill a.block).push ⟨(H.get a.block).cells ++ ys, .rw, size⟩)

def copyC (size : Nat) (H : AH) (x y : Sl) (k : Int → AH → Prop) : Prop :=
  if Nat.min y.n x.n = 0 then k 0 H else
  ∃ ys, H.rowS? ⟨y.a, Nat.min y.n x.n, y.k⟩ size = some ys ∧ onPtr x.a fun a => stC H a ys fun H' => k (Nat.min y.n x.n : Nat) H'

def appendElem (T : Nat → TyE) (ts : List TypeId) : Option TypeId :=
  match ts with
  | [t, u] =>
    match (T t).k, (T t).sub, decide (t = u) with
    | .sl, .elem e, true => if (T e).k = .bad ∨ (T e).size = 0 ∨ (T e).zero.length ≠ (T e).size ∨ (T e).bytes * limS (T e).size > 140737488355328 then none else some e
    | _, _, _ => none
  | _ => none

def effOp (T : Nat → TyE) (ρ : Operand → Value) (op : Op) (H : AH) (k : Value → AH → Prop) : Prop :=
  match op with
  | .store t a x =>
    match ρ a with
    | .pointer p => onPtr p fun a =>
      match (T t).k, ρ x with
      | .bad, _ => False
      | .agg, .agg arr => (arr.toList.length = (T t).size ∧ arr.toList.all cellOK = true) ∧ stC H a arr.toList fun H' => k undef H'
      | .agg, _ => False
      | _, .agg _ => False
      | _, .tuple _ => False
      | _, v => if (T t).size = 1 then stC H a [v] fun H' => k undef H' else False
    | _ => False
  | .call c =>
    match c.callee with
    | .builtin .append =>
      match appendElem T c.argTypes.toList, c.args.toList with
      | some e, [x, y] =>
        match ρ x, ρ y with
        | .slice a n k', .slice a' n' k'' => appendC (T e).size H ⟨a, n, k'⟩ ⟨a', n', k''⟩ fun s H' => k s.val H'
        | _, _ => False
      | _, _ => False
    | .builtin .copy =>
      match appendElem T c.argTypes.toList, c.args.toList with
      | some e, [x, y] =>
        match ρ x, ρ y with
        | .slice a n k', .slice a' n' k'' => copyC (T e).size H ⟨a, n, k'⟩ ⟨a', n', k''⟩ fun i H' => k (.int .i64 i) H'
        | _, _ => False
      | _, _ => False
    | _ => False
  | _ => False

section
variable {P : Program} {T : Nat → TyE}

theorem Rel.cells {W w : World} {φ : Emb} {H : AH} (R : Rel W φ H w) {b : Nat} {B : Blk} (hb : φ b = some B) (hd : (H.get b).md ≠ .dead) :
    ∃ cs' : List Value, LRel φ (H.get b).cells cs' ∧ ∀ j v, cs'[j]? = some v → w.cell? ((⟨B.c, 0, none⟩ : Addr).add j) = some v := by
  refine ⟨(List.range (H.get b).cells.length).map fun j => ((w.cell? ⟨B.c, j, none⟩).getD undef), ⟨by simp, ?_⟩, ?_⟩
  · intro i x y hx hy
    have hi : i < (H.get b).cells.length := (List.getElem?_eq_some_iff.1 hx).1
    obtain ⟨v', h1, h2⟩ := R.cell b B hb hd i x hx
    simp [List.getElem?_map, List.getElem?_range hi, h1] at hy
    subst hy
    exact h2
  · intro j v hv
    have hi : j < (H.get b).cells.length := by
      have := (List.getElem?_eq_some_iff.1 hv).1
      simpa using this
    obtain ⟨v', h1, _⟩ := R.cell b B hb hd j _ (List.getElem?_eq_getElem hi)
    simp [List.getElem?_map, List.getElem?_range hi, h1] at hv
    subst hv
    rw [add_off]
    simpa using h1

theorem Rel.unfrozen {W w : World} {φ : Emb} {H : AH} (R : Rel W φ H w) {b : Nat} {B : Blk} (hb : φ b = some B) (h : W.heap.size ≤ B.c) (i : Nat) : w.frozen? ⟨B.c, i, none⟩ = false := by
  rw [R.froz b B hb]
  unfold World.frozen?
  have : W.heap[B.c]? = none := Array.getElem?_eq_none h
  simp [this]

/-- Nobody alive looks at the block: whatever is stored there. -/
theorem Rel.scribble {W : World} {φ : Emb} {H : AH} {c : Nat} (hW : W.heap.size ≤ c) (hd : ∀ x X, φ x = some X → X.c = c → (H.get x).md = .dead) :
    ∀ (vs : List Value) (o : Nat) {w : World}, Rel W φ H w → Rel W φ H (w.setCells c o vs)
  | [], _, _, R => R
  | v :: vs, o, w, R => by
    refine Rel.scribble hW hd vs (o + 1) (w := w.setCell ⟨c, o, none⟩ v) ?_
    have ne : ∀ x X, φ x = some X → (H.get x).md ≠ .dead → c ≠ X.c := fun x X hx hn he => hn (hd x X hx he.symm)
    refine { below := ?_, size := by simpa using R.size, tape := R.tape, os := R.os, output := R.output, froz := ?_, dom := ?_, cell := ?_, room := ?_, own := R.own, out := R.out }
    · intro k hk
      rw [heap_setCell_ne _ _ _ _ (by simp; omega)]
      exact R.below k hk
    · intro x X hx i; rw [World.frozen?_setCell]; exact R.froz x X hx i
    · intro x X hx; simpa using R.dom x X hx
    · intro x X hx hn i u hu
      rw [World.cell?_setCell_other _ _ _ _ (by simp; intro h; exact absurd h (ne x X hx hn))]
      exact R.cell x X hx hn i u hu
    · intro x X hx hm
      obtain ⟨h1, h2, h3⟩ := R.room x X hx hm
      refine ⟨h1, fun i hi => ?_, h3⟩
      obtain ⟨u, hu⟩ := h2 i hi
      exact ⟨u, by rw [World.cell?_setCell_other _ _ _ _ (by simp; intro h; exact absurd h (ne x X hx (by simp [hm])))]; exact hu⟩

theorem Rel.put {W w : World} {φ : Emb} {H : AH} (R : Rel W φ H w) {b o : Nat} {B : Blk} (hb : φ b = some B) {vs vs' : List Value} (hcan : H.canPut ⟨b, o, none⟩ vs.length) (hl : LRel φ vs vs') (h1 : ∀ v ∈ vs', v.oneCell' = true) :
    Rel W φ (H.put ⟨b, o, none⟩ vs) (w.setCells B.c o vs') ∧ (storeCells ⟨B.c, o, none⟩ vs' 0).run P w = .ok () (w.setCells B.c o vs') := by
  obtain ⟨_, hm, hlen⟩ := hcan
  refine ⟨Rel.setMany' b B hb vs vs' o R hm hlen hl.1 (fun j v v' hv hv' => hl.2 j v v' hv hv'), ?_⟩
  obtain ⟨hW, _, _⟩ := R.room b B hb hm
  have := run_storeCells_cells (P := P) B.c o vs' 0 w (fun j hj => by
      have hj' : o + j < (H.get b).cells.length := by rw [← hl.1] at hj; simp at hlen; omega
      obtain ⟨v', hv', _⟩ := R.cell b B hb (by simp [hm]) (o + j) _ (List.getElem?_eq_getElem hj')
      simp [hv'])
    (fun j _ => R.unfrozen hb hW _) h1
  simpa using this

theorem cell_setCells_in {w : World} (c : Nat) : ∀ (vs : List Value) (o : Nat), (∀ j, j < vs.length → ∃ u, w.cell? ⟨c, o + j, none⟩ = some u) →
    ∀ j (h : j < vs.length), (w.setCells c o vs).cell? ⟨c, o + j, none⟩ = some vs[j] := by
  intro vs
  induction vs generalizing w with
  | nil => intro o _ j h; simp at h
  | cons v vs ih =>
    intro o hc j h
    simp only [World.setCells]
    cases j with
    | zero =>
      rw [World.cell?_setCells_out _ _ _ _ _ (by intro _ _; simp)]
      obtain ⟨u, hu⟩ := hc 0 (by simp)
      exact World.cell?_setCell_same _ _ _ hu
    | succ j =>
      have := ih (w := w.setCell ⟨c, o, none⟩ v) (o + 1) (fun j hj => by
        obtain ⟨u, hu⟩ := hc (j + 1) (by simpa using hj)
        refine ⟨u, ?_⟩
        rw [World.cell?_setCell_other _ _ _ _ (by simp; omega)]
        rw [show o + 1 + j = o + (j + 1) by omega]
        exact hu) j (by simpa using h)
      rw [show o + 1 + j = o + (j + 1) by omega] at this
      simpa using this

theorem Hist.put {φ : Emb} {H : AH} {b o : Nat} {B : Blk} (hb : φ b = some B) (vs : List Value) : Hist φ H φ (H.put ⟨b, o, none⟩ vs) := by
  refine ⟨Emb.le_refl φ, Nat.le_refl _, fun _ _ h => h, fun x _ hn => ?_⟩
  have : x ≠ b := fun e => by subst e; rw [hb] at hn; cases hn
  simp [AH.put, AH.upd, this]

theorem appendElem_spec (hT : Agrees P T) {ts : List TypeId} {e : TypeId} (h : appendElem T ts = some e) :
    ∃ t, ts = [t, t] ∧ P.underlying t = some (.slice e) ∧ (T e).k ≠ .bad ∧ (T e).size ≠ 0 ∧ (T e).zero.length = (T e).size ∧ (T e).bytes * limS (T e).size ≤ 140737488355328 := by
  unfold appendElem at h
  split at h
  · rename_i t u
    split at h
    · rename_i e' hk hs hd
      split at h
      · cases h
      · rename_i hc
        simp only [not_or, Nat.not_lt, Decidable.not_not] at hc
        injection h with h
        subst h
        obtain ⟨e'', hu, hse⟩ := hT.sl hk
        rw [hs] at hse
        injection hse with hse
        subst hse
        have : t = u := by simpa using hd
        subst this
        exact ⟨t, rfl, hu, hc.1, hc.2.1, hc.2.2.1, hc.2.2.2⟩
    · cases h
  · cases h

/-- The cells of a slice that is read. -/
theorem Rel.rowS {W w : World} {φ : Emb} {H : AH} (R : Rel W φ H w) {s : Sl} {size : Nat} {ys : List Value} (h : H.rowS? s size = some ys) (hn : s.n ≠ 0) {v' : Value} (hv : VRel φ s.val v') :
    ∃ b B o c ys', s.a = some ⟨b, o, none⟩ ∧ φ b = some B ∧ v' = .slice (some ⟨B.c, o, none⟩) s.n c ∧ ys.length = s.n * size ∧ LRel φ ys ys' ∧
      (∀ j v, ys'[j]? = some v → w.cell? ((⟨B.c, o, none⟩ : Addr).add j) = some v) ∧ (∀ v ∈ ys', v.oneCell' = true) := by
  obtain ⟨sa, sn, sk⟩ := s
  simp only at hn
  unfold AH.rowS? at h
  simp only [hn, if_false] at h
  unfold Sl.val at hv
  simp only at hv
  cases hv with
  | sl0 => exact absurd rfl hn
  | @sl b B o _ _ k' hb hle hk =>
    obtain ⟨ys', h1, h2, h3⟩ := R.row hb h
    exact ⟨b, B, o, k', ys', rfl, hb, rfl, (AH.row?_cell h).2.1, h1, h2, h3⟩
  | sle a a' k' => exact absurd rfl hn

theorem LRel.mono {φ φ' : Emb} (h : φ.le φ') {xs ys : List Value} (r : LRel φ xs ys) : LRel φ' xs ys := ⟨r.1, fun i x y hx hy => (r.2 i x y hx hy).mono h⟩

theorem LRel.append {φ : Emb} {xs ys xs' ys' : List Value} (h : LRel φ xs ys) (h' : LRel φ xs' ys') : LRel φ (xs ++ xs') (ys ++ ys') := by
  refine ⟨by simp [h.1, h'.1], fun i x y hx hy => ?_⟩
  by_cases hi : i < xs.length
  · rw [List.getElem?_append_left hi] at hx
    rw [List.getElem?_append_left (by rw [← h.1]; exact hi)] at hy
    exact h.2 i x y hx hy
  · rw [List.getElem?_append_right (by omega)] at hx
    rw [List.getElem?_append_right (by rw [← h.1]; omega)] at hy
    rw [← h.1] at hy
    exact h'.2 _ x y hx hy

end
end Go.Abs

namespace Go.Abs
section
variable {P : Program} {T : Nat → TyE}

theorem zeroCells_size (z : Array Value) (n : Nat) : (Builtin.zeroCells z n).size = n * z.size := by simp [Builtin.zeroCells]

theorem append_sound (hT : Agrees P T) {t e : TypeId} (hu : P.underlying t = some (.slice e)) (he : (T e).k ≠ .bad) (hsz : (T e).size ≠ 0) (hzl : (T e).zero.length = (T e).size) (hby : (T e).bytes * limS (T e).size ≤ 140737488355328)
    {H : AH} {x y : Sl} {k : Sl → AH → Prop} (h : appendC (T e).size H x y k) {W w : World} {φ : Emb} (R : Rel W φ H w) {x' y' : Value} (hx : VRel φ x.val x') (hy : VRel φ y.val y') (ty : TypeId) :
    ∃ v' w' s φ' H', (Builtin.append_ #[t, t] ty #[x', y']).run P w = .ok v' w' ∧ Hist φ H φ' H' ∧ VRel φ' s.val v' ∧ Rel W φ' H' w' ∧ k s H' := by
  obtain ⟨hlim, h⟩ := h
  obtain ⟨i, hi, his, hib, z, hz, hzc⟩ := hT.size he
  have hzs : z.cells.size = (T e).size := by have := congrArg List.length hzc; simp at this; omega
  split at h
  · rename_i hy0
    refine ⟨x', w, x, φ, H, ?_, Hist.refl φ H, hx, R, h⟩
    obtain ⟨ya, yn, yk⟩ := y
    simp only at hy0
    subst hy0
    have hyl : ∃ a c, y' = .slice a 0 c := by
      unfold Sl.val at hy; simp only at hy
      cases hy <;> exact ⟨_, _, rfl⟩
    obtain ⟨a, c, rfl⟩ := hyl
    have hfc : ∀ w, (Builtin.firstCells i.size 0 (.slice a 0 c)).run P w = .ok #[] w := by
      intro w; cases a <;> simp [Builtin.firstCells, loadCells, loadCellsFrom]
    obtain ⟨xa, xn, xk⟩ := x
    unfold Sl.val at hx; simp only at hx
    cases hx with
    | sl0 => simp [Builtin.append_, run_underlying hu, sizeOf, typeInfo, hi, Builtin.lenOf, hfc]
    | sl o _ _ k' hb hn hk => simp [Builtin.append_, run_underlying hu, sizeOf, typeInfo, hi, Builtin.lenOf, hfc, hn, storeCells]
    | sle a0 a' k' => simp [Builtin.append_, run_underlying hu, sizeOf, typeInfo, hi, Builtin.lenOf, hfc, storeCells]
  · rename_i hy0
    obtain ⟨ys, hrow, h⟩ := h
    obtain ⟨yb, yB, yo, yc, ys', hya, hyb, rfl, hyl, hyr, hycell, hy1⟩ := R.rowS hrow hy0 hy
    have hyl' : ys'.length = y.n * i.size := by rw [← hyr.1, hyl, his]
    obtain ⟨xa, xn, xk⟩ := x
    have hbytes : (xn + y.n) * i.bytes ≤ 140737488355328 := by
      rw [hib]
      calc (xn + y.n) * (T e).bytes ≤ limS (T e).size * (T e).bytes := Nat.mul_le_mul_right _ hlim
        _ ≤ 140737488355328 := by rw [Nat.mul_comm]; exact hby
    have hsmall : xn + y.n ≤ 5864062014805 := by
      refine Nat.le_trans hlim ?_
      show limS (T e).size ≤ _
      unfold limS; split <;> (try split) <;> omega
    split at h
    · rename_i hxa
      simp only at hxa hlim
      subst hxa
      unfold Sl.val at hx; simp only at hx
      generalize hxv : Value.slice none xn xk = xv at hx
      cases hx <;> cases hxv
      have hrun := run_append_nil (P := P) w t ty e i z hu hi hz ⟨yB.c, yo, none⟩ y.n yc ys' hyl' hycell (by omega) (by omega) (by simp at hbytes; omega)
      have R1 := (R.push ⟨ys, .rw, (T e).size⟩).drew
      have hfresh := R.fresh
      have hlay := alloc_lay (cs := ys'.toArray ++ Builtin.zeroCells z.cells (grownCap w y.n 0 e - y.n)) R1 (b := H.size) (by simp [AH.push]) hfresh e (cells := ys) (esz := (T e).size) (by simp [AH.push])
        (by have := hyr.1; simp; omega) (fun j v hj => by
          have hlt : j < ys'.length := by rw [← hyr.1]; exact (List.getElem?_eq_some_iff.1 hj).1
          have : (ys'.toArray ++ Builtin.zeroCells z.cells (grownCap w y.n 0 e - y.n)).getD j undef = ys'[j] := by
            simp [Array.getElem?_append, hlt, List.getElem?_eq_getElem hlt]
          rw [this]
          exact hyr.2 j v _ hj (List.getElem?_eq_getElem hlt))
      have hcap := grownCap_ge w y.n 0 e
      refine ⟨_, _, ⟨newAt H.size, 0 + y.n, 1⟩, _, _, hrun, ?_, ?_, hlay, h⟩
      · refine ⟨Emb.le_add hfresh, by simp [AH.push], fun b hb hn => ?_, fun b hb _ => ?_⟩
        · have : b ≠ H.size := by omega
          simp [Emb.add, this, hn]
        · have : b ≠ H.size := by omega
          simp [AH.push, this]
      · simp only [Nat.zero_add]
        refine .sl 0 y.n 1 _ (Emb.add_self _ _ _) hcap (.inr ?_)
        simp only [World.size_drew, Nat.zero_add, Array.size_append, List.size_toArray, zeroCells_size, hzs, hyl', his]
        rw [← Nat.add_mul]
        have : y.n + (grownCap w y.n 0 e - y.n) = grownCap w y.n 0 e := by omega
        rw [this]
        exact Nat.le_refl _
    · rename_i a hxa
      simp only at hxa
      subst hxa
      obtain ⟨⟨hspot, hoff, hk1, hm, hcl, hesz⟩, h⟩ := h
      simp only at hk1 hcl hlim
      subst hk1
      unfold Sl.val at hx; simp only at hx
      generalize hxv : Value.slice (some a) xn 1 = xv at hx
      cases hx with
      | @sl b B o _ _ k' hb hn hkk =>
        injection hxv with h1 h2 h3
        injection h1 with h1
        subst h1 h2
        simp only at hoff hspot hm hcl hesz h
        subst hoff
        obtain ⟨hW, hroom, hes⟩ := R.room b B hb hm
        have hBsz : B.sz = (T e).size := by
          rcases hes with hes | hes
          · exact absurd (hesz ▸ hes) hsz
          · rw [← hes, hesz]
        have hkk' : k' * (T e).size ≤ B.m := by rcases hkk with h0 | h0
                                                · omega
                                                · rw [hBsz] at h0; omega
        obtain ⟨xs', hxr, hxcell⟩ := R.cells hb (by simp [hm])
        have hfresh : φ H.size = none := R.fresh
        have hbne : b ≠ H.size := fun e => by rw [← e, hb] at hfresh; cases hfresh
        have hkill : (H.kill b).size = H.size := rfl
        have R1 : Rel W φ ((H.kill b).push ⟨(H.get b).cells ++ ys, .rw, (T e).size⟩) w := (R.kill b).push _
        have hdead : ∀ x X, φ x = some X → X.c = B.c → (((H.kill b).push ⟨(H.get b).cells ++ ys, .rw, (T e).size⟩).get x).md = .dead := by
          intro x X hx hc
          have hxs : x ≠ H.size := fun e => by rw [e, hfresh] at hx; cases hx
          simp only [AH.push, hkill, hxs, if_false]
          by_cases hxb : x = b
          · subst hxb; simp [AH.kill, AH.upd]
          · rcases R.own b B hb hm x X hx hc with h0 | h0
            · exact absurd h0 hxb
            · simp [AH.kill, AH.upd, hxb, h0]
        have hist : ∀ B', Hist φ H (φ.add H.size B') ((H.kill b).push ⟨(H.get b).cells ++ ys, .rw, (T e).size⟩) := by
          intro B'
          refine ⟨Emb.le_add hfresh, by simp [AH.push, hkill], fun x hx hn => ?_, fun x hx hn => ?_⟩
          · have : x ≠ H.size := by omega
            simp [Emb.add, this, hn]
          · have h1 : x ≠ H.size := by omega
            have h2 : x ≠ b := fun e => by rw [e, hb] at hn; cases hn
            simp [AH.push, hkill, h1, AH.kill, AH.upd, h2]
        by_cases hfit : xn + y.n ≤ k'
        · -- there is room
          have hf := run_firstCells_some (P := P) w i.size y.n ⟨yB.c, yo, none⟩ y.n yc ys' hyl' hycell
          have hidx : ∀ j, j < ys'.length → xn * i.size + j < B.m := by
            intro j hj
            rw [hyl', his] at hj
            rw [his]
            have : xn * (T e).size + y.n * (T e).size ≤ k' * (T e).size := by rw [← Nat.add_mul]; exact Nat.mul_le_mul_right _ hfit
            omega
          have hst := run_storeCells_cells (P := P) B.c (xn * i.size) ys' 0 w (fun j hj => by
              obtain ⟨v, hv⟩ := hroom (xn * i.size + j) (hidx j hj)
              simp [hv]) (fun j _ => R.unfrozen hb hW _) hy1
          simp only [Nat.add_zero] at hst
          have hrun : (Builtin.append_ #[t, t] ty #[.slice (some ⟨B.c, 0, none⟩) xn k', .slice (some ⟨yB.c, yo, none⟩) y.n yc]).run P w = .ok (.slice (some ⟨B.c, 0, none⟩) (xn + y.n) k') (w.setCells B.c (xn * i.size) ys') := by
            simp [Builtin.append_, run_underlying hu, sizeOf, typeInfo, hi, Builtin.lenOf, hfit, hf, add_off, hst]
          have R2 := Rel.scribble hW hdead ys' (xn * i.size) R1
          have hget : ((H.kill b).push ⟨(H.get b).cells ++ ys, .rw, (T e).size⟩).get H.size = ⟨(H.get b).cells ++ ys, .rw, (T e).size⟩ := by simp [AH.push, hkill]
          have R3 := R2.over (b := H.size) (b' := b) (B := B) hfresh (by simp [AH.push, hkill]) hb hdead hW (fun j hj => by
              obtain ⟨v, hv⟩ := hroom j hj
              by_cases hin : xn * i.size ≤ j ∧ j < xn * i.size + ys'.length
              · have : ∃ u, (w.setCells B.c (xn * i.size) ys').cell? ⟨B.c, j, none⟩ = some u := by
                  have := cell_setCells_in (w := w) B.c ys' (xn * i.size) (fun j hj => by obtain ⟨v, hv⟩ := hroom (xn * i.size + j) (hidx j hj); exact ⟨v, hv⟩) (j - xn * i.size) (by omega)
                  rw [show xn * i.size + (j - xn * i.size) = j by omega] at this
                  exact ⟨_, this⟩
                exact this
              · exact ⟨v, by rw [World.cell?_setCells_out _ _ _ _ _ (by intro _ _; simp; omega)]; exact hv⟩)
            (by rw [hget]) (by rw [hget]; exact hBsz.symm) (by
              rw [hget]
              intro j v hj
              simp only at hj
              by_cases hlt : j < (H.get b).cells.length
              · rw [List.getElem?_append_left hlt] at hj
                obtain ⟨v', hv', hvr⟩ := R.cell b B hb (by simp [hm]) j v hj
                refine ⟨v', ?_, hvr⟩
                rw [World.cell?_setCells_out _ _ _ _ _ (by intro _ _; simp; left; rw [his, ← hcl]; exact hlt)]
                exact hv'
              · rw [List.getElem?_append_right (by omega)] at hj
                have hj' : j - (H.get b).cells.length < ys'.length := by rw [← hyr.1]; exact (List.getElem?_eq_some_iff.1 hj).1
                have := cell_setCells_in (w := w) B.c ys' (xn * i.size) (fun j hj => by obtain ⟨v, hv⟩ := hroom (xn * i.size + j) (hidx j hj); exact ⟨v, hv⟩) (j - (H.get b).cells.length) hj'
                have e1 : xn * i.size + (j - (H.get b).cells.length) = j := by rw [his, ← hcl]; omega
                rw [e1] at this
                exact ⟨_, this, hyr.2 _ v _ hj (List.getElem?_eq_getElem hj')⟩)
          refine ⟨_, _, ⟨newAt H.size, xn + y.n, 1⟩, _, _, hrun, hist B, ?_, R3, h⟩
          exact .sl 0 (xn + y.n) 1 k' (Emb.add_self _ _ _) hfit (.inr (by rw [hBsz]; omega))
        · -- a new block
          have hrun := run_append_grow (P := P) w t ty e i z hu hi hz ⟨B.c, 0, none⟩ xn k' xs' (by rw [← hxr.1, hcl, his]) hxcell ⟨yB.c, yo, none⟩ y.n yc ys' hyl' hycell (by omega) (by omega)
            (growslice_fits (by omega) hbytes)
          have hcap := grownCap_ge w (xn + y.n) k' e
          have hlay := alloc_lay (cs := xs'.toArray ++ ys'.toArray ++ Builtin.zeroCells z.cells (grownCap w (xn + y.n) k' e - (xn + y.n))) R1.drew (b := H.size) (by simp [AH.push, hkill]) hfresh e
            (cells := (H.get b).cells ++ ys) (esz := (T e).size) (by simp [AH.push, hkill])
            (by have h1 := hyr.1; have h2 := hxr.1; simp; omega) (fun j v hj => by
              have hlt : j < (xs' ++ ys').length := by
                have h1 := (hxr.append hyr).1
                rw [← h1]; exact (List.getElem?_eq_some_iff.1 hj).1
              have : (xs'.toArray ++ ys'.toArray ++ Builtin.zeroCells z.cells (grownCap w (xn + y.n) k' e - (xn + y.n))).getD j undef = (xs' ++ ys')[j] := by
                have h0 : (xs'.toArray ++ ys'.toArray ++ Builtin.zeroCells z.cells (grownCap w (xn + y.n) k' e - (xn + y.n)))[j]? = (xs' ++ ys')[j]? := by
                  simp only [List.append_toArray]
                  rw [Array.getElem?_append_left (by simpa using hlt)]
                  simp
                simp only [Array.getD_eq_getD_getElem?, h0, List.getElem?_eq_getElem hlt, Option.getD_some]
              rw [this]
              exact (hxr.append hyr).2 j v _ hj (List.getElem?_eq_getElem hlt))
          refine ⟨_, _, ⟨newAt H.size, xn + y.n, 1⟩, _, _, hrun, hist _, ?_, hlay, h⟩
          refine .sl 0 (xn + y.n) 1 _ (Emb.add_self _ _ _) hcap (.inr ?_)
          have h1 := hxr.1
          have h2 := hyr.1
          simp only [Nat.zero_add, Array.size_append, List.size_toArray, zeroCells_size, hzs, ← h1, ← h2, hcl, hyl]
          rw [← Nat.add_mul, ← Nat.add_mul]
          have : xn + y.n + (grownCap w (xn + y.n) k' e - (xn + y.n)) = grownCap w (xn + y.n) k' e := by omega
          rw [this]
          exact Nat.le_refl _
      | sl0 => cases hxv
      | sle a0 a' k' => cases hxv
      | _ => cases hxv

end
end Go.Abs

namespace Go.Abs
section
variable {P : Program} {T : Nat → TyE}

theorem copy_sound (hT : Agrees P T) {t e : TypeId} (hu : P.underlying t = some (.slice e)) (he : (T e).k ≠ .bad)
    {H : AH} {x y : Sl} {k : Int → AH → Prop} (h : copyC (T e).size H x y k) {W w : World} {φ : Emb} (R : Rel W φ H w) {x' y' : Value} (hx : VRel φ x.val x') (hy : VRel φ y.val y') (ty : TypeId) :
    ∃ (n : Int) (w' : World) (H' : AH), (Builtin.copy_ #[t, t] ty #[x', y']).run P w = .ok (.int .i64 n) w' ∧ Hist φ H φ H' ∧ Rel W φ H' w' ∧ k n H' := by
  obtain ⟨i, hi, his, _⟩ := hT.size he
  have shape : ∀ (s : Sl) (v : Value), VRel φ s.val v → ∃ a c, v = .slice a s.n c := by
    intro s v hv
    obtain ⟨sa, sn, sk⟩ := s
    unfold Sl.val at hv; simp only at hv
    cases hv <;> exact ⟨_, _, rfl⟩
  unfold copyC at h
  split at h
  · rename_i h0
    refine ⟨0, w, H, ?_, Hist.refl φ H, R, h⟩
    obtain ⟨a, c, rfl⟩ := shape x x' hx
    obtain ⟨a', c', rfl⟩ := shape y y' hy
    have hl : ∀ (x : Addr), (loadCells x 0).run P w = .ok #[] w := fun x => by simpa using run_loadCells_list (P := P) w x [] (by simp)
    cases a <;> cases a' <;> simp [Builtin.copy_, run_underlying hu, Builtin.lenOf, Builtin.firstCells, sizeOf, typeInfo, hi, h0, storeCells, hl, goInt]
  · rename_i h0
    obtain ⟨ys, hrow, h⟩ := h
    obtain ⟨a, hxa, hcan, h⟩ := onPtr_some h
    obtain ⟨c', a', hy'⟩ := shape y y' hy
    have hyv : VRel φ (Sl.val ⟨y.a, Nat.min y.n x.n, y.k⟩) (match y' with | .slice a n c => .slice a (Nat.min y.n x.n) c | v => v) := by
      obtain ⟨ya, yn, yk⟩ := y
      unfold Sl.val at hy ⊢; simp only at hy ⊢ h0
      have hle : Nat.min yn x.n ≤ yn := Nat.min_le_left _ _
      cases hy with
      | sl0 => simp at h0
      | sl o _ _ k' hb hn hk => exact .sl _ _ _ _ hb (Nat.le_trans hle hn) hk
      | sle a a' k' => simp at h0
    obtain ⟨yb, yB, yo, yc, ys', hya, hyb, hyv', hyl, hyr, hycell, hy1⟩ := R.rowS hrow h0 hyv
    subst hy'
    simp only at hyv'
    injection hyv' with e1 e2 e3
    subst e1 e3
    obtain ⟨xa, xn, xk⟩ := x
    simp only at hxa
    subst hxa
    unfold Sl.val at hx; simp only at hx h0 hyl h
    generalize hxv : Value.slice (some a) xn xk = xv at hx
    cases hx with
    | @sl b B o _ _ k' hb hn hkk =>
      injection hxv with h1 h2 h3
      injection h1 with h1
      subst h1 h2 h3
      obtain ⟨R2, hst⟩ := R.put (P := P) hb hcan hyr hy1
      refine ⟨_, _, _, ?_, Hist.put hb ys, R2, h⟩
      have hl : (loadCells ⟨yB.c, yo, none⟩ (Nat.min y.n xn * (T e).size)).run P w = .ok ys'.toArray w := by
        rw [← hyl, hyr.1]
        exact run_loadCells_list w _ ys' hycell
      rw [← his] at hl
      simp [Builtin.copy_, run_underlying hu, Builtin.lenOf, Builtin.firstCells, sizeOf, typeInfo, hi, hl, hst, goInt]
    | sle a0 a'' k' =>
      have : Nat.min y.n 0 = 0 := Nat.min_zero _
      injection hxv with _ h2 _
      subst h2
      exact absurd this h0
    | sl0 => cases hxv
    | _ => cases hxv

theorem eff_sound (hT : Agrees P T) {ρ : Operand → Value} {o : Oper} {H : AH} {k : Value → AH → Prop} (h : effOp T ρ o.op H k) {φ : Emb} {ρ' : Operand → Value} (hr : ∀ x ∈ o.op.operands, VRel φ (ρ x) (ρ' x))
    {W w : World} (R : Rel W φ H w) :
    ∃ r w' v v' φ' H', (execOp ρ' o).run P w = .ok r w' ∧ (r = .value v' ∨ (r = .skip ∧ v' = undef)) ∧ Hist φ H φ' H' ∧ VRel φ' v v' ∧ Rel W φ' H' w' ∧ k v H' := by
  obtain ⟨dst, op, type, pos, after, guard⟩ := o
  simp only at h hr
  cases op with
  | store t a x =>
    simp only [effOp] at h
    split at h
    · rename_i p hp
      obtain ⟨a0, rfl, h⟩ := onPtr_some h
      have har := hr a (by simp [Op.operands])
      have hxr := hr x (by simp [Op.operands])
      rw [hp] at har
      obtain ⟨b, B, o, rfl, hb, hae⟩ := vrel_ptr har
      have scalar : ∀ (v : Value), ρ x = v → cellOK v = true → (T t).k ≠ .bad → (T t).size = 1 → stC H ⟨b, o, none⟩ [v] (fun H' => k undef H') →
          ∃ r w' v v' φ' H', (execOp ρ' { dst, op := .store t a x, type, pos, after, guard }).run P w = .ok r w' ∧ (r = .value v' ∨ (r = .skip ∧ v' = undef)) ∧ Hist φ H φ' H' ∧ VRel φ' v v' ∧ Rel W φ' H' w' ∧ k v H' := by
        intro v hv hok hnb hs1 ⟨hcan, hk⟩
        rw [hv] at hxr
        have hone : (ρ' x).oneCell' = true := hxr.oneCell hok
        have hcells : (ρ' x).cells = #[ρ' x] := by
          generalize ρ' x = q at hone
          cases q <;> first | rfl | (simp [Value.oneCell'] at hone)
        obtain ⟨R2, hst⟩ := R.put (P := P) (vs := [v]) (vs' := [ρ' x]) hb hcan ⟨rfl, fun i x0 y0 hx0 hy0 => by
            cases i with
            | zero => simp at hx0 hy0; subst hx0 hy0; exact hxr
            | succ i => simp at hx0⟩ (by simpa using hone)
        refine ⟨.skip, _, undef, undef, φ, _, ?_, .inr ⟨rfl, rfl⟩, Hist.put hb [v], .undef _, R2, hk⟩
        simp [execOp, Instr.storeAt, hae, Instr.sureAddr, storeVar, hcells, run_sizeOf hT hnb, hs1, hst]
      split at h
      · exact h.elim
      · rename_i arr hk hxv
        obtain ⟨⟨hlen, hall⟩, hcan, hkv⟩ := h
        rw [hxv] at hxr
        generalize hx' : ρ' x = x' at hxr
        cases hxr with
        | agg _ bs h1 h2 =>
          have hl := LRel.of_arr h1 h2
          obtain ⟨R2, hst⟩ := R.put (P := P) (vs := arr.toList) (vs' := bs.toList) hb hcan hl (fun v hv => by
            obtain ⟨j, hj⟩ := List.mem_iff_getElem?.1 hv
            have hlt : j < arr.toList.length := by rw [hl.1]; exact (List.getElem?_eq_some_iff.1 hj).1
            exact (hl.2 j _ v (List.getElem?_eq_getElem hlt) hj).oneCell (List.all_eq_true.1 hall _ (List.getElem_mem hlt)))
          refine ⟨.skip, _, undef, undef, φ, _, ?_, .inr ⟨rfl, rfl⟩, Hist.put hb _, .undef _, R2, hkv⟩
          have hsz : bs.size = (T t).size := by have := hl.1; simp at this hlen; omega
          simp [execOp, Instr.storeAt, hae, Instr.sureAddr, storeVar, hx', Value.cells, run_sizeOf hT (t := t) (by simp [hk]), hsz, hst]
      · exact h.elim
      · exact h.elim
      · exact h.elim
      · rename_i hnb _ hnag hag _
        split at h
        · rename_i hs1
          refine scalar (ρ x) rfl ?_ (fun hb => hnb hb) hs1 h
          generalize hq : ρ x = q
          cases q <;> first | rfl | (exact absurd hq (hnag _)) | (exact absurd hq (hag _))
        · exact h.elim
    · exact h.elim
  | call c =>
    obtain ⟨callee, args, argTypes⟩ := c
    simp only [effOp] at h
    split at h
    · split at h
      · rename_i e x y hel hargs
        obtain ⟨t, hts, hu, he, hsz, hzl, hby⟩ := appendElem_spec hT hel
        split at h
        · rename_i a n k' a' n' k'' hx hy
          have hxm : x ∈ (Op.call { callee := .builtin .append, args, argTypes }).operands := by
            simp only [Op.operands, Call.operands, Array.mem_append]
            exact .inr (Array.mem_toList_iff.1 (by rw [hargs]; simp))
          have hym : y ∈ (Op.call { callee := .builtin .append, args, argTypes }).operands := by
            simp only [Op.operands, Call.operands, Array.mem_append]
            exact .inr (Array.mem_toList_iff.1 (by rw [hargs]; simp))
          have hxr := hr x hxm
          have hyr := hr y hym
          rw [hx] at hxr
          rw [hy] at hyr
          obtain ⟨v', w', s, φ', H', h1, h2, h3, h4, h5⟩ := append_sound hT hu he hsz hzl hby h R hxr hyr type
          refine ⟨.value v', w', _, v', φ', H', ?_, .inl rfl, h2, h3, h4, h5⟩
          have e1 : argTypes = #[t, t] := by apply Array.ext'; simpa using hts
          have e2 : args.map ρ' = #[ρ' x, ρ' y] := by apply Array.ext'; simp [hargs]
          simp [execOp, resolve, invoke, builtin, e1, e2, h1]
        · exact h.elim
      · exact h.elim
    · split at h
      · rename_i e x y hel hargs
        obtain ⟨t, hts, hu, he, hsz, hzl, hby⟩ := appendElem_spec hT hel
        split at h
        · rename_i a n k' a' n' k'' hx hy
          have hxm : x ∈ (Op.call { callee := .builtin .copy, args, argTypes }).operands := by
            simp only [Op.operands, Call.operands, Array.mem_append]
            exact .inr (Array.mem_toList_iff.1 (by rw [hargs]; simp))
          have hym : y ∈ (Op.call { callee := .builtin .copy, args, argTypes }).operands := by
            simp only [Op.operands, Call.operands, Array.mem_append]
            exact .inr (Array.mem_toList_iff.1 (by rw [hargs]; simp))
          have hxr := hr x hxm
          have hyr := hr y hym
          rw [hx] at hxr
          rw [hy] at hyr
          obtain ⟨n, w', H', h1, h2, h4, h5⟩ := copy_sound hT hu he h R hxr hyr type
          refine ⟨.value (.int .i64 n), w', _, _, φ, H', ?_, .inl rfl, h2, .int _ _, h4, h5⟩
          have e1 : argTypes = #[t, t] := by apply Array.ext'; simpa using hts
          have e2 : args.map ρ' = #[ρ' x, ρ' y] := by apply Array.ext'; simp [hargs]
          simp [execOp, resolve, invoke, builtin, e1, e2, h1]
        · exact h.elim
      · exact h.elim
    · exact h.elim
  | _ => simp [effOp] at h

end
end Go.Abs

namespace Go.Abs

/-! ## Calls -/

inductive LEnd where
  | ret (v : Value)
  | pan (v : Value)

def EndRel (φ : Emb) : LEnd → Ending → Prop
  | .ret v, .returned v' => VRel φ v v'
  | .pan v, .panicked chain => ∃ v', chain = [{ v := v', recovered := false }] ∧ VRel φ v v'
  | _, _ => False

def enterable (P : Program) (f : FuncId) : Bool :=
  match P.funcs[f]? with
  | some fn => !(fn.name == "runtime.NumGoroutine") && fn.body.isSome
  | none => false

/-- THE CONTRACT OF A CALL: in whatever memory that is like H. -/
def LCalls (P : Program) (f : FuncId) (args : List Value) (H : AH) (Q : LEnd → AH → Prop) : Prop :=
  enterable P f = true ∧
  ∀ (W w : World) (φ : Emb) (args' : Array Value), LRel φ args args'.toList → Rel W φ H w →
    Calls P f args' w fun e w' => ∃ le φ' H', Hist φ H φ' H' ∧ EndRel φ' le e ∧ Rel W φ' H' w' ∧ Q le H'

theorem LCalls.mono {P : Program} {f : FuncId} {args : List Value} {H : AH} {Q Q' : LEnd → AH → Prop} (h : LCalls P f args H Q) (hq : ∀ e H, Q e H → Q' e H) : LCalls P f args H Q' :=
  ⟨h.1, fun W w φ args' hl R => (h.2 W w φ args' hl R).mono fun _ _ ⟨le, φ', H', h1, h2, h3, h4⟩ => ⟨le, φ', H', h1, h2, h3, hq _ _ h4⟩⟩

def elA (v : Value) (k : List Value → Prop) : Prop := ∃ cs : List Value, v = .agg cs.toArray ∧ k cs

def valC (T : Nat → TyE) (t : TypeId) (v : Value) (k : Value → Prop) : Prop :=
  match (T t).k with
  | .agg => elA v fun cs => k (.agg cs.toArray)
  | κ => elim κ (some v) k

def ret2 (v : Value) (k : Value → Value → Prop) : Prop := ∃ a b, v = .tuple #[a, b] ∧ k a b
def ret3 (v : Value) (k : Value → Value → Value → Prop) : Prop := ∃ a b c, v = .tuple #[a, b, c] ∧ k a b c

def retC (T : Nat → TyE) (t : TypeId) (v : Value) (k : Value → Prop) : Prop :=
  match (T t).sub with
  | .tup [] => k undef
  | .tup [t1, t2] => ret2 v fun a b => valC T t1 a fun a' => valC T t2 b fun b' => k (.tuple #[a', b'])
  | .tup [t1, t2, t3] => ret3 v fun a b c => valC T t1 a fun a' => valC T t2 b fun b' => valC T t3 c fun c' => k (.tuple #[a', b', c'])
  | .tup _ => False
  | _ => valC T t v k

/-- What becomes of a call's ending. -/
def endC (T : Nat → TyE) (may : Bool) (t : TypeId) (e : LEnd) (k pk : Value → Prop) : Prop :=
  match e with
  | .ret v => retC T t v k
  | .pan v => if may = true then pk v else False

def isCtl (op : Op) : Bool :=
  match op with
  | .call c => match c.callee with
    | .value _ => true
    | _ => false
  | .panic _ => true
  | _ => false

def ctlOp (P : Program) (T : Nat → TyE) (pan : Nat → Bool) (ρ : Operand → Value) (op : Op) (t : TypeId) (H : AH) (k : Value → AH → Prop) (pk : Value → AH → Prop) : Prop :=
  match op with
  | .call c =>
    match c.callee with
    | .value f =>
      match ρ f with
      | .func (.func g) first captured =>
        LCalls P g (first.toList ++ c.args.toList.map ρ ++ captured.toList) H fun e H' => endC T (pan g) t e (fun v => k v H') (fun v => pk v H')
      | _ => False
    | _ => False
  | .panic x =>
    match ρ x with
    | .iface t v => pk (.iface t v) H
    | _ => False
  | _ => False

def isEff (op : Op) : Bool :=
  match op with
  | .store _ _ _ => true
  | .call c => match c.callee with
    | .builtin .append => true
    | .builtin .copy => true
    | _ => false
  | _ => false

/-- One operation. -/
def opStep (P : Program) (T : Nat → TyE) (pan : Nat → Bool) (ρ : Operand → Value) (o : Oper) (H : AH) (k pk : Value → AH → Prop) : Prop :=
  if isLoad T o.op = true then loadOp T ρ o.op H fun v _ => k v H
  else if isAlloc o.op = true then allocOp T ρ o.op H.size fun v ob => k v (H.push ob)
  else if isEff o.op = true then effOp T ρ o.op H k
  else if isCtl o.op = true then ctlOp P T pan ρ o.op o.type H k pk
  else pureOp T ρ o.op fun v => k v H

def dstOK (n : Nat) : Option Nat → Bool
  | none => true
  | some d => Nat.blt d n

def guardC (ops : Array Oper) (o : Oper) (fr : Fr) (yes no : Fr → Prop) : Prop :=
  match o.guard with
  | none => yes fr
  | some (j, want) =>
    match (ops.toList[j]?).bind (·.dst) with
    | none => False
    | some d =>
      match fr d with
      | .bool g =>
        bcase g (bcase want (yes (frput fr (some d) (.bool true))) (no (frput fr (some d) (.bool true))))
          (bcase want (no (frput fr (some d) (.bool false))) (yes (frput fr (some d) (.bool false))))
      | .tuple xs => match xs.toList with
        | [] => False
        | _ :: _ => no fr
      | _ => False

def wpS (P : Program) (T : Nat → TyE) (pan : Nat → Bool) (n : Nat) (ops : Array Oper) (K : Fr → AH → Prop) (PK : Value → AH → Prop) : List Oper → Fr → AH → Prop
  | [], fr, H => K fr H
  | o :: rest, fr, H =>
    if dstOK n o.dst = true then
      guardC ops o fr
        (fun fr => opStep P T pan (ev fr) o H (fun v H' => wpS P T pan n ops K PK rest (frput fr o.dst v) H') PK)
        (fun fr => wpS P T pan n ops K PK rest (frput fr o.dst skipV) H)
    else False

section
variable {P : Program} {T : Nat → TyE}

theorem valC_val {t : TypeId} {v : Value} {k : Value → Prop} (h : valC T t v k) : k v := by
  unfold valC at h
  split at h
  · obtain ⟨cs, rfl, hk⟩ := h; exact hk
  · obtain ⟨x, hx, hk⟩ := elim_some h
    injection hx with hx
    subst hx
    exact hk

theorem retC_val {t : TypeId} {v : Value} {k : Value → Prop} (h : retC T t v k) : k v ∨ k undef := by
  unfold retC at h
  split at h
  · exact .inr h
  · obtain ⟨a, b, rfl, h⟩ := h
    have h1 := valC_val h
    have h2 := valC_val h1
    exact .inl h2
  · obtain ⟨a, b, c, rfl, h⟩ := h
    have h1 := valC_val h
    have h2 := valC_val h1
    have h3 := valC_val h2
    exact .inl h3
  · exact h.elim
  · exact .inl (valC_val h)

theorem retC_rel {φ : Emb} {t : TypeId} {v v' : Value} {k : Value → Prop} (h : retC T t v k) (hv : VRel φ v v') : ∃ x, k x ∧ VRel φ x v' := by
  rcases retC_val h with h | h
  · exact ⟨v, h, hv⟩
  · exact ⟨undef, h, .undef _⟩

theorem func_inv {φ : Emb} {f : Fn} {as cs : Array Value} {v' : Value} (h : VRel φ (.func f as cs) v') :
    ∃ bs ds, v' = .func f bs ds ∧ LRel φ as.toList bs.toList ∧ LRel φ cs.toList ds.toList := by
  cases h with
  | fn _ _ bs _ ds h1 h2 h3 h4 => exact ⟨bs, ds, rfl, LRel.of_arr h1 h2, LRel.of_arr h3 h4⟩

theorem run_callFunc {g : FuncId} (h : enterable P g = true) (args : Array Value) (w : World) : (callFunc g args).run P w = .ok (.enter g args) w := by
  unfold enterable at h
  cases hf : P.funcs[g]? with
  | none => rw [hf] at h; cases h
  | some fn =>
    rw [hf] at h
    simp only [Bool.and_eq_true, Bool.not_eq_true'] at h
    obtain ⟨h1, h2⟩ := h
    have h1' : ¬ fn.name = "runtime.NumGoroutine" := by simpa using h1
    have h2' : ¬ fn.body = none := by intro hb; rw [hb] at h2; cases h2
    simp [callFunc, hf, h1', h2']

/-- ONE OPERATION, CARRIED OUT: what the machine comes to. -/
theorem opStep_sound (hT : Agrees P T) {pan : Nat → Bool} {fr : Fr} {o : Oper} {H : AH} {k pk : Value → AH → Prop} (h : opStep P T pan (ev fr) o H k pk)
    {W w : World} {φ : Emb} {a : Act} (hr : ∀ x ∈ o.op.operands, VRel φ (ev fr x) (a.eval x)) (R : Rel W φ H w) {next : Act → World → Prop} {Q : Exit → Act → World → Prop}
    (hk : ∀ φ' H' v v' w', Hist φ H φ' H' → VRel φ' v v' → Rel W φ' H' w' → k v H' → next (a.put o.dst v') w')
    (hpk : ∀ φ' H' v v' w', Hist φ H φ' H' → VRel φ' v v' → Rel W φ' H' w' → pk v H' → Q (.panic [{ v := v', recovered := false }]) a w')
    (hout : True) : o.wp P a w next Q := by
  unfold opStep at h
  unfold Oper.wp
  split at h
  · obtain ⟨v, rec, hkv, hrec, hok, _⟩ := load_sound hT h
    obtain ⟨v', hrun, hv⟩ := hok φ a.eval W w H hr R hrec
    rw [hrun]
    exact hk φ H v v' w (Hist.refl _ _) hv R hkv
  · split at h
    · obtain ⟨v, ob, hkv, hok⟩ := alloc_sound hT h
      obtain ⟨v', w', B, hrun, hv, R'⟩ := hok φ a.eval W w (H.push ob) hr (R.push ob) (by simp [AH.push]) (by simp [AH.push]) R.fresh
      rw [hrun]
      refine hk _ _ v v' w' ⟨Emb.le_add R.fresh, by simp [AH.push], fun b hb hn => ?_, fun b hb _ => ?_⟩ hv R' hkv
      · have : b ≠ H.size := by omega
        simp [Emb.add, this, hn]
      · have : b ≠ H.size := by omega
        simp [AH.push, this]
    · split at h
      · obtain ⟨r, w', v, v', φ', H', hrun, hres, hh, hv, R', hkv⟩ := eff_sound hT h hr R
        rw [hrun]
        rcases hres with rfl | ⟨rfl, rfl⟩
        · exact hk φ' H' v v' w' hh hv R' hkv
        · exact hk φ' H' v undef w' hh hv R' hkv
      · split at h
        · obtain ⟨dst, op, type, pos, after, guard⟩ := o
          simp only at h hr hk ⊢
          cases op with
          | call c =>
            obtain ⟨callee, args, argTypes⟩ := c
            simp only [ctlOp] at h
            cases callee with
            | value f =>
              simp only at h
              split at h
              · rename_i g first captured hf
                obtain ⟨hent, hcall⟩ := h
                have hfr := hr f (by simp [Op.operands, Call.operands])
                rw [hf] at hfr
                obtain ⟨bs, ds, hfe, hb, hd⟩ := func_inv hfr
                have hargs : LRel φ (first.toList ++ args.toList.map (ev fr) ++ captured.toList) (bs ++ args.map a.eval ++ ds).toList := by
                  simp only [Array.toList_append, Array.toList_map]
                  exact (hb.append (LRel.map args.toList (fun x hx => hr x (by simp [Op.operands, Call.operands]; exact .inr (by simpa using hx))))).append hd
                have hrun : (execOp a.eval { dst, op := .call { callee := .value f, args, argTypes }, type, pos, after, guard }).run P w = .ok (.enter g (bs ++ args.map a.eval ++ ds)) w := by
                  simp [execOp, resolve, hfe, Deferred.ofValue, invoke, run_callFunc hent]
                rw [hrun]
                simp only [Oper.upon]
                refine (hcall W w φ _ hargs R).mono fun e w' he => ?_
                obtain ⟨le, φ', H', hh, hend, R', hQ⟩ := he
                · cases le with
                  | ret v =>
                    cases e with
                    | returned v' =>
                      simp only [endC] at hQ
                      obtain ⟨x, hkx, hx⟩ := retC_rel hQ hend
                      exact hk φ' H' x v' w' hh hx R' hkx
                    | panicked c => exact hend.elim
                    | outgrown => exact hend.elim
                  | pan v =>
                    cases e with
                    | returned v' => exact hend.elim
                    | panicked c =>
                      obtain ⟨v', rfl, hv⟩ := hend
                      simp only [endC] at hQ
                      split at hQ
                      · exact hpk φ' H' v v' w' hh hv R' hQ
                      · exact hQ.elim
                    | outgrown => exact hend.elim
              · exact h.elim
            | _ => exact h.elim
          | panic x =>
            simp only [ctlOp] at h
            split at h
            · rename_i t v hx
              have hxr := hr x (by simp [Op.operands])
              rw [hx] at hxr
              generalize hx' : a.eval x = x' at hxr
              cases hxr with
              | iface _ _ v' hv =>
                have hrun : (execOp a.eval { dst, op := .panic x, type, pos, after, guard }).run P w = .halt (.panic (.iface t v')) w := by
                  simp [execOp, hx', Instr.panic]
                rw [hrun]
                exact hpk φ H _ _ w (Hist.refl _ _) (.iface _ _ _ hv) R h
            · exact h.elim
          | _ => simp [ctlOp] at h
        · obtain ⟨v, hkv, hok⟩ := pure_sound hT h
          obtain ⟨v', hrun, hv⟩ := hok φ a.eval hr
          rw [hrun w]
          exact hk φ H v v' w (Hist.refl _ _) hv R hkv


theorem frput_bool {fr : Fr} {d : Nat} {b : Bool} (h : fr d = .bool b) : frput fr (some d) (.bool b) = fr := by
  funext s
  by_cases hs : s = d
  · subst hs; rw [frput_same, h]
  · rw [frput_ne _ _ hs]

theorem yielded_tup {ops : Array Oper} {a : Act} {φ : Emb} {j d : Nat} {xs : Array Value} (hd : (ops[j]?).bind (·.dst) = some d) (h : VRel φ (.tuple xs) (a.tmps.getD d undef)) (hx : xs.toList ≠ []) :
    yielded ops a.tmps j = none := by
  unfold yielded
  rw [hd]
  simp only [Option.bind_some]
  cases ht : a.tmps[d]? with
  | none => rfl
  | some v =>
    have : a.tmps.getD d undef = v := by simp [Array.getD_eq_getD_getElem?, ht]
    rw [this] at h
    cases h
    · exact absurd rfl hx
    · rfl
    · rfl

theorem guardC_sound {ops : Array Oper} {o : Oper} {fr : Fr} {yes no : Fr → Prop} (h : guardC ops o fr yes no) {φ : Emb} {n : Nat} {a : Act} (A : ARel φ n fr a) :
    (Region.wanted o (yielded ops a.tmps) = true ∧ yes fr) ∨ (Region.wanted o (yielded ops a.tmps) = false ∧ no fr) := by
  unfold guardC at h
  split at h
  · rename_i hg
    exact .inl ⟨by simp [Region.wanted, hg], h⟩
  · rename_i j want hg
    split at h
    · exact h.elim
    · rename_i d hd
      split at h
      · rename_i g hfr
        have hslot := A.tmp d
        rw [hfr] at hslot
        have hy : yielded ops a.tmps j = some g ∨ yielded ops a.tmps j = none := by
          unfold yielded
          have hd' : (ops[j]?).bind (·.dst) = some d := by simpa using hd
          rw [hd']
          simp only [Option.bind_some]
          cases ht : a.tmps[d]? with
          | none => exact .inr rfl
          | some v =>
            have : a.tmps.getD d undef = v := by simp [Array.getD_eq_getD_getElem?, ht]
            rw [this] at hslot
            cases hslot
            exact .inl rfl
        have hy' : yielded ops a.tmps j = some g := by
          rcases hy with hy | hy
          · exact hy
          · exfalso
            unfold yielded at hy
            have hd' : (ops[j]?).bind (·.dst) = some d := by simpa using hd
            rw [hd'] at hy
            simp only [Option.bind_some] at hy
            cases ht : a.tmps[d]? with
            | none =>
              have : a.tmps.getD d undef = undef := by simp [Array.getD_eq_getD_getElem?, ht]
              rw [this] at hslot
              cases hslot
            | some v =>
              have : a.tmps.getD d undef = v := by simp [Array.getD_eq_getD_getElem?, ht]
              rw [this] at hslot
              cases hslot
              rw [ht] at hy
              simp at hy
        have hw : Region.wanted o (yielded ops a.tmps) = (g == want) := by
          simp [Region.wanted, hg, hy']
        cases g <;> cases want <;> simp only [bcase] at h <;> rw [frput_bool hfr] at h
        · exact .inl ⟨hw, h⟩
        · exact .inr ⟨hw, h⟩
        · exact .inr ⟨hw, h⟩
        · exact .inl ⟨hw, h⟩
      · rename_i xs hfr
        split at h
        · exact h.elim
        · rename_i y ys hxs
          have hy : yielded ops a.tmps j = none := yielded_tup (by simpa using hd) (hfr ▸ A.tmp d) (by rw [hxs]; simp)
          exact .inr ⟨by simp [Region.wanted, hg, hy], h⟩
      · exact h.elim

theorem dstOK_lt {n : Nat} {d : Option Nat} (h : dstOK n d = true) : ∀ t, d = some t → t < n := by
  intro t ht
  subst ht
  simp only [dstOK] at h
  exact Nat.le_of_ble_eq_true h

/-- OPERATIONS ONE BY ONE. -/
theorem wpS_sound (hT : Agrees P T) {pan : Nat → Bool} {n : Nat} {ops : Array Oper} {K : Fr → AH → Prop} {PK : Value → AH → Prop} {W : World} {Q : Exit → Act → World → Prop} (hout : True) :
    ∀ (l : List Oper) (i : Nat) (fr : Fr) (H : AH) (φ : Emb) (a : Act) (w : World), ops.toList.drop i = l → ARel φ n fr a → Rel W φ H w → wpS P T pan n ops K PK l fr H →
      (∀ φ' fr' H' a' w', Hist φ H φ' H' → ARel φ' n fr' a' → (∀ s, s ∉ l.filterMap (·.dst) → fr' s = fr s) → Rel W φ' H' w' → K fr' H' → Q .normal a' w') →
      (∀ φ' H' v v' a' w', Hist φ H φ' H' → a'.defers = [] → VRel φ' v v' → Rel W φ' H' w' → PK v H' → Q (.panic [{ v := v', recovered := false }]) a' w') →
      wpOps P ops Q (List.range' i l.length) a w := by
  intro l
  induction l with
  | nil =>
    intro i fr H φ a w _ A R h hK _
    simp only [List.length_nil, List.range'_zero, wpOps]
    exact hK φ fr H a w (Hist.refl _ _) A (fun _ _ => rfl) R h
  | cons o rest ih =>
    intro i fr H φ a w hdrop A R h hK hPK
    have ho : ops[i]? = some o := by
      have := congrArg (fun l => l[0]?) hdrop
      simpa using this
    have hrest : ops.toList.drop (i + 1) = rest := by rw [← List.drop_drop, hdrop]; rfl
    simp only [List.length_cons, List.range'_succ, wpOps, ho]
    simp only [wpS] at h
    have keep : ∀ (v : Value) (fr' : Fr) (s : Nat), (∀ s, s ∉ rest.filterMap (·.dst) → fr' s = frput fr o.dst v s) → s ∉ (o :: rest).filterMap (·.dst) → fr' s = fr s := by
      intro v fr' s hk hs
      cases hd : o.dst with
      | none =>
        rw [List.filterMap_cons, hd] at hs
        rw [hk s hs, hd]; rfl
      | some d =>
        rw [List.filterMap_cons, hd] at hs
        simp only [List.mem_cons, not_or] at hs
        rw [hk s hs.2, hd, frput_ne _ _ hs.1]
    split at h
    · rename_i hdst
      have hd := dstOK_lt hdst
      rcases guardC_sound h A with ⟨hw, hy⟩ | ⟨hw, hy⟩
      · rw [if_pos hw]
        refine .inl (opStep_sound hT hy (fun x _ => A.ev x) R (fun φ' H' v v' w' hh hv R' hk => ?_) (fun φ' H' v v' w' hh hv R' hk => hPK φ' H' v v' a w' hh A.defers hv R' hk) hout)
        refine ih (i + 1) _ H' φ' _ w' hrest ((A.mono hh.1).put hd hv) R' hk (fun φ'' fr'' H'' a'' w'' hh' A' hkp => hK φ'' fr'' H'' a'' w'' (hh.trans hh') A' (fun s hs => keep v fr'' s hkp hs))
          (fun φ'' H'' v v' a'' w'' hh' => hPK φ'' H'' v v' a'' w'' (hh.trans hh'))
      · rw [if_neg (by rw [hw]; simp)]
        exact ih (i + 1) _ H φ _ w hrest (A.put hd .skip) R hy (fun φ'' fr'' H'' a'' w'' hh' A' hkp => hK φ'' fr'' H'' a'' w'' hh' A' (fun s hs => keep skipV fr'' s hkp hs)) hPK
    · exact h.elim

end
end Go.Abs

namespace Go.Abs

/-! ## A region that draws its order -/

def depsOf (o : Oper) : List Nat := (o.after.toList.filter fun e => Region.binds .any e).map (·.on)

def maskStep (acc : List Nat) (o : Oper) : Nat := (depsOf o).foldl (fun s j => s ||| 2 ^ j ||| acc.getD j 0) 0

def masks : List Oper → List Nat → List Nat
  | [], acc => acc
  | o :: rest, acc => masks rest (acc ++ [maskStep acc o])

/-- j comes ahead of i, whatever is drawn. -/
def bef (M : List Nat) (i j : Nat) : Bool := (M.getD i 0).testBit j

def looks (L : List Oper) (o : Oper) : List Nat :=
  (o.op.operands.toList.filterMap fun | .tmp t => some t | _ => none) ++
  (match o.guard with
   | some (g, _) => ((L[g]?).bind (·.dst)).toList
   | none => [])

def writer (L : List Oper) (s : Nat) : Option Nat := L.findIdx? fun o => o.dst == some s

def isHeavy (T : Nat → TyE) (op : Op) : Bool := !isLoad T op && !isAlloc op && (isEff op || isCtl op)

def ordGo (T : Nat → TyE) (L : List Oper) (M : List Nat) : List Nat → Nat → Option Nat → Bool
  | [], _, _ => true
  | i :: rest, seen, last =>
    match L[i]? with
    | none => false
    | some o =>
      (depsOf o).all (fun j => seen.testBit j && Nat.blt j i) && !seen.testBit i &&
      (match last with
       | none => true
       | some e => bef M i e) &&
      ordGo T L M rest (seen ||| 2 ^ i) (if isHeavy T o.op = true then some i else last)

def noTwo : List Nat → Bool
  | [] => true
  | x :: xs => !xs.contains x && noTwo xs

def ordOK (T : Nat → TyE) (L : List Oper) (M : List Nat) (ord : List Nat) : Bool :=
  (List.range L.length).all (fun i => ord.contains i) && ordGo T L M ord 0 none && noTwo (L.filterMap (·.dst)) &&
  (List.range L.length).all fun i => match L[i]? with
    | none => true
    | some o => (looks L o).all fun s => match writer L s with
      | none => true
      | some j => bef M i j || bef M j i

def checks (M : List Nat) (e : Nat) (H : AH) (C : Prop) : List (Nat × (AH → Prop)) → Prop
  | [] => C
  | (i, rec) :: r => if bef M e i = true then checks M e H C r else rec H ∧ checks M e H C r

def wpD (P : Program) (T : Nat → TyE) (pan : Nat → Bool) (n : Nat) (ops : Array Oper) (M : List Nat) (K : Fr → AH → Prop) : List Nat → List (Nat × (AH → Prop)) → Fr → AH → Prop
  | [], _, fr, H => K fr H
  | i :: rest, recs, fr, H =>
    match ops.toList[i]? with
    | none => False
    | some o =>
      if dstOK n o.dst = true then
        guardC ops o fr
          (fun fr =>
            if isLoad T o.op = true then loadOp T (ev fr) o.op H fun v rec => wpD P T pan n ops M K rest ((i, rec) :: recs) (frput fr o.dst v) H
            else if isAlloc o.op = true then allocOp T (ev fr) o.op H.size fun v ob => wpD P T pan n ops M K rest recs (frput fr o.dst v) (H.push ob)
            else if isHeavy T o.op = true then opStep P T pan (ev fr) o H (fun v H' => checks M i H' (wpD P T pan n ops M K rest recs (frput fr o.dst v) H') recs) (fun _ _ => False)
            else pureOp T (ev fr) o.op fun v => wpD P T pan n ops M K rest recs (frput fr o.dst v) H)
          (fun fr => wpD P T pan n ops M K rest recs (frput fr o.dst skipV) H)
      else False

/-! ### soundness -/

def slotAt (L : List Oper) (E : Nat → Bool) (V : Nat → Value) (fr0 : Fr) : Fr := fun s =>
  match writer L s with
  | some j => if E j = true then V j else fr0 s
  | none => fr0 s

theorem testBit_fold (acc : List Nat) (j : Nat) : ∀ (ds : List Nat) (s : Nat), (ds.foldl (fun s j => s ||| 2 ^ j ||| acc.getD j 0) s).testBit j = true →
    s.testBit j = true ∨ ∃ d ∈ ds, d = j ∨ (acc.getD d 0).testBit j = true := by
  intro ds
  induction ds with
  | nil => intro s h; exact .inl h
  | cons d ds ih =>
    intro s h
    simp only [List.foldl_cons] at h
    rcases ih _ h with h | ⟨d', hd', h⟩
    · rw [Nat.testBit_or, Nat.testBit_or, Bool.or_eq_true, Bool.or_eq_true] at h
      rcases h with (h | h) | h
      · exact .inl h
      · rw [Nat.testBit_two_pow] at h
        exact .inr ⟨d, by simp, .inl (of_decide_eq_true h)⟩
      · exact .inr ⟨d, by simp, .inr h⟩
    · exact .inr ⟨d', by simp [hd'], h⟩

theorem masks_prefix : ∀ (L : List Oper) (acc : List Nat), ∃ t, masks L acc = acc ++ t ∧ t.length = L.length := by
  intro L
  induction L with
  | nil => intro acc; exact ⟨[], by simp [masks]⟩
  | cons o L ih =>
    intro acc
    obtain ⟨t, ht, hl⟩ := ih (acc ++ [maskStep acc o])
    exact ⟨maskStep acc o :: t, by simp [masks, ht], by simp [hl]⟩

theorem masks_spec : ∀ (L : List Oper) (acc : List Nat) (i j : Nat) (o : Oper), L[i]? = some o → bef (masks L acc) (acc.length + i) j = true →
    ∃ d ∈ depsOf o, d = j ∨ bef (masks L acc) d j = true := by
  intro L
  induction L with
  | nil => intro acc i j o h; simp at h
  | cons p L ih =>
    intro acc i j o h hb
    cases i with
    | zero =>
      simp at h
      subst h
      obtain ⟨t, ht, _⟩ := masks_prefix L (acc ++ [maskStep acc p])
      have hm : masks (p :: L) acc = acc ++ [maskStep acc p] ++ t := by simp only [masks]; exact ht
      rw [hm] at hb ⊢
      unfold bef at hb ⊢
      have hg : (acc ++ [maskStep acc p] ++ t).getD (acc.length + 0) 0 = maskStep acc p := by
        simp [List.getD_eq_getElem?_getD]
      rw [hg] at hb
      rcases testBit_fold acc j _ 0 hb with h0 | ⟨d, hd, h0⟩
      · simp at h0
      · refine ⟨d, hd, h0.imp id fun h1 => ?_⟩
        have hlt : d < acc.length := by
          rcases Nat.lt_or_ge d acc.length with hh | hh
          · exact hh
          · simp [List.getD_eq_getElem?_getD, List.getElem?_eq_none hh] at h1
        have : (acc ++ [maskStep acc p] ++ t).getD d 0 = acc.getD d 0 := by
          simp [List.getD_eq_getElem?_getD, List.append_assoc, List.getElem?_append_left hlt]
        rw [this]
        exact h1
    | succ i =>
      simp at h
      simp only [masks] at hb ⊢
      refine ih (acc ++ [maskStep acc p]) i j o h ?_
      rw [show (acc ++ [maskStep acc p]).length + i = acc.length + (i + 1) by simp; omega]
      exact hb

/-- What is closed under what comes directly ahead is closed under what comes ahead. -/
theorem bef_closed {L : List Oper} {E : Nat → Prop} (hsmall : ∀ (i : Nat) (o : Oper), L[i]? = some o → ∀ d ∈ depsOf o, d < i) (hc : ∀ (i : Nat) (o : Oper), L[i]? = some o → E i → ∀ d ∈ depsOf o, E d) :
    ∀ (i j : Nat), i < L.length → E i → bef (masks L []) i j = true → E j := by
  intro i
  induction i using Nat.strongRecOn with
  | _ i ih =>
    intro j hi hE hb
    have ho := List.getElem?_eq_getElem hi
    obtain ⟨d, hd, h⟩ := masks_spec L [] i j _ ho (by simpa using hb)
    have hlt := hsmall i _ ho d hd
    have hEd := hc i _ ho hE d hd
    rcases h with rfl | h
    · exact hEd
    · exact ih d hlt j (by omega) hEd h

theorem writer_some {L : List Oper} {s j : Nat} (h : writer L s = some j) : ∃ o, L[j]? = some o ∧ o.dst = some s := by
  unfold writer at h
  obtain ⟨hlt, hp, _⟩ := List.findIdx?_eq_some_iff_getElem.1 h
  exact ⟨L[j], List.getElem?_eq_getElem hlt, by simpa using hp⟩

theorem noTwo_nodup : ∀ (l : List Nat), noTwo l = true → l.Nodup := by
  intro l
  induction l with
  | nil => intro _; exact List.nodup_nil
  | cons x xs ih =>
    intro h
    simp only [noTwo, Bool.and_eq_true, Bool.not_eq_true', List.contains_eq_mem, decide_eq_false_iff_not] at h
    exact List.nodup_cons.2 ⟨h.1, ih h.2⟩

theorem dst_unique : ∀ (L : List Oper), (L.filterMap (·.dst)).Nodup → ∀ (i j : Nat) (o p : Oper) (s : Nat), L[i]? = some o → L[j]? = some p → o.dst = some s → p.dst = some s → i = j := by
  intro L
  induction L with
  | nil => intro _ i j o p s h; simp at h
  | cons q L ih =>
    intro hn i j o p s hi hj ho hp
    have hmem : ∀ (k : Nat) (r : Oper), L[k]? = some r → r.dst = some s → s ∈ L.filterMap (·.dst) := fun k r hk hr =>
      List.mem_filterMap.2 ⟨r, List.mem_of_getElem? hk, hr⟩
    have hn' : (L.filterMap (·.dst)).Nodup := by
      cases hq : q.dst with
      | none => simpa [List.filterMap_cons, hq] using hn
      | some d => simp only [List.filterMap_cons, hq] at hn; exact (List.nodup_cons.1 hn).2
    cases i with
    | zero =>
      simp at hi; subst hi
      cases j with
      | zero => rfl
      | succ j =>
        simp at hj
        simp only [List.filterMap_cons, ho] at hn
        exact absurd (hmem j p hj hp) (List.nodup_cons.1 hn).1
    | succ i =>
      simp at hi
      cases j with
      | zero =>
        simp at hj; subst hj
        simp only [List.filterMap_cons, hp] at hn
        exact absurd (hmem i o hi ho) (List.nodup_cons.1 hn).1
      | succ j =>
        simp at hj
        rw [ih hn' i j o p s hi hj ho hp]

theorem writer_of {L : List Oper} (hn : (L.filterMap (·.dst)).Nodup) {j s : Nat} {o : Oper} (h : L[j]? = some o) (hs : o.dst = some s) : writer L s = some j := by
  cases hw : writer L s with
  | none =>
    unfold writer at hw
    rw [List.findIdx?_eq_none_iff] at hw
    have := hw o (List.mem_of_getElem? h)
    simp [hs] at this
  | some k =>
    obtain ⟨p, hp, hps⟩ := writer_some hw
    rw [dst_unique L hn k j p o s hp h hps hs]

end Go.Abs

namespace Go.Abs

def lastH (T : Nat → TyE) (L : List Oper) : List Nat → Option Nat → Option Nat
  | [], last => last
  | i :: rest, last => lastH T L rest (match L[i]? with | some o => if isHeavy T o.op = true then some i else last | none => last)

theorem lastH_some (T : Nat → TyE) (L : List Oper) : ∀ (l : List Nat) (e : Nat), ∃ e', lastH T L l (some e) = some e' ∧ (e' = e ∨ e' ∈ l) := by
  intro l
  induction l with
  | nil => intro e; exact ⟨e, rfl, .inl rfl⟩
  | cons i l ih =>
    intro e
    simp only [lastH]
    split
    · split
      · obtain ⟨e', h1, h2⟩ := ih i
        refine ⟨e', h1, .inr ?_⟩
        rcases h2 with rfl | h2
        · simp
        · simp [h2]
      · obtain ⟨e', h1, h2⟩ := ih e
        exact ⟨e', h1, h2.imp id (fun h => by simp [h])⟩
    · obtain ⟨e', h1, h2⟩ := ih e
      exact ⟨e', h1, h2.imp id (fun h => by simp [h])⟩

theorem lastH_append (T : Nat → TyE) (L : List Oper) : ∀ (l1 l2 : List Nat) (last : Option Nat), lastH T L (l1 ++ l2) last = lastH T L l2 (lastH T L l1 last) := by
  intro l1
  induction l1 with
  | nil => intro l2 last; rfl
  | cons i l1 ih => intro l2 last; simp only [List.cons_append, lastH, ih]

theorem ordGo_split {T : Nat → TyE} {L : List Oper} {M : List Nat} : ∀ (l1 : List Nat) (i : Nat) (l2 : List Nat) (seen : Nat) (last : Option Nat), ordGo T L M (l1 ++ i :: l2) seen last = true →
    ∃ o, L[i]? = some o ∧ (∀ d ∈ depsOf o, (seen.testBit d = true ∨ d ∈ l1) ∧ d < i) ∧ (seen.testBit i = false ∧ i ∉ l1) ∧ ∀ e, lastH T L l1 last = some e → bef M i e = true := by
  intro l1
  induction l1 with
  | nil =>
    intro i l2 seen last h
    simp only [List.nil_append, ordGo] at h
    split at h
    · cases h
    · rename_i o ho
      simp only [Bool.and_eq_true, List.all_eq_true, Bool.not_eq_true'] at h
      obtain ⟨⟨⟨h1, h2⟩, h3⟩, _⟩ := h
      refine ⟨o, ho, fun d hd => ⟨.inl (h1 d hd).1, Nat.le_of_ble_eq_true (h1 d hd).2⟩, ⟨h2, by simp⟩, fun e he => ?_⟩
      simp only [lastH] at he
      rw [he] at h3
      exact h3
  | cons j l1 ih =>
    intro i l2 seen last h
    simp only [List.cons_append, ordGo] at h
    split at h
    · cases h
    · rename_i p hp
      simp only [Bool.and_eq_true, List.all_eq_true, Bool.not_eq_true'] at h
      obtain ⟨_, h4⟩ := h
      obtain ⟨o, ho, h1, h2, h3⟩ := ih i l2 _ _ h4
      have bit : ∀ x, (seen ||| 2 ^ j).testBit x = true ↔ seen.testBit x = true ∨ x = j := by
        intro x
        rw [Nat.testBit_or, Bool.or_eq_true, Nat.testBit_two_pow, decide_eq_true_eq]
        exact ⟨fun h => h.imp id Eq.symm, fun h => h.imp id Eq.symm⟩
      refine ⟨o, ho, fun d hd => ⟨?_, (h1 d hd).2⟩, ⟨?_, ?_⟩, fun e he => h3 e ?_⟩
      · rcases (h1 d hd).1 with h | h
        · rcases (bit d).1 h with h | h
          · exact .inl h
          · exact .inr (by simp [h])
        · exact .inr (by simp [h])
      · cases hs : seen.testBit i with
        | false => rfl
        | true => have := (bit i).2 (.inl hs); rw [h2.1] at this; cases this
      · intro hm
        rcases List.mem_cons.1 hm with h | h
        · have := (bit i).2 (.inr h); rw [h2.1] at this; cases this
        · exact h2.2 h
      · simp only [lastH, hp] at he
        exact he

section
variable {P : Program} {T : Nat → TyE}

def gsel (L : List Oper) (o : Oper) (fr : Fr) : Option Bool :=
  match o.guard with
  | none => some true
  | some (j, want) =>
    match (L[j]?).bind (·.dst) with
    | none => none
    | some d => match fr d with
      | .bool g => some (g == want)
      | .tuple xs => match xs.toList with
        | [] => none
        | _ :: _ => some false
      | _ => none

theorem guardC_sel {ops : Array Oper} {o : Oper} {fr : Fr} {yes no : Fr → Prop} (h : guardC ops o fr yes no) :
    (gsel ops.toList o fr = some true ∧ yes fr) ∨ (gsel ops.toList o fr = some false ∧ no fr) := by
  unfold guardC at h
  split at h
  · rename_i hg
    exact .inl ⟨by simp [gsel, hg], h⟩
  · rename_i j want hg
    split at h
    · exact h.elim
    · rename_i d hd
      split at h
      · rename_i g hfr
        have hgs : gsel ops.toList o fr = some (g == want) := by
          unfold gsel
          rw [hg]
          simp only [hd, hfr]
        rw [hgs]
        cases g <;> cases want <;> simp only [bcase] at h <;> rw [frput_bool hfr] at h <;> first
          | exact .inl ⟨rfl, h⟩
          | exact .inr ⟨rfl, h⟩
      · rename_i xs hfr
        split at h
        · exact h.elim
        · rename_i y ys hxs
          have hgs : gsel ops.toList o fr = some false := by
            unfold gsel
            rw [hg]
            simp only [hd, hfr, hxs]
          rw [hgs]
          exact .inr ⟨rfl, h⟩
      · exact h.elim

theorem gsel_wanted {ops : Array Oper} {o : Oper} {fr : Fr} {b : Bool} (h : gsel ops.toList o fr = some b) {φ : Emb} {a : Act}
    (hs : ∀ s ∈ looks ops.toList o, VRel φ (fr s) (a.tmps.getD s undef)) : Region.wanted o (yielded ops a.tmps) = b := by
  unfold gsel at h
  split at h
  · rename_i hg
    injection h with h
    simp [Region.wanted, hg, h]
  · rename_i j want hg
    split at h
    · cases h
    · rename_i d hd
      split at h
      · rename_i g hfr
        injection h with h
        have hd' : (ops[j]?).bind (·.dst) = some d := by simpa using hd
        have hmem : d ∈ looks ops.toList o := by simp [looks, hg, hd']
        have hslot := hs d hmem
        rw [hfr] at hslot
        have hy : yielded ops a.tmps j = some g := by
          unfold yielded
          rw [hd']
          simp only [Option.bind_some]
          cases ht : a.tmps[d]? with
          | none =>
            have : a.tmps.getD d undef = undef := by simp [Array.getD_eq_getD_getElem?, ht]
            rw [this] at hslot
            cases hslot
          | some v =>
            have : a.tmps.getD d undef = v := by simp [Array.getD_eq_getD_getElem?, ht]
            rw [this] at hslot
            cases hslot
            rfl
        simp [Region.wanted, hg, ← h, hy]
      · rename_i xs hfr
        split at h
        · cases h
        · rename_i y ys hxs
          injection h with h
          have hd' : (ops[j]?).bind (·.dst) = some d := by simpa using hd
          have hmem : d ∈ looks ops.toList o := by simp [looks, hg, hd']
          have hslot := hs d hmem
          rw [hfr] at hslot
          have hy := yielded_tup hd' hslot (by rw [hxs]; simp)
          simp [Region.wanted, hg, ← h, hy]
      · cases h

theorem looks_ev {L : List Oper} {o : Oper} {fr : Fr} {φ : Emb} {a : Act} (hs : ∀ s ∈ looks L o, VRel φ (fr s) (a.tmps.getD s undef)) :
    ∀ x ∈ o.op.operands, VRel φ (ev fr x) (a.eval x) := by
  intro x hx
  cases x with
  | tmp t =>
    refine hs t ?_
    unfold looks
    refine List.mem_append_left _ (List.mem_filterMap.2 ⟨.tmp t, by simpa using hx, rfl⟩)
  | const v =>
    simp only [Abs.ev, Act.eval]
    split
    · exact VRel.constOK ‹_›
    · exact .undef v
  | global g => exact .undef _
  | func f => exact .fn _ _ _ _ _ rfl (by simp) rfl (by simp)

theorem ev_congr {L : List Oper} {o : Oper} {fr fr' : Fr} (hs : ∀ s ∈ looks L o, fr s = fr' s) : ∀ x ∈ o.op.operands, ev fr x = ev fr' x := by
  intro x hx
  cases x with
  | tmp t =>
    refine hs t ?_
    unfold looks
    exact List.mem_append_left _ (List.mem_filterMap.2 ⟨.tmp t, by simpa using hx, rfl⟩)
  | _ => rfl

/-- What is known of an operation that the abstract run has done, and the machine has not. -/
inductive Pend (P : Program) (T : Nat → TyE) (L : List Oper) (o : Oper) (fr : Fr) (i : Nat) (v : Value) (H : AH) (φ : Emb) (recs : List (Nat × (AH → Prop))) (bid : Option Nat) : Prop where
  | skip (hg : gsel L o fr = some false) (hv : v = skipV)
  | pure (hg : gsel L o fr = some true) (h : PureOK P (ev fr) o v)
  | load (hg : gsel L o fr = some true) (rec : AH → Prop) (hm : (i, rec) ∈ recs) (hr : rec H) (h : LoadOK P (ev fr) o v rec) (hs : Stays rec)
  | alloc (hg : gsel L o fr = some true) (b : Nat) (hb : bid = some b) (h : AllocOK P (ev fr) o b v (H.get b)) (hn : φ b = none)

structure DInv (P : Program) (T : Nat → TyE) (pan : Nat → Bool) (n : Nat) (ops : Array Oper) (K : Fr → AH → Prop) (ord : List Nat) (fr0 : Fr) (W : World) (φ0 : Emb) (H0 : AH)
    (listed : Array Bool) (a : Act) (w : World) (done rest : List Nat) (V : Nat → Value) (bid : Nat → Option Nat) (recs : List (Nat × (AH → Prop))) (fr : Fr) (H : AH) (φ : Emb) : Prop where
  split : ord = done ++ rest
  run : wpD P T pan n ops (masks ops.toList []) K rest recs fr H
  frame : ∀ s, fr s = slotAt ops.toList (fun j => done.contains j) V fr0 s
  rel : Rel W φ H w
  hist : Hist φ0 H0 φ H
  size : a.tmps.size = n
  defers : a.defers = []
  slots : ∀ s, VRel φ (slotAt ops.toList (fun j => listed.getD j true) V fr0 s) (a.tmps.getD s undef)
  lsize : listed.size = ops.size
  sub : ∀ i, i < ops.size → listed.getD i true = true → i ∈ done
  closed : ∀ i o, ops.toList[i]? = some o → listed.getD i true = true → ∀ d ∈ depsOf o, listed.getD d true = true
  bidlt : ∀ i b, bid i = some b → b < H.size
  bidge : ∀ i b, bid i = some b → H0.size ≤ b
  bidinj : ∀ i j b, bid i = some b → bid j = some b → i = j
  pend : ∀ i ∈ done, listed.getD i true = false → ∃ o fri, ops.toList[i]? = some o ∧ dstOK n o.dst = true ∧
    (∀ s ∈ looks ops.toList o, fri s = slotAt ops.toList (fun j => bef (masks ops.toList []) i j) V fr0 s) ∧ Pend P T ops.toList o fri i (V i) H φ recs (bid i)

end
end Go.Abs

namespace Go.Abs
section
variable {P : Program} {T : Nat → TyE}

structure OrdFacts (T : Nat → TyE) (L : List Oper) (ord : List Nat) : Prop where
  all : ∀ i, i < L.length → i ∈ ord
  pos : ∀ l1 i l2, ord = l1 ++ i :: l2 → ∃ o, L[i]? = some o ∧ (∀ d ∈ depsOf o, d ∈ l1 ∧ d < i) ∧ i ∉ l1 ∧ ∀ e, lastH T L l1 none = some e → bef (masks L []) i e = true
  nodup : (L.filterMap (·.dst)).Nodup
  look : ∀ i o s j, L[i]? = some o → s ∈ looks L o → writer L s = some j → bef (masks L []) i j = true ∨ bef (masks L []) j i = true

theorem ordOK_facts {L : List Oper} {ord : List Nat} (h : ordOK T L (masks L []) ord = true) : OrdFacts T L ord := by
  unfold ordOK at h
  simp only [Bool.and_eq_true, List.all_eq_true, List.mem_range] at h
  obtain ⟨⟨⟨h1, h2⟩, h3⟩, h4⟩ := h
  refine ⟨fun i hi => by simpa using h1 i hi, fun l1 i l2 he => ?_, noTwo_nodup _ h3, fun i o s j ho hs hw => ?_⟩
  · rw [he] at h2
    obtain ⟨o, ho, hd, hi, hl⟩ := ordGo_split l1 i l2 0 none h2
    refine ⟨o, ho, fun d hdd => ⟨?_, (hd d hdd).2⟩, hi.2, hl⟩
    rcases (hd d hdd).1 with h | h
    · simp at h
    · exact h
  · have hi : i < L.length := (List.getElem?_eq_some_iff.1 ho).1
    have := h4 i hi
    rw [ho] at this
    simp only [List.all_eq_true] at this
    have := this s hs
    rw [hw] at this
    simpa using this

theorem OrdFacts.small {L : List Oper} {ord : List Nat} (F : OrdFacts T L ord) : ∀ (i : Nat) (o : Oper), L[i]? = some o → ∀ d ∈ depsOf o, d < i := by
  intro i o ho d hd
  have hi : i < L.length := (List.getElem?_eq_some_iff.1 ho).1
  obtain ⟨l1, l2, he⟩ := List.append_of_mem (F.all i hi)
  obtain ⟨o', ho', h, _⟩ := F.pos l1 i l2 he
  rw [ho] at ho'
  injection ho' with ho'
  subst ho'
  exact (h d hd).2

/-- What was done first is closed. -/
theorem OrdFacts.done_closed {L : List Oper} {ord : List Nat} (F : OrdFacts T L ord) {done rest : List Nat} (hs : ord = done ++ rest) :
    ∀ (i : Nat) (o : Oper), L[i]? = some o → i ∈ done → ∀ d ∈ depsOf o, d ∈ done := by
  intro i o ho hi d hd
  obtain ⟨l1, l2, he⟩ := List.append_of_mem hi
  obtain ⟨o', ho', h, _⟩ := F.pos l1 i (l2 ++ rest) (by rw [hs, he]; simp)
  rw [ho] at ho'
  injection ho' with ho'
  subst ho'
  rw [he]
  exact List.mem_append_left _ (h d hd).1

theorem OrdFacts.bef_done {L : List Oper} {ord : List Nat} (F : OrdFacts T L ord) {done rest : List Nat} (hs : ord = done ++ rest) {i j : Nat} (hi : i < L.length) (hm : i ∈ done)
    (hb : bef (masks L []) i j = true) : j ∈ done :=
  bef_closed (E := fun x => x ∈ done) F.small (F.done_closed hs) i j hi hm hb

/-- Ahead of the next one: what comes ahead of it has been done. -/
theorem OrdFacts.bef_next {L : List Oper} {ord : List Nat} (F : OrdFacts T L ord) {done rest : List Nat} {i : Nat} (hs : ord = done ++ i :: rest) {j : Nat} (hb : bef (masks L []) i j = true) : j ∈ done := by
  obtain ⟨o, ho, hd, _, _⟩ := F.pos done i rest hs
  obtain ⟨d, hdd, h⟩ := masks_spec L [] i j o ho (by simpa using hb)
  have hdm := (hd d hdd).1
  rcases h with rfl | h
  · exact hdm
  · have hlt : d < L.length := by have := (hd d hdd).2; have := (List.getElem?_eq_some_iff.1 ho).1; omega
    exact F.bef_done hs hlt hdm h

theorem OrdFacts.slot_next {L : List Oper} {ord : List Nat} (F : OrdFacts T L ord) {done rest : List Nat} {i : Nat} (hs : ord = done ++ i :: rest) {o : Oper} (ho : L[i]? = some o) (V : Nat → Value) (fr0 : Fr) :
    ∀ s ∈ looks L o, slotAt L (fun j => done.contains j) V fr0 s = slotAt L (fun j => bef (masks L []) i j) V fr0 s := by
  intro s hm
  unfold slotAt
  cases hw : writer L s with
  | none => rfl
  | some j =>
    simp only
    obtain ⟨_, _, _, hni, _⟩ := F.pos done i rest hs
    have : done.contains j = bef (masks L []) i j := by
      cases hb : bef (masks L []) i j with
      | true => simpa using F.bef_next hs hb
      | false =>
        cases hc : done.contains j with
        | false => rfl
        | true =>
          exfalso
          have hj : j ∈ done := by simpa using hc
          rcases F.look i o s j ho hm hw with h | h
          · rw [h] at hb; cases hb
          · obtain ⟨p, hp, _⟩ := writer_some hw
            exact hni (F.bef_done hs (List.getElem?_eq_some_iff.1 hp).1 hj h)
    simp only [this]

theorem OrdFacts.slot_ready {L : List Oper} {ord : List Nat} (F : OrdFacts T L ord) {E : Nat → Bool} (hc : ∀ (i : Nat) (o : Oper), L[i]? = some o → E i = true → ∀ d ∈ depsOf o, E d = true) {i : Nat} {o : Oper} (ho : L[i]? = some o)
    (hr : ∀ d ∈ depsOf o, E d = true) (hn : E i = false) (V : Nat → Value) (fr0 : Fr) :
    ∀ s ∈ looks L o, slotAt L E V fr0 s = slotAt L (fun j => bef (masks L []) i j) V fr0 s := by
  intro s hm
  unfold slotAt
  cases hw : writer L s with
  | none => rfl
  | some j =>
    simp only
    have hlt : i < L.length := (List.getElem?_eq_some_iff.1 ho).1
    have : E j = bef (masks L []) i j := by
      cases hb : bef (masks L []) i j with
      | true =>
        obtain ⟨d, hd, h⟩ := masks_spec L [] i j o ho (by simpa using hb)
        have hE := hr d hd
        rcases h with rfl | h
        · exact hE
        · exact bef_closed (E := fun x => E x = true) F.small hc d j (by have := F.small i o ho d hd; omega) hE h
      | false =>
        cases hE : E j with
        | false => rfl
        | true =>
          exfalso
          rcases F.look i o s j ho hm hw with h | h
          · rw [h] at hb; cases hb
          · obtain ⟨p, hp, _⟩ := writer_some hw
            have := bef_closed (E := fun x => E x = true) F.small hc j i (List.getElem?_eq_some_iff.1 hp).1 hE h
            rw [hn] at this; cases this
    rw [this]

theorem slotAt_congr {L : List Oper} {E : Nat → Bool} {V V' : Nat → Value} {fr0 : Fr} (h : ∀ j, E j = true → V j = V' j) (s : Nat) : slotAt L E V fr0 s = slotAt L E V' fr0 s := by
  unfold slotAt
  split
  · split
    · rw [h _ ‹_›]
    · rfl
  · rfl

/-- The frame behind one more operation. -/
theorem slotAt_put {L : List Oper} (hn : (L.filterMap (·.dst)).Nodup) {done : List Nat} {i : Nat} {o : Oper} (ho : L[i]? = some o) (hi : i ∉ done) {V : Nat → Value} {fr0 fr : Fr} {v : Value}
    (hf : ∀ s, fr s = slotAt L (fun j => done.contains j) V fr0 s) :
    ∀ s, frput fr o.dst v s = slotAt L (fun j => (done ++ [i]).contains j) (fun x => if x = i then v else V x) fr0 s := by
  intro s
  have key : ∀ (_ : o.dst ≠ some s), slotAt L (fun j => (done ++ [i]).contains j) (fun x => if x = i then v else V x) fr0 s = fr s := by
    intro hne
    rw [hf]
    unfold slotAt
    cases hw : writer L s with
    | none => rfl
    | some j =>
      have hji : j ≠ i := by
        intro e
        subst e
        obtain ⟨p, hp, hps⟩ := writer_some hw
        rw [ho] at hp
        injection hp with hp
        subst hp
        exact hne hps
      simp [hji]
  cases hd : o.dst with
  | none => rw [key (by simp [hd])]; rfl
  | some d =>
    by_cases hs : s = d
    · subst hs
      rw [frput_same]
      unfold slotAt
      rw [writer_of hn ho hd]
      simp
    · rw [frput_ne _ _ hs]
      exact (key (by rw [hd]; intro e; injection e with e; exact hs e.symm)).symm

end
end Go.Abs

namespace Go.Abs
section
variable {P : Program} {T : Nat → TyE}

theorem Pend.mono {L : List Oper} {o : Oper} {fr : Fr} {i : Nat} {v : Value} {H H' : AH} {φ φ' : Emb} {recs recs' : List (Nat × (AH → Prop))} {bid : Option Nat}
    (h : Pend P T L o fr i v H φ recs bid) (hrec : ∀ rec, (i, rec) ∈ recs → Stays rec → rec H → (i, rec) ∈ recs' ∧ rec H')
    (hal : ∀ b, bid = some b → φ b = none → H'.get b = H.get b ∧ φ' b = none) : Pend P T L o fr i v H' φ' recs' bid := by
  cases h with
  | skip hg hv => exact .skip hg hv
  | pure hg h => exact .pure hg h
  | load hg rec hm hr h hs => obtain ⟨h1, h2⟩ := hrec rec hm hs hr; exact .load hg rec h1 h2 h hs
  | alloc hg b hb h hn => obtain ⟨h1, h2⟩ := hal b hb hn; exact .alloc hg b hb (by rw [h1]; exact h) h2

theorem DInv.advance (hT : Agrees P T) {pan : Nat → Bool} {n : Nat} {ops : Array Oper} {K : Fr → AH → Prop} {ord : List Nat} (F : OrdFacts T ops.toList ord) {fr0 : Fr} {W : World} {φ0 : Emb} {H0 : AH}
    {listed : Array Bool} {a : Act} {w : World} {done rest : List Nat} {V : Nat → Value} {bid : Nat → Option Nat} {recs : List (Nat × (AH → Prop))} {fr : Fr} {H : AH} {φ : Emb} {i : Nat}
    (D : DInv P T pan n ops K ord fr0 W φ0 H0 listed a w done (i :: rest) V bid recs fr H φ) {o : Oper} (ho : ops.toList[i]? = some o) (hh : isHeavy T o.op = false) :
    ∃ V' bid' recs' fr' H', DInv P T pan n ops K ord fr0 W φ0 H0 listed a w (done ++ [i]) rest V' bid' recs' fr' H' φ := by
  have hsplit : ord = (done ++ [i]) ++ rest := by rw [D.split]; simp
  obtain ⟨_, _, _, hni, _⟩ := F.pos done i rest D.split
  have hisz : i < ops.size := by have := (List.getElem?_eq_some_iff.1 ho).1; simpa using this
  have hil : listed.getD i true = false := by
    cases h : listed.getD i true with
    | false => rfl
    | true => exact absurd (D.sub i hisz h) hni
  have hrun := D.run
  simp only [wpD, ho] at hrun
  split at hrun
  case isFalse => exact hrun.elim
  rename_i hdst
  have hslot := F.slot_next D.split ho V fr0
  have hlook : ∀ (V' : Nat → Value), (∀ x, x ∈ done → V' x = V x) → ∀ s ∈ looks ops.toList o, fr s = slotAt ops.toList (fun j => bef (masks ops.toList []) i j) V' fr0 s := by
    intro V' hV s hs
    rw [D.frame s, hslot s hs]
    exact slotAt_congr (fun j hj => (hV j (F.bef_next D.split hj)).symm) s
  -- the new state, once its value and heap are known
  have build : ∀ (v : Value) (H' : AH) (recs' : List (Nat × (AH → Prop))) (bid' : Nat → Option Nat), wpD P T pan n ops (masks ops.toList []) K rest recs' (frput fr o.dst v) H' →
      Rel W φ H' w → Hist φ H φ H' → (∀ j b, bid' j = some b → b < H'.size ∧ H0.size ≤ b) → (∀ j k b, bid' j = some b → bid' k = some b → j = k) → (∀ j, j ∈ done → bid' j = bid j) →
      (∀ j rec, (j, rec) ∈ recs → Stays rec → rec H → (j, rec) ∈ recs' ∧ rec H') → Pend P T ops.toList o fr i v H' φ recs' (bid' i) →
      DInv P T pan n ops K ord fr0 W φ0 H0 listed a w (done ++ [i]) rest (fun x => if x = i then v else V x) bid' recs' (frput fr o.dst v) H' φ := by
    intro v H' recs' bid' hw R' hh1 hb1 hb2 hb3 hrec hp
    have hV : ∀ x, x ∈ done → (if x = i then v else V x) = V x := by
      intro x hx
      have : x ≠ i := fun e => hni (e ▸ hx)
      rw [if_neg this]
    refine { split := hsplit, run := hw, frame := slotAt_put F.nodup ho hni D.frame, rel := R', hist := D.hist.trans hh1, size := D.size, defers := D.defers, slots := ?_, lsize := D.lsize,
             sub := ?_, closed := D.closed, bidlt := fun j b h => (hb1 j b h).1, bidge := fun j b h => (hb1 j b h).2, bidinj := hb2, pend := ?_ }
    · intro s
      have e : slotAt ops.toList (fun j => listed.getD j true) (fun x => if x = i then v else V x) fr0 s = slotAt ops.toList (fun j => listed.getD j true) V fr0 s := by
        refine slotAt_congr (fun j hj => ?_) s
        have : j ≠ i := fun e => by subst e; rw [hil] at hj; cases hj
        rw [if_neg this]
      rw [e]
      exact D.slots s
    · intro j hj hl
      exact List.mem_append_left _ (D.sub j hj hl)
    · intro j hj hl
      rcases List.mem_append.1 hj with hjd | hji
      · obtain ⟨p, fri, hp1, hp2, hp3, hp4⟩ := D.pend j hjd hl
        have hjlt : j < ops.toList.length := (List.getElem?_eq_some_iff.1 hp1).1
        refine ⟨p, fri, hp1, hp2, fun s hs => ?_, ?_⟩
        · rw [hp3 s hs]
          exact slotAt_congr (fun k hk => (hV k (F.bef_done D.split hjlt hjd hk)).symm) s
        · simp only [hV j hjd]
          rw [hb3 j hjd]
          exact hp4.mono (fun rec hm hs hr => hrec j rec hm hs hr) (fun b hb hn => ⟨hh1.2.2.2 b (D.bidlt j b hb) hn, hn⟩)
      · obtain rfl : j = i := by simpa using hji
        refine ⟨o, fr, ho, hdst, hlook _ (fun x hx => hV x hx), ?_⟩
        simp only [if_true]
        exact hp
  rcases guardC_sel hrun with ⟨hg, hy⟩ | ⟨hg, hy⟩
  · split at hy
    · obtain ⟨v, rec, hk, hr, hok, hst⟩ := load_sound hT hy
      exact ⟨_, _, _, _, _, build v H ((i, rec) :: recs) bid hk D.rel (Hist.refl _ _) (fun j b h => ⟨D.bidlt j b h, D.bidge j b h⟩) D.bidinj (fun _ _ => rfl) (fun j r hm _ hrr => ⟨List.mem_cons_of_mem _ hm, hrr⟩)
        (.load hg rec (by simp) hr hok hst)⟩
    · split at hy
      · obtain ⟨v, ob, hk, hok⟩ := alloc_sound hT hy
        refine ⟨_, _, _, _, _, build v (H.push ob) recs (fun j => if j = i then some H.size else if j ∈ done then bid j else none) hk (D.rel.push ob) ?_ ?_ ?_ ?_ ?_ ?_⟩
        · refine ⟨Emb.le_refl φ, by simp [AH.push], fun _ _ h => h, fun b hb _ => ?_⟩
          have : b ≠ H.size := by omega
          simp [AH.push, this]
        · intro j b hb
          simp only [AH.push]
          split at hb
          · injection hb with hb; have := D.hist.2.1; omega
          · split at hb
            · have h1 := D.bidlt j b hb; have h2 := D.bidge j b hb; omega
            · cases hb
        · intro j k b hj hk'
          split at hj
          · injection hj with hj
            subst hj
            split at hk'
            · rename_i h1 h2; rw [h1, h2]
            · split at hk'
              · have := D.bidlt k _ hk'; omega
              · cases hk'
          · split at hj
            · split at hk'
              · injection hk' with hk'
                subst hk'
                have := D.bidlt j _ hj; omega
              · split at hk'
                · exact D.bidinj j k b hj hk'
                · cases hk'
            · cases hj
        · intro j hj
          have : j ≠ i := fun e => hni (e ▸ hj)
          simp [this, hj]
        · intro j r hm hs hr
          exact ⟨hm, hs H ob D.rel.out hr⟩
        · refine .alloc hg H.size (by simp) ?_ D.rel.fresh
          have : (H.push ob).get H.size = ob := by simp [AH.push]
          rw [this]
          exact hok
      · split at hy
        · rename_i h3; rw [hh] at h3; cases h3
        · obtain ⟨v, hk, hok⟩ := pure_sound hT hy
          exact ⟨_, _, _, _, _, build v H recs bid hk D.rel (Hist.refl _ _) (fun j b h => ⟨D.bidlt j b h, D.bidge j b h⟩) D.bidinj (fun _ _ => rfl) (fun j r hm _ hrr => ⟨hm, hrr⟩) (.pure hg hok)⟩
  · exact ⟨_, _, _, _, _, build skipV H recs bid hy D.rel (Hist.refl _ _) (fun j b h => ⟨D.bidlt j b h, D.bidge j b h⟩) D.bidinj (fun _ _ => rfl) (fun j r hm _ hrr => ⟨hm, hrr⟩) (.skip hg rfl)⟩

/-- The abstract run goes on to the next call or store. -/
theorem DInv.norm (hT : Agrees P T) {pan : Nat → Bool} {n : Nat} {ops : Array Oper} {K : Fr → AH → Prop} {ord : List Nat} (F : OrdFacts T ops.toList ord) {fr0 : Fr} {W : World} {φ0 : Emb} {H0 : AH}
    {listed : Array Bool} {a : Act} {w : World} {φ : Emb} : ∀ (rest done : List Nat) (V : Nat → Value) (bid : Nat → Option Nat) (recs : List (Nat × (AH → Prop))) (fr : Fr) (H : AH),
    DInv P T pan n ops K ord fr0 W φ0 H0 listed a w done rest V bid recs fr H φ →
    ∃ done' rest' V' bid' recs' fr' H', DInv P T pan n ops K ord fr0 W φ0 H0 listed a w done' rest' V' bid' recs' fr' H' φ ∧
      (rest' = [] ∨ ∃ e tl o, rest' = e :: tl ∧ ops.toList[e]? = some o ∧ isHeavy T o.op = true) := by
  intro rest
  induction rest with
  | nil => intro done V bid recs fr H D; exact ⟨_, _, _, _, _, _, _, D, .inl rfl⟩
  | cons i rest ih =>
    intro done V bid recs fr H D
    obtain ⟨o, ho, _, _, _⟩ := F.pos done i rest D.split
    cases hh : isHeavy T o.op with
    | true => exact ⟨_, _, _, _, _, _, _, D, .inr ⟨i, rest, o, rfl, ho, hh⟩⟩
    | false =>
      obtain ⟨V', bid', recs', fr', H', D'⟩ := D.advance hT F ho hh
      exact ih _ _ _ _ _ _ D'

end
end Go.Abs

namespace Go.Abs
section
variable {P : Program} {T : Nat → TyE}

theorem getD_set_eq {listed : Array Bool} {i j : Nat} (hi : i < listed.size) : (listed.setIfInBounds i true).getD j true = if j = i then true else listed.getD j true := by
  by_cases h : j = i
  · subst h; simp [hi]
  · rw [if_neg h, getD_set_ne true (Ne.symm h)]

theorem slotAt_list {L : List Oper} (hn : (L.filterMap (·.dst)).Nodup) {listed : Array Bool} {i : Nat} {o : Oper} (ho : L[i]? = some o) (hi : i < listed.size) (V : Nat → Value) (fr0 : Fr) (s : Nat) :
    slotAt L (fun j => (listed.setIfInBounds i true).getD j true) V fr0 s = if o.dst = some s then V i else slotAt L (fun j => listed.getD j true) V fr0 s := by
  by_cases hd : o.dst = some s
  · rw [if_pos hd]
    unfold slotAt
    rw [writer_of hn ho hd]
    simp only [getD_set_eq hi, if_true]
  · rw [if_neg hd]
    unfold slotAt
    cases hw : writer L s with
    | none => rfl
    | some j =>
      have hji : j ≠ i := by
        intro e
        subst e
        obtain ⟨p, hp, hps⟩ := writer_some hw
        rw [ho] at hp
        injection hp with hp
        subst hp
        exact hd hps
      simp only [getD_set_eq hi, hji, if_false]

theorem put_slots {L : List Oper} (hn : (L.filterMap (·.dst)).Nodup) {listed : Array Bool} {i : Nat} {o : Oper} (ho : L[i]? = some o) (hi : i < listed.size) {n : Nat} (hdst : dstOK n o.dst = true)
    {V : Nat → Value} {fr0 : Fr} {φ : Emb} {a : Act} (hsz : a.tmps.size = n) (hs : ∀ s, VRel φ (slotAt L (fun j => listed.getD j true) V fr0 s) (a.tmps.getD s undef)) {v' : Value} (hv : VRel φ (V i) v') :
    ∀ s, VRel φ (slotAt L (fun j => (listed.setIfInBounds i true).getD j true) V fr0 s) ((a.put o.dst v').tmps.getD s undef) := by
  intro s
  rw [slotAt_list hn ho hi]
  cases hd : o.dst with
  | none => simp only [reduceCtorEq, if_false, Act.put]; exact hs s
  | some d =>
    have hlt : d < a.tmps.size := by rw [hsz]; exact dstOK_lt hdst d hd
    by_cases h : d = s
    · subst h
      simp only [if_true, Act.put]
      have : (a.tmps.setIfInBounds d v').getD d undef = v' := by simp [hlt]
      rw [this]
      exact hv
    · rw [if_neg (by intro e; injection e with e; exact h e)]
      simp only [Act.put]
      have : (a.tmps.setIfInBounds d v').getD s undef = a.tmps.getD s undef := by
        simp [Array.getD_eq_getD_getElem?, Array.getElem?_setIfInBounds_ne h]
      rw [this]
      exact hs s

/-- An operation that the abstract run has done is carried out. -/
theorem DInv.carry {pan : Nat → Bool} {n : Nat} {ops : Array Oper} {K : Fr → AH → Prop} {ord : List Nat} (F : OrdFacts T ops.toList ord) {fr0 : Fr} {W : World} {φ0 : Emb} {H0 : AH}
    {listed : Array Bool} {a : Act} {w : World} {done rest : List Nat} {V : Nat → Value} {bid : Nat → Option Nat} {recs : List (Nat × (AH → Prop))} {fr : Fr} {H : AH} {φ : Emb} {i : Nat}
    (D : DInv P T pan n ops K ord fr0 W φ0 H0 listed a w done rest V bid recs fr H φ) {o : Oper} (ho : ops.toList[i]? = some o) (hi : i ∈ done) (hdst : dstOK n o.dst = true)
    (hdeps : ∀ d ∈ depsOf o, listed.getD d true = true) (hni : listed.getD i true = false) {φ' : Emb} {w' : World} {v' : Value} (hle : φ.le φ') (hnew : ∀ x, φ x = none → φ' x = none ∨ bid i = some x) (R' : Rel W φ' H w') (hv : VRel φ' (V i) v') :
    DInv P T pan n ops K ord fr0 W φ0 H0 (listed.setIfInBounds i true) (a.put o.dst v') w' done rest V bid recs fr H φ' := by
  have hisz : i < ops.size := by have := (List.getElem?_eq_some_iff.1 ho).1; simpa using this
  have hil : i < listed.size := by rw [D.lsize]; exact hisz
  refine { split := D.split, run := D.run, frame := D.frame, rel := R', hist := ?_, size := ?_, defers := ?_, slots := ?_, lsize := by simp [D.lsize], sub := ?_, closed := ?_, bidlt := D.bidlt, bidge := D.bidge, bidinj := D.bidinj, pend := ?_ }
  · obtain ⟨h1, h2, h3, h4⟩ := D.hist
    refine ⟨Emb.le_trans h1 hle, h2, fun b hb hn => ?_, h4⟩
    rcases hnew b (h3 b hb hn) with h | h
    · exact h
    · have := D.bidge i b h; omega
  · cases hd : o.dst <;> simp [Act.put, D.size]
  · cases hd : o.dst <;> simp [Act.put, D.defers]
  · exact put_slots F.nodup ho hil hdst D.size (fun s => (D.slots s).mono hle) hv
  · intro j hj hl
    rw [getD_set_eq hil] at hl
    split at hl
    · rename_i e; rw [e]; exact hi
    · exact D.sub j hj hl
  · intro j p hp hl d hd
    rw [getD_set_eq hil] at hl ⊢
    split
    · rfl
    · split at hl
      · rename_i e
        subst e
        rw [ho] at hp
        injection hp with hp
        subst hp
        exact hdeps d hd
      · exact D.closed j p hp hl d hd
  · intro j hj hl
    rw [getD_set_eq hil] at hl
    split at hl
    · cases hl
    · rename_i hne
      obtain ⟨p, fri, hp1, hp2, hp3, hp4⟩ := D.pend j hj hl
      refine ⟨p, fri, hp1, hp2, hp3, hp4.mono (fun rec hm _ hr => ⟨hm, hr⟩) (fun b hb hn => ⟨rfl, ?_⟩)⟩
      rcases hnew b hn with h | h
      · exact h
      · exact absurd (D.bidinj j i b hb h) hne

theorem checks_spec {M : List Nat} {e : Nat} {H : AH} {C : Prop} : ∀ (recs : List (Nat × (AH → Prop))), checks M e H C recs → C ∧ ∀ i rec, (i, rec) ∈ recs → bef M e i = false → rec H := by
  intro recs
  induction recs with
  | nil => intro h; exact ⟨h, fun i rec hm => by simp at hm⟩
  | cons r recs ih =>
    intro h
    obtain ⟨j, rec'⟩ := r
    simp only [checks] at h
    split at h
    · rename_i hb
      obtain ⟨h1, h2⟩ := ih h
      refine ⟨h1, fun i rec hm hn => ?_⟩
      rcases List.mem_cons.1 hm with h | h
      · injection h with e1 e2; subst e1; rw [hb] at hn; cases hn
      · exact h2 i rec h hn
    · obtain ⟨h0, h⟩ := h
      obtain ⟨h1, h2⟩ := ih h
      refine ⟨h1, fun i rec hm hn => ?_⟩
      rcases List.mem_cons.1 hm with h | h
      · injection h with e1 e2; subst e1 e2; exact h0
      · exact h2 i rec h hn

/-- The next call or store is carried out. -/
theorem DInv.carryHeavy {pan : Nat → Bool} {n : Nat} {ops : Array Oper} {K : Fr → AH → Prop} {ord : List Nat} (F : OrdFacts T ops.toList ord) {fr0 : Fr} {W : World} {φ0 : Emb} {H0 : AH}
    {listed : Array Bool} {a : Act} {w : World} {done rest : List Nat} {V : Nat → Value} {bid : Nat → Option Nat} {recs : List (Nat × (AH → Prop))} {fr : Fr} {H : AH} {φ : Emb} {i : Nat}
    (D : DInv P T pan n ops K ord fr0 W φ0 H0 listed a w done (i :: rest) V bid recs fr H φ) {o : Oper} (ho : ops.toList[i]? = some o) (hdst : dstOK n o.dst = true)
    (hdeps : ∀ d ∈ depsOf o, listed.getD d true = true) (hni : listed.getD i true = false) {φ' : Emb} {w' : World} {v v' : Value} {H' : AH} (hh : Hist φ H φ' H') (R' : Rel W φ' H' w') (hv : VRel φ' v v')
    (hrun : wpD P T pan n ops (masks ops.toList []) K rest recs (frput fr o.dst v) H') (hrec : ∀ j rec, (j, rec) ∈ recs → bef (masks ops.toList []) i j = false → rec H → rec H') :
    DInv P T pan n ops K ord fr0 W φ0 H0 (listed.setIfInBounds i true) (a.put o.dst v') w' (done ++ [i]) rest (fun x => if x = i then v else V x) bid recs (frput fr o.dst v) H' φ' := by
  have hisz : i < ops.size := by have := (List.getElem?_eq_some_iff.1 ho).1; simpa using this
  have hil : i < listed.size := by rw [D.lsize]; exact hisz
  obtain ⟨_, _, _, hnd, _⟩ := F.pos done i rest D.split
  have hV : ∀ x, x ∈ done → (if x = i then v else V x) = V x := by
    intro x hx
    have : x ≠ i := fun e => hnd (e ▸ hx)
    rw [if_neg this]
  refine { split := by rw [D.split]; simp, run := hrun, frame := slotAt_put F.nodup ho hnd D.frame, rel := R', hist := D.hist.trans hh, size := ?_, defers := ?_, slots := ?_, lsize := by simp [D.lsize], sub := ?_, closed := ?_,
           bidlt := fun j b h => Nat.lt_of_lt_of_le (D.bidlt j b h) hh.2.1, bidge := D.bidge, bidinj := D.bidinj, pend := ?_ }
  · cases hd : o.dst <;> simp [Act.put, D.size]
  · cases hd : o.dst <;> simp [Act.put, D.defers]
  · refine put_slots F.nodup ho hil hdst D.size (fun s => ?_) (by simp only [if_true]; exact hv)
    have e : slotAt ops.toList (fun j => listed.getD j true) (fun x => if x = i then v else V x) fr0 s = slotAt ops.toList (fun j => listed.getD j true) V fr0 s := by
      refine slotAt_congr (fun j hj => ?_) s
      have : j ≠ i := fun e => by subst e; rw [hni] at hj; cases hj
      rw [if_neg this]
    rw [e]
    exact (D.slots s).mono hh.1
  · intro j hj hl
    rw [getD_set_eq hil] at hl
    split at hl
    · rename_i e; rw [e]; simp
    · exact List.mem_append_left _ (D.sub j hj hl)
  · intro j p hp hl d hd
    rw [getD_set_eq hil] at hl ⊢
    split
    · rfl
    · split at hl
      · rename_i e
        subst e
        rw [ho] at hp
        injection hp with hp
        subst hp
        exact hdeps d hd
      · exact D.closed j p hp hl d hd
  · intro j hj hl
    rw [getD_set_eq hil] at hl
    split at hl
    · cases hl
    · rename_i hne
      have hjd : j ∈ done := by
        rcases List.mem_append.1 hj with h | h
        · exact h
        · exact absurd (by simpa using h) hne
      obtain ⟨p, fri, hp1, hp2, hp3, hp4⟩ := D.pend j hjd hl
      have hjlt : j < ops.toList.length := (List.getElem?_eq_some_iff.1 hp1).1
      refine ⟨p, fri, hp1, hp2, fun s hs => ?_, ?_⟩
      · rw [hp3 s hs]
        exact slotAt_congr (fun k hk => (hV k (F.bef_done D.split hjlt hjd hk)).symm) s
      · simp only [hV j hjd]
        refine hp4.mono (fun rec hm _ hr => ⟨hm, hrec j rec hm ?_ hr⟩) (fun b hb hn => ⟨hh.2.2.2 b (D.bidlt j b hb) hn, hh.2.2.1 b (D.bidlt j b hb) hn⟩)
        cases hb : bef (masks ops.toList []) i j with
        | false => rfl
        | true =>
          exfalso
          obtain ⟨d, hd, h⟩ := masks_spec ops.toList [] i j o ho (by simpa using hb)
          have hE := hdeps d hd
          have : listed.getD j true = true := by
            rcases h with rfl | h
            · exact hE
            · exact bef_closed (E := fun x => listed.getD x true = true) F.small (fun i o ho h => D.closed i o ho h) d j (by have := F.small i o ho d hd; simp at hjlt ⊢; omega) hE h
          rw [hl] at this; cases this

end
end Go.Abs
