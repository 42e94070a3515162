/- Lemmas for the law: an abstract machine, and what the functions do on it. No condition. -/
import Derived.Test.YtdcbkjgoaknmkaaGreatJT11
import Derived.Test.YtdcbkjgoaknmkaaGreatProg
import Derived.WalkKit
import Derived.Deep.RegionLaw
import Derived.Laws.IdiomCopy
set_option linter.all false
open Go.Value renaming int → qkL, pointer → qkR, slice → qk2
open Go.IntKind renaming wrap → qkM
open Go.Addr renaming add → qkN
open List renaming getElem?_eq_getElem → qkO, getD_eq_getElem?_getD → qkP, replicate → qkQ, getElem?_eq_none → qkT, mem_of_getElem? → qkY, getElem?_map → qkZ, length → qk0, length_cons → qk3, getElem_mem → qk5, mem_cons → qk8, ext_getElem? → qlb, mem_map → qlk, length_append → qlt, flatMap_cons → qly, mem_range → qlC, take_length → qlU, append_nil → qmg
open Int renaming toNat_natCast → qkS, toNat → qkX
open Nat renaming le_refl → qkV, zero_add → qla, lt_of_lt_of_le → qlX
open Bool renaming false_eq_true → qkW
open Option renaming isSome_none → qk7, toList_some → qmd
open Go.Abs renaming Rows → qli
open Go.Lib renaming compact → ql5
open Array renaming getElem?_eq_none → ql6
set_option linter.all false
namespace Go.Proofs.YtdcbkjgoaknmkaaGreat
open Go Go.RowKit
theorem qiM (b : Nat) (vs : List Value) (o : Nat) {w : World} {x : Addr} (h : (w.cell? x).isSome = true) : ((w.setCells b o vs).cell? x).isSome = true := by
 induction vs generalizing o w with
 | nil => exact h
 | cons v vs ih =>
  refine ih (o + 1) ?_
  by_cases e : (⟨b, o, none⟩ : Addr) = x
  ·subst e
   obtain ⟨u, hu⟩ := Option.isSome_iff_exists.1 h
   rw [World.cell?_setCell_same _ _ _ hu]; rfl
  ·rw [World.cell?_setCell_other _ _ _ _ e]; exact h
end Go.Proofs.YtdcbkjgoaknmkaaGreat
set_option linter.all false
namespace Go.Proofs.YtdcbkjgoaknmkaaGreat
open Go Go.Abs
theorem sc_cell {w : World} (c o : Nat) (vs : List Value) (h : ∀ j, j < vs.length → (w.cell? ⟨c, o + j, none⟩).isSome = true) (j : Nat) :
  (w.setCells c o vs).cell? ⟨c, j, none⟩ = if o ≤ j ∧ j < o + vs.length then vs[j - o]? else w.cell? ⟨c, j, none⟩ := by
 by_cases hin : o ≤ j ∧ j < o + vs.length
 ·rw [if_pos hin]
  have := qcX (w := w) c vs o (fun j hj => Option.isSome_iff_exists.1 (h j hj)) (j - o) (by omega)
  rw [show o + (j - o) = j by omega] at this
  rw [this, qkO]
 ·rw [if_neg hin, World.cell?_setCells_out c vs o w ⟨c, j, none⟩ (fun _ _ => by show j < o ∨ o + vs.length ≤ j; omega)]
theorem redo {W w w2 : World} {φ : Emb} {H : AH} (R : Rel W φ H w) {b : Nat} {B : Blk} (hb : φ b = some B) (hm : (H.get b).md = .rw) (cells2 : List Value)
  (hw2 : ∀ H', Rel W φ H' w → (∀ x X, φ x = some X → X.c = B.c → (H'.get x).md = .dead) → Rel W φ H' w2)
  (hroom2 : ∀ i, i < B.m → ∃ v, w2.cell? ⟨B.c, i, none⟩ = some v)
  (hv : ∀ i v, cells2[i]? = some v → ∃ v', w2.cell? ⟨B.c, i, none⟩ = some v' ∧ VRel φ v v') :
  Hist φ H (φ.add H.size B) ((H.kill b).push ⟨cells2, .rw, B.sz⟩) ∧ Rel W (φ.add H.size B) ((H.kill b).push ⟨cells2, .rw, B.sz⟩) w2 := by
 have hfresh : φ H.size = none := R.fresh
 obtain ⟨hW, hroom, hes⟩ := R.room b B hb hm
 have hkill : (H.kill b).size = H.size := rfl
 have hdead : ∀ x X, φ x = some X → X.c = B.c → (((H.kill b).push ⟨cells2, .rw, B.sz⟩).get x).md = .dead := by
  intro x X hx hc
  have hxs : x ≠ H.size := fun e => by rw [e, hfresh] at hx; cases hx
  simp only [AH.push, hkill, hxs, if_false]
  by_cases hxb : x = b
  ·subst hxb; simp [AH.kill, AH.upd]
  ·rcases R.own b B hb hm x X hx hc with h0 | h0
   ·exact absurd h0 hxb
   ·simp [AH.kill, AH.upd, hxb, h0]
 have R1 : Rel W φ ((H.kill b).push ⟨cells2, .rw, B.sz⟩) w := (R.kill b).push _
 have R2 := hw2 _ R1 hdead
 have hget : ((H.kill b).push ⟨cells2, .rw, B.sz⟩).get H.size = ⟨cells2, .rw, B.sz⟩ := by simp [AH.push, hkill]
 refine ⟨⟨Emb.le_add hfresh, by simp [AH.push, hkill], fun x hx hn => ?_, fun x hx hn => ?_⟩, R2.over (b := H.size) (b' := b) (B := B) hfresh (by simp [AH.push, hkill]) hb hdead hW hroom2 (by rw [hget]) (by rw [hget]) (by rw [hget]; exact hv)⟩
 ·have : x ≠ H.size := by omega
  simp [Emb.add, this, hn]
 ·have h1 : x ≠ H.size := by omega
  have h2 : x ≠ b := fun e => by rw [e, hb] at hn; cases hn
  simp [AH.push, hkill, h1, AH.kill, AH.upd, h2]
theorem vrel_i {φ : Emb} {k : IntKind} {n : Int} {v : Value} (h : VRel φ (.int k n) v) : v = .int k n := by cases h; rfl
def placeA (d : Array Int) : Nat → List Int → Array Int
 | _, [] => d
 | o, v :: vs => placeA (d.setIfInBounds o v) (o + 1) vs
theorem qiz : ∀ (vs : List Int) (d : Array Int) (o k : Nat), o + vs.length ≤ d.size → (placeA d o vs)[k]? = if o ≤ k ∧ k < o + vs.length then vs[k - o]? else d[k]? := by
 intro vs
 induction vs with
 | nil => intro d o k _; rw [if_neg (by simp)]; rfl
 | cons v r ih =>
  intro d o k h
  simp only [qk3] at h
  rw [placeA, ih _ _ _ (by simp; omega)]
  by_cases h1 : o + 1 ≤ k ∧ k < o + 1 + r.length
  ·rw [if_pos h1, if_pos (by simp; omega), show k - o = (k - (o + 1)) + 1 by omega, List.getElem?_cons_succ]
  ·rw [if_neg h1]
   by_cases h2 : k = o
   ·subst h2
    rw [if_pos (by simp), Array.getElem?_setIfInBounds, if_pos rfl, if_pos (by omega)]; simp
   ·rw [if_neg (by simp; omega), Array.getElem?_setIfInBounds, if_neg (fun h => h2 h.symm)]
theorem qg8 (w : World) (b : Nat) : ∀ (vs : List Int) (d : Array Int) (o : Nat), o + vs.length ≤ d.size → (Sort.putRow (qkL .i64) w b 0 d).setCells b o (vs.map (qkL .i64)) = Sort.putRow (qkL .i64) w b 0 (placeA d o vs) := by
 intro vs
 induction vs with
 | nil => intro d o _; rfl
 | cons v r ih =>
  intro d o h
  simp only [qk3] at h
  have h1 := Sort.putRow_set (qkL .i64) w b 0 d o v (by omega)
  rw [qla] at h1
  rw [List.map_cons, World.setCells, h1, ih _ _ (by simp; omega)]
  rfl
theorem qfj {w : World} {b : Nat} {d0 : Array Int} (h : Sort.Holds (qkL .i64) w b 0 d0) {zs : List Int} (hz : zs.length = d0.size) : Sort.putRow (qkL .i64) w b 0 zs.toArray = w.setCells b 0 (zs.map (qkL .i64)) := by
 have h1 := qg8 w b zs d0 0 (by omega)
 rw [Sort.putRow_self _ _ _ _ _ h] at h1
 rw [h1]
 congr 1
 apply Array.ext_getElem?
 intro k
 rw [qiz _ _ _ _ (by omega)]
 by_cases hk : k < zs.length
 ·rw [if_pos (by omega)]; simp
 ·rw [if_neg (by omega), ql6 (xs := d0) (by omega), ql6 (by simp; omega)]
section
variable {H : AH} {B : Nat} {q : Sl} {l : List Int}
theorem iV_map (l : List Int) : l.flatMap iV = l.map (qkL .i64) := by
 induction l with
 | nil => rfl
 | cons a r ih => rw [qly, ih]; rfl
theorem qgA {φ : Emb} {xs : List Int} {ys : List Value} (h : LRel φ (xs.map (qkL .i64)) ys) : ys = xs.map (qkL .i64) := by
 apply qlb
 intro i
 by_cases hi : i < xs.length
 ·have hy : i < ys.length := by rw [← h.1]; simpa using hi
  have h1 : (xs.map (qkL .i64))[i]? = some (qkL .i64 xs[i]) := by rw [qkZ, qkO hi]; rfl
  have := vrel_i (h.2 i _ _ h1 (qkO hy))
  rw [h1, qkO hy, this]
 ·rw [qkT (by rw [← h.1]; simp; omega), qkT (by simp; omega)]
def sortL (l : List Int) : List Int := l.mergeSort fun x y => decide (x ≤ y)
theorem qc0 (l : List Int) : (sortL l).length = l.length := List.length_mergeSort _
theorem qgn {W w : World} {φ : Emb} {H : AH} (R : Rel W φ H w) (n : Nat) : Rel W φ H (Sort.ahead w n) :=
 { below := R.below, size := R.size, tape := R.tape, os := R.os, output := R.output, froz := R.froz, dom := R.dom, cell := R.cell, room := R.room, own := R.own, out := R.out }
theorem qgp {α : Type} {f : α → List Value} {b : Nat} {l : List α} (hb : H.get b = ⟨l.flatMap f, .rw, 1⟩) : (H.get b).md = .rw := by rw [hb]
theorem qb9.s {k : AH → Prop} (hO : Own B H q 1 iV l) (hl : l.length ≤ 1000000000)
  (h : ∀ H', Own B H' q 1 iV (sortL l) → H.size ≤ H'.size → (∀ b, b < H.size → (∀ a, q.a = some a → b ≠ a.block) → H'.get b = H.get b) → k H') : qb9 q H k := by
 unfold qb9
 refine ⟨by kernel_rfl, fun W w φ args' hlr R => ?_⟩
 obtain ⟨a0, rfl, h0⟩ : ∃ a, args' = #[a] ∧ VRel φ q.val a := by
  obtain ⟨a, rfl⟩ : ∃ a, args' = #[a] := by
   have h2 := hlr.1
   rcases args' with ⟨l'⟩
   match l', h2 with
   | [a], _ => exact ⟨a, rfl⟩
  exact ⟨a, rfl, hlr.2 0 _ _ rfl rfl⟩
 rcases hO with ⟨rfl, rfl⟩ | ⟨b, rfl, hB, hbH, hg⟩
 ·simp only [Sl.val] at h0
  generalize hxv : qk2 none 0 0 = xv at h0
  have hd : ∃ p c, a0 = .slice p 0 c := by cases h0 <;> first | exact ⟨_, _, rfl⟩ | cases hxv
  obtain ⟨p, c, rfl⟩ := hd
  refine (Any.slices_Sort_int_none laysSort p c w).mono fun e w' he => ?_
  obtain ⟨rfl, rfl⟩ := he
  exact ⟨.ret (.tuple #[]), φ, H, Hist.refl _ _, .undef _, R, h H (.inl ⟨rfl, by simp [sortL]⟩) (qkV _) (fun _ _ _ => rfl)⟩
 simp only [Sl.val] at h0
 generalize hxv : qk2 (some ⟨b, 0, none⟩) l.length 1 = xv at h0
 cases h0 with
 | sl0 => cases hxv
 | sle a0 a' k' => simp at hxv
 | @sl b' Bk o _ _ k' hb hn hk =>
  injection hxv with x1 x2 x3
  injection x1 with x1
  injection x1 with x1 x4
  subst x1 x2 x3 x4
  have hm := qgp hg
  obtain ⟨hW, hroom, hes⟩ := R.room b Bk hb hm
  obtain ⟨cs, hrel, hcell⟩ := R.cells hb (by simp [hm])
  rw [hg] at hrel
  simp only [iV_map] at hrel
  have hcs := qgA hrel
  subst hcs
  have hH : Sort.Holds (qkL .i64) w Bk.c 0 l.toArray := by
   intro j hj
   have hj' : j < l.length := by simpa using hj
   refine ⟨?_, R.unfrozen hb hW _⟩
   have h1 := hcell j (qkL .i64 l[j]) (by rw [qkZ, qkO hj']; rfl)
   rw [Addr.add_lit] at h1
   rw [h1]
   simp [hj']
  refine (Any.slices_Sort_int laysSort Bk.c 0 k' l w hH (R.dom b Bk hb).2 (by omega)).mono fun e w' he => ?_
  obtain ⟨rfl, n, os, rfl⟩ := he
  have hsets := qfj (w := Sort.ahead w n) (d0 := l.toArray) (zs := sortL l) hH (by rw [qc0]; simp)
  have hput := Rel.put (P := Tryz.prog) (qgn R n) (b := b) (o := 0) hb (vs := (sortL l).map (qkL .i64)) (vs' := (sortL l).map (qkL .i64)) ⟨rfl, hm, by simp [hg, iV_map, qc0]⟩ ⟨rfl, fun i x y hx hy => by
   rw [hx] at hy; injection hy with hy; subst hy
   rw [qkZ, Option.map_eq_some_iff] at hx
   obtain ⟨z, _, rfl⟩ := hx
   exact .int _ _⟩ (fun v hv => by rw [qlk] at hv; obtain ⟨z, _, rfl⟩ := hv; rfl)
  have hR := (hput.1).grow os
  rw [← hsets] at hR
  have hgp : (H.put ⟨b, 0, none⟩ ((sortL l).map (qkL .i64))).get b = ⟨(sortL l).flatMap iV, .rw, 1⟩ := by
   simp only [AH.put, qA, if_true, hg, AObj.mk.injEq, and_true]
   rw [iV_map, iV_map]
   apply qlb
   intro i
   rw [qbG _ _ _ _ (by simp [qc0])]
   by_cases hi : i < (sortL l).length
   ·rw [if_pos (by simp; omega)]; rfl
   ·rw [if_neg (by simp; omega), qkT (by simp; rw [← qc0 l]; omega), qkT (by simp; omega)]
  refine ⟨.ret (.tuple #[]), φ, H.put ⟨b, 0, none⟩ ((sortL l).map (qkL .i64)), ⟨Emb.le_refl φ, qkV _, fun _ _ h => h, fun x hx hn => ?_⟩, .undef _, hR, h _ (.inr ⟨b, ?_, hB, hbH, hgp⟩) (qkV _) (fun x hx hne => ?_)⟩
  ·have : x ≠ b := fun he => by rw [he, hb] at hn; cases hn
   simp [AH.put, qA, this]
  ·rw [qc0]
  ·have : x ≠ b := hne _ rfl
   simp [AH.put, qA, this]
 | _ => cases hxv
theorem qgG (d : Array Int) (j : Nat) : Lib.keeps d j = true ↔ j = 0 ∨ d[j]! ≠ d[j - 1]! := by unfold Lib.keeps; rw [decide_eq_true_eq]
theorem qfT (d : Array Int) : ∀ m, (Lib.compactUpTo d m).length ≤ m := by
 intro m
 induction m with
 | zero => exact qkV _
 | succ m ih =>
  rw [Lib.compactUpTo_succ, qlt]
  split
  ·simp only [qk3, List.length_nil]; omega
  ·simp only [List.length_nil]; omega
theorem qhZ (l : List Int) : (ql5 l).length ≤ l.length := qfT _ _
theorem qeT {d : Array Int} (hs : ∀ i j, i < j → j < d.size → d[i]! ≤ d[j]!) : ∀ m, m ≤ d.size → (Lib.compactUpTo d m).Pairwise (· < ·) ∧ (∀ x, x ∈ Lib.compactUpTo d m ↔ ∃ i, i < m ∧ d[i]! = x) := by
 intro m
 induction m with
 | zero => intro _; exact ⟨List.Pairwise.nil, fun x => ⟨fun h => (by cases h), fun ⟨i, h, _⟩ => (by omega)⟩⟩
 | succ m ih =>
  intro hm
  obtain ⟨h1, h2⟩ := ih (by omega)
  rw [Lib.compactUpTo_succ]
  by_cases hk : Lib.keeps d m = true
  ·rw [if_pos hk]
   rw [qgG] at hk
   refine ⟨?_, fun x => ?_⟩
   ·rw [List.pairwise_append]
    refine ⟨h1, List.pairwise_singleton _ _, fun a ha b hb => ?_⟩
    rw [List.mem_singleton] at hb
    subst hb
    obtain ⟨i, hi, rfl⟩ := (h2 a).1 ha
    rcases hk with rfl | hk
    ·omega
    ·have e1 : d[i]! ≤ d[m - 1]! := by
      by_cases hi1 : i = m - 1
      ·rw [hi1]; exact Int.le_refl _
      ·exact hs i (m - 1) (by omega) (by omega)
     have e2 := hs (m - 1) m (by omega) (by omega)
     omega
   ·rw [List.mem_append, List.mem_singleton, h2]
    constructor
    ·rintro (⟨i, hi, e⟩ | rfl)
     ·exact ⟨i, by omega, e⟩
     ·exact ⟨m, by omega, rfl⟩
    ·rintro ⟨i, hi, e⟩
     by_cases him : i = m
     ·subst him; exact .inr e.symm
     ·exact .inl ⟨i, by omega, e⟩
  ·rw [if_neg hk, qmg]
   have hk' : ¬ (m = 0 ∨ d[m]! ≠ d[m - 1]!) := fun hh => hk ((qgG d m).2 hh)
   refine ⟨h1, fun x => ?_⟩
   rw [h2]
   constructor
   ·rintro ⟨i, hi, e⟩; exact ⟨i, by omega, e⟩
   ·rintro ⟨i, hi, e⟩
    by_cases him : i = m
    ·subst him
     have : d[i]! = d[i - 1]! := by
      by_cases he : d[i]! = d[i - 1]!
      ·exact he
      ·exact absurd (.inr he) hk'
     exact ⟨i - 1, by omega, by rw [← this, e]⟩
    ·exact ⟨i, by omega, e⟩
theorem qhg (l : List Int) : (sortL l).Pairwise (· ≤ ·) := by
 have := List.pairwise_mergeSort (le := fun (x y : Int) => decide (x ≤ y)) (fun a b c h1 h2 => by simp at *; omega) (fun a b => by simp; omega) l
 unfold sortL
 exact this.imp (fun h => by simpa using h)
theorem qjW {l : List Int} {x : Int} : x ∈ sortL l ↔ x ∈ l := List.mem_mergeSort
theorem qgl (l : List Int) : (ql5 (sortL l)).Pairwise (· < ·) ∧ ∀ x, x ∈ ql5 (sortL l) ↔ x ∈ l := by
 have hs := qhg l
 have hd : ∀ i j, i < j → j < (sortL l).toArray.size → (sortL l).toArray[i]! ≤ (sortL l).toArray[j]! := by
  intro i j hij hj
  have hj' : j < (sortL l).length := by simpa using hj
  have := List.pairwise_iff_getElem.1 hs i j (by omega) hj' hij
  simpa [hj', show i < (sortL l).length by omega] using this
 obtain ⟨h1, h2⟩ := qeT hd (sortL l).length (by simp)
 refine ⟨h1, fun x => ?_⟩
 show x ∈ Lib.compactUpTo _ _ ↔ _
 rw [h2, ← qjW (l := l), List.mem_iff_getElem]
 constructor
 ·rintro ⟨i, hi, e⟩
  exact ⟨i, hi, by simpa [hi] using e⟩
 ·rintro ⟨i, hi, e⟩
  exact ⟨i, hi, by simpa [hi] using e⟩
theorem qjM : ∀ {l1 l2 : List Int}, l1.Pairwise (· < ·) → l2.Pairwise (· < ·) → (∀ x, x ∈ l1 ↔ x ∈ l2) → l1 = l2 := by
 intro l1
 induction l1 with
 | nil =>
  intro l2 _ _ h
  cases l2 with
  | nil => rfl
  | cons b s => have := (h b).2 (by simp); cases this
 | cons a r ih =>
  intro l2 h1 h2 h
  cases l2 with
  | nil => have := (h a).1 (by simp); cases this
  | cons b s =>
   rw [List.pairwise_cons] at h1 h2
   have hab : a = b := by
    have ha := (h a).1 (by simp)
    have hb := (h b).2 (by simp)
    rw [qk8] at ha hb
    rcases ha with ha | ha
    ·exact ha
    ·rcases hb with hb | hb
     ·exact hb.symm
     ·have := h2.1 a ha; have := h1.1 b hb; omega
   subst hab
   rw [ih h1.2 h2.2 fun x => ?_]
   constructor
   ·intro hx
    have := (h x).1 (by simp [hx])
    rw [qk8] at this
    rcases this with rfl | this
    ·have := h1.1 x hx; omega
    ·exact this
   ·intro hx
    have := (h x).2 (by simp [hx])
    rw [qk8] at this
    rcases this with rfl | this
    ·have := h2.1 x hx; omega
    ·exact this
theorem qbN.s {k : Sl → AH → Prop} (hO : Own B H q 1 iV l) (hl : l.length ≤ 1000000000)
    (h : ∀ s' H', Own H.size H' s' 1 iV (ql5 l) → H.size ≤ H'.size → (∀ b, b < H.size → (∀ a, q.a = some a → b ≠ a.block) → H'.get b = H.get b) → k s' H') : qbN q H k := by
  unfold qbN
  refine ⟨by kernel_rfl, fun W w φ args' hlr R => ?_⟩
  obtain ⟨a0, rfl, h0⟩ : ∃ a, args' = #[a] ∧ VRel φ q.val a := by
    obtain ⟨a, rfl⟩ : ∃ a, args' = #[a] := by
      have h2 := hlr.1
      rcases args' with ⟨l'⟩
      match l', h2 with
      | [a], _ => exact ⟨a, rfl⟩
    exact ⟨a, rfl, hlr.2 0 _ _ rfl rfl⟩
  rcases hO with ⟨rfl, rfl⟩ | ⟨b, rfl, hB, hbH, hg⟩
  · simp only [Sl.val] at h0
    have h00 := h0
    generalize hxv : qk2 none 0 0 = xv at h0
    have hd : ∃ p c, a0 = .slice p 0 c := by cases h0 <;> first | exact ⟨_, _, rfl⟩ | cases hxv
    obtain ⟨p, c, rfl⟩ := hd
    refine (Any.slices_Compact_int_empty laysCompact p c w).mono fun e w' he => ?_
    obtain ⟨rfl, rfl⟩ := he
    exact ⟨.ret (.slice none 0 0), φ, H, Hist.refl _ _, h00, R, ⟨⟨none, 0, 0⟩, rfl, h _ H (.inl ⟨rfl, rfl⟩) (qkV _) (fun _ _ _ => rfl)⟩⟩
  simp only [Sl.val] at h0
  generalize hxv : qk2 (some ⟨b, 0, none⟩) l.length 1 = xv at h0
  cases h0 with
  | sl0 => cases hxv
  | sle a0 a' k' => simp at hxv
  | @sl b' Bk o _ _ k' hb hn hk =>
    injection hxv with x1 x2 x3
    injection x1 with x1
    injection x1 with x1 x4
    subst x1 x2 x3 x4
    have hm := qgp hg
    obtain ⟨hW, hroom, hes⟩ := R.room b Bk hb hm
    have hsz : Bk.sz = 1 := by
      rcases hes with h0 | h0
      · rw [hg] at h0; simp at h0
      · rw [← h0, hg]
    have hk' : k' ≤ Bk.m := by rcases hk with h0 | h0
                               · omega
                               · rw [hsz] at h0; omega
    obtain ⟨cs, hrel, hcell⟩ := R.cells hb (by simp [hm])
    rw [hg] at hrel
    simp only [iV_map] at hrel
    have hcs := qgA hrel
    subst hcs
    have hH : Sort.Holds (qkL .i64) w Bk.c 0 l.toArray := by
      intro j hj
      have hj' : j < l.length := by simpa using hj
      refine ⟨?_, R.unfrozen hb hW _⟩
      have h1 := hcell j (qkL .i64 l[j]) (by rw [qkZ, qkO hj']; rfl)
      rw [Addr.add_lit] at h1
      rw [h1]
      simp [hj']
    refine (Any.slices_Compact_int laysCompact Bk.c 0 k' l w hH (by omega) hn).mono fun e w' he => ?_
    obtain ⟨rfl, n, rfl⟩ := he
    have hcl := qhZ l
    have hzl : (ql5 l ++ qkQ (l.length - (ql5 l).length) 0).length = l.length := by rw [qlt, List.length_replicate]; omega
    have hsets := qfj (w := Sort.ahead w n) (d0 := l.toArray) (zs := ql5 l ++ qkQ (l.length - (ql5 l).length) 0) hH (by rw [hzl]; simp)
    rw [hsets]
    have hsome : ∀ j, j < Bk.m → ((Sort.ahead w n).cell? ⟨Bk.c, j, none⟩).isSome = true := fun j hj => Option.isSome_iff_exists.2 (hroom j hj)
    have e1 := fun j => sc_cell (w := Sort.ahead w n) Bk.c 0 ((ql5 l ++ qkQ (l.length - (ql5 l).length) 0).map (qkL .i64)) (fun t ht => hsome (0 + t) (by rw [List.length_map, hzl] at ht; omega)) j
    obtain ⟨hh, hR⟩ := redo R hb hm ((ql5 l).flatMap iV) (w2 := (Sort.ahead w n).setCells Bk.c 0 ((ql5 l ++ qkQ (l.length - (ql5 l).length) 0).map (qkL .i64)))
      (fun H' R' hd => Rel.scribble hW hd _ _ (qgn R' n))
      (fun j hj => Option.isSome_iff_exists.1 (qiM _ _ _ (hsome j hj)))
      (fun j v hj => by
        rw [iV_map] at hj
        have hlt : j < (ql5 l).length := by have := (List.getElem?_eq_some_iff.1 hj).1; simpa using this
        rw [e1, if_pos (by rw [List.length_map, hzl]; omega), Nat.sub_zero, List.map_append, List.getElem?_append_left (by simpa using hlt)]
        refine ⟨v, hj, ?_⟩
        rw [qkZ, Option.map_eq_some_iff] at hj
        obtain ⟨z, _, rfl⟩ := hj
        exact .int _ _)
    refine ⟨.ret (Sl.val ⟨newAt H.size, (ql5 l).length, 1⟩), _, _, hh, .sl 0 _ 1 k' (Emb.add_self _ _ _) (show (ql5 l).length ≤ k' by omega) (.inr (by rw [hsz]; omega)), hR, ⟨_, rfl, h _ _ (.inr ⟨H.size, rfl, qkV _, ?_, ?_⟩) ?_ ?_⟩⟩
    · simp [qi, qaR]
    · rw [hsz]; simp [qp, qaR]
    · simp [qi, qaR]
    · intro b' hb' hne
      have hne' : b' ≠ b := hne _ rfl
      rw [qG (by simp only [qaR]; omega), qdm hne']
  | _ => cases hxv
end
def linesR (l : List (Int × Int)) : List Int := l.filterMap fun e => if 0 ≤ e.1 then some (e.1 / 8) else none
theorem qiB {l : List (Int × Int)} {x : Int} : x ∈ linesR l ↔ ∃ e ∈ l, 0 ≤ e.1 ∧ x = e.1 / 8 := by
 unfold linesR
 rw [List.mem_filterMap]
 constructor
 ·rintro ⟨e, he, h⟩
  split at h
  ·injection h with h; exact ⟨e, he, by assumption, h.symm⟩
  ·cases h
 ·rintro ⟨e, he, h0, rfl⟩
  exact ⟨e, he, by rw [if_pos h0]⟩
theorem qjv : ∀ (l : List (Int × Int)) (out : List Int) (x : Int), x ∈ l.foldl eStep out ↔ x ∈ out ∨ ∃ e ∈ l, 0 ≤ e.1 ∧ x = e.1 / 8 := by
 intro l
 induction l with
 | nil => intro out x; simp
 | cons e r ih =>
  intro out x
  rw [List.foldl_cons, ih]
  have : x ∈ eStep out e ↔ x ∈ out ∨ (0 ≤ e.1 ∧ x = e.1 / 8) := by
   unfold eStep
   split
   ·constructor
    ·intro h; exact .inl h
    ·rintro (h | h)
     ·exact h
     ·omega
   ·rw [qft]
    constructor
    ·rintro (h | h)
     ·exact .inr ⟨by omega, h⟩
     ·exact .inl h
    ·rintro (h | h)
     ·exact .inr h
     ·exact .inl h.2
  rw [this]
  constructor
  ·rintro ((h | h) | ⟨e', he', h⟩)
   ·exact .inl h
   ·exact .inr ⟨e, by simp, h⟩
   ·exact .inr ⟨e', by simp [he'], h⟩
  ·rintro (h | ⟨e', he', h⟩)
   ·exact .inl (.inl h)
   ·rw [qk8] at he'
    rcases he' with rfl | he'
    ·exact .inl (.inr h)
    ·exact .inr ⟨e', he', h⟩
theorem qcm {l : List (Int × Int)} {x : Int} : x ∈ eLines l ↔ ∃ e ∈ l, 0 ≤ e.1 ∧ x = e.1 / 8 := by
 unfold eLines
 rw [qjv]; simp
theorem qkB (l : List (Int × Int)) : ql5 (sortL (linesR l)) = eLines l := by
 obtain ⟨h1, h2⟩ := qgl (linesR l)
 have h3 := (eFold l [] List.Pairwise.nil).1
 refine qjM h1 h3 fun x => ?_
 rw [h2, qiB]
 exact qcm.symm
section
variable {H : AH}
theorem qat.s {x0 : Sl} {l : List (Int × Int)} {k : Sl → AH → Prop} (hr : qli H x0 2 eU l) (hl : l.length ≤ 1000000) (hi : ∀ e ∈ l, isI e.1)
  (h : ∀ s H', qa H H' → Own H.size H' s 1 iV (eLines l) → k s H') : qat x0 H k := by
 refine qat.link ?_
 unfold qat.b
 refine qL (t := ((⟨none, 0, 0⟩, (0 : Int)) : Sl × Int)) (I := fun (t : Sl × Int) H' => ∃ j : Nat, t.2 = (j : Int) ∧ j ≤ l.length ∧ qa H H' ∧ Own H.size H' t.1 1 iV (linesR (l.take j))) (m := fun (t : Sl × Int) _ => qkX ((l.length : Int) - t.2)) ?_ ⟨0, rfl, by omega, qa.refl H, .inl ⟨rfl, rfl⟩⟩
 intro t H1 hI it hit
 obtain ⟨s, t2⟩ := t
 obtain ⟨j, e1, hj, hk, hO⟩ := hI
 simp only at e1 hO
 subst e1
 have hlen : ∀ j, (linesR (l.take j)).length ≤ 1000000 := fun j => by
  have := List.length_filterMap_le (fun e : Int × Int => if 0 ≤ e.1 then some (e.1 / 8) else none) (l.take j)
  rw [List.length_take] at this
  unfold linesR; omega
 unfold qat.l2
 simp only [qj, decide_eq_true_eq, hr.1]
 by_cases hlt : (j : Int) < (l.length : Int)
 rotate_left 1
 ·rw [if_neg hlt]
  have : j = l.length := by omega
  subst this
  rw [qlU] at hO
  have hlr := hlen l.length
  rw [qlU] at hlr
  unfold qat.j1
  have ownlow : ∀ {q : Sl} {B : Nat} {H' : AH} {z : List Int}, Own B H' q 1 iV z → ∀ a, q.a = some a → B ≤ a.block := by
   intro q B H' z hq a ha
   rcases hq with ⟨h0, _⟩ | ⟨b, h0, h1, _⟩
   ·rw [h0] at ha; cases ha
   ·rw [h0] at ha; injection ha with ha; rw [← ha]; exact h1
  refine qb9.s hO (by omega) ?_
  intro H23 hO23 hz23 hf23
  have hk23 : qa H H23 := ⟨by have := hk.1; omega, fun b hb => by rw [hf23 b (by have := hk.1; omega) (fun a ha he => by have := ownlow hO a ha; omega), hk.2 b hb]⟩
  refine qbN.s hO23 (by rw [qc0]; omega) ?_
  intro s25 H25 hO25 hz25 hf25
  have hk25 : qa H H25 := ⟨by have := hk23.1; omega, fun b hb => by rw [hf25 b (by have := hk23.1; omega) (fun a ha he => by have := ownlow hO23 a ha; omega), hk23.2 b hb]⟩
  rw [qkB] at hO25
  exact h _ _ hk25 (qci hO25 hk23.1)
 rw [if_pos hlt]
 have hj' : j < l.length := by omega
 obtain ⟨b, o, ha, hb, hrow⟩ := (hr.keep hk).at hj'
 refine ⟨by omega, ?_⟩
 rw [ha, qd, qkS, qs hrow]
 have htk : linesR (l.take (j + 1)) = linesR (l.take j) ++ (if 0 ≤ l[j].1 then [l[j].1 / 8] else []) := by
  unfold linesR
  rw [List.take_succ, qkO hj', List.filterMap_append]
  congr 1
  simp only [qmd, List.filterMap_cons, List.filterMap_nil]
  split
  ·rename_i h0; rw [if_neg]; intro hh; rw [if_pos hh] at h0; cases h0
  ·rename_i v h0
   split at h0
   ·rename_i hh; rw [if_pos hh]; injection h0 with h0; rw [h0]
   ·cases h0
 have hxi := hi _ (qk5 hj')
 unfold isI at hxi
 have hlj := hlen j
 generalize linesR (l.take j) = out at *
 generalize l[j] = x at *
 have hwj : qkM .i64 ((j : Int) + 1) = ((j + 1 : Nat) : Int) := by rw [qe (by omega) (by omega)]; omega
 refine qbX (n := 2) rfl (eU_len x) (eU_ok x) ?_
 simp only [ed_0, qg]
 have hk2 : qa H (H1.push ⟨eU x, .rw, 0⟩) := hk.push _
 have hO2 : Own H.size (H1.push ⟨eU x, .rw, 0⟩) s 1 iV out := hO.keep (by simp [qi]) (fun b _ hb => qG (by omega))
 generalize H1.push ⟨eU x, .rw, 0⟩ = H2 at *
 rw [hwj]
 by_cases h0 : x.1 ≥ 0
 ·rw [if_pos h0]
  rw [if_pos (show 0 ≤ x.1 from h0)] at htk
  refine ⟨by decide, ?_⟩
  rw [qt, Int.tdiv_eq_ediv_of_nonneg (by omega), qe (n := x.1 / 8) (by omega) (by omega)]
  refine qbL (H0 := H) (B := H.size) (f := iV) (x := x.1 / 8) (fun _ => rfl) rfl hO2 (qkV _) hk2.1 hk2 (by simp only [lim]; omega) ?_
  intro s' H' hO' hk' _ _
  rw [← htk] at hO'
  exact hit _ _ ⟨j + 1, rfl, by omega, hk', hO'⟩ (by simp only; omega)
 ·rw [if_neg h0]
  rw [if_neg (show ¬ 0 ≤ x.1 from h0), qmg] at htk
  exact hit _ _ ⟨j + 1, rfl, by omega, hk2, by rw [htk]; exact hO2⟩ (by simp only; omega)
end
def lineOf (ws : List Int) (i : Nat) : List Int := (ws.drop (8 * i)).take 8
theorem qcE {ws : List Int} {i : Nat} (h64 : qah ws) (hi : 8 * i + 8 ≤ ws.length) : isLine (lineOf ws i) := by
 refine ⟨by unfold lineOf; simp; omega, fun v hv => h64 v (List.mem_of_mem_drop (List.mem_of_mem_take hv))⟩
section
variable {H : AH}
theorem qaU.s {x0 : Sl} {ws : List Int} {i : Nat} {k : List Value → AH → Prop} (hr : qli H x0 1 wU ws) (h64 : qah ws) (hi : 8 * i + 8 ≤ ws.length) (hl : ws.length ≤ 1000) (h : k (lineV (lineOf ws i)) H) : qaU x0 (i : Int) H k := by
 have hL := qcE h64 hi
 refine qco (κ := .agg) (v := lineV (lineOf ws i)) (H2 := H) (by simp) (qcO _) (qaU.link ?_) h
 unfold qaU.b
 rw [qt, qt, zeroV, qi]
 have hk := ((qa.refl H).push ⟨lineV (qkQ 8 0), .rw, 0⟩).push ⟨lineV (qkQ 8 0), .rw, 0⟩
 have g1 : ((H.push ⟨lineV (qkQ 8 0), .rw, 0⟩).push ⟨lineV (qkQ 8 0), .rw, 0⟩).get (H.size + 1) = ⟨lineV (qkQ 8 0), .rw, 0⟩ := by rw [qp, qi, if_pos rfl]
 have g0 : ((H.push ⟨lineV (qkQ 8 0), .rw, 0⟩).push ⟨lineV (qkQ 8 0), .rw, 0⟩).get H.size = ⟨lineV (qkQ 8 0), .rw, 0⟩ := by rw [qp, qi, if_neg (by omega), qp, if_pos rfl]
 generalize (H.push ⟨lineV (qkQ 8 0), .rw, 0⟩).push ⟨lineV (qkQ 8 0), .rw, 0⟩ = H2 at *
 rw [qe (n := (i : Int) * 8) (by omega) (by omega)]
 have hti : qkX ((i : Int) * 8) = 8 * i := by omega
 rw [hr.1, hti]
 refine ⟨by omega, ?_⟩
 have rp := qf9 (qga (hr.keep hk) (k := 8 * i) (by omega)) (k := 8) (by simp; omega)
 have hra := qfE (g := fun v => qkL .u64 v) (fun _ => rfl) rp
 unfold copyC
 simp only
 have hmin : Nat.min (ws.length - 8 * i) 8 = 8 := Nat.min_eq_right (by omega)
 rw [hmin, if_neg (by omega)]
 refine ⟨_, hra, ?_⟩
 have e1 : ((ws.drop (8 * i)).take 8).map (fun v => qkL .u64 v) = lineV (lineOf ws i) := rfl
 rw [e1, qd, qaL]
 refine ⟨⟨rfl, by rw [g1], by rw [g1]; simp [lineV]; exact Nat.le_of_eq hL.1⟩, ?_⟩
 rw [qc1 (by simp) hL.1 g1]
 have g3 : (H2.upd (H.size + 1) ⟨lineV (lineOf ws i), .rw, 0⟩).get (H.size + 1) = ⟨lineV (lineOf ws i), .rw, 0⟩ := by rw [qA, if_pos rfl]
 have g4 : (H2.upd (H.size + 1) ⟨lineV (lineOf ws i), .rw, 0⟩).get H.size = ⟨lineV (qkQ 8 0), .rw, 0⟩ := by rw [qA, if_neg (by omega), g0]
 have hk3 := hk.upd (b := H.size + 1) (by omega) ⟨lineV (lineOf ws i), .rw, 0⟩
 generalize H2.upd (H.size + 1) ⟨lineV (lineOf ws i), .rw, 0⟩ = H3 at *
 have row : ∀ {H' : AH} {b : Nat} {l : List Int}, l.length = 8 → H'.get b = ⟨lineV l, .rw, 0⟩ → AH.row? H' ⟨b, 0, none⟩ 8 = some (lineV l) := by
  intro H' b l hl hg
  have := qn hl
  simp only [AH.row?, hg, qk7, qkW, if_false, List.drop_zero]
  rw [if_neg (by simp), List.take_of_length_le (by omega), if_pos ⟨by omega, qai _⟩]
 rw [qs (row hL.1 g3)]
 refine ⟨⟨qn hL.1, qai _⟩, ?_⟩
 rw [qaL]
 refine ⟨⟨rfl, by rw [g4], by rw [g4]; simp [lineV]; exact Nat.le_of_eq hL.1⟩, ?_⟩
 rw [qc1 (by simp) hL.1 g4]
 rw [qs (row hL.1 (by rw [qA, if_pos rfl]))]
 exact ⟨At.of_keeps (hk3.upd (qkV _) _), rfl⟩
theorem qbf.s {p c : Nat} {M : Mem} {pa pb pc pd : Int} {k : Int → AH → Prop} (hm : qv H p c M) (h : k (if mayP pa pb pc pd = true ∧ (M.cs.length : Int) = deviceP pa pb pc pd then (if M.down then 2 else 0) else 1) H) : qbf (some ⟨p, 0, none⟩) (pl pa pb pc pd) H k := by
 refine gcI (j := .i64) _ (qbf.link ?_) h
 unfold qbf.b
 rw [qt, pl_ld]
 have hk := (qa.refl H).push ⟨pl pa pb pc pd, .rw, 0⟩
 have hrow := pl_row (a := pa) (b := pb) (c := pc) (d := pd) (H := H) (e := 0)
 have hm' := hm.keeps hk
 generalize H.push ⟨pl pa pb pc pd, .rw, 0⟩ = H1 at *
 refine qaM.s ?_
 unfold qbf.j1
 by_cases h1 : mayP pa pb pc pd = true
 ·rw [h1, Bool.not_true, qc, qs hrow]
  refine qP.s hm' ⟨hrow, ?_⟩
  refine qaz.s ?_
  by_cases h2 : (M.cs.length : Int) = deviceP pa pb pc pd
  ·rw [if_pos ⟨rfl, h2⟩, show ((M.cs.length : Int) != deviceP pa pb pc pd) = false by simpa using h2, qc]
   refine qW.s hm' ?_
   rw [qj]
   by_cases hd : M.down = true
   ·rw [if_pos hd, if_pos hd]; exact ⟨hk, rfl⟩
   ·rw [if_neg hd, if_neg hd]; exact ⟨hk, rfl⟩
  ·rw [if_neg (fun hh => h2 hh.2), show ((M.cs.length : Int) != deviceP pa pb pc pd) = true by simpa using h2, qk]
   exact ⟨hk, rfl⟩
 ·rw [if_neg (fun hh => h1 hh.1), show mayP pa pb pc pd = false by simpa using h1, Bool.not_false, qk, qk]
  exact ⟨hk, rfl⟩
theorem qbj.s {p c : Nat} {M : Mem} {pa pb pc pd : Int} {k : Option Addr → AH → Prop} (hm : qv H p c M) (hmay : mayP pa pb pc pd = true) (h0 : ¬ qb0 M (16 + pa) pb pc → ∀ H', qa H H' → k none H')
  (h1 : qb0 M (16 + pa) pb pc → ∀ H' t x, TAt H' t x p c (16 + pa).toNat pb.toNat pc.toNat 0 M → qa H H' → H.size ≤ t → H.size ≤ x → k (some ⟨t, 0, none⟩) H') : qbj (some ⟨p, 0, none⟩) (pl pa pb pc pd) H k := by
 have hmp := qJ.1 hmay
 refine qbj.link ?_
 unfold qbj.b
 rw [qt, pl_ld, pl_1, qg, pl_2, qg]
 refine qa9.s ⟨pl_2, pl_1, ?_⟩
 have hk := (qa.refl H).push ⟨pl pa pb pc pd, .rw, 0⟩
 have hlog : logicalP pa pb pc pd = 16 + pa := by unfold logicalP; rw [if_pos hmay]
 rw [hlog]
 refine qaN.s (hm.keeps hk) (by unfold isI; omega) (fun hn => h0 hn _ hk) ?_
 intro hg H' t x hT hk' ht hx
 exact h1 hg H' t x hT (hk.trans hk') (by have := hk.1; omega) (by have := hk.1; omega)
end
theorem Mem.setH_mv {M : Mem} {i v : Int} (hi : 1 ≤ i) : (M.set i v).1.mv = M.mv := by
 unfold Mem.set
 have hw : M.wr.regs = M.regs := Mem.wr_regs
 split
 ·split
  ·rfl
  ·simp only
   split
   ·unfold Mem.mv
    congr 1
    simp only [qkP]
    rw [List.getElem?_set_ne (by omega)]
   ·unfold Mem.mv; rw [hw]
 ·rfl
structure Frh (H H' : AH) (L : Pl) : Prop where
 size : H.size ≤ H'.size
 get : ∀ b, b < H.size → b ≠ L.h → b ≠ L.t → b ≠ L.p → b ≠ L.c → b ≠ L.q1 → b ≠ L.q2 → H'.get b = H.get b
theorem Frh.refl {H : AH} {L : Pl} : Frh H H L := ⟨qkV _, fun _ _ _ _ _ _ _ _ => rfl⟩
theorem Frh.trans {H H' H2 : AH} {L : Pl} (h : Frh H H' L) (h' : Frh H' H2 L) : Frh H H2 L :=
 ⟨Nat.le_trans h.size h'.size, fun b hb h1 h2 h3 h4 h5 h6 => (h'.get b (by have := h.size; omega) h1 h2 h3 h4 h5 h6).trans (h.get b hb h1 h2 h3 h4 h5 h6)⟩
theorem Frh.of_keeps {H H' : AH} {L : Pl} (h : qa H H') : Frh H H' L := ⟨h.1, fun b hb _ _ _ _ _ _ => h.2 b hb⟩
theorem Frh.of_frt {H H' : AH} {L : Pl} (h : Frt H H' L.t L.p L.c) : Frh H H' L := ⟨h.size, fun b hb _ h2 h3 h4 _ _ => h.get b hb h2 h3 h4⟩
theorem Frh.of_frm {H H' : AH} {L : Pl} (h : Frm H H' L.p L.c) : Frh H H' L := ⟨by rw [h.size]; exact qkV _, fun b _ _ _ h3 h4 _ _ => h.get b h3 h4⟩
theorem Frh.of_frc {H H' : AH} {L : Pl} (h : Frc H H' L.q1 L.q2) : Frh H H' L := ⟨by rw [h.size]; exact qkV _, fun b _ _ _ _ _ h5 h6 => h.get b h5 h6⟩
structure Pl.below (L : Pl) (B : Nat) : Prop where
 h : L.h < B
 t : L.t < B
 p : L.p < B
 c : L.c < B
 q1 : L.q1 < B
 q2 : L.q2 < B
theorem Frh.own {α : Type} {f : α → List Value} {z B : Nat} {s : Sl} {l : List α} {H H' : AH} {L : Pl} (h : Frh H H' L) (hB : L.below B) (hO : Own B H s z f l) : Own B H' s z f l :=
 hO.keep h.size (fun b hb hb' => h.get b hb' (by have := hB.h; omega) (by have := hB.t; omega) (by have := hB.p; omega) (by have := hB.c; omega) (by have := hB.q1; omega) (by have := hB.q2; omega))
section
variable {H H' : AH} {L : Pl} {pa pb pc pd : Int} {puts puts' : Nat} {M M' : Mem} {now kept now' kept' : List Int} {worn : Bool}
theorem HAt.below (h : HAt H L pa pb pc pd puts M now kept worn) : L.below H.size :=
 ⟨h.lh, h.ga.tn.lt, h.ga.tn.l.m.lp, h.ga.tn.l.m.lc, h.ca.l1, h.ca.l2⟩
theorem HAt.ca_keep (h : HAt H L pa pb pc pd puts M now kept worn) (hs : H.size ≤ H'.size) (hg : ∀ b, b = L.ct ∨ b = L.q1 ∨ b = L.q2 → H'.get b = H.get b) : CAt H' L.ct L.q1 L.q2 pd now kept :=
 ⟨by rw [hg _ (.inl rfl), h.ca.hct], by rw [hg _ (.inr (.inl rfl)), h.ca.h1], by rw [hg _ (.inr (.inr rfl)), h.ca.h2], h.ca.len, h.ca.l16, by have := h.ca.lc; omega, by have := h.ca.l1; omega, by have := h.ca.l2; omega, h.ca.ne, h.ca.ok⟩
theorem HAt.step (h : HAt H L pa pb pc pd puts M now kept worn) (hG : GAt H' L.g L.t L.x L.p L.c (16 + pa.toNat) pb.toNat pc.toNat puts' M') (f : Frt H H' L.t L.p L.c) : HAt H' L pa pb pc pd puts' M' now kept worn :=
  ⟨by rw [f.get _ h.lh h.ne.2.1 h.ne.2.2.2.1 h.ne.2.2.2.2.1, h.hh], by have := f.size; have := h.lh; omega, h.may, hG,
   h.ca_keep f.size (fun b hb => f.get b (by rcases hb with rfl | rfl | rfl; exact h.ca.lc; exact h.ca.l1; exact h.ca.l2) (h.nc b hb).2.1 (h.nc b hb).2.2.2.1 (h.nc b hb).2.2.2.2), h.ne, h.nc, h.pages⟩
theorem HAt.mset (h : HAt H L pa pb pc pd puts M now kept worn) (hm : qv H' L.p L.c M') (f : Frm H H' L.p L.c) (hl : M'.cs.length = M.cs.length) (hmv : M'.mv = M.mv) : HAt H' L pa pb pc pd puts M' now kept worn :=
 h.step (h.ga.mem hm f hl (by rw [hmv]; exact h.ga.tn.mv)) (Frt.of_frm f)
theorem HAt.cset (h : HAt H L pa pb pc pd puts M now kept worn) (hc : CAt H' L.ct L.q1 L.q2 pd now' kept') (hl : now'.length = now.length) (f : Frc H H' L.q1 L.q2) : HAt H' L pa pb pc pd puts M now' kept' worn := by
 have n1 := h.nc L.q1 (.inr (.inl rfl))
 have n2 := h.nc L.q2 (.inr (.inr rfl))
 have g : ∀ b, b ≠ L.q1 → b ≠ L.q2 → H'.get b = H.get b := f.get
 have hs := f.size
 have hga := h.ga
 refine ⟨by rw [g _ h.ne.2.2.2.2.2.2.1 h.ne.2.2.2.2.2.2.2, h.hh], by rw [hs]; exact h.lh, h.may, ?_, hc, h.ne, h.nc, by rw [hl]; exact h.pages⟩
 have hm : qv H' L.p L.c M := hga.tn.l.m.keep (by rw [hs]; exact qkV _) (g _ n1.2.2.2.1.symm n2.2.2.2.1.symm) (g _ n1.2.2.2.2.symm n2.2.2.2.2.symm)
 exact ⟨by rw [g _ n1.1.symm n2.1.symm, hga.hg], by rw [hs]; exact hga.lg, hga.ne,
  ⟨by rw [g _ n1.2.1.symm n2.2.1.symm, hga.tn.ht], by rw [hs]; exact hga.tn.lt, hga.tn.tp, hga.tn.tc, hga.tn.tx,
   ⟨by rw [g _ n1.2.2.1.symm n2.2.2.1.symm, hga.tn.l.hx], by rw [hs]; exact hga.tn.l.lx, hga.tn.l.xp, hga.tn.l.xc, hm, hga.tn.l.len, hga.tn.l.n1, hga.tn.l.sp16⟩, hga.tn.n1, hga.tn.per, hga.tn.pl, hga.tn.mv⟩, hga.n16⟩
theorem HAt.wset (h : HAt H L pa pb pc pd puts M now kept worn) (w : Bool) :
  AH.canPut H (qkN ⟨L.h, 0, none⟩ 8) 1 ∧ HAt (AH.put H (qkN ⟨L.h, 0, none⟩ 8) [.bool w]) L pa pb pc pd puts M now kept w ∧ Frh H (AH.put H (qkN ⟨L.h, 0, none⟩ 8) [.bool w]) L := by
 rw [ql, qla]
 have e : AH.put H ⟨L.h, 8, none⟩ [.bool w] = H.upd L.h (hobj L.p L.t L.g L.ct pa pb pc pd w) := by
  simp only [AH.put, h.hh, hobj, setMany]; rfl
 have g : ∀ b, b ≠ L.h → (H.upd L.h (hobj L.p L.t L.g L.ct pa pb pc pd w)).get b = H.get b := fun b hb => by rw [qA, if_neg hb]
 refine ⟨⟨rfl, by rw [h.hh]; rfl, by rw [h.hh]; simp [hobj]⟩, ?_, ?_⟩
 ·rw [e]
  obtain ⟨n1, n2, n3, n4, n5, n6, n7, n8⟩ := h.ne
  have hga := h.ga
  have hm : qv (H.upd L.h (hobj L.p L.t L.g L.ct pa pb pc pd w)) L.p L.c M := hga.tn.l.m.keep (qkV _) (g _ n4.symm) (g _ n5.symm)
  exact ⟨by rw [qA, if_pos rfl], h.lh, h.may,
   ⟨by rw [g _ n1.symm, hga.hg], hga.lg, hga.ne,
    ⟨by rw [g _ n2.symm, hga.tn.ht], hga.tn.lt, hga.tn.tp, hga.tn.tc, hga.tn.tx,
     ⟨by rw [g _ n3.symm, hga.tn.l.hx], hga.tn.l.lx, hga.tn.l.xp, hga.tn.l.xc, hm, hga.tn.l.len, hga.tn.l.n1, hga.tn.l.sp16⟩, hga.tn.n1, hga.tn.per, hga.tn.pl, hga.tn.mv⟩, hga.n16⟩,
   h.ca_keep (qkV _) (fun b hb => g b (by rcases hb with rfl | rfl | rfl; exact n6.symm; exact n7.symm; exact n8.symm)), h.ne, h.nc, h.pages⟩
 ·rw [e]; exact ⟨qkV _, fun b _ hb _ _ _ _ _ => g b hb⟩
end
def notesN (pd : Int) : List Int → Mem → List Int → List Int → Mem × List Int × List Int × Int
 | [], M, now, kept => (M, now, kept, 0)
 | ln :: r, M, now, kept =>
  if (noteN pd now kept (ln / 4).toNat).2.2.2 = true then
   if (M.set (19 + ln / 4) (noteN pd now kept (ln / 4).toNat).2.2.1).2 = 0 then notesN pd r (M.set (19 + ln / 4) (noteN pd now kept (ln / 4).toNat).2.2.1).1 (noteN pd now kept (ln / 4).toNat).1 (noteN pd now kept (ln / 4).toNat).2.1
   else ((M.set (19 + ln / 4) (noteN pd now kept (ln / 4).toNat).2.2.1).1, (noteN pd now kept (ln / 4).toNat).1, (noteN pd now kept (ln / 4).toNat).2.1, (M.set (19 + ln / 4) (noteN pd now kept (ln / 4).toNat).2.2.1).2)
  else notesN pd r M (noteN pd now kept (ln / 4).toNat).1 (noteN pd now kept (ln / 4).toNat).2.1
theorem qeF {pd : Int} {now kept : List Int} {i : Nat} : (noteN pd now kept i).1.length = now.length := List.length_set
theorem qkG {pd cb : Int} {now kept : List Int} {i : Nat} (hi : i < now.length) (h : ∀ j, j < now.length → now.getD j 0 ≤ cb) : ∀ j, j < (noteN pd now kept i).1.length → (noteN pd now kept i).1.getD j 0 ≤ cb + 1 := by
 intro j hj
 rw [qeF] at hj
 unfold noteN
 simp only
 rw [qbZ hi]
 have h1 := h i hi
 have h2 := h j hj
 split <;> omega
def homesC (ws : List Int) (ls : List Int) : List (Int × List Int) := ls.map fun ln => (16 + ln, lineOf ws ln.toNat)
section
variable {H : AH} {L : Pl} {pa pb pc pd : Int} {puts : Nat} {M : Mem} {now kept : List Int} {worn : Bool}
theorem qhb {k : AH → Prop} {pk : Value → AH → Prop} {s59 : Sl} {ls : List Int} {B : Nat} {cb : Int} (h : HAt H L pa pb pc pd puts M now kept worn) (hB : L.below B) (hO : Own B H s59 1 iV ls) (hls : ∀ ln ∈ ls, 0 ≤ ln ∧ ln < pa)
  (hll : ls.length ≤ 1000) (hcb : ∀ j, j < now.length → now.getD j 0 ≤ cb) (hc : cb + 1000 < 4611686018427387904)
  (hpk : ∀ H', HAt H' L pa pb pc pd puts (notesN pd ls M now kept).1 (notesN pd ls M now kept).2.1 (notesN pd ls M now kept).2.2.1 worn → Frh H H' L → (notesN pd ls M now kept).2.2.2 ≠ 0 → pk (.iface 31 (.int .i64 (notesN pd ls M now kept).2.2.2)) H')
  (hk : ∀ H', HAt H' L pa pb pc pd puts (notesN pd ls M now kept).1 (notesN pd ls M now kept).2.1 (notesN pd ls M now kept).2.2.1 worn → Frh H H' L → (notesN pd ls M now kept).2.2.2 = 0 → k H') :
  loopT (qx.l1 (some ⟨L.h, 0, none⟩) k pk s59) (((0 : Int)) : Int) H := by
 have hmp := qJ.1 h.may
 have hpg : (now.length : Int) = (pa + 3) / 4 := by rw [h.pages]; unfold pagesP; rw [if_pos h.may]
 refine qL (t := ((0 : Int) : Int)) (I := fun (t : Int) H' => ∃ j : Nat, ∃ M1 now1 kept1, t = (j : Int) ∧ j ≤ ls.length ∧ HAt H' L pa pb pc pd puts M1 now1 kept1 worn ∧ Frh H H' L ∧ Own B H' s59 1 iV ls ∧ now1.length = now.length ∧ (∀ i, i < now1.length → now1.getD i 0 ≤ cb + j) ∧ notesN pd ls M now kept = notesN pd (ls.drop j) M1 now1 kept1) (m := fun (t : Int) _ => qkX ((ls.length : Int) - t)) ?_ ⟨0, M, now, kept, rfl, by omega, h, Frh.refl, hO, rfl, fun i hi => by have := hcb i hi; omega, rfl⟩
 intro t H1 hI it hit
 obtain ⟨j, M1, now1, kept1, e1, hj, h1, f1, hO1, hnl, hcb1, heq⟩ := hI
 subst e1
 unfold qx.l1
 have hR := hO1.rows (fun _ => rfl) (fun _ => rfl)
 simp only [qj, decide_eq_true_eq, hR.1]
 by_cases hlt : (j : Int) < (ls.length : Int)
 ·rw [if_pos hlt]
  have hj' : j < ls.length := by omega
  obtain ⟨b, o, ha, _, hc1⟩ := qbI (g := fun v => qkL .i64 v) hR (i := j) hj'
  refine ⟨by omega, ?_⟩
  rw [ha, qd, qkS, hc1, qg]
  have hln := hls _ (qk5 hj')
  rw [List.drop_eq_getElem_cons hj'] at heq
  generalize ls[j] = ln at *
  refine qbV.s (by omega) ?_
  rw [if_neg (by omega), qd, h1.c7, qC]
  have hpi : (ln / 4).toNat < now1.length := by rw [hnl]; omega
  have hpc : ln / 4 = (((ln / 4).toNat : Nat) : Int) := by omega
  have hbd := hcb1 _ hpi
  rw [hpc]
  refine qiF.s h1.ca hpi (by omega) ?_
  intro H2 hc2 f2
  rw [← hpc]
  have h2 := h1.cset hc2 qeF f2
  have f12 := f1.trans (Frh.of_frc f2)
  have hO2 := (Frh.of_frc (L := L) f2).own hB hO1
  have hle := qkG (pd := pd) (kept := kept1) hpi hcb1
  have hval : (noteN pd now1 kept1 (ln / 4).toNat).2.2.1 = now1.getD (ln / 4).toNat 0 + 1 := rfl
  have hnn := h1.ca.ok _ hpi
  have hdef : notesN pd (ln :: ls.drop (j + 1)) M1 now1 kept1 = if (noteN pd now1 kept1 (ln / 4).toNat).2.2.2 = true then
   if (M1.set (19 + ln / 4) (noteN pd now1 kept1 (ln / 4).toNat).2.2.1).2 = 0 then notesN pd (ls.drop (j + 1)) (M1.set (19 + ln / 4) (noteN pd now1 kept1 (ln / 4).toNat).2.2.1).1 (noteN pd now1 kept1 (ln / 4).toNat).1 (noteN pd now1 kept1 (ln / 4).toNat).2.1
   else ((M1.set (19 + ln / 4) (noteN pd now1 kept1 (ln / 4).toNat).2.2.1).1, (noteN pd now1 kept1 (ln / 4).toNat).1, (noteN pd now1 kept1 (ln / 4).toNat).2.1, (M1.set (19 + ln / 4) (noteN pd now1 kept1 (ln / 4).toNat).2.2.1).2)
   else notesN pd (ls.drop (j + 1)) M1 (noteN pd now1 kept1 (ln / 4).toNat).1 (noteN pd now1 kept1 (ln / 4).toNat).2.1 := rfl
  rw [hdef] at heq
  rw [qe (n := (j : Int) + 1) (by omega) (by omega)]
  have hnl2 : (noteN pd now1 kept1 (ln / 4).toNat).1.length = now.length := qeF.trans hnl
  have hv1 : 0 ≤ (noteN pd now1 kept1 (ln / 4).toNat).2.2.1 ∧ (noteN pd now1 kept1 (ln / 4).toNat).2.2.1 < 4611686018427387904 := by rw [hval]; have := h1.ca.ok _ hpi; have := hcb1 _ hpi; omega
  generalize noteN pd now1 kept1 (ln / 4).toNat = q at *
  by_cases hq : q.2.2.2 = true
  ·rw [if_pos hq] at heq ⊢
   rw [qd, h2.c0, qC, qe (n := 19 + ln / 4) (by omega) (by omega), qbe (by omega) (by omega)]
   refine qz.g (M' := (M1.set (19 + ln / 4) q.2.2.1).1) (r := (M1.set (19 + ln / 4) q.2.2.1).2) h2.ga.tn.l.m (by unfold isU; omega) rfl ?_
   intro H3 hm3 f3
   have h3 := h2.mset hm3 f3 Mem.set_len (Mem.setH_mv (by omega))
   have f13 := f12.trans (Frh.of_frm f3)
   have hO3 := (Frh.of_frm (L := L) f3).own hB hO2
   generalize M1.set (19 + ln / 4) q.2.2.1 = S at *
   refine qY.s ?_ ?_
   ·intro he
    rw [if_neg he] at heq
    rw [heq] at hpk
    exact hpk H3 h3 f13 he
   ·intro he
    rw [if_pos he] at heq
    exact hit _ _ ⟨j + 1, S.1, q.1, q.2.1, by simp, by omega, h3, f13, hO3, hnl2, fun i hi => by have := hle i hi; omega, heq⟩ (by omega)
  ·rw [if_neg hq] at heq ⊢
   exact hit _ _ ⟨j + 1, M1, q.1, q.2.1, by simp, by omega, h2, f12, hO2, hnl2, fun i hi => by have := hle i hi; omega, heq⟩ (by omega)
 ·rw [if_neg hlt]
  have : j = ls.length := by omega
  subst this
  rw [List.drop_length] at heq
  rw [heq] at hk
  exact hk H1 h1 f1 rfl
end
structure HS where
 M : Mem
 pt : Nat
 now : List Int
 kept : List Int
 worn : Bool
def commitH (pa pb pc pd : Int) (ws : List Int) (l : List (Int × Int)) (s : HS) : HS × Int :=
 let C := comN (16 + pa.toNat) pb.toNat pc.toNat (homesC (applyE ws l) (eLines l)) s.M s.pt
 if C.2.2 ≠ 0 then (⟨C.1, C.2.1, s.now, s.kept, s.worn || (C.2.2 == 3)⟩, C.2.2) else
 let N := notesN pd (eLines l) C.1 s.now s.kept
 (⟨N.1, C.2.1, N.2.1, N.2.2.1, s.worn⟩, N.2.2.2)
def HA (H : AH) (L : Pl) (pa pb pc pd : Int) (s : HS) : Prop := HAt H L pa pb pc pd s.pt s.M s.now s.kept s.worn
def putF (q : Int × List Int) : List Value := if (putV q).length = 9 then putV q else qkQ 9 (qkL .i64 0)
theorem qkj (q : Int × List Int) : (putF q).length = 9 := by unfold putF; split; assumption; rfl
theorem putF_ok (q : Int × List Int) : (putF q).all qo = true := by unfold putF; split; exact putV_ok _; rfl
theorem putF_eq {q : Int × List Int} (h : qbR q) : putF q = putV q := if_pos (qeu h)
theorem qka {i : Int} {r : List Int} (hr : r.length = 8) :
  setMany [(qkL .i64 (0 : Int)), (qkL .u64 (0 : Int)), (qkL .u64 (0 : Int)), (qkL .u64 (0 : Int)), (qkL .u64 (0 : Int)), (qkL .u64 (0 : Int)), (qkL .u64 (0 : Int)), (qkL .u64 (0 : Int)), (qkL .u64 (0 : Int))] 0 (setMany [(qkL .i64 i), (qkL .u64 (0 : Int)), (qkL .u64 (0 : Int)), (qkL .u64 (0 : Int)), (qkL .u64 (0 : Int)), (qkL .u64 (0 : Int)), (qkL .u64 (0 : Int)), (qkL .u64 (0 : Int)), (qkL .u64 (0 : Int))] 1 (lineV r)) = putV (i, r) := by
 match r, hr with
 | [a, b, c, d, e, f, g, h], _ => rfl
theorem qjS {i : Int} {r : List Int} (hr : r.length = 8) :
  (setMany [(qkL .i64 i), (qkL .u64 (0 : Int)), (qkL .u64 (0 : Int)), (qkL .u64 (0 : Int)), (qkL .u64 (0 : Int)), (qkL .u64 (0 : Int)), (qkL .u64 (0 : Int)), (qkL .u64 (0 : Int)), (qkL .u64 (0 : Int))] 1 (lineV r)).length = 9 := by
 match r, hr with
 | [a, b, c, d, e, f, g, h], _ => rfl
theorem Pl.below.mono {L : Pl} {B B' : Nat} (h : L.below B) (hb : B ≤ B') : L.below B' :=
 ⟨qlX h.h hb, qlX h.t hb, qlX h.p hb, qlX h.c hb, qlX h.q1 hb, qlX h.q2 hb⟩
section
variable {H : AH} {L : Pl} {pa pb pc pd : Int}
theorem qea.s {k : AH → Prop} {pk : Value → AH → Prop} {x1 x2 : Sl} {ws : List Int} {l : List (Int × Int)} {B mvb : Nat} {cb : Int} {s : HS} (h : HA H L pa pb pc pd s)
  (hps : PSt (16 + pa.toNat) pb.toNat pc.toNat s.M s.pt mvb (16 + pa.toNat + 1 + pb.toNat)) (hmvb : mvb + 1000 < 4611686018427387904)
  (hB : L.below B) (hBH : B ≤ H.size) (hw : qli H x1 1 wU ws) (h64 : qah ws) (hwl : (ws.length : Int) = 8 * pa) (hO : Own B H x2 2 eU l) (hll : l.length ≤ 1000) (hl : ∀ e ∈ l, 0 ≤ e.1 ∧ e.1 < 8 * pa ∧ isU e.2)
  (hcb : ∀ j, j < s.now.length → s.now.getD j 0 ≤ cb) (hc : cb + 1000 < 4611686018427387904)
  (hpk : ∀ H', HA H' L pa pb pc pd (commitH pa pb pc pd ws l s).1 → Frh H H' L → (commitH pa pb pc pd ws l s).2 ≠ 0 → pk (.iface 31 (.int .i64 (commitH pa pb pc pd ws l s).2)) H')
  (hk : ∀ H', HA H' L pa pb pc pd (commitH pa pb pc pd ws l s).1 → Frh H H' L → (commitH pa pb pc pd ws l s).2 = 0 → k H') :
  qx (some ⟨L.h, 0, none⟩) x1 x2 H pk k := by
 have hmp := qJ.1 (HAt.may h)
 have hlo : ∀ e ∈ l, isI e.1 := fun e he => by have := hl e he; unfold isI; omega
 have hru : ∀ x : Int × Int, (eU x).length = 2 := eU_len
 refine qx.link ?_
 unfold qx.b
 have hr2 := hO.rows eU_len eU_ok
 refine qay.s hw (by omega) hr2 (by omega) ?_
 intro s17 H17 hk17 hO17
 have hO17 : Own H.size H17 s17 1 wU (applyE ws l) := hO17.resolve_right (fun hh => by have := hh.1; subst this; simp at hwl; omega)
 refine qat.s (hr2.keep hk17) (by omega) hlo ?_
 intro s19 H19 hk19 hO19
 have hk1 := hk17.trans hk19
 have hO17' : Own H.size H19 s17 1 wU (applyE ws l) := hO17.keep hk19.1 (fun b _ hb => hk19.2 _ hb)
 have hR17 := hO17'.rows (fun _ => rfl) (fun _ => rfl)
 have hR19 := hO19.rows (fun _ => rfl) (fun _ => rfl)
 have hw64 : qah (applyE ws l) := qfB l ws h64 (fun e he => (hl e he).2.2)
 have hwlen : (applyE ws l).length = ws.length := qaf l ws
 have hls : ∀ ln ∈ eLines l, 0 ≤ ln ∧ ln < pa := by
  intro ln hln
  obtain ⟨e, he, h0, rfl⟩ := qcm.1 hln
  have := hl e he
  omega
 have hlsl : (eLines l).length ≤ 1000 := by
  have := qdz (l := l) (lo := 0) (hi := 8 * pa - 1) (fun e he => by have := hl e he; omega) (by omega)
  omega
 unfold commitH at hpk hk
 generalize hWdef : applyE ws l = W at *
 generalize hLdef : eLines l = ls at *
 have hokq : ∀ ln ∈ ls, qbR (16 + ln, lineOf W ln.toNat) := fun ln hln => by
  have := hls ln hln
  exact ⟨by unfold isI; simp only; omega, qcE hw64 (by omega)⟩
 have hok : ∀ q ∈ homesC W ls, qbR q := by
  intro q hq
  unfold homesC at hq
  rw [qlk] at hq
  obtain ⟨ln, hln, rfl⟩ := hq
  exact hokq ln hln
 refine qL (t := ((⟨none, 0, 0⟩, (0 : Int)) : Sl × Int)) (I := fun (t : Sl × Int) H' => ∃ j : Nat, t.2 = (j : Int) ∧ j ≤ ls.length ∧ qa H19 H' ∧ Own H19.size H' t.1 9 putF (homesC W (ls.take j))) (m := fun (t : Sl × Int) _ => qkX ((ls.length : Int) - t.2)) ?_ ⟨0, rfl, by omega, qa.refl _, .inl ⟨rfl, rfl⟩⟩
 intro t H1 hI it hit
 obtain ⟨sh, t2⟩ := t
 obtain ⟨j, e1, hj, hk9, hOh⟩ := hI
 have hkH := hk1.trans hk9
 simp only at e1 hOh
 subst e1
 unfold qx.l4
 have h1 : HAt H1 L pa pb pc pd s.pt s.M s.now s.kept s.worn := HAt.keeps h hkH
 have hcl : (homesC W (ls.take j)).length = j := by unfold homesC; simp; omega
 simp only [qj, decide_eq_true_eq, hR19.1]
 by_cases hlt : (j : Int) < (ls.length : Int)
 ·rw [if_pos hlt]
  have hj' : j < ls.length := by omega
  obtain ⟨b, o, ha, _, hc1⟩ := qbI (g := fun v => qkL .i64 v) (hR19.keep hk9) (i := j) hj'
  refine ⟨by omega, ?_⟩
  rw [ha, qd, qkS, hc1, qg]
  have hln := hls _ (qk5 hj')
  have hq := hokq _ (qk5 hj')
  have htk : homesC W (ls.take (j + 1)) = homesC W (ls.take j) ++ [(16 + ls[j], lineOf W ls[j].toNat)] := by
   unfold homesC
   rw [List.take_succ, qkO hj', qmd, List.map_append]; rfl
  generalize ls[j] = ln at *
  rw [qd, qs h1.row]
  refine qa4.s ?_
  have hh : homeP pa pb pc pd ln = 16 + ln := by unfold homeP; rw [if_pos ⟨HAt.may h, by omega, by omega⟩]
  rw [hh]
  have hlc : ln = ((ln.toNat : Nat) : Int) := by omega
  have key : qaU s17 ((ln.toNat : Nat) : Int) H1 fun c34 H34 => (qk0 c34 = 8) ∧ (qk0 (setMany [(qkL .i64 (16 + ln)), (qkL .u64 (0 : Int)), (qkL .u64 (0 : Int)), (qkL .u64 (0 : Int)), (qkL .u64 (0 : Int)), (qkL .u64 (0 : Int)), (qkL .u64 (0 : Int)), (qkL .u64 (0 : Int)), (qkL .u64 (0 : Int))] 1 c34) = 9) ∧ newC H34 ⟨(setMany [(qkL .i64 (0 : Int)), (qkL .u64 (0 : Int)), (qkL .u64 (0 : Int)), (qkL .u64 (0 : Int)), (qkL .u64 (0 : Int)), (qkL .u64 (0 : Int)), (qkL .u64 (0 : Int)), (qkL .u64 (0 : Int)), (qkL .u64 (0 : Int))] 0 (setMany [(qkL .i64 (16 + ln)), (qkL .u64 (0 : Int)), (qkL .u64 (0 : Int)), (qkL .u64 (0 : Int)), (qkL .u64 (0 : Int)), (qkL .u64 (0 : Int)), (qkL .u64 (0 : Int)), (qkL .u64 (0 : Int)), (qkL .u64 (0 : Int))] 1 c34)), .rw, 9⟩ fun o36 H36 => appendC 9 H36 sh ⟨(some ⟨o36, 0, none⟩), 1, 1⟩ fun s37 H37 => it (s37, (qkM .i64 ((j : Int) + (1 : Int)))) H37 := by
   refine qaU.s (hR17.keep hk9) hw64 (by omega) (by omega) ?_
   have hl8 := hq.line.1
   simp only at hl8
   refine ⟨qn hl8, qjS hl8, ?_⟩
   rw [qt, qka hl8, ← putF_eq hq]
   refine qbL (H0 := H19) (B := H19.size) qkj (putF_ok _) hOh (qkV _) hk9.1 hk9 (by rw [hcl]; simp only [lim]; omega) ?_
   intro s' H' hO' hk' hs' hold'
   rw [← htk] at hO'
   rw [qe (n := (j : Int) + 1) (by omega) (by omega)]
   exact hit _ _ ⟨j + 1, by simp, by omega, hk', hO'⟩ (by simp only; omega)
  rw [← hlc] at key
  exact key
 ·rw [if_neg hlt]
  have : j = ls.length := by omega
  subst this
  rw [qlU] at hOh hcl
  unfold qx.j3
  rw [qd, h1.c6, qC]
  have hB1 : L.below H19.size := hB.mono (by have := hk1.1; omega)
  have hOp : Own H19.size H1 sh 9 putV (homesC W ls) := qcI (fun q hq => (putF_eq (hok q hq)).symm) hOh
  refine qiS.s h1.ga hps hmvb (qdA hOp hok) hok (by omega) ?_ ?_
  ·intro _ b hb
   rcases hOp with ⟨e, _⟩ | ⟨b', e, hb1, _, _⟩
   ·rw [e] at hb; cases hb
   ·rw [e] at hb; simp at hb; subst hb
    have h1 := hB1.t; have h2 := hB1.p; have h3 := hB1.c
    exact ⟨by omega, by omega, by omega⟩
  intro H44 hG44 f44 _
  have hcp := hps.com h1.ga.tn.n1 hmvb hok
  generalize comN (16 + pa.toNat) pb.toNat pc.toNat (homesC W ls) s.M s.pt = C at *
  have h44 := h1.step hG44 f44
  have hO44 : Own B H44 x2 2 eU l := (Frh.of_frt (L := L) f44).own hB (hO.keep hkH.1 (fun b _ hb => hkH.2 _ hb))
  have f0 : Frh H H44 L := (Frh.of_keeps hkH).trans (Frh.of_frt f44)
  have tail : ∀ (w : Bool) (H5 : AH), HAt H5 L pa pb pc pd C.2.1 C.1 s.now s.kept w → Frh H H5 L → Own B H5 x2 2 eU l → w = (s.worn || (C.2.2 == 3)) → qx.j2 (some ⟨L.h, 0, none⟩) x2 k pk C.2.2 H5 := by
   intro w H5 h5 f5 hO5 hw5
   unfold qx.j2
   refine qY.s ?_ ?_
   ·intro he
    rw [if_pos he] at hpk
    exact hpk H5 (by subst hw5; exact h5) f5 he
   ·intro he
    rw [if_neg (by simpa using he)] at hpk hk
    refine qat.s (hO5.rows eU_len eU_ok) (by omega) hlo ?_
    intro s59 H59 hk59 hO59
    rw [hLdef] at hO59
    have hws : w = s.worn := by rw [hw5, he]; simp
    subst hws
    refine qhb (h5.keeps hk59) (hB.mono (by have := f5.size; omega)) hO59 hls hlsl hcb hc ?_ ?_
    ·intro H' hH' fH' he'
     exact hpk H' hH' (f5.trans ((Frh.of_keeps hk59).trans fH')) he'
    ·intro H' hH' fH' he'
     exact hk H' hH' (f5.trans ((Frh.of_keeps hk59).trans fH')) he'
  rw [qd, h44.c8, qa6]
  cases hsw : s.worn with
  | true =>
   rw [qk, qd, qaL]
   obtain ⟨c1, c2, c3⟩ := h44.wset true
   exact ⟨c1, tail _ _ c2 (f0.trans c3) (c3.own hB hO44) (by rw [hsw]; rfl)⟩
  | false =>
   rw [qc, qd, qaL]
   obtain ⟨c1, c2, c3⟩ := h44.wset (C.2.2 == 3)
   exact ⟨c1, tail _ _ c2 (f0.trans c3) (c3.own hB hO44) (by rw [hsw]; rfl)⟩
end
structure EdIn (E : List (Int × Int)) (n : Int) : Prop where
 mem : ∀ e ∈ E, 0 ≤ e.1 ∧ e.1 < n ∧ isU e.2
 len : E.length ≤ 1000
theorem EdIn.nil {n : Int} : EdIn [] n := ⟨fun e he => (by cases he), by simp⟩
theorem qd7 {ws : List Int} {n : Int} {cs : List Int} : EdIn (imgAlloc ws n cs).1 ws.length := by
 unfold imgAlloc
 split
 ·exact EdIn.nil
 ·split
  ·exact EdIn.nil
  ·rename_i l hb
   have hB := qa0 hb
   have hlen := hB.len
   split
   ·exact EdIn.nil
   ·rename_i hc
    rcases qd6 (l := l) (need := needN n) (cs := cs) with h | ⟨i, h, hi, hu, hn1, hn2⟩
    ·omega
    ·rw [h, qkS]
     have hm := hB.mem (qkY (qaF hi))
     generalize bkAt l i = b at *
     show EdIn (carveE b (needN n)) _
     have ht : 2 ≤ takesN b.2.1 (needN n) ∧ takesN b.2.1 (needN n) ≤ b.2.1 := by unfold takesN; rw [if_pos ⟨hn2, hn1⟩]; split <;> omega
     unfold carveE carveTo
     generalize takesN b.2.1 (needN n) = tk at *
     refine ⟨fun e he => ?_, ?_⟩
     ·rw [List.cons_append, qk8, List.mem_append] at he
      rcases he with rfl | he | he
      ·exact ⟨by simp only; omega, by simp only; omega, wordN_u _ _⟩
      ·rw [qlk] at he
       obtain ⟨t, ht1, rfl⟩ := he
       rw [qlC] at ht1
       refine ⟨by simp only; omega, by simp only; omega, by unfold isU; omega⟩
      ·split at he
       ·simp at he
        subst he
        exact ⟨by simp only; omega, by simp only; omega, wordN_u _ _⟩
       ·cases he
     ·split <;> simp <;> omega
theorem qdx {ws : List Int} {off : Int} : EdIn (imgFree ws off).1 ws.length := by
 unfold imgFree
 split
 ·exact EdIn.nil
 ·rename_i l hb
  have hB := qa0 hb
  have hlen := hB.len
  split
  ·exact EdIn.nil
  ·rename_i hc
   rcases qdp off l 0 with h | ⟨i, h, hi, hu, ho⟩
   ·omega
   ·rw [qla] at h
    rw [h, qkS]
    have hF : mFrom l i < l.length := by unfold mFrom; split <;> omega
    have hm := hB.mem (qkY (qaF hF))
    simp only
    refine ⟨fun e he => ?_, by simp⟩
    simp at he
    subst he
    exact ⟨by simp only; omega, by simp only; omega, wordN_u _ _⟩
theorem qd8 {ws : List Int} (h64 : qah ws) (hl : ws.length ≤ 1000) {off : Int} {bs : List Int} : EdIn (imgWrite ws off bs).1 ws.length := by
 unfold imgWrite
 split
 ·exact EdIn.nil
 ·rename_i l hb
  have hB := qa0 hb
  have hlen := hB.len
  split
  ·rename_i hw
   have hin := qcz hB hw
   unfold inside at hin
   obtain ⟨o, rfl⟩ := Int.eq_ofNat_of_zero_le hin.1
   rw [qkS]
   have hcur := qdt bs ws o h64
   have hcl := qch bs ws o
   by_cases hz : bs.length = 0
   ·have ht : touched o bs.length = 0 := by rw [hz]; rfl
    rw [ht]
    exact EdIn.nil
   have ht : touched o bs.length = (o + bs.length - 1) / 8 - o / 8 + 1 := by unfold touched; rw [if_neg hz]
   refine ⟨fun e he => ?_, by simp only; rw [qbw]; omega⟩
   unfold editsOf at he
   rw [qlk] at he
   obtain ⟨j, hj, rfl⟩ := he
   rw [qlC] at hj
   refine ⟨by simp only; omega, by simp only; omega, ?_⟩
   have hlt : o / 8 + j < (putBs ws o bs).length := by omega
   simp only
   rw [qkP, qkO hlt, Option.getD_some]
   exact hcur _ (qk5 hlt)
  ·exact EdIn.nil
def HS.stuck (s : HS) : Prop := s.worn = true ∨ (s.M.down = false ∧ commits s.M ≠ 0)
instance (s : HS) : Decidable s.stuck := by unfold HS.stuck; infer_instance
section
variable {H : AH} {L : Pl} {pa pb pc pd : Int} {s : HS} {mvb : Nat} {cb : Int}
structure HOK (H : AH) (L : Pl) (pa pb pc pd : Int) (s : HS) (mvb : Nat) (cb : Int) : Prop where
 ha : HA H L pa pb pc pd s
 ps : PSt (16 + pa.toNat) pb.toNat pc.toNat s.M s.pt mvb (16 + pa.toNat + 1 + pb.toNat)
 mb : mvb + 1000 < 4611686018427387904
 cl : ∀ j, j < s.now.length → s.now.getD j 0 ≤ cb
 cb' : cb + 1000 < 4611686018427387904
theorem qdb (h : HA H L pa pb pc pd s) : ((wordsH pa pb s.M).length : Int) = 8 * pa ∧ qah (wordsH pa pb s.M) := by
 have hm := qJ.1 (HAt.may h)
 have hfl : ∀ i : Nat, (i : Int) ≤ pa → ((List.range i).flatMap (lineH pa pb s.M)).length = 8 * i := by
  intro i
  induction i with
  | zero => intro _; rfl
  | succ i ih =>
   intro hi
   rw [List.range_succ, List.flatMap_append, qlt, ih (by omega)]
   simp only [qly, List.flatMap_nil, qmg]
   have := (qdw h (i := i) (by omega)).1.1
   unfold lineH; omega
 refine ⟨by unfold wordsH; rw [hfl _ (by omega)]; omega, fun v hv => ?_⟩
 unfold wordsH at hv
 rw [List.mem_flatMap] at hv
 obtain ⟨i, hi, hv⟩ := hv
 rw [qlC] at hi
 exact (qdw h (i := i) (by omega)).1.2 v hv
theorem qcN {pk : Value → AH → Prop} {k : Sl → AH → Prop} (h : HA H L pa pb pc pd s) (hd : s.M.down = true → ∀ H', qa H H' → pk (.iface 31 (.int .i64 2)) H')
  (hu : s.M.down = false → ∀ x H', qa H H' → Own H.size H' x 1 wU (wordsH pa pb s.M) → k x H') : qaC (some ⟨L.h, 0, none⟩) H pk k := by
 refine qaC.link ?_
 unfold qaC.b
 refine qev.s h ?_ ?_
 ·intro hdn H' hk; exact qY.s (fun _ => hd hdn H' hk) (fun hh => by simp at hh)
 ·intro hup x H' hk hO; exact qY.s (fun hh => absurd rfl hh) (fun _ => hu hup x H' hk hO)
theorem qcW {pk : Value → AH → Prop} {k : AH → Prop} (h : HA H L pa pb pc pd s) (h1 : s.stuck → pk (.iface 31 (.int .i64 3)) H) (h0 : ¬ s.stuck → k H) : qag (some ⟨L.h, 0, none⟩) H pk k :=
 qgh.s h h1 h0
def readH (pa pb : Int) (s : HS) (off n : Int) : List Int × Int := if s.M.down then ([], 2) else imgRead (wordsH pa pb s.M) off n
theorem qih {pk : Value → AH → Prop} {k : Sl → AH → Prop} {off n : Int} (h : HA H L pa pb pc pd s) (ho : isI off)
  (hpk : (readH pa pb s off n).2 ≠ 0 → ∀ H', qa H H' → pk (.iface 31 (.int .i64 (readH pa pb s off n).2)) H')
  (hk : (readH pa pb s off n).2 = 0 → ∀ x H', qa H H' → Own H.size H' x 1 bU (readH pa pb s off n).1 → k x H') : qbP (some ⟨L.h, 0, none⟩) off n H pk k := by
 obtain ⟨hwl, h64⟩ := qdb h
 have hm := qJ.1 (HAt.may h)
 refine qbP.link ?_
 unfold qbP.b
 unfold readH at hpk hk
 refine qcN h ?_ ?_
 ·intro hd H' hk'
  rw [if_pos hd] at hpk
  exact hpk (by simp) H' hk'
 ·intro hd x H1 hk1 hO
  rw [if_neg (by simp [hd])] at hpk hk
  refine qb6.s (hO.rows (fun _ => rfl) (fun _ => rfl)) h64 (by omega) ho ?_
  intro sr H2 hk2 hO2
  refine qY.s ?_ ?_
  ·intro he; exact hpk he H2 (hk1.trans hk2)
  ·intro he; exact hk he sr H2 (hk1.trans hk2) (qci hO2 hk1.1)
def allocH (pa pb pc pd : Int) (s : HS) (n : Int) : HS × Int × Int :=
 if s.M.down then (s, 2, 0) else if needN n = 0 then (s, 1, 0) else if s.stuck then (s, 3, 0) else
 if (imgAlloc (wordsH pa pb s.M) n s.now).2.2 ≠ 0 then (s, (imgAlloc (wordsH pa pb s.M) n s.now).2.2, 0) else
 ((commitH pa pb pc pd (wordsH pa pb s.M) (imgAlloc (wordsH pa pb s.M) n s.now).1 s).1, (commitH pa pb pc pd (wordsH pa pb s.M) (imgAlloc (wordsH pa pb s.M) n s.now).1 s).2, (imgAlloc (wordsH pa pb s.M) n s.now).2.1)
theorem qg2 {pk : Value → AH → Prop} {k : Int → AH → Prop} {n : Int} (h : HOK H L pa pb pc pd s mvb cb) (hn : isI n)
  (hpk : (allocH pa pb pc pd s n).2.1 ≠ 0 → ∀ H', HA H' L pa pb pc pd (allocH pa pb pc pd s n).1 → Frh H H' L → pk (.iface 31 (.int .i64 (allocH pa pb pc pd s n).2.1)) H')
  (hk : (allocH pa pb pc pd s n).2.1 = 0 → ∀ H', HA H' L pa pb pc pd (allocH pa pb pc pd s n).1 → Frh H H' L → k (allocH pa pb pc pd s n).2.2 H') : qbD (some ⟨L.h, 0, none⟩) n H pk k := by
 obtain ⟨hwl, h64⟩ := qdb h.ha
 have hm := qJ.1 (HAt.may h.ha)
 refine qbD.link ?_
 unfold qbD.b
 unfold allocH at hpk hk
 refine qcN h.ha ?_ ?_
 ·intro hd H' hk'
  rw [if_pos hd] at hpk
  exact hpk (by simp) H' (HAt.keeps h.ha hk') (Frh.of_keeps hk')
 ·intro hd x H1 hk1 hO
  rw [if_neg (by simp [hd])] at hpk hk
  have hR := hO.rows (fun _ => rfl) (fun _ => rfl)
  have h1 : HA H1 L pa pb pc pd s := HAt.keeps h.ha hk1
  refine qbz.s hn ?_
  rw [qj]
  by_cases h0 : needN n = 0
  ·rw [if_pos (by simpa using h0)]
   rw [if_pos h0] at hpk
   exact hpk (by simp) H1 h1 (Frh.of_keeps hk1)
  rw [if_neg (by simpa using h0)]
  rw [if_neg h0] at hpk hk
  refine qcW h1 ?_ ?_
  ·intro hs
   rw [if_pos hs] at hpk
   exact hpk (by simp) H1 h1 (Frh.of_keeps hk1)
  intro hs
  rw [if_neg hs] at hpk hk
  rw [qd, HAt.c7 h1, qC]
  refine qjf.s (HAt.ca h1) ?_
  intro s24 H24 hk24 hO24
  have hO24 : Own H1.size H24 s24 1 iV s.now := hO24.resolve_right (fun hh => by
   have h2 := HAt.pages h1; rw [hh.1] at h2; unfold pagesP at h2; rw [if_pos (HAt.may h.ha)] at h2; simp at h2; omega)
  refine qbu.s (hR.keep hk24) h64 (by omega) hn (hO24.rows (fun _ => rfl) (fun _ => rfl)) ?_
  intro s25 H25 hk25 hO25
  have hkk := (hk1.trans hk24).trans hk25
  have h25 : HA H25 L pa pb pc pd s := HAt.keeps h.ha hkk
  have hin := qd7 (ws := wordsH pa pb s.M) (n := n) (cs := s.now)
  generalize imgAlloc (wordsH pa pb s.M) n s.now = A at *
  refine qY.s ?_ ?_
  ·intro he
   rw [if_pos he] at hpk
   exact hpk he H25 h25 (Frh.of_keeps hkk)
  ·intro he
   rw [if_neg (by simpa using he)] at hpk hk
   refine qea.s (B := H24.size) (mvb := mvb) (cb := cb) h25 h.ps h.mb ((HAt.below h1).mono hk24.1) hk25.1 (hR.keep (hk24.trans hk25)) h64 hwl hO25 hin.len (fun e he => by have := hin.mem e he; exact ⟨this.1, by omega, this.2.2⟩) h.cl h.cb' ?_ ?_
   ·intro H' hH' f he'; exact hpk he' H' hH' ((Frh.of_keeps hkk).trans f)
   ·intro H' hH' f he'; exact hk he' H' hH' ((Frh.of_keeps hkk).trans f)
end
def rootN (M : Mem) : Int := qkM .i64 (M.regs.getD 2 0)
def freeH (pa pb pc pd : Int) (s : HS) (off : Int) : HS × Int :=
 if s.M.down then (s, 2) else if (imgFree (wordsH pa pb s.M) off).2 ≠ 0 then (s, (imgFree (wordsH pa pb s.M) off).2) else
 if rootN s.M = off then (s, 5) else if s.stuck then (s, 3) else commitH pa pb pc pd (wordsH pa pb s.M) (imgFree (wordsH pa pb s.M) off).1 s
def writeH (pa pb pc pd : Int) (s : HS) (off : Int) (bs : List Int) : HS × Int :=
 if s.M.down then (s, 2) else if (imgWrite (wordsH pa pb s.M) off bs).2 ≠ 0 then (s, (imgWrite (wordsH pa pb s.M) off bs).2) else
 if (imgWrite (wordsH pa pb s.M) off bs).1.length = 0 then (s, 0) else if s.stuck then (s, 3) else commitH pa pb pc pd (wordsH pa pb s.M) (imgWrite (wordsH pa pb s.M) off bs).1 s
def setRootH (pa pb : Int) (s : HS) (off : Int) : HS × Int :=
 if s.M.down then (s, 2) else if off ≠ 0 ∧ isUsed (wordsH pa pb s.M) off = false then (s, 1) else if s.stuck then (s, 3) else
 ({ s with M := (s.M.set 2 (qkM .u64 off)).1 }, (s.M.set 2 (qkM .u64 off)).2)
section
variable {H : AH} {L : Pl} {pa pb pc pd : Int} {s : HS} {mvb : Nat} {cb : Int}
theorem qh2 {pk : Value → AH → Prop} {k : AH → Prop} {off : Int} (h : HOK H L pa pb pc pd s mvb cb)
  (hpk : (freeH pa pb pc pd s off).2 ≠ 0 → ∀ H', HA H' L pa pb pc pd (freeH pa pb pc pd s off).1 → Frh H H' L → pk (.iface 31 (.int .i64 (freeH pa pb pc pd s off).2)) H')
  (hk : (freeH pa pb pc pd s off).2 = 0 → ∀ H', HA H' L pa pb pc pd (freeH pa pb pc pd s off).1 → Frh H H' L → k H') : qbQ (some ⟨L.h, 0, none⟩) off H pk k := by
 obtain ⟨hwl, h64⟩ := qdb h.ha
 have hm := qJ.1 (HAt.may h.ha)
 refine qbQ.link ?_
 unfold qbQ.b
 unfold freeH at hpk hk
 refine qcN h.ha ?_ ?_
 ·intro hd H' hk'
  rw [if_pos hd] at hpk
  exact hpk (by simp) H' (HAt.keeps h.ha hk') (Frh.of_keeps hk')
 intro hd x H1 hk1 hO
 rw [if_neg (by simp [hd])] at hpk hk
 have hR := hO.rows (fun _ => rfl) (fun _ => rfl)
 refine qb7.s hR h64 (by omega) ?_
 intro s12 H12 hk12 hO12
 have hkk := hk1.trans hk12
 have h12 : HA H12 L pa pb pc pd s := HAt.keeps h.ha hkk
 have hin := qdx (ws := wordsH pa pb s.M) (off := off)
 generalize imgFree (wordsH pa pb s.M) off = A at *
 refine qY.s ?_ ?_
 ·intro he
  rw [if_pos he] at hpk
  exact hpk he H12 h12 (Frh.of_keeps hkk)
 intro he
 rw [if_neg (by simpa using he)] at hpk hk
 refine qgu.s h12 (fun hh => by rw [hd] at hh; cases hh) ?_
 intro _
 rw [show qkM .i64 (s.M.regs.getD 2 0) = rootN s.M from rfl, qj]
 by_cases hr : rootN s.M = off
 ·rw [if_pos (by simpa using hr)]
  rw [if_pos hr] at hpk
  exact hpk (by simp) H12 h12 (Frh.of_keeps hkk)
 rw [if_neg (by simpa using hr)]
 rw [if_neg hr] at hpk hk
 refine qcW h12 ?_ ?_
 ·intro hs
  rw [if_pos hs] at hpk
  exact hpk (by simp) H12 h12 (Frh.of_keeps hkk)
 intro hs
 rw [if_neg hs] at hpk hk
 refine qea.s (B := H1.size) (mvb := mvb) (cb := cb) h12 h.ps h.mb ((HAt.below h.ha).mono hk1.1) hk12.1 (hR.keep hk12) h64 hwl hO12 hin.len (fun e he => by have := hin.mem e he; exact ⟨this.1, by omega, this.2.2⟩) h.cl h.cb' ?_ ?_
 ·intro H' hH' f he'; exact hpk he' H' hH' ((Frh.of_keeps hkk).trans f)
 ·intro H' hH' f he'; exact hk he' H' hH' ((Frh.of_keeps hkk).trans f)
theorem qhq {pk : Value → AH → Prop} {k : AH → Prop} {off : Int} {x2 : Sl} {bs : List Int} (h : HOK H L pa pb pc pd s mvb cb) (ho : isI off) (hb : qli H x2 1 bU bs) (h8 : qbW bs)
  (hpk : (writeH pa pb pc pd s off bs).2 ≠ 0 → ∀ H', HA H' L pa pb pc pd (writeH pa pb pc pd s off bs).1 → Frh H H' L → pk (.iface 31 (.int .i64 (writeH pa pb pc pd s off bs).2)) H')
  (hk : (writeH pa pb pc pd s off bs).2 = 0 → ∀ H', HA H' L pa pb pc pd (writeH pa pb pc pd s off bs).1 → Frh H H' L → k H') : qbB (some ⟨L.h, 0, none⟩) off x2 H pk k := by
 obtain ⟨hwl, h64⟩ := qdb h.ha
 have hm := qJ.1 (HAt.may h.ha)
 refine qbB.link ?_
 unfold qbB.b
 unfold writeH at hpk hk
 refine qcN h.ha ?_ ?_
 ·intro hd H' hk'
  rw [if_pos hd] at hpk
  exact hpk (by simp) H' (HAt.keeps h.ha hk') (Frh.of_keeps hk')
 intro hd x H1 hk1 hO
 rw [if_neg (by simp [hd])] at hpk hk
 have hR := hO.rows (fun _ => rfl) (fun _ => rfl)
 refine qbS.s hR h64 (by omega) ho (hb.keep hk1) h8 ?_
 intro s12 H12 hk12 hO12
 have hkk := hk1.trans hk12
 have h12 : HA H12 L pa pb pc pd s := HAt.keeps h.ha hkk
 have hin := qd8 (ws := wordsH pa pb s.M) h64 (by omega) (off := off) (bs := bs)
 generalize imgWrite (wordsH pa pb s.M) off bs = A at *
 refine qY.s ?_ ?_
 ·intro he
  rw [if_pos he] at hpk
  exact hpk he H12 h12 (Frh.of_keeps hkk)
 intro he
 rw [if_neg (by simpa using he)] at hpk hk
 rw [own_n hO12, qj]
 by_cases hz : A.1.length = 0
 ·rw [if_pos (by simp only [beq_iff_eq]; omega)]
  rw [if_pos hz] at hk
  exact hk rfl H12 h12 (Frh.of_keeps hkk)
 rw [if_neg (by simp only [beq_iff_eq]; omega)]
 rw [if_neg hz] at hpk hk
 refine qcW h12 ?_ ?_
 ·intro hs
  rw [if_pos hs] at hpk
  exact hpk (by simp) H12 h12 (Frh.of_keeps hkk)
 intro hs
 rw [if_neg hs] at hpk hk
 refine qea.s (B := H1.size) (mvb := mvb) (cb := cb) h12 h.ps h.mb ((HAt.below h.ha).mono hk1.1) hk12.1 (hR.keep hk12) h64 hwl hO12 hin.len (fun e he => by have := hin.mem e he; exact ⟨this.1, by omega, this.2.2⟩) h.cl h.cb' ?_ ?_
 ·intro H' hH' f he'; exact hpk he' H' hH' ((Frh.of_keeps hkk).trans f)
 ·intro H' hH' f he'; exact hk he' H' hH' ((Frh.of_keeps hkk).trans f)
theorem qgk {pk : Value → AH → Prop} {k : AH → Prop} {off : Int} (h : HOK H L pa pb pc pd s mvb cb)
  (hpk : (setRootH pa pb s off).2 ≠ 0 → ∀ H', HA H' L pa pb pc pd (setRootH pa pb s off).1 → Frh H H' L → pk (.iface 31 (.int .i64 (setRootH pa pb s off).2)) H')
  (hk : (setRootH pa pb s off).2 = 0 → ∀ H', HA H' L pa pb pc pd (setRootH pa pb s off).1 → Frh H H' L → k H') : qak (some ⟨L.h, 0, none⟩) off H pk k := by
 obtain ⟨hwl, h64⟩ := qdb h.ha
 have hm := qJ.1 (HAt.may h.ha)
 refine qak.link ?_
 unfold qak.b
 unfold setRootH at hpk hk
 refine qcN h.ha ?_ ?_
 ·intro hd H' hk'
  rw [if_pos hd] at hpk
  exact hpk (by simp) H' (HAt.keeps h.ha hk') (Frh.of_keeps hk')
 intro hd x H1 hk1 hO
 rw [if_neg (by simp [hd])] at hpk hk
 have hR := hO.rows (fun _ => rfl) (fun _ => rfl)
 have h1 : HA H1 L pa pb pc pd s := HAt.keeps h.ha hk1
 have j1 : ∀ b : Bool, (b = true ↔ off ≠ 0 ∧ isUsed (wordsH pa pb s.M) off = false) → qak.j1 (some ⟨L.h, 0, none⟩) off k pk b H1 := by
  intro b hb
  unfold qak.j1
  rw [qj]
  by_cases hbt : b = true
  ·rw [if_pos hbt]
   rw [if_pos (hb.1 hbt)] at hpk
   exact hpk (by simp) H1 h1 (Frh.of_keeps hk1)
  rw [if_neg hbt]
  rw [if_neg (fun hh => hbt (hb.2 hh))] at hpk hk
  refine qcW h1 ?_ ?_
  ·intro hs
   rw [if_pos hs] at hpk
   exact hpk (by simp) H1 h1 (Frh.of_keeps hk1)
  intro hs
  rw [if_neg hs] at hpk hk
  rw [qd, HAt.c0 h1, qC]
  refine qz.g (M' := (s.M.set 2 (qkM .u64 off)).1) (r := (s.M.set 2 (qkM .u64 off)).2) (HAt.ga h1).tn.l.m (qhM off) rfl ?_
  intro H3 hm3 f3
  have h3 : HA H3 L pa pb pc pd { s with M := (s.M.set 2 (qkM .u64 off)).1 } := HAt.mset h1 hm3 f3 Mem.set_len (Mem.setH_mv (by omega))
  have ff := (Frh.of_keeps (L := L) hk1).trans (Frh.of_frm f3)
  exact qY.s (fun he => hpk he H3 h3 ff) (fun he => hk he H3 h3 ff)
 rw [qj]
 by_cases h0 : off = 0
 ·rw [if_neg (by simpa using h0)]
  exact j1 false ⟨fun hh => (by cases hh), fun hh => absurd h0 hh.1⟩
 ·rw [if_pos (by simpa using h0)]
  refine qb1.s hR h64 (by omega) ?_
  exact j1 _ ⟨fun hh => ⟨h0, by simpa using hh⟩, fun hh => by simpa using hh.2⟩
theorem qhT {pk : Value → AH → Prop} {k : Int → AH → Prop} (h : HA H L pa pb pc pd s)
  (h1 : s.M.down = true → pk (.iface 31 (.int .i64 2)) H) (h0 : s.M.down = false → k (rootN s.M) H) : qbc (some ⟨L.h, 0, none⟩) H pk k := qgu.s h h1 h0
end
set_option linter.unusedVariables false
set_option maxRecDepth 100000
def qr.j1 (o4 : Nat) (k : AH → Prop) (Hj : AH) : Prop :=
 ldA Hj ⟨o4, 0, none⟩ 3 fun c53 => (qk0 c53 = 3 ∧ List.all c53 qo = true) ∧ stC Hj ⟨o4, 0, none⟩ c53 fun Hs2 => k Hs2
def qr.r (x0 : Option Addr) (o3 : Nat) (o4 : Nat) (H : AH) (pk : Value → AH → Prop) (k : AH → Prop) : Prop :=
 elI .i64 (AH.cell? H (qkN ⟨o3, 0, none⟩ 0)) fun n10 => bcase ((n10 : Int) == (1 : Int)) (elI .i64 (AH.cell? H (qkN ⟨o3, 0, none⟩ 2)) fun n16 => qbD x0 n16 H (fun pv17 Hp17 => pk pv17 Hp17) fun n17 H17 => stC H17 (qkN ⟨o4, 0, none⟩ 1) [(qkL .i64 n17)] fun Hs4 => qr.j1 o4 k Hs4) (bcase ((n10 : Int) == (2 : Int)) (elI .i64 (AH.cell? H (qkN ⟨o3, 0, none⟩ 1)) fun n23 => qbQ x0 n23 H (fun pv24 Hp24 => pk pv24 Hp24) fun H24 => qr.j1 o4 k H24) (bcase ((n10 : Int) == (3 : Int)) (elI .i64 (AH.cell? H (qkN ⟨o3, 0, none⟩ 1)) fun n29 => elI .i64 (AH.cell? H (qkN ⟨o3, 0, none⟩ 2)) fun n31 => qbP x0 n29 n31 H (fun pv32 Hp32 => pk pv32 Hp32) fun s32 H32 => stC H32 (qkN ⟨o4, 0, none⟩ 2) [(Sl.val s32)] fun Hs6 => qr.j1 o4 k Hs6) (bcase ((n10 : Int) == (4 : Int)) (elI .i64 (AH.cell? H (qkN ⟨o3, 0, none⟩ 1)) fun n38 => elL (AH.cell? H (qkN ⟨o3, 0, none⟩ 4)) fun s40 => qbB x0 n38 s40 H (fun pv41 Hp41 => pk pv41 Hp41) fun H41 => qr.j1 o4 k H41) (bcase ((n10 : Int) == (5 : Int)) (elI .i64 (AH.cell? H (qkN ⟨o3, 0, none⟩ 1)) fun n46 => qak x0 n46 H (fun pv47 Hp47 => pk pv47 Hp47) fun H47 => qr.j1 o4 k H47) (bcase ((n10 : Int) == (6 : Int)) (qbc x0 H (fun pv51 Hp51 => pk pv51 Hp51) fun n51 H51 => stC H51 (qkN ⟨o4, 0, none⟩ 1) [(qkL .i64 n51)] fun Hs8 => qr.j1 o4 k Hs8) (stC H (qkN ⟨o4, 0, none⟩ 0) [(qkL .i64 (1 : Int))] fun Hs10 => qr.j1 o4 k Hs10))))))
def qr.ann : Ann := { keep := fun r => match r with  | _ => [], ord := fun r => match r with  | _ => [] }
def restOf (c : Option Code) : Code := match c with
 | some (.seq _ (.seq _ (.seq _ r))) => r
 | _ => .skip
def qr.Q (pk : Value → AH → Prop) (k : AH → Prop) : LExit → Fr → AH → Prop := fun e _ H => match e with
 | .normal => k H
 | .ret => k H
 | .pan v => pk v H
 | .exit _ => False
theorem qr.r_link {x0 : Option Addr} {o3 o4 : Nat} {H : AH} {pk : Value → AH → Prop} {k : AH → Prop} :
  wpC Tryz.prog T pan Tryz.f18.ntmps qr.ann (restOf Tryz.f18.body) (argFr [.pointer x0, undef, undef, .pointer (some ⟨o3, 0, none⟩), .pointer (some ⟨o4, 0, none⟩)]) H (qr.Q pk k) = qr.r x0 o3 o4 H pk k := by kernel_rfl
def doH (pa pb pc pd : Int) (s : HS) (K off n : Int) (bs : List Int) : HS × Int × Int × List Int :=
 if K = 1 then ((allocH pa pb pc pd s n).1, (allocH pa pb pc pd s n).2.1, (if (allocH pa pb pc pd s n).2.1 = 0 then (allocH pa pb pc pd s n).2.2 else 0), [])
 else if K = 2 then ((freeH pa pb pc pd s off).1, (freeH pa pb pc pd s off).2, 0, [])
 else if K = 3 then (s, (readH pa pb s off n).2, 0, (if (readH pa pb s off n).2 = 0 then (readH pa pb s off n).1 else []))
 else if K = 4 then ((writeH pa pb pc pd s off bs).1, (writeH pa pb pc pd s off bs).2, 0, [])
 else if K = 5 then ((setRootH pa pb s off).1, (setRootH pa pb s off).2, 0, [])
 else if K = 6 then (if s.M.down then (s, 2, 0, []) else (s, 0, rootN s.M, []))
 else (s, 1, 0, [])
def anObj (e off : Int) (x : Sl) (z : Nat) : AObj := ⟨[.int .i64 e, .int .i64 off, x.val], .rw, z⟩
def opObj (K off n mask : Int) (x : Sl) (z : Nat) : AObj := ⟨[.int .i64 K, .int .i64 off, .int .i64 n, .int .i64 mask, x.val], .rw, z⟩
section
variable {H H' : AH} {L : Pl} {pa pb pc pd : Int} {s : HS}
theorem HA.other (h : HA H L pa pb pc pd s) {o : Nat} (ho : o ≠ L.h ∧ o ≠ L.g ∧ o ≠ L.t ∧ o ≠ L.x ∧ o ≠ L.p ∧ o ≠ L.c ∧ o ≠ L.ct ∧ o ≠ L.q1 ∧ o ≠ L.q2) (g : ∀ b, b ≠ o → H'.get b = H.get b) (hs : H'.size = H.size) : HA H' L pa pb pc pd s := by
 obtain ⟨n1, n2, n3, n4, n5, n6, n7, n8, n9⟩ := ho
 have hga := HAt.ga h
 exact ⟨by rw [g _ n1.symm, HAt.hh h], by rw [hs]; exact HAt.lh h, HAt.may h, hga.other ⟨n2, n3, n5, n6, n4⟩ g hs,
  HAt.ca_keep h (by rw [hs]; exact qkV _) (fun b hb => g b (by rcases hb with rfl | rfl | rfl; exact n7.symm; exact n8.symm; exact n9.symm)), HAt.ne h, HAt.nc h, HAt.pages h⟩
end
section
variable {H H' : AH}
theorem an_row {H : AH} {o : Nat} {e off : Int} {x : Sl} {z : Nat} (hg : H.get o = anObj e off x z) : AH.row? H ⟨o, 0, none⟩ 3 = some [.int .i64 e, .int .i64 off, x.val] := by
 simp [AH.row?, hg, anObj, qo, Sl.val]
theorem an_put {H : AH} {o : Nat} {e off : Int} {x : Sl} {z : Nat} (hg : H.get o = anObj e off x z) : AH.put H ⟨o, 0, none⟩ [.int .i64 e, .int .i64 off, x.val] = H := by
 refine AH.ext' rfl fun b => ?_
 simp only [AH.put, qA]
 split
 ·rename_i hb; subst hb; rw [hg]; rfl
 ·rfl
theorem do_j1 {o4 : Nat} {k : AH → Prop} {e off : Int} {x : Sl} {z : Nat} (hg : H.get o4 = anObj e off x z) (hk : k H) : qr.j1 o4 k H := by
 unfold qr.j1
 rw [qs (an_row hg)]
 refine ⟨⟨rfl, by simp [qo, Sl.val]⟩, ?_⟩
 rw [qaL, an_put hg]
 exact ⟨⟨rfl, by rw [hg]; rfl, by rw [hg]; simp [anObj]⟩, hk⟩
theorem an_set {o : Nat} {e off : Int} {x : Sl} {z : Nat} (hg : H.get o = anObj e off x z) (i : Nat) (hi : i < 3) (v : Value) :
  AH.canPut H (qkN ⟨o, 0, none⟩ i) 1 ∧ (AH.put H (qkN ⟨o, 0, none⟩ i) [v]).get o = ⟨[qkL .i64 e, qkL .i64 off, x.val].set i v, .rw, z⟩ ∧
   (∀ b, b ≠ o → (AH.put H (qkN ⟨o, 0, none⟩ i) [v]).get b = H.get b) ∧ (AH.put H (qkN ⟨o, 0, none⟩ i) [v]).size = H.size := by
 rw [ql, qla]
 refine ⟨⟨rfl, by rw [hg]; rfl, by rw [hg]; simp [anObj]; omega⟩, ?_, fun b hb => ?_, rfl⟩
 ·simp only [AH.put, qA, if_true, hg, anObj, setMany]
 ·simp only [AH.put, qA]; rw [if_neg hb]
end
section
variable {H : AH} {L : Pl} {pa pb pc pd : Int} {s : HS} {mvb : Nat} {cb : Int}
theorem qjE {o3 o4 z3 z4 : Nat} {K off n mask : Int} {x : Sl} {bs : List Int} {pk : Value → AH → Prop} {k : AH → Prop} (h : HOK H L pa pb pc pd s mvb cb)
  (ho : o4 ≠ L.h ∧ o4 ≠ L.g ∧ o4 ≠ L.t ∧ o4 ≠ L.x ∧ o4 ≠ L.p ∧ o4 ≠ L.c ∧ o4 ≠ L.ct ∧ o4 ≠ L.q1 ∧ o4 ≠ L.q2) (hl4 : o4 < H.size)
  (h3 : H.get o3 = opObj K off n mask x z3) (h4 : H.get o4 = anObj 0 0 ⟨none, 0, 0⟩ z4) (hio : isI off) (hin : isI n) (hb : K = 4 → qli H x 1 bU bs ∧ qbW bs)
  (hpk : ∀ H', HA H' L pa pb pc pd (doH pa pb pc pd s K off n bs).1 → Frh H H' L → (doH pa pb pc pd s K off n bs).2.1 ≠ 0 → (doH pa pb pc pd s K off n bs).2.2 = (0, []) → pk (.iface 31 (.int .i64 (doH pa pb pc pd s K off n bs).2.1)) H')
  (hk : ∀ H' x', HA H' L pa pb pc pd (doH pa pb pc pd s K off n bs).1 → H.size ≤ H'.size → (∀ b, b < H.size → b ≠ L.h → b ≠ L.t → b ≠ L.p → b ≠ L.c → b ≠ L.q1 → b ≠ L.q2 → b ≠ o4 → H'.get b = H.get b) →
   H'.get o4 = anObj (doH pa pb pc pd s K off n bs).2.1 (doH pa pb pc pd s K off n bs).2.2.1 x' z4 → Own H.size H' x' 1 bU (doH pa pb pc pd s K off n bs).2.2.2 → k H') :
  qr.r (some ⟨L.h, 0, none⟩) o3 o4 H pk k := by
 have cell : ∀ i, AH.cell? H (qkN ⟨o3, 0, none⟩ i) = (opObj K off n mask x z3).cells[i]? := fun i => by
  rw [ql, qla]
  simp only [AH.cell?, h3, qk7, qkW, if_false]
  rw [if_neg (by simp [opObj])]
 have c0 : AH.cell? H (qkN ⟨o3, 0, none⟩ 0) = some (.int .i64 K) := cell 0
 have c1 : AH.cell? H (qkN ⟨o3, 0, none⟩ 1) = some (.int .i64 off) := cell 1
 have c2 : AH.cell? H (qkN ⟨o3, 0, none⟩ 2) = some (.int .i64 n) := cell 2
 have c4 : AH.cell? H (qkN ⟨o3, 0, none⟩ 4) = some x.val := cell 4
 have o4f : ∀ {H' : AH}, Frh H H' L → H'.get o4 = anObj 0 0 ⟨none, 0, 0⟩ z4 := fun f => by
  rw [f.get o4 hl4 ho.1 ho.2.2.1 ho.2.2.2.2.1 ho.2.2.2.2.2.1 ho.2.2.2.2.2.2.2.1 ho.2.2.2.2.2.2.2.2, h4]
 -- the end without a write of the answer
 have plain : ∀ (H' : AH), HA H' L pa pb pc pd (doH pa pb pc pd s K off n bs).1 → Frh H H' L → (doH pa pb pc pd s K off n bs).2 = (0, 0, []) → qr.j1 o4 k H' := by
  intro H' hH f he
  refine do_j1 (o4f f) ?_
  rw [he] at hk
  exact hk H' ⟨none, 0, 0⟩ hH f.size (fun b hb h1 h2 h3 h4 h5 h6 _ => f.get b hb h1 h2 h3 h4 h5 h6) (o4f f) (.inl ⟨rfl, rfl⟩)
 -- the end behind a write of a cell of the answer
 have wr : ∀ (H' : AH) (i : Nat) (v : Value) (x' : Sl), i < 3 → HA H' L pa pb pc pd (doH pa pb pc pd s K off n bs).1 → Frh H H' L →
   (⟨[qkL .i64 0, qkL .i64 0, (⟨none, 0, 0⟩ : Sl).val].set i v, .rw, z4⟩ : AObj) = anObj (doH pa pb pc pd s K off n bs).2.1 (doH pa pb pc pd s K off n bs).2.2.1 x' z4 →
   Own H.size H' x' 1 bU (doH pa pb pc pd s K off n bs).2.2.2 → stC H' (qkN ⟨o4, 0, none⟩ i) [v] fun Hs => qr.j1 o4 k Hs := by
  intro H' i v x' hi hH f hob hO
  obtain ⟨a1, a2, a3, a4⟩ := an_set (o4f f) i hi v
  rw [qaL]
  refine ⟨a1, ?_⟩
  rw [hob] at a2
  have hH2 := HA.other hH ho a3 a4
  have hO2 : Own H.size (AH.put H' (qkN ⟨o4, 0, none⟩ i) [v]) x' 1 bU (doH pa pb pc pd s K off n bs).2.2.2 := hO.keep (by rw [a4]; exact qkV _) (fun b hb _ => a3 b (by omega))
  generalize AH.put H' (qkN ⟨o4, 0, none⟩ i) [v] = H2 at *
  refine do_j1 a2 ?_
  exact hk H2 x' hH2 (by rw [a4]; exact f.size) (fun b hb h1 h2 h3 h4 h5 h6 h7 => (a3 b h7).trans (f.get b hb h1 h2 h3 h4 h5 h6)) a2 hO2
 unfold qr.r
 rw [c0, qg]
 simp only [qj, beq_iff_eq]
 unfold doH at hpk plain wr
 by_cases k1 : K = 1
 ·rw [if_pos k1]
  simp only [if_pos k1] at hpk plain wr
  rw [c2, qg]
  refine qg2 h hin ?_ ?_
  ·intro he H' hH f
   exact hpk H' hH f he (by rw [if_neg he])
  ·intro he H' hH f
   refine wr H' 1 _ ⟨none, 0, 0⟩ (by omega) hH f ?_ (.inl ⟨rfl, rfl⟩)
   rw [he, if_pos rfl]; rfl
 rw [if_neg k1]
 simp only [if_neg k1] at hpk plain wr
 by_cases k2 : K = 2
 ·rw [if_pos k2]
  simp only [if_pos k2] at hpk plain wr
  rw [c1, qg]
  refine qh2 h ?_ ?_
  ·intro he H' hH f; exact hpk H' hH f he trivial
  ·intro he H' hH f; exact plain H' hH f (by rw [he])
 rw [if_neg k2]
 simp only [if_neg k2] at hpk plain wr
 by_cases k3 : K = 3
 ·rw [if_pos k3]
  simp only [if_pos k3] at hpk plain wr
  rw [c1, qg, c2, qg]
  refine qih h.ha hio ?_ ?_
  ·intro he H' hk'; exact hpk H' (HAt.keeps h.ha hk') (Frh.of_keeps hk') he (by rw [if_neg he])
  ·intro he x' H' hk' hO
   refine wr H' 2 _ x' (by omega) (HAt.keeps h.ha hk') (Frh.of_keeps hk') ?_ (by rw [if_pos he]; exact hO)
   rw [he]; rfl
 rw [if_neg k3]
 simp only [if_neg k3] at hpk plain wr
 by_cases k4 : K = 4
 ·rw [if_pos k4]
  simp only [if_pos k4] at hpk plain wr
  obtain ⟨hR, h8⟩ := hb k4
  rw [c1, qg, c4]
  show elL (some (.slice x.a x.n x.k)) _
  rw [qaT]
  refine qhq h hio hR h8 ?_ ?_
  ·intro he H' hH f; exact hpk H' hH f he trivial
  ·intro he H' hH f; exact plain H' hH f (by rw [he])
 rw [if_neg k4]
 simp only [if_neg k4] at hpk plain wr
 by_cases k5 : K = 5
 ·rw [if_pos k5]
  simp only [if_pos k5] at hpk plain wr
  rw [c1, qg]
  refine qgk h ?_ ?_
  ·intro he H' hH f; exact hpk H' hH f he trivial
  ·intro he H' hH f; exact plain H' hH f (by rw [he])
 rw [if_neg k5]
 simp only [if_neg k5] at hpk plain wr
 by_cases k6 : K = 6
 ·rw [if_pos k6]
  simp only [if_pos k6] at hpk plain wr
  refine qhT h.ha ?_ ?_
  ·intro hd
   rw [if_pos hd] at hpk
   exact hpk H h.ha Frh.refl (by simp) rfl
  ·intro hd
   simp only [hd, qkW, if_false] at wr
   exact wr H 1 _ ⟨none, 0, 0⟩ (by omega) h.ha Frh.refl rfl (.inl ⟨rfl, rfl⟩)
 rw [if_neg k6]
 simp only [if_neg k6] at hpk plain wr
 exact wr H 0 _ ⟨none, 0, 0⟩ (by omega) h.ha Frh.refl rfl (.inl ⟨rfl, rfl⟩)
end
set_option maxRecDepth 100000
def qr.ann0 : Ann := { keep := fun r => match r with  | _ => [], ord := fun r => match r with  | _ => [] }
def boxOf (c : Option Code) : Code := match c with
 | some (.seq r _) => r
 | _ => .skip
def nilOf (c : Option Code) : Code := match c with
 | some (.seq _ (.seq r _)) => r
 | _ => .skip
def deferOf (c : Option Code) : Code := match c with
 | some (.seq _ (.seq _ (.seq r _))) => r
 | _ => .skip
def qr.Q0 (k0 : Value → Value → Value → AH → Prop) : LExit → Fr → AH → Prop := fun e fr H => match e with
 | .normal => k0 (fr 0) (fr 3) (fr 4) H
 | _ => False
def qr.Q1 (kr k : AH → Prop) : LExit → Fr → AH → Prop := fun e _ H => match e with
 | .normal => k H
 | .ret => kr H
 | _ => False
theorem qr.box_link {x0 : Option Addr} {x1 : List Value} {H : AH} {k0 : Value → Value → Value → AH → Prop} :
  wpC Tryz.prog T pan Tryz.f18.ntmps qr.ann0 (boxOf Tryz.f18.body) (argFr [.pointer x0, .agg (List.toArray x1)]) H (qr.Q0 k0) =
  (newC H ⟨x1, .rw, 0⟩ fun o3 H3 => newC H3 ⟨[(qkL .i64 (0 : Int)), (qkL .i64 (0 : Int)), (qk2 none 0 0)], .rw, 0⟩ fun o4 H4 => k0 (qkR x0) (qkR (some ⟨o3, 0, none⟩)) (qkR (some ⟨o4, 0, none⟩)) H4) := by kernel_rfl
theorem qr.nil_link {x0 : Option Addr} {o3 o4 : Nat} {H : AH} {kr k : AH → Prop} :
  wpC Tryz.prog T pan Tryz.f18.ntmps qr.ann0 (nilOf Tryz.f18.body) (argFr [.pointer x0, undef, undef, .pointer (some ⟨o3, 0, none⟩), .pointer (some ⟨o4, 0, none⟩)]) H (qr.Q1 kr k) =
  (bcase (Option.isNone x0) ((qk0 [(qkL .i64 (1 : Int)), (qkL .i64 (0 : Int)), (qk2 none 0 0)] = 3 ∧ List.all [(qkL .i64 (1 : Int)), (qkL .i64 (0 : Int)), (qk2 none 0 0)] qo = true) ∧ stC H ⟨o4, 0, none⟩ [(qkL .i64 (1 : Int)), (qkL .i64 (0 : Int)), (qk2 none 0 0)] fun Hs2 => kr Hs2) (k H)) := by kernel_rfl
theorem qr.body_eq : Tryz.f18.body = some (.seq (boxOf Tryz.f18.body) (.seq (nilOf Tryz.f18.body) (.seq (deferOf Tryz.f18.body) (restOf Tryz.f18.body)))) := by kernel_rfl
end Go.Proofs.YtdcbkjgoaknmkaaGreat
