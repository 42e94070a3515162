/- Lemmas for the law: an abstract machine, and what the functions do on it. No condition. -/
import Derived.Test.YtdcbkjgoaknmkaaGreatFT0
import Derived.Laws.IdiomCopy
import Derived.Below
import Derived.RowKit3
set_option linter.all false
open Go.World renaming cell?_setCell_other → qmL
open Array renaming getElem?_eq_none → qm7
namespace Go.Abs
open Go.RowKit
theorem qey (w : World) (a : Addr) (u : Value) (k : Nat) (h : k ≠ a.block) : (w.setCell a u).heap[k]? = w.heap[k]? :=
 Below.heap_setCell w a u k h
section
variable {W w : World} {φ : Emb} {H : AH}
theorem Rel.set (R : Rel W φ H w) {b o : Nat} {B : Blk} (hb : φ b = some B) (hm : (H.get b).md = .rw) (ho : o < (H.get b).cells.length) {v v' : Value}
  (hv : VRel φ v v') : Rel W φ (H.upd b { (H.get b) with cells := (H.get b).cells.set o v }) (w.setCell ⟨B.c,o,none⟩ v') := by
 obtain ⟨hc,hroom,hesz⟩ := R.room b B hb hm
 have hcell0 : ∃ u,w.cell? ⟨B.c,o,none⟩ = some u := by
  obtain ⟨u,hu,_⟩ := R.cell b B hb (by simp [hm]) o _ (List.getElem?_eq_getElem ho)
  exact ⟨u,hu⟩
 refine { below := ?_,size := ?_,tape := R.tape,os := R.os,output := R.output,froz := ?_,dom := ?_,cell := ?_,room := ?_,own := ?_,out := ?_ }
 ·intro k hk
  rw [qey _ _ _ _ (by simp; omega)]
  exact R.below k hk
 ·simpa using R.size
 ·intro x X hx i; rw [World.frozen?_setCell]; exact R.froz x X hx i
 ·intro b' B' hb'
  have := R.dom b' B' hb'
  simpa [AH.upd] using this
 ·intro b' B' hb' hd i x hx
  by_cases hbb : b' = b
  ·subst hbb
   rw [hb] at hb'
   obtain rfl : B = B' := by simpa using hb'
   simp only [AH.upd,if_true] at hx
   by_cases hio : o = i
   ·subst hio
    rw [List.getElem?_set_self ho] at hx
    obtain rfl : v = x := by simpa using hx
    obtain ⟨u,hu⟩ := hcell0
    exact ⟨v',World.cell?_setCell_same _ _ _ hu,hv⟩
   ·rw [List.getElem?_set_ne hio] at hx
    rw [qmL _ _ _ _ (by simpa using hio)]
    exact R.cell b' B hb (by simp [hm]) i x hx
  ·simp only [AH.upd,hbb,if_false] at hx hd
   have hne : B.c ≠ B'.c := by
    intro he
    rcases R.own b B hb hm b' B' hb' he.symm with h | h
    ·exact hbb h
    ·exact hd h
   rw [qmL _ _ _ _ (by simp; intro h; exact absurd h hne)]
   exact R.cell b' B' hb' hd i x hx
 ·intro b' B' hb' hm'
  have hm'' : (H.get b').md = .rw := by
   by_cases hbb : b' = b
   ·subst hbb; exact hm
   ·simpa [AH.upd,hbb] using hm'
  obtain ⟨h1,h2,h3⟩ := R.room b' B' hb' hm''
  refine ⟨h1,fun i hi => ?_,?_⟩
  ·obtain ⟨u,hu⟩ := h2 i hi
   by_cases he : (⟨B.c,o,none⟩ : Addr) = ⟨B'.c,i,none⟩
   ·rw [← he] at hu ⊢; exact ⟨v',World.cell?_setCell_same _ _ _ hu⟩
   ·exact ⟨u,by rw [qmL _ _ _ _ he]; exact hu⟩
  ·by_cases hbb : b' = b
   ·subst hbb; simpa [AH.upd] using h3
   ·simpa [AH.upd,hbb] using h3
 ·intro b' B' hb' hm' b'' B'' hb'' he
  have md_eq : ∀ x,((H.upd b { (H.get b) with cells := (H.get b).cells.set o v }).get x).md = (H.get x).md := by
   intro x; by_cases hx : x = b
   ·subst hx; simp [AH.upd]
   ·simp [AH.upd,hx]
  rw [md_eq] at hm' ⊢
  exact R.own b' B' hb' hm' b'' B'' hb'' he
 ·intro x hx
  have hne : x ≠ b := fun e => by subst e; have := (R.dom x B hb).1; simp only [AH.upd] at hx; omega
  simp only [AH.upd,hne,if_false]
  exact R.out x hx
theorem Rel.setMany' (b : Nat) (B : Blk) (hb : φ b = some B) : ∀ (vs vs' : List Value) (o : Nat) {H : AH} {w : World} (_ : Rel W φ H w) (_ : (H.get b).md = .rw)
  (_ : o + vs.length ≤ (H.get b).cells.length) (_ : vs.length = vs'.length) (_ : ∀ (j : Nat) (v v' : Value),vs[j]? = some v → vs'[j]? = some v' → VRel φ v v'),
  Rel W φ (H.upd b { (H.get b) with cells := setMany (H.get b).cells o vs }) (w.setCells B.c o vs')
 | [],[],o,H,w,R,hm,hl,_,_ => by
  have : H.upd b { (H.get b) with cells := setMany (H.get b).cells o [] } = H := by
   cases H with
   | mk s g =>
    simp only [AH.upd,setMany,AH.mk.injEq,true_and]
    funext x; by_cases hx : x = b
    ·subst hx; simp
    ·simp [hx]
  rw [this]
  exact R
 | [],_ :: _,_,_,_,_,_,_,h,_ => by simp at h
 | _ :: _,[],_,_,_,_,_,_,h,_ => by simp at h
 | v :: vs,v' :: vs',o,H,w,R,hm,hl,hlen,hv => by
  simp only [List.length_cons] at hl hlen
  have R1 := R.set hb hm (o := o) (by omega) (hv 0 v v' rfl rfl)
  have ih := Rel.setMany' b B hb vs vs' (o + 1) R1 (by simp [AH.upd,hm]) (by simp [AH.upd]; omega) (by omega) (fun j x x' hx hx' => hv (j + 1) x x' hx hx')
  have e : (H.upd b { (H.get b) with cells := (H.get b).cells.set o v }).upd b { ((H.upd b { (H.get b) with cells := (H.get b).cells.set o v }).get b) with cells := setMany ((H.upd b { (H.get b) with cells := (H.get b).cells.set o v }).get b).cells (o + 1) vs } = H.upd b { (H.get b) with cells := setMany (H.get b).cells o (v :: vs) } := by
   cases H with
   | mk s g =>
    simp only [AH.upd,setMany,AH.mk.injEq,true_and,if_true]
    funext x; by_cases hx : x = b
    ·simp [hx]
    ·simp [hx]
  rw [e] at ih
  exact ih
theorem Rel.fresh (R : Rel W φ H w) : φ H.size = none := by
 cases h : φ H.size with
 | none => rfl
 | some B => exact absurd (R.dom _ _ h).1 (Nat.lt_irrefl _)
theorem Rel.push (R : Rel W φ H w) (o : AObj) : Rel W φ (H.push o) w := by
 have hf := R.fresh
 have key : ∀ b B,φ b = some B → (H.push o).get b = H.get b := by
  intro b B hb
  have : b ≠ H.size := fun h => by subst h; rw [hf] at hb; cases hb
  simp [AH.push,this]
 refine { below := R.below,size := R.size,tape := R.tape,os := R.os,output := R.output,froz := R.froz,dom := ?_,cell := ?_,room := ?_,own := ?_,out := ?_ }
 ·intro b B hb
  have := R.dom b B hb
  simp only [AH.push]; omega
 ·intro b B hb hd i v hv; rw [key b B hb] at hd hv; exact R.cell b B hb hd i v hv
 ·intro b B hb hm; rw [key b B hb] at hm ⊢; exact R.room b B hb hm
 ·intro b B hb hm b' B' hb' he; rw [key b B hb] at hm; rw [key b' B' hb']; exact R.own b B hb hm b' B' hb' he
 ·intro x hx
  simp only [AH.push] at hx
  have hne : x ≠ H.size := by omega
  simp only [AH.push,hne,if_false]
  exact R.out x (by omega)
theorem Rel.kill (R : Rel W φ H w) (b : Nat) : Rel W φ (H.kill b) w := by
 have key : ∀ x,((H.kill b).get x).md ≠ .dead → (H.kill b).get x = H.get x := by
  intro x hx
  by_cases h : x = b
  ·subst h; simp [AH.kill,AH.upd] at hx
  ·simp [AH.kill,AH.upd,h]
 have dead : ∀ x,(H.get x).md = .dead → ((H.kill b).get x).md = .dead := by
  intro x hx
  by_cases h : x = b
  ·subst h; simp [AH.kill,AH.upd]
  ·simp [AH.kill,AH.upd,h,hx]
 refine { below := R.below,size := R.size,tape := R.tape,os := R.os,output := R.output,froz := R.froz,dom := ?_,cell := ?_,room := ?_,own := ?_,out := fun x hx => dead x (R.out x hx) }
 ·intro x B hb; exact R.dom x B hb
 ·intro x B hb hd i v hv; have hk := key x hd; rw [hk] at hd hv; exact R.cell x B hb hd i v hv
 ·intro x B hb hm
  have hx := key x (by simp [hm])
  rw [hx] at hm ⊢; exact R.room x B hb hm
 ·intro x B hb hm b' B' hb' he
  have hx := key x (by simp [hm])
  rw [hx] at hm
  rcases R.own x B hb hm b' B' hb' he with h | h
  ·exact .inl h
  ·exact .inr (dead b' h)
theorem Rel.drew (R : Rel W φ H w) : Rel W φ H w.drew :=
 { below := R.below,size := R.size,tape := R.tape,os := R.os,output := R.output,froz := R.froz,dom := R.dom,cell := R.cell,room := R.room,own := R.own,out := R.out }
def Emb.add (φ : Emb) (b : Nat) (B : Blk) : Emb := fun x => if x = b then some B else φ x
theorem Emb.le_add {φ : Emb} {b : Nat} {B : Blk} (h : φ b = none) : φ.le (φ.add b B) := by
 intro x X hx
 have : x ≠ b := fun e => by subst e; rw [h] at hx; cases hx
 simp [Emb.add,this,hx]
theorem Rel.lay (R : Rel W φ H w) {b : Nat} (hb : φ b = none) (hlt : b < H.size) (cs : Array Value) (e : TypeId)
  (hmd : (H.get b).md = .rw) (hlen : (H.get b).cells.length ≤ cs.size)
  (hv : ∀ i v,(H.get b).cells[i]? = some v → VRel (φ.add b ⟨w.heap.size,cs.size,(H.get b).esz⟩) v (cs.getD i undef)) :
  Rel W (φ.add b ⟨w.heap.size,cs.size,(H.get b).esz⟩) H (w.alloc (.cells cs e)) := by
 have hle := Emb.le_add (φ := φ) (B := ⟨w.heap.size,cs.size,(H.get b).esz⟩) hb
 have cases' : ∀ x X,(φ.add b ⟨w.heap.size,cs.size,(H.get b).esz⟩) x = some X → (x = b ∧ X = ⟨w.heap.size,cs.size,(H.get b).esz⟩) ∨ (x ≠ b ∧ φ x = some X ∧ X.c < w.heap.size) := by
  intro x X hx
  by_cases h : x = b
  ·subst h; simp [Emb.add] at hx; exact .inl ⟨rfl,hx.symm⟩
  ·simp [Emb.add,h] at hx; exact .inr ⟨h,hx,(R.dom _ _ hx).2⟩
 refine { below := ?_,size := ?_,tape := R.tape,os := R.os,output := R.output,froz := ?_,dom := ?_,cell := ?_,room := ?_,own := ?_,out := R.out }
 ·intro k hk
  rw [Below.heap_alloc _ _ _ (Nat.lt_of_lt_of_le hk R.size)]
  exact R.below k hk
 ·simp; exact Nat.le_succ_of_le R.size
 ·intro x X hx i
  rw [frozen?_alloc_cells]
  rcases cases' x X hx with ⟨rfl,rfl⟩ | ⟨_,hx,hc⟩
  ·have h1 : w.heap[w.heap.size]? = none := qm7 (Nat.le_refl _)
   have h2 : W.heap[w.heap.size]? = none := qm7 R.size
   simp only [World.frozen?,h1,h2]
  ·exact R.froz x X hx i
 ·intro x X hx
  rcases cases' x X hx with ⟨rfl,rfl⟩ | ⟨_,hx,hc⟩
  ·simp [hlt]
  ·simp; exact ⟨(R.dom _ _ hx).1,by omega⟩
 ·intro x X hx hd i v hi
  rcases cases' x X hx with ⟨rfl,rfl⟩ | ⟨_,hx,hc⟩
  ·have hi' : i < cs.size := by
    have := (List.getElem?_eq_some_iff.1 hi).1; omega
   refine ⟨cs.getD i undef,?_,hv i v hi⟩
   rw [World.cell?_alloc_new]
   simp [hi']
  ·obtain ⟨v',h1,h2⟩ := R.cell x X hx hd i v hi
   exact ⟨v',by rw [World.cell?_alloc_lt _ _ _ (by simpa using hc)]; exact h1,h2.mono hle⟩
 ·intro x X hx hm
  rcases cases' x X hx with ⟨rfl,rfl⟩ | ⟨_,hx,hc⟩
  ·refine ⟨R.size,fun i hi => ⟨cs.getD i undef,?_⟩,.inr rfl⟩
   simp only at hi
   rw [World.cell?_alloc_new]
   simp [hi]
  ·obtain ⟨h1,h2,h3⟩ := R.room x X hx hm
   exact ⟨h1,fun i hi => by rw [World.cell?_alloc_lt _ _ _ (by simpa using hc)]; exact h2 i hi,h3⟩
 ·intro x X hx hm y Y hy he
  rcases cases' x X hx with ⟨rfl,rfl⟩ | ⟨_,hx,hc⟩ <;> rcases cases' y Y hy with ⟨rfl,rfl⟩ | ⟨_,hy,hc'⟩
  ·exact .inl rfl
  ·simp at he; omega
  ·simp at he; omega
  ·exact R.own x X hx hm y Y hy he
theorem Rel.over (R : Rel W φ H w) {b b' : Nat} {B : Blk} (hb : φ b = none) (hlt : b < H.size) (hb' : φ b' = some B)
  (hd : ∀ x X,φ x = some X → X.c = B.c → (H.get x).md = .dead) (hW : W.heap.size ≤ B.c) (hroom : ∀ i,i < B.m → ∃ v,w.cell? ⟨B.c,i,none⟩ = some v)
  (hmd : (H.get b).md = .rw) (hesz : (H.get b).esz = B.sz)
  (hv : ∀ i v,(H.get b).cells[i]? = some v → ∃ v',w.cell? ⟨B.c,i,none⟩ = some v' ∧ VRel φ v v') :
  Rel W (φ.add b B) H w := by
 have hle := Emb.le_add (φ := φ) (B := B) hb
 have cases' : ∀ x X,(φ.add b B) x = some X → (x = b ∧ X = B) ∨ (x ≠ b ∧ φ x = some X) := by
  intro x X hx
  by_cases h : x = b
  ·subst h; simp [Emb.add] at hx; exact .inl ⟨rfl,hx.symm⟩
  ·simp [Emb.add,h] at hx; exact .inr ⟨h,hx⟩
 refine { below := R.below,size := R.size,tape := R.tape,os := R.os,output := R.output,froz := ?_,dom := ?_,cell := ?_,room := ?_,own := ?_,out := R.out }
 ·intro x X hx i
  rcases cases' x X hx with ⟨rfl,rfl⟩ | ⟨_,hx⟩
  ·exact R.froz _ _ hb' i
  ·exact R.froz _ _ hx i
 ·intro x X hx
  rcases cases' x X hx with ⟨rfl,rfl⟩ | ⟨_,hx⟩
  ·exact ⟨hlt,(R.dom _ _ hb').2⟩
  ·exact R.dom _ _ hx
 ·intro x X hx hdd i v hi
  rcases cases' x X hx with ⟨rfl,rfl⟩ | ⟨_,hx⟩
  ·obtain ⟨v',h1,h2⟩ := hv i v hi; exact ⟨v',h1,h2.mono hle⟩
  ·obtain ⟨v',h1,h2⟩ := R.cell x X hx hdd i v hi; exact ⟨v',h1,h2.mono hle⟩
 ·intro x X hx hm
  rcases cases' x X hx with ⟨rfl,rfl⟩ | ⟨_,hx⟩
  ·exact ⟨hW,hroom,.inr hesz⟩
  ·exact R.room x X hx hm
 ·intro x X hx hm y Y hy he
  rcases cases' x X hx with ⟨rfl,rfl⟩ | ⟨_,hx⟩ <;> rcases cases' y Y hy with ⟨rfl,rfl⟩ | ⟨_,hy⟩
  ·exact .inl rfl
  ·exact .inr (hd _ _ hy he)
  ·exfalso; have h0 := hd _ _ ‹φ x = some X› he.symm; rw [hm] at h0; cases h0
  ·exact R.own x X hx hm y Y hy he
end
end Go.Abs
