/- Lemmas for the law: an abstract machine, and what the functions do on it. No condition. -/
import Derived.Test.YtdcbkjgoaknmkaaGreatFT3
import Derived.Laws.AppendOwn
set_option linter.all false
open List renaming getElem?_eq_getElem → qlK,getD_eq_getElem?_getD → qlM,getElem?_eq_none → qlR,getElem?_eq_some_iff → qlT,getElem?_map → qlW,mem_of_getElem? → qlX,mem_append → ql2,mem_cons → ql6,getElem?_append_right → ql8,getElem?_append_left → qmd,getElem?_range → qmh,length_eq_zero_iff → qmk,all_eq_true → qmu,map_cons → qmv,range → qmA,append_of_mem → qm9,mem_append_left → qnf
open Nat renaming le_refl → qlS,zero_add → ql3,le_trans → qmM,mul_le_mul_right → qmZ
open Array renaming getD_eq_getD_getElem? → ql9,replicate → qnn
open Go.Op renaming operands → qmg
open Go.Builtin renaming zeroCells → qmG
open Go.World renaming cell?_setCell_other → qmL,cell?_setCells_out → qnj
open Bool renaming and_eq_true → qm4,not_eq_true' → qnd
open Go.Region renaming wanted → qni
namespace Go.Abs
def stC (H : AH) (a : Addr) (vs : List Value) (k : AH → Prop) : Prop := H.canPut a vs.length ∧ k (H.put a vs)
def limS (z : Nat) : Nat := if z = 1 then 5864062014805 else if z = 5 then 2513169434916 else 4294967296
theorem limS_le (z : Nat) : lim ≤ limS z := by unfold lim limS; split <;> (try split) <;> omega
theorem le_limS {n : Nat} (h : n ≤ lim) (z : Nat) : n ≤ limS z := qmM h (limS_le z)
def appendC (size : Nat) (H : AH) (x y : Sl) (k : Sl → AH → Prop) : Prop :=
 x.n + y.n ≤ limS size ∧
 if y.n = 0 then k x H else
 ∃ ys,H.rowS? y size = some ys ∧
  match x.a with
  | none => k ⟨newAt H.size,x.n + y.n,1⟩ (H.push ⟨ys,.rw,size⟩)
  | some a => (a.spot = none ∧ a.off = 0 ∧ x.k = 1 ∧ (H.get a.block).md = .rw ∧ (H.get a.block).cells.length = x.n * size ∧ (H.get a.block).esz = size) ∧
   k ⟨newAt H.size,x.n + y.n,1⟩ ((H.kill a.block).push ⟨(H.get a.block).cells ++ ys,.rw,size⟩)
def copyC (size : Nat) (H : AH) (x y : Sl) (k : Int → AH → Prop) : Prop :=
 if Nat.min y.n x.n = 0 then k 0 H else
 ∃ ys,H.rowS? ⟨y.a,Nat.min y.n x.n,y.k⟩ size = some ys ∧ onPtr x.a fun a => stC H a ys fun H' => k (Nat.min y.n x.n : Nat) H'
def appendElem (T : Nat → TyE) (ts : List TypeId) : Option TypeId :=
 match ts with
 | [t,u] =>
  match (T t).k,(T t).sub,decide (t = u) with
  | .sl,.elem e,true => if (T e).k = .bad ∨ (T e).size = 0 ∨ (T e).zero.length ≠ (T e).size ∨ (T e).bytes * limS (T e).size > 140737488355328 then none else some e
  | _,_,_ => none
 | _ => none
def effOp (T : Nat → TyE) (ρ : Operand → Value) (op : Op) (H : AH) (k : Value → AH → Prop) : Prop :=
 match op with
 | .store t a x =>
  match ρ a with
  | .pointer p => onPtr p fun a =>
   match (T t).k,ρ x with
   | .bad,_ => False
   | .agg,.agg arr => (arr.toList.length = (T t).size ∧ arr.toList.all qo = true) ∧ stC H a arr.toList fun H' => k undef H'
   | .agg,_ => False
   | _,.agg _ => False
   | _,.tuple _ => False
   | _,v => if (T t).size = 1 then stC H a [v] fun H' => k undef H' else False
  | _ => False
 | .call c =>
  match c.callee with
  | .builtin .append =>
   match appendElem T c.argTypes.toList,c.args.toList with
   | some e,[x,y] =>
    match ρ x,ρ y with
    | .slice a n k',.slice a' n' k'' => appendC (T e).size H ⟨a,n,k'⟩ ⟨a',n',k''⟩ fun s H' => k s.val H'
    | _,_ => False
   | _,_ => False
  | .builtin .copy =>
   match appendElem T c.argTypes.toList,c.args.toList with
   | some e,[x,y] =>
    match ρ x,ρ y with
    | .slice a n k',.slice a' n' k'' => copyC (T e).size H ⟨a,n,k'⟩ ⟨a',n',k''⟩ fun i H' => k (.int .i64 i) H'
    | _,_ => False
   | _,_ => False
  | _ => False
 | _ => False
section
variable {P : Program} {T : Nat → TyE}
theorem Rel.cells {W w : World} {φ : Emb} {H : AH} (R : Rel W φ H w) {b : Nat} {B : Blk} (hb : φ b = some B) (hd : (H.get b).md ≠ .dead) :
  ∃ cs' : List Value,LRel φ (H.get b).cells cs' ∧ ∀ j v,cs'[j]? = some v → w.cell? ((⟨B.c,0,none⟩ : Addr).add j) = some v := by
 refine ⟨(qmA (H.get b).cells.length).map fun j => ((w.cell? ⟨B.c,j,none⟩).getD undef),⟨by simp,?_⟩,?_⟩
 ·intro i x y hx hy
  have hi : i < (H.get b).cells.length := (List.getElem?_eq_some_iff.1 hx).1
  obtain ⟨v',h1,h2⟩ := R.cell b B hb hd i x hx
  simp [qlW,qmh hi,h1] at hy
  subst hy
  exact h2
 ·intro j v hv
  have hi : j < (H.get b).cells.length := by
   have := (List.getElem?_eq_some_iff.1 hv).1
   simpa using this
  obtain ⟨v',h1,_⟩ := R.cell b B hb hd j _ (qlK hi)
  simp [qlW,qmh hi,h1] at hv
  subst hv
  rw [qdd]
  simpa using h1
theorem Rel.unfrozen {W w : World} {φ : Emb} {H : AH} (R : Rel W φ H w) {b : Nat} {B : Blk} (hb : φ b = some B) (h : W.heap.size ≤ B.c) (i : Nat) : w.frozen? ⟨B.c,i,none⟩ = false := by
 rw [R.froz b B hb]
 unfold World.frozen?
 have : W.heap[B.c]? = none := Array.getElem?_eq_none h
 simp [this]
theorem Rel.scribble {W : World} {φ : Emb} {H : AH} {c : Nat} (hW : W.heap.size ≤ c) (hd : ∀ x X,φ x = some X → X.c = c → (H.get x).md = .dead) :
  ∀ (vs : List Value) (o : Nat) {w : World},Rel W φ H w → Rel W φ H (w.setCells c o vs)
 | [],_,_,R => R
 | v :: vs,o,w,R => by
  refine Rel.scribble hW hd vs (o + 1) (w := w.setCell ⟨c,o,none⟩ v) ?_
  have ne : ∀ x X,φ x = some X → (H.get x).md ≠ .dead → c ≠ X.c := fun x X hx hn he => hn (hd x X hx he.symm)
  refine { below := ?_,size := by simpa using R.size,tape := R.tape,os := R.os,output := R.output,froz := ?_,dom := ?_,cell := ?_,room := ?_,own := R.own,out := R.out }
  ·intro k hk
   rw [qey _ _ _ _ (by simp; omega)]
   exact R.below k hk
  ·intro x X hx i; rw [World.frozen?_setCell]; exact R.froz x X hx i
  ·intro x X hx; simpa using R.dom x X hx
  ·intro x X hx hn i u hu
   rw [qmL _ _ _ _ (by simp; intro h; exact absurd h (ne x X hx hn))]
   exact R.cell x X hx hn i u hu
  ·intro x X hx hm
   obtain ⟨h1,h2,h3⟩ := R.room x X hx hm
   refine ⟨h1,fun i hi => ?_,h3⟩
   obtain ⟨u,hu⟩ := h2 i hi
   exact ⟨u,by rw [qmL _ _ _ _ (by simp; intro h; exact absurd h (ne x X hx (by simp [hm])))]; exact hu⟩
theorem Rel.put {W w : World} {φ : Emb} {H : AH} (R : Rel W φ H w) {b o : Nat} {B : Blk} (hb : φ b = some B) {vs vs' : List Value} (hcan : H.canPut ⟨b,o,none⟩ vs.length) (hl : LRel φ vs vs') (h1 : ∀ v ∈ vs',v.oneCell' = true) :
  Rel W φ (H.put ⟨b,o,none⟩ vs) (w.setCells B.c o vs') ∧ (storeCells ⟨B.c,o,none⟩ vs' 0).run P w = .ok () (w.setCells B.c o vs') := by
 obtain ⟨_,hm,hlen⟩ := hcan
 refine ⟨Rel.setMany' b B hb vs vs' o R hm hlen hl.1 (fun j v v' hv hv' => hl.2 j v v' hv hv'),?_⟩
 obtain ⟨hW,_,_⟩ := R.room b B hb hm
 have := run_storeCells_cells (P := P) B.c o vs' 0 w (fun j hj => by
   have hj' : o + j < (H.get b).cells.length := by rw [← hl.1] at hj; simp at hlen; omega
   obtain ⟨v',hv',_⟩ := R.cell b B hb (by simp [hm]) (o + j) _ (qlK hj')
   simp [hv'])
  (fun j _ => R.unfrozen hb hW _) h1
 simpa using this
theorem qdA {w : World} (c : Nat) : ∀ (vs : List Value) (o : Nat),(∀ j,j < vs.length → ∃ u,w.cell? ⟨c,o + j,none⟩ = some u) →
  ∀ j (h : j < vs.length),(w.setCells c o vs).cell? ⟨c,o + j,none⟩ = some vs[j] := by
 intro vs
 induction vs generalizing w with
 | nil => intro o _ j h; simp at h
 | cons v vs ih =>
  intro o hc j h
  simp only [World.setCells]
  cases j with
  | zero =>
   rw [qnj _ _ _ _ _ (by intro _ _; simp)]
   obtain ⟨u,hu⟩ := hc 0 (by simp)
   exact World.cell?_setCell_same _ _ _ hu
  | succ j =>
   have := ih (w := w.setCell ⟨c,o,none⟩ v) (o + 1) (fun j hj => by
    obtain ⟨u,hu⟩ := hc (j + 1) (by simpa using hj)
    refine ⟨u,?_⟩
    rw [qmL _ _ _ _ (by simp; omega)]
    rw [show o + 1 + j = o + (j + 1) by omega]
    exact hu) j (by simpa using h)
   rw [show o + 1 + j = o + (j + 1) by omega] at this
   simpa using this
theorem Hist.put {φ : Emb} {H : AH} {b o : Nat} {B : Blk} (hb : φ b = some B) (vs : List Value) : Hist φ H φ (H.put ⟨b,o,none⟩ vs) := by
 refine ⟨Emb.le_refl φ,qlS _,fun _ _ h => h,fun x _ hn => ?_⟩
 have : x ≠ b := fun e => by subst e; rw [hb] at hn; cases hn
 simp [AH.put,AH.upd,this]
theorem qez (hT : qW P T) {ts : List TypeId} {e : TypeId} (h : appendElem T ts = some e) :
  ∃ t,ts = [t,t] ∧ P.underlying t = some (.slice e) ∧ (T e).k ≠ .bad ∧ (T e).size ≠ 0 ∧ (T e).zero.length = (T e).size ∧ (T e).bytes * limS (T e).size ≤ 140737488355328 := by
 unfold appendElem at h
 split at h
 ·rename_i t u
  split at h
  ·rename_i e' hk hs hd
   split at h
   ·cases h
   ·rename_i hc
    simp only [not_or,Nat.not_lt,Decidable.not_not] at hc
    injection h with h
    subst h
    obtain ⟨e'',hu,hse⟩ := hT.sl hk
    rw [hs] at hse
    injection hse with hse
    subst hse
    have : t = u := by simpa using hd
    subst this
    exact ⟨t,rfl,hu,hc.1,hc.2.1,hc.2.2.1,hc.2.2.2⟩
  ·cases h
 ·cases h
theorem Rel.rowS {W w : World} {φ : Emb} {H : AH} (R : Rel W φ H w) {s : Sl} {size : Nat} {ys : List Value} (h : H.rowS? s size = some ys) (hn : s.n ≠ 0) {v' : Value} (hv : VRel φ s.val v') :
  ∃ b B o c ys',s.a = some ⟨b,o,none⟩ ∧ φ b = some B ∧ v' = .slice (some ⟨B.c,o,none⟩) s.n c ∧ ys.length = s.n * size ∧ LRel φ ys ys' ∧
   (∀ j v,ys'[j]? = some v → w.cell? ((⟨B.c,o,none⟩ : Addr).add j) = some v) ∧ (∀ v ∈ ys',v.oneCell' = true) := by
 obtain ⟨sa,sn,sk⟩ := s
 simp only at hn
 unfold AH.rowS? at h
 simp only [hn,if_false] at h
 unfold Sl.val at hv
 simp only at hv
 cases hv with
 | sl0 => exact absurd rfl hn
 | @sl b B o _ _ k' hb hle hk =>
  obtain ⟨ys',h1,h2,h3⟩ := R.row hb h
  exact ⟨b,B,o,k',ys',rfl,hb,rfl,(AH.row?_cell h).2.1,h1,h2,h3⟩
 | sle a a' k' => exact absurd rfl hn
theorem LRel.append {φ : Emb} {xs ys xs' ys' : List Value} (h : LRel φ xs ys) (h' : LRel φ xs' ys') : LRel φ (xs ++ xs') (ys ++ ys') := by
 refine ⟨by simp [h.1,h'.1],fun i x y hx hy => ?_⟩
 by_cases hi : i < xs.length
 ·rw [qmd hi] at hx
  rw [qmd (by rw [← h.1]; exact hi)] at hy
  exact h.2 i x y hx hy
 ·rw [ql8 (by omega)] at hx
  rw [ql8 (by rw [← h.1]; omega)] at hy
  rw [← h.1] at hy
  exact h'.2 _ x y hx hy
end
section
variable {P : Program} {T : Nat → TyE}
theorem qeP (z : Array Value) (n : Nat) : (qmG z n).size = n * z.size := by simp [qmG]
theorem qfH (hT : qW P T) {t e : TypeId} (hu : P.underlying t = some (.slice e)) (he : (T e).k ≠ .bad) (hsz : (T e).size ≠ 0) (hzl : (T e).zero.length = (T e).size) (hby : (T e).bytes * limS (T e).size ≤ 140737488355328)
    {H : AH} {x y : Sl} {k : Sl → AH → Prop} (h : appendC (T e).size H x y k) {W w : World} {φ : Emb} (R : Rel W φ H w) {x' y' : Value} (hx : VRel φ x.val x') (hy : VRel φ y.val y') (ty : TypeId) :
    ∃ v' w' s φ' H',(Builtin.append_ #[t,t] ty #[x',y']).run P w = .ok v' w' ∧ Hist φ H φ' H' ∧ VRel φ' s.val v' ∧ Rel W φ' H' w' ∧ k s H' := by
  obtain ⟨hlim,h⟩ := h
  obtain ⟨i,hi,his,hib,z,hz,hzc⟩ := hT.size he
  have hzs : z.cells.size = (T e).size := by have := congrArg List.length hzc; simp at this; omega
  split at h
  · rename_i hy0
    refine ⟨x',w,x,φ,H,?_,Hist.refl φ H,hx,R,h⟩
    obtain ⟨ya,yn,yk⟩ := y
    simp only at hy0
    subst hy0
    have hyl : ∃ a c,y' = .slice a 0 c := by
      unfold Sl.val at hy; simp only at hy
      cases hy <;> exact ⟨_,_,rfl⟩
    obtain ⟨a,c,rfl⟩ := hyl
    have hfc : ∀ w,(Builtin.firstCells i.size 0 (.slice a 0 c)).run P w = .ok #[] w := by
      intro w; cases a <;> simp [Builtin.firstCells,loadCells,loadCellsFrom]
    obtain ⟨xa,xn,xk⟩ := x
    unfold Sl.val at hx; simp only at hx
    cases hx with
    | sl0 => simp [Builtin.append_,run_underlying hu,sizeOf,typeInfo,hi,Builtin.lenOf,hfc]
    | sl o _ _ k' hb hn hk => simp [Builtin.append_,run_underlying hu,sizeOf,typeInfo,hi,Builtin.lenOf,hfc,hn,storeCells]
    | sle a0 a' k' => simp [Builtin.append_,run_underlying hu,sizeOf,typeInfo,hi,Builtin.lenOf,hfc,storeCells]
  · rename_i hy0
    obtain ⟨ys,hrow,h⟩ := h
    obtain ⟨yb,yB,yo,yc,ys',hya,hyb,rfl,hyl,hyr,hycell,hy1⟩ := R.rowS hrow hy0 hy
    have hyl' : ys'.length = y.n * i.size := by rw [← hyr.1,hyl,his]
    obtain ⟨xa,xn,xk⟩ := x
    have hbytes : (xn + y.n) * i.bytes ≤ 140737488355328 := by
      rw [hib]
      calc (xn + y.n) * (T e).bytes ≤ limS (T e).size * (T e).bytes := qmZ _ hlim
        _ ≤ 140737488355328 := by rw [Nat.mul_comm]; exact hby
    have hsmall : xn + y.n ≤ 5864062014805 := by
      refine qmM hlim ?_
      show limS (T e).size ≤ _
      unfold limS; split <;> (try split) <;> omega
    split at h
    · rename_i hxa
      simp only at hxa hlim
      subst hxa
      unfold Sl.val at hx; simp only at hx
      generalize hxv : Value.slice none xn xk = xv at hx
      cases hx <;> cases hxv
      have hrun := run_append_nil (P := P) w t ty e i z hu hi hz ⟨yB.c,yo,none⟩ y.n yc ys' hyl' hycell (by omega) (by omega) (by simp at hbytes; omega)
      have R1 := (R.push ⟨ys,.rw,(T e).size⟩).drew
      have hfresh := R.fresh
      have hlay := qc1 (cs := ys'.toArray ++ qmG z.cells (grownCap w y.n 0 e - y.n)) R1 (b := H.size) (by simp [AH.push]) hfresh e (cells := ys) (esz := (T e).size) (by simp [AH.push])
        (by have := hyr.1; simp; omega) (fun j v hj => by
          have hlt : j < ys'.length := by rw [← hyr.1]; exact (List.getElem?_eq_some_iff.1 hj).1
          have : (ys'.toArray ++ qmG z.cells (grownCap w y.n 0 e - y.n)).getD j undef = ys'[j] := by
            simp [Array.getElem?_append,hlt,qlK hlt]
          rw [this]
          exact hyr.2 j v _ hj (qlK hlt))
      have hcap := grownCap_ge w y.n 0 e
      refine ⟨_,_,⟨newAt H.size,0 + y.n,1⟩,_,_,hrun,?_,?_,hlay,h⟩
      · refine ⟨Emb.le_add hfresh,by simp [AH.push],fun b hb hn => ?_,fun b hb _ => ?_⟩
        · have : b ≠ H.size := by omega
          simp [Emb.add,this,hn]
        · have : b ≠ H.size := by omega
          simp [AH.push,this]
      · simp only [ql3]
        refine .sl 0 y.n 1 _ (Emb.add_self _ _ _) hcap (.inr ?_)
        simp only [World.size_drew,ql3,Array.size_append,List.size_toArray,qeP,hzs,hyl',his]
        rw [← Nat.add_mul]
        have : y.n + (grownCap w y.n 0 e - y.n) = grownCap w y.n 0 e := by omega
        rw [this]
        exact qlS _
    · rename_i a hxa
      simp only at hxa
      subst hxa
      obtain ⟨⟨hspot,hoff,hk1,hm,hcl,hesz⟩,h⟩ := h
      simp only at hk1 hcl hlim
      subst hk1
      unfold Sl.val at hx; simp only at hx
      generalize hxv : Value.slice (some a) xn 1 = xv at hx
      cases hx with
      | @sl b B o _ _ k' hb hn hkk =>
        injection hxv with h1 h2 h3
        injection h1 with h1
        subst h1 h2
        simp only at hoff hspot hm hcl hesz h
        subst hoff
        obtain ⟨hW,hroom,hes⟩ := R.room b B hb hm
        have hBsz : B.sz = (T e).size := by
          rcases hes with hes | hes
          · exact absurd (hesz ▸ hes) hsz
          · rw [← hes,hesz]
        have hkk' : k' * (T e).size ≤ B.m := by rcases hkk with h0 | h0
                                                · omega
                                                · rw [hBsz] at h0; omega
        obtain ⟨xs',hxr,hxcell⟩ := R.cells hb (by simp [hm])
        have hfresh : φ H.size = none := R.fresh
        have hbne : b ≠ H.size := fun e => by rw [← e,hb] at hfresh; cases hfresh
        have hkill : (H.kill b).size = H.size := rfl
        have R1 : Rel W φ ((H.kill b).push ⟨(H.get b).cells ++ ys,.rw,(T e).size⟩) w := (R.kill b).push _
        have hdead : ∀ x X,φ x = some X → X.c = B.c → (((H.kill b).push ⟨(H.get b).cells ++ ys,.rw,(T e).size⟩).get x).md = .dead := by
          intro x X hx hc
          have hxs : x ≠ H.size := fun e => by rw [e,hfresh] at hx; cases hx
          simp only [AH.push,hkill,hxs,if_false]
          by_cases hxb : x = b
          · subst hxb; simp [AH.kill,AH.upd]
          · rcases R.own b B hb hm x X hx hc with h0 | h0
            · exact absurd h0 hxb
            · simp [AH.kill,AH.upd,hxb,h0]
        have hist : ∀ B',Hist φ H (φ.add H.size B') ((H.kill b).push ⟨(H.get b).cells ++ ys,.rw,(T e).size⟩) := by
          intro B'
          refine ⟨Emb.le_add hfresh,by simp [AH.push,hkill],fun x hx hn => ?_,fun x hx hn => ?_⟩
          · have : x ≠ H.size := by omega
            simp [Emb.add,this,hn]
          · have h1 : x ≠ H.size := by omega
            have h2 : x ≠ b := fun e => by rw [e,hb] at hn; cases hn
            simp [AH.push,hkill,h1,AH.kill,AH.upd,h2]
        by_cases hfit : xn + y.n ≤ k'
        · -- there is room
          have hf := run_firstCells_some (P := P) w i.size y.n ⟨yB.c,yo,none⟩ y.n yc ys' hyl' hycell
          have hidx : ∀ j,j < ys'.length → xn * i.size + j < B.m := by
            intro j hj
            rw [hyl',his] at hj
            rw [his]
            have : xn * (T e).size + y.n * (T e).size ≤ k' * (T e).size := by rw [← Nat.add_mul]; exact qmZ _ hfit
            omega
          have hst := run_storeCells_cells (P := P) B.c (xn * i.size) ys' 0 w (fun j hj => by
              obtain ⟨v,hv⟩ := hroom (xn * i.size + j) (hidx j hj)
              simp [hv]) (fun j _ => R.unfrozen hb hW _) hy1
          simp only [Nat.add_zero] at hst
          have hrun : (Builtin.append_ #[t,t] ty #[.slice (some ⟨B.c,0,none⟩) xn k',.slice (some ⟨yB.c,yo,none⟩) y.n yc]).run P w = .ok (.slice (some ⟨B.c,0,none⟩) (xn + y.n) k') (w.setCells B.c (xn * i.size) ys') := by
            simp [Builtin.append_,run_underlying hu,sizeOf,typeInfo,hi,Builtin.lenOf,hfit,hf,qdd,hst]
          have R2 := Rel.scribble hW hdead ys' (xn * i.size) R1
          have hget : ((H.kill b).push ⟨(H.get b).cells ++ ys,.rw,(T e).size⟩).get H.size = ⟨(H.get b).cells ++ ys,.rw,(T e).size⟩ := by simp [AH.push,hkill]
          have R3 := R2.over (b := H.size) (b' := b) (B := B) hfresh (by simp [AH.push,hkill]) hb hdead hW (fun j hj => by
              obtain ⟨v,hv⟩ := hroom j hj
              by_cases hin : xn * i.size ≤ j ∧ j < xn * i.size + ys'.length
              · have : ∃ u,(w.setCells B.c (xn * i.size) ys').cell? ⟨B.c,j,none⟩ = some u := by
                  have := qdA (w := w) B.c ys' (xn * i.size) (fun j hj => by obtain ⟨v,hv⟩ := hroom (xn * i.size + j) (hidx j hj); exact ⟨v,hv⟩) (j - xn * i.size) (by omega)
                  rw [show xn * i.size + (j - xn * i.size) = j by omega] at this
                  exact ⟨_,this⟩
                exact this
              · exact ⟨v,by rw [qnj _ _ _ _ _ (by intro _ _; simp; omega)]; exact hv⟩)
            (by rw [hget]) (by rw [hget]; exact hBsz.symm) (by
              rw [hget]
              intro j v hj
              simp only at hj
              by_cases hlt : j < (H.get b).cells.length
              · rw [qmd hlt] at hj
                obtain ⟨v',hv',hvr⟩ := R.cell b B hb (by simp [hm]) j v hj
                refine ⟨v',?_,hvr⟩
                rw [qnj _ _ _ _ _ (by intro _ _; simp; left; rw [his,← hcl]; exact hlt)]
                exact hv'
              · rw [ql8 (by omega)] at hj
                have hj' : j - (H.get b).cells.length < ys'.length := by rw [← hyr.1]; exact (List.getElem?_eq_some_iff.1 hj).1
                have := qdA (w := w) B.c ys' (xn * i.size) (fun j hj => by obtain ⟨v,hv⟩ := hroom (xn * i.size + j) (hidx j hj); exact ⟨v,hv⟩) (j - (H.get b).cells.length) hj'
                have e1 : xn * i.size + (j - (H.get b).cells.length) = j := by rw [his,← hcl]; omega
                rw [e1] at this
                exact ⟨_,this,hyr.2 _ v _ hj (qlK hj')⟩)
          refine ⟨_,_,⟨newAt H.size,xn + y.n,1⟩,_,_,hrun,hist B,?_,R3,h⟩
          exact .sl 0 (xn + y.n) 1 k' (Emb.add_self _ _ _) hfit (.inr (by rw [hBsz]; omega))
        · -- a new block
          have hrun := run_append_grow (P := P) w t ty e i z hu hi hz ⟨B.c,0,none⟩ xn k' xs' (by rw [← hxr.1,hcl,his]) hxcell ⟨yB.c,yo,none⟩ y.n yc ys' hyl' hycell (by omega) (by omega)
            (growslice_fits (by omega) hbytes)
          have hcap := grownCap_ge w (xn + y.n) k' e
          have hlay := qc1 (cs := xs'.toArray ++ ys'.toArray ++ qmG z.cells (grownCap w (xn + y.n) k' e - (xn + y.n))) R1.drew (b := H.size) (by simp [AH.push,hkill]) hfresh e
            (cells := (H.get b).cells ++ ys) (esz := (T e).size) (by simp [AH.push,hkill])
            (by have h1 := hyr.1; have h2 := hxr.1; simp; omega) (fun j v hj => by
              have hlt : j < (xs' ++ ys').length := by
                have h1 := (hxr.append hyr).1
                rw [← h1]; exact (List.getElem?_eq_some_iff.1 hj).1
              have : (xs'.toArray ++ ys'.toArray ++ qmG z.cells (grownCap w (xn + y.n) k' e - (xn + y.n))).getD j undef = (xs' ++ ys')[j] := by
                have h0 : (xs'.toArray ++ ys'.toArray ++ qmG z.cells (grownCap w (xn + y.n) k' e - (xn + y.n)))[j]? = (xs' ++ ys')[j]? := by
                  simp only [List.append_toArray]
                  rw [Array.getElem?_append_left (by simpa using hlt)]
                  simp
                simp only [ql9,h0,qlK hlt,Option.getD_some]
              rw [this]
              exact (hxr.append hyr).2 j v _ hj (qlK hlt))
          refine ⟨_,_,⟨newAt H.size,xn + y.n,1⟩,_,_,hrun,hist _,?_,hlay,h⟩
          refine .sl 0 (xn + y.n) 1 _ (Emb.add_self _ _ _) hcap (.inr ?_)
          have h1 := hxr.1
          have h2 := hyr.1
          simp only [ql3,Array.size_append,List.size_toArray,qeP,hzs,← h1,← h2,hcl,hyl]
          rw [← Nat.add_mul,← Nat.add_mul]
          have : xn + y.n + (grownCap w (xn + y.n) k' e - (xn + y.n)) = grownCap w (xn + y.n) k' e := by omega
          rw [this]
          exact qlS _
      | sl0 => cases hxv
      | sle a0 a' k' => cases hxv
      | _ => cases hxv
end
section
variable {P : Program} {T : Nat → TyE}
theorem qjU (hT : qW P T) {t e : TypeId} (hu : P.underlying t = some (.slice e)) (he : (T e).k ≠ .bad)
  {H : AH} {x y : Sl} {k : Int → AH → Prop} (h : copyC (T e).size H x y k) {W w : World} {φ : Emb} (R : Rel W φ H w) {x' y' : Value} (hx : VRel φ x.val x') (hy : VRel φ y.val y') (ty : TypeId) :
  ∃ (n : Int) (w' : World) (H' : AH),(Builtin.copy_ #[t,t] ty #[x',y']).run P w = .ok (.int .i64 n) w' ∧ Hist φ H φ H' ∧ Rel W φ H' w' ∧ k n H' := by
 obtain ⟨i,hi,his,_⟩ := hT.size he
 have shape : ∀ (s : Sl) (v : Value),VRel φ s.val v → ∃ a c,v = .slice a s.n c := by
  intro s v hv
  obtain ⟨sa,sn,sk⟩ := s
  unfold Sl.val at hv; simp only at hv
  cases hv <;> exact ⟨_,_,rfl⟩
 unfold copyC at h
 split at h
 ·rename_i h0
  refine ⟨0,w,H,?_,Hist.refl φ H,R,h⟩
  obtain ⟨a,c,rfl⟩ := shape x x' hx
  obtain ⟨a',c',rfl⟩ := shape y y' hy
  have hl : ∀ (x : Addr),(loadCells x 0).run P w = .ok #[] w := fun x => by simpa using run_loadCells_list (P := P) w x [] (by simp)
  cases a <;> cases a' <;> simp [Builtin.copy_,run_underlying hu,Builtin.lenOf,Builtin.firstCells,sizeOf,typeInfo,hi,h0,storeCells,hl,goInt]
 ·rename_i h0
  obtain ⟨ys,hrow,h⟩ := h
  obtain ⟨a,hxa,hcan,h⟩ := qcL h
  obtain ⟨c',a',hy'⟩ := shape y y' hy
  have hyv : VRel φ (Sl.val ⟨y.a,Nat.min y.n x.n,y.k⟩) (match y' with | .slice a n c => .slice a (Nat.min y.n x.n) c | v => v) := by
   obtain ⟨ya,yn,yk⟩ := y
   unfold Sl.val at hy ⊢; simp only at hy ⊢ h0
   have hle : Nat.min yn x.n ≤ yn := Nat.min_le_left _ _
   cases hy with
   | sl0 => simp at h0
   | sl o _ _ k' hb hn hk => exact .sl _ _ _ _ hb (qmM hle hn) hk
   | sle a a' k' => simp at h0
  obtain ⟨yb,yB,yo,yc,ys',hya,hyb,hyv',hyl,hyr,hycell,hy1⟩ := R.rowS hrow h0 hyv
  subst hy'
  simp only at hyv'
  injection hyv' with e1 e2 e3
  subst e1 e3
  obtain ⟨xa,xn,xk⟩ := x
  simp only at hxa
  subst hxa
  unfold Sl.val at hx; simp only at hx h0 hyl h
  generalize hxv : Value.slice (some a) xn xk = xv at hx
  cases hx with
  | @sl b B o _ _ k' hb hn hkk =>
   injection hxv with h1 h2 h3
   injection h1 with h1
   subst h1 h2 h3
   obtain ⟨R2,hst⟩ := R.put (P := P) hb hcan hyr hy1
   refine ⟨_,_,_,?_,Hist.put hb ys,R2,h⟩
   have hl : (loadCells ⟨yB.c,yo,none⟩ (Nat.min y.n xn * (T e).size)).run P w = .ok ys'.toArray w := by
    rw [← hyl,hyr.1]
    exact run_loadCells_list w _ ys' hycell
   rw [← his] at hl
   simp [Builtin.copy_,run_underlying hu,Builtin.lenOf,Builtin.firstCells,sizeOf,typeInfo,hi,hl,hst,goInt]
  | sle a0 a'' k' =>
   have : Nat.min y.n 0 = 0 := Nat.min_zero _
   injection hxv with _ h2 _
   subst h2
   exact absurd this h0
  | sl0 => cases hxv
  | _ => cases hxv
theorem qkj (hT : qW P T) {ρ : Operand → Value} {o : Oper} {H : AH} {k : Value → AH → Prop} (h : effOp T ρ o.op H k) {φ : Emb} {ρ' : Operand → Value} (hr : ∀ x ∈ o.op.operands,VRel φ (ρ x) (ρ' x))
  {W w : World} (R : Rel W φ H w) :
  ∃ r w' v v' φ' H',(execOp ρ' o).run P w = .ok r w' ∧ (r = .value v' ∨ (r = .skip ∧ v' = undef)) ∧ Hist φ H φ' H' ∧ VRel φ' v v' ∧ Rel W φ' H' w' ∧ k v H' := by
 obtain ⟨dst,op,type,pos,after,guard⟩ := o
 simp only at h hr
 cases op with
 | store t a x =>
  simp only [effOp] at h
  split at h
  ·rename_i p hp
   obtain ⟨a0,rfl,h⟩ := qcL h
   have har := hr a (by simp [qmg])
   have hxr := hr x (by simp [qmg])
   rw [hp] at har
   obtain ⟨b,B,o,rfl,hb,hae⟩ := qc5 har
   have scalar : ∀ (v : Value),ρ x = v → qo v = true → (T t).k ≠ .bad → (T t).size = 1 → stC H ⟨b,o,none⟩ [v] (fun H' => k undef H') →
     ∃ r w' v v' φ' H',(execOp ρ' { dst,op := .store t a x,type,pos,after,guard }).run P w = .ok r w' ∧ (r = .value v' ∨ (r = .skip ∧ v' = undef)) ∧ Hist φ H φ' H' ∧ VRel φ' v v' ∧ Rel W φ' H' w' ∧ k v H' := by
    intro v hv hok hnb hs1 ⟨hcan,hk⟩
    rw [hv] at hxr
    have hone : (ρ' x).oneCell' = true := hxr.oneCell hok
    have hcells : (ρ' x).cells = #[ρ' x] := by
     generalize ρ' x = q at hone
     cases q <;> first | rfl | (simp [Value.oneCell'] at hone)
    obtain ⟨R2,hst⟩ := R.put (P := P) (vs := [v]) (vs' := [ρ' x]) hb hcan ⟨rfl,fun i x0 y0 hx0 hy0 => by
      cases i with
      | zero => simp at hx0 hy0; subst hx0 hy0; exact hxr
      | succ i => simp at hx0⟩ (by simpa using hone)
    refine ⟨.skip,_,undef,undef,φ,_,?_,.inr ⟨rfl,rfl⟩,Hist.put hb [v],.undef _,R2,hk⟩
    simp [execOp,Instr.storeAt,hae,Instr.sureAddr,storeVar,hcells,qbC hT hnb,hs1,hst]
   split at h
   ·exact h.elim
   ·rename_i arr hk hxv
    obtain ⟨⟨hlen,hall⟩,hcan,hkv⟩ := h
    rw [hxv] at hxr
    generalize hx' : ρ' x = x' at hxr
    cases hxr with
    | agg _ bs h1 h2 =>
     have hl := LRel.of_arr h1 h2
     obtain ⟨R2,hst⟩ := R.put (P := P) (vs := arr.toList) (vs' := bs.toList) hb hcan hl (fun v hv => by
      obtain ⟨j,hj⟩ := List.mem_iff_getElem?.1 hv
      have hlt : j < arr.toList.length := by rw [hl.1]; exact (List.getElem?_eq_some_iff.1 hj).1
      exact (hl.2 j _ v (qlK hlt) hj).oneCell (List.all_eq_true.1 hall _ (List.getElem_mem hlt)))
     refine ⟨.skip,_,undef,undef,φ,_,?_,.inr ⟨rfl,rfl⟩,Hist.put hb _,.undef _,R2,hkv⟩
     have hsz : bs.size = (T t).size := by have := hl.1; simp at this hlen; omega
     simp [execOp,Instr.storeAt,hae,Instr.sureAddr,storeVar,hx',Value.cells,qbC hT (t := t) (by simp [hk]),hsz,hst]
   ·exact h.elim
   ·exact h.elim
   ·exact h.elim
   ·rename_i hnb _ hnag hag _
    split at h
    ·rename_i hs1
     refine scalar (ρ x) rfl ?_ (fun hb => hnb hb) hs1 h
     generalize hq : ρ x = q
     cases q <;> first | rfl | (exact absurd hq (hnag _)) | (exact absurd hq (hag _))
    ·exact h.elim
  ·exact h.elim
 | call c =>
  obtain ⟨callee,args,argTypes⟩ := c
  simp only [effOp] at h
  split at h
  ·split at h
   ·rename_i e x y hel hargs
    obtain ⟨t,hts,hu,he,hsz,hzl,hby⟩ := qez hT hel
    split at h
    ·rename_i a n k' a' n' k'' hx hy
     have hxm : x ∈ (Op.call { callee := .builtin .append,args,argTypes }).operands := by
      simp only [qmg,Call.operands,Array.mem_append]
      exact .inr (Array.mem_toList_iff.1 (by rw [hargs]; simp))
     have hym : y ∈ (Op.call { callee := .builtin .append,args,argTypes }).operands := by
      simp only [qmg,Call.operands,Array.mem_append]
      exact .inr (Array.mem_toList_iff.1 (by rw [hargs]; simp))
     have hxr := hr x hxm
     have hyr := hr y hym
     rw [hx] at hxr
     rw [hy] at hyr
     obtain ⟨v',w',s,φ',H',h1,h2,h3,h4,h5⟩ := qfH hT hu he hsz hzl hby h R hxr hyr type
     refine ⟨.value v',w',_,v',φ',H',?_,.inl rfl,h2,h3,h4,h5⟩
     have e1 : argTypes = #[t,t] := by apply Array.ext'; simpa using hts
     have e2 : args.map ρ' = #[ρ' x,ρ' y] := by apply Array.ext'; simp [hargs]
     simp [execOp,resolve,invoke,builtin,e1,e2,h1]
    ·exact h.elim
   ·exact h.elim
  ·split at h
   ·rename_i e x y hel hargs
    obtain ⟨t,hts,hu,he,hsz,hzl,hby⟩ := qez hT hel
    split at h
    ·rename_i a n k' a' n' k'' hx hy
     have hxm : x ∈ (Op.call { callee := .builtin .copy,args,argTypes }).operands := by
      simp only [qmg,Call.operands,Array.mem_append]
      exact .inr (Array.mem_toList_iff.1 (by rw [hargs]; simp))
     have hym : y ∈ (Op.call { callee := .builtin .copy,args,argTypes }).operands := by
      simp only [qmg,Call.operands,Array.mem_append]
      exact .inr (Array.mem_toList_iff.1 (by rw [hargs]; simp))
     have hxr := hr x hxm
     have hyr := hr y hym
     rw [hx] at hxr
     rw [hy] at hyr
     obtain ⟨n,w',H',h1,h2,h4,h5⟩ := qjU hT hu he h R hxr hyr type
     refine ⟨.value (.int .i64 n),w',_,_,φ,H',?_,.inl rfl,h2,.int _ _,h4,h5⟩
     have e1 : argTypes = #[t,t] := by apply Array.ext'; simpa using hts
     have e2 : args.map ρ' = #[ρ' x,ρ' y] := by apply Array.ext'; simp [hargs]
     simp [execOp,resolve,invoke,builtin,e1,e2,h1]
    ·exact h.elim
   ·exact h.elim
  ·exact h.elim
 | _ => simp [effOp] at h
end
variable {Ds : List Deferred}
inductive LEnd where
 | ret (v : Value)
 | pan (v : Value)
def qcR (φ : Emb) : LEnd → Ending → Prop
 | .ret v,.returned v' => VRel φ v v'
 | .pan v,.panicked chain => ∃ v',chain = [{ v := v',recovered := false }] ∧ VRel φ v v'
 | _,_ => False
def enterable (P : Program) (f : FuncId) : Bool :=
 match P.funcs[f]? with
 | some fn => !(fn.name == "runtime.NumGoroutine") && fn.body.isSome
 | none => false
def qh (P : Program) (f : FuncId) (args : List Value) (H : AH) (Q : LEnd → AH → Prop) : Prop :=
 enterable P f = true ∧
 ∀ (W w : World) (φ : Emb) (args' : Array Value),LRel φ args args'.toList → Rel W φ H w →
  Calls P f args' w fun e w' => ∃ le φ' H',Hist φ H φ' H' ∧ qcR φ' le e ∧ Rel W φ' H' w' ∧ Q le H'
theorem qh.mono {P : Program} {f : FuncId} {args : List Value} {H : AH} {Q Q' : LEnd → AH → Prop} (h : qh P f args H Q) (hq : ∀ e H,Q e H → Q' e H) : qh P f args H Q' :=
 ⟨h.1,fun W w φ args' hl R => (h.2 W w φ args' hl R).mono fun _ _ ⟨le,φ',H',h1,h2,h3,h4⟩ => ⟨le,φ',H',h1,h2,h3,hq _ _ h4⟩⟩
def elA (v : Value) (k : List Value → Prop) : Prop := ∃ cs : List Value,v = .agg cs.toArray ∧ k cs
def valC (T : Nat → TyE) (t : TypeId) (v : Value) (k : Value → Prop) : Prop :=
 match (T t).k with
 | .agg => elA v fun cs => k (.agg cs.toArray)
 | κ => elim κ (some v) k
def ret2 (v : Value) (k : Value → Value → Prop) : Prop := ∃ a b,v = .tuple #[a,b] ∧ k a b
def ret3 (v : Value) (k : Value → Value → Value → Prop) : Prop := ∃ a b c,v = .tuple #[a,b,c] ∧ k a b c
def retC (T : Nat → TyE) (t : TypeId) (v : Value) (k : Value → Prop) : Prop :=
 match (T t).sub with
 | .tup [] => k undef
 | .tup [t1,t2] => ret2 v fun a b => valC T t1 a fun a' => valC T t2 b fun b' => k (.tuple #[a',b'])
 | .tup [t1,t2,t3] => ret3 v fun a b c => valC T t1 a fun a' => valC T t2 b fun b' => valC T t3 c fun c' => k (.tuple #[a',b',c'])
 | .tup _ => False
 | _ => valC T t v k
def endC (T : Nat → TyE) (may : Bool) (t : TypeId) (e : LEnd) (k pk : Value → Prop) : Prop :=
 match e with
 | .ret v => retC T t v k
 | .pan v => if may = true then pk v else False
def isCtl (op : Op) : Bool :=
 match op with
 | .call c => match c.callee with
  | .value _ => true
  | _ => false
 | .panic _ => true
 | _ => false
def ctlOp (P : Program) (T : Nat → TyE) (pan : Nat → Bool) (ρ : Operand → Value) (op : Op) (t : TypeId) (H : AH) (k : Value → AH → Prop) (pk : Value → AH → Prop) : Prop :=
 match op with
 | .call c =>
  match c.callee with
  | .value f =>
   match ρ f with
   | .func (.func g) first captured =>
    qh P g (first.toList ++ c.args.toList.map ρ ++ captured.toList) H fun e H' => endC T (pan g) t e (fun v => k v H') (fun v => pk v H')
   | _ => False
  | _ => False
 | .panic x =>
  match ρ x with
  | .iface t v => pk (.iface t v) H
  | _ => False
 | _ => False
def isEff (op : Op) : Bool :=
 match op with
 | .store _ _ _ => true
 | .call c => match c.callee with
  | .builtin .append => true
  | .builtin .copy => true
  | _ => false
 | _ => false
def opStep (P : Program) (T : Nat → TyE) (pan : Nat → Bool) (ρ : Operand → Value) (o : Oper) (H : AH) (k pk : Value → AH → Prop) : Prop :=
 if isLoad T o.op = true then loadOp T ρ o.op H fun v _ => k v H
 else if isAlloc o.op = true then allocOp T ρ o.op H.size fun v ob => k v (H.push ob)
 else if isEff o.op = true then effOp T ρ o.op H k
 else if isCtl o.op = true then ctlOp P T pan ρ o.op o.type H k pk
 else qcq T ρ o.op fun v => k v H
def dstOK (n : Nat) : Option Nat → Bool
 | none => true
 | some d => Nat.blt d n
def guardC (ops : Array Oper) (o : Oper) (fr : Fr) (yes no : Fr → Prop) : Prop :=
 match o.guard with
 | none => yes fr
 | some (j,want) =>
  match (ops.toList[j]?).bind (·.dst) with
  | none => False
  | some d =>
   match fr d with
   | .bool g =>
    bcase g (bcase want (yes (frput fr (some d) (.bool true))) (no (frput fr (some d) (.bool true))))
     (bcase want (no (frput fr (some d) (.bool false))) (yes (frput fr (some d) (.bool false))))
   | .tuple xs => match xs.toList with
    | [] => False
    | _ :: _ => no fr
   | _ => False
def wpS (P : Program) (T : Nat → TyE) (pan : Nat → Bool) (n : Nat) (ops : Array Oper) (K : Fr → AH → Prop) (PK : Value → AH → Prop) : List Oper → Fr → AH → Prop
 | [],fr,H => K fr H
 | o :: rest,fr,H =>
  if dstOK n o.dst = true then
   guardC ops o fr
    (fun fr => opStep P T pan (ev fr) o H (fun v H' => wpS P T pan n ops K PK rest (frput fr o.dst v) H') PK)
    (fun fr => wpS P T pan n ops K PK rest (frput fr o.dst skipV) H)
  else False
section
variable {P : Program} {T : Nat → TyE}
theorem qdR {t : TypeId} {v : Value} {k : Value → Prop} (h : valC T t v k) : k v := by
 unfold valC at h
 split at h
 ·obtain ⟨cs,rfl,hk⟩ := h; exact hk
 ·obtain ⟨x,hx,hk⟩ := qev h
  injection hx with hx
  subst hx
  exact hk
theorem qkU {t : TypeId} {v : Value} {k : Value → Prop} (h : retC T t v k) : k v ∨ k undef := by
 unfold retC at h
 split at h
 ·exact .inr h
 ·obtain ⟨a,b,rfl,h⟩ := h
  have h1 := qdR h
  have h2 := qdR h1
  exact .inl h2
 ·obtain ⟨a,b,c,rfl,h⟩ := h
  have h1 := qdR h
  have h2 := qdR h1
  have h3 := qdR h2
  exact .inl h3
 ·exact h.elim
 ·exact .inl (qdR h)
theorem qlx {φ : Emb} {t : TypeId} {v v' : Value} {k : Value → Prop} (h : retC T t v k) (hv : VRel φ v v') : ∃ x,k x ∧ VRel φ x v' := by
 rcases qkU h with h | h
 ·exact ⟨v,h,hv⟩
 ·exact ⟨undef,h,.undef _⟩
theorem qlt {φ : Emb} {f : Fn} {as cs : Array Value} {v' : Value} (h : VRel φ (.func f as cs) v') :
  ∃ bs ds,v' = .func f bs ds ∧ LRel φ as.toList bs.toList ∧ LRel φ cs.toList ds.toList := by
 cases h with
 | fn _ _ bs _ ds h1 h2 h3 h4 => exact ⟨bs,ds,rfl,LRel.of_arr h1 h2,LRel.of_arr h3 h4⟩
theorem qip {g : FuncId} (h : enterable P g = true) (args : Array Value) (w : World) : (callFunc g args).run P w = .ok (.enter g args) w := by
 unfold enterable at h
 cases hf : P.funcs[g]? with
 | none => rw [hf] at h; cases h
 | some fn =>
  rw [hf] at h
  simp only [qm4,qnd] at h
  obtain ⟨h1,h2⟩ := h
  have h1' : ¬ fn.name = "runtime.NumGoroutine" := by simpa using h1
  have h2' : ¬ fn.body = none := by intro hb; rw [hb] at h2; cases h2
  simp [callFunc,hf,h1',h2']
theorem qfF (hT : qW P T) {pan : Nat → Bool} {fr : Fr} {o : Oper} {H : AH} {k pk : Value → AH → Prop} (h : opStep P T pan (ev fr) o H k pk)
  {W w : World} {φ : Emb} {a : Act} (hr : ∀ x ∈ o.op.operands,VRel φ (ev fr x) (a.eval x)) (R : Rel W φ H w) {next : Act → World → Prop} {Q : Exit → Act → World → Prop}
  (hk : ∀ φ' H' v v' w',Hist φ H φ' H' → VRel φ' v v' → Rel W φ' H' w' → k v H' → next (a.put o.dst v') w')
  (hpk : ∀ φ' H' v v' w',Hist φ H φ' H' → VRel φ' v v' → Rel W φ' H' w' → pk v H' → Q (.panic [{ v := v',recovered := false }]) a w')
  (hout : True) : o.wp P a w next Q := by
 unfold opStep at h
 unfold Oper.wp
 split at h
 ·obtain ⟨v,rec,hkv,hrec,hok,_⟩ := qgD hT h
  obtain ⟨v',hrun,hv⟩ := hok φ a.eval W w H hr R hrec
  rw [hrun]
  exact hk φ H v v' w (Hist.refl _ _) hv R hkv
 ·split at h
  ·obtain ⟨v,ob,hkv,hok⟩ := qga hT h
   obtain ⟨v',w',B,hrun,hv,R'⟩ := hok φ a.eval W w (H.push ob) hr (R.push ob) (by simp [AH.push]) (by simp [AH.push]) R.fresh
   rw [hrun]
   refine hk _ _ v v' w' ⟨Emb.le_add R.fresh,by simp [AH.push],fun b hb hn => ?_,fun b hb _ => ?_⟩ hv R' hkv
   ·have : b ≠ H.size := by omega
    simp [Emb.add,this,hn]
   ·have : b ≠ H.size := by omega
    simp [AH.push,this]
  ·split at h
   ·obtain ⟨r,w',v,v',φ',H',hrun,hres,hh,hv,R',hkv⟩ := qkj hT h hr R
    rw [hrun]
    rcases hres with rfl | ⟨rfl,rfl⟩
    ·exact hk φ' H' v v' w' hh hv R' hkv
    ·exact hk φ' H' v undef w' hh hv R' hkv
   ·split at h
    ·obtain ⟨dst,op,type,pos,after,guard⟩ := o
     simp only at h hr hk ⊢
     cases op with
     | call c =>
      obtain ⟨callee,args,argTypes⟩ := c
      simp only [ctlOp] at h
      cases callee with
      | value f =>
       simp only at h
       split at h
       ·rename_i g first captured hf
        obtain ⟨hent,hcall⟩ := h
        have hfr := hr f (by simp [qmg,Call.operands])
        rw [hf] at hfr
        obtain ⟨bs,ds,hfe,hb,hd⟩ := qlt hfr
        have hargs : LRel φ (first.toList ++ args.toList.map (ev fr) ++ captured.toList) (bs ++ args.map a.eval ++ ds).toList := by
         simp only [Array.toList_append,Array.toList_map]
         exact (hb.append (LRel.map args.toList (fun x hx => hr x (by simp [qmg,Call.operands]; exact .inr (by simpa using hx))))).append hd
        have hrun : (execOp a.eval { dst,op := .call { callee := .value f,args,argTypes },type,pos,after,guard }).run P w = .ok (.enter g (bs ++ args.map a.eval ++ ds)) w := by
         simp [execOp,resolve,hfe,Deferred.ofValue,invoke,qip hent]
        rw [hrun]
        simp only [Oper.upon]
        refine (hcall W w φ _ hargs R).mono fun e w' he => ?_
        obtain ⟨le,φ',H',hh,hend,R',hQ⟩ := he
        ·cases le with
         | ret v =>
          cases e with
          | returned v' =>
           simp only [endC] at hQ
           obtain ⟨x,hkx,hx⟩ := qlx hQ hend
           exact hk φ' H' x v' w' hh hx R' hkx
          | panicked c => exact hend.elim
          | outgrown => exact hend.elim
         | pan v =>
          cases e with
          | returned v' => exact hend.elim
          | panicked c =>
           obtain ⟨v',rfl,hv⟩ := hend
           simp only [endC] at hQ
           split at hQ
           ·exact hpk φ' H' v v' w' hh hv R' hQ
           ·exact hQ.elim
          | outgrown => exact hend.elim
       ·exact h.elim
      | _ => exact h.elim
     | panic x =>
      simp only [ctlOp] at h
      split at h
      ·rename_i t v hx
       have hxr := hr x (by simp [qmg])
       rw [hx] at hxr
       generalize hx' : a.eval x = x' at hxr
       cases hxr with
       | iface _ _ v' hv =>
        have hrun : (execOp a.eval { dst,op := .panic x,type,pos,after,guard }).run P w = .halt (.panic (.iface t v')) w := by
         simp [execOp,hx',Instr.panic]
        rw [hrun]
        exact hpk φ H _ _ w (Hist.refl _ _) (.iface _ _ _ hv) R h
      ·exact h.elim
     | _ => simp [ctlOp] at h
    ·obtain ⟨v,hkv,hok⟩ := qgK hT h
     obtain ⟨v',hrun,hv⟩ := hok φ a.eval hr
     rw [hrun w]
     exact hk φ H v v' w (Hist.refl _ _) hv R hkv
theorem qgO {fr : Fr} {d : Nat} {b : Bool} (h : fr d = .bool b) : frput fr (some d) (.bool b) = fr := by
 funext s
 by_cases hs : s = d
 ·subst hs; rw [qdK,h]
 ·rw [qdm _ _ hs]
theorem qf7 {ops : Array Oper} {a : Act} {φ : Emb} {j d : Nat} {xs : Array Value} (hd : (ops[j]?).bind (·.dst) = some d) (h : VRel φ (.tuple xs) (a.tmps.getD d undef)) (hx : xs.toList ≠ []) :
  yielded ops a.tmps j = none := by
 unfold yielded
 rw [hd]
 simp only [Option.bind_some]
 cases ht : a.tmps[d]? with
 | none => rfl
 | some v =>
  have : a.tmps.getD d undef = v := by simp [ql9,ht]
  rw [this] at h
  cases h
  ·exact absurd rfl hx
  ·rfl
  ·rfl
theorem qih {ops : Array Oper} {o : Oper} {fr : Fr} {yes no : Fr → Prop} (h : guardC ops o fr yes no) {φ : Emb} {n : Nat} {a : Act} (A : ARel Ds φ n fr a) :
  (qni o (yielded ops a.tmps) = true ∧ yes fr) ∨ (qni o (yielded ops a.tmps) = false ∧ no fr) := by
 unfold guardC at h
 split at h
 ·rename_i hg
  exact .inl ⟨by simp [qni,hg],h⟩
 ·rename_i j want hg
  split at h
  ·exact h.elim
  ·rename_i d hd
   split at h
   ·rename_i g hfr
    have hslot := A.tmp d
    rw [hfr] at hslot
    have hy : yielded ops a.tmps j = some g ∨ yielded ops a.tmps j = none := by
     unfold yielded
     have hd' : (ops[j]?).bind (·.dst) = some d := by simpa using hd
     rw [hd']
     simp only [Option.bind_some]
     cases ht : a.tmps[d]? with
     | none => exact .inr rfl
     | some v =>
      have : a.tmps.getD d undef = v := by simp [ql9,ht]
      rw [this] at hslot
      cases hslot
      exact .inl rfl
    have hy' : yielded ops a.tmps j = some g := by
     rcases hy with hy | hy
     ·exact hy
     ·exfalso
      unfold yielded at hy
      have hd' : (ops[j]?).bind (·.dst) = some d := by simpa using hd
      rw [hd'] at hy
      simp only [Option.bind_some] at hy
      cases ht : a.tmps[d]? with
      | none =>
       have : a.tmps.getD d undef = undef := by simp [ql9,ht]
       rw [this] at hslot
       cases hslot
      | some v =>
       have : a.tmps.getD d undef = v := by simp [ql9,ht]
       rw [this] at hslot
       cases hslot
       rw [ht] at hy
       simp at hy
    have hw : qni o (yielded ops a.tmps) = (g == want) := by
     simp [qni,hg,hy']
    cases g <;> cases want <;> simp only [bcase] at h <;> rw [qgO hfr] at h
    ·exact .inl ⟨hw,h⟩
    ·exact .inr ⟨hw,h⟩
    ·exact .inr ⟨hw,h⟩
    ·exact .inl ⟨hw,h⟩
   ·rename_i xs hfr
    split at h
    ·exact h.elim
    ·rename_i y ys hxs
     have hy : yielded ops a.tmps j = none := qf7 (by simpa using hd) (hfr ▸ A.tmp d) (by rw [hxs]; simp)
     exact .inr ⟨by simp [qni,hg,hy],h⟩
   ·exact h.elim
theorem qhZ {n : Nat} {d : Option Nat} (h : dstOK n d = true) : ∀ t,d = some t → t < n := by
 intro t ht
 subst ht
 simp only [dstOK] at h
 exact Nat.le_of_ble_eq_true h
theorem qkF (hT : qW P T) {pan : Nat → Bool} {n : Nat} {ops : Array Oper} {K : Fr → AH → Prop} {PK : Value → AH → Prop} {W : World} {Q : Exit → Act → World → Prop} (hout : True) :
  ∀ (l : List Oper) (i : Nat) (fr : Fr) (H : AH) (φ : Emb) (a : Act) (w : World),ops.toList.drop i = l → ARel Ds φ n fr a → Rel W φ H w → wpS P T pan n ops K PK l fr H →
   (∀ φ' fr' H' a' w',Hist φ H φ' H' → ARel Ds φ' n fr' a' → (∀ s,s ∉ l.filterMap (·.dst) → fr' s = fr s) → Rel W φ' H' w' → K fr' H' → Q .normal a' w') →
   (∀ φ' H' v v' a' w',Hist φ H φ' H' → (∃ frx,ARel Ds φ' n frx a' ∧ ∀ s,s ∉ l.filterMap (·.dst) → frx s = fr s) → VRel φ' v v' → Rel W φ' H' w' → PK v H' → Q (.panic [{ v := v',recovered := false }]) a' w') →
   wpOps P ops Q (List.range' i l.length) a w := by
 intro l
 induction l with
 | nil =>
  intro i fr H φ a w _ A R h hK _
  simp only [List.length_nil,List.range'_zero,wpOps]
  exact hK φ fr H a w (Hist.refl _ _) A (fun _ _ => rfl) R h
 | cons o rest ih =>
  intro i fr H φ a w hdrop A R h hK hPK
  have ho : ops[i]? = some o := by
   have := congrArg (fun l => l[0]?) hdrop
   simpa using this
  have hrest : ops.toList.drop (i + 1) = rest := by rw [← List.drop_drop,hdrop]; rfl
  simp only [List.length_cons,List.range'_succ,wpOps,ho]
  simp only [wpS] at h
  have keep : ∀ (v : Value) (fr' : Fr) (s : Nat),(∀ s,s ∉ rest.filterMap (·.dst) → fr' s = frput fr o.dst v s) → s ∉ (o :: rest).filterMap (·.dst) → fr' s = fr s := by
   intro v fr' s hk hs
   cases hd : o.dst with
   | none =>
    rw [List.filterMap_cons,hd] at hs
    rw [hk s hs,hd]; rfl
   | some d =>
    rw [List.filterMap_cons,hd] at hs
    simp only [ql6,not_or] at hs
    rw [hk s hs.2,hd,qdm _ _ hs.1]
  split at h
  ·rename_i hdst
   have hd := qhZ hdst
   rcases qih h A with ⟨hw,hy⟩ | ⟨hw,hy⟩
   ·rw [if_pos hw]
    refine .inl (qfF hT hy (fun x _ => A.ev x) R (fun φ' H' v v' w' hh hv R' hk => ?_) (fun φ' H' v v' w' hh hv R' hk => hPK φ' H' v v' a w' hh ⟨fr,A.mono hh.1,fun _ _ => rfl⟩ hv R' hk) hout)
    refine ih (i + 1) _ H' φ' _ w' hrest ((A.mono hh.1).put hd hv) R' hk (fun φ'' fr'' H'' a'' w'' hh' A' hkp => hK φ'' fr'' H'' a'' w'' (hh.trans hh') A' (fun s hs => keep v fr'' s hkp hs))
     (fun φ'' H'' v1 v1' a'' w'' hh' ⟨frx,Ax,hkx⟩ => hPK φ'' H'' v1 v1' a'' w'' (hh.trans hh') ⟨frx,Ax,fun s hs => keep v frx s hkx hs⟩)
   ·rw [if_neg (by rw [hw]; simp)]
    exact ih (i + 1) _ H φ _ w hrest (A.put hd .skip) R hy (fun φ'' fr'' H'' a'' w'' hh' A' hkp => hK φ'' fr'' H'' a'' w'' hh' A' (fun s hs => keep skipV fr'' s hkp hs))
     (fun φ'' H'' v1 v1' a'' w'' hh' ⟨frx,Ax,hkx⟩ => hPK φ'' H'' v1 v1' a'' w'' hh' ⟨frx,Ax,fun s hs => keep skipV frx s hkx hs⟩)
  ·exact h.elim
end
def depsOf (o : Oper) : List Nat := (o.after.toList.filter fun e => Region.binds .any e).map (·.on)
def qcW (acc : List Nat) (o : Oper) : Nat := (depsOf o).foldl (fun s j => s ||| 2 ^ j ||| acc.getD j 0) 0
def masks : List Oper → List Nat → List Nat
 | [],acc => acc
 | o :: rest,acc => masks rest (acc ++ [qcW acc o])
def bef (M : List Nat) (i j : Nat) : Bool := (M.getD i 0).testBit j
def looks (L : List Oper) (o : Oper) : List Nat :=
  (o.op.operands.toList.filterMap fun | .tmp t => some t | _ => none) ++
  (match o.guard with
   | some (g,_) => ((L[g]?).bind (·.dst)).toList
   | none => [])
def qcK (L : List Oper) (s : Nat) : Option Nat := L.findIdx? fun o => o.dst == some s
def isHeavy (T : Nat → TyE) (op : Op) : Bool := !isLoad T op && !isAlloc op && (isEff op || isCtl op)
def ordGo (T : Nat → TyE) (L : List Oper) (M : List Nat) : List Nat → Nat → Option Nat → Bool
  | [],_,_ => true
  | i :: rest,seen,last =>
    match L[i]? with
    | none => false
    | some o =>
      (depsOf o).all (fun j => seen.testBit j && Nat.blt j i) && !seen.testBit i &&
      (match last with
       | none => true
       | some e => bef M i e) &&
      ordGo T L M rest (seen ||| 2 ^ i) (if isHeavy T o.op = true then some i else last)
def noTwo : List Nat → Bool
 | [] => true
 | x :: xs => !xs.contains x && noTwo xs
def ordOK (T : Nat → TyE) (L : List Oper) (M : List Nat) (ord : List Nat) : Bool :=
 (qmA L.length).all (fun i => ord.contains i) && ordGo T L M ord 0 none && noTwo (L.filterMap (·.dst)) &&
 (qmA L.length).all fun i => match L[i]? with
  | none => true
  | some o => (looks L o).all fun s => match qcK L s with
   | none => true
   | some j => bef M i j || bef M j i
def checks (M : List Nat) (e : Nat) (H : AH) (C : Prop) : List (Nat × (AH → Prop)) → Prop
 | [] => C
 | (i,rec) :: r => if bef M e i = true then checks M e H C r else rec H ∧ checks M e H C r
def wpD (P : Program) (T : Nat → TyE) (pan : Nat → Bool) (n : Nat) (ops : Array Oper) (M : List Nat) (K : Fr → AH → Prop) : List Nat → List (Nat × (AH → Prop)) → Fr → AH → Prop
 | [],_,fr,H => K fr H
 | i :: rest,recs,fr,H =>
  match ops.toList[i]? with
  | none => False
  | some o =>
   if dstOK n o.dst = true then
    guardC ops o fr
     (fun fr =>
      if isLoad T o.op = true then loadOp T (ev fr) o.op H fun v rec => wpD P T pan n ops M K rest ((i,rec) :: recs) (frput fr o.dst v) H
      else if isAlloc o.op = true then allocOp T (ev fr) o.op H.size fun v ob => wpD P T pan n ops M K rest recs (frput fr o.dst v) (H.push ob)
      else if isHeavy T o.op = true then opStep P T pan (ev fr) o H (fun v H' => checks M i H' (wpD P T pan n ops M K rest recs (frput fr o.dst v) H') recs) (fun _ _ => False)
      else qcq T (ev fr) o.op fun v => wpD P T pan n ops M K rest recs (frput fr o.dst v) H)
     (fun fr => wpD P T pan n ops M K rest recs (frput fr o.dst skipV) H)
   else False
def slotAt (L : List Oper) (E : Nat → Bool) (V : Nat → Value) (fr0 : Fr) : Fr := fun s =>
 match qcK L s with
 | some j => if E j = true then V j else fr0 s
 | none => fr0 s
theorem qiF (acc : List Nat) (j : Nat) : ∀ (ds : List Nat) (s : Nat),(ds.foldl (fun s j => s ||| 2 ^ j ||| acc.getD j 0) s).testBit j = true →
  s.testBit j = true ∨ ∃ d ∈ ds,d = j ∨ (acc.getD d 0).testBit j = true := by
 intro ds
 induction ds with
 | nil => intro s h; exact .inl h
 | cons d ds ih =>
  intro s h
  simp only [List.foldl_cons] at h
  rcases ih _ h with h | ⟨d',hd',h⟩
  ·rw [Nat.testBit_or,Nat.testBit_or,Bool.or_eq_true,Bool.or_eq_true] at h
   rcases h with (h | h) | h
   ·exact .inl h
   ·rw [Nat.testBit_two_pow] at h
    exact .inr ⟨d,by simp,.inl (of_decide_eq_true h)⟩
   ·exact .inr ⟨d,by simp,.inr h⟩
  ·exact .inr ⟨d',by simp [hd'],h⟩
theorem qhR : ∀ (L : List Oper) (acc : List Nat),∃ t,masks L acc = acc ++ t ∧ t.length = L.length := by
 intro L
 induction L with
 | nil => intro acc; exact ⟨[],by simp [masks]⟩
 | cons o L ih =>
  intro acc
  obtain ⟨t,ht,hl⟩ := ih (acc ++ [qcW acc o])
  exact ⟨qcW acc o :: t,by simp [masks,ht],by simp [hl]⟩
theorem qdI : ∀ (L : List Oper) (acc : List Nat) (i j : Nat) (o : Oper),L[i]? = some o → bef (masks L acc) (acc.length + i) j = true →
  ∃ d ∈ depsOf o,d = j ∨ bef (masks L acc) d j = true := by
 intro L
 induction L with
 | nil => intro acc i j o h; simp at h
 | cons p L ih =>
  intro acc i j o h hb
  cases i with
  | zero =>
   simp at h
   subst h
   obtain ⟨t,ht,_⟩ := qhR L (acc ++ [qcW acc p])
   have hm : masks (p :: L) acc = acc ++ [qcW acc p] ++ t := by simp only [masks]; exact ht
   rw [hm] at hb ⊢
   unfold bef at hb ⊢
   have hg : (acc ++ [qcW acc p] ++ t).getD (acc.length + 0) 0 = qcW acc p := by
    simp [qlM]
   rw [hg] at hb
   rcases qiF acc j _ 0 hb with h0 | ⟨d,hd,h0⟩
   ·simp at h0
   ·refine ⟨d,hd,h0.imp id fun h1 => ?_⟩
    have hlt : d < acc.length := by
     rcases Nat.lt_or_ge d acc.length with hh | hh
     ·exact hh
     ·simp [qlM,qlR hh] at h1
    have : (acc ++ [qcW acc p] ++ t).getD d 0 = acc.getD d 0 := by
     simp [qlM,List.append_assoc,qmd hlt]
    rw [this]
    exact h1
  | succ i =>
   simp at h
   simp only [masks] at hb ⊢
   refine ih (acc ++ [qcW acc p]) i j o h ?_
   rw [show (acc ++ [qcW acc p]).length + i = acc.length + (i + 1) by simp; omega]
   exact hb
theorem qdJ {L : List Oper} {E : Nat → Prop} (hsmall : ∀ (i : Nat) (o : Oper),L[i]? = some o → ∀ d ∈ depsOf o,d < i) (hc : ∀ (i : Nat) (o : Oper),L[i]? = some o → E i → ∀ d ∈ depsOf o,E d) :
  ∀ (i j : Nat),i < L.length → E i → bef (masks L []) i j = true → E j := by
 intro i
 induction i using Nat.strongRecOn with
 | _ i ih =>
  intro j hi hE hb
  have ho := qlK hi
  obtain ⟨d,hd,h⟩ := qdI L [] i j _ ho (by simpa using hb)
  have hlt := hsmall i _ ho d hd
  have hEd := hc i _ ho hE d hd
  rcases h with rfl | h
  ·exact hEd
  ·exact ih d hlt j (by omega) hEd h
theorem qcN {L : List Oper} {s j : Nat} (h : qcK L s = some j) : ∃ o,L[j]? = some o ∧ o.dst = some s := by
 unfold qcK at h
 obtain ⟨hlt,hp,_⟩ := List.findIdx?_eq_some_iff_getElem.1 h
 exact ⟨L[j],qlK hlt,by simpa using hp⟩
theorem qi7 : ∀ (l : List Nat),noTwo l = true → l.Nodup := by
 intro l
 induction l with
 | nil => intro _; exact List.nodup_nil
 | cons x xs ih =>
  intro h
  simp only [noTwo,qm4,qnd,List.contains_eq_mem,decide_eq_false_iff_not] at h
  exact List.nodup_cons.2 ⟨h.1,ih h.2⟩
theorem qjK : ∀ (L : List Oper),(L.filterMap (·.dst)).Nodup → ∀ (i j : Nat) (o p : Oper) (s : Nat),L[i]? = some o → L[j]? = some p → o.dst = some s → p.dst = some s → i = j := by
 intro L
 induction L with
 | nil => intro _ i j o p s h; simp at h
 | cons q L ih =>
  intro hn i j o p s hi hj ho hp
  have hmem : ∀ (k : Nat) (r : Oper),L[k]? = some r → r.dst = some s → s ∈ L.filterMap (·.dst) := fun k r hk hr =>
   List.mem_filterMap.2 ⟨r,qlX hk,hr⟩
  have hn' : (L.filterMap (·.dst)).Nodup := by
   cases hq : q.dst with
   | none => simpa [List.filterMap_cons,hq] using hn
   | some d => simp only [List.filterMap_cons,hq] at hn; exact (List.nodup_cons.1 hn).2
  cases i with
  | zero =>
   simp at hi; subst hi
   cases j with
   | zero => rfl
   | succ j =>
    simp at hj
    simp only [List.filterMap_cons,ho] at hn
    exact absurd (hmem j p hj hp) (List.nodup_cons.1 hn).1
  | succ i =>
   simp at hi
   cases j with
   | zero =>
    simp at hj; subst hj
    simp only [List.filterMap_cons,hp] at hn
    exact absurd (hmem i o hi ho) (List.nodup_cons.1 hn).1
   | succ j =>
    simp at hj
    rw [ih hn' i j o p s hi hj ho hp]
theorem qhp {L : List Oper} (hn : (L.filterMap (·.dst)).Nodup) {j s : Nat} {o : Oper} (h : L[j]? = some o) (hs : o.dst = some s) : qcK L s = some j := by
 cases hw : qcK L s with
 | none =>
  unfold qcK at hw
  rw [List.findIdx?_eq_none_iff] at hw
  have := hw o (qlX h)
  simp [hs] at this
 | some k =>
  obtain ⟨p,hp,hps⟩ := qcN hw
  rw [qjK L hn k j p o s hp h hps hs]
variable {Ds : List Deferred}
def lastH (T : Nat → TyE) (L : List Oper) : List Nat → Option Nat → Option Nat
 | [],last => last
 | i :: rest,last => lastH T L rest (match L[i]? with | some o => if isHeavy T o.op = true then some i else last | none => last)
theorem qjn (T : Nat → TyE) (L : List Oper) : ∀ (l : List Nat) (e : Nat),∃ e',lastH T L l (some e) = some e' ∧ (e' = e ∨ e' ∈ l) := by
 intro l
 induction l with
 | nil => intro e; exact ⟨e,rfl,.inl rfl⟩
 | cons i l ih =>
  intro e
  simp only [lastH]
  split
  ·split
   ·obtain ⟨e',h1,h2⟩ := ih i
    refine ⟨e',h1,.inr ?_⟩
    rcases h2 with rfl | h2
    ·simp
    ·simp [h2]
   ·obtain ⟨e',h1,h2⟩ := ih e
    exact ⟨e',h1,h2.imp id (fun h => by simp [h])⟩
  ·obtain ⟨e',h1,h2⟩ := ih e
   exact ⟨e',h1,h2.imp id (fun h => by simp [h])⟩
theorem qh5 (T : Nat → TyE) (L : List Oper) : ∀ (l1 l2 : List Nat) (last : Option Nat),lastH T L (l1 ++ l2) last = lastH T L l2 (lastH T L l1 last) := by
 intro l1
 induction l1 with
 | nil => intro l2 last; rfl
 | cons i l1 ih => intro l2 last; simp only [List.cons_append,lastH,ih]
theorem qiO {T : Nat → TyE} {L : List Oper} {M : List Nat} : ∀ (l1 : List Nat) (i : Nat) (l2 : List Nat) (seen : Nat) (last : Option Nat),ordGo T L M (l1 ++ i :: l2) seen last = true →
  ∃ o,L[i]? = some o ∧ (∀ d ∈ depsOf o,(seen.testBit d = true ∨ d ∈ l1) ∧ d < i) ∧ (seen.testBit i = false ∧ i ∉ l1) ∧ ∀ e,lastH T L l1 last = some e → bef M i e = true := by
 intro l1
 induction l1 with
 | nil =>
  intro i l2 seen last h
  simp only [List.nil_append,ordGo] at h
  split at h
  ·cases h
  ·rename_i o ho
   simp only [qm4,qmu,qnd] at h
   obtain ⟨⟨⟨h1,h2⟩,h3⟩,_⟩ := h
   refine ⟨o,ho,fun d hd => ⟨.inl (h1 d hd).1,Nat.le_of_ble_eq_true (h1 d hd).2⟩,⟨h2,by simp⟩,fun e he => ?_⟩
   simp only [lastH] at he
   rw [he] at h3
   exact h3
 | cons j l1 ih =>
  intro i l2 seen last h
  simp only [List.cons_append,ordGo] at h
  split at h
  ·cases h
  ·rename_i p hp
   simp only [qm4,qmu,qnd] at h
   obtain ⟨_,h4⟩ := h
   obtain ⟨o,ho,h1,h2,h3⟩ := ih i l2 _ _ h4
   have bit : ∀ x,(seen ||| 2 ^ j).testBit x = true ↔ seen.testBit x = true ∨ x = j := by
    intro x
    rw [Nat.testBit_or,Bool.or_eq_true,Nat.testBit_two_pow,decide_eq_true_eq]
    exact ⟨fun h => h.imp id Eq.symm,fun h => h.imp id Eq.symm⟩
   refine ⟨o,ho,fun d hd => ⟨?_,(h1 d hd).2⟩,⟨?_,?_⟩,fun e he => h3 e ?_⟩
   ·rcases (h1 d hd).1 with h | h
    ·rcases (bit d).1 h with h | h
     ·exact .inl h
     ·exact .inr (by simp [h])
    ·exact .inr (by simp [h])
   ·cases hs : seen.testBit i with
    | false => rfl
    | true => have := (bit i).2 (.inl hs); rw [h2.1] at this; cases this
   ·intro hm
    rcases List.mem_cons.1 hm with h | h
    ·have := (bit i).2 (.inr h); rw [h2.1] at this; cases this
    ·exact h2.2 h
   ·simp only [lastH,hp] at he
    exact he
section
variable {P : Program} {T : Nat → TyE}
def gsel (L : List Oper) (o : Oper) (fr : Fr) : Option Bool :=
 match o.guard with
 | none => some true
 | some (j,want) =>
  match (L[j]?).bind (·.dst) with
  | none => none
  | some d => match fr d with
   | .bool g => some (g == want)
   | .tuple xs => match xs.toList with
    | [] => none
    | _ :: _ => some false
   | _ => none
theorem qgC {ops : Array Oper} {o : Oper} {fr : Fr} {yes no : Fr → Prop} (h : guardC ops o fr yes no) :
  (gsel ops.toList o fr = some true ∧ yes fr) ∨ (gsel ops.toList o fr = some false ∧ no fr) := by
 unfold guardC at h
 split at h
 ·rename_i hg
  exact .inl ⟨by simp [gsel,hg],h⟩
 ·rename_i j want hg
  split at h
  ·exact h.elim
  ·rename_i d hd
   split at h
   ·rename_i g hfr
    have hgs : gsel ops.toList o fr = some (g == want) := by
     unfold gsel
     rw [hg]
     simp only [hd,hfr]
    rw [hgs]
    cases g <;> cases want <;> simp only [bcase] at h <;> rw [qgO hfr] at h <;> first
     | exact .inl ⟨rfl,h⟩
     | exact .inr ⟨rfl,h⟩
   ·rename_i xs hfr
    split at h
    ·exact h.elim
    ·rename_i y ys hxs
     have hgs : gsel ops.toList o fr = some false := by
      unfold gsel
      rw [hg]
      simp only [hd,hfr,hxs]
     rw [hgs]
     exact .inr ⟨rfl,h⟩
   ·exact h.elim
theorem qc9 {ops : Array Oper} {o : Oper} {fr : Fr} {b : Bool} (h : gsel ops.toList o fr = some b) {φ : Emb} {a : Act}
  (hs : ∀ s ∈ looks ops.toList o,VRel φ (fr s) (a.tmps.getD s undef)) : qni o (yielded ops a.tmps) = b := by
 unfold gsel at h
 split at h
 ·rename_i hg
  injection h with h
  simp [qni,hg,h]
 ·rename_i j want hg
  split at h
  ·cases h
  ·rename_i d hd
   split at h
   ·rename_i g hfr
    injection h with h
    have hd' : (ops[j]?).bind (·.dst) = some d := by simpa using hd
    have hmem : d ∈ looks ops.toList o := by simp [looks,hg,hd']
    have hslot := hs d hmem
    rw [hfr] at hslot
    have hy : yielded ops a.tmps j = some g := by
     unfold yielded
     rw [hd']
     simp only [Option.bind_some]
     cases ht : a.tmps[d]? with
     | none =>
      have : a.tmps.getD d undef = undef := by simp [ql9,ht]
      rw [this] at hslot
      cases hslot
     | some v =>
      have : a.tmps.getD d undef = v := by simp [ql9,ht]
      rw [this] at hslot
      cases hslot
      rfl
    simp [qni,hg,← h,hy]
   ·rename_i xs hfr
    split at h
    ·cases h
    ·rename_i y ys hxs
     injection h with h
     have hd' : (ops[j]?).bind (·.dst) = some d := by simpa using hd
     have hmem : d ∈ looks ops.toList o := by simp [looks,hg,hd']
     have hslot := hs d hmem
     rw [hfr] at hslot
     have hy := qf7 hd' hslot (by rw [hxs]; simp)
     simp [qni,hg,← h,hy]
   ·cases h
theorem qeX {L : List Oper} {o : Oper} {fr : Fr} {φ : Emb} {a : Act} (hs : ∀ s ∈ looks L o,VRel φ (fr s) (a.tmps.getD s undef)) :
  ∀ x ∈ o.op.operands,VRel φ (ev fr x) (a.eval x) := by
 intro x hx
 cases x with
 | tmp t =>
  refine hs t ?_
  unfold looks
  refine qnf _ (List.mem_filterMap.2 ⟨.tmp t,by simpa using hx,rfl⟩)
 | const v =>
  simp only [Abs.ev,Act.eval]
  split
  ·exact VRel.constOK ‹_›
  ·exact .undef v
 | global g => exact .undef _
 | func f => exact .fn _ _ _ _ _ rfl (by simp) rfl (by simp)
inductive Pend (P : Program) (T : Nat → TyE) (L : List Oper) (o : Oper) (fr : Fr) (i : Nat) (v : Value) (H : AH) (φ : Emb) (recs : List (Nat × (AH → Prop))) (bid : Option Nat) : Prop where
 | skip (hg : gsel L o fr = some false) (hv : v = skipV)
 | pure (hg : gsel L o fr = some true) (h : PureOK P (ev fr) o v)
 | load (hg : gsel L o fr = some true) (rec : AH → Prop) (hm : (i,rec) ∈ recs) (hr : rec H) (h : LoadOK P (ev fr) o v rec) (hs : Stays rec)
 | alloc (hg : gsel L o fr = some true) (b : Nat) (hb : bid = some b) (h : AllocOK P (ev fr) o b v (H.get b)) (hn : φ b = none)
structure DInv (Ds : List Deferred) (P : Program) (T : Nat → TyE) (pan : Nat → Bool) (n : Nat) (ops : Array Oper) (K : Fr → AH → Prop) (ord : List Nat) (fr0 : Fr) (W : World) (φ0 : Emb) (H0 : AH)
  (listed : Array Bool) (a : Act) (w : World) (done rest : List Nat) (V : Nat → Value) (bid : Nat → Option Nat) (recs : List (Nat × (AH → Prop))) (fr : Fr) (H : AH) (φ : Emb) : Prop where
 split : ord = done ++ rest
 run : wpD P T pan n ops (masks ops.toList []) K rest recs fr H
 frame : ∀ s,fr s = slotAt ops.toList (fun j => done.contains j) V fr0 s
 rel : Rel W φ H w
 hist : Hist φ0 H0 φ H
 size : a.tmps.size = n
 defers : a.defers = Ds
 slots : ∀ s,VRel φ (slotAt ops.toList (fun j => listed.getD j true) V fr0 s) (a.tmps.getD s undef)
 lsize : listed.size = ops.size
 sub : ∀ i,i < ops.size → listed.getD i true = true → i ∈ done
 closed : ∀ i o,ops.toList[i]? = some o → listed.getD i true = true → ∀ d ∈ depsOf o,listed.getD d true = true
 bidlt : ∀ i b,bid i = some b → b < H.size
 bidge : ∀ i b,bid i = some b → H0.size ≤ b
 bidinj : ∀ i j b,bid i = some b → bid j = some b → i = j
 pend : ∀ i ∈ done,listed.getD i true = false → ∃ o fri,ops.toList[i]? = some o ∧ dstOK n o.dst = true ∧
  (∀ s ∈ looks ops.toList o,fri s = slotAt ops.toList (fun j => bef (masks ops.toList []) i j) V fr0 s) ∧ Pend P T ops.toList o fri i (V i) H φ recs (bid i)
end
section
variable {P : Program} {T : Nat → TyE}
structure qbP (T : Nat → TyE) (L : List Oper) (ord : List Nat) : Prop where
 all : ∀ i,i < L.length → i ∈ ord
 pos : ∀ l1 i l2,ord = l1 ++ i :: l2 → ∃ o,L[i]? = some o ∧ (∀ d ∈ depsOf o,d ∈ l1 ∧ d < i) ∧ i ∉ l1 ∧ ∀ e,lastH T L l1 none = some e → bef (masks L []) i e = true
 nodup : (L.filterMap (·.dst)).Nodup
 look : ∀ i o s j,L[i]? = some o → s ∈ looks L o → qcK L s = some j → bef (masks L []) i j = true ∨ bef (masks L []) j i = true
theorem qjh {L : List Oper} {ord : List Nat} (h : ordOK T L (masks L []) ord = true) : qbP T L ord := by
 unfold ordOK at h
 simp only [qm4,qmu,List.mem_range] at h
 obtain ⟨⟨⟨h1,h2⟩,h3⟩,h4⟩ := h
 refine ⟨fun i hi => by simpa using h1 i hi,fun l1 i l2 he => ?_,qi7 _ h3,fun i o s j ho hs hw => ?_⟩
 ·rw [he] at h2
  obtain ⟨o,ho,hd,hi,hl⟩ := qiO l1 i l2 0 none h2
  refine ⟨o,ho,fun d hdd => ⟨?_,(hd d hdd).2⟩,hi.2,hl⟩
  rcases (hd d hdd).1 with h | h
  ·simp at h
  ·exact h
 ·have hi : i < L.length := (List.getElem?_eq_some_iff.1 ho).1
  have := h4 i hi
  rw [ho] at this
  simp only [qmu] at this
  have := this s hs
  rw [hw] at this
  simpa using this
theorem qbP.small {L : List Oper} {ord : List Nat} (F : qbP T L ord) : ∀ (i : Nat) (o : Oper),L[i]? = some o → ∀ d ∈ depsOf o,d < i := by
 intro i o ho d hd
 have hi : i < L.length := (List.getElem?_eq_some_iff.1 ho).1
 obtain ⟨l1,l2,he⟩ := qm9 (F.all i hi)
 obtain ⟨o',ho',h,_⟩ := F.pos l1 i l2 he
 rw [ho] at ho'
 injection ho' with ho'
 subst ho'
 exact (h d hd).2
theorem qbP.done_closed {L : List Oper} {ord : List Nat} (F : qbP T L ord) {done rest : List Nat} (hs : ord = done ++ rest) :
  ∀ (i : Nat) (o : Oper),L[i]? = some o → i ∈ done → ∀ d ∈ depsOf o,d ∈ done := by
 intro i o ho hi d hd
 obtain ⟨l1,l2,he⟩ := qm9 hi
 obtain ⟨o',ho',h,_⟩ := F.pos l1 i (l2 ++ rest) (by rw [hs,he]; simp)
 rw [ho] at ho'
 injection ho' with ho'
 subst ho'
 rw [he]
 exact qnf _ (h d hd).1
theorem qbP.bef_done {L : List Oper} {ord : List Nat} (F : qbP T L ord) {done rest : List Nat} (hs : ord = done ++ rest) {i j : Nat} (hi : i < L.length) (hm : i ∈ done)
  (hb : bef (masks L []) i j = true) : j ∈ done :=
 qdJ (E := fun x => x ∈ done) F.small (F.done_closed hs) i j hi hm hb
theorem qbP.bef_next {L : List Oper} {ord : List Nat} (F : qbP T L ord) {done rest : List Nat} {i : Nat} (hs : ord = done ++ i :: rest) {j : Nat} (hb : bef (masks L []) i j = true) : j ∈ done := by
 obtain ⟨o,ho,hd,_,_⟩ := F.pos done i rest hs
 obtain ⟨d,hdd,h⟩ := qdI L [] i j o ho (by simpa using hb)
 have hdm := (hd d hdd).1
 rcases h with rfl | h
 ·exact hdm
 ·have hlt : d < L.length := by have := (hd d hdd).2; have := (List.getElem?_eq_some_iff.1 ho).1; omega
  exact F.bef_done hs hlt hdm h
theorem qbP.slot_next {L : List Oper} {ord : List Nat} (F : qbP T L ord) {done rest : List Nat} {i : Nat} (hs : ord = done ++ i :: rest) {o : Oper} (ho : L[i]? = some o) (V : Nat → Value) (fr0 : Fr) :
  ∀ s ∈ looks L o,slotAt L (fun j => done.contains j) V fr0 s = slotAt L (fun j => bef (masks L []) i j) V fr0 s := by
 intro s hm
 unfold slotAt
 cases hw : qcK L s with
 | none => rfl
 | some j =>
  simp only
  obtain ⟨_,_,_,hni,_⟩ := F.pos done i rest hs
  have : done.contains j = bef (masks L []) i j := by
   cases hb : bef (masks L []) i j with
   | true => simpa using F.bef_next hs hb
   | false =>
    cases hc : done.contains j with
    | false => rfl
    | true =>
     exfalso
     have hj : j ∈ done := by simpa using hc
     rcases F.look i o s j ho hm hw with h | h
     ·rw [h] at hb; cases hb
     ·obtain ⟨p,hp,_⟩ := qcN hw
      exact hni (F.bef_done hs (List.getElem?_eq_some_iff.1 hp).1 hj h)
  simp only [this]
theorem qbP.slot_ready {L : List Oper} {ord : List Nat} (F : qbP T L ord) {E : Nat → Bool} (hc : ∀ (i : Nat) (o : Oper),L[i]? = some o → E i = true → ∀ d ∈ depsOf o,E d = true) {i : Nat} {o : Oper} (ho : L[i]? = some o)
  (hr : ∀ d ∈ depsOf o,E d = true) (hn : E i = false) (V : Nat → Value) (fr0 : Fr) :
  ∀ s ∈ looks L o,slotAt L E V fr0 s = slotAt L (fun j => bef (masks L []) i j) V fr0 s := by
 intro s hm
 unfold slotAt
 cases hw : qcK L s with
 | none => rfl
 | some j =>
  simp only
  have hlt : i < L.length := (List.getElem?_eq_some_iff.1 ho).1
  have : E j = bef (masks L []) i j := by
   cases hb : bef (masks L []) i j with
   | true =>
    obtain ⟨d,hd,h⟩ := qdI L [] i j o ho (by simpa using hb)
    have hE := hr d hd
    rcases h with rfl | h
    ·exact hE
    ·exact qdJ (E := fun x => E x = true) F.small hc d j (by have := F.small i o ho d hd; omega) hE h
   | false =>
    cases hE : E j with
    | false => rfl
    | true =>
     exfalso
     rcases F.look i o s j ho hm hw with h | h
     ·rw [h] at hb; cases hb
     ·obtain ⟨p,hp,_⟩ := qcN hw
      have := qdJ (E := fun x => E x = true) F.small hc j i (List.getElem?_eq_some_iff.1 hp).1 hE h
      rw [hn] at this; cases this
  rw [this]
theorem qdi {L : List Oper} {E : Nat → Bool} {V V' : Nat → Value} {fr0 : Fr} (h : ∀ j,E j = true → V j = V' j) (s : Nat) : slotAt L E V fr0 s = slotAt L E V' fr0 s := by
 unfold slotAt
 split
 ·split
  ·rw [h _ ‹_›]
  ·rfl
 ·rfl
theorem qgG {L : List Oper} (hn : (L.filterMap (·.dst)).Nodup) {done : List Nat} {i : Nat} {o : Oper} (ho : L[i]? = some o) (hi : i ∉ done) {V : Nat → Value} {fr0 fr : Fr} {v : Value}
  (hf : ∀ s,fr s = slotAt L (fun j => done.contains j) V fr0 s) :
  ∀ s,frput fr o.dst v s = slotAt L (fun j => (done ++ [i]).contains j) (fun x => if x = i then v else V x) fr0 s := by
 intro s
 have key : ∀ (_ : o.dst ≠ some s),slotAt L (fun j => (done ++ [i]).contains j) (fun x => if x = i then v else V x) fr0 s = fr s := by
  intro hne
  rw [hf]
  unfold slotAt
  cases hw : qcK L s with
  | none => rfl
  | some j =>
   have hji : j ≠ i := by
    intro e
    subst e
    obtain ⟨p,hp,hps⟩ := qcN hw
    rw [ho] at hp
    injection hp with hp
    subst hp
    exact hne hps
   simp [hji]
 cases hd : o.dst with
 | none => rw [key (by simp [hd])]; rfl
 | some d =>
  by_cases hs : s = d
  ·subst hs
   rw [qdK]
   unfold slotAt
   rw [qhp hn ho hd]
   simp
  ·rw [qdm _ _ hs]
   exact (key (by rw [hd]; intro e; injection e with e; exact hs e.symm)).symm
end
variable {Ds : List Deferred}
section
variable {P : Program} {T : Nat → TyE}
theorem Pend.mono {L : List Oper} {o : Oper} {fr : Fr} {i : Nat} {v : Value} {H H' : AH} {φ φ' : Emb} {recs recs' : List (Nat × (AH → Prop))} {bid : Option Nat}
  (h : Pend P T L o fr i v H φ recs bid) (hrec : ∀ rec,(i,rec) ∈ recs → Stays rec → rec H → (i,rec) ∈ recs' ∧ rec H')
  (hal : ∀ b,bid = some b → φ b = none → H'.get b = H.get b ∧ φ' b = none) : Pend P T L o fr i v H' φ' recs' bid := by
 cases h with
 | skip hg hv => exact .skip hg hv
 | pure hg h => exact .pure hg h
 | load hg rec hm hr h hs => obtain ⟨h1,h2⟩ := hrec rec hm hs hr; exact .load hg rec h1 h2 h hs
 | alloc hg b hb h hn => obtain ⟨h1,h2⟩ := hal b hb hn; exact .alloc hg b hb (by rw [h1]; exact h) h2
theorem DInv.advance (hT : qW P T) {pan : Nat → Bool} {n : Nat} {ops : Array Oper} {K : Fr → AH → Prop} {ord : List Nat} (F : qbP T ops.toList ord) {fr0 : Fr} {W : World} {φ0 : Emb} {H0 : AH}
    {listed : Array Bool} {a : Act} {w : World} {done rest : List Nat} {V : Nat → Value} {bid : Nat → Option Nat} {recs : List (Nat × (AH → Prop))} {fr : Fr} {H : AH} {φ : Emb} {i : Nat}
    (D : DInv Ds P T pan n ops K ord fr0 W φ0 H0 listed a w done (i :: rest) V bid recs fr H φ) {o : Oper} (ho : ops.toList[i]? = some o) (hh : isHeavy T o.op = false) :
    ∃ V' bid' recs' fr' H',DInv Ds P T pan n ops K ord fr0 W φ0 H0 listed a w (done ++ [i]) rest V' bid' recs' fr' H' φ := by
  have hsplit : ord = (done ++ [i]) ++ rest := by rw [D.split]; simp
  obtain ⟨_,_,_,hni,_⟩ := F.pos done i rest D.split
  have hisz : i < ops.size := by have := (List.getElem?_eq_some_iff.1 ho).1; simpa using this
  have hil : listed.getD i true = false := by
    cases h : listed.getD i true with
    | false => rfl
    | true => exact absurd (D.sub i hisz h) hni
  have hrun := D.run
  simp only [wpD,ho] at hrun
  split at hrun
  case isFalse => exact hrun.elim
  rename_i hdst
  have hslot := F.slot_next D.split ho V fr0
  have hlook : ∀ (V' : Nat → Value),(∀ x,x ∈ done → V' x = V x) → ∀ s ∈ looks ops.toList o,fr s = slotAt ops.toList (fun j => bef (masks ops.toList []) i j) V' fr0 s := by
    intro V' hV s hs
    rw [D.frame s,hslot s hs]
    exact qdi (fun j hj => (hV j (F.bef_next D.split hj)).symm) s
  -- the new state,once its value and heap are known
  have build : ∀ (v : Value) (H' : AH) (recs' : List (Nat × (AH → Prop))) (bid' : Nat → Option Nat),wpD P T pan n ops (masks ops.toList []) K rest recs' (frput fr o.dst v) H' →
      Rel W φ H' w → Hist φ H φ H' → (∀ j b,bid' j = some b → b < H'.size ∧ H0.size ≤ b) → (∀ j k b,bid' j = some b → bid' k = some b → j = k) → (∀ j,j ∈ done → bid' j = bid j) →
      (∀ j rec,(j,rec) ∈ recs → Stays rec → rec H → (j,rec) ∈ recs' ∧ rec H') → Pend P T ops.toList o fr i v H' φ recs' (bid' i) →
      DInv Ds P T pan n ops K ord fr0 W φ0 H0 listed a w (done ++ [i]) rest (fun x => if x = i then v else V x) bid' recs' (frput fr o.dst v) H' φ := by
    intro v H' recs' bid' hw R' hh1 hb1 hb2 hb3 hrec hp
    have hV : ∀ x,x ∈ done → (if x = i then v else V x) = V x := by
      intro x hx
      have : x ≠ i := fun e => hni (e ▸ hx)
      rw [if_neg this]
    refine { split := hsplit,run := hw,frame := qgG F.nodup ho hni D.frame,rel := R',hist := D.hist.trans hh1,size := D.size,defers := D.defers,slots := ?_,lsize := D.lsize,
             sub := ?_,closed := D.closed,bidlt := fun j b h => (hb1 j b h).1,bidge := fun j b h => (hb1 j b h).2,bidinj := hb2,pend := ?_ }
    · intro s
      have e : slotAt ops.toList (fun j => listed.getD j true) (fun x => if x = i then v else V x) fr0 s = slotAt ops.toList (fun j => listed.getD j true) V fr0 s := by
        refine qdi (fun j hj => ?_) s
        have : j ≠ i := fun e => by subst e; rw [hil] at hj; cases hj
        rw [if_neg this]
      rw [e]
      exact D.slots s
    · intro j hj hl
      exact qnf _ (D.sub j hj hl)
    · intro j hj hl
      rcases List.mem_append.1 hj with hjd | hji
      · obtain ⟨p,fri,hp1,hp2,hp3,hp4⟩ := D.pend j hjd hl
        have hjlt : j < ops.toList.length := (List.getElem?_eq_some_iff.1 hp1).1
        refine ⟨p,fri,hp1,hp2,fun s hs => ?_,?_⟩
        · rw [hp3 s hs]
          exact qdi (fun k hk => (hV k (F.bef_done D.split hjlt hjd hk)).symm) s
        · simp only [hV j hjd]
          rw [hb3 j hjd]
          exact hp4.mono (fun rec hm hs hr => hrec j rec hm hs hr) (fun b hb hn => ⟨hh1.2.2.2 b (D.bidlt j b hb) hn,hn⟩)
      · obtain rfl : j = i := by simpa using hji
        refine ⟨o,fr,ho,hdst,hlook _ (fun x hx => hV x hx),?_⟩
        simp only [if_true]
        exact hp
  rcases qgC hrun with ⟨hg,hy⟩ | ⟨hg,hy⟩
  · split at hy
    · obtain ⟨v,rec,hk,hr,hok,hst⟩ := qgD hT hy
      exact ⟨_,_,_,_,_,build v H ((i,rec) :: recs) bid hk D.rel (Hist.refl _ _) (fun j b h => ⟨D.bidlt j b h,D.bidge j b h⟩) D.bidinj (fun _ _ => rfl) (fun j r hm _ hrr => ⟨List.mem_cons_of_mem _ hm,hrr⟩)
        (.load hg rec (by simp) hr hok hst)⟩
    · split at hy
      · obtain ⟨v,ob,hk,hok⟩ := qga hT hy
        refine ⟨_,_,_,_,_,build v (H.push ob) recs (fun j => if j = i then some H.size else if j ∈ done then bid j else none) hk (D.rel.push ob) ?_ ?_ ?_ ?_ ?_ ?_⟩
        · refine ⟨Emb.le_refl φ,by simp [AH.push],fun _ _ h => h,fun b hb _ => ?_⟩
          have : b ≠ H.size := by omega
          simp [AH.push,this]
        · intro j b hb
          simp only [AH.push]
          split at hb
          · injection hb with hb; have := D.hist.2.1; omega
          · split at hb
            · have h1 := D.bidlt j b hb; have h2 := D.bidge j b hb; omega
            · cases hb
        · intro j k b hj hk'
          split at hj
          · injection hj with hj
            subst hj
            split at hk'
            · rename_i h1 h2; rw [h1,h2]
            · split at hk'
              · have := D.bidlt k _ hk'; omega
              · cases hk'
          · split at hj
            · split at hk'
              · injection hk' with hk'
                subst hk'
                have := D.bidlt j _ hj; omega
              · split at hk'
                · exact D.bidinj j k b hj hk'
                · cases hk'
            · cases hj
        · intro j hj
          have : j ≠ i := fun e => hni (e ▸ hj)
          simp [this,hj]
        · intro j r hm hs hr
          exact ⟨hm,hs H ob D.rel.out hr⟩
        · refine .alloc hg H.size (by simp) ?_ D.rel.fresh
          have : (H.push ob).get H.size = ob := by simp [AH.push]
          rw [this]
          exact hok
      · split at hy
        · rename_i h3; rw [hh] at h3; cases h3
        · obtain ⟨v,hk,hok⟩ := qgK hT hy
          exact ⟨_,_,_,_,_,build v H recs bid hk D.rel (Hist.refl _ _) (fun j b h => ⟨D.bidlt j b h,D.bidge j b h⟩) D.bidinj (fun _ _ => rfl) (fun j r hm _ hrr => ⟨hm,hrr⟩) (.pure hg hok)⟩
  · exact ⟨_,_,_,_,_,build skipV H recs bid hy D.rel (Hist.refl _ _) (fun j b h => ⟨D.bidlt j b h,D.bidge j b h⟩) D.bidinj (fun _ _ => rfl) (fun j r hm _ hrr => ⟨hm,hrr⟩) (.skip hg rfl)⟩
theorem DInv.norm (hT : qW P T) {pan : Nat → Bool} {n : Nat} {ops : Array Oper} {K : Fr → AH → Prop} {ord : List Nat} (F : qbP T ops.toList ord) {fr0 : Fr} {W : World} {φ0 : Emb} {H0 : AH}
  {listed : Array Bool} {a : Act} {w : World} {φ : Emb} : ∀ (rest done : List Nat) (V : Nat → Value) (bid : Nat → Option Nat) (recs : List (Nat × (AH → Prop))) (fr : Fr) (H : AH),
  DInv Ds P T pan n ops K ord fr0 W φ0 H0 listed a w done rest V bid recs fr H φ →
  ∃ done' rest' V' bid' recs' fr' H',DInv Ds P T pan n ops K ord fr0 W φ0 H0 listed a w done' rest' V' bid' recs' fr' H' φ ∧
   (rest' = [] ∨ ∃ e tl o,rest' = e :: tl ∧ ops.toList[e]? = some o ∧ isHeavy T o.op = true) := by
 intro rest
 induction rest with
 | nil => intro done V bid recs fr H D; exact ⟨_,_,_,_,_,_,_,D,.inl rfl⟩
 | cons i rest ih =>
  intro done V bid recs fr H D
  obtain ⟨o,ho,_,_,_⟩ := F.pos done i rest D.split
  cases hh : isHeavy T o.op with
  | true => exact ⟨_,_,_,_,_,_,_,D,.inr ⟨i,rest,o,rfl,ho,hh⟩⟩
  | false =>
   obtain ⟨V',bid',recs',fr',H',D'⟩ := D.advance hT F ho hh
   exact ih _ _ _ _ _ _ D'
end
variable {Ds : List Deferred}
section
variable {P : Program} {T : Nat → TyE}
theorem qcd {listed : Array Bool} {i j : Nat} (hi : i < listed.size) : (listed.setIfInBounds i true).getD j true = if j = i then true else listed.getD j true := by
 by_cases h : j = i
 ·subst h; simp [hi]
 ·rw [if_neg h,getD_set_ne true (Ne.symm h)]
theorem qiV {L : List Oper} (hn : (L.filterMap (·.dst)).Nodup) {listed : Array Bool} {i : Nat} {o : Oper} (ho : L[i]? = some o) (hi : i < listed.size) (V : Nat → Value) (fr0 : Fr) (s : Nat) :
  slotAt L (fun j => (listed.setIfInBounds i true).getD j true) V fr0 s = if o.dst = some s then V i else slotAt L (fun j => listed.getD j true) V fr0 s := by
 by_cases hd : o.dst = some s
 ·rw [if_pos hd]
  unfold slotAt
  rw [qhp hn ho hd]
  simp only [qcd hi,if_true]
 ·rw [if_neg hd]
  unfold slotAt
  cases hw : qcK L s with
  | none => rfl
  | some j =>
   have hji : j ≠ i := by
    intro e
    subst e
    obtain ⟨p,hp,hps⟩ := qcN hw
    rw [ho] at hp
    injection hp with hp
    subst hp
    exact hd hps
   simp only [qcd hi,hji,if_false]
theorem qhA {L : List Oper} (hn : (L.filterMap (·.dst)).Nodup) {listed : Array Bool} {i : Nat} {o : Oper} (ho : L[i]? = some o) (hi : i < listed.size) {n : Nat} (hdst : dstOK n o.dst = true)
  {V : Nat → Value} {fr0 : Fr} {φ : Emb} {a : Act} (hsz : a.tmps.size = n) (hs : ∀ s,VRel φ (slotAt L (fun j => listed.getD j true) V fr0 s) (a.tmps.getD s undef)) {v' : Value} (hv : VRel φ (V i) v') :
  ∀ s,VRel φ (slotAt L (fun j => (listed.setIfInBounds i true).getD j true) V fr0 s) ((a.put o.dst v').tmps.getD s undef) := by
 intro s
 rw [qiV hn ho hi]
 cases hd : o.dst with
 | none => simp only [reduceCtorEq,if_false,Act.put]; exact hs s
 | some d =>
  have hlt : d < a.tmps.size := by rw [hsz]; exact qhZ hdst d hd
  by_cases h : d = s
  ·subst h
   simp only [if_true,Act.put]
   have : (a.tmps.setIfInBounds d v').getD d undef = v' := by simp [hlt]
   rw [this]
   exact hv
  ·rw [if_neg (by intro e; injection e with e; exact h e)]
   simp only [Act.put]
   have : (a.tmps.setIfInBounds d v').getD s undef = a.tmps.getD s undef := by
    simp [ql9,Array.getElem?_setIfInBounds_ne h]
   rw [this]
   exact hs s
theorem DInv.carry {pan : Nat → Bool} {n : Nat} {ops : Array Oper} {K : Fr → AH → Prop} {ord : List Nat} (F : qbP T ops.toList ord) {fr0 : Fr} {W : World} {φ0 : Emb} {H0 : AH}
  {listed : Array Bool} {a : Act} {w : World} {done rest : List Nat} {V : Nat → Value} {bid : Nat → Option Nat} {recs : List (Nat × (AH → Prop))} {fr : Fr} {H : AH} {φ : Emb} {i : Nat}
  (D : DInv Ds P T pan n ops K ord fr0 W φ0 H0 listed a w done rest V bid recs fr H φ) {o : Oper} (ho : ops.toList[i]? = some o) (hi : i ∈ done) (hdst : dstOK n o.dst = true)
  (hdeps : ∀ d ∈ depsOf o,listed.getD d true = true) (hni : listed.getD i true = false) {φ' : Emb} {w' : World} {v' : Value} (hle : φ.le φ') (hnew : ∀ x,φ x = none → φ' x = none ∨ bid i = some x) (R' : Rel W φ' H w') (hv : VRel φ' (V i) v') :
  DInv Ds P T pan n ops K ord fr0 W φ0 H0 (listed.setIfInBounds i true) (a.put o.dst v') w' done rest V bid recs fr H φ' := by
 have hisz : i < ops.size := by have := (List.getElem?_eq_some_iff.1 ho).1; simpa using this
 have hil : i < listed.size := by rw [D.lsize]; exact hisz
 refine { split := D.split,run := D.run,frame := D.frame,rel := R',hist := ?_,size := ?_,defers := ?_,slots := ?_,lsize := by simp [D.lsize],sub := ?_,closed := ?_,bidlt := D.bidlt,bidge := D.bidge,bidinj := D.bidinj,pend := ?_ }
 ·obtain ⟨h1,h2,h3,h4⟩ := D.hist
  refine ⟨Emb.le_trans h1 hle,h2,fun b hb hn => ?_,h4⟩
  rcases hnew b (h3 b hb hn) with h | h
  ·exact h
  ·have := D.bidge i b h; omega
 ·cases hd : o.dst <;> simp [Act.put,D.size]
 ·cases hd : o.dst <;> simp [Act.put,D.defers]
 ·exact qhA F.nodup ho hil hdst D.size (fun s => (D.slots s).mono hle) hv
 ·intro j hj hl
  rw [qcd hil] at hl
  split at hl
  ·rename_i e; rw [e]; exact hi
  ·exact D.sub j hj hl
 ·intro j p hp hl d hd
  rw [qcd hil] at hl ⊢
  split
  ·rfl
  ·split at hl
   ·rename_i e
    subst e
    rw [ho] at hp
    injection hp with hp
    subst hp
    exact hdeps d hd
   ·exact D.closed j p hp hl d hd
 ·intro j hj hl
  rw [qcd hil] at hl
  split at hl
  ·cases hl
  ·rename_i hne
   obtain ⟨p,fri,hp1,hp2,hp3,hp4⟩ := D.pend j hj hl
   refine ⟨p,fri,hp1,hp2,hp3,hp4.mono (fun rec hm _ hr => ⟨hm,hr⟩) (fun b hb hn => ⟨rfl,?_⟩)⟩
   rcases hnew b hn with h | h
   ·exact h
   ·exact absurd (D.bidinj j i b hb h) hne
theorem qiP {M : List Nat} {e : Nat} {H : AH} {C : Prop} : ∀ (recs : List (Nat × (AH → Prop))),checks M e H C recs → C ∧ ∀ i rec,(i,rec) ∈ recs → bef M e i = false → rec H := by
 intro recs
 induction recs with
 | nil => intro h; exact ⟨h,fun i rec hm => by simp at hm⟩
 | cons r recs ih =>
  intro h
  obtain ⟨j,rec'⟩ := r
  simp only [checks] at h
  split at h
  ·rename_i hb
   obtain ⟨h1,h2⟩ := ih h
   refine ⟨h1,fun i rec hm hn => ?_⟩
   rcases List.mem_cons.1 hm with h | h
   ·injection h with e1 e2; subst e1; rw [hb] at hn; cases hn
   ·exact h2 i rec h hn
  ·obtain ⟨h0,h⟩ := h
   obtain ⟨h1,h2⟩ := ih h
   refine ⟨h1,fun i rec hm hn => ?_⟩
   rcases List.mem_cons.1 hm with h | h
   ·injection h with e1 e2; subst e1 e2; exact h0
   ·exact h2 i rec h hn
theorem DInv.carryHeavy {pan : Nat → Bool} {n : Nat} {ops : Array Oper} {K : Fr → AH → Prop} {ord : List Nat} (F : qbP T ops.toList ord) {fr0 : Fr} {W : World} {φ0 : Emb} {H0 : AH}
    {listed : Array Bool} {a : Act} {w : World} {done rest : List Nat} {V : Nat → Value} {bid : Nat → Option Nat} {recs : List (Nat × (AH → Prop))} {fr : Fr} {H : AH} {φ : Emb} {i : Nat}
    (D : DInv Ds P T pan n ops K ord fr0 W φ0 H0 listed a w done (i :: rest) V bid recs fr H φ) {o : Oper} (ho : ops.toList[i]? = some o) (hdst : dstOK n o.dst = true)
    (hdeps : ∀ d ∈ depsOf o,listed.getD d true = true) (hni : listed.getD i true = false) {φ' : Emb} {w' : World} {v v' : Value} {H' : AH} (hh : Hist φ H φ' H') (R' : Rel W φ' H' w') (hv : VRel φ' v v')
    (hrun : wpD P T pan n ops (masks ops.toList []) K rest recs (frput fr o.dst v) H') (hrec : ∀ j rec,(j,rec) ∈ recs → bef (masks ops.toList []) i j = false → rec H → rec H') :
    DInv Ds P T pan n ops K ord fr0 W φ0 H0 (listed.setIfInBounds i true) (a.put o.dst v') w' (done ++ [i]) rest (fun x => if x = i then v else V x) bid recs (frput fr o.dst v) H' φ' := by
  have hisz : i < ops.size := by have := (List.getElem?_eq_some_iff.1 ho).1; simpa using this
  have hil : i < listed.size := by rw [D.lsize]; exact hisz
  obtain ⟨_,_,_,hnd,_⟩ := F.pos done i rest D.split
  have hV : ∀ x,x ∈ done → (if x = i then v else V x) = V x := by
    intro x hx
    have : x ≠ i := fun e => hnd (e ▸ hx)
    rw [if_neg this]
  refine { split := by rw [D.split]; simp,run := hrun,frame := qgG F.nodup ho hnd D.frame,rel := R',hist := D.hist.trans hh,size := ?_,defers := ?_,slots := ?_,lsize := by simp [D.lsize],sub := ?_,closed := ?_,
           bidlt := fun j b h => Nat.lt_of_lt_of_le (D.bidlt j b h) hh.2.1,bidge := D.bidge,bidinj := D.bidinj,pend := ?_ }
  · cases hd : o.dst <;> simp [Act.put,D.size]
  · cases hd : o.dst <;> simp [Act.put,D.defers]
  · refine qhA F.nodup ho hil hdst D.size (fun s => ?_) (by simp only [if_true]; exact hv)
    have e : slotAt ops.toList (fun j => listed.getD j true) (fun x => if x = i then v else V x) fr0 s = slotAt ops.toList (fun j => listed.getD j true) V fr0 s := by
      refine qdi (fun j hj => ?_) s
      have : j ≠ i := fun e => by subst e; rw [hni] at hj; cases hj
      rw [if_neg this]
    rw [e]
    exact (D.slots s).mono hh.1
  · intro j hj hl
    rw [qcd hil] at hl
    split at hl
    · rename_i e; rw [e]; simp
    · exact qnf _ (D.sub j hj hl)
  · intro j p hp hl d hd
    rw [qcd hil] at hl ⊢
    split
    · rfl
    · split at hl
      · rename_i e
        subst e
        rw [ho] at hp
        injection hp with hp
        subst hp
        exact hdeps d hd
      · exact D.closed j p hp hl d hd
  · intro j hj hl
    rw [qcd hil] at hl
    split at hl
    · cases hl
    · rename_i hne
      have hjd : j ∈ done := by
        rcases List.mem_append.1 hj with h | h
        · exact h
        · exact absurd (by simpa using h) hne
      obtain ⟨p,fri,hp1,hp2,hp3,hp4⟩ := D.pend j hjd hl
      have hjlt : j < ops.toList.length := (List.getElem?_eq_some_iff.1 hp1).1
      refine ⟨p,fri,hp1,hp2,fun s hs => ?_,?_⟩
      · rw [hp3 s hs]
        exact qdi (fun k hk => (hV k (F.bef_done D.split hjlt hjd hk)).symm) s
      · simp only [hV j hjd]
        refine hp4.mono (fun rec hm _ hr => ⟨hm,hrec j rec hm ?_ hr⟩) (fun b hb hn => ⟨hh.2.2.2 b (D.bidlt j b hb) hn,hh.2.2.1 b (D.bidlt j b hb) hn⟩)
        cases hb : bef (masks ops.toList []) i j with
        | false => rfl
        | true =>
          exfalso
          obtain ⟨d,hd,h⟩ := qdI ops.toList [] i j o ho (by simpa using hb)
          have hE := hdeps d hd
          have : listed.getD j true = true := by
            rcases h with rfl | h
            · exact hE
            · exact qdJ (E := fun x => listed.getD x true = true) F.small (fun i o ho h => D.closed i o ho h) d j (by have := F.small i o ho d hd; simp at hjlt ⊢; omega) hE h
          rw [hl] at this; cases this
end
variable {Ds : List Deferred}
section
variable {P : Program} {T : Nat → TyE}
def unlisted (listed : Array Bool) : Nat → Nat
 | 0 => 0
 | n + 1 => unlisted listed n + (if listed.getD n true = true then 0 else 1)
theorem qhF {listed : Array Bool} : ∀ n,unlisted listed n = 0 → ∀ i,i < n → listed.getD i true = true := by
 intro n
 induction n with
 | zero => intro _ i hi; omega
 | succ n ih =>
  intro h i hi
  simp only [unlisted] at h
  rcases Nat.lt_or_ge i n with hl | hl
  ·exact ih (by omega) i hl
  ·obtain rfl : i = n := by omega
   split at h
   ·assumption
   ·omega
theorem qh1 {listed : Array Bool} {i : Nat} (hi : i < listed.size) (hn : listed.getD i true = false) : ∀ n,i < n → unlisted (listed.setIfInBounds i true) n + 1 = unlisted listed n := by
 have same : ∀ n,n ≤ i → unlisted (listed.setIfInBounds i true) n = unlisted listed n := by
  intro n
  induction n with
  | zero => intro _; rfl
  | succ n ih =>
   intro h
   have e : (listed.setIfInBounds i true).getD n true = listed.getD n true := by rw [qcd hi,if_neg (by omega)]
   simp only [unlisted]
   rw [ih (by omega),e]
 intro n
 induction n with
 | zero => intro h; omega
 | succ n ih =>
  intro h
  simp only [unlisted]
  by_cases hin : i = n
  ·subst hin
   have e : (listed.setIfInBounds i true).getD i true = true := by rw [qcd hi,if_pos rfl]
   rw [same i (qlS _),e,hn]
   simp
  ·have e : (listed.setIfInBounds i true).getD n true = listed.getD n true := by rw [qcd hi,if_neg (fun e => hin e.symm)]
   rw [← ih (by omega),e]
   omega
theorem qgW {o : Oper} {d : Nat} : d ∈ depsOf o ↔ ∃ e ∈ o.after,Region.binds .any e = true ∧ e.on = d := by
 unfold depsOf
 simp only [List.mem_map,List.mem_filter,Array.mem_toList_iff]
 constructor
 ·rintro ⟨e,⟨h1,h2⟩,h3⟩; exact ⟨e,h1,h2,h3⟩
 ·rintro ⟨e,h1,h2,h3⟩; exact ⟨e,⟨h1,h2⟩,h3⟩
theorem DInv.any (hT : qW P T) {pan : Nat → Bool} {n : Nat} {ops : Array Oper} {K : Fr → AH → Prop} {ord : List Nat} (F : qbP T ops.toList ord) {fr0 : Fr} {W : World} {φ0 : Emb} {H0 : AH} {Q : Exit → Act → World → Prop}
  (hout : True) (hK : ∀ φ' fr' H' a' w',Hist φ0 H0 φ' H' → ARel Ds φ' n fr' a' → (∀ s,s ∉ ops.toList.filterMap (·.dst) → fr' s = fr0 s) → Rel W φ' H' w' → K fr' H' → Q .normal a' w') :
  ∀ (fuel : Nat) (listed : Array Bool) (a : Act) (w : World),unlisted listed ops.size ≤ fuel →
   (∃ done rest V bid recs fr H φ,DInv Ds P T pan n ops K ord fr0 W φ0 H0 listed a w done rest V bid recs fr H φ) → wpAny P .any ops Q fuel listed a w := by
 have finish : ∀ (listed : Array Bool) (a : Act) (w : World),(∀ i,i < ops.size → listed.getD i true = true) →
   (∃ done rest V bid recs fr H φ,DInv Ds P T pan n ops K ord fr0 W φ0 H0 listed a w done rest V bid recs fr H φ) → Q .normal a w := by
  intro listed a w hall ⟨done,rest,V,bid,recs,fr,H,φ,D⟩
  have hrest : rest = [] := by
   cases rest with
   | nil => rfl
   | cons e tl =>
    exfalso
    obtain ⟨o,ho,_,hn,_⟩ := F.pos done e tl D.split
    have hlt : e < ops.size := by have := (List.getElem?_eq_some_iff.1 ho).1; simpa using this
    exact hn (D.sub e hlt (hall e hlt))
  subst hrest
  have hrun := D.run
  simp only [wpD] at hrun
  refine hK φ fr H a w D.hist ⟨D.defers,D.size,fun s => ?_⟩ (fun s hs => ?_) D.rel hrun
  case refine_2 =>
   rw [D.frame s]
   unfold slotAt
   cases hw : qcK ops.toList s with
   | none => rfl
   | some j =>
    obtain ⟨p,hp,hps⟩ := qcN hw
    exact absurd (List.mem_filterMap.2 ⟨p,qlX hp,hps⟩) hs
  rw [D.frame s]
  have : slotAt ops.toList (fun j => done.contains j) V fr0 s = slotAt ops.toList (fun j => listed.getD j true) V fr0 s := by
   unfold slotAt
   cases hw : qcK ops.toList s with
   | none => rfl
   | some j =>
    obtain ⟨p,hp,_⟩ := qcN hw
    have hlt : j < ops.size := by have := (List.getElem?_eq_some_iff.1 hp).1; simpa using this
    have h1 := hall j hlt
    have h2 : done.contains j = true := by simpa using D.sub j hlt h1
    simp only [h1,h2]
  rw [this]
  exact D.slots s
 have ready_all : ∀ (listed : Array Bool),listed.size = ops.size → Region.ready .any ops listed = [] → ∀ i,i < ops.size → listed.getD i true = true := by
  intro listed hls hr i
  induction i using Nat.strongRecOn with
  | _ i ih =>
   intro hi
   cases hl : listed.getD i true with
   | true => rfl
   | false =>
    exfalso
    have ho : ops[i]? = some ops[i] := Array.getElem?_eq_getElem hi
    have : i ∈ Region.ready .any ops listed := by
     rw [mem_ready]
     refine ⟨hl,ops[i],ho,fun e he hb => ?_⟩
     have hlt := F.small i ops[i] (by simp [hi]) e.on (qgW.2 ⟨e,he,hb,rfl⟩)
     have := ih e.on hlt (by omega)
     have hlt' : e.on < listed.size := by omega
     simpa [hlt'] using this
    rw [hr] at this
    cases this
 intro fuel
 induction fuel with
 | zero =>
  intro listed a w hf hD
  obtain ⟨done,rest,V,bid,recs,fr,H,φ,D⟩ := hD
  have hall := qhF (listed := listed) ops.size (by omega)
  refine ⟨?_,finish listed a w hall ⟨_,_,_,_,_,_,_,_,D⟩⟩
  cases hr : Region.ready .any ops listed with
  | nil => rfl
  | cons i l =>
   exfalso
   have : i ∈ Region.ready .any ops listed := by rw [hr]; simp
   obtain ⟨h1,o,ho,_⟩ := mem_ready.1 this
   have := hall i (Array.getElem?_eq_some_iff.1 ho).1
   rw [h1] at this; cases this
 | succ fuel ih =>
  intro listed a w hf hD
  obtain ⟨done,rest,V,bid,recs,fr,H,φ,D⟩ := hD
  refine ⟨fun hr => finish listed a w (ready_all listed D.lsize hr) ⟨_,_,_,_,_,_,_,_,D⟩,fun i hi => ?_⟩
  obtain ⟨hni,o,ho,hafter⟩ := mem_ready.1 hi
  have hisz : i < ops.size := (Array.getElem?_eq_some_iff.1 ho).1
  have hil : i < listed.size := by rw [D.lsize]; exact hisz
  have ho' : ops.toList[i]? = some o := by simpa using ho
  have hdeps : ∀ d ∈ depsOf o,listed.getD d true = true := by
   intro d hd
   obtain ⟨e,he,hb,rfl⟩ := qgW.1 hd
   have := hafter e he hb
   have hlt := F.small i o ho' e.on hd
   have hlt' : e.on < listed.size := by omega
   simpa [hlt'] using this
  have hfuel : unlisted (listed.setIfInBounds i true) ops.size ≤ fuel := by
   have := qh1 hil hni ops.size hisz; omega
  obtain ⟨done,rest,V,bid,recs,fr,H,D,hnorm⟩ := D.norm hT F
  have hready := F.slot_ready (E := fun j => listed.getD j true) (fun i o ho h => D.closed i o ho h) ho' hdeps hni V fr0
  unfold wpOp
  simp only [ho]
  by_cases hid : i ∈ done
  ·obtain ⟨p,fri,hp1,hdst,hfri,hp⟩ := D.pend i hid hni
   rw [ho'] at hp1
   injection hp1 with hp1
   subst hp1
   have hlook : ∀ s ∈ looks ops.toList o,VRel φ (fri s) (a.tmps.getD s undef) := by
    intro s hs
    rw [hfri s hs,← hready s hs]
    exact D.slots s
   cases hp with
   | skip hg hv =>
    rw [if_neg (by rw [qc9 hg hlook]; simp)]
    exact ih _ _ _ hfuel ⟨_,_,_,_,_,_,_,_,D.carry F ho' hid hdst hdeps hni (Emb.le_refl φ) (fun x h => .inl h) D.rel (by rw [hv]; exact .skip)⟩
   | pure hg hok =>
    rw [if_pos (qc9 hg hlook)]
    obtain ⟨v',hrun,hv⟩ := hok φ a.eval (qeX hlook)
    refine .inl ?_
    unfold Oper.wp
    rw [hrun w]
    exact ih _ _ _ hfuel ⟨_,_,_,_,_,_,_,_,D.carry F ho' hid hdst hdeps hni (Emb.le_refl φ) (fun x h => .inl h) D.rel hv⟩
   | load hg rec hm hr hok hs =>
    rw [if_pos (qc9 hg hlook)]
    obtain ⟨v',hrun,hv⟩ := hok φ a.eval W w H (qeX hlook) D.rel hr
    refine .inl ?_
    unfold Oper.wp
    rw [hrun]
    exact ih _ _ _ hfuel ⟨_,_,_,_,_,_,_,_,D.carry F ho' hid hdst hdeps hni (Emb.le_refl φ) (fun x h => .inl h) D.rel hv⟩
   | alloc hg b hb hok hn =>
    rw [if_pos (qc9 hg hlook)]
    obtain ⟨v',w',B,hrun,hv,R'⟩ := hok φ a.eval W w H (qeX hlook) D.rel rfl (D.bidlt i b hb) hn
    refine .inl ?_
    unfold Oper.wp
    rw [hrun]
    refine ih _ _ _ hfuel ⟨_,_,_,_,_,_,_,_,D.carry F ho' hid hdst hdeps hni (Emb.le_add hn) (fun x h => ?_) R' hv⟩
    by_cases hx : x = b
    ·subst hx; exact .inr hb
    ·exact .inl (by simp [Emb.add,hx,h])
  ·-- it is the next call or store
   have hiord : i ∈ ord := F.all i (by simpa using hisz)
   rcases hnorm with rfl | ⟨e,tl,oe,rfl,hoe,hheavy⟩
   ·rw [D.split] at hiord
    simp at hiord
    exact absurd hiord hid
   ·have hie : i = e := by
     rw [D.split] at hiord
     rcases List.mem_append.1 hiord with h | h
     ·exact absurd h hid
     ·rcases List.mem_cons.1 h with h | h
      ·exact h
      ·exfalso
       obtain ⟨t1,t2,ht⟩ := qm9 h
       obtain ⟨o2,ho2,_,_,hlast⟩ := F.pos (done ++ e :: t1) i t2 (by rw [D.split,ht]; simp)
       obtain ⟨e',he',hmem⟩ := qjn T ops.toList t1 e
       have hl : lastH T ops.toList (done ++ e :: t1) none = some e' := by
        rw [qh5]
        simp only [lastH,hoe,hheavy,if_true]
        exact he'
       have hbef := hlast e' hl
       obtain ⟨d,hd,hdd⟩ := qdI ops.toList [] i e' o ho' (by simpa using hbef)
       have hE := hdeps d hd
       have hlst : listed.getD e' true = true := by
        rcases hdd with rfl | hdd
        ·exact hE
        ·exact qdJ (E := fun x => listed.getD x true = true) F.small (fun i o ho h => D.closed i o ho h) d e' (by have := F.small i o ho' d hd; simp; omega) hE hdd
       have hlt' : e' < ops.size := by
        have hm : e' ∈ done ++ e :: tl := by
         refine List.mem_append_right _ ?_
         rcases hmem with rfl | hmem
         ·simp
         ·exact List.mem_cons_of_mem _ (by rw [ht]; exact qnf _ hmem)
        rw [← D.split] at hm
        obtain ⟨l1,l2,hl12⟩ := qm9 hm
        obtain ⟨o3,ho3,_⟩ := F.pos l1 e' l2 hl12
        have := (List.getElem?_eq_some_iff.1 ho3).1; simpa using this
       have hdone := D.sub e' hlt' hlst
       rcases hmem with rfl | hmem
       ·exact (F.pos done e' tl D.split).choose_spec.2.2.1 hdone
       ·obtain ⟨u1,u2,hu⟩ := qm9 hmem
        have := (F.pos (done ++ e :: u1) e' (u2 ++ i :: t2) (by rw [D.split,ht,hu]; simp)).choose_spec.2.2.1
        exact this (qnf _ hdone)
    subst hie
    rw [ho'] at hoe
    injection hoe with hoe
    subst hoe
    have hlook : ∀ s ∈ looks ops.toList o,VRel φ (fr s) (a.tmps.getD s undef) := by
     intro s hs
     rw [D.frame s,F.slot_next D.split ho' V fr0 s hs,← hready s hs]
     exact D.slots s
    have hrun := D.run
    simp only [wpD,ho'] at hrun
    split at hrun
    case isFalse => exact hrun.elim
    rename_i hdst
    rcases qgC hrun with ⟨hg,hy⟩ | ⟨hg,hy⟩
    ·rw [if_pos (qc9 hg hlook)]
     have hnl : isLoad T o.op = false := by
      cases h : isLoad T o.op with
      | false => rfl
      | true => simp [isHeavy,h] at hheavy
     have hna : isAlloc o.op = false := by
      cases h : isAlloc o.op with
      | false => rfl
      | true => simp [isHeavy,h] at hheavy
     simp only [hnl,hna,hheavy,if_true,Bool.false_eq_true,if_false] at hy
     refine .inl (qfF hT hy (qeX hlook) D.rel (fun φ' H' v v' w' hh hv R' hk => ?_) (fun φ' H' v v' w' _ _ _ h => h.elim) hout)
     obtain ⟨h1,h2⟩ := qiP recs hk
     exact ih _ _ _ hfuel ⟨_,_,_,_,_,_,_,_,D.carryHeavy F ho' hdst hdeps hni hh R' hv h1 (fun j rec hm hb _ => h2 j rec hm hb)⟩
    ·rw [if_neg (by rw [qc9 hg hlook]; simp)]
     exact ih _ _ _ hfuel ⟨_,_,_,_,_,_,_,_,D.carryHeavy F ho' hdst hdeps hni (Hist.refl φ H) D.rel .skip hy (fun j rec _ _ hr => hr)⟩
theorem qkM (hT : qW P T) (hm : P.follows .mixedOrders = true) {pan : Nat → Bool} {n : Nat} {ops : Array Oper} {K : Fr → AH → Prop} {ord : List Nat} (hord : ordOK T ops.toList (masks ops.toList []) ord = true)
  {fr : Fr} {H : AH} (h : wpD P T pan n ops (masks ops.toList []) K ord [] fr H) {W w : World} {φ : Emb} {a : Act} (A : ARel Ds φ n fr a) (R : Rel W φ H w) {Q : Exit → Act → World → Prop} (hout : True)
  (hK : ∀ φ' fr' H' a' w',Hist φ H φ' H' → ARel Ds φ' n fr' a' → (∀ s,s ∉ ops.toList.filterMap (·.dst) → fr' s = fr s) → Rel W φ' H' w' → K fr' H' → Q .normal a' w') (id : Nat) : (Code.region id ops true).wp P Q a w := by
 have F := qjh hord
 refine wp_region_any hm ?_
 have hrep : ∀ j,(qnn ops.size false).getD j true = true → ops.size ≤ j := by
  intro j hj
  rcases Nat.lt_or_ge j ops.size with h | h
  ·simp [h] at hj
  ·exact h
 have slots : ∀ s,slotAt ops.toList (fun j => (qnn ops.size false).getD j true) (fun _ => undef) fr s = fr s := by
  intro s
  unfold slotAt
  cases hw : qcK ops.toList s with
  | none => rfl
  | some j =>
   obtain ⟨p,hp,_⟩ := qcN hw
   have hlt : j < ops.size := by have := (List.getElem?_eq_some_iff.1 hp).1; simpa using this
   simp only
   rw [if_neg (fun h => by have := hrep j h; omega)]
 refine DInv.any hT (pan := pan) (fr0 := fr) F hout hK ops.size _ a _ ?_ ⟨[],ord,fun _ => undef,fun _ => none,[],fr,H,φ,?_⟩
 ·have : ∀ m,unlisted (qnn ops.size false) m ≤ m := by
   intro m
   induction m with
   | zero => simp [unlisted]
   | succ m ih => simp only [unlisted]; split <;> omega
  exact this _
 ·refine { split := rfl,run := h,frame := fun s => ?_,rel := R.drew,hist := Hist.refl φ H,size := A.size,defers := A.defers,slots := fun s => ?_,lsize := by simp,sub := ?_,closed := ?_,bidlt := ?_,bidge := ?_,bidinj := ?_,pend := ?_ }
  ·unfold slotAt
   cases hw : qcK ops.toList s <;> simp
  ·rw [slots s]; exact A.tmp s
  ·intro i hi hl; have := hrep i hl; omega
  ·intro i o ho hl
   have := hrep i hl
   have := (List.getElem?_eq_some_iff.1 ho).1
   simp at this; omega
  ·intro i b h; cases h
  ·intro i b h; cases h
  ·intro i j b h; cases h
  ·intro i hi; cases hi
end
variable {Ds : List Deferred}
inductive LExit where
 | normal
 | exit (id : Nat)
 | ret
 | pan (v : Value)
@[reducible] def K.T : K → Type
 | .int _ => Int
 | .bool => Bool
 | .str => ByteArray
 | .ptr => Option Addr
 | .sl => Sl
 | .agg => List Value
 | .map => Option Nat
 | .any => Value
 | .bad => Unit
def K.inj : (κ : K) → κ.T → Value
 | .int j,(n : Int) => .int j n
 | .bool,(b : Bool) => .bool b
 | .str,(s : ByteArray) => .string s
 | .ptr,(p : Option Addr) => .pointer p
 | .sl,(s : Sl) => s.val
 | .agg,(l : List Value) => .agg l.toArray
 | .map,(m : Option Nat) => .map m
 | .any,(v : Value) => v
 | .bad,_ => undef
def K.out : (κ : K) → Value → (κ.T → Prop) → Prop
 | .int j,v,k => match v with
  | .int j' n => if j = j' then k n else False
  | _ => False
 | .bool,v,k => match v with
  | .bool b => k b
  | _ => False
 | .str,v,k => match v with
  | .string s => k s
  | _ => False
 | .ptr,v,k => match v with
  | .pointer p => k p
  | _ => False
 | .sl,v,k => match v with
  | .slice a n c => k (Sl.mk a n c)
  | _ => False
 | .agg,v,k => match v with
  | .agg cs => k cs.toList
  | _ => False
 | .map,v,k => match v with
  | .map m => k m
  | _ => False
 | .any,v,k => k v
 | .bad,_,k => k ()
@[reducible] def Tup : List (Nat × K) → Type
 | [] => Unit
 | [(_,κ)] => κ.T
 | (_,κ) :: x :: r => κ.T × Tup (x :: r)
def tupFr (base : Fr) : (l : List (Nat × K)) → Tup l → Fr
 | [],_ => base
 | [(s,κ)],x => frput base (some s) (κ.inj x)
 | (s,κ) :: y :: r,x => frput (tupFr base (y :: r) x.2) (some s) (κ.inj x.1)
def tupOf (fr : Fr) : (l : List (Nat × K)) → (Tup l → Prop) → Prop
 | [],k => k ()
 | [(s,κ)],k => κ.out (fr s) k
 | (s,κ) :: y :: r,k => κ.out (fr s) fun x => tupOf fr (y :: r) fun xs => k (x,xs)
def loopN {τ : Type} (step : τ → AH → (τ → AH → Prop) → Prop) : Nat → τ → AH → Prop
 | 0 => fun _ _ => False
 | n + 1 => fun t H => step t H (loopN step n)
def loopT {τ : Type} (step : τ → AH → (τ → AH → Prop) → Prop) (t : τ) (H : AH) : Prop := ∃ n,loopN step n t H
def writes : Code → List Nat
 | .region _ ops _ => ops.toList.filterMap (·.dst)
 | .seq a b => writes a ++ writes b
 | .cond _ a b => writes a ++ writes b
 | .block _ b => writes b
 | .loop b => writes b
 | _ => []
def firstReg : Code → Nat
 | .region id _ _ => id
 | .seq a _ => firstReg a
 | .block _ b => firstReg b
 | .loop b => firstReg b
 | _ => 0
def clear (ws : List Nat) (fr : Fr) : Fr := fun s => cond (ws.contains s) undef (fr s)
structure Ann where
 keep : Nat → List (Nat × K)
 ord : Nat → List Nat
def thenK (k : Fr → AH → Prop) (Q : LExit → Fr → AH → Prop) : LExit → Fr → AH → Prop := fun e fr H =>
 match e with
 | .normal => k fr H
 | .exit id => Q (.exit id) fr H
 | .ret => Q .ret fr H
 | .pan v => Q (.pan v) fr H
def blockK (id : Nat) (Q : LExit → Fr → AH → Prop) : LExit → Fr → AH → Prop := fun e fr H =>
 match e with
 | .normal => Q .normal fr H
 | .exit j => if j = id then Q .normal fr H else Q (.exit j) fr H
 | .ret => Q .ret fr H
 | .pan v => Q (.pan v) fr H
def noFr : Fr := fun _ => undef
def wpC (P : Program) (T : Nat → TyE) (pan : Nat → Bool) (n : Nat) (A : Ann) : Code → Fr → AH → (LExit → Fr → AH → Prop) → Prop
 | .skip,fr,H,Q => Q .normal fr H
 | .region id ops draw,fr,H,Q =>
  if draw = true then
   if ordOK T ops.toList (masks ops.toList []) (A.ord id) = true then wpD P T pan n ops (masks ops.toList []) (fun fr H => Q .normal fr H) (A.ord id) [] fr H else False
  else wpS P T pan n ops (fun fr H => Q .normal fr H) (fun v H => Q (.pan v) noFr H) ops.toList fr H
 | .seq a b,fr,H,Q => wpC P T pan n A a fr H (thenK (fun fr H => wpC P T pan n A b fr H Q) Q)
 | .cond c a b,fr,H,Q =>
  match ev fr c with
  | .bool t => bcase t (wpC P T pan n A a fr H Q) (wpC P T pan n A b fr H Q)
  | _ => False
 | .block id b,fr,H,Q => wpC P T pan n A b fr H (blockK id Q)
 | .loop b,fr,H,Q =>
  if (A.keep (firstReg b)).all (fun p => (writes b).contains p.1) = true then
  tupOf fr (A.keep (firstReg b)) fun t0 =>
   loopT (fun t H it => wpC P T pan n A b (tupFr (clear (writes b) fr) (A.keep (firstReg b)) t) H (thenK (fun fr' H' => tupOf fr' (A.keep (firstReg b)) fun t' => it t' H') Q)) t0 H
  else False
 | .exit id,fr,H,Q => Q (.exit id) fr H
 | .ret,fr,H,Q => Q .ret fr H
 | _,_,_,_ => False
def ERel (φ : Emb) : LExit → Exit → Prop
 | .normal,.normal => True
 | .exit i,.exit j => i = j
 | .ret,.ret => True
 | .pan v,.panic c => ∃ v',c = [{ v := v',recovered := false }] ∧ VRel φ v v'
 | _,_ => False
def LExit.isPan : LExit → Bool
 | .pan _ => true
 | _ => false
def Leads (Ds : List Deferred) (n : Nat) (W : World) (φ : Emb) (fr : Fr) (H : AH) (ws : List Nat) (Q : LExit → Fr → AH → Prop) (QQ : Exit → Act → World → Prop) : Prop :=
 ∀ le e φ' fr' H' a' w',Hist φ H φ' H' → ERel φ' le e → a'.defers = Ds → (le.isPan = false → ARel Ds φ' n fr' a' ∧ ∀ s,s ∉ ws → fr' s = fr s) → (∃ frx,ARel Ds φ' n frx a' ∧ ∀ s,s ∉ ws → frx s = fr s) → Rel W φ' H' w' → Q le fr' H' → QQ e a' w'
section
variable {P : Program} {T : Nat → TyE}
theorem qic : ∀ (l : List (Nat × K)) (fr base : Fr) (k : Tup l → Prop),tupOf fr l k → ∃ t,k t ∧ ∀ s,(tupFr base l t s = fr s) ∨ (tupFr base l t s = base s ∧ s ∉ l.map (·.1)) ∨ tupFr base l t s = undef := by
 have one : ∀ (κ : K) (v : Value) (k : κ.T → Prop),κ.out v k → ∃ x,k x ∧ (κ.inj x = v ∨ κ.inj x = undef) := by
  intro κ v k h
  cases κ <;> simp only [K.out] at h
  case any => exact ⟨v,h,.inl rfl⟩
  case bad => exact ⟨(),h,.inr rfl⟩
  case int j =>
   cases v <;> simp only at h
   split at h
   ·rename_i he; subst he; exact ⟨_,h,.inl rfl⟩
   ·exact h.elim
  all_goals (cases v <;> simp only at h <;> exact ⟨_,h,.inl rfl⟩)
 intro l
 induction l with
 | nil => intro fr base k h; exact ⟨(),h,fun s => .inr (.inl ⟨rfl,by simp⟩)⟩
 | cons p r ih =>
  intro fr base k h
  obtain ⟨s0,κ⟩ := p
  cases r with
  | nil =>
   simp only [tupOf] at h
   obtain ⟨x,hk,hx⟩ := one κ _ _ h
   refine ⟨x,hk,fun s => ?_⟩
   simp only [tupFr]
   by_cases hs : s = s0
   ·subst hs; rw [qdK]
    rcases hx with hx | hx
    ·exact .inl hx
    ·exact .inr (.inr hx)
   ·rw [qdm _ _ hs]; exact .inr (.inl ⟨rfl,by simp [hs]⟩)
  | cons y r =>
   simp only [tupOf] at h
   obtain ⟨x,hk,hx⟩ := one κ _ _ h
   obtain ⟨xs,hk',hxs⟩ := ih fr base _ hk
   refine ⟨(x,xs),hk',fun s => ?_⟩
   simp only [tupFr]
   by_cases hs : s = s0
   ·subst hs; rw [qdK]
    rcases hx with hx | hx
    ·exact .inl hx
    ·exact .inr (.inr hx)
   ·rw [qdm _ _ hs]
    rcases hxs s with h | ⟨h1,h2⟩ | h
    ·exact .inl h
    ·exact .inr (.inl ⟨h1,by simp only [qmv,ql6,not_or] at h2 ⊢; exact ⟨hs,h2⟩⟩)
    ·exact .inr (.inr h)
theorem qi3 : ∀ (l : List (Nat × K)) (base : Fr) (t : Tup l) (s : Nat),s ∉ l.map (·.1) → tupFr base l t s = base s := by
 intro l
 induction l with
 | nil => intro base t s _; rfl
 | cons p r ih =>
  intro base t s h
  obtain ⟨s0,κ⟩ := p
  simp only [qmv,ql6,not_or] at h
  cases r with
  | nil => simp only [tupFr]; exact qdm _ _ h.1
  | cons y r => simp only [tupFr]; rw [qdm _ _ h.1]; exact ih base t.2 s h.2
theorem qex (hT : qW P T) (hm : P.follows .mixedOrders = true) {pan : Nat → Bool} {n : Nat} {A : Ann} {W : World} {QQ : Exit → Act → World → Prop} (hout : True) :
    ∀ (c : Code) (fr : Fr) (H : AH) (Q : LExit → Fr → AH → Prop) (φ : Emb) (a : Act) (w : World) (QQ : Exit → Act → World → Prop),True → wpC P T pan n A c fr H Q → ARel Ds φ n fr a → Rel W φ H w →
      Leads Ds n W φ fr H (writes c) Q QQ → c.wp P QQ a w := by
  intro c
  induction c with
  | skip =>
    intro fr H Q φ a w QQ hout h A R hl
    exact wp_skip (hl .normal .normal φ fr H a w (Hist.refl _ _) trivial A.defers (fun _ => ⟨A,fun _ _ => rfl⟩) ⟨fr,A,fun _ _ => rfl⟩ R h)
  | region id ops draw =>
    intro fr H Q φ a w QQ hout h A R hl
    simp only [wpC] at h
    split at h
    · rename_i hd
      subst hd
      split at h
      · rename_i hord
        exact qkM hT hm hord h A R hout (fun φ' fr' H' a' w' hh A' hkp R' hk => hl .normal .normal φ' fr' H' a' w' hh trivial A'.defers (fun _ => ⟨A',hkp⟩) ⟨fr',A',hkp⟩ R' hk) id
      · exact h.elim
    · rename_i hd
      have hd' : draw = false := by simpa using hd
      subst hd'
      refine wp_region ?_
      rw [List.range_eq_range',show ops.size = ops.toList.length by simp]
      exact qkF hT hout ops.toList 0 fr H φ a w (by simp) A R h
        (fun φ' fr' H' a' w' hh A' hkp R' hk => hl .normal .normal φ' fr' H' a' w' hh trivial A'.defers (fun _ => ⟨A',hkp⟩) ⟨fr',A',hkp⟩ R' hk)
        (fun φ' H' v v' a' w' hh ⟨frx,Ax,hkx⟩ hv R' hk => hl (.pan v) (.panic [{ v := v',recovered := false }]) φ' noFr H' a' w' hh ⟨v',rfl,hv⟩ Ax.defers (fun h => by cases h) ⟨frx,Ax,hkx⟩ R' hk)
  | seq x y ihx ihy =>
    intro fr H Q φ a w QQ hout h A R hl
    simp only [wpC] at h
    refine wp_seq (ihx fr H _ φ a w _ ?_ h A R ?_)
    · exact hout
    · intro le e φ' fr' H' a' w' hh he hdf hA hX R' hq
      cases le with
      | normal =>
        cases e <;> simp only [ERel] at he
        obtain ⟨A',hkp⟩ := hA rfl
        refine ihy fr' H' Q φ' a' w' QQ hout hq A' R' ?_
        intro le e φ'' fr'' H'' a'' w'' hh' he' hdf' hA' hX' R'' hq'
        obtain ⟨frx,Ax,hkx⟩ := hX'
        exact hl le e φ'' fr'' H'' a'' w'' (hh.trans hh') he' hdf' (fun hp => ⟨(hA' hp).1,fun s hs => by
          simp only [writes,ql2,not_or] at hs
          rw [(hA' hp).2 s hs.2,hkp s hs.1]⟩) ⟨frx,Ax,fun s hs => by
          simp only [writes,ql2,not_or] at hs
          rw [hkx s hs.2,hkp s hs.1]⟩ R'' hq'
      | exit i =>
        cases e <;> simp only [ERel] at he
        subst he
        exact hl (.exit i) (.exit i) φ' fr' H' a' w' hh rfl hdf (fun hp => ⟨(hA hp).1,fun s hs => (hA hp).2 s (by simp only [writes,ql2,not_or] at hs; exact hs.1)⟩) (hX.imp fun frx h => ⟨h.1,fun s hs => h.2 s (by simp only [writes,ql2,not_or] at hs; exact hs.1)⟩) R' hq
      | ret =>
        cases e <;> simp only [ERel] at he
        exact hl .ret .ret φ' fr' H' a' w' hh trivial hdf (fun hp => ⟨(hA hp).1,fun s hs => (hA hp).2 s (by simp only [writes,ql2,not_or] at hs; exact hs.1)⟩) (hX.imp fun frx h => ⟨h.1,fun s hs => h.2 s (by simp only [writes,ql2,not_or] at hs; exact hs.1)⟩) R' hq
      | pan v =>
        cases e <;> simp only [ERel] at he
        exact hl (.pan v) _ φ' fr' H' a' w' hh he hdf (fun hp => by cases hp) (hX.imp fun frx h => ⟨h.1,fun s hs => h.2 s (by simp only [writes,ql2,not_or] at hs; exact hs.1)⟩) R' hq
  | cond c x y ihx ihy =>
    intro fr H Q φ a w QQ hout h A R hl
    simp only [wpC] at h
    split at h
    · rename_i t ht
      have hc := A.ev c
      rw [ht] at hc
      generalize hc' : a.eval c = v at hc
      cases hc
      cases t
      · refine wp_cond_false hc' (ihy fr H Q φ a w QQ hout (by simpa using h) A R ?_)
        intro le e φ' fr' H' a' w' hh he hdf hA hX R' hq
        exact hl le e φ' fr' H' a' w' hh he hdf (fun hp => ⟨(hA hp).1,fun s hs => (hA hp).2 s (by simp only [writes,ql2,not_or] at hs; exact hs.2)⟩) (hX.imp fun frx h => ⟨h.1,fun s hs => h.2 s (by simp only [writes,ql2,not_or] at hs; exact hs.2)⟩) R' hq
      · refine wp_cond_true hc' (ihx fr H Q φ a w QQ hout (by simpa using h) A R ?_)
        intro le e φ' fr' H' a' w' hh he hdf hA hX R' hq
        exact hl le e φ' fr' H' a' w' hh he hdf (fun hp => ⟨(hA hp).1,fun s hs => (hA hp).2 s (by simp only [writes,ql2,not_or] at hs; exact hs.1)⟩) (hX.imp fun frx h => ⟨h.1,fun s hs => h.2 s (by simp only [writes,ql2,not_or] at hs; exact hs.1)⟩) R' hq
    · exact h.elim
  | block id b ih =>
    intro fr H Q φ a w QQ hout h A R hl
    simp only [wpC] at h
    refine wp_block (ih fr H _ φ a w _ ?_ h A R ?_)
    · exact hout
    · intro le e φ' fr' H' a' w' hh he hdf hA hX R' hq
      cases le with
      | normal =>
        cases e <;> simp only [ERel] at he
        exact hl .normal .normal φ' fr' H' a' w' hh trivial hdf hA hX R' hq
      | exit i =>
        cases e <;> simp only [ERel] at he
        subst he
        simp only [blockK] at hq
        simp only [Exit.inBlock]
        split at hq
        · rename_i hi
          rw [if_pos hi]
          exact hl .normal .normal φ' fr' H' a' w' hh trivial hdf (fun _ => hA rfl) hX R' hq
        · rename_i hi
          rw [if_neg hi]
          exact hl (.exit i) (.exit i) φ' fr' H' a' w' hh rfl hdf hA hX R' hq
      | ret =>
        cases e <;> simp only [ERel] at he
        exact hl .ret .ret φ' fr' H' a' w' hh trivial hdf hA hX R' hq
      | pan v =>
        cases e <;> simp only [ERel] at he
        exact hl (.pan v) _ φ' fr' H' a' w' hh he hdf hA hX R' hq
  | loop b ih =>
    intro fr H Q φ a w QQ hout h A0 R hl
    simp only [wpC] at h
    split at h
    case isFalse => exact h.elim
    rename_i hks
    have hks' : ∀ s,s ∉ writes b → s ∉ (A.keep (firstReg b)).map (·.1) := by
      intro s hs hm
      simp only [qmu] at hks
      obtain ⟨p,hp,rfl⟩ := List.mem_map.1 hm
      exact hs (by simpa using hks p hp)
    have hbase : ∀ (t : Tup (A.keep (firstReg b))) (s : Nat),s ∉ writes b → tupFr (clear (writes b) fr) _ t s = fr s := by
      intro t s hs
      rw [qi3 _ _ _ _ (hks' s hs)]
      have : (writes b).contains s = false := by simpa using hs
      simp [clear,hs]
    obtain ⟨t0,⟨N,hN⟩,ht0⟩ := qic _ fr (clear (writes b) fr) _ h
    have head : ∀ (φ' : Emb) (fr' : Fr) (a' : Act) (t : Tup (A.keep (firstReg b))),ARel Ds φ' n fr' a' → (∀ s,s ∉ writes b → fr' s = fr s) →
        (∀ s,(tupFr (clear (writes b) fr) _ t s = fr' s) ∨ (tupFr (clear (writes b) fr) _ t s = clear (writes b) fr s ∧ s ∉ (A.keep (firstReg b)).map (·.1)) ∨ tupFr (clear (writes b) fr) _ t s = undef) →
        ARel Ds φ' n (tupFr (clear (writes b) fr) _ t) a' := by
      intro φ' fr' a' t A' hkp ht
      refine ⟨A'.defers,A'.size,fun s => ?_⟩
      rcases ht s with h | ⟨h,_⟩ | h
      · rw [h]; exact A'.tmp s
      · rw [h]
        unfold clear
        cases hc : (writes b).contains s with
        | true => exact .undef _
        | false =>
          have hs : s ∉ writes b := by simpa using hc
          simp only [cond_false]
          rw [← hkp s hs]
          exact A'.tmp s
      · rw [h]; exact .undef _
    have key : ∀ (N : Nat) (t : Tup (A.keep (firstReg b))) (H1 : AH) (φ1 : Emb) (a1 : Act) (w1 : World),Hist φ H φ1 H1 → ARel Ds φ1 n (tupFr (clear (writes b) fr) _ t) a1 → Rel W φ1 H1 w1 →
        loopN (fun t H it => wpC P T pan n A b (tupFr (clear (writes b) fr) (A.keep (firstReg b)) t) H (thenK (fun fr' H' => tupOf fr' (A.keep (firstReg b)) fun t' => it t' H') Q)) N t H1 →
        ∀ (fb : Frame) (k : List Item) (cs : List Frame),∃ e a' w',QQ e a' w' ∧ Arrives P (lone (fb.at a1 (.code b :: .inLoop b :: k)) cs w1) fb k cs e a' w' := by
      intro N
      induction N with
      | zero => intro t H1 φ1 a1 w1 _ _ _ hN; exact hN.elim
      | succ N ihN =>
        intro t H1 φ1 a1 w1 hh1 A1 R1 hN fb k cs
        simp only [loopN] at hN
        have round := ih (tupFr (clear (writes b) fr) _ t) H1 _ φ1 a1 w1
          (Exit.then (fun a' w' => ∃ t' H' φ',Hist φ H φ' H' ∧ ARel Ds φ' n (tupFr (clear (writes b) fr) _ t') a' ∧ Rel W φ' H' w' ∧
                loopN (fun t H it => wpC P T pan n A b (tupFr (clear (writes b) fr) (A.keep (firstReg b)) t) H (thenK (fun fr' H' => tupOf fr' (A.keep (firstReg b)) fun t' => it t' H') Q)) N t' H') QQ)
          (by exact hout) hN A1 R1 (by
          intro le e φ' fr' H' a' w' hh he hdf hA hX R' hq
          cases le with
          | normal =>
            cases e <;> simp only [ERel] at he
            obtain ⟨A',hkp⟩ := hA rfl
            simp only [thenK] at hq
            obtain ⟨t',hit,ht'⟩ := qic _ fr' (clear (writes b) fr) _ hq
            have hkp' : ∀ s,s ∉ writes b → fr' s = fr s := fun s hs => by rw [hkp s hs,hbase t s hs]
            exact ⟨t',H',φ',hh1.trans hh,head φ' fr' a' t' A' hkp' ht',R',hit⟩
          | exit i =>
            cases e <;> simp only [ERel] at he
            subst he
            exact hl (.exit i) (.exit i) φ' fr' H' a' w' (hh1.trans hh) rfl hdf (fun hp => ⟨(hA hp).1,fun s hs => by rw [(hA hp).2 s hs,hbase t s hs]⟩) (hX.imp fun frx h => ⟨h.1,fun s hs => by rw [h.2 s hs,hbase t s hs]⟩) R' hq
          | ret =>
            cases e <;> simp only [ERel] at he
            exact hl .ret .ret φ' fr' H' a' w' (hh1.trans hh) trivial hdf (fun hp => ⟨(hA hp).1,fun s hs => by rw [(hA hp).2 s hs,hbase t s hs]⟩) (hX.imp fun frx h => ⟨h.1,fun s hs => by rw [h.2 s hs,hbase t s hs]⟩) R' hq
          | pan v =>
            cases e <;> simp only [ERel] at he
            exact hl (.pan v) _ φ' fr' H' a' w' (hh1.trans hh) he hdf (fun hp => by cases hp) (hX.imp fun frx h => ⟨h.1,fun s hs => by rw [h.2 s hs,hbase t s hs]⟩) R' hq)
        obtain ⟨e,a₁,w₁,hq,harr⟩ := round fb (.inLoop b :: k) cs
        cases e with
        | normal =>
          obtain ⟨t',H',φ',hh',A',R',hN'⟩ := hq
          obtain ⟨e₂,a₂,w₂,hq₂,harr₂⟩ := ihN t' H' φ' a₁ w₁ hh' A' R' hN' fb k cs
          exact ⟨e₂,a₂,w₂,hq₂,.of_steps (Steps.trans harr (.one step_inLoop)) harr₂⟩
        | exit i => exact ⟨_,a₁,w₁,hq,.pass (x := .inLoop b) rfl (fun _ _ => .inl (by simp)) harr⟩
        | goto l => exact ⟨_,a₁,w₁,hq,.pass (x := .inLoop b) rfl (fun _ _ => .inl (by simp)) harr⟩
        | ret => exact ⟨_,a₁,w₁,hq,.pass (x := .inLoop b) rfl (fun _ _ => .inl (by simp)) harr⟩
        | panic ch => exact ⟨_,a₁,w₁,hq,.pass (x := .inLoop b) rfl (fun _ _ => .inl (by simp)) harr⟩
        | outgrown => exact ⟨_,a₁,w₁,hq,.pass (x := .inLoop b) rfl (fun _ _ => .inl (by simp)) harr⟩
    intro fb k cs
    obtain ⟨e,a',w',hq,harr⟩ := key N t0 H φ a w (Hist.refl _ _) (head φ fr a t0 A0 (fun _ _ => rfl) ht0) R hN fb k cs
    exact ⟨e,a',w',hq,.of_steps (.one step_loop) harr⟩
  | exit id =>
    intro fr H Q φ a w QQ hout h A R hl
    exact wp_exit (hl (.exit id) (.exit id) φ fr H a w (Hist.refl _ _) rfl A.defers (fun _ => ⟨A,fun _ _ => rfl⟩) ⟨fr,A,fun _ _ => rfl⟩ R h)
  | ret =>
    intro fr H Q φ a w QQ hout h A R hl
    exact wp_ret (hl .ret .ret φ fr H a w (Hist.refl _ _) trivial A.defers (fun _ => ⟨A,fun _ _ => rfl⟩) ⟨fr,A,fun _ _ => rfl⟩ R h)
  | _ => intro fr H Q φ a w QQ hout h; simp [wpC] at h
end
def argFr (args : List Value) : Fr := fun s => args.getD s undef
def resVals (T : Nat → TyE) (fr : Fr) (H : AH) : List ResultVar → (List Value → Prop) → Prop
 | [],k => k []
 | .tmp t :: r,k => resVals T fr H r fun vs => k (fr t :: vs)
 | .cell a t :: r,k =>
  match fr a with
  | .pointer p => onPtr p fun ad =>
   match (T t).k with
   | .agg => ldA H ad (T t).size fun cs => resVals T fr H r fun vs => k (.agg cs.toArray :: vs)
   | .bad => False
   | κ => elim κ (H.cell? ad) fun v => resVals T fr H r fun vs => k (v :: vs)
  | _ => False
def oneOf : List Value → Value
 | [v] => v
 | vs => .tuple vs.toArray
def bodyK (T : Nat → TyE) (res : List ResultVar) (Q : LEnd → AH → Prop) : LExit → Fr → AH → Prop := fun e fr H =>
 match e with
 | .normal => resVals T fr H res fun vs => Q (.ret (oneOf vs)) H
 | .ret => resVals T fr H res fun vs => Q (.ret (oneOf vs)) H
 | .pan v => Q (.pan v) H
 | .exit _ => False
def resOne (tmps : Array Value) : ResultVar → Sem Value
 | .tmp t => pure (tmps.getD t undef)
 | .cell a t => do loadVar t (← asAddr (tmps.getD a undef))
theorem qgP (fn : Func) (tmps : Array Value) : results fn tmps = (do
  let vs ← fn.results.mapM (resOne tmps)
  pure (if h : vs.size = 1 then vs[0] else .tuple vs)) := by
 unfold results
 congr 1
section
variable {P : Program} {T : Nat → TyE}
theorem qfi (hT : qW P T) {fr : Fr} {H : AH} {W w : World} {φ : Emb} {n : Nat} {a : Act} (A : ARel [] φ n fr a) (R : Rel W φ H w) :
  ∀ (l : List ResultVar) (k : List Value → Prop),resVals T fr H l k → ∃ vs vs',k vs ∧ LRel φ vs vs' ∧
   ((l.mapM (resOne a.tmps)).run P w) = .ok vs' w := by
 intro l
 induction l with
 | nil => intro k h; exact ⟨[],[],h,⟨rfl,fun i x y hx => by simp at hx⟩,by simp⟩
 | cons r l ih =>
  intro k h
  have cons : ∀ (v v' : Value),VRel φ v v' → resVals T fr H l (fun vs => k (v :: vs)) →
    ((resOne a.tmps r).run P w) = .ok v' w →
    ∃ vs vs',k vs ∧ LRel φ vs vs' ∧ (((r :: l).mapM (resOne a.tmps)).run P w) = .ok vs' w := by
   intro v v' hv hk hrun
   obtain ⟨vs,vs',h1,h2,h3⟩ := ih _ hk
   refine ⟨v :: vs,v' :: vs',h1,⟨by simp [h2.1],fun i x y hx hy => ?_⟩,?_⟩
   ·cases i with
    | zero => simp at hx hy; subst hx hy; exact hv
    | succ i => exact h2.2 i x y (by simpa using hx) (by simpa using hy)
   ·rw [List.mapM_cons]
    simp only [Sem.run_bind,hrun,Result.andThen_ok,h3,Sem.run_pure]
  cases r with
  | tmp t =>
   simp only [resVals] at h
   exact cons (fr t) _ (A.tmp t) h rfl
  | cell x t =>
   simp only [resVals] at h
   split at h
   ·rename_i p hp
    obtain ⟨ad,rfl,h⟩ := qcL h
    have hx := A.tmp x
    rw [hp] at hx
    obtain ⟨b,B,o,rfl,hb,he⟩ := qc5 hx
    split at h
    ·rename_i hk
     obtain ⟨cs,hrow,h⟩ := h
     obtain ⟨cs',h1,_,h3⟩ := qds (P := P) R hb hrow
     refine cons _ (.agg cs'.toArray) h1.agg h ?_
     simp only [resOne]
     rw [he]
     simp [asAddr,loadVar,hT.isAgg hk,qbC hT (t := t) (by simp [hk]),h3]
    ·exact h.elim
    ·rename_i hna hnb
     change elim (T t).k (H.cell? ⟨b,o,none⟩) (fun v => resVals T fr H l fun vs => k (v :: vs)) at h
     obtain ⟨v,hv,h⟩ := qev h
     obtain ⟨v',h1,h2⟩ := R.load hb hv
     refine cons v v' h2 h ?_
     simp only [resOne]
     rw [he]
     simp [asAddr,loadVar,hT.notAgg hnb hna,h1]
   ·exact h.elim
theorem qeD (hT : qW P T) (hm : P.follows .mixedOrders = true) {pan : Nat → Bool} {f : FuncId} {fn : Func} (hf : P.funcs[f]? = some fn) (hent : enterable P f = true)
  (A : Ann) {args : List Value} {H : AH} {Q : LEnd → AH → Prop} (hlen : args.length ≤ fn.ntmps)
  (h : wpC P T pan fn.ntmps A (fn.body.getD .skip) (argFr args) H (bodyK T fn.results.toList Q)) : qh P f args H Q := by
 obtain ⟨c,hb⟩ : ∃ c,fn.body = some c := by
  unfold enterable at hent
  rw [hf] at hent
  simp only [qm4] at hent
  exact Option.isSome_iff_exists.1 hent.2
 rw [hb,Option.getD_some] at h
 refine ⟨hent,fun W w φ args' hl R => ?_⟩
 have hsz : args'.size = args.length := by have := hl.1; simp at this; omega
 refine calls_of_wp hf hb ?_
 have A0 : ARel [] φ fn.ntmps (argFr args) { tmps := args' ++ qnn (fn.ntmps - args'.size) undef,defers := [] } := by
  refine ⟨rfl,by simp; omega,fun s => ?_⟩
  unfold argFr
  by_cases hs : s < args.length
  ·have h1 : args.getD s undef = args[s] := by simp [qlM,qlK hs]
   have h2 : (args' ++ qnn (fn.ntmps - args'.size) undef).getD s undef = args'[s]'(by omega) := by
    simp [ql9,Array.getElem?_append,show s < args'.size by omega]
   rw [h1]
   simp only
   rw [h2]
   exact hl.2 s _ _ (qlK hs) (by simp [show s < args'.size by omega])
  ·have h1 : args.getD s undef = undef := by simp [qlM,qlR (Nat.le_of_not_lt hs)]
   rw [h1]
   exact .undef _
 refine qex (W := W) (QQ := fun _ _ _ => True) hT hm trivial c (argFr args) H _ φ _ w _ trivial h A0 R ?_
 intro le e φ' fr' H' a' w' hh he hdf hA _ R' hq
 have ret : resVals T fr' H' fn.results.toList (fun vs => Q (.ret (oneOf vs)) H') → ARel [] φ' fn.ntmps fr' a' →
   a'.defers = [] ∧ ∃ v,(results fn a'.tmps).run P w' = .ok v w' ∧ (∃ le φ' H',Hist φ H φ' H' ∧ qcR φ' le (.returned v) ∧ Rel W φ' H' w' ∧ Q le H') := by
  intro hr A'
  obtain ⟨vs,vs',hk,hlv,hrun⟩ := qfi hT A' R' _ _ hr
  refine ⟨hdf,oneOf vs',?_,⟨.ret (oneOf vs),φ',H',hh,?_,R',hk⟩⟩
  ·rw [qgP,Array.mapM_eq_mapM_toList]
   simp only [Sem.run_bind,Sem.run_map,hrun,Result.andThen_ok,Sem.run_pure]
   congr 1
   cases vs' with
   | nil => rfl
   | cons x xs => cases xs with
    | nil => rfl
    | cons y ys => simp [oneOf]
  ·have hl' := hlv.1
   unfold oneOf
   cases vs with
   | nil =>
    have : vs' = [] := List.length_eq_zero_iff.1 (by simpa using hl'.symm)
    subst this
    exact .undef _
   | cons x xs =>
    cases vs' with
    | nil => simp at hl'
    | cons x' xs' =>
     cases xs with
     | nil =>
      have : xs' = [] := List.length_eq_zero_iff.1 (by simpa using hl'.symm)
      subst this
      exact hlv.2 0 x x' rfl rfl
     | cons y ys =>
      cases xs' with
      | nil => simp at hl'
      | cons y' ys' => exact .tup _ _ (hlv.to_arr rfl rfl).1 (hlv.to_arr rfl rfl).2
 cases le with
 | normal =>
  cases e <;> simp only [ERel] at he
  exact ret hq (hA rfl).1
 | ret =>
  cases e <;> simp only [ERel] at he
  exact ret hq (hA rfl).1
 | exit i => exact hq.elim
 | pan v =>
  cases e <;> simp only [ERel] at he
  obtain ⟨v',rfl,hv⟩ := he
  exact ⟨hdf,⟨.pan v,φ',H',hh,⟨v',rfl,hv⟩,R',hq⟩⟩
end
def newC (H : AH) (o : AObj) (k : Nat → AH → Prop) : Prop := k H.size (H.push o)
def onRet (e : LEnd) (k : Value → Prop) (pk : Value → Prop) : Prop :=
 match e with
 | .ret v => k v
 | .pan v => pk v
def K.el : (κ : K) → Value → (κ.T → Prop) → Prop
 | .int j,v,k => elI j (some v) k
 | .bool,v,k => elB (some v) k
 | .str,v,k => elS (some v) k
 | .ptr,v,k => elP (some v) k
 | .sl,v,k => elL (some v) k
 | .agg,v,k => elA v k
 | .map,v,k => elM (some v) k
 | .any,v,k => elV (some v) k
 | .bad,_,_ => False
def qn : Value → Prop := fun _ => False
def in1 (κ : K) (e : LEnd) (pk : Value → Prop) (k : κ.T → Prop) : Prop := onRet e (fun v => κ.el v k) pk
def in2 (κ μ : K) (e : LEnd) (pk : Value → Prop) (k : κ.T → μ.T → Prop) : Prop := onRet e (fun v => ret2 v fun a b => κ.el a fun x => μ.el b fun y => k x y) pk
def in3 (κ μ ν : K) (e : LEnd) (pk : Value → Prop) (k : κ.T → μ.T → ν.T → Prop) : Prop :=
 onRet e (fun v => ret3 v fun a b c => κ.el a fun x => μ.el b fun y => ν.el c fun z => k x y z) pk
def in0 (e : LEnd) (pk : Value → Prop) (k : Prop) : Prop := onRet e (fun _ => k) pk
def out1 (κ : K) (e : LEnd) (pk : Value → Prop) (k : κ.T → Prop) : Prop :=
 match e with
 | .ret v => κ.out v k
 | .pan v => pk v
def out2 (κ μ : K) (e : LEnd) (pk : Value → Prop) (k : κ.T → μ.T → Prop) : Prop :=
 match e with
 | .ret v => match v with
  | .tuple vs => match vs.toList with
   | [a,b] => κ.out a fun x => μ.out b fun y => k x y
   | _ => False
  | _ => False
 | .pan v => pk v
def out3 (κ μ ν : K) (e : LEnd) (pk : Value → Prop) (k : κ.T → μ.T → ν.T → Prop) : Prop :=
 match e with
 | .ret v => match v with
  | .tuple vs => match vs.toList with
   | [a,b,c] => κ.out a fun x => μ.out b fun y => ν.out c fun z => k x y z
   | _ => False
  | _ => False
 | .pan v => pk v
def out0 (e : LEnd) (pk : Value → Prop) (k : Prop) : Prop :=
 match e with
 | .ret _ => k
 | .pan v => pk v
theorem K.out_el {κ : K} (hκ : κ ≠ .bad) {v : Value} {k : κ.T → Prop} (h : κ.out v k) : κ.el v k := by
 cases κ <;> simp only [K.out] at h
 case int j =>
  cases v <;> simp only at h
  split at h
  ·rename_i he; subst he; exact ⟨_,rfl,h⟩
  ·exact h.elim
 case any => exact ⟨_,rfl,h⟩
 case bad => exact absurd rfl hκ
 case bool => cases v <;> simp only at h; exact ⟨_,rfl,h⟩
 case str => cases v <;> simp only at h; exact ⟨_,rfl,h⟩
 case ptr => cases v <;> simp only at h; exact ⟨_,rfl,h⟩
 case sl => cases v <;> simp only at h; exact ⟨_,rfl,h⟩
 case agg => cases v <;> simp only at h; exact ⟨_,rfl,h⟩
 case map => cases v <;> simp only at h; exact ⟨_,rfl,h⟩
theorem K.el_mono {κ : K} {v : Value} {k k' : κ.T → Prop} (hk : ∀ x,k x → k' x) (h : κ.el v k) : κ.el v k' := by
 cases κ <;> simp only [K.el,elI,elB,elS,elP,elL,elA,elM,elV] at h ⊢
 all_goals (obtain ⟨x,h1,h2⟩ := h; exact ⟨x,h1,hk _ h2⟩)
theorem out1_in {κ : K} (h1 : κ ≠ .bad) {e : LEnd} {pk : Value → Prop} {k : κ.T → Prop} (h : out1 κ e pk k) : in1 κ e pk k := by
 cases e
 ·exact K.out_el h1 h
 ·exact h
theorem out0_in {e : LEnd} {pk : Value → Prop} {k : Prop} (h : out0 e pk k) : in0 e pk k := by
 cases e <;> exact h
theorem out2_in {κ μ : K} (h1 : κ ≠ .bad) (h2 : μ ≠ .bad) {e : LEnd} {pk : Value → Prop} {k : κ.T → μ.T → Prop} (h : out2 κ μ e pk k) : in2 κ μ e pk k := by
 cases e
 ·rename_i v
  simp only [out2] at h
  split at h
  ·rename_i vs
   split at h
   ·rename_i a b hvs
    refine ⟨a,b,?_,K.el_mono (fun x hx => K.out_el h2 hx) (K.out_el h1 h)⟩
    have : vs = #[a,b] := by apply Array.ext'; simpa using hvs
    rw [this]
   ·exact h.elim
  ·exact h.elim
 ·exact h
theorem out3_in {κ μ ν : K} (h1 : κ ≠ .bad) (h2 : μ ≠ .bad) (h3 : ν ≠ .bad) {e : LEnd} {pk : Value → Prop} {k : κ.T → μ.T → ν.T → Prop} (h : out3 κ μ ν e pk k) : in3 κ μ ν e pk k := by
 cases e
 ·rename_i v
  simp only [out3] at h
  split at h
  ·rename_i vs
   split at h
   ·rename_i a b c hvs
    refine ⟨a,b,c,?_,K.el_mono (fun x hx => K.el_mono (fun y hy => K.out_el h3 hy) (K.out_el h2 hx)) (K.out_el h1 h)⟩
    have : vs = #[a,b,c] := by apply Array.ext'; simpa using hvs
    rw [this]
   ·exact h.elim
  ·exact h.elim
 ·exact h
def badT : TyE := { k := .bad,sub := .none,size := 0,bytes := 0,zero := [],eqs := false }
def tyLook (l : List (Nat × TyE)) (t : Nat) : TyE :=
 match l with
 | [] => badT
 | (a,e) :: r => cond (Nat.beq a t) e (tyLook r t)
def K.isBad : K → Bool
 | .bad => true
 | _ => false
theorem qkG {P : Program} {l : List (Nat × TyE)} (h : l.map (fun p => cond p.2.k.isBad (some p.2) (tyOf P p.1)) = l.map (fun p => some p.2)) : qW P (tyLook l) := by
 intro t
 induction l with
 | nil => intro h; exact absurd rfl h
 | cons p l ih =>
  obtain ⟨a,e⟩ := p
  simp only [qmv,List.cons.injEq] at h
  intro ht
  simp only [tyLook] at ht ⊢
  cases hb : Nat.beq a t with
  | true =>
   have : a = t := Nat.eq_of_beq_eq_true hb
   subst this
   have h1 := h.1
   rw [hb] at ht
   simp only [cond_true] at ht
   have hk : e.k.isBad = false := by cases hk : e.k <;> simp_all [K.isBad]
   rw [hk] at h1
   exact h1
  | false =>
   rw [hb] at ht
   exact ih h.2 ht
def ann0 : Ann := { keep := fun _ => [],ord := fun _ => [] }
section
variable {P : Program} {T : Nat → TyE} (pan : Nat → Bool) {f : FuncId} {fn : Func} {A : Ann} {args : List Value} {H : AH} {pk : AH → Value → Prop} {b : Prop}
theorem lk0 (hT : qW P T) (hm : P.follows .mixedOrders = true) (hf : P.funcs[f]? = some fn) (hent : enterable P f = true) (hlen : Nat.ble args.length fn.ntmps = true) {k : AH → Prop}
  (e : wpC P T pan fn.ntmps A (fn.body.getD .skip) (argFr args) H (bodyK T fn.results.toList fun e H' => out0 e (pk H') (k H')) = b) (h : b) : qh P f args H fun e H' => in0 e (pk H') (k H') :=
 (qeD (pan := pan) hT hm hf hent A (Nat.le_of_ble_eq_true hlen) (e.mpr h)).mono fun _ _ hq => out0_in hq
theorem lk1 (hT : qW P T) (hm : P.follows .mixedOrders = true) (hf : P.funcs[f]? = some fn) (hent : enterable P f = true) (hlen : Nat.ble args.length fn.ntmps = true) {κ : K} {k : κ.T → AH → Prop} (h1 : κ ≠ .bad)
  (e : wpC P T pan fn.ntmps A (fn.body.getD .skip) (argFr args) H (bodyK T fn.results.toList fun e H' => out1 κ e (pk H') (fun r0 => k r0 H')) = b) (h : b) : qh P f args H fun e H' => in1 κ e (pk H') (fun r0 => k r0 H') :=
 (qeD (pan := pan) hT hm hf hent A (Nat.le_of_ble_eq_true hlen) (e.mpr h)).mono fun _ _ hq => out1_in h1 hq
theorem lk2 (hT : qW P T) (hm : P.follows .mixedOrders = true) (hf : P.funcs[f]? = some fn) (hent : enterable P f = true) (hlen : Nat.ble args.length fn.ntmps = true) {κ μ : K} {k : κ.T → μ.T → AH → Prop} (h1 : κ ≠ .bad) (h2 : μ ≠ .bad)
  (e : wpC P T pan fn.ntmps A (fn.body.getD .skip) (argFr args) H (bodyK T fn.results.toList fun e H' => out2 κ μ e (pk H') (fun r0 r1 => k r0 r1 H')) = b) (h : b) : qh P f args H fun e H' => in2 κ μ e (pk H') (fun r0 r1 => k r0 r1 H') :=
 (qeD (pan := pan) hT hm hf hent A (Nat.le_of_ble_eq_true hlen) (e.mpr h)).mono fun _ _ hq => out2_in h1 h2 hq
theorem lk3 (hT : qW P T) (hm : P.follows .mixedOrders = true) (hf : P.funcs[f]? = some fn) (hent : enterable P f = true) (hlen : Nat.ble args.length fn.ntmps = true) {κ μ ν : K} {k : κ.T → μ.T → ν.T → AH → Prop} (h1 : κ ≠ .bad) (h2 : μ ≠ .bad) (h3 : ν ≠ .bad)
  (e : wpC P T pan fn.ntmps A (fn.body.getD .skip) (argFr args) H (bodyK T fn.results.toList fun e H' => out3 κ μ ν e (pk H') (fun r0 r1 r2 => k r0 r1 r2 H')) = b) (h : b) : qh P f args H fun e H' => in3 κ μ ν e (pk H') (fun r0 r1 r2 => k r0 r1 r2 H') :=
 (qeD (pan := pan) hT hm hf hent A (Nat.le_of_ble_eq_true hlen) (e.mpr h)).mono fun _ _ hq => out3_in h1 h2 h3 hq
end
end Go.Abs
namespace Go.Abs
open Go.RowKit
def flatC : Value → Bool
 | .int _ _ => true
 | .bool _ => true
 | .string _ => true
 | .pointer none => true
 | .slice none 0 0 => true
 | .map none => true
 | .nilFunc => true
 | .nilIface => true
 | _ => false
def flatV : Value → Bool
 | .agg vs => vs.toList.all flatC
 | v => flatC v
theorem qfn {φ φ' : Emb} {v v' : Value} (h : flatC v = true) (r : VRel φ' v v') : VRel φ v v' := by
 cases r <;> first | (simp [flatC] at h; done) | (constructor; done)
theorem qfJ {φ φ' : Emb} {v v' : Value} (h : flatV v = true) (r : VRel φ' v v') : VRel φ v v' := by
 cases v with
 | agg vs =>
  cases r with
  | agg as bs h1 h2 =>
   refine .agg _ bs h1 fun i hi => qfn ?_ (h2 i hi)
   simp only [flatV,qmu] at h
   refine h _ ?_
   simp [ql9,hi]
 | _ => exact qfn h r
theorem VRel.back {φ φ' : Emb} (hle : φ.le φ') : ∀ {v v0 : Value},VRel φ v v0 → ∀ {v' : Value},VRel φ' v v' → VRel φ v v' := by
 intro v v0 r
 induction r with
 | undef v => intro v' _; exact .undef v'
 | skip =>
  intro v' r'
  cases r' with
  | skip => exact .skip
  | tup _ bs h1 h2 =>
   refine .tup _ bs h1 fun i hi => ?_
   have : i = 0 := by simp at hi; omega
   subst this
   exact .undef _
 | bool b => intro v' r'; cases r'; exact .bool b
 | int k n => intro v' r'; cases r'; exact .int k n
 | str s => intro v' r'; cases r'; exact .str s
 | ptr0 => intro v' r'; cases r'; exact .ptr0
 | ptr o hb =>
  intro v' r'
  cases r' with
  | ptr _ hb' =>
   have := hle _ _ hb
   rw [hb'] at this
   cases this
   exact .ptr o hb
 | sl0 => intro v' r'; cases r'; exact .sl0
 | sl o n k k' hb hn hk =>
  intro v' r'
  cases r' with
  | sl _ _ _ k'' hb' hn' hk' =>
   have := hle _ _ hb
   rw [hb'] at this
   cases this
   exact .sl o n k k'' hb hn' hk'
  | sle a a' k'' => exact .sle _ _ _
 | sle a a' k' =>
  intro v' r'
  cases r' with
  | sl o _ _ k'' hb' hn' hk' => exact .sle _ _ _
  | sle _ a' k'' => exact .sle _ _ _
 | map0 => intro v' r'; cases r'; exact .map0
 | fn f as bs cs ds h1 h2 h3 h4 ih2 ih4 =>
  intro v' r'
  cases r' with
  | fn _ _ bs' _ ds' h1' h2' h3' h4' => exact .fn f as bs' cs ds' h1' (fun i hi => ih2 i hi (h2' i hi)) h3' (fun i hi => ih4 i hi (h4' i hi))
 | nilFunc => intro v' r'; cases r'; exact .nilFunc
 | nilIface => intro v' r'; cases r'; exact .nilIface
 | iface t v v0 _ ih =>
  intro v' r'
  cases r' with
  | iface _ _ v' hv => exact .iface t v v' (ih hv)
 | agg as bs h1 h2 ih =>
  intro v' r'
  cases r' with
  | agg _ bs' h1' h2' => exact .agg as bs' h1' fun i hi => ih i hi (h2' i hi)
 | tup as bs h1 h2 ih =>
  intro v' r'
  cases r' with
  | undef => exact .undef _
  | skip => exact .skip
  | tup _ bs' h1' h2' => exact .tup as bs' h1' fun i hi => ih i hi (h2' i hi)
def qa (H H' : AH) : Prop := H.size ≤ H'.size ∧ ∀ b,b < H.size → H'.get b = H.get b
theorem qa.refl (H : AH) : qa H H := ⟨qlS _,fun _ _ => rfl⟩
theorem qa.trans {H H' H'' : AH} (h : qa H H') (h' : qa H' H'') : qa H H'' :=
 ⟨qmM h.1 h'.1,fun b hb => by rw [h'.2 b (by have := h.1; omega),h.2 b hb]⟩
theorem qa.push {H H' : AH} (h : qa H H') (o : AObj) : qa H (H'.push o) :=
 ⟨by have := h.1; simp [AH.push]; omega,fun b hb => by have := h.1; simp only [AH.push]; rw [if_neg (by omega)]; exact h.2 b hb⟩
theorem qa.upd {H H' : AH} (h : qa H H') {b : Nat} (hb : H.size ≤ b) (o : AObj) : qa H (H'.upd b o) :=
 ⟨h.1,fun x hx => by simp only [AH.upd]; rw [if_neg (by omega)]; exact h.2 x hx⟩
theorem Rel.gc {W w w' : World} {φ φ' : Emb} {H H' : AH} (R : Rel W φ H w) (R' : Rel W φ' H' w') (hh : Hist φ H φ' H') (hk : qa H H') : Rel W φ H w' := by
 refine ⟨R'.below,R'.size,R'.tape,R'.os,R'.output,fun b B hb => R'.froz b B (hh.1 b B hb),?_,?_,?_,?_,R.out⟩
 ·intro b B hb
  exact ⟨(R.dom b B hb).1,(R'.dom b B (hh.1 b B hb)).2⟩
 ·intro b B hb hm i v hv
  have hlt := (R.dom b B hb).1
  obtain ⟨v0,_,h0⟩ := R.cell b B hb hm i v hv
  obtain ⟨v',hc,hr⟩ := R'.cell b B (hh.1 b B hb) (by rw [hk.2 b hlt]; exact hm) i v (by rw [hk.2 b hlt]; exact hv)
  exact ⟨v',hc,h0.back hh.1 hr⟩
 ·intro b B hb hm
  have hlt := (R.dom b B hb).1
  have := R'.room b B (hh.1 b B hb) (by rw [hk.2 b hlt]; exact hm)
  rw [hk.2 b hlt] at this
  exact this
 ·intro b B hb hm b' B' hb' hc
  have hlt := (R.dom b B hb).1
  have hlt' := (R.dom b' B' hb').1
  have := R'.own b B (hh.1 b B hb) (by rw [hk.2 b hlt]; exact hm) b' B' (hh.1 b' B' hb') hc
  rw [hk.2 b' hlt'] at this
  exact this
def LEnd.flat2 : LEnd → Bool
 | .ret (.tuple vs) => vs.toList.all flatV
 | .ret v => flatV v
 | .pan v => flatV v
theorem qkw {φ φ' : Emb} {le : LEnd} {e : Ending} (h : le.flat2 = true) (r : qcR φ' le e) : qcR φ le e := by
 cases le with
 | ret v =>
  cases e <;> simp only [qcR] at r ⊢
  cases v with
  | tuple vs =>
   simp only [LEnd.flat2,qmu] at h
   cases r with
   | undef => exact .undef _
   | skip => exact .skip
   | tup _ bs h1 h2 => exact .tup _ bs h1 fun i hi => qfJ (h _ (by simp [ql9,hi])) (h2 i hi)
  | _ => exact qfJ h r
 | pan v =>
  cases e <;> simp only [qcR] at r ⊢
  obtain ⟨v',rfl,hv⟩ := r
  exact ⟨v',rfl,qfJ h hv⟩
theorem qh.gc {P : Program} {f : FuncId} {args : List Value} {H : AH} {Q : LEnd → Prop} (h : qh P f args H fun e H' => qa H H' ∧ Q e) (hf : ∀ e,Q e → e.flat2 = true) :
  qh P f args H fun e H' => H' = H ∧ Q e :=
 ⟨h.1,fun W w φ args' hl R => (h.2 W w φ args' hl R).mono fun _ _ ⟨le,φ',H',hh,he,R',hk,hq⟩ =>
  ⟨le,φ,H,Hist.refl _ _,qkw (hf le hq) he,R.gc R' hh hk,rfl,hq⟩⟩
def K.flat : K → Bool
 | .int _ => true
 | .bool => true
 | .str => true
 | _ => false
theorem K.flat_inj {κ : K} (h : κ.flat = true) (x : κ.T) : flatV (κ.inj x) = true := by
 cases κ <;> simp [K.flat] at h <;> rfl
theorem K.el_inj {κ : K} (h : κ.flat = true) {v : Value} {k : κ.T → Prop} : κ.el v k ↔ ∃ x,v = κ.inj x ∧ k x := by
 cases κ <;> simp [K.flat] at h <;> simp [K.el,elI,elB,elS,K.inj]
theorem gc1 {P : Program} {f : FuncId} {args : List Value} {H : AH} {κ : K} {v : κ.T} {k : κ.T → AH → Prop} (hκ : κ.flat = true)
  (h : qh P f args H fun e H' => in1 κ e qn fun r => qa H H' ∧ r = v) (hk : k v H) : qh P f args H fun e H' => in1 κ e qn fun r => k r H' := by
 have h1 : qh P f args H fun e H' => qa H H' ∧ e = .ret (κ.inj v) := h.mono fun e H' he => by
  cases e with
  | ret x =>
   simp only [in1,onRet] at he
   obtain ⟨y,rfl,hkp,rfl⟩ := (K.el_inj hκ).1 he
   exact ⟨hkp,rfl⟩
  | pan x => exact he.elim
 refine (h1.gc (fun e he => by subst he; have := K.flat_inj hκ v; cases κ <;> first | exact this | (simp [K.flat] at hκ; done))).mono fun e H' he => ?_
 obtain ⟨rfl,rfl⟩ := he
 simp only [in1,onRet]
 exact (K.el_inj hκ).2 ⟨v,rfl,hk⟩
theorem gcI {P : Program} {f : FuncId} {args : List Value} {H : AH} {j : IntKind} (v : Int) {k : Int → AH → Prop}
  (h : qh P f args H fun e H' => in1 (.int j) e qn fun (r : Int) => qa H H' ∧ r = v) (hk : k v H) : qh P f args H fun e H' => in1 (.int j) e qn fun r => k r H' :=
 gc1 (κ := .int j) rfl h hk
theorem gcB {P : Program} {f : FuncId} {args : List Value} {H : AH} (v : Bool) {k : Bool → AH → Prop}
  (h : qh P f args H fun e H' => in1 .bool e qn fun (r : Bool) => qa H H' ∧ r = v) (hk : k v H) : qh P f args H fun e H' => in1 .bool e qn fun r => k r H' :=
 gc1 (κ := .bool) rfl h hk
end Go.Abs
