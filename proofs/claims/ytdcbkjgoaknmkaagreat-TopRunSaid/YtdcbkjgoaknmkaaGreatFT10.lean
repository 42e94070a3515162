/- Lemmas for the law: an abstract machine, and what the functions do on it. No condition. -/
import Derived.Test.YtdcbkjgoaknmkaaGreatFT9
import Derived.Test.YtdcbkjgoaknmkaaGreatProg
import Derived.WalkKit
import Derived.Maps.OwnOps
import Derived.Maps.OwnSet
import Derived.Maps.Views
set_option linter.all false
open Go.Value renaming int → qlI
open Go.IntKind renaming wrap → qlJ
open List renaming getElem?_eq_getElem → qlK,getD_eq_getElem?_getD → qlM,replicate → qlN,getElem?_eq_none → qlR,getElem?_eq_some_iff → qlT,getElem?_map → qlW,mem_of_getElem? → qlX,getElem_mem → ql1,ext_getElem? → qmc,getElem?_append_left → qmd,getElem?_set_ne → qmf,getElem?_range → qmh,length_set → qmj,mem_map → qml,flatMap_cons → qmn,length_map → qmt,map_cons → qmv,getElem?_set_self → qmy,range → qmA,mem_range → qmJ,flatMap_append → qmP,mem_or_eq_of_mem_set → qmX,range_succ → qm0,drop_length → qm3,mem_map_of_mem → qna,drop_eq_getElem_cons → qnh
open Go.Addr renaming add → qlL
open Int renaming toNat_natCast → qlP,toNat → qlQ,eq_ofNat_of_zero_le → qma
open Nat renaming le_refl → qlS,zero_add → ql3,zero_le → qmT
open Bool renaming false_eq_true → qlU,not_true → qmm,not_false → qmp
open Option renaming isNone_some → qlZ,isSome_none → ql4,map_some → qmi
open Go.Abs renaming Rows → ql5
open Option.some renaming injEq → qmU
set_option linter.all false
namespace Go.Proofs.YtdcbkjgoaknmkaaGreat
open Go Go.RowKit Go.Maps
theorem law3 : Keyed Tryz.prog 3 := int_keyed Tryz.underlying3
theorem zero3 (w : World) : (zeroValue 3).run Tryz.prog w = .ok (.int .i64 0) w := by kernel_rfl
def cntZ (z : Nat → Int) (v : Int) : Nat → Nat
 | 0 => 0
 | k + 1 => cntZ z v k + (if z k = v then 1 else 0)
def MayZ (n : Int) (len : Nat) (z : Nat → Int) : Prop := 16 ≤ n ∧ 1 ≤ len ∧ len ≤ 14 ∧ ∀ i,i < len → 16 ≤ z i ∧ z i < n ∧ ∀ j,j < i → z j ≠ z i
def okZ (n : Int) (z : Nat → Int) (k : Nat) : Prop := ∀ i,i < k → 16 ≤ z i ∧ z i < n ∧ ∀ j,j < i → z j ≠ z i
def MapZ {H : Type} (z : Nat → Int) (k : Nat) (D : DataW H) : Prop := ∀ v : Int,D.atKey (.int .i64 v) (.lit (.int .i64 0)) = .lit (.int .i64 (cntZ z v k))
theorem cntZ_le (z : Nat → Int) (v : Int) : ∀ k,cntZ z v k ≤ k := by
 intro k
 induction k with
 | zero => exact qlS _
 | succ k ih => simp only [cntZ]; split <;> omega
theorem qhh {z : Nat → Int} {v : Int} : ∀ {k : Nat},cntZ z v k = 0 ↔ ∀ i,i < k → z i ≠ v := by
 intro k
 induction k with
 | zero => exact ⟨fun _ i hi => by omega,fun _ => rfl⟩
 | succ k ih =>
  simp only [cntZ]
  constructor
  ·intro h i hi
   have h1 : cntZ z v k = 0 := by omega
   by_cases hik : i = k
   ·subst hik
    intro he
    rw [if_pos he] at h; omega
   ·exact ih.1 h1 i (by omega)
  ·intro h
   rw [if_neg (h k (by omega)),ih.2 fun i hi => h i (by omega)]
theorem qis {H : Type} {z : Nat → Int} {k : Nat} {D : DataW H} {c c2 : Int} (hR : MapZ z k D) (hM : IsMap D) (hk : k ≤ 1000000) (hat : D.atKey (.int .i64 (z k)) (.lit (.int .i64 0)) = .lit (.int .i64 c))
  (hat2 : (D.put (.int .i64 (z k)) (.lit (.int .i64 (wrap64 (c + 1))))).atKey (.int .i64 (z k)) (.lit (.int .i64 0)) = .lit (.int .i64 c2)) :
  c2 = (cntZ z (z k) k : Int) + 1 ∧ MapZ z (k + 1) (D.put (.int .i64 (z k)) (.lit (.int .i64 (wrap64 (c + 1))))) := by
 have hle := cntZ_le z (z k) k
 have h1 := (hR (z k)).symm.trans hat
 injection h1 with h1
 injection h1 with _ h1
 have hw : wrap64 (c + 1) = c + 1 := by
  unfold wrap64; omega
 rw [hw] at hat2 ⊢
 have hkl : WideAt.IsKeyLit (Lit.int .i64 (z k)) := by unfold WideAt.IsKeyLit; trivial
 rw [atKey_put_same hM hkl] at hat2
 injection hat2 with h2
 injection h2 with _ h2
 refine ⟨by omega,fun v => ?_⟩
 simp only [cntZ]
 by_cases hv : z k = v
 ·rw [if_pos hv,← hv,atKey_put_same hM hkl]
  rw [← h1]
  congr 2
 ·rw [if_neg hv,atKey_put_other (fun e => hv (by injection e with _ e; exact e.symm)),hR v]
  rfl
set_option maxRecDepth 100000 in
theorem may_any {H : Type} (b off len cap : Nat) (n : Int) (w : World) (v : Bool) (z : Nat → Int)
   (hb : b < w.heap.size) (hlen : len ≤ 1000000) (hv : v = true ↔ MayZ n len z)
   (ds : Nat → Nat → Int) (hc : ∀ k i,k < len → 1 ≤ i → i < 9 → w.cell? ⟨b,off + k * 9 + i,none⟩ = some (.int .u64 (ds k i)))
   (hc0 : ∀ k,k < len → w.cell? ⟨b,off + k * 9,none⟩ = some (.int .i64 (z k))) (hwz : ∀ k,(Lit.int .i64 (z k)).wf = true) :
    Calls Tryz.prog 104 #[.int .i64 n,.slice (some ⟨b,off,none⟩) len cap] w fun e w' => e = .returned (.bool v) ∧ Below w.heap.size w w' ∧ ∀ a,w'.frozen? a = w.frozen? a := by
  have vf : ¬ MayZ n len z → v = false := fun h => by
    cases v with
    | false => rfl
    | true => exact absurd (hv.1 rfl) h
  have hmm := @run_makeMap Tryz.prog
  go_enter Tryz.func104,Tryz.ntmps104
  go_wp2
  go_loopw [11] (fun i wr => ∃ k : Nat,∃ D : DataW H,k ≤ len ∧ i = .int .i64 k ∧ wr.ownsMap Tryz.prog 3 (plainElem Tryz.prog 3) w.heap.size k D ∧ MapZ z k D ∧ okZ n z k ∧ Below w.heap.size w wr ∧ ∀ a,wr.frozen? a = w.frozen? a)
    (fun i _ => len - (intOf i).toNat)
  case atStart =>
    refine ⟨0,_,qmT _,rfl,World.ownsMap_made _ _ _ _,fun v => rfl,fun i hi => by omega,(Below.refl _ _).alloc (qlS _) _,fun a => frozen?_alloc_map _ _ _ a⟩
  case round =>
    obtain ⟨k,D,hk,rfl,hown,hR,hokz,hnx,hfz⟩ := hrel
    have hx1 : k < len → wr.cell? ⟨b,off + k * 9 + 1,none⟩ = some (.int .u64 (ds k 1)) := fun h => (hnx.cell (by exact hb)).trans (hc k 1 h (by omega) (by omega))
    have hx2 : k < len → wr.cell? ⟨b,off + k * 9 + 2,none⟩ = some (.int .u64 (ds k 2)) := fun h => (hnx.cell (by exact hb)).trans (hc k 2 h (by omega) (by omega))
    have hx3 : k < len → wr.cell? ⟨b,off + k * 9 + 3,none⟩ = some (.int .u64 (ds k 3)) := fun h => (hnx.cell (by exact hb)).trans (hc k 3 h (by omega) (by omega))
    have hx4 : k < len → wr.cell? ⟨b,off + k * 9 + 4,none⟩ = some (.int .u64 (ds k 4)) := fun h => (hnx.cell (by exact hb)).trans (hc k 4 h (by omega) (by omega))
    have hx5 : k < len → wr.cell? ⟨b,off + k * 9 + 5,none⟩ = some (.int .u64 (ds k 5)) := fun h => (hnx.cell (by exact hb)).trans (hc k 5 h (by omega) (by omega))
    have hx6 : k < len → wr.cell? ⟨b,off + k * 9 + 6,none⟩ = some (.int .u64 (ds k 6)) := fun h => (hnx.cell (by exact hb)).trans (hc k 6 h (by omega) (by omega))
    have hx7 : k < len → wr.cell? ⟨b,off + k * 9 + 7,none⟩ = some (.int .u64 (ds k 7)) := fun h => (hnx.cell (by exact hb)).trans (hc k 7 h (by omega) (by omega))
    have hx8 : k < len → wr.cell? ⟨b,off + k * 9 + 8,none⟩ = some (.int .u64 (ds k 8)) := fun h => (hnx.cell (by exact hb)).trans (hc k 8 h (by omega) (by omega))
    have hx0 : k < len → wr.cell? ⟨b,off + k * 9,none⟩ = some (.int .i64 (z k)) := fun h => (hnx.cell (by exact hb)).trans (hc0 k h)
    have hne : some (⟨wr.heap.size,0,none⟩ : Addr).block ≠ some w.heap.size := by
      have := hown.lt
      intro e
      simp only [qmU] at e
      omega
    have hkey : keyOf Tryz.prog 3 (.int .i64 (z k)) = some (.int .i64 (z k)) := keyOf_int_mk Tryz.underlying3 (hwz k)
    go_wp2_with (first
      | (at_lookup; refine wpList_lookup_own_int _ rfl _ _ 178 rfl 3 3 .i64 law3 Tryz.underlying178 Tryz.underlying3 (zero3 _) w.heap.size k _ rfl (hown.alloc _) _ _ rfl hkey ?_; intro c hat hwc)
      | (at_mapUpdate; refine wpList_mapUpdate_in _ rfl _ _ _ 178 rfl 3 3 law3 Tryz.underlying178 _ w.heap.size k _ rfl (hown.alloc _) (by unfold maxLen; omega) _ _ _ rfl rfl hkey _ [] (plainElem_int Tryz.underlying3 (wrap64_wf _)) ?_; intro w1 hown1 hturn1; have hgrow1 := hturn1.grown; have hfz1 : ∀ a,w1.frozen? a = w.frozen? a := fun a => (hturn1.frozen a).trans ((frozen?_alloc_cells _ _ _ a).trans (hfz a)); have hself : w1.cell? ⟨wr.heap.size,0,none⟩ = some (.int .i64 (z k)) := hgrow1.cell (by rw [World.cell?_alloc_new]; rfl) hne; obtain ⟨c2,hlk,hat2,hwc2⟩ := hown1.lookup_int law3 Tryz.underlying178 Tryz.underlying3 (zero3 _) hkey)
      | go_in)
    case roundEnd =>
      have hlt : k < len := by assumption
      obtain ⟨e2,hM⟩ := qis hR (World.ownsMap.isMap hown) (by omega) hat hat2
      have hcond : (16 ≤ z k ∧ z k < n) ∧ c2 ≤ 1 := by assumption
      have hz : cntZ z (z k) k = 0 := by omega
      have hnw := hnx.alloc hnx.size (.cells #[.int .i64 (z k),.int .u64 (ds k 1),.int .u64 (ds k 2),.int .u64 (ds k 3),.int .u64 (ds k 4),.int .u64 (ds k 5),.int .u64 (ds k 6),.int .u64 (ds k 7),.int .u64 (ds k 8)] 164)
      refine ⟨⟨k + 1,_,by omega,by simp,hown1,hM,fun i hi => ?_,hnw.grown hgrow1 hnw.size (fun j hj => by cases hj; exact qlS _),hfz1⟩,by simp [intOf]; omega⟩
      by_cases hik : i = k
      · subst hik; exact ⟨hcond.1.1,hcond.1.2,qhh.1 hz⟩
      · exact hokz i (by omega)
    all_goals go_ret
    · have hlt : k < len := by assumption
      have hcond : (z k < 16 ∨ n ≤ z k) ∨ 1 < c2 := by assumption
      obtain ⟨e2,_⟩ := qis hR (World.ownsMap.isMap hown) (by omega) hat hat2
      have hnw := hnx.alloc hnx.size (.cells #[.int .i64 (z k),.int .u64 (ds k 1),.int .u64 (ds k 2),.int .u64 (ds k 3),.int .u64 (ds k 4),.int .u64 (ds k 5),.int .u64 (ds k 6),.int .u64 (ds k 7),.int .u64 (ds k 8)] 164)
      have hvf : v = false := vf fun hm => by
        have := hm.2.2.2 k hlt
        have h0 := qhh.2 this.2.2
        omega
      exact ⟨by rw [hvf]; rfl,hnw.grown hgrow1 hnw.size (fun j hj => by cases hj; exact qlS _),hfz1⟩
    · have hlt : k < len := by assumption
      have hcond : n ≤ z k := by assumption
      have hnw := hnx.alloc hnx.size (.cells #[.int .i64 (z k),.int .u64 (ds k 1),.int .u64 (ds k 2),.int .u64 (ds k 3),.int .u64 (ds k 4),.int .u64 (ds k 5),.int .u64 (ds k 6),.int .u64 (ds k 7),.int .u64 (ds k 8)] 164)
      have hvf : v = false := vf fun hm => by
        have := hm.2.2.2 k hlt
        omega
      exact ⟨by rw [hvf]; rfl,hnw.grown hgrow1 hnw.size (fun j hj => by cases hj; exact qlS _),hfz1⟩
    · have hlt : k < len := by assumption
      have hcond : z k < 16 := by assumption
      have hnw := hnx.alloc hnx.size (.cells #[.int .i64 (z k),.int .u64 (ds k 1),.int .u64 (ds k 2),.int .u64 (ds k 3),.int .u64 (ds k 4),.int .u64 (ds k 5),.int .u64 (ds k 6),.int .u64 (ds k 7),.int .u64 (ds k 8)] 164)
      have hvf : v = false := vf fun hm => by
        have := hm.2.2.2 k hlt
        omega
      exact ⟨by rw [hvf]; rfl,hnw.grown hgrow1 hnw.size (fun j hj => by cases hj; exact qlS _),hfz1⟩
    · have hge : ¬ k < len := by assumption
      have hn : 16 ≤ n := by assumption
      have h1 : 1 ≤ (len : Int) := by assumption
      have hkl : k = len := by omega
      subst hkl
      have hvd : v = decide ((k : Int) ≤ 14) := by
        by_cases h14 : (k : Int) ≤ 14
        · rw [decide_eq_true h14]; exact hv.2 ⟨hn,by omega,by omega,hokz⟩
        · rw [decide_eq_false h14]; exact vf fun hm => by have := hm.2.2.1; omega
      exact ⟨by rw [hvd]; rfl,hnx,hfz⟩
    · have h1 : (len : Int) < 1 := by assumption
      have hvf : v = false := vf fun hm => by have := hm.2.1; omega
      exact ⟨by rw [hvf]; rfl,hnx,hfz⟩
    · have h1 : n < 16 := by assumption
      have hvf : v = false := vf fun hm => by have := hm.1; omega
      exact ⟨by rw [hvf]; rfl,hnx,hfz⟩
set_option maxRecDepth 100000 in
theorem qgf (a : Option Addr) (cap : Nat) (n : Int) (w : World) :
  Calls Tryz.prog 104 #[.int .i64 n,.slice a 0 cap] w fun e w' => e = .returned (.bool false) ∧ Below w.heap.size w w' ∧ ∀ a,w'.frozen? a = w.frozen? a := by
 have hmm := @run_makeMap Tryz.prog
 go_enter Tryz.func104,Tryz.ntmps104
 go_wp2
 refine wp_loop_rounds 1 ?_
 rw [rounds_succ]
 go_wp2
 all_goals go_ret
 all_goals exact ⟨rfl,(Below.refl _ _).alloc (qlS _) _,fun a => frozen?_alloc_map _ _ _ a⟩
open Go.Abs in
theorem qkv {W w w' : World} {φ : Emb} {H : AH} (R : Rel W φ H w) (hb : Below w.heap.size w w') (hf : ∀ a,w'.frozen? a = w.frozen? a) : Rel W φ H w' := by
 have hcell : ∀ a : Addr,a.block < w.heap.size → w'.cell? a = w.cell? a := fun a ha => hb.cell ha
 refine ⟨fun b h => by rw [hb.block b (by have := R.size; omega)]; exact R.below b h,Nat.le_trans R.size hb.size,hb.tape.trans R.tape,hb.os.trans R.os,hb.output.trans R.output,fun b B hb i => (hf _).trans (R.froz b B hb i),fun b B h => ⟨(R.dom b B h).1,by have := (R.dom b B h).2; have := hb.size; omega⟩,?_,?_,R.own,R.out⟩
 ·intro b B h hm i v hi
  obtain ⟨v',h1,h2⟩ := R.cell b B h hm i v hi
  exact ⟨v',by rw [hcell _ (R.dom b B h).2]; exact h1,h2⟩
 ·intro b B h hm
  obtain ⟨h1,h2,h3⟩ := R.room b B h hm
  exact ⟨h1,fun i hi => by rw [hcell _ (R.dom b B h).2]; exact h2 i hi,h3⟩
end Go.Proofs.YtdcbkjgoaknmkaaGreat
set_option linter.all false
namespace Go.Proofs.YtdcbkjgoaknmkaaGreat
open Go Go.Abs
instance {n : Int} {len : Nat} {z : Nat → Int} : Decidable (MayZ n len z) := by unfold MayZ; infer_instance
def lnAt (l : List (Int × List Int)) (i : Nat) : Int := (l.getD i (0,[])).1
def MayL (n : Int) (l : List (Int × List Int)) : Prop := MayZ n l.length (lnAt l)
instance {n : Int} {l : List (Int × List Int)} : Decidable (MayL n l) := by unfold MayL; infer_instance
section
variable {H : AH}
theorem qiI {φ : Emb} {k : IntKind} {n : Int} {v : Value} (h : VRel φ (.int k n) v) : v = .int k n := by cases h; rfl
theorem log_May.s {n : Int} {s : Sl} {l : List (Int × List Int)} {k : Bool → AH → Prop} (hr : ql5 H s 9 putV l) (hok : ∀ q ∈ l,qcm q) (hlen : l.length ≤ 1000000) (h : k (decide (MayL n l)) H) : log_May n s H k := by
 unfold log_May
 refine ⟨by kernel_rfl,fun W w φ args' hl R => ?_⟩
 obtain ⟨a0,a1,rfl⟩ : ∃ a0 a1,args' = #[a0,a1] := by
  have h2 := hl.1
  rcases args' with ⟨l'⟩
  match l',h2 with
  | [a,b],_ => exact ⟨a,b,rfl⟩
 have h0 := qiI (hl.2 0 _ _ rfl rfl)
 have h1 := hl.2 1 _ _ rfl rfl
 subst h0
 have fin : ∀ e w',(e = Ending.returned (.bool (decide (MayL n l))) ∧ RowKit.Below w.heap.size w w' ∧ ∀ a,w'.frozen? a = w.frozen? a) → ∃ le φ' H',Hist φ H φ' H' ∧ qcR φ' le e ∧ Rel W φ' H' w' ∧ in1 .bool le qn (fun r0 => k r0 H') := by
  rintro e w' ⟨rfl,hb,hf⟩
  exact ⟨.ret (.bool (decide (MayL n l))),φ,H,Hist.refl _ _,.bool _,qkv R hb hf,⟨_,rfl,h⟩⟩
 have hzero : l.length = 0 → decide (MayL n l) = false := fun h0 => decide_eq_false fun hm => by have := hm.2.1; omega
 have hn := hr.1
 obtain ⟨a,m,kk⟩ := s
 simp only at hn
 simp only [Sl.val] at h1
 cases h1 with
 | sl0 =>
  refine (qgf _ _ n w).mono fun e w' he => fin e w' ?_
  rw [hzero hn.symm]; exact he
 | sle a a' k' =>
  refine (qgf _ _ n w).mono fun e w' he => fin e w' ?_
  rw [hzero hn.symm]; exact he
 | @sl b B o _ _ k' hb hk' hcap =>
  subst hn
  by_cases h0 : l.length = 0
  ·rw [h0]
   refine (qgf _ _ n w).mono fun e w' he => fin e w' ?_
   rw [hzero h0]; exact he
  have hcell : ∀ (i : Nat) (q : Int × List Int),l[i]? = some q → ∀ (j : Nat) (kd : IntKind) (v : Int),(putV q)[j]? = some (.int kd v) → w.cell? ⟨B.c,o + i * 9 + j,none⟩ = some (.int kd v) := by
   intro i q hq j kd v hv
   obtain ⟨a,e1,e2,e3,e4⟩ := hr.2 i q hq
   simp only [qmU] at e1
   subst e1
   have hc := (AH.row?_cell e4).2.2.2.2 j _ hv
   obtain ⟨v',h1,h2⟩ := R.load hb hc
   rw [h1,qiI h2]
  have hget : ∀ i,i < l.length → l[i]? = some (l.getD i (0,[])) := fun i hi => by rw [qlM,qlK hi]; rfl
  have hmem : ∀ i,i < l.length → qcm (l.getD i (0,[])) := fun i hi => hok _ (qlX (hget i hi))
  refine (may_any (H := Unit) B.c o l.length k' n w (decide (MayL n l)) (lnAt l) (R.dom b B hb).2 hlen decide_eq_true_iff (fun i j => (l.getD i (0,[])).2.getD (j - 1) 0) ?_ ?_ ?_).mono fun e w' he => fin e w' he
  ·intro i j hi h1 h9
   have hl8 := (hmem i hi).line.1
   refine hcell i _ (hget i hi) j _ _ ?_
   obtain ⟨t,rfl⟩ : ∃ t,j = t + 1 := ⟨j - 1,by omega⟩
   simp only [putV,List.cons_append,List.nil_append,List.getElem?_cons_succ,lineV,qlW,Nat.add_sub_cancel]
   generalize (l.getD i (0,[])).2 = d at hl8 ⊢
   rw [qlM,qlK (show t < d.length by omega)]
   rfl
  ·intro i hi
   exact hcell i _ (hget i hi) 0 _ _ rfl
  ·intro i
   by_cases hi : i < l.length
   ·have := (hmem i hi).i
    unfold isI at this
    unfold lnAt
    simp only [Lit.wf,IntKind.min,IntKind.max,IntKind.signed,IntKind.bits,Bool.and_eq_true,decide_eq_true_eq,if_true]
    omega
   ·unfold lnAt
    rw [qlM,qlR (by omega)]
    decide
end
def gobj (p t : Nat) : AObj := ⟨[.pointer (some ⟨p,0,none⟩),.pointer (some ⟨t,0,none⟩)],.rw,0⟩
structure GAt (H : AH) (g t x p c n sp per puts : Nat) (M : Mem) : Prop where
 hg : H.get g = gobj p t
 lg : g < H.size
 ne : g ≠ t ∧ g ≠ p ∧ g ≠ c ∧ g ≠ x
 tn : TAt H t x p c n sp per puts M
 n16 : 16 < n
section
variable {H H' : AH} {g t x p c n sp per puts puts' : Nat} {M M' : Mem}
theorem GAt.c0 (h : GAt H g t x p c n sp per puts M) : AH.cell? H (qlL ⟨g,0,none⟩ 0) = some (.pointer (some ⟨p,0,none⟩)) := by simp [qk,AH.cell?,h.hg,gobj]
theorem GAt.c1 (h : GAt H g t x p c n sp per puts M) : AH.cell? H (qlL ⟨g,0,none⟩ 1) = some (.pointer (some ⟨t,0,none⟩)) := by simp [qk,AH.cell?,h.hg,gobj]
theorem GAt.step (h : GAt H g t x p c n sp per puts M) (hT : TAt H' t x p c n sp per puts' M') (f : Frt H H' t p c) : GAt H' g t x p c n sp per puts' M' :=
 ⟨by rw [f.get g h.lg h.ne.1 h.ne.2.1 h.ne.2.2.1,h.hg],by have := f.size; have := h.lg; omega,h.ne,hT,h.n16⟩
theorem GAt.keeps (h : GAt H g t x p c n sp per puts M) (hk : qa H H') : GAt H' g t x p c n sp per puts M := h.step (h.tn.keeps hk) (Frt.of_keeps hk)
theorem GAt.push (h : GAt H g t x p c n sp per puts M) (o : AObj) : GAt (H.push o) g t x p c n sp per puts M := h.keeps ((qa.refl H).push o)
def idxN (v : Nat) : Nat := (v + 7) / 8
def homeLine (n sp : Nat) (M : Mem) (i : Nat) : Int :=
 if (M.tview n sp (i / 8)).getD (i % 8) 0 < (n : Int) then (M.tview n sp (i / 8)).getD (i % 8) 0 else -1
def homeAt (n sp : Nat) (M : Mem) (v i : Nat) : Int × List Int := (homeLine n sp M i,M.tview n sp (idxN v + i))
def commits (M : Mem) : Int := M.regs.getD 1 0
def homesN (n sp : Nat) (M : Mem) : List (Int × List Int) × Int :=
 if M.down then ([],2) else if commits M > 14 then ([],6) else ((qmA (commits M).toNat).map (homeAt n sp M (commits M).toNat),0)
theorem reg_U {M : Mem} (hok : M.ok) {i : Nat} (hi : i < 35) : isU (M.regs.getD i 0) := by
 rw [qlM,qlK (by have := hok.regs; omega)]
 exact hok.regU _ (ql1 _)
theorem reg1 {M : Mem} (hd : M.down = false) : M.reg 1 = (commits M,0) := by
 unfold Mem.reg
 rw [if_pos ⟨by omega,by omega⟩,if_neg (by simp [hd])]
 rfl
theorem log_New.s {q u : Nat} {k : Option Addr → AH → Prop} (hT : TAt H t x p c n sp per puts M) (h0 : n ≤ 16 → k none H)
  (h1 : 16 < n → ∀ H' g,GAt H' g t x p c n sp per puts M → qa H H' → H.size ≤ g → k (some ⟨g,0,none⟩) H') : log_New (some ⟨p,0,none⟩) (some ⟨t,0,none⟩) H k := by
 by_cases hn : n ≤ 16
 ·refine qcZ (κ := .ptr) (v := none) (by simp) rfl (log_New.link ?_) (h0 hn)
  unfold log_New.b log_New.j1
  rw [qlZ,qlZ,qc,qc]
  refine qc3.s hT ?_
  rw [decide_eq_true (by omega),qj]
  exact ⟨At.of_keeps (qa.refl H),rfl⟩
 ·refine log_New.link ?_
  unfold log_New.b log_New.j1
  rw [qlZ,qlZ,qc,qc]
  refine qc3.s hT ?_
  rw [decide_eq_false (by omega),qc,qp]
  have lt := hT.lt
  have lx := hT.l.lx
  have lp := hT.l.m.lp
  have lc := hT.l.m.lc
  exact h1 (by omega) _ _ ⟨by rw [qm,if_pos rfl]; rfl,by simp [qe],by omega,hT.push _,by omega⟩ ((qa.refl H).push _) (qlS _)
theorem qfZ.s {k : Bool → AH → Prop} (h : GAt H g t x p c n sp per puts M) (hk : k (decide (M.down = false ∧ commits M ≠ 0)) H) : qbS (some ⟨g,0,none⟩) H k := by
 refine qbS.link ?_
 unfold qbS.b
 simp only [qlZ,qi,qlU,if_false,qd,h.c0,qE]
 refine qJ.s h.tn.l.m ?_
 by_cases hd : M.down = true
 ·have e : M.reg 1 = (0,2) := by
   unfold Mem.reg
   rw [if_pos ⟨by omega,by omega⟩,if_pos hd]
  rw [e]
  rw [decide_eq_false (by simp [hd])] at hk
  exact hk
 ·have hd' : M.down = false := by simpa using hd
  rw [reg1 hd']
  have e : (commits M != 0) = decide (M.down = false ∧ commits M ≠ 0) := by
   by_cases hc : commits M = 0
   ·rw [decide_eq_false (fun hh => hh.2 hc)]; simp [hc]
   ·rw [decide_eq_true ⟨hd',hc⟩]; simpa using hc
  simp only [e]
  exact hk
theorem qcu.s {v : Nat} {k : Int → AH → Prop} (hv : v ≤ 1000000000) (hk : k (idxN v : Nat) H) : qcu (v : Int) H k := by
 refine qcu.link ?_
 unfold qcu.b
 rw [qg (n := (v : Int) + 8) (by omega) (by omega),qg (n := (v : Int) + 8 - 1) (by omega) (by omega),Int.tdiv_eq_ediv_of_nonneg (by omega)]
 have e : ((v : Int) + 8 - 1) / 8 = ((idxN v : Nat) : Int) := by unfold idxN; omega
 rw [e]
 refine ⟨by decide,?_⟩
 rw [qg (by unfold idxN; omega) (by unfold idxN; omega)]
 exact hk
theorem qjY {α : Type} {f f' : α → List Value} : ∀ {l : List α},(∀ q ∈ l,f' q = f q) → l.flatMap f' = l.flatMap f := by
 intro l
 induction l with
 | nil => intro _; rfl
 | cons a r ih => intro h; rw [qmn,qmn,h a (by simp),ih fun q hq => h q (by simp [hq])]
theorem qdk {α : Type} {f f' : α → List Value} {B : Nat} {H : AH} {s : Sl} {z : Nat} {l : List α} (hl : ∀ q ∈ l,f' q = f q) (h : Own B H s z f l) : Own B H s z f' l := by
 rcases h with h | ⟨b,h1,h2,h3,h4⟩
 ·exact .inl h
 ·exact .inr ⟨b,h1,h2,h3,by rw [qjY hl]; exact h4⟩
theorem qgJ {α : Type} {H0 H : AH} {B : Nat} {s : Sl} {z : Nat} {f : α → List Value} {l : List α} {x : α} {k : Sl → AH → Prop} (hl : ∀ q ∈ l,(f q).length = z) (hx : (f x).length = z) (hc : (f x).all qo = true)
  (hO : Own B H s z f l) (hB : H0.size ≤ B) (hBH : B ≤ H.size) (hK : qa H0 H) (hlim : l.length + 1 ≤ lim)
  (h : ∀ s' H',Own B H' s' z f (l ++ [x]) → qa H0 H' → k s' H') : appendC z (H.push ⟨f x,.rw,z⟩) s ⟨some ⟨H.size,0,none⟩,1,1⟩ k := by
 have hf : ∀ q,(if (f q).length = z then f q else qlN z (qlI .i64 0)).length = z := fun q => by split <;> simp_all
 have e : ∀ q,(f q).length = z → (if (f q).length = z then f q else qlN z (qlI .i64 0)) = f q := fun q hq => if_pos hq
 have hO' := qdk (f' := fun q => if (f q).length = z then f q else qlN z (qlI .i64 0)) (fun q hq => e q (hl q hq)) hO
 have := qbB (H0 := H0) (B := B) (f := fun q => if (f q).length = z then f q else qlN z (qlI .i64 0)) (x := x) (k := k) hf (by rw [e x hx]; exact hc) hO' hB hBH hK hlim
  (fun s' H' hO2 hK2 _ _ => h s' H' (qdk (fun q hq => by
   rw [List.mem_append] at hq
   rcases hq with hq | hq
   ·exact (e q (hl q hq)).symm
   ·simp at hq; subst hq; exact (e _ hx).symm) hO2) hK2)
 simp only [e x hx] at this
 exact this
theorem qia (q : Int × List Int) (h : q.2.length = 8) : (putV q).length = 9 := by simp [putV,lineV,h]
theorem qhs.s {k : Sl → Int → AH → Prop} (h : GAt H g t x p c n sp per puts M) (hk : ∀ s H',qa H H' → Own H.size H' s 9 putV (homesN n sp M).1 → k s (homesN n sp M).2 H') : qat (some ⟨g,0,none⟩) H k := by
 have hok := h.tn.l.m.ok
 have hn16 := h.n16
 have hn200 := h.tn.n200
 have hu1 := reg_U hok (i := 1) (by omega)
 refine qat.link ?_
 unfold qat.b
 unfold homesN at hk
 simp only [qi,decide_eq_true_eq,qd,h.c0,qE]
 refine qJ.s h.tn.l.m ?_
 by_cases hd : M.down = true
 ·have e : M.reg 1 = (0,2) := by
   unfold Mem.reg
   rw [if_pos ⟨by omega,by omega⟩,if_pos hd]
  rw [e,if_pos (by simp)]
  rw [if_pos hd] at hk
  exact hk _ _ (qa.refl H) (.inl ⟨rfl,rfl⟩)
 have hd' : M.down = false := by simpa using hd
 rw [if_neg hd] at hk
 rw [reg1 hd',if_neg (by simp)]
 simp only
 by_cases hc : commits M > 14
 ·rw [if_pos hc]
  rw [if_pos hc] at hk
  exact hk _ _ (qa.refl H) (.inl ⟨rfl,rfl⟩)
 rw [if_neg hc]
 rw [if_neg hc] at hk
 have hcu : isU (commits M) := hu1
 unfold isU at hcu
 obtain ⟨v,hv⟩ := qma hcu.1
 rw [hv] at hc hk ⊢
 rw [qlP] at hk
 have hv14 : v ≤ 14 := by omega
 have hwv : qlJ .i64 (v : Int) = (v : Int) := qg (by omega) (by omega)
 have hidx : idxN v ≤ 2 := by unfold idxN; omega
 refine qI (t := ((⟨none,0,0⟩,(0 : Int),⟨none,0,0⟩,(0 : Int)) : Sl × Int × Sl × Int)) (I := fun (t' : Sl × Int × Sl × Int) H' => ∃ i : Nat,t'.2.2.2 = (i : Int) ∧ i ≤ v ∧ qa H H' ∧ Own H.size H' t'.2.2.1 9 putV ((qmA i).map (homeAt n sp M v))) (m := fun (t' : Sl × Int × Sl × Int) _ => qlQ ((v : Int) - t'.2.2.2)) ?_ ⟨0,rfl,by omega,qa.refl H,.inl ⟨rfl,rfl⟩⟩
 intro t' H1 hI it hit
 obtain ⟨u1,u2,s,u4⟩ := t'
 obtain ⟨i,e1,hi,hkk,hO⟩ := hI
 simp only at e1 hO
 subst e1
 unfold qat.l2
 have hg := h.keeps hkk
 simp only [qi,decide_eq_true_eq,qd,hwv,hg.c1,qE]
 by_cases hlt : (i : Int) < (v : Int)
 ·rw [if_pos hlt]
  refine ⟨by decide,?_⟩
  have hdiv : qlJ .i64 (Int.tdiv (i : Int) 8) = ((i / 8 : Nat) : Int) := by rw [show (8 : Int) = ((8 : Nat) : Int) from rfl,qgw]; exact qg (by omega) (by omega)
  have hmod : Int.tmod (i : Int) 8 = ((i % 8 : Nat) : Int) := by rw [show (8 : Int) = ((8 : Nat) : Int) from rfl,qeg]
  rw [hdiv,hmod]
  refine qe5.s hg.tn ?_
  have tg : ∀ j : Nat,j < 16 → tget n sp M (j : Int) = (M.tview n sp j,0) := fun j hj => by unfold tget; rw [if_pos ⟨by omega,by omega⟩,if_neg (by simp [hd']),qlP]
  rw [tg _ (by omega),zeroV]
  have hl8 := hg.tn.lineOf (i / 8)
  refine qgo hl8 ?_
  rw [if_neg (by simp)]
  have hr8 := qfe (H := H1) (e := 0) hl8
  have hg2 := hg.push ⟨lineV (M.tview n sp (i / 8)),.rw,0⟩
  have hk2 : qa H (H1.push ⟨lineV (M.tview n sp (i / 8)),.rw,0⟩) := hkk.push _
  have hs2 : H1.size < (H1.push ⟨lineV (M.tview n sp (i / 8)),.rw,0⟩).size := by simp [qe]
  have hO2 : Own H.size (H1.push ⟨lineV (M.tview n sp (i / 8)),.rw,0⟩) s 9 putV ((qmA i).map (homeAt n sp M v)) := hO.keep (by omega) (fun b _ hb => qv (by omega))
  have o8 : (H1.push ⟨lineV (M.tview n sp (i / 8)),.rw,0⟩).get H1.size = ⟨lineV (M.tview n sp (i / 8)),.rw,0⟩ := by rw [qm,if_pos rfl]
  generalize H1.push ⟨lineV (M.tview n sp (i / 8)),.rw,0⟩ = H2 at *
  rw [hg2.c1,qE,qp]
  have hg3 := hg2.push ⟨lineV (qlN 8 0),.rw,0⟩
  have hk3 : qa H (H2.push ⟨lineV (qlN 8 0),.rw,0⟩) := hk2.push _
  have hs3 : (H2.push ⟨lineV (qlN 8 0),.rw,0⟩).size = H2.size + 1 := by simp [qe]
  refine qcu.s (by omega) ⟨hg3.c1,?_⟩
  rw [qg (n := ((idxN v : Nat) : Int) + (i : Int)) (by omega) (by omega),show ((idxN v : Nat) : Int) + (i : Int) = ((idxN v + i : Nat) : Int) by omega]
  refine qe5.s hg3.tn ?_
  rw [tg _ (by omega)]
  have hld := hg.tn.lineOf (idxN v + i)
  generalize hD : M.tview n sp (idxN v + i) = D at *
  have hst : AH.canPut (H2.push ⟨lineV (qlN 8 0),.rw,0⟩) ⟨H2.size,0,none⟩ (lineV D).length := qcC.2 (by rw [qr hld.1,qr rfl]; omega)
  have hpu : AH.put (H2.push ⟨lineV (qlN 8 0),.rw,0⟩) ⟨H2.size,0,none⟩ (lineV D) = H2.push ⟨lineV D,.rw,0⟩ := by
   rw [qdq]
   congr 2
   apply qmc
   intro j
   rw [qb5 _ _ _ _ (by rw [qr hld.1,qr rfl]; omega),qr hld.1]
   by_cases hj : j < 8
   ·rw [if_pos (by omega)]; rfl
   ·rw [if_neg (by omega),qlR (by rw [qr rfl]; omega),qlR (by rw [qr hld.1]; omega)]
  refine ⟨⟨qr hld.1,qaD _⟩,stC_to hst hpu ?_⟩
  rw [if_neg (by simp)]
  have hg4 := hg2.push ⟨lineV D,.rw,0⟩
  have hk4 : qa H (H2.push ⟨lineV D,.rw,0⟩) := hk2.push _
  have hr10 := qfe (H := H2) (e := 0) hld
  have o8' : (H2.push ⟨lineV D,.rw,0⟩).get H1.size = ⟨lineV (M.tview n sp (i / 8)),.rw,0⟩ := by rw [qv (by omega),o8]
  have hO4 : Own H.size (H2.push ⟨lineV D,.rw,0⟩) s 9 putV ((qmA i).map (homeAt n sp M v)) := hO2.keep (by simp [qe]) (fun b _ hb => qv (by omega))
  generalize H2.push ⟨lineV D,.rw,0⟩ = H4 at *
  refine ⟨by decide,by omega,?_⟩
  have hc8 : AH.cell? H4 (qlL ⟨H1.size,0,none⟩ (((i % 8 : Nat) : Int).toNat * 1)) = some (.int .u64 ((M.tview n sp (i / 8)).getD (i % 8) 0)) := by
   have hm : i % 8 < (M.tview n sp (i / 8)).length := by rw [hl8.1]; omega
   rw [qk,qlP]
   simp only [AH.cell?,o8',ql4,qlU,if_false]
   rw [if_neg (by simp)]
   simp only [lineV,ql3,Nat.mul_one,qlW]
   rw [qlM,qlK hm]; rfl
  rw [hc8,qf,hg4.c1,qE]
  refine qc3.s hg4.tn ?_
  have hline : isU ((M.tview n sp (i / 8)).getD (i % 8) 0) := by
   have hm : i % 8 < (M.tview n sp (i / 8)).length := by rw [hl8.1]; omega
   rw [qlM,qlK hm]
   exact hl8.2 _ (ql1 hm)
  have hhl : homeLine n sp M i = if (M.tview n sp (i / 8)).getD (i % 8) 0 < (n : Int) then (M.tview n sp (i / 8)).getD (i % 8) 0 else -1 := rfl
  have hha : homeAt n sp M v i = (homeLine n sp M i,D) := by unfold homeAt; rw [hD]
  generalize (M.tview n sp (i / 8)).getD (i % 8) 0 = w at *
  rw [qbE (n := (n : Int)) (by omega) (by omega)]
  have j1 : ∀ y : Int,y = homeLine n sp M i → qat.j1 (u1,u2,s,(i : Int)) it H2.size H4 y := by
   intro y hy
   unfold qat.j1
   rw [ql hr10]
   have hsm : setMany [qlI .i64 0,qlI .u64 0,qlI .u64 0,qlI .u64 0,qlI .u64 0,qlI .u64 0,qlI .u64 0,qlI .u64 0,qlI .u64 0] 0 (setMany [qlI .i64 y,qlI .u64 0,qlI .u64 0,qlI .u64 0,qlI .u64 0,qlI .u64 0,qlI .u64 0,qlI .u64 0,qlI .u64 0] 1 (lineV D)) = putV (y,D) ∧ (setMany [qlI .i64 y,qlI .u64 0,qlI .u64 0,qlI .u64 0,qlI .u64 0,qlI .u64 0,qlI .u64 0,qlI .u64 0,qlI .u64 0] 1 (lineV D)).length = 9 := by
    have h8 := hld.1
    match D,h8 with
    | [a0,a1,a2,a3,a4,a5,a6,a7],_ => exact ⟨rfl,rfl⟩
   refine ⟨qr hld.1,hsm.2,?_⟩
   rw [qp,hsm.1]
   have hlz : ∀ q ∈ (qmA i).map (homeAt n sp M v),(putV q).length = 9 := by
    intro q hq
    rw [qml] at hq
    obtain ⟨j,_,rfl⟩ := hq
    exact qia _ (hg.tn.lineOf _).1
   refine qgJ hlz (qia _ hld.1) (putV_ok _) hO4 (qlS _) hk4.1 hk4 (by simp [lim]; omega) ?_
   intro s' H' hO' hK'
   rw [qg (n := (i : Int) + 1) (by omega) (by omega)]
   refine hit _ _ ⟨i + 1,by simp,by omega,hK',?_⟩ (by simp only; omega)
   rw [qm0,List.map_append,qmv,List.map_nil,hha,← hy]
   exact hO'
  by_cases hw : w < (n : Int)
  ·rw [if_pos hw]
   rw [if_pos hw] at hhl
   unfold isU at hline
   rw [qg (n := w) (by omega) (by omega)]
   exact j1 _ hhl.symm
  ·rw [if_neg hw]
   rw [if_neg hw] at hhl
   exact j1 _ hhl.symm
 ·rw [if_neg hlt]
  have : i = v := by omega
  subst this
  exact hk _ _ hkk hO
end
def tputs (n sp per : Nat) : List (Int × List Int) → Mem → Nat → Mem × Nat × Int
 | [],M,pt => (M,pt,0)
 | q :: r,M,pt => if (tput n sp per M pt q.1 q.2).2.2 = 0 then tputs n sp per r (tput n sp per M pt q.1 q.2).1 (tput n sp per M pt q.1 q.2).2.1 else tput n sp per M pt q.1 q.2
def finN (n sp per : Nat) (l : List (Int × List Int)) (M : Mem) (pt : Nat) : Mem × Nat × Int :=
 let R := tputs n sp per l M pt
 if R.2.2 = 0 then ((R.1.set 1 0).1,R.2.1,(R.1.set 1 0).2) else if R.2.2 = 3 then (R.1,R.2.1,0) else R
structure PSt (n sp per : Nat) (M : Mem) (pt mvb len : Nat) : Prop where
 lv : ∃ k,LV M (n + 1) sp k
 ok : M.ok
 pl : pt < per
 mv : M.mv ≤ mvb
 len : M.cs.length = len
section
variable {n sp per : Nat} {M : Mem} {pt mvb len : Nat}
theorem PSt.tput (h : PSt n sp per M pt mvb len) (hn : 1 ≤ n) (hb : mvb < 4611686018427387904) {line : Int} {d : List Int} (hd : isLine d) :
  PSt n sp per (tput n sp per M pt line d).1 (tput n sp per M pt line d).2.1 (mvb + 1) len := by
 obtain ⟨k,hlv⟩ := h.lv
 have hmv := h.mv
 have hpl := h.pl
 have hlen := qhW (n := n) (sp := sp) (period := per) (M := M) (puts := pt) (line := line) (d := d)
 have hok := tput_ok (period := per) (puts := pt) (line := line) hd hlv hn h.ok (by omega)
 by_cases hin : 0 ≤ line ∧ line < n
 ·by_cases hdn : M.down = true
  ·have e : Go.Proofs.YtdcbkjgoaknmkaaGreat.tput n sp per M pt line d = (M,pt,2) := by unfold Go.Proofs.YtdcbkjgoaknmkaaGreat.tput; rw [if_pos hin,if_pos hdn]
   rw [e]; exact ⟨⟨k,hlv⟩,h.ok,hpl,by simp only; omega,h.len⟩
  ·obtain ⟨ln,rfl⟩ := qma hin.1
   obtain ⟨h1,h2⟩ := qem (line := ln) (period := per) (puts := pt) (d := d) hlv hn h.ok (by omega) (by simpa using hdn) (by omega) hd.1
   obtain ⟨k',_,hlv',_⟩ := h1.lv
   refine ⟨⟨k',hlv'⟩,hok,by rw [h2]; split <;> omega,?_,hlen.trans h.len⟩
   have := h1.mv.2.1
   split at this <;> omega
 ·rw [qkR hin]; exact ⟨⟨k,hlv⟩,h.ok,hpl,by simp only; omega,h.len⟩
theorem PSt.mono (h : PSt n sp per M pt mvb len) {b : Nat} (hb : mvb ≤ b) : PSt n sp per M pt b len := ⟨h.lv,h.ok,h.pl,Nat.le_trans h.mv hb,h.len⟩
theorem PSt.puts : ∀ {l : List (Int × List Int)} {M : Mem} {pt mvb : Nat},PSt n sp per M pt mvb len → 1 ≤ n → mvb + l.length < 4611686018427387904 → (∀ q ∈ l,qcm q) → PSt n sp per (tputs n sp per l M pt).1 (tputs n sp per l M pt).2.1 (mvb + l.length) len := by
 intro l
 induction l with
 | nil => intro M pt mvb h _ _ _; exact h
 | cons q r ih =>
  intro M pt mvb h hn hb hq
  simp only [List.length_cons] at hb ⊢
  have h1 := h.tput hn (by omega) (line := q.1) (hq q (by simp)).line
  unfold tputs
  split
  ·exact (ih h1 hn (by omega) fun q' hq' => hq q' (by simp [hq'])).mono (by omega)
  ·exact h1.mono (by omega)
theorem Mem.set1_mv {v : Int} : (M.set 1 v).1.mv = M.mv := by
 unfold Mem.set
 rw [if_pos (show regIn 1 by unfold regIn; omega)]
 have hw : M.wr.regs = M.regs := Mem.wr_regs
 split
 ·rfl
 ·simp only
  split
  ·unfold Mem.mv
   simp only
   congr 1
   simp only [qlM]
   rw [qmf (by decide)]
  ·unfold Mem.mv; rw [hw]
theorem Mem.set1_whose {v : Int} (i : Nat) : (M.set 1 v).1.whose i = M.whose i := by
 unfold Mem.set
 rw [if_pos (show regIn 1 by unfold regIn; omega)]
 have hw : M.wr.regs = M.regs := Mem.wr_regs
 split
 ·rfl
 ·simp only
  split
  ·unfold Mem.whose
   simp only [qlM]
   rw [qmf (by show (1 : Nat) ≠ _; omega)]
  ·unfold Mem.whose; rw [hw]
theorem PSt.set1 (h : PSt n sp per M pt mvb len) {v : Int} (hv : isU v) : PSt n sp per (M.set 1 v).1 pt mvb len := by
 obtain ⟨k,hlv⟩ := h.lv
 have hl : (M.set 1 v).1.cs.length = M.cs.length := Mem.set_len
 refine ⟨⟨k,by rw [hl]; exact hlv.len,hlv.n1,hlv.sp16,hlv.kle,fun i hi => by rw [Mem.set1_whose]; exact hlv.used i hi,fun i hi hi' => by rw [Mem.set1_whose]; exact hlv.free i hi hi'⟩,Mem.set_ok h.ok hv,h.pl,by rw [Mem.set1_mv]; exact h.mv,hl.trans h.len⟩
theorem PSt.fin (h : PSt n sp per M pt mvb len) (hn : 1 ≤ n) {l : List (Int × List Int)} (hb : mvb + l.length < 4611686018427387904) (hq : ∀ q ∈ l,qcm q) :
  PSt n sp per (finN n sp per l M pt).1 (finN n sp per l M pt).2.1 (mvb + l.length) len := by
 have h1 := h.puts hn hb hq
 unfold finN
 simp only
 split
 ·exact h1.set1 (by unfold isU; omega)
 ·split
  ·exact h1
  ·exact h1
end
section
variable {H H' : AH} {g t x p c n sp per puts puts' : Nat} {M M' : Mem} {mvb len : Nat}
theorem GAt.setT (h : GAt H g t x p c n sp per puts M) (hp : PSt n sp per M' puts' mvb (n + 1 + sp)) (hb : mvb ≤ 4611686018427387904) : GAt (setT H t x p c n per puts' M') g t x p c n sp per puts' M' :=
 h.step (h.tn.setT hp.pl hp.ok (hp.len.trans h.tn.l.len.symm) (by have := hp.mv; omega)) qee
theorem qgR.s {x1 : Sl} {l : List (Int × List Int)} {K : Int → AH → Prop} (h : GAt H g t x p c n sp per puts M) (hp : PSt n sp per M puts mvb (n + 1 + sp)) (hb : mvb + l.length < 4611686018427387904) (hr : ql5 H x1 9 putV l) (hok : ∀ q ∈ l,qcm q) (hl : l.length ≤ 100000)
  (hx1 : 0 < l.length → ∀ b,x1.a.map (·.block) = some b → b ≠ t ∧ b ≠ p ∧ b ≠ c)
  (hk : ∀ H',GAt H' g t x p c n sp per (finN n sp per l M puts).2.1 (finN n sp per l M puts).1 → Frt H H' t p c → H'.size = H.size → K (finN n sp per l M puts).2.2 H') : qay (some ⟨g,0,none⟩) x1 H K := by
 have hfin := hp.fin h.tn.n1 hb hok
 refine qcZ (κ := .int .i64) (v := (finN n sp per l M puts).2.2) (H2 := setT H t x p c n per (finN n sp per l M puts).2.1 (finN n sp per l M puts).1) (by simp) rfl (qay.link ?_) (hk _ (h.setT hfin (by omega)) qee rfl)
 unfold qay.b
 refine qI (t := (((0 : Int),(0 : Int)) : Int × Int)) (I := fun (t' : Int × Int) H' => ∃ i : Nat,∃ pt M',t'.2 = (i : Int) ∧ i ≤ l.length ∧ TAt H' t x p c n sp per pt M' ∧ Frt H H' t p c ∧ PSt n sp per M' pt (mvb + i) (n + 1 + sp) ∧ tputs n sp per l M puts = tputs n sp per (l.drop i) M' pt) (m := fun (t' : Int × Int) _ => qlQ ((l.length : Int) - t'.2)) ?_ ⟨0,puts,M,rfl,by omega,h.tn,Frt.refl,hp,rfl⟩
 intro t' H1 hI it hit
 obtain ⟨t1,t2⟩ := t'
 obtain ⟨i,pt,M1,e1,hi,hT,f,hps,heq⟩ := hI
 simp only at e1
 subst e1
 have hG := h.step hT f
 unfold qay.l2
 simp only [qi,decide_eq_true_eq,hr.1]
 by_cases hlt : (i : Int) < (l.length : Int)
 ·rw [if_pos hlt]
  have hi' : i < l.length := by omega
  obtain ⟨b,o,ha,hbz,hrow⟩ := hr.at hi'
  have hbne := hx1 (by omega) b (by rw [ha]; rfl)
  have hrow1 : AH.row? H1 (qlL ⟨b,o,none⟩ (i * 9)) 9 = some (putV l[i]) := by
   rw [← hrow,qk]
   simp only [AH.row?,f.get b hbz hbne.1 hbne.2.1 hbne.2.2]
  refine ⟨by omega,?_⟩
  rw [ha,qd,qlP,ql hrow1]
  have hcl := hok _ (ql1 hi')
  rw [qnh hi'] at heq
  generalize l[i] = q at *
  refine new_put hcl rfl ?_
  intro hQ
  have hG2 := hG.push ⟨putV q,.rw,0⟩
  have f2 : Frt H (H1.push ⟨putV q,.rw,0⟩) t p c := f.trans (Frt.of_keeps ((qa.refl H1).push _))
  have s2 : H1.size < (H1.push ⟨putV q,.rw,0⟩).size := by simp [qe]
  simp only [qd,hG2.c1,qE,hQ.c0,qf]
  rw [ql hQ.row]
  obtain ⟨k1,hlv1⟩ := hps.lv
  have hmv1 := hps.mv
  refine qgu.s hG2.tn hlv1 (by omega) hcl.line ?_
  intro H3 hT3 f3 _
  have hps3 := hps.tput h.tn.n1 (by omega) (line := q.1) hcl.line
  have hdef : tputs n sp per (q :: l.drop (i + 1)) M1 pt = if (tput n sp per M1 pt q.1 q.2).2.2 = 0 then tputs n sp per (l.drop (i + 1)) (tput n sp per M1 pt q.1 q.2).1 (tput n sp per M1 pt q.1 q.2).2.1 else tput n sp per M1 pt q.1 q.2 := rfl
  rw [hdef] at heq
  by_cases he : (tput n sp per M1 pt q.1 q.2).2.2 = 0
  ·rw [if_pos he] at heq
   rw [if_pos (by simpa using he),qg (n := (i : Int) + 1) (by omega) (by omega)]
   exact hit _ _ ⟨i + 1,_,_,by simp,by omega,hT3,f2.trans f3,hps3.mono (by omega),heq⟩ (by simp only; omega)
  ·rw [if_neg he] at heq
   rw [if_neg (by simpa using he)]
   unfold finN
   simp only [heq]
   rw [if_neg he]
   by_cases he3 : (tput n sp per M1 pt q.1 q.2).2.2 = 3
   ·rw [if_pos he3,if_pos (by simpa using he3)]
    exact ⟨h.tn.at hT3 (f2.trans f3),rfl⟩
   ·rw [if_neg he3,if_neg (by simpa using he3)]
    exact ⟨h.tn.at hT3 (f2.trans f3),rfl⟩
 ·rw [if_neg hlt]
  have : i = l.length := by omega
  subst this
  rw [qm3] at heq
  have heq' : tputs n sp per l M puts = (M1,pt,0) := heq
  unfold qay.j1
  simp only [qd,hG.c0,qE]
  unfold finN
  simp only [heq',if_true]
  refine qG.g hT.l.m (by unfold isU; omega) (Prod.eta _).symm ?_
  intro H3 hm3 f3
  have hs := hps.set1 (v := 0) (by unfold isU; omega)
  have hT3 : TAt H3 t x p c n sp per pt (M1.set 1 0).1 := hT.mem ⟨by rw [f3.get _ hT.l.xp hT.l.xc,hT.l.hx],by rw [f3.size]; exact hT.l.lx,hT.l.xp,hT.l.xc,hm3,hs.len,hT.l.n1,hT.l.sp16⟩ f3 (by have := hs.mv; omega)
  exact ⟨h.tn.at hT3 (f.trans (Frt.of_frm f3)),rfl⟩
end
def findH (line : Int) (l : List (Int × List Int)) : Option (Int × List Int) := l.find? fun q => decide (q.1 = line)
def getN (n sp : Nat) (M : Mem) (line : Int) : List Int × Int :=
 if 16 ≤ line ∧ line < n then
  if M.down then (qlN 8 0,2) else
  match (if MayL n (homesN n sp M).1 then findH line (homesN n sp M).1 else none) with
  | some q => (q.2,0)
  | none => (M.tview n sp line.toNat,0)
 else (qlN 8 0,1)
def recN (n sp per : Nat) (M : Mem) (pt : Nat) : Mem × Nat × Int :=
 if (homesN n sp M).2 ≠ 0 then (M,pt,(homesN n sp M).2) else
 if (homesN n sp M).1.length = 0 then (M,pt,0) else
 if ¬ MayL n (homesN n sp M).1 then (M,pt,6) else finN n sp per (homesN n sp M).1 M pt
section
variable {H H' : AH} {g t x p c n sp per puts puts' : Nat} {M M' : Mem} {mvb len : Nat} {line : Int}
theorem qfc (h : GAt H g t x p c n sp per puts M) : (∀ q ∈ (homesN n sp M).1,qcm q) ∧ (homesN n sp M).1.length ≤ 14 := by
 unfold homesN
 split
 ·exact ⟨fun q hq => (by cases hq),by simp⟩
 ·split
  ·exact ⟨fun q hq => (by cases hq),by simp⟩
  ·rename_i hc
   refine ⟨fun q hq => ?_,by simp; omega⟩
   rw [qml] at hq
   obtain ⟨i,hi,rfl⟩ := hq
   have hn200 := h.tn.n200
   have h8 := h.tn.lineOf (i / 8)
   refine ⟨?_,h.tn.lineOf _⟩
   unfold homeAt homeLine
   simp only
   have hu : isU ((M.tview n sp (i / 8)).getD (i % 8) 0) := by
    have hm : i % 8 < (M.tview n sp (i / 8)).length := by rw [h8.1]; omega
    rw [qlM,qlK hm]
    exact h8.2 _ (ql1 hm)
   unfold isU at hu
   unfold isI
   split <;> omega
theorem qeh {B : Nat} {s : Sl} {l : List (Int × List Int)} (hO : Own B H s 9 putV l) (hok : ∀ q ∈ l,qcm q) : ql5 H s 9 putV l := by
 have e : ∀ q ∈ l,(fun q : Int × List Int => if (putV q).length = 9 then putV q else qlN 9 (qlI .i64 0)) q = putV q := fun q hq => if_pos (qe6 (hok q hq))
 have hR := (qdk e hO).rows (fun q => by
  show (if (putV q).length = 9 then putV q else qlN 9 (qlI .i64 0)).length = 9
  split <;> simp_all) (fun q => by
  show (if (putV q).length = 9 then putV q else qlN 9 (qlI .i64 0)).all qo = true
  split
  ·exact putV_ok _
  ·rfl)
 refine ⟨hR.1,fun i q hq => ?_⟩
 have := hR.2 i q hq
 rw [e q (qlX hq)] at this
 exact this
theorem log_Get.s {k : List Value → Int → AH → Prop} (h : GAt H g t x p c n sp per puts M) (hline : isI line) (hk : k (lineV (getN n sp M line).1) (getN n sp M line).2 H) : qaq (some ⟨g,0,none⟩) line H k := by
 refine canon2 (κ := .agg) (μ := .int .i64) (by simp) (by simp) (qdp _) rfl (qaq.link ?_) hk
 unfold qaq.b
 rw [qp,zeroV]
 have hG := h.push ⟨lineV (qlN 8 0),.rw,0⟩
 have hn200 := h.tn.n200
 have hn16 := h.n16
 have lg := h.lg
 have e4 : ∀ (H1 : AH) (l : List Int) (e : Int),qa (H.push ⟨lineV (qlN 8 0),.rw,0⟩) H1 → isLine l → getN n sp M line = (l,e) →
   ((lineV l).length = 8 ∧ List.all (lineV l) qo = true) ∧ stC H1 ⟨H.size,0,none⟩ (lineV l) fun Hs => ldA Hs ⟨H.size,0,none⟩ 8 fun r0 => At H Hs H ∧ r0 = lineV (getN n sp M line).1 ∧ e = (getN n sp M line).2 := by
  intro H1 l e hk1 hl he
  exact qe9 (Q := fun r H' => At H H' H ∧ r = lineV (getN n sp M line).1 ∧ e = (getN n sp M line).2) hk1 hl fun H' hk => ⟨At.of_keeps hk,by rw [he],by rw [he]⟩
 rw [qlZ,qc]
 unfold qaq.j3
 by_cases c1 : line < 16
 ·rw [decide_eq_true c1,qj,qj,zeroV]
  exact e4 _ _ _ (qa.refl _) qbb (by unfold getN; rw [if_neg (by omega)])
 rw [decide_eq_false c1,qc]
 simp only [qd,hG.c1,qE]
 refine qc3.s hG.tn ?_
 by_cases c2 : line ≥ (n : Int)
 ·rw [decide_eq_true c2,qj,zeroV]
  exact e4 _ _ _ (qa.refl _) qbb (by unfold getN; rw [if_neg (by omega)])
 rw [decide_eq_false c2,qc]
 have hin : 16 ≤ line ∧ line < n := ⟨by omega,by omega⟩
 refine qhs.s hG ?_
 intro s28 H28 hk28 hO28
 obtain ⟨hhok,hhl⟩ := qfc h
 have hG28 := hG.keeps hk28
 by_cases hd : M.down = true
 ·have e2 : (homesN n sp M).2 = 2 := by unfold homesN; rw [if_pos hd]
  rw [e2,show ((2 : Int) == 2) = true from rfl,qj,zeroV]
  exact e4 _ _ _ hk28 qbb (by unfold getN; rw [if_pos hin,if_pos hd])
 have hd' : M.down = false := by simpa using hd
 have e2 : ((homesN n sp M).2 == 2) = false := by
  unfold homesN; rw [if_neg hd]; split <;> rfl
 rw [e2,qc,hG28.c1,qE]
 refine qc3.s hG28.tn ?_
 have hR28 := qeh hO28 hhok
 refine log_May.s hR28 hhok (by omega) ?_
 obtain ⟨ln,rfl⟩ := qma (show 0 ≤ line by omega)
 have j1 : ∀ (e : Int) (H1 : AH),qa (H.push ⟨lineV (qlN 8 0),.rw,0⟩) H1 → GAt H1 g t x p c n sp per puts M → getN n sp M (ln : Int) = (M.tview n sp ln,0) → qaq.j1 (some ⟨g,0,none⟩) (ln : Int) (fun r0 r1 H' => At H H' H ∧ r0 = lineV (getN n sp M (ln : Int)).1 ∧ r1 = (getN n sp M (ln : Int)).2) H.size e H1 := by
  intro e H1 hk1 hG1 he
  unfold qaq.j1
  simp only [qd,hG1.c1,qE]
  refine qe5.s hG1.tn ?_
  have tg : tget n sp M (ln : Int) = (M.tview n sp ln,0) := by unfold tget; rw [if_pos ⟨by omega,by omega⟩,if_neg (by simp [hd']),qlP]
  rw [tg]
  exact e4 _ _ _ hk1 (h.tn.lineOf ln) he
 by_cases hm : MayL n (homesN n sp M).1
 ·rw [decide_eq_true hm,qj]
  have hgn : getN n sp M (ln : Int) = match findH (ln : Int) (homesN n sp M).1 with | some q => (q.2,0) | none => (M.tview n sp ln,0) := by
   unfold getN
   rw [if_pos hin,if_neg hd,if_pos hm,qlP]
  generalize (homesN n sp M).1 = hs at *
  refine qI (t := (((0 : Int),(0 : Int)) : Int × Int)) (I := fun (t' : Int × Int) H' => ∃ j : Nat,t'.2 = (j : Int) ∧ j ≤ hs.length ∧ qa H28 H' ∧ findH (ln : Int) hs = findH (ln : Int) (hs.drop j)) (m := fun (t' : Int × Int) _ => qlQ ((hs.length : Int) - t'.2)) ?_ ⟨0,rfl,by omega,qa.refl _,rfl⟩
  intro t' H1 hI it hit
  obtain ⟨t1,t2⟩ := t'
  obtain ⟨j,e1,hj,hkk,heq⟩ := hI
  simp only at e1
  subst e1
  unfold qaq.l2
  simp only [qi,decide_eq_true_eq,hR28.1]
  by_cases hlt : (j : Int) < (hs.length : Int)
  ·rw [if_pos hlt]
   have hj' : j < hs.length := by omega
   obtain ⟨b,o,ha,hbz,hrow⟩ := (hR28.keep hkk).at hj'
   refine ⟨by omega,?_⟩
   rw [ha,qd,qlP,ql hrow]
   have hcl := hhok _ (ql1 hj')
   rw [qnh hj'] at heq
   generalize hs[j] = q at *
   refine new_put hcl rfl ?_
   intro hQ
   rw [hQ.c0,qf]
   unfold findH at heq
   rw [List.find?_cons] at heq
   have hk3 := hk28.trans (hkk.push ⟨putV q,.rw,0⟩)
   by_cases hq : q.1 = (ln : Int)
   ·rw [if_pos (by simpa using hq),ql hQ.row]
    rw [decide_eq_true hq] at heq
    unfold findH at hgn
    rw [heq] at hgn
    exact e4 _ _ _ hk3 hcl.line hgn
   ·rw [if_neg (by simpa using hq),qg (n := (j : Int) + 1) (by omega) (by omega)]
    rw [decide_eq_false hq] at heq
    exact hit _ _ ⟨j + 1,by simp,by omega,hkk.push _,heq⟩ (by simp only; omega)
  ·rw [if_neg hlt]
   have : j = hs.length := by omega
   subst this
   rw [qm3] at heq
   rw [heq] at hgn
   exact j1 _ _ (hk28.trans hkk) (hG28.keeps hkk) hgn
 ·rw [decide_eq_false hm,qc]
  refine j1 _ _ hk28 hG28 ?_
  unfold getN
  rw [if_pos hin,if_neg hd,if_neg hm,qlP]
theorem qiT.s {K : Int → AH → Prop} (h : GAt H g t x p c n sp per puts M) (hp : PSt n sp per M puts mvb (n + 1 + sp)) (hb : mvb + 14 < 4611686018427387904)
  (hk : ∀ H',GAt H' g t x p c n sp per (recN n sp per M puts).2.1 (recN n sp per M puts).1 → Frt H H' t p c → H'.size = H.size → K (recN n sp per M puts).2.2 H') : qcc (some ⟨g,0,none⟩) H K := by
 obtain ⟨hhok,hhl⟩ := qfc h
 have hrec : PSt n sp per (recN n sp per M puts).1 (recN n sp per M puts).2.1 (mvb + 14) (n + 1 + sp) := by
  unfold recN
  split
  ·exact hp.mono (by omega)
  ·split
   ·exact hp.mono (by omega)
   ·split
    ·exact hp.mono (by omega)
    ·exact (hp.fin h.tn.n1 (by omega) hhok).mono (by omega)
 refine qcZ (κ := .int .i64) (v := (recN n sp per M puts).2.2) (H2 := setT H t x p c n per (recN n sp per M puts).2.1 (recN n sp per M puts).1) (by simp) rfl (qcc.link ?_) (hk _ (h.setT hrec (by omega)) qee rfl)
 unfold qcc.b
 rw [qlZ,qc]
 refine qhs.s h ?_
 intro s9 H9 hk9 hO9
 have hG9 := h.keeps hk9
 have hR9 := qeh hO9 hhok
 have f9 : Frt H H9 t p c := Frt.of_keeps hk9
 unfold recN
 by_cases c1 : (homesN n sp M).2 ≠ 0
 ·rw [show ((homesN n sp M).2 != 0) = true from by simpa using c1,qj,if_pos c1]
  exact ⟨h.tn.at hG9.tn f9,rfl⟩
 rw [show ((homesN n sp M).2 != 0) = false from by simpa using c1,qc,if_neg c1,hR9.1]
 by_cases c2 : (homesN n sp M).1.length = 0
 ·rw [c2,show (((0 : Nat) : Int) == 0) = true from rfl,qj,if_pos rfl]
  exact ⟨h.tn.at hG9.tn f9,rfl⟩
 rw [show ((((homesN n sp M).1.length : Nat) : Int) == 0) = false from by simp; simpa using c2,qc,if_neg c2]
 simp only [qd,hG9.c1,qE]
 refine qc3.s hG9.tn ?_
 refine log_May.s hR9 hhok (by omega) ?_
 by_cases c3 : MayL n (homesN n sp M).1
 rotate_left 1
 ·rw [decide_eq_false c3,qmp,qj,if_pos c3]
  exact ⟨h.tn.at hG9.tn f9,rfl⟩
 rw [decide_eq_true c3,qmm,qc,if_neg (fun hh => hh c3)]
 have lt := h.tn.lt
 have lp := h.tn.l.m.lp
 have lc := h.tn.l.m.lc
 refine qgR.s hG9 hp (by omega) hR9 hhok (by omega) ?_ ?_
 ·intro _ b hb
  rcases hO9 with ⟨rfl,_⟩ | ⟨b',rfl,h1,_⟩
  ·simp at hb
  ·simp at hb; subst hb; omega
 ·intro H' hG' f' _
  exact ⟨h.tn.at hG'.tn (f9.trans f'),rfl⟩
end
theorem own_nn {α : Type} {B : Nat} {H : AH} {s : Sl} {z : Nat} {f : α → List Value} {l : List α} (h : Own B H s z f l) : s.n = l.length := by
 rcases h with ⟨rfl,rfl⟩ | ⟨b,rfl,_,_,_⟩ <;> rfl
def lineF (r : List Int) : List Value := if r.length = 8 then lineV r else qlN 8 (qlI .u64 0)
theorem qhm (r : List Int) : (lineF r).length = 8 := by
 unfold lineF; split
 ·rename_i h; exact qr h
 ·rfl
theorem qk2 (r : List Int) : (lineF r).all qo = true := by
 unfold lineF; split
 ·exact qaD _
 ·rfl
theorem qdV {r : List Int} (h : isLine r) : lineF r = lineV r := if_pos h.1
theorem qhH {B : Nat} {H : AH} {s : Sl} {l : List (List Int)} (hO : Own B H s 8 lineV l) (hok : ∀ r ∈ l,isLine r) : ql5 H s 8 lineV l := by
 have hR := (qdk (f' := lineF) (fun r hr => qdV (hok r hr)) hO).rows qhm qk2
 refine ⟨hR.1,fun i q hq => ?_⟩
 have := hR.2 i q hq
 rw [qdV (hok q (qlX hq))] at this
 exact this
theorem qfA {l : List (List Int)} {i j : Nat} {r r0 : List Int} {v : Int} (hr : r ∈ l.set i (r0.set j v)) (hok : ∀ r ∈ l,isLine r) (hg : l[i]? = some r0) (hv : isU v) : isLine r := by
 have h0 := hok r0 (qlX hg)
 rcases qmX hr with h | rfl
 ·exact hok r h
 ·refine ⟨by rw [qmj]; exact h0.1,fun u hu => ?_⟩
  rcases qmX hu with h | rfl
  ·exact h0.2 u h
  ·exact hv
theorem qhQ {B : Nat} {H : AH} {s : Sl} {l : List (List Int)} (hO : Own B H s 8 lineV l) (hok : ∀ r ∈ l,isLine r) {i : Nat} {r0 : List Int} (hg : l[i]? = some r0) {j : Nat} (hj : j < 8) {v : Int} (hv : isU v) :
  ∃ b,s.a = some ⟨b,0,none⟩ ∧ B ≤ b ∧ b < H.size ∧ AH.canPut H ⟨b,i * 8 + j,none⟩ 1 ∧ Own B (AH.put H ⟨b,i * 8 + j,none⟩ [qlI .u64 v]) s 8 lineV (l.set i (r0.set j v)) ∧ ∀ x,x ≠ b → (AH.put H ⟨b,i * 8 + j,none⟩ [qlI .u64 v]).get x = H.get x := by
 have h0 := hok r0 (qlX hg)
 have hy : isLine (r0.set j v) := qfA (qlX (qmy (by have := (List.getElem?_eq_some_iff.1 hg).1; omega))) hok hg hv
 obtain ⟨b,h1,h2,h3,h4,h5,h6⟩ := (qdk (f' := lineF) (fun r hr => qdV (hok r hr)) hO).put (y := r0.set j v) qhm hg hj (v := .int .u64 v) (by
  rw [qdV h0,qdV hy]
  simp [lineV,List.map_set,u64V])
 exact ⟨b,h1,h2,h3,h4,qdk (fun r hr => (qdV (qfA hr hok hg hv)).symm) h5,h6⟩
def idxLine (l : List (Int × List Int)) (m j : Nat) : List Int := (qmA 8).map fun i => if 8 * j + i < m then qlJ .u64 (lnAt l (8 * j + i)) else 0
def rowsTo (l : List (Int × List Int)) (m : Nat) : List (List Int) := (qmA (idxN l.length)).map (idxLine l m) ++ (l.take m).map (·.2)
def rowsN (l : List (Int × List Int)) : List (List Int) := rowsTo l l.length
def rowPuts (l : List (Int × List Int)) : List (Int × List Int) := (qmA (rowsN l).length).map fun (i : Nat) => ((i : Int),(rowsN l).getD i [])
def comN (n sp per : Nat) (l : List (Int × List Int)) (M : Mem) (pt : Nat) : Mem × Nat × Int :=
 if ¬ MayL n l then (M,pt,1) else if M.down then (M,pt,2) else if commits M ≠ 0 then (M,pt,5) else
 if (tputs n sp per (rowPuts l) M pt).2.2 ≠ 0 then tputs n sp per (rowPuts l) M pt else
 if ((tputs n sp per (rowPuts l) M pt).1.set 1 l.length).2 ≠ 0 then (((tputs n sp per (rowPuts l) M pt).1.set 1 l.length).1,(tputs n sp per (rowPuts l) M pt).2.1,((tputs n sp per (rowPuts l) M pt).1.set 1 l.length).2) else
 finN n sp per l ((tputs n sp per (rowPuts l) M pt).1.set 1 l.length).1 (tputs n sp per (rowPuts l) M pt).2.1
theorem isU_w (z : Int) : isU (qlJ .u64 z) := qiA z
theorem qdr (l : List (Int × List Int)) (m j : Nat) : isLine (idxLine l m j) := by
 refine ⟨by simp [idxLine],fun v hv => ?_⟩
 unfold idxLine at hv
 rw [qml] at hv
 obtain ⟨i,_,rfl⟩ := hv
 split
 ·exact isU_w _
 ·unfold isU; omega
theorem qes {l : List (Int × List Int)} (hok : ∀ q ∈ l,qcm q) (m : Nat) : ∀ r ∈ rowsTo l m,isLine r := by
 intro r hr
 unfold rowsTo at hr
 rw [List.mem_append,qml,qml] at hr
 rcases hr with ⟨j,_,rfl⟩ | ⟨q,hq,rfl⟩
 ·exact qdr _ _ _
 ·exact (hok q (List.mem_of_mem_take hq)).line
theorem qce (l : List (Int × List Int)) {m : Nat} (hm : m ≤ l.length) : (rowsTo l m).length = idxN l.length + m := by
 unfold rowsTo; simp; omega
theorem qdt (l : List (Int × List Int)) : (rowPuts l).length = idxN l.length + l.length := by
 unfold rowPuts rowsN; rw [qmt,List.length_range,qce l (qlS _)]
theorem qdH {l : List (Int × List Int)} (hok : ∀ q ∈ l,qcm q) (hl : l.length ≤ 1000) : ∀ q ∈ rowPuts l,qcm q := by
 intro q hq
 unfold rowPuts at hq
 rw [qml] at hq
 obtain ⟨i,hi,rfl⟩ := hq
 rw [qmJ] at hi
 have hlen : (rowsN l).length = idxN l.length + l.length := qce l (qlS _)
 refine ⟨by unfold isI idxN at *; simp only; omega,?_⟩
 simp only
 rw [qlM,qlK hi]
 exact qes hok _ _ (ql1 hi)
theorem qiU {l : List (Int × List Int)} {m : Nat} (hm : m < l.length) :
  rowsTo l (m + 1) = (rowsTo l m).set (m / 8) ((idxLine l m (m / 8)).set (m % 8) (qlJ .u64 (lnAt l m))) ++ [(l.getD m (0,[])).2] := by
 have hmi : m / 8 < idxN l.length := by unfold idxN; omega
 have ht : (l.take (m + 1)).map (·.2) = (l.take m).map (·.2) ++ [(l.getD m (0,[])).2] := by
  rw [List.take_succ,qlK hm,Option.toList_some,List.map_append,qlM,qlK hm]; rfl
 unfold rowsTo
 rw [ht,← List.append_assoc,List.set_append_left _ _ (by simpa using hmi)]
 congr 2
 apply qmc
 intro j
 by_cases hj : j < idxN l.length
 ·rw [qlW,qmh hj,qmi]
  by_cases hjm : j = m / 8
  ·subst hjm
   rw [qmy (by simpa using hj)]
   congr 1
   apply qmc
   intro i
   by_cases hi : i < 8
   ·by_cases him : i = m % 8
    ·subst him
     rw [qmy (by rw [(qdr _ _ _).1]; omega)]
     unfold idxLine
     rw [qlW,qmh hi,qmi,if_pos (by omega),show 8 * (m / 8) + m % 8 = m by omega]
    ·rw [qmf (by omega)]
     unfold idxLine
     rw [qlW,qlW,qmh hi,qmi,qmi]
     congr 1
     by_cases hlt : 8 * (m / 8) + i < m
     ·rw [if_pos hlt,if_pos (by omega)]
     ·rw [if_neg hlt,if_neg (by omega)]
   ·rw [qlR (by rw [(qdr _ _ _).1]; omega),qlR (by rw [qmj,(qdr _ _ _).1]; omega)]
  ·rw [qmf (by omega),qlW,qmh hj,qmi]
   congr 1
   unfold idxLine
   apply List.map_congr_left
   intro i hi
   rw [qmJ] at hi
   by_cases hlt : 8 * j + i < m
   ·rw [if_pos hlt,if_pos (by omega)]
   ·rw [if_neg hlt,if_neg (by omega)]
 ·rw [qlR (by simp; omega),qlR (by simp; omega)]
theorem qi6 (l : List (Int × List Int)) : rowsTo l 0 = qlN (idxN l.length) (qlN 8 0) := by
 unfold rowsTo
 rw [List.take_zero,List.map_nil,List.append_nil]
 apply qmc
 intro j
 by_cases hj : j < idxN l.length
 ·rw [qlW,qmh hj,qmi,List.getElem?_replicate,if_pos hj]
  congr 1
 ·rw [qlR (by simp; omega),qlR (by simp; omega)]
section
variable {H H' : AH} {g t x p c n sp per puts puts' : Nat} {M M' : Mem} {mvb len : Nat}
theorem PSt.com (h : PSt n sp per M puts mvb len) (hn : 1 ≤ n) {l : List (Int × List Int)} (hb : mvb + 1000 < 4611686018427387904) (hok : ∀ q ∈ l,qcm q) :
  PSt n sp per (comN n sp per l M puts).1 (comN n sp per l M puts).2.1 (mvb + 40) len := by
 unfold comN
 split
 ·exact h.mono (by omega)
 rename_i hm
 have hl14 : l.length ≤ 14 := by
  have : MayL n l := Decidable.not_not.1 hm
  exact this.2.2.1
 split
 ·exact h.mono (by omega)
 split
 ·exact h.mono (by omega)
 have hrl := qdt l
 have hro := qdH hok (by omega)
 have hidx : idxN l.length ≤ 2 := by unfold idxN; omega
 have h1 := h.puts hn (l := rowPuts l) (by omega) hro
 have h2 := h1.set1 (v := (l.length : Int)) (by unfold isU; omega)
 split
 ·exact h1.mono (by omega)
 split
 ·exact h2.mono (by omega)
 ·exact (h2.fin hn (by omega) hok).mono (by omega)
theorem qjN.s {x1 : Sl} {l : List (Int × List Int)} {K : Int → AH → Prop} (h : GAt H g t x p c n sp per puts M) (hp : PSt n sp per M puts mvb (n + 1 + sp)) (hb : mvb + 1000 < 4611686018427387904) (hr : ql5 H x1 9 putV l) (hok : ∀ q ∈ l,qcm q) (hl : l.length ≤ 100000)
  (hx1 : 0 < l.length → ∀ b,x1.a.map (·.block) = some b → b ≠ t ∧ b ≠ p ∧ b ≠ c)
  (hk : ∀ H',GAt H' g t x p c n sp per (comN n sp per l M puts).2.1 (comN n sp per l M puts).1 → Frt H H' t p c → H'.size = H.size → K (comN n sp per l M puts).2.2 H') : qT (some ⟨g,0,none⟩) x1 H K := by
 have hcom := hp.com h.tn.n1 hb hok
 refine qcZ (κ := .int .i64) (v := (comN n sp per l M puts).2.2) (H2 := setT H t x p c n per (comN n sp per l M puts).2.1 (comN n sp per l M puts).1) (by simp) rfl (qT.link ?_) (hk _ (h.setT hcom (by omega)) qee rfl)
 clear hk hcom
 unfold qT.b
 rw [qlZ,qc]
 simp only [qd,h.c1,qE]
 refine qc3.s h.tn ?_
 refine log_May.s hr hok (by omega) ?_
 unfold qT.j4 comN
 have same : ∀ e : Int,At H H (setT H t x p c n per puts M) ∧ e = e := fun e => ⟨h.tn.at h.tn Frt.refl,rfl⟩
 by_cases c3 : MayL n l
 rotate_left 1
 ·rw [decide_eq_false c3,qmp,qj,if_pos c3]
  exact same 1
 rw [decide_eq_true c3,qmm,qc,if_neg (fun hh => hh c3)]
 simp only [qd,h.c0,qE]
 refine qao.s h.tn.l.m ?_
 by_cases hd : M.down = true
 ·rw [hd,qj,if_pos rfl]
  exact same 2
 have hd' : M.down = false := by simpa using hd
 rw [hd',qc,if_neg (show ¬ false = true by simp)]
 refine qfZ.s h ?_
 by_cases hcm : commits M ≠ 0
 ·rw [decide_eq_true ⟨hd',hcm⟩,qj,if_pos hcm]
  exact same 5
 rw [decide_eq_false (fun hh => hcm hh.2),qc,if_neg hcm,hr.1]
 have hl14 : l.length ≤ 14 := c3.2.2.1
 have hidx : idxN l.length ≤ 2 := by unfold idxN; omega
 refine qcu.s (by omega) ⟨by simp only [lim]; omega,?_⟩
 rw [qp,qlP,zeroV,qi9,← qi6 l]
 have lt := h.tn.lt
 have lp := h.tn.l.m.lp
 have lc := h.tn.l.m.lc
 have hrl := qdt l
 have hro := qdH hok (by omega)
 have hkeep : ∀ {H1 : AH} (b : Nat),Frt H H1 t p c → b < H.size → b ≠ t ∧ b ≠ p ∧ b ≠ c → H1.get b = H.get b := fun b f hb hne => f.get b hb hne.1 hne.2.1 hne.2.2
 -- own lines,encoded by a function of one length
 have hO0 : Own H.size (H.push ⟨(rowsTo l 0).flatMap lineV,.rw,8⟩) ⟨some ⟨H.size,0,none⟩,idxN l.length,1⟩ 8 lineV (rowsTo l 0) :=
  .inr ⟨H.size,by rw [qce l (qmT _)]; rfl,qlS _,by simp [qe],by rw [qm,if_pos rfl]⟩
 refine qI (t := ((⟨some ⟨H.size,0,none⟩,idxN l.length,1⟩,(0 : Int)) : Sl × Int)) (I := fun (t' : Sl × Int) H' => ∃ i : Nat,t'.2 = (i : Int) ∧ i ≤ l.length ∧ qa H H' ∧ Own H.size H' t'.1 8 lineV (rowsTo l i)) (m := fun (t' : Sl × Int) _ => qlQ ((l.length : Int) - t'.2)) ?_ ⟨0,rfl,by omega,(qa.refl H).push _,hO0⟩
 intro t' H1 hI it hit
 obtain ⟨s,t2⟩ := t'
 obtain ⟨i,e1,hi,hkk,hO⟩ := hI
 simp only at e1 hO
 subst e1
 have hsn : s.n = idxN l.length + i := by rw [own_nn hO,qce l hi]
 unfold qT.l3
 simp only [qi,decide_eq_true_eq,hr.1]
 by_cases hlt : (i : Int) < (l.length : Int)
 ·rw [if_pos hlt]
  have hi' : i < l.length := by omega
  obtain ⟨b,o,ha,hbz,hrow⟩ := (hr.keep hkk).at hi'
  refine ⟨by omega,?_⟩
  rw [ha,qd,qlP,ql hrow]
  have hcl := hok _ (ql1 hi')
  have hsucc := qiU hi'
  have hln : lnAt l i = l[i].1 := by unfold lnAt; rw [qlM,qlK hi']; rfl
  have hdt : (l.getD i (0,[])).2 = l[i].2 := by rw [qlM,qlK hi']; rfl
  rw [hln,hdt] at hsucc
  generalize l[i] = q at *
  refine new_put hcl rfl ?_
  intro hQ
  have hk2 : qa H (H1.push ⟨putV q,.rw,0⟩) := hkk.push _
  have hO2 : Own H.size (H1.push ⟨putV q,.rw,0⟩) s 8 lineV (rowsTo l i) := hO.keep (by simp [qe]) (fun b _ hb => qv (by omega))
  have s2 : H1.size < (H1.push ⟨putV q,.rw,0⟩).size := by simp [qe]
  have hsge : ∀ b' ,s.a = some ⟨b',0,none⟩ → b' ≠ H1.size := by
   intro b' hb'
   rcases hO with ⟨rfl,_⟩ | ⟨b2,rfl,_,h2,_⟩
   ·cases hb'
   ·simp at hb'; omega
  generalize H1.push ⟨putV q,.rw,0⟩ = H2 at *
  have hdiv : qlJ .i64 (Int.tdiv (i : Int) 8) = ((i / 8 : Nat) : Int) := by rw [show (8 : Int) = ((8 : Nat) : Int) from rfl,qgw]; exact qg (by omega) (by omega)
  have hmod : Int.tmod (i : Int) 8 = ((i % 8 : Nat) : Int) := by rw [show (8 : Int) = ((8 : Nat) : Int) from rfl,qeg]
  simp only [hdiv,hmod,hsn,hQ.c0,qf,qlP]
  have h8 : i / 8 < idxN l.length := by unfold idxN; omega
  refine ⟨by decide,by decide,by omega,?_⟩
  have hgi : (rowsTo l i)[i / 8]? = some (idxLine l i (i / 8)) := by
   unfold rowsTo
   rw [qmd (by simpa using h8),qlW,qmh h8]; rfl
  have hl8 := qdr l i (i / 8)
  obtain ⟨b',ha',hb1,hb2,hcan,hO',hsame⟩ := qhQ hO2 (qes hok i) hgi (j := i % 8) (by omega) (v := qlJ .u64 q.1) (isU_w _)
  rw [ha',qd]
  refine ⟨by omega,?_⟩
  rw [qk,qk,ql3,Nat.mul_one]
  refine stC_to hcan rfl ?_
  have hQ3 := hQ.keep (hsame H1.size (fun e => hsge b' ha' e.symm))
  rw [ql hQ3.row]
  refine ⟨qr hcl.line.1,?_⟩
  rw [qp]
  have hsm : setMany [qlI .u64 0,qlI .u64 0,qlI .u64 0,qlI .u64 0,qlI .u64 0,qlI .u64 0,qlI .u64 0,qlI .u64 0] 0 (lineV q.2) = lineV q.2 := by
   have h8 := hcl.line.1
   generalize q.2 = d at h8
   match d,h8 with
   | [a0,a1,a2,a3,a4,a5,a6,a7],_ => rfl
  rw [hsm]
  have hk3 : qa H (AH.put H2 ⟨b',i / 8 * 8 + i % 8,none⟩ [qlI .u64 (qlJ .u64 q.1)]) := hk2.put hb1 _
  refine qgJ (f := lineV) (fun r hr => qr (qfA hr (qes hok i) hgi (isU_w _)).1) (qr hcl.line.1) (qaD _) hO' (qlS _) hk3.1 hk3 (by rw [qmj,qce l hi]; simp only [lim]; omega) ?_
  intro s' H' hO3 hK'
  rw [qg (n := (i : Int) + 1) (by omega) (by omega)]
  rw [← hsucc] at hO3
  exact hit _ _ ⟨i + 1,by simp,by omega,hK',hO3⟩ (by simp only; omega)
 ·rw [if_neg hlt]
  have : i = l.length := by omega
  subst this
  have hrows : rowsTo l l.length = rowsN l := rfl
  rw [hrows] at hO
  have hRok : ∀ r ∈ rowsN l,isLine r := qes hok _
  have hRlen : (rowsN l).length = idxN l.length + l.length := qce l (qlS _)
  have hRr := qhH hO hRok
  have hG1 := h.keeps hkk
  have f1 : Frt H H1 t p c := Frt.of_keeps hkk
  have hsb : ∀ b,s.a.map (·.block) = some b → H.size ≤ b := by
   intro b hb
   rcases hO with ⟨rfl,_⟩ | ⟨b',rfl,h1,_⟩
   ·simp at hb
   ·simp at hb; subst hb; exact h1
  refine qI (t := (((0 : Int),(0 : Int)) : Int × Int)) (I := fun (t' : Int × Int) H' => ∃ i : Nat,∃ pt M',t'.2 = (i : Int) ∧ i ≤ (rowPuts l).length ∧ TAt H' t x p c n sp per pt M' ∧ Frt H1 H' t p c ∧ PSt n sp per M' pt (mvb + i) (n + 1 + sp) ∧ tputs n sp per (rowPuts l) M puts = tputs n sp per ((rowPuts l).drop i) M' pt) (m := fun (t' : Int × Int) _ => qlQ (((rowPuts l).length : Int) - t'.2)) ?_ ⟨0,puts,M,rfl,by omega,hG1.tn,Frt.refl,hp,rfl⟩
  intro t' H2 hI it2 hit2
  obtain ⟨v1,v2⟩ := t'
  obtain ⟨j,pt,M1,e1,hj,hT,f,hps,heq⟩ := hI
  simp only at e1
  subst e1
  have hG := h.step hT (f1.trans f)
  unfold qT.l2
  simp only [qi,decide_eq_true_eq,hRr.1]
  by_cases hlt2 : (j : Int) < ((rowsN l).length : Int)
  ·rw [if_pos hlt2]
   have hj' : j < (rowsN l).length := by omega
   obtain ⟨b,o,ha,hbz,hrow⟩ := hRr.at hj'
   have hbge := hsb b (by rw [ha]; rfl)
   have hrow1 : AH.row? H2 (qlL ⟨b,o,none⟩ (j * 8)) 8 = some (lineV (rowsN l)[j]) := by
    rw [← hrow,qk]
    simp only [AH.row?,f.get b hbz (by omega) (by omega) (by omega)]
   refine ⟨by omega,?_⟩
   rw [ha,qd,qlP,ql hrow1]
   have hcl := hRok _ (ql1 hj')
   have hgp : (rowPuts l)[j]'(by omega) = ((j : Int),(rowsN l)[j]) := by
    unfold rowPuts
    simp only [List.getElem_map,List.getElem_range]
    rw [qlM,qlK hj']; rfl
   rw [qnh (show j < (rowPuts l).length by omega),hgp] at heq
   generalize (rowsN l)[j] = d at *
   rw [zeroV]
   refine qgo hcl ?_
   have hG3 := hG.push ⟨lineV d,.rw,0⟩
   have f3 : Frt H1 (H2.push ⟨lineV d,.rw,0⟩) t p c := f.trans (Frt.of_keeps ((qa.refl H2).push _))
   simp only [qd,hG3.c1,qE]
   rw [ql (qfe hcl)]
   obtain ⟨k1,hlv1⟩ := hps.lv
   have hmv1 := hps.mv
   refine qgu.s hG3.tn hlv1 (by omega) hcl ?_
   intro H4 hT4 f4 _
   have hps3 := hps.tput h.tn.n1 (by omega) (line := (j : Int)) hcl
   have hdef : tputs n sp per (((j : Int),d) :: (rowPuts l).drop (j + 1)) M1 pt = if (tput n sp per M1 pt (j : Int) d).2.2 = 0 then tputs n sp per ((rowPuts l).drop (j + 1)) (tput n sp per M1 pt (j : Int) d).1 (tput n sp per M1 pt (j : Int) d).2.1 else tput n sp per M1 pt (j : Int) d := rfl
   rw [hdef] at heq
   by_cases he : (tput n sp per M1 pt (j : Int) d).2.2 = 0
   ·rw [if_pos he] at heq
    rw [if_neg (by simpa using he),qg (n := (j : Int) + 1) (by omega) (by omega)]
    exact hit2 _ _ ⟨j + 1,_,_,by simp,by omega,hT4,f3.trans f4,hps3.mono (by omega),heq⟩ (by simp only; omega)
   ·rw [if_neg he] at heq
    rw [if_pos (by simpa using he),heq,if_pos he]
    exact ⟨h.tn.at hT4 ((f1.trans f3).trans f4),rfl⟩
  ·rw [if_neg hlt2]
   have : j = (rowPuts l).length := by omega
   subst this
   rw [qm3] at heq
   have heq' : tputs n sp per (rowPuts l) M puts = (M1,pt,0) := heq
   rw [heq',if_neg (by simp)]
   unfold qT.j1
   simp only [qd,hG.c0,qE,hr.1]
   rw [qbE (n := (l.length : Int)) (by omega) (by omega)]
   refine qG.g hT.l.m (by unfold isU; omega) (Prod.eta _).symm ?_
   intro H3 hm3 f3
   have hs := hps.set1 (v := (l.length : Int)) (by unfold isU; omega)
   have hT3 : TAt H3 t x p c n sp per pt (M1.set 1 l.length).1 := hT.mem ⟨by rw [f3.get _ hT.l.xp hT.l.xc,hT.l.hx],by rw [f3.size]; exact hT.l.lx,hT.l.xp,hT.l.xc,hm3,hs.len,hT.l.n1,hT.l.sp16⟩ f3 (by have := hs.mv; omega)
   have f13 : Frt H H3 t p c := (f1.trans f).trans (Frt.of_frm f3)
   have hG3 := h.step hT3 f13
   by_cases he : (M1.set 1 (l.length : Int)).2 ≠ 0
   ·rw [show ((M1.set 1 (l.length : Int)).2 != 0) = true from by simpa using he,qj,if_pos he]
    exact ⟨h.tn.at hT3 f13,rfl⟩
   ·rw [show ((M1.set 1 (l.length : Int)).2 != 0) = false from by simpa using he,qc,if_neg he]
    have hr3 : ql5 H3 x1 9 putV l := by
     refine ⟨hr.1,fun i q hq => ?_⟩
     obtain ⟨a,e1,e2,e3,e4⟩ := hr.2 i q hq
     have hne := hx1 (by have := (List.getElem?_eq_some_iff.1 hq).1; omega) a.block (by rw [e1]; rfl)
     refine ⟨a,e1,e2,by have := f13.size; omega,?_⟩
     rw [← e4]
     simp only [AH.row?,f13.get a.block e3 hne.1 hne.2.1 hne.2.2]
    refine qgR.s hG3 hs (by omega) hr3 hok (by omega) hx1 ?_
    intro H5 hG5 f5 _
    exact ⟨h.tn.at hG5.tn (f13.trans f5),rfl⟩
end
section
variable {H : AH}
def h12 : List (Int × List Int) := [(16,[1,0,0,0,0,0,0,0]),(18,[2,0,0,0,0,0,0,0])]
def a12 : Mem × Nat × Int := comN 20 0 1 h12 (Mem.new 21 []) 0
end
section
variable {H H' : AH} {g t x p c n sp per puts : Nat} {M M' : Mem}
theorem GAt.mem (h : GAt H g t x p c n sp per puts M) (hm : qC H' p c M') (f : Frm H H' p c) (hl : M'.cs.length = M.cs.length) (hmv : M'.mv ≤ 4611686018427387904) : GAt H' g t x p c n sp per puts M' :=
 h.step (h.tn.mem ⟨by rw [f.get _ h.tn.l.xp h.tn.l.xc,h.tn.l.hx],by rw [f.size]; exact h.tn.l.lx,h.tn.l.xp,h.tn.l.xc,hm,hl.trans h.tn.l.len,h.tn.l.n1,h.tn.l.sp16⟩ f hmv) (Frt.of_frm f)
end
section
variable {H : AH}
theorem qiM {n : Int} : ¬ MayL n [] := fun h => by have := h.2.1; simp at this
end
section
variable {n sp per : Nat} {mvb len : Nat}
theorem getD_lt {l : List (Int × List Int)} {i : Nat} (hi : i < l.length) : l.getD i (0,[]) = l[i] := by rw [qlM,qlK hi]; rfl
theorem qdC {l : List (Int × List Int)} (h : MayL n l) : (l.map (·.1)).Nodup := by
 rw [List.nodup_iff_pairwise_ne,List.pairwise_iff_getElem]
 intro i j hi hj hij
 rw [qmt] at hi hj
 have := (h.2.2.2 j hj).2.2 i hij
 unfold lnAt at this
 rw [getD_lt hi,getD_lt hj] at this
 simpa using this
theorem qcT {l : List (Int × List Int)} (h : MayL n l) {q : Int × List Int} (hq : q ∈ l) : 16 ≤ q.1 ∧ q.1 < n := by
 obtain ⟨i,hi,rfl⟩ := List.getElem_of_mem hq
 have := h.2.2.2 i hi
 unfold lnAt at this
 rw [getD_lt hi] at this
 exact ⟨this.1,this.2.1⟩
theorem qdy (l : List (Int × List Int)) : ((rowPuts l).map (·.1)).Nodup := by
 unfold rowPuts
 rw [List.map_map,List.nodup_iff_pairwise_ne,List.pairwise_iff_getElem]
 intro i j hi hj hij
 simp only [qmt,List.length_range] at hi hj
 simp only [List.getElem_map,List.getElem_range,Function.comp]
 omega
theorem qeK {l : List (Int × List Int)} {q : Int × List Int} (hq : q ∈ rowPuts l) : ∃ i,i < (rowsN l).length ∧ q = ((i : Int),(rowsN l).getD i []) := by
 unfold rowPuts at hq
 rw [qml] at hq
 obtain ⟨i,hi,rfl⟩ := hq
 exact ⟨i,List.mem_range.1 hi,rfl⟩
theorem qjE {l : List (Int × List Int)} {i : Nat} (hi : i < (rowsN l).length) : ((i : Int),(rowsN l).getD i []) ∈ rowPuts l := by
 unfold rowPuts
 rw [qml]
 exact ⟨i,List.mem_range.2 hi,rfl⟩
theorem qka {l : List (Int × List Int)} {j : Nat} (hj : j < idxN l.length) : (rowsN l).getD j [] = idxLine l l.length j := by
 unfold rowsN rowsTo
 rw [qlM,qmd (by simpa using hj),qlW,qmh hj]; rfl
theorem qjH {l : List (Int × List Int)} {i : Nat} (hi : i < l.length) : (rowsN l).getD (idxN l.length + i) [] = (l.getD i (0,[])).2 := by
 unfold rowsN rowsTo
 rw [qlM,List.getElem?_append_right (by simp),qmt,List.length_range,Nat.add_sub_cancel_left,List.take_length,qlW,qlK hi,getD_lt hi]; rfl
theorem qfa {M : Mem} {l : List (Int × List Int)} (hm : MayL n l) (hn : n ≤ 1000) (hup : M.down = false) (hc : commits M = l.length) (hrow : ∀ i,i < (rowsN l).length → M.tview n sp i = (rowsN l).getD i []) : homesN n sp M = (l,0) := by
 have hl14 := hm.2.2.1
 have hlen : (rowsN l).length = idxN l.length + l.length := qce l (qlS _)
 unfold homesN
 rw [if_neg (by simp [hup]),hc,if_neg (by omega),qlP]
 refine Prod.ext ?_ rfl
 show (qmA l.length).map (homeAt n sp M l.length) = l
 apply qmc
 intro i
 by_cases hi : i < l.length
 ·rw [qlW,qmh hi,qlK hi,qmi]
  congr 1
  have h8 : i / 8 < idxN l.length := by unfold idxN; omega
  have e1 : M.tview n sp (i / 8) = idxLine l l.length (i / 8) := by rw [hrow _ (by omega),qka h8]
  have e2 : M.tview n sp (idxN l.length + i) = l[i].2 := by rw [hrow _ (by omega),qjH hi,getD_lt hi]
  have hr := qcT hm (ql1 hi)
  have hln : lnAt l i = l[i].1 := by unfold lnAt; rw [getD_lt hi]
  have e3 : (M.tview n sp (i / 8)).getD (i % 8) 0 = l[i].1 := by
   rw [e1]
   unfold idxLine
   rw [qlM,qlW,qmh (by omega),qmi,Option.getD_some,show 8 * (i / 8) + i % 8 = i by omega,if_pos hi,hln,qbE (by omega) (by omega)]
  unfold homeAt homeLine
  rw [e2,e3,if_pos hr.2]
 ·rw [qlR (by simp; omega),qlR (by omega)]
end
def upd (ws : List (List Int)) (l : List (Int × List Int)) : List (List Int) := l.foldl (fun w q => w.set (q.1 - 16).toNat q.2) ws
theorem upd_len {l : List (Int × List Int)} : ∀ {ws : List (List Int)},(upd ws l).length = ws.length := by
 induction l with
 | nil => intro ws; rfl
 | cons q r ih => intro ws; exact (ih (ws := ws.set (q.1 - 16).toNat q.2)).trans (by simp)
theorem qfo {l : List (Int × List Int)} {i : Nat} : ∀ {ws : List (List Int)},(∀ q ∈ l,16 ≤ q.1) → (∀ q ∈ l,q.1 ≠ ((16 + i : Nat) : Int)) → (upd ws l).getD i [] = ws.getD i [] := by
 induction l with
 | nil => intro ws _ _; rfl
 | cons q r ih =>
  intro ws h h1
  have hq := h q (by simp)
  have hq1 := h1 q (by simp)
  refine (ih (ws := ws.set (q.1 - 16).toNat q.2) (fun q' h' => h q' (by simp [h'])) fun q' h' => h1 q' (by simp [h'])).trans ?_
  rw [qlM,qlM,qmf (by omega)]
theorem upd_in {l : List (Int × List Int)} {i : Nat} {q : Int × List Int} : ∀ {ws : List (List Int)},(∀ q ∈ l,16 ≤ q.1) → (l.map (·.1)).Nodup → q ∈ l → q.1 = ((16 + i : Nat) : Int) → i < ws.length → (upd ws l).getD i [] = q.2 := by
 induction l with
 | nil => intro ws _ _ hq; cases hq
 | cons q' r ih =>
  intro ws h hnd hq e hi
  rw [qmv,List.nodup_cons] at hnd
  rw [List.mem_cons] at hq
  show (upd (ws.set (q'.1 - 16).toNat q'.2) r).getD i [] = q.2
  rcases hq with rfl | hq
  ·rw [qfo (fun q' h' => h q' (by simp [h'])) fun q' h' e' => hnd.1 (by rw [e,← e']; exact qna h')]
   rw [show (q.1 - 16).toNat = i by omega,qlM,qmy hi]; rfl
  ·exact ih (fun q' h' => h q' (by simp [h'])) hnd.2 hq e (by simpa using hi)
section
variable {n sp per : Nat} {mvb len : Nat}
theorem qkC {M : Mem} {s : Int} (hup : M.down = false) (hc : commits M = 0) (hs : 16 ≤ s ∧ s < n) : getN n sp M s = (M.tview n sp s.toNat,0) := by
 have hh : homesN n sp M = ([],0) := by unfold homesN; rw [if_neg (by simp [hup]),hc,if_neg (by omega)]; rfl
 unfold getN
 rw [if_pos hs,if_neg (by simp [hup]),hh,if_neg qiM]
theorem qkX {M : Mem} {s : Int} {l : List (Int × List Int)} (hup : M.down = false) (hh : homesN n sp M = (l,0)) (hm : MayL n l) (hs : 16 ≤ s ∧ s < n) :
  (∀ q ∈ l,q.1 = s → getN n sp M s = (q.2,0)) ∧ ((∀ q ∈ l,q.1 ≠ s) → getN n sp M s = (M.tview n sp s.toNat,0)) := by
 unfold getN
 rw [if_pos hs,if_neg (by simp [hup]),hh]
 simp only
 rw [if_pos hm]
 unfold findH
 refine ⟨fun q hq e => ?_,fun hne => ?_⟩
 ·cases hf : l.find? fun q => decide (q.1 = s) with
  | none =>
   rw [List.find?_eq_none] at hf
   exact absurd e (by simpa using hf q hq)
  | some q' =>
   have h1 := List.mem_of_find?_eq_some hf
   have h2 : q'.1 = s := by simpa using List.find?_some hf
   have : q' = q := by
    have hnd := qdC hm
    obtain ⟨i,hi,e1⟩ := List.getElem_of_mem h1
    obtain ⟨j,hj,e2⟩ := List.getElem_of_mem hq
    rw [List.nodup_iff_pairwise_ne,List.pairwise_iff_getElem] at hnd
    rcases Nat.lt_trichotomy i j with h | h | h
    ·exact (hnd i j (by simpa using hi) (by simpa using hj) h (by rw [List.getElem_map,List.getElem_map,e1,e2,e,h2])).elim
    ·subst h; rw [← e1,← e2]
    ·exact (hnd j i (by simpa using hj) (by simpa using hi) h (by rw [List.getElem_map,List.getElem_map,e1,e2,e,h2])).elim
   rw [this]
 ·have : (l.find? fun q => decide (q.1 = s)) = none := by
   rw [List.find?_eq_none]
   intro q hq; simpa using hne q hq
  rw [this]
end
section
variable {H0 H H' : AH} {g t x p c nn sp per puts puts' o mvb mvb' : Nat} {M M' : Mem} {ws ws' : List (List Int)}
theorem GAt.other (h : GAt H g t x p c nn sp per puts M) (ho : o ≠ g ∧ o ≠ t ∧ o ≠ p ∧ o ≠ c ∧ o ≠ x) (hg : ∀ b,b ≠ o → H'.get b = H.get b) (hs : H'.size = H.size) : GAt H' g t x p c nn sp per puts M := by
 have hl := h.tn.l
 obtain ⟨o1,o2,o3,o4,o5⟩ := ho
 refine ⟨by rw [hg g (Ne.symm o1),h.hg],by rw [hs]; exact h.lg,h.ne,?_,h.n16⟩
 exact ⟨by rw [hg t (Ne.symm o2)]; exact h.tn.ht,by rw [hs]; exact h.tn.lt,h.tn.tp,h.tn.tc,h.tn.tx,⟨by rw [hg x (Ne.symm o5),hl.hx],by rw [hs]; exact hl.lx,hl.xp,hl.xc,hl.m.keep (by rw [hs]; exact qlS _) (hg p (Ne.symm o3)) (hg c (Ne.symm o4)),hl.len,hl.n1,hl.sp16⟩,h.tn.n1,h.tn.per,h.tn.pl,h.tn.mv⟩
end
structure Pend (n sp : Nat) (M : Mem) (ws : List (List Int)) (l : List (Int × List Int)) : Prop where
 may : MayL n l
 ok : ∀ q ∈ l,qcm q
 cm : commits M = l.length
 rows : ∀ i,i < (rowsN l).length → M.tview n sp i = (rowsN l).getD i []
 now : ∀ q ∈ l,ws.getD (q.1 - 16).toNat [] = q.2
 old : ∀ s : Nat,16 ≤ s → s < n → (∀ q ∈ l,q.1 ≠ (s : Int)) → M.tview n sp s = ws.getD (s - 16) []
def Sd (n sp : Nat) (M : Mem) (ws : List (List Int)) : Prop :=
 (commits M = 0 ∧ ∀ s : Nat,16 ≤ s → s < n → M.tview n sp s = ws.getD (s - 16) []) ∨ ∃ l,Pend n sp M ws l
section
variable {n sp per : Nat} {M M' : Mem} {ws : List (List Int)} {mvb len pt : Nat}
theorem Pend.congr {l : List (Int × List Int)} (h : Pend n sp M ws l) (hn : 16 < n) (hc : commits M' = commits M) (hv : ∀ s,s < n → (s < 16 ∨ ∀ q ∈ l,q.1 ≠ (s : Int)) → M'.tview n sp s = M.tview n sp s) : Pend n sp M' ws l := by
 have hl14 := h.may.2.2.1
 have hl1 := h.may.2.1
 have hidx : idxN l.length ≤ 2 := by unfold idxN; omega
 have hlen : (rowsN l).length = idxN l.length + l.length := qce l (qlS _)
 exact ⟨h.may,h.ok,hc.trans h.cm,fun i hi => by rw [hv i (by omega) (.inl (by omega))]; exact h.rows i hi,h.now,fun s h1 h2 h3 => by rw [hv s h2 (.inr h3)]; exact h.old s h1 h2 h3⟩
theorem Sd.congr (h : Sd n sp M ws) (hn : 16 < n) (hc : commits M' = commits M) (hv : ∀ s,s < n → M'.tview n sp s = M.tview n sp s) : Sd n sp M' ws := by
 rcases h with ⟨h1,h2⟩ | ⟨l,h⟩
 ·exact .inl ⟨hc.trans h1,fun s a b => by rw [hv s b]; exact h2 s a b⟩
 ·exact .inr ⟨l,h.congr hn hc fun s hs _ => hv s hs⟩
theorem qcU (hn : 1 ≤ n) : ∀ {L : List (Int × List Int)} {M : Mem} {pt mvb : Nat},PSt n sp per M pt mvb len → M.down = false → mvb + L.length < 4611686018427387904 → (∀ q ∈ L,0 ≤ q.1 ∧ q.1 < n ∧ isLine q.2) → (L.map (·.1)).Nodup →
    (((tputs n sp per L M pt).2.2 = 0 ∧ (tputs n sp per L M pt).1.down = false ∧ ∀ q ∈ L,(tputs n sp per L M pt).1.tview n sp q.1.toNat = q.2) ∨
     ((tputs n sp per L M pt).2.2 = 3 ∧ (tputs n sp per L M pt).1.down = false) ∨ ((tputs n sp per L M pt).2.2 = 2 ∧ (tputs n sp per L M pt).1.down = true ∧ M.cut ≠ -1)) ∧
    (M.cut = -1 → (tputs n sp per L M pt).1.cut = -1) ∧
    (∀ s : Nat,s < n → (∀ q ∈ L,q.1 ≠ (s : Int)) → (tputs n sp per L M pt).1.tview n sp s = M.tview n sp s) ∧
    (∀ r,(r = 1 ∨ r = 2) → (tputs n sp per L M pt).1.regs.getD r 0 = M.regs.getD r 0) := by
  intro L
  induction L with
  | nil =>
    intro M pt mvb h hup _ _ _
    exact ⟨.inl ⟨rfl,hup,fun q hq => (by cases hq)⟩,fun h => h,fun s _ _ => rfl,fun r _ => rfl⟩
  | cons q r ih =>
    intro M pt mvb h hup hb hL hnd
    simp only [List.length_cons] at hb ⊢
    rw [qmv,List.nodup_cons] at hnd
    obtain ⟨hq0,hqn,hql⟩ := hL q (by simp)
    obtain ⟨k,hlv⟩ := h.lv
    have hmv := h.mv
    obtain ⟨ln,hln⟩ := qma hq0
    obtain ⟨hP,_⟩ := qem (line := ln) (period := per) (puts := pt) (d := q.2) hlv hn h.ok (by omega) hup (by omega) hql.1
    have hps := h.tput hn (by omega) (line := q.1) hql
    have hdef : tputs n sp per (q :: r) M pt = if (tput n sp per M pt q.1 q.2).2.2 = 0 then tputs n sp per r (tput n sp per M pt q.1 q.2).1 (tput n sp per M pt q.1 q.2).2.1 else tput n sp per M pt q.1 q.2 := rfl
    rw [hdef]
    rw [← hln] at hP
    generalize tput n sp per M pt q.1 q.2 = R at *
    have hcut := hP.cut
    have hother := hP.other
    have hregs := hP.regs
    have hoth : ∀ q' ∈ r,q'.1 ≠ q.1 := fun q' hq' e => hnd.1 (by rw [← e]; exact qna hq')
    rcases hP.res with ⟨e,hup',hv⟩ | ⟨e,hup',hv⟩ | ⟨e,hdn,hc,_⟩
    · rw [if_pos e]
      obtain ⟨i1,i2,i3,i4⟩ := ih hps hup' (by omega) (fun q' hq' => hL q' (by simp [hq'])) hnd.2
      have hqv : (tputs n sp per r R.1 R.2.1).1.tview n sp q.1.toNat = q.2 := by
        rw [hln,qlP,i3 ln (by omega) (fun q' hq' e' => hoth q' hq' (by rw [e',hln]))]
        exact hv ln rfl
      refine ⟨?_,fun hc => i2 (hcut hc),fun s hs hne => ?_,fun rr hrr => ?_⟩
      · rcases i1 with ⟨a,b,c⟩ | a | ⟨a,b,c⟩
        · refine .inl ⟨a,b,fun q' hq' => ?_⟩
          rw [List.mem_cons] at hq'
          rcases hq' with rfl | hq'
          · exact hqv
          · exact c q' hq'
        · exact .inr (.inl a)
        · exact .inr (.inr ⟨a,b,fun hc => c (hcut hc)⟩)
      · rw [i3 s hs (fun q' hq' => hne q' (by simp [hq'])),hother s hs (by
          have := hne q (by simp)
          rw [hln] at this
          simp; omega)]
      · rw [i4 rr hrr,hregs rr (by omega)]
    · rw [if_neg (by omega)]
      refine ⟨.inr (.inl ⟨e,hup'⟩),hcut,fun s hs hne => hother s hs (by
          have := hne q (by simp)
          rw [hln] at this
          simp; omega),fun rr hrr => hregs rr (by omega)⟩
    · rw [if_neg (by omega)]
      refine ⟨.inr (.inr ⟨e,hdn,hc⟩),hcut,fun s hs hne => hother s hs (by
          have := hne q (by simp)
          rw [hln] at this
          simp; omega),fun rr hrr => hregs rr (by omega)⟩
theorem qd2 {v : Int} (s : Nat) : (M.set 1 v).1.tview n sp s = M.tview n sp s := by
 unfold Mem.tview Mem.view
 rw [Mem.set1_mv,qdc (M' := (M.set 1 v).1) (M := M) fun j _ => by rw [Mem.set1_whose]]
 have : ∀ i,(M.set 1 v).1.cl i = M.cl i := fun i => by
  unfold Mem.set
  rw [if_pos (show regIn 1 by unfold regIn; omega)]
  split
  ·rfl
  ·simp only
   split
   ·exact Mem.wr_cl
   ·exact Mem.wr_cl
 rw [this]
theorem qdB {v : Int} (h : PSt n sp per M pt mvb len) (hup : M.down = false) :
  (((M.set 1 v).2 = 0 ∧ (M.set 1 v).1.down = false ∧ commits (M.set 1 v).1 = v) ∨ ((M.set 1 v).2 = 2 ∧ (M.set 1 v).1.down = true ∧ M.cut ≠ -1 ∧ (commits (M.set 1 v).1 = commits M ∨ commits (M.set 1 v).1 = v))) ∧
  (M.cut = -1 → (M.set 1 v).1.cut = -1) := by
 have hS := Mem.set_any (M := M) (i := 1) (v := v) hup (by omega) h.ok.cut.1
 have hrl := h.ok.regs
 have e1 : (1 : Int) = ((1 : Nat) : Int) := rfl
 rw [e1]
 generalize M.set ((1 : Nat) : Int) v = R at *
 have hset : R.1.regs = M.regs.set 1 v → commits R.1 = v := fun h => by
  unfold commits
  rw [h,qlM,qmy (by omega)]; rfl
 refine ⟨?_,hS.cut⟩
 rcases hS.res with ⟨a,b,c⟩ | ⟨a,b,c,d⟩
 ·exact .inl ⟨a,b,hset c⟩
 ·refine .inr ⟨a,b,c,?_⟩
  rcases d with d | d
  ·left; unfold commits; rw [d]
  ·right; exact hset d
theorem fin_any {l : List (Int × List Int)} (h : PSt n sp per M pt mvb len) (hn : 16 < n) (hup : M.down = false) (hb : mvb + 100 < 4611686018427387904) (hp : Pend n sp M ws l) :
  Sd n sp (finN n sp per l M pt).1 ws ∧ (((finN n sp per l M pt).2.2 = 0 ∧ (finN n sp per l M pt).1.down = false) ∨ ((finN n sp per l M pt).2.2 = 2 ∧ (finN n sp per l M pt).1.down = true ∧ M.cut ≠ -1)) ∧ (M.cut = -1 → (finN n sp per l M pt).1.cut = -1) := by
 have hl14 := hp.may.2.2.1
 obtain ⟨t1,t2,t3,t4⟩ := qcU (by omega) h hup (by omega) (fun q hq => by have := qcT hp.may hq; exact ⟨by omega,this.2,(hp.ok q hq).line⟩) (qdC hp.may)
 have hps := h.puts (by omega) (l := l) (by omega) hp.ok
 have hpend : Pend n sp (tputs n sp per l M pt).1 ws l := hp.congr hn (by unfold commits; rw [t4 1 (.inl rfl)]) fun s hs hor => t3 s hs fun q hq => by
  rcases hor with h | h
  ·have := qcT hp.may hq; omega
  ·exact h q hq
 unfold finN
 simp only
 generalize tputs n sp per l M pt = R at *
 rcases t1 with ⟨a,b,c⟩ | ⟨a,b⟩ | ⟨a,b,c⟩
 ·rw [if_pos a]
  obtain ⟨s1,s2⟩ := qdB (v := 0) hps b
  have hclean : commits (R.1.set 1 0).1 = 0 → Sd n sp (R.1.set 1 0).1 ws := fun hc => .inl ⟨hc,fun s h1 h2 => by
   rw [qd2]
   by_cases hq : ∃ q ∈ l,q.1 = (s : Int)
   ·obtain ⟨q,hq,e⟩ := hq
    have := c q hq
    have h0 := hp.now q hq
    rw [e] at this h0
    rw [show s = (s : Int).toNat by omega,this,← h0]; congr 1; omega
   ·exact hpend.old s h1 h2 fun q h e => hq ⟨q,h,e⟩⟩
  rcases s1 with ⟨a',b',c'⟩ | ⟨a',b',c',d'⟩
  ·exact ⟨hclean c',.inl ⟨a',b'⟩,fun hc => s2 (t2 hc)⟩
  ·refine ⟨?_,.inr ⟨a',b',fun hc => c' (t2 hc)⟩,fun hc => s2 (t2 hc)⟩
   rcases d' with d' | d'
   ·exact .inr ⟨l,hpend.congr hn d' fun s _ _ => qd2 s⟩
   ·exact hclean d'
 ·rw [if_neg (by omega),if_pos a]
  exact ⟨.inr ⟨l,hpend⟩,.inl ⟨rfl,b⟩,t2⟩
 ·rw [if_neg (by omega),if_neg (by omega)]
  exact ⟨.inr ⟨l,hpend⟩,.inr ⟨a,b,c⟩,t2⟩
theorem rec_any (h : PSt n sp per M pt mvb len) (hn : 16 < n ∧ n ≤ 1000) (hup : M.down = false) (hb : mvb + 100 < 4611686018427387904) (hs : Sd n sp M ws) :
  Sd n sp (recN n sp per M pt).1 ws ∧ (((recN n sp per M pt).2.2 = 0 ∧ (recN n sp per M pt).1.down = false) ∨ ((recN n sp per M pt).2.2 = 2 ∧ (recN n sp per M pt).1.down = true ∧ M.cut ≠ -1)) ∧ (M.cut = -1 → (recN n sp per M pt).1.cut = -1) := by
 have hs0 := hs
 rcases hs with ⟨h1,h2⟩ | ⟨l,hp⟩
 ·have hh : homesN n sp M = ([],0) := by unfold homesN; rw [if_neg (by simp [hup]),h1,if_neg (by omega)]; rfl
  have e : recN n sp per M pt = (M,pt,0) := by
   unfold recN
   rw [hh,if_neg (by simp),if_pos (by rfl)]
  rw [e]
  exact ⟨hs0,.inl ⟨rfl,hup⟩,fun h => h⟩
 ·have hl1 := hp.may.2.1
  have hh := qfa hp.may hn.2 hup hp.cm hp.rows
  have e : recN n sp per M pt = finN n sp per l M pt := by
   unfold recN
   rw [hh]
   simp only
   rw [if_neg (by simp),if_neg (by omega),if_neg (fun hx => hx hp.may)]
  rw [e]
  exact fin_any h hn.1 hup hb hp
theorem com_any {l : List (Int × List Int)} (h : PSt n sp per M pt mvb len) (hn : 16 < n ∧ n ≤ 1000) (hup : M.down = false) (hb : mvb + 1000 < 4611686018427387904) (hok : ∀ q ∈ l,qcm q) (hl : ws.length = n - 16) (hs : Sd n sp M ws) :
    ((Sd n sp (comN n sp per l M pt).1 ws ∧ (((comN n sp per l M pt).2.2 ≠ 0 ∧ (comN n sp per l M pt).2.2 ≠ 2 ∧ (comN n sp per l M pt).1.down = false) ∨ ((comN n sp per l M pt).2.2 = 2 ∧ (comN n sp per l M pt).1.down = true ∧ M.cut ≠ -1))) ∨
     (MayL n l ∧ commits M = 0 ∧ Sd n sp (comN n sp per l M pt).1 (upd ws l) ∧ (((comN n sp per l M pt).2.2 = 0 ∧ (comN n sp per l M pt).1.down = false) ∨ ((comN n sp per l M pt).2.2 = 2 ∧ (comN n sp per l M pt).1.down = true ∧ M.cut ≠ -1)))) ∧
    (M.cut = -1 → (comN n sp per l M pt).1.cut = -1) := by
  by_cases hm : MayL n l
  rotate_left 1
  · have e : comN n sp per l M pt = (M,pt,1) := by unfold comN; rw [if_pos hm]
    rw [e]
    exact ⟨.inl ⟨hs,.inl ⟨by simp,by simp,hup⟩⟩,fun h => h⟩
  by_cases hc : commits M = 0
  rotate_left 1
  · have e : comN n sp per l M pt = (M,pt,5) := by unfold comN; rw [if_neg (fun hh => hh hm),if_neg (by simp [hup]),if_pos hc]
    rw [e]
    exact ⟨.inl ⟨hs,.inl ⟨by simp,by simp,hup⟩⟩,fun h => h⟩
  have hold : ∀ s : Nat,16 ≤ s → s < n → M.tview n sp s = ws.getD (s - 16) [] := by
    rcases hs with ⟨_,h2⟩ | ⟨l',hp⟩
    · exact h2
    · have := hp.may.2.1; have := hp.cm; omega
  have hl14 := hm.2.2.1
  have hl1 := hm.2.1
  have hidx : idxN l.length ≤ 2 := by unfold idxN; omega
  have hlen : (rowsN l).length = idxN l.length + l.length := qce l (qlS _)
  have hrl := qdt l
  have hro := qdH hok (by omega)
  have hrm : ∀ q ∈ rowPuts l,0 ≤ q.1 ∧ q.1 < 16 ∧ isLine q.2 := by
    intro q hq
    have h2 := (hro q hq).line
    obtain ⟨i,hi,rfl⟩ := qeK hq
    exact ⟨by simp only; omega,by simp only; omega,h2⟩
  obtain ⟨r1,r2,r3,r4⟩ := qcU (by omega) h hup (by omega) (fun q hq => by have := hrm q hq; exact ⟨this.1,by omega,this.2.2⟩) (qdy l)
  have hps := h.puts (by omega) (l := rowPuts l) (by omega) hro
  unfold comN
  rw [if_neg (fun hh => hh hm),if_neg (by simp [hup]),if_neg (by simp [hc])]
  have hhigh : ∀ s : Nat,16 ≤ s → s < n → (tputs n sp per (rowPuts l) M pt).1.tview n sp s = M.tview n sp s := fun s h1 h2 => r3 s h2 fun q hq => by have := hrm q hq; omega
  have hcR : commits (tputs n sp per (rowPuts l) M pt).1 = 0 := by
    have := r4 1 (.inl rfl)
    unfold commits at hc ⊢
    omega
  generalize tputs n sp per (rowPuts l) M pt = R at *
  have hsame : Sd n sp R.1 ws := .inl ⟨hcR,fun s h1 h2 => by rw [hhigh s h1 h2]; exact hold s h1 h2⟩
  rcases r1 with ⟨a,b,c⟩ | ⟨a,b⟩ | ⟨a,b,c⟩
  · rw [if_neg (by omega)]
    obtain ⟨s1,s2⟩ := qdB (v := (l.length : Int)) hps b
    have hps2 := hps.set1 (v := (l.length : Int)) (by unfold isU; omega)
    have hrow2 : ∀ i,i < (rowsN l).length → (R.1.set 1 (l.length : Int)).1.tview n sp i = (rowsN l).getD i [] := by
      intro i hi
      rw [qd2]
      have := c _ (qjE hi)
      simpa using this
    have hpend : commits (R.1.set 1 (l.length : Int)).1 = l.length → Pend n sp (R.1.set 1 (l.length : Int)).1 (upd ws l) l := fun hcm => by
      refine ⟨hm,hok,hcm,hrow2,fun q hq => ?_,fun s h1 h2 h3 => ?_⟩
      · have hr := qcT hm hq
        exact upd_in (i := (q.1 - 16).toNat) (fun q h => (qcT hm h).1) (qdC hm) hq (by omega) (by omega)
      · rw [qd2,hhigh s h1 h2,hold s h1 h2]
        exact (qfo (i := s - 16) (fun q h => (qcT hm h).1) (fun q h e => h3 q h (by omega))).symm
    rcases s1 with ⟨a',b',c'⟩ | ⟨a',b',c',d'⟩
    · rw [if_neg (by omega)]
      obtain ⟨f1,f2,f3⟩ := fin_any hps2 hn.1 b' (by omega) (hpend c')
      refine ⟨.inr ⟨hm,hc,f1,?_⟩,fun hc => f3 (s2 (r2 hc))⟩
      rcases f2 with f2 | ⟨f,g,i⟩
      · exact .inl f2
      · exact .inr ⟨f,g,fun hc => i (s2 (r2 hc))⟩
    · rw [if_pos (by omega)]
      refine ⟨?_,fun hc => s2 (r2 hc)⟩
      rcases d' with d' | d'
      · exact .inl ⟨hsame.congr hn.1 d' fun s _ => qd2 s,.inr ⟨a',b',fun hc => c' (r2 hc)⟩⟩
      · exact .inr ⟨hm,hc,.inr ⟨l,hpend d'⟩,.inr ⟨a',b',fun hc => c' (r2 hc)⟩⟩
  · rw [if_pos (by omega)]
    exact ⟨.inl ⟨hsame,.inl ⟨by omega,by omega,b⟩⟩,r2⟩
  · rw [if_pos (by omega)]
    exact ⟨.inl ⟨hsame,.inr ⟨a,b,c⟩⟩,r2⟩
theorem sd_get {nn : Nat} (hnn : n = 16 + nn) (hn : n ≤ 1000) (hup : M.down = false) (hs : Sd n sp M ws) {i : Nat} (hi : i < nn) : getN n sp M ((16 + i : Nat) : Int) = (ws.getD i [],0) := by
 rcases hs with ⟨h1,h2⟩ | ⟨l,hp⟩
 ·rw [qkC hup h1 (by omega),qlP,h2 _ (by omega) (by omega),show 16 + i - 16 = i by omega]
 ·have hh := qfa hp.may hn hup hp.cm hp.rows
  obtain ⟨g1,g2⟩ := qkX (s := ((16 + i : Nat) : Int)) hup hh hp.may (by omega)
  by_cases hq : ∃ q ∈ l,q.1 = ((16 + i : Nat) : Int)
  ·obtain ⟨q,hq,e⟩ := hq
   rw [g1 q hq e,← hp.now q hq,e,show (((16 + i : Nat) : Int) - 16).toNat = i by omega]
  ·have hne : ∀ q ∈ l,q.1 ≠ ((16 + i : Nat) : Int) := fun q h e => hq ⟨q,h,e⟩
   rw [g2 hne,qlP,hp.old _ (by omega) (by omega) hne,show 16 + i - 16 = i by omega]
theorem Sd.power (h : Sd n sp M ws) (hn : 16 < n) : Sd n sp M.power ws := h.congr hn rfl fun s _ => qjL _ _ _ _
theorem Sd.setCut (h : Sd n sp M ws) (hn : 16 < n) (a b : Int) : Sd n sp (M.setCut a b) ws := h.congr hn rfl fun s _ => qjd _ _ _ _ _ _
end
def NL (M : Mem) : Prop := ∀ c ∈ M.cs,c.limit < 0
section
variable {n sp per : Nat} {M M' : Mem} {mvb len pt : Nat}
theorem NL.cs (h : NL M) (e : M'.cs = M.cs) : NL M' := by unfold NL; rw [e]; exact h
theorem NL.cl (h : NL M) {i : Nat} (hi : i < M.cs.length) : (M.cl i).limit < 0 := by
 refine h _ ?_
 unfold Mem.cl
 rw [qlM,qlK hi]
 exact ql1 hi
theorem NL.put (h : NL M) {i : Int} {d : List Int} : (M.put i d).2 ≠ 3 ∧ NL (M.put i d).1 := by
 unfold Mem.put
 by_cases hi : M.has i
 rotate_left 1
 ·rw [if_neg hi]; exact ⟨by simp,h⟩
 rw [if_pos hi]
 by_cases hd : M.down = true
 ·rw [if_pos hd]; exact ⟨by simp,h⟩
 rw [if_neg hd]
 have hl := h.cl (i := i.toNat) (by have := hi.1; have := hi.2; omega)
 have hw : (M.cl i.toNat).worn = false := by
  unfold Cl.worn
  rw [decide_eq_false (by omega)]; rfl
 simp only [hw]
 rw [if_neg (by simp)]
 refine ⟨?_,?_⟩
 ·unfold Mem.told
  split
  ·simp
  ·simp
 ·intro c hc
  simp only [Mem.setc] at hc
  rcases qmX hc with hc | rfl
  ·rw [Mem.wr_cs] at hc; exact h c hc
  ·exact hl
theorem qkO (X : Mem) : X.told false ≠ 3 := by unfold Mem.told; split <;> simp
theorem NL.set (h : NL M) {i v : Int} : (M.set i v).2 ≠ 3 ∧ NL (M.set i v).1 := by
 unfold Mem.set
 split
 ·split
  ·exact ⟨by simp,h⟩
  ·refine ⟨qkO _,?_⟩
   ·refine h.cs ?_
    simp only
    split
    ·exact Mem.wr_cs
    ·exact Mem.wr_cs
 ·exact ⟨by simp,h⟩
theorem NL.lput (h : NL M) {m : Nat} {s : Int} {d : List Int} : (lput m sp M s d).2 ≠ 3 ∧ NL (lput m sp M s d).1 := by
 unfold Go.Proofs.YtdcbkjgoaknmkaaGreat.lput
 split
 ·split
  ·exact ⟨by simp,h⟩
  ·have := h.put (i := ((M.place m s.toNat sp : Nat) : Int)) (d := d)
   simp only
   rw [if_neg this.1]
   exact this
 ·exact ⟨by simp,h⟩
theorem NL.tmove (h : NL M) : (tmove n sp M).2 ≠ 3 ∧ NL (tmove n sp M).1 := by
 unfold Go.Proofs.YtdcbkjgoaknmkaaGreat.tmove
 have h1 := h.lput (m := n + 1) (sp := sp) (s := (gapN n M.mv : Nat)) (d := M.view (n + 1) sp (fromN n M.mv))
 simp only
 split
 ·exact h1.2.set
 ·exact h1
theorem NL.tput (h : NL M) {l : Int} {d : List Int} : (tput n sp per M pt l d).2.2 ≠ 3 ∧ NL (tput n sp per M pt l d).1 := by
 unfold Go.Proofs.YtdcbkjgoaknmkaaGreat.tput
 split
 ·split
  ·exact ⟨by simp,h⟩
  ·split
   ·have h1 := h.tmove (n := n) (sp := sp)
    simp only
    split
    ·exact h1.2.lput
    ·exact h1
   ·exact h.lput
 ·exact ⟨by simp,h⟩
theorem NL.tputs : ∀ {L : List (Int × List Int)} {M : Mem} {pt : Nat},NL M → (tputs n sp per L M pt).2.2 ≠ 3 ∧ NL (tputs n sp per L M pt).1 := by
 intro L
 induction L with
 | nil => intro M pt h; exact ⟨by simp [Go.Proofs.YtdcbkjgoaknmkaaGreat.tputs],h⟩
 | cons q r ih =>
  intro M pt h
  have h1 := h.tput (n := n) (sp := sp) (per := per) (pt := pt) (l := q.1) (d := q.2)
  unfold Go.Proofs.YtdcbkjgoaknmkaaGreat.tputs
  split
  ·exact ih h1.2
  ·exact h1
theorem NL.fin (h : NL M) {l : List (Int × List Int)} : NL (finN n sp per l M pt).1 := by
 have h1 := h.tputs (n := n) (sp := sp) (per := per) (L := l) (pt := pt)
 unfold finN
 simp only
 split
 ·exact h1.2.set.2
 ·split
  ·exact h1.2
  ·exact h1.2
theorem NL.com (h : NL M) {l : List (Int × List Int)} : (comN n sp per l M pt).2.2 ≠ 3 ∧ NL (comN n sp per l M pt).1 := by
 have h1 := h.tputs (n := n) (sp := sp) (per := per) (L := rowPuts l) (pt := pt)
 unfold comN
 split
 ·exact ⟨by simp,h⟩
 split
 ·exact ⟨by simp,h⟩
 split
 ·exact ⟨by simp,h⟩
 split
 ·exact h1
 have h2 := h1.2.set (i := 1) (v := (l.length : Int))
 split
 ·exact h2
 refine ⟨?_,h2.2.fin⟩
 have h3 := h2.2.tputs (n := n) (sp := sp) (per := per) (L := l) (pt := (Go.Proofs.YtdcbkjgoaknmkaaGreat.tputs n sp per (rowPuts l) M pt).2.1)
 unfold finN
 simp only
 split
 ·exact h3.2.set.1
 ·split
  ·simp
  ·exact h3.1
theorem NL.new {m : Nat} : NL (Mem.new m []) := by
 intro c hc
 simp only [Mem.new,qml] at hc
 obtain ⟨i,_,rfl⟩ := hc
 simp
theorem com_nl {l : List (Int × List Int)} (h : PSt n sp per M pt mvb len) (hnl : NL M) (hn : 16 < n ∧ n ≤ 1000) (hup : M.down = false) (hcut : M.cut = -1) (hb : mvb + 1000 < 4611686018427387904) (hok : ∀ q ∈ l,qcm q) (hm : MayL n l) (hc : commits M = 0) :
  (comN n sp per l M pt).2.2 = 0 ∧ commits (comN n sp per l M pt).1 = 0 := by
 have hl14 := hm.2.2.1
 have hl1 := hm.2.1
 have hidx : idxN l.length ≤ 2 := by unfold idxN; omega
 have hlen : (rowsN l).length = idxN l.length + l.length := qce l (qlS _)
 have hrl := qdt l
 have hro := qdH hok (by omega)
 have hrm : ∀ q ∈ rowPuts l,0 ≤ q.1 ∧ q.1 < n ∧ isLine q.2 := by
  intro q hq
  have h2 := (hro q hq).line
  obtain ⟨i,hi,rfl⟩ := qeK hq
  exact ⟨by simp only; omega,by simp only; omega,h2⟩
 have hnl1 := hnl.tputs (n := n) (sp := sp) (per := per) (L := rowPuts l) (pt := pt)
 obtain ⟨r1,r2,r3,r4⟩ := qcU (by omega) h hup (by omega) hrm (qdy l)
 have hps := h.puts (by omega) (l := rowPuts l) (by omega) hro
 unfold comN
 rw [if_neg (fun hh => hh hm),if_neg (by simp [hup]),if_neg (by simp [hc])]
 generalize tputs n sp per (rowPuts l) M pt = R at *
 have hcR := r2 hcut
 rcases r1 with ⟨a,b,c⟩ | ⟨a,b⟩ | ⟨a,b,c⟩
 rotate_left 1
 ·exact absurd a hnl1.1
 ·exact absurd hcut c
 rw [if_neg (by omega)]
 obtain ⟨s1,s2⟩ := qdB (v := (l.length : Int)) hps b
 have hps2 := hps.set1 (v := (l.length : Int)) (by unfold isU; omega)
 have hnl2 := hnl1.2.set (i := 1) (v := (l.length : Int))
 rcases s1 with ⟨a',b',c'⟩ | ⟨a',b',c',d'⟩
 rotate_left 1
 ·exact absurd hcR c'
 rw [if_neg (by omega)]
 have hc2 := s2 hcR
 generalize (R.1.set 1 (l.length : Int)).1 = M2 at *
 have hnl3 := hnl2.2.tputs (n := n) (sp := sp) (per := per) (L := l) (pt := R.2.1)
 obtain ⟨t1,t2,t3,t4⟩ := qcU (by omega) hps2 b' (by omega) (fun q hq => by have := qcT hm hq; exact ⟨by omega,this.2,(hok q hq).line⟩) (qdC hm)
 have hps3 := hps2.puts (by omega) (l := l) (by omega) hok
 unfold finN
 simp only
 generalize tputs n sp per l M2 R.2.1 = P at *
 have hcP := t2 hc2
 rcases t1 with ⟨a3,b3,c3⟩ | ⟨a3,b3⟩ | ⟨a3,b3,c3⟩
 rotate_left 1
 ·exact absurd a3 hnl3.1
 ·exact absurd hc2 c3
 rw [if_pos a3]
 obtain ⟨u1,u2⟩ := qdB (v := 0) hps3 b3
 rcases u1 with ⟨x,y,z⟩ | ⟨x,y,z,_⟩
 ·exact ⟨x,z⟩
 ·exact absurd hcP z
end
def hobj (p t g ct : Nat) (pa pb pc pd : Int) (worn : Bool) : AObj :=
 ⟨[.pointer (some ⟨p,0,none⟩),.int .i64 pa,.int .i64 pb,.int .i64 pc,.int .i64 pd,.pointer (some ⟨t,0,none⟩),.pointer (some ⟨g,0,none⟩),.pointer (some ⟨ct,0,none⟩),.bool worn],.rw,0⟩
def cobj (q1 q2 n1 n2 : Nat) (pd : Int) : AObj := ⟨[.int .i64 pd,.slice (some ⟨q1,0,none⟩) n1 1,.slice (some ⟨q2,0,none⟩) n2 1],.rw,0⟩
def iobj (l : List Int) : AObj := ⟨l.flatMap iV,.rw,1⟩
structure CAt (H : AH) (ct q1 q2 : Nat) (pd : Int) (now kept : List Int) : Prop where
 hct : H.get ct = cobj q1 q2 now.length kept.length pd
 h1 : H.get q1 = iobj now
 h2 : H.get q2 = iobj kept
 len : kept.length = now.length
 l16 : now.length ≤ 16
 lc : ct < H.size
 l1 : q1 < H.size
 l2 : q2 < H.size
 ne : ct ≠ q1 ∧ ct ≠ q2 ∧ q1 ≠ q2
 ok : ∀ i,i < now.length → 0 ≤ kept.getD i 0 ∧ kept.getD i 0 ≤ now.getD i 0 ∧ now.getD i 0 ≤ 4611686018427387904
structure Pl where
 (h g t x p c ct q1 q2 : Nat)
structure HAt (H : AH) (L : Pl) (pa pb pc pd : Int) (puts : Nat) (M : Mem) (now kept : List Int) (worn : Bool) : Prop where
 hh : H.get L.h = hobj L.p L.t L.g L.ct pa pb pc pd worn
 lh : L.h < H.size
 may : mayP pa pb pc pd = true
 ga : GAt H L.g L.t L.x L.p L.c (16 + pa.toNat) pb.toNat pc.toNat puts M
 ca : CAt H L.ct L.q1 L.q2 pd now kept
 ne : L.h ≠ L.g ∧ L.h ≠ L.t ∧ L.h ≠ L.x ∧ L.h ≠ L.p ∧ L.h ≠ L.c ∧ L.h ≠ L.ct ∧ L.h ≠ L.q1 ∧ L.h ≠ L.q2
 nc : ∀ b,b = L.ct ∨ b = L.q1 ∨ b = L.q2 → b ≠ L.g ∧ b ≠ L.t ∧ b ≠ L.x ∧ b ≠ L.p ∧ b ≠ L.c
 pages : (now.length : Int) = pagesP pa pb pc pd
section
variable {H H' : AH} {L : Pl} {pa pb pc pd : Int} {puts : Nat} {M : Mem} {now kept : List Int} {worn : Bool}
theorem CAt.keeps {ct q1 q2 : Nat} (h : CAt H ct q1 q2 pd now kept) (hk : qa H H') : CAt H' ct q1 q2 pd now kept :=
 ⟨by rw [hk.2 _ h.lc,h.hct],by rw [hk.2 _ h.l1,h.h1],by rw [hk.2 _ h.l2,h.h2],h.len,h.l16,by have := hk.1; have := h.lc; omega,by have := hk.1; have := h.l1; omega,by have := hk.1; have := h.l2; omega,h.ne,h.ok⟩
theorem HAt.keeps (h : HAt H L pa pb pc pd puts M now kept worn) (hk : qa H H') : HAt H' L pa pb pc pd puts M now kept worn :=
 ⟨by rw [hk.2 _ h.lh,h.hh],by have := hk.1; have := h.lh; omega,h.may,h.ga.keeps hk,h.ca.keeps hk,h.ne,h.nc,h.pages⟩
theorem HAt.push (h : HAt H L pa pb pc pd puts M now kept worn) (o : AObj) : HAt (H.push o) L pa pb pc pd puts M now kept worn := h.keeps ((qa.refl H).push o)
theorem HAt.cell (h : HAt H L pa pb pc pd puts M now kept worn) (i : Nat) : AH.cell? H (qlL ⟨L.h,0,none⟩ i) = (hobj L.p L.t L.g L.ct pa pb pc pd worn).cells[i]? := by
 rw [qk,ql3]
 simp only [AH.cell?,h.hh,ql4,qlU,if_false]
 rw [if_neg (by simp [hobj])]
theorem HAt.c0 (h : HAt H L pa pb pc pd puts M now kept worn) : AH.cell? H (qlL ⟨L.h,0,none⟩ 0) = some (.pointer (some ⟨L.p,0,none⟩)) := h.cell 0
theorem HAt.c6 (h : HAt H L pa pb pc pd puts M now kept worn) : AH.cell? H (qlL ⟨L.h,0,none⟩ 6) = some (.pointer (some ⟨L.g,0,none⟩)) := h.cell 6
theorem HAt.c7 (h : HAt H L pa pb pc pd puts M now kept worn) : AH.cell? H (qlL ⟨L.h,0,none⟩ 7) = some (.pointer (some ⟨L.ct,0,none⟩)) := h.cell 7
theorem HAt.c8 (h : HAt H L pa pb pc pd puts M now kept worn) : AH.cell? H (qlL ⟨L.h,0,none⟩ 8) = some (.bool worn) := h.cell 8
theorem HAt.c10 (h : HAt H L pa pb pc pd puts M now kept worn) : AH.cell? H (qlL (qlL ⟨L.h,0,none⟩ 1) 0) = some (.int .i64 pa) := by
 rw [qk,qk]; have := h.cell 1; rw [qk] at this; exact this
theorem HAt.row (h : HAt H L pa pb pc pd puts M now kept worn) : AH.row? H (qlL ⟨L.h,0,none⟩ 1) 4 = some (pl pa pb pc pd) := by
 rw [qk]
 simp [AH.row?,h.hh,hobj,pl,qo]
theorem qku.s {k : Bool → AH → Prop} (h : HAt H L pa pb pc pd puts M now kept worn) (hk : k (worn || decide (M.down = false ∧ commits M ≠ 0)) H) : qci (some ⟨L.h,0,none⟩) H k := by
 refine qci.link ?_
 unfold qci.b
 rw [qlZ,qmp,qj,qd,h.c8,qbi]
 cases worn with
 | true => rw [qj]; simpa using hk
 | false =>
  rw [qc,qd,h.c6,qE]
  refine qfZ.s h.ga ?_
  simpa using hk
theorem qg4.s {pk : Value → AH → Prop} {k : AH → Prop} (h : HAt H L pa pb pc pd puts M now kept worn)
  (h1 : worn = true ∨ (M.down = false ∧ commits M ≠ 0) → pk (.iface 31 (.int .i64 3)) H) (h0 : ¬ (worn = true ∨ (M.down = false ∧ commits M ≠ 0)) → k H) : qaz (some ⟨L.h,0,none⟩) H pk k := by
 refine qaz.link ?_
 unfold qaz.b
 refine qku.s h ?_
 by_cases hw : worn = true ∨ (M.down = false ∧ commits M ≠ 0)
 ·have e : (worn || decide (M.down = false ∧ commits M ≠ 0)) = true := by simpa using hw
  rw [e,qj]; exact h1 hw
 ·have e : (worn || decide (M.down = false ∧ commits M ≠ 0)) = false := by
   rw [Bool.eq_false_iff]; intro hh; exact hw (by simpa using hh)
  rw [e,qc]; exact h0 hw
theorem qar.s {e : Int} {pk : Value → AH → Prop} {k : AH → Prop} (h1 : e ≠ 0 → pk (.iface 31 (.int .i64 e)) H) (h0 : e = 0 → k H) : qar e H pk k := by
 refine qar.link ?_
 unfold qar.b
 by_cases he : e = 0
 ·subst he; exact h0 rfl
 ·rw [show (e != 0) = true by simpa using he,qj]; exact h1 he
theorem qhy.s {pk : Value → AH → Prop} {k : Int → AH → Prop} (h : HAt H L pa pb pc pd puts M now kept worn)
  (h1 : M.down = true → pk (.iface 31 (.int .i64 2)) H) (h0 : M.down = false → k (qlJ .i64 (M.regs.getD 2 0)) H) : qbJ (some ⟨L.h,0,none⟩) H pk k := by
 refine qbJ.link ?_
 unfold qbJ.b
 rw [qd,h.c0,qE]
 refine qJ.s h.ga.tn.l.m ?_
 unfold Mem.reg
 rw [if_pos ⟨by omega,by omega⟩]
 by_cases hd : M.down = true
 ·rw [if_pos hd]; exact qar.s (fun _ => h1 hd) (fun hh => by simp at hh)
 ·rw [if_neg hd]; exact qar.s (fun hh => absurd rfl hh) (fun _ => h0 (by simpa using hd))
def lineH (pa pb : Int) (M : Mem) (i : Nat) : List Int := (getN (16 + pa.toNat) pb.toNat M (16 + (i : Int))).1
def wordsH (pa pb : Int) (M : Mem) : List Int := (qmA pa.toNat).flatMap (lineH pa pb M)
theorem qhn {o : Nat} {l : List Int} {e : Nat} (hl : l.length = 8) (hb : o < H.size) (hg : H.get o = ⟨lineV l,.rw,e⟩) : ql5 H ⟨some ⟨o,0,none⟩,8,0⟩ 1 wU l := by
 refine ⟨hl.symm,fun i v hi => ?_⟩
 have hi8 : i < 8 := by have := (List.getElem?_eq_some_iff.1 hi).1; omega
 refine ⟨⟨o,0,none⟩,rfl,rfl,hb,?_⟩
 have e1 : (lineV l)[i]? = some (.int .u64 v) := by unfold lineV; rw [qlW,hi]; rfl
 simp only [AH.row?,hg,ql3,Nat.mul_one,ql4,qlU,if_false]
 have hd : (lineV l).drop i = .int .u64 v :: (lineV l).drop (i + 1) := by
  have hlt := (List.getElem?_eq_some_iff.1 e1)
  obtain ⟨h1,h2⟩ := hlt
  rw [qnh h1,h2]
 have hlen := qr hl
 rw [hd]
 simp [wU,qo]
 omega
theorem qd9 {i : Nat} (h : HAt H L pa pb pc pd puts M now kept worn) (hi : (i : Int) < pa) :
  isLine (getN (16 + pa.toNat) pb.toNat M (16 + (i : Int))).1 ∧ (getN (16 + pa.toNat) pb.toNat M (16 + (i : Int))).2 = if M.down then 2 else 0 := by
 have hm := qV.1 h.may
 obtain ⟨ho,_⟩ := qfc h.ga
 have ht := h.ga.tn.lineOf (16 + (i : Int)).toNat
 unfold getN
 rw [if_pos ⟨by omega,by omega⟩]
 by_cases hd : M.down = true
 ·rw [if_pos hd,if_pos hd]; exact ⟨⟨by simp,by simp [isU]⟩,rfl⟩
 ·rw [if_neg hd,if_neg hd]
  split
  ·rename_i q hq
   split at hq
   ·have := List.mem_of_find?_eq_some hq
    exact ⟨(ho q this).line,rfl⟩
   ·cases hq
  ·exact ⟨ht,rfl⟩
theorem qea.s {k : Sl → Int → AH → Prop} (h : HAt H L pa pb pc pd puts M now kept worn) (hd : M.down = true → ∀ H',qa H H' → k ⟨none,0,0⟩ 2 H')
  (hu : M.down = false → ∀ s H',qa H H' → Own H.size H' s 1 wU (wordsH pa pb M) → k s 0 H') : qab (some ⟨L.h,0,none⟩) H k := by
 have hm := qV.1 h.may
 refine qab.link ?_
 unfold qab.b
 rw [qlZ,qc,qd,h.c10,qf]
 have hll : ∀ i : Nat,(i : Int) < pa → (lineH pa pb M i).length = 8 := fun i hi => (qd9 h hi).1.1
 have hfl : ∀ i : Nat,(i : Int) ≤ pa → ((qmA i).flatMap (lineH pa pb M)).length = 8 * i := by
  intro i
  induction i with
  | zero => intro _; rfl
  | succ i ih =>
   intro hi
   rw [qm0,qmP,List.length_append,ih (by omega)]
   simp only [qmn,List.flatMap_nil,List.append_nil]
   rw [hll i (by omega)]; omega
 refine qI (t := ((⟨none,0,0⟩,(0 : Int),⟨none,0,0⟩,(0 : Int)) : Sl × Int × Sl × Int)) (I := fun (t : Sl × Int × Sl × Int) H' => ∃ i : Nat,t.2.2.2 = (i : Int) ∧ (i : Int) ≤ pa ∧ (0 < i → M.down = false) ∧ qa H H' ∧ Own H.size H' t.2.2.1 1 wU ((qmA i).flatMap (lineH pa pb M))) (m := fun (t : Sl × Int × Sl × Int) _ => qlQ (pa - t.2.2.2)) ?_ ⟨0,rfl,by omega,by omega,qa.refl H,.inl ⟨rfl,rfl⟩⟩
 intro t H1 hI it hit
 obtain ⟨t1,t2,s,t4⟩ := t
 obtain ⟨i,e1,hi,hup,hk,hO⟩ := hI
 simp only at e1 hO
 subst e1
 unfold qab.l1
 simp only [qi,decide_eq_true_eq]
 have h1 := h.keeps hk
 by_cases hlt : (i : Int) < pa
 ·rw [if_pos hlt,qd,h1.c6,qE,qd,ql h1.row,qp,zeroV]
  have h2 := h1.push ⟨lineV (qlN 8 0),.rw,0⟩
  refine qbA.s ⟨h2.c6,?_⟩
  have hh : homeP pa pb pc pd (i : Int) = 16 + (i : Int) := by unfold homeP; rw [if_pos ⟨h.may,by omega,hlt⟩]
  rw [hh]
  refine log_Get.s h2.ga (by unfold isI; omega) ?_
  obtain ⟨hl,he⟩ := qd9 h hlt
  rw [he]
  have hlH : (getN (16 + pa.toNat) pb.toNat M (16 + (i : Int))).1 = lineH pa pb M i := rfl
  rw [hlH] at hl ⊢
  refine ⟨⟨qr hl.1,qaD _⟩,?_⟩
  rw [qaQ]
  refine ⟨qcC.2 (by rw [qr hl.1]; simp [lineV]),?_⟩
  have e2 : AH.put (H1.push ⟨lineV (qlN 8 0),.rw,0⟩) ⟨H1.size,0,none⟩ (lineV (lineH pa pb M i)) = H1.push ⟨lineV (lineH pa pb M i),.rw,0⟩ := by
   rw [qdq]
   congr 2
   apply qmc
   intro t
   rw [qb5 _ _ _ _ (by rw [qr hl.1]; simp [lineV])]
   have := qr hl.1
   by_cases ht : t < (lineV (lineH pa pb M i)).length
   ·rw [if_pos (by omega)]; rfl
   ·rw [if_neg (by omega),qlR (by simp [lineV]; omega),qlR (by omega)]
  rw [e2]
  have hk3 : qa H (H1.push ⟨lineV (lineH pa pb M i),.rw,0⟩) := hk.push _
  by_cases hdn : M.down = true
  ·rw [if_pos hdn,if_pos (by decide)]
   exact hd hdn _ hk3
  ·rw [if_neg hdn,if_neg (by decide)]
   have hR : ql5 (H1.push ⟨lineV (lineH pa pb M i),.rw,0⟩) ⟨some ⟨H1.size,0,none⟩,8,0⟩ 1 wU (lineH pa pb M i) := qhn hl.1 (by simp [qe]) (by rw [qm,if_pos rfl])
   have hO3 : Own H.size (H1.push ⟨lineV (lineH pa pb M i),.rw,0⟩) s 1 wU ((qmA i).flatMap (lineH pa pb M)) := hO.keep (by simp [qe]) (fun b _ hb => qv (by omega))
   refine qdu (H0 := H) (B := H.size) (fun _ => rfl) (fun _ => rfl) hO3 hR (qlS _) hk3.1 hk3 (by rw [hfl i hi,hl.1]; simp only [lim]; omega) ?_
   intro s' H' hO' hk' _ _
   rw [qg (n := (i : Int) + 1) (by omega) (by omega)]
   refine hit _ _ ⟨i + 1,by simp,by omega,fun _ => by simpa using hdn,hk',?_⟩ (by simp only; omega)
   rw [qm0,qmP]
   simpa using hO'
 ·rw [if_neg hlt]
  have hia : pa.toNat = i := by omega
  refine hu (hup (by omega)) _ _ hk ?_
  unfold wordsH
  rw [hia]; exact hO
end
theorem qaU.s {H : AH} {sl : Sl} {ws : List Int} {k : Sl → AH → Prop} (hw : ql5 H sl 1 iV ws) (hwl : ws.length ≤ 1000000)
  (h : ∀ s H',qa H H' → Own H.size H' s 1 iV ws ∨ (ws = [] ∧ s.n = 0) → k s H') : qaU sl H k := by
 refine qaU.link ?_
 unfold qaU.b
 cases ha : sl.a with
 | none =>
  rw [Option.isNone_none,qj]
  refine h _ _ (qa.refl H) (.inr ⟨?_,rfl⟩)
  cases ws with
  | nil => rfl
  | cons x r =>
   obtain ⟨a,h1,_⟩ := hw.2 0 x rfl
   rw [ha] at h1; cases h1
 | some a =>
  rw [qlZ,qc,qp]
  refine ⟨le_limS (by have := hw.1; simp only [lim]; omega) _,?_⟩
  by_cases h0 : sl.n = 0
  ·rw [if_pos h0]
   refine h _ _ ((qa.refl H).push _) (.inr ⟨List.length_eq_zero_iff.1 (by rw [← hw.1]; exact h0),rfl⟩)
  ·rw [if_neg h0]
   have hr := qgr (g := fun v => qlI .i64 v) (fun _ => rfl) (hw.keep ((qa.refl H).push ⟨[],.rw,1⟩))
   refine ⟨_,hr,⟨rfl,rfl,rfl,by simp [qm],by simp [qm],by simp [qm]⟩,?_⟩
   refine h _ _ ((((qa.refl H).push _).kill (b := H.size) (qlS _)).push _) (.inl (.inr ⟨H.size + 1,?_,by omega,by simp [qe,qP],?_⟩))
   ·simp [newAt,qe,hw.1]
   ·simp only [qm,qP,qe,if_true]
    simp only [List.nil_append,AObj.mk.injEq,and_true]
    exact (qfX (fun v => qlI .i64 v) ws).symm
def noteN (pd : Int) (now kept : List Int) (i : Nat) : List Int × List Int × Int × Bool :=
 (now.set i (now.getD i 0 + 1),if now.getD i 0 + 1 - kept.getD i 0 ≥ pd then kept.set i (now.getD i 0 + 1) else kept,now.getD i 0 + 1,decide (now.getD i 0 + 1 - kept.getD i 0 ≥ pd))
section
variable {H H' : AH} {ct q1 q2 : Nat} {pd : Int} {now kept : List Int}
theorem CAt.cell (h : CAt H ct q1 q2 pd now kept) (i : Nat) : AH.cell? H (qlL ⟨ct,0,none⟩ i) = (cobj q1 q2 now.length kept.length pd).cells[i]? := by
 rw [qk,ql3]
 simp only [AH.cell?,h.hct,ql4,qlU,if_false]
 rw [if_neg (by simp [cobj])]
theorem CAt.c0 (h : CAt H ct q1 q2 pd now kept) : AH.cell? H (qlL ⟨ct,0,none⟩ 0) = some (.int .i64 pd) := h.cell 0
theorem CAt.c1 (h : CAt H ct q1 q2 pd now kept) : AH.cell? H (qlL ⟨ct,0,none⟩ 1) = some (.slice (some ⟨q1,0,none⟩) now.length 1) := h.cell 1
theorem CAt.c2 (h : CAt H ct q1 q2 pd now kept) : AH.cell? H (qlL ⟨ct,0,none⟩ 2) = some (.slice (some ⟨q2,0,none⟩) kept.length 1) := h.cell 2
theorem CAt.o1 (h : CAt H ct q1 q2 pd now kept) : Own 0 H ⟨some ⟨q1,0,none⟩,now.length,1⟩ 1 iV now := .inr ⟨q1,rfl,qmT _,h.l1,h.h1⟩
theorem CAt.o2 (h : CAt H ct q1 q2 pd now kept) : Own 0 H ⟨some ⟨q2,0,none⟩,kept.length,1⟩ 1 iV kept := .inr ⟨q2,rfl,qmT _,h.l2,h.h2⟩
theorem CAt.n1 (h : CAt H ct q1 q2 pd now kept) {i : Nat} (hi : i < now.length) : AH.cell? H (qlL ⟨q1,0,none⟩ (i * 1)) = some (.int .i64 (now.getD i 0)) := by
 obtain ⟨b,e,_,_,hc⟩ := h.o1.cell (fun _ => rfl) (qlK hi) (j := 0) (by omega)
 simp at e; subst e
 rw [qk,ql3]
 rw [Nat.add_zero] at hc
 rw [hc,qlM,qlK hi]; rfl
theorem CAt.n2 (h : CAt H ct q1 q2 pd now kept) {i : Nat} (hi : i < now.length) : AH.cell? H (qlL ⟨q2,0,none⟩ (i * 1)) = some (.int .i64 (kept.getD i 0)) := by
 have hi' : i < kept.length := by rw [h.len]; exact hi
 obtain ⟨b,e,_,_,hc⟩ := h.o2.cell (fun _ => rfl) (qlK hi') (j := 0) (by omega)
 simp at e; subst e
 rw [qk,ql3]
 rw [Nat.add_zero] at hc
 rw [hc,qlM,qlK hi']; rfl
theorem qhq.s {i : Int} {k : Bool → AH → Prop} (h : CAt H ct q1 q2 pd now kept) (hk : k (decide (0 ≤ i ∧ i < (now.length : Int))) H) : qbV (some ⟨ct,0,none⟩) i H k := by
 refine qbV.link ?_
 unfold qbV.b
 rw [qlZ,qmp,qj,qi]
 by_cases h0 : 0 ≤ i
 ·rw [if_pos (by simpa using h0),qd,h.c1,qag]
  rw [show decide (i < (((now.length : Nat)) : Int)) = decide (0 ≤ i ∧ i < (now.length : Int)) by simp [h0]]
  exact hk
 ·rw [if_neg (by simpa using h0)]
  rw [decide_eq_false (fun hh => h0 hh.1)] at hk
  exact hk
theorem qkK.s {i : Nat} {k : Int → AH → Prop} (h : CAt H ct q1 q2 pd now kept) (hi : i < now.length) (hk : k (now.getD i 0 - kept.getD i 0) H) : qbv (some ⟨ct,0,none⟩) (i : Int) H k := by
 have ho := h.ok i hi
 refine qbv.link ?_
 unfold qbv.b
 refine qhq.s h ?_
 rw [decide_eq_true (by omega),qmm,qc,qd,h.c1,qag]
 refine ⟨by simp only; omega,?_⟩
 rw [qd,qlP,h.n1 hi,qf,qd,h.c2,qag]
 refine ⟨by simp only [h.len]; omega,?_⟩
 rw [qd,h.n2 hi,qf,qg (by omega) (by omega)]
 exact hk
theorem qkt.s {k : Sl → AH → Prop} (h : CAt H ct q1 q2 pd now kept) (hk : ∀ s H',qa H H' → (Own H.size H' s 1 iV now ∨ (now = [] ∧ s.n = 0)) → k s H') : qca (some ⟨ct,0,none⟩) H k := by
 refine qca.link ?_
 unfold qca.b
 rw [qlZ,qc,qd,h.c1,qag]
 exact qaU.s (h.o1.rows (fun _ => rfl) (fun _ => rfl)) (by have := h.l16; omega) hk
structure Frc (H H' : AH) (q1 q2 : Nat) : Prop where
 size : H'.size = H.size
 get : ∀ b,b ≠ q1 → b ≠ q2 → H'.get b = H.get b
theorem qcw {l : List Int} {i j : Nat} {v : Int} (hi : i < l.length) : (l.set i v).getD j 0 = if j = i then v else l.getD j 0 := by
 rw [qlM,qlM,List.getElem?_set]
 by_cases h : i = j
 ·subst h; rw [if_pos rfl,if_pos hi,if_pos rfl]; rfl
 ·rw [if_neg h,if_neg (fun hh => h hh.symm)]
theorem qjD.s {i : Nat} {k : Int → Bool → AH → Prop} (h : CAt H ct q1 q2 pd now kept) (hi : i < now.length) (hb : now.getD i 0 < 4611686018427387904)
  (hk : ∀ H',CAt H' ct q1 q2 pd (noteN pd now kept i).1 (noteN pd now kept i).2.1 → Frc H H' q1 q2 → k (noteN pd now kept i).2.2.1 (noteN pd now kept i).2.2.2 H') : qav (some ⟨ct,0,none⟩) (i : Int) H k := by
 have ho := h.ok i hi
 refine qav.link ?_
 unfold qav.b
 refine qhq.s h ?_
 rw [decide_eq_true (by omega),qmm,qc,qd,h.c1,qag]
 refine ⟨by simp only; omega,?_⟩
 rw [qd,qlP,h.n1 hi,qf]
 refine ⟨by simp only; omega,?_⟩
 rw [qd,qg (n := now.getD i 0 + 1) (by omega) (by omega)]
 obtain ⟨b,e,_,hb1,hcan,hO,hoth⟩ := h.o1.put (y := now.getD i 0 + 1) (fun _ => rfl) (qlK hi) (j := 0) (by omega) (v := .int .i64 (now.getD i 0 + 1)) rfl
 simp at e; subst e
 rw [Nat.add_zero] at hcan hO hoth
 rw [qk,ql3,qaQ]
 refine ⟨hcan,?_⟩
 have hg1 : (AH.put H ⟨q1,i * 1,none⟩ [.int .i64 (now.getD i 0 + 1)]).get q1 = iobj (now.set i (now.getD i 0 + 1)) := by
  rcases hO with ⟨e,_⟩ | ⟨b,e,_,_,hg⟩
  ·simp at e
  ·simp at e; rw [← e] at hg; exact hg
 have hsz : (AH.put H ⟨q1,i * 1,none⟩ [.int .i64 (now.getD i 0 + 1)]).size = H.size := rfl
 have hnk : (noteN pd now kept i).2.2.1 = now.getD i 0 + 1 := rfl
 generalize hv : now.getD i 0 + 1 = v at *
 generalize AH.put H ⟨q1,i * 1,none⟩ [.int .i64 v] = H2 at *
 have h2 : CAt H2 ct q1 q2 pd (now.set i v) kept := by
  refine ⟨by rw [hoth _ h.ne.1,h.hct,qmj],hg1,by rw [hoth _ (fun hh => h.ne.2.2 hh.symm),h.h2],by rw [qmj,h.len],by rw [qmj]; exact h.l16,by rw [hsz]; exact h.lc,by rw [hsz]; exact h.l1,by rw [hsz]; exact h.l2,h.ne,fun j hj => ?_⟩
  rw [qmj] at hj
  rw [qcw hi]
  have := h.ok j hj
  by_cases hji : j = i
  ·rw [if_pos hji]; subst hji; omega
  ·rw [if_neg hji]; omega
 have hi2 : i < (now.set i v).length := by rw [qmj]; exact hi
 rw [qd,h2.c0,qf]
 refine qkK.s h2 hi2 ?_
 rw [qcw hi,if_pos rfl]
 refine ⟨h2.c0,?_⟩
 have j1 : ∀ (kp : List Int) (H3 : AH),CAt H3 ct q1 q2 pd (now.set i v) kp → Frc H H3 q1 q2 → (noteN pd now kept i).2.1 = kp → qav.j1 (some ⟨ct,0,none⟩) (i : Int) k pd (v - kept.getD i 0) H3 := by
  intro kp H3 h3 f3 e3
  unfold qav.j1
  rw [qd,h3.c1,qag]
  refine ⟨by simp only [qmj]; omega,?_⟩
  rw [qd,qlP,h3.n1 hi2,qf,qcw hi,if_pos rfl]
  rw [← e3] at h3
  have h4 : CAt H3 ct q1 q2 pd (noteN pd now kept i).1 (noteN pd now kept i).2.1 := by
   have : (noteN pd now kept i).1 = now.set i v := by unfold noteN; rw [hv]
   rw [this]; exact h3
  have := hk H3 h4 f3
  unfold noteN at this
  rw [hv] at this
  exact this
 have f2 : Frc H H2 q1 q2 := ⟨hsz,fun b h1 _ => hoth b h1⟩
 rw [qi]
 by_cases hl : v - kept.getD i 0 ≥ pd
 ·rw [if_pos (by simpa using hl),qd,h2.c2,qag,qd,h2.c1,qag]
  refine ⟨by simp only [qmj]; omega,?_⟩
  rw [qd,h2.n1 hi2,qf,qcw hi,if_pos rfl]
  refine ⟨by simp only [h.len]; omega,?_⟩
  have hi' : i < kept.length := by rw [h.len]; exact hi
  obtain ⟨b,e,_,hb1,hcan,hO,hoth3⟩ := h2.o2.put (y := v) (fun _ => rfl) (qlK hi') (j := 0) (by omega) (v := .int .i64 v) rfl
  simp at e; subst e
  rw [Nat.add_zero] at hcan hO hoth3
  rw [qd,qk,ql3,qaQ]
  refine ⟨hcan,?_⟩
  have hg3 : (AH.put H2 ⟨q2,i * 1,none⟩ [.int .i64 v]).get q2 = iobj (kept.set i v) := by
   rcases hO with ⟨e,_⟩ | ⟨b,e,_,_,hg⟩
   ·simp at e
   ·simp at e; rw [← e] at hg; exact hg
  have hsz3 : (AH.put H2 ⟨q2,i * 1,none⟩ [.int .i64 v]).size = H2.size := rfl
  generalize AH.put H2 ⟨q2,i * 1,none⟩ [.int .i64 v] = H3 at *
  refine j1 (kept.set i v) H3 ?_ ⟨hsz3.trans hsz,fun b h1 h2 => (hoth3 b h2).trans (hoth b h1)⟩ (by unfold noteN; simp only; rw [hv,if_pos hl])
  refine ⟨by rw [hoth3 _ h.ne.2.1,h2.hct,qmj,qmj],by rw [hoth3 _ h.ne.2.2,hg1],hg3,by rw [qmj,qmj,h.len],h2.l16,by rw [hsz3]; exact h2.lc,by rw [hsz3]; exact h2.l1,by rw [hsz3]; exact h2.l2,h.ne,fun j hj => ?_⟩
  have := h2.ok j hj
  rw [qcw hi] at this ⊢
  rw [qcw hi']
  by_cases hji : j = i
  ·rw [if_pos hji] at this ⊢; rw [if_pos hji]; omega
  ·rw [if_neg hji] at this ⊢; rw [if_neg hji]; omega
 ·rw [if_neg (by simpa using hl)]
  exact j1 kept H2 h2 f2 (by unfold noteN; simp only; rw [hv,if_neg hl])
end
end Go.Proofs.YtdcbkjgoaknmkaaGreat
