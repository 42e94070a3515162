/- Lemmas for the law: an abstract machine, and what the functions do on it. No condition. -/
import Derived.Test.YtdcbkjgoaknmkaaGreatFT12
import Derived.Lib.AppendZeros
import Derived.Lib.AppendZerosOnto
import Derived.Lib.Overlaps
import Derived.Laws.Externs
import Derived.Laws.NewBlocks
set_option linter.all false
open Go.Value renaming int → qlI,pointer → qlO,slice → qlV
open Go.IntKind renaming wrap → qlJ
open List renaming getElem?_eq_getElem → qlK,getD_eq_getElem?_getD → qlM,replicate → qlN,getElem?_eq_none → qlR,getElem?_eq_some_iff → qlT,getElem?_map → qlW,mem_of_getElem? → qlX,length → qlY,length_cons → ql0,getElem_mem → ql1,mem_cons → ql6,length_append → ql7,getElem?_append_right → ql8,ext_getElem? → qmc,getElem?_append_left → qmd,mem_map → qml,flatMap_cons → qmn,getElem?_drop → qmo,getElem?_take → qmr,take_of_length_le → qmx,take_length → qmI,mem_range → qmJ,flatMap_append → qmP,append_assoc → qmV,drop_zero → qmY,append_nil → qm1,length_take → qnc,mem_of_mem_drop → qne
open Go.Addr renaming add → qlL
open Int renaming toNat_natCast → qlP,toNat → qlQ
open Nat renaming le_refl → qlS,zero_add → ql3,lt_of_lt_of_le → qm2
open Bool renaming false_eq_true → qlU
open Option renaming isSome_none → ql4,isSome_iff_exists → qmO,toList_some → qnl
open Go.Abs renaming Rows → ql5
open Go.Builtin renaming zeroCells → qmG
open Array renaming getElem?_eq_none → qm7
open Go.Lib renaming compact → qng
open Go.Region renaming wanted → qni
open Go.World renaming cell?_setCells_out → qnj
set_option linter.all false
namespace Go.Proofs.YtdcbkjgoaknmkaaGreat
open Go Go.RowKit Go.Lib
theorem qd0 (w : World) (ty : TypeId) (b o dLen dCap : Nat) (a : Addr) (sLen sCap : Nat) (cs : List Value)
  (hn : cs.length = Nat.min sLen dLen * 3)
  (hsrc : ∀ j v,cs[j]? = some v → w.cell? (a.add j) = some v) (hc : ∀ j,j < cs.length → (w.cell? ⟨b,o + j,none⟩).isSome = true) (hf : ∀ j,j < cs.length → w.frozen? ⟨b,o + j,none⟩ = false) (h1 : ∀ v ∈ cs,v.oneCell' = true) :
  (Builtin.copy_ #[154,154] ty #[.slice (some ⟨b,o,none⟩) dLen dCap,.slice (some a) sLen sCap]).run Tryz.prog w = .ok (goInt (Nat.min sLen dLen)) (w.setCells b o cs) := by
 obtain ⟨i0,hi0,hz0,hz1,hz2⟩ := info_parts info168
 have hl := run_loadCells_list (P := Tryz.prog) w a cs hsrc
 have hst := run_storeCells_cells (P := Tryz.prog) b o cs 0 w (by simpa using hc) (by simpa using hf) h1
 simp [Builtin.copy_,run_underlying Tryz.underlying154,Builtin.lenOf,Builtin.firstCells,sizeOf,typeInfo,hi0,hz1,← hn,hl,hst]
theorem qgp {P : Program} (w : World) {ops : Array Oper} {rest : List Oper} {o : Oper} {a : Act} {Q : Exit → Act → World → Prop} (hgd : o.guard = none) (d s : Operand) (t t' : TypeId)
  (ho : o.op = .call { callee := .builtin .copy,args := #[d,s],argTypes := #[t,t'] }) (v u : Value) (hd : a.eval d = v) (hs : a.eval s = u) {v' : Value} {w' : World}
  (hr : (Builtin.copy_ #[t,t'] o.type #[v,u]).run P w = .ok v' w') (h : wpList P ops Q rest (a.put o.dst v') w') : wpList P ops Q (o :: rest) a w := by
 refine wpList_plain hgd fun _ hK => ?_
 unfold Oper.wp execOp
 simp only [ho,resolve,invoke,builtin,Sem.run_bind,Sem.run_pure,Result.andThen_ok,List.map_toArray,List.map_cons,List.map_nil,hd,hs,hr]
 exact hK _ _ h
theorem st_copy {P : Program} {ops : Array Oper} {o : Oper} {a : Act} {w : World} {K : Act → World → Prop} {Q : Exit → Act → World → Prop} {E : Prop}
  (hg : o.guard = none) (d x : Operand) (dT sT : TypeId) (hop : o.op = Op.call { callee := Callee.builtin Builtin.copy,args := #[d,x],argTypes := #[dT,sT] })
  (v u : Value) (hd : a.eval d = v) (hx : a.eval x = u) {v' : Value} {w' : World} (hr : (Builtin.copy_ #[dT,sT] o.type #[v,u]).run P w = .ok v' w') (hK : K (a.put o.dst v') w') :
  if qni o (yielded ops a.tmps) = true then Oper.wp P o a w K Q else E := by
 have hw : qni o (yielded ops a.tmps) = true := by simp [qni,hg]
 rw [if_pos hw]
 unfold Oper.wp
 simp [execOp,hop,resolve,invoke,builtin,hd,hx,hr,Result.andThen]
 exact hK
set_option maxRecDepth 1000000 in
theorem ins_end (x' y' v' : Value) (n : Nat) (ya : Option Addr) (yc : Nat) (xa : Option Addr) (xc : Nat) (hx : x' = .slice xa n xc) (hy : y' = .slice ya 1 yc) (hnc : n ≤ xc) (w w' : World)
  (hrun : (Builtin.append_ #[154,154] 154 #[x',y']).run Tryz.prog w = .ok v' w') :
  Calls Tryz.prog 163 #[x',.int .i64 n,y'] w fun e w2 => e = .returned v' ∧ w2 = w' := by
 subst hx hy
 cases xa with
 | none =>
  have h0 : Hid (n ≤ xc) := hnc
  go_enter Tryz.func163,Tryz.ntmps163
  go_wp2_with (at_builtin; refine Lib.wpList_append_run _ rfl _ _ _ _ rfl _ _ rfl rfl _ _ hrun ?_)
  all_goals (go_ret; exact ⟨rfl,rfl⟩)
 | some a =>
  obtain ⟨ab,ao,asp⟩ := a
  go_enter Tryz.func163,Tryz.ntmps163
  go_wp2_with (at_builtin; refine Lib.wpList_append_run _ rfl _ _ _ _ rfl _ _ rfl rfl _ _ hrun ?_)
  all_goals (go_ret; exact ⟨rfl,rfl⟩)
set_option maxHeartbeats 4000000 in
set_option maxRecDepth 1000000 in
theorem qlr (b n c i vb vo vc : Nat) (cs vs : List Value) (w : World) (hi : i < n) (hroom : n + 1 ≤ c) (hn9 : n ≤ 1000000000) (hvb : vb ≠ b)
  (hcl : cs.length = n * 3) (hvl : vs.length = 3)
  (hcs : ∀ j v,cs[j]? = some v → w.cell? ⟨b,j,none⟩ = some v) (hsp : ∀ j,j < (n + 1) * 3 → (w.cell? ⟨b,j,none⟩).isSome = true) (hfz : ∀ j,w.frozen? ⟨b,j,none⟩ = false) (hfv : ∀ j,w.frozen? ⟨vb,j,none⟩ = false)
  (hvs : ∀ j v,vs[j]? = some v → w.cell? ⟨vb,vo + j,none⟩ = some v) (h1c : ∀ v ∈ cs,v.oneCell' = true) (h1v : ∀ v ∈ vs,v.oneCell' = true)
  (tA tB : TypeId) (kA kB : Nat) (hsa : w.shape? vb = some (tA,kA)) (hsb : w.shape? b = some (tB,kB)) (hkB : kB ≠ 0) :
  Calls Tryz.prog 163 #[.slice (some ⟨b,0,none⟩) n c,.int .i64 i,.slice (some ⟨vb,vo,none⟩) 1 vc] w fun e w' =>
   e = .returned (.slice (some ⟨b,0,none⟩) (n + 1) c) ∧ w' = (w.drew.setCells b ((i + 1) * 3) (cs.drop (i * 3))).setCells b (i * 3) vs := by
 obtain ⟨i0,hi0,hz0,hz1,hz2⟩ := info_parts info168
 have hz1' : ∀ w,(Go.sizeOf 168).run Tryz.prog w = .ok 3 w := fun w => by simp [sizeOf,typeInfo,hi0,hz1]
 have hz2' : ¬ ((i : Int) = (n : Int)) := by omega
 have hov : ∀ lb cb,(callFunc 185 #[.slice (some ⟨vb,vo,none⟩) 1 vc,.slice (some ⟨b,(i + 1) * 3,none⟩) lb cb]).run Tryz.prog w = .ok (.value (.bool false)) w := fun lb cb => by
  rw [run_callFunc_extern Tryz.func185 (by kernel_rfl) (by kernel_rfl) (by kernel_rfl) (e := Extern.SlicesOverlaps.overlaps #[154,154] #[4]) (by kernel_rfl),
   Lib.run_overlaps_apart w 154 4 168 Tryz.underlying154 3 hz1' ⟨vb,vo,none⟩ ⟨b,(i + 1) * 3,none⟩ 1 vc lb cb hvb tA tB kA kB hsa hsb hkB (hfv _) (hfv _)]
  rfl
 have hdl : (cs.drop (i * 3)).length = (n - i) * 3 := by rw [List.length_drop,hcl]; omega
 have hw1 : IntKind.i64.wrap ((i : Int) + 1) = (i : Int) + 1 := by rw [IntKind.wrap_i64]; omega
 have hw2 : IntKind.i64.wrap ((n : Int) + 1) = (n : Int) + 1 := by rw [IntKind.wrap_i64]; omega
 have hb1 : (0 : Int) ≤ (i : Int) + 1 := by omega
 have hb1' : (0 : Int) ≤ (n : Int) + 1 := by omega
 have hin : i ≤ n := by omega
 have htn : ((i : Int) + 1).toNat = i + 1 := by omega
 have htn' : ((n : Int) + 1).toNat = n + 1 := by omega
 have hb2 : ¬ (c = i + 1) := by omega
 have hb3 : (i : Int) ≤ (n : Int) + 1 := by omega
 have hb3' : (i : Int) + 1 ≤ (n : Int) + 1 := by omega
 have hb5 : (n : Int) + 1 ≤ (c : Int) := by omega
 have hb4 : ¬ (c = i) := by omega
 have hcp1 : ∀ ty dc sc,(Builtin.copy_ #[154,154] ty #[.slice (some ⟨b,(i + 1) * 3,none⟩) (n - i) dc,.slice (some ⟨b,i * 3,none⟩) (n + 1 - i) sc]).run Tryz.prog w.drew = .ok (goInt ((n - i : Nat) : Int)) (w.drew.setCells b ((i + 1) * 3) (cs.drop (i * 3))) := fun ty dc sc => by
  have hm : Nat.min (n + 1 - i) (n - i) = n - i := by simp only [Nat.min_def]; split <;> omega
  have h := qd0 w.drew ty b ((i + 1) * 3) (n - i) dc ⟨b,i * 3,none⟩ (n + 1 - i) sc (cs.drop (i * 3)) (by rw [hdl,hm])
   (fun j v hj => by rw [Addr.add_lit]; exact hcs (i * 3 + j) v (by rwa [qmo] at hj))
   (fun j hj => hsp _ (by omega)) (fun j hj => hfz _) (fun v hv => h1c v (qne hv))
  rw [hm] at h
  exact h
 obtain ⟨W1,hW1⟩ : ∃ W1,W1 = w.drew.setCells b ((i + 1) * 3) (cs.drop (i * 3)) := ⟨_,rfl⟩
 have hsp1 : ∀ k,k < (n + 1) * 3 → (W1.cell? ⟨b,k,none⟩).isSome = true := fun k hk => by
  rw [hW1]
  exact qb7 _ _ _ (hsp k hk)
 have hcp2 : ∀ (W : World),(∀ x,W.cell? x = W1.cell? x) → (∀ x,W.frozen? x = W1.frozen? x) → ∀ ty dc,(Builtin.copy_ #[154,154] ty #[.slice (some ⟨b,i * 3,none⟩) (n + 1 - i) dc,.slice (some ⟨vb,vo,none⟩) 1 vc]).run Tryz.prog W = .ok (goInt 1) (W.setCells b (i * 3) vs) := fun W hWc hWf ty dc => by
  have hm : Nat.min 1 (n + 1 - i) = 1 := by simp only [Nat.min_def]; split <;> omega
  have h := qd0 W ty b (i * 3) (n + 1 - i) dc ⟨vb,vo,none⟩ 1 vc vs (by rw [hvl,hm])
   (fun j v hj => by
    rw [Addr.add_lit,hWc,hW1,qnj b _ _ _ _ (fun h _ => absurd h hvb)]
    exact hvs j v hj)
   (fun j hj => by rw [hWc]; exact hsp1 _ (by omega)) (fun j hj => by rw [hWf,hW1,World.frozen?_setCells]; exact hfz _) h1v
  rw [hm] at h
  exact h
 rw [← hW1] at hcp1
 have u3 := run_underlying Tryz.underlying3
 go_enter Tryz.func163,Tryz.ntmps163
 go_wp2_with (simp only [hov])
 go_region_law (refine st_copy rfl _ _ 154 154 rfl _ _ (by simp [Act.eval,Act.put]) (by simp [Act.eval,Act.put]) (hcp1 _ _ _) ?_)
 go_wp2_with (at_builtin; refine qgp _ rfl _ _ 154 154 rfl _ _ rfl rfl (hcp2 _ (fun _ => rfl) (fun _ => rfl) _ _) ?_)
 go_ret
 first | exact ⟨rfl,rfl⟩ | exact ⟨rfl,by rw [hW1]⟩
def zexA : Array Value := (Value.agg #[.int .i64 0,.int .i64 0,.slice none 0 0]).cells
theorem qhB : zexA.size = 3 := by kernel_rfl
set_option maxHeartbeats 4000000 in
set_option maxRecDepth 1000000 in
theorem qk4 (b n c i vb vo vc : Nat) (cs vs : List Value) (w : World) (hi : i < n) (hnc : n ≤ c) (hroom : c < n + 1) (hbig : (n + 1) * 40 ≤ 140737488355328)
  (hcl : cs.length = n * 3) (hvl : vs.length = 3)
  (hcs : ∀ j v,cs[j]? = some v → w.cell? ⟨b,j,none⟩ = some v)
  (hvs : ∀ j v,vs[j]? = some v → w.cell? ⟨vb,vo + j,none⟩ = some v) (h1c : ∀ v ∈ cs,v.oneCell' = true) (h1v : ∀ v ∈ vs,v.oneCell' = true) :
  Calls Tryz.prog 163 #[.slice (some ⟨b,0,none⟩) n c,.int .i64 i,.slice (some ⟨vb,vo,none⟩) 1 vc] w fun e w' =>
   e = .returned (.slice (some ⟨w.heap.size,0,none⟩) (n + 1) (grownCap w (n + 1) c 168)) ∧
   w' = (((w.alloc (.cells ((cs.take (i * 3)).toArray ++ qmG zexA (n + 1 - i) ++ qmG zexA (grownCap w (n + 1) c 168 - (n + 1))) 168)).drew.setCells w.heap.size (i * 3) vs).drew).setCells w.heap.size ((i + 1) * 3) (cs.drop (i * 3)) := by
 obtain ⟨i0,hi0,hz0,hzs,hzb⟩ := info_parts info168
 have hz2 : ¬ ((i : Int) = (n : Int)) := by omega
 have hz3 : (c : Int) < (n : Int) + 1 := by omega
 have hbw : b < w.heap.size := block_lt_of_cell (hcs 0 _ (qlK (by omega)))
 have hvw : vb < w.heap.size := block_lt_of_cell (hvs 0 _ (qlK (by omega)))
 have hkk : (n : Int) + 1 - (i : Int) = ((n + 1 - i : Nat) : Int) := by omega
 have hik : i + (n + 1 - i) = n + 1 := by omega
 have hold : (Builtin.firstCells i0.size i (.slice (some ⟨b,0,none⟩) i c)).run Tryz.prog w.drew = .ok (cs.take (i * 3)).toArray w.drew := by
  rw [hzs]
  exact run_firstCells_some w.drew 3 i ⟨b,0,none⟩ i c (cs.take (i * 3)) (by rw [qnc]; omega) (fun j v hj => by
   rw [Addr.add_lit,ql3]
   rw [qmr] at hj
   split at hj
   ·exact hcs j v hj
   ·cases hj)
 have hrz : ∀ ty,(Builtin.append_ #[154,3] ty #[.slice (some ⟨b,0,none⟩) i c,.int .i64 ((n : Int) + 1 - (i : Int))]).run Tryz.prog w =
   .ok (.slice (some ⟨w.heap.size,0,none⟩) (n + 1) (grownCap w (n + 1) c 168)) (w.drew.alloc (.cells ((cs.take (i * 3)).toArray ++ qmG zexA (n + 1 - i) ++ qmG zexA (grownCap w (n + 1) c 168 - (n + 1))) 168)) := fun ty => by
  have h := Lib.run_append_grow_zeros w 154 3 ty 168 i0 _ .i64 .i64 Tryz.underlying154 Tryz.underlying3 hi0 hz0 (some ⟨b,0,none⟩) i c (cs.take (i * 3)) hold (n + 1 - i) (by omega) (by omega) (by omega) (by omega) (by rw [hzb]; omega) (by rw [hzb,hik]; exact growslice_fits hroom hbig)
  rw [hik] at h
  rw [hkk]
  exact h
 obtain ⟨G,hG⟩ : ∃ G,G = grownCap w (n + 1) c 168 := ⟨_,rfl⟩
 obtain ⟨ROW,hROW⟩ : ∃ ROW : Array Value,ROW = (cs.take (i * 3)).toArray ++ qmG zexA (n + 1 - i) ++ qmG zexA (G - (n + 1)) := ⟨_,rfl⟩
 rw [← hG] at hrz ⊢
 rw [← hROW] at hrz ⊢
 have hRl : (n + 1) * 3 ≤ ROW.size := by
  rw [hROW]
  simp [qmG,qhB]
  omega
 obtain ⟨W1,hW1⟩ : ∃ W1,W1 = w.drew.alloc (.cells ROW 168) := ⟨_,rfl⟩
 rw [← hW1] at hrz
 have hN : ∀ j,j < (n + 1) * 3 → (W1.cell? ⟨w.heap.size,j,none⟩).isSome = true := fun j hj => by
  rw [hW1,World.cell?_alloc_at (w := w.drew) ROW _ w.heap.size j rfl,Array.getElem?_eq_getElem (by omega)]; rfl
 have hNf : ∀ j,W1.frozen? ⟨w.heap.size,j,none⟩ = false := fun j => by rw [hW1]; exact World.frozen?_alloc_at (w := w.drew) ROW _ w.heap.size j rfl
 have hOb : ∀ j v,w.cell? ⟨b,j,none⟩ = some v → W1.cell? ⟨b,j,none⟩ = some v := fun j v h => by rw [hW1,World.cell?_alloc_past (w := w.drew) _ b j hbw]; exact h
 have hOv : ∀ j v,w.cell? ⟨vb,j,none⟩ = some v → W1.cell? ⟨vb,j,none⟩ = some v := fun j v h => by rw [hW1,World.cell?_alloc_past (w := w.drew) _ vb j hvw]; exact h
 have hcpA : ∀ (W : World),(∀ x,W.cell? x = W1.cell? x) → (∀ x,W.frozen? x = W1.frozen? x) → ∀ ty dc,(Builtin.copy_ #[154,154] ty #[.slice (some ⟨w.heap.size,i * 3,none⟩) (n + 1 - i) dc,.slice (some ⟨vb,vo,none⟩) 1 vc]).run Tryz.prog W = .ok (goInt 1) (W.setCells w.heap.size (i * 3) vs) := fun W hWc hWf ty dc => by
  have hm : Nat.min 1 (n + 1 - i) = 1 := by simp only [Nat.min_def]; split <;> omega
  have h := qd0 W ty w.heap.size (i * 3) (n + 1 - i) dc ⟨vb,vo,none⟩ 1 vc vs (by rw [hvl,hm])
   (fun j v hj => by rw [Addr.add_lit,hWc]; exact hOv _ v (hvs j v hj))
   (fun j hj => by rw [hWc]; exact hN _ (by omega)) (fun j hj => by rw [hWf]; exact hNf _) h1v
  rw [hm] at h
  exact h
 have hGn : n + 1 ≤ G := by rw [hG]; exact grownCap_ge w _ _ _
 have hG63 : G ≤ 9223372036854775807 := by
  have := grownCap_le_maxLen w (n + 1) c 168 (by unfold maxLen; omega)
  rw [← hG] at this
  unfold maxLen at this
  omega
 have hGi : ¬ (G = i) := by omega
 have hGim : ¬ (G = i + 1) := by omega
 have hci : ¬ (c = i) := by omega
 have hbN : b ≠ w.heap.size := by omega
 have hdl : (cs.drop (i * 3)).length = (n - i) * 3 := by rw [List.length_drop,hcl]; omega
 have hcpB : ∀ (W : World),(∀ x,W.cell? x = (W1.setCells w.heap.size (i * 3) vs).cell? x) → (∀ x,W.frozen? x = (W1.setCells w.heap.size (i * 3) vs).frozen? x) → ∀ ty dc sc,(Builtin.copy_ #[154,154] ty #[.slice (some ⟨w.heap.size,(i + 1) * 3,none⟩) (n - i) dc,.slice (some ⟨b,i * 3,none⟩) (n - i) sc]).run Tryz.prog W = .ok (goInt ((n - i : Nat) : Int)) (W.setCells w.heap.size ((i + 1) * 3) (cs.drop (i * 3))) := fun W hWc hWf ty dc sc => by
  have hm : Nat.min (n - i) (n - i) = n - i := by simp only [Nat.min_def]; split <;> omega
  have h := qd0 W ty w.heap.size ((i + 1) * 3) (n - i) dc ⟨b,i * 3,none⟩ (n - i) sc (cs.drop (i * 3)) (by rw [hdl,hm])
   (fun j v hj => by
    rw [Addr.add_lit,hWc,qnj _ _ _ _ _ (fun h _ => absurd h hbN)]
    exact hOb _ v (hcs (i * 3 + j) v (by rwa [qmo] at hj)))
   (fun j hj => by rw [hWc]; exact qb7 _ _ _ (hN _ (by omega)))
   (fun j hj => by rw [hWf,World.frozen?_setCells]; exact hNf _) (fun v hv => h1c v (qne hv))
  rw [hm] at h
  exact h
 subst hW1
 have hE1 : ∀ x,((w.alloc (.cells ROW 168)).drew).cell? x = (w.drew.alloc (.cells ROW 168)).cell? x := fun x => rfl
 have hE2 : ∀ x,((w.alloc (.cells ROW 168)).drew).frozen? x = (w.drew.alloc (.cells ROW 168)).frozen? x := fun x => rfl
 have hF1 : ∀ x,(((w.alloc (.cells ROW 168)).drew.setCells w.heap.size (i * 3) vs).drew).cell? x = ((w.drew.alloc (.cells ROW 168)).setCells w.heap.size (i * 3) vs).cell? x := fun x => rfl
 have hF2 : ∀ x,(((w.alloc (.cells ROW 168)).drew.setCells w.heap.size (i * 3) vs).drew).frozen? x = ((w.drew.alloc (.cells ROW 168)).setCells w.heap.size (i * 3) vs).frozen? x := fun x => rfl
 have hw1 : IntKind.i64.wrap ((i : Int) + 1) = (i : Int) + 1 := by rw [IntKind.wrap_i64]; omega
 have hw2 : IntKind.i64.wrap ((n : Int) + 1) = (n : Int) + 1 := by rw [IntKind.wrap_i64]; omega
 have hw3 : IntKind.i64.wrap ((n : Int) + 1 - i) = (n : Int) + 1 - i := by rw [IntKind.wrap_i64]; omega
 have hb1 : (0 : Int) ≤ (i : Int) + 1 := by omega
 have hin : i ≤ n := by omega
 have hinc : i ≤ c := by omega
 have hiG : i ≤ G := by omega
 have htn : ((i : Int) + 1).toNat = i + 1 := by omega
 have hb3 : (i : Int) ≤ (n : Int) := by omega
 have hb6 : (i : Int) ≤ (n : Int) + 1 := by omega
 have hb7 : (i : Int) + 1 ≤ (n : Int) + 1 := by omega
 have u3 := run_underlying Tryz.underlying3
 clear hkk hik hold hROW hG hRl
 go_enter Tryz.func163,Tryz.ntmps163
 go_wp2_with (first
  | (at_builtin; refine Lib.wpList_append_run _ rfl _ _ _ _ rfl _ _ rfl rfl _ _ (hrz _) ?_)
  | (at_builtin; refine qgp _ rfl _ _ 154 154 rfl _ _ rfl rfl (hcpA _ hE1 hE2 _ _) ?_)
  | (at_builtin; refine qgp _ rfl _ _ 154 154 rfl _ _ rfl rfl (hcpB _ (fun _ => rfl) (fun _ => rfl) _ _ _) ?_))
 go_region_law (refine st_copy rfl _ _ 154 154 rfl (.slice (some ⟨w.heap.size,(i + 1) * 3,none⟩) (n - i) (G - (i + 1))) (.slice (some ⟨b,i * 3,none⟩) (n - i) (c - i)) (by simp [Act.eval,Act.put]) (by simp [Act.eval,Act.put]) (hcpB _ hF1 hF2 3 (G - (i + 1)) (c - i)) ?_)
 go_wp2
 go_ret
 exact ⟨rfl,rfl⟩
end Go.Proofs.YtdcbkjgoaknmkaaGreat
set_option linter.all false
namespace Go.Proofs.YtdcbkjgoaknmkaaGreat
open Go Go.Abs
theorem lr_tk {φ : Emb} {xs ys : List Value} (h : LRel φ xs ys) (n : Nat) : LRel φ (xs.take n) (ys.take n) := by
 refine ⟨by simp [h.1],fun i x y hx hy => ?_⟩
 rw [qmr] at hx hy
 split at hx
 ·rw [if_pos (by assumption)] at hy
  exact h.2 i x y hx hy
 ·cases hx
theorem lr_dp {φ : Emb} {xs ys : List Value} (h : LRel φ xs ys) (n : Nat) : LRel φ (xs.drop n) (ys.drop n) := by
 refine ⟨by simp [h.1],fun i x y hx hy => ?_⟩
 rw [qmo] at hx hy
 exact h.2 _ x y hx hy
theorem sc_cell {w : World} (c o : Nat) (vs : List Value) (h : ∀ j,j < vs.length → (w.cell? ⟨c,o + j,none⟩).isSome = true) (j : Nat) :
  (w.setCells c o vs).cell? ⟨c,j,none⟩ = if o ≤ j ∧ j < o + vs.length then vs[j - o]? else w.cell? ⟨c,j,none⟩ := by
 by_cases hin : o ≤ j ∧ j < o + vs.length
 ·rw [if_pos hin]
  have := qdA (w := w) c vs o (fun j hj => Option.isSome_iff_exists.1 (h j hj)) (j - o) (by omega)
  rw [show o + (j - o) = j by omega] at this
  rw [this,qlK]
 ·rw [if_neg hin,qnj c vs o w ⟨c,j,none⟩ (fun _ _ => by show j < o ∨ o + vs.length ≤ j; omega)]
theorem redo {W w w2 : World} {φ : Emb} {H : AH} (R : Rel W φ H w) {b : Nat} {B : Blk} (hb : φ b = some B) (hm : (H.get b).md = .rw) (cells2 : List Value)
  (hw2 : ∀ H',Rel W φ H' w → (∀ x X,φ x = some X → X.c = B.c → (H'.get x).md = .dead) → Rel W φ H' w2)
  (hroom2 : ∀ i,i < B.m → ∃ v,w2.cell? ⟨B.c,i,none⟩ = some v)
  (hv : ∀ i v,cells2[i]? = some v → ∃ v',w2.cell? ⟨B.c,i,none⟩ = some v' ∧ VRel φ v v') :
  Hist φ H (φ.add H.size B) ((H.kill b).push ⟨cells2,.rw,B.sz⟩) ∧ Rel W (φ.add H.size B) ((H.kill b).push ⟨cells2,.rw,B.sz⟩) w2 := by
 have hfresh : φ H.size = none := R.fresh
 obtain ⟨hW,hroom,hes⟩ := R.room b B hb hm
 have hkill : (H.kill b).size = H.size := rfl
 have hdead : ∀ x X,φ x = some X → X.c = B.c → (((H.kill b).push ⟨cells2,.rw,B.sz⟩).get x).md = .dead := by
  intro x X hx hc
  have hxs : x ≠ H.size := fun e => by rw [e,hfresh] at hx; cases hx
  simp only [AH.push,hkill,hxs,if_false]
  by_cases hxb : x = b
  ·subst hxb; simp [AH.kill,AH.upd]
  ·rcases R.own b B hb hm x X hx hc with h0 | h0
   ·exact absurd h0 hxb
   ·simp [AH.kill,AH.upd,hxb,h0]
 have R1 : Rel W φ ((H.kill b).push ⟨cells2,.rw,B.sz⟩) w := (R.kill b).push _
 have R2 := hw2 _ R1 hdead
 have hget : ((H.kill b).push ⟨cells2,.rw,B.sz⟩).get H.size = ⟨cells2,.rw,B.sz⟩ := by simp [AH.push,hkill]
 refine ⟨⟨Emb.le_add hfresh,by simp [AH.push,hkill],fun x hx hn => ?_,fun x hx hn => ?_⟩,R2.over (b := H.size) (b' := b) (B := B) hfresh (by simp [AH.push,hkill]) hb hdead hW hroom2 (by rw [hget]) (by rw [hget]) (by rw [hget]; exact hv)⟩
 ·have : x ≠ H.size := by omega
  simp [Emb.add,this,hn]
 ·have h1 : x ≠ H.size := by omega
  have h2 : x ≠ b := fun e => by rw [e,hb] at hn; cases hn
  simp [AH.push,hkill,h1,AH.kill,AH.upd,h2]
theorem qiu {w : World} {a : Addr} {v : Value} (h : w.cell? a = some v) : ∃ t k,w.shape? a.block = some (t,k) ∧ k ≠ 0 := by
 unfold World.cell? at h
 unfold World.shape?
 split at h
 ·rename_i c e r hh
  split at h
  ·cases h
  ·refine ⟨e,c.size,rfl,fun h0 => ?_⟩
   rw [qm7 (by omega)] at h
   cases h
 ·cases h
theorem argl3 {φ : Emb} {x y z : Value} {args' : Array Value} (hl : LRel φ [x,y,z] args'.toList) : ∃ a b c,args' = #[a,b,c] ∧ VRel φ x a ∧ VRel φ y b ∧ VRel φ z c := by
 obtain ⟨a,b,c,rfl⟩ : ∃ a b c,args' = #[a,b,c] := by
  have h2 := hl.1
  rcases args' with ⟨l'⟩
  match l',h2 with
  | [a,b,c],_ => exact ⟨a,b,c,rfl⟩
 exact ⟨a,b,c,rfl,hl.2 0 _ _ rfl rfl,hl.2 1 _ _ rfl rfl,hl.2 2 _ _ rfl rfl⟩
theorem vrel_i {φ : Emb} {k : IntKind} {n : Int} {v : Value} (h : VRel φ (.int k n) v) : v = .int k n := by cases h; rfl
section
variable {α : Type} {f : α → List Value} {H : AH} {B : Nat} {q : Sl} {l : List α}
theorem fm_take (hf : ∀ x,(f x).length = 3) (l : List α) (i : Nat) : (l.flatMap f).take (i * 3) = (l.take i).flatMap f := by
 induction l generalizing i with
 | nil => simp
 | cons a l ih =>
  cases i with
  | zero => simp
  | succ i =>
   rw [List.take_succ_cons,qmn,qmn,List.take_append,hf,qmx (by rw [hf]; omega),show (i + 1) * 3 - 3 = i * 3 by omega,ih]
theorem fm_drop (hf : ∀ x,(f x).length = 3) (l : List α) (i : Nat) : (l.flatMap f).drop (i * 3) = (l.drop i).flatMap f := by
 induction l generalizing i with
 | nil => simp
 | cons a l ih =>
  cases i with
  | zero => simp
  | succ i =>
   rw [List.drop_succ_cons,qmn,List.drop_append,hf,List.drop_of_length_le (by rw [hf]; omega),show (i + 1) * 3 - 3 = i * 3 by omega,ih,List.nil_append]
theorem qha {φ : Emb} {xs ys : List Value} (h : LRel φ xs ys) (hc : xs.all qo = true) : ∀ v ∈ ys,v.oneCell' = true := by
 intro v hv
 obtain ⟨j,hj⟩ := List.getElem?_of_mem hv
 have hlt : j < xs.length := by rw [h.1]; exact (List.getElem?_eq_some_iff.1 hj).1
 exact (h.2 j _ v (qlK hlt) hj).oneCell (List.all_eq_true.1 hc _ (ql1 hlt))
theorem qcs.s {i : Nat} {k : Sl → AH → Prop} (hf : ∀ x,(f x).length = 3) (hc : ∀ x,(f x).all qo = true) (hO : Own B H q 3 f l) (hi : i < l.length) (hlim : l.length ≤ 1000000000)
    (h : ∀ s' H',Own H.size H' s' 3 f (l.eraseIdx i) → H.size ≤ H'.size → (∀ b,b < H.size → (∀ a,q.a = some a → b ≠ a.block) → H'.get b = H.get b) → k s' H') : qcs q i ((i : Int) + 1) H k := by
  unfold qcs
  refine ⟨by kernel_rfl,fun W w φ args' hl R => ?_⟩
  obtain ⟨a0,a1,a2,rfl,h0,h1,h2⟩ := argl3 hl
  have h1 := vrel_i h1
  have h2 := vrel_i h2
  subst h1 h2
  rcases hO with ⟨_,rfl⟩ | ⟨b,rfl,hB,hbH,hg⟩
  · simp at hi
  simp only [Sl.val] at h0
  generalize hxv : qlV (some ⟨b,0,none⟩) l.length 1 = xv at h0
  cases h0 with
  | sl0 => cases hxv
  | sle a0 a' k' => simp at hxv
  | @sl b' Bk o _ _ k' hb hn hk =>
    injection hxv with x1 x2 x3
    injection x1 with x1
    injection x1 with x1 x4
    subst x1 x2 x3 x4
    have hm : (H.get b).md = .rw := by rw [hg]
    obtain ⟨hW,hroom,hes⟩ := R.room b Bk hb hm
    have hsz : Bk.sz = 3 := by
      rcases hes with h0 | h0
      · rw [hg] at h0; simp at h0
      · rw [← h0,hg]
    have hk' : k' * 3 ≤ Bk.m := by rcases hk with h0 | h0
                                   · omega
                                   · rw [hsz] at h0; omega
    obtain ⟨cs,hrel,hcell⟩ := R.cells hb (by simp [hm])
    have hgc : (H.get b).cells = l.flatMap f := by rw [hg]
    rw [hgc] at hrel
    have hcl : cs.length = l.length * 3 := by rw [← hrel.1,qcQ hf]
    have hall : (l.flatMap f).all qo = true := by simp [List.all_flatMap,hc]
    have h1c := qha hrel hall
    have hcs : ∀ j u,cs[j]? = some u → w.cell? ⟨Bk.c,j,none⟩ = some u := fun j u hj => by
      have := hcell j u hj
      rwa [Addr.add_lit,ql3] at this
    have hsome : ∀ j,j < Bk.m → (w.cell? ⟨Bk.c,j,none⟩).isSome = true := fun j hj => Option.isSome_iff_exists.2 (hroom j hj)
    refine (del_any Bk.c l.length k' i cs w hi hn hlim hcl hcs (fun j => R.unfrozen hb hW j) h1c).mono fun e w' he => ?_
    obtain ⟨rfl,rfl⟩ := he
    have hcd : (cs.drop ((i + 1) * 3)).length = (l.length - (i + 1)) * 3 := by rw [List.length_drop,hcl]; omega
    have hzl : zex.length = 3 := rfl
    have e1 : ∀ j,(w.drew.setCells Bk.c (i * 3) (cs.drop ((i + 1) * 3))).cell? ⟨Bk.c,j,none⟩ = if i * 3 ≤ j ∧ j < i * 3 + (cs.drop ((i + 1) * 3)).length then (cs.drop ((i + 1) * 3))[j - i * 3]? else w.drew.cell? ⟨Bk.c,j,none⟩ :=
      fun j => sc_cell (w := w.drew) Bk.c (i * 3) (cs.drop ((i + 1) * 3)) (fun t ht => hsome (i * 3 + t) (by rw [hcd] at ht; omega)) j
    have e2 := fun j => sc_cell (w := w.drew.setCells Bk.c (i * 3) (cs.drop ((i + 1) * 3))) Bk.c ((l.length - 1) * 3) zex (fun t ht => qb7 _ _ _ (hsome ((l.length - 1) * 3 + t) (by rw [hzl] at ht; omega))) j
    obtain ⟨hh,hR⟩ := redo R hb hm ((l.eraseIdx i).flatMap f) (w2 := (w.drew.setCells Bk.c (i * 3) (cs.drop ((i + 1) * 3))).setCells Bk.c ((l.length - 1) * 3) zex)
      (fun H' R' hd => Rel.scribble hW hd _ _ (Rel.scribble hW hd _ _ R'.drew))
      (fun j hj => Option.isSome_iff_exists.1 (qb7 _ _ _ (qb7 _ _ _ (hsome j hj))))
      (fun j v hj => by
        have hE : (l.eraseIdx i).flatMap f = (l.flatMap f).take (i * 3) ++ (l.flatMap f).drop ((i + 1) * 3) := by
          rw [fm_take hf,fm_drop hf,← qmP,List.eraseIdx_eq_take_drop_succ]
        have hrel2 := (lr_tk hrel (i * 3)).append (lr_dp hrel ((i + 1) * 3))
        rw [← hE] at hrel2
        have hlt : j < (cs.take (i * 3) ++ cs.drop ((i + 1) * 3)).length := by rw [← hrel2.1]; exact (List.getElem?_eq_some_iff.1 hj).1
        have htl : (cs.take (i * 3)).length = i * 3 := by rw [qnc,hcl]; omega
        refine ⟨(cs.take (i * 3) ++ cs.drop ((i + 1) * 3))[j],?_,hrel2.2 j v _ hj (qlK hlt)⟩
        rw [← qlK hlt]
        rw [ql7,htl,hcd] at hlt
        rw [e2,if_neg (by omega),e1,hcd]
        by_cases h5 : j < i * 3
        · rw [if_neg (by omega),qmd (by omega),qmr,if_pos h5]
          show w.cell? _ = _
          have : j < cs.length := by omega
          rw [qlK this]
          exact hcs j _ (qlK this)
        · rw [if_pos (by omega),ql8 (by omega),htl])
    have hlen : (l.eraseIdx i).length = l.length - 1 := List.length_eraseIdx_of_lt hi
    refine ⟨.ret (Sl.val ⟨newAt H.size,l.length - 1,1⟩),_,_,hh,.sl 0 _ 1 k' (Emb.add_self _ _ _) (show l.length - 1 ≤ k' by omega) (.inr (by rw [hsz]; omega)),hR,⟨_,rfl,h _ _ (.inr ⟨H.size,?_,?_,?_,?_⟩) ?_ ?_⟩⟩
    · rw [hlen]; rfl
    · omega
    · simp [qe,qP]
    · rw [hsz]; simp [qm,qP]
    · simp [qe,qP]
    · intro b' hb' hne
      have hne' : b' ≠ b := hne _ rfl
      rw [qv (by simp only [qP]; omega),qcy hne']
  | _ => cases hxv
theorem qiE {xs vs : List Value} {n i : Nat} (hi : i ≤ n) (hx : xs.length = n * 3) (hv : vs.length = 3) (j : Nat) :
  (xs.take (i * 3) ++ vs ++ xs.drop (i * 3))[j]? = if j < i * 3 then xs[j]? else if j < i * 3 + 3 then vs[j - i * 3]? else xs[j - 3]? := by
 have htl : (xs.take (i * 3)).length = i * 3 := by rw [qnc,hx]; omega
 by_cases h1 : j < i * 3
 ·rw [if_pos h1,qmV,qmd (by omega),qmr,if_pos h1]
 ·rw [if_neg h1]
  by_cases h2 : j < i * 3 + 3
  ·rw [if_pos h2,qmd (by rw [ql7]; omega),ql8 (by omega),htl]
  ·rw [if_neg h2,ql8 (by rw [ql7]; omega),ql7,htl,hv,qmo]
   congr 1; omega
theorem qfG {α : Type} {H : AH} {B : Nat} {s t : Sl} {z : Nat} {f : α → List Value} {l r : List α} {k : Sl → AH → Prop} (hf : ∀ x,(f x).length = z) (hc : ∀ x,(f x).all qo = true)
  (hO : Own B H s z f l) (hR : ql5 H t z f r) (hr : r ≠ []) (hlim : l.length + r.length ≤ limS z)
  (h : ∀ s' H',Own H.size H' s' z f (l ++ r) → H.size ≤ H'.size → (∀ b,b < H.size → (∀ a,s.a = some a → b ≠ a.block) → H'.get b = H.get b) → k s' H') :
  appendC z H s t k := by
 have hrow := qeB hf hc hR
 have hs : s.n = l.length := own_len hO
 refine ⟨by rw [hs,hR.1]; exact hlim,?_⟩
 have h0 : t.n ≠ 0 := fun h0 => hr (List.length_eq_zero_iff.1 (by rw [← hR.1]; exact h0))
 rw [if_neg h0]
 refine ⟨_,hrow,?_⟩
 have ht := hR.1
 rcases hO with ⟨rfl,rfl⟩ | ⟨b,rfl,hb1,hb2,hg⟩
 ·refine h _ _ (.inr ⟨H.size,?_,qlS _,?_,?_⟩) (by simp [qe]) ?_
  ·simp [newAt,ht]
  ·simp [qe]
  ·simp [qm]
  ·intro b hb _; exact qv (by omega)
 ·refine ⟨⟨rfl,rfl,rfl,by rw [hg],by rw [hg,qcQ hf],by rw [hg]⟩,?_⟩
  refine h _ _ (.inr ⟨H.size,?_,qlS _,?_,?_⟩) (by simp [qe,qP]) ?_
  ·simp [newAt,ht]
  ·simp [qe,qP]
  ·simp only [qm,qP,if_true]
   rw [hg]
   simp
  ·intro b' hb' hne
   have hne' : b' ≠ b := hne _ rfl
   rw [qv (by simp only [qP]; omega),qcy hne']
theorem qct.s {x : α} {o i : Nat} {k : Sl → AH → Prop} (hf : ∀ x,(f x).length = 3) (hc : ∀ x,(f x).all qo = true) (hO : Own B H q 3 f l) (hi : i ≤ l.length) (hlim : l.length ≤ 1000000000)
    (ho : o < H.size) (hBs : B ≤ H.size) (hgo : H.get o = ⟨f x,.rw,3⟩) (hne : ∀ a,q.a = some a → a.block ≠ o)
    (h : ∀ s' H',Own H.size H' s' 3 f (l.take i ++ x :: l.drop i) → H.size ≤ H'.size → (∀ b,b < H.size → (∀ a,q.a = some a → b ≠ a.block) → H'.get b = H.get b) → k s' H') : qct q i ⟨some ⟨o,0,none⟩,1,1⟩ H k := by
  unfold qct
  refine ⟨by kernel_rfl,fun W w φ args' hl R => ?_⟩
  obtain ⟨a0,a1,a2,rfl,h0,h1,h2⟩ := argl3 hl
  have h1 := vrel_i h1
  subst h1
  have hrow : AH.rowS? H ⟨some ⟨o,0,none⟩,1,1⟩ 3 = some (f x) := by
    simp only [AH.rowS?,Nat.one_mul]
    rw [if_neg (by simp)]
    simp only [AH.row?,hgo,ql4,qlU,if_false,ql3,qmY]
    rw [if_neg (by simp),qmx (by rw [hf]; omega),if_pos ⟨by rw [hf]; omega,hc x⟩]
  have hrows : ql5 H ⟨some ⟨o,0,none⟩,1,1⟩ 3 f [x] := by
    refine ⟨rfl,fun j y hj => ⟨_,rfl,rfl,ho,?_⟩⟩
    cases j with
    | zero =>
      simp only [List.getElem?_cons_zero,Option.some.injEq] at hj
      subst hj
      simp only [AH.row?,hgo,ql4,qlU,if_false,ql3,qmY,Nat.zero_mul]
      rw [if_neg (by simp),qmx (by rw [hf]; omega),if_pos ⟨by rw [hf]; omega,hc x⟩]
    | succ j => simp at hj
  obtain ⟨vb,vB,vo,vc,vs,hva,hvb,rfl,hvl,hvr,hvcell,hv1⟩ := R.rowS hrow (by simp) h2
  injection hva with hva
  injection hva with e1 e2
  subst e1 e2
  have hvl3 : vs.length = 3 := by rw [← hvr.1,hf]
  have hwork : ∀ a0 : Value,(∃ xa xc,a0 = .slice xa l.length xc ∧ l.length ≤ xc) → VRel φ q.val a0 → i = l.length →
      Calls Tryz.prog 163 #[a0,.int .i64 i,.slice (some ⟨vB.c,0,none⟩) 1 vc] w fun e w' => ∃ le φ' H',Hist φ H φ' H' ∧ qcR φ' le e ∧ Rel W φ' H' w' ∧ in1 .sl le qn (fun r0 => k r0 H') := by
    rintro a0 ⟨xa,xc,hx',hxc⟩ hv0 hil
    have hap : appendC (T 168).size H q ⟨some ⟨o,0,none⟩,1,1⟩ k := by
      refine qfG hf hc hO hrows (by simp) (Nat.le_trans (by show l.length + 1 ≤ 4294967296; omega) (limS_le 3)) ?_
      intro s' H' hO' hs' hfr'
      refine h s' H' ?_ hs' hfr'
      rw [hil,qmI,List.drop_length]
      exact hO'
    obtain ⟨v',w',s',φ',H',hrun,hh,hv',hR',hk'⟩ := qfH hT Tryz.underlying154 (by decide) (by decide) (by kernel_rfl) (by decide) hap R hv0 h2 154
    rw [hil]
    refine (ins_end a0 _ v' l.length _ vc xa xc hx' rfl hxc w w' hrun).mono fun e w2 he => ?_
    obtain ⟨rfl,rfl⟩ := he
    exact ⟨.ret s'.val,φ',H',hh,hv',hR',⟨_,rfl,hk'⟩⟩
  rcases hO with ⟨rfl,rfl⟩ | ⟨b,rfl,hB,hbH,hg⟩
  · have hi0 : i = 0 := by simpa using hi
    subst hi0
    refine hwork a0 ?_ h0 rfl
    simp only [Sl.val] at h0
    generalize hxv : qlV none 0 0 = xv at h0
    cases h0 <;> first | exact ⟨_,_,rfl,qlS _⟩ | cases hxv
  simp only [Sl.val] at h0
  have h00 := h0
  generalize hxv : qlV (some ⟨b,0,none⟩) l.length 1 = xv at h0
  cases h0 with
  | sl0 => cases hxv
  | sle a0 a' k' => simp at hxv
  | @sl b' Bk ofs _ _ k' hb hn hk =>
    injection hxv with x1 x2 x3
    injection x1 with x1
    injection x1 with x1 x4
    subst x1 x2 x3 x4
    by_cases hil : i = l.length
    · exact hwork _ ⟨_,_,rfl,hn⟩ h00 hil
    have hil' : i < l.length := by omega
    have hm : (H.get b).md = .rw := by rw [hg]
    obtain ⟨hW,hroom,hes⟩ := R.room b Bk hb hm
    have hmo : (H.get o).md = .rw := by rw [hgo]
    obtain ⟨hWv,_,_⟩ := R.room o vB hvb hmo
    have hvne : vB.c ≠ Bk.c := by
      intro hcc
      rcases R.own b Bk hb hm o vB hvb hcc with h0 | h0
      · exact hne _ rfl h0.symm
      · rw [hgo] at h0; simp at h0
    have hsz : Bk.sz = 3 := by
      rcases hes with h0 | h0
      · rw [hg] at h0; simp at h0
      · rw [← h0,hg]
    have hk' : k' * 3 ≤ Bk.m := by rcases hk with h0 | h0
                                   · omega
                                   · rw [hsz] at h0; omega
    obtain ⟨cs,hrel,hcell⟩ := R.cells hb (by simp [hm])
    have hgc : (H.get b).cells = l.flatMap f := by rw [hg]
    rw [hgc] at hrel
    have hcl : cs.length = l.length * 3 := by rw [← hrel.1,qcQ hf]
    have hall : (l.flatMap f).all qo = true := by simp [List.all_flatMap,hc]
    have h1c := qha hrel hall
    have hcs : ∀ j u,cs[j]? = some u → w.cell? ⟨Bk.c,j,none⟩ = some u := fun j u hj => by
      have := hcell j u hj
      rwa [Addr.add_lit,ql3] at this
    have hvs : ∀ j u,vs[j]? = some u → w.cell? ⟨vB.c,0 + j,none⟩ = some u := fun j u hj => by
      have := hvcell j u hj
      rwa [Addr.add_lit] at this
    have hsome : ∀ j,j < Bk.m → (w.cell? ⟨Bk.c,j,none⟩).isSome = true := fun j hj => Option.isSome_iff_exists.2 (hroom j hj)
    have hdl : (cs.drop (i * 3)).length = (l.length - i) * 3 := by rw [List.length_drop,hcl]; omega
    -- the row as it is to be
    have hE : (l.take i ++ x :: l.drop i).flatMap f = (l.flatMap f).take (i * 3) ++ f x ++ (l.flatMap f).drop (i * 3) := by
      rw [fm_take hf,fm_drop hf,qmP,qmn,qmV]
    have hrel2 : LRel φ ((l.take i ++ x :: l.drop i).flatMap f) (cs.take (i * 3) ++ vs ++ cs.drop (i * 3)) := by
      rw [hE]
      exact ((lr_tk hrel (i * 3)).append hvr).append (lr_dp hrel (i * 3))
    have hll : (l.take i ++ x :: l.drop i).length = l.length + 1 := by rw [ql7,ql0,qnc,List.length_drop]; omega
    have hto : ∀ {w2 : World} {c : Nat},(∀ j,j < (l.length + 1) * 3 → w2.cell? ⟨c,j,none⟩ = (cs.take (i * 3) ++ vs ++ cs.drop (i * 3))[j]?) → ∀ j v,((l.take i ++ x :: l.drop i).flatMap f)[j]? = some v → ∃ v',w2.cell? ⟨c,j,none⟩ = some v' ∧ VRel φ v v' := by
      intro w2 c hw j v hj
      have hlt : j < ((l.take i ++ x :: l.drop i).flatMap f).length := (List.getElem?_eq_some_iff.1 hj).1
      have hlt2 := hlt
      rw [qcQ hf,hll] at hlt2
      rw [hrel2.1] at hlt
      exact ⟨_,by rw [hw j hlt2]; exact qlK hlt,hrel2.2 j v _ hj (qlK hlt)⟩
    by_cases hroom1 : l.length + 1 ≤ k'
    · obtain ⟨v0,hv0⟩ := hroom 0 (by omega)
      obtain ⟨tB,kB,hsb,hkB⟩ := qiu hv0
      obtain ⟨tA,kA,hsa,_⟩ := qiu (hvs 0 _ (qlK (by omega)))
      refine (qlr Bk.c l.length k' i vB.c 0 vc cs vs w hil' hroom1 hlim hvne hcl hvl3 hcs (fun j hj => hsome j (by omega)) (fun j => R.unfrozen hb hW j) (fun j => R.unfrozen hvb hWv j) hvs h1c hv1 tA tB kA kB hsa hsb hkB).mono fun e w' he => ?_
      obtain ⟨rfl,rfl⟩ := he
      have e1 := fun j => sc_cell (w := w.drew) Bk.c ((i + 1) * 3) (cs.drop (i * 3)) (fun t ht => hsome ((i + 1) * 3 + t) (by rw [hdl] at ht; omega)) j
      have e2 := fun j => sc_cell (w := w.drew.setCells Bk.c ((i + 1) * 3) (cs.drop (i * 3))) Bk.c (i * 3) vs (fun t ht => qb7 _ _ _ (hsome (i * 3 + t) (by omega))) j
      obtain ⟨hh,hR⟩ := redo R hb hm ((l.take i ++ x :: l.drop i).flatMap f) (w2 := (w.drew.setCells Bk.c ((i + 1) * 3) (cs.drop (i * 3))).setCells Bk.c (i * 3) vs)
        (fun H' R' hd => Rel.scribble hW hd _ _ (Rel.scribble hW hd _ _ R'.drew))
        (fun j hj => Option.isSome_iff_exists.1 (qb7 _ _ _ (qb7 _ _ _ (hsome j hj))))
        (hto fun j hj => by
          rw [e2,e1,qiE (n := l.length) hi hcl hvl3,hdl,hvl3]
          by_cases h1 : j < i * 3
          · rw [if_neg (by omega),if_neg (by omega),if_pos h1]
            show w.cell? _ = _
            have : j < cs.length := by omega
            rw [qlK this]
            exact hcs j _ (qlK this)
          · rw [if_neg h1]
            by_cases h2 : j < i * 3 + 3
            · rw [if_pos (by omega),if_pos h2]
            · rw [if_neg (by omega),if_neg h2,if_pos (by omega),qmo]
              congr 1; omega)
      refine ⟨.ret (Sl.val ⟨newAt H.size,l.length + 1,1⟩),_,_,hh,.sl 0 _ 1 k' (Emb.add_self _ _ _) hroom1 (.inr (by rw [hsz]; omega)),hR,⟨_,rfl,h _ _ (.inr ⟨H.size,?_,?_,?_,?_⟩) ?_ ?_⟩⟩
      · rw [hll]; rfl
      · omega
      · simp [qe,qP]
      · rw [hsz]; simp [qm,qP]
      · simp [qe,qP]
      · intro b' hb' hne
        have hne' : b' ≠ b := hne _ rfl
        rw [qv (by simp only [qP]; omega),qcy hne']
    · have hroom2 : k' < l.length + 1 := by omega
      refine (qk4 Bk.c l.length k' i vB.c 0 vc cs vs w hil' hn hroom2 (by omega) hcl hvl3 hcs hvs h1c hv1).mono fun e w' he => ?_
      obtain ⟨rfl,rfl⟩ := he
      have hG := grownCap_ge w (l.length + 1) k' 168
      generalize hgc : grownCap w (l.length + 1) k' 168 = G at hG ⊢
      obtain ⟨ROW,hROW⟩ : ∃ ROW : Array Value,ROW = (cs.take (i * 3)).toArray ++ qmG zexA (l.length + 1 - i) ++ qmG zexA (G - (l.length + 1)) := ⟨_,rfl⟩
      have hRs : ROW.size = G * 3 := by
        rw [hROW]
        simp [qmG,qhB,hcl]
        omega
      have hRt : ∀ j,j < i * 3 → ROW[j]? = cs[j]? := fun j hj => by
        rw [hROW,Array.append_assoc,Array.getElem?_append_left (by simp [hcl]; omega)]
        simp [qmr,hj]
      rw [← hROW]
      clear hROW
      have R1 := R.push ⟨[],.rw,3⟩
      have hfresh := R.fresh
      have hlay : Rel W (φ.add H.size ⟨w.heap.size,ROW.size,3⟩) (H.push ⟨[],.rw,3⟩) (w.alloc (.cells ROW 168)) :=
        qc1 R1 (b := H.size) (by simp [AH.push]) hfresh 168 (cells := []) (esz := 3) (by simp [AH.push]) (by simp) (fun j v hj => by simp at hj)
      have hcellN : ∀ j,(w.alloc (.cells ROW 168)).cell? ⟨w.heap.size,j,none⟩ = ROW[j]? := fun j => World.cell?_alloc_at (w := w) ROW _ w.heap.size j rfl
      have hsomeN : ∀ j,j < G * 3 → ((w.alloc (.cells ROW 168)).cell? ⟨w.heap.size,j,none⟩).isSome = true := fun j hj => by
        rw [hcellN,Array.getElem?_eq_getElem (by omega)]; rfl
      have hb1 : (φ.add H.size ⟨w.heap.size,ROW.size,3⟩) H.size = some ⟨w.heap.size,ROW.size,3⟩ := Emb.add_self _ _ _
      have hm1 : ((H.push ⟨[],.rw,3⟩).get H.size).md = .rw := by simp [AH.push]
      have hWN : W.heap.size ≤ w.heap.size := R.size
      have e1 := fun j => sc_cell (w := (w.alloc (.cells ROW 168)).drew) w.heap.size (i * 3) vs (fun t ht => hsomeN (i * 3 + t) (by omega)) j
      have e2 := fun j => sc_cell (w := ((w.alloc (.cells ROW 168)).drew.setCells w.heap.size (i * 3) vs).drew) w.heap.size ((i + 1) * 3) (cs.drop (i * 3)) (fun t ht => qb7 (w := (w.alloc (.cells ROW 168)).drew) _ _ _ (hsomeN ((i + 1) * 3 + t) (by rw [hdl] at ht; omega))) j
      have hle : φ.le (φ.add H.size ⟨w.heap.size,ROW.size,3⟩) := Emb.le_add hfresh
      obtain ⟨hh,hR⟩ := redo hlay hb1 hm1 ((l.take i ++ x :: l.drop i).flatMap f) (w2 := (((w.alloc (.cells ROW 168)).drew.setCells w.heap.size (i * 3) vs).drew).setCells w.heap.size ((i + 1) * 3) (cs.drop (i * 3)))
        (fun H' R' hd => Rel.scribble hWN hd _ _ (Rel.scribble hWN hd _ _ R'.drew).drew)
        (fun j hj => Option.isSome_iff_exists.1 (qb7 _ _ _ (qb7 (w := (w.alloc (.cells ROW 168)).drew) _ _ _ (hsomeN j (by rw [← hRs]; exact hj)))))
        (fun j v hj => by
          obtain ⟨v',hv1,hv2⟩ := hto (w2 := (((w.alloc (.cells ROW 168)).drew.setCells w.heap.size (i * 3) vs).drew).setCells w.heap.size ((i + 1) * 3) (cs.drop (i * 3))) (c := w.heap.size) (fun j hj => by
            rw [e2,qiE (n := l.length) hi hcl hvl3,hdl]
            have e1' : (((w.alloc (.cells ROW 168)).drew.setCells w.heap.size (i * 3) vs).drew).cell? ⟨w.heap.size,j,none⟩ = _ := e1 j
            rw [e1',hvl3]
            by_cases h1 : j < i * 3
            · rw [if_neg (by omega),if_neg (by omega),if_pos h1]
              exact (hcellN j).trans (hRt j h1)
            · rw [if_neg h1]
              by_cases h2 : j < i * 3 + 3
              · rw [if_neg (by omega),if_pos (by omega),if_pos h2]
              · rw [if_pos (by omega),if_neg h2,qmo]
                congr 1; omega) j v hj
          exact ⟨v',hv1,hv2.mono hle⟩)
      have hh0 : Hist φ H (φ.add H.size ⟨w.heap.size,ROW.size,3⟩) (H.push ⟨[],.rw,3⟩) := by
        refine ⟨hle,by simp [AH.push],fun b hb hn => ?_,fun b hb _ => ?_⟩
        · have : b ≠ H.size := by omega
          simp [Emb.add,this,hn]
        · have : b ≠ H.size := by omega
          simp [AH.push,this]
      refine ⟨.ret (Sl.val ⟨newAt (H.push ⟨[],.rw,3⟩).size,l.length + 1,1⟩),_,_,hh0.trans hh,.sl 0 _ 1 G (Emb.add_self _ _ _) hG (.inr (by rw [hRs]; simp)),hR,⟨_,rfl,h _ _ (.inr ⟨H.size + 1,?_,?_,?_,?_⟩) ?_ ?_⟩⟩
      · rw [hll]; rfl
      · omega
      · simp [qe,qP]
      · simp [qm,qP,qe]
      · simp [qe,qP]; omega
      · intro b' hb' hne
        rw [qv (by simp only [qP,qe]; omega),qcy (by omega),qv (by omega)]
  | _ => cases hxv
end
def placeA (d : Array Int) : Nat → List Int → Array Int
 | _,[] => d
 | o,v :: vs => placeA (d.setIfInBounds o v) (o + 1) vs
theorem qjQ : ∀ (vs : List Int) (d : Array Int) (o k : Nat),o + vs.length ≤ d.size → (placeA d o vs)[k]? = if o ≤ k ∧ k < o + vs.length then vs[k - o]? else d[k]? := by
 intro vs
 induction vs with
 | nil => intro d o k _; rw [if_neg (by simp)]; rfl
 | cons v r ih =>
  intro d o k h
  simp only [ql0] at h
  rw [placeA,ih _ _ _ (by simp; omega)]
  by_cases h1 : o + 1 ≤ k ∧ k < o + 1 + r.length
  ·rw [if_pos h1,if_pos (by simp; omega),show k - o = (k - (o + 1)) + 1 by omega,List.getElem?_cons_succ]
  ·rw [if_neg h1]
   by_cases h2 : k = o
   ·subst h2
    rw [if_pos (by simp),Array.getElem?_setIfInBounds,if_pos rfl,if_pos (by omega)]; simp
   ·rw [if_neg (by simp; omega),Array.getElem?_setIfInBounds,if_neg (fun h => h2 h.symm)]
theorem qh7 (w : World) (b : Nat) : ∀ (vs : List Int) (d : Array Int) (o : Nat),o + vs.length ≤ d.size → (Sort.putRow (qlI .i64) w b 0 d).setCells b o (vs.map (qlI .i64)) = Sort.putRow (qlI .i64) w b 0 (placeA d o vs) := by
 intro vs
 induction vs with
 | nil => intro d o _; rfl
 | cons v r ih =>
  intro d o h
  simp only [ql0] at h
  have h1 := Sort.putRow_set (qlI .i64) w b 0 d o v (by omega)
  rw [ql3] at h1
  rw [List.map_cons,World.setCells,h1,ih _ _ (by simp; omega)]
  rfl
theorem qf4 {w : World} {b : Nat} {d0 : Array Int} (h : Sort.Holds (qlI .i64) w b 0 d0) {zs : List Int} (hz : zs.length = d0.size) : Sort.putRow (qlI .i64) w b 0 zs.toArray = w.setCells b 0 (zs.map (qlI .i64)) := by
 have h1 := qh7 w b zs d0 0 (by omega)
 rw [Sort.putRow_self _ _ _ _ _ h] at h1
 rw [h1]
 congr 1
 apply Array.ext_getElem?
 intro k
 rw [qjQ _ _ _ _ (by omega)]
 by_cases hk : k < zs.length
 ·rw [if_pos (by omega)]; simp
 ·rw [if_neg (by omega),qm7 (xs := d0) (by omega),qm7 (by simp; omega)]
section
variable {H : AH} {B : Nat} {q : Sl} {l : List Int}
theorem iV_map (l : List Int) : l.flatMap iV = l.map (qlI .i64) := by
 induction l with
 | nil => rfl
 | cons a r ih => rw [qmn,ih]; rfl
theorem qhl {φ : Emb} {xs : List Int} {ys : List Value} (h : LRel φ (xs.map (qlI .i64)) ys) : ys = xs.map (qlI .i64) := by
 apply qmc
 intro i
 by_cases hi : i < xs.length
 ·have hy : i < ys.length := by rw [← h.1]; simpa using hi
  have h1 : (xs.map (qlI .i64))[i]? = some (qlI .i64 xs[i]) := by rw [qlW,qlK hi]; rfl
  have := vrel_i (h.2 i _ _ h1 (qlK hy))
  rw [h1,qlK hy,this]
 ·rw [qlR (by rw [← h.1]; simp; omega),qlR (by simp; omega)]
def sortL (l : List Int) : List Int := l.mergeSort fun x y => decide (x ≤ y)
theorem qdF (l : List Int) : (sortL l).length = l.length := List.length_mergeSort _
theorem qhD {W w : World} {φ : Emb} {H : AH} (R : Rel W φ H w) (n : Nat) : Rel W φ H (Sort.ahead w n) :=
 { below := R.below,size := R.size,tape := R.tape,os := R.os,output := R.output,froz := R.froz,dom := R.dom,cell := R.cell,room := R.room,own := R.own,out := R.out }
theorem qhC {α : Type} {f : α → List Value} {b : Nat} {l : List α} (hb : H.get b = ⟨l.flatMap f,.rw,1⟩) : (H.get b).md = .rw := by rw [hb]
theorem qcH.s {k : AH → Prop} (hO : Own B H q 1 iV l) (hl : l.length ≤ 1000000000)
  (h : ∀ H',Own B H' q 1 iV (sortL l) → H.size ≤ H'.size → (∀ b,b < H.size → (∀ a,q.a = some a → b ≠ a.block) → H'.get b = H.get b) → k H') : qcH q H k := by
 unfold qcH
 refine ⟨by kernel_rfl,fun W w φ args' hlr R => ?_⟩
 obtain ⟨a0,rfl,h0⟩ : ∃ a,args' = #[a] ∧ VRel φ q.val a := by
  obtain ⟨a,rfl⟩ : ∃ a,args' = #[a] := by
   have h2 := hlr.1
   rcases args' with ⟨l'⟩
   match l',h2 with
   | [a],_ => exact ⟨a,rfl⟩
  exact ⟨a,rfl,hlr.2 0 _ _ rfl rfl⟩
 rcases hO with ⟨rfl,rfl⟩ | ⟨b,rfl,hB,hbH,hg⟩
 ·simp only [Sl.val] at h0
  generalize hxv : qlV none 0 0 = xv at h0
  have hd : ∃ p c,a0 = .slice p 0 c := by cases h0 <;> first | exact ⟨_,_,rfl⟩ | cases hxv
  obtain ⟨p,c,rfl⟩ := hd
  refine (Any.slices_Sort_int_none laysSort p c w).mono fun e w' he => ?_
  obtain ⟨rfl,rfl⟩ := he
  exact ⟨.ret (.tuple #[]),φ,H,Hist.refl _ _,.undef _,R,h H (.inl ⟨rfl,by simp [sortL]⟩) (qlS _) (fun _ _ _ => rfl)⟩
 simp only [Sl.val] at h0
 generalize hxv : qlV (some ⟨b,0,none⟩) l.length 1 = xv at h0
 cases h0 with
 | sl0 => cases hxv
 | sle a0 a' k' => simp at hxv
 | @sl b' Bk o _ _ k' hb hn hk =>
  injection hxv with x1 x2 x3
  injection x1 with x1
  injection x1 with x1 x4
  subst x1 x2 x3 x4
  have hm := qhC hg
  obtain ⟨hW,hroom,hes⟩ := R.room b Bk hb hm
  obtain ⟨cs,hrel,hcell⟩ := R.cells hb (by simp [hm])
  rw [hg] at hrel
  simp only [iV_map] at hrel
  have hcs := qhl hrel
  subst hcs
  have hH : Sort.Holds (qlI .i64) w Bk.c 0 l.toArray := by
   intro j hj
   have hj' : j < l.length := by simpa using hj
   refine ⟨?_,R.unfrozen hb hW _⟩
   have h1 := hcell j (qlI .i64 l[j]) (by rw [qlW,qlK hj']; rfl)
   rw [Addr.add_lit] at h1
   rw [h1]
   simp [hj']
  refine (Any.slices_Sort_int laysSort Bk.c 0 k' l w hH (R.dom b Bk hb).2 (by omega)).mono fun e w' he => ?_
  obtain ⟨rfl,n,os,rfl⟩ := he
  have hsets := qf4 (w := Sort.ahead w n) (d0 := l.toArray) (zs := sortL l) hH (by rw [qdF]; simp)
  have hput := Rel.put (P := Tryz.prog) (qhD R n) (b := b) (o := 0) hb (vs := (sortL l).map (qlI .i64)) (vs' := (sortL l).map (qlI .i64)) ⟨rfl,hm,by simp [hg,iV_map,qdF]⟩ ⟨rfl,fun i x y hx hy => by
   rw [hx] at hy; injection hy with hy; subst hy
   rw [qlW,Option.map_eq_some_iff] at hx
   obtain ⟨z,_,rfl⟩ := hx
   exact .int _ _⟩ (fun v hv => by rw [qml] at hv; obtain ⟨z,_,rfl⟩ := hv; rfl)
  have hR := (hput.1).grow os
  rw [← hsets] at hR
  have hgp : (H.put ⟨b,0,none⟩ ((sortL l).map (qlI .i64))).get b = ⟨(sortL l).flatMap iV,.rw,1⟩ := by
   simp only [AH.put,qu,if_true,hg,AObj.mk.injEq,and_true]
   rw [iV_map,iV_map]
   apply qmc
   intro i
   rw [qb5 _ _ _ _ (by simp [qdF])]
   by_cases hi : i < (sortL l).length
   ·rw [if_pos (by simp; omega)]; rfl
   ·rw [if_neg (by simp; omega),qlR (by simp; rw [← qdF l]; omega),qlR (by simp; omega)]
  refine ⟨.ret (.tuple #[]),φ,H.put ⟨b,0,none⟩ ((sortL l).map (qlI .i64)),⟨Emb.le_refl φ,qlS _,fun _ _ h => h,fun x hx hn => ?_⟩,.undef _,hR,h _ (.inr ⟨b,?_,hB,hbH,hgp⟩) (qlS _) (fun x hx hne => ?_)⟩
  ·have : x ≠ b := fun he => by rw [he,hb] at hn; cases hn
   simp [AH.put,qu,this]
  ·rw [qdF]
  ·have : x ≠ b := hne _ rfl
   simp [AH.put,qu,this]
 | _ => cases hxv
theorem qhb (d : Array Int) (j : Nat) : Lib.keeps d j = true ↔ j = 0 ∨ d[j]! ≠ d[j - 1]! := by unfold Lib.keeps; rw [decide_eq_true_eq]
theorem qgz (d : Array Int) : ∀ m,(Lib.compactUpTo d m).length ≤ m := by
 intro m
 induction m with
 | zero => exact qlS _
 | succ m ih =>
  rw [Lib.compactUpTo_succ,ql7]
  split
  ·simp only [ql0,List.length_nil]; omega
  ·simp only [List.length_nil]; omega
theorem qjc (l : List Int) : (qng l).length ≤ l.length := qgz _ _
theorem qfx {d : Array Int} (hs : ∀ i j,i < j → j < d.size → d[i]! ≤ d[j]!) : ∀ m,m ≤ d.size → (Lib.compactUpTo d m).Pairwise (· < ·) ∧ (∀ x,x ∈ Lib.compactUpTo d m ↔ ∃ i,i < m ∧ d[i]! = x) := by
 intro m
 induction m with
 | zero => intro _; exact ⟨List.Pairwise.nil,fun x => ⟨fun h => (by cases h),fun ⟨i,h,_⟩ => (by omega)⟩⟩
 | succ m ih =>
  intro hm
  obtain ⟨h1,h2⟩ := ih (by omega)
  rw [Lib.compactUpTo_succ]
  by_cases hk : Lib.keeps d m = true
  ·rw [if_pos hk]
   rw [qhb] at hk
   refine ⟨?_,fun x => ?_⟩
   ·rw [List.pairwise_append]
    refine ⟨h1,List.pairwise_singleton _ _,fun a ha b hb => ?_⟩
    rw [List.mem_singleton] at hb
    subst hb
    obtain ⟨i,hi,rfl⟩ := (h2 a).1 ha
    rcases hk with rfl | hk
    ·omega
    ·have e1 : d[i]! ≤ d[m - 1]! := by
      by_cases hi1 : i = m - 1
      ·rw [hi1]; exact Int.le_refl _
      ·exact hs i (m - 1) (by omega) (by omega)
     have e2 := hs (m - 1) m (by omega) (by omega)
     omega
   ·rw [List.mem_append,List.mem_singleton,h2]
    constructor
    ·rintro (⟨i,hi,e⟩ | rfl)
     ·exact ⟨i,by omega,e⟩
     ·exact ⟨m,by omega,rfl⟩
    ·rintro ⟨i,hi,e⟩
     by_cases him : i = m
     ·subst him; exact .inr e.symm
     ·exact .inl ⟨i,by omega,e⟩
  ·rw [if_neg hk,qm1]
   have hk' : ¬ (m = 0 ∨ d[m]! ≠ d[m - 1]!) := fun hh => hk ((qhb d m).2 hh)
   refine ⟨h1,fun x => ?_⟩
   rw [h2]
   constructor
   ·rintro ⟨i,hi,e⟩; exact ⟨i,by omega,e⟩
   ·rintro ⟨i,hi,e⟩
    by_cases him : i = m
    ·subst him
     have : d[i]! = d[i - 1]! := by
      by_cases he : d[i]! = d[i - 1]!
      ·exact he
      ·exact absurd (.inr he) hk'
     exact ⟨i - 1,by omega,by rw [← this,e]⟩
    ·exact ⟨i,by omega,e⟩
theorem qhV (l : List Int) : (sortL l).Pairwise (· ≤ ·) := by
 have := List.pairwise_mergeSort (le := fun (x y : Int) => decide (x ≤ y)) (fun a b c h1 h2 => by simp at *; omega) (fun a b => by simp; omega) l
 unfold sortL
 exact this.imp (fun h => by simpa using h)
theorem qkd {l : List Int} {x : Int} : x ∈ sortL l ↔ x ∈ l := List.mem_mergeSort
theorem qg2 (l : List Int) : (qng (sortL l)).Pairwise (· < ·) ∧ ∀ x,x ∈ qng (sortL l) ↔ x ∈ l := by
 have hs := qhV l
 have hd : ∀ i j,i < j → j < (sortL l).toArray.size → (sortL l).toArray[i]! ≤ (sortL l).toArray[j]! := by
  intro i j hij hj
  have hj' : j < (sortL l).length := by simpa using hj
  have := List.pairwise_iff_getElem.1 hs i j (by omega) hj' hij
  simpa [hj',show i < (sortL l).length by omega] using this
 obtain ⟨h1,h2⟩ := qfx hd (sortL l).length (by simp)
 refine ⟨h1,fun x => ?_⟩
 show x ∈ Lib.compactUpTo _ _ ↔ _
 rw [h2,← qkd (l := l),List.mem_iff_getElem]
 constructor
 ·rintro ⟨i,hi,e⟩
  exact ⟨i,hi,by simpa [hi] using e⟩
 ·rintro ⟨i,hi,e⟩
  exact ⟨i,hi,by simpa [hi] using e⟩
theorem qkI : ∀ {l1 l2 : List Int},l1.Pairwise (· < ·) → l2.Pairwise (· < ·) → (∀ x,x ∈ l1 ↔ x ∈ l2) → l1 = l2 := by
 intro l1
 induction l1 with
 | nil =>
  intro l2 _ _ h
  cases l2 with
  | nil => rfl
  | cons b s => have := (h b).2 (by simp); cases this
 | cons a r ih =>
  intro l2 h1 h2 h
  cases l2 with
  | nil => have := (h a).1 (by simp); cases this
  | cons b s =>
   rw [List.pairwise_cons] at h1 h2
   have hab : a = b := by
    have ha := (h a).1 (by simp)
    have hb := (h b).2 (by simp)
    rw [ql6] at ha hb
    rcases ha with ha | ha
    ·exact ha
    ·rcases hb with hb | hb
     ·exact hb.symm
     ·have := h2.1 a ha; have := h1.1 b hb; omega
   subst hab
   rw [ih h1.2 h2.2 fun x => ?_]
   constructor
   ·intro hx
    have := (h x).1 (by simp [hx])
    rw [ql6] at this
    rcases this with rfl | this
    ·have := h1.1 x hx; omega
    ·exact this
   ·intro hx
    have := (h x).2 (by simp [hx])
    rw [ql6] at this
    rcases this with rfl | this
    ·have := h2.1 x hx; omega
    ·exact this
theorem qck.s {k : Sl → AH → Prop} (hO : Own B H q 1 iV l) (hl : l.length ≤ 1000000000)
    (h : ∀ s' H',Own H.size H' s' 1 iV (qng l) → H.size ≤ H'.size → (∀ b,b < H.size → (∀ a,q.a = some a → b ≠ a.block) → H'.get b = H.get b) → k s' H') : qck q H k := by
  unfold qck
  refine ⟨by kernel_rfl,fun W w φ args' hlr R => ?_⟩
  obtain ⟨a0,rfl,h0⟩ : ∃ a,args' = #[a] ∧ VRel φ q.val a := by
    obtain ⟨a,rfl⟩ : ∃ a,args' = #[a] := by
      have h2 := hlr.1
      rcases args' with ⟨l'⟩
      match l',h2 with
      | [a],_ => exact ⟨a,rfl⟩
    exact ⟨a,rfl,hlr.2 0 _ _ rfl rfl⟩
  rcases hO with ⟨rfl,rfl⟩ | ⟨b,rfl,hB,hbH,hg⟩
  · simp only [Sl.val] at h0
    have h00 := h0
    generalize hxv : qlV none 0 0 = xv at h0
    have hd : ∃ p c,a0 = .slice p 0 c := by cases h0 <;> first | exact ⟨_,_,rfl⟩ | cases hxv
    obtain ⟨p,c,rfl⟩ := hd
    refine (Any.slices_Compact_int_empty laysCompact p c w).mono fun e w' he => ?_
    obtain ⟨rfl,rfl⟩ := he
    exact ⟨.ret (.slice none 0 0),φ,H,Hist.refl _ _,h00,R,⟨⟨none,0,0⟩,rfl,h _ H (.inl ⟨rfl,rfl⟩) (qlS _) (fun _ _ _ => rfl)⟩⟩
  simp only [Sl.val] at h0
  generalize hxv : qlV (some ⟨b,0,none⟩) l.length 1 = xv at h0
  cases h0 with
  | sl0 => cases hxv
  | sle a0 a' k' => simp at hxv
  | @sl b' Bk o _ _ k' hb hn hk =>
    injection hxv with x1 x2 x3
    injection x1 with x1
    injection x1 with x1 x4
    subst x1 x2 x3 x4
    have hm := qhC hg
    obtain ⟨hW,hroom,hes⟩ := R.room b Bk hb hm
    have hsz : Bk.sz = 1 := by
      rcases hes with h0 | h0
      · rw [hg] at h0; simp at h0
      · rw [← h0,hg]
    have hk' : k' ≤ Bk.m := by rcases hk with h0 | h0
                               · omega
                               · rw [hsz] at h0; omega
    obtain ⟨cs,hrel,hcell⟩ := R.cells hb (by simp [hm])
    rw [hg] at hrel
    simp only [iV_map] at hrel
    have hcs := qhl hrel
    subst hcs
    have hH : Sort.Holds (qlI .i64) w Bk.c 0 l.toArray := by
      intro j hj
      have hj' : j < l.length := by simpa using hj
      refine ⟨?_,R.unfrozen hb hW _⟩
      have h1 := hcell j (qlI .i64 l[j]) (by rw [qlW,qlK hj']; rfl)
      rw [Addr.add_lit] at h1
      rw [h1]
      simp [hj']
    refine (Any.slices_Compact_int laysCompact Bk.c 0 k' l w hH (by omega) hn).mono fun e w' he => ?_
    obtain ⟨rfl,n,rfl⟩ := he
    have hcl := qjc l
    have hzl : (qng l ++ qlN (l.length - (qng l).length) 0).length = l.length := by rw [ql7,List.length_replicate]; omega
    have hsets := qf4 (w := Sort.ahead w n) (d0 := l.toArray) (zs := qng l ++ qlN (l.length - (qng l).length) 0) hH (by rw [hzl]; simp)
    rw [hsets]
    have hsome : ∀ j,j < Bk.m → ((Sort.ahead w n).cell? ⟨Bk.c,j,none⟩).isSome = true := fun j hj => Option.isSome_iff_exists.2 (hroom j hj)
    have e1 := fun j => sc_cell (w := Sort.ahead w n) Bk.c 0 ((qng l ++ qlN (l.length - (qng l).length) 0).map (qlI .i64)) (fun t ht => hsome (0 + t) (by rw [List.length_map,hzl] at ht; omega)) j
    obtain ⟨hh,hR⟩ := redo R hb hm ((qng l).flatMap iV) (w2 := (Sort.ahead w n).setCells Bk.c 0 ((qng l ++ qlN (l.length - (qng l).length) 0).map (qlI .i64)))
      (fun H' R' hd => Rel.scribble hW hd _ _ (qhD R' n))
      (fun j hj => Option.isSome_iff_exists.1 (qb7 _ _ _ (hsome j hj)))
      (fun j v hj => by
        rw [iV_map] at hj
        have hlt : j < (qng l).length := by have := (List.getElem?_eq_some_iff.1 hj).1; simpa using this
        rw [e1,if_pos (by rw [List.length_map,hzl]; omega),Nat.sub_zero,List.map_append,qmd (by simpa using hlt)]
        refine ⟨v,hj,?_⟩
        rw [qlW,Option.map_eq_some_iff] at hj
        obtain ⟨z,_,rfl⟩ := hj
        exact .int _ _)
    refine ⟨.ret (Sl.val ⟨newAt H.size,(qng l).length,1⟩),_,_,hh,.sl 0 _ 1 k' (Emb.add_self _ _ _) (show (qng l).length ≤ k' by omega) (.inr (by rw [hsz]; omega)),hR,⟨_,rfl,h _ _ (.inr ⟨H.size,rfl,qlS _,?_,?_⟩) ?_ ?_⟩⟩
    · simp [qe,qP]
    · rw [hsz]; simp [qm,qP]
    · simp [qe,qP]
    · intro b' hb' hne
      have hne' : b' ≠ b := hne _ rfl
      rw [qv (by simp only [qP]; omega),qcy hne']
  | _ => cases hxv
end
def linesR (l : List (Int × Int)) : List Int := l.filterMap fun e => if 0 ≤ e.1 then some (e.1 / 8) else none
theorem qju {l : List (Int × Int)} {x : Int} : x ∈ linesR l ↔ ∃ e ∈ l,0 ≤ e.1 ∧ x = e.1 / 8 := by
 unfold linesR
 rw [List.mem_filterMap]
 constructor
 ·rintro ⟨e,he,h⟩
  split at h
  ·injection h with h; exact ⟨e,he,by assumption,h.symm⟩
  ·cases h
 ·rintro ⟨e,he,h0,rfl⟩
  exact ⟨e,he,by rw [if_pos h0]⟩
theorem qkL : ∀ (l : List (Int × Int)) (out : List Int) (x : Int),x ∈ l.foldl eStep out ↔ x ∈ out ∨ ∃ e ∈ l,0 ≤ e.1 ∧ x = e.1 / 8 := by
 intro l
 induction l with
 | nil => intro out x; simp
 | cons e r ih =>
  intro out x
  rw [List.foldl_cons,ih]
  have : x ∈ eStep out e ↔ x ∈ out ∨ (0 ≤ e.1 ∧ x = e.1 / 8) := by
   unfold eStep
   split
   ·constructor
    ·intro h; exact .inl h
    ·rintro (h | h)
     ·exact h
     ·omega
   ·rw [qgv]
    constructor
    ·rintro (h | h)
     ·exact .inr ⟨by omega,h⟩
     ·exact .inl h
    ·rintro (h | h)
     ·exact .inr h
     ·exact .inl h.2
  rw [this]
  constructor
  ·rintro ((h | h) | ⟨e',he',h⟩)
   ·exact .inl h
   ·exact .inr ⟨e,by simp,h⟩
   ·exact .inr ⟨e',by simp [he'],h⟩
  ·rintro (h | ⟨e',he',h⟩)
   ·exact .inl (.inl h)
   ·rw [ql6] at he'
    rcases he' with rfl | he'
    ·exact .inl (.inr h)
    ·exact .inr ⟨e',he',h⟩
theorem qcV {l : List (Int × Int)} {x : Int} : x ∈ eLines l ↔ ∃ e ∈ l,0 ≤ e.1 ∧ x = e.1 / 8 := by
 unfold eLines
 rw [qkL]; simp
theorem qls (l : List (Int × Int)) : qng (sortL (linesR l)) = eLines l := by
 obtain ⟨h1,h2⟩ := qg2 (linesR l)
 have h3 := (eFold l [] List.Pairwise.nil).1
 refine qkI h1 h3 fun x => ?_
 rw [h2,qju]
 exact qcV.symm
section
variable {H : AH}
theorem qaS.s {x0 : Sl} {l : List (Int × Int)} {k : Sl → AH → Prop} (hr : ql5 H x0 2 eU l) (hl : l.length ≤ 1000000) (hi : ∀ e ∈ l,isI e.1)
  (h : ∀ s H',qa H H' → Own H.size H' s 1 iV (eLines l) → k s H') : qaS x0 H k := by
 refine qaS.link ?_
 unfold qaS.b
 refine qI (t := ((⟨none,0,0⟩,(0 : Int)) : Sl × Int)) (I := fun (t : Sl × Int) H' => ∃ j : Nat,t.2 = (j : Int) ∧ j ≤ l.length ∧ qa H H' ∧ Own H.size H' t.1 1 iV (linesR (l.take j))) (m := fun (t : Sl × Int) _ => qlQ ((l.length : Int) - t.2)) ?_ ⟨0,rfl,by omega,qa.refl H,.inl ⟨rfl,rfl⟩⟩
 intro t H1 hI it hit
 obtain ⟨s,t2⟩ := t
 obtain ⟨j,e1,hj,hk,hO⟩ := hI
 simp only at e1 hO
 subst e1
 have hlen : ∀ j,(linesR (l.take j)).length ≤ 1000000 := fun j => by
  have := List.length_filterMap_le (fun e : Int × Int => if 0 ≤ e.1 then some (e.1 / 8) else none) (l.take j)
  rw [qnc] at this
  unfold linesR; omega
 unfold qaS.l2
 simp only [qi,decide_eq_true_eq,hr.1]
 by_cases hlt : (j : Int) < (l.length : Int)
 rotate_left 1
 ·rw [if_neg hlt]
  have : j = l.length := by omega
  subst this
  rw [qmI] at hO
  have hlr := hlen l.length
  rw [qmI] at hlr
  unfold qaS.j1
  have ownlow : ∀ {q : Sl} {B : Nat} {H' : AH} {z : List Int},Own B H' q 1 iV z → ∀ a,q.a = some a → B ≤ a.block := by
   intro q B H' z hq a ha
   rcases hq with ⟨h0,_⟩ | ⟨b,h0,h1,_⟩
   ·rw [h0] at ha; cases ha
   ·rw [h0] at ha; injection ha with ha; rw [← ha]; exact h1
  refine qcH.s hO (by omega) ?_
  intro H23 hO23 hz23 hf23
  have hk23 : qa H H23 := ⟨by have := hk.1; omega,fun b hb => by rw [hf23 b (by have := hk.1; omega) (fun a ha he => by have := ownlow hO a ha; omega),hk.2 b hb]⟩
  refine qck.s hO23 (by rw [qdF]; omega) ?_
  intro s25 H25 hO25 hz25 hf25
  have hk25 : qa H H25 := ⟨by have := hk23.1; omega,fun b hb => by rw [hf25 b (by have := hk23.1; omega) (fun a ha he => by have := ownlow hO23 a ha; omega),hk23.2 b hb]⟩
  rw [qls] at hO25
  exact h _ _ hk25 (qbO hO25 hk23.1)
 rw [if_pos hlt]
 have hj' : j < l.length := by omega
 obtain ⟨b,o,ha,hb,hrow⟩ := (hr.keep hk).at hj'
 refine ⟨by omega,?_⟩
 rw [ha,qd,qlP,ql hrow]
 have htk : linesR (l.take (j + 1)) = linesR (l.take j) ++ (if 0 ≤ l[j].1 then [l[j].1 / 8] else []) := by
  unfold linesR
  rw [List.take_succ,qlK hj',List.filterMap_append]
  congr 1
  simp only [qnl,List.filterMap_cons,List.filterMap_nil]
  split
  ·rename_i h0; rw [if_neg]; intro hh; rw [if_pos hh] at h0; cases h0
  ·rename_i v h0
   split at h0
   ·rename_i hh; rw [if_pos hh]; injection h0 with h0; rw [h0]
   ·cases h0
 have hxi := hi _ (ql1 hj')
 unfold isI at hxi
 have hlj := hlen j
 generalize linesR (l.take j) = out at *
 generalize l[j] = x at *
 have hwj : qlJ .i64 ((j : Int) + 1) = ((j + 1 : Nat) : Int) := by rw [qg (by omega) (by omega)]; omega
 refine qbW (n := 2) rfl (eU_len x) (eU_ok x) ?_
 simp only [ed_0,qf]
 have hk2 : qa H (H1.push ⟨eU x,.rw,0⟩) := hk.push _
 have hO2 : Own H.size (H1.push ⟨eU x,.rw,0⟩) s 1 iV out := hO.keep (by simp [qe]) (fun b _ hb => qv (by omega))
 generalize H1.push ⟨eU x,.rw,0⟩ = H2 at *
 rw [hwj]
 by_cases h0 : x.1 ≥ 0
 ·rw [if_pos h0]
  rw [if_pos (show 0 ≤ x.1 from h0)] at htk
  refine ⟨by decide,?_⟩
  rw [qp,Int.tdiv_eq_ediv_of_nonneg (by omega),qg (n := x.1 / 8) (by omega) (by omega)]
  refine qbB (H0 := H) (B := H.size) (f := iV) (x := x.1 / 8) (fun _ => rfl) rfl hO2 (qlS _) hk2.1 hk2 (by simp only [lim]; omega) ?_
  intro s' H' hO' hk' _ _
  rw [← htk] at hO'
  exact hit _ _ ⟨j + 1,rfl,by omega,hk',hO'⟩ (by simp only; omega)
 ·rw [if_neg h0]
  rw [if_neg (show ¬ 0 ≤ x.1 from h0),qm1] at htk
  exact hit _ _ ⟨j + 1,rfl,by omega,hk2,by rw [htk]; exact hO2⟩ (by simp only; omega)
end
def lineOf (ws : List Int) (i : Nat) : List Int := (ws.drop (8 * i)).take 8
theorem qdb {ws : List Int} {i : Nat} (h64 : qaI ws) (hi : 8 * i + 8 ≤ ws.length) : isLine (lineOf ws i) := by
 refine ⟨by unfold lineOf; simp; omega,fun v hv => h64 v (qne (List.mem_of_mem_take hv))⟩
section
variable {H : AH}
theorem qbr.s {x0 : Sl} {ws : List Int} {i : Nat} {k : List Value → AH → Prop} (hr : ql5 H x0 1 wU ws) (h64 : qaI ws) (hi : 8 * i + 8 ≤ ws.length) (hl : ws.length ≤ 1000) (h : k (lineV (lineOf ws i)) H) : qbr x0 (i : Int) H k := by
 have hL := qdb h64 hi
 refine qcZ (κ := .agg) (v := lineV (lineOf ws i)) (H2 := H) (by simp) (qdp _) (qbr.link ?_) h
 unfold qbr.b
 rw [qp,qp,zeroV,qe]
 have hk := ((qa.refl H).push ⟨lineV (qlN 8 0),.rw,0⟩).push ⟨lineV (qlN 8 0),.rw,0⟩
 have g1 : ((H.push ⟨lineV (qlN 8 0),.rw,0⟩).push ⟨lineV (qlN 8 0),.rw,0⟩).get (H.size + 1) = ⟨lineV (qlN 8 0),.rw,0⟩ := by rw [qm,qe,if_pos rfl]
 have g0 : ((H.push ⟨lineV (qlN 8 0),.rw,0⟩).push ⟨lineV (qlN 8 0),.rw,0⟩).get H.size = ⟨lineV (qlN 8 0),.rw,0⟩ := by rw [qm,qe,if_neg (by omega),qm,if_pos rfl]
 generalize (H.push ⟨lineV (qlN 8 0),.rw,0⟩).push ⟨lineV (qlN 8 0),.rw,0⟩ = H2 at *
 rw [qg (n := (i : Int) * 8) (by omega) (by omega)]
 have hti : qlQ ((i : Int) * 8) = 8 * i := by omega
 rw [hr.1,hti]
 refine ⟨by omega,?_⟩
 have rp := qeY (qd7 (hr.keep hk) (k := 8 * i) (by omega)) (k := 8) (by simp; omega)
 have hra := qgr (g := fun v => qlI .u64 v) (fun _ => rfl) rp
 unfold copyC
 simp only
 have hmin : Nat.min (ws.length - 8 * i) 8 = 8 := Nat.min_eq_right (by omega)
 rw [hmin,if_neg (by omega)]
 refine ⟨_,hra,?_⟩
 have e1 : ((ws.drop (8 * i)).take 8).map (fun v => qlI .u64 v) = lineV (lineOf ws i) := rfl
 rw [e1,qd,qaQ]
 refine ⟨⟨rfl,by rw [g1],by rw [g1]; simp [lineV]; exact Nat.le_of_eq hL.1⟩,?_⟩
 rw [qdE (by simp) hL.1 g1]
 have g3 : (H2.upd (H.size + 1) ⟨lineV (lineOf ws i),.rw,0⟩).get (H.size + 1) = ⟨lineV (lineOf ws i),.rw,0⟩ := by rw [qu,if_pos rfl]
 have g4 : (H2.upd (H.size + 1) ⟨lineV (lineOf ws i),.rw,0⟩).get H.size = ⟨lineV (qlN 8 0),.rw,0⟩ := by rw [qu,if_neg (by omega),g0]
 have hk3 := hk.upd (b := H.size + 1) (by omega) ⟨lineV (lineOf ws i),.rw,0⟩
 generalize H2.upd (H.size + 1) ⟨lineV (lineOf ws i),.rw,0⟩ = H3 at *
 have row : ∀ {H' : AH} {b : Nat} {l : List Int},l.length = 8 → H'.get b = ⟨lineV l,.rw,0⟩ → AH.row? H' ⟨b,0,none⟩ 8 = some (lineV l) := by
  intro H' b l hl hg
  have := qr hl
  simp only [AH.row?,hg,ql4,qlU,if_false,qmY]
  rw [if_neg (by simp),qmx (by omega),if_pos ⟨by omega,qaD _⟩]
 rw [ql (row hL.1 g3)]
 refine ⟨⟨qr hL.1,qaD _⟩,?_⟩
 rw [qaQ]
 refine ⟨⟨rfl,by rw [g4],by rw [g4]; simp [lineV]; exact Nat.le_of_eq hL.1⟩,?_⟩
 rw [qdE (by simp) hL.1 g4]
 rw [ql (row hL.1 (by rw [qu,if_pos rfl]))]
 exact ⟨At.of_keeps (hk3.upd (qlS _) _),rfl⟩
theorem qbN.s {p c : Nat} {M : Mem} {pa pb pc pd : Int} {k : Int → AH → Prop} (hm : qC H p c M) (h : k (if mayP pa pb pc pd = true ∧ (M.cs.length : Int) = deviceP pa pb pc pd then (if M.down then 2 else 0) else 1) H) : qbN (some ⟨p,0,none⟩) (pl pa pb pc pd) H k := by
 refine gcI (j := .i64) _ (qbN.link ?_) h
 unfold qbN.b
 rw [qp,pl_ld]
 have hk := (qa.refl H).push ⟨pl pa pb pc pd,.rw,0⟩
 have hrow := pl_row (a := pa) (b := pb) (c := pc) (d := pd) (H := H) (e := 0)
 have hm' := hm.keeps hk
 generalize H.push ⟨pl pa pb pc pd,.rw,0⟩ = H1 at *
 refine qbg.s ?_
 unfold qbN.j1
 by_cases h1 : mayP pa pb pc pd = true
 ·rw [h1,Bool.not_true,qc,ql hrow]
  refine qai.s hm' ⟨hrow,?_⟩
  refine qby.s ?_
  by_cases h2 : (M.cs.length : Int) = deviceP pa pb pc pd
  ·rw [if_pos ⟨rfl,h2⟩,show ((M.cs.length : Int) != deviceP pa pb pc pd) = false by simpa using h2,qc]
   refine qao.s hm' ?_
   rw [qi]
   by_cases hd : M.down = true
   ·rw [if_pos hd,if_pos hd]; exact ⟨hk,rfl⟩
   ·rw [if_neg hd,if_neg hd]; exact ⟨hk,rfl⟩
  ·rw [if_neg (fun hh => h2 hh.2),show ((M.cs.length : Int) != deviceP pa pb pc pd) = true by simpa using h2,qj]
   exact ⟨hk,rfl⟩
 ·rw [if_neg (fun hh => h1 hh.1),show mayP pa pb pc pd = false by simpa using h1,Bool.not_false,qj,qj]
  exact ⟨hk,rfl⟩
theorem qbT.s {p c : Nat} {M : Mem} {pa pb pc pd : Int} {k : Option Addr → AH → Prop} (hm : qC H p c M) (hmay : mayP pa pb pc pd = true) (h0 : ¬ qcx M (16 + pa) pb pc → ∀ H',qa H H' → k none H')
  (h1 : qcx M (16 + pa) pb pc → ∀ H' t x,TAt H' t x p c (16 + pa).toNat pb.toNat pc.toNat 0 M → qa H H' → H.size ≤ t → H.size ≤ x → k (some ⟨t,0,none⟩) H') : qbT (some ⟨p,0,none⟩) (pl pa pb pc pd) H k := by
 have hmp := qV.1 hmay
 refine qbT.link ?_
 unfold qbT.b
 rw [qp,pl_ld,pl_1,qf,pl_2,qf]
 refine qbF.s ⟨pl_2,pl_1,?_⟩
 have hk := (qa.refl H).push ⟨pl pa pb pc pd,.rw,0⟩
 have hlog : logicalP pa pb pc pd = 16 + pa := by unfold logicalP; rw [if_pos hmay]
 rw [hlog]
 refine qbh.s (hm.keeps hk) (by unfold isI; omega) (fun hn => h0 hn _ hk) ?_
 intro hg H' t x hT hk' ht hx
 exact h1 hg H' t x hT (hk.trans hk') (by have := hk.1; omega) (by have := hk.1; omega)
end
theorem Mem.setH_mv {M : Mem} {i v : Int} (hi : 1 ≤ i) : (M.set i v).1.mv = M.mv := by
 unfold Mem.set
 have hw : M.wr.regs = M.regs := Mem.wr_regs
 split
 ·split
  ·rfl
  ·simp only
   split
   ·unfold Mem.mv
    congr 1
    simp only [qlM]
    rw [List.getElem?_set_ne (by omega)]
   ·unfold Mem.mv; rw [hw]
 ·rfl
structure Frh (H H' : AH) (L : Pl) : Prop where
 size : H.size ≤ H'.size
 get : ∀ b,b < H.size → b ≠ L.h → b ≠ L.t → b ≠ L.p → b ≠ L.c → b ≠ L.q1 → b ≠ L.q2 → H'.get b = H.get b
theorem Frh.refl {H : AH} {L : Pl} : Frh H H L := ⟨qlS _,fun _ _ _ _ _ _ _ _ => rfl⟩
theorem Frh.trans {H H' H2 : AH} {L : Pl} (h : Frh H H' L) (h' : Frh H' H2 L) : Frh H H2 L :=
 ⟨Nat.le_trans h.size h'.size,fun b hb h1 h2 h3 h4 h5 h6 => (h'.get b (by have := h.size; omega) h1 h2 h3 h4 h5 h6).trans (h.get b hb h1 h2 h3 h4 h5 h6)⟩
theorem Frh.of_keeps {H H' : AH} {L : Pl} (h : qa H H') : Frh H H' L := ⟨h.1,fun b hb _ _ _ _ _ _ => h.2 b hb⟩
theorem Frh.of_frt {H H' : AH} {L : Pl} (h : Frt H H' L.t L.p L.c) : Frh H H' L := ⟨h.size,fun b hb _ h2 h3 h4 _ _ => h.get b hb h2 h3 h4⟩
theorem Frh.of_frm {H H' : AH} {L : Pl} (h : Frm H H' L.p L.c) : Frh H H' L := ⟨by rw [h.size]; exact qlS _,fun b _ _ _ h3 h4 _ _ => h.get b h3 h4⟩
theorem Frh.of_frc {H H' : AH} {L : Pl} (h : Frc H H' L.q1 L.q2) : Frh H H' L := ⟨by rw [h.size]; exact qlS _,fun b _ _ _ _ _ h5 h6 => h.get b h5 h6⟩
structure Pl.below (L : Pl) (B : Nat) : Prop where
 h : L.h < B
 t : L.t < B
 p : L.p < B
 c : L.c < B
 q1 : L.q1 < B
 q2 : L.q2 < B
theorem Frh.own {α : Type} {f : α → List Value} {z B : Nat} {s : Sl} {l : List α} {H H' : AH} {L : Pl} (h : Frh H H' L) (hB : L.below B) (hO : Own B H s z f l) : Own B H' s z f l :=
 hO.keep h.size (fun b hb hb' => h.get b hb' (by have := hB.h; omega) (by have := hB.t; omega) (by have := hB.p; omega) (by have := hB.c; omega) (by have := hB.q1; omega) (by have := hB.q2; omega))
section
variable {H H' : AH} {L : Pl} {pa pb pc pd : Int} {puts puts' : Nat} {M M' : Mem} {now kept now' kept' : List Int} {worn : Bool}
theorem HAt.below (h : HAt H L pa pb pc pd puts M now kept worn) : L.below H.size :=
 ⟨h.lh,h.ga.tn.lt,h.ga.tn.l.m.lp,h.ga.tn.l.m.lc,h.ca.l1,h.ca.l2⟩
theorem HAt.ca_keep (h : HAt H L pa pb pc pd puts M now kept worn) (hs : H.size ≤ H'.size) (hg : ∀ b,b = L.ct ∨ b = L.q1 ∨ b = L.q2 → H'.get b = H.get b) : CAt H' L.ct L.q1 L.q2 pd now kept :=
 ⟨by rw [hg _ (.inl rfl),h.ca.hct],by rw [hg _ (.inr (.inl rfl)),h.ca.h1],by rw [hg _ (.inr (.inr rfl)),h.ca.h2],h.ca.len,h.ca.l16,by have := h.ca.lc; omega,by have := h.ca.l1; omega,by have := h.ca.l2; omega,h.ca.ne,h.ca.ok⟩
theorem HAt.step (h : HAt H L pa pb pc pd puts M now kept worn) (hG : GAt H' L.g L.t L.x L.p L.c (16 + pa.toNat) pb.toNat pc.toNat puts' M') (f : Frt H H' L.t L.p L.c) : HAt H' L pa pb pc pd puts' M' now kept worn :=
  ⟨by rw [f.get _ h.lh h.ne.2.1 h.ne.2.2.2.1 h.ne.2.2.2.2.1,h.hh],by have := f.size; have := h.lh; omega,h.may,hG,
   h.ca_keep f.size (fun b hb => f.get b (by rcases hb with rfl | rfl | rfl; exact h.ca.lc; exact h.ca.l1; exact h.ca.l2) (h.nc b hb).2.1 (h.nc b hb).2.2.2.1 (h.nc b hb).2.2.2.2),h.ne,h.nc,h.pages⟩
theorem HAt.mset (h : HAt H L pa pb pc pd puts M now kept worn) (hm : qC H' L.p L.c M') (f : Frm H H' L.p L.c) (hl : M'.cs.length = M.cs.length) (hmv : M'.mv = M.mv) : HAt H' L pa pb pc pd puts M' now kept worn :=
 h.step (h.ga.mem hm f hl (by rw [hmv]; exact h.ga.tn.mv)) (Frt.of_frm f)
theorem HAt.cset (h : HAt H L pa pb pc pd puts M now kept worn) (hc : CAt H' L.ct L.q1 L.q2 pd now' kept') (hl : now'.length = now.length) (f : Frc H H' L.q1 L.q2) : HAt H' L pa pb pc pd puts M now' kept' worn := by
 have n1 := h.nc L.q1 (.inr (.inl rfl))
 have n2 := h.nc L.q2 (.inr (.inr rfl))
 have g : ∀ b,b ≠ L.q1 → b ≠ L.q2 → H'.get b = H.get b := f.get
 have hs := f.size
 have hga := h.ga
 refine ⟨by rw [g _ h.ne.2.2.2.2.2.2.1 h.ne.2.2.2.2.2.2.2,h.hh],by rw [hs]; exact h.lh,h.may,?_,hc,h.ne,h.nc,by rw [hl]; exact h.pages⟩
 have hm : qC H' L.p L.c M := hga.tn.l.m.keep (by rw [hs]; exact qlS _) (g _ n1.2.2.2.1.symm n2.2.2.2.1.symm) (g _ n1.2.2.2.2.symm n2.2.2.2.2.symm)
 exact ⟨by rw [g _ n1.1.symm n2.1.symm,hga.hg],by rw [hs]; exact hga.lg,hga.ne,
  ⟨by rw [g _ n1.2.1.symm n2.2.1.symm,hga.tn.ht],by rw [hs]; exact hga.tn.lt,hga.tn.tp,hga.tn.tc,hga.tn.tx,
   ⟨by rw [g _ n1.2.2.1.symm n2.2.2.1.symm,hga.tn.l.hx],by rw [hs]; exact hga.tn.l.lx,hga.tn.l.xp,hga.tn.l.xc,hm,hga.tn.l.len,hga.tn.l.n1,hga.tn.l.sp16⟩,hga.tn.n1,hga.tn.per,hga.tn.pl,hga.tn.mv⟩,hga.n16⟩
theorem HAt.wset (h : HAt H L pa pb pc pd puts M now kept worn) (w : Bool) :
  AH.canPut H (qlL ⟨L.h,0,none⟩ 8) 1 ∧ HAt (AH.put H (qlL ⟨L.h,0,none⟩ 8) [.bool w]) L pa pb pc pd puts M now kept w ∧ Frh H (AH.put H (qlL ⟨L.h,0,none⟩ 8) [.bool w]) L := by
 rw [qk,ql3]
 have e : AH.put H ⟨L.h,8,none⟩ [.bool w] = H.upd L.h (hobj L.p L.t L.g L.ct pa pb pc pd w) := by
  simp only [AH.put,h.hh,hobj,setMany]; rfl
 have g : ∀ b,b ≠ L.h → (H.upd L.h (hobj L.p L.t L.g L.ct pa pb pc pd w)).get b = H.get b := fun b hb => by rw [qu,if_neg hb]
 refine ⟨⟨rfl,by rw [h.hh]; rfl,by rw [h.hh]; simp [hobj]⟩,?_,?_⟩
 ·rw [e]
  obtain ⟨n1,n2,n3,n4,n5,n6,n7,n8⟩ := h.ne
  have hga := h.ga
  have hm : qC (H.upd L.h (hobj L.p L.t L.g L.ct pa pb pc pd w)) L.p L.c M := hga.tn.l.m.keep (qlS _) (g _ n4.symm) (g _ n5.symm)
  exact ⟨by rw [qu,if_pos rfl],h.lh,h.may,
   ⟨by rw [g _ n1.symm,hga.hg],hga.lg,hga.ne,
    ⟨by rw [g _ n2.symm,hga.tn.ht],hga.tn.lt,hga.tn.tp,hga.tn.tc,hga.tn.tx,
     ⟨by rw [g _ n3.symm,hga.tn.l.hx],hga.tn.l.lx,hga.tn.l.xp,hga.tn.l.xc,hm,hga.tn.l.len,hga.tn.l.n1,hga.tn.l.sp16⟩,hga.tn.n1,hga.tn.per,hga.tn.pl,hga.tn.mv⟩,hga.n16⟩,
   h.ca_keep (qlS _) (fun b hb => g b (by rcases hb with rfl | rfl | rfl; exact n6.symm; exact n7.symm; exact n8.symm)),h.ne,h.nc,h.pages⟩
 ·rw [e]; exact ⟨qlS _,fun b _ hb _ _ _ _ _ => g b hb⟩
end
def notesN (pd : Int) : List Int → Mem → List Int → List Int → Mem × List Int × List Int × Int
 | [],M,now,kept => (M,now,kept,0)
 | ln :: r,M,now,kept =>
  if (noteN pd now kept (ln / 4).toNat).2.2.2 = true then
   if (M.set (19 + ln / 4) (noteN pd now kept (ln / 4).toNat).2.2.1).2 = 0 then notesN pd r (M.set (19 + ln / 4) (noteN pd now kept (ln / 4).toNat).2.2.1).1 (noteN pd now kept (ln / 4).toNat).1 (noteN pd now kept (ln / 4).toNat).2.1
   else ((M.set (19 + ln / 4) (noteN pd now kept (ln / 4).toNat).2.2.1).1,(noteN pd now kept (ln / 4).toNat).1,(noteN pd now kept (ln / 4).toNat).2.1,(M.set (19 + ln / 4) (noteN pd now kept (ln / 4).toNat).2.2.1).2)
  else notesN pd r M (noteN pd now kept (ln / 4).toNat).1 (noteN pd now kept (ln / 4).toNat).2.1
theorem qfP {pd : Int} {now kept : List Int} {i : Nat} : (noteN pd now kept i).1.length = now.length := List.length_set
theorem qlg {pd cb : Int} {now kept : List Int} {i : Nat} (hi : i < now.length) (h : ∀ j,j < now.length → now.getD j 0 ≤ cb) : ∀ j,j < (noteN pd now kept i).1.length → (noteN pd now kept i).1.getD j 0 ≤ cb + 1 := by
 intro j hj
 rw [qfP] at hj
 unfold noteN
 simp only
 rw [qcw hi]
 have h1 := h i hi
 have h2 := h j hj
 split <;> omega
def homesC (ws : List Int) (ls : List Int) : List (Int × List Int) := ls.map fun ln => (16 + ln,lineOf ws ln.toNat)
section
variable {H : AH} {L : Pl} {pa pb pc pd : Int} {puts : Nat} {M : Mem} {now kept : List Int} {worn : Bool}
theorem qh6 {k : AH → Prop} {pk : Value → AH → Prop} {s59 : Sl} {ls : List Int} {B : Nat} {cb : Int} (h : HAt H L pa pb pc pd puts M now kept worn) (hB : L.below B) (hO : Own B H s59 1 iV ls) (hls : ∀ ln ∈ ls,0 ≤ ln ∧ ln < pa)
  (hll : ls.length ≤ 1000) (hcb : ∀ j,j < now.length → now.getD j 0 ≤ cb) (hc : cb + 1000 < 4611686018427387904)
  (hpk : ∀ H',HAt H' L pa pb pc pd puts (notesN pd ls M now kept).1 (notesN pd ls M now kept).2.1 (notesN pd ls M now kept).2.2.1 worn → Frh H H' L → (notesN pd ls M now kept).2.2.2 ≠ 0 → pk (.iface 31 (.int .i64 (notesN pd ls M now kept).2.2.2)) H')
  (hk : ∀ H',HAt H' L pa pb pc pd puts (notesN pd ls M now kept).1 (notesN pd ls M now kept).2.1 (notesN pd ls M now kept).2.2.1 worn → Frh H H' L → (notesN pd ls M now kept).2.2.2 = 0 → k H') :
  loopT (qF.l1 (some ⟨L.h,0,none⟩) k pk s59) (((0 : Int)) : Int) H := by
 have hmp := qV.1 h.may
 have hpg : (now.length : Int) = (pa + 3) / 4 := by rw [h.pages]; unfold pagesP; rw [if_pos h.may]
 refine qI (t := ((0 : Int) : Int)) (I := fun (t : Int) H' => ∃ j : Nat,∃ M1 now1 kept1,t = (j : Int) ∧ j ≤ ls.length ∧ HAt H' L pa pb pc pd puts M1 now1 kept1 worn ∧ Frh H H' L ∧ Own B H' s59 1 iV ls ∧ now1.length = now.length ∧ (∀ i,i < now1.length → now1.getD i 0 ≤ cb + j) ∧ notesN pd ls M now kept = notesN pd (ls.drop j) M1 now1 kept1) (m := fun (t : Int) _ => qlQ ((ls.length : Int) - t)) ?_ ⟨0,M,now,kept,rfl,by omega,h,Frh.refl,hO,rfl,fun i hi => by have := hcb i hi; omega,rfl⟩
 intro t H1 hI it hit
 obtain ⟨j,M1,now1,kept1,e1,hj,h1,f1,hO1,hnl,hcb1,heq⟩ := hI
 subst e1
 unfold qF.l1
 have hR := hO1.rows (fun _ => rfl) (fun _ => rfl)
 simp only [qi,decide_eq_true_eq,hR.1]
 by_cases hlt : (j : Int) < (ls.length : Int)
 ·rw [if_pos hlt]
  have hj' : j < ls.length := by omega
  obtain ⟨b,o,ha,_,hc1⟩ := qbs (g := fun v => qlI .i64 v) hR (i := j) hj'
  refine ⟨by omega,?_⟩
  rw [ha,qd,qlP,hc1,qf]
  have hln := hls _ (ql1 hj')
  rw [List.drop_eq_getElem_cons hj'] at heq
  generalize ls[j] = ln at *
  refine qcr.s (by omega) ?_
  rw [if_neg (by omega),qd,h1.c7,qE]
  have hpi : (ln / 4).toNat < now1.length := by rw [hnl]; omega
  have hpc : ln / 4 = (((ln / 4).toNat : Nat) : Int) := by omega
  have hbd := hcb1 _ hpi
  rw [hpc]
  refine qjD.s h1.ca hpi (by omega) ?_
  intro H2 hc2 f2
  rw [← hpc]
  have h2 := h1.cset hc2 qfP f2
  have f12 := f1.trans (Frh.of_frc f2)
  have hO2 := (Frh.of_frc (L := L) f2).own hB hO1
  have hle := qlg (pd := pd) (kept := kept1) hpi hcb1
  have hval : (noteN pd now1 kept1 (ln / 4).toNat).2.2.1 = now1.getD (ln / 4).toNat 0 + 1 := rfl
  have hnn := h1.ca.ok _ hpi
  have hdef : notesN pd (ln :: ls.drop (j + 1)) M1 now1 kept1 = if (noteN pd now1 kept1 (ln / 4).toNat).2.2.2 = true then
   if (M1.set (19 + ln / 4) (noteN pd now1 kept1 (ln / 4).toNat).2.2.1).2 = 0 then notesN pd (ls.drop (j + 1)) (M1.set (19 + ln / 4) (noteN pd now1 kept1 (ln / 4).toNat).2.2.1).1 (noteN pd now1 kept1 (ln / 4).toNat).1 (noteN pd now1 kept1 (ln / 4).toNat).2.1
   else ((M1.set (19 + ln / 4) (noteN pd now1 kept1 (ln / 4).toNat).2.2.1).1,(noteN pd now1 kept1 (ln / 4).toNat).1,(noteN pd now1 kept1 (ln / 4).toNat).2.1,(M1.set (19 + ln / 4) (noteN pd now1 kept1 (ln / 4).toNat).2.2.1).2)
   else notesN pd (ls.drop (j + 1)) M1 (noteN pd now1 kept1 (ln / 4).toNat).1 (noteN pd now1 kept1 (ln / 4).toNat).2.1 := rfl
  rw [hdef] at heq
  rw [qg (n := (j : Int) + 1) (by omega) (by omega)]
  have hnl2 : (noteN pd now1 kept1 (ln / 4).toNat).1.length = now.length := qfP.trans hnl
  have hv1 : 0 ≤ (noteN pd now1 kept1 (ln / 4).toNat).2.2.1 ∧ (noteN pd now1 kept1 (ln / 4).toNat).2.2.1 < 4611686018427387904 := by rw [hval]; have := h1.ca.ok _ hpi; have := hcb1 _ hpi; omega
  generalize noteN pd now1 kept1 (ln / 4).toNat = q at *
  by_cases hq : q.2.2.2 = true
  ·rw [if_pos hq] at heq ⊢
   rw [qd,h2.c0,qE,qg (n := 19 + ln / 4) (by omega) (by omega),qbE (by omega) (by omega)]
   refine qG.g (M' := (M1.set (19 + ln / 4) q.2.2.1).1) (r := (M1.set (19 + ln / 4) q.2.2.1).2) h2.ga.tn.l.m (by unfold isU; omega) rfl ?_
   intro H3 hm3 f3
   have h3 := h2.mset hm3 f3 Mem.set_len (Mem.setH_mv (by omega))
   have f13 := f12.trans (Frh.of_frm f3)
   have hO3 := (Frh.of_frm (L := L) f3).own hB hO2
   generalize M1.set (19 + ln / 4) q.2.2.1 = S at *
   refine qar.s ?_ ?_
   ·intro he
    rw [if_neg he] at heq
    rw [heq] at hpk
    exact hpk H3 h3 f13 he
   ·intro he
    rw [if_pos he] at heq
    exact hit _ _ ⟨j + 1,S.1,q.1,q.2.1,by simp,by omega,h3,f13,hO3,hnl2,fun i hi => by have := hle i hi; omega,heq⟩ (by omega)
  ·rw [if_neg hq] at heq ⊢
   exact hit _ _ ⟨j + 1,M1,q.1,q.2.1,by simp,by omega,h2,f12,hO2,hnl2,fun i hi => by have := hle i hi; omega,heq⟩ (by omega)
 ·rw [if_neg hlt]
  have : j = ls.length := by omega
  subst this
  rw [List.drop_length] at heq
  rw [heq] at hk
  exact hk H1 h1 f1 rfl
end
structure HS where
 M : Mem
 pt : Nat
 now : List Int
 kept : List Int
 worn : Bool
def commitH (pa pb pc pd : Int) (ws : List Int) (l : List (Int × Int)) (s : HS) : HS × Int :=
 let C := comN (16 + pa.toNat) pb.toNat pc.toNat (homesC (applyE ws l) (eLines l)) s.M s.pt
 if C.2.2 ≠ 0 then (⟨C.1,C.2.1,s.now,s.kept,s.worn || (C.2.2 == 3)⟩,C.2.2) else
 let N := notesN pd (eLines l) C.1 s.now s.kept
 (⟨N.1,C.2.1,N.2.1,N.2.2.1,s.worn⟩,N.2.2.2)
def HA (H : AH) (L : Pl) (pa pb pc pd : Int) (s : HS) : Prop := HAt H L pa pb pc pd s.pt s.M s.now s.kept s.worn
def putF (q : Int × List Int) : List Value := if (putV q).length = 9 then putV q else qlN 9 (qlI .i64 0)
theorem qla (q : Int × List Int) : (putF q).length = 9 := by unfold putF; split; assumption; rfl
theorem putF_ok (q : Int × List Int) : (putF q).all qo = true := by unfold putF; split; exact putV_ok _; rfl
theorem putF_eq {q : Int × List Int} (h : qcm q) : putF q = putV q := if_pos (qe6 h)
theorem qlm {i : Int} {r : List Int} (hr : r.length = 8) :
  setMany [(qlI .i64 (0 : Int)),(qlI .u64 (0 : Int)),(qlI .u64 (0 : Int)),(qlI .u64 (0 : Int)),(qlI .u64 (0 : Int)),(qlI .u64 (0 : Int)),(qlI .u64 (0 : Int)),(qlI .u64 (0 : Int)),(qlI .u64 (0 : Int))] 0 (setMany [(qlI .i64 i),(qlI .u64 (0 : Int)),(qlI .u64 (0 : Int)),(qlI .u64 (0 : Int)),(qlI .u64 (0 : Int)),(qlI .u64 (0 : Int)),(qlI .u64 (0 : Int)),(qlI .u64 (0 : Int)),(qlI .u64 (0 : Int))] 1 (lineV r)) = putV (i,r) := by
 match r,hr with
 | [a,b,c,d,e,f,g,h],_ => rfl
theorem qj6 {i : Int} {r : List Int} (hr : r.length = 8) :
  (setMany [(qlI .i64 i),(qlI .u64 (0 : Int)),(qlI .u64 (0 : Int)),(qlI .u64 (0 : Int)),(qlI .u64 (0 : Int)),(qlI .u64 (0 : Int)),(qlI .u64 (0 : Int)),(qlI .u64 (0 : Int)),(qlI .u64 (0 : Int))] 1 (lineV r)).length = 9 := by
 match r,hr with
 | [a,b,c,d,e,f,g,h],_ => rfl
theorem Pl.below.mono {L : Pl} {B B' : Nat} (h : L.below B) (hb : B ≤ B') : L.below B' :=
 ⟨qm2 h.h hb,qm2 h.t hb,qm2 h.p hb,qm2 h.c hb,qm2 h.q1 hb,qm2 h.q2 hb⟩
section
variable {H : AH} {L : Pl} {pa pb pc pd : Int}
theorem qeL.s {k : AH → Prop} {pk : Value → AH → Prop} {x1 x2 : Sl} {ws : List Int} {l : List (Int × Int)} {B mvb : Nat} {cb : Int} {s : HS} (h : HA H L pa pb pc pd s)
  (hps : PSt (16 + pa.toNat) pb.toNat pc.toNat s.M s.pt mvb (16 + pa.toNat + 1 + pb.toNat)) (hmvb : mvb + 1000 < 4611686018427387904)
  (hB : L.below B) (hBH : B ≤ H.size) (hw : ql5 H x1 1 wU ws) (h64 : qaI ws) (hwl : (ws.length : Int) = 8 * pa) (hO : Own B H x2 2 eU l) (hll : l.length ≤ 1000) (hl : ∀ e ∈ l,0 ≤ e.1 ∧ e.1 < 8 * pa ∧ isU e.2)
  (hcb : ∀ j,j < s.now.length → s.now.getD j 0 ≤ cb) (hc : cb + 1000 < 4611686018427387904)
  (hpk : ∀ H',HA H' L pa pb pc pd (commitH pa pb pc pd ws l s).1 → Frh H H' L → (commitH pa pb pc pd ws l s).2 ≠ 0 → pk (.iface 31 (.int .i64 (commitH pa pb pc pd ws l s).2)) H')
  (hk : ∀ H',HA H' L pa pb pc pd (commitH pa pb pc pd ws l s).1 → Frh H H' L → (commitH pa pb pc pd ws l s).2 = 0 → k H') :
  qF (some ⟨L.h,0,none⟩) x1 x2 H pk k := by
 have hmp := qV.1 (HAt.may h)
 have hlo : ∀ e ∈ l,isI e.1 := fun e he => by have := hl e he; unfold isI; omega
 have hru : ∀ x : Int × Int,(eU x).length = 2 := eU_len
 refine qF.link ?_
 unfold qF.b
 have hr2 := hO.rows eU_len eU_ok
 refine qaZ.s hw (by omega) hr2 (by omega) ?_
 intro s17 H17 hk17 hO17
 have hO17 : Own H.size H17 s17 1 wU (applyE ws l) := hO17.resolve_right (fun hh => by have := hh.1; subst this; simp at hwl; omega)
 refine qaS.s (hr2.keep hk17) (by omega) hlo ?_
 intro s19 H19 hk19 hO19
 have hk1 := hk17.trans hk19
 have hO17' : Own H.size H19 s17 1 wU (applyE ws l) := hO17.keep hk19.1 (fun b _ hb => hk19.2 _ hb)
 have hR17 := hO17'.rows (fun _ => rfl) (fun _ => rfl)
 have hR19 := hO19.rows (fun _ => rfl) (fun _ => rfl)
 have hw64 : qaI (applyE ws l) := qgt l ws h64 (fun e he => (hl e he).2.2)
 have hwlen : (applyE ws l).length = ws.length := qac l ws
 have hls : ∀ ln ∈ eLines l,0 ≤ ln ∧ ln < pa := by
  intro ln hln
  obtain ⟨e,he,h0,rfl⟩ := qcV.1 hln
  have := hl e he
  omega
 have hlsl : (eLines l).length ≤ 1000 := by
  have := qec (l := l) (lo := 0) (hi := 8 * pa - 1) (fun e he => by have := hl e he; omega) (by omega)
  omega
 unfold commitH at hpk hk
 generalize hWdef : applyE ws l = W at *
 generalize hLdef : eLines l = ls at *
 have hokq : ∀ ln ∈ ls,qcm (16 + ln,lineOf W ln.toNat) := fun ln hln => by
  have := hls ln hln
  exact ⟨by unfold isI; simp only; omega,qdb hw64 (by omega)⟩
 have hok : ∀ q ∈ homesC W ls,qcm q := by
  intro q hq
  unfold homesC at hq
  rw [qml] at hq
  obtain ⟨ln,hln,rfl⟩ := hq
  exact hokq ln hln
 refine qI (t := ((⟨none,0,0⟩,(0 : Int)) : Sl × Int)) (I := fun (t : Sl × Int) H' => ∃ j : Nat,t.2 = (j : Int) ∧ j ≤ ls.length ∧ qa H19 H' ∧ Own H19.size H' t.1 9 putF (homesC W (ls.take j))) (m := fun (t : Sl × Int) _ => qlQ ((ls.length : Int) - t.2)) ?_ ⟨0,rfl,by omega,qa.refl _,.inl ⟨rfl,rfl⟩⟩
 intro t H1 hI it hit
 obtain ⟨sh,t2⟩ := t
 obtain ⟨j,e1,hj,hk9,hOh⟩ := hI
 have hkH := hk1.trans hk9
 simp only at e1 hOh
 subst e1
 unfold qF.l4
 have h1 : HAt H1 L pa pb pc pd s.pt s.M s.now s.kept s.worn := HAt.keeps h hkH
 have hcl : (homesC W (ls.take j)).length = j := by unfold homesC; simp; omega
 simp only [qi,decide_eq_true_eq,hR19.1]
 by_cases hlt : (j : Int) < (ls.length : Int)
 ·rw [if_pos hlt]
  have hj' : j < ls.length := by omega
  obtain ⟨b,o,ha,_,hc1⟩ := qbs (g := fun v => qlI .i64 v) (hR19.keep hk9) (i := j) hj'
  refine ⟨by omega,?_⟩
  rw [ha,qd,qlP,hc1,qf]
  have hln := hls _ (ql1 hj')
  have hq := hokq _ (ql1 hj')
  have htk : homesC W (ls.take (j + 1)) = homesC W (ls.take j) ++ [(16 + ls[j],lineOf W ls[j].toNat)] := by
   unfold homesC
   rw [List.take_succ,qlK hj',qnl,List.map_append]; rfl
  generalize ls[j] = ln at *
  rw [qd,ql h1.row]
  refine qbA.s ?_
  have hh : homeP pa pb pc pd ln = 16 + ln := by unfold homeP; rw [if_pos ⟨HAt.may h,by omega,by omega⟩]
  rw [hh]
  have hlc : ln = ((ln.toNat : Nat) : Int) := by omega
  have key : qbr s17 ((ln.toNat : Nat) : Int) H1 fun c34 H34 => (qlY c34 = 8) ∧ (qlY (setMany [(qlI .i64 (16 + ln)),(qlI .u64 (0 : Int)),(qlI .u64 (0 : Int)),(qlI .u64 (0 : Int)),(qlI .u64 (0 : Int)),(qlI .u64 (0 : Int)),(qlI .u64 (0 : Int)),(qlI .u64 (0 : Int)),(qlI .u64 (0 : Int))] 1 c34) = 9) ∧ newC H34 ⟨(setMany [(qlI .i64 (0 : Int)),(qlI .u64 (0 : Int)),(qlI .u64 (0 : Int)),(qlI .u64 (0 : Int)),(qlI .u64 (0 : Int)),(qlI .u64 (0 : Int)),(qlI .u64 (0 : Int)),(qlI .u64 (0 : Int)),(qlI .u64 (0 : Int))] 0 (setMany [(qlI .i64 (16 + ln)),(qlI .u64 (0 : Int)),(qlI .u64 (0 : Int)),(qlI .u64 (0 : Int)),(qlI .u64 (0 : Int)),(qlI .u64 (0 : Int)),(qlI .u64 (0 : Int)),(qlI .u64 (0 : Int)),(qlI .u64 (0 : Int))] 1 c34)),.rw,9⟩ fun o36 H36 => appendC 9 H36 sh ⟨(some ⟨o36,0,none⟩),1,1⟩ fun s37 H37 => it (s37,(qlJ .i64 ((j : Int) + (1 : Int)))) H37 := by
   refine qbr.s (hR17.keep hk9) hw64 (by omega) (by omega) ?_
   have hl8 := hq.line.1
   simp only at hl8
   refine ⟨qr hl8,qj6 hl8,?_⟩
   rw [qp,qlm hl8,← putF_eq hq]
   refine qbB (H0 := H19) (B := H19.size) qla (putF_ok _) hOh (qlS _) hk9.1 hk9 (by rw [hcl]; simp only [lim]; omega) ?_
   intro s' H' hO' hk' hs' hold'
   rw [← htk] at hO'
   rw [qg (n := (j : Int) + 1) (by omega) (by omega)]
   exact hit _ _ ⟨j + 1,by simp,by omega,hk',hO'⟩ (by simp only; omega)
  rw [← hlc] at key
  exact key
 ·rw [if_neg hlt]
  have : j = ls.length := by omega
  subst this
  rw [qmI] at hOh hcl
  unfold qF.j3
  rw [qd,h1.c6,qE]
  have hB1 : L.below H19.size := hB.mono (by have := hk1.1; omega)
  have hOp : Own H19.size H1 sh 9 putV (homesC W ls) := qdk (fun q hq => (putF_eq (hok q hq)).symm) hOh
  refine qjN.s h1.ga hps hmvb (qeh hOp hok) hok (by omega) ?_ ?_
  ·intro _ b hb
   rcases hOp with ⟨e,_⟩ | ⟨b',e,hb1,_,_⟩
   ·rw [e] at hb; cases hb
   ·rw [e] at hb; simp at hb; subst hb
    have h1 := hB1.t; have h2 := hB1.p; have h3 := hB1.c
    exact ⟨by omega,by omega,by omega⟩
  intro H44 hG44 f44 _
  have hcp := hps.com h1.ga.tn.n1 hmvb hok
  generalize comN (16 + pa.toNat) pb.toNat pc.toNat (homesC W ls) s.M s.pt = C at *
  have h44 := h1.step hG44 f44
  have hO44 : Own B H44 x2 2 eU l := (Frh.of_frt (L := L) f44).own hB (hO.keep hkH.1 (fun b _ hb => hkH.2 _ hb))
  have f0 : Frh H H44 L := (Frh.of_keeps hkH).trans (Frh.of_frt f44)
  have tail : ∀ (w : Bool) (H5 : AH),HAt H5 L pa pb pc pd C.2.1 C.1 s.now s.kept w → Frh H H5 L → Own B H5 x2 2 eU l → w = (s.worn || (C.2.2 == 3)) → qF.j2 (some ⟨L.h,0,none⟩) x2 k pk C.2.2 H5 := by
   intro w H5 h5 f5 hO5 hw5
   unfold qF.j2
   refine qar.s ?_ ?_
   ·intro he
    rw [if_pos he] at hpk
    exact hpk H5 (by subst hw5; exact h5) f5 he
   ·intro he
    rw [if_neg (by simpa using he)] at hpk hk
    refine qaS.s (hO5.rows eU_len eU_ok) (by omega) hlo ?_
    intro s59 H59 hk59 hO59
    rw [hLdef] at hO59
    have hws : w = s.worn := by rw [hw5,he]; simp
    subst hws
    refine qh6 (h5.keeps hk59) (hB.mono (by have := f5.size; omega)) hO59 hls hlsl hcb hc ?_ ?_
    ·intro H' hH' fH' he'
     exact hpk H' hH' (f5.trans ((Frh.of_keeps hk59).trans fH')) he'
    ·intro H' hH' fH' he'
     exact hk H' hH' (f5.trans ((Frh.of_keeps hk59).trans fH')) he'
  rw [qd,h44.c8,qbi]
  cases hsw : s.worn with
  | true =>
   rw [qj,qd,qaQ]
   obtain ⟨c1,c2,c3⟩ := h44.wset true
   exact ⟨c1,tail _ _ c2 (f0.trans c3) (c3.own hB hO44) (by rw [hsw]; rfl)⟩
  | false =>
   rw [qc,qd,qaQ]
   obtain ⟨c1,c2,c3⟩ := h44.wset (C.2.2 == 3)
   exact ⟨c1,tail _ _ c2 (f0.trans c3) (c3.own hB hO44) (by rw [hsw]; rfl)⟩
end
structure EdIn (E : List (Int × Int)) (n : Int) : Prop where
 mem : ∀ e ∈ E,0 ≤ e.1 ∧ e.1 < n ∧ isU e.2
 len : E.length ≤ 1000
theorem EdIn.nil {n : Int} : EdIn [] n := ⟨fun e he => (by cases he),by simp⟩
theorem qeG {ws : List Int} {n : Int} {cs : List Int} : EdIn (imgAlloc ws n cs).1 ws.length := by
 unfold imgAlloc
 split
 ·exact EdIn.nil
 ·split
  ·exact EdIn.nil
  ·rename_i l hb
   have hB := qbu hb
   have hlen := hB.len
   split
   ·exact EdIn.nil
   ·rename_i hc
    rcases qeN (l := l) (need := needN n) (cs := cs) with h | ⟨i,h,hi,hu,hn1,hn2⟩
    ·omega
    ·rw [h,qlP]
     have hm := hB.mem (qlX (qaW hi))
     generalize bkAt l i = b at *
     show EdIn (carveE b (needN n)) _
     have ht : 2 ≤ takesN b.2.1 (needN n) ∧ takesN b.2.1 (needN n) ≤ b.2.1 := by unfold takesN; rw [if_pos ⟨hn2,hn1⟩]; split <;> omega
     unfold carveE carveTo
     generalize takesN b.2.1 (needN n) = tk at *
     refine ⟨fun e he => ?_,?_⟩
     ·rw [List.cons_append,ql6,List.mem_append] at he
      rcases he with rfl | he | he
      ·exact ⟨by simp only; omega,by simp only; omega,wordN_u _ _⟩
      ·rw [qml] at he
       obtain ⟨t,ht1,rfl⟩ := he
       rw [qmJ] at ht1
       refine ⟨by simp only; omega,by simp only; omega,by unfold isU; omega⟩
      ·split at he
       ·simp at he
        subst he
        exact ⟨by simp only; omega,by simp only; omega,wordN_u _ _⟩
       ·cases he
     ·split <;> simp <;> omega
theorem qeb {ws : List Int} {off : Int} : EdIn (imgFree ws off).1 ws.length := by
 unfold imgFree
 split
 ·exact EdIn.nil
 ·rename_i l hb
  have hB := qbu hb
  have hlen := hB.len
  split
  ·exact EdIn.nil
  ·rename_i hc
   rcases qd4 off l 0 with h | ⟨i,h,hi,hu,ho⟩
   ·omega
   ·rw [ql3] at h
    rw [h,qlP]
    have hF : mFrom l i < l.length := by unfold mFrom; split <;> omega
    have hm := hB.mem (qlX (qaW hF))
    simp only
    refine ⟨fun e he => ?_,by simp⟩
    simp at he
    subst he
    exact ⟨by simp only; omega,by simp only; omega,wordN_u _ _⟩
theorem qeO {ws : List Int} (h64 : qaI ws) (hl : ws.length ≤ 1000) {off : Int} {bs : List Int} : EdIn (imgWrite ws off bs).1 ws.length := by
 unfold imgWrite
 split
 ·exact EdIn.nil
 ·rename_i l hb
  have hB := qbu hb
  have hlen := hB.len
  split
  ·rename_i hw
   have hin := qc7 hB hw
   unfold inside at hin
   obtain ⟨o,rfl⟩ := Int.eq_ofNat_of_zero_le hin.1
   rw [qlP]
   have hcur := qd5 bs ws o h64
   have hcl := qcG bs ws o
   by_cases hz : bs.length = 0
   ·have ht : touched o bs.length = 0 := by rw [hz]; rfl
    rw [ht]
    exact EdIn.nil
   have ht : touched o bs.length = (o + bs.length - 1) / 8 - o / 8 + 1 := by unfold touched; rw [if_neg hz]
   refine ⟨fun e he => ?_,by simp only; rw [qb8]; omega⟩
   unfold editsOf at he
   rw [qml] at he
   obtain ⟨j,hj,rfl⟩ := he
   rw [qmJ] at hj
   refine ⟨by simp only; omega,by simp only; omega,?_⟩
   have hlt : o / 8 + j < (putBs ws o bs).length := by omega
   simp only
   rw [qlM,qlK hlt,Option.getD_some]
   exact hcur _ (ql1 hlt)
  ·exact EdIn.nil
def HS.stuck (s : HS) : Prop := s.worn = true ∨ (s.M.down = false ∧ commits s.M ≠ 0)
instance (s : HS) : Decidable s.stuck := by unfold HS.stuck; infer_instance
section
variable {H : AH} {L : Pl} {pa pb pc pd : Int} {s : HS} {mvb : Nat} {cb : Int}
structure HOK (H : AH) (L : Pl) (pa pb pc pd : Int) (s : HS) (mvb : Nat) (cb : Int) : Prop where
 ha : HA H L pa pb pc pd s
 ps : PSt (16 + pa.toNat) pb.toNat pc.toNat s.M s.pt mvb (16 + pa.toNat + 1 + pb.toNat)
 mb : mvb + 1000 < 4611686018427387904
 cl : ∀ j,j < s.now.length → s.now.getD j 0 ≤ cb
 cb' : cb + 1000 < 4611686018427387904
theorem qdL (h : HA H L pa pb pc pd s) : ((wordsH pa pb s.M).length : Int) = 8 * pa ∧ qaI (wordsH pa pb s.M) := by
 have hm := qV.1 (HAt.may h)
 have hfl : ∀ i : Nat,(i : Int) ≤ pa → ((List.range i).flatMap (lineH pa pb s.M)).length = 8 * i := by
  intro i
  induction i with
  | zero => intro _; rfl
  | succ i ih =>
   intro hi
   rw [List.range_succ,qmP,ql7,ih (by omega)]
   simp only [qmn,List.flatMap_nil,qm1]
   have := (qd9 h (i := i) (by omega)).1.1
   unfold lineH; omega
 refine ⟨by unfold wordsH; rw [hfl _ (by omega)]; omega,fun v hv => ?_⟩
 unfold wordsH at hv
 rw [List.mem_flatMap] at hv
 obtain ⟨i,hi,hv⟩ := hv
 rw [qmJ] at hi
 exact (qd9 h (i := i) (by omega)).1.2 v hv
theorem qdl {pk : Value → AH → Prop} {k : Sl → AH → Prop} (h : HA H L pa pb pc pd s) (hd : s.M.down = true → ∀ H',qa H H' → pk (.iface 31 (.int .i64 2)) H')
  (hu : s.M.down = false → ∀ x H',qa H H' → Own H.size H' x 1 wU (wordsH pa pb s.M) → k x H') : qa7 (some ⟨L.h,0,none⟩) H pk k := by
 refine qa7.link ?_
 unfold qa7.b
 refine qea.s h ?_ ?_
 ·intro hdn H' hk; exact qar.s (fun _ => hd hdn H' hk) (fun hh => by simp at hh)
 ·intro hup x H' hk hO; exact qar.s (fun hh => absurd rfl hh) (fun _ => hu hup x H' hk hO)
theorem qdx {pk : Value → AH → Prop} {k : AH → Prop} (h : HA H L pa pb pc pd s) (h1 : s.stuck → pk (.iface 31 (.int .i64 3)) H) (h0 : ¬ s.stuck → k H) : qaz (some ⟨L.h,0,none⟩) H pk k :=
 qg4.s h h1 h0
def readH (pa pb : Int) (s : HS) (off n : Int) : List Int × Int := if s.M.down then ([],2) else imgRead (wordsH pa pb s.M) off n
theorem qiZ {pk : Value → AH → Prop} {k : Sl → AH → Prop} {off n : Int} (h : HA H L pa pb pc pd s) (ho : isI off)
  (hpk : (readH pa pb s off n).2 ≠ 0 → ∀ H',qa H H' → pk (.iface 31 (.int .i64 (readH pa pb s off n).2)) H')
  (hk : (readH pa pb s off n).2 = 0 → ∀ x H',qa H H' → Own H.size H' x 1 bU (readH pa pb s off n).1 → k x H') : qcj (some ⟨L.h,0,none⟩) off n H pk k := by
 obtain ⟨hwl,h64⟩ := qdL h
 have hm := qV.1 (HAt.may h)
 refine qcj.link ?_
 unfold qcj.b
 unfold readH at hpk hk
 refine qdl h ?_ ?_
 ·intro hd H' hk'
  rw [if_pos hd] at hpk
  exact hpk (by simp) H' hk'
 ·intro hd x H1 hk1 hO
  rw [if_neg (by simp [hd])] at hpk hk
  refine qcA.s (hO.rows (fun _ => rfl) (fun _ => rfl)) h64 (by omega) ho ?_
  intro sr H2 hk2 hO2
  refine qar.s ?_ ?_
  ·intro he; exact hpk he H2 (hk1.trans hk2)
  ·intro he; exact hk he sr H2 (hk1.trans hk2) (qbO hO2 hk1.1)
def allocH (pa pb pc pd : Int) (s : HS) (n : Int) : HS × Int × Int :=
 if s.M.down then (s,2,0) else if needN n = 0 then (s,1,0) else if s.stuck then (s,3,0) else
 if (imgAlloc (wordsH pa pb s.M) n s.now).2.2 ≠ 0 then (s,(imgAlloc (wordsH pa pb s.M) n s.now).2.2,0) else
 ((commitH pa pb pc pd (wordsH pa pb s.M) (imgAlloc (wordsH pa pb s.M) n s.now).1 s).1,(commitH pa pb pc pd (wordsH pa pb s.M) (imgAlloc (wordsH pa pb s.M) n s.now).1 s).2,(imgAlloc (wordsH pa pb s.M) n s.now).2.1)
theorem qiG {pk : Value → AH → Prop} {k : Int → AH → Prop} {n : Int} (h : HOK H L pa pb pc pd s mvb cb) (hn : isI n)
  (hpk : (allocH pa pb pc pd s n).2.1 ≠ 0 → ∀ H',HA H' L pa pb pc pd (allocH pa pb pc pd s n).1 → Frh H H' L → pk (.iface 31 (.int .i64 (allocH pa pb pc pd s n).2.1)) H')
  (hk : (allocH pa pb pc pd s n).2.1 = 0 → ∀ H',HA H' L pa pb pc pd (allocH pa pb pc pd s n).1 → Frh H H' L → k (allocH pa pb pc pd s n).2.2 H') : qb9 (some ⟨L.h,0,none⟩) n H pk k := by
 obtain ⟨hwl,h64⟩ := qdL h.ha
 have hm := qV.1 (HAt.may h.ha)
 refine qb9.link ?_
 unfold qb9.b
 unfold allocH at hpk hk
 refine qdl h.ha ?_ ?_
 ·intro hd H' hk'
  rw [if_pos hd] at hpk
  exact hpk (by simp) H' (HAt.keeps h.ha hk') (Frh.of_keeps hk')
 ·intro hd x H1 hk1 hO
  rw [if_neg (by simp [hd])] at hpk hk
  have hR := hO.rows (fun _ => rfl) (fun _ => rfl)
  have h1 : HA H1 L pa pb pc pd s := HAt.keeps h.ha hk1
  refine qbj.s hn ?_
  rw [qi]
  by_cases h0 : needN n = 0
  ·rw [if_pos (by simpa using h0)]
   rw [if_pos h0] at hpk
   exact hpk (by simp) H1 h1 (Frh.of_keeps hk1)
  rw [if_neg (by simpa using h0)]
  rw [if_neg h0] at hpk hk
  refine qdx h1 ?_ ?_
  ·intro hs
   rw [if_pos hs] at hpk
   exact hpk (by simp) H1 h1 (Frh.of_keeps hk1)
  intro hs
  rw [if_neg hs] at hpk hk
  rw [qd,HAt.c7 h1,qE]
  refine qkt.s (HAt.ca h1) ?_
  intro s24 H24 hk24 hO24
  have hO24 : Own H1.size H24 s24 1 iV s.now := hO24.resolve_right (fun hh => by
   have h2 := HAt.pages h1; rw [hh.1] at h2; unfold pagesP at h2; rw [if_pos (HAt.may h.ha)] at h2; simp at h2; omega)
  refine qb4.s (hR.keep hk24) h64 (by omega) hn (hO24.rows (fun _ => rfl) (fun _ => rfl)) ?_
  intro s25 H25 hk25 hO25
  have hkk := (hk1.trans hk24).trans hk25
  have h25 : HA H25 L pa pb pc pd s := HAt.keeps h.ha hkk
  have hin := qeG (ws := wordsH pa pb s.M) (n := n) (cs := s.now)
  generalize imgAlloc (wordsH pa pb s.M) n s.now = A at *
  refine qar.s ?_ ?_
  ·intro he
   rw [if_pos he] at hpk
   exact hpk he H25 h25 (Frh.of_keeps hkk)
  ·intro he
   rw [if_neg (by simpa using he)] at hpk hk
   refine qeL.s (B := H24.size) (mvb := mvb) (cb := cb) h25 h.ps h.mb ((HAt.below h1).mono hk24.1) hk25.1 (hR.keep (hk24.trans hk25)) h64 hwl hO25 hin.len (fun e he => by have := hin.mem e he; exact ⟨this.1,by omega,this.2.2⟩) h.cl h.cb' ?_ ?_
   ·intro H' hH' f he'; exact hpk he' H' hH' ((Frh.of_keeps hkk).trans f)
   ·intro H' hH' f he'; exact hk he' H' hH' ((Frh.of_keeps hkk).trans f)
end
def rootN (M : Mem) : Int := qlJ .i64 (M.regs.getD 2 0)
def freeH (pa pb pc pd : Int) (s : HS) (off : Int) : HS × Int :=
 if s.M.down then (s,2) else if (imgFree (wordsH pa pb s.M) off).2 ≠ 0 then (s,(imgFree (wordsH pa pb s.M) off).2) else
 if rootN s.M = off then (s,5) else if s.stuck then (s,3) else commitH pa pb pc pd (wordsH pa pb s.M) (imgFree (wordsH pa pb s.M) off).1 s
def writeH (pa pb pc pd : Int) (s : HS) (off : Int) (bs : List Int) : HS × Int :=
 if s.M.down then (s,2) else if (imgWrite (wordsH pa pb s.M) off bs).2 ≠ 0 then (s,(imgWrite (wordsH pa pb s.M) off bs).2) else
 if (imgWrite (wordsH pa pb s.M) off bs).1.length = 0 then (s,0) else if s.stuck then (s,3) else commitH pa pb pc pd (wordsH pa pb s.M) (imgWrite (wordsH pa pb s.M) off bs).1 s
def setRootH (pa pb : Int) (s : HS) (off : Int) : HS × Int :=
 if s.M.down then (s,2) else if off ≠ 0 ∧ isUsed (wordsH pa pb s.M) off = false then (s,1) else if s.stuck then (s,3) else
 ({ s with M := (s.M.set 2 (qlJ .u64 off)).1 },(s.M.set 2 (qlJ .u64 off)).2)
section
variable {H : AH} {L : Pl} {pa pb pc pd : Int} {s : HS} {mvb : Nat} {cb : Int}
theorem qi0 {pk : Value → AH → Prop} {k : AH → Prop} {off : Int} (h : HOK H L pa pb pc pd s mvb cb)
  (hpk : (freeH pa pb pc pd s off).2 ≠ 0 → ∀ H',HA H' L pa pb pc pd (freeH pa pb pc pd s off).1 → Frh H H' L → pk (.iface 31 (.int .i64 (freeH pa pb pc pd s off).2)) H')
  (hk : (freeH pa pb pc pd s off).2 = 0 → ∀ H',HA H' L pa pb pc pd (freeH pa pb pc pd s off).1 → Frh H H' L → k H') : qcl (some ⟨L.h,0,none⟩) off H pk k := by
 obtain ⟨hwl,h64⟩ := qdL h.ha
 have hm := qV.1 (HAt.may h.ha)
 refine qcl.link ?_
 unfold qcl.b
 unfold freeH at hpk hk
 refine qdl h.ha ?_ ?_
 ·intro hd H' hk'
  rw [if_pos hd] at hpk
  exact hpk (by simp) H' (HAt.keeps h.ha hk') (Frh.of_keeps hk')
 intro hd x H1 hk1 hO
 rw [if_neg (by simp [hd])] at hpk hk
 have hR := hO.rows (fun _ => rfl) (fun _ => rfl)
 refine qcE.s hR h64 (by omega) ?_
 intro s12 H12 hk12 hO12
 have hkk := hk1.trans hk12
 have h12 : HA H12 L pa pb pc pd s := HAt.keeps h.ha hkk
 have hin := qeb (ws := wordsH pa pb s.M) (off := off)
 generalize imgFree (wordsH pa pb s.M) off = A at *
 refine qar.s ?_ ?_
 ·intro he
  rw [if_pos he] at hpk
  exact hpk he H12 h12 (Frh.of_keeps hkk)
 intro he
 rw [if_neg (by simpa using he)] at hpk hk
 refine qhy.s h12 (fun hh => by rw [hd] at hh; cases hh) ?_
 intro _
 rw [show qlJ .i64 (s.M.regs.getD 2 0) = rootN s.M from rfl,qi]
 by_cases hr : rootN s.M = off
 ·rw [if_pos (by simpa using hr)]
  rw [if_pos hr] at hpk
  exact hpk (by simp) H12 h12 (Frh.of_keeps hkk)
 rw [if_neg (by simpa using hr)]
 rw [if_neg hr] at hpk hk
 refine qdx h12 ?_ ?_
 ·intro hs
  rw [if_pos hs] at hpk
  exact hpk (by simp) H12 h12 (Frh.of_keeps hkk)
 intro hs
 rw [if_neg hs] at hpk hk
 refine qeL.s (B := H1.size) (mvb := mvb) (cb := cb) h12 h.ps h.mb ((HAt.below h.ha).mono hk1.1) hk12.1 (hR.keep hk12) h64 hwl hO12 hin.len (fun e he => by have := hin.mem e he; exact ⟨this.1,by omega,this.2.2⟩) h.cl h.cb' ?_ ?_
 ·intro H' hH' f he'; exact hpk he' H' hH' ((Frh.of_keeps hkk).trans f)
 ·intro H' hH' f he'; exact hk he' H' hH' ((Frh.of_keeps hkk).trans f)
theorem qh2 {pk : Value → AH → Prop} {k : AH → Prop} {off : Int} {x2 : Sl} {bs : List Int} (h : HOK H L pa pb pc pd s mvb cb) (ho : isI off) (hb : ql5 H x2 1 bU bs) (h8 : qam bs)
  (hpk : (writeH pa pb pc pd s off bs).2 ≠ 0 → ∀ H',HA H' L pa pb pc pd (writeH pa pb pc pd s off bs).1 → Frh H H' L → pk (.iface 31 (.int .i64 (writeH pa pb pc pd s off bs).2)) H')
  (hk : (writeH pa pb pc pd s off bs).2 = 0 → ∀ H',HA H' L pa pb pc pd (writeH pa pb pc pd s off bs).1 → Frh H H' L → k H') : qcb (some ⟨L.h,0,none⟩) off x2 H pk k := by
 obtain ⟨hwl,h64⟩ := qdL h.ha
 have hm := qV.1 (HAt.may h.ha)
 refine qcb.link ?_
 unfold qcb.b
 unfold writeH at hpk hk
 refine qdl h.ha ?_ ?_
 ·intro hd H' hk'
  rw [if_pos hd] at hpk
  exact hpk (by simp) H' (HAt.keeps h.ha hk') (Frh.of_keeps hk')
 intro hd x H1 hk1 hO
 rw [if_neg (by simp [hd])] at hpk hk
 have hR := hO.rows (fun _ => rfl) (fun _ => rfl)
 refine qco.s hR h64 (by omega) ho (hb.keep hk1) h8 ?_
 intro s12 H12 hk12 hO12
 have hkk := hk1.trans hk12
 have h12 : HA H12 L pa pb pc pd s := HAt.keeps h.ha hkk
 have hin := qeO (ws := wordsH pa pb s.M) h64 (by omega) (off := off) (bs := bs)
 generalize imgWrite (wordsH pa pb s.M) off bs = A at *
 refine qar.s ?_ ?_
 ·intro he
  rw [if_pos he] at hpk
  exact hpk he H12 h12 (Frh.of_keeps hkk)
 intro he
 rw [if_neg (by simpa using he)] at hpk hk
 rw [own_n hO12,qi]
 by_cases hz : A.1.length = 0
 ·rw [if_pos (by simp only [beq_iff_eq]; omega)]
  rw [if_pos hz] at hk
  exact hk rfl H12 h12 (Frh.of_keeps hkk)
 rw [if_neg (by simp only [beq_iff_eq]; omega)]
 rw [if_neg hz] at hpk hk
 refine qdx h12 ?_ ?_
 ·intro hs
  rw [if_pos hs] at hpk
  exact hpk (by simp) H12 h12 (Frh.of_keeps hkk)
 intro hs
 rw [if_neg hs] at hpk hk
 refine qeL.s (B := H1.size) (mvb := mvb) (cb := cb) h12 h.ps h.mb ((HAt.below h.ha).mono hk1.1) hk12.1 (hR.keep hk12) h64 hwl hO12 hin.len (fun e he => by have := hin.mem e he; exact ⟨this.1,by omega,this.2.2⟩) h.cl h.cb' ?_ ?_
 ·intro H' hH' f he'; exact hpk he' H' hH' ((Frh.of_keeps hkk).trans f)
 ·intro H' hH' f he'; exact hk he' H' hH' ((Frh.of_keeps hkk).trans f)
theorem qg8 {pk : Value → AH → Prop} {k : AH → Prop} {off : Int} (h : HOK H L pa pb pc pd s mvb cb)
  (hpk : (setRootH pa pb s off).2 ≠ 0 → ∀ H',HA H' L pa pb pc pd (setRootH pa pb s off).1 → Frh H H' L → pk (.iface 31 (.int .i64 (setRootH pa pb s off).2)) H')
  (hk : (setRootH pa pb s off).2 = 0 → ∀ H',HA H' L pa pb pc pd (setRootH pa pb s off).1 → Frh H H' L → k H') : qaE (some ⟨L.h,0,none⟩) off H pk k := by
 obtain ⟨hwl,h64⟩ := qdL h.ha
 have hm := qV.1 (HAt.may h.ha)
 refine qaE.link ?_
 unfold qaE.b
 unfold setRootH at hpk hk
 refine qdl h.ha ?_ ?_
 ·intro hd H' hk'
  rw [if_pos hd] at hpk
  exact hpk (by simp) H' (HAt.keeps h.ha hk') (Frh.of_keeps hk')
 intro hd x H1 hk1 hO
 rw [if_neg (by simp [hd])] at hpk hk
 have hR := hO.rows (fun _ => rfl) (fun _ => rfl)
 have h1 : HA H1 L pa pb pc pd s := HAt.keeps h.ha hk1
 have j1 : ∀ b : Bool,(b = true ↔ off ≠ 0 ∧ isUsed (wordsH pa pb s.M) off = false) → qaE.j1 (some ⟨L.h,0,none⟩) off k pk b H1 := by
  intro b hb
  unfold qaE.j1
  rw [qi]
  by_cases hbt : b = true
  ·rw [if_pos hbt]
   rw [if_pos (hb.1 hbt)] at hpk
   exact hpk (by simp) H1 h1 (Frh.of_keeps hk1)
  rw [if_neg hbt]
  rw [if_neg (fun hh => hbt (hb.2 hh))] at hpk hk
  refine qdx h1 ?_ ?_
  ·intro hs
   rw [if_pos hs] at hpk
   exact hpk (by simp) H1 h1 (Frh.of_keeps hk1)
  intro hs
  rw [if_neg hs] at hpk hk
  rw [qd,HAt.c0 h1,qE]
  refine qG.g (M' := (s.M.set 2 (qlJ .u64 off)).1) (r := (s.M.set 2 (qlJ .u64 off)).2) (HAt.ga h1).tn.l.m (qiA off) rfl ?_
  intro H3 hm3 f3
  have h3 : HA H3 L pa pb pc pd { s with M := (s.M.set 2 (qlJ .u64 off)).1 } := HAt.mset h1 hm3 f3 Mem.set_len (Mem.setH_mv (by omega))
  have ff := (Frh.of_keeps (L := L) hk1).trans (Frh.of_frm f3)
  exact qar.s (fun he => hpk he H3 h3 ff) (fun he => hk he H3 h3 ff)
 rw [qi]
 by_cases h0 : off = 0
 ·rw [if_neg (by simpa using h0)]
  exact j1 false ⟨fun hh => (by cases hh),fun hh => absurd h0 hh.1⟩
 ·rw [if_pos (by simpa using h0)]
  refine qcv.s hR h64 (by omega) ?_
  exact j1 _ ⟨fun hh => ⟨h0,by simpa using hh⟩,fun hh => by simpa using hh.2⟩
theorem qi4 {pk : Value → AH → Prop} {k : Int → AH → Prop} (h : HA H L pa pb pc pd s)
  (h1 : s.M.down = true → pk (.iface 31 (.int .i64 2)) H) (h0 : s.M.down = false → k (rootN s.M) H) : qbJ (some ⟨L.h,0,none⟩) H pk k := qhy.s h h1 h0
end
set_option linter.unusedVariables false
set_option maxRecDepth 100000
def qw.j1 (o4 : Nat) (k : AH → Prop) (Hj : AH) : Prop :=
 ldA Hj ⟨o4,0,none⟩ 3 fun c53 => (qlY c53 = 3 ∧ List.all c53 qo = true) ∧ stC Hj ⟨o4,0,none⟩ c53 fun Hs2 => k Hs2
def qw.r (x0 : Option Addr) (o3 : Nat) (o4 : Nat) (H : AH) (pk : Value → AH → Prop) (k : AH → Prop) : Prop :=
 elI .i64 (AH.cell? H (qlL ⟨o3,0,none⟩ 0)) fun n10 => bcase ((n10 : Int) == (1 : Int)) (elI .i64 (AH.cell? H (qlL ⟨o3,0,none⟩ 2)) fun n16 => qb9 x0 n16 H (fun pv17 Hp17 => pk pv17 Hp17) fun n17 H17 => stC H17 (qlL ⟨o4,0,none⟩ 1) [(qlI .i64 n17)] fun Hs4 => qw.j1 o4 k Hs4) (bcase ((n10 : Int) == (2 : Int)) (elI .i64 (AH.cell? H (qlL ⟨o3,0,none⟩ 1)) fun n23 => qcl x0 n23 H (fun pv24 Hp24 => pk pv24 Hp24) fun H24 => qw.j1 o4 k H24) (bcase ((n10 : Int) == (3 : Int)) (elI .i64 (AH.cell? H (qlL ⟨o3,0,none⟩ 1)) fun n29 => elI .i64 (AH.cell? H (qlL ⟨o3,0,none⟩ 2)) fun n31 => qcj x0 n29 n31 H (fun pv32 Hp32 => pk pv32 Hp32) fun s32 H32 => stC H32 (qlL ⟨o4,0,none⟩ 2) [(Sl.val s32)] fun Hs6 => qw.j1 o4 k Hs6) (bcase ((n10 : Int) == (4 : Int)) (elI .i64 (AH.cell? H (qlL ⟨o3,0,none⟩ 1)) fun n38 => elL (AH.cell? H (qlL ⟨o3,0,none⟩ 4)) fun s40 => qcb x0 n38 s40 H (fun pv41 Hp41 => pk pv41 Hp41) fun H41 => qw.j1 o4 k H41) (bcase ((n10 : Int) == (5 : Int)) (elI .i64 (AH.cell? H (qlL ⟨o3,0,none⟩ 1)) fun n46 => qaE x0 n46 H (fun pv47 Hp47 => pk pv47 Hp47) fun H47 => qw.j1 o4 k H47) (bcase ((n10 : Int) == (6 : Int)) (qbJ x0 H (fun pv51 Hp51 => pk pv51 Hp51) fun n51 H51 => stC H51 (qlL ⟨o4,0,none⟩ 1) [(qlI .i64 n51)] fun Hs8 => qw.j1 o4 k Hs8) (stC H (qlL ⟨o4,0,none⟩ 0) [(qlI .i64 (1 : Int))] fun Hs10 => qw.j1 o4 k Hs10))))))
def qw.ann : Ann := { keep := fun r => match r with  | _ => [],ord := fun r => match r with  | _ => [] }
def restOf (c : Option Code) : Code := match c with
 | some (.seq _ (.seq _ (.seq _ r))) => r
 | _ => .skip
def qw.Q (pk : Value → AH → Prop) (k : AH → Prop) : LExit → Fr → AH → Prop := fun e _ H => match e with
 | .normal => k H
 | .ret => k H
 | .pan v => pk v H
 | .exit _ => False
theorem qw.r_link {x0 : Option Addr} {o3 o4 : Nat} {H : AH} {pk : Value → AH → Prop} {k : AH → Prop} :
  wpC Tryz.prog T pan Tryz.f18.ntmps qw.ann (restOf Tryz.f18.body) (argFr [.pointer x0,undef,undef,.pointer (some ⟨o3,0,none⟩),.pointer (some ⟨o4,0,none⟩)]) H (qw.Q pk k) = qw.r x0 o3 o4 H pk k := by kernel_rfl
def doH (pa pb pc pd : Int) (s : HS) (K off n : Int) (bs : List Int) : HS × Int × Int × List Int :=
 if K = 1 then ((allocH pa pb pc pd s n).1,(allocH pa pb pc pd s n).2.1,(if (allocH pa pb pc pd s n).2.1 = 0 then (allocH pa pb pc pd s n).2.2 else 0),[])
 else if K = 2 then ((freeH pa pb pc pd s off).1,(freeH pa pb pc pd s off).2,0,[])
 else if K = 3 then (s,(readH pa pb s off n).2,0,(if (readH pa pb s off n).2 = 0 then (readH pa pb s off n).1 else []))
 else if K = 4 then ((writeH pa pb pc pd s off bs).1,(writeH pa pb pc pd s off bs).2,0,[])
 else if K = 5 then ((setRootH pa pb s off).1,(setRootH pa pb s off).2,0,[])
 else if K = 6 then (if s.M.down then (s,2,0,[]) else (s,0,rootN s.M,[]))
 else (s,1,0,[])
def anObj (e off : Int) (x : Sl) (z : Nat) : AObj := ⟨[.int .i64 e,.int .i64 off,x.val],.rw,z⟩
def opObj (K off n mask : Int) (x : Sl) (z : Nat) : AObj := ⟨[.int .i64 K,.int .i64 off,.int .i64 n,.int .i64 mask,x.val],.rw,z⟩
section
variable {H H' : AH} {L : Pl} {pa pb pc pd : Int} {s : HS}
theorem HA.other (h : HA H L pa pb pc pd s) {o : Nat} (ho : o ≠ L.h ∧ o ≠ L.g ∧ o ≠ L.t ∧ o ≠ L.x ∧ o ≠ L.p ∧ o ≠ L.c ∧ o ≠ L.ct ∧ o ≠ L.q1 ∧ o ≠ L.q2) (g : ∀ b,b ≠ o → H'.get b = H.get b) (hs : H'.size = H.size) : HA H' L pa pb pc pd s := by
 obtain ⟨n1,n2,n3,n4,n5,n6,n7,n8,n9⟩ := ho
 have hga := HAt.ga h
 exact ⟨by rw [g _ n1.symm,HAt.hh h],by rw [hs]; exact HAt.lh h,HAt.may h,hga.other ⟨n2,n3,n5,n6,n4⟩ g hs,
  HAt.ca_keep h (by rw [hs]; exact qlS _) (fun b hb => g b (by rcases hb with rfl | rfl | rfl; exact n7.symm; exact n8.symm; exact n9.symm)),HAt.ne h,HAt.nc h,HAt.pages h⟩
end
section
variable {H H' : AH}
theorem an_row {H : AH} {o : Nat} {e off : Int} {x : Sl} {z : Nat} (hg : H.get o = anObj e off x z) : AH.row? H ⟨o,0,none⟩ 3 = some [.int .i64 e,.int .i64 off,x.val] := by
 simp [AH.row?,hg,anObj,qo,Sl.val]
theorem an_put {H : AH} {o : Nat} {e off : Int} {x : Sl} {z : Nat} (hg : H.get o = anObj e off x z) : AH.put H ⟨o,0,none⟩ [.int .i64 e,.int .i64 off,x.val] = H := by
 refine AH.ext' rfl fun b => ?_
 simp only [AH.put,qu]
 split
 ·rename_i hb; subst hb; rw [hg]; rfl
 ·rfl
theorem do_j1 {o4 : Nat} {k : AH → Prop} {e off : Int} {x : Sl} {z : Nat} (hg : H.get o4 = anObj e off x z) (hk : k H) : qw.j1 o4 k H := by
 unfold qw.j1
 rw [ql (an_row hg)]
 refine ⟨⟨rfl,by simp [qo,Sl.val]⟩,?_⟩
 rw [qaQ,an_put hg]
 exact ⟨⟨rfl,by rw [hg]; rfl,by rw [hg]; simp [anObj]⟩,hk⟩
theorem an_set {o : Nat} {e off : Int} {x : Sl} {z : Nat} (hg : H.get o = anObj e off x z) (i : Nat) (hi : i < 3) (v : Value) :
  AH.canPut H (qlL ⟨o,0,none⟩ i) 1 ∧ (AH.put H (qlL ⟨o,0,none⟩ i) [v]).get o = ⟨[qlI .i64 e,qlI .i64 off,x.val].set i v,.rw,z⟩ ∧
   (∀ b,b ≠ o → (AH.put H (qlL ⟨o,0,none⟩ i) [v]).get b = H.get b) ∧ (AH.put H (qlL ⟨o,0,none⟩ i) [v]).size = H.size := by
 rw [qk,ql3]
 refine ⟨⟨rfl,by rw [hg]; rfl,by rw [hg]; simp [anObj]; omega⟩,?_,fun b hb => ?_,rfl⟩
 ·simp only [AH.put,qu,if_true,hg,anObj,setMany]
 ·simp only [AH.put,qu]; rw [if_neg hb]
end
section
variable {H : AH} {L : Pl} {pa pb pc pd : Int} {s : HS} {mvb : Nat} {cb : Int}
theorem qkq {o3 o4 z3 z4 : Nat} {K off n mask : Int} {x : Sl} {bs : List Int} {pk : Value → AH → Prop} {k : AH → Prop} (h : HOK H L pa pb pc pd s mvb cb)
  (ho : o4 ≠ L.h ∧ o4 ≠ L.g ∧ o4 ≠ L.t ∧ o4 ≠ L.x ∧ o4 ≠ L.p ∧ o4 ≠ L.c ∧ o4 ≠ L.ct ∧ o4 ≠ L.q1 ∧ o4 ≠ L.q2) (hl4 : o4 < H.size)
  (h3 : H.get o3 = opObj K off n mask x z3) (h4 : H.get o4 = anObj 0 0 ⟨none,0,0⟩ z4) (hio : isI off) (hin : isI n) (hb : K = 4 → ql5 H x 1 bU bs ∧ qam bs)
  (hpk : ∀ H',HA H' L pa pb pc pd (doH pa pb pc pd s K off n bs).1 → Frh H H' L → (doH pa pb pc pd s K off n bs).2.1 ≠ 0 → (doH pa pb pc pd s K off n bs).2.2 = (0,[]) → pk (.iface 31 (.int .i64 (doH pa pb pc pd s K off n bs).2.1)) H')
  (hk : ∀ H' x',HA H' L pa pb pc pd (doH pa pb pc pd s K off n bs).1 → H.size ≤ H'.size → (∀ b,b < H.size → b ≠ L.h → b ≠ L.t → b ≠ L.p → b ≠ L.c → b ≠ L.q1 → b ≠ L.q2 → b ≠ o4 → H'.get b = H.get b) →
   H'.get o4 = anObj (doH pa pb pc pd s K off n bs).2.1 (doH pa pb pc pd s K off n bs).2.2.1 x' z4 → Own H.size H' x' 1 bU (doH pa pb pc pd s K off n bs).2.2.2 → k H') :
  qw.r (some ⟨L.h,0,none⟩) o3 o4 H pk k := by
 have cell : ∀ i,AH.cell? H (qlL ⟨o3,0,none⟩ i) = (opObj K off n mask x z3).cells[i]? := fun i => by
  rw [qk,ql3]
  simp only [AH.cell?,h3,ql4,qlU,if_false]
  rw [if_neg (by simp [opObj])]
 have c0 : AH.cell? H (qlL ⟨o3,0,none⟩ 0) = some (.int .i64 K) := cell 0
 have c1 : AH.cell? H (qlL ⟨o3,0,none⟩ 1) = some (.int .i64 off) := cell 1
 have c2 : AH.cell? H (qlL ⟨o3,0,none⟩ 2) = some (.int .i64 n) := cell 2
 have c4 : AH.cell? H (qlL ⟨o3,0,none⟩ 4) = some x.val := cell 4
 have o4f : ∀ {H' : AH},Frh H H' L → H'.get o4 = anObj 0 0 ⟨none,0,0⟩ z4 := fun f => by
  rw [f.get o4 hl4 ho.1 ho.2.2.1 ho.2.2.2.2.1 ho.2.2.2.2.2.1 ho.2.2.2.2.2.2.2.1 ho.2.2.2.2.2.2.2.2,h4]
 -- the end without a write of the answer
 have plain : ∀ (H' : AH),HA H' L pa pb pc pd (doH pa pb pc pd s K off n bs).1 → Frh H H' L → (doH pa pb pc pd s K off n bs).2 = (0,0,[]) → qw.j1 o4 k H' := by
  intro H' hH f he
  refine do_j1 (o4f f) ?_
  rw [he] at hk
  exact hk H' ⟨none,0,0⟩ hH f.size (fun b hb h1 h2 h3 h4 h5 h6 _ => f.get b hb h1 h2 h3 h4 h5 h6) (o4f f) (.inl ⟨rfl,rfl⟩)
 -- the end behind a write of a cell of the answer
 have wr : ∀ (H' : AH) (i : Nat) (v : Value) (x' : Sl),i < 3 → HA H' L pa pb pc pd (doH pa pb pc pd s K off n bs).1 → Frh H H' L →
   (⟨[qlI .i64 0,qlI .i64 0,(⟨none,0,0⟩ : Sl).val].set i v,.rw,z4⟩ : AObj) = anObj (doH pa pb pc pd s K off n bs).2.1 (doH pa pb pc pd s K off n bs).2.2.1 x' z4 →
   Own H.size H' x' 1 bU (doH pa pb pc pd s K off n bs).2.2.2 → stC H' (qlL ⟨o4,0,none⟩ i) [v] fun Hs => qw.j1 o4 k Hs := by
  intro H' i v x' hi hH f hob hO
  obtain ⟨a1,a2,a3,a4⟩ := an_set (o4f f) i hi v
  rw [qaQ]
  refine ⟨a1,?_⟩
  rw [hob] at a2
  have hH2 := HA.other hH ho a3 a4
  have hO2 : Own H.size (AH.put H' (qlL ⟨o4,0,none⟩ i) [v]) x' 1 bU (doH pa pb pc pd s K off n bs).2.2.2 := hO.keep (by rw [a4]; exact qlS _) (fun b hb _ => a3 b (by omega))
  generalize AH.put H' (qlL ⟨o4,0,none⟩ i) [v] = H2 at *
  refine do_j1 a2 ?_
  exact hk H2 x' hH2 (by rw [a4]; exact f.size) (fun b hb h1 h2 h3 h4 h5 h6 h7 => (a3 b h7).trans (f.get b hb h1 h2 h3 h4 h5 h6)) a2 hO2
 unfold qw.r
 rw [c0,qf]
 simp only [qi,beq_iff_eq]
 unfold doH at hpk plain wr
 by_cases k1 : K = 1
 ·rw [if_pos k1]
  simp only [if_pos k1] at hpk plain wr
  rw [c2,qf]
  refine qiG h hin ?_ ?_
  ·intro he H' hH f
   exact hpk H' hH f he (by rw [if_neg he])
  ·intro he H' hH f
   refine wr H' 1 _ ⟨none,0,0⟩ (by omega) hH f ?_ (.inl ⟨rfl,rfl⟩)
   rw [he,if_pos rfl]; rfl
 rw [if_neg k1]
 simp only [if_neg k1] at hpk plain wr
 by_cases k2 : K = 2
 ·rw [if_pos k2]
  simp only [if_pos k2] at hpk plain wr
  rw [c1,qf]
  refine qi0 h ?_ ?_
  ·intro he H' hH f; exact hpk H' hH f he trivial
  ·intro he H' hH f; exact plain H' hH f (by rw [he])
 rw [if_neg k2]
 simp only [if_neg k2] at hpk plain wr
 by_cases k3 : K = 3
 ·rw [if_pos k3]
  simp only [if_pos k3] at hpk plain wr
  rw [c1,qf,c2,qf]
  refine qiZ h.ha hio ?_ ?_
  ·intro he H' hk'; exact hpk H' (HAt.keeps h.ha hk') (Frh.of_keeps hk') he (by rw [if_neg he])
  ·intro he x' H' hk' hO
   refine wr H' 2 _ x' (by omega) (HAt.keeps h.ha hk') (Frh.of_keeps hk') ?_ (by rw [if_pos he]; exact hO)
   rw [he]; rfl
 rw [if_neg k3]
 simp only [if_neg k3] at hpk plain wr
 by_cases k4 : K = 4
 ·rw [if_pos k4]
  simp only [if_pos k4] at hpk plain wr
  obtain ⟨hR,h8⟩ := hb k4
  rw [c1,qf,c4]
  show elL (some (.slice x.a x.n x.k)) _
  rw [qag]
  refine qh2 h hio hR h8 ?_ ?_
  ·intro he H' hH f; exact hpk H' hH f he trivial
  ·intro he H' hH f; exact plain H' hH f (by rw [he])
 rw [if_neg k4]
 simp only [if_neg k4] at hpk plain wr
 by_cases k5 : K = 5
 ·rw [if_pos k5]
  simp only [if_pos k5] at hpk plain wr
  rw [c1,qf]
  refine qg8 h ?_ ?_
  ·intro he H' hH f; exact hpk H' hH f he trivial
  ·intro he H' hH f; exact plain H' hH f (by rw [he])
 rw [if_neg k5]
 simp only [if_neg k5] at hpk plain wr
 by_cases k6 : K = 6
 ·rw [if_pos k6]
  simp only [if_pos k6] at hpk plain wr
  refine qi4 h.ha ?_ ?_
  ·intro hd
   rw [if_pos hd] at hpk
   exact hpk H h.ha Frh.refl (by simp) rfl
  ·intro hd
   simp only [hd,qlU,if_false] at wr
   exact wr H 1 _ ⟨none,0,0⟩ (by omega) h.ha Frh.refl rfl (.inl ⟨rfl,rfl⟩)
 rw [if_neg k6]
 simp only [if_neg k6] at hpk plain wr
 exact wr H 0 _ ⟨none,0,0⟩ (by omega) h.ha Frh.refl rfl (.inl ⟨rfl,rfl⟩)
end
set_option maxRecDepth 100000
def qw.ann0 : Ann := { keep := fun r => match r with  | _ => [],ord := fun r => match r with  | _ => [] }
def boxOf (c : Option Code) : Code := match c with
 | some (.seq r _) => r
 | _ => .skip
def nilOf (c : Option Code) : Code := match c with
 | some (.seq _ (.seq r _)) => r
 | _ => .skip
def deferOf (c : Option Code) : Code := match c with
 | some (.seq _ (.seq _ (.seq r _))) => r
 | _ => .skip
def qw.Q0 (k0 : Value → Value → Value → AH → Prop) : LExit → Fr → AH → Prop := fun e fr H => match e with
 | .normal => k0 (fr 0) (fr 3) (fr 4) H
 | _ => False
def qw.Q1 (kr k : AH → Prop) : LExit → Fr → AH → Prop := fun e _ H => match e with
 | .normal => k H
 | .ret => kr H
 | _ => False
theorem qw.box_link {x0 : Option Addr} {x1 : List Value} {H : AH} {k0 : Value → Value → Value → AH → Prop} :
  wpC Tryz.prog T pan Tryz.f18.ntmps qw.ann0 (boxOf Tryz.f18.body) (argFr [.pointer x0,.agg (List.toArray x1)]) H (qw.Q0 k0) =
  (newC H ⟨x1,.rw,0⟩ fun o3 H3 => newC H3 ⟨[(qlI .i64 (0 : Int)),(qlI .i64 (0 : Int)),(qlV none 0 0)],.rw,0⟩ fun o4 H4 => k0 (qlO x0) (qlO (some ⟨o3,0,none⟩)) (qlO (some ⟨o4,0,none⟩)) H4) := by kernel_rfl
theorem qw.nil_link {x0 : Option Addr} {o3 o4 : Nat} {H : AH} {kr k : AH → Prop} :
  wpC Tryz.prog T pan Tryz.f18.ntmps qw.ann0 (nilOf Tryz.f18.body) (argFr [.pointer x0,undef,undef,.pointer (some ⟨o3,0,none⟩),.pointer (some ⟨o4,0,none⟩)]) H (qw.Q1 kr k) =
  (bcase (Option.isNone x0) ((qlY [(qlI .i64 (1 : Int)),(qlI .i64 (0 : Int)),(qlV none 0 0)] = 3 ∧ List.all [(qlI .i64 (1 : Int)),(qlI .i64 (0 : Int)),(qlV none 0 0)] qo = true) ∧ stC H ⟨o4,0,none⟩ [(qlI .i64 (1 : Int)),(qlI .i64 (0 : Int)),(qlV none 0 0)] fun Hs2 => kr Hs2) (k H)) := by kernel_rfl
theorem qw.body_eq : Tryz.f18.body = some (.seq (boxOf Tryz.f18.body) (.seq (nilOf Tryz.f18.body) (.seq (deferOf Tryz.f18.body) (restOf Tryz.f18.body)))) := by kernel_rfl
end Go.Proofs.YtdcbkjgoaknmkaaGreat
