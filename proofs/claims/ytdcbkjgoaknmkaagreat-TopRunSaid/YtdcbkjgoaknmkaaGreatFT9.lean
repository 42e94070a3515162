/- Lemmas for the law: an abstract machine, and what the functions do on it. No condition. -/
import Derived.Test.YtdcbkjgoaknmkaaGreatFT8
set_option linter.all false
open Go.Value renaming int → qlI,pointer → qlO
open Go.IntKind renaming wrap → qlJ,bits → qmQ
open List renaming getElem?_eq_getElem → qlK,getD_eq_getElem?_getD → qlM,replicate → qlN,getElem?_eq_none → qlR,getElem?_map → qlW,mem_of_getElem? → qlX,length → qlY,length_cons → ql0,getElem_mem → ql1,mem_append → ql2,mem_cons → ql6,length_append → ql7,getElem?_append_right → ql8,ext_getElem? → qmc,getElem?_append_left → qmd,getElem?_set_ne → qmf,getElem?_range → qmh,mem_map → qml,flatMap_cons → qmn,getElem?_drop → qmo,all → qmq,getElem?_take → qmr,all_eq_true → qmu,map_cons → qmv,cons_append → qmw,take_of_length_le → qmx,getElem?_set_self → qmy,range → qmA,getElem?_cons_succ → qmC,take_length → qmI,mem_range → qmJ,flatMap_append → qmP,length_nil → qmR,mem_or_eq_of_mem_set → qmX,drop_zero → qmY,range_succ → qm0,drop_length → qm3,take_succ → qm6
open Go.Addr renaming add → qlL
open Int renaming toNat_natCast → qlP,toNat → qlQ,eq_ofNat_of_zero_le → qma,tdiv_eq_ediv_of_nonneg → qmK,tmod → qmS
open Nat renaming le_refl → qlS,zero_add → ql3,zero_le → qmT,mul_le_mul_right → qmZ
open Bool renaming false_eq_true → qlU,not_true → qmm,not_false → qmp
open Option renaming isNone_some → qlZ,isSome_none → ql4,map_some → qmi,getD_some → qms,toList_some → qnl
open Go.Abs renaming Rows → ql5
open BitVec renaming ofInt → qmH
open Option.some renaming injEq → qmU
namespace Go.Proofs.YtdcbkjgoaknmkaaGreat
open Go Go.Abs
def putE (ws : List Int) (x : Int × Int) : List Int := if 0 ≤ x.1 ∧ x.1 < ws.length then ws.set x.1.toNat x.2 else ws
def applyE (ws : List Int) (l : List (Int × Int)) : List Int := l.foldl putE ws
theorem qi1 (ws : List Int) (x : Int × Int) : (putE ws x).length = ws.length := by unfold putE; split <;> simp
theorem qac (l : List (Int × Int)) : ∀ ws,(applyE ws l).length = ws.length := by
 induction l with
 | nil => intro ws; rfl
 | cons x r ih => intro ws; simp only [applyE,List.foldl_cons]; exact (ih _).trans (qi1 _ _)
theorem ed_put {H : AH} (x y : Int × Int) : AH.put (H.push ⟨eU x,.rw,0⟩) ⟨H.size,0,none⟩ (eU y) = H.push ⟨eU y,.rw,0⟩ := qdq _ _ _ _ _
theorem ed_can {H : AH} (x : Int × Int) : AH.canPut (H.push ⟨eU x,.rw,0⟩) ⟨H.size,0,none⟩ 2 := qcC.2 (by simp [eU])
theorem ed_0 {H : AH} (x : Int × Int) : AH.cell? (H.push ⟨eU x,.rw,0⟩) (qlL ⟨H.size,0,none⟩ 0) = some (.int .i64 x.1) := qdQ _ _ _ _
theorem ed_1 {H : AH} (x : Int × Int) : AH.cell? (H.push ⟨eU x,.rw,0⟩) (qlL ⟨H.size,0,none⟩ 1) = some (.int .u64 x.2) := qdQ _ _ _ _
theorem ed_nil : ([(qlI .i64 (0 : Int)),(qlI .u64 (0 : Int))] : List Value) = eU (0,0) := rfl
theorem qaZ.s {H : AH} {x0 x1 : Sl} {ws : List Int} {l : List (Int × Int)} {k : Sl → AH → Prop} (hw : ql5 H x0 1 wU ws) (hwl : ws.length ≤ 1000000) (hl : ql5 H x1 2 eU l) (hll : l.length ≤ 1000000)
  (h : ∀ s H',qa H H' → Own H.size H' s 1 wU (applyE ws l) ∨ (ws = [] ∧ s.n = 0) → k s H') : qaZ x0 x1 H k := by
 refine qaZ.link ?_
 unfold qaZ.b
 refine qak.s hw hwl ?_
 intro s9 H9 hK9 hO9
 refine qI (t := (0 : Int)) (H := H9) (I := fun (t : Int) H' => ∃ j : Nat,t = (j : Int) ∧ j ≤ l.length ∧ qa H H' ∧ (Own H.size H' s9 1 wU (applyE ws (l.take j)) ∨ (ws = [] ∧ s9.n = 0))) (m := fun (t : Int) _ => qlQ ((l.length : Int) - t)) ?_ ⟨0,rfl,by omega,hK9,hO9⟩
 intro t H1 hI it hit
 obtain ⟨j,rfl,hj,hK,hO⟩ := hI
 have hR := hl.keep hK
 unfold qaZ.l2
 rw [hl.1]
 by_cases hlt : j < l.length
 ·rw [show decide ((j : Int) < (l.length : Int)) = true from by simpa using hlt,qj]
  obtain ⟨b,o,ha,hb,hrow⟩ := hR.at hlt
  refine ⟨⟨by omega,by omega⟩,?_⟩
  rw [ha,qd,qlP,ql hrow]
  generalize hx : l[j] = x at *
  have htk : applyE ws (l.take (j + 1)) = putE (applyE ws (l.take j)) x := by
   rw [qm6,qlK hlt,hx,qnl]
   simp [applyE,List.foldl_append]
  have hn : s9.n = ws.length := by
   rcases hO with hO | ⟨rfl,h0⟩
   ·rw [own_n hO,qac]
   ·rw [h0]; rfl
  simp only [qp,qaQ,ed_nil,ed_put,ed_can,ed_0,ed_1,qf,show (eU x).length = 2 from rfl,show (eU x).all qo = true from rfl,true_and]
  have hnext : ∀ H',qa H H' → (Own H.size H' s9 1 wU (putE (applyE ws (l.take j)) x) ∨ (ws = [] ∧ s9.n = 0)) → it ((j : Int) + 1) H' := by
   intro H' hK' hO'
   rw [← htk] at hO'
   exact hit _ _ ⟨j + 1,by simp,by omega,hK',hO'⟩ (by omega)
  have hO1 : Own H.size (H1.push ⟨eU x,.rw,0⟩) s9 1 wU (applyE ws (l.take j)) ∨ (ws = [] ∧ s9.n = 0) :=
   hO.imp (fun hO => hO.keep (by simp [qe]) (fun b _ hb => qv (by omega))) id
  unfold qaZ.j1
  simp only [ed_0,ed_1,qf]
  rw [qg (n := (j : Int) + 1) (by omega) (by omega),hn]
  by_cases h0 : x.1 ≥ 0
  ·rw [show decide (x.1 ≥ 0) = true from by simpa using h0,qj]
   by_cases h1 : x.1 < (ws.length : Int)
   ·rw [show decide (x.1 < (ws.length : Int)) = true from by simpa using h1,qj]
    refine ⟨⟨h0,h1⟩,?_⟩
    rcases hO1 with hO1 | ⟨rfl,_⟩
    ·have hlw : x.1.toNat < (applyE ws (l.take j)).length := by rw [qac]; omega
     obtain ⟨b',ha',hb1,hb2,hcan,hO',_⟩ := hO1.put (y := x.2) (fun _ => rfl) (qlK hlw) (j := 0) (by omega) (v := .int .u64 x.2) rfl
     rw [ha',qd,qk,ql3]
     refine ⟨hcan,?_⟩
     refine hnext _ ((hK.push _).put hb1 _) (.inl ?_)
     have hp : putE (applyE ws (l.take j)) x = (applyE ws (l.take j)).set x.1.toNat x.2 := by
      unfold putE; rw [if_pos ⟨h0,by rw [qac]; exact h1⟩]
     rw [hp]; exact hO'
    ·simp at h1; omega
   ·rw [show decide (x.1 < (ws.length : Int)) = false from by simpa using h1,qc]
    refine hnext _ (hK.push _) (hO1.imp (fun hO => ?_) id)
    have hp : putE (applyE ws (l.take j)) x = applyE ws (l.take j) := by unfold putE; rw [if_neg (by rw [qac]; omega)]
    rw [hp]; exact hO
  ·rw [show decide (x.1 ≥ 0) = false from by simpa using h0,qc,qc]
   refine hnext _ (hK.push _) (hO1.imp (fun hO => ?_) id)
   have hp : putE (applyE ws (l.take j)) x = applyE ws (l.take j) := by unfold putE; rw [if_neg (by omega)]
   rw [hp]; exact hO
 ·rw [show decide ((j : Int) < (l.length : Int)) = false from by simpa using hlt,qc]
  have : j = l.length := by omega
  subst this
  rw [qmI] at hO
  exact h _ _ hK hO
theorem qi2 {ws : List Int} (h64 : qaI ws) {i p : Nat} {c : Int} (hi : i / 8 < ws.length) (hp : p / 8 < ws.length) (hc : 0 ≤ c ∧ c ≤ 255) : byteAt (putB ws i c) p = if p = i then c else byteAt ws p := by
 unfold byteAt
 rw [qfv _ _ _ _ hi]
 by_cases hw : p / 8 = i / 8
 ·rw [if_pos hw]
  by_cases hpi : p = i
  ·subst hpi; rw [if_pos rfl,qg3 (by omega) hc]
  ·rw [if_neg hpi,← hw]
   have hv : 0 ≤ ws.getD (p / 8) 0 ∧ ws.getD (p / 8) 0 ≤ 18446744073709551615 := by
    rw [qlM,qlK hp,qms]
    exact h64 _ (ql1 hp)
   exact qgL hv (by omega) (by omega) (by omega) hc
 ·rw [if_neg hw,if_neg (by intro h; exact hw (by rw [h]))]
theorem qd5 : ∀ (bs ws : List Int) (i : Nat),qaI ws → qaI (putBs ws i bs) := by
 intro bs
 induction bs with
 | nil => intro ws i h; exact h
 | cons c r ih => intro ws i h; exact ih _ _ (qfL h i c)
theorem qhP : ∀ (bs ws : List Int) (i p : Nat),qaI ws → qam bs → i + bs.length ≤ ws.length * 8 → p / 8 < ws.length →
  byteAt (putBs ws i bs) p = if i ≤ p ∧ p < i + bs.length then bs.getD (p - i) 0 else byteAt ws p := by
 intro bs
 induction bs with
 | nil => intro ws i p _ _ _ _; rw [if_neg (by simp)]; rfl
 | cons c r ih =>
  intro ws i p h64 h8 hl hp
  simp only [ql0] at hl
  simp only [putBs]
  rw [ih _ _ _ (qfL h64 i c) (fun v hv => h8 v (by simp [hv])) (by rw [qdW]; omega) (by rw [qdW]; exact hp),qi2 h64 (by omega) hp (h8 c (by simp))]
  simp only [ql0]
  by_cases h1 : i + 1 ≤ p ∧ p < i + 1 + r.length
  ·rw [if_pos h1,if_pos (by omega)]
   obtain ⟨d,hd⟩ : ∃ d,p - i = d + 1 := ⟨p - i - 1,by omega⟩
   rw [hd,List.getD_cons_succ]
   congr 1; omega
  ·rw [if_neg h1]
   by_cases h2 : p = i
   ·subst h2; rw [if_pos rfl,if_pos (by omega)]; simp
   ·rw [if_neg h2,if_neg (by omega)]
theorem qki {a b : List Int} (hl : a.length = b.length) (h : ∀ w,w < a.length → a.getD w 0 = b.getD w 0) : a = b := by
 apply qmc
 intro w
 by_cases hw : w < a.length
 ·have := h w hw
  simp only [qlM,qlK hw,qlK (show w < b.length by omega),qms] at this
  rw [qlK hw,qlK (show w < b.length by omega),this]
 ·rw [qlR (by omega),qlR (by omega)]
theorem qiy (cur : List Int) (q m : Nat) : editsOf cur q (m + 1) = editsOf cur q m ++ [(((q + m : Nat) : Int),cur.getD (q + m) 0)] := by
 simp only [editsOf,qm0,List.map_append,qmv,List.map_nil]
theorem qiJ {ws cur : List Int} {q : Nat} : ∀ (m w : Nat),q + m ≤ ws.length → (applyE ws (editsOf cur q m)).getD w 0 = if q ≤ w ∧ w < q + m then cur.getD w 0 else ws.getD w 0 := by
 intro m
 induction m with
 | zero => intro w _; rw [if_neg (by omega)]; rfl
 | succ m ih =>
  intro w hm
  rw [qiy]
  have : applyE ws (editsOf cur q m ++ [(((q + m : Nat) : Int),cur.getD (q + m) 0)]) = putE (applyE ws (editsOf cur q m)) (((q + m : Nat) : Int),cur.getD (q + m) 0) := by simp [applyE,List.foldl_append]
  rw [this]
  unfold putE
  rw [if_pos ⟨by simp only; omega,by simp only [qac]; omega⟩]
  simp only [qlP]
  by_cases hw : w = q + m
  ·subst hw
   rw [if_pos (by omega),qlM,qmy (by rw [qac]; omega),qms]
  ·have h2 : ((applyE ws (editsOf cur q m)).set (q + m) (cur.getD (q + m) 0)).getD w 0 = (applyE ws (editsOf cur q m)).getD w 0 := by
    simp only [qlM]
    rw [qmf (by omega)]
   rw [h2,ih w (by omega)]
   by_cases h3 : q ≤ w ∧ w < q + m
   ·rw [if_pos h3,if_pos (by omega)]
   ·rw [if_neg h3,if_neg (by omega)]
theorem qit {ws bs : List Int} {off : Nat} (hl : off + bs.length ≤ ws.length * 8) : applyE ws (editsOf (putBs ws off bs) (off / 8) (touched off bs.length)) = putBs ws off bs := by
 have hm : off / 8 + touched off bs.length ≤ ws.length ∨ bs = [] := by
  cases bs with
  | nil => exact .inr rfl
  | cons c r => left; simp only [ql0,touched] at hl ⊢; rw [if_neg (by omega)]; omega
 rcases hm with hm | rfl
 ·refine qki (by rw [qac,qcG]) fun w _ => ?_
  rw [qiJ _ _ hm]
  split
  ·rfl
  ·rename_i hw
   by_cases h0 : bs.length = 0
   ·have : bs = [] := List.length_eq_zero_iff.1 h0
    subst this; rfl
   ·have : touched off bs.length = (off + bs.length - 1) / 8 - off / 8 + 1 := by simp [touched,h0]
    exact (qfC _ _ _ _ (by omega) hl).symm
 ·rfl
abbrev Bk : Type := Int × Int × Bool
def bkV (b : Bk) : List Value := [.int .i64 b.1,.int .i64 b.2.1,.bool b.2.2]
theorem bkV_len (b : Bk) : (bkV b).length = 3 := rfl
theorem bkV_ok (b : Bk) : (bkV b).all qo = true := rfl
def needN (n : Int) : Int := if 1 ≤ n ∧ n ≤ 448 then 1 + (n + 7) / 8 else 0
def takesN (size need : Int) : Int := if 2 ≤ need ∧ need ≤ size then (if size - need < 2 then size else need) else 0
def mayS (n : Int) : Prop := 2 ≤ n ∧ n ≤ 512
instance (n : Int) : Decidable (mayS n) := by unfold mayS; infer_instance
def wordN (n : Int) (u : Bool) : Int := if mayS n then 2 * n + (if u then 1 else 0) else 0
def offN (pt : Int) : Int := if 0 ≤ pt ∧ pt ≤ 512 then (pt + 1) * 8 else 0
def mayW (n : Int) : Prop := 8 ≤ n ∧ n ≤ 512 ∧ n % 8 = 0
instance (n : Int) : Decidable (mayW n) := by unfold mayW; infer_instance
theorem shr1 {v : Int} (h : 0 ≤ v) : shrI .u64 v 1 = v / 2 := by
 unfold shrI
 rw [Int.fdiv_eq_ediv_of_nonneg _ (by decide)]
 rfl
theorem and1w {v : Int} (h : isU v) : andI .u64 v 1 = v % 2 := by
 unfold isU at h
 obtain ⟨n,rfl⟩ := qma h.1
 have hn : n < 2 ^ 64 := by omega
 unfold andI
 have e : (qmH (qmQ .u64) (n : Int) &&& qmH (qmQ .u64) 1).toNat = n % 2 := by
  rw [BitVec.toNat_and]
  have e1 : (qmH (qmQ .u64) (n : Int)).toNat = n := by
   show (qmH 64 (n : Int)).toNat = n
   rw [BitVec.toNat_ofInt]
   omega
  have e2 : (qmH (qmQ .u64) 1).toNat = 1 := rfl
  rw [e1,e2,Nat.and_one_is_mod]
 rw [e,qbE (by omega) (by omega)]
 omega
theorem shl1 {n : Int} (h : mayS n) : shlI .u64 (qlJ .u64 n) 1 = 2 * n := by
 unfold mayS at h
 unfold shlI
 rw [qbE (n := n) (by omega) (by omega)]
 have : (2 : Int) ^ (min (qlQ 1) (qmQ .u64)) = 2 := rfl
 rw [this,qbE (by omega) (by omega)]; omega
theorem or1 {n : Int} (h : mayS n) : orI .u64 (2 * n) 1 = 2 * n + 1 := by
 unfold mayS at h
 obtain ⟨m,rfl⟩ := qma (show 0 ≤ n by omega)
 have hm : m < 513 := by omega
 have key : ∀ m : Fin 513,orI .u64 (2 * ((m.val : Nat) : Int)) 1 = 2 * ((m.val : Nat) : Int) + 1 := by decide +kernel
 exact key ⟨m,hm⟩
section
variable {H : AH}
def BkAt (H : AH) (o : Nat) (b : Bk) : Prop := ∃ e,H.get o = ⟨bkV b,.rw,e⟩
theorem BkAt.c0 {o : Nat} {b : Bk} (h : BkAt H o b) : AH.cell? H (qlL ⟨o,0,none⟩ 0) = some (.int .i64 b.1) := by obtain ⟨e,h⟩ := h; simp [qk,AH.cell?,h,bkV]
theorem BkAt.c1 {o : Nat} {b : Bk} (h : BkAt H o b) : AH.cell? H (qlL ⟨o,0,none⟩ 1) = some (.int .i64 b.2.1) := by obtain ⟨e,h⟩ := h; simp [qk,AH.cell?,h,bkV]
theorem BkAt.c2 {o : Nat} {b : Bk} (h : BkAt H o b) : AH.cell? H (qlL ⟨o,0,none⟩ 2) = some (.bool b.2.2) := by obtain ⟨e,h⟩ := h; simp [qk,AH.cell?,h,bkV]
theorem BkAt.row {o : Nat} {b : Bk} (h : BkAt H o b) : AH.row? H ⟨o,0,none⟩ 3 = some (bkV b) := by
 obtain ⟨e,h⟩ := h
 simp only [AH.row?,h,ql4,qlU,if_false,qmY]
 rw [if_neg (by simp),qmx (by rw [bkV_len]; omega),if_pos ⟨by rw [bkV_len]; omega,bkV_ok _⟩]
theorem BkAt.keep {H' : AH} {o : Nat} {b : Bk} (h : BkAt H o b) (hg : H'.get o = H.get o) : BkAt H' o b := by obtain ⟨e,h⟩ := h; exact ⟨e,hg.trans h⟩
theorem BkAt.new {b : Bk} {e : Nat} : BkAt (H.push ⟨bkV b,.rw,e⟩) H.size b := ⟨e,by rw [qm,if_pos rfl]⟩
theorem qas {α : Type} {s : Sl} {z : Nat} {f : α → List Value} {l : List α} (h : ql5 H s z f l) (hp : 0 < l.length) :
  ∃ b o,s.a = some ⟨b,o,none⟩ ∧ b < H.size ∧ ∀ i x,l[i]? = some x → AH.row? H (qlL ⟨b,o,none⟩ (i * z)) z = some (f x) ∧ ∀ j v,(f x)[j]? = some v → AH.cell? H (qlL (qlL ⟨b,o,none⟩ (i * z)) j) = some v := by
 obtain ⟨b,o,h1,h2,_⟩ := h.at hp
 refine ⟨b,o,h1,h2,fun i x hx => ?_⟩
 obtain ⟨a,e1,e2,e3,e4⟩ := h.2 i x hx
 rw [h1] at e1
 injection e1 with e1
 subst e1
 rw [qk]
 refine ⟨e4,fun j v hv => ?_⟩
 rw [qk]
 exact (AH.row?_cell e4).2.2.2.2 j v hv
theorem qbW {cs vs : List Value} {e n : Nat} {K : Nat → AH → Prop} (hc : cs.length = n) (hv : vs.length = n) (ho : vs.all qo = true)
  (hK : K H.size (H.push ⟨vs,.rw,e⟩)) : newC H ⟨cs,.rw,e⟩ fun o H1 => (vs.length = n ∧ vs.all qo = true) ∧ stC H1 ⟨o,0,none⟩ vs fun Hs => K o Hs := by
 rw [qp]
 refine ⟨⟨hv,ho⟩,?_⟩
 rw [qaQ]
 have e1 : AH.put (H.push ⟨cs,.rw,e⟩) ⟨H.size,0,none⟩ vs = H.push ⟨vs,.rw,e⟩ := by
  rw [qdq]
  congr 2
  apply qmc
  intro t
  rw [qb5 _ _ _ _ (by omega)]
  by_cases ht : t < vs.length
  ·rw [if_pos (by omega)]; rfl
  ·rw [if_neg (by omega),qlR (by omega),qlR (by omega)]
 rw [e1]
 exact ⟨qcC.2 (by omega),hK⟩
end
def chainB (words : Int) : Int → Bool → List Bk → Prop
 | pt,_,[] => pt = words
 | pt,pu,b :: r => b.1 = pt ∧ mayS b.2.1 ∧ b.2.1 ≤ words - pt ∧ (pu = true ∨ b.2.2 = true) ∧ chainB words (pt + b.2.1) b.2.2 r
instance chainB.dec {words : Int} : ∀ (l : List Bk) (pt : Int) (pu : Bool),Decidable (chainB words pt pu l)
 | [],pt,pu => by unfold chainB; infer_instance
 | b :: r,pt,pu => by
  unfold chainB
  have := chainB.dec (words := words) r (pt + b.2.1) b.2.2
  infer_instance
def MayB (l : List Bk) (words : Int) : Prop := mayW words ∧ chainB words 0 true l
instance {l : List Bk} {words : Int} : Decidable (MayB l words) := by unfold MayB; infer_instance
def puAt (l : List Bk) : Nat → Bool
 | 0 => true
 | i + 1 => (l.getD i (0,0,false)).2.2
theorem qdj {α : Type} {l : List α} {i : Nat} (hi : i < l.length) : l.drop i = l[i] :: l.drop (i + 1) := by
 rw [List.drop_eq_getElem_cons hi]
section
variable {H : AH}
def blkFrom (ws : List Int) (pt : Nat) : Option (List Bk) :=
 if h : pt < ws.length then
  if h2 : mayS (ws.getD pt 0 / 2) then (blkFrom ws (pt + (ws.getD pt 0 / 2).toNat)).map (((pt : Int),ws.getD pt 0 / 2,(ws.getD pt 0 % 2 == 1)) :: ·) else none
 else some []
termination_by ws.length - pt
decreasing_by unfold mayS at h2; omega
theorem qdM (ws : List Int) (pt : Nat) : blkFrom ws pt = if h : pt < ws.length then
  if h2 : mayS (ws.getD pt 0 / 2) then (blkFrom ws (pt + (ws.getD pt 0 / 2).toNat)).map (((pt : Int),ws.getD pt 0 / 2,(ws.getD pt 0 % 2 == 1)) :: ·) else none
 else some [] := by rw [blkFrom]
def blocksN (ws : List Int) : Option (List Bk) := (blkFrom ws 0).bind fun l => if MayB l ws.length then some l else none
theorem qbu {ws : List Int} {l : List Bk} (h : blocksN ws = some l) : MayB l ws.length := by
 unfold blocksN at h
 rw [Option.bind_eq_some_iff] at h
 obtain ⟨l',_,h2⟩ := h
 split at h2
 ·injection h2 with h2; subst h2; assumption
 ·cases h2
theorem chainB.le {words : Int} : ∀ {l : List Bk} {pt : Int} {pu : Bool},chainB words pt pu l → pt + 2 * l.length ≤ words := by
 intro l
 induction l with
 | nil => intro pt pu h; simp only [chainB] at h; simp; omega
 | cons b r ih =>
  intro pt pu h
  have := ih h.2.2.2.2
  have := h.2.1
  unfold mayS at this
  simp only [ql0]; omega
theorem chainB.mem {words : Int} : ∀ {l : List Bk} {pt : Int} {pu : Bool},chainB words pt pu l → ∀ b ∈ l,pt ≤ b.1 ∧ b.1 + b.2.1 ≤ words ∧ mayS b.2.1 := by
 intro l
 induction l with
 | nil => intro pt pu h b hb; cases hb
 | cons a r ih =>
  intro pt pu h b hb
  have hs := h.2.1
  unfold mayS at hs
  rw [ql6] at hb
  rcases hb with rfl | hb
  ·have := h.2.2.1; have := h.1; exact ⟨by omega,by omega,h.2.1⟩
  ·have := ih h.2.2.2.2 b hb; exact ⟨by omega,this.2⟩
theorem MayB.len {l : List Bk} {words : Int} (h : MayB l words) : 2 * (l.length : Int) ≤ words ∧ words ≤ 512 := by
 have := h.2.le; have := h.1.2.1; omega
theorem MayB.mem {l : List Bk} {words : Int} (h : MayB l words) {b : Bk} (hb : b ∈ l) : 0 ≤ b.1 ∧ b.1 + b.2.1 ≤ words ∧ 2 ≤ b.2.1 ∧ b.2.1 ≤ 512 := by
 have := h.2.mem b hb; have h2 := this.2.2; unfold mayS at h2; omega
end
def nV (i : Nat) : List Value := [.int .i64 (i : Int)]
def bkAt (l : List Bk) (i : Nat) : Bk := l.getD i (0,0,false)
def fitStep (l : List Bk) (need : Int) (out : List Nat) (i : Nat) : List Nat :=
 if (bkAt l i).2.2 = true ∨ (bkAt l i).2.1 < need then out else
 let out1 := if 0 < out.length ∧ (bkAt l (out.getD 0 0)).2.1 > (bkAt l i).2.1 then [] else out
 if out1.length = 0 ∨ (bkAt l (out1.getD 0 0)).2.1 = (bkAt l i).2.1 then out1 ++ [i] else out1
def fitsTo (l : List Bk) (need : Int) (j : Nat) : List Nat := (qmA j).foldl (fitStep l need) []
def fitsL (l : List Bk) (need : Int) : List Nat := if need < 2 then [] else fitsTo l need l.length
theorem qeI (l : List Bk) (need : Int) (j : Nat) : fitsTo l need (j + 1) = fitStep l need (fitsTo l need j) j := by
 unfold fitsTo; rw [qm0,List.foldl_append]; rfl
theorem qiS {l : List Bk} {need : Int} {out : List Nat} {i j : Nat} (h : j ∈ fitStep l need out i) : j ∈ out ∨ (j = i ∧ (bkAt l i).2.2 = false ∧ need ≤ (bkAt l i).2.1) := by
 unfold fitStep at h
 split at h
 ·exact .inl h
 ·rename_i h1
  simp only at h
  have h3 : (bkAt l i).2.2 = false ∧ need ≤ (bkAt l i).2.1 := by
   constructor
   ·cases hh : (bkAt l i).2.2
    ·rfl
    ·exact absurd (.inl hh) h1
   ·exact Int.not_lt.1 fun hh => h1 (.inr hh)
  have hsub : ∀ x,x ∈ (if 0 < out.length ∧ (bkAt l (out.getD 0 0)).2.1 > (bkAt l i).2.1 then [] else out) → x ∈ out := by
   intro x hx
   split at hx
   ·cases hx
   ·exact hx
  generalize (if 0 < out.length ∧ (bkAt l (out.getD 0 0)).2.1 > (bkAt l i).2.1 then [] else out) = o1 at h hsub
  split at h
  ·rw [ql2] at h
   rcases h with h | h
   ·exact .inl (hsub _ h)
   ·simp at h; exact .inr ⟨h,h3⟩
  ·exact .inl (hsub _ h)
theorem qdG {l : List Bk} {need : Int} : ∀ {j i : Nat},i ∈ fitsTo l need j → i < j ∧ (bkAt l i).2.2 = false ∧ need ≤ (bkAt l i).2.1 := by
 intro j
 induction j with
 | zero => intro i h; cases h
 | succ j ih =>
  intro i h
  rw [qeI] at h
  rcases qiS h with h | ⟨rfl,h⟩
  ·have := ih h; exact ⟨by omega,this.2⟩
  ·exact ⟨by omega,h⟩
theorem qeW {l : List Bk} {need : Int} : ∀ {j : Nat},(fitsTo l need j).length ≤ j := by
 intro j
 induction j with
 | zero => exact qlS _
 | succ j ih =>
  rw [qeI]
  unfold fitStep
  split
  ·omega
  ·simp only
   have hx : (if 0 < (fitsTo l need j).length ∧ (bkAt l ((fitsTo l need j).getD 0 0)).2.1 > (bkAt l j).2.1 then [] else fitsTo l need j).length ≤ j := by
    split
    ·exact qmT _
    ·exact ih
   generalize (if 0 < (fitsTo l need j).length ∧ (bkAt l ((fitsTo l need j).getD 0 0)).2.1 > (bkAt l j).2.1 then [] else fitsTo l need j) = o1 at *
   split
   ·rw [ql7]; simp only [ql0,qmR]; omega
   ·omega
theorem qaW {l : List Bk} {i : Nat} (hi : i < l.length) : l[i]? = some (bkAt l i) := by
 unfold bkAt; rw [qlM,qlK hi]; rfl
def countN (pt : Int) (cs : List Int) : Int := if pt < 0 ∨ (cs.length : Int) ≤ pt / 32 then 0 else cs.getD (pt / 32).toNat 0
def chStep (l : List Bk) (cs : List Int) (best : Int) (i : Nat) : Int :=
 if best < 0 ∨ countN (bkAt l i).1 cs < countN (bkAt l best.toNat).1 cs ∨ (countN (bkAt l i).1 cs = countN (bkAt l best.toNat).1 cs ∧ (bkAt l i).1 < (bkAt l best.toNat).1) then (i : Int) else best
def chooseN (l : List Bk) (need : Int) (cs : List Int) : Int := (fitsL l need).foldl (chStep l cs) (-1)
theorem qeV {l : List Bk} {cs : List Int} : ∀ {f : List Nat} {b : Int},f.foldl (chStep l cs) b = b ∨ ∃ i ∈ f,f.foldl (chStep l cs) b = (i : Int) := by
 intro f
 induction f with
 | nil => intro b; exact .inl rfl
 | cons a r ih =>
  intro b
  simp only [List.foldl_cons]
  rcases ih (b := chStep l cs b a) with h | ⟨i,hi,h⟩
  ·rw [h]
   unfold chStep
   split
   ·exact .inr ⟨a,by simp,rfl⟩
   ·exact .inl rfl
  ·exact .inr ⟨i,by simp [hi],h⟩
theorem qeN {l : List Bk} {need : Int} {cs : List Int} : chooseN l need cs = -1 ∨ ∃ i : Nat,chooseN l need cs = (i : Int) ∧ i < l.length ∧ (bkAt l i).2.2 = false ∧ need ≤ (bkAt l i).2.1 ∧ 2 ≤ need := by
 unfold chooseN
 rcases qeV (l := l) (cs := cs) (f := fitsL l need) (b := -1) with h | ⟨i,hi,h⟩
 ·exact .inl h
 ·unfold fitsL at hi
  split at hi
  ·cases hi
  ·obtain ⟨h1,h2,h3⟩ := qdG hi
   exact .inr ⟨i,h,h1,h2,h3,by omega⟩
def isN (off : Int) : List Bk → Nat → Int
 | [],_ => -1
 | b :: r,i => if b.2.2 = true ∧ offN b.1 = off then (i : Int) else isN off r (i + 1)
theorem qd4 (off : Int) : ∀ (l : List Bk) (i : Nat),isN off l i = -1 ∨ ∃ j : Nat,isN off l i = ((i + j : Nat) : Int) ∧ j < l.length ∧ (bkAt l j).2.2 = true ∧ offN (bkAt l j).1 = off := by
 intro l
 induction l with
 | nil => intro i; exact .inl rfl
 | cons b r ih =>
  intro i
  unfold isN
  split
  ·rename_i h; exact .inr ⟨0,rfl,by simp,h.1,h.2⟩
  ·rcases ih (i + 1) with h | ⟨j,h1,h2,h3⟩
   ·exact .inl h
   ·exact .inr ⟨j + 1,by rw [h1]; congr 1; omega,by simpa using h2,h3⟩
def inB (off n : Int) (b : Bk) : Prop := b.2.2 = true ∧ offN b.1 ≤ off ∧ off ≤ (b.1 + b.2.1) * 8 ∧ n ≤ (b.1 + b.2.1) * 8 - off
def withinN (l : List Bk) (off n : Int) : Prop := 0 ≤ n ∧ n ≤ 448 ∧ ∃ b ∈ l,inB off n b
def carveTo (pt tk : Int) (j : Nat) : List (Int × Int) := (pt,wordN tk true) :: (qmA (j - 1)).map fun (t : Nat) => (pt + ((t : Int) + 1),(0 : Int))
def carveE (b : Bk) (need : Int) : List (Int × Int) :=
 carveTo b.1 (takesN b.2.1 need) (takesN b.2.1 need).toNat ++ (if takesN b.2.1 need < b.2.1 then [(b.1 + takesN b.2.1 need,wordN (b.2.1 - takesN b.2.1 need) false)] else [])
theorem qfq (pt tk : Int) {j : Nat} (hj : 1 ≤ j) : carveTo pt tk (j + 1) = carveTo pt tk j ++ [(pt + (j : Int),0)] := by
 unfold carveTo
 obtain ⟨i,rfl⟩ : ∃ i,j = i + 1 := ⟨j - 1,by omega⟩
 simp only [Nat.add_sub_cancel,qm0,List.map_append,qmv,List.map_nil,qmw]
 congr 2
theorem eU_len (x : Int × Int) : (eU x).length = 2 := rfl
theorem eU_ok (x : Int × Int) : (eU x).all qo = true := rfl
section
variable {H : AH}
theorem qhK {α : Type} {o z : Nat} {f : α → List Value} {x : α} (hf : ∀ x,(f x).length = z) (hc : ∀ x,(f x).all qo = true) (hb : o < H.size) (hg : H.get o = ⟨f x,.rw,z⟩) : ql5 H ⟨some ⟨o,0,none⟩,1,1⟩ z f [x] :=
 Own.rows (B := 0) (.inr ⟨o,rfl,qmT _,hb,by rw [hg]; simp⟩) hf hc
end
def mFrom (l : List Bk) (i : Nat) : Nat := if 0 < i ∧ (bkAt l (i - 1)).2.2 = false then i - 1 else i
def mTo (l : List Bk) (i : Nat) : Nat := if i + 1 < l.length ∧ (bkAt l (i + 1)).2.2 = false then i + 2 else i + 1
def sumTo (l : List Bk) (a : Nat) : Nat → Int
 | 0 => 0
 | j + 1 => sumTo l a j + (bkAt l (a + j)).2.1
theorem qbO {α : Type} {B B' : Nat} {H : AH} {s : Sl} {z : Nat} {f : α → List Value} {l : List α} (h : Own B H s z f l) (hb : B' ≤ B) : Own B' H s z f l :=
 h.imp id fun ⟨b,e,h1,h2,h3⟩ => ⟨b,e,Nat.le_trans hb h1,h2,h3⟩
theorem qbM {α : Type} {H : AH} {z : Nat} {f : α → List Value} : ql5 H ⟨none,0,0⟩ z f [] := ⟨rfl,fun i x h => by simp at h⟩
instance {off n : Int} {b : Bk} : Decidable (inB off n b) := by unfold inB; infer_instance
instance {l : List Bk} {off n : Int} : Decidable (withinN l off n) := by unfold withinN; infer_instance
def imgAlloc (ws : List Int) (n : Int) (cs : List Int) : List (Int × Int) × Int × Int :=
 if needN n = 0 then ([],0,1) else
 match blocksN ws with
 | none => ([],0,6)
 | some l => if chooseN l (needN n) cs < 0 then ([],0,4) else (carveE (bkAt l (chooseN l (needN n) cs).toNat) (needN n),offN (bkAt l (chooseN l (needN n) cs).toNat).1,0)
def imgFree (ws : List Int) (off : Int) : List (Int × Int) × Int :=
 match blocksN ws with
 | none => ([],6)
 | some l => if isN off l 0 < 0 then ([],1) else
  ([((bkAt l (mFrom l (isN off l 0).toNat)).1,wordN (sumTo l (mFrom l (isN off l 0).toNat) (mTo l (isN off l 0).toNat - mFrom l (isN off l 0).toNat)) false)],0)
def imgWrite (ws : List Int) (off : Int) (bs : List Int) : List (Int × Int) × Int :=
 match blocksN ws with
 | none => ([],6)
 | some l => if withinN l off bs.length then (editsOf (putBs ws off.toNat bs) (off.toNat / 8) (touched off.toNat bs.length),0) else ([],1)
theorem qc7 {ws : List Int} {l : List Bk} {off n : Int} (hB : MayB l ws.length) (h : withinN l off n) : inside ws.length off n := by
 obtain ⟨h1,h2,b,hb,hi⟩ := h
 have hm := hB.mem hb
 have hl := hB.len
 obtain ⟨_,h3,h4,h5⟩ := hi
 have : offN b.1 = (b.1 + 1) * 8 := by unfold offN; rw [if_pos (by omega)]
 unfold inside
 omega
section
variable {H : AH}
def firstN (n : Int) : List Int := if mayW n then wordN n false :: qlN (n.toNat - 1) 0 else []
theorem wordN_u (n : Int) (u : Bool) : isU (wordN n u) := by
 unfold wordN isU
 split
 ·rename_i h; unfold mayS at h; split <;> omega
 ·omega
theorem qel (n : Int) : qaI (firstN n) := by
 intro v hv
 unfold firstN at hv
 split at hv
 ·rw [ql6] at hv
  rcases hv with rfl | hv
  ·exact wordN_u _ _
  ·rw [List.eq_of_mem_replicate hv]; omega
 ·cases hv
end
def insS (n : Int) : List Int → List Int
 | [] => [n]
 | a :: r => if a < n then a :: insS n r else if a = n then a :: r else n :: a :: r
def posN (n : Int) : List Int → Nat
 | [] => 0
 | a :: r => if a < n then posN n r + 1 else 0
def eStep (out : List Int) (e : Int × Int) : List Int := if e.1 < 0 then out else insS (e.1 / 8) out
def eLines (l : List (Int × Int)) : List Int := l.foldl eStep []
theorem posN_le (n : Int) : ∀ l : List Int,posN n l ≤ l.length := by
 intro l
 induction l with
 | nil => exact qlS _
 | cons a r ih => simp only [posN,ql0]; split <;> omega
theorem insS_eq (n : Int) : ∀ out : List Int,insS n out = if posN n out = out.length ∨ out.getD (posN n out) 0 ≠ n then out.take (posN n out) ++ [n] ++ out.drop (posN n out) else out := by
 intro out
 induction out with
 | nil => simp [insS,posN]
 | cons a r ih =>
  by_cases h1 : a < n
  ·have e : posN n (a :: r) = posN n r + 1 := by simp only [posN]; rw [if_pos h1]
   have e2 : insS n (a :: r) = a :: insS n r := by simp only [insS]; rw [if_pos h1]
   simp only [e,e2,ih,ql0,List.getD_cons_succ,List.take_succ_cons,List.drop_succ_cons,Nat.add_right_cancel_iff]
   split <;> rfl
  ·have e : posN n (a :: r) = 0 := by simp only [posN]; rw [if_neg h1]
   have e2 : insS n (a :: r) = if a = n then a :: r else n :: a :: r := by simp only [insS]; rw [if_neg h1]
   simp only [e,e2]
   by_cases h2 : a = n
   ·subst h2; rw [if_pos rfl,if_neg (by simp)]
   ·rw [if_neg h2,if_pos (.inr (by simpa using h2))]; rfl
theorem qgv (n : Int) : ∀ out : List Int,∀ x,x ∈ insS n out ↔ x = n ∨ x ∈ out := by
 intro out
 induction out with
 | nil => intro x; simp [insS]
 | cons a r ih =>
  intro x
  simp only [insS]
  split
  ·rw [ql6,ih,ql6]
   constructor
   ·rintro (h | h | h)
    ·exact .inr (.inl h)
    ·exact .inl h
    ·exact .inr (.inr h)
   ·rintro (h | h | h)
    ·exact .inr (.inl h)
    ·exact .inl h
    ·exact .inr (.inr h)
  ·split
   ·rename_i h2; subst h2; simp
   ·simp
theorem qjf (n : Int) : ∀ out : List Int,out.Pairwise (· < ·) → (insS n out).Pairwise (· < ·) := by
 intro out
 induction out with
 | nil => intro _; simp [insS]
 | cons a r ih =>
  intro h
  rw [List.pairwise_cons] at h
  simp only [insS]
  split
  ·rename_i h1
   rw [List.pairwise_cons]
   refine ⟨fun x hx => ?_,ih h.2⟩
   rw [qgv] at hx
   rcases hx with rfl | hx
   ·exact h1
   ·exact h.1 x hx
  ·rename_i h1
   split
   ·rw [List.pairwise_cons]; exact h
   ·rename_i h2
    rw [List.pairwise_cons,List.pairwise_cons]
    refine ⟨fun x hx => ?_,h⟩
    rw [ql6] at hx
    rcases hx with rfl | hx
    ·omega
    ·have := h.1 x hx; omega
theorem qk7 (n : Int) (out : List Int) : (insS n out).length ≤ out.length + 1 := by
 rw [insS_eq]
 have := posN_le n out
 split
 ·simp; omega
 ·omega
theorem eFold (l : List (Int × Int)) : ∀ out : List Int,out.Pairwise (· < ·) → (l.foldl eStep out).Pairwise (· < ·) ∧ (∀ x,x ∈ l.foldl eStep out → x ∈ out ∨ ∃ e ∈ l,0 ≤ e.1 ∧ x = e.1 / 8) ∧ (l.foldl eStep out).length ≤ out.length + l.length := by
 induction l with
 | nil => intro out h; exact ⟨h,fun x hx => .inl hx,by simp⟩
 | cons e r ih =>
  intro out h
  simp only [List.foldl_cons]
  have hs : (eStep out e).Pairwise (· < ·) := by
   unfold eStep; split
   ·exact h
   ·exact qjf _ _ h
  obtain ⟨h1,h2,h3⟩ := ih _ hs
  refine ⟨h1,fun x hx => ?_,?_⟩
  ·rcases h2 x hx with h | ⟨e',he',h⟩
   ·unfold eStep at h
    split at h
    ·exact .inl h
    ·rename_i hn
     rw [qgv] at h
     rcases h with h | h
     ·exact .inr ⟨e,by simp,by omega,h⟩
     ·exact .inl h
   ·exact .inr ⟨e',by simp [he'],h⟩
  ·have : (eStep out e).length ≤ out.length + 1 := by
    unfold eStep; split
    ·omega
    ·exact qk7 _ _
   simp only [ql0]; omega
theorem qjs {hi : Int} : ∀ {l : List Int} {lo : Int},l.Pairwise (· < ·) → (∀ x ∈ l,lo ≤ x ∧ x ≤ hi) → lo ≤ hi + 1 → (l.length : Int) ≤ hi - lo + 1 := by
 intro l
 induction l with
 | nil => intro lo _ _ h; simp; omega
 | cons a r ih =>
  intro lo hs hb h
  rw [List.pairwise_cons] at hs
  have ha := hb a (by simp)
  have := ih (lo := a + 1) hs.2 (fun x hx => ⟨by have := hs.1 x hx; omega,(hb x (by simp [hx])).2⟩) (by omega)
  simp only [ql0]; omega
theorem qec {l : List (Int × Int)} {lo hi : Int} (h : ∀ e ∈ l,lo ≤ e.1 ∧ e.1 ≤ hi) (hlh : lo ≤ hi) : ((eLines l).length : Int) ≤ hi / 8 - lo / 8 + 1 := by
 obtain ⟨h1,h2,_⟩ := eFold l [] List.Pairwise.nil
 refine qjs h1 (fun x hx => ?_) (by omega)
 rcases h2 x hx with hx | ⟨e,he,_,rfl⟩
 ·cases hx
 ·have := h e he; omega
theorem qgZ {b : Bk} {need : Int} (hn : 2 ≤ need ∧ need ≤ b.2.1) : (∀ e ∈ carveE b need,b.1 ≤ e.1 ∧ e.1 ≤ b.1 + need ∧ isU e.2) ∧ ((carveE b need).length : Int) ≤ need + 3 := by
 have htk : takesN b.2.1 need = (if b.2.1 - need < 2 then b.2.1 else need) := by unfold takesN; rw [if_pos hn]
 have ht : 2 ≤ takesN b.2.1 need ∧ takesN b.2.1 need ≤ need + 1 ∧ (takesN b.2.1 need < b.2.1 → takesN b.2.1 need = need) := by
  rw [htk]; split <;> omega
 unfold carveE carveTo
 generalize takesN b.2.1 need = tk at *
 refine ⟨fun e he => ?_,?_⟩
 ·rw [qmw,ql6,ql2] at he
  rcases he with rfl | he | he
  ·exact ⟨by simp only; omega,by simp only; omega,wordN_u _ _⟩
  ·rw [qml] at he
   obtain ⟨t,ht1,rfl⟩ := he
   rw [qmJ] at ht1
   refine ⟨by simp only; omega,by simp only; omega,by unfold isU; omega⟩
  ·split at he
   ·rename_i hlt
    have := ht.2.2 hlt
    simp at he
    subst he
    exact ⟨by simp only; omega,by simp only; omega,wordN_u _ _⟩
   ·cases he
 ·split <;> simp <;> omega
structure EdOK (E : List (Int × Int)) (most : Int) : Prop where
 mem : ∀ e ∈ E,0 ≤ e.1 ∧ e.1 ≤ 5000 ∧ isU e.2
 len : E.length ≤ 5000
 most : ((eLines E).length : Int) ≤ most
theorem EdOK.nil {m : Int} (h : 0 ≤ m) : EdOK [] m := ⟨fun e he => (by cases he),(by simp),(by simpa [eLines] using h)⟩
theorem qfY {ws : List Int} {n : Int} {cs : List Int} : EdOK (imgAlloc ws n cs).1 (linesP 1 n 0) := by
 have h0 : 0 ≤ linesP 1 n 0 := qfK (sl := ⟨none,0,0⟩).1
 unfold imgAlloc
 split
 ·exact EdOK.nil h0
 ·rename_i hn0
  split
  ·exact EdOK.nil h0
  ·rename_i l hb
   have hB := qbu hb
   have hlen := hB.len
   split
   ·exact EdOK.nil h0
   ·rename_i hc
    rcases qeN (l := l) (need := needN n) (cs := cs) with h | ⟨i,h,hi,hu,hn1,hn2⟩
    ·omega
    ·rw [h,qlP]
     have hm := hB.mem (qlX (qaW hi))
     generalize bkAt l i = b at *
     obtain ⟨h1,h2⟩ := qgZ ⟨hn2,hn1⟩
     have hneed : 1 ≤ n ∧ n ≤ 448 ∧ needN n = 1 + (n + 7) / 8 := by
      unfold needN at hn0 ⊢
      split at hn0
      ·rename_i hh; rw [if_pos hh]; exact ⟨hh.1,hh.2,rfl⟩
      ·exact absurd rfl hn0
     show EdOK (carveE b (needN n)) (linesP 1 n 0)
     refine ⟨fun e he => ?_,by omega,?_⟩
     ·have := h1 e he; exact ⟨by omega,by omega,this.2.2⟩
     ·have := qec (lo := b.1) (hi := b.1 + needN n) (fun e he => ⟨(h1 e he).1,(h1 e he).2.1⟩) (by omega)
      unfold linesP
      rw [if_pos rfl,if_pos ⟨by omega,by omega⟩]
      omega
theorem qeR {ws : List Int} {off : Int} : EdOK (imgFree ws off).1 (linesP 2 0 0) := by
 unfold imgFree
 split
 ·exact EdOK.nil (by decide)
 ·rename_i l hb
  have hB := qbu hb
  have hlen := hB.len
  split
  ·exact EdOK.nil (by decide)
  ·rename_i hc
   rcases qd4 off l 0 with h | ⟨i,h,hi,hu,ho⟩
   ·omega
   ·rw [ql3] at h
    rw [h,qlP]
    have hF : mFrom l i < l.length := by unfold mFrom; split <;> omega
    have hm := hB.mem (qlX (qaW hF))
    simp only
    refine ⟨fun e he => ?_,by simp,?_⟩
    ·simp at he
     subst he
     exact ⟨by simp only; omega,by simp only; omega,wordN_u _ _⟩
    ·have := qec (l := [((bkAt l (mFrom l i)).1,wordN (sumTo l (mFrom l i) (mTo l i - mFrom l i)) false)]) (lo := (bkAt l (mFrom l i)).1) (hi := (bkAt l (mFrom l i)).1) (fun e he => by simp at he; subst he; exact ⟨by simp,by simp⟩) (by omega)
     have e1 : linesP 2 0 0 = 1 := by decide
     rw [e1]; omega
theorem qf2 {ws : List Int} (h64 : qaI ws) {off : Int} {bs : List Int} : EdOK (imgWrite ws off bs).1 (linesP 4 0 bs.length) := by
 have h0 : 0 ≤ linesP 4 0 bs.length := qfK (sl := ⟨none,bs.length,0⟩).1
 unfold imgWrite
 split
 ·exact EdOK.nil h0
 ·rename_i l hb
  have hB := qbu hb
  have hlen := hB.len
  split
  ·rename_i hw
   have hin := qc7 hB hw
   unfold inside at hin
   obtain ⟨o,rfl⟩ := qma hin.1
   rw [qlP]
   have hcur := qd5 bs ws o h64
   have hcl := qcG bs ws o
   by_cases hz : bs.length = 0
   ·have ht : touched o bs.length = 0 := by rw [hz]; rfl
    rw [ht]
    exact EdOK.nil h0
   have ht : touched o bs.length = (o + bs.length - 1) / 8 - o / 8 + 1 := by unfold touched; rw [if_neg hz]
   have hmem : ∀ e ∈ editsOf (putBs ws o bs) (o / 8) (touched o bs.length),((o / 8 : Nat) : Int) ≤ e.1 ∧ e.1 ≤ (((o + bs.length - 1) / 8 : Nat) : Int) ∧ isU e.2 := by
    intro e he
    unfold editsOf at he
    rw [qml] at he
    obtain ⟨j,hj,rfl⟩ := he
    rw [qmJ] at hj
    refine ⟨by simp only; omega,by simp only; omega,?_⟩
    have hlt : o / 8 + j < (putBs ws o bs).length := by omega
    simp only
    rw [qlM,qlK hlt,qms]
    exact hcur _ (ql1 hlt)
   simp only
   refine ⟨fun e he => ?_,by rw [qb8]; omega,?_⟩
   ·have := hmem e he; exact ⟨by omega,by omega,this.2.2⟩
   ·have := qec (lo := ((o / 8 : Nat) : Int)) (hi := (((o + bs.length - 1) / 8 : Nat) : Int)) (fun e he => ⟨(hmem e he).1,(hmem e he).2.1⟩) (by omega)
    unfold linesP
    rw [if_neg (by omega),if_pos rfl,if_pos (by omega)]
    omega
  ·exact EdOK.nil h0
theorem qgt : ∀ (l : List (Int × Int)) (ws : List Int),qaI ws → (∀ e ∈ l,isU e.2) → qaI (applyE ws l) := by
 intro l
 induction l with
 | nil => intro ws h _; exact h
 | cons e r ih =>
  intro ws h he
  simp only [applyE,List.foldl_cons]
  refine ih _ ?_ fun e' he' => he e' (by simp [he'])
  unfold putE
  split
  ·intro v hv
   rcases qmX hv with hv | rfl
   ·exact h v hv
   ·exact he e (by simp)
  ·exact h
def OpAt (H : AH) (o : Nat) (K a b c : Int) (sl : Sl) : Prop := ∃ e,H.get o = ⟨opl K a b c sl,.rw,e⟩
section
variable {H : AH} {o : Nat} {K a b c : Int} {sl : Sl}
theorem OpAt.c0 (h : OpAt H o K a b c sl) : AH.cell? H (qlL ⟨o,0,none⟩ 0) = some (.int .i64 K) := by obtain ⟨e,h⟩ := h; simp [qk,AH.cell?,h,opl]
theorem OpAt.c1 (h : OpAt H o K a b c sl) : AH.cell? H (qlL ⟨o,0,none⟩ 1) = some (.int .i64 a) := by obtain ⟨e,h⟩ := h; simp [qk,AH.cell?,h,opl]
theorem OpAt.c2 (h : OpAt H o K a b c sl) : AH.cell? H (qlL ⟨o,0,none⟩ 2) = some (.int .i64 b) := by obtain ⟨e,h⟩ := h; simp [qk,AH.cell?,h,opl]
theorem OpAt.c3 (h : OpAt H o K a b c sl) : AH.cell? H (qlL ⟨o,0,none⟩ 3) = some (.int .i64 c) := by obtain ⟨e,h⟩ := h; simp [qk,AH.cell?,h,opl]
theorem OpAt.c4 (h : OpAt H o K a b c sl) : AH.cell? H (qlL ⟨o,0,none⟩ 4) = some sl.val := by obtain ⟨e,h⟩ := h; simp [qk,AH.cell?,h,opl]
theorem OpAt.row (h : OpAt H o K a b c sl) : AH.row? H ⟨o,0,none⟩ 5 = some (opl K a b c sl) := by
 obtain ⟨e,h⟩ := h
 simp only [AH.row?,h,ql4,qlU,if_false,qmY]
 rw [if_neg (by simp),qmx (by rw [op_len]; omega),if_pos ⟨by rw [op_len]; omega,op_ok⟩]
theorem OpAt.keep {H' : AH} (h : OpAt H o K a b c sl) (hg : H'.get o = H.get o) : OpAt H' o K a b c sl := by obtain ⟨e,h⟩ := h; exact ⟨e,hg.trans h⟩
theorem OpAt.new {e : Nat} : OpAt (H.push ⟨opl K a b c sl,.rw,e⟩) H.size K a b c sl := ⟨e,by rw [qm,if_pos rfl]⟩
theorem OpAt.store {K' a' b' c' : Int} {sl' : Sl} {k : AH → Prop} (h : OpAt H o K a b c sl) (hk : ∀ H',OpAt H' o K' a' b' c' sl' → (∀ x,x ≠ o → H'.get x = H.get x) → H'.size = H.size → k H') :
  ((opl K' a' b' c' sl').length = 5 ∧ (opl K' a' b' c' sl').all qo = true) ∧ stC H ⟨o,0,none⟩ (opl K' a' b' c' sl') k := by
 obtain ⟨e,h⟩ := h
 refine ⟨⟨rfl,rfl⟩,?_⟩
 refine ⟨⟨rfl,congrArg AObj.md h,by rw [h]; simp [opl]⟩,hk _ ⟨e,?_⟩ (fun x hx => by simp only [AH.put,qu]; rw [if_neg hx]) rfl⟩
 simp only [AH.put,qu,if_true,h]
 rfl
end
section
variable {H : AH}
theorem qbj.s {n : Int} {k : Int → AH → Prop} (hn : isI n) (h : k (needN n) H) : qbj n H k := by
 unfold isI at hn
 refine qbj.link ?_
 unfold qbj.b qbj.j1
 unfold needN at h
 simp only [qi,decide_eq_true_eq]
 by_cases h1 : n < 1
 ·rw [if_pos h1]; rw [if_neg (by omega)] at h; exact h
 rw [if_neg h1]
 by_cases h2 : n > 448
 ·rw [if_pos h2]; rw [if_neg (by omega)] at h; exact h
 rw [if_neg h2]
 rw [if_pos (by omega)] at h
 refine ⟨by decide,?_⟩
 rw [qg (n := n + 7) (by omega) (by omega),qmK (by omega),qg (n := (n + 7) / 8) (by omega) (by omega),qg (by omega) (by omega)]
 rw [show (n + 7) / 8 + 1 = 1 + (n + 7) / 8 by omega]
 exact h
theorem qbq.s {n : Int} {k : Bool → AH → Prop} (h : k (decide (mayS n)) H) : qbq n H k := by
 refine qbq.link ?_
 unfold qbq.b
 simp only [qi,decide_eq_true_eq]
 by_cases h1 : n ≥ 2
 ·rw [if_pos h1]
  by_cases h2 : n ≤ 512
  ·rw [decide_eq_true h2]; rw [decide_eq_true (show mayS n from ⟨h1,h2⟩)] at h; exact h
  ·rw [decide_eq_false h2]; rw [decide_eq_false (fun hh : mayS n => h2 hh.2)] at h; exact h
 ·rw [if_neg h1]; rw [decide_eq_false (fun hh : mayS n => h1 hh.1)] at h; exact h
theorem qa4.s {n : Int} {k : Bool → AH → Prop} (h : k (decide (mayW n)) H) : qa4 n H k := by
 refine qa4.link ?_
 unfold qa4.b
 simp only [qi,decide_eq_true_eq]
 by_cases h1 : n ≥ 8
 ·rw [if_pos h1]
  by_cases h2 : n ≤ 512
  ·rw [if_pos h2]
   refine ⟨by decide,?_⟩
   rw [Int.tmod_eq_emod_of_nonneg (by omega)]
   have e : (n % 8 == 0) = decide (mayW n) := by
    by_cases h3 : n % 8 = 0
    ·rw [decide_eq_true (show mayW n from ⟨h1,h2,h3⟩)]; simpa using h3
    ·rw [decide_eq_false (fun hh : mayW n => h3 hh.2.2)]; simpa using h3
   rw [e]; exact h
  ·rw [if_neg h2]; rw [decide_eq_false (fun hh : mayW n => h2 hh.2.1)] at h; exact h
 ·rw [if_neg h1]; rw [decide_eq_false (fun hh : mayW n => h1 hh.1)] at h; exact h
theorem qbL.s {a b : Int} {k : Int → AH → Prop} (ha : 0 ≤ a ∧ a ≤ 1000) (hb : 0 ≤ b ∧ b ≤ 1000) (h : k (takesN a b) H) : qbL a b H k := by
 refine qbL.link ?_
 unfold qbL.b qbL.j1
 unfold takesN at h
 simp only [qi,decide_eq_true_eq]
 by_cases h1 : b < 2
 ·rw [if_pos h1]; rw [if_neg (by omega)] at h; exact h
 rw [if_neg h1]
 by_cases h2 : b > a
 ·rw [if_pos h2]; rw [if_neg (by omega)] at h; exact h
 rw [if_neg h2]
 rw [if_pos (by omega)] at h
 rw [qg (n := a - b) (by omega) (by omega)]
 by_cases h3 : a - b < 2
 ·rw [if_pos h3]; rw [if_pos h3] at h; exact h
 ·rw [if_neg h3]; rw [if_neg h3] at h; exact h
theorem qbU.s {n : Int} {u : Bool} {k : Int → AH → Prop} (h : k (wordN n u) H) : qbU n u H k := by
 refine qbU.link ?_
 unfold qbU.b
 refine qbq.s ?_
 unfold wordN at h
 by_cases h1 : mayS n
 ·rw [decide_eq_true h1,qmm,qc]
  rw [if_pos h1] at h
  refine ⟨by decide,?_⟩
  rw [shl1 h1,or1 h1]
  cases u with
  | true => rw [qj]; exact h
  | false =>
   rw [qc]
   rw [if_neg (by simp),Int.add_zero] at h
   exact h
 ·rw [decide_eq_false h1,qmp,qj]
  rw [if_neg h1] at h
  exact h
theorem qa1.s {n : Int} {k : Sl → AH → Prop} (h : ∀ s H',qa H H' → Own H.size H' s 1 wU (firstN n) → k s H') : qa1 n H k := by
 refine qa1.link ?_
 unfold qa1.b
 unfold firstN at h
 refine qa4.s ?_
 by_cases hm : mayW n
 rotate_left 1
 ·rw [decide_eq_false hm,qmp,qj]
  rw [if_neg hm] at h
  exact h _ _ (qa.refl H) (.inl ⟨rfl,rfl⟩)
 rw [decide_eq_true hm,qmm,qc]
 rw [if_pos hm] at h
 unfold mayW at hm
 refine ⟨by simp only [lim]; omega,?_⟩
 rw [qp]
 obtain ⟨m,hm1⟩ : ∃ m : Nat,n.toNat = m + 1 := ⟨n.toNat - 1,by omega⟩
 rw [hm1] at h ⊢
 rw [Nat.add_sub_cancel] at h
 refine qbU.s ?_
 refine ⟨by omega,?_⟩
 have hz : zerosOf (m + 1) [qlI .u64 0] = (qlN (m + 1) (0 : Int)).flatMap wU := by
  unfold zerosOf
  rw [List.flatMap_def,List.map_replicate]; rfl
 rw [hz]
 have hO : Own H.size (H.push ⟨(qlN (m + 1) (0 : Int)).flatMap wU,.rw,1⟩) ⟨some ⟨H.size,0,none⟩,m + 1,1⟩ 1 wU (qlN (m + 1) 0) :=
  .inr ⟨H.size,by simp,qlS _,by simp [qe],by rw [qm,if_pos rfl]⟩
 have hk := (qa.refl H).push ⟨(qlN (m + 1) (0 : Int)).flatMap wU,.rw,1⟩
 generalize H.push ⟨(qlN (m + 1) (0 : Int)).flatMap wU,.rw,1⟩ = H1 at *
 obtain ⟨b',ha',hb1,hb2,hcan,hO',_⟩ := hO.put (i := 0) (x := 0) (y := wordN n false) (fun _ => rfl) (by simp) (j := 0) (by omega) (v := .int .u64 (wordN n false)) rfl
 simp only [qmU,Addr.mk.injEq,true_and,and_true] at ha'
 subst ha'
 rw [qk]
 refine ⟨hcan,?_⟩
 exact h _ _ (hk.put hb1 _) hO'
theorem qba.s {b : Bk} {k : Int → AH → Prop} (h : k (offN b.1) H) : qba (bkV b) H k := by
 refine gcI (j := .i64) (offN b.1) (qba.link ?_) h
 unfold qba.b qba.j1
 rw [qp]
 have hk := (qa.refl H).push ⟨bkV b,.rw,0⟩
 have hB : BkAt (H.push ⟨bkV b,.rw,0⟩) H.size b := BkAt.new
 generalize H.push ⟨bkV b,.rw,0⟩ = H1 at *
 simp only [hB.c0,qf]
 unfold offN
 by_cases h1 : b.1 < 0
 ·rw [decide_eq_true h1,qj,qj,if_neg (by omega)]; exact ⟨hk,rfl⟩
 rw [decide_eq_false h1,qc]
 by_cases h2 : b.1 > 512
 ·rw [decide_eq_true h2,qj,if_neg (by omega)]; exact ⟨hk,rfl⟩
 rw [decide_eq_false h2,qc,if_pos (by omega),qg (n := b.1 + 1) (by omega) (by omega),qg (by omega) (by omega)]
 exact ⟨hk,rfl⟩
def fitG (l : List Bk) (need : Int) (j : Nat) : List Nat := if need < 2 then [] else fitsTo l need j
theorem qky (l : List Bk) (need : Int) (i : Nat) : fitG l need (i + 1) = if need < 2 ∨ (bkAt l i).2.2 = true ∨ (bkAt l i).2.1 < need then fitG l need i else
 let out1 := if 0 < (fitG l need i).length ∧ (bkAt l ((fitG l need i).getD 0 0)).2.1 > (bkAt l i).2.1 then [] else fitG l need i
 if out1.length = 0 ∨ (bkAt l (out1.getD 0 0)).2.1 = (bkAt l i).2.1 then out1 ++ [i] else out1 := by
 unfold fitG
 by_cases h : need < 2
 ·simp [h]
 ·simp only [h,if_false,false_or]
  rw [qeI]; rfl
theorem qlh {l : List Bk} {need : Int} {i j : Nat} (h : i ∈ fitG l need j) : i < j := by
 unfold fitG at h
 split at h
 ·cases h
 ·exact (qdG h).1
theorem qlp {l : List Bk} {need : Int} {j : Nat} : (fitG l need j).length ≤ j := by
 unfold fitG
 split
 ·exact qmT _
 ·exact qeW
theorem qY.s {x0 : Sl} {need : Int} {l : List Bk} {k : Sl → AH → Prop} (hr : ql5 H x0 3 bkV l) (hl : l.length ≤ 100000)
  (h : ∀ s H',qa H H' → Own H.size H' s 1 nV (fitsL l need) → k s H') : qY x0 need H k := by
 refine qY.link ?_
 unfold qY.b
 refine qI (t := ((⟨none,0,0⟩,(0 : Int)) : Sl × Int)) (I := fun (t : Sl × Int) H' => ∃ i : Nat,t.2 = (i : Int) ∧ i ≤ l.length ∧ qa H H' ∧ Own H.size H' t.1 1 nV (fitG l need i)) (m := fun (t : Sl × Int) _ => qlQ ((l.length : Int) - t.2)) ?_ ⟨0,rfl,by omega,qa.refl H,.inl ⟨rfl,by unfold fitG fitsTo; split <;> rfl⟩⟩
 intro t H1 hI it hit
 obtain ⟨s,t2⟩ := t
 obtain ⟨i,e1,hi,hk,hO⟩ := hI
 simp only at e1 hO
 subst e1
 unfold qY.l5
 simp only [qi,decide_eq_true_eq,hr.1]
 by_cases hlt : (i : Int) < (l.length : Int)
 ·rw [if_pos hlt]
  have hi' : i < l.length := by omega
  obtain ⟨b,o,ha,hb,hcells⟩ := qas (hr.keep hk) (by omega)
  refine ⟨by omega,?_⟩
  have hgi := qaW hi'
  obtain ⟨hrow,_⟩ := hcells i _ hgi
  rw [ha,qd,qlP,ql hrow]
  have hstep := qky l need i
  unfold fitStep at hstep
  simp only at hstep
  have hmem : ∀ j,j ∈ fitG l need i → j < l.length := fun j hj => by have := qlh hj; omega
  have hlen := qlp (l := l) (need := need) (j := i)
  generalize hq : bkAt l i = q at *
  generalize fitG l need i = out at *
  refine qbW (n := 3) rfl (bkV_len q) (bkV_ok q) ?_
  have hB : BkAt (H1.push ⟨bkV q,.rw,0⟩) H1.size q := BkAt.new
  have hk2 : qa H (H1.push ⟨bkV q,.rw,0⟩) := hk.push _
  have hO2 : Own H.size (H1.push ⟨bkV q,.rw,0⟩) s 1 nV out := hO.keep (by simp [qe]) (fun b _ hb => qv (by omega))
  have hcs : ∀ j x,l[j]? = some x → AH.cell? (H1.push ⟨bkV q,.rw,0⟩) (qlL (qlL ⟨b,o,none⟩ (j * 3)) 1) = some (.int .i64 x.2.1) := fun j x hx => by
   have := (hcells j x hx).2 1 (.int .i64 x.2.1) rfl
   rw [qk,qk] at this ⊢
   rw [AH.cell?,qv (by show b ≠ H1.size; omega)]
   exact this
  generalize H1.push ⟨bkV q,.rw,0⟩ = H2 at *
  have hwi : qlJ .i64 ((i : Int) + 1) = ((i + 1 : Nat) : Int) := by rw [qg (by omega) (by omega)]; omega
  have next : ∀ s' H',qa H H' → Own H.size H' s' 1 nV (fitG l need (i + 1)) → it (s',((i + 1 : Nat) : Int)) H' := fun s' H' a b => hit _ _ ⟨i + 1,rfl,by omega,a,b⟩ (by simp only; omega)
  have oN : ∀ {s' : Sl} {o' : List Nat},Own H.size H2 s' 1 nV o' → s'.n = o'.length := fun h => own_n h
  have j2 : ∀ (s' : Sl) (o' : List Nat),Own H.size H2 s' 1 nV o' → (∀ j,j ∈ o' → j < l.length) → o'.length ≤ i → fitG l need (i + 1) = (if o'.length = 0 ∨ (bkAt l (o'.getD 0 0)).2.1 = q.2.1 then o' ++ [i] else o') → qY.j2 x0 (s,(i : Int)) it H1.size H2 s' := by
   intro s' o' hO' hm' hl' hst
   have j1 : ∀ x : Bool,(x = true ↔ (o'.length = 0 ∨ (bkAt l (o'.getD 0 0)).2.1 = q.2.1)) → qY.j1 (s,(i : Int)) it H2 s' x := by
    intro x hx
    unfold qY.j1
    rw [hwi,qi]
    by_cases hx' : x = true
    ·rw [if_pos hx',qp]
     rw [if_pos (hx.1 hx')] at hst
     refine qbB (H0 := H) (B := H.size) (f := nV) (x := i) (l := o') (fun _ => rfl) rfl hO' (qlS _) hk2.1 hk2 (by simp only [lim]; omega) ?_
     intro s'' H' hO'' hK' _ _
     rw [← hst] at hO''
     exact next _ _ hK' hO''
    ·rw [if_neg hx']
     rw [if_neg (fun hh => hx' (hx.2 hh))] at hst
     refine next _ _ hk2 ?_
     rw [hst]; exact hO'
   unfold qY.j2
   simp only [qi,oN hO']
   by_cases h0 : o'.length = 0
   ·rw [if_pos (by simpa using h0)]
    exact j1 true (by simp [h0])
   ·rw [if_neg (by simpa using h0),hB.c1,qf]
    have hg0 : o'[0]? = some (o'.getD 0 0) := by rw [qlM,qlK (by omega)]; rfl
    have hmem0 := hm' (o'.getD 0 0) (qlX hg0)
    obtain ⟨b0,ha0,_,_,hc0⟩ := hO'.cell (fun _ => rfl) hg0 (j := 0) (by omega)
    refine ⟨by omega,?_⟩
    rw [ha0,qd,qk,show AH.cell? H2 ⟨b0,0 + qlQ 0 * 1,none⟩ = some (.int .i64 ((o'.getD 0 0 : Nat) : Int)) from hc0,qf,hr.1]
    refine ⟨by omega,?_⟩
    rw [ha,qd,qlP,hcs _ _ (qaW hmem0),qf]
    refine j1 _ ?_
    simp only [h0,false_or,beq_iff_eq]; exact eq_comm
  have j4 : ∀ x : Bool,(x = true ↔ (need < 2 ∨ q.2.2 = true ∨ q.2.1 < need)) → qY.j4 x0 (s,(i : Int)) it H1.size H2 x := by
   intro x hx
   unfold qY.j4
   rw [hwi]
   simp only [qi,decide_eq_true_eq]
   by_cases hx' : x = true
   ·rw [if_pos hx']
    rw [if_pos (hx.1 hx')] at hstep
    exact next _ _ hk2 (by rw [hstep]; exact hO2)
   ·rw [if_neg hx']
    rw [if_neg (fun hh => hx' (hx.2 hh))] at hstep
    have j3 : ∀ y : Bool,(y = true ↔ (0 < out.length ∧ (bkAt l (out.getD 0 0)).2.1 > q.2.1)) → qY.j3 x0 (s,(i : Int)) it H1.size H2 y := by
     intro y hy
     unfold qY.j3
     rw [qi]
     by_cases hy' : y = true
     ·rw [if_pos hy']
      rw [if_pos (hy.1 hy')] at hstep
      exact j2 _ [] (.inl ⟨rfl,rfl⟩) (fun j hj => by cases hj) (qmT _) hstep
     ·rw [if_neg hy']
      rw [if_neg (fun hh => hy' (hy.2 hh))] at hstep
      exact j2 _ out hO2 hmem hlen hstep
    rw [oN hO2]
    by_cases h0 : (out.length : Int) > 0
    ·rw [if_pos h0,hB.c1,qf]
     have hg0 : out[0]? = some (out.getD 0 0) := by rw [qlM,qlK (by omega)]; rfl
     have hmem0 := hmem (out.getD 0 0) (qlX hg0)
     obtain ⟨b0,ha0,_,_,hc0⟩ := hO2.cell (fun _ => rfl) hg0 (j := 0) (by omega)
     refine ⟨by omega,?_⟩
     rw [ha0,qd,qk,show AH.cell? H2 ⟨b0,0 + qlQ 0 * 1,none⟩ = some (.int .i64 ((out.getD 0 0 : Nat) : Int)) from hc0,qf,hr.1]
     refine ⟨by omega,?_⟩
     rw [ha,qd,qlP,hcs _ _ (qaW hmem0),qf]
     refine j3 _ ?_
     rw [decide_eq_true_eq]
     exact ⟨fun hh => ⟨by omega,hh⟩,fun hh => hh.2⟩
    ·rw [if_neg h0]
     refine j3 false ?_
     constructor
     ·intro hh; cases hh
     ·intro hh; omega
  by_cases hn : need < 2
  ·rw [if_pos hn]; exact j4 true (by simp [hn])
  rw [if_neg hn]
  simp only [hB.c2,qbi]
  by_cases hu : q.2.2 = true
  ·rw [if_pos hu]; exact j4 true (by simp [hu])
  ·rw [if_neg hu,hB.c1,qf]
   refine j4 _ ?_
   rw [decide_eq_true_eq]
   exact ⟨fun hh => .inr (.inr hh),fun hh => (hh.resolve_left hn).resolve_left hu⟩
 ·rw [if_neg hlt]
  have : i = l.length := by omega
  subst this
  exact h _ _ hk hO
theorem qbx.s {v : Int} {k : Int → Bool → Bool → AH → Prop} (hv : isU v) (h1 : mayS (v / 2) → k (v / 2) (v % 2 == 1) true H) (h0 : ¬ mayS (v / 2) → k 0 false false H) : qbx v H k := by
 have hv' := hv
 unfold isU at hv'
 refine qbx.link ?_
 unfold qbx.b qbx.j1
 rw [shr1 hv'.1,and1w hv]
 simp only [qi,decide_eq_true_eq]
 refine ⟨by decide,?_⟩
 by_cases a2 : v / 2 > 512
 ·rw [if_pos a2]; exact h0 (fun hh => by unfold mayS at hh; omega)
 rw [if_neg a2]
 refine ⟨by decide,?_⟩
 rw [qg (n := v / 2) (by omega) (by omega)]
 refine qbq.s ?_
 by_cases a1 : mayS (v / 2)
 ·rw [decide_eq_true a1,if_neg (by simp)]; exact ⟨by decide,h1 a1⟩
 ·rw [decide_eq_false a1,if_pos (by simp)]; exact h0 a1
theorem qaf.s {x0 : Sl} {words : Int} {l : List Bk} {k : Bool → AH → Prop} (hr : ql5 H x0 3 bkV l) (hl : l.length ≤ 100000) (hok : ∀ b ∈ l,0 ≤ b.2.1 ∧ b.2.1 ≤ 100000) (hw : 0 ≤ words ∧ words ≤ 100000) (h : k (decide (MayB l words)) H) : qaf x0 words H k := by
 refine gcB (decide (MayB l words)) (qaf.link ?_) h
 unfold qaf.b
 refine qa4.s ?_
 by_cases hm : mayW words
 rotate_left 1
 ·rw [decide_eq_false hm,qmp,qj]
  exact ⟨qa.refl H,(decide_eq_false (fun hh : MayB l words => hm hh.1)).symm⟩
 rw [decide_eq_true hm,qmm,qc]
 refine qI (t := ((false,(0 : Int),false,(0 : Int)) : Bool × Int × Bool × Int)) (I := fun (t : Bool × Int × Bool × Int) H' => ∃ i : Nat,t.2.2.2 = (i : Int) ∧ t.2.2.1 = !puAt l i ∧ i ≤ l.length ∧ qa H H' ∧ 0 ≤ t.2.1 ∧ t.2.1 ≤ words ∧ (MayB l words ↔ chainB words t.2.1 (puAt l i) (l.drop i))) (m := fun (t : Bool × Int × Bool × Int) _ => qlQ ((l.length : Int) - t.2.2.2)) ?_ ⟨0,rfl,rfl,by omega,qa.refl H,by simp only; omega,by simp only; omega,⟨fun hh => hh.2,fun hh => ⟨hm,hh⟩⟩⟩
 intro t H1 hI it hit
 obtain ⟨t1,pt,t4,t3⟩ := t
 obtain ⟨i,e1,e4,hi,hk,hp0,hp1,hiff⟩ := hI
 simp only at e1 e4 hp0 hp1 hiff
 subst e1 e4
 unfold qaf.l2
 simp only [qi,decide_eq_true_eq,hr.1]
 by_cases hlt : (i : Int) < (l.length : Int)
 ·rw [if_pos hlt]
  have hi' : i < l.length := by omega
  obtain ⟨b,o,ha,hb,hcells⟩ := qas (hr.keep hk) (by omega)
  refine ⟨by omega,?_⟩
  obtain ⟨hrow,_⟩ := hcells i l[i] (qlK hi')
  have hq := hok _ (ql1 hi')
  rw [ha,qd,qlP,ql hrow]
  rw [qdj hi'] at hiff
  have hpu : puAt l (i + 1) = l[i].2.2 := by simp [puAt,qlM,hi']
  generalize hqq : l[i] = q at *
  refine qbW (n := 3) rfl (bkV_len q) (bkV_ok q) ?_
  have hB : BkAt (H1.push ⟨bkV q,.rw,0⟩) H1.size q := BkAt.new
  have hk2 : qa H (H1.push ⟨bkV q,.rw,0⟩) := hk.push _
  have hc2 : ∀ j x,l[j]? = some x → AH.cell? (H1.push ⟨bkV q,.rw,0⟩) (qlL (qlL ⟨b,o,none⟩ (j * 3)) 2) = some (.bool x.2.2) := fun j x hx => by
   have := (hcells j x hx).2 2 (.bool x.2.2) rfl
   rw [qk,qk] at this ⊢
   rw [AH.cell?,qv (by show b ≠ H1.size; omega)]
   exact this
  generalize H1.push ⟨bkV q,.rw,0⟩ = H2 at *
  have no : ¬ chainB words pt (puAt l i) (q :: l.drop (i + 1)) → qaf.j1 (fun r H' => qa H H' ∧ r = decide (MayB l words)) (t1,pt,(!puAt l i),(i : Int)) it H1.size true H2 := by
   intro hn
   unfold qaf.j1
   rw [qj]
   exact ⟨hk2,(decide_eq_false (fun hh => hn (hiff.1 hh))).symm⟩
  simp only [hB.c0,qf]
  by_cases c1 : q.1 = pt
  rotate_left 1
  ·rw [if_pos (by simpa using c1)]; exact no (fun hh => c1 hh.1)
  rw [if_neg (by simpa using c1)]
  simp only [hB.c1,qf]
  refine qbq.s ?_
  by_cases c2 : mayS q.2.1
  rotate_left 1
  ·rw [decide_eq_false c2,if_pos (by simp)]; exact no (fun hh => c2 hh.2.1)
  rw [decide_eq_true c2,if_neg (by simp)]
  have fin : q.2.1 ≤ words - pt → (puAt l i = true ∨ q.2.2 = true) → qaf.j1 (fun r H' => qa H H' ∧ r = decide (MayB l words)) (t1,pt,(!puAt l i),(i : Int)) it H1.size false H2 := by
   intro c3 hor
   unfold qaf.j1
   rw [qc,hB.c1,qf,qg (n := pt + q.2.1) (by omega) (by omega),qg (n := (i : Int) + 1) (by omega) (by omega),hB.c2,qbi]
   refine hit _ _ ⟨i + 1,by simp,by simp only; rw [hpu],by omega,hk2,by simp only; omega,by simp only; omega,?_⟩ (by simp only; omega)
   simp only
   rw [hpu,hiff]
   exact ⟨fun hh => hh.2.2.2.2,fun hh => ⟨c1,c2,by omega,hor,hh⟩⟩
  have rest : (puAt l i = true ∨ q.2.2 = true) → qaf.j1 (fun r H' => qa H H' ∧ r = decide (MayB l words)) (t1,pt,(!puAt l i),(i : Int)) it H1.size (decide (q.2.1 > qlJ .i64 (words - pt))) H2 := by
   intro hor
   rw [qg (n := words - pt) (by omega) (by omega)]
   by_cases c3 : q.2.1 > words - pt
   ·rw [decide_eq_true c3]; exact no (fun hh => by have := hh.2.2.1; omega)
   ·rw [decide_eq_false c3]; exact fin (by omega) hor
  by_cases c4 : puAt l i = true
  ·rw [if_neg (by simp [c4])]
   rw [hB.c1,qf]; exact rest (.inl c4)
  ·rw [if_pos (by simpa using c4)]
   rw [hB.c2,qbi]
   by_cases c5 : q.2.2 = true
   ·rw [if_neg (by simp [c5]),hB.c1,qf]; exact rest (.inr c5)
   ·rw [if_pos (by simpa using c5)]
    exact no (fun hh => by have := hh.2.2.2.1; simp_all)
 ·rw [if_neg hlt]
  have : i = l.length := by omega
  subst this
  refine ⟨hk,?_⟩
  rw [qm3] at hiff
  by_cases hpw : pt = words
  ·rw [decide_eq_true (hiff.2 hpw)]; simpa using hpw
  ·rw [decide_eq_false (fun hh => hpw (hiff.1 hh))]; simpa using hpw
theorem qO.s {x0 : Sl} {ws : List Int} {k : Sl → Bool → AH → Prop} (hr : ql5 H x0 1 wU ws) (h64 : qaI ws) (hl : ws.length ≤ 1000)
  (h1 : ∀ l,blocksN ws = some l → ∀ s H',qa H H' → Own H.size H' s 3 bkV l → k s true H') (h0 : blocksN ws = none → ∀ H',qa H H' → k ⟨none,0,0⟩ false H') : qO x0 H k := by
 refine qO.link ?_
 unfold qO.b
 refine qI (t := ((⟨none,0,0⟩,false,⟨none,0,0⟩,(0 : Int)) : Sl × Bool × Sl × Int)) (I := fun (t : Sl × Bool × Sl × Int) H' => ∃ (pt : Nat) (acc : List Bk),t.2.2.2 = (pt : Int) ∧ pt ≤ ws.length + 512 ∧ 2 * acc.length ≤ pt ∧ qa H H' ∧ Own H.size H' t.2.2.1 3 bkV acc ∧ (∀ b ∈ acc,0 ≤ b.2.1 ∧ b.2.1 ≤ 100000) ∧ blkFrom ws 0 = (blkFrom ws pt).map (acc ++ ·)) (m := fun (t : Sl × Bool × Sl × Int) _ => qlQ ((ws.length : Int) - t.2.2.2)) ?_
  ⟨0,[],rfl,by omega,by simp,qa.refl H,.inl ⟨rfl,rfl⟩,by simp,by simp⟩
 intro t H1 hI it hit
 obtain ⟨u1,u2,u3,u4⟩ := t
 obtain ⟨pt,acc,e1,hp,ha,hk,hO,hok,hb⟩ := hI
 simp only at e1 hO
 subst e1
 unfold qO.l2
 simp only [qi,decide_eq_true_eq,hr.1]
 by_cases hlt : (pt : Int) < (ws.length : Int)
 ·rw [if_pos hlt]
  have hlt' : pt < ws.length := by omega
  obtain ⟨b1,o1,ha1,_,hc1⟩ := qbs (g := fun v => qlI .u64 v) (hr.keep hk) (i := pt) hlt'
  refine ⟨by omega,?_⟩
  rw [ha1,qd,qlP,hc1,qf]
  have hg : ws.getD pt 0 = ws[pt] := by rw [qlM,qlK hlt']; rfl
  have hv : isU ws[pt] := h64 _ (ql1 hlt')
  rw [qdM ws pt,dif_pos hlt',hg] at hb
  generalize ws[pt] = v at *
  refine qbx.s hv ?_ ?_
  ·intro hm
   rw [dif_pos hm] at hb
   have hm' := hm
   unfold mayS at hm'
   rw [if_neg (by simp)]
   refine ⟨rfl,?_⟩
   rw [qp]
   have hbk : [qlI .i64 (pt : Int),qlI .i64 (v / 2),Value.bool (v % 2 == 1)] = bkV ((pt : Int),v / 2,(v % 2 == 1)) := rfl
   rw [hbk]
   refine qbB (H0 := H) (B := H.size) (f := bkV) (x := ((pt : Int),v / 2,(v % 2 == 1))) (l := acc) bkV_len (bkV_ok _) hO (qlS _) hk.1 hk (by simp only [lim]; omega) ?_
   intro s' H' hO' hK' _ _
   have e2 : (pt : Int) + v / 2 = ((pt + (v / 2).toNat : Nat) : Int) := by omega
   rw [qg (n := (pt : Int) + v / 2) (by omega) (by omega),e2]
   refine hit _ _ ⟨pt + (v / 2).toNat,acc ++ [((pt : Int),v / 2,(v % 2 == 1))],rfl,by omega,by simp; omega,hK',hO',?_,?_⟩ (by simp only; omega)
   ·intro b hb'
    rw [ql2] at hb'
    rcases hb' with hb' | hb'
    ·exact hok b hb'
    ·simp at hb'; subst hb'; simp only; omega
   ·rw [hb,Option.map_map]
    congr 1
    funext r
    simp
  ·intro hm
   rw [dif_neg hm] at hb
   rw [if_pos (by simp)]
   refine h0 ?_ _ hk
   unfold blocksN
   rw [hb]; rfl
 ·rw [if_neg hlt]
  have hb' : blkFrom ws 0 = some acc := by
   rw [hb,qdM ws pt,dif_neg (by omega)]
   simp
  unfold qO.j1
  rw [hr.1]
  refine qaf.s (hO.rows bkV_len bkV_ok) (by omega) hok (by omega) ?_
  by_cases hm : MayB acc (ws.length : Int)
  ·rw [decide_eq_true hm,qmm,qc]
   refine h1 acc ?_ _ _ hk hO
   unfold blocksN
   rw [hb',Option.bind_some,if_pos hm]
  ·rw [decide_eq_false hm,qmp,qj]
   refine h0 ?_ _ hk
   unfold blocksN
   rw [hb',Option.bind_some,if_neg hm]
end
section
variable {H : AH}
theorem qbK.s {b : Bk} {x1 : Sl} {cs : List Int} {k : Int → AH → Prop} (hr : ql5 H x1 1 iV cs) (hp : b.1 ≤ 100000) (h : k (countN b.1 cs) H) : qbK (bkV b) x1 H k := by
 refine gcI (j := .i64) (countN b.1 cs) (qbK.link ?_) h
 unfold qbK.b qbK.j1
 rw [qp]
 have hk := (qa.refl H).push ⟨bkV b,.rw,0⟩
 have hB : BkAt (H.push ⟨bkV b,.rw,0⟩) H.size b := BkAt.new
 have hr' := hr.keep hk
 generalize H.push ⟨bkV b,.rw,0⟩ = H1 at *
 simp only [hB.c0,qf]
 unfold countN
 simp only [qi,decide_eq_true_eq,hr.1]
 generalize b.1 = pt at *
 by_cases h1 : pt < 0
 ·rw [if_pos h1,if_pos (.inl h1)]; exact ⟨hk,rfl⟩
 rw [if_neg h1,qmK (by omega),qg (n := pt / 32) (by omega) (by omega)]
 refine ⟨by decide,?_⟩
 by_cases h2 : pt / 32 ≥ (cs.length : Int)
 ·rw [if_pos h2,if_pos (.inr h2)]; exact ⟨hk,rfl⟩
 ·rw [if_neg h2,if_neg (by omega)]
  obtain ⟨b,o,ha,_,hc⟩ := qbs (g := fun v => qlI .i64 v) hr' (i := (pt / 32).toNat) (by omega)
  refine ⟨by decide,by omega,?_⟩
  rw [ha,qd,hc,qf]
  rw [qlM,qlK (show (pt / 32).toNat < cs.length by omega),qms]
  exact ⟨hk,rfl⟩
theorem qaP.s {x0 x2 : Sl} {need : Int} {l : List Bk} {cs : List Int} {k : Int → AH → Prop} (hr : ql5 H x0 3 bkV l) (hl : l.length ≤ 1000) (hok : ∀ b ∈ l,0 ≤ b.1 ∧ b.1 ≤ 100000) (hcs : ql5 H x2 1 iV cs)
  (h : k (chooseN l need cs) H) : qaP x0 need x2 H k := by
 refine gcI (j := .i64) (chooseN l need cs) (qaP.link ?_) h
 unfold qaP.b
 refine qY.s hr (by omega) ?_
 intro s12 H12 hk12 hO12
 have hr2 := hr.keep hk12
 have hcs2 := hcs.keep hk12
 have hRf := hO12.rows (fun _ => rfl) (fun _ => rfl)
 have hmem : ∀ j,j ∈ fitsL l need → j < l.length := fun j hj => by
  unfold fitsL at hj
  split at hj
  ·cases hj
  ·exact (qdG hj).1
 have hlen : (fitsL l need).length ≤ l.length := by
  unfold fitsL
  split
  ·exact qmT _
  ·exact qeW
 unfold chooseN
 generalize fitsL l need = f at *
 refine qI (t := (((-1 : Int),(0 : Int)) : Int × Int)) (I := fun (t : Int × Int) H' => ∃ i : Nat,t.2 = (i : Int) ∧ i ≤ f.length ∧ H' = H12 ∧ t.1 = (f.take i).foldl (chStep l cs) (-1)) (m := fun (t : Int × Int) _ => qlQ ((f.length : Int) - t.2)) ?_ ⟨0,rfl,by omega,rfl,rfl⟩
 intro t H1 hI it hit
 obtain ⟨best,t2⟩ := t
 obtain ⟨i,e1,hi,rfl,e2⟩ := hI
 simp only at e1 e2
 subst e1
 unfold qaP.l2
 simp only [qi,decide_eq_true_eq,hRf.1]
 by_cases hlt : (i : Int) < (f.length : Int)
 ·rw [if_pos hlt]
  have hi' : i < f.length := by omega
  obtain ⟨b0,o0,ha0,_,hc0⟩ := qbs (g := fun v : Nat => qlI .i64 (v : Int)) hRf (i := i) hi'
  refine ⟨by omega,?_⟩
  rw [ha0,qd,qlP,hc0,qf]
  have hfi := hmem _ (ql1 hi')
  have htk : (f.take (i + 1)).foldl (chStep l cs) (-1) = chStep l cs best f[i] := by
   rw [qm6,qlK hi',qnl,List.foldl_append,e2]; rfl
  have hbest : best = -1 ∨ ∃ b : Nat,best = (b : Int) ∧ b < l.length := by
   rw [e2]
   rcases qeV (l := l) (cs := cs) (f := f.take i) (b := -1) with h | ⟨j,hj,h⟩
   ·exact .inl h
   ·exact .inr ⟨j,h,hmem j (List.mem_of_mem_take hj)⟩
  generalize f[i] = y at *
  have hwi : qlJ .i64 ((i : Int) + 1) = ((i + 1 : Nat) : Int) := by rw [qg (by omega) (by omega)]; omega
  rw [hwi]
  unfold chStep at htk
  have yes : (best < 0 ∨ countN (bkAt l y).1 cs < countN (bkAt l best.toNat).1 cs ∨ (countN (bkAt l y).1 cs = countN (bkAt l best.toNat).1 cs ∧ (bkAt l y).1 < (bkAt l best.toNat).1)) → it ((y : Int),((i + 1 : Nat) : Int)) H1 := fun hx => by
   rw [if_pos hx] at htk
   exact hit _ _ ⟨i + 1,rfl,by omega,rfl,htk.symm⟩ (by simp only; omega)
  have j1 : ∀ x : Bool,(x = true ↔ (best < 0 ∨ countN (bkAt l y).1 cs < countN (bkAt l best.toNat).1 cs ∨ (countN (bkAt l y).1 cs = countN (bkAt l best.toNat).1 cs ∧ (bkAt l y).1 < (bkAt l best.toNat).1))) → qaP.j1 (best,(i : Int)) it (y : Int) H1 x := by
   intro x hx
   unfold qaP.j1
   rw [hwi,qi]
   by_cases hx' : x = true
   ·rw [if_pos hx']; exact yes (hx.1 hx')
   ·rw [if_neg hx']
    rw [if_neg (fun hh => hx' (hx.2 hh))] at htk
    exact hit _ _ ⟨i + 1,rfl,by omega,rfl,htk.symm⟩ (by simp only; omega)
  rcases hbest with hb | ⟨bb,hb,hbl⟩
  ·rw [if_pos (by omega)]
   exact yes (.inl (by omega))
  ·rw [if_neg (by omega),hr.1]
   subst hb
   rw [qlP] at j1
   obtain ⟨b,o,ha,hbz,hcells⟩ := qas hr2 (by omega)
   have hgy := qaW hfi
   have hgb := qaW hbl
   have ry := (hcells y _ hgy).1
   have rb := (hcells bb _ hgb).1
   have cy : AH.cell? H1 (qlL (qlL ⟨b,o,none⟩ (y * 3)) 0) = some (.int .i64 (bkAt l y).1) := (hcells y _ hgy).2 0 _ rfl
   have cb : AH.cell? H1 (qlL (qlL ⟨b,o,none⟩ (bb * 3)) 0) = some (.int .i64 (bkAt l bb).1) := (hcells bb _ hgb).2 0 _ rfl
   have oy := (hok _ (qlX hgy)).2
   have ob := (hok _ (qlX hgb)).2
   generalize bkAt l y = qy at *
   generalize bkAt l bb = qb at *
   have rg : (0 ≤ (y : Int) ∧ (y : Int) < (l.length : Int)) ∧ (0 ≤ (bb : Int) ∧ (bb : Int) < (l.length : Int)) := by omega
   refine ⟨rg.1,?_⟩
   simp only [ha,qd,qlP]
   rw [ql ry]
   refine ⟨rg.2,?_⟩
   rw [ql rb]
   refine qbK.s hcs2 oy ⟨rb,?_⟩
   refine qbK.s hcs2 ob ?_
   by_cases c1 : countN qy.1 cs < countN qb.1 cs
   ·rw [if_pos c1]
    exact j1 true ⟨fun _ => .inr (.inl c1),fun _ => rfl⟩
   ·rw [if_neg c1]
    by_cases c2 : countN qy.1 cs = countN qb.1 cs
    ·rw [if_pos (by simpa using c2)]
     simp only [cy,cb,qf]
     refine ⟨rg.1,rg.2,j1 _ ?_⟩
     rw [decide_eq_true_eq]
     exact ⟨fun hh => .inr (.inr ⟨c2,hh⟩),fun hh => by rcases hh with hh | hh | hh; omega; exact absurd hh c1; exact hh.2⟩
    ·rw [if_neg (by simpa using c2)]
     exact j1 false ⟨fun hh => (by cases hh),fun hh => by rcases hh with hh | hh | hh; omega; exact absurd hh c1; exact absurd hh.1 c2⟩
 ·rw [if_neg hlt]
  have : i = f.length := by omega
  subst this
  rw [qmI] at e2
  exact ⟨hk12,e2⟩
theorem qbG.s {q : Bk} {a : Addr} {off : Int} {k : Bool → AH → Prop} (ha : AH.cell? H a = some (.int .i64 off)) (hab : a.1 < H.size) (h : k (decide (q.2.2 = true ∧ offN q.1 = off)) H) : qbG (bkV q) (some a) H k := by
 refine gcB (decide (q.2.2 = true ∧ offN q.1 = off)) (qbG.link ?_) h
 unfold qbG.b
 rw [qp]
 have hk := (qa.refl H).push ⟨bkV q,.rw,0⟩
 have hB : BkAt (H.push ⟨bkV q,.rw,0⟩) H.size q := BkAt.new
 have ha' : AH.cell? (H.push ⟨bkV q,.rw,0⟩) a = some (.int .i64 off) := by
  rw [AH.cell?,qv (by omega)]; exact ha
 generalize H.push ⟨bkV q,.rw,0⟩ = H1 at *
 simp only [hB.c2,qbi,qi]
 by_cases hu : q.2.2 = true
 ·rw [if_pos hu,ql hB.row]
  rw [qd,ha',qf]
  refine qba.s ⟨ha',hk,?_⟩
  simp only [hu,true_and]
  by_cases h1 : offN q.1 = off <;> simp [h1]
 ·rw [if_neg hu]
  exact ⟨hk,(decide_eq_false (fun hh => hu hh.1)).symm⟩
end
def isUsed (ws : List Int) (off : Int) : Bool := match blocksN ws with | some l => decide (0 ≤ isN off l 0) | none => false
def imgRead (ws : List Int) (off n : Int) : List Int × Int :=
 match blocksN ws with
 | none => ([],6)
 | some l => if withinN l off n then (bytesOf ws off.toNat n.toNat,0) else ([],1)
def imgHolds (ws : List Int) (off n : Int) : Int :=
 match blocksN ws with
 | none => 6
 | some l => if withinN l off n then 0 else 1
section
variable {H : AH}
theorem qeQ.s {x0 : Sl} {a : Addr} {off : Int} {l : List Bk} {k : Int → AH → Prop} (hr : ql5 H x0 3 bkV l) (hl : l.length ≤ 1000) (ha : AH.cell? H a = some (.int .i64 off)) (hab : a.1 < H.size)
  (h : k (isN off l 0) H) : qB x0 (some a) H k := by
 refine gcI (j := .i64) (isN off l 0) (qB.link ?_) h
 unfold qB.b
 refine qI (t := (((0 : Int),(0 : Int)) : Int × Int)) (I := fun (t : Int × Int) H' => ∃ i : Nat,t.2 = (i : Int) ∧ i ≤ l.length ∧ H' = H ∧ isN off l 0 = isN off (l.drop i) i) (m := fun (t : Int × Int) _ => qlQ ((l.length : Int) - t.2)) ?_ ⟨0,rfl,by omega,rfl,rfl⟩
 intro t H1 hI it hit
 obtain ⟨t1,t2⟩ := t
 obtain ⟨i,e1,hi,rfl,he⟩ := hI
 simp only at e1
 subst e1
 unfold qB.l1
 simp only [qi,decide_eq_true_eq,hr.1]
 by_cases hlt : (i : Int) < (l.length : Int)
 ·rw [if_pos hlt]
  have hi' : i < l.length := by omega
  obtain ⟨b,o,ha',hb,hcells⟩ := qas hr (by omega)
  refine ⟨by omega,?_⟩
  obtain ⟨hrow,_⟩ := hcells i l[i] (qlK hi')
  rw [ha',qd,qlP,ql hrow]
  rw [qdj hi'] at he
  simp only [isN] at he
  generalize l[i] = q at *
  refine qbG.s ha hab ?_
  rw [qg (n := (i : Int) + 1) (by omega) (by omega)]
  by_cases hq : q.2.2 = true ∧ offN q.1 = off
  ·rw [if_pos (by simpa using hq)]
   rw [if_pos hq] at he
   exact ⟨qa.refl _,he.symm⟩
  ·rw [if_neg (by simpa using hq)]
   rw [if_neg hq] at he
   exact hit _ _ ⟨i + 1,by simp,by omega,rfl,he⟩ (by simp only; omega)
 ·rw [if_neg hlt]
  have : i = l.length := by omega
  subst this
  rw [qm3] at he
  exact ⟨qa.refl _,he.symm⟩
theorem qcg.s {x0 : Sl} {off : Int} {ws : List Int} {k : Sl → Int → AH → Prop} (hr : ql5 H x0 1 wU ws) (h64 : qaI ws) (hl : ws.length ≤ 1000)
  (h1 : ∀ l,blocksN ws = some l → ∀ s H',qa H H' → Own H.size H' s 3 bkV l → k s (isN off l 0) H') (h0 : blocksN ws = none → ∀ H',qa H H' → k ⟨none,0,0⟩ (-1) H') : qcg x0 off H k := by
 refine qcg.link ?_
 unfold qcg.b
 rw [qp]
 have hk := (qa.refl H).push ⟨[(qlI .i64 off)],.rw,0⟩
 have hc : AH.cell? (H.push ⟨[(qlI .i64 off)],.rw,0⟩) ⟨H.size,0,none⟩ = some (.int .i64 off) := by simp [AH.cell?,qm]
 have hs : H.size < (H.push ⟨[(qlI .i64 off)],.rw,0⟩).size := by simp [qe]
 generalize H.push ⟨[(qlI .i64 off)],.rw,0⟩ = H1 at *
 have keep : ∀ {H'},qa H1 H' → AH.cell? H' ⟨H.size,0,none⟩ = some (.int .i64 off) ∧ H.size < H'.size := fun hk' => by
  refine ⟨?_,by have := hk'.1; omega⟩
  rw [← hc]; simp only [AH.cell?,hk'.2 _ hs]
 refine qO.s (hr.keep hk) h64 hl ?_ ?_
 ·intro l hb s H' hk' hO
  have hB := qbu hb
  have hlen := hB.len
  refine qeQ.s (hO.rows bkV_len bkV_ok) (by omega) (keep hk').1 (keep hk').2 ?_
  exact h1 l hb _ _ (hk.trans hk') (qbO hO hk.1)
 ·intro hb H' hk'
  refine qeQ.s (l := []) qbM (by simp) (keep hk').1 (keep hk').2 ?_
  exact h0 hb _ (hk.trans hk')
theorem qcv.s {x0 : Sl} {off : Int} {ws : List Int} {k : Bool → AH → Prop} (hr : ql5 H x0 1 wU ws) (h64 : qaI ws) (hl : ws.length ≤ 1000)
  (h : k (isUsed ws off) H) : qcv x0 off H k := by
 refine gcB (isUsed ws off) (qcv.link ?_) h
 unfold qcv.b isUsed
 refine qcg.s hr h64 hl ?_ ?_
 ·intro l hb s H' hk _
  rw [hb]; exact ⟨hk,rfl⟩
 ·intro hb H' hk
  rw [hb]; exact ⟨hk,rfl⟩
theorem qbt.s {q : Bk} {a1 a2 : Addr} {off n : Int} {k : Bool → AH → Prop} (ha1 : AH.cell? H a1 = some (.int .i64 off)) (hb1 : a1.1 < H.size) (ha2 : AH.cell? H a2 = some (.int .i64 n)) (hb2 : a2.1 < H.size)
  (hn : 0 ≤ n ∧ n ≤ 448) (hq : 0 ≤ q.1 ∧ q.1 ≤ 100000 ∧ 0 ≤ q.2.1 ∧ q.2.1 ≤ 100000) (h : k (decide (inB off n q)) H) : qbt (bkV q) (some a1) (some a2) H k := by
 refine gcB (decide (inB off n q)) (qbt.link ?_) h
 unfold qbt.b
 rw [qp]
 have hk := (qa.refl H).push ⟨bkV q,.rw,0⟩
 have hB : BkAt (H.push ⟨bkV q,.rw,0⟩) H.size q := BkAt.new
 have ha1' : AH.cell? (H.push ⟨bkV q,.rw,0⟩) a1 = some (.int .i64 off) := by rw [AH.cell?,qv (by omega)]; exact ha1
 have ha2' : AH.cell? (H.push ⟨bkV q,.rw,0⟩) a2 = some (.int .i64 n) := by rw [AH.cell?,qv (by omega)]; exact ha2
 generalize H.push ⟨bkV q,.rw,0⟩ = H1 at *
 simp only [hB.c2,qbi,qi,decide_eq_true_eq]
 by_cases hu : q.2.2 = true
 ·rw [if_pos hu,qd,ha1',qf,ql hB.row]
  refine qba.s ⟨ha1',?_⟩
  by_cases c1 : off ≥ offN q.1
  ·rw [if_pos c1,qd,ha1',qf,hB.c0,qf,hB.c1,qf,qd,ha2',qf]
   refine ⟨hk,?_⟩
   rw [qg (n := q.1 + q.2.1) (by omega) (by omega),qg (n := (q.1 + q.2.1) * 8) (by omega) (by omega),qg (n := (q.1 + q.2.1) * 8 - n) (by omega) (by omega)]
   congr 1
   apply propext
   constructor
   ·intro hh; exact ⟨hu,c1,by omega,by omega⟩
   ·intro hh; have := hh.2.2.2; omega
  ·rw [if_neg c1]
   exact ⟨hk,(decide_eq_false (fun hh => c1 hh.2.1)).symm⟩
 ·rw [if_neg hu]
  exact ⟨hk,(decide_eq_false (fun hh => hu hh.1)).symm⟩
theorem qfz.s {x0 : Sl} {a1 a2 : Addr} {off n : Int} {l : List Bk} {k : Bool → AH → Prop} (hr : ql5 H x0 3 bkV l) (hl : l.length ≤ 1000) (ha1 : AH.cell? H a1 = some (.int .i64 off)) (hb1 : a1.1 < H.size) (ha2 : AH.cell? H a2 = some (.int .i64 n)) (hb2 : a2.1 < H.size)
  (hn : 0 ≤ n ∧ n ≤ 448) (hok : ∀ b ∈ l,0 ≤ b.1 ∧ b.1 ≤ 100000 ∧ 0 ≤ b.2.1 ∧ b.2.1 ≤ 100000) (h : k (decide (withinN l off n)) H) : qM x0 (some a1) (some a2) H k := by
 refine qM.link ?_
 unfold qM.b
 have main : ∀ v : Int,(0 ≤ v ↔ withinN l off n) → (∀ k' : Int → AH → Prop,k' v H → qt x0 (some a1) (some a2) H k') → qt x0 (some a1) (some a2) H fun n7 H7 => k (decide ((n7 : Int) ≥ (0 : Int))) H7 := by
  intro v hv hk
  refine hk _ ?_
  rw [show decide (v ≥ 0) = decide (withinN l off n) by congr 1; exact propext hv]
  exact h
 -- the first place
 have key : ∃ v : Int,(0 ≤ v ↔ withinN l off n) ∧ (∀ k' : Int → AH → Prop,k' v H → qt x0 (some a1) (some a2) H k') := by
  let fst : List Bk → Nat → Int := fun l => l.rec (fun _ => -1) (fun q _ ih i => if inB off n q then (i : Int) else ih (i + 1))
  have f0 : ∀ i,fst [] i = -1 := fun _ => rfl
  have f1 : ∀ q r i,fst (q :: r) i = if inB off n q then (i : Int) else fst r (i + 1) := fun _ _ _ => rfl
  refine ⟨fst l 0,?_,?_⟩
  ·have : ∀ (r : List Bk) i,0 ≤ fst r i ↔ ∃ b ∈ r,inB off n b := by
    intro r
    induction r with
    | nil => intro i; rw [f0 i]; simp
    | cons q r ih =>
     intro i
     rw [f1]
     by_cases hq : inB off n q
     ·rw [if_pos hq]; simp [hq]
     ·rw [if_neg hq,ih]; simp [hq]
   rw [this l 0]
   exact ⟨fun hh => ⟨hn.1,hn.2,hh⟩,fun hh => hh.2.2⟩
  ·intro k' hk'
   refine gcI (j := .i64) (fst l 0) (qt.link ?_) hk'
   unfold qt.b
   refine qI (t := (((0 : Int),(0 : Int)) : Int × Int)) (I := fun (t : Int × Int) H' => ∃ i : Nat,t.2 = (i : Int) ∧ i ≤ l.length ∧ H' = H ∧ fst l 0 = fst (l.drop i) i) (m := fun (t : Int × Int) _ => qlQ ((l.length : Int) - t.2)) ?_ ⟨0,rfl,by omega,rfl,rfl⟩
   intro t H1 hI it hit
   obtain ⟨t1,t2⟩ := t
   obtain ⟨i,e1,hi,rfl,he⟩ := hI
   simp only at e1
   subst e1
   unfold qt.l1
   simp only [qi,decide_eq_true_eq,hr.1]
   by_cases hlt : (i : Int) < (l.length : Int)
   ·rw [if_pos hlt]
    have hi' : i < l.length := by omega
    obtain ⟨b,o,ha',hb,hcells⟩ := qas hr (by omega)
    refine ⟨by omega,?_⟩
    obtain ⟨hrow,_⟩ := hcells i l[i] (qlK hi')
    rw [ha',qd,qlP,ql hrow]
    rw [qdj hi',f1] at he
    have hqq := hok _ (ql1 hi')
    generalize l[i] = q at *
    refine qbt.s ha1 hb1 ha2 hb2 hn hqq ?_
    rw [qg (n := (i : Int) + 1) (by omega) (by omega)]
    by_cases hq : inB off n q
    ·rw [if_pos (by simpa using hq)]
     rw [if_pos hq] at he
     exact ⟨qa.refl _,he.symm⟩
    ·rw [if_neg (by simpa using hq)]
     rw [if_neg hq] at he
     exact hit _ _ ⟨i + 1,by simp,by omega,rfl,he⟩ (by simp only; omega)
   ·rw [if_neg hlt]
    have : i = l.length := by omega
    subst this
    rw [qm3] at he
    exact ⟨qa.refl _,he.symm⟩
 obtain ⟨v,hv,hk⟩ := key
 exact main v hv hk
theorem qbz.s {x0 : Sl} {off n : Int} {ws : List Int} {l : List Bk} {k : Bool → AH → Prop} (hr : ql5 H x0 1 wU ws) (h64 : qaI ws) (hl : ws.length ≤ 1000) (hbl : blocksN ws = some l)
  (h : k (decide (withinN l off n)) H) : qbz x0 off n H k := by
 refine gcB (decide (withinN l off n)) (qbz.link ?_) h
 unfold qbz.b
 rw [qp,qp]
 have hk := ((qa.refl H).push ⟨[(qlI .i64 off)],.rw,0⟩).push ⟨[(qlI .i64 n)],.rw,0⟩
 rw [qe]
 have hc1 : AH.cell? ((H.push ⟨[(qlI .i64 off)],.rw,0⟩).push ⟨[(qlI .i64 n)],.rw,0⟩) ⟨H.size,0,none⟩ = some (.int .i64 off) := by simp [AH.cell?,qm,qe]
 have hc2 : AH.cell? ((H.push ⟨[(qlI .i64 off)],.rw,0⟩).push ⟨[(qlI .i64 n)],.rw,0⟩) ⟨H.size + 1,0,none⟩ = some (.int .i64 n) := by simp [AH.cell?,qm,qe]
 have hs : H.size + 1 < ((H.push ⟨[(qlI .i64 off)],.rw,0⟩).push ⟨[(qlI .i64 n)],.rw,0⟩).size := by simp [qe]
 generalize (H.push ⟨[(qlI .i64 off)],.rw,0⟩).push ⟨[(qlI .i64 n)],.rw,0⟩ = H1 at *
 simp only [hc2,qf,qi,decide_eq_true_eq]
 unfold qbz.j1
 by_cases c1 : n < 0
 ·rw [if_pos c1,qj]; exact ⟨hk,(decide_eq_false (fun hh => by have := hh.1; omega)).symm⟩
 rw [if_neg c1]
 by_cases c2 : n > 448
 ·rw [decide_eq_true c2,qj]; exact ⟨hk,(decide_eq_false (fun hh => by have := hh.2.1; omega)).symm⟩
 rw [decide_eq_false c2,qc]
 refine qO.s (hr.keep hk) h64 hl ?_ (fun hb => by rw [hbl] at hb; cases hb)
 intro l' hb s H' hk' hO
 obtain rfl := Option.some.inj (hbl.symm.trans hb)
 have hB := qbu hbl
 have hlen := hB.len
 have cc : ∀ b v,b < H1.size → AH.cell? H1 ⟨b,0,none⟩ = some v → AH.cell? H' ⟨b,0,none⟩ = some v := fun b v hb hv => by rw [← hv]; simp only [AH.cell?,hk'.2 _ hb]
 refine qfz.s (hO.rows bkV_len bkV_ok) (by omega) (cc _ _ (by omega) hc1) (by have := hk'.1; show H.size < _; omega) (cc _ _ (by omega) hc2) (by have := hk'.1; show H.size + 1 < _; omega) (by omega) (fun b hb => by have := hB.mem hb; omega) ?_
 exact ⟨hk.trans hk',rfl⟩
theorem qb2.s {x0 : Sl} {off n : Int} {ws : List Int} {k : Int → AH → Prop} (hr : ql5 H x0 1 wU ws) (h64 : qaI ws) (hl : ws.length ≤ 1000)
  (h : k (imgHolds ws off n) H) : qb2 x0 off n H k := by
 refine gcI (j := .i64) (imgHolds ws off n) (qb2.link ?_) h
 unfold qb2.b imgHolds
 refine qO.s hr h64 hl ?_ ?_
 ·intro l hb s H' hk _
  rw [hb,qmm,qc]
  refine qbz.s (hr.keep hk) h64 hl hb ?_
  simp only
  by_cases hw : withinN l off n
  ·rw [decide_eq_true hw,qmm,qc,if_pos hw]; exact ⟨hk,rfl⟩
  ·rw [decide_eq_false hw,qmp,qj,if_neg hw]; exact ⟨hk,rfl⟩
 ·intro hb H' hk
  rw [hb,qmp,qj]; exact ⟨hk,rfl⟩
theorem qcA.s {x0 : Sl} {off n : Int} {ws : List Int} {k : Sl → Int → AH → Prop} (hr : ql5 H x0 1 wU ws) (h64 : qaI ws) (hl : ws.length ≤ 1000) (ho : isI off)
  (h : ∀ s H',qa H H' → Own H.size H' s 1 bU (imgRead ws off n).1 → k s (imgRead ws off n).2 H') : qcA x0 off n H k := by
 unfold isI at ho
 refine qcA.link ?_
 unfold qcA.b
 refine qb2.s hr h64 hl ?_
 unfold imgRead at h
 unfold imgHolds
 cases hb : blocksN ws with
 | none =>
  rw [hb] at h
  exact h _ _ (qa.refl H) (.inl ⟨rfl,rfl⟩)
 | some l =>
  rw [hb] at h
  simp only at h ⊢
  by_cases hw : withinN l off n
  ·rw [if_pos hw] at h ⊢
   refine qb0.s hr h64 (by omega) (by omega) ?_ (fun hn => absurd (qc7 (qbu hb) hw) hn)
   intro _ s H' hk hO
   exact h _ _ hk hO
  ·rw [if_neg hw] at h ⊢
   exact h _ _ (qa.refl H) (.inl ⟨rfl,rfl⟩)
theorem qco.s {x0 x2 : Sl} {off : Int} {ws bs : List Int} {k : Sl → Int → AH → Prop} (hr : ql5 H x0 1 wU ws) (h64 : qaI ws) (hl : ws.length ≤ 1000) (ho : isI off) (hb : ql5 H x2 1 bU bs) (h8 : qam bs)
  (h : ∀ s H',qa H H' → Own H.size H' s 2 eU (imgWrite ws off bs).1 → k s (imgWrite ws off bs).2 H') : qco x0 off x2 H k := by
 unfold isI at ho
 refine qco.link ?_
 unfold qco.b
 rw [hb.1]
 refine qb2.s hr h64 hl ?_
 unfold imgWrite at h
 unfold imgHolds
 cases hbk : blocksN ws with
 | none =>
  rw [hbk] at h
  exact h _ _ (qa.refl H) (.inl ⟨rfl,rfl⟩)
 | some l =>
  rw [hbk] at h
  simp only at h ⊢
  by_cases hw : withinN l off bs.length
  ·rw [if_pos hw] at h ⊢
   refine qan.s hr h64 (by omega) hb h8 (by omega) ?_ (fun hn => absurd (qc7 (qbu hbk) hw) hn)
   intro _ s H' hk hO
   exact h _ _ hk hO
  ·rw [if_neg hw] at h ⊢
   exact h _ _ (qa.refl H) (.inl ⟨rfl,rfl⟩)
end
theorem qjT (b : Bk) (r : List Bk) : ∀ j,sumTo (b :: r) 0 (j + 1) = b.2.1 + sumTo r 0 j := by
 intro j
 induction j with
 | zero => simp [sumTo,bkAt]
 | succ j ih =>
  rw [sumTo,ih]
  simp only [sumTo,ql3]
  have : bkAt (b :: r) (j + 1) = bkAt r j := rfl
  rw [this]; omega
theorem chainB.sum {words : Int} : ∀ {l : List Bk} {pt : Int} {pu : Bool},chainB words pt pu l → ∀ j,j ≤ l.length → 0 ≤ sumTo l 0 j ∧ pt + sumTo l 0 j ≤ words ∧ (j = l.length → pt + sumTo l 0 j = words) := by
 intro l
 induction l with
 | nil => intro pt pu h j hj; simp only [chainB] at h; simp at hj; subst hj; simp [sumTo]; omega
 | cons b r ih =>
  intro pt pu h j hj
  have hs := h.2.1
  unfold mayS at hs
  cases j with
  | zero => have := ih h.2.2.2.2 0 (by omega); simp [sumTo] at this ⊢; omega
  | succ j =>
   have := ih h.2.2.2.2 j (by simpa using hj)
   rw [qjT]
   refine ⟨by omega,by omega,fun hh => ?_⟩
   have := this.2.2 (by simpa using hh)
   omega
theorem MayB.sum {l : List Bk} {words : Int} (h : MayB l words) {j : Nat} (hj : j ≤ l.length) : 0 ≤ sumTo l 0 j ∧ sumTo l 0 j ≤ 512 := by
 have := h.2.sum j hj
 have := h.len
 omega
theorem qj3 (l : List Bk) (F : Nat) : ∀ j,sumTo l 0 (F + j) = sumTo l 0 F + sumTo l F j := by
 intro j
 induction j with
 | zero => simp [sumTo]
 | succ j ih => rw [← Nat.add_assoc]; simp only [sumTo]; rw [ih,ql3]; omega
theorem qjm (l : List Bk) {F n : Nat} (h : F + n ≤ l.length) : ∀ j,j ≤ n → sumTo ((l.drop F).take n) 0 j = sumTo l F j := by
 intro j
 induction j with
 | zero => intro _; rfl
 | succ j ih =>
  intro hj
  simp only [sumTo,ql3]
  rw [ih (by omega)]
  congr 2
  unfold bkAt
  rw [qlM,qlM,qmr,if_pos (by omega),qmo]
def takenL (b : Bk) (need : Int) : List Bk := (b.1,takesN b.2.1 need,true) :: (if takesN b.2.1 need < b.2.1 then [(b.1 + takesN b.2.1 need,b.2.1 - takesN b.2.1 need,false)] else [])
def preE (b : Bk) (j : Nat) : List (Int × Int) := if b.2.2 = true then carveTo b.1 b.2.1 j else [(b.1,wordN b.2.1 false)]
def eOf (b : Bk) : List (Int × Int) := preE b b.2.1.toNat
theorem qid (b : Bk) (need : Int) : carveE b need = (takenL b need).flatMap eOf := by
 unfold carveE takenL
 rw [qmn]
 congr 1
 by_cases h : takesN b.2.1 need < b.2.1
 ·rw [if_pos h,if_pos h]; rfl
 ·rw [if_neg h,if_neg h]; rfl
section
variable {H : AH}
theorem qax.s {x0 : Sl} {l : List Bk} {k : Int → AH → Prop} (hr : ql5 H x0 3 bkV l) (hl : l.length ≤ 1000) (hm : ∀ b ∈ l,mayS b.2.1) (hs : ∀ j,j ≤ l.length → 0 ≤ sumTo l 0 j ∧ sumTo l 0 j ≤ 512)
  (h : k (sumTo l 0 l.length) H) : qax x0 H k := by
 refine gcI (j := .i64) (sumTo l 0 l.length) (qax.link ?_) h
 unfold qax.b
 refine qI (t := (((0 : Int),(0 : Int),(0 : Int)) : Int × Int × Int)) (I := fun (t : Int × Int × Int) H' => ∃ i : Nat,t.2.2 = (i : Int) ∧ i ≤ l.length ∧ qa H H' ∧ t.2.1 = sumTo l 0 i) (m := fun (t : Int × Int × Int) _ => qlQ ((l.length : Int) - t.2.2)) ?_ ⟨0,rfl,by omega,qa.refl H,rfl⟩
 intro t H1 hI it hit
 obtain ⟨t1,pt,t3⟩ := t
 obtain ⟨i,e1,hi,hk,e2⟩ := hI
 simp only at e1 e2
 subst e1 e2
 unfold qax.l2
 simp only [qi,decide_eq_true_eq,hr.1]
 by_cases hlt : (i : Int) < (l.length : Int)
 ·rw [if_pos hlt]
  have hi' : i < l.length := by omega
  obtain ⟨b,o,ha,hb,hcells⟩ := qas (hr.keep hk) (by omega)
  refine ⟨by omega,?_⟩
  have hgi := qaW hi'
  obtain ⟨hrow,_⟩ := hcells i _ hgi
  rw [ha,qd,qlP,ql hrow]
  have hmq := hm _ (qlX hgi)
  have hs0 := hs i (by omega)
  have hs1 := hs (i + 1) (by omega)
  have hS : sumTo l 0 (i + 1) = sumTo l 0 i + (bkAt l i).2.1 := by simp only [sumTo,ql3]
  generalize bkAt l i = q at *
  refine qbW (n := 3) rfl (bkV_len q) (bkV_ok q) ?_
  have hB : BkAt (H1.push ⟨bkV q,.rw,0⟩) H1.size q := BkAt.new
  have hk2 : qa H (H1.push ⟨bkV q,.rw,0⟩) := hk.push _
  generalize H1.push ⟨bkV q,.rw,0⟩ = H2 at *
  simp only [hB.c1,qf]
  refine qbq.s ?_
  rw [decide_eq_true hmq,if_neg (by simp)]
  unfold qax.j1
  rw [decide_eq_false (show ¬ sumTo l 0 i > 512 by omega),qc,hB.c1,qf,qg (n := sumTo l 0 i + q.2.1) (by omega) (by omega),qg (n := (i : Int) + 1) (by omega) (by omega)]
  exact hit _ _ ⟨i + 1,by simp,by omega,hk2,hS.symm⟩ (by simp only; omega)
 ·rw [if_neg hlt]
  have : i = l.length := by omega
  subst this
  exact ⟨hk,rfl⟩
theorem qaO.s {x0 : Sl} {l : List Bk} {k : Int → AH → Prop} (hr : ql5 H x0 3 bkV l) (hl : l.length ≤ 1000) (hm : ∀ b ∈ l,mayS b.2.1) (hs : ∀ j,j ≤ l.length → 0 ≤ sumTo l 0 j ∧ sumTo l 0 j ≤ 512)
  (h : k (sumTo l 0 l.length) H) : qaO x0 H k := by
 refine gcI (j := .i64) (sumTo l 0 l.length) (qaO.link ?_) h
 unfold qaO.b
 refine qI (t := (((0 : Int),(0 : Int),(0 : Int)) : Int × Int × Int)) (I := fun (t : Int × Int × Int) H' => ∃ i : Nat,t.2.2 = (i : Int) ∧ i ≤ l.length ∧ qa H H' ∧ t.2.1 = sumTo l 0 i) (m := fun (t : Int × Int × Int) _ => qlQ ((l.length : Int) - t.2.2)) ?_ ⟨0,rfl,by omega,qa.refl H,rfl⟩
 intro t H1 hI it hit
 obtain ⟨t1,pt,t3⟩ := t
 obtain ⟨i,e1,hi,hk,e2⟩ := hI
 simp only at e1 e2
 subst e1 e2
 unfold qaO.l2
 simp only [qi,decide_eq_true_eq,hr.1]
 by_cases hlt : (i : Int) < (l.length : Int)
 ·rw [if_pos hlt]
  have hi' : i < l.length := by omega
  obtain ⟨b,o,ha,hb,hcells⟩ := qas (hr.keep hk) (by omega)
  refine ⟨by omega,?_⟩
  have hgi := qaW hi'
  obtain ⟨hrow,_⟩ := hcells i _ hgi
  rw [ha,qd,qlP,ql hrow]
  have hmq := hm _ (qlX hgi)
  have hs0 := hs i (by omega)
  have hs1 := hs (i + 1) (by omega)
  have hS : sumTo l 0 (i + 1) = sumTo l 0 i + (bkAt l i).2.1 := by simp only [sumTo,ql3]
  generalize bkAt l i = q at *
  refine qbW (n := 3) rfl (bkV_len q) (bkV_ok q) ?_
  have hB : BkAt (H1.push ⟨bkV q,.rw,0⟩) H1.size q := BkAt.new
  have hk2 : qa H (H1.push ⟨bkV q,.rw,0⟩) := hk.push _
  generalize H1.push ⟨bkV q,.rw,0⟩ = H2 at *
  simp only [hB.c1,qf]
  refine qbq.s ?_
  rw [decide_eq_true hmq,if_neg (by simp)]
  unfold qaO.j1
  rw [decide_eq_false (show ¬ sumTo l 0 i > 512 by omega),qc,hB.c1,qf,qg (n := sumTo l 0 i + q.2.1) (by omega) (by omega),qg (n := (i : Int) + 1) (by omega) (by omega)]
  exact hit _ _ ⟨i + 1,by simp,by omega,hk2,hS.symm⟩ (by simp only; omega)
 ·rw [if_neg hlt]
  have : i = l.length := by omega
  subst this
  exact ⟨hk,rfl⟩
theorem MayB.mays {l : List Bk} {words : Int} (hB : MayB l words) : ∀ b ∈ l,mayS b.2.1 := fun b hb => (hB.2.mem b hb).2.2
theorem MayB.tot {l : List Bk} {words : Int} (hB : MayB l words) : sumTo l 0 l.length = words := by
 have := (hB.2.sum l.length (qlS _)).2.2 rfl; omega
theorem qbf.s {x0 : Sl} {need words : Int} {l : List Bk} {i : Nat} {k : Sl → AH → Prop} (hr : ql5 H x0 3 bkV l) (hB : MayB l words) (hi : i < l.length) (hu : (bkAt l i).2.2 = false) (hn : 2 ≤ need ∧ need ≤ (bkAt l i).2.1)
  (h : ∀ s H',qa H H' → Own H.size H' s 3 bkV (takenL (bkAt l i) need) → k s H') : qbf x0 (i : Int) need H k := by
 have hlen := hB.len
 have hgi := qaW hi
 have hm := hB.mem (qlX hgi)
 refine qbf.link ?_
 unfold qbf.b
 refine qaO.s hr (by omega) hB.mays (fun j hj => hB.sum hj) ?_
 rw [hB.tot]
 refine qaf.s hr (by omega) (fun b hb => by have := hB.mem hb; omega) (by have := hB.1; unfold mayW at this; omega) ?_
 rw [decide_eq_true hB,qmm,qc]
 obtain ⟨b,o,ha,hb,hcells⟩ := qas hr (by omega)
 obtain ⟨hrow,hcell⟩ := hcells i _ hgi
 have c2 := hcell 2 _ rfl
 generalize bkAt l i = q at *
 have hti : qlQ (i : Int) = i := qlP i
 have htk : takesN q.2.1 need ≠ 0 ∧ 2 ≤ takesN q.2.1 need ∧ takesN q.2.1 need ≤ q.2.1 := by
  unfold takesN; rw [if_pos ⟨hn.1,hn.2⟩]; split <;> omega
 simp only [qi,decide_eq_true_eq,hr.1,ha,qd,hti,c2,qbi]
 rw [if_neg (by omega),if_neg (by omega)]
 refine ⟨by omega,?_⟩
 unfold qbf.j1
 rw [hu,qc,hr.1]
 refine ⟨by omega,?_⟩
 simp only [ha,qd,hti]
 rw [ql hrow]
 refine qbW (n := 3) rfl (bkV_len q) (bkV_ok q) ?_
 have hBk : BkAt (H.push ⟨bkV q,.rw,0⟩) H.size q := BkAt.new
 have hk : qa H (H.push ⟨bkV q,.rw,0⟩) := (qa.refl H).push _
 have hsz : H.size < (H.push ⟨bkV q,.rw,0⟩).size := by simp [qe]
 generalize H.push ⟨bkV q,.rw,0⟩ = H1 at *
 rw [hBk.c1,qf]
 refine qbL.s (by omega) (by omega) ?_
 unfold takenL at h
 generalize takesN q.2.1 need = tk at *
 rw [show (tk == 0) = false by simp [htk.1],qc,hBk.c0,qf]
 refine ⟨rfl,?_⟩
 rw [qp]
 have e1 : [qlI .i64 q.1,qlI .i64 tk,Value.bool true] = bkV (q.1,tk,true) := rfl
 rw [e1]
 have hO : Own H1.size (H1.push ⟨bkV (q.1,tk,true),.rw,3⟩) ⟨some ⟨H1.size,0,none⟩,1,1⟩ 3 bkV [(q.1,tk,true)] := .inr ⟨H1.size,rfl,qlS _,by simp [qe],by rw [qm,if_pos rfl]; rfl⟩
 have hk2 : qa H1 (H1.push ⟨bkV (q.1,tk,true),.rw,3⟩) := (qa.refl H1).push _
 have hB2 : BkAt (H1.push ⟨bkV (q.1,tk,true),.rw,3⟩) H.size q := hBk.keep (hk2.2 _ hsz)
 generalize H1.push ⟨bkV (q.1,tk,true),.rw,3⟩ = H2 at *
 simp only [hB2.c1,hB2.c0,qf,qi,decide_eq_true_eq]
 by_cases hc : tk < q.2.1
 ·rw [if_pos hc] at h ⊢
  refine ⟨rfl,?_⟩
  rw [qp,qg (n := q.1 + tk) (by omega) (by omega),qg (n := q.2.1 - tk) (by omega) (by omega)]
  have e2 : [qlI .i64 (q.1 + tk),qlI .i64 (q.2.1 - tk),Value.bool false] = bkV (q.1 + tk,q.2.1 - tk,false) := rfl
  rw [e2]
  refine qbB (H0 := H1) (B := H1.size) bkV_len (bkV_ok _) hO (qlS _) hk2.1 hk2 (by simp [lim]) ?_
  intro s' H' hO' hk' _ _
  exact h _ _ (hk.trans hk') (qbO hO' hk.1)
 ·rw [if_neg hc] at h ⊢
  exact h _ _ (hk.trans hk2) (qbO hO hk.1)
end
section
variable {H : AH}
theorem qf1 (a b : Int) {j : Nat} (hj : 1 ≤ j) : (carveTo a b j).length = j := by unfold carveTo; simp; omega
theorem qaj.s {x0 : Sl} {need words : Int} {l : List Bk} {i : Nat} {k : Sl → AH → Prop} (hr : ql5 H x0 3 bkV l) (hB : MayB l words) (hi : i < l.length) (hu : (bkAt l i).2.2 = false) (hn : 2 ≤ need ∧ need ≤ (bkAt l i).2.1)
  (h : ∀ s H',qa H H' → Own H.size H' s 2 eU (carveE (bkAt l i) need) → k s H') : qaj x0 (i : Int) need H k := by
 have hgi := qaW hi
 have hm := hB.mem (qlX hgi)
 have hlen := hB.len
 refine qaj.link ?_
 unfold qaj.b
 refine qbf.s hr hB hi hu hn ?_
 intro s14 H14 hk14 hO14
 rw [qid] at h
 have hR := hO14.rows bkV_len bkV_ok
 generalize bkAt l i = q at *
 have htk : 2 ≤ takesN q.2.1 need ∧ takesN q.2.1 need ≤ q.2.1 := by
  unfold takesN; rw [if_pos ⟨hn.1,hn.2⟩]; split <;> omega
 have htok : ∀ b ∈ takenL q need,0 ≤ b.1 ∧ b.1 ≤ 1000 ∧ 1 ≤ b.2.1 ∧ b.2.1 ≤ 512 := by
  intro b hb
  unfold takenL at hb
  rw [ql6] at hb
  rcases hb with rfl | hb
  ·simp only; omega
  ·split at hb
   ·simp at hb; subst hb; simp only; omega
   ·cases hb
 have htl : (takenL q need).length ≤ 2 := by unfold takenL; split <;> simp
 have eOl : ∀ b ∈ takenL q need,(eOf b).length ≤ 512 := by
  intro b hb
  have := htok b hb
  unfold eOf preE
  split
  ·rw [qf1 _ _ (by omega)]; omega
  ·simp
 generalize takenL q need = tl at *
 have accl : ∀ j,j ≤ tl.length → ((tl.take j).flatMap eOf).length ≤ 512 * j := by
  intro j
  induction j with
  | zero => intro _; simp
  | succ j ih =>
   intro hj
   have := ih (by omega)
   rw [qm6,qlK (by omega),qnl,qmP,ql7]
   have := eOl _ (ql1 (show j < tl.length by omega))
   simp only [qmn,List.flatMap_nil,List.append_nil]; omega
 refine qI (t := ((⟨none,0,0⟩,(0 : Int)) : Sl × Int)) (I := fun (t : Sl × Int) H' => ∃ j : Nat,t.2 = (j : Int) ∧ j ≤ tl.length ∧ qa H14 H' ∧ Own H14.size H' t.1 2 eU ((tl.take j).flatMap eOf)) (m := fun (t : Sl × Int) _ => qlQ ((tl.length : Int) - t.2)) ?_ ⟨0,rfl,by omega,qa.refl _,.inl ⟨rfl,by simp⟩⟩
 intro t H1 hI it hit
 obtain ⟨s,t2⟩ := t
 obtain ⟨j,e1,hj,hk,hO⟩ := hI
 simp only at e1 hO
 subst e1
 unfold qaj.l3
 simp only [qi,decide_eq_true_eq,hR.1]
 by_cases hlt : (j : Int) < (tl.length : Int)
 ·rw [if_pos hlt]
  have hj' : j < tl.length := by omega
  obtain ⟨b,o,ha,hb,hcells⟩ := qas (hR.keep hk) (by omega)
  refine ⟨by omega,?_⟩
  have hg := qlK hj'
  obtain ⟨hrow,_⟩ := hcells j _ hg
  rw [ha,qd,qlP,ql hrow]
  have hq := htok _ (ql1 hj')
  have hacc := accl j (by omega)
  have hnext : (tl.take (j + 1)).flatMap eOf = (tl.take j).flatMap eOf ++ eOf tl[j] := by
   rw [qm6,hg,qnl,qmP]; simp
  generalize tl[j] = c at *
  generalize (tl.take j).flatMap eOf = acc at *
  refine qbW (n := 3) rfl (bkV_len c) (bkV_ok c) ?_
  have hC : BkAt (H1.push ⟨bkV c,.rw,0⟩) H1.size c := BkAt.new
  have hk2 : qa H14 (H1.push ⟨bkV c,.rw,0⟩) := hk.push _
  have hkk : qa H1 (H1.push ⟨bkV c,.rw,0⟩) := (qa.refl H1).push _
  have hsz : H1.size < (H1.push ⟨bkV c,.rw,0⟩).size := by simp [qe]
  have hO2 : Own H14.size (H1.push ⟨bkV c,.rw,0⟩) s 2 eU acc := hO.keep hkk.1 (fun b _ hb => hkk.2 _ hb)
  have hs1 : ∀ a,s.a = some a → a.block < H1.size := by
   intro a ha'
   rcases hO with ⟨rfl,_⟩ | ⟨b',rfl,_,h2,_⟩
   ·cases ha'
   ·simp at ha'; subst ha'; exact h2
  generalize hoo : H1.size = oc at *
  generalize H1.push ⟨bkV c,.rw,0⟩ = H2 at *
  simp only [hC.c0,hC.c1,hC.c2,qf,qbi]
  refine qbU.s ⟨hC.c0,rfl,?_⟩
  rw [qp]
  have e1 : [qlI .i64 c.1,qlI .u64 (wordN c.2.1 c.2.2)] = eU (c.1,wordN c.2.1 c.2.2) := rfl
  rw [e1]
  have hpre1 : preE c 1 = [(c.1,wordN c.2.1 c.2.2)] := by
   unfold preE
   by_cases hu : c.2.2 = true
   ·rw [if_pos hu,hu]; rfl
   ·rw [if_neg hu]
    have : c.2.2 = false := by simpa using hu
    rw [this]
  refine qbB (H0 := H14) (B := H14.size) eU_len (eU_ok _) hO2 (qlS _) hk2.1 hk2 (by simp only [lim]; omega) ?_
  intro s30 H30 hO30 hk30 hsz30 hold30
  rw [← hpre1] at hO30
  have hC30 : BkAt H30 oc c := hC.keep (hold30 _ hsz (fun a ha' => by have := hs1 a ha'; omega))
  have hwi : qlJ .i64 ((j : Int) + 1) = ((j + 1 : Nat) : Int) := by rw [qg (by omega) (by omega)]; omega
  have fin : ∀ s' H',qa H14 H' → Own H14.size H' s' 2 eU (acc ++ eOf c) → it (s',((j + 1 : Nat) : Int)) H' := by
   intro s' H' hk' hO'
   rw [← hnext] at hO'
   exact hit _ _ ⟨j + 1,rfl,by omega,hk',hO'⟩ (by simp only; omega)
  refine qI (t := ((s30,(1 : Int)) : Sl × Int)) (I := fun (t : Sl × Int) H' => ∃ m : Nat,t.2 = (m : Int) ∧ 1 ≤ m ∧ (m : Int) ≤ c.2.1 ∧ qa H14 H' ∧ BkAt H' oc c ∧ Own H14.size H' t.1 2 eU (acc ++ preE c m) ∧ oc < H'.size ∧ (∀ a,t.1.a = some a → a.block ≠ oc)) (m := fun (t : Sl × Int) _ => qlQ (c.2.1 - t.2)) ?_ ⟨1,rfl,by omega,by omega,hk30,hC30,hO30,by omega,?_⟩
  rotate_left 1
  ·intro a ha' hab
   rcases hO30 with ⟨e,_⟩ | ⟨b',e,_,h2,h3⟩
   ·simp only at ha'; rw [e] at ha'; cases ha'
   ·simp only at ha'; rw [e] at ha'; simp at ha'; subst ha'
    simp only at hab; subst hab
    obtain ⟨e',he'⟩ := hC30
    rw [he'] at h3
    injection h3 with h3
    have := congrArg qlY h3
    rw [bkV_len] at this
    simp only [qmP,ql7] at this
    have e4 : ∀ l : List (Int × Int),(l.flatMap eU).length = 2 * l.length := by
     intro l; induction l with
     | nil => rfl
     | cons a r ih => rw [qmn,ql7,ih,eU_len]; simp; omega
    rw [e4,e4] at this; omega
  intro t3 H3 hI3 it3 hit3
  obtain ⟨s3,m3⟩ := t3
  obtain ⟨m,e3,hm1,hm2,hk3,hC3,hO3,hsz3,hne3⟩ := hI3
  simp only at e3 hO3 hne3
  subst e3
  unfold qaj.l2
  simp only [hC3.c1,hC3.c2,qf,qbi,qi,decide_eq_true_eq]
  have hpl : (preE c m).length ≤ 512 := by
   unfold preE; split
   ·rw [qf1 _ _ hm1]; omega
   ·simp
  have stop : ((m : Int) = c.2.1 ∨ c.2.2 = false) → qaj.j1 (s,(j : Int)) it oc (s3,(m : Int)) it3 H3 false := by
   intro hh
   unfold qaj.j1
   rw [qc,hwi]
   refine fin _ _ hk3 ?_
   have : eOf c = preE c m := by
    unfold eOf
    rcases hh with hh | hh
    ·rw [← hh,qlP]
    ·unfold preE; rw [if_neg (by simp [hh]),if_neg (by simp [hh])]
   rw [this]; exact hO3
  by_cases hml : (m : Int) < c.2.1
  ·rw [if_pos hml]
   by_cases hu : c.2.2 = true
   ·rw [hu]
    unfold qaj.j1
    rw [qj,hC3.c0,qf]
    refine ⟨rfl,?_⟩
    rw [qp,qg (n := c.1 + (m : Int)) (by omega) (by omega),qg (n := (m : Int) + 1) (by omega) (by omega)]
    have e4 : [qlI .i64 (c.1 + (m : Int)),qlI .u64 0] = eU (c.1 + (m : Int),0) := rfl
    rw [e4]
    refine qbB (H0 := H14) (B := H14.size) eU_len (eU_ok _) hO3 (qlS _) hk3.1 hk3 (by rw [ql7]; simp only [lim]; omega) ?_
    intro s' H' hO' hk' hsz' hold'
    have hpre : preE c m ++ [(c.1 + (m : Int),0)] = preE c (m + 1) := by
     unfold preE
     rw [if_pos hu,if_pos hu,qfq _ _ hm1]
    rw [List.append_assoc,hpre] at hO'
    have hC' : BkAt H' oc c := hC3.keep (hold' _ hsz3 (fun a ha' => fun hh => hne3 a ha' hh.symm))
    refine hit3 _ _ ⟨m + 1,by simp,by omega,by omega,hk',hC',hO',by omega,?_⟩ (by simp only; omega)
    intro a ha' hab
    rcases hO' with ⟨e,_⟩ | ⟨b',e,_,h2,h3⟩
    ·simp only at ha'; rw [e] at ha'; cases ha'
    ·simp only at ha'; rw [e] at ha'; simp at ha'; subst ha'
     simp only at hab; subst hab
     obtain ⟨e',he'⟩ := hC'
     rw [he'] at h3
     injection h3 with h3
     have := congrArg qlY h3
     rw [bkV_len] at this
     have e4 : ∀ l : List (Int × Int),(l.flatMap eU).length = 2 * l.length := by
      intro l; induction l with
      | nil => rfl
      | cons a r ih => rw [qmn,ql7,ih,eU_len]; simp; omega
     rw [e4] at this; omega
   ·have hu' : c.2.2 = false := by simpa using hu
    rw [hu']; exact stop (.inr hu')
  ·rw [if_neg hml]; exact stop (.inl (by omega))
 ·rw [if_neg hlt]
  have : j = tl.length := by omega
  subst this
  rw [qmI] at hO
  exact h _ _ (hk14.trans hk) (qbO hO hk14.1)
end
section
variable {H : AH}
theorem qD.s0 {x0 : Sl} {words i : Int} {l : List Bk} {k : Int → Int → Bool → AH → Prop} (hr : ql5 H x0 3 bkV l) (hB : MayB l words) (hi : i < 0) (h : k 0 0 false H) : qD x0 i H k := by
 have hlen := hB.len
 refine qD.link ?_
 unfold qD.b
 refine qax.s hr (by omega) hB.mays (fun j hj => hB.sum hj) ?_
 rw [hB.tot]
 refine qaf.s hr (by omega) (fun b hb => by have := hB.mem hb; omega) (by have := hB.1; unfold mayW at this; omega) ?_
 rw [decide_eq_true hB,qmm,qc,decide_eq_true hi,qj]
 unfold qD.j4
 rw [qj]
 exact h
theorem qD.s {x0 : Sl} {words : Int} {l : List Bk} {i : Nat} {k : Int → Int → Bool → AH → Prop} (hr : ql5 H x0 3 bkV l) (hB : MayB l words) (hi : i < l.length) (hu : (bkAt l i).2.2 = true)
  (h : k (mFrom l i : Nat) (mTo l i : Nat) true H) : qD x0 (i : Int) H k := by
 have hlen := hB.len
 have hgi := qaW hi
 refine qD.link ?_
 unfold qD.b
 refine qax.s hr (by omega) hB.mays (fun j hj => hB.sum hj) ?_
 rw [hB.tot]
 refine qaf.s hr (by omega) (fun b hb => by have := hB.mem hb; omega) (by have := hB.1; unfold mayW at this; omega) ?_
 rw [decide_eq_true hB,qmm,qc]
 obtain ⟨b,o,ha,hb,hcells⟩ := qas hr (by omega)
 have hcell : ∀ j,j < l.length → ∀ t v,(bkV (bkAt l j))[t]? = some v → AH.cell? H (qlL (qlL ⟨b,o,none⟩ (j * 3)) t) = some v := fun j hj => (hcells j _ (qaW hj)).2
 have hti : qlQ (i : Int) = i := qlP i
 simp only [qi,decide_eq_true_eq,hr.1,ha,qd,hti,hcell i hi 2 _ rfl,qbi]
 rw [if_neg (by omega),if_neg (by omega)]
 refine ⟨by omega,?_⟩
 rw [hu]
 unfold qD.j4
 rw [qmm,qc]
 have hw1 : qlJ .i64 ((i : Int) + 1) = ((i + 1 : Nat) : Int) := by rw [qg (by omega) (by omega)]; omega
 have hw2 : qlJ .i64 (((i + 1 : Nat) : Int) + 1) = ((i + 2 : Nat) : Int) := by rw [qg (by omega) (by omega)]; omega
 have j2 : qD.j2 x0 (i : Int) k H (mFrom l i : Nat) := by
  unfold qD.j2
  simp only [qi,decide_eq_true_eq,hr.1,ha,qd,hw1,qlP]
  have j1 : ∀ x : Bool,(x = true ↔ (i + 1 < l.length ∧ (bkAt l (i + 1)).2.2 = false)) → qD.j1 (i : Int) k H (mFrom l i : Nat) x := by
   intro x hx
   unfold qD.j1
   rw [hw1,hw2,qi]
   unfold mTo at h
   by_cases hx' : x = true
   ·rw [if_pos hx']; rw [if_pos (hx.1 hx')] at h; exact h
   ·rw [if_neg hx']; rw [if_neg (fun hh => hx' (hx.2 hh))] at h; exact h
  by_cases hc : ((i + 1 : Nat) : Int) < (l.length : Int)
  ·rw [if_pos hc]
   refine ⟨by omega,?_⟩
   rw [hcell (i + 1) (by omega) 2 _ rfl,qbi]
   refine j1 _ ?_
   simp
   omega
  ·rw [if_neg hc]
   exact j1 false ⟨fun hh => (by cases hh),fun hh => by omega⟩
 have j3 : ∀ x : Bool,(x = true ↔ (0 < i ∧ (bkAt l (i - 1)).2.2 = false)) → qD.j3 x0 (i : Int) k H x := by
  intro x hx
  unfold qD.j3
  rw [qi]
  unfold mFrom at j2
  by_cases hx' : x = true
  ·rw [if_pos hx']
   have := hx.1 hx'
   rw [if_pos this] at j2
   rw [qg (n := (i : Int) - 1) (by omega) (by omega),show (i : Int) - 1 = ((i - 1 : Nat) : Int) by omega]
   exact j2
  ·rw [if_neg hx']
   rw [if_neg (fun hh => hx' (hx.2 hh))] at j2
   exact j2
 simp only [qi,decide_eq_true_eq,hr.1,ha,qd]
 by_cases hc : (i : Int) > 0
 ·rw [if_pos hc,qg (n := (i : Int) - 1) (by omega) (by omega),show (i : Int) - 1 = ((i - 1 : Nat) : Int) by omega,qlP]
  refine ⟨by omega,?_⟩
  rw [hcell (i - 1) (by omega) 2 _ rfl,qbi]
  refine j3 _ ?_
  simp
  omega
 ·rw [if_neg hc]
  exact j3 false ⟨fun hh => (by cases hh),fun hh => by omega⟩
def mEdit (l : List Bk) (i : Nat) : Int × Int := ((bkAt l (mFrom l i)).1,wordN (sumTo l (mFrom l i) (mTo l i - mFrom l i)) false)
theorem qbl.s0 {x0 : Sl} {words i : Int} {l : List Bk} {k : List Value → Bool → AH → Prop} (hr : ql5 H x0 3 bkV l) (hB : MayB l words) (hi : i < 0) (h : ∀ H',qa H H' → k (eU (0,0)) false H') : qbl x0 i H k := by
 refine qbl.link ?_
 unfold qbl.b
 rw [qp]
 have hk : qa H (H.push ⟨[qlI .i64 0,qlI .u64 0],.rw,0⟩) := (qa.refl H).push _
 refine qD.s0 (hr.keep hk) hB hi ?_
 rw [qmp,qj]
 refine ⟨⟨rfl,rfl⟩,?_⟩
 rw [qaQ]
 refine ⟨qcC.2 (by simp),?_⟩
 rw [qdq]
 have e1 : setMany [qlI .i64 0,qlI .u64 0] 0 [qlI .i64 0,qlI .u64 0] = eU (0,0) := rfl
 rw [e1]
 rw [ql (cs := eU (0,0)) (by simp [AH.row?,qm,eU,qo])]
 exact h _ ((qa.refl H).push _)
theorem qbl.s {x0 : Sl} {words : Int} {l : List Bk} {i : Nat} {k : List Value → Bool → AH → Prop} (hr : ql5 H x0 3 bkV l) (hB : MayB l words) (hi : i < l.length) (hu : (bkAt l i).2.2 = true)
  (h : ∀ H',qa H H' → k (eU (mEdit l i)) true H') : qbl x0 (i : Int) H k := by
 have hlen := hB.len
 refine qbl.link ?_
 unfold qbl.b
 rw [qp]
 have hk : qa H (H.push ⟨[qlI .i64 0,qlI .u64 0],.rw,0⟩) := (qa.refl H).push _
 have hr1 := hr.keep hk
 refine qD.s hr1 hB hi hu ?_
 rw [qmm,qc,hr.1]
 have hF : mFrom l i ≤ i := by unfold mFrom; split <;> omega
 have hT : i < mTo l i ∧ mTo l i ≤ i + 2 ∧ mTo l i ≤ l.length := by unfold mTo; split <;> omega
 refine ⟨by omega,?_⟩
 obtain ⟨b,o,ha,hb,hcells⟩ := qas hr1 (by omega)
 have c0 := (hcells (mFrom l i) _ (qaW (by omega))).2 0 _ rfl
 rw [ha,qd,qlP,c0,qf]
 refine ⟨by omega,?_⟩
 have hpart := qjm l (F := mFrom l i) (n := mTo l i - mFrom l i) (by omega)
 have hlp : ((l.drop (mFrom l i)).take (mTo l i - mFrom l i)).length = mTo l i - mFrom l i := by simp; omega
 have rp := qeY (qd7 hr1 (k := mFrom l i) (by omega)) (k := mTo l i - mFrom l i) (by simp; omega)
 rw [ha] at rp
 simp only [qmi] at rp ⊢
 rw [show (qlQ ((mTo l i : Nat) : Int) - mFrom l i) = mTo l i - mFrom l i by rw [qlP]]
 refine qax.s rp (by omega) (fun b hb => hB.mays b (List.mem_of_mem_drop (List.mem_of_mem_take hb))) ?_ ?_
 ·intro j hj
  rw [hlp] at hj
  rw [hpart j hj]
  have h1 := qj3 l (mFrom l i) j
  have h2 := hB.sum (j := mFrom l i + j) (by omega)
  have h3 := hB.sum (j := mFrom l i) (by omega)
  have h4 : ∀ j,j ≤ mTo l i - mFrom l i → 0 ≤ sumTo l (mFrom l i) j := by
   intro j
   induction j with
   | zero => intro _; simp [sumTo]
   | succ j ih =>
    intro hj
    have := ih (by omega)
    have := hB.mem (qlX (qaW (l := l) (i := mFrom l i + j) (by omega)))
    simp only [sumTo]; omega
  have := h4 j hj
  omega
 rw [hlp,hpart _ (qlS _)]
 refine ⟨c0,?_⟩
 refine qbU.s ⟨c0,⟨rfl,rfl⟩,?_⟩
 rw [qaQ]
 refine ⟨qcC.2 (by simp),?_⟩
 rw [qdq]
 have e1 : setMany [qlI .i64 0,qlI .u64 0] 0 [qlI .i64 (bkAt l (mFrom l i)).1,qlI .u64 (wordN (sumTo l (mFrom l i) (mTo l i - mFrom l i)) false)] = eU (mEdit l i) := rfl
 rw [e1]
 rw [ql (cs := eU (mEdit l i)) (by simp [AH.row?,qm,eU,qo])]
 exact h _ ((qa.refl H).push _)
theorem qcE.s {x0 : Sl} {off : Int} {ws : List Int} {k : Sl → Int → AH → Prop} (hr : ql5 H x0 1 wU ws) (h64 : qaI ws) (hl : ws.length ≤ 1000)
  (h : ∀ s H',qa H H' → Own H.size H' s 2 eU (imgFree ws off).1 → k s (imgFree ws off).2 H') : qcE x0 off H k := by
 refine qcE.link ?_
 unfold qcE.b
 unfold imgFree at h
 refine qcg.s hr h64 hl ?_ ?_
 rotate_left 1
 ·intro hb H' hk
  rw [hb] at h
  rw [show ((((0 : Nat) : Int)) == (0 : Int)) = true from rfl,qj]
  exact h _ _ hk (.inl ⟨rfl,rfl⟩)
 intro l hb s12 H12 hk12 hO12
 rw [hb] at h
 simp only at h
 have hB := qbu hb
 have hlen := hB.len
 have hR := hO12.rows bkV_len bkV_ok
 have hlp : 0 < l.length := by
  cases l with
  | nil => have h1 := hB.1.1; have h2 := hB.2; simp only [chainB] at h2; omega
  | cons a r => simp
 rw [hR.1,show (((l.length : Nat) : Int) == (0 : Int)) = false by simpa using (show l.length ≠ 0 by omega),qc]
 have fin : ∀ (v : Int × Int) (H22 : AH),qa H12 H22 → ∀ bb : Bool,(bb = false → k ⟨none,0,0⟩ 1 (H22.push ⟨eU v,.rw,0⟩)) → (bb = true → ∀ s H',qa H H' → Own H.size H' s 2 eU [v] → k s 0 H') →
   newC H22 ⟨[(qlI .i64 (0 : Int)),(qlI .u64 (0 : Int))],.rw,0⟩ fun o8 H8 => (qlY (eU v) = 2 ∧ qmq (eU v) qo = true) ∧ stC H8 ⟨o8,0,none⟩ (eU v) fun Hs2 => bcase (!bb) (k ⟨none,0,0⟩ (1 : Int) Hs2) (ldA Hs2 ⟨o8,0,none⟩ 2 fun c27 => (qlY c27 = 2) ∧ newC Hs2 ⟨(setMany [(qlI .i64 (0 : Int)),(qlI .u64 (0 : Int))] 0 c27),.rw,2⟩ fun o28 H28 => k ⟨(some ⟨o28,0,none⟩),1,1⟩ (0 : Int) H28) := by
  intro v H22 hk22 bb hf ht
  refine qbW (n := 2) rfl (eU_len v) (eU_ok v) ?_
  cases bb with
  | false => exact hf rfl
  | true =>
   rw [qmm,qc,ql (cs := eU v) (by simp [AH.row?,qm,eU,qo])]
   refine ⟨rfl,?_⟩
   rw [qp]
   have e1 : setMany [qlI .i64 0,qlI .u64 0] 0 (eU v) = eU v := rfl
   rw [e1]
   have hk2 := ((hk12.trans hk22).push ⟨eU v,.rw,0⟩)
   exact ht rfl _ _ (hk2.push _) (.inr ⟨_,rfl,hk2.1,by simp [qe],by rw [qm,if_pos rfl]; simp⟩)
 rcases qd4 off l 0 with hc | ⟨i,hc,hi,hu,ho⟩
 ·rw [hc] at h ⊢
  rw [if_pos (by omega)] at h
  refine qbl.s0 hR hB (by omega) ?_
  intro H22 hk22
  exact fin (0,0) H22 hk22 false (fun _ => h _ _ ((hk12.trans hk22).push _) (.inl ⟨rfl,rfl⟩)) (fun hh => by cases hh)
 rw [ql3] at hc
 rw [hc] at h ⊢
 rw [if_neg (by omega),qlP] at h
 refine qbl.s hR hB hi hu ?_
 intro H22 hk22
 exact fin (mEdit l i) H22 hk22 true (fun hh => by cases hh) (fun _ s H' a b => h s H' a b)
theorem qb4.s {x0 x2 : Sl} {n : Int} {ws cs : List Int} {k : Sl → Int → Int → AH → Prop} (hr : ql5 H x0 1 wU ws) (h64 : qaI ws) (hl : ws.length ≤ 1000) (hn : isI n) (hcs : ql5 H x2 1 iV cs)
  (h : ∀ s H',qa H H' → Own H.size H' s 2 eU (imgAlloc ws n cs).1 → k s (imgAlloc ws n cs).2.1 (imgAlloc ws n cs).2.2 H') : qb4 x0 n x2 H k := by
 refine qb4.link ?_
 unfold qb4.b
 unfold imgAlloc at h
 refine qbj.s hn ?_
 rw [qi]
 by_cases h0 : needN n = 0
 ·rw [if_pos (by simpa using h0)]
  rw [if_pos h0] at h
  exact h _ _ (qa.refl H) (.inl ⟨rfl,rfl⟩)
 rw [if_neg (by simpa using h0)]
 rw [if_neg h0] at h
 refine qO.s hr h64 hl ?_ ?_
 rotate_left 1
 ·intro hb H' hk
  rw [hb] at h
  rw [qmp,qj]
  exact h _ _ hk (.inl ⟨rfl,rfl⟩)
 intro l hb s17 H17 hk17 hO17
 rw [hb] at h
 rw [qmm,qc]
 simp only at h
 have hB := qbu hb
 have hlen := hB.len
 have hR := hO17.rows bkV_len bkV_ok
 refine qaP.s hR (by omega) (fun b hb => by have := hB.mem hb; omega) (hcs.keep hk17) ?_
 simp only [qi,decide_eq_true_eq]
 rcases qeN (l := l) (need := needN n) (cs := cs) with hc | ⟨i,hc,hi,hu,hn1,hn2⟩
 ·rw [if_pos (by omega)]
  rw [if_pos (by omega)] at h
  exact h _ _ hk17 (.inl ⟨rfl,rfl⟩)
 rw [if_neg (by omega)]
 rw [if_neg (by omega)] at h
 rw [hc,qlP] at h ⊢
 rw [hR.1]
 refine ⟨by omega,?_⟩
 obtain ⟨b,o,ha,hbz,hcells⟩ := qas hR (by omega)
 have hrow := (hcells i _ (qaW hi)).1
 rw [ha,qd,ql hrow]
 refine qaj.s hR hB hi hu ⟨hn2,hn1⟩ ?_
 intro s33 H33 hk33 hO33
 refine ⟨?_,?_⟩
 ·rw [qk] at hrow ⊢
  rw [← hrow]
  simp only [AH.row?,hk33.2 b hbz]
 refine qba.s ?_
 exact h _ _ (hk17.trans hk33) (qbO hO33 hk17.1)
end
def inc (n : Int) : Int := qlJ .i64 (n + 1)
def u64V (n : Int) : Value := .int .u64 n
def i64V (n : Int) : Value := .int .i64 n
def mbit (mask : Int) (i : Nat) : Bool := decide (mask / 2 ^ i % 2 = 1)
def mixL (old now : List Int) (mask : Int) : List Int := (qmA 8).map fun i => if mbit mask i then now.getD i 0 else old.getD i 0
structure Cl where
 line : List Int
 wear : Int
 limit : Int
structure Mem where
 cs : List Cl
 regs : List Int
 writes : Int
 cut : Int
 mask : Int
 down : Bool
def isLine (l : List Int) : Prop := l.length = 8 ∧ ∀ v ∈ l,isU v
structure Mem.ok (M : Mem) : Prop where
 lines : ∀ c ∈ M.cs,isLine c.line
 regs : M.regs.length = 35
 regU : ∀ v ∈ M.regs,isU v
 len : M.cs.length ≤ 200
 cut : -1 ≤ M.cut ∧ M.cut ≤ 9223372036854775807
def Mem.has (M : Mem) (i : Int) : Prop := 0 ≤ i ∧ i < M.cs.length
instance (M : Mem) (i : Int) : Decidable (M.has i) := by unfold Mem.has; infer_instance
def Mem.wr (M : Mem) : Mem :=
 if M.cut = 0 then { M with writes := inc M.writes,down := true }
 else if 0 < M.cut then { M with writes := inc M.writes,cut := M.cut - 1 }
 else { M with writes := inc M.writes }
def Mem.wmask (M : Mem) : Int := if M.cut = 0 then M.mask else -1
def Mem.told (M : Mem) (worn : Bool) : Int := if M.down then 2 else if worn then 3 else 0
def Cl.worn (c : Cl) : Bool := decide (0 ≤ c.limit) && decide (c.limit ≤ c.wear)
def Mem.cl (M : Mem) (i : Nat) : Cl := M.cs.getD i ⟨[],0,0⟩
def Mem.setc (M : Mem) (i : Nat) (c : Cl) : Mem := { M with cs := M.cs.set i c }
def Mem.put (M : Mem) (i : Int) (l : List Int) : Mem × Int :=
 if M.has i then
  if M.down then (M,2) else
  let c := M.cl i.toNat
  if c.worn then (M.wr,M.wr.told true)
  else (M.wr.setc i.toNat ⟨mixL c.line l M.wmask,inc c.wear,c.limit⟩,M.wr.told false)
 else (M,1)
def Mem.get (M : Mem) (i : Int) : List Int × Int :=
 if M.has i then if M.down then (qlN 8 0,2) else ((M.cl i.toNat).line,0) else (qlN 8 0,1)
def regIn (i : Int) : Prop := 0 ≤ i ∧ i < 35
instance (i : Int) : Decidable (regIn i) := by unfold regIn; infer_instance
def Mem.reg (M : Mem) (i : Int) : Int × Int :=
 if regIn i then if M.down then (0,2) else (M.regs.getD i.toNat 0,0) else (0,1)
def Mem.set (M : Mem) (i v : Int) : Mem × Int :=
 if regIn i then
  if M.down then (M,2) else
  ((if mbit M.wmask 0 then { M.wr with regs := M.regs.set i.toNat v } else M.wr),M.wr.told false)
 else (M,1)
def Mem.setCut (M : Mem) (n mask : Int) : Mem := { M with cut := max n (-1),mask := mask }
def Mem.power (M : Mem) : Mem := { M with cut := -1,down := false }
def Mem.new (n : Nat) (limits : List Int) : Mem :=
 { cs := (qmA n).map fun i => ⟨qlN 8 0,0,limits.getD i (-1)⟩,regs := qlN 35 0,writes := 0,cut := -1,mask := 0,down := false }
def lineV (l : List Int) : List Value := l.map u64V
def clV (c : Cl) : List Value := lineV c.line ++ [i64V c.wear,i64V c.limit]
def memObj (c : Nat) (M : Mem) : AObj :=
 ⟨[.slice (some ⟨c,0,none⟩) M.cs.length 1] ++ lineV M.regs ++ [i64V M.writes,i64V M.cut,i64V M.mask,.bool M.down],.rw,0⟩
def celObj (M : Mem) : AObj := ⟨M.cs.flatMap clV,.rw,10⟩
structure qC (H : AH) (p c : Nat) (M : Mem) : Prop where
 hp : H.get p = memObj c M
 hc : H.get c = celObj M
 ne : c ≠ p
 lp : p < H.size
 lc : c < H.size
 ok : M.ok
def setM (H : AH) (p c : Nat) (M : Mem) : AH := (H.upd c (celObj M)).upd p (memObj c M)
section
variable {H : AH} {p c : Nat} {M M' : Mem}
theorem qcJ (b : Nat) : (setM H p c M).get b = if b = p then memObj c M else if b = c then celObj M else H.get b := rfl
theorem qc4 {b : Nat} (h : b ≠ p) (h' : b ≠ c) : (setM H p c M).get b = H.get b := by rw [qcJ,if_neg h,if_neg h']
theorem qC.set (h : qC H p c M) (hok : M'.ok) : qC (setM H p c M') p c M' :=
 ⟨by rw [qcJ,if_pos rfl],by rw [qcJ,if_neg h.ne,if_pos rfl],h.ne,h.lp,h.lc,hok⟩
theorem qC.same (h : qC H p c M) : setM H p c M = H := by
 refine AH.ext' rfl fun b => ?_
 rw [qcJ]
 split
 ·rename_i e; rw [e,h.hp]
 ·split
  ·rename_i e; rw [e,h.hc]
  ·rfl
theorem qcI : setM (setM H p c M) p c M' = setM H p c M' := by
 refine AH.ext' rfl fun b => ?_
 simp only [qcJ]
 split
 ·rfl
 ·split <;> rfl
theorem qC.keep {H' : AH} (h : qC H p c M) (hs : H.size ≤ H'.size) (h1 : H'.get p = H.get p) (h2 : H'.get c = H.get c) : qC H' p c M :=
 ⟨by rw [h1,h.hp],by rw [h2,h.hc],h.ne,by have := h.lp; omega,by have := h.lc; omega,h.ok⟩
theorem qC.keeps {H' : AH} (h : qC H p c M) (hk : qa H H') : qC H' p c M := h.keep hk.1 (hk.2 _ h.lp) (hk.2 _ h.lc)
theorem qC.push (h : qC H p c M) (o : AObj) : qC (H.push o) p c M := h.keeps ((qa.refl H).push o)
theorem qgm (l : List Int) : (lineV l).all flatC = true := by simp [lineV,u64V,flatC]
theorem qik {n : Nat} {v : Value} (h : flatC v = true) : lowV n v = true := by
 unfold lowV
 split
 ·simp [flatC] at h
 ·rename_i b o m k
  unfold flatC at h
  split at h <;> first | (rename_i heq; cases heq; done) | cases h
 ·exact h
theorem qC.at {H' : AH} (h : qC H p c M) (hk : ∀ b,b < H.size → H'.get b = (setM H p c M').get b) : At H H' (setM H p c M') := by
 refine ⟨rfl,hk,fun b hb => ?_,fun b hb => ?_⟩
 ·rw [qc4 (by have := h.lp; omega) (by have := h.lc; omega)]
 ·rw [qcJ]
  split
  ·right
   simp only [memObj,List.all_append,Bool.and_eq_true]
   refine ⟨⟨by simp [lowV,h.lc],?_⟩,by simp [lowV,flatC,i64V]⟩
   exact List.all_eq_true.2 fun v hv => qik (List.all_eq_true.1 (qgm _) v hv)
  ·split
   ·right
    refine List.all_eq_true.2 fun v hv => qik ?_
    simp only [celObj,List.mem_flatMap,clV] at hv
    obtain ⟨x,_,hv⟩ := hv
    rcases List.mem_append.1 hv with hv | hv
    ·exact List.all_eq_true.1 (qgm _) v hv
    ·simp at hv; rcases hv with rfl | rfl <;> rfl
   ·exact .inl rfl
theorem qkk : (memObj c M).md = .rw := rfl
theorem qC.cell (h : qC H p c M) (i : Nat) : AH.cell? H ⟨p,i,none⟩ = (memObj c M).cells[i]? := by
 simp only [AH.cell?,h.hp,ql4,qlU,if_false]
 rw [if_neg (by simp [qkk])]
theorem qC.c0 (h : qC H p c M) : AH.cell? H (qlL ⟨p,0,none⟩ 0) = some (.slice (some ⟨c,0,none⟩) M.cs.length 1) := by
 rw [qk,h.cell]
 exact rfl
theorem qC.cr (h : qC H p c M) {i : Nat} (hi : i < 35) : AH.cell? H ⟨p,1 + i,none⟩ = some (.int .u64 (M.regs.getD i 0)) := by
 rw [h.cell]
 have hl : i < M.regs.length := by rw [h.ok.regs]; exact hi
 simp only [memObj,lineV,List.singleton_append]
 rw [Nat.add_comm,qmw,qmC,qmd (by simpa using hl),qlW,qlK hl,qmi,qlM,qlK hl]
 rfl
theorem qeT (hr : M.regs.length = 35) (i : Nat) : (memObj c M).cells[36 + i]? = [i64V M.writes,i64V M.cut,i64V M.mask,.bool M.down][i]? := by
 simp only [memObj,lineV]
 rw [ql8 (by simp [hr] <;> omega)]
 congr 1
 simp [hr]
theorem qC.c36 (h : qC H p c M) : AH.cell? H (qlL ⟨p,0,none⟩ 36) = some (.int .i64 M.writes) := by
 rw [qk,h.cell]; exact qeT h.ok.regs 0
theorem qC.c37 (h : qC H p c M) : AH.cell? H (qlL ⟨p,0,none⟩ 37) = some (.int .i64 M.cut) := by
 rw [qk,h.cell]; exact qeT h.ok.regs 1
theorem qC.c38 (h : qC H p c M) : AH.cell? H (qlL ⟨p,0,none⟩ 38) = some (.int .i64 M.mask) := by
 rw [qk,h.cell]; exact qeT h.ok.regs 2
theorem qC.c39 (h : qC H p c M) : AH.cell? H (qlL ⟨p,0,none⟩ 39) = some (.bool M.down) := by
 rw [qk,h.cell]; exact qeT h.ok.regs 3
theorem mem_len (hr : M.regs.length = 35) : (memObj c M).cells.length = 40 := by simp [memObj,lineV,hr]
theorem qC.can (h : qC H p c M) {i : Nat} (hi : i < 40) : AH.canPut H (qlL ⟨p,0,none⟩ i) 1 := by
 rw [qk]
 exact ⟨rfl,congrArg AObj.md h.hp,by rw [h.hp,mem_len h.ok.regs] <;> simp <;> omega⟩
theorem qdZ (hr : M.regs.length = 35) (i : Nat) (v : Value) (hi : i < 4) :
  (memObj c M).cells.set (36 + i) v = [.slice (some ⟨c,0,none⟩) M.cs.length 1] ++ lineV M.regs ++ [i64V M.writes,i64V M.cut,i64V M.mask,.bool M.down].set i v := by
 simp only [memObj]
 rw [List.set_append_right _ _ (by simp [lineV,hr] <;> omega)]
 congr 2
 simp [lineV,hr]
theorem qC.upd (h : qC H p c M) {i : Nat} {v : Value} (hM : (memObj c M).cells.set i v = (memObj c M').cells) (hcs : celObj M' = celObj M) :
  AH.put H (qlL ⟨p,0,none⟩ i) [v] = setM H p c M' := by
 rw [qk]
 refine AH.ext' rfl fun b => ?_
 simp only [AH.put,qu,qcJ,setMany,ql3]
 split
 ·rw [h.hp,hM]; rfl
 ·split
  ·rename_i e; rw [e,h.hc,hcs]
  ·rfl
theorem qC.p36 (h : qC H p c M) (v : Int) : AH.put H (qlL ⟨p,0,none⟩ 36) [.int .i64 v] = setM H p c { M with writes := v } :=
 h.upd (by rw [qdZ (i := 0) h.ok.regs _ (by omega)]; rfl) rfl
theorem qC.p37 (h : qC H p c M) (v : Int) : AH.put H (qlL ⟨p,0,none⟩ 37) [.int .i64 v] = setM H p c { M with cut := v } :=
 h.upd (by rw [qdZ (i := 1) h.ok.regs _ (by omega)]; rfl) rfl
theorem qC.p38 (h : qC H p c M) (v : Int) : AH.put H (qlL ⟨p,0,none⟩ 38) [.int .i64 v] = setM H p c { M with mask := v } :=
 h.upd (by rw [qdZ (i := 2) h.ok.regs _ (by omega)]; rfl) rfl
theorem qC.p39 (h : qC H p c M) (v : Bool) : AH.put H (qlL ⟨p,0,none⟩ 39) [.bool v] = setM H p c { M with down := v } :=
 h.upd (by rw [qdZ (i := 3) h.ok.regs _ (by omega)]; rfl) rfl
theorem qC.pr (h : qC H p c M) {i : Nat} (hi : i < 35) (v : Int) : AH.put H (qlL ⟨p,0,none⟩ (1 + i)) [.int .u64 v] = setM H p c { M with regs := M.regs.set i v } := by
 refine h.upd ?_ rfl
 have hl : i < M.regs.length := by rw [h.ok.regs]; exact hi
 simp only [memObj,lineV,List.singleton_append,qmw]
 rw [Nat.add_comm,List.set_cons_succ,List.set_append_left _ _ (by simpa using hl),List.map_set]
 rfl
end
section
variable {H : AH} {p c : Nat} {M : Mem} {i : Int}
theorem stC_to {H H' : AH} {a : Addr} {vs : List Value} {k : AH → Prop} (h1 : H.canPut a vs.length) (h2 : H.put a vs = H') (h3 : k H') : stC H a vs k := ⟨h1,by rw [h2]; exact h3⟩
theorem qgk {b i n : Nat} (h : b ≠ p) (h' : b ≠ c) : AH.row? (setM H p c M) ⟨b,i,none⟩ n = AH.row? H ⟨b,i,none⟩ n := by
 simp only [AH.row?,qc4 h h']
theorem cl_get (hi : M.has i) : M.cs[i.toNat]? = some (M.cl i.toNat) := by
 unfold Mem.has at hi
 have hl : i.toNat < M.cs.length := by omega
 unfold Mem.cl
 rw [qlM,qlK hl,qms]
theorem cl_mem (hi : M.has i) : M.cl i.toNat ∈ M.cs := qlX (cl_get hi)
theorem clV_len {x : Cl} (h : isLine x.line) : (clV x).length = 10 := by simp [clV,lineV,h.1]
theorem qet {α : Type} {f : α → List Value} {z : Nat} : ∀ {l : List α},(∀ x ∈ l,(f x).length = z) → (l.flatMap f).length = l.length * z := by
 intro l
 induction l with
 | nil => intro _; simp
 | cons a l ih => intro h; simp [ih (fun x hx => h x (by simp [hx])),h a (by simp),Nat.succ_mul,Nat.add_comm]
theorem qfN {α : Type} {f : α → List Value} {z : Nat} : ∀ {l : List α} (_ : ∀ x ∈ l,(f x).length = z) (i : Nat) (x : α),l[i]? = some x → ((l.flatMap f).drop (i * z)).take z = f x := by
 intro l
 induction l with
 | nil => intro _ i x h; simp at h
 | cons a l ih =>
  intro hf i x h
  cases i with
  | zero =>
   simp only [List.getElem?_cons_zero,qmU] at h
   subst h
   simp only [Nat.zero_mul,qmY,qmn]
   rw [List.take_append_of_le_length (by rw [hf a (by simp)]; exact qlS _),← hf a (by simp),qmI]
  | succ i =>
   simp only [qmC] at h
   rw [← ih (fun x hx => hf x (by simp [hx])) i x h,qmn,Nat.succ_mul,Nat.add_comm,← List.drop_drop]
   congr 2
   rw [← hf a (by simp),List.drop_left]
theorem qiD {α : Type} {f : α → List Value} {z : Nat} {j : Nat} {vs : List Value} (hj : j + vs.length ≤ z) : ∀ {l : List α} (_ : ∀ x ∈ l,(f x).length = z) (i : Nat) (x y : α),l[i]? = some x → f y = setMany (f x) j vs →
  setMany (l.flatMap f) (i * z + j) vs = (l.set i y).flatMap f := by
 intro l hf i x y hx hy
 apply qmc
 intro t
 have hlen := qet hf
 have hlt : i < l.length := (List.getElem?_eq_some_iff.1 hx).1
 have hle : i * z + z ≤ l.length * z := by
  calc i * z + z = (i + 1) * z := by rw [Nat.succ_mul]
   _ ≤ l.length * z := qmZ _ hlt
 have hfy : (f y).length = z := by rw [hy,qdT,hf x (qlX hx)]
 have hf' : ∀ x ∈ l.set i y,(f x).length = z := by
  intro x' hx'
  rcases qmX hx' with h | rfl
  ·exact hf _ h
  ·exact hfy
 rw [qb5 _ _ _ _ (by omega)]
 have cellOf : ∀ {l : List α},(∀ x ∈ l,(f x).length = z) → ∀ q r x,l[q]? = some x → r < z → (l.flatMap f)[q * z + r]? = (f x)[r]? := by
  intro l hl q r x hq hr
  have := qfN hl q x hq
  rw [← this,qmr,if_pos hr,qmo]
 by_cases hz : z = 0
 ·subst hz
  have e1 : (l.flatMap f).length = 0 := by rw [hlen]; omega
  have e2 : ((l.set i y).flatMap f).length = 0 := by rw [qet hf']; omega
  rw [qlR (by omega : ((l.set i y).flatMap f).length ≤ t),qlR (by omega : (l.flatMap f).length ≤ t)]
  rw [if_neg (by omega)]
 ·have ht : t = t / z * z + t % z := by rw [Nat.mul_comm]; exact (Nat.div_add_mod t z).symm
  have hr : t % z < z := Nat.mod_lt _ (by omega)
  generalize t / z = q at ht
  generalize t % z = r at ht hr
  subst ht
  by_cases hq : q < l.length
  ·by_cases hqi : q = i
   ·subst hqi
    rw [cellOf hf' q r y (by rw [qmy hlt]) hr,hy,qb5 _ _ _ _ (by rw [hf x (qlX hx)]; exact hj)]
    by_cases h1 : j ≤ r ∧ r < j + vs.length
    ·rw [if_pos h1,if_pos (by omega)]; congr 1; omega
    ·rw [if_neg h1,if_neg (by omega),cellOf hf q r x hx hr]
   ·have hne : ¬ (i * z + j ≤ q * z + r ∧ q * z + r < i * z + j + vs.length) := by
     intro ⟨h1,h2⟩
     rcases Nat.lt_or_gt_of_ne hqi with h | h
     ·have : (q + 1) * z ≤ i * z := qmZ _ h
      rw [Nat.succ_mul] at this; omega
     ·have : (i + 1) * z ≤ q * z := qmZ _ h
      rw [Nat.succ_mul] at this; omega
    rw [if_neg hne,cellOf hf q r l[q] (qlK hq) hr,cellOf hf' q r l[q] (by rw [qmf (by omega),qlK hq]) hr]
  ·have : l.length * z ≤ q * z := qmZ _ (by omega)
   rw [if_neg (by omega),qlR (by omega),qlR (by rw [qet hf',List.length_set]; omega)]
theorem qC.cell_c (h : qC H p c M) (hi : M.has i) {j : Nat} (hj : j < 10) : AH.cell? H (qlL (qlL ⟨c,0,none⟩ (i.toNat * 10)) j) = (clV (M.cl i.toNat))[j]? := by
 rw [qk,qk,ql3]
 simp only [AH.cell?,h.hc,ql4,qlU,if_false,celObj]
 rw [if_neg (by simp)]
 rw [← qfN (fun x hx => clV_len (h.ok.lines x hx)) i.toNat _ (cl_get hi),qmr,if_pos hj,qmo]
theorem qC.c8 (h : qC H p c M) (hi : M.has i) : AH.cell? H (qlL (qlL ⟨c,0,none⟩ (i.toNat * 10)) 8) = some (.int .i64 (M.cl i.toNat).wear) := by
 rw [h.cell_c hi (by omega)]
 simp only [clV]
 rw [ql8 (by simp [lineV,(h.ok.lines _ (cl_mem hi)).1])]
 simp [lineV,(h.ok.lines _ (cl_mem hi)).1,i64V]
theorem qC.c9 (h : qC H p c M) (hi : M.has i) : AH.cell? H (qlL (qlL ⟨c,0,none⟩ (i.toNat * 10)) 9) = some (.int .i64 (M.cl i.toNat).limit) := by
 rw [h.cell_c hi (by omega)]
 simp only [clV]
 rw [ql8 (by simp [lineV,(h.ok.lines _ (cl_mem hi)).1])]
 simp [lineV,(h.ok.lines _ (cl_mem hi)).1,i64V]
theorem qC.cl_le (h : qC H p c M) (hi : M.has i) : i.toNat * 10 + 10 ≤ (celObj M).cells.length := by
 simp only [celObj]
 rw [qet (fun x hx => clV_len (h.ok.lines x hx))]
 unfold Mem.has at hi
 omega
theorem qaD (l : List Int) : (lineV l).all qo = true := by simp [lineV,u64V,qo]
theorem qC.row_c (h : qC H p c M) (hi : M.has i) : AH.row? H (qlL (qlL ⟨c,0,none⟩ (i.toNat * 10)) 0) 8 = some (lineV (M.cl i.toNat).line) := by
 rw [qk,qk,ql3,Nat.add_zero]
 have hr := qfN (fun x hx => clV_len (h.ok.lines x hx)) i.toNat _ (cl_get hi)
 have hl := (h.ok.lines _ (cl_mem hi)).1
 have h8 : (((celObj M).cells.drop (i.toNat * 10)).take 8) = lineV (M.cl i.toNat).line := by
  have : (((celObj M).cells.drop (i.toNat * 10)).take 8) = ((((celObj M).cells.drop (i.toNat * 10)).take 10).take 8) := by rw [List.take_take]; rfl
  rw [this]
  simp only [celObj] at hr ⊢
  rw [hr,clV,List.take_append_of_le_length (by simp [lineV,hl]),qmx (by simp [lineV,hl])]
 have hle := h.cl_le hi
 simp only [AH.row?,h.hc,ql4,qlU,if_false]
 rw [if_neg (by simp [celObj]),h8,if_pos ⟨by omega,qaD _⟩]
theorem qC.can_c (h : qC H p c M) (hi : M.has i) {j n : Nat} (hj : j + n ≤ 10) : AH.canPut H (qlL (qlL ⟨c,0,none⟩ (i.toNat * 10)) j) n := by
 rw [qk,qk,ql3]
 have hle := h.cl_le hi
 exact ⟨rfl,congrArg AObj.md h.hc,by rw [h.hc]; simp only; omega⟩
theorem qC.put_c (h : qC H p c M) (hi : M.has i) {j : Nat} {vs : List Value} {x : Cl} (hj : j + vs.length ≤ 10) (hx : clV x = setMany (clV (M.cl i.toNat)) j vs) :
  AH.put H (qlL (qlL ⟨c,0,none⟩ (i.toNat * 10)) j) vs = setM H p c (M.setc i.toNat x) := by
 rw [qk,qk,ql3]
 have hs := qiD hj (fun x hx => clV_len (h.ok.lines x hx)) i.toNat _ x (cl_get hi) hx
 refine AH.ext' rfl fun b => ?_
 simp only [AH.put,qu,qcJ]
 have hm : memObj c (M.setc i.toNat x) = memObj c M := by simp [memObj,Mem.setc]
 by_cases hbc : b = c
 ·subst hbc
  rw [if_pos rfl,if_neg h.ne,if_pos rfl,h.hc]
  simp only [celObj,hs]
  rfl
 ·rw [if_neg hbc]
  by_cases hbp : b = p
  ·subst hbp; rw [if_pos rfl,hm,h.hp]
  ·rw [if_neg hbp,if_neg hbc]
theorem qly {x : Cl} {l : List Int} (hx : isLine x.line) (hl : isLine l) : clV { x with line := l } = setMany (clV x) 0 (lineV l) := by
 apply qmc
 intro t
 rw [qb5 _ _ _ _ (by rw [clV_len hx]; simp [lineV,hl.1])]
 simp only [clV]
 by_cases h : t < 8
 ·rw [if_pos (by simp [lineV,hl.1]; omega),qmd (by simp [lineV,hl.1]; omega)]; rfl
 ·rw [if_neg (by simp [lineV,hl.1]; omega),ql8 (by simp [lineV,hl.1]; omega),ql8 (by simp [lineV,hx.1]; omega)]
  simp [lineV,hl.1,hx.1]
theorem qle {x : Cl} {v : Int} (hx : isLine x.line) : clV { x with wear := v } = setMany (clV x) 8 [.int .i64 v] := by
 simp only [setMany,clV]
 rw [List.set_append_right _ _ (by simp [lineV,hx.1])]
 simp [lineV,hx.1,i64V]
end
theorem Mem.wr_ok {M : Mem} (h : M.ok) : M.wr.ok := by
 have := h.cut
 unfold Mem.wr
 split
 ·exact ⟨h.lines,h.regs,h.regU,h.len,h.cut⟩
 ·split
  ·exact ⟨h.lines,h.regs,h.regU,h.len,by simp only; omega⟩
  ·exact ⟨h.lines,h.regs,h.regU,h.len,h.cut⟩
theorem Mem.wr_cs {M : Mem} : M.wr.cs = M.cs := by
 unfold Mem.wr; split
 ·rfl
 ·split <;> rfl
theorem Mem.wr_regs {M : Mem} : M.wr.regs = M.regs := by
 unfold Mem.wr; split
 ·rfl
 ·split <;> rfl
theorem Mem.wr_has {M : Mem} {i : Int} : M.wr.has i ↔ M.has i := by unfold Mem.has; rw [Mem.wr_cs]
theorem Mem.wr_cl {M : Mem} {i : Nat} : M.wr.cl i = M.cl i := by unfold Mem.cl; rw [Mem.wr_cs]
theorem Mem.setc_has {M : Mem} {i : Int} {j : Nat} {x : Cl} : (M.setc j x).has i ↔ M.has i := by simp [Mem.has,Mem.setc]
theorem Mem.setc_ok {M : Mem} (h : M.ok) {i : Nat} {x : Cl} (hx : isLine x.line) : (M.setc i x).ok := by
 refine ⟨?_,h.regs,h.regU,by simpa [Mem.setc] using h.len,h.cut⟩
 intro y hy
 rcases qmX hy with h' | rfl
 ·exact h.lines y h'
 ·exact hx
theorem Mem.setc_setc {M : Mem} {i : Nat} {x y : Cl} : (M.setc i x).setc i y = M.setc i y := by simp [Mem.setc,List.set_set]
theorem Mem.setc_cl {M : Mem} {i : Int} {x : Cl} (hi : M.has i) : (M.setc i.toNat x).cl i.toNat = x := by
 unfold Mem.has at hi
 have : i.toNat < M.cs.length := by omega
 simp [Mem.cl,Mem.setc,qlM,this]
theorem qfm {old now : List Int} {mask : Int} (h : isLine old) (h' : isLine now) : isLine (mixL old now mask) := by
 refine ⟨by simp [mixL],fun v hv => ?_⟩
 simp only [mixL,qml,qmJ] at hv
 obtain ⟨i,hi,rfl⟩ := hv
 split
 ·rw [qlM,qlK (by rw [h'.1]; exact hi)]
  exact h'.2 _ (ql1 _)
 ·rw [qlM,qlK (by rw [h.1]; exact hi)]
  exact h.2 _ (ql1 _)
theorem qbb : isLine (qlN 8 0) := ⟨rfl,fun v hv => by rw [List.eq_of_mem_replicate hv]; unfold isU; omega⟩
theorem and1 (x : Int) : andI .i64 x 1 = x % 2 := by
 have h0 : andI .i64 x 1 = qlJ .i64 ((qmH 64 x &&& qmH 64 1).toNat : Int) := rfl
 have h1 : (qmH 64 x &&& qmH 64 1) = BitVec.ofNat 64 ((x % 2).toNat) := by
  apply BitVec.eq_of_getLsbD_eq
  intro i hi
  have e1 : (qmH 64 1) = 1#64 := rfl
  rw [BitVec.getLsbD_and,e1]
  have hx : (qmH 64 x).toNat = (x % 18446744073709551616).toNat := by simp [BitVec.toNat_ofInt]
  rcases Nat.eq_zero_or_pos i with rfl | hpos
  ·simp only [BitVec.getLsbD_one,BitVec.getLsbD_ofNat]
   simp only [BitVec.getLsbD,hx,Nat.testBit_zero]
   have : (x % 18446744073709551616).toNat % 2 = (x % 2).toNat % 2 := by omega
   simp [this]
  ·have : (BitVec.getLsbD 1#64 i) = false := by simp [BitVec.getLsbD_one]; omega
   rw [this,Bool.and_false,BitVec.getLsbD_ofNat]
   have h2 : (x % 2).toNat < 2 ^ i := by
    have : 2 ≤ 2 ^ i := by calc 2 = 2 ^ 1 := rfl
     _ ≤ 2 ^ i := Nat.pow_le_pow_right (by omega) hpos
    omega
   rw [Nat.testBit_lt_two_pow h2,Bool.and_false]
 rw [h0,h1]
 rw [BitVec.toNat_ofNat]
 rw [Nat.mod_eq_of_lt (by omega)]
 have : ((x % 2).toNat : Int) = x % 2 := by omega
 rw [this,qg (by omega) (by omega)]
theorem shr_bit (x : Int) (i : Nat) (h : i ≤ 64) : shrI .i64 x (i : Int) = x / 2 ^ i := by
 unfold shrI
 rw [show min ((i : Int).toNat) (qmQ .i64) = i from by simp [qmQ]; omega]
 rw [Int.fdiv_eq_ediv_of_nonneg _ (Int.pow_nonneg (by omega))]
theorem mbit_eq (x : Int) (i : Nat) (h : i ≤ 64) : (andI .i64 (shrI .i64 x (i : Int)) 1 == 1) = mbit x i := by
 rw [and1,shr_bit _ _ h,mbit]
 by_cases hh : x / 2 ^ i % 2 = 1
 ·simp [hh]
 ·simp [hh]
theorem mbit0 (x : Int) : (andI .i64 x 1 == 1) = mbit x 0 := by
 rw [and1,mbit]
 by_cases hh : x % 2 = 1 <;> simp [hh]
theorem qie (i : Nat) (h : i < 64) : mbit (-1) i = true := by
 unfold mbit
 have hpos : (0 : Int) < 2 ^ i := Int.pow_pos (by omega)
 have : (-1 : Int) / 2 ^ i = -1 := by
  rw [Int.neg_one_ediv]
  rw [Int.sign_eq_one_of_pos hpos]
 simp [this]
theorem qld {old now : List Int} (h : now.length = 8) : mixL old now (-1) = now := by
 apply qmc
 intro i
 by_cases hi : i < 8
 ·simp only [mixL,qlW,qmh hi,qmi]
  rw [qie i (by omega),if_pos rfl,qlM,qlK (by omega),qms]
 ·rw [qlR (by simp [mixL]; omega),qlR (by omega)]
section
variable {H : AH} {p c : Nat} {M : Mem} {i : Int}
theorem qai.s {k : Int → AH → Prop} (hm : qC H p c M) (h : k M.cs.length H) : qai (some ⟨p,0,none⟩) H k := by
 refine qai.link ?_
 simp only [qai.b,qlZ,qd,hm.c0,qag,qi,qlU,if_false]
 exact h
theorem qbk.s {k : Bool → AH → Prop} (hm : qC H p c M) (h : k (decide (M.has i)) H) : qbk (some ⟨p,0,none⟩) i H k := by
 refine qbk.link ?_
 simp only [qbk.b,qi,decide_eq_true_eq,ge_iff_le]
 by_cases h0 : 0 ≤ i
 ·rw [if_pos h0]
  refine qai.s hm ?_
  rw [show decide (i < (M.cs.length : Int)) = decide (M.has i) from decide_eq_decide.2 (by unfold Mem.has; omega)]
  exact h
 ·rw [if_neg h0]
  rw [show decide (M.has i) = false from decide_eq_false (by unfold Mem.has; omega)] at h
  exact h
theorem qaN.s {k : Bool → AH → Prop} {a : Addr} (h : k (decide (regIn i)) H) : qaN (some a) i H k := by
 refine qaN.link ?_
 simp only [qaN.b,qi,qlZ,qmp,if_true,decide_eq_true_eq,ge_iff_le]
 by_cases h0 : 0 ≤ i
 ·rw [if_pos h0,show decide (i < 35) = decide (regIn i) from decide_eq_decide.2 (by unfold regIn; omega)]; exact h
 ·rw [if_neg h0]; rw [show decide (regIn i) = false from decide_eq_false (by unfold regIn; omega)] at h; exact h
theorem qaV.s {k : Int → AH → Prop} (hm : qC H p c M) (h : k M.wmask (setM H p c M.wr)) : qaV (some ⟨p,0,none⟩) H k := by
 refine qaV.link ?_
 have h1 : qC (setM H p c { M with writes := inc M.writes }) p c { M with writes := inc M.writes } := hm.set ⟨hm.ok.lines,hm.ok.regs,hm.ok.regU,hm.ok.len,hm.ok.cut⟩
 have h2 : qC (setM H p c { M with writes := inc M.writes,down := true }) p c { M with writes := inc M.writes,down := true } := hm.set ⟨hm.ok.lines,hm.ok.regs,hm.ok.regU,hm.ok.len,hm.ok.cut⟩
 have hc := hm.ok.cut
 have hw : qlJ .i64 (M.writes + 1) = inc M.writes := rfl
 simp only [qaV.b,qd,hm.c36,qf,qaQ,hm.can (i := 36) (by omega),hw,ql0,qmR,true_and,hm.p36,h1.c37,qi,beq_iff_eq,h1.can (i := 39) (by omega),h1.p39,h2.c38,decide_eq_true_eq,gt_iff_lt,h1.can (i := 37) (by omega),h1.p37,qcI]
 unfold Mem.wmask Mem.wr at h
 by_cases h0 : M.cut = 0
 ·rw [if_pos h0] at h ⊢
  rw [if_pos h0] at h
  exact h
 ·rw [if_neg h0] at h ⊢
  rw [if_neg h0] at h
  by_cases h3 : 0 < M.cut
  ·rw [if_pos h3] at h ⊢
   rw [qg (by omega) (by omega)]
   exact h
  ·rw [if_neg h3] at h ⊢
   exact h
theorem qaK.s {k : Int → AH → Prop} {w : Bool} (hm : qC H p c M) (h : k (M.told w) H) : qaK (some ⟨p,0,none⟩) w H k := by
 refine qaK.link ?_
 simp only [qaK.b,qd,hm.c39,qbi,qi]
 unfold Mem.told at h
 split <;> simp_all
 split <;> simp_all
theorem qaM.s {k : Int → AH → Prop} (hm : qC H p c M) (h : k M.writes H) : qaM (some ⟨p,0,none⟩) H k := by
 refine qaM.link ?_
 simp only [qaM.b,qlZ,qd,hm.c36,qf,qi,qlU,if_false]
 exact h
theorem qao.s {k : Bool → AH → Prop} (hm : qC H p c M) (h : k M.down H) : qao (some ⟨p,0,none⟩) H k := by
 refine qao.link ?_
 simp only [qao.b,qlZ,qmp,if_true,qd,hm.c39,qbi,qi]
 exact h
theorem Mem.setCut_ok (h : M.ok) {n mask : Int} (hn : n ≤ 9223372036854775807) : (M.setCut n mask).ok :=
 ⟨h.lines,h.regs,h.regU,h.len,by simp only [Mem.setCut]; omega⟩
theorem qa3.s {k : AH → Prop} {n mask : Int} (hm : qC H p c M) (hn : n ≤ 9223372036854775807) (h : k (setM H p c (M.setCut n mask))) : qa3 (some ⟨p,0,none⟩) n mask H k := by
 refine qa3.link ?_
 have e : (if (-1 : Int) > n then (-1 : Int) else n) = max n (-1) := by split <;> omega
 have h1 : qC (setM H p c { M with cut := max n (-1) }) p c { M with cut := max n (-1) } := hm.set ⟨hm.ok.lines,hm.ok.regs,hm.ok.regU,hm.ok.len,by simp only; omega⟩
 simp only [qa3.b,qlZ,qmp,if_true,qi,qd,e,qaQ,hm.can (i := 37) (by omega),ql0,qmR,true_and,hm.p37,h1.can (i := 38) (by omega),h1.p38,qcI]
 exact h
theorem Mem.power_ok (h : M.ok) : M.power.ok := ⟨h.lines,h.regs,h.regU,h.len,by simp only [Mem.power]; omega⟩
theorem qaL.s {k : AH → Prop} (hm : qC H p c M) (h : k (setM H p c M.power)) : qaL (some ⟨p,0,none⟩) H k := by
 refine qaL.link ?_
 have h1 : qC (setM H p c { M with cut := -1 }) p c { M with cut := -1 } := hm.set ⟨hm.ok.lines,hm.ok.regs,hm.ok.regU,hm.ok.len,by simp only; omega⟩
 simp only [qaL.b,qlZ,qmp,if_true,qi,qd,qaQ,hm.can (i := 37) (by omega),ql0,qmR,true_and,hm.p37,h1.can (i := 39) (by omega),h1.p39,qcI]
 exact h
theorem qJ.s {k : Int → Int → AH → Prop} (hm : qC H p c M) (h : k (M.reg i).1 (M.reg i).2 H) : qJ (some ⟨p,0,none⟩) i H k := by
 refine qJ.link ?_
 unfold qJ.b
 refine qaN.s ?_
 unfold Mem.reg at h
 by_cases hi : regIn i
 ·have hi' := hi
  unfold regIn at hi'
  rw [if_pos hi] at h
  simp only [hi,decide_true,qmm,qi,qlU,if_false,qd,hm.c39,qbi]
  by_cases hd : M.down
  ·rw [if_pos hd] at h ⊢; exact h
  ·rw [if_neg hd] at h ⊢
   refine ⟨by omega,?_⟩
   rw [qk,qk,ql3,Nat.mul_one,hm.cr (by omega),qf]
   exact h
 ·rw [if_neg hi] at h
  simp only [hi,decide_false,qmp,qi,if_true]
  exact h
theorem Mem.set_ok (h : M.ok) {v : Int} (hv : isU v) : (M.set i v).1.ok := by
 unfold Mem.set
 split
 ·split
  ·exact h
  ·have hw := Mem.wr_ok h
   simp only
   split
   ·refine ⟨hw.lines,by simp [h.regs],fun x hx => ?_,hw.len,hw.cut⟩
    rcases qmX hx with h' | rfl
    ·exact h.regU x h'
    ·exact hv
   ·exact hw
 ·exact h
theorem qG.s {k : Int → AH → Prop} {v : Int} (hm : qC H p c M) (hv : isU v) (h : k (M.set i v).2 (setM H p c (M.set i v).1)) : qG (some ⟨p,0,none⟩) i v H k := by
 refine qG.link ?_
 unfold qG.b
 refine qaN.s ?_
 have hok := Mem.set_ok (i := i) hm.ok hv
 unfold Mem.set at h hok
 by_cases hi : regIn i
 ·have hi' := hi
  unfold regIn at hi'
  rw [if_pos hi] at h hok
  simp only [hi,decide_true,qmm,qi,qlU,if_false,qd,hm.c39,qbi]
  by_cases hd : M.down
  ·rw [if_pos hd] at h ⊢; rw [hm.same] at h; exact h
  ·rw [if_neg hd] at h ⊢
   rw [if_neg hd] at hok
   refine qaV.s hm ?_
   have h1 := hm.set (Mem.wr_ok hm.ok)
   rw [mbit0]
   by_cases hb : mbit M.wmask 0 = true
   ·rw [if_pos hb]
    rw [if_pos hb] at h hok
    refine ⟨by omega,?_⟩
    rw [qk,ql3,Nat.mul_one]
    rw [qaQ]
    have hreg : M.wr.regs = M.regs := Mem.wr_regs
    have e1 : qlL ⟨p,1,none⟩ i.toNat = qlL ⟨p,0,none⟩ (1 + i.toNat) := by rw [qk,qk,ql3]
    rw [e1]
    refine ⟨h1.can (by omega),?_⟩
    rw [h1.pr (by omega),qcI,hreg]
    unfold qG.j1
    refine qaK.s (hm.set hok) ?_
    exact h
   ·rw [if_neg hb]
    rw [if_neg hb] at h hok
    unfold qG.j1
    refine qaK.s h1 ?_
    exact h
 ·rw [if_neg hi] at h
  rw [hm.same] at h
  simp only [hi,decide_false,qmp,qi,if_true]
  exact h
end
theorem qj8 {l : List Int} (h : l.length = 8) {j : Nat} (hj : j < 8) : (lineV l)[j]? = some (.int .u64 (l.getD j 0)) := by
 have hl : j < l.length := by omega
 simp only [lineV,qlW,qlK hl,qmi,qlM,qms]
 rfl
theorem qr {l : List Int} (h : l.length = 8) : (lineV l).length = 8 := by simp [lineV,h]
theorem zeroV : [(qlI .u64 (0 : Int)),(qlI .u64 (0 : Int)),(qlI .u64 (0 : Int)),(qlI .u64 (0 : Int)),(qlI .u64 (0 : Int)),(qlI .u64 (0 : Int)),(qlI .u64 (0 : Int)),(qlI .u64 (0 : Int))] = lineV (qlN 8 0) := rfl
theorem qdp (l : List Int) : flatV (K.agg.inj (lineV l)) = true := by simp only [K.inj,flatV,List.toList_toArray]; exact qgm l
def mixTo (old now : List Int) (mask : Int) (j : Nat) : List Int := (qmA 8).map fun i => if i < j ∧ mbit mask i = true then now.getD i 0 else old.getD i 0
theorem qd3 (old now : List Int) (mask : Int) (j : Nat) : (mixTo old now mask j).length = 8 := by simp [mixTo]
theorem mixTo_0 {old : List Int} (now : List Int) (mask : Int) (h : old.length = 8) : mixTo old now mask 0 = old := by
 apply qmc
 intro i
 by_cases hi : i < 8
 ·simp only [mixTo,qlW,qmh hi,qmi,Nat.not_lt_zero,false_and,if_false]
  rw [qlM,qlK (by omega),qms]
 ·rw [qlR (by simp [mixTo]; omega),qlR (by omega)]
theorem mixTo_8 (old now : List Int) (mask : Int) : mixTo old now mask 8 = mixL old now mask := by
 unfold mixTo mixL
 refine List.map_congr_left fun i hi => ?_
 have : i < 8 := by simpa using hi
 simp [this]
theorem qjM (old now : List Int) (mask : Int) {j : Nat} (hj : j < 8) : mixTo old now mask (j + 1) = if mbit mask j then (mixTo old now mask j).set j (now.getD j 0) else mixTo old now mask j := by
 apply qmc
 intro i
 by_cases hi : i < 8
 ·split
  ·rename_i hb
   by_cases hij : i = j
   ·subst hij
    rw [qmy (by rw [qd3]; exact hi)]
    simp [mixTo,hi,hb]
   ·rw [qmf (by omega)]
    simp only [mixTo,qlW,qmh hi,qmi]
    have : (i < j + 1 ∧ mbit mask i = true) ↔ (i < j ∧ mbit mask i = true) := by constructor <;> intro ⟨h1,h2⟩ <;> exact ⟨by omega,h2⟩
    simp only [this]
  ·rename_i hb
   simp only [mixTo,qlW,qmh hi,qmi]
   have : (i < j + 1 ∧ mbit mask i = true) ↔ (i < j ∧ mbit mask i = true) := by
    constructor <;> intro ⟨h1,h2⟩
    ·refine ⟨?_,h2⟩
     rcases Nat.lt_or_ge i j with h | h
     ·exact h
     ·have : i = j := by omega
      subst this; exact absurd h2 hb
    ·exact ⟨by omega,h2⟩
   simp only [this]
 ·rw [qlR (by rw [qd3]; omega)]
  symm
  split
  ·rw [qlR (by rw [List.length_set,qd3]; omega)]
  ·rw [qlR (by rw [qd3]; omega)]
theorem qkD (l : List Int) (j : Nat) (v : Int) : (lineV l).set j (.int .u64 v) = lineV (l.set j v) := by simp [lineV,List.map_set,u64V]
section
variable {H : AH} {p c : Nat} {M : Mem} {i : Int}
theorem qbQ.s {old now : List Int} {mask : Int} {k : List Value → AH → Prop} (ho : isLine old) (hn : isLine now) (h : k (lineV (mixL old now mask)) H) : qbQ (lineV old) (lineV now) mask H k := by
 refine qcZ (κ := .agg) (by simp) (qdp _) (qbQ.link ?_) h
 unfold qbQ.b
 simp only [qp,qgF,qkb,List.singleton_append,qmw,List.nil_append,qc2,ql0,qmR,ql3,Nat.reduceAdd,zeroV]
 rw [ql (qgc H _ 1 8 _ rfl (by simp) (qr hn.1) (qaD _))]
 refine qI (t := (0 : Int)) (I := fun (t : Int) H' => ∃ j : Nat,t = (j : Int) ∧ j ≤ 8 ∧ H' = H.more [⟨lineV (mixTo old now mask j),.rw,0⟩,⟨lineV now,.rw,0⟩,⟨lineV (qlN 8 0),.rw,0⟩]) (m := fun (t : Int) _ => qlQ (8 - t)) ?_ ⟨0,rfl,by omega,by rw [mixTo_0 _ _ ho.1]⟩
 intro t H1 hI it hit
 obtain ⟨j,rfl,hj,rfl⟩ := hI
 unfold qbQ.l2
 simp only [qi,decide_eq_true_eq]
 by_cases hlt : (j : Int) < 8
 ·rw [if_pos hlt]
  refine ⟨by omega,?_⟩
  rw [qlP,Nat.mul_one,qj8 hn.1 (by omega),qf]
  refine ⟨by omega,?_⟩
  rw [mbit_eq _ _ (by omega),qg (n := (j : Int) + 1) (by omega) (by omega)]
  have hs := qjM old now mask (j := j) (by omega)
  by_cases hb : mbit mask j = true
  ·rw [if_pos hb] at hs ⊢
   refine ⟨by omega,?_⟩
   rw [qk,ql3]
   refine ⟨qf9 H _ 0 j 1 _ rfl rfl (by rw [qr (qd3 _ _ _ _)]; omega),?_⟩
   have hp := qhO H [⟨lineV (mixTo old now mask j),.rw,0⟩,⟨lineV now,.rw,0⟩,⟨lineV (qlN 8 0),.rw,0⟩] 0 j [.int .u64 (now.getD j 0)] _ rfl
   simp only [Nat.add_zero,setMany,qkD,List.set_cons_zero] at hp
   rw [hp]
   exact hit _ _ ⟨j + 1,by omega,by omega,by rw [hs]⟩ (by omega)
  ·rw [if_neg hb] at hs ⊢
   exact hit _ _ ⟨j + 1,by omega,by omega,by rw [hs]⟩ (by omega)
 ·rw [if_neg hlt]
  have : j = 8 := by omega
  subst this
  unfold qbQ.j1
  rw [mixTo_8]
  have hmx := (qfm (mask := mask) ho hn).1
  have hr := qgc H [⟨lineV (mixL old now mask),.rw,0⟩,⟨lineV now,.rw,0⟩,⟨lineV (qlN 8 0),.rw,0⟩] 0 8 _ rfl (by simp) (qr hmx) (qaD _)
  rw [Nat.add_zero] at hr
  rw [ql hr]
  refine ⟨⟨qr hmx,qaD _⟩,?_⟩
  have hp := qhO H [⟨lineV (mixL old now mask),.rw,0⟩,⟨lineV now,.rw,0⟩,⟨lineV (qlN 8 0),.rw,0⟩] 2 0 (lineV (mixL old now mask)) _ rfl
  refine ⟨qf9 H _ 2 0 _ _ rfl rfl (by rw [qr hmx,qr rfl]; omega),?_⟩
  rw [hp]
  have hset : setMany (lineV (qlN 8 0)) 0 (lineV (mixL old now mask)) = lineV (mixL old now mask) := by
   apply qmc
   intro t
   rw [qb5 _ _ _ _ (by rw [qr hmx,qr rfl]; omega),qr hmx]
   by_cases ht : t < 8
   ·rw [if_pos (by omega)]; rfl
   ·rw [if_neg (by omega),qlR (by rw [qr rfl]; omega),qlR (by rw [qr hmx]; omega)]
  simp only [List.set_cons_succ,List.set_cons_zero,hset]
  rw [ql (qgc H _ 2 8 _ rfl (by simp) (qr hmx) (qaD _))]
  exact ⟨At.of_keeps (qa.more _ _),rfl⟩
theorem Mem.put_ok {l : List Int} (h : M.ok) (hl : isLine l) : (M.put i l).1.ok := by
 unfold Mem.put
 split
 ·rename_i hi
  split
  ·exact h
  ·simp only
   split
   ·exact Mem.wr_ok h
   ·exact Mem.setc_ok (Mem.wr_ok h) (qfm (h.lines _ (cl_mem hi)) hl)
 ·exact h
theorem qdE {H : AH} {b : Nat} {l l' : List Int} {e : Nat} (h : l.length = 8) (h' : l'.length = 8) (hg : H.get b = ⟨lineV l,.rw,e⟩) : AH.put H ⟨b,0,none⟩ (lineV l') = H.upd b ⟨lineV l',.rw,e⟩ := by
 have hset : setMany (lineV l) 0 (lineV l') = lineV l' := by
  apply qmc
  intro t
  rw [qb5 _ _ _ _ (by rw [qr h,qr h']; omega),qr h']
  by_cases ht : t < 8
  ·rw [if_pos (by omega)]; rfl
  ·rw [if_neg (by omega),qlR (by rw [qr h]; omega),qlR (by rw [qr h']; omega)]
 simp only [AH.put,hg,hset]
theorem qU.s {l : List Int} {k : Int → AH → Prop} (hm : qC H p c M) (hl : isLine l) (h : k (M.put i l).2 (setM H p c (M.put i l).1)) : qU (some ⟨p,0,none⟩) i (lineV l) H k := by
 have key : ∀ {M' : Mem} {r : Int},M'.ok → At H (setM (H.push ⟨lineV l,.rw,0⟩) p c M') (setM H p c M') := by
  intro M' r hok
  refine hm.at fun b hb => ?_
  simp only [qcJ,qm]
  rw [if_neg (show b ≠ H.size by omega)]
 refine qcZ (κ := .int .i64) (by simp) rfl (qU.link ?_) h
 unfold qU.b
 have hm1 := hm.push ⟨lineV l,.rw,0⟩
 rw [qp]
 refine qbk.s hm1 ?_
 have hok := Mem.put_ok (i := i) hm.ok hl
 have hkey := key (r := 0) hok
 unfold Mem.put at hok hkey ⊢
 by_cases hi : M.has i
 ·have hi' := hi
  unfold Mem.has at hi'
  rw [if_pos hi] at hok hkey ⊢
  simp only [hi,decide_true,qmm,qi,qlU,if_false,qd,hm1.c39,qbi]
  by_cases hd : M.down
  ·rw [if_pos hd] at hok hkey ⊢
   rw [if_pos hd]
   refine ⟨?_,rfl⟩
   rw [hm1.same] at hkey
   exact hkey
  ·rw [if_neg hd] at hok hkey ⊢
   rw [if_neg hd]
   refine qaV.s hm1 ?_
   have hmw := hm1.set (Mem.wr_ok hm.ok)
   have hiw : M.wr.has i := Mem.wr_has.2 hi
   simp only [hmw.c0,qag,qd,hmw.c9 hiw,hmw.c8 hiw,qf,Mem.wr_cs,Mem.wr_cl,hi',and_self,true_and,ge_iff_le,decide_eq_true_eq]
   have hold := hm.ok.lines _ (cl_mem hi)
   have tail : ∀ w,w = (M.cl i.toNat).worn → qU.j2 (some ⟨p,0,none⟩) i (fun r0 H' => At H H' (setM H p c (if (M.cl i.toNat).worn = true then (M.wr,M.wr.told true) else (M.wr.setc i.toNat ⟨mixL (M.cl i.toNat).line l M.wmask,inc (M.cl i.toNat).wear,(M.cl i.toNat).limit⟩,M.wr.told false)).1) ∧ r0 = (if (M.cl i.toNat).worn = true then (M.wr,M.wr.told true) else (M.wr.setc i.toNat ⟨mixL (M.cl i.toNat).line l M.wmask,inc (M.cl i.toNat).wear,(M.cl i.toNat).limit⟩,M.wr.told false)).2) H.size (setM (H.push ⟨lineV l,.rw,0⟩) p c M.wr) M.wmask ⟨c,0,none⟩ w := by
    intro w hw
    subst hw
    unfold qU.j2 qU.j1
    by_cases hw : (M.cl i.toNat).worn = true
    ·rw [if_pos hw] at hkey hok ⊢
     rw [hw,qmm,qc]
     refine qaK.s hmw ?_
     exact ⟨hkey,rfl⟩
    ·rw [if_neg hw] at hkey hok ⊢
     rw [show (M.cl i.toNat).worn = false from by simpa using hw,qmp,qj]
     rw [ql (hmw.row_c hiw),Mem.wr_cl]
     have hlp := hm.lp
     have hlc := hm.lc
     have hrow : AH.row? (setM (H.push ⟨lineV l,.rw,0⟩) p c M.wr) ⟨H.size,0,none⟩ 8 = some (lineV l) := by
      rw [qgk (by omega) (by omega)]
      exact row_new (qr hl.1) (qaD _)
     rw [ql hrow]
     refine qbQ.s hold hl ?_
     have hmx := qfm (mask := M.wmask) hold hl
     refine ⟨⟨qr hmx.1,qaD _⟩,hmw.can_c hiw (by rw [qr hmx.1]; omega),?_⟩
     rw [hmw.put_c hiw (x := ⟨mixL (M.cl i.toNat).line l M.wmask,(M.cl i.toNat).wear,(M.cl i.toNat).limit⟩) (by rw [qr hmx.1]; omega) (by rw [Mem.wr_cl]; exact qly (x := M.cl i.toNat) hold hmx),qcI]
     have hm3 := hm1.set (Mem.setc_ok (i := i.toNat) (x := ⟨mixL (M.cl i.toNat).line l M.wmask,(M.cl i.toNat).wear,(M.cl i.toNat).limit⟩) (Mem.wr_ok hm.ok) hmx)
     have hi3 : (M.wr.setc i.toNat ⟨mixL (M.cl i.toNat).line l M.wmask,(M.cl i.toNat).wear,(M.cl i.toNat).limit⟩).has i := Mem.setc_has.2 hiw
     simp only [hm3.c8 hi3,qf,Mem.setc_cl hiw]
     refine ⟨hm3.can_c hi3 (by simp),?_⟩
     rw [hm3.put_c hi3 (x := { line := mixL (M.cl i.toNat).line l M.wmask,wear := inc (M.cl i.toNat).wear,limit := (M.cl i.toNat).limit }) (by simp) ?_,qcI,Mem.setc_setc]
     ·refine qaK.s (hm1.set hok) ?_
      exact ⟨hkey,rfl⟩
     ·rw [Mem.setc_cl hiw]
      exact qle (x := { line := mixL (M.cl i.toNat).line l M.wmask,wear := (M.cl i.toNat).wear,limit := (M.cl i.toNat).limit }) hmx
   by_cases hlim : 0 ≤ (M.cl i.toNat).limit
   ·rw [if_pos hlim]
    exact tail _ (by simp [Cl.worn,hlim])
   ·rw [if_neg hlim]
    exact tail _ (by simp [Cl.worn,hlim])
 ·rw [if_neg hi] at hok hkey ⊢
  simp only [hi,decide_false,qmp,qi,if_true]
  rw [hm1.same] at hkey
  exact ⟨hkey,trivial⟩
theorem qbI.s {k : List Value → Int → AH → Prop} (hm : qC H p c M) (h : k (lineV (M.get i).1) (M.get i).2 H) : qbI (some ⟨p,0,none⟩) i H k := by
 refine canon2 (κ := .agg) (μ := .int .i64) (by simp) (by simp) (qdp _) rfl (qbI.link ?_) h
 unfold qbI.b
 rw [qp,zeroV]
 have hm1 := hm.push ⟨lineV (qlN 8 0),.rw,0⟩
 have hz : (H.push ⟨lineV (qlN 8 0),.rw,0⟩).get H.size = ⟨lineV (qlN 8 0),.rw,0⟩ := by simp [qm]
 have hc8 : ∀ l : List Int,isLine l → AH.canPut (H.push ⟨lineV (qlN 8 0),.rw,0⟩) ⟨H.size,0,none⟩ (lineV l).length := by
  intro l hl; rw [qr hl.1]; exact qcC.2 (by rw [qr rfl]; omega)
 have fin : ∀ (l : List Int),isLine l → ∀ (Q : List Value → AH → Prop),(∀ H',qa H H' → Q (lineV l) H') →
   ldA (AH.put (H.push ⟨lineV (qlN 8 0),.rw,0⟩) ⟨H.size,0,none⟩ (lineV l)) ⟨H.size,0,none⟩ 8 fun r0 => Q r0 (AH.put (H.push ⟨lineV (qlN 8 0),.rw,0⟩) ⟨H.size,0,none⟩ (lineV l)) := by
  intro l hl Q hQ
  rw [qdE rfl hl.1 hz]
  have e : (H.push ⟨lineV (qlN 8 0),.rw,0⟩).upd H.size ⟨lineV l,.rw,0⟩ = H.push ⟨lineV l,.rw,0⟩ := by
   refine AH.ext' rfl fun b => ?_
   simp only [qu,qm]; split <;> rfl
  rw [e]
  rw [ql (row_new (qr hl.1) (qaD _))]
  exact hQ _ ((qa.refl H).push _)
 refine qbk.s hm1 ?_
 unfold Mem.get
 by_cases hi : M.has i
 ·have hi' := hi
  unfold Mem.has at hi'
  rw [if_pos hi]
  simp only [hi,decide_true,qmm,qi,qlU,if_false,qd,hm1.c39,qbi,hm1.c0,qag,hi',and_self,true_and,ql (hm1.row_c hi)]
  by_cases hd : M.down
  ·rw [if_pos hd,if_pos hd]
   refine ⟨⟨qr rfl,qaD _⟩,hc8 _ qbb,?_⟩
   exact fin _ qbb (fun r0 H' => At H H' H ∧ r0 = _ ∧ _) (fun H' hk => ⟨At.of_keeps hk,rfl,rfl⟩)
  ·rw [if_neg hd,if_neg hd]
   have hl := hm.ok.lines _ (cl_mem hi)
   refine ⟨⟨qr hl.1,qaD _⟩,hc8 _ hl,?_⟩
   exact fin _ hl (fun r0 H' => At H H' H ∧ r0 = _ ∧ _) (fun H' hk => ⟨At.of_keeps hk,rfl,rfl⟩)
 ·rw [if_neg hi]
  simp only [hi,decide_false,qmp,qi,if_true]
  refine ⟨⟨qr rfl,qaD _⟩,hc8 _ qbb,?_⟩
  exact fin _ qbb (fun r0 H' => At H H' H ∧ r0 = _ ∧ _) (fun H' hk => ⟨At.of_keeps hk,rfl,trivial⟩)
end
structure Frm (H H' : AH) (p c : Nat) : Prop where
 size : H'.size = H.size
 get : ∀ b,b ≠ p → b ≠ c → H'.get b = H.get b
theorem Frm.cell {H H' : AH} {p c b i : Nat} (h : Frm H H' p c) (h1 : b ≠ p) (h2 : b ≠ c) : AH.cell? H' ⟨b,i,none⟩ = AH.cell? H ⟨b,i,none⟩ := by
 simp only [AH.cell?,h.get b h1 h2]
theorem Frm.set (H : AH) (p c : Nat) (M : Mem) : Frm H (setM H p c M) p c := ⟨rfl,fun b h1 h2 => qc4 h1 h2⟩
theorem Frm.trans {H H' H2 : AH} {p c : Nat} (h : Frm H H' p c) (h' : Frm H' H2 p c) : Frm H H2 p c := ⟨h'.size.trans h.size,fun b h1 h2 => (h'.get b h1 h2).trans (h.get b h1 h2)⟩
section
variable {H : AH} {p c : Nat} {M M' : Mem} {i r : Int}
theorem qG.g {v : Int} {k : Int → AH → Prop} (hm : qC H p c M) (hv : isU v) (e : M.set i v = (M',r)) (h : ∀ H',qC H' p c M' → Frm H H' p c → k r H') : qG (some ⟨p,0,none⟩) i v H k := by
 refine qG.s hm hv ?_
 have ok := Mem.set_ok (i := i) hm.ok hv
 rw [e] at ok ⊢
 exact h _ (hm.set ok) (Frm.set _ _ _ _)
theorem qa3.g {n mask : Int} {k : AH → Prop} (hm : qC H p c M) (hn : n ≤ 9223372036854775807) (h : ∀ H',qC H' p c (M.setCut n mask) → Frm H H' p c → k H') : qa3 (some ⟨p,0,none⟩) n mask H k :=
 qa3.s hm hn (h _ (hm.set (Mem.setCut_ok hm.ok hn)) (Frm.set _ _ _ _))
theorem qaL.g {k : AH → Prop} (hm : qC H p c M) (h : ∀ H',qC H' p c M.power → Frm H H' p c → k H') : qaL (some ⟨p,0,none⟩) H k :=
 qaL.s hm (h _ (hm.set (Mem.power_ok hm.ok)) (Frm.set _ _ _ _))
end
theorem new_st {H : AH} {cs cs' : List Value} {n z : Nat} {K : Nat → AH → Prop} (hn : cs.length = n) (hl : cs'.length = n) (ha : cs'.all qo = true) (h : K H.size (H.push ⟨cs',.rw,z⟩)) :
  newC H ⟨cs,.rw,z⟩ fun o H1 => (cs'.length = n ∧ qmq cs' qo = true) ∧ stC H1 ⟨o,0,none⟩ cs' fun Hs => K o Hs := by
 refine ⟨⟨hl,ha⟩,qcC.2 (by omega),?_⟩
 rw [qdq]
 have : setMany cs 0 cs' = cs' := by
  apply qmc
  intro t
  rw [qb5 _ _ _ _ (by omega)]
  by_cases ht : t < n
  ·rw [if_pos (by omega)]; rfl
  ·rw [if_neg (by omega),qlR (by omega),qlR (by omega)]
 rw [this]
 exact h
theorem qfe {H : AH} {l : List Int} {e : Nat} (h : isLine l) : AH.row? (H.push ⟨lineV l,.rw,e⟩) ⟨H.size,0,none⟩ 8 = some (lineV l) := row_new (qr h.1) (qaD _)
theorem rows1 {α : Type} {H : AH} {s : Sl} {g : α → Value} {l : List α} (h : ql5 H s 1 (fun x => [g x]) l) {i : Nat} (hi : i < l.length) :
  ∃ b o,s.a = some ⟨b,o,none⟩ ∧ b < H.size ∧ AH.cell? H (qlL ⟨b,o,none⟩ (i * 1)) = some (g (l[i])) := by
 obtain ⟨b,o,h1,h2,h3⟩ := h.at hi
 refine ⟨b,o,h1,h2,?_⟩
 rw [qk] at h3 ⊢
 have := (AH.row?_cell h3).2.2.2.2 0 _ rfl
 simpa using this
theorem qfd {H H' : AH} {p c : Nat} {M : Mem} (h : qa H H') (hp : H.size ≤ p) (hc : H.size ≤ c) : qa H (setM H' p c M) :=
 ⟨h.1,fun b hb => by rw [qc4 (by omega) (by omega)]; exact h.2 b hb⟩
theorem Mem.new_ok {n : Nat} {limits : List Int} (h : n ≤ 200) : (Mem.new n limits).ok := by
 refine ⟨?_,rfl,?_,by simpa [Mem.new] using h,by simp [Mem.new]⟩
 ·intro c hc
  simp only [Mem.new,qml,qmJ] at hc
  obtain ⟨i,_,rfl⟩ := hc
  exact qbb
 ·intro v hv
  rw [List.eq_of_mem_replicate hv]; unfold isU; omega
def Mem.newTo (n : Nat) (limits : List Int) (j : Nat) : Mem :=
 { Mem.new n limits with cs := (qmA n).map fun i => ⟨qlN 8 0,0,if i < j then limits.getD i (-1) else 0⟩ }
theorem Mem.newTo_ok {n j : Nat} {limits : List Int} (h : n ≤ 200) : (Mem.newTo n limits j).ok := by
 refine ⟨?_,rfl,(Mem.new_ok (limits := limits) h).regU,by simpa [Mem.newTo] using h,by simp [Mem.newTo,Mem.new]⟩
 intro c hc
 simp only [Mem.newTo,qml,qmJ] at hc
 obtain ⟨i,_,rfl⟩ := hc
 exact qbb
theorem Mem.newTo_n (n : Nat) (limits : List Int) : Mem.newTo n limits n = Mem.new n limits := by
 simp only [Mem.newTo,Mem.new,Mem.mk.injEq,and_true]
 refine List.map_congr_left fun i hi => ?_
 rw [if_pos (by simpa using hi)]
theorem Mem.newTo_cl {n j : Nat} {limits : List Int} {i : Nat} (hi : i < n) : (Mem.newTo n limits j).cl i = ⟨qlN 8 0,0,if i < j then limits.getD i (-1) else 0⟩ := by
 simp [Mem.cl,Mem.newTo,qlM,hi]
theorem Mem.newTo_succ {n j : Nat} {limits : List Int} (hj : j < n) : (Mem.newTo n limits j).setc j ⟨qlN 8 0,0,limits.getD j (-1)⟩ = Mem.newTo n limits (j + 1) := by
 simp only [Mem.newTo,Mem.setc,Mem.mk.injEq,and_true,true_and]
 apply qmc
 intro i
 by_cases hi : i < n
 ·by_cases hij : i = j
  ·subst hij; rw [qmy (by simpa using hi)]; simp [hi]
  ·rw [qmf (by omega)]
   simp only [qlW,qmh hi,qmi]
   by_cases h : i < j
   ·rw [if_pos h,if_pos (by omega)]
   ·rw [if_neg h,if_neg (by omega)]
 ·rw [qlR (by simp; omega),qlR (by simp; omega)]
theorem qhE {x : Cl} {v : Int} (hx : isLine x.line) : clV { x with limit := v } = setMany (clV x) 9 [.int .i64 v] := by
 simp only [setMany,clV]
 rw [List.set_append_right _ _ (by simp [lineV,hx.1])]
 simp [lineV,hx.1,i64V]
theorem nvm_New.s {H : AH} {n : Int} {x1 : Sl} {limits : List Int} {k : Option Addr → AH → Prop} (hr : ql5 H x1 1 iV limits)
  (h1 : 1 ≤ n ∧ n ≤ 200 → ∀ H',qC H' (H.size + 1) H.size (Mem.new n.toNat limits) → qa H H' → H'.size = H.size + 2 → k (some ⟨H.size + 1,0,none⟩) H') (h0 : ¬ (1 ≤ n ∧ n ≤ 200) → k none H) : nvm_New n x1 H k := by
 refine nvm_New.link ?_
 unfold nvm_New.b nvm_New.j2
 simp only [qi,decide_eq_true_eq]
 by_cases hn1 : n < 1
 ·rw [if_pos hn1]; exact h0 (by omega)
 ·rw [if_neg hn1]
  by_cases hn2 : n > 200
  ·rw [if_pos hn2]; exact h0 (by omega)
  ·rw [if_neg hn2]
   refine ⟨by simp only [lim]; omega,?_⟩
   simp only [qp,qe]
   have hz : (⟨zerosOf n.toNat [(qlI .u64 (0 : Int)),(qlI .u64 (0 : Int)),(qlI .u64 (0 : Int)),(qlI .u64 (0 : Int)),(qlI .u64 (0 : Int)),(qlI .u64 (0 : Int)),(qlI .u64 (0 : Int)),(qlI .u64 (0 : Int)),(qlI .i64 (0 : Int)),(qlI .i64 (0 : Int))],.rw,10⟩ : AObj) = celObj (Mem.newTo n.toNat limits 0) := by
    simp only [celObj,Mem.newTo,AObj.mk.injEq,and_true]
    unfold zerosOf
    rw [List.flatMap_map]
    simp only [Nat.not_lt_zero,if_false]
    have : (qmA n.toNat).flatMap (fun (_ : Nat) => clV ⟨qlN 8 0,0,0⟩) = (qlN n.toNat (clV ⟨qlN 8 0,0,0⟩)).flatten := by
     rw [List.flatMap_def]
     congr 1
     apply qmc
     intro i
     by_cases hi : i < n.toNat
     ·simp [hi]
     ·rw [qlR (by simp; omega),qlR (by simp; omega)]
    rw [this]
    rfl
   rw [hz]
   generalize hX : (H.push (celObj (Mem.newTo n.toNat limits 0))).push _ = H1
   have hm1 : qC H1 (H.size + 1) H.size (Mem.newTo n.toNat limits 0) := by
    subst hX
    refine ⟨?_,?_,by omega,by simp [qe],by simp [qe]; omega,Mem.newTo_ok (by omega)⟩
    ·rw [qm,qe,if_pos rfl]
     simp only [memObj,Mem.newTo,Mem.new,List.length_map,List.length_range]
     rfl
    ·rw [qm,qe,if_neg (by omega),qm,if_pos rfl]
   have hs1 : H1.size = H.size + 2 := by subst hX; simp [qe]
   have hk1 : qa H H1 := by subst hX; exact ((qa.refl H).push _).push _
   rw [hm1.c0,qag]
   refine qI (t := (0 : Int)) (I := fun (t : Int) H' => ∃ j : Nat,t = (j : Int) ∧ j ≤ n.toNat ∧ H' = setM H1 (H.size + 1) H.size (Mem.newTo n.toNat limits j)) (m := fun (t : Int) _ => qlQ (n - t)) ?_ ⟨0,rfl,by omega,hm1.same.symm⟩
   intro t H2 hI it hit
   obtain ⟨j,rfl,hj,rfl⟩ := hI
   have hmj := hm1.set (Mem.newTo_ok (n := n.toNat) (limits := limits) (j := j) (by omega))
   have hlen : ∀ j,((Mem.newTo n.toNat limits j).cs.length : Int) = n := by intro j; simp [Mem.newTo]; omega
   have hR := hr.keep (qfd (M := Mem.newTo n.toNat limits j) (p := H.size + 1) (c := H.size) hk1 (by omega) (by omega))
   unfold nvm_New.l1
   simp only [qi,decide_eq_true_eq,hlen,hmj.c0,qag,qd]
   by_cases hlt : (j : Int) < n
   ·rw [if_pos hlt]
    have hi : (Mem.newTo n.toNat limits j).has j := ⟨by omega,by rw [hlen]; exact hlt⟩
    have hcl := Mem.newTo_cl (n := n.toNat) (limits := limits) (j := j) (i := j) (by omega)
    refine ⟨by omega,stC_to (hmj.can_c hi (by simp)) ((hmj.put_c hi (x := ⟨qlN 8 0,0,-1⟩) (by simp) (by rw [qlP,hcl]; exact qhE (x := ⟨qlN 8 0,0,_⟩) qbb)).trans qcI) ?_⟩
    simp only [qlP]
    have hm2 := hm1.set (Mem.setc_ok (i := j) (x := ⟨qlN 8 0,0,-1⟩) (Mem.newTo_ok (n := n.toNat) (limits := limits) (j := j) (by omega)) qbb)
    have hi2 : ((Mem.newTo n.toNat limits j).setc j ⟨qlN 8 0,0,-1⟩).has j := Mem.setc_has.2 hi
    have hlen2 : (((Mem.newTo n.toNat limits j).setc j ⟨qlN 8 0,0,-1⟩).cs.length : Int) = n := by simp [Mem.setc,Mem.newTo]; omega
    rw [hr.1,qg (n := (j : Int) + 1) (by omega) (by omega)]
    by_cases hlim : (j : Int) < (limits.length : Int)
    ·rw [if_pos hlim]
     have hR2 := hr.keep (qfd (M := (Mem.newTo n.toNat limits j).setc j ⟨qlN 8 0,0,-1⟩) (p := H.size + 1) (c := H.size) hk1 (by omega) (by omega))
     obtain ⟨b,o,ha,_,hcell⟩ := rows1 (g := fun v => qlI .i64 v) hR2 (i := j) (by omega)
     rw [hm2.c0,qag]
     refine ⟨by omega,?_⟩
     rw [ha,qd,hcell,qf]
     have hcl2 : ((Mem.newTo n.toNat limits j).setc j ⟨qlN 8 0,0,-1⟩).cl j = ⟨qlN 8 0,0,-1⟩ := Mem.setc_cl (i := (j : Int)) hi
     have hp := hm2.put_c (i := (j : Int)) hi2 (x := ⟨qlN 8 0,0,limits[j]⟩) (j := 9) (vs := [.int .i64 limits[j]]) (by simp) (by rw [qlP,hcl2]; exact qhE (x := ⟨qlN 8 0,0,-1⟩) qbb)
     rw [qlP] at hp
     refine ⟨⟨by omega,by rw [hlen2]; exact hlt⟩,stC_to (hm2.can_c (i := j) hi2 (by simp)) (hp.trans qcI) ?_⟩
     rw [Mem.setc_setc]
     refine hit _ _ ⟨j + 1,by omega,by omega,?_⟩ (by omega)
     rw [← Mem.newTo_succ (by omega),qlM,qlK (by omega),qms]
    ·rw [if_neg hlim]
     refine hit _ _ ⟨j + 1,by omega,by omega,?_⟩ (by omega)
     rw [← Mem.newTo_succ (by omega),qlM,qlR (by omega),Option.getD_none]
   ·rw [if_neg hlt]
    have : j = n.toNat := by omega
    subst this
    rw [Mem.newTo_n]
    exact h1 (by omega) _ (hm1.set (Mem.new_ok (by omega))) (qfd hk1 (by omega) (by omega)) hs1
theorem qi5 : ∀ {n : Nat} {a b : List Int},a.length = n → b.length = n → eqCells (qlN n (K.int .u64)) (lineV a) (lineV b) = some (a == b) := by
 intro n
 induction n with
 | zero => intro a b ha hb; simp at ha hb; subst ha hb; rfl
 | succ n ih =>
  intro a b ha hb
  obtain _ | ⟨x,a⟩ := a
  ·simp at ha
  obtain _ | ⟨y,b⟩ := b
  ·simp at hb
  have := ih (a := a) (b := b) (by simpa using ha) (by simpa using hb)
  simp only [lineV,u64V,List.replicate_succ,qmv,eqCells,and_self,if_true] at this ⊢
  rw [this]
  rfl
theorem eq_line {a b : List Int} {k : Bool → Prop} (ha : isLine a) (hb : isLine b) : elO (eqCells (qlN 8 (K.int .u64)) (lineV a) (lineV b)) k ↔ k (a == b) := by
 rw [qi5 ha.1 hb.1,qk9]
theorem qiw {α : Type} {H : AH} {z : Nat} {f : α → List Value} : ql5 H ⟨none,0,0⟩ z f [] := ⟨rfl,fun i x h => by simp at h⟩
theorem qgo {H : AH} {l : List Int} {K : Nat → AH → Prop} (hl : isLine l) (h : K H.size (H.push ⟨lineV l,.rw,0⟩)) :
  newC H ⟨lineV (qlN 8 0),.rw,0⟩ fun o H1 => ((lineV l).length = 8 ∧ qmq (lineV l) qo = true) ∧ stC H1 ⟨o,0,none⟩ (lineV l) fun Hs => K o Hs :=
 new_st (qr rfl) (qr hl.1) (qaD _) h
theorem umod {m : Int} (hm : 0 < m) (z : Int) : 0 ≤ qmS (qlJ .u64 z) m ∧ qmS (qlJ .u64 z) m < m := by
 have h0 : 0 ≤ qlJ .u64 z := by
  simp only [qlJ,qmQ,IntKind.signed,Bool.false_and,Int.reducePow,qlU,if_false]; omega
 rw [Int.tmod_eq_emod_of_nonneg h0]
 exact ⟨Int.emod_nonneg _ (by omega),Int.emod_lt_of_pos _ (by omega)⟩
section
variable {H : AH}
theorem Mem.new_cl {n i : Nat} {limits : List Int} (hi : i < n) : (Mem.new n limits).cl i = ⟨qlN 8 0,0,limits.getD i (-1)⟩ := by
 rw [← Mem.newTo_n,Mem.newTo_cl hi,if_pos hi]
theorem Mem.setc_cl' {M : Mem} {i j : Nat} {x : Cl} (h : i < M.cs.length) : (M.setc i x).cl j = if j = i then x else M.cl j := by
 simp only [Mem.cl,Mem.setc,qlM]
 by_cases hij : j = i
 ·subst hij; simp [h]
 ·rw [if_neg hij,qmf (by omega)]
end
section
variable {H : AH}
theorem Mem.put_len {M : Mem} {i : Int} {l : List Int} : (M.put i l).1.cs.length = M.cs.length := by
 unfold Mem.put
 split
 ·split
  ·rfl
  ·simp only; split
   ·rw [Mem.wr_cs]
   ·simp [Mem.setc,Mem.wr_cs]
 ·rfl
theorem Mem.set_len {M : Mem} {i v : Int} : (M.set i v).1.cs.length = M.cs.length := by
 unfold Mem.set
 split
 ·split
  ·rfl
  ·simp only; split <;> simp [Mem.wr_cs]
 ·rfl
end
theorem Mem.wr_mask {M : Mem} : M.wr.mask = M.mask := by
 unfold Mem.wr; split
 ·rfl
 ·split <;> rfl
structure PutAny (M : Mem) (i : Nat) (l : List Int) (M' : Mem) (e : Int) : Prop where
 regs : M'.regs = M.regs
 len : M'.cs.length = M.cs.length
 mask : M'.mask = M.mask
 other : ∀ j,j ≠ i → M'.cl j = M.cl j
 limit : (M'.cl i).limit = (M.cl i).limit
 res : (e = 0 ∧ M'.down = false ∧ (M.cl i).worn = false ∧ (M'.cl i).line = l) ∨
  (e = 3 ∧ M'.down = false ∧ (M.cl i).worn = true ∧ M'.cl i = M.cl i) ∨
  (e = 2 ∧ M'.down = true ∧ M.cut ≠ -1 ∧ ((M'.cl i).line = (M.cl i).line ∨ (M'.cl i).line = mixL (M.cl i).line l M.mask))
 cut : M.cut = -1 → M'.cut = -1
 cutge : -1 ≤ M'.cut
theorem Mem.wr_cutge {M : Mem} (h : -1 ≤ M.cut) : -1 ≤ M.wr.cut := by
 unfold Mem.wr; split
 ·exact h
 ·split
  ·simp only; omega
  ·exact h
theorem Mem.put_any {M : Mem} {i : Nat} {l : List Int} (hd : M.down = false) (hi : i < M.cs.length) (hl : l.length = 8) (hc : -1 ≤ M.cut) : PutAny M i l (M.put i l).1 (M.put i l).2 := by
 have hhas : M.has i := ⟨by omega,by omega⟩
 unfold Mem.put
 rw [if_pos hhas,if_neg (by simp [hd]),qlP]
 have hi' : i < M.wr.cs.length := by rw [Mem.wr_cs]; exact hi
 have hwr : (M.cut = 0 ∧ M.wr.down = true ∧ M.wmask = M.mask) ∨ (M.cut ≠ 0 ∧ M.wr.down = false ∧ M.wmask = -1) := by
  unfold Mem.wr Mem.wmask
  by_cases h0 : M.cut = 0
  ·left; rw [if_pos h0,if_pos h0]; exact ⟨h0,rfl,rfl⟩
  ·right; rw [if_neg h0,if_neg h0]; refine ⟨h0,?_,rfl⟩
   split <;> exact hd
 have hcut : M.cut = -1 → M.wr.cut = -1 := by
  intro h; unfold Mem.wr; rw [if_neg (by omega),if_neg (by omega)]; exact h
 have hmask : M.wr.mask = M.mask := by exact Mem.wr_mask
 simp only
 by_cases hw : (M.cl i).worn = true
 ·rw [if_pos hw]
  refine ⟨Mem.wr_regs,by rw [Mem.wr_cs],hmask,fun j _ => Mem.wr_cl,by rw [Mem.wr_cl],?_,hcut,Mem.wr_cutge hc⟩
  rcases hwr with ⟨h0,h1,h2⟩ | ⟨h0,h1,h2⟩
  ·exact .inr (.inr ⟨by simp [Mem.told,h1],h1,by omega,.inl (by rw [Mem.wr_cl])⟩)
  ·exact .inr (.inl ⟨by simp [Mem.told,h1],h1,hw,Mem.wr_cl⟩)
 ·rw [if_neg hw]
  refine ⟨Mem.wr_regs,by simp [Mem.setc,Mem.wr_cs],hmask,fun j hj => by rw [Mem.setc_cl' hi',if_neg hj,Mem.wr_cl],by rw [Mem.setc_cl' hi',if_pos rfl],?_,hcut,Mem.wr_cutge hc⟩
  rcases hwr with ⟨h0,h1,h2⟩ | ⟨h0,h1,h2⟩
  ·refine .inr (.inr ⟨by simp [Mem.told,h1],h1,by omega,.inr ?_⟩)
   rw [Mem.setc_cl' hi',if_pos rfl,h2]
  ·refine .inl ⟨by simp [Mem.told,h1],h1,by simpa using hw,?_⟩
   rw [Mem.setc_cl' hi',if_pos rfl,h2,qld hl]
structure SetAny (M : Mem) (i : Nat) (v : Int) (M' : Mem) (e : Int) : Prop where
 cs : M'.cs = M.cs
 mask : M'.mask = M.mask
 res : (e = 0 ∧ M'.down = false ∧ M'.regs = M.regs.set i v) ∨ (e = 2 ∧ M'.down = true ∧ M.cut ≠ -1 ∧ (M'.regs = M.regs ∨ M'.regs = M.regs.set i v))
 cut : M.cut = -1 → M'.cut = -1
 cutge : -1 ≤ M'.cut
theorem Mem.set_any {M : Mem} {i : Nat} {v : Int} (hd : M.down = false) (hi : i < 35) (hc : -1 ≤ M.cut) : SetAny M i v (M.set i v).1 (M.set i v).2 := by
 unfold Mem.set
 rw [if_pos ⟨by omega,by omega⟩,if_neg (by simp [hd]),qlP]
 have hmask : M.wr.mask = M.mask := by exact Mem.wr_mask
 by_cases h0 : M.cut = 0
 ·have h1 : M.wr.down = true := by unfold Mem.wr; rw [if_pos h0]
  by_cases hb : mbit M.wmask 0 = true
  ·rw [if_pos hb]
   exact ⟨Mem.wr_cs,hmask,.inr ⟨by simp [Mem.told,h1],h1,by omega,.inr rfl⟩,by omega,Mem.wr_cutge hc⟩
  ·rw [if_neg hb]
   exact ⟨Mem.wr_cs,hmask,.inr ⟨by simp [Mem.told,h1],h1,by omega,.inl Mem.wr_regs⟩,by omega,Mem.wr_cutge hc⟩
 ·have h1 : M.wr.down = false := by unfold Mem.wr; rw [if_neg h0]; split <;> exact hd
  have h2 : M.wmask = -1 := by unfold Mem.wmask; rw [if_neg h0]
  rw [h2,qie 0 (by omega),if_pos rfl]
  refine ⟨Mem.wr_cs,hmask,.inl ⟨by simp [Mem.told,h1],h1,rfl⟩,fun h => ?_,Mem.wr_cutge hc⟩
  simp only [Mem.wr]; rw [if_neg h0,if_neg (by omega)]; exact h
def Mem.whose (M : Mem) (i : Nat) : Int := M.regs.getD (3 + i) 0
def Mem.place (M : Mem) (n s : Nat) : Nat → Nat
 | 0 => s
 | j + 1 => if M.whose j = (s : Int) + 1 then n + j else M.place n s j
def Mem.view (M : Mem) (n sp s : Nat) : List Int := (M.cl (M.place n s sp)).line
structure LV (M : Mem) (n sp k : Nat) : Prop where
 len : M.cs.length = n + sp
 n1 : 1 ≤ n
 sp16 : sp ≤ 16
 kle : k ≤ sp
 used : ∀ i,i < k → 1 ≤ M.whose i ∧ M.whose i ≤ (n : Int) + 1
 free : ∀ i,k ≤ i → i < sp → M.whose i = 0
def Mem.next (M : Mem) (sp : Nat) : Nat → Nat
 | 0 => sp
 | j + 1 => if M.whose (sp - (j + 1)) = 0 then sp - (j + 1) else M.next sp j
def lgo (n sp slot : Nat) (d : List Int) : Nat → Mem → Mem × Int
 | 0,M => (M,3)
 | j + 1,M =>
  let r := M.put ((n + (sp - (j + 1)) : Nat) : Int) d
  if r.2 = 0 then r.1.set ((3 + (sp - (j + 1)) : Nat) : Int) ((slot : Int) + 1)
  else if r.2 = 3 then
   let q := r.1.set ((3 + (sp - (j + 1)) : Nat) : Int) ((n : Int) + 1)
   if q.2 = 0 then lgo n sp slot d j q.1 else q
  else r
def lput (n sp : Nat) (M : Mem) (slot : Int) (d : List Int) : Mem × Int :=
 if 0 ≤ slot ∧ slot < n then
  if M.down then (M,2) else
  let r := M.put ((M.place n slot.toNat sp : Nat) : Int) d
  if r.2 = 3 then lgo n sp slot.toNat d (sp - M.next sp sp) r.1 else r
 else (M,1)
def lget (n sp : Nat) (M : Mem) (slot : Int) : List Int × Int :=
 if 0 ≤ slot ∧ slot < n then if M.down then (qlN 8 0,2) else (M.view n sp slot.toNat,0) else (qlN 8 0,1)
section
variable {M M' : Mem} {n sp k s : Nat}
theorem qda (M : Mem) (n s sp : Nat) : M.place n s sp = s ∨ ∃ j,j < sp ∧ M.place n s sp = n + j ∧ M.whose j = (s : Int) + 1 := by
 induction sp with
 | zero => exact .inl rfl
 | succ j ih =>
  simp only [Mem.place]
  by_cases h : M.whose j = (s : Int) + 1
  ·rw [if_pos h]; exact .inr ⟨j,by omega,rfl,h⟩
  ·rw [if_neg h]
   rcases ih with ih | ⟨i,h1,h2,h3⟩
   ·exact .inl ih
   ·exact .inr ⟨i,by omega,h2,h3⟩
theorem qeo (hs : s < n) : M.place n s sp < n + sp := by
 rcases qda M n s sp with h | ⟨j,h1,h2,_⟩ <;> omega
theorem qkp {s' : Nat} (hs : s < n) (hs' : s' < n) (h : M.place n s sp = M.place n s' sp) : s = s' := by
 rcases qda M n s sp with h1 | ⟨j,h1,h2,h3⟩ <;> rcases qda M n s' sp with h4 | ⟨i,h4,h5,h6⟩
 ·omega
 ·omega
 ·omega
 ·have : i = j := by omega
  subst this
  omega
theorem qdc (h : ∀ j,j < sp → (M'.whose j = (s : Int) + 1 ↔ M.whose j = (s : Int) + 1)) : M'.place n s sp = M.place n s sp := by
 induction sp with
 | zero => rfl
 | succ j ih =>
  simp only [Mem.place]
  have := h j (by omega)
  by_cases hj : M.whose j = (s : Int) + 1
  ·rw [if_pos hj,if_pos (this.2 hj)]
  ·rw [if_neg hj,if_neg (fun hh => hj (this.1 hh)),ih fun i hi => h i (by omega)]
theorem qj7 {i : Nat} (hi : i < sp) (h : M.whose i = (s : Int) + 1) (hz : ∀ j,i < j → j < sp → M.whose j ≠ (s : Int) + 1) : M.place n s sp = n + i := by
 induction sp with
 | zero => omega
 | succ j ih =>
  simp only [Mem.place]
  by_cases hj : i = j
  ·subst hj; rw [if_pos h]
  ·rw [if_neg (hz j (by omega) (by omega))]
   exact ih (by omega) fun q h1 h2 => hz q h1 (by omega)
theorem LV.next (h : LV M n sp k) : M.next sp sp = k := by
 have key : ∀ j,j ≤ sp → sp - k ≤ j → M.next sp j = k := by
  intro j
  induction j with
  | zero => intro _ h2; simp only [Mem.next]; have := h.kle; omega
  | succ j ih =>
   intro h1 h2
   simp only [Mem.next]
   by_cases hz : M.whose (sp - (j + 1)) = 0
   ·rw [if_pos hz]
    by_cases hlt : sp - (j + 1) < k
    ·have := h.used _ hlt; omega
    ·omega
   ·rw [if_neg hz]
    refine ih (by omega) ?_
    have : sp - (j + 1) < k := by
     rcases Nat.lt_or_ge (sp - (j + 1)) k with hh | hh
     ·exact hh
     ·exact absurd (h.free _ hh (by omega)) hz
    omega
 exact key sp (qlS _) (by omega)
theorem LV.same (h : LV M n sp k) (hr : M'.regs = M.regs) (hl : M'.cs.length = M.cs.length) : LV M' n sp k :=
 ⟨by rw [hl]; exact h.len,h.n1,h.sp16,h.kle,fun i hi => by simp only [Mem.whose,hr]; exact h.used i hi,fun i hi hi' => by simp only [Mem.whose,hr]; exact h.free i hi hi'⟩
theorem qfy (hr : M.regs.length = 35) {i j : Nat} {v : Int} (hi : i < 16) (hM : M'.regs = M.regs.set (3 + i) v) : M'.whose j = if j = i then v else M.whose j := by
 unfold Mem.whose
 rw [hM]
 simp only [qlM]
 by_cases hij : j = i
 ·subst hij; rw [qmy (by omega),if_pos rfl]; rfl
 ·rw [qmf (by omega),if_neg hij]
theorem qdf (hr : M'.regs = M.regs) (hl : (M'.cl (M.place n s sp)).line = (M.cl (M.place n s sp)).line) : M'.view n sp s = M.view n sp s := by
 unfold Mem.view
 rw [qdc (M' := M') (M := M) fun j _ => by simp only [Mem.whose,hr]]
 exact hl
structure LPut (n sp : Nat) (M : Mem) (slot : Nat) (d : List Int) (k : Nat) (M' : Mem) (e : Int) : Prop where
 lv : ∃ k',k ≤ k' ∧ LV M' n sp k' ∧ (e = 3 → k' = sp)
 other : ∀ s,s < n → s ≠ slot → M'.view n sp s = M.view n sp s
 regs : ∀ r,(r < 3 ∨ 19 ≤ r) → M'.regs.getD r 0 = M.regs.getD r 0
 mask : M'.mask = M.mask
 rlen : M'.regs.length = 35
 res : (e = 0 ∧ M'.down = false ∧ M'.view n sp slot = d) ∨ (e = 3 ∧ M'.down = false ∧ M'.view n sp slot = M.view n sp slot) ∨
  (e = 2 ∧ M'.down = true ∧ M.cut ≠ -1 ∧ (M'.view n sp slot = M.view n sp slot ∨ M'.view n sp slot = d ∨ M'.view n sp slot = mixL (M.view n sp slot) d M.mask))
 cut : M.cut = -1 → M'.cut = -1
 cutge : -1 ≤ M'.cut
end
section
variable {M M' : Mem} {n sp k s slot : Nat} {d : List Int}
theorem qiH {i : Nat} {v : Int} (hi : i < 16) (hM : M'.regs = M.regs.set (3 + i) v) : ∀ r,(r < 3 ∨ 19 ≤ r) → M'.regs.getD r 0 = M.regs.getD r 0 := by
 intro r hr
 rw [hM]
 simp only [qlM]
 rw [qmf (by omega)]
theorem qdP (h : M'.cs = M.cs) (i : Nat) : M'.cl i = M.cl i := by unfold Mem.cl; rw [h]
theorem qjq {i : Nat} {e : Int} {l : List Int} (hP : PutAny M (n + i) l M' e) (hz : ∀ s,s < n → M.whose i ≠ (s : Int) + 1) (hs : s < n) : M'.view n sp s = M.view n sp s := by
 refine qdf hP.regs ?_
 rw [hP.other]
 intro h
 rcases qda M n s sp with h1 | ⟨j,h1,h2,h3⟩
 ·omega
 ·have : j = i := by omega
  subst this
  exact hz s hs h3
theorem LV.take (h : LV M n sp k) (hr : M.regs.length = 35) (hk : k < sp) {v : Int} (hv : 1 ≤ v ∧ v ≤ (n : Int) + 1) (hM : M'.regs = M.regs.set (3 + k) v) (hl : M'.cs.length = M.cs.length) : LV M' n sp (k + 1) := by
 have hsp := h.sp16
 have hw := fun j => qfy (M' := M') (M := M) (j := j) hr (show k < 16 by omega) hM
 refine ⟨by rw [hl]; exact h.len,h.n1,h.sp16,by omega,fun i hi => ?_,fun i hi hi' => ?_⟩
 ·rw [hw i]
  by_cases hik : i = k
  ·rw [if_pos hik]; exact hv
  ·rw [if_neg hik]; exact h.used i (by omega)
 ·rw [hw i,if_neg (by omega)]; exact h.free i (by omega) hi'
theorem qht (h : LV M n sp k) (hr : M.regs.length = 35) (hk : k < sp) {v : Int} (hM : M'.regs = M.regs.set (3 + k) v) (hcs : M'.cs = M.cs) (hs : s < n) (hv : v ≠ (s : Int) + 1) : M'.view n sp s = M.view n sp s := by
 have hsp := h.sp16
 unfold Mem.view
 rw [qdP hcs,qdc (M' := M') (M := M)]
 intro j hj
 rw [qfy hr (by omega) hM]
 by_cases hjk : j = k
 ·rw [if_pos hjk]
  subst hjk
  have := h.free j (qlS _) hj
  constructor
  ·intro e; exact absurd e hv
  ·intro e; omega
 ·rw [if_neg hjk]
theorem qgB (h : LV M n sp k) (hr : M.regs.length = 35) (hk : k < sp) (hM : M'.regs = M.regs.set (3 + k) ((slot : Int) + 1)) (hcs : M'.cs = M.cs) : M'.view n sp slot = (M.cl (n + k)).line := by
 have hsp := h.sp16
 have hw := fun j => qfy (M' := M') (M := M) (j := j) hr (show k < 16 by omega) hM
 unfold Mem.view
 rw [qdP hcs,qj7 (i := k) hk (by rw [hw k,if_pos rfl])]
 intro j h1 h2
 rw [hw j,if_neg (by omega),h.free j (by omega) h2]
 omega
theorem lgo_any : ∀ (j : Nat) (M : Mem),j ≤ sp → LV M n sp (sp - j) → M.regs.length = 35 → M.down = false → -1 ≤ M.cut → slot < n → d.length = 8 →
  LPut n sp M slot d (sp - j) (lgo n sp slot d j M).1 (lgo n sp slot d j M).2 := by
 intro j
 induction j with
 | zero =>
  intro M _ h hr hd hc hs hl
  exact ⟨⟨sp,by omega,h,fun _ => rfl⟩,fun s _ _ => rfl,fun r _ => rfl,rfl,hr,.inr (.inl ⟨rfl,hd,rfl⟩),id,hc⟩
 | succ j ih =>
  intro M hj h hr hd hc hs hl
  have hsp := h.sp16
  have hlen := h.len
  have hk : sp - (j + 1) < sp := by omega
  have hz := h.free _ (qlS _) hk
  have hP := Mem.put_any (M := M) (i := n + (sp - (j + 1))) (l := d) hd (by omega) hl hc
  have hzz : ∀ s,s < n → M.whose (sp - (j + 1)) ≠ (s : Int) + 1 := fun s _ => by omega
  have hkeq : sp - j = sp - (j + 1) + 1 := by omega
  unfold lgo
  simp only
  generalize hR : M.put ((n + (sp - (j + 1)) : Nat) : Int) d = R at *
  generalize sp - (j + 1) = k at *
  have h1 : LV R.1 n sp k := h.same hP.regs hP.len
  have hr1 : R.1.regs.length = 35 := by rw [hP.regs]; exact hr
  have hv1 : ∀ s,s < n → R.1.view n sp s = M.view n sp s := fun s hs => qjq hP hzz hs
  have hregs1 : ∀ r,R.1.regs.getD r 0 = M.regs.getD r 0 := fun r => by rw [hP.regs]
  have set : ∀ v,R.1.down = false → SetAny R.1 (3 + k) v (R.1.set ((3 + k : Nat) : Int) v).1 (R.1.set ((3 + k : Nat) : Int) v).2 := fun v hd1 => Mem.set_any hd1 (by omega) hP.cutge
  rcases hP.res with ⟨e,hd1,_,hline⟩ | ⟨e,hd1,_,_⟩ | ⟨e,hd1,hcut,_⟩
  ·rw [if_pos e]
   have hS := set ((slot : Int) + 1) hd1
   generalize R.1.set ((3 + k : Nat) : Int) ((slot : Int) + 1) = Q at *
   have hcl : Q.1.cs.length = R.1.cs.length := by rw [hS.cs]
   have hother : ∀ s,s < n → s ≠ slot → (Q.1.regs = R.1.regs ∨ Q.1.regs = R.1.regs.set (3 + k) ((slot : Int) + 1)) → Q.1.view n sp s = M.view n sp s := by
    intro s hs hne hor
    rw [← hv1 s hs]
    rcases hor with hor | hor
    ·exact qdf hor (by rw [qdP hS.cs])
    ·exact qht h1 hr1 hk hor hS.cs hs (by omega)
   have hregs : ∀ r,(r < 3 ∨ 19 ≤ r) → (Q.1.regs = R.1.regs ∨ Q.1.regs = R.1.regs.set (3 + k) ((slot : Int) + 1)) → Q.1.regs.getD r 0 = M.regs.getD r 0 := by
    intro r hr hor
    rw [← hregs1 r]
    rcases hor with hor | hor
    ·rw [hor]
    ·exact qiH (by omega) hor r hr
   rcases hS.res with ⟨e',hd',hq⟩ | ⟨e',hd',hcut,hq⟩
   ·refine ⟨⟨k + 1,by omega,h1.take hr1 hk (by omega) hq hcl,by omega⟩,fun s hs hne => hother s hs hne (.inr hq),fun r hr => hregs r hr (.inr hq),hS.mask.trans hP.mask,by rw [hq]; simpa using hr1,.inl ⟨e',hd',?_⟩,fun hc => hS.cut (hP.cut hc),hS.cutge⟩
    rw [qgB h1 hr1 hk hq hS.cs,hline]
   ·refine ⟨?_,fun s hs hne => hother s hs hne hq,fun r hr => hregs r hr hq,hS.mask.trans hP.mask,?_,.inr (.inr ⟨e',hd',fun hc => hcut (hP.cut hc),?_⟩),fun hc => hS.cut (hP.cut hc),hS.cutge⟩
    ·rcases hq with hq | hq
     ·exact ⟨k,qlS _,h1.same hq hcl,by omega⟩
     ·exact ⟨k + 1,by omega,h1.take hr1 hk (by omega) hq hcl,by omega⟩
    ·rcases hq with hq | hq
     ·rw [hq]; exact hr1
     ·rw [hq]; simpa using hr1
    ·rcases hq with hq | hq
     ·left
      rw [← hv1 slot hs]
      exact qdf hq (by rw [qdP hS.cs])
     ·right; left
      rw [qgB h1 hr1 hk hq hS.cs,hline]
  ·rw [if_neg (by omega),if_pos e]
   have hS := set ((n : Int) + 1) hd1
   generalize R.1.set ((3 + k : Nat) : Int) ((n : Int) + 1) = Q at *
   have hcl : Q.1.cs.length = R.1.cs.length := by rw [hS.cs]
   have hother : ∀ s,s < n → (Q.1.regs = R.1.regs ∨ Q.1.regs = R.1.regs.set (3 + k) ((n : Int) + 1)) → Q.1.view n sp s = M.view n sp s := by
    intro s hs hor
    rw [← hv1 s hs]
    rcases hor with hor | hor
    ·exact qdf hor (by rw [qdP hS.cs])
    ·exact qht h1 hr1 hk hor hS.cs hs (by omega)
   have hregs : ∀ r,(r < 3 ∨ 19 ≤ r) → (Q.1.regs = R.1.regs ∨ Q.1.regs = R.1.regs.set (3 + k) ((n : Int) + 1)) → Q.1.regs.getD r 0 = M.regs.getD r 0 := by
    intro r hr hor
    rw [← hregs1 r]
    rcases hor with hor | hor
    ·rw [hor]
    ·exact qiH (by omega) hor r hr
   rcases hS.res with ⟨e',hd',hq⟩ | ⟨e',hd',hcut,hq⟩
   ·rw [if_pos e']
    have h2 := h1.take hr1 hk (by have := h.n1; omega) hq hcl
    rw [← hkeq] at h2
    have hI := ih Q.1 (by omega) h2 (by rw [hq]; simpa using hr1) hd' hS.cutge hs hl
    generalize lgo n sp slot d j Q.1 = Z at *
    obtain ⟨⟨k',hk',hlv,he⟩,i2,i3,i4,i5,i6,i7,i8⟩ := hI
    refine ⟨⟨k',by omega,hlv,he⟩,fun s hs hne => (i2 s hs hne).trans (hother s hs (.inr hq)),fun r hr => (i3 r hr).trans (hregs r hr (.inr hq)),i4.trans (hS.mask.trans hP.mask),i5,?_,fun hc => i7 (hS.cut (hP.cut hc)),i8⟩
    have hvs := hother slot hs (.inr hq)
    rw [hvs] at i6
    rcases i6 with i6 | i6 | ⟨a,b,c,i6⟩
    ·exact .inl i6
    ·exact .inr (.inl i6)
    ·refine .inr (.inr ⟨a,b,fun hc => c (hS.cut (hP.cut hc)),?_⟩)
     rw [hS.mask,hP.mask] at i6
     exact i6
   ·rw [if_neg (by omega)]
    refine ⟨?_,fun s hs _ => hother s hs hq,fun r hr => hregs r hr hq,hS.mask.trans hP.mask,?_,.inr (.inr ⟨e',hd',fun hc => hcut (hP.cut hc),.inl (hother slot hs hq)⟩),fun hc => hS.cut (hP.cut hc),hS.cutge⟩
    ·rcases hq with hq | hq
     ·exact ⟨k,qlS _,h1.same hq hcl,by omega⟩
     ·exact ⟨k + 1,by omega,h1.take hr1 hk (by have := h.n1; omega) hq hcl,by omega⟩
    ·rcases hq with hq | hq
     ·rw [hq]; exact hr1
     ·rw [hq]; simpa using hr1
  ·rw [if_neg (by omega),if_neg (by omega)]
   exact ⟨⟨k,qlS _,h1,by omega⟩,fun s hs _ => hv1 s hs,fun r _ => hregs1 r,hP.mask,hr1,.inr (.inr ⟨e,hd1,hcut,.inl (hv1 slot hs)⟩),hP.cut,hP.cutge⟩
theorem qhY (h : LV M n sp k) (hr : M.regs.length = 35) (hd : M.down = false) (hc : -1 ≤ M.cut) (hs : slot < n) (hl : d.length = 8) :
  LPut n sp M slot d k (lput n sp M slot d).1 (lput n sp M slot d).2 := by
 have hlen := h.len
 have hpl := qeo (M := M) (sp := sp) hs
 unfold lput
 rw [if_pos ⟨by omega,by omega⟩,if_neg (by simp [hd]),qlP]
 simp only
 have hP := Mem.put_any (M := M) (i := M.place n slot sp) (l := d) hd (by omega) hl hc
 rw [h.next]
 generalize M.put ((M.place n slot sp : Nat) : Int) d = R at *
 have h1 : LV R.1 n sp k := h.same hP.regs hP.len
 have hr1 : R.1.regs.length = 35 := by rw [hP.regs]; exact hr
 have hother : ∀ s,s < n → s ≠ slot → R.1.view n sp s = M.view n sp s := by
  intro s hs' hne
  refine qdf hP.regs ?_
  rw [hP.other _ fun e => hne (qkp hs' hs e)]
 have hplace : R.1.place n slot sp = M.place n slot sp := qdc fun j _ => by simp only [Mem.whose,hP.regs]
 have hslot : R.1.view n sp slot = (R.1.cl (M.place n slot sp)).line := by unfold Mem.view; rw [hplace]
 have hold : M.view n sp slot = (M.cl (M.place n slot sp)).line := rfl
 rcases hP.res with ⟨e,hd1,_,hline⟩ | ⟨e,hd1,_,hsame⟩ | ⟨e,hd1,hcut,hline⟩
 ·rw [if_neg (by omega)]
  exact ⟨⟨k,qlS _,h1,by omega⟩,hother,fun r _ => by rw [hP.regs],hP.mask,hr1,.inl ⟨e,hd1,by rw [hslot,hline]⟩,hP.cut,hP.cutge⟩
 ·rw [if_pos e]
  have hkle := h.kle
  have hI := lgo_any (n := n) (sp := sp) (slot := slot) (d := d) (sp - k) R.1 (by omega) (by rw [show sp - (sp - k) = k by omega]; exact h1) hr1 hd1 hP.cutge hs hl
  rw [show sp - (sp - k) = k by omega] at hI
  generalize lgo n sp slot d (sp - k) R.1 = Z at *
  obtain ⟨i1,i2,i3,i4,i5,i6,i7,i8⟩ := hI
  have hvs : R.1.view n sp slot = M.view n sp slot := by rw [hslot,hsame,hold]
  refine ⟨i1,fun s hs' hne => (i2 s hs' hne).trans (hother s hs' hne),fun r hr => (i3 r hr).trans (by rw [hP.regs]),i4.trans hP.mask,i5,?_,fun hc => i7 (hP.cut hc),i8⟩
  rw [hvs,hP.mask] at i6
  rcases i6 with i6 | i6 | ⟨a,b,c,i6⟩
  ·exact .inl i6
  ·exact .inr (.inl i6)
  ·exact .inr (.inr ⟨a,b,fun hc => c (hP.cut hc),i6⟩)
 ·rw [if_neg (by omega)]
  refine ⟨⟨k,qlS _,h1,by omega⟩,hother,fun r _ => by rw [hP.regs],hP.mask,hr1,.inr (.inr ⟨e,hd1,hcut,?_⟩),hP.cut,hP.cutge⟩
  rw [hslot,hold]
  rcases hline with hline | hline
  ·exact .inl hline
  ·exact .inr (.inr hline)
end
def lobj (p : Nat) (n sp : Nat) : AObj := ⟨[.pointer (some ⟨p,0,none⟩),.int .i64 n,.int .i64 sp],.rw,0⟩
structure LAt (H : AH) (x p c n sp : Nat) (M : Mem) : Prop where
 hx : H.get x = lobj p n sp
 lx : x < H.size
 xp : x ≠ p
 xc : x ≠ c
 m : qC H p c M
 len : M.cs.length = n + sp
 n1 : 1 ≤ n
 sp16 : sp ≤ 16
def tblL (M : Mem) (sp : Nat) : List Int := (qmA sp).map M.whose
def tblO (M : Mem) (sp : Nat) : AObj := ⟨(tblL M sp).flatMap wU,.rw,1⟩
def placeT (t : List Int) (n s : Nat) : Nat → Nat
 | 0 => s
 | j + 1 => if t.getD j 0 = (s : Int) + 1 then n + j else placeT t n s j
def nextT (t : List Int) : Nat → Nat
 | 0 => t.length
 | j + 1 => if t.getD (t.length - (j + 1)) 0 = 0 then t.length - (j + 1) else nextT t j
def mayAt (t : List Int) (n : Int) (i : Nat) : Prop := t.getD i 0 ≤ n + 1 ∧ (0 < i → t.getD i 0 ≠ 0 → t.getD (i - 1) 0 ≠ 0)
instance (t : List Int) (n : Int) (i : Nat) : Decidable (mayAt t n i) := by unfold mayAt; infer_instance
def MayT (t : List Int) (n : Int) : Prop := 1 ≤ n ∧ ∀ i,i < t.length → mayAt t n i
instance (t : List Int) (n : Int) : Decidable (MayT t n) := by unfold MayT; infer_instance
theorem qcp (M : Mem) (sp : Nat) : (tblL M sp).length = sp := by simp [tblL]
theorem qfb (M : Mem) {sp j : Nat} (h : j < sp) : (tblL M sp).getD j 0 = M.whose j := by simp [tblL,qlM,h]
theorem qko (M : Mem) (n s : Nat) {sp : Nat} : ∀ j,j ≤ sp → placeT (tblL M sp) n s j = M.place n s j := by
 intro j
 induction j with
 | zero => intro _; rfl
 | succ j ih => intro h; simp only [placeT,Mem.place,qfb M (show j < sp by omega),ih (by omega)]
theorem qlf (M : Mem) {sp : Nat} : ∀ j,j ≤ sp → nextT (tblL M sp) j = M.next sp j := by
 intro j
 induction j with
 | zero => intro _; simp [nextT,Mem.next,qcp]
 | succ j ih => intro h; simp only [nextT,Mem.next,qcp,qfb M (show sp - (j + 1) < sp by omega),ih (by omega)]
section
variable {H : AH} {x p c n sp : Nat} {M : Mem} {i slot : Int}
theorem LAt.cell (h : LAt H x p c n sp M) (i : Nat) : AH.cell? H (qlL ⟨x,0,none⟩ i) = (lobj p n sp).cells[i]? := by
 rw [qk,ql3]
 simp only [AH.cell?,h.hx,ql4,qlU,if_false]
 rw [if_neg (by simp [lobj])]
theorem LAt.c0 (h : LAt H x p c n sp M) : AH.cell? H (qlL ⟨x,0,none⟩ 0) = some (.pointer (some ⟨p,0,none⟩)) := h.cell 0
theorem LAt.c1 (h : LAt H x p c n sp M) : AH.cell? H (qlL ⟨x,0,none⟩ 1) = some (.int .i64 n) := h.cell 1
theorem LAt.c2 (h : LAt H x p c n sp M) : AH.cell? H (qlL ⟨x,0,none⟩ 2) = some (.int .i64 sp) := h.cell 2
theorem LAt.keeps {H' : AH} (h : LAt H x p c n sp M) (hk : qa H H') : LAt H' x p c n sp M :=
 ⟨by rw [hk.2 x h.lx,h.hx],by have := hk.1; have := h.lx; omega,h.xp,h.xc,h.m.keeps hk,h.len,h.n1,h.sp16⟩
theorem LAt.push (h : LAt H x p c n sp M) (o : AObj) : LAt (H.push o) x p c n sp M := h.keeps ((qa.refl H).push o)
theorem LAt.set {M' : Mem} (h : LAt H x p c n sp M) (hok : M'.ok) (hl : M'.cs.length = M.cs.length) : LAt (setM H p c M') x p c n sp M' :=
 ⟨by rw [qc4 h.xp h.xc,h.hx],h.lx,h.xp,h.xc,h.m.set hok,by rw [hl]; exact h.len,h.n1,h.sp16⟩
theorem LAt.n200 (h : LAt H x p c n sp M) : n + sp ≤ 200 := by have := h.len; have := h.m.ok.len; omega
theorem qfQ {α : Type} {z : Nat} {f : α → List Value} {l : List α} {s : Sl} {H' : AH} {b : Nat} (hf : ∀ x,(f x).length = z) (hc : ∀ x,(f x).all qo = true) (h : SlAt b l.length s) (hb : b < H'.size) (hg : H'.get b = ⟨l.flatMap f,.rw,z⟩) : ql5 H' s z f l :=
 (h.own (B := 0) (qmT _) hb hg).rows hf hc
theorem Mem.reg_up {j : Nat} (hd : M.down = false) (hj : j < 16) : M.reg ((3 : Int) + j) = (M.whose j,0) := by
 unfold Mem.reg
 rw [if_pos (by unfold regIn; omega),if_neg (by simp [hd])]
 have : ((3 : Int) + j).toNat = 3 + j := by omega
 rw [this]; rfl
theorem qfW.s {k : Sl → Int → AH → Prop} (h : LAt H x p c n sp M) (h0 : M.down = true → k ⟨none,0,0⟩ 2 H) (h1 : M.down = false → ∀ s,SlAt H.size sp s → k s 0 (H.push (tblO M sp))) : qK (some ⟨x,0,none⟩) H k := by
 have hsp := h.sp16
 have hn := h.n200
 by_cases hd : M.down = true
 ·refine qK.link ?_
  unfold qK.b
  rw [qd,h.c2,qf]
  refine ⟨1,?_⟩
  show qK.l2 _ _ _ _ _ _
  unfold qK.l2 qK.j1
  simp only [qi,decide_eq_true_eq,qd,h.c0,qE]
  by_cases hz : (0 : Int) < (sp : Int)
  ·rw [if_pos hz]
   refine qJ.s h.m ?_
   rw [qg (n := (3 : Int) + 0) (by omega) (by omega)]
   have : M.reg (3 + 0) = (0,2) := by unfold Mem.reg; rw [if_pos (by unfold regIn; omega),if_pos hd]
   rw [this,if_pos (by simp)]
   exact h0 hd
  ·rw [if_neg hz]
   refine qao.s h.m ?_
   rw [hd,if_pos rfl]
   exact h0 hd
 ·have hd' : M.down = false := by simpa using hd
  refine canonS2 (μ := .int .i64) (u := 0) (l := tblL M sp) (g := wU) (z := 1) (H2 := H) (by simp) rfl (fun _ _ => rfl) (qK.link ?_) (fun s hs => h1 hd' s (by rw [qcp] at hs; exact hs))
  unfold qK.b
  rw [qd,h.c2,qf]
  refine qI (t := ((⟨none,0,0⟩,(0 : Int),⟨none,0,0⟩,(0 : Int)) : Sl × Int × Sl × Int)) (I := fun (t : Sl × Int × Sl × Int) H' => ∃ j : Nat,t.2.2.2 = (j : Int) ∧ j ≤ sp ∧ qa H H' ∧ Own H.size H' t.2.2.1 1 wU (tblL M j)) (m := fun (t : Sl × Int × Sl × Int) _ => qlQ ((sp : Int) - t.2.2.2)) ?_ ⟨0,rfl,by omega,qa.refl _,.inl ⟨rfl,rfl⟩⟩
  intro t H1 hI it hit
  obtain ⟨t1,t2,t3,t4⟩ := t
  obtain ⟨j,e1,hj,hK,hO⟩ := hI
  simp only at e1 hO
  subst e1
  have hL := h.keeps hK
  unfold qK.l2 qK.j1
  simp only [qi,decide_eq_true_eq,qd,hL.c0,qE]
  by_cases hz : (j : Int) < (sp : Int)
  ·rw [if_pos hz,qg (n := (3 : Int) + j) (by omega) (by omega)]
   refine qJ.s hL.m ?_
   rw [Mem.reg_up hd' (by omega),if_neg (by simp)]
   simp only [qp]
   refine qbB (H0 := H) (B := H.size) (f := wU) (x := M.whose j) (l := tblL M j) (fun _ => rfl) rfl hO (qlS _) hK.1 hK (by rw [qcp]; simp only [lim]; omega) ?_
   intro s' H' hO' hK' _ _
   rw [qg (n := (j : Int) + 1) (by omega) (by omega)]
   refine hit _ _ ⟨j + 1,by simp,by omega,hK',?_⟩ (by simp only; omega)
   have : tblL M (j + 1) = tblL M j ++ [M.whose j] := by simp [tblL,qm0]
   rw [this]; exact hO'
  ·rw [if_neg hz]
   refine qao.s hL.m ?_
   rw [hd',if_neg (by simp)]
   have : j = sp := by omega
   subst this
   exact ⟨At.of_keeps hK,hO,trivial⟩
variable {t : List Int} {sl : Sl}
theorem qcf.s {k : Int → AH → Prop} {n : Int} (h : 1 ≤ n ∧ n ≤ 1000000) (hk : k (n + 1) H) : qcf n H k := by
 refine qcf.link ?_
 unfold qcf.b
 simp only [qi,decide_eq_true_eq]
 rw [if_neg (by omega),qbE (n := n) (by omega) (by omega),qbE (by omega) (by omega)]
 exact hk
theorem cellT (hR : ql5 H sl 1 wU t) {j : Nat} (hj : j < t.length) : ∃ ad,sl.a = some ad ∧ AH.cell? H (qlL ad (j * 1)) = some (.int .u64 (t.getD j 0)) := by
 obtain ⟨b,o,h1,_,h3⟩ := rows1 (g := fun v => qlI .u64 v) hR hj
 exact ⟨_,h1,by rw [h3,qlM,qlK hj]; rfl⟩
theorem qaH.s {k : Int → AH → Prop} {n slot : Nat} (hR : ql5 H sl 1 wU t) (ht : t.length ≤ 16) (hs : slot < n) (hn : n ≤ 1000000) (hk : k (placeT t n slot t.length : Nat) H) : qaH sl n slot H k := by
 refine qaH.link ?_
 unfold qaH.b qaH.j2
 simp only [qi,decide_eq_true_eq]
 rw [if_neg (by omega),if_neg (by omega),hR.1,qg (n := (t.length : Int) - 1) (by omega) (by omega)]
 refine qI (t := (((0 : Int),((t.length : Int) - 1)) : Int × Int)) (I := fun (t' : Int × Int) H' => H' = H ∧ ∃ j : Nat,t'.2 = (j : Int) - 1 ∧ j ≤ t.length ∧ placeT t n slot t.length = placeT t n slot j) (m := fun (t' : Int × Int) _ => qlQ (t'.2 + 1)) ?_ ⟨rfl,t.length,rfl,qlS _,rfl⟩
 intro t' H1 hI it hit
 obtain ⟨t1,t2⟩ := t'
 obtain ⟨rfl,j,e,hj,hp⟩ := hI
 simp only at e
 subst e
 unfold qaH.l1
 simp only [qi,decide_eq_true_eq,hR.1]
 by_cases h0 : (j : Int) - 1 ≥ 0
 ·rw [if_pos h0]
  refine ⟨by omega,?_⟩
  obtain ⟨i,rfl⟩ : ∃ i,j = i + 1 := ⟨j - 1,by omega⟩
  obtain ⟨ad,ha,hc⟩ := cellT hR (j := i) (by omega)
  have e1 : (((i + 1 : Nat) : Int) - 1).toNat = i := by omega
  rw [ha,qd,e1,hc,qf,qbE (n := (slot : Int)) (by omega) (by omega),qbE (n := (slot : Int) + 1) (by omega) (by omega)]
  simp only [beq_iff_eq]
  simp only [placeT] at hp
  by_cases hw : t.getD i 0 = (slot : Int) + 1
  ·rw [if_pos hw] at hp ⊢
   rw [qg (by omega) (by omega)]
   rw [hp] at hk
   have : (n : Int) + (((i + 1 : Nat) : Int) - 1) = ((n + i : Nat) : Int) := by omega
   rw [this]; exact hk
  ·rw [if_neg hw] at hp ⊢
   rw [qg (by omega) (by omega)]
   exact hit _ _ ⟨rfl,i,by simp only; omega,by omega,hp⟩ (by simp only; omega)
 ·rw [if_neg h0]
  have : j = 0 := by omega
  subst this
  rw [hp] at hk
  exact hk
theorem qbD.s {k : Int → AH → Prop} (hR : ql5 H sl 1 wU t) (ht : t.length ≤ 16) (h1 : nextT t t.length < t.length → k (nextT t t.length : Nat) H) (h0 : nextT t t.length = t.length → k (-1) H) : qbD sl H k := by
 refine qbD.link ?_
 unfold qbD.b
 refine qI (t := (((0 : Int),(0 : Int)) : Int × Int)) (I := fun (t' : Int × Int) H' => H' = H ∧ ∃ j : Nat,t'.2 = (j : Int) ∧ j ≤ t.length ∧ nextT t t.length = nextT t (t.length - j)) (m := fun (t' : Int × Int) _ => qlQ ((t.length : Int) - t'.2)) ?_ ⟨rfl,0,rfl,qmT _,rfl⟩
 intro t' H1 hI it hit
 obtain ⟨t1,t2⟩ := t'
 obtain ⟨rfl,j,e,hj,hp⟩ := hI
 simp only at e
 subst e
 unfold qbD.l1
 simp only [qi,decide_eq_true_eq,hR.1]
 by_cases hlt : (j : Int) < (t.length : Int)
 ·rw [if_pos hlt]
  refine ⟨by omega,?_⟩
  obtain ⟨ad,ha,hc⟩ := cellT hR (j := j) (by omega)
  rw [ha,qd,qlP,hc,qf]
  simp only [beq_iff_eq]
  obtain ⟨q,hq⟩ : ∃ q,t.length - j = q + 1 := ⟨t.length - j - 1,by omega⟩
  have e1 : t.length - (q + 1) = j := by omega
  rw [hq] at hp
  simp only [nextT,e1] at hp
  by_cases hw : t.getD j 0 = 0
  ·rw [if_pos hw] at hp ⊢
   rw [hp] at h1
   exact h1 (by omega)
  ·rw [if_neg hw] at hp ⊢
   rw [qg (by omega) (by omega)]
   exact hit _ _ ⟨rfl,j + 1,by simp,by omega,by rw [hp,show t.length - (j + 1) = q by omega]⟩ (by simp only; omega)
 ·rw [if_neg hlt]
  have e2 : t.length - j = 0 := by omega
  rw [e2] at hp
  exact h0 hp
theorem qa2.s {k : Bool → AH → Prop} {n : Int} (hR : ql5 H sl 1 wU t) (ht : t.length ≤ 16) (htn : ∀ v ∈ t,0 ≤ v) (hn : 1 ≤ n ∧ n ≤ 1000000) (hk : k (decide (MayT t n)) H) : qa2 sl n H k := by
 refine qa2.link ?_
 unfold qa2.b
 refine qI (t := ((false,(0 : Int)) : Bool × Int)) (I := fun (t' : Bool × Int) H' => H' = H ∧ ∃ j : Nat,t'.2 = (j : Int) ∧ j ≤ t.length ∧ ∀ i,i < j → mayAt t n i) (m := fun (t' : Bool × Int) _ => qlQ ((t.length : Int) - t'.2)) ?_ ⟨rfl,0,rfl,qmT _,fun i hi => by omega⟩
 intro t' H1 hI it hit
 obtain ⟨t1,t2⟩ := t'
 obtain ⟨rfl,j,e,hj,hall⟩ := hI
 simp only at e
 subst e
 unfold qa2.l2 qa2.j1
 simp only [qi,decide_eq_true_eq,hR.1]
 by_cases hlt : (j : Int) < (t.length : Int)
 ·rw [if_pos hlt]
  refine ⟨by omega,?_⟩
  obtain ⟨ad,ha,hc⟩ := cellT hR (j := j) (by omega)
  rw [ha,qd,qlP,hc,qf]
  refine qcf.s hn ?_
  rw [qg (n := (j : Int) + 1) (by omega) (by omega)]
  have bad : ¬ mayAt t n j → k false H1 := by
   intro hb
   rw [decide_eq_false (fun hM => hb (hM.2 j (by omega)))] at hk
   exact hk
  have good : mayAt t n j → it (t1,(j : Int) + 1) H1 := by
   intro hg
   refine hit _ _ ⟨rfl,j + 1,by simp,by omega,fun i hi => ?_⟩ (by simp only; omega)
   rcases Nat.lt_or_ge i j with h | h
   ·exact hall i h
   ·have : i = j := by omega
    subst this; exact hg
  by_cases h1 : t.getD j 0 > n + 1
  ·rw [if_pos h1]; exact bad (fun h => by have := h.1; omega)
  ·rw [if_neg h1]
   by_cases h2 : (j : Int) > 0
   ·rw [if_pos h2]
    by_cases h3 : t.getD j 0 = 0
    ·rw [if_neg (by rw [h3]; simp)]
     exact good ⟨by omega,fun _ hh => absurd h3 hh⟩
    ·rw [if_pos (by simpa using h3),qg (by omega) (by omega)]
     refine ⟨by omega,?_⟩
     obtain ⟨ad',ha',hc'⟩ := cellT hR (j := j - 1) (by omega)
     rw [ha] at ha'
     injection ha' with ha'
     subst ha'
     have e1 : ((j : Int) - 1).toNat = j - 1 := by omega
     rw [qd,e1,hc',qf]
     by_cases h4 : t.getD (j - 1) 0 = 0
     ·rw [if_pos (by simpa using h4)]
      exact bad (fun h => h.2 (by omega) h3 h4)
     ·rw [if_neg (by simpa using h4)]
      exact good ⟨by omega,fun _ _ => h4⟩
   ·rw [if_neg h2]
    exact good ⟨by omega,fun h => by omega⟩
 ·rw [if_neg hlt]
  have : j = t.length := by omega
  subst this
  rw [show decide (n ≥ 1) = decide (MayT t n) from decide_eq_decide.2 ⟨fun h => ⟨h,hall⟩,fun h => h.1⟩]
  exact hk
end
section
variable {H : AH} {x p c n sp : Nat} {M : Mem} {slot : Int}
theorem qf0.s {k : Int → Sl → Int → AH → Prop} (h : LAt H x p c n sp M) (h1 : ¬ (0 ≤ slot ∧ slot < n) → k 0 ⟨none,0,0⟩ 1 H) (h2 : 0 ≤ slot ∧ slot < n → M.down = true → k slot ⟨none,0,0⟩ 2 H)
  (h3 : 0 ≤ slot ∧ slot < n → M.down = false → ∀ s,SlAt H.size sp s → k (M.place n slot.toNat sp : Nat) s 0 (H.push (tblO M sp))) : qaw (some ⟨x,0,none⟩) slot H k := by
 have hn := h.n200
 have hsp := h.sp16
 refine qaw.link ?_
 unfold qaw.b qaw.j1
 simp only [qlZ,qi,qlU,if_false,if_true,qd,h.c1,qf,decide_eq_true_eq]
 by_cases hs : slot < 0
 ·rw [if_pos hs]; exact h1 (by omega)
 rw [if_neg hs]
 by_cases hs' : slot ≥ (n : Int)
 ·rw [if_pos hs']; exact h1 (by omega)
 rw [if_neg hs']
 obtain ⟨sl,rfl⟩ := qma (show 0 ≤ slot by omega)
 refine qfW.s h ?_ ?_
 ·intro hd
  rw [h.c1,qf]
  refine qaH.s (t := []) qiw (by simp) (by omega) (by omega) ?_
  exact h2 ⟨by omega,by omega⟩ hd
 ·intro hd s hs
  have hL := h.push (tblO M sp)
  rw [hL.c1,qf]
  have hR : ql5 (H.push (tblO M sp)) s 1 wU (tblL M sp) := qfQ (b := H.size) (fun _ => rfl) (fun _ => rfl) (by rw [qcp]; exact hs) (by simp [qe]) (by rw [qm,if_pos rfl]; rfl)
  refine qaH.s hR (by rw [qcp]; exact hsp) (by omega) (by omega) ?_
  rw [qcp,qko _ _ _ _ (qlS _)]
  exact h3 ⟨by omega,by omega⟩ hd s hs
theorem qkB (h : LAt H x p c n sp M) : isLine (lget n sp M slot).1 := by
 unfold lget
 split
 ·rename_i hs
  split
  ·exact qbb
  ·have hp := qeo (M := M) (n := n) (sp := sp) (s := slot.toNat) (by omega)
   have hlen := h.len
   have : M.cl (M.place n slot.toNat sp) ∈ M.cs := by
    unfold Mem.cl
    rw [qlM,qlK (by omega)]
    exact ql1 _
   exact h.m.ok.lines _ this
 ·exact qbb
theorem qhk.s {k : List Value → Int → AH → Prop} (h : LAt H x p c n sp M) (hk : k (lineV (lget n sp M slot).1) (lget n sp M slot).2 H) : qbR (some ⟨x,0,none⟩) slot H k := by
 refine canon2 (κ := .agg) (μ := .int .i64) (by simp) (by simp) (qdp _) rfl (qbR.link ?_) hk
 unfold qbR.b
 rw [qp,zeroV]
 have hL := h.push ⟨lineV (qlN 8 0),.rw,0⟩
 have fin : ∀ {H1 : AH} {l : List Int} {Q : List Value → AH → Prop},qa (H.push ⟨lineV (qlN 8 0),.rw,0⟩) H1 → isLine l → (∀ H',qa H H' → Q (lineV l) H') →
   ((lineV l).length = 8 ∧ qmq (lineV l) qo = true) ∧ stC H1 ⟨H.size,0,none⟩ (lineV l) fun Hs => ldA Hs ⟨H.size,0,none⟩ 8 fun r0 => Q r0 Hs := by
  intro H1 l Q hk hl hQ
  have hg : H1.get H.size = ⟨lineV (qlN 8 0),.rw,0⟩ := by rw [hk.2 _ (by simp [qe]),qm,if_pos rfl]
  refine ⟨⟨qr hl.1,qaD _⟩,stC_to ⟨rfl,by rw [hg],by rw [hg,qr hl.1]; simp only [qr (l := qlN 8 0) rfl]; omega⟩ (qdE rfl hl.1 hg) ?_⟩
  have hrow : AH.row? (H1.upd H.size ⟨lineV l,.rw,0⟩) ⟨H.size,0,none⟩ 8 = some (lineV l) := by
   simp only [AH.row?,qu,if_true,ql4,qlU,if_false,qmY]
   rw [if_neg (by simp),qmx (by rw [qr hl.1]; omega),if_pos ⟨by rw [qr hl.1]; omega,qaD _⟩]
  rw [ql hrow]
  exact hQ _ ((((qa.refl H).push _).trans hk).upd (qlS _) _)
 have hline := qkB (slot := slot) h
 unfold lget at hline ⊢
 simp only [qi]
 refine qf0.s hL ?_ ?_ ?_
 ·intro hs
  rw [if_neg hs] at hline ⊢
  rw [if_pos (by simp)]
  exact fin (Q := fun r H' => At H H' H ∧ r = _ ∧ _) (qa.refl _) qbb fun H' hk => ⟨At.of_keeps hk,rfl,rfl⟩
 ·intro hs hd
  rw [if_pos hs,if_pos hd] at hline ⊢
  rw [if_pos (by simp)]
  exact fin (Q := fun r H' => At H H' H ∧ r = _ ∧ _) (qa.refl _) qbb fun H' hk => ⟨At.of_keeps hk,rfl,rfl⟩
 ·intro hs hd s _
  rw [if_pos hs,if_neg (show ¬ M.down = true by simp [hd])] at hline ⊢
  rw [if_neg (by simp)]
  have hL2 := hL.push (tblO M sp)
  rw [qd,hL2.c0,qE]
  refine qbI.s hL2.m ?_
  have hp := qeo (M := M) (n := n) (sp := sp) (s := slot.toNat) (by omega)
  have hlen := h.len
  have hg : M.get ((M.place n slot.toNat sp : Nat) : Int) = (M.view n sp slot.toNat,0) := by
   unfold Mem.get
   rw [if_pos ⟨by omega,by omega⟩,if_neg (by simp [hd])]; rfl
  rw [hg]
  exact fin (Q := fun r H' => At H H' H ∧ r = _ ∧ _) ((qa.refl _).push _) hline fun H' hk => ⟨At.of_keeps hk,rfl,rfl⟩
theorem lgo_ok {j slot : Nat} {d : List Int} (hd : isLine d) (hs : (slot : Int) + 1 ≤ 18446744073709551615) (hn : n ≤ 1000000) : ∀ {M : Mem},M.ok → (lgo n sp slot d j M).1.ok := by
 induction j with
 | zero => intro M h; exact h
 | succ j ih =>
  intro M h
  unfold lgo
  have h1 := Mem.put_ok (i := ((n + (sp - (j + 1)) : Nat) : Int)) h hd
  simp only
  split
  ·exact Mem.set_ok h1 (by unfold isU; omega)
  ·split
   ·have h2 := Mem.set_ok (i := ((3 + (sp - (j + 1)) : Nat) : Int)) (v := (n : Int) + 1) h1 (by unfold isU; omega)
    split
    ·exact ih h2
    ·exact h2
   ·exact h1
theorem lput_ok {d : List Int} (hd : isLine d) (hn : n ≤ 1000000) (h : M.ok) : (lput n sp M slot d).1.ok := by
 unfold lput
 split
 ·rename_i hs
  split
  ·exact h
  ·simp only
   split
   ·exact lgo_ok hd (by omega) hn (Mem.put_ok h hd)
   ·exact Mem.put_ok h hd
 ·exact h
theorem lgo_len {j slot : Nat} {d : List Int} : ∀ {M : Mem},(lgo n sp slot d j M).1.cs.length = M.cs.length := by
 induction j with
 | zero => intro M; rfl
 | succ j ih =>
  intro M
  unfold lgo
  simp only
  split
  ·rw [Mem.set_len,Mem.put_len]
  ·split
   ·split
    ·rw [ih,Mem.set_len,Mem.put_len]
    ·rw [Mem.set_len,Mem.put_len]
   ·rw [Mem.put_len]
theorem qej {d : List Int} : (lput n sp M slot d).1.cs.length = M.cs.length := by
 unfold lput
 split
 ·split
  ·rfl
  ·simp only
   split
   ·rw [lgo_len,Mem.put_len]
   ·rw [Mem.put_len]
 ·rfl
theorem qeA.s {d : List Int} {k : Int → AH → Prop} (h : LAt H x p c n sp M) (hd : isLine d) (hk : k (lput n sp M slot d).2 (setM H p c (lput n sp M slot d).1)) : qaC (some ⟨x,0,none⟩) slot (lineV d) H k := by
 have hn := h.n200
 have hsp := h.sp16
 have hlp := h.m.lp
 have hlc := h.m.lc
 have hlx := h.lx
 have key : ∀ {B : AH} {M' : Mem},qa H B → At H (setM B p c M') (setM H p c M') := by
  intro B M' hB
  refine h.m.at fun b hb => ?_
  simp only [qcJ]
  rw [hB.2 b hb]
 refine qcZ (κ := .int .i64) (by simp) rfl (qaC.link ?_) hk
 unfold qaC.b
 rw [qp]
 simp only [qi]
 have hL := h.push ⟨lineV d,.rw,0⟩
 have hgd : (H.push ⟨lineV d,.rw,0⟩).get H.size = ⟨lineV d,.rw,0⟩ := by rw [qm,if_pos rfl]
 have hkd : qa H (H.push ⟨lineV d,.rw,0⟩) := (qa.refl H).push _
 have hsd : (H.push ⟨lineV d,.rw,0⟩).size = H.size + 1 := rfl
 generalize H.push ⟨lineV d,.rw,0⟩ = Hd at *
 unfold lput
 refine qf0.s hL ?_ ?_ ?_
 ·intro hs
  rw [if_neg hs,if_pos (by simp)]
  have := key (M' := M) hkd
  rw [h.m.same,hL.m.same] at this
  rw [h.m.same]
  exact ⟨this,rfl⟩
 ·intro hs hdn
  rw [if_pos hs,if_pos hdn,if_pos (by simp)]
  have := key (M' := M) hkd
  rw [h.m.same,hL.m.same] at this
  rw [h.m.same]
  exact ⟨this,rfl⟩
 ·intro hs hdn s hsl
  rw [if_pos hs,if_neg (show ¬ M.down = true by simp [hdn]),if_neg (by simp)]
  have hL2 := hL.push (tblO M sp)
  have hR : ql5 (Hd.push (tblO M sp)) s 1 wU (tblL M sp) := qfQ (b := Hd.size) (fun _ => rfl) (fun _ => rfl) (by rw [qcp]; exact hsl) (by simp [qe]) (by rw [qm,if_pos rfl]; rfl)
  have hsb : ∀ y,s.a = some y → y.block = Hd.size := by
   intro y hy
   rcases hsl with rfl | ⟨_,rfl⟩
   ·injection hy with hy; subst hy; rfl
   ·cases hy
  have hgd2 : (Hd.push (tblO M sp)).get H.size = ⟨lineV d,.rw,0⟩ := by rw [qv (by omega),hgd]
  have hkB : qa H (Hd.push (tblO M sp)) := hkd.push _
  have hsB : (Hd.push (tblO M sp)).size = H.size + 2 := by simp [qe,hsd]
  generalize hBB : Hd.push (tblO M sp) = B at *
  have rowd : ∀ M',AH.row? (setM B p c M') ⟨H.size,0,none⟩ 8 = some (lineV d) := by
   intro M'
   rw [qgk (by omega) (by omega)]
   simp only [AH.row?,hgd2,ql4,qlU,if_false,qmY]
   rw [if_neg (by simp),qmx (by rw [qr hd.1]; omega),if_pos ⟨by rw [qr hd.1]; omega,qaD _⟩]
  have rowd0 : AH.row? B ⟨H.size,0,none⟩ 8 = some (lineV d) := by have := rowd M; rwa [hL2.m.same] at this
  rw [qd,hL2.c0,qE,ql rowd0]
  refine qU.s hL2.m hd ?_
  have hok1 := Mem.put_ok (i := ((M.place n slot.toNat sp : Nat) : Int)) h.m.ok hd
  have hlen1 : (M.put ((M.place n slot.toNat sp : Nat) : Int) d).1.cs.length = M.cs.length := Mem.put_len
  simp only
  generalize M.put ((M.place n slot.toNat sp : Nat) : Int) d = R at *
  by_cases he : R.2 = 3
  ·rw [if_pos he,if_neg (by simp [he])]
   have hL3 := hL2.set hok1 hlen1
   have hR3 : ql5 (setM B p c R.1) s 1 wU (tblL M sp) := by
    refine ⟨hR.1,fun i v hv => ?_⟩
    obtain ⟨y,h1,h2,h3,h4⟩ := hR.2 i v hv
    have hb := hsb y h1
    refine ⟨y,h1,h2,h3,?_⟩
    rw [qgk (by omega) (by omega)]
    exact h4
   have hnx := qlf M (sp := sp) sp (qlS _)
   refine qbD.s hR3 (by rw [qcp]; exact hsp) ?_ ?_
   ·rw [qcp,hnx]
    intro hlt
    rw [if_neg (by simp)]
    generalize hF : lgo n sp slot.toNat d (sp - M.next sp sp) R.1 = F at *
    refine qI (t := (((0 : Int),((M.next sp sp : Nat) : Int)) : Int × Int)) (I := fun (t : Int × Int) H' => ∃ j : Nat,t.2 = ((sp - j : Nat) : Int) ∧ j ≤ sp ∧ ∃ Mi : Mem,H' = setM B p c Mi ∧ Mi.ok ∧ Mi.cs.length = M.cs.length ∧ lgo n sp slot.toNat d j Mi = F) (m := fun (t : Int × Int) _ => qlQ ((sp : Int) - t.2)) ?_ ⟨sp - M.next sp sp,by simp only; omega,by omega,R.1,rfl,hok1,hlen1,hF⟩
    intro t H4 hI it hit
    obtain ⟨t1,t2⟩ := t
    obtain ⟨j,e1,hj,Mi,rfl,hoki,hleni,hlg⟩ := hI
    simp only at e1
    subst e1
    have hLi := hL2.set hoki hleni
    unfold qaC.l1
    simp only [qi,decide_eq_true_eq,qd,hLi.c2,hLi.c1,hLi.c0,qf,qE]
    by_cases hz : ((sp - j : Nat) : Int) < (sp : Int)
    ·rw [if_pos hz]
     obtain ⟨i,rfl⟩ : ∃ i,j = i + 1 := ⟨j - 1,by omega⟩
     rw [ql (rowd Mi),qg (n := (n : Int) + ((sp - (i + 1) : Nat) : Int)) (by omega) (by omega),qg (n := (3 : Int) + ((sp - (i + 1) : Nat) : Int)) (by omega) (by omega),qg (n := ((sp - (i + 1) : Nat) : Int) + 1) (by omega) (by omega)]
     rw [show (n : Int) + ((sp - (i + 1) : Nat) : Int) = ((n + (sp - (i + 1)) : Nat) : Int) from by omega,show (3 : Int) + ((sp - (i + 1) : Nat) : Int) = ((3 + (sp - (i + 1)) : Nat) : Int) from by omega]
     refine qU.s hLi.m hd ?_
     have hok2 := Mem.put_ok (i := ((n + (sp - (i + 1)) : Nat) : Int)) hoki hd
     have hlen2 : (Mi.put ((n + (sp - (i + 1)) : Nat) : Int) d).1.cs.length = M.cs.length := by rw [Mem.put_len]; exact hleni
     rw [← hlg]
     unfold lgo at hlg ⊢
     simp only at hlg ⊢
     rw [qcI]
     generalize Mi.put ((n + (sp - (i + 1)) : Nat) : Int) d = R2 at *
     have hL4 := hL2.set hok2 hlen2
     simp only [hL4.c0,hL4.c1,qE,qf]
     by_cases e0 : R2.2 = 0
     ·rw [if_pos e0,if_pos (by simpa using e0)]
      rw [qbE (n := slot) (by omega) (by omega),qbE (n := slot + 1) (by omega) (by omega)]
      refine qG.s hL4.m (by unfold isU; omega) ?_
      rw [qcI,show ((slot.toNat : Nat) : Int) + 1 = slot + 1 from by omega]
      exact ⟨key hkB,rfl⟩
     ·rw [if_neg e0,if_neg (by simpa using e0)]
      rw [if_neg e0] at hlg
      by_cases e3 : R2.2 = 3
      ·rw [if_pos e3,if_pos (by simpa using e3)]
       rw [if_pos e3] at hlg
       refine qcf.s (by have := h.n1; omega) ?_
       simp only [hL4.c0,qE]
       refine qG.s hL4.m (by unfold isU; omega) ?_
       rw [qcI]
       have hok3 := Mem.set_ok (i := ((3 + (sp - (i + 1)) : Nat) : Int)) (v := (n : Int) + 1) hok2 (by unfold isU; omega)
       have hlen3 : (R2.1.set ((3 + (sp - (i + 1)) : Nat) : Int) ((n : Int) + 1)).1.cs.length = M.cs.length := by rw [Mem.set_len]; exact hlen2
       generalize R2.1.set ((3 + (sp - (i + 1)) : Nat) : Int) ((n : Int) + 1) = Q at *
       by_cases e4 : Q.2 = 0
       ·rw [if_pos e4,if_neg (by simp [e4])]
        rw [if_pos e4] at hlg
        exact hit _ _ ⟨i,by simp only; omega,by omega,Q.1,rfl,hok3,hlen3,hlg⟩ (by simp only; omega)
       ·rw [if_neg e4,if_pos (by simpa using e4)]
        exact ⟨key hkB,rfl⟩
      ·rw [if_neg e3,if_neg (by simpa using e3)]
       exact ⟨key hkB,rfl⟩
    ·rw [if_neg hz]
     have : j = 0 := by omega
     subst this
     rw [← hlg]
     exact ⟨key hkB,rfl⟩
   ·rw [qcp,hnx]
    intro heq
    rw [if_pos (by simp),heq,Nat.sub_self]
    exact ⟨key hkB,rfl⟩
  ·rw [if_neg he,if_pos (by simpa using he)]
   exact ⟨key hkB,rfl⟩
end
section
variable {M : Mem} {n sp k : Nat}
theorem LV.may (h : LV M n sp k) : MayT (tblL M sp) n := by
 refine ⟨by have := h.n1; omega,fun i hi => ?_⟩
 rw [qcp] at hi
 unfold mayAt
 rw [qfb M hi]
 rcases Nat.lt_or_ge i k with hk | hk
 ·have := h.used i hk
  refine ⟨this.2,fun h0 _ => ?_⟩
  rw [qfb M (show i - 1 < sp by omega)]
  have := h.used (i - 1) (by omega)
  omega
 ·rw [h.free i hk hi]
  exact ⟨by have := h.n1; omega,fun _ hh => absurd rfl hh⟩
theorem LV.zero (hl : M.cs.length = n + sp) (hn : 1 ≤ n) (hs : sp ≤ 16) (h : ∀ i,i < sp → M.whose i = 0) : LV M n sp 0 :=
 ⟨hl,hn,hs,qmT _,fun i hi => by omega,fun i _ hi => h i hi⟩
theorem qkh {s : Nat} (h : ∀ i,i < sp → M.whose i = 0) : M.view n sp s = (M.cl s).line := by
 unfold Mem.view
 rcases qda M n s sp with h1 | ⟨j,h1,_,h3⟩
 ·rw [h1]
 ·have := h j h1; omega
theorem qhx {n : Nat} {limits : List Int} {i : Nat} (hi : i < 16) : (Mem.new n limits).whose i = 0 := by
 have : 3 + i < 35 := by omega
 unfold Mem.whose Mem.new
 rw [qlM,List.getElem?_replicate,if_pos this]
 rfl
end
section
variable {H : AH} {p c : Nat} {M : Mem} {n sp : Int}
theorem qaY.s {k : Option Addr → AH → Prop} (hm : qC H p c M) (hnr : isI n) (hsr : isI sp)
  (h0 : ¬ (1 ≤ n ∧ 0 ≤ sp ∧ sp ≤ 16 ∧ (M.cs.length : Int) = n + sp ∧ M.down = false ∧ MayT (tblL M sp.toNat) n) → k none H)
  (h1 : 1 ≤ n ∧ 0 ≤ sp ∧ sp ≤ 16 ∧ (M.cs.length : Int) = n + sp ∧ M.down = false ∧ MayT (tblL M sp.toNat) n → ∀ H',LAt H' H.size p c n.toNat sp.toNat M → qa H H' → H.size < H'.size → k (some ⟨H.size,0,none⟩) H') : qaY (some ⟨p,0,none⟩) n sp H k := by
 have hlen := hm.ok.len
 unfold isI at hnr hsr
 by_cases he : 1 ≤ n ∧ 0 ≤ sp ∧ sp ≤ 16 ∧ (M.cs.length : Int) = n + sp
 ·obtain ⟨n',rfl⟩ := qma (show 0 ≤ n by omega)
  obtain ⟨sp',rfl⟩ := qma (show 0 ≤ sp by omega)
  simp only [qlP] at h0 h1
  have common : ∀ {Q : Option Addr → AH → Prop},(M.down = true → ∀ H',qa H H' → Q none H') → (M.down = false → ¬ MayT (tblL M sp') n' → ∀ H',qa H H' → Q none H') →
    (M.down = false → MayT (tblL M sp') n' → ∀ H',LAt H' H.size p c n' sp' M → qa H H' → H.size < H'.size → Q (some ⟨H.size,0,none⟩) H') → qaY.b (some ⟨p,0,none⟩) n' sp' H Q := by
   intro Q q1 q2 q3
   unfold qaY.b qaY.j1
   simp only [qlZ,qi,qlU,if_false,decide_eq_true_eq]
   rw [if_neg (by omega),if_neg (by omega),if_neg (by omega)]
   refine qai.s hm ?_
   rw [qg (by omega) (by omega),if_neg (by simp; omega)]
   simp only [qp]
   have hL : LAt (H.push (lobj p n' sp')) H.size p c n' sp' M :=
    ⟨by rw [qm,if_pos rfl],by simp [qe],by have := hm.lp; omega,by have := hm.lc; omega,hm.push _,by omega,by omega,by omega⟩
   have e : (⟨[(qlO (some ⟨p,0,none⟩)),(qlI .i64 (n' : Int)),(qlI .i64 (sp' : Int))],.rw,0⟩ : AObj) = lobj p n' sp' := rfl
   rw [e]
   refine qfW.s hL ?_ ?_
   ·intro hd
    rw [if_pos (by simp)]
    exact q1 hd _ ((qa.refl H).push _)
   ·intro hd s hs
    rw [if_neg (by simp)]
    have hR : ql5 ((H.push (lobj p n' sp')).push (tblO M sp')) s 1 wU (tblL M sp') := qfQ (b := (H.push (lobj p n' sp')).size) (fun _ => rfl) (fun _ => rfl) (by rw [qcp]; exact hs) (by simp [qe]) (by rw [qm,if_pos rfl]; rfl)
    refine qa2.s hR (by rw [qcp]; omega) ?_ (by omega) ?_
    ·intro v hv
     simp only [tblL,qml,qmJ] at hv
     obtain ⟨i,hi,rfl⟩ := hv
     unfold Mem.whose
     have hr := hm.ok.regs
     rw [qlM,qlK (by omega),qms]
     exact (hm.ok.regU _ (ql1 _)).1
    ·by_cases hM : MayT (tblL M sp') n'
     ·rw [if_neg (by simp [hM])]
      exact q3 hd hM _ (hL.push _) (((qa.refl H).push _).push _) (by simp [qe]; omega)
     ·rw [if_pos (by simp [hM])]
      exact q2 hd hM _ (((qa.refl H).push _).push _)
  by_cases hgood : M.down = false ∧ MayT (tblL M sp') n'
  ·refine qaY.link (common ?_ ?_ ?_)
   ·intro hd; rw [hgood.1] at hd; cases hd
   ·intro _ hM; exact absurd hgood.2 hM
   ·intro hd hM H' hL hK hs
    exact h1 ⟨by omega,by omega,by omega,by omega,hd,hM⟩ H' hL hK hs
  ·refine qcZ (κ := .ptr) (v := none) (by simp) rfl (qaY.link (common ?_ ?_ ?_)) (h0 ?_)
   ·intro hd H' hk; exact ⟨At.of_keeps hk,rfl⟩
   ·intro _ _ H' hk; exact ⟨At.of_keeps hk,rfl⟩
   ·intro hd hM; exact absurd ⟨hd,hM⟩ hgood
   ·intro h; exact hgood ⟨h.2.2.2.2.1,h.2.2.2.2.2⟩
 ·refine qaY.link ?_
  have hk := h0 (fun h => he ⟨h.1,h.2.1,h.2.2.1,h.2.2.2.1⟩)
  unfold qaY.b qaY.j1
  simp only [qlZ,qi,qlU,if_false,if_true,decide_eq_true_eq]
  by_cases h1 : n < 1
  ·rw [if_pos h1]; exact hk
  rw [if_neg h1]
  by_cases h2 : sp < 0
  ·rw [if_pos h2]; exact hk
  rw [if_neg h2]
  by_cases h3 : sp > 16
  ·rw [if_pos h3]; exact hk
  rw [if_neg h3]
  refine qai.s hm ?_
  rw [qg (by omega) (by omega),if_pos (by simp; omega)]
  exact hk
theorem qeA.g {x n sp : Nat} {slot r : Int} {d : List Int} {M' : Mem} {k : Int → AH → Prop} (h : LAt H x p c n sp M) (hd : isLine d) (e : lput n sp M slot d = (M',r)) (hk : ∀ H',LAt H' x p c n sp M' → Frm H H' p c → k r H') : qaC (some ⟨x,0,none⟩) slot (lineV d) H k := by
 refine qeA.s h hd ?_
 have hn := h.n200
 have ok := lput_ok (n := n) (sp := sp) (slot := slot) hd (by omega) h.m.ok
 have hl := qej (n := n) (sp := sp) (M := M) (slot := slot) (d := d)
 rw [e] at ok hl ⊢
 exact hk _ (h.set ok hl) (Frm.set _ _ _ _)
end
def putV (q : Int × List Int) : List Value := [.int .i64 q.1] ++ lineV q.2
structure qcm (q : Int × List Int) : Prop where
 i : isI q.1
 line : isLine q.2
theorem qe6 {q : Int × List Int} (h : qcm q) : (putV q).length = 9 := by simp [putV,lineV,h.line.1]
theorem putV_ok (q : Int × List Int) : (putV q).all qo = true := by simp [putV,lineV,u64V,qo]
structure PutAt (H : AH) (o : Nat) (q : Int × List Int) : Prop where
 g : ∃ e,H.get o = ⟨putV q,.rw,e⟩
 ok : qcm q
theorem PutAt.c0 {H : AH} {o : Nat} {q : Int × List Int} (h : PutAt H o q) : AH.cell? H (qlL ⟨o,0,none⟩ 0) = some (.int .i64 q.1) := by
 obtain ⟨⟨e,h⟩,_⟩ := h; simp [qk,AH.cell?,h,putV]
theorem PutAt.row {H : AH} {o : Nat} {q : Int × List Int} (h : PutAt H o q) : AH.row? H (qlL ⟨o,0,none⟩ 1) 8 = some (lineV q.2) := by
 obtain ⟨⟨e,h⟩,hok⟩ := h
 have e8 : ((putV q).drop 1).take 8 = lineV q.2 := by
  simp only [putV,qmw,List.nil_append,List.drop_succ_cons,qmY]
  rw [qmx (by simp [lineV,hok.line.1])]
 simp only [qk,AH.row?,h,ql4,qlU,if_false,ql3]
 rw [if_neg (by simp),e8,if_pos ⟨by rw [qe6 hok]; omega,qaD _⟩]
theorem PutAt.keep {H H' : AH} {o : Nat} {q : Int × List Int} (h : PutAt H o q) (hg : H'.get o = H.get o) : PutAt H' o q := ⟨by rw [hg]; exact h.g,h.ok⟩
theorem new_put {H : AH} {q : Int × List Int} (h : qcm q) {cs : List Value} {K : Nat → AH → Prop} (hn : cs.length = 9) (hK : PutAt (H.push ⟨putV q,.rw,0⟩) H.size q → K H.size (H.push ⟨putV q,.rw,0⟩)) :
  newC H ⟨cs,.rw,0⟩ fun o H1 => ((putV q).length = 9 ∧ qmq (putV q) qo = true) ∧ stC H1 ⟨o,0,none⟩ (putV q) fun Hs => K o Hs :=
 new_st hn (qe6 h) (putV_ok q) (hK ⟨⟨0,by simp [qm]⟩,h⟩)
theorem qi9 (n : Nat) : zerosOf n (lineV (qlN 8 0)) = (qlN n (qlN 8 (0 : Int))).flatMap lineV := by
 unfold zerosOf
 rw [List.flatMap_def,List.map_replicate]
theorem qjL (M : Mem) (n sp s : Nat) : M.power.view n sp s = M.view n sp s := qdf rfl rfl
theorem qjd (M : Mem) (n sp s : Nat) (a b : Int) : (M.setCut a b).view n sp s = M.view n sp s := qdf rfl rfl
def gapN (n mv : Nat) : Nat := n - mv % (n + 1)
def baseN (n mv line : Nat) : Nat := (line + mv / (n + 1) % n) % n
def slotN (n mv line : Nat) : Nat := if gapN n mv ≤ baseN n mv line then baseN n mv line + 1 else baseN n mv line
def fromN (n mv : Nat) : Nat := if gapN n mv = 0 then n else gapN n mv - 1
section
variable {n mv line line' : Nat}
theorem gapN_le : gapN n mv ≤ n := by unfold gapN; omega
theorem qe3 (hn : 1 ≤ n) : baseN n mv line < n := Nat.mod_lt _ (by omega)
theorem qdz (hn : 1 ≤ n) : slotN n mv line ≤ n := by
 have := qe3 (mv := mv) (line := line) hn
 unfold slotN; split <;> omega
theorem qkg (hn : 1 ≤ n) : slotN n mv line ≠ gapN n mv := by unfold slotN; split <;> omega
theorem qkz (h : line < n) (h' : line' < n) (e : baseN n mv line = baseN n mv line') : line = line' := by
 unfold baseN at e
 generalize mv / (n + 1) % n = t at e
 have h1 : ∀ a,a < n → (a + t) % n = (a + t % n) % n := fun a _ => by rw [Nat.add_mod,Nat.add_mod a (t % n),Nat.mod_mod]
 rw [h1 _ h,h1 _ h'] at e
 have ht : t % n < n := Nat.mod_lt _ (by omega)
 generalize t % n = u at e ht
 have k : ∀ a,a < n → (a + u) % n = if a + u < n then a + u else a + u - n := by
  intro a ha
  split
  ·exact Nat.mod_eq_of_lt (by assumption)
  ·rw [Nat.mod_eq_sub_mod (by omega),Nat.mod_eq_of_lt (by omega)]
 rw [k _ h,k _ h'] at e
 split at e <;> split at e <;> omega
theorem qkc (hl : line < n) (hl' : line' < n) (e : slotN n mv line = slotN n mv line') : line = line' := by
 refine qkz (mv := mv) hl hl' ?_
 unfold slotN at e
 split at e <;> split at e <;> omega
theorem qjS (hn : 1 ≤ n) (hl : line < n) : slotN n (mv + 1) line = if slotN n mv line = fromN n mv then gapN n mv else slotN n mv line := by
 have hb := qe3 (mv := mv) (line := line) hn
 have hb' := qe3 (mv := mv + 1) (line := line) hn
 have hm := Nat.mod_lt mv (show n + 1 > 0 by omega)
 by_cases hlast : mv % (n + 1) = n
 ·have g0 : gapN n mv = 0 := by unfold gapN; omega
  have hdiv : (mv + 1) / (n + 1) = mv / (n + 1) + 1 := by
   have h0 := Nat.div_add_mod mv (n + 1)
   have : mv + 1 = (n + 1) * (mv / (n + 1) + 1) := by rw [Nat.mul_add]; omega
   rw [this,Nat.mul_div_cancel_left _ (by omega)]
  have hmod : (mv + 1) % (n + 1) = 0 := by rw [Nat.add_mod,hlast]; by_cases h1 : n = 0 <;> simp
  have g1 : gapN n (mv + 1) = n := by unfold gapN; rw [hmod]; omega
  have hbb : baseN n (mv + 1) line = if baseN n mv line + 1 = n then 0 else baseN n mv line + 1 := by
   unfold baseN
   rw [hdiv]
   have e1 : (line + (mv / (n + 1) + 1) % n) % n = ((line + mv / (n + 1) % n) % n + 1) % n := by
    rw [Nat.add_mod_mod,Nat.add_mod_mod,Nat.mod_add_mod]; rfl
   rw [e1]
   have hlt := Nat.mod_lt (line + mv / (n + 1) % n) (show n > 0 by omega)
   generalize (line + mv / (n + 1) % n) % n = b at *
   split
   ·rename_i h; rw [h,Nat.mod_self]
   ·rw [Nat.mod_eq_of_lt (by omega)]
  unfold slotN fromN
  rw [g0,g1,hbb,if_pos rfl,if_pos (qmT _)]
  by_cases h : baseN n mv line + 1 = n
  ·rw [if_pos h,if_neg (show ¬ n ≤ 0 by omega)]
  ·rw [if_neg h,if_neg (show ¬ n ≤ baseN n mv line + 1 by omega)]
 ·have hdiv : (mv + 1) / (n + 1) = mv / (n + 1) := by
   have h0 := Nat.div_add_mod mv (n + 1)
   refine (Nat.div_eq_iff (by omega)).2 ?_
   rw [Nat.mul_comm] at h0
   constructor <;> omega
  have hmod : (mv + 1) % (n + 1) = mv % (n + 1) + 1 := by
   have h0 := Nat.div_add_mod mv (n + 1)
   have h1 := Nat.div_add_mod (mv + 1) (n + 1)
   rw [hdiv] at h1
   omega
  have hbb : baseN n (mv + 1) line = baseN n mv line := by unfold baseN; rw [hdiv]
  have g1 : gapN n (mv + 1) = gapN n mv - 1 := by unfold gapN; rw [hmod]; omega
  have g0 : gapN n mv ≠ 0 := by unfold gapN; omega
  unfold slotN fromN
  rw [hbb,g1,if_neg g0]
  generalize baseN n mv line = b at *
  generalize gapN n mv = g at *
  by_cases h : g ≤ b
  ·rw [if_pos h,if_pos (by omega),if_neg (by omega)]
  ·rw [if_neg h]
   by_cases h2 : b = g - 1
   ·rw [if_pos h2,if_pos (by omega)]; omega
   ·rw [if_neg (by omega),if_neg h2]
theorem qgb : fromN n mv ≤ n := by have := gapN_le (n := n) (mv := mv); unfold fromN; split <;> omega
end
def Mem.mv (M : Mem) : Nat := (M.regs.getD 0 0).toNat
def Mem.tview (M : Mem) (n sp line : Nat) : List Int := M.view (n + 1) sp (slotN n M.mv line)
def tmove (n sp : Nat) (M : Mem) : Mem × Int :=
 let r := lput (n + 1) sp M (gapN n M.mv : Nat) (M.view (n + 1) sp (fromN n M.mv))
 if r.2 = 0 then r.1.set 0 ((M.mv : Int) + 1) else r
def tput (n sp period : Nat) (M : Mem) (puts : Nat) (line : Int) (d : List Int) : Mem × Nat × Int :=
 if 0 ≤ line ∧ line < n then
  if M.down then (M,puts,2) else
  if puts + 1 = period then
   let r := tmove n sp M
   if r.2 = 0 then let q := lput (n + 1) sp r.1 (slotN n r.1.mv line.toNat : Nat) d; (q.1,0,q.2) else (r.1,0,r.2)
  else let q := lput (n + 1) sp M (slotN n M.mv line.toNat : Nat) d; (q.1,puts + 1,q.2)
 else (M,puts,1)
def tget (n sp : Nat) (M : Mem) (line : Int) : List Int × Int :=
 if 0 ≤ line ∧ line < n then if M.down then (qlN 8 0,2) else (M.tview n sp line.toNat,0) else (qlN 8 0,1)
structure TPut (n sp : Nat) (M : Mem) (line : Option Nat) (d : List Int) (k may : Nat) (M' : Mem) (e : Int) : Prop where
 lv : ∃ k',k ≤ k' ∧ LV M' (n + 1) sp k' ∧ (e = 3 → k' = sp)
 other : ∀ s,s < n → line ≠ some s → M'.tview n sp s = M.tview n sp s
 mv : M.mv ≤ M'.mv ∧ M'.mv ≤ M.mv + may ∧ (e = 0 → M'.mv = M.mv + may)
 regs : ∀ r,(r = 1 ∨ r = 2 ∨ 19 ≤ r) → M'.regs.getD r 0 = M.regs.getD r 0
 mask : M'.mask = M.mask
 rlen : M'.regs.length = 35
 res : (e = 0 ∧ M'.down = false ∧ ∀ s,line = some s → M'.tview n sp s = d) ∨ (e = 3 ∧ M'.down = false ∧ ∀ s,line = some s → M'.tview n sp s = M.tview n sp s) ∨
  (e = 2 ∧ M'.down = true ∧ M.cut ≠ -1 ∧ ∀ s,line = some s → M'.tview n sp s = M.tview n sp s ∨ M'.tview n sp s = d ∨ M'.tview n sp s = mixL (M.tview n sp s) d M.mask)
 cut : M.cut = -1 → M'.cut = -1
 cutge : -1 ≤ M'.cut
section
variable {M M' : Mem} {n sp k : Nat} {d : List Int}
theorem mv_same (h : M'.regs.getD 0 0 = M.regs.getD 0 0) : M'.mv = M.mv := by unfold Mem.mv; rw [h]
theorem qhu (h : LV M (n + 1) sp k) (hn : 1 ≤ n) (hr : M.regs.length = 35) (h0 : 0 ≤ M.regs.getD 0 0) (hd : M.down = false) (hc : -1 ≤ M.cut) (hlen : ∀ s,s < n + 1 → (M.view (n + 1) sp s).length = 8) :
  TPut n sp M none d k 1 (tmove n sp M).1 (tmove n sp M).2 := by
 have hg : gapN n M.mv < n + 1 := by have := gapN_le (n := n) (mv := M.mv); omega
 have hf : fromN n M.mv < n + 1 := by have := qgb (n := n) (mv := M.mv); omega
 have hP := qhY (slot := gapN n M.mv) (d := M.view (n + 1) sp (fromN n M.mv)) h hr hd hc hg (hlen _ hf)
 unfold tmove
 simp only
 generalize lput (n + 1) sp M (gapN n M.mv : Nat) (M.view (n + 1) sp (fromN n M.mv)) = R at *
 obtain ⟨⟨k1,hk1,hlv1,he1⟩,p2,p3,p4,p5,p6,p7,p8⟩ := hP
 have hmv1 : R.1.mv = M.mv := mv_same (p3 0 (by omega))
 have hview : ∀ s,s < n → R.1.tview n sp s = M.tview n sp s := by
  intro s hs
  unfold Mem.tview
  rw [hmv1]
  exact p2 _ (by have := qdz (mv := M.mv) (line := s) hn; omega) (qkg hn)
 by_cases he : R.2 = 0
 ·rw [if_pos he]
  have hup : R.1.down = false ∧ R.1.view (n + 1) sp (gapN n M.mv) = M.view (n + 1) sp (fromN n M.mv) := by
   rcases p6 with ⟨_,a,b⟩ | ⟨a,_⟩ | ⟨a,_⟩
   ·exact ⟨a,b⟩
   ·omega
   ·omega
  have hS := Mem.set_any (M := R.1) (i := 0) (v := (M.mv : Int) + 1) hup.1 (by omega) p8
  rw [show ((0 : Nat) : Int) = 0 from rfl] at hS
  generalize R.1.set 0 ((M.mv : Int) + 1) = Q at *
  have hcl : Q.1.cs.length = R.1.cs.length := by rw [hS.cs]
  have hwh : ∀ j,(Q.1.regs = R.1.regs ∨ Q.1.regs = R.1.regs.set 0 ((M.mv : Int) + 1)) → Q.1.whose j = R.1.whose j := by
   intro j hor
   unfold Mem.whose
   rcases hor with hor | hor
   ·rw [hor]
   ·rw [hor]; simp only [qlM]; rw [qmf (by omega)]
  have hvQ : ∀ s,(Q.1.regs = R.1.regs ∨ Q.1.regs = R.1.regs.set 0 ((M.mv : Int) + 1)) → Q.1.view (n + 1) sp s = R.1.view (n + 1) sp s := by
   intro s hor
   unfold Mem.view
   rw [qdP hS.cs,qdc (M' := Q.1) (M := R.1) fun j _ => by rw [hwh j hor]]
  have hlvQ : (Q.1.regs = R.1.regs ∨ Q.1.regs = R.1.regs.set 0 ((M.mv : Int) + 1)) → LV Q.1 (n + 1) sp k1 := fun hor =>
   ⟨by rw [hcl]; exact hlv1.len,hlv1.n1,hlv1.sp16,hlv1.kle,fun i hi => by rw [hwh i hor]; exact hlv1.used i hi,fun i hi hi' => by rw [hwh i hor]; exact hlv1.free i hi hi'⟩
  have hregs : ∀ r,(r = 1 ∨ r = 2 ∨ 19 ≤ r) → (Q.1.regs = R.1.regs ∨ Q.1.regs = R.1.regs.set 0 ((M.mv : Int) + 1)) → Q.1.regs.getD r 0 = M.regs.getD r 0 := by
   intro r hr' hor
   rw [← p3 r (by omega)]
   rcases hor with hor | hor
   ·rw [hor]
   ·rw [hor]; simp only [qlM]; rw [qmf (by omega)]
  have hrl : (Q.1.regs = R.1.regs ∨ Q.1.regs = R.1.regs.set 0 ((M.mv : Int) + 1)) → Q.1.regs.length = 35 := by
   rintro (hor | hor)
   ·rw [hor]; exact p5
   ·rw [hor]; simpa using p5
  have hmvold : Q.1.regs = R.1.regs → Q.1.mv = M.mv := fun hor => by rw [← hmv1]; exact mv_same (by rw [hor])
  have hmvnew : Q.1.regs = R.1.regs.set 0 ((M.mv : Int) + 1) → Q.1.mv = M.mv + 1 := by
   intro hor
   have : Q.1.regs.getD 0 0 = (M.mv : Int) + 1 := by rw [hor,qlM,qmy (by omega)]; rfl
   show (Q.1.regs.getD 0 0).toNat = _
   rw [this]; omega
  have hold : Q.1.regs = R.1.regs → ∀ s,s < n → Q.1.tview n sp s = M.tview n sp s := by
   intro hor s hs
   rw [← hview s hs]
   unfold Mem.tview
   rw [hmvold hor,hmv1,hvQ _ (.inl hor)]
  have hnew : Q.1.regs = R.1.regs.set 0 ((M.mv : Int) + 1) → ∀ s,s < n → Q.1.tview n sp s = M.tview n sp s := by
   intro hor s hs
   unfold Mem.tview
   rw [hmvnew hor,qjS hn hs,hvQ _ (.inr hor)]
   by_cases hfr : slotN n M.mv s = fromN n M.mv
   ·rw [if_pos hfr,hup.2,hfr]
   ·rw [if_neg hfr]
    have := hview s hs
    unfold Mem.tview at this
    rw [hmv1] at this
    exact this
  rcases hS.res with ⟨e',hd',hq⟩ | ⟨e',hd',hcut,hq⟩
  ·exact ⟨⟨k1,hk1,hlvQ (.inr hq),by omega⟩,fun s hs _ => hnew hq s hs,⟨by rw [hmvnew hq]; omega,by rw [hmvnew hq]; omega,fun _ => hmvnew hq⟩,fun r hr' => hregs r hr' (.inr hq),hS.mask.trans p4,hrl (.inr hq),.inl ⟨e',hd',by simp⟩,fun hc => hS.cut (p7 hc),hS.cutge⟩
  ·refine ⟨⟨k1,hk1,hlvQ hq,by omega⟩,fun s hs _ => ?_,?_,fun r hr' => hregs r hr' hq,hS.mask.trans p4,hrl hq,.inr (.inr ⟨e',hd',fun hc => hcut (p7 hc),by simp⟩),fun hc => hS.cut (p7 hc),hS.cutge⟩
   ·rcases hq with hq | hq
    ·exact hold hq s hs
    ·exact hnew hq s hs
   ·rcases hq with hq | hq
    ·rw [hmvold hq]; exact ⟨by omega,by omega,by omega⟩
    ·rw [hmvnew hq]; exact ⟨by omega,by omega,by omega⟩
 ·rw [if_neg he]
  refine ⟨⟨k1,hk1,hlv1,he1⟩,fun s hs _ => hview s hs,⟨by omega,by omega,fun h => absurd h he⟩,fun r hr' => p3 r (by omega),p4,p5,?_,p7,p8⟩
  rcases p6 with ⟨a,_⟩ | ⟨a,b,_⟩ | ⟨a,b,c,_⟩
  ·exact absurd a he
  ·exact .inr (.inl ⟨a,b,by simp⟩)
  ·exact .inr (.inr ⟨a,b,c,by simp⟩)
theorem qhc {line : Nat} (h : LV M (n + 1) sp k) (hn : 1 ≤ n) (hr : M.regs.length = 35) (hd : M.down = false) (hc : -1 ≤ M.cut) (hl : line < n) (hlen : d.length = 8) :
  TPut n sp M (some line) d k 0 (lput (n + 1) sp M (slotN n M.mv line : Nat) d).1 (lput (n + 1) sp M (slotN n M.mv line : Nat) d).2 := by
 have hs : slotN n M.mv line < n + 1 := by have := qdz (mv := M.mv) (line := line) hn; omega
 have hP := qhY (slot := slotN n M.mv line) (d := d) h hr hd hc hs hlen
 generalize lput (n + 1) sp M (slotN n M.mv line : Nat) d = R at *
 obtain ⟨⟨k1,hk1,hlv1,he1⟩,p2,p3,p4,p5,p6,p7,p8⟩ := hP
 have hmv1 : R.1.mv = M.mv := mv_same (p3 0 (by omega))
 refine ⟨⟨k1,hk1,hlv1,he1⟩,fun s hs' hne => ?_,⟨by omega,by omega,fun _ => by omega⟩,fun r hr' => p3 r (by omega),p4,p5,?_,p7,p8⟩
 ·unfold Mem.tview
  rw [hmv1]
  exact p2 _ (by have := qdz (mv := M.mv) (line := s) hn; omega) fun e => hne (by rw [qkc hl hs' e.symm])
 ·have hv : ∀ s,some line = some s → R.1.tview n sp s = R.1.view (n + 1) sp (slotN n M.mv line) ∧ M.tview n sp s = M.view (n + 1) sp (slotN n M.mv line) := by
   intro s hs'
   injection hs' with hs'
   subst hs'
   unfold Mem.tview
   rw [hmv1]
   exact ⟨rfl,rfl⟩
  rcases p6 with ⟨a,b,c⟩ | ⟨a,b,c⟩ | ⟨a,b,b',c⟩
  ·exact .inl ⟨a,b,fun s hs' => by rw [(hv s hs').1,c]⟩
  ·exact .inr (.inl ⟨a,b,fun s hs' => by rw [(hv s hs').1,(hv s hs').2,c]⟩)
  ·exact .inr (.inr ⟨a,b,b',fun s hs' => by rw [(hv s hs').1,(hv s hs').2]; exact c⟩)
theorem qeH (h : LV M (n + 1) sp k) (hok : M.ok) {s : Nat} (hs : s < n + 1) : isLine (M.view (n + 1) sp s) := by
 have hp := qeo (M := M) (n := n + 1) (sp := sp) hs
 have hlen := h.len
 have : M.cl (M.place (n + 1) s sp) ∈ M.cs := by
  unfold Mem.cl
  rw [qlM,qlK (by omega)]
  exact ql1 _
 exact hok.lines _ this
theorem qdY (hok : M.ok) : 0 ≤ M.regs.getD 0 0 := by
 have := hok.regs
 rw [qlM,qlK (by omega)]
 exact (hok.regU _ (ql1 _)).1
theorem qgn (h : LV M (n + 1) sp k) (hok : M.ok) (hmv : M.mv ≤ 4611686018427387904) : (tmove n sp M).1.ok := by
 have hl := h.len
 have hok2 := hok.len
 have hf : fromN n M.mv < n + 1 := by have := qgb (n := n) (mv := M.mv); omega
 have h1 := lput_ok (n := n + 1) (sp := sp) (slot := ((gapN n M.mv : Nat) : Int)) (qeH h hok hf) (by omega) hok
 unfold tmove
 simp only
 split
 ·exact Mem.set_ok h1 (by unfold isU; omega)
 ·exact h1
theorem qfu : (tmove n sp M).1.cs.length = M.cs.length := by
 unfold tmove
 simp only
 split
 ·rw [Mem.set_len,qej]
 ·rw [qej]
theorem qem {line period puts : Nat} (h : LV M (n + 1) sp k) (hn : 1 ≤ n) (hok : M.ok) (hmv : M.mv ≤ 4611686018427387904) (hd : M.down = false) (hl : line < n) (hlen : d.length = 8) :
  TPut n sp M (some line) d k (if puts + 1 = period then 1 else 0) (tput n sp period M puts line d).1 (tput n sp period M puts line d).2.2 ∧
  (tput n sp period M puts line d).2.1 = (if puts + 1 = period then 0 else puts + 1) := by
 unfold tput
 rw [if_pos (show 0 ≤ (line : Int) ∧ (line : Int) < (n : Int) from ⟨by omega,by omega⟩),if_neg (show ¬ M.down = true by simp [hd]),qlP]
 by_cases hp : puts + 1 = period
 ·rw [if_pos hp,if_pos hp,if_pos hp]
  have h1 := qhu (d := d) h hn hok.regs (qdY hok) hd hok.cut.1 (fun s hs => (qeH h hok hs).1)
  have hok1 := qgn h hok hmv
  simp only
  generalize tmove n sp M = R at *
  obtain ⟨⟨k1,hk1,hlv1,he1⟩,p2,p3,p4,p5,p6,p7,p8,p9⟩ := h1
  by_cases he : R.2 = 0
  ·rw [if_pos he]
   have hup : R.1.down = false := by
    rcases p7 with ⟨_,a,_⟩ | ⟨a,_⟩ | ⟨a,_⟩
    ·exact a
    ·omega
    ·omega
   have h2 := qhc (line := line) (d := d) hlv1 hn p6 hup p9 hl hlen
   simp only
   generalize lput (n + 1) sp R.1 (slotN n R.1.mv line : Nat) d = Q at *
   obtain ⟨⟨k2,hk2,hlv2,he2⟩,q2,q3,q4,q5,q6,q7,q8,q9⟩ := h2
   have hvl := p2 line hl (by simp)
   refine ⟨⟨⟨k2,by omega,hlv2,he2⟩,fun s hs hne => (q2 s hs hne).trans (p2 s hs (by simp)),⟨by omega,by omega,fun _ => by have := p3.2.2 he; omega⟩,fun r hr => (q4 r hr).trans (p4 r hr),q5.trans p5,q6,?_,fun hc => q8 (p8 hc),q9⟩,trivial⟩
   rcases q7 with ⟨a,b,c⟩ | ⟨a,b,c⟩ | ⟨a,b,b',c⟩
   ·exact .inl ⟨a,b,c⟩
   ·refine .inr (.inl ⟨a,b,fun s hs => ?_⟩)
    rw [c s hs]; injection hs with hs; subst hs; exact hvl
   ·refine .inr (.inr ⟨a,b,fun hc => b' (p8 hc),fun s hs => ?_⟩)
    have := c s hs
    injection hs with hs; subst hs
    rw [hvl,p5] at this
    exact this
  ·rw [if_neg he]
   have hvl := p2 line hl (by simp)
   refine ⟨⟨⟨k1,hk1,hlv1,he1⟩,fun s hs _ => p2 s hs (by simp),p3,p4,p5,p6,?_,p8,p9⟩,rfl⟩
   rcases p7 with ⟨a,_⟩ | ⟨a,b,_⟩ | ⟨a,b,b',_⟩
   ·exact absurd a he
   ·refine .inr (.inl ⟨a,b,fun s hs => ?_⟩)
    injection hs with hs; subst hs; exact hvl
   ·refine .inr (.inr ⟨a,b,b',fun s hs => ?_⟩)
    injection hs with hs; subst hs; exact .inl hvl
 ·rw [if_neg hp,if_neg hp,if_neg hp]
  exact ⟨qhc (line := line) (d := d) h hn hok.regs hd hok.cut.1 hl hlen,rfl⟩
end
section
variable {H : AH}
theorem qeg (a b : Nat) : qmS (a : Int) (b : Int) = ((a % b : Nat) : Int) := by
 rw [Int.tmod_eq_emod_of_nonneg (by omega)]; rfl
theorem qgw (a b : Nat) : Int.tdiv (a : Int) (b : Int) = ((a / b : Nat) : Int) := by
 rw [qmK (by omega)]; rfl
variable {n mv line : Nat}
theorem gap_may.s {k : Bool → AH → Prop} (hn : 1 ≤ n ∧ n ≤ 1000) (h : k true H) : gap_may n mv H k := by
 refine gap_may.link ?_
 unfold gap_may.b
 rw [show decide ((n : Int) ≥ 1) = true from by simp; omega,qj,show decide ((n : Int) ≤ 100000) = true from by simp; omega,qj,show decide ((mv : Int) ≥ 0) = true from by simp]
 exact h
theorem gap_Gap.s {k : Int → AH → Prop} (hn : 1 ≤ n ∧ n ≤ 1000) (h : k (gapN n mv : Nat) H) : gap_Gap n mv H k := by
 refine gap_Gap.link ?_
 unfold gap_Gap.b
 refine gap_may.s hn ?_
 rw [qmm,qc,qg (n := (n : Int) + 1) (by omega) (by omega)]
 refine ⟨by omega,?_⟩
 have e : (n : Int) + 1 = ((n + 1 : Nat) : Int) := by omega
 have hm := Nat.mod_lt mv (show n + 1 > 0 by omega)
 rw [e,qeg]
 have e2 : qlJ .i64 ((n : Int) - ((mv % (n + 1) : Nat) : Int)) = ((gapN n mv : Nat) : Int) := by
  unfold gapN
  generalize mv % (n + 1) = r at *
  rw [qg (by omega) (by omega)]; omega
 rw [e2]
 exact h
theorem qcB.s {k : Int → AH → Prop} (hn : 1 ≤ n ∧ n ≤ 1000) (hmv : mv ≤ 4611686018427387904) (h : k (mv / (n + 1) % n : Nat) H) : qcB n mv H k := by
 refine qcB.link ?_
 unfold qcB.b
 rw [qg (n := (n : Int) + 1) (by omega) (by omega)]
 refine ⟨by omega,by omega,?_⟩
 have e : (n : Int) + 1 = ((n + 1 : Nat) : Int) := by omega
 have hd := Nat.div_le_self mv (n + 1)
 rw [e,qgw]
 generalize mv / (n + 1) = r at *
 rw [qg (n := (r : Int)) (by omega) (by omega),qeg]
 exact h
theorem qbX.s {k : Int → AH → Prop} (hn : 1 ≤ n ∧ n ≤ 1000) (hmv : mv ≤ 4611686018427387904) (hl : line < n) (h : k (slotN n mv line : Nat) H) : qbX n mv line H k := by
 refine qbX.link ?_
 unfold qbX.b qbX.j1
 refine gap_may.s hn ?_
 rw [qmm,qc,show decide ((line : Int) < 0) = false from by simp,qc,show decide ((line : Int) ≥ (n : Int)) = false from by simp; omega,qc]
 refine qcB.s hn hmv ?_
 refine ⟨by omega,?_⟩
 refine gap_Gap.s hn ?_
 have hb : qmS (qlJ .i64 ((line : Int) + ((mv / (n + 1) % n : Nat) : Int))) (n : Int) = ((baseN n mv line : Nat) : Int) := by
  unfold baseN
  have ht := Nat.mod_lt (mv / (n + 1)) (show n > 0 by omega)
  generalize mv / (n + 1) % n = t at *
  rw [qg (by omega) (by omega)]
  have : (line : Int) + (t : Int) = ((line + t : Nat) : Int) := by omega
  rw [this,qeg]
 have hlt := qe3 (mv := mv) (line := line) hn.1
 rw [hb]
 unfold slotN at h
 simp only [qi,decide_eq_true_eq]
 by_cases hc : gapN n mv ≤ baseN n mv line
 ·rw [if_pos hc] at h
  rw [if_pos (by omega),qg (by omega) (by omega)]
  exact_mod_cast h
 ·rw [if_neg hc] at h
  rw [if_neg (by omega)]
  exact h
theorem qcY.s {k : Int → Int → AH → Prop} (hn : 1 ≤ n ∧ n ≤ 1000) (h : k (fromN n mv : Nat) (gapN n mv : Nat) H) : qcY n mv H k := by
 refine qcY.link ?_
 unfold qcY.b
 refine gap_Gap.s hn ?_
 have hg := gapN_le (n := n) (mv := mv)
 unfold fromN at h
 simp only [qi,beq_iff_eq]
 rw [if_neg (by omega)]
 by_cases h0 : gapN n mv = 0
 ·rw [if_pos h0] at h
  rw [if_pos (by omega)]
  rw [h0] at h
  exact h
 ·rw [if_neg h0] at h
  rw [if_neg (by omega),qg (by omega) (by omega)]
  have : ((gapN n mv : Nat) : Int) - 1 = ((gapN n mv - 1 : Nat) : Int) := by omega
  rw [this]
  exact h
end
def tobj (p x n period puts : Nat) : AObj := ⟨[.pointer (some ⟨p,0,none⟩),.pointer (some ⟨x,0,none⟩),.int .i64 n,.int .i64 period,.int .i64 puts],.rw,0⟩
structure TAt (H : AH) (t x p c n sp period puts : Nat) (M : Mem) : Prop where
 ht : H.get t = tobj p x n period puts
 lt : t < H.size
 tp : t ≠ p
 tc : t ≠ c
 tx : t ≠ x
 l : LAt H x p c (n + 1) sp M
 n1 : 1 ≤ n
 per : 1 ≤ period ∧ period ≤ 1000
 pl : puts < period
 mv : M.mv ≤ 4611686018427387904
structure Frt (H H' : AH) (t p c : Nat) : Prop where
 size : H.size ≤ H'.size
 get : ∀ b,b < H.size → b ≠ t → b ≠ p → b ≠ c → H'.get b = H.get b
theorem Frt.refl {H : AH} {t p c : Nat} : Frt H H t p c := ⟨qlS _,fun _ _ _ _ _ => rfl⟩
theorem Frt.trans {H H' H2 : AH} {t p c : Nat} (h : Frt H H' t p c) (h' : Frt H' H2 t p c) : Frt H H2 t p c :=
 ⟨Nat.le_trans h.size h'.size,fun b hb h1 h2 h3 => (h'.get b (by have := h.size; omega) h1 h2 h3).trans (h.get b hb h1 h2 h3)⟩
theorem Frt.of_keeps {H H' : AH} {t p c : Nat} (h : qa H H') : Frt H H' t p c := ⟨h.1,fun b hb _ _ _ => h.2 b hb⟩
theorem Frt.of_frm {H H' : AH} {t p c : Nat} (h : Frm H H' p c) : Frt H H' t p c := ⟨by rw [h.size]; exact qlS _,fun b _ _ h2 h3 => h.get b h2 h3⟩
section
variable {H H' : AH} {t x p c n sp period puts puts' : Nat} {M M' : Mem} {line : Int}
theorem TAt.cell (h : TAt H t x p c n sp period puts M) (i : Nat) : AH.cell? H (qlL ⟨t,0,none⟩ i) = (tobj p x n period puts).cells[i]? := by
 rw [qk,ql3]
 simp only [AH.cell?,h.ht,ql4,qlU,if_false]
 rw [if_neg (by simp [tobj])]
theorem TAt.c0 (h : TAt H t x p c n sp period puts M) : AH.cell? H (qlL ⟨t,0,none⟩ 0) = some (.pointer (some ⟨p,0,none⟩)) := h.cell 0
theorem TAt.c1 (h : TAt H t x p c n sp period puts M) : AH.cell? H (qlL ⟨t,0,none⟩ 1) = some (.pointer (some ⟨x,0,none⟩)) := h.cell 1
theorem TAt.c2 (h : TAt H t x p c n sp period puts M) : AH.cell? H (qlL ⟨t,0,none⟩ 2) = some (.int .i64 n) := h.cell 2
theorem TAt.c4 (h : TAt H t x p c n sp period puts M) : AH.cell? H (qlL ⟨t,0,none⟩ 4) = some (.int .i64 puts) := h.cell 4
theorem TAt.n200 (h : TAt H t x p c n sp period puts M) : n + 1 + sp ≤ 200 := h.l.n200
theorem TAt.keeps (h : TAt H t x p c n sp period puts M) (hk : qa H H') : TAt H' t x p c n sp period puts M :=
 ⟨by rw [hk.2 t h.lt,h.ht],by have := hk.1; have := h.lt; omega,h.tp,h.tc,h.tx,h.l.keeps hk,h.n1,h.per,h.pl,h.mv⟩
theorem TAt.push (h : TAt H t x p c n sp period puts M) (o : AObj) : TAt (H.push o) t x p c n sp period puts M := h.keeps ((qa.refl H).push o)
theorem TAt.mem (h : TAt H t x p c n sp period puts M) (hl : LAt H' x p c (n + 1) sp M') (f : Frm H H' p c) (hmv : M'.mv ≤ 4611686018427387904) : TAt H' t x p c n sp period puts M' :=
 ⟨by rw [f.get t h.tp h.tc,h.ht],by rw [f.size]; exact h.lt,h.tp,h.tc,h.tx,hl,h.n1,h.per,h.pl,hmv⟩
def setT (H : AH) (t x p c n period puts : Nat) (M : Mem) : AH := (setM H p c M).upd t (tobj p x n period puts)
theorem TAt.at (h : TAt H t x p c n sp period puts M) (h' : TAt H' t x p c n sp period puts' M') (f : Frt H H' t p c) : At H H' (setT H t x p c n period puts' M') := by
 have hlt := h.lt
 have hlx := h.l.lx
 have hlp := h.l.m.lp
 have hlc := h.l.m.lc
 have hget : ∀ b,(setT H t x p c n period puts' M').get b = if b = t then tobj p x n period puts' else if b = p then memObj c M' else if b = c then celObj M' else H.get b := fun _ => rfl
 have hmem := qC.at (M' := M') (H' := setM H p c M') h.l.m (fun _ _ => rfl)
 refine ⟨rfl,fun b hb => ?_,fun b hb => ?_,fun b hb => ?_⟩
 ·rw [hget]
  split
  ·rename_i e; rw [e,h'.ht]
  ·split
   ·rename_i e; rw [e,h'.l.m.hp]
   ·split
    ·rename_i e; rw [e,h'.l.m.hc]
    ·exact f.get b hb ‹_› ‹_› ‹_›
 ·rw [hget,if_neg (by omega),if_neg (by omega),if_neg (by omega)]
 ·by_cases hbt : b = t
  ·right
   rw [hget,if_pos hbt]
   simp [tobj,lowV,hlp,hlx,flatC]
  ·have e : (setT H t x p c n period puts' M').get b = (setM H p c M').get b := by rw [hget,if_neg hbt,qcJ]
   rw [e]
   exact hmem.low b hb
theorem TAt.setT (h : TAt H t x p c n sp period puts M) (hpl : puts' < period) (hok : M'.ok) (hl : M'.cs.length = M.cs.length) (hmv : M'.mv ≤ 4611686018427387904) : TAt (setT H t x p c n period puts' M') t x p c n sp period puts' M' := by
 have hget : ∀ b,(Go.Proofs.YtdcbkjgoaknmkaaGreat.setT H t x p c n period puts' M').get b = if b = t then tobj p x n period puts' else (setM H p c M').get b := fun _ => rfl
 have hL := h.l.set hok hl
 refine ⟨by rw [hget,if_pos rfl],h.lt,h.tp,h.tc,h.tx,⟨by rw [hget,if_neg (Ne.symm h.tx),hL.hx],hL.lx,hL.xp,hL.xc,hL.m.keep (qlS _) (by rw [hget,if_neg (Ne.symm h.tp)]) (by rw [hget,if_neg (Ne.symm h.tc)]),hL.len,hL.n1,hL.sp16⟩,h.n1,h.per,hpl,hmv⟩
theorem qee : Frt H (setT H t x p c n period puts M) t p c := ⟨qlS _,fun b _ h1 h2 h3 => by
 show (if b = t then _ else (setM H p c M).get b) = _
 rw [if_neg h1,qc4 h2 h3]⟩
theorem qe1.s {k : Int → AH → Prop} (h : TAt H t x p c n sp period puts M) (hd : M.down = false) (hk : k (M.mv : Nat) H) : qbw (some ⟨t,0,none⟩) H k := by
 refine qbw.link ?_
 unfold qbw.b
 simp only [qlZ,qi,qlU,if_false,qd,h.c0,qE]
 refine qJ.s h.l.m ?_
 have h0 := qdY h.l.m.ok
 have hmv := h.mv
 have e : M.reg 0 = ((M.mv : Int),0) := by
  unfold Mem.reg
  rw [if_pos ⟨by omega,by omega⟩,if_neg (by simp [hd])]
  unfold Mem.mv
  refine Prod.ext ?_ rfl
  show M.regs.getD 0 0 = _
  omega
 rw [e,qg (n := (M.mv : Int)) (by omega) (by omega)]
 exact hk
def tmay (n : Nat) (M : Mem) (line : Int) : Int := if 0 ≤ line ∧ line < n then if M.down then 2 else 0 else 1
theorem qib.s {k : Int → AH → Prop} (h : TAt H t x p c n sp period puts M) (hk : k (tmay n M line) H) : qa6 (some ⟨t,0,none⟩) line H k := by
 refine qa6.link ?_
 unfold qa6.b qa6.j1
 unfold tmay at hk
 simp only [qlZ,qi,qlU,if_false,if_true,qd,h.c0,h.c2,qE,qf,decide_eq_true_eq]
 by_cases h1 : line < 0
 ·rw [if_pos h1]
  rw [if_neg (by omega)] at hk
  exact hk
 rw [if_neg h1]
 by_cases h2 : line ≥ (n : Int)
 ·rw [if_pos h2]
  rw [if_neg (by omega)] at hk
  exact hk
 rw [if_neg h2]
 rw [if_pos ⟨by omega,by omega⟩] at hk
 refine qao.s h.l.m ?_
 by_cases hd : M.down = true
 ·rw [if_pos hd] at hk ⊢; exact hk
 ·rw [if_neg hd] at hk ⊢; exact hk
theorem qc3.s {k : Int → AH → Prop} (h : TAt H t x p c n sp period puts M) (hk : k n H) : qaR (some ⟨t,0,none⟩) H k := by
 refine qaR.link ?_
 unfold qaR.b
 simp only [qlZ,qi,qlU,if_false,qd,h.c2,qf]
 exact hk
theorem qe9 {H1 : AH} {l : List Int} {Q : List Value → AH → Prop} (hk : qa (H.push ⟨lineV (qlN 8 0),.rw,0⟩) H1) (hl : isLine l) (hQ : ∀ H',qa H H' → Q (lineV l) H') :
  ((lineV l).length = 8 ∧ qmq (lineV l) qo = true) ∧ stC H1 ⟨H.size,0,none⟩ (lineV l) fun Hs => ldA Hs ⟨H.size,0,none⟩ 8 fun r0 => Q r0 Hs := by
 have hg : H1.get H.size = ⟨lineV (qlN 8 0),.rw,0⟩ := by rw [hk.2 _ (by simp [qe]),qm,if_pos rfl]
 refine ⟨⟨qr hl.1,qaD _⟩,stC_to ⟨rfl,by rw [hg],by rw [hg,qr hl.1]; simp only [qr (l := qlN 8 0) rfl]; omega⟩ (qdE rfl hl.1 hg) ?_⟩
 have hrow : AH.row? (H1.upd H.size ⟨lineV l,.rw,0⟩) ⟨H.size,0,none⟩ 8 = some (lineV l) := by
  simp only [AH.row?,qu,if_true,ql4,qlU,if_false,qmY]
  rw [if_neg (by simp),qmx (by rw [qr hl.1]; omega),if_pos ⟨by rw [qr hl.1]; omega,qaD _⟩]
 rw [ql hrow]
 exact hQ _ ((((qa.refl H).push _).trans hk).upd (qlS _) _)
theorem LAt.lineOf (h : LAt H x p c n sp M) {s : Nat} (hs : s < n) : isLine (M.view n sp s) := by
 have hp := qeo (M := M) (n := n) (sp := sp) hs
 have hlen := h.len
 have : M.cl (M.place n s sp) ∈ M.cs := by
  unfold Mem.cl
  rw [qlM,qlK (by omega)]
  exact ql1 _
 exact h.m.ok.lines _ this
theorem TAt.lineOf (h : TAt H t x p c n sp period puts M) (s : Nat) : isLine (M.tview n sp s) :=
 h.l.lineOf (by have := qdz (mv := M.mv) (line := s) h.n1; omega)
theorem qe5.s {k : List Value → Int → AH → Prop} (h : TAt H t x p c n sp period puts M) (hk : k (lineV (tget n sp M line).1) (tget n sp M line).2 H) : qa5 (some ⟨t,0,none⟩) line H k := by
 refine canon2 (κ := .agg) (μ := .int .i64) (by simp) (by simp) (qdp _) rfl (qa5.link ?_) hk
 unfold qa5.b
 rw [qp,zeroV]
 have hT := h.push ⟨lineV (qlN 8 0),.rw,0⟩
 simp only [qi]
 refine qib.s hT ?_
 unfold tmay tget
 by_cases hs : 0 ≤ line ∧ line < n
 ·rw [if_pos hs,if_pos hs]
  by_cases hd : M.down = true
  ·rw [if_pos hd,if_pos hd,if_pos (by simp)]
   exact qe9 (Q := fun r H' => At H H' H ∧ r = _ ∧ _) (qa.refl _) qbb fun H' hk => ⟨At.of_keeps hk,rfl,rfl⟩
  ·have hd' : M.down = false := by simpa using hd
   obtain ⟨ln,rfl⟩ := qma hs.1
   rw [if_neg hd,if_neg hd,if_neg (by simp)]
   simp only [qd,hT.c1,hT.c2,qE,qf]
   refine qe1.s hT hd' ⟨hT.c2,hT.c1,?_⟩
   have hn200 := h.n200
   refine qbX.s ⟨h.n1,by omega⟩ h.mv (by omega) ⟨hT.c1,?_⟩
   refine qhk.s hT.l ?_
   have hsl := qdz (mv := M.mv) (line := ln) h.n1
   have hg : lget (n + 1) sp M ((slotN n M.mv ln : Nat) : Int) = (M.tview n sp ln,0) := by
    unfold lget; rw [if_pos ⟨by omega,by omega⟩,if_neg hd]; rfl
   rw [hg,qlP]
   exact qe9 (Q := fun r H' => At H H' H ∧ r = _ ∧ _) (qa.refl _) (h.lineOf ln) fun H' hk => ⟨At.of_keeps hk,rfl,rfl⟩
 ·rw [if_neg hs,if_neg hs,if_pos (by simp)]
  exact qe9 (Q := fun r H' => At H H' H ∧ r = _ ∧ _) (qa.refl _) qbb fun H' hk => ⟨At.of_keeps hk,rfl,rfl⟩
theorem qkx.s {k : Int → AH → Prop} (h : TAt H t x p c n sp period puts M) (hd : M.down = false) (hk : k (tmove n sp M).2 (setM H p c (tmove n sp M).1)) : qbH (some ⟨t,0,none⟩) H k := by
 have hn200 := h.n200
 have hg := gapN_le (n := n) (mv := M.mv)
 have hf := qgb (n := n) (mv := M.mv)
 refine qcZ (κ := .int .i64) (by simp) rfl (qbH.link ?_) hk
 unfold qbH.b
 simp only [qi]
 refine qe1.s h hd ?_
 rw [qd,h.c2,qf]
 refine qcY.s ⟨h.n1,by omega⟩ ?_
 rw [qd,h.c1,qE]
 refine qhk.s h.l ?_
 have hg' : lget (n + 1) sp M ((fromN n M.mv : Nat) : Int) = (M.view (n + 1) sp (fromN n M.mv),0) := by
  unfold lget; rw [if_pos ⟨by omega,by omega⟩,if_neg (by simp [hd])]; rfl
 have hl := h.l.lineOf (s := fromN n M.mv) (by omega)
 rw [hg',zeroV]
 refine qgo hl ?_
 rw [if_neg (by simp)]
 have hT := h.push ⟨lineV (M.view (n + 1) sp (fromN n M.mv)),.rw,0⟩
 rw [qd,hT.c1,qE,ql (qfe hl)]
 have fin : ∀ {M' : Mem} {H' : AH},qC H' p c M' → Frm (H.push ⟨lineV (M.view (n + 1) sp (fromN n M.mv)),.rw,0⟩) H' p c → At H H' (setM H p c M') := by
  intro M' H' hm f
  refine h.l.m.at fun b hb => ?_
  rw [qcJ]
  split
  ·rename_i e; rw [e,hm.hp]
  ·split
   ·rename_i e; rw [e,hm.hc]
   ·rw [f.get b ‹_› ‹_›,qv (by omega)]
 refine qeA.g hT.l hl (Prod.eta _).symm ?_
 intro H2 hL2 f2
 unfold tmove
 simp only
 have hmv := h.mv
 by_cases he : (lput (n + 1) sp M ((gapN n M.mv : Nat) : Int) (M.view (n + 1) sp (fromN n M.mv))).2 = 0
 ·rw [if_pos he,if_neg (by simp [he])]
  have hT2 : TAt H2 t x p c n sp period puts (lput (n + 1) sp M ((gapN n M.mv : Nat) : Int) (M.view (n + 1) sp (fromN n M.mv))).1 → True := fun _ => trivial
  have c0 : AH.cell? H2 (qlL ⟨t,0,none⟩ 0) = some (.pointer (some ⟨p,0,none⟩)) := by
   rw [qk,f2.cell h.tp h.tc,← qk]; exact hT.c0
  rw [qd,c0,qE,qbE (n := (M.mv : Int)) (by omega) (by omega),qbE (n := (M.mv : Int) + 1) (by omega) (by omega)]
  refine qG.g hL2.m (by unfold isU; omega) (Prod.eta _).symm ?_
  intro H3 hm3 f3
  exact ⟨fin hm3 (f2.trans f3),rfl⟩
 ·rw [if_neg he,if_pos (by simpa using he)]
  exact ⟨fin hL2.m f2,rfl⟩
end
section
variable {H H' : AH} {t x p c n sp period puts puts' : Nat} {M M' : Mem} {line : Int}
theorem TAt.putsTo (h : TAt H t x p c n sp period puts M) (hp : puts' < period) : AH.canPut H (qlL ⟨t,0,none⟩ 4) 1 ∧ TAt (AH.put H (qlL ⟨t,0,none⟩ 4) [.int .i64 (puts' : Int)]) t x p c n sp period puts' M ∧ Frt H (AH.put H (qlL ⟨t,0,none⟩ 4) [.int .i64 (puts' : Int)]) t p c ∧ (∀ b,b ≠ t → (AH.put H (qlL ⟨t,0,none⟩ 4) [.int .i64 (puts' : Int)]).get b = H.get b) := by
 rw [qk,ql3]
 have other : ∀ b,b ≠ t → (AH.put H ⟨t,4,none⟩ [.int .i64 (puts' : Int)]).get b = H.get b := fun b hb => by simp only [AH.put,qu]; rw [if_neg hb]
 refine ⟨⟨rfl,congrArg AObj.md h.ht,by rw [h.ht]; simp [tobj]⟩,⟨?_,h.lt,h.tp,h.tc,h.tx,⟨by rw [other x (Ne.symm h.tx),h.l.hx],h.l.lx,h.l.xp,h.l.xc,h.l.m.keep (qlS _) (other p (Ne.symm h.tp)) (other c (Ne.symm h.tc)),h.l.len,h.l.n1,h.l.sp16⟩,h.n1,h.per,hp,h.mv⟩,⟨qlS _,fun b _ h1 _ _ => other b h1⟩,other⟩
 simp only [AH.put,qu,if_true,h.ht]
 rfl
theorem tput_ok {k : Nat} {d : List Int} (hd : isLine d) (h : LV M (n + 1) sp k) (hn : 1 ≤ n) (hok : M.ok) (hmv : M.mv ≤ 4611686018427387904) : (tput n sp period M puts line d).1.ok := by
 have hl := h.len
 have hok2 := hok.len
 unfold tput
 split
 ·split
  ·exact hok
  ·split
   ·have h1 := qgn h hok hmv
    simp only
    split
    ·exact lput_ok hd (by omega) h1
    ·exact h1
   ·exact lput_ok hd (by omega) hok
 ·exact hok
theorem qhW {d : List Int} : (tput n sp period M puts line d).1.cs.length = M.cs.length := by
 unfold tput
 split
 ·split
  ·rfl
  ·split
   ·simp only
    split
    ·rw [qej,qfu]
    ·exact qfu
   ·exact qej
 ·rfl
theorem qgu.s {d : List Int} {k : Nat} {K : Int → AH → Prop} (h : TAt H t x p c n sp period puts M) (hlv : LV M (n + 1) sp k) (hmv : M.mv < 4611686018427387904) (hd : isLine d)
  (hk : ∀ H',TAt H' t x p c n sp period (tput n sp period M puts line d).2.1 (tput n sp period M puts line d).1 → Frt H H' t p c → H'.size = H.size → K (tput n sp period M puts line d).2.2 H') : qaG (some ⟨t,0,none⟩) line (lineV d) H K := by
 have hn200 := h.n200
 have hper := h.per
 have hpl := h.pl
 have hok := h.l.m.ok
 have lt := h.lt
 have lp := h.l.m.lp
 have lc := h.l.m.lc
 have lx := h.l.lx
 have hok2 := tput_ok (period := period) (puts := puts) (line := line) hd hlv h.n1 hok h.mv
 have hlen2 := qhW (n := n) (sp := sp) (period := period) (M := M) (puts := puts) (line := line) (d := d)
 have hmain : (tput n sp period M puts line d).2.1 < period ∧ (tput n sp period M puts line d).1.mv ≤ 4611686018427387904 := by
  by_cases hin : 0 ≤ line ∧ line < n
  ·by_cases hdn : M.down = true
   ·unfold tput; rw [if_pos hin,if_pos hdn]; exact ⟨hpl,h.mv⟩
   ·obtain ⟨ln,rfl⟩ := qma hin.1
    obtain ⟨h1,h2⟩ := qem (line := ln) (period := period) (puts := puts) hlv h.n1 hok h.mv (by simpa using hdn) (by omega) hd.1
    refine ⟨by rw [h2]; split <;> omega,?_⟩
    have := h1.mv.2.1
    split at this <;> omega
  ·unfold tput; rw [if_neg hin]; exact ⟨hpl,h.mv⟩
 refine qcZ (κ := .int .i64) (v := (tput n sp period M puts line d).2.2) (H2 := setT H t x p c n period (tput n sp period M puts line d).2.1 (tput n sp period M puts line d).1) (by simp) rfl (qaG.link ?_) (hk _ (h.setT hmain.1 hok2 hlen2 hmain.2) qee rfl)
 clear hk hok2 hlen2
 have hmv2 := hmain.2
 unfold qaG.b
 rw [qp]
 simp only [qi,beq_iff_eq]
 have hT := h.push ⟨lineV d,.rw,0⟩
 have f0 : Frt H (H.push ⟨lineV d,.rw,0⟩) t p c := Frt.of_keeps ((qa.refl H).push _)
 have g0 : (H.push ⟨lineV d,.rw,0⟩).get H.size = ⟨lineV d,.rw,0⟩ := by rw [qm,if_pos rfl]
 have s0 : H.size < (H.push ⟨lineV d,.rw,0⟩).size := by simp [qe]
 generalize H.push ⟨lineV d,.rw,0⟩ = H1 at *
 refine qib.s hT ?_
 unfold tmay
 by_cases hin : 0 ≤ line ∧ line < n
 rotate_left 1
 ·unfold tput
  rw [if_neg hin,if_neg hin,if_pos (by simp)]
  exact ⟨h.at hT f0,rfl⟩
 rw [if_pos hin]
 by_cases hdn : M.down = true
 ·unfold tput
  rw [if_pos hin,if_pos hdn,if_pos hdn,if_pos (by simp)]
  exact ⟨h.at hT f0,rfl⟩
 rw [if_neg hdn,if_neg (by simp)]
 obtain ⟨ln,rfl⟩ := qma hin.1
 have hln : ln < n := by omega
 have hup : M.down = false := by simpa using hdn
 have rowd : ∀ H2 : AH,H2.get H.size = ⟨lineV d,.rw,0⟩ → AH.row? H2 ⟨H.size,0,none⟩ 8 = some (lineV d) := by
  intro H2 hg
  simp only [AH.row?,hg,ql4,qlU,if_false,qmY]
  rw [if_neg (by simp),qmx (by rw [qr hd.1]; omega),if_pos ⟨by rw [qr hd.1]; omega,qaD _⟩]
 -- the line is put where it is
 have tail : ∀ (H2 : AH) (M2 : Mem) (puts2 : Nat),TAt H2 t x p c n sp period puts2 M2 → Frt H H2 t p c → H2.get H.size = ⟨lineV d,.rw,0⟩ → M2.down = false → (lput (n + 1) sp M2 (slotN n M2.mv ln : Nat) d).1.mv ≤ 4611686018427387904 →
   ∀ Q : Int → AH → Prop,(∀ H3,TAt H3 t x p c n sp period puts2 (lput (n + 1) sp M2 (slotN n M2.mv ln : Nat) d).1 → Frt H H3 t p c → Q (lput (n + 1) sp M2 (slotN n M2.mv ln : Nat) d).2 H3) → qaG.j1 (some ⟨t,0,none⟩) (ln : Int) Q H.size H2 := by
  intro H2 M2 puts2 hT2 f2 g2 hd2 hm2 Q hQ
  unfold qaG.j1
  simp only [qd,hT2.c1,hT2.c2,qE,qf]
  rw [ql (rowd _ g2)]
  refine qe1.s hT2 hd2 ⟨rowd _ g2,hT2.c2,hT2.c1,?_⟩
  refine qbX.s ⟨h.n1,by omega⟩ hT2.mv hln ⟨rowd _ g2,hT2.c1,?_⟩
  refine qeA.g hT2.l hd (Prod.eta _).symm ?_
  intro H3 hL3 f3
  exact hQ H3 (hT2.mem hL3 f3 hm2) (f2.trans (Frt.of_frm f3))
 rw [qd,hT.c4,qf,qd,qg (n := (puts : Int) + 1) (by omega) (by omega)]
 unfold tput at hmv2 ⊢
 rw [if_pos (show 0 ≤ (ln : Int) ∧ (ln : Int) < (n : Int) from ⟨by omega,by omega⟩),if_neg hdn,qlP] at hmv2 ⊢
 -- the count is stored,before it is looked at
 have other1 : ∀ (v : Int) (b : Nat),b ≠ t → (AH.put H1 (qlL ⟨t,0,none⟩ 4) [.int .i64 v]).get b = H1.get b := fun v b hb => by rw [qk]; simp only [AH.put,qu]; rw [if_neg hb]
 have hobj : (AH.put H1 (qlL ⟨t,0,none⟩ 4) [.int .i64 ((puts : Int) + 1)]).get t = tobj p x n period (puts + 1) := by
  rw [qk]; simp only [AH.put,qu,if_true,hT.ht]; rfl
 refine stC_to (hT.putsTo (puts' := puts) hpl).1 rfl ?_
 generalize hH2 : AH.put H1 (qlL ⟨t,0,none⟩ 4) [.int .i64 ((puts : Int) + 1)] = H2 at *
 have o2 : ∀ b,b ≠ t → H2.get b = H1.get b := fun b hb => by rw [← hH2]; exact other1 _ b hb
 have s2 : H2.size = H1.size := by rw [← hH2]; rfl
 have c4 : AH.cell? H2 (qlL ⟨t,0,none⟩ 4) = some (.int .i64 ((puts : Int) + 1)) := by
  rw [qk]
  simp only [AH.cell?,hobj,ql4,qlU,if_false]
  rw [if_neg (by simp [tobj])]
  simp [tobj]
 have c3 : AH.cell? H2 (qlL ⟨t,0,none⟩ 3) = some (.int .i64 (period : Int)) := by
  rw [qk]
  simp only [AH.cell?,hobj,ql4,qlU,if_false]
  rw [if_neg (by simp [tobj])]
  rfl
 have hL2 : LAt H2 x p c (n + 1) sp M := ⟨by rw [o2 x (Ne.symm h.tx),hT.l.hx],by rw [s2]; exact hT.l.lx,hT.l.xp,hT.l.xc,hT.l.m.keep (by rw [s2]; exact qlS _) (o2 p (Ne.symm h.tp)) (o2 c (Ne.symm h.tc)),hT.l.len,hT.l.n1,hT.l.sp16⟩
 have f2 : Frt H H2 t p c := f0.trans ⟨by rw [s2]; exact qlS _,fun b _ h1 _ _ => o2 b h1⟩
 have g2 : H2.get H.size = ⟨lineV d,.rw,0⟩ := by rw [o2 _ (by omega),g0]
 rw [qd,c4,qf,qd,c3,qf]
 by_cases hp : puts + 1 = period
 ·rw [if_pos hp] at hmv2 ⊢
  rw [if_pos (by omega),qd]
  have hcan : AH.canPut H2 (qlL ⟨t,0,none⟩ 4) 1 := by rw [qk]; exact ⟨rfl,congrArg AObj.md hobj,by rw [hobj]; simp [tobj]⟩
  have hput : AH.put H2 (qlL ⟨t,0,none⟩ 4) [.int .i64 0] = H2.upd t (tobj p x n period 0) := by
   rw [qk]; simp only [AH.put,hobj]; rfl
  refine stC_to hcan hput ?_
  have o3 : ∀ b,b ≠ t → (H2.upd t (tobj p x n period 0)).get b = H2.get b := fun b hb => by rw [qu,if_neg hb]
  have hT3 : TAt (H2.upd t (tobj p x n period 0)) t x p c n sp period 0 M :=
   ⟨by rw [qu,if_pos rfl],by rw [qiB,s2]; exact hT.lt,h.tp,h.tc,h.tx,⟨by rw [o3 x (Ne.symm h.tx),hL2.hx],hL2.lx,hL2.xp,hL2.xc,hL2.m.keep (qlS _) (o3 p (Ne.symm h.tp)) (o3 c (Ne.symm h.tc)),hL2.len,hL2.n1,hL2.sp16⟩,h.n1,h.per,by omega,h.mv⟩
  have f3 : Frt H (H2.upd t (tobj p x n period 0)) t p c := f2.trans ⟨qlS _,fun b _ h1 _ _ => o3 b h1⟩
  have g3 : (H2.upd t (tobj p x n period 0)).get H.size = ⟨lineV d,.rw,0⟩ := by rw [o3 _ (by omega),g2]
  have s3 : H.size < (H2.upd t (tobj p x n period 0)).size := by rw [qiB,s2]; exact s0
  generalize H2.upd t (tobj p x n period 0) = H3 at *
  refine qkx.s hT3 hup ?_
  have hm1 := qhu (d := d) hlv h.n1 hok.regs (qdY hok) hup hok.cut.1 (fun s hs => (qeH hlv hok hs).1)
  have hokm := qgn hlv hok h.mv
  have hlenm := qfu (n := n) (sp := sp) (M := M)
  have hmvm := hm1.mv.2.1
  have hT4 : TAt (setM H3 p c (tmove n sp M).1) t x p c n sp period 0 (tmove n sp M).1 := hT3.mem (hT3.l.set hokm hlenm) (Frm.set _ _ _ _) (by omega)
  have f4 : Frt H (setM H3 p c (tmove n sp M).1) t p c := f3.trans (Frt.of_frm (Frm.set _ _ _ _))
  have g4 : (setM H3 p c (tmove n sp M).1).get H.size = ⟨lineV d,.rw,0⟩ := by rw [qc4 (by omega) (by omega),g3]
  generalize setM H3 p c (tmove n sp M).1 = H4 at *
  simp only at hmv2 ⊢
  by_cases he : (tmove n sp M).2 = 0
  ·rw [if_pos he] at hmv2 ⊢
   rw [if_neg (by simp [he])]
   have hup4 : (tmove n sp M).1.down = false := by
    rcases hm1.res with ⟨_,a,_⟩ | ⟨a,_⟩ | ⟨a,_⟩
    ·exact a
    ·omega
    ·omega
   refine tail H4 _ 0 hT4 f4 g4 hup4 hmv2 _ ?_
   intro H5 hT5 f5
   exact ⟨h.at hT5 f5,rfl⟩
  ·rw [if_neg he] at hmv2 ⊢
   rw [if_pos (by simpa using he)]
   exact ⟨h.at hT4 f4,rfl⟩
 ·rw [if_neg hp] at hmv2 ⊢
  rw [if_neg (by omega)]
  have hT3 : TAt H2 t x p c n sp period (puts + 1) M := ⟨hobj,by rw [s2]; exact hT.lt,h.tp,h.tc,h.tx,hL2,h.n1,h.per,by omega,h.mv⟩
  refine tail H2 M (puts + 1) hT3 f2 g2 hup hmv2 _ ?_
  intro H5 hT5 f5
  exact ⟨h.at hT5 f5,rfl⟩
end
section
variable {H : AH} {p c : Nat} {M : Mem} {n sp period : Int}
def qcx (M : Mem) (n sp period : Int) : Prop := 1 ≤ n ∧ 1 ≤ period ∧ period ≤ 1000 ∧ 0 ≤ sp ∧ sp ≤ 16 ∧ (M.cs.length : Int) = n + 1 + sp ∧ M.down = false ∧ MayT (tblL M sp.toNat) (n + 1) ∧ M.mv ≤ 1099511627776
instance : Decidable (qcx M n sp period) := by unfold qcx; infer_instance
theorem qbh.s {k : Option Addr → AH → Prop} (hm : qC H p c M) (hsr : isI sp) (h0 : ¬ qcx M n sp period → k none H)
  (h1 : qcx M n sp period → ∀ H' t x,TAt H' t x p c n.toNat sp.toNat period.toNat 0 M → qa H H' → H.size ≤ t → H.size ≤ x → k (some ⟨t,0,none⟩) H') : qbh (some ⟨p,0,none⟩) n sp period H k := by
 have hlen := hm.ok.len
 have h00 := qdY hm.ok
 have hreg : M.down = false → M.reg 0 = ((M.mv : Int),0) := by
  intro hd
  unfold Mem.reg
  rw [if_pos ⟨by omega,by omega⟩,if_neg (by simp [hd])]
  unfold Mem.mv
  refine Prod.ext ?_ rfl
  show M.regs.getD 0 0 = _
  omega
 have common : ∀ {Q : Option Addr → AH → Prop},(¬ qcx M n sp period → ∀ H',qa H H' → Q none H') → (qcx M n sp period → ∀ H' t x,TAt H' t x p c n.toNat sp.toNat period.toNat 0 M → qa H H' → H.size ≤ t → H.size ≤ x → Q (some ⟨t,0,none⟩) H') →
   qbh.b (some ⟨p,0,none⟩) n sp period H Q := by
  intro Q q0 q1
  unfold qbh.b qbh.j2 qbh.j1
  simp only [qi,decide_eq_true_eq]
  by_cases a1 : n < 1
  ·rw [if_pos a1]; exact q0 (fun h => by have := h.1; omega) _ (qa.refl _)
  rw [if_neg a1]
  refine qai.s hm ?_
  by_cases a2 : n > (M.cs.length : Int)
  ·rw [if_pos a2]; exact q0 (fun h => by have := h.2.2.2.1; have := h.2.2.2.2.2.1; omega) _ (qa.refl _)
  rw [if_neg a2]
  by_cases a3 : period < 1
  ·rw [if_pos a3]; exact q0 (fun h => by have := h.2.1; omega) _ (qa.refl _)
  rw [if_neg a3]
  by_cases a4 : period > 1000
  ·rw [if_pos a4]; exact q0 (fun h => by have := h.2.2.1; omega) _ (qa.refl _)
  rw [if_neg a4,qg (n := n + 1) (by omega) (by omega)]
  refine qaY.s hm (by unfold isI; omega) hsr ?_ ?_
  ·intro hb
   rw [Option.isNone_none,if_pos rfl]
   exact q0 (fun h => hb ⟨by have := h.1; omega,h.2.2.2.1,h.2.2.2.2.1,by have := h.2.2.2.2.2.1; omega,h.2.2.2.2.2.2.1,h.2.2.2.2.2.2.2.1⟩) _ (qa.refl _)
  ·intro hg H2 hL hk _
   rw [qlZ,if_neg (by simp)]
   refine qJ.s hL.m ?_
   rw [hreg hg.2.2.2.2.1,if_neg (by simp)]
   by_cases a5 : (M.mv : Int) > 1099511627776
   ·rw [if_pos a5]
    exact q0 (fun h => by have := h.2.2.2.2.2.2.2.2; omega) _ hk
   ·rw [if_neg a5,qp]
    have hgood : qcx M n sp period := ⟨by omega,by omega,by omega,hg.2.1,hg.2.2.1,by have := hg.2.2.2.1; omega,hg.2.2.2.2.1,hg.2.2.2.2.2,by omega⟩
    have hL' := hL.push (tobj p H.size n.toNat period.toNat 0)
    have en : (n + 1).toNat = n.toNat + 1 := by omega
    rw [en] at hL'
    have hobj : (⟨[(qlO (some ⟨p,0,none⟩)),(qlO (some ⟨H.size,0,none⟩)),(qlI .i64 n),(qlI .i64 period),(qlI .i64 (0 : Int))],.rw,0⟩ : AObj) = tobj p H.size n.toNat period.toNat 0 := by
     simp only [tobj]
     rw [show ((n.toNat : Nat) : Int) = n by omega,show ((period.toNat : Nat) : Int) = period by omega]
     rfl
    rw [hobj]
    have hlp := hm.lp
    have hlc := hm.lc
    have hk1 := hk.1
    have hlx := hL.lx
    exact q1 hgood _ _ H.size ⟨by rw [qm,if_pos rfl],by simp [qe],by omega,by omega,by omega,hL',by omega,by omega,by omega,by omega⟩ (hk.push _) (by omega) (by omega)
 by_cases hg : qcx M n sp period
 ·exact qbh.link (common (fun h => absurd hg h) h1)
 ·refine qcZ (κ := .ptr) (v := none) (by simp) rfl (qbh.link (common ?_ ?_)) (h0 hg)
  ·intro _ H' hk; exact ⟨At.of_keeps hk,rfl⟩
  ·intro h; exact absurd h hg
end
section
variable {H0 H H' : AH} {t x p c n sp period puts puts' o k : Nat} {M M' : Mem} {ws : List (List Int)}
theorem qkR {line : Int} {d : List Int} (h : ¬ (0 ≤ line ∧ line < n)) : tput n sp period M puts line d = (M,puts,1) := by unfold tput; rw [if_neg h]
end
section
variable {H : AH}
theorem mv_new {n : Nat} {l : List Int} : (Mem.new n l).mv = 0 := rfl
end
section
variable {H : AH}
theorem qiA (z : Int) : isU (qlJ .u64 z) := by
 unfold isU
 simp only [qlJ,qmQ,IntKind.signed,Bool.false_and,Int.reducePow,qlU,if_false]; omega
end
end Go.Proofs.YtdcbkjgoaknmkaaGreat
