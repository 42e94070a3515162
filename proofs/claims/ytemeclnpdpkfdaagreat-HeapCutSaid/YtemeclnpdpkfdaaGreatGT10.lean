/- Lemmas for the law: an abstract machine, and what the functions do on it. No condition. -/
import Derived.Test.YtemeclnpdpkfdaaGreatGT9
set_option linter.all false
open Go.Value renaming int → qlk, pointer → qls
open Go.IntKind renaming wrap → qll
open Go.Addr renaming add → qlm
open List renaming getElem?_eq_getElem → qln, getD_eq_getElem?_getD → qlo, replicate → qlq, getElem_mem → qlB, getElem?_set_ne → qlQ, take_of_length_le → ql9, drop_zero → qmE
open Int renaming toNat_natCast → qlp, toNat → qlr, eq_ofNat_of_zero_le → qlI
open Nat renaming le_refl → qlu, zero_add → qlJ, zero_le → qmp
open Bool renaming false_eq_true → qlw
open Go.Abs renaming Rows → qlC
open Option renaming isSome_none → qlF, isNone_some → qlG
set_option linter.all false
namespace Go.Proofs.YtemeclnpdpkfdaaGreat
open Go Go.Abs
def lobj (p : Nat) (n sp : Nat) : AObj := ⟨[.pointer (some ⟨p, 0, none⟩), .int .i64 n, .int .i64 sp], .rw, 0⟩
structure LAt (H : AH) (x p c n sp : Nat) (M : Mem) : Prop where
 hx : H.get x = lobj p n sp
 lx : x < H.size
 xp : x ≠ p
 xc : x ≠ c
 m : qB H p c M
 len : M.cs.length = n + sp
 n1 : 1 ≤ n
 sp16 : sp ≤ 16
def tblL (M : Mem) (sp : Nat) : List Int := (List.range sp).map M.whose
def tblO (M : Mem) (sp : Nat) : AObj := ⟨(tblL M sp).flatMap wU, .rw, 1⟩
def placeT (t : List Int) (n s : Nat) : Nat → Nat
 | 0 => s
 | j + 1 => if t.getD j 0 = (s : Int) + 1 then n + j else placeT t n s j
def nextT (t : List Int) : Nat → Nat
 | 0 => t.length
 | j + 1 => if t.getD (t.length - (j + 1)) 0 = 0 then t.length - (j + 1) else nextT t j
def mayAt (t : List Int) (n : Int) (i : Nat) : Prop := t.getD i 0 ≤ n + 1 ∧ (0 < i → t.getD i 0 ≠ 0 → t.getD (i - 1) 0 ≠ 0)
instance (t : List Int) (n : Int) (i : Nat) : Decidable (mayAt t n i) := by unfold mayAt; infer_instance
def MayT (t : List Int) (n : Int) : Prop := 1 ≤ n ∧ ∀ i, i < t.length → mayAt t n i
instance (t : List Int) (n : Int) : Decidable (MayT t n) := by unfold MayT; infer_instance
theorem qcy (M : Mem) (sp : Nat) : (tblL M sp).length = sp := by simp [tblL]
theorem qe9 (M : Mem) {sp j : Nat} (h : j < sp) : (tblL M sp).getD j 0 = M.whose j := by simp [tblL, qlo, h]
theorem qjW (M : Mem) (n s : Nat) {sp : Nat} : ∀ j, j ≤ sp → placeT (tblL M sp) n s j = M.place n s j := by
 intro j
 induction j with
 | zero => intro _; rfl
 | succ j ih => intro h; simp only [placeT, Mem.place, qe9 M (show j < sp by omega), ih (by omega)]
theorem qkZ (M : Mem) {sp : Nat} : ∀ j, j ≤ sp → nextT (tblL M sp) j = M.next sp j := by
 intro j
 induction j with
 | zero => intro _; simp [nextT, Mem.next, qcy]
 | succ j ih => intro h; simp only [nextT, Mem.next, qcy, qe9 M (show sp - (j + 1) < sp by omega), ih (by omega)]
section
variable {H : AH} {x p c n sp : Nat} {M : Mem} {i slot : Int}
theorem LAt.cell (h : LAt H x p c n sp M) (i : Nat) : AH.cell? H (qlm ⟨x, 0, none⟩ i) = (lobj p n sp).cells[i]? := by
 rw [qk, qlJ]
 simp only [AH.cell?, h.hx, qlF, qlw, if_false]
 rw [if_neg (by simp [lobj])]
theorem LAt.c0 (h : LAt H x p c n sp M) : AH.cell? H (qlm ⟨x, 0, none⟩ 0) = some (.pointer (some ⟨p, 0, none⟩)) := h.cell 0
theorem LAt.c1 (h : LAt H x p c n sp M) : AH.cell? H (qlm ⟨x, 0, none⟩ 1) = some (.int .i64 n) := h.cell 1
theorem LAt.c2 (h : LAt H x p c n sp M) : AH.cell? H (qlm ⟨x, 0, none⟩ 2) = some (.int .i64 sp) := h.cell 2
theorem LAt.keeps {H' : AH} (h : LAt H x p c n sp M) (hk : qc H H') : LAt H' x p c n sp M :=
 ⟨by rw [hk.2 x h.lx, h.hx], by have := hk.1; have := h.lx; omega, h.xp, h.xc, h.m.keeps hk, h.len, h.n1, h.sp16⟩
theorem LAt.push (h : LAt H x p c n sp M) (o : AObj) : LAt (H.push o) x p c n sp M := h.keeps ((qc.refl H).push o)
theorem LAt.set {M' : Mem} (h : LAt H x p c n sp M) (hok : M'.ok) (hl : M'.cs.length = M.cs.length) : LAt (setM H p c M') x p c n sp M' :=
 ⟨by rw [qc7 h.xp h.xc, h.hx], h.lx, h.xp, h.xc, h.m.set hok, by rw [hl]; exact h.len, h.n1, h.sp16⟩
theorem LAt.n200 (h : LAt H x p c n sp M) : n + sp ≤ 200 := by have := h.len; have := h.m.ok.len; omega
theorem qfu {α : Type} {z : Nat} {f : α → List Value} {l : List α} {s : Sl} {H' : AH} {b : Nat} (hf : ∀ x, (f x).length = z) (hc : ∀ x, (f x).all qq = true) (h : SlAt b l.length s) (hb : b < H'.size) (hg : H'.get b = ⟨l.flatMap f, .rw, z⟩) : qlC H' s z f l :=
 (h.own (B := 0) (qmp _) hb hg).rows hf hc
theorem Mem.reg_up {j : Nat} (hd : M.down = false) (hj : j < 16) : M.reg ((3 : Int) + j) = (M.whose j, 0) := by
 unfold Mem.reg
 rw [if_pos (by unfold regIn; omega), if_neg (by simp [hd])]
 have : ((3 : Int) + j).toNat = 3 + j := by omega
 rw [this]; rfl
theorem qf0.s {k : Sl → Int → AH → Prop} (h : LAt H x p c n sp M) (h0 : M.down = true → k ⟨none, 0, 0⟩ 2 H) (h1 : M.down = false → ∀ s, SlAt H.size sp s → k s 0 (H.push (tblO M sp))) : qU (some ⟨x, 0, none⟩) H k := by
 have hsp := h.sp16
 have hn := h.n200
 by_cases hd : M.down = true
 ·refine qU.link ?_
  unfold qU.b
  rw [qd, h.c2, qe]
  refine ⟨1, ?_⟩
  show qU.l2 _ _ _ _ _ _
  unfold qU.l2 qU.j1
  simp only [qi, decide_eq_true_eq, qd, h.c0, qag]
  by_cases hz : (0 : Int) < (sp : Int)
  ·rw [if_pos hz]
   refine qS.s h.m ?_
   rw [qg (n := (3 : Int) + 0) (by omega) (by omega)]
   have : M.reg (3 + 0) = (0, 2) := by unfold Mem.reg; rw [if_pos (by unfold regIn; omega), if_pos hd]
   rw [this, if_pos (by simp)]
   exact h0 hd
  ·rw [if_neg hz]
   refine qaI.s h.m ?_
   rw [hd, if_pos rfl]
   exact h0 hd
 ·have hd' : M.down = false := by simpa using hd
  refine canonS2 (μ := .int .i64) (u := 0) (l := tblL M sp) (g := wU) (z := 1) (H2 := H) (by simp) rfl (fun _ _ => rfl) (qU.link ?_) (fun s hs => h1 hd' s (by rw [qcy] at hs; exact hs))
  unfold qU.b
  rw [qd, h.c2, qe]
  refine qE (t := ((⟨none, 0, 0⟩, (0 : Int), ⟨none, 0, 0⟩, (0 : Int)) : Sl × Int × Sl × Int)) (I := fun (t : Sl × Int × Sl × Int) H' => ∃ j : Nat, t.2.2.2 = (j : Int) ∧ j ≤ sp ∧ qc H H' ∧ Own H.size H' t.2.2.1 1 wU (tblL M j)) (m := fun (t : Sl × Int × Sl × Int) _ => qlr ((sp : Int) - t.2.2.2)) ?_ ⟨0, rfl, by omega, qc.refl _, .inl ⟨rfl, rfl⟩⟩
  intro t H1 hI it hit
  obtain ⟨t1, t2, t3, t4⟩ := t
  obtain ⟨j, e1, hj, hK, hO⟩ := hI
  simp only at e1 hO
  subst e1
  have hL := h.keeps hK
  unfold qU.l2 qU.j1
  simp only [qi, decide_eq_true_eq, qd, hL.c0, qag]
  by_cases hz : (j : Int) < (sp : Int)
  ·rw [if_pos hz, qg (n := (3 : Int) + j) (by omega) (by omega)]
   refine qS.s hL.m ?_
   rw [Mem.reg_up hd' (by omega), if_neg (by simp)]
   simp only [qv]
   refine qbh (H0 := H) (B := H.size) (f := wU) (x := M.whose j) (l := tblL M j) (fun _ => rfl) rfl hO (qlu _) hK.1 hK (by rw [qcy]; simp only [lim]; omega) ?_
   intro s' H' hO' hK' _ _
   rw [qg (n := (j : Int) + 1) (by omega) (by omega)]
   refine hit _ _ ⟨j + 1, by simp, by omega, hK', ?_⟩ (by simp only; omega)
   have : tblL M (j + 1) = tblL M j ++ [M.whose j] := by simp [tblL, List.range_succ]
   rw [this]; exact hO'
  ·rw [if_neg hz]
   refine qaI.s hL.m ?_
   rw [hd', if_neg (by simp)]
   have : j = sp := by omega
   subst this
   exact ⟨At.of_keeps hK, hO, trivial⟩
variable {t : List Int} {sl : Sl}
theorem qcn.s {k : Int → AH → Prop} {n : Int} (h : 1 ≤ n ∧ n ≤ 1000000) (hk : k (n + 1) H) : qcn n H k := by
 refine qcn.link ?_
 unfold qcn.b
 simp only [qi, decide_eq_true_eq]
 rw [if_neg (by omega), qbI (n := n) (by omega) (by omega), qbI (by omega) (by omega)]
 exact hk
theorem cellT (hR : qlC H sl 1 wU t) {j : Nat} (hj : j < t.length) : ∃ ad, sl.a = some ad ∧ AH.cell? H (qlm ad (j * 1)) = some (.int .u64 (t.getD j 0)) := by
 obtain ⟨b, o, h1, _, h3⟩ := rows1 (g := fun v => qlk .u64 v) hR hj
 exact ⟨_, h1, by rw [h3, qlo, qln hj]; rfl⟩
theorem qa3.s {k : Int → AH → Prop} {n slot : Nat} (hR : qlC H sl 1 wU t) (ht : t.length ≤ 16) (hs : slot < n) (hn : n ≤ 1000000) (hk : k (placeT t n slot t.length : Nat) H) : qa3 sl n slot H k := by
 refine qa3.link ?_
 unfold qa3.b qa3.j2
 simp only [qi, decide_eq_true_eq]
 rw [if_neg (by omega), if_neg (by omega), hR.1, qg (n := (t.length : Int) - 1) (by omega) (by omega)]
 refine qE (t := (((0 : Int), ((t.length : Int) - 1)) : Int × Int)) (I := fun (t' : Int × Int) H' => H' = H ∧ ∃ j : Nat, t'.2 = (j : Int) - 1 ∧ j ≤ t.length ∧ placeT t n slot t.length = placeT t n slot j) (m := fun (t' : Int × Int) _ => qlr (t'.2 + 1)) ?_ ⟨rfl, t.length, rfl, qlu _, rfl⟩
 intro t' H1 hI it hit
 obtain ⟨t1, t2⟩ := t'
 obtain ⟨rfl, j, e, hj, hp⟩ := hI
 simp only at e
 subst e
 unfold qa3.l1
 simp only [qi, decide_eq_true_eq, hR.1]
 by_cases h0 : (j : Int) - 1 ≥ 0
 ·rw [if_pos h0]
  refine ⟨by omega, ?_⟩
  obtain ⟨i, rfl⟩ : ∃ i, j = i + 1 := ⟨j - 1, by omega⟩
  obtain ⟨ad, ha, hc⟩ := cellT hR (j := i) (by omega)
  have e1 : (((i + 1 : Nat) : Int) - 1).toNat = i := by omega
  rw [ha, qd, e1, hc, qe, qbI (n := (slot : Int)) (by omega) (by omega), qbI (n := (slot : Int) + 1) (by omega) (by omega)]
  simp only [beq_iff_eq]
  simp only [placeT] at hp
  by_cases hw : t.getD i 0 = (slot : Int) + 1
  ·rw [if_pos hw] at hp ⊢
   rw [qg (by omega) (by omega)]
   rw [hp] at hk
   have : (n : Int) + (((i + 1 : Nat) : Int) - 1) = ((n + i : Nat) : Int) := by omega
   rw [this]; exact hk
  ·rw [if_neg hw] at hp ⊢
   rw [qg (by omega) (by omega)]
   exact hit _ _ ⟨rfl, i, by simp only; omega, by omega, hp⟩ (by simp only; omega)
 ·rw [if_neg h0]
  have : j = 0 := by omega
  subst this
  rw [hp] at hk
  exact hk
theorem qbR.s {k : Int → AH → Prop} (hR : qlC H sl 1 wU t) (ht : t.length ≤ 16) (h1 : nextT t t.length < t.length → k (nextT t t.length : Nat) H) (h0 : nextT t t.length = t.length → k (-1) H) : qbR sl H k := by
 refine qbR.link ?_
 unfold qbR.b
 refine qE (t := (((0 : Int), (0 : Int)) : Int × Int)) (I := fun (t' : Int × Int) H' => H' = H ∧ ∃ j : Nat, t'.2 = (j : Int) ∧ j ≤ t.length ∧ nextT t t.length = nextT t (t.length - j)) (m := fun (t' : Int × Int) _ => qlr ((t.length : Int) - t'.2)) ?_ ⟨rfl, 0, rfl, qmp _, rfl⟩
 intro t' H1 hI it hit
 obtain ⟨t1, t2⟩ := t'
 obtain ⟨rfl, j, e, hj, hp⟩ := hI
 simp only at e
 subst e
 unfold qbR.l1
 simp only [qi, decide_eq_true_eq, hR.1]
 by_cases hlt : (j : Int) < (t.length : Int)
 ·rw [if_pos hlt]
  refine ⟨by omega, ?_⟩
  obtain ⟨ad, ha, hc⟩ := cellT hR (j := j) (by omega)
  rw [ha, qd, qlp, hc, qe]
  simp only [beq_iff_eq]
  obtain ⟨q, hq⟩ : ∃ q, t.length - j = q + 1 := ⟨t.length - j - 1, by omega⟩
  have e1 : t.length - (q + 1) = j := by omega
  rw [hq] at hp
  simp only [nextT, e1] at hp
  by_cases hw : t.getD j 0 = 0
  ·rw [if_pos hw] at hp ⊢
   rw [hp] at h1
   exact h1 (by omega)
  ·rw [if_neg hw] at hp ⊢
   rw [qg (by omega) (by omega)]
   exact hit _ _ ⟨rfl, j + 1, by simp, by omega, by rw [hp, show t.length - (j + 1) = q by omega]⟩ (by simp only; omega)
 ·rw [if_neg hlt]
  have e2 : t.length - j = 0 := by omega
  rw [e2] at hp
  exact h0 hp
theorem qbj.s {k : Bool → AH → Prop} {n : Int} (hR : qlC H sl 1 wU t) (ht : t.length ≤ 16) (htn : ∀ v ∈ t, 0 ≤ v) (hn : 1 ≤ n ∧ n ≤ 1000000) (hk : k (decide (MayT t n)) H) : qbj sl n H k := by
 refine qbj.link ?_
 unfold qbj.b
 refine qE (t := ((false, (0 : Int)) : Bool × Int)) (I := fun (t' : Bool × Int) H' => H' = H ∧ ∃ j : Nat, t'.2 = (j : Int) ∧ j ≤ t.length ∧ ∀ i, i < j → mayAt t n i) (m := fun (t' : Bool × Int) _ => qlr ((t.length : Int) - t'.2)) ?_ ⟨rfl, 0, rfl, qmp _, fun i hi => by omega⟩
 intro t' H1 hI it hit
 obtain ⟨t1, t2⟩ := t'
 obtain ⟨rfl, j, e, hj, hall⟩ := hI
 simp only at e
 subst e
 unfold qbj.l2 qbj.j1
 simp only [qi, decide_eq_true_eq, hR.1]
 by_cases hlt : (j : Int) < (t.length : Int)
 ·rw [if_pos hlt]
  refine ⟨by omega, ?_⟩
  obtain ⟨ad, ha, hc⟩ := cellT hR (j := j) (by omega)
  rw [ha, qd, qlp, hc, qe]
  refine qcn.s hn ?_
  rw [qg (n := (j : Int) + 1) (by omega) (by omega)]
  have bad : ¬ mayAt t n j → k false H1 := by
   intro hb
   rw [decide_eq_false (fun hM => hb (hM.2 j (by omega)))] at hk
   exact hk
  have good : mayAt t n j → it (t1, (j : Int) + 1) H1 := by
   intro hg
   refine hit _ _ ⟨rfl, j + 1, by simp, by omega, fun i hi => ?_⟩ (by simp only; omega)
   rcases Nat.lt_or_ge i j with h | h
   ·exact hall i h
   ·have : i = j := by omega
    subst this; exact hg
  by_cases h1 : t.getD j 0 > n + 1
  ·rw [if_pos h1]; exact bad (fun h => by have := h.1; omega)
  ·rw [if_neg h1]
   by_cases h2 : (j : Int) > 0
   ·rw [if_pos h2]
    by_cases h3 : t.getD j 0 = 0
    ·rw [if_neg (by rw [h3]; simp)]
     exact good ⟨by omega, fun _ hh => absurd h3 hh⟩
    ·rw [if_pos (by simpa using h3), qg (by omega) (by omega)]
     refine ⟨by omega, ?_⟩
     obtain ⟨ad', ha', hc'⟩ := cellT hR (j := j - 1) (by omega)
     rw [ha] at ha'
     injection ha' with ha'
     subst ha'
     have e1 : ((j : Int) - 1).toNat = j - 1 := by omega
     rw [qd, e1, hc', qe]
     by_cases h4 : t.getD (j - 1) 0 = 0
     ·rw [if_pos (by simpa using h4)]
      exact bad (fun h => h.2 (by omega) h3 h4)
     ·rw [if_neg (by simpa using h4)]
      exact good ⟨by omega, fun _ _ => h4⟩
   ·rw [if_neg h2]
    exact good ⟨by omega, fun h => by omega⟩
 ·rw [if_neg hlt]
  have : j = t.length := by omega
  subst this
  rw [show decide (n ≥ 1) = decide (MayT t n) from decide_eq_decide.2 ⟨fun h => ⟨h, hall⟩, fun h => h.1⟩]
  exact hk
end
section
variable {H : AH} {x p c n sp : Nat} {M : Mem} {slot : Int}
theorem qgb.s {k : Int → Sl → Int → AH → Prop} (h : LAt H x p c n sp M) (h1 : ¬ (0 ≤ slot ∧ slot < n) → k 0 ⟨none, 0, 0⟩ 1 H) (h2 : 0 ≤ slot ∧ slot < n → M.down = true → k slot ⟨none, 0, 0⟩ 2 H)
  (h3 : 0 ≤ slot ∧ slot < n → M.down = false → ∀ s, SlAt H.size sp s → k (M.place n slot.toNat sp : Nat) s 0 (H.push (tblO M sp))) : qaP (some ⟨x, 0, none⟩) slot H k := by
 have hn := h.n200
 have hsp := h.sp16
 refine qaP.link ?_
 unfold qaP.b qaP.j1
 simp only [qlG, qi, qlw, if_false, if_true, qd, h.c1, qe, decide_eq_true_eq]
 by_cases hs : slot < 0
 ·rw [if_pos hs]; exact h1 (by omega)
 rw [if_neg hs]
 by_cases hs' : slot ≥ (n : Int)
 ·rw [if_pos hs']; exact h1 (by omega)
 rw [if_neg hs']
 obtain ⟨sl, rfl⟩ := qlI (show 0 ≤ slot by omega)
 refine qf0.s h ?_ ?_
 ·intro hd
  rw [h.c1, qe]
  refine qa3.s (t := []) qev (by simp) (by omega) (by omega) ?_
  exact h2 ⟨by omega, by omega⟩ hd
 ·intro hd s hs
  have hL := h.push (tblO M sp)
  rw [hL.c1, qe]
  have hR : qlC (H.push (tblO M sp)) s 1 wU (tblL M sp) := qfu (b := H.size) (fun _ => rfl) (fun _ => rfl) (by rw [qcy]; exact hs) (by simp [qm]) (by rw [qs, if_pos rfl]; rfl)
  refine qa3.s hR (by rw [qcy]; exact hsp) (by omega) (by omega) ?_
  rw [qcy, qjW _ _ _ _ (qlu _)]
  exact h3 ⟨by omega, by omega⟩ hd s hs
theorem qkw (h : LAt H x p c n sp M) : isLine (lget n sp M slot).1 := by
 unfold lget
 split
 ·rename_i hs
  split
  ·exact qbq
  ·have hp := qet (M := M) (n := n) (sp := sp) (s := slot.toNat) (by omega)
   have hlen := h.len
   have : M.cl (M.place n slot.toNat sp) ∈ M.cs := by
    unfold Mem.cl
    rw [qlo, qln (by omega)]
    exact qlB _
   exact h.m.ok.lines _ this
 ·exact qbq
theorem qhv.s {k : List Value → Int → AH → Prop} (h : LAt H x p c n sp M) (hk : k (lineV (lget n sp M slot).1) (lget n sp M slot).2 H) : qb5 (some ⟨x, 0, none⟩) slot H k := by
 refine canon2 (κ := .agg) (μ := .int .i64) (by simp) (by simp) (qds _) rfl (qb5.link ?_) hk
 unfold qb5.b
 rw [qv, zeroV]
 have hL := h.push ⟨lineV (qlq 8 0), .rw, 0⟩
 have fin : ∀ {H1 : AH} {l : List Int} {Q : List Value → AH → Prop}, qc (H.push ⟨lineV (qlq 8 0), .rw, 0⟩) H1 → isLine l → (∀ H', qc H H' → Q (lineV l) H') →
   ((lineV l).length = 8 ∧ List.all (lineV l) qq = true) ∧ stC H1 ⟨H.size, 0, none⟩ (lineV l) fun Hs => ldA Hs ⟨H.size, 0, none⟩ 8 fun r0 => Q r0 Hs := by
  intro H1 l Q hk hl hQ
  have hg : H1.get H.size = ⟨lineV (qlq 8 0), .rw, 0⟩ := by rw [hk.2 _ (by simp [qm]), qs, if_pos rfl]
  refine ⟨⟨qt hl.1, qaY _⟩, stC_to ⟨rfl, by rw [hg], by rw [hg, qt hl.1]; simp only [qt (l := qlq 8 0) rfl]; omega⟩ (qdJ rfl hl.1 hg) ?_⟩
  have hrow : AH.row? (H1.upd H.size ⟨lineV l, .rw, 0⟩) ⟨H.size, 0, none⟩ 8 = some (lineV l) := by
   simp only [AH.row?, qT, if_true, qlF, qlw, if_false, qmE]
   rw [if_neg (by simp), ql9 (by rw [qt hl.1]; omega), if_pos ⟨by rw [qt hl.1]; omega, qaY _⟩]
  rw [qp hrow]
  exact hQ _ ((((qc.refl H).push _).trans hk).upd (qlu _) _)
 have hline := qkw (slot := slot) h
 unfold lget at hline ⊢
 simp only [qi]
 refine qgb.s hL ?_ ?_ ?_
 ·intro hs
  rw [if_neg hs] at hline ⊢
  rw [if_pos (by simp)]
  exact fin (Q := fun r H' => At H H' H ∧ r = _ ∧ _) (qc.refl _) qbq fun H' hk => ⟨At.of_keeps hk, rfl, rfl⟩
 ·intro hs hd
  rw [if_pos hs, if_pos hd] at hline ⊢
  rw [if_pos (by simp)]
  exact fin (Q := fun r H' => At H H' H ∧ r = _ ∧ _) (qc.refl _) qbq fun H' hk => ⟨At.of_keeps hk, rfl, rfl⟩
 ·intro hs hd s _
  rw [if_pos hs, if_neg (show ¬ M.down = true by simp [hd])] at hline ⊢
  rw [if_neg (by simp)]
  have hL2 := hL.push (tblO M sp)
  rw [qd, hL2.c0, qag]
  refine qbY.s hL2.m ?_
  have hp := qet (M := M) (n := n) (sp := sp) (s := slot.toNat) (by omega)
  have hlen := h.len
  have hg : M.get ((M.place n slot.toNat sp : Nat) : Int) = (M.view n sp slot.toNat, 0) := by
   unfold Mem.get
   rw [if_pos ⟨by omega, by omega⟩, if_neg (by simp [hd])]; rfl
  rw [hg]
  exact fin (Q := fun r H' => At H H' H ∧ r = _ ∧ _) ((qc.refl _).push _) hline fun H' hk => ⟨At.of_keeps hk, rfl, rfl⟩
theorem lgo_ok {j slot : Nat} {d : List Int} (hd : isLine d) (hs : (slot : Int) + 1 ≤ 18446744073709551615) (hn : n ≤ 1000000) : ∀ {M : Mem}, M.ok → (lgo n sp slot d j M).1.ok := by
 induction j with
 | zero => intro M h; exact h
 | succ j ih =>
  intro M h
  unfold lgo
  have h1 := Mem.put_ok (i := ((n + (sp - (j + 1)) : Nat) : Int)) h hd
  simp only
  split
  ·exact Mem.set_ok h1 (by unfold isU; omega)
  ·split
   ·have h2 := Mem.set_ok (i := ((3 + (sp - (j + 1)) : Nat) : Int)) (v := (n : Int) + 1) h1 (by unfold isU; omega)
    split
    ·exact ih h2
    ·exact h2
   ·exact h1
theorem lput_ok {d : List Int} (hd : isLine d) (hn : n ≤ 1000000) (h : M.ok) : (lput n sp M slot d).1.ok := by
 unfold lput
 split
 ·rename_i hs
  split
  ·exact h
  ·simp only
   split
   ·exact lgo_ok hd (by omega) hn (Mem.put_ok h hd)
   ·exact Mem.put_ok h hd
 ·exact h
theorem lgo_len {j slot : Nat} {d : List Int} : ∀ {M : Mem}, (lgo n sp slot d j M).1.cs.length = M.cs.length := by
 induction j with
 | zero => intro M; rfl
 | succ j ih =>
  intro M
  unfold lgo
  simp only
  split
  ·rw [Mem.set_len, Mem.put_len]
  ·split
   ·split
    ·rw [ih, Mem.set_len, Mem.put_len]
    ·rw [Mem.set_len, Mem.put_len]
   ·rw [Mem.put_len]
theorem qeB {d : List Int} : (lput n sp M slot d).1.cs.length = M.cs.length := by
 unfold lput
 split
 ·split
  ·rfl
  ·simp only
   split
   ·rw [lgo_len, Mem.put_len]
   ·rw [Mem.put_len]
 ·rfl
theorem qeL.s {d : List Int} {k : Int → AH → Prop} (h : LAt H x p c n sp M) (hd : isLine d) (hk : k (lput n sp M slot d).2 (setM H p c (lput n sp M slot d).1)) : qaX (some ⟨x, 0, none⟩) slot (lineV d) H k := by
 have hn := h.n200
 have hsp := h.sp16
 have hlp := h.m.lp
 have hlc := h.m.lc
 have hlx := h.lx
 have key : ∀ {B : AH} {M' : Mem}, qc H B → At H (setM B p c M') (setM H p c M') := by
  intro B M' hB
  refine h.m.at fun b hb => ?_
  simp only [qcM]
  rw [hB.2 b hb]
 refine qc1 (κ := .int .i64) (by simp) rfl (qaX.link ?_) hk
 unfold qaX.b
 rw [qv]
 simp only [qi]
 have hL := h.push ⟨lineV d, .rw, 0⟩
 have hgd : (H.push ⟨lineV d, .rw, 0⟩).get H.size = ⟨lineV d, .rw, 0⟩ := by rw [qs, if_pos rfl]
 have hkd : qc H (H.push ⟨lineV d, .rw, 0⟩) := (qc.refl H).push _
 have hsd : (H.push ⟨lineV d, .rw, 0⟩).size = H.size + 1 := rfl
 generalize H.push ⟨lineV d, .rw, 0⟩ = Hd at *
 unfold lput
 refine qgb.s hL ?_ ?_ ?_
 ·intro hs
  rw [if_neg hs, if_pos (by simp)]
  have := key (M' := M) hkd
  rw [h.m.same, hL.m.same] at this
  rw [h.m.same]
  exact ⟨this, rfl⟩
 ·intro hs hdn
  rw [if_pos hs, if_pos hdn, if_pos (by simp)]
  have := key (M' := M) hkd
  rw [h.m.same, hL.m.same] at this
  rw [h.m.same]
  exact ⟨this, rfl⟩
 ·intro hs hdn s hsl
  rw [if_pos hs, if_neg (show ¬ M.down = true by simp [hdn]), if_neg (by simp)]
  have hL2 := hL.push (tblO M sp)
  have hR : qlC (Hd.push (tblO M sp)) s 1 wU (tblL M sp) := qfu (b := Hd.size) (fun _ => rfl) (fun _ => rfl) (by rw [qcy]; exact hsl) (by simp [qm]) (by rw [qs, if_pos rfl]; rfl)
  have hsb : ∀ y, s.a = some y → y.block = Hd.size := by
   intro y hy
   rcases hsl with rfl | ⟨_, rfl⟩
   ·injection hy with hy; subst hy; rfl
   ·cases hy
  have hgd2 : (Hd.push (tblO M sp)).get H.size = ⟨lineV d, .rw, 0⟩ := by rw [qO (by omega), hgd]
  have hkB : qc H (Hd.push (tblO M sp)) := hkd.push _
  have hsB : (Hd.push (tblO M sp)).size = H.size + 2 := by simp [qm, hsd]
  generalize hBB : Hd.push (tblO M sp) = B at *
  have rowd : ∀ M', AH.row? (setM B p c M') ⟨H.size, 0, none⟩ 8 = some (lineV d) := by
   intro M'
   rw [qgo (by omega) (by omega)]
   simp only [AH.row?, hgd2, qlF, qlw, if_false, qmE]
   rw [if_neg (by simp), ql9 (by rw [qt hd.1]; omega), if_pos ⟨by rw [qt hd.1]; omega, qaY _⟩]
  have rowd0 : AH.row? B ⟨H.size, 0, none⟩ 8 = some (lineV d) := by have := rowd M; rwa [hL2.m.same] at this
  rw [qd, hL2.c0, qag, qp rowd0]
  refine qak.s hL2.m hd ?_
  have hok1 := Mem.put_ok (i := ((M.place n slot.toNat sp : Nat) : Int)) h.m.ok hd
  have hlen1 : (M.put ((M.place n slot.toNat sp : Nat) : Int) d).1.cs.length = M.cs.length := Mem.put_len
  simp only
  generalize M.put ((M.place n slot.toNat sp : Nat) : Int) d = R at *
  by_cases he : R.2 = 3
  ·rw [if_pos he, if_neg (by simp [he])]
   have hL3 := hL2.set hok1 hlen1
   have hR3 : qlC (setM B p c R.1) s 1 wU (tblL M sp) := by
    refine ⟨hR.1, fun i v hv => ?_⟩
    obtain ⟨y, h1, h2, h3, h4⟩ := hR.2 i v hv
    have hb := hsb y h1
    refine ⟨y, h1, h2, h3, ?_⟩
    rw [qgo (by omega) (by omega)]
    exact h4
   have hnx := qkZ M (sp := sp) sp (qlu _)
   refine qbR.s hR3 (by rw [qcy]; exact hsp) ?_ ?_
   ·rw [qcy, hnx]
    intro hlt
    rw [if_neg (by simp)]
    generalize hF : lgo n sp slot.toNat d (sp - M.next sp sp) R.1 = F at *
    refine qE (t := (((0 : Int), ((M.next sp sp : Nat) : Int)) : Int × Int)) (I := fun (t : Int × Int) H' => ∃ j : Nat, t.2 = ((sp - j : Nat) : Int) ∧ j ≤ sp ∧ ∃ Mi : Mem, H' = setM B p c Mi ∧ Mi.ok ∧ Mi.cs.length = M.cs.length ∧ lgo n sp slot.toNat d j Mi = F) (m := fun (t : Int × Int) _ => qlr ((sp : Int) - t.2)) ?_ ⟨sp - M.next sp sp, by simp only; omega, by omega, R.1, rfl, hok1, hlen1, hF⟩
    intro t H4 hI it hit
    obtain ⟨t1, t2⟩ := t
    obtain ⟨j, e1, hj, Mi, rfl, hoki, hleni, hlg⟩ := hI
    simp only at e1
    subst e1
    have hLi := hL2.set hoki hleni
    unfold qaX.l1
    simp only [qi, decide_eq_true_eq, qd, hLi.c2, hLi.c1, hLi.c0, qe, qag]
    by_cases hz : ((sp - j : Nat) : Int) < (sp : Int)
    ·rw [if_pos hz]
     obtain ⟨i, rfl⟩ : ∃ i, j = i + 1 := ⟨j - 1, by omega⟩
     rw [qp (rowd Mi), qg (n := (n : Int) + ((sp - (i + 1) : Nat) : Int)) (by omega) (by omega), qg (n := (3 : Int) + ((sp - (i + 1) : Nat) : Int)) (by omega) (by omega), qg (n := ((sp - (i + 1) : Nat) : Int) + 1) (by omega) (by omega)]
     rw [show (n : Int) + ((sp - (i + 1) : Nat) : Int) = ((n + (sp - (i + 1)) : Nat) : Int) from by omega, show (3 : Int) + ((sp - (i + 1) : Nat) : Int) = ((3 + (sp - (i + 1)) : Nat) : Int) from by omega]
     refine qak.s hLi.m hd ?_
     have hok2 := Mem.put_ok (i := ((n + (sp - (i + 1)) : Nat) : Int)) hoki hd
     have hlen2 : (Mi.put ((n + (sp - (i + 1)) : Nat) : Int) d).1.cs.length = M.cs.length := by rw [Mem.put_len]; exact hleni
     rw [← hlg]
     unfold lgo at hlg ⊢
     simp only at hlg ⊢
     rw [qcJ]
     generalize Mi.put ((n + (sp - (i + 1)) : Nat) : Int) d = R2 at *
     have hL4 := hL2.set hok2 hlen2
     simp only [hL4.c0, hL4.c1, qag, qe]
     by_cases e0 : R2.2 = 0
     ·rw [if_pos e0, if_pos (by simpa using e0)]
      rw [qbI (n := slot) (by omega) (by omega), qbI (n := slot + 1) (by omega) (by omega)]
      refine qN.s hL4.m (by unfold isU; omega) ?_
      rw [qcJ, show ((slot.toNat : Nat) : Int) + 1 = slot + 1 from by omega]
      exact ⟨key hkB, rfl⟩
     ·rw [if_neg e0, if_neg (by simpa using e0)]
      rw [if_neg e0] at hlg
      by_cases e3 : R2.2 = 3
      ·rw [if_pos e3, if_pos (by simpa using e3)]
       rw [if_pos e3] at hlg
       refine qcn.s (by have := h.n1; omega) ?_
       simp only [hL4.c0, qag]
       refine qN.s hL4.m (by unfold isU; omega) ?_
       rw [qcJ]
       have hok3 := Mem.set_ok (i := ((3 + (sp - (i + 1)) : Nat) : Int)) (v := (n : Int) + 1) hok2 (by unfold isU; omega)
       have hlen3 : (R2.1.set ((3 + (sp - (i + 1)) : Nat) : Int) ((n : Int) + 1)).1.cs.length = M.cs.length := by rw [Mem.set_len]; exact hlen2
       generalize R2.1.set ((3 + (sp - (i + 1)) : Nat) : Int) ((n : Int) + 1) = Q at *
       by_cases e4 : Q.2 = 0
       ·rw [if_pos e4, if_neg (by simp [e4])]
        rw [if_pos e4] at hlg
        exact hit _ _ ⟨i, by simp only; omega, by omega, Q.1, rfl, hok3, hlen3, hlg⟩ (by simp only; omega)
       ·rw [if_neg e4, if_pos (by simpa using e4)]
        exact ⟨key hkB, rfl⟩
      ·rw [if_neg e3, if_neg (by simpa using e3)]
       exact ⟨key hkB, rfl⟩
    ·rw [if_neg hz]
     have : j = 0 := by omega
     subst this
     rw [← hlg]
     exact ⟨key hkB, rfl⟩
   ·rw [qcy, hnx]
    intro heq
    rw [if_pos (by simp), heq, Nat.sub_self]
    exact ⟨key hkB, rfl⟩
  ·rw [if_neg he, if_pos (by simpa using he)]
   exact ⟨key hkB, rfl⟩
end
section
variable {M : Mem} {n sp k : Nat}
theorem LV.may (h : LV M n sp k) : MayT (tblL M sp) n := by
 refine ⟨by have := h.n1; omega, fun i hi => ?_⟩
 rw [qcy] at hi
 unfold mayAt
 rw [qe9 M hi]
 rcases Nat.lt_or_ge i k with hk | hk
 ·have := h.used i hk
  refine ⟨this.2, fun h0 _ => ?_⟩
  rw [qe9 M (show i - 1 < sp by omega)]
  have := h.used (i - 1) (by omega)
  omega
 ·rw [h.free i hk hi]
  exact ⟨by have := h.n1; omega, fun _ hh => absurd rfl hh⟩
theorem LV.zero (hl : M.cs.length = n + sp) (hn : 1 ≤ n) (hs : sp ≤ 16) (h : ∀ i, i < sp → M.whose i = 0) : LV M n sp 0 :=
 ⟨hl, hn, hs, qmp _, fun i hi => by omega, fun i _ hi => h i hi⟩
theorem qkc {s : Nat} (h : ∀ i, i < sp → M.whose i = 0) : M.view n sp s = (M.cl s).line := by
 unfold Mem.view
 rcases qdx M n s sp with h1 | ⟨j, h1, _, h3⟩
 ·rw [h1]
 ·have := h j h1; omega
theorem qhg {n : Nat} {limits : List Int} {i : Nat} (hi : i < 16) : (Mem.new n limits).whose i = 0 := by
 have : 3 + i < 35 := by omega
 unfold Mem.whose Mem.new
 rw [qlo, List.getElem?_replicate, if_pos this]
 rfl
end
section
variable {H : AH} {p c : Nat} {M : Mem} {n sp : Int}
theorem qbf.s {k : Option Addr → AH → Prop} (hm : qB H p c M) (hnr : isI n) (hsr : isI sp)
  (h0 : ¬ (1 ≤ n ∧ 0 ≤ sp ∧ sp ≤ 16 ∧ (M.cs.length : Int) = n + sp ∧ M.down = false ∧ MayT (tblL M sp.toNat) n) → k none H)
  (h1 : 1 ≤ n ∧ 0 ≤ sp ∧ sp ≤ 16 ∧ (M.cs.length : Int) = n + sp ∧ M.down = false ∧ MayT (tblL M sp.toNat) n → ∀ H', LAt H' H.size p c n.toNat sp.toNat M → qc H H' → H.size < H'.size → k (some ⟨H.size, 0, none⟩) H') : qbf (some ⟨p, 0, none⟩) n sp H k := by
 have hlen := hm.ok.len
 unfold isI at hnr hsr
 by_cases he : 1 ≤ n ∧ 0 ≤ sp ∧ sp ≤ 16 ∧ (M.cs.length : Int) = n + sp
 ·obtain ⟨n', rfl⟩ := qlI (show 0 ≤ n by omega)
  obtain ⟨sp', rfl⟩ := qlI (show 0 ≤ sp by omega)
  simp only [qlp] at h0 h1
  have common : ∀ {Q : Option Addr → AH → Prop}, (M.down = true → ∀ H', qc H H' → Q none H') → (M.down = false → ¬ MayT (tblL M sp') n' → ∀ H', qc H H' → Q none H') →
    (M.down = false → MayT (tblL M sp') n' → ∀ H', LAt H' H.size p c n' sp' M → qc H H' → H.size < H'.size → Q (some ⟨H.size, 0, none⟩) H') → qbf.b (some ⟨p, 0, none⟩) n' sp' H Q := by
   intro Q q1 q2 q3
   unfold qbf.b qbf.j1
   simp only [qlG, qi, qlw, if_false, decide_eq_true_eq]
   rw [if_neg (by omega), if_neg (by omega), if_neg (by omega)]
   refine qay.s hm ?_
   rw [qg (by omega) (by omega), if_neg (by simp; omega)]
   simp only [qv]
   have hL : LAt (H.push (lobj p n' sp')) H.size p c n' sp' M :=
    ⟨by rw [qs, if_pos rfl], by simp [qm], by have := hm.lp; omega, by have := hm.lc; omega, hm.push _, by omega, by omega, by omega⟩
   have e : (⟨[(qls (some ⟨p, 0, none⟩)), (qlk .i64 (n' : Int)), (qlk .i64 (sp' : Int))], .rw, 0⟩ : AObj) = lobj p n' sp' := rfl
   rw [e]
   refine qf0.s hL ?_ ?_
   ·intro hd
    rw [if_pos (by simp)]
    exact q1 hd _ ((qc.refl H).push _)
   ·intro hd s hs
    rw [if_neg (by simp)]
    have hR : qlC ((H.push (lobj p n' sp')).push (tblO M sp')) s 1 wU (tblL M sp') := qfu (b := (H.push (lobj p n' sp')).size) (fun _ => rfl) (fun _ => rfl) (by rw [qcy]; exact hs) (by simp [qm]) (by rw [qs, if_pos rfl]; rfl)
    refine qbj.s hR (by rw [qcy]; omega) ?_ (by omega) ?_
    ·intro v hv
     simp only [tblL, List.mem_map, List.mem_range] at hv
     obtain ⟨i, hi, rfl⟩ := hv
     unfold Mem.whose
     have hr := hm.ok.regs
     rw [qlo, qln (by omega), Option.getD_some]
     exact (hm.ok.regU _ (qlB _)).1
    ·by_cases hM : MayT (tblL M sp') n'
     ·rw [if_neg (by simp [hM])]
      exact q3 hd hM _ (hL.push _) (((qc.refl H).push _).push _) (by simp [qm]; omega)
     ·rw [if_pos (by simp [hM])]
      exact q2 hd hM _ (((qc.refl H).push _).push _)
  by_cases hgood : M.down = false ∧ MayT (tblL M sp') n'
  ·refine qbf.link (common ?_ ?_ ?_)
   ·intro hd; rw [hgood.1] at hd; cases hd
   ·intro _ hM; exact absurd hgood.2 hM
   ·intro hd hM H' hL hK hs
    exact h1 ⟨by omega, by omega, by omega, by omega, hd, hM⟩ H' hL hK hs
  ·refine qc1 (κ := .ptr) (v := none) (by simp) rfl (qbf.link (common ?_ ?_ ?_)) (h0 ?_)
   ·intro hd H' hk; exact ⟨At.of_keeps hk, rfl⟩
   ·intro _ _ H' hk; exact ⟨At.of_keeps hk, rfl⟩
   ·intro hd hM; exact absurd ⟨hd, hM⟩ hgood
   ·intro h; exact hgood ⟨h.2.2.2.2.1, h.2.2.2.2.2⟩
 ·refine qbf.link ?_
  have hk := h0 (fun h => he ⟨h.1, h.2.1, h.2.2.1, h.2.2.2.1⟩)
  unfold qbf.b qbf.j1
  simp only [qlG, qi, qlw, if_false, if_true, decide_eq_true_eq]
  by_cases h1 : n < 1
  ·rw [if_pos h1]; exact hk
  rw [if_neg h1]
  by_cases h2 : sp < 0
  ·rw [if_pos h2]; exact hk
  rw [if_neg h2]
  by_cases h3 : sp > 16
  ·rw [if_pos h3]; exact hk
  rw [if_neg h3]
  refine qay.s hm ?_
  rw [qg (by omega) (by omega), if_pos (by simp; omega)]
  exact hk
theorem qeL.g {x n sp : Nat} {slot r : Int} {d : List Int} {M' : Mem} {k : Int → AH → Prop} (h : LAt H x p c n sp M) (hd : isLine d) (e : lput n sp M slot d = (M', r)) (hk : ∀ H', LAt H' x p c n sp M' → Frm H H' p c → k r H') : qaX (some ⟨x, 0, none⟩) slot (lineV d) H k := by
 refine qeL.s h hd ?_
 have hn := h.n200
 have ok := lput_ok (n := n) (sp := sp) (slot := slot) hd (by omega) h.m.ok
 have hl := qeB (n := n) (sp := sp) (M := M) (slot := slot) (d := d)
 rw [e] at ok hl ⊢
 exact hk _ (h.set ok hl) (Frm.set _ _ _ _)
end
def putV (q : Int × List Int) : List Value := [.int .i64 q.1] ++ lineV q.2
structure qcr (q : Int × List Int) : Prop where
 i : isI q.1
 line : isLine q.2
theorem qe1 {q : Int × List Int} (h : qcr q) : (putV q).length = 9 := by simp [putV, lineV, h.line.1]
theorem putV_ok (q : Int × List Int) : (putV q).all qq = true := by simp [putV, lineV, u64V, qq]
structure PutAt (H : AH) (o : Nat) (q : Int × List Int) : Prop where
 g : ∃ e, H.get o = ⟨putV q, .rw, e⟩
 ok : qcr q
theorem PutAt.c0 {H : AH} {o : Nat} {q : Int × List Int} (h : PutAt H o q) : AH.cell? H (qlm ⟨o, 0, none⟩ 0) = some (.int .i64 q.1) := by
 obtain ⟨⟨e, h⟩, _⟩ := h; simp [qk, AH.cell?, h, putV]
theorem PutAt.row {H : AH} {o : Nat} {q : Int × List Int} (h : PutAt H o q) : AH.row? H (qlm ⟨o, 0, none⟩ 1) 8 = some (lineV q.2) := by
 obtain ⟨⟨e, h⟩, hok⟩ := h
 have e8 : ((putV q).drop 1).take 8 = lineV q.2 := by
  simp only [putV, List.cons_append, List.nil_append, List.drop_succ_cons, qmE]
  rw [ql9 (by simp [lineV, hok.line.1])]
 simp only [qk, AH.row?, h, qlF, qlw, if_false, qlJ]
 rw [if_neg (by simp), e8, if_pos ⟨by rw [qe1 hok]; omega, qaY _⟩]
theorem PutAt.keep {H H' : AH} {o : Nat} {q : Int × List Int} (h : PutAt H o q) (hg : H'.get o = H.get o) : PutAt H' o q := ⟨by rw [hg]; exact h.g, h.ok⟩
theorem new_put {H : AH} {q : Int × List Int} (h : qcr q) {cs : List Value} {K : Nat → AH → Prop} (hn : cs.length = 9) (hK : PutAt (H.push ⟨putV q, .rw, 0⟩) H.size q → K H.size (H.push ⟨putV q, .rw, 0⟩)) :
  newC H ⟨cs, .rw, 0⟩ fun o H1 => ((putV q).length = 9 ∧ List.all (putV q) qq = true) ∧ stC H1 ⟨o, 0, none⟩ (putV q) fun Hs => K o Hs :=
 new_st hn (qe1 h) (putV_ok q) (hK ⟨⟨0, by simp [qs]⟩, h⟩)
theorem qiW (n : Nat) : zerosOf n (lineV (qlq 8 0)) = (qlq n (qlq 8 (0 : Int))).flatMap lineV := by
 unfold zerosOf
 rw [List.flatMap_def, List.map_replicate]
theorem qjg (M : Mem) (n sp s : Nat) : M.power.view n sp s = M.view n sp s := qdk rfl rfl
theorem qi2 (M : Mem) (n sp s : Nat) (a b : Int) : (M.setCut a b).view n sp s = M.view n sp s := qdk rfl rfl
def gapN (n mv : Nat) : Nat := n - mv % (n + 1)
def baseN (n mv line : Nat) : Nat := (line + mv / (n + 1) % n) % n
def slotN (n mv line : Nat) : Nat := if gapN n mv ≤ baseN n mv line then baseN n mv line + 1 else baseN n mv line
def fromN (n mv : Nat) : Nat := if gapN n mv = 0 then n else gapN n mv - 1
section
variable {n mv line line' : Nat}
theorem gapN_le : gapN n mv ≤ n := by unfold gapN; omega
theorem qfc (hn : 1 ≤ n) : baseN n mv line < n := Nat.mod_lt _ (by omega)
theorem qd2 (hn : 1 ≤ n) : slotN n mv line ≤ n := by
 have := qfc (mv := mv) (line := line) hn
 unfold slotN; split <;> omega
theorem qjV (hn : 1 ≤ n) : slotN n mv line ≠ gapN n mv := by unfold slotN; split <;> omega
theorem qj4 (h : line < n) (h' : line' < n) (e : baseN n mv line = baseN n mv line') : line = line' := by
 unfold baseN at e
 generalize mv / (n + 1) % n = t at e
 have h1 : ∀ a, a < n → (a + t) % n = (a + t % n) % n := fun a _ => by rw [Nat.add_mod, Nat.add_mod a (t % n), Nat.mod_mod]
 rw [h1 _ h, h1 _ h'] at e
 have ht : t % n < n := Nat.mod_lt _ (by omega)
 generalize t % n = u at e ht
 have k : ∀ a, a < n → (a + u) % n = if a + u < n then a + u else a + u - n := by
  intro a ha
  split
  ·exact Nat.mod_eq_of_lt (by assumption)
  ·rw [Nat.mod_eq_sub_mod (by omega), Nat.mod_eq_of_lt (by omega)]
 rw [k _ h, k _ h'] at e
 split at e <;> split at e <;> omega
theorem qj0 (hl : line < n) (hl' : line' < n) (e : slotN n mv line = slotN n mv line') : line = line' := by
 refine qj4 (mv := mv) hl hl' ?_
 unfold slotN at e
 split at e <;> split at e <;> omega
theorem qjv (hn : 1 ≤ n) (hl : line < n) : slotN n (mv + 1) line = if slotN n mv line = fromN n mv then gapN n mv else slotN n mv line := by
 have hb := qfc (mv := mv) (line := line) hn
 have hb' := qfc (mv := mv + 1) (line := line) hn
 have hm := Nat.mod_lt mv (show n + 1 > 0 by omega)
 by_cases hlast : mv % (n + 1) = n
 ·have g0 : gapN n mv = 0 := by unfold gapN; omega
  have hdiv : (mv + 1) / (n + 1) = mv / (n + 1) + 1 := by
   have h0 := Nat.div_add_mod mv (n + 1)
   have : mv + 1 = (n + 1) * (mv / (n + 1) + 1) := by rw [Nat.mul_add]; omega
   rw [this, Nat.mul_div_cancel_left _ (by omega)]
  have hmod : (mv + 1) % (n + 1) = 0 := by rw [Nat.add_mod, hlast]; by_cases h1 : n = 0 <;> simp
  have g1 : gapN n (mv + 1) = n := by unfold gapN; rw [hmod]; omega
  have hbb : baseN n (mv + 1) line = if baseN n mv line + 1 = n then 0 else baseN n mv line + 1 := by
   unfold baseN
   rw [hdiv]
   have e1 : (line + (mv / (n + 1) + 1) % n) % n = ((line + mv / (n + 1) % n) % n + 1) % n := by
    rw [Nat.add_mod_mod, Nat.add_mod_mod, Nat.mod_add_mod]; rfl
   rw [e1]
   have hlt := Nat.mod_lt (line + mv / (n + 1) % n) (show n > 0 by omega)
   generalize (line + mv / (n + 1) % n) % n = b at *
   split
   ·rename_i h; rw [h, Nat.mod_self]
   ·rw [Nat.mod_eq_of_lt (by omega)]
  unfold slotN fromN
  rw [g0, g1, hbb, if_pos rfl, if_pos (qmp _)]
  by_cases h : baseN n mv line + 1 = n
  ·rw [if_pos h, if_neg (show ¬ n ≤ 0 by omega)]
  ·rw [if_neg h, if_neg (show ¬ n ≤ baseN n mv line + 1 by omega)]
 ·have hdiv : (mv + 1) / (n + 1) = mv / (n + 1) := by
   have h0 := Nat.div_add_mod mv (n + 1)
   refine (Nat.div_eq_iff (by omega)).2 ?_
   rw [Nat.mul_comm] at h0
   constructor <;> omega
  have hmod : (mv + 1) % (n + 1) = mv % (n + 1) + 1 := by
   have h0 := Nat.div_add_mod mv (n + 1)
   have h1 := Nat.div_add_mod (mv + 1) (n + 1)
   rw [hdiv] at h1
   omega
  have hbb : baseN n (mv + 1) line = baseN n mv line := by unfold baseN; rw [hdiv]
  have g1 : gapN n (mv + 1) = gapN n mv - 1 := by unfold gapN; rw [hmod]; omega
  have g0 : gapN n mv ≠ 0 := by unfold gapN; omega
  unfold slotN fromN
  rw [hbb, g1, if_neg g0]
  generalize baseN n mv line = b at *
  generalize gapN n mv = g at *
  by_cases h : g ≤ b
  ·rw [if_pos h, if_pos (by omega), if_neg (by omega)]
  ·rw [if_neg h]
   by_cases h2 : b = g - 1
   ·rw [if_pos h2, if_pos (by omega)]; omega
   ·rw [if_neg (by omega), if_neg h2]
theorem qgk : fromN n mv ≤ n := by have := gapN_le (n := n) (mv := mv); unfold fromN; split <;> omega
end
def Mem.mv (M : Mem) : Nat := (M.regs.getD 0 0).toNat
def Mem.tview (M : Mem) (n sp line : Nat) : List Int := M.view (n + 1) sp (slotN n M.mv line)
def tmove (n sp : Nat) (M : Mem) : Mem × Int :=
 let r := lput (n + 1) sp M (gapN n M.mv : Nat) (M.view (n + 1) sp (fromN n M.mv))
 if r.2 = 0 then r.1.set 0 ((M.mv : Int) + 1) else r
def tput (n sp period : Nat) (M : Mem) (puts : Nat) (line : Int) (d : List Int) : Mem × Nat × Int :=
 if 0 ≤ line ∧ line < n then
  if M.down then (M, puts, 2) else
  if puts + 1 = period then
   let r := tmove n sp M
   if r.2 = 0 then let q := lput (n + 1) sp r.1 (slotN n r.1.mv line.toNat : Nat) d; (q.1, 0, q.2) else (r.1, 0, r.2)
  else let q := lput (n + 1) sp M (slotN n M.mv line.toNat : Nat) d; (q.1, puts + 1, q.2)
 else (M, puts, 1)
def tget (n sp : Nat) (M : Mem) (line : Int) : List Int × Int :=
 if 0 ≤ line ∧ line < n then if M.down then (qlq 8 0, 2) else (M.tview n sp line.toNat, 0) else (qlq 8 0, 1)
structure TPut (n sp : Nat) (M : Mem) (line : Option Nat) (d : List Int) (k may : Nat) (M' : Mem) (e : Int) : Prop where
 lv : ∃ k', k ≤ k' ∧ LV M' (n + 1) sp k' ∧ (e = 3 → k' = sp)
 other : ∀ s, s < n → line ≠ some s → M'.tview n sp s = M.tview n sp s
 mv : M.mv ≤ M'.mv ∧ M'.mv ≤ M.mv + may ∧ (e = 0 → M'.mv = M.mv + may)
 regs : ∀ r, (r = 1 ∨ r = 2 ∨ 19 ≤ r) → M'.regs.getD r 0 = M.regs.getD r 0
 mask : M'.mask = M.mask
 rlen : M'.regs.length = 35
 res : (e = 0 ∧ M'.down = false ∧ ∀ s, line = some s → M'.tview n sp s = d) ∨ (e = 3 ∧ M'.down = false ∧ ∀ s, line = some s → M'.tview n sp s = M.tview n sp s) ∨
  (e = 2 ∧ M'.down = true ∧ M.cut ≠ -1 ∧ ∀ s, line = some s → M'.tview n sp s = M.tview n sp s ∨ M'.tview n sp s = d ∨ M'.tview n sp s = mixL (M.tview n sp s) d M.mask)
 cut : M.cut = -1 → M'.cut = -1
 cutge : -1 ≤ M'.cut
section
variable {M M' : Mem} {n sp k : Nat} {d : List Int}
theorem mv_same (h : M'.regs.getD 0 0 = M.regs.getD 0 0) : M'.mv = M.mv := by unfold Mem.mv; rw [h]
theorem qhi (h : LV M (n + 1) sp k) (hn : 1 ≤ n) (hr : M.regs.length = 35) (h0 : 0 ≤ M.regs.getD 0 0) (hd : M.down = false) (hc : -1 ≤ M.cut) (hlen : ∀ s, s < n + 1 → (M.view (n + 1) sp s).length = 8) :
  TPut n sp M none d k 1 (tmove n sp M).1 (tmove n sp M).2 := by
 have hg : gapN n M.mv < n + 1 := by have := gapN_le (n := n) (mv := M.mv); omega
 have hf : fromN n M.mv < n + 1 := by have := qgk (n := n) (mv := M.mv); omega
 have hP := qin (slot := gapN n M.mv) (d := M.view (n + 1) sp (fromN n M.mv)) h hr hd hc hg (hlen _ hf)
 unfold tmove
 simp only
 generalize lput (n + 1) sp M (gapN n M.mv : Nat) (M.view (n + 1) sp (fromN n M.mv)) = R at *
 obtain ⟨⟨k1, hk1, hlv1, he1⟩, p2, p3, p4, p5, p6, p7, p8⟩ := hP
 have hmv1 : R.1.mv = M.mv := mv_same (p3 0 (by omega))
 have hview : ∀ s, s < n → R.1.tview n sp s = M.tview n sp s := by
  intro s hs
  unfold Mem.tview
  rw [hmv1]
  exact p2 _ (by have := qd2 (mv := M.mv) (line := s) hn; omega) (qjV hn)
 by_cases he : R.2 = 0
 ·rw [if_pos he]
  have hup : R.1.down = false ∧ R.1.view (n + 1) sp (gapN n M.mv) = M.view (n + 1) sp (fromN n M.mv) := by
   rcases p6 with ⟨_, a, b⟩ | ⟨a, _⟩ | ⟨a, _⟩
   ·exact ⟨a, b⟩
   ·omega
   ·omega
  have hS := Mem.set_any (M := R.1) (i := 0) (v := (M.mv : Int) + 1) hup.1 (by omega) p8
  rw [show ((0 : Nat) : Int) = 0 from rfl] at hS
  generalize R.1.set 0 ((M.mv : Int) + 1) = Q at *
  have hcl : Q.1.cs.length = R.1.cs.length := by rw [hS.cs]
  have hwh : ∀ j, (Q.1.regs = R.1.regs ∨ Q.1.regs = R.1.regs.set 0 ((M.mv : Int) + 1)) → Q.1.whose j = R.1.whose j := by
   intro j hor
   unfold Mem.whose
   rcases hor with hor | hor
   ·rw [hor]
   ·rw [hor]; simp only [qlo]; rw [qlQ (by omega)]
  have hvQ : ∀ s, (Q.1.regs = R.1.regs ∨ Q.1.regs = R.1.regs.set 0 ((M.mv : Int) + 1)) → Q.1.view (n + 1) sp s = R.1.view (n + 1) sp s := by
   intro s hor
   unfold Mem.view
   rw [qd0 hS.cs, qdd (M' := Q.1) (M := R.1) fun j _ => by rw [hwh j hor]]
  have hlvQ : (Q.1.regs = R.1.regs ∨ Q.1.regs = R.1.regs.set 0 ((M.mv : Int) + 1)) → LV Q.1 (n + 1) sp k1 := fun hor =>
   ⟨by rw [hcl]; exact hlv1.len, hlv1.n1, hlv1.sp16, hlv1.kle, fun i hi => by rw [hwh i hor]; exact hlv1.used i hi, fun i hi hi' => by rw [hwh i hor]; exact hlv1.free i hi hi'⟩
  have hregs : ∀ r, (r = 1 ∨ r = 2 ∨ 19 ≤ r) → (Q.1.regs = R.1.regs ∨ Q.1.regs = R.1.regs.set 0 ((M.mv : Int) + 1)) → Q.1.regs.getD r 0 = M.regs.getD r 0 := by
   intro r hr' hor
   rw [← p3 r (by omega)]
   rcases hor with hor | hor
   ·rw [hor]
   ·rw [hor]; simp only [qlo]; rw [qlQ (by omega)]
  have hrl : (Q.1.regs = R.1.regs ∨ Q.1.regs = R.1.regs.set 0 ((M.mv : Int) + 1)) → Q.1.regs.length = 35 := by
   rintro (hor | hor)
   ·rw [hor]; exact p5
   ·rw [hor]; simpa using p5
  have hmvold : Q.1.regs = R.1.regs → Q.1.mv = M.mv := fun hor => by rw [← hmv1]; exact mv_same (by rw [hor])
  have hmvnew : Q.1.regs = R.1.regs.set 0 ((M.mv : Int) + 1) → Q.1.mv = M.mv + 1 := by
   intro hor
   have : Q.1.regs.getD 0 0 = (M.mv : Int) + 1 := by rw [hor, qlo, List.getElem?_set_self (by omega)]; rfl
   show (Q.1.regs.getD 0 0).toNat = _
   rw [this]; omega
  have hold : Q.1.regs = R.1.regs → ∀ s, s < n → Q.1.tview n sp s = M.tview n sp s := by
   intro hor s hs
   rw [← hview s hs]
   unfold Mem.tview
   rw [hmvold hor, hmv1, hvQ _ (.inl hor)]
  have hnew : Q.1.regs = R.1.regs.set 0 ((M.mv : Int) + 1) → ∀ s, s < n → Q.1.tview n sp s = M.tview n sp s := by
   intro hor s hs
   unfold Mem.tview
   rw [hmvnew hor, qjv hn hs, hvQ _ (.inr hor)]
   by_cases hfr : slotN n M.mv s = fromN n M.mv
   ·rw [if_pos hfr, hup.2, hfr]
   ·rw [if_neg hfr]
    have := hview s hs
    unfold Mem.tview at this
    rw [hmv1] at this
    exact this
  rcases hS.res with ⟨e', hd', hq⟩ | ⟨e', hd', hcut, hq⟩
  ·exact ⟨⟨k1, hk1, hlvQ (.inr hq), by omega⟩, fun s hs _ => hnew hq s hs, ⟨by rw [hmvnew hq]; omega, by rw [hmvnew hq]; omega, fun _ => hmvnew hq⟩, fun r hr' => hregs r hr' (.inr hq), hS.mask.trans p4, hrl (.inr hq), .inl ⟨e', hd', by simp⟩, fun hc => hS.cut (p7 hc), hS.cutge⟩
  ·refine ⟨⟨k1, hk1, hlvQ hq, by omega⟩, fun s hs _ => ?_, ?_, fun r hr' => hregs r hr' hq, hS.mask.trans p4, hrl hq, .inr (.inr ⟨e', hd', fun hc => hcut (p7 hc), by simp⟩), fun hc => hS.cut (p7 hc), hS.cutge⟩
   ·rcases hq with hq | hq
    ·exact hold hq s hs
    ·exact hnew hq s hs
   ·rcases hq with hq | hq
    ·rw [hmvold hq]; exact ⟨by omega, by omega, by omega⟩
    ·rw [hmvnew hq]; exact ⟨by omega, by omega, by omega⟩
 ·rw [if_neg he]
  refine ⟨⟨k1, hk1, hlv1, he1⟩, fun s hs _ => hview s hs, ⟨by omega, by omega, fun h => absurd h he⟩, fun r hr' => p3 r (by omega), p4, p5, ?_, p7, p8⟩
  rcases p6 with ⟨a, _⟩ | ⟨a, b, _⟩ | ⟨a, b, c, _⟩
  ·exact absurd a he
  ·exact .inr (.inl ⟨a, b, by simp⟩)
  ·exact .inr (.inr ⟨a, b, c, by simp⟩)
theorem qhf {line : Nat} (h : LV M (n + 1) sp k) (hn : 1 ≤ n) (hr : M.regs.length = 35) (hd : M.down = false) (hc : -1 ≤ M.cut) (hl : line < n) (hlen : d.length = 8) :
  TPut n sp M (some line) d k 0 (lput (n + 1) sp M (slotN n M.mv line : Nat) d).1 (lput (n + 1) sp M (slotN n M.mv line : Nat) d).2 := by
 have hs : slotN n M.mv line < n + 1 := by have := qd2 (mv := M.mv) (line := line) hn; omega
 have hP := qin (slot := slotN n M.mv line) (d := d) h hr hd hc hs hlen
 generalize lput (n + 1) sp M (slotN n M.mv line : Nat) d = R at *
 obtain ⟨⟨k1, hk1, hlv1, he1⟩, p2, p3, p4, p5, p6, p7, p8⟩ := hP
 have hmv1 : R.1.mv = M.mv := mv_same (p3 0 (by omega))
 refine ⟨⟨k1, hk1, hlv1, he1⟩, fun s hs' hne => ?_, ⟨by omega, by omega, fun _ => by omega⟩, fun r hr' => p3 r (by omega), p4, p5, ?_, p7, p8⟩
 ·unfold Mem.tview
  rw [hmv1]
  exact p2 _ (by have := qd2 (mv := M.mv) (line := s) hn; omega) fun e => hne (by rw [qj0 hl hs' e.symm])
 ·have hv : ∀ s, some line = some s → R.1.tview n sp s = R.1.view (n + 1) sp (slotN n M.mv line) ∧ M.tview n sp s = M.view (n + 1) sp (slotN n M.mv line) := by
   intro s hs'
   injection hs' with hs'
   subst hs'
   unfold Mem.tview
   rw [hmv1]
   exact ⟨rfl, rfl⟩
  rcases p6 with ⟨a, b, c⟩ | ⟨a, b, c⟩ | ⟨a, b, b', c⟩
  ·exact .inl ⟨a, b, fun s hs' => by rw [(hv s hs').1, c]⟩
  ·exact .inr (.inl ⟨a, b, fun s hs' => by rw [(hv s hs').1, (hv s hs').2, c]⟩)
  ·exact .inr (.inr ⟨a, b, b', fun s hs' => by rw [(hv s hs').1, (hv s hs').2]; exact c⟩)
theorem qeV (h : LV M (n + 1) sp k) (hok : M.ok) {s : Nat} (hs : s < n + 1) : isLine (M.view (n + 1) sp s) := by
 have hp := qet (M := M) (n := n + 1) (sp := sp) hs
 have hlen := h.len
 have : M.cl (M.place (n + 1) s sp) ∈ M.cs := by
  unfold Mem.cl
  rw [qlo, qln (by omega)]
  exact qlB _
 exact hok.lines _ this
theorem qd6 (hok : M.ok) : 0 ≤ M.regs.getD 0 0 := by
 have := hok.regs
 rw [qlo, qln (by omega)]
 exact (hok.regU _ (qlB _)).1
theorem qgr (h : LV M (n + 1) sp k) (hok : M.ok) (hmv : M.mv ≤ 4611686018427387904) : (tmove n sp M).1.ok := by
 have hl := h.len
 have hok2 := hok.len
 have hf : fromN n M.mv < n + 1 := by have := qgk (n := n) (mv := M.mv); omega
 have h1 := lput_ok (n := n + 1) (sp := sp) (slot := ((gapN n M.mv : Nat) : Int)) (qeV h hok hf) (by omega) hok
 unfold tmove
 simp only
 split
 ·exact Mem.set_ok h1 (by unfold isU; omega)
 ·exact h1
theorem qfx : (tmove n sp M).1.cs.length = M.cs.length := by
 unfold tmove
 simp only
 split
 ·rw [Mem.set_len, qeB]
 ·rw [qeB]
theorem qex {line period puts : Nat} (h : LV M (n + 1) sp k) (hn : 1 ≤ n) (hok : M.ok) (hmv : M.mv ≤ 4611686018427387904) (hd : M.down = false) (hl : line < n) (hlen : d.length = 8) :
  TPut n sp M (some line) d k (if puts + 1 = period then 1 else 0) (tput n sp period M puts line d).1 (tput n sp period M puts line d).2.2 ∧
  (tput n sp period M puts line d).2.1 = (if puts + 1 = period then 0 else puts + 1) := by
 unfold tput
 rw [if_pos (show 0 ≤ (line : Int) ∧ (line : Int) < (n : Int) from ⟨by omega, by omega⟩), if_neg (show ¬ M.down = true by simp [hd]), qlp]
 by_cases hp : puts + 1 = period
 ·rw [if_pos hp, if_pos hp, if_pos hp]
  have h1 := qhi (d := d) h hn hok.regs (qd6 hok) hd hok.cut.1 (fun s hs => (qeV h hok hs).1)
  have hok1 := qgr h hok hmv
  simp only
  generalize tmove n sp M = R at *
  obtain ⟨⟨k1, hk1, hlv1, he1⟩, p2, p3, p4, p5, p6, p7, p8, p9⟩ := h1
  by_cases he : R.2 = 0
  ·rw [if_pos he]
   have hup : R.1.down = false := by
    rcases p7 with ⟨_, a, _⟩ | ⟨a, _⟩ | ⟨a, _⟩
    ·exact a
    ·omega
    ·omega
   have h2 := qhf (line := line) (d := d) hlv1 hn p6 hup p9 hl hlen
   simp only
   generalize lput (n + 1) sp R.1 (slotN n R.1.mv line : Nat) d = Q at *
   obtain ⟨⟨k2, hk2, hlv2, he2⟩, q2, q3, q4, q5, q6, q7, q8, q9⟩ := h2
   have hvl := p2 line hl (by simp)
   refine ⟨⟨⟨k2, by omega, hlv2, he2⟩, fun s hs hne => (q2 s hs hne).trans (p2 s hs (by simp)), ⟨by omega, by omega, fun _ => by have := p3.2.2 he; omega⟩, fun r hr => (q4 r hr).trans (p4 r hr), q5.trans p5, q6, ?_, fun hc => q8 (p8 hc), q9⟩, trivial⟩
   rcases q7 with ⟨a, b, c⟩ | ⟨a, b, c⟩ | ⟨a, b, b', c⟩
   ·exact .inl ⟨a, b, c⟩
   ·refine .inr (.inl ⟨a, b, fun s hs => ?_⟩)
    rw [c s hs]; injection hs with hs; subst hs; exact hvl
   ·refine .inr (.inr ⟨a, b, fun hc => b' (p8 hc), fun s hs => ?_⟩)
    have := c s hs
    injection hs with hs; subst hs
    rw [hvl, p5] at this
    exact this
  ·rw [if_neg he]
   have hvl := p2 line hl (by simp)
   refine ⟨⟨⟨k1, hk1, hlv1, he1⟩, fun s hs _ => p2 s hs (by simp), p3, p4, p5, p6, ?_, p8, p9⟩, rfl⟩
   rcases p7 with ⟨a, _⟩ | ⟨a, b, _⟩ | ⟨a, b, b', _⟩
   ·exact absurd a he
   ·refine .inr (.inl ⟨a, b, fun s hs => ?_⟩)
    injection hs with hs; subst hs; exact hvl
   ·refine .inr (.inr ⟨a, b, b', fun s hs => ?_⟩)
    injection hs with hs; subst hs; exact .inl hvl
 ·rw [if_neg hp, if_neg hp, if_neg hp]
  exact ⟨qhf (line := line) (d := d) h hn hok.regs hd hok.cut.1 hl hlen, rfl⟩
end
section
variable {H : AH}
theorem qep (a b : Nat) : Int.tmod (a : Int) (b : Int) = ((a % b : Nat) : Int) := by
 rw [Int.tmod_eq_emod_of_nonneg (by omega)]; rfl
theorem qgl (a b : Nat) : Int.tdiv (a : Int) (b : Int) = ((a / b : Nat) : Int) := by
 rw [Int.tdiv_eq_ediv_of_nonneg (by omega)]; rfl
variable {n mv line : Nat}
theorem gap_may.s {k : Bool → AH → Prop} (hn : 1 ≤ n ∧ n ≤ 1000) (h : k true H) : gap_may n mv H k := by
 refine gap_may.link ?_
 unfold gap_may.b
 rw [show decide ((n : Int) ≥ 1) = true from by simp; omega, qf, show decide ((n : Int) ≤ 100000) = true from by simp; omega, qf, show decide ((mv : Int) ≥ 0) = true from by simp]
 exact h
theorem gap_Gap.s {k : Int → AH → Prop} (hn : 1 ≤ n ∧ n ≤ 1000) (h : k (gapN n mv : Nat) H) : gap_Gap n mv H k := by
 refine gap_Gap.link ?_
 unfold gap_Gap.b
 refine gap_may.s hn ?_
 rw [Bool.not_true, qa, qg (n := (n : Int) + 1) (by omega) (by omega)]
 refine ⟨by omega, ?_⟩
 have e : (n : Int) + 1 = ((n + 1 : Nat) : Int) := by omega
 have hm := Nat.mod_lt mv (show n + 1 > 0 by omega)
 rw [e, qep]
 have e2 : qll .i64 ((n : Int) - ((mv % (n + 1) : Nat) : Int)) = ((gapN n mv : Nat) : Int) := by
  unfold gapN
  generalize mv % (n + 1) = r at *
  rw [qg (by omega) (by omega)]; omega
 rw [e2]
 exact h
theorem qcI.s {k : Int → AH → Prop} (hn : 1 ≤ n ∧ n ≤ 1000) (hmv : mv ≤ 4611686018427387904) (h : k (mv / (n + 1) % n : Nat) H) : qcI n mv H k := by
 refine qcI.link ?_
 unfold qcI.b
 rw [qg (n := (n : Int) + 1) (by omega) (by omega)]
 refine ⟨by omega, by omega, ?_⟩
 have e : (n : Int) + 1 = ((n + 1 : Nat) : Int) := by omega
 have hd := Nat.div_le_self mv (n + 1)
 rw [e, qgl]
 generalize mv / (n + 1) = r at *
 rw [qg (n := (r : Int)) (by omega) (by omega), qep]
 exact h
theorem qca.s {k : Int → AH → Prop} (hn : 1 ≤ n ∧ n ≤ 1000) (hmv : mv ≤ 4611686018427387904) (hl : line < n) (h : k (slotN n mv line : Nat) H) : qca n mv line H k := by
 refine qca.link ?_
 unfold qca.b qca.j1
 refine gap_may.s hn ?_
 rw [Bool.not_true, qa, show decide ((line : Int) < 0) = false from by simp, qa, show decide ((line : Int) ≥ (n : Int)) = false from by simp; omega, qa]
 refine qcI.s hn hmv ?_
 refine ⟨by omega, ?_⟩
 refine gap_Gap.s hn ?_
 have hb : Int.tmod (qll .i64 ((line : Int) + ((mv / (n + 1) % n : Nat) : Int))) (n : Int) = ((baseN n mv line : Nat) : Int) := by
  unfold baseN
  have ht := Nat.mod_lt (mv / (n + 1)) (show n > 0 by omega)
  generalize mv / (n + 1) % n = t at *
  rw [qg (by omega) (by omega)]
  have : (line : Int) + (t : Int) = ((line + t : Nat) : Int) := by omega
  rw [this, qep]
 have hlt := qfc (mv := mv) (line := line) hn.1
 rw [hb]
 unfold slotN at h
 simp only [qi, decide_eq_true_eq]
 by_cases hc : gapN n mv ≤ baseN n mv line
 ·rw [if_pos hc] at h
  rw [if_pos (by omega), qg (by omega) (by omega)]
  exact_mod_cast h
 ·rw [if_neg hc] at h
  rw [if_neg (by omega)]
  exact h
theorem qcY.s {k : Int → Int → AH → Prop} (hn : 1 ≤ n ∧ n ≤ 1000) (h : k (fromN n mv : Nat) (gapN n mv : Nat) H) : qcY n mv H k := by
 refine qcY.link ?_
 unfold qcY.b
 refine gap_Gap.s hn ?_
 have hg := gapN_le (n := n) (mv := mv)
 unfold fromN at h
 simp only [qi, beq_iff_eq]
 rw [if_neg (by omega)]
 by_cases h0 : gapN n mv = 0
 ·rw [if_pos h0] at h
  rw [if_pos (by omega)]
  rw [h0] at h
  exact h
 ·rw [if_neg h0] at h
  rw [if_neg (by omega), qg (by omega) (by omega)]
  have : ((gapN n mv : Nat) : Int) - 1 = ((gapN n mv - 1 : Nat) : Int) := by omega
  rw [this]
  exact h
end
def tobj (p x n period puts : Nat) : AObj := ⟨[.pointer (some ⟨p, 0, none⟩), .pointer (some ⟨x, 0, none⟩), .int .i64 n, .int .i64 period, .int .i64 puts], .rw, 0⟩
structure TAt (H : AH) (t x p c n sp period puts : Nat) (M : Mem) : Prop where
 ht : H.get t = tobj p x n period puts
 lt : t < H.size
 tp : t ≠ p
 tc : t ≠ c
 tx : t ≠ x
 l : LAt H x p c (n + 1) sp M
 n1 : 1 ≤ n
 per : 1 ≤ period ∧ period ≤ 1000
 pl : puts < period
 mv : M.mv ≤ 4611686018427387904
structure Frt (H H' : AH) (t p c : Nat) : Prop where
 size : H.size ≤ H'.size
 get : ∀ b, b < H.size → b ≠ t → b ≠ p → b ≠ c → H'.get b = H.get b
theorem Frt.refl {H : AH} {t p c : Nat} : Frt H H t p c := ⟨qlu _, fun _ _ _ _ _ => rfl⟩
theorem Frt.trans {H H' H2 : AH} {t p c : Nat} (h : Frt H H' t p c) (h' : Frt H' H2 t p c) : Frt H H2 t p c :=
 ⟨Nat.le_trans h.size h'.size, fun b hb h1 h2 h3 => (h'.get b (by have := h.size; omega) h1 h2 h3).trans (h.get b hb h1 h2 h3)⟩
theorem Frt.of_keeps {H H' : AH} {t p c : Nat} (h : qc H H') : Frt H H' t p c := ⟨h.1, fun b hb _ _ _ => h.2 b hb⟩
theorem Frt.of_frm {H H' : AH} {t p c : Nat} (h : Frm H H' p c) : Frt H H' t p c := ⟨by rw [h.size]; exact qlu _, fun b _ _ h2 h3 => h.get b h2 h3⟩
section
variable {H H' : AH} {t x p c n sp period puts puts' : Nat} {M M' : Mem} {line : Int}
theorem TAt.cell (h : TAt H t x p c n sp period puts M) (i : Nat) : AH.cell? H (qlm ⟨t, 0, none⟩ i) = (tobj p x n period puts).cells[i]? := by
 rw [qk, qlJ]
 simp only [AH.cell?, h.ht, qlF, qlw, if_false]
 rw [if_neg (by simp [tobj])]
theorem TAt.c0 (h : TAt H t x p c n sp period puts M) : AH.cell? H (qlm ⟨t, 0, none⟩ 0) = some (.pointer (some ⟨p, 0, none⟩)) := h.cell 0
theorem TAt.c1 (h : TAt H t x p c n sp period puts M) : AH.cell? H (qlm ⟨t, 0, none⟩ 1) = some (.pointer (some ⟨x, 0, none⟩)) := h.cell 1
theorem TAt.c2 (h : TAt H t x p c n sp period puts M) : AH.cell? H (qlm ⟨t, 0, none⟩ 2) = some (.int .i64 n) := h.cell 2
theorem TAt.c4 (h : TAt H t x p c n sp period puts M) : AH.cell? H (qlm ⟨t, 0, none⟩ 4) = some (.int .i64 puts) := h.cell 4
theorem TAt.n200 (h : TAt H t x p c n sp period puts M) : n + 1 + sp ≤ 200 := h.l.n200
theorem TAt.keeps (h : TAt H t x p c n sp period puts M) (hk : qc H H') : TAt H' t x p c n sp period puts M :=
 ⟨by rw [hk.2 t h.lt, h.ht], by have := hk.1; have := h.lt; omega, h.tp, h.tc, h.tx, h.l.keeps hk, h.n1, h.per, h.pl, h.mv⟩
theorem TAt.push (h : TAt H t x p c n sp period puts M) (o : AObj) : TAt (H.push o) t x p c n sp period puts M := h.keeps ((qc.refl H).push o)
theorem TAt.mem (h : TAt H t x p c n sp period puts M) (hl : LAt H' x p c (n + 1) sp M') (f : Frm H H' p c) (hmv : M'.mv ≤ 4611686018427387904) : TAt H' t x p c n sp period puts M' :=
 ⟨by rw [f.get t h.tp h.tc, h.ht], by rw [f.size]; exact h.lt, h.tp, h.tc, h.tx, hl, h.n1, h.per, h.pl, hmv⟩
def setT (H : AH) (t x p c n period puts : Nat) (M : Mem) : AH := (setM H p c M).upd t (tobj p x n period puts)
theorem TAt.at (h : TAt H t x p c n sp period puts M) (h' : TAt H' t x p c n sp period puts' M') (f : Frt H H' t p c) : At H H' (setT H t x p c n period puts' M') := by
 have hlt := h.lt
 have hlx := h.l.lx
 have hlp := h.l.m.lp
 have hlc := h.l.m.lc
 have hget : ∀ b, (setT H t x p c n period puts' M').get b = if b = t then tobj p x n period puts' else if b = p then memObj c M' else if b = c then celObj M' else H.get b := fun _ => rfl
 have hmem := qB.at (M' := M') (H' := setM H p c M') h.l.m (fun _ _ => rfl)
 refine ⟨rfl, fun b hb => ?_, fun b hb => ?_, fun b hb => ?_⟩
 ·rw [hget]
  split
  ·rename_i e; rw [e, h'.ht]
  ·split
   ·rename_i e; rw [e, h'.l.m.hp]
   ·split
    ·rename_i e; rw [e, h'.l.m.hc]
    ·exact f.get b hb ‹_› ‹_› ‹_›
 ·rw [hget, if_neg (by omega), if_neg (by omega), if_neg (by omega)]
 ·by_cases hbt : b = t
  ·right
   rw [hget, if_pos hbt]
   simp [tobj, lowV, hlp, hlx, flatC]
  ·have e : (setT H t x p c n period puts' M').get b = (setM H p c M').get b := by rw [hget, if_neg hbt, qcM]
   rw [e]
   exact hmem.low b hb
theorem TAt.setT (h : TAt H t x p c n sp period puts M) (hpl : puts' < period) (hok : M'.ok) (hl : M'.cs.length = M.cs.length) (hmv : M'.mv ≤ 4611686018427387904) : TAt (setT H t x p c n period puts' M') t x p c n sp period puts' M' := by
 have hget : ∀ b, (Go.Proofs.YtemeclnpdpkfdaaGreat.setT H t x p c n period puts' M').get b = if b = t then tobj p x n period puts' else (setM H p c M').get b := fun _ => rfl
 have hL := h.l.set hok hl
 refine ⟨by rw [hget, if_pos rfl], h.lt, h.tp, h.tc, h.tx, ⟨by rw [hget, if_neg (Ne.symm h.tx), hL.hx], hL.lx, hL.xp, hL.xc, hL.m.keep (qlu _) (by rw [hget, if_neg (Ne.symm h.tp)]) (by rw [hget, if_neg (Ne.symm h.tc)]), hL.len, hL.n1, hL.sp16⟩, h.n1, h.per, hpl, hmv⟩
theorem qez : Frt H (setT H t x p c n period puts M) t p c := ⟨qlu _, fun b _ h1 h2 h3 => by
 show (if b = t then _ else (setM H p c M).get b) = _
 rw [if_neg h1, qc7 h2 h3]⟩
theorem qfb.s {k : Int → AH → Prop} (h : TAt H t x p c n sp period puts M) (hd : M.down = false) (hk : k (M.mv : Nat) H) : qbL (some ⟨t, 0, none⟩) H k := by
 refine qbL.link ?_
 unfold qbL.b
 simp only [qlG, qi, qlw, if_false, qd, h.c0, qag]
 refine qS.s h.l.m ?_
 have h0 := qd6 h.l.m.ok
 have hmv := h.mv
 have e : M.reg 0 = ((M.mv : Int), 0) := by
  unfold Mem.reg
  rw [if_pos ⟨by omega, by omega⟩, if_neg (by simp [hd])]
  unfold Mem.mv
  refine Prod.ext ?_ rfl
  show M.regs.getD 0 0 = _
  omega
 rw [e, qg (n := (M.mv : Int)) (by omega) (by omega)]
 exact hk
def tmay (n : Nat) (M : Mem) (line : Int) : Int := if 0 ≤ line ∧ line < n then if M.down then 2 else 0 else 1
theorem qh0.s {k : Int → AH → Prop} (h : TAt H t x p c n sp period puts M) (hk : k (tmay n M line) H) : qbp (some ⟨t, 0, none⟩) line H k := by
 refine qbp.link ?_
 unfold qbp.b qbp.j1
 unfold tmay at hk
 simp only [qlG, qi, qlw, if_false, if_true, qd, h.c0, h.c2, qag, qe, decide_eq_true_eq]
 by_cases h1 : line < 0
 ·rw [if_pos h1]
  rw [if_neg (by omega)] at hk
  exact hk
 rw [if_neg h1]
 by_cases h2 : line ≥ (n : Int)
 ·rw [if_pos h2]
  rw [if_neg (by omega)] at hk
  exact hk
 rw [if_neg h2]
 rw [if_pos ⟨by omega, by omega⟩] at hk
 refine qaI.s h.l.m ?_
 by_cases hd : M.down = true
 ·rw [if_pos hd] at hk ⊢; exact hk
 ·rw [if_neg hd] at hk ⊢; exact hk
theorem qda.s {k : Int → AH → Prop} (h : TAt H t x p c n sp period puts M) (hk : k n H) : qbb (some ⟨t, 0, none⟩) H k := by
 refine qbb.link ?_
 unfold qbb.b
 simp only [qlG, qi, qlw, if_false, qd, h.c2, qe]
 exact hk
theorem qe2 {H1 : AH} {l : List Int} {Q : List Value → AH → Prop} (hk : qc (H.push ⟨lineV (qlq 8 0), .rw, 0⟩) H1) (hl : isLine l) (hQ : ∀ H', qc H H' → Q (lineV l) H') :
  ((lineV l).length = 8 ∧ List.all (lineV l) qq = true) ∧ stC H1 ⟨H.size, 0, none⟩ (lineV l) fun Hs => ldA Hs ⟨H.size, 0, none⟩ 8 fun r0 => Q r0 Hs := by
 have hg : H1.get H.size = ⟨lineV (qlq 8 0), .rw, 0⟩ := by rw [hk.2 _ (by simp [qm]), qs, if_pos rfl]
 refine ⟨⟨qt hl.1, qaY _⟩, stC_to ⟨rfl, by rw [hg], by rw [hg, qt hl.1]; simp only [qt (l := qlq 8 0) rfl]; omega⟩ (qdJ rfl hl.1 hg) ?_⟩
 have hrow : AH.row? (H1.upd H.size ⟨lineV l, .rw, 0⟩) ⟨H.size, 0, none⟩ 8 = some (lineV l) := by
  simp only [AH.row?, qT, if_true, qlF, qlw, if_false, qmE]
  rw [if_neg (by simp), ql9 (by rw [qt hl.1]; omega), if_pos ⟨by rw [qt hl.1]; omega, qaY _⟩]
 rw [qp hrow]
 exact hQ _ ((((qc.refl H).push _).trans hk).upd (qlu _) _)
theorem LAt.lineOf (h : LAt H x p c n sp M) {s : Nat} (hs : s < n) : isLine (M.view n sp s) := by
 have hp := qet (M := M) (n := n) (sp := sp) hs
 have hlen := h.len
 have : M.cl (M.place n s sp) ∈ M.cs := by
  unfold Mem.cl
  rw [qlo, qln (by omega)]
  exact qlB _
 exact h.m.ok.lines _ this
theorem TAt.lineOf (h : TAt H t x p c n sp period puts M) (s : Nat) : isLine (M.tview n sp s) :=
 h.l.lineOf (by have := qd2 (mv := M.mv) (line := s) h.n1; omega)
theorem qfd.s {k : List Value → Int → AH → Prop} (h : TAt H t x p c n sp period puts M) (hk : k (lineV (tget n sp M line).1) (tget n sp M line).2 H) : qbo (some ⟨t, 0, none⟩) line H k := by
 refine canon2 (κ := .agg) (μ := .int .i64) (by simp) (by simp) (qds _) rfl (qbo.link ?_) hk
 unfold qbo.b
 rw [qv, zeroV]
 have hT := h.push ⟨lineV (qlq 8 0), .rw, 0⟩
 simp only [qi]
 refine qh0.s hT ?_
 unfold tmay tget
 by_cases hs : 0 ≤ line ∧ line < n
 ·rw [if_pos hs, if_pos hs]
  by_cases hd : M.down = true
  ·rw [if_pos hd, if_pos hd, if_pos (by simp)]
   exact qe2 (Q := fun r H' => At H H' H ∧ r = _ ∧ _) (qc.refl _) qbq fun H' hk => ⟨At.of_keeps hk, rfl, rfl⟩
  ·have hd' : M.down = false := by simpa using hd
   obtain ⟨ln, rfl⟩ := qlI hs.1
   rw [if_neg hd, if_neg hd, if_neg (by simp)]
   simp only [qd, hT.c1, hT.c2, qag, qe]
   refine qfb.s hT hd' ⟨hT.c2, hT.c1, ?_⟩
   have hn200 := h.n200
   refine qca.s ⟨h.n1, by omega⟩ h.mv (by omega) ⟨hT.c1, ?_⟩
   refine qhv.s hT.l ?_
   have hsl := qd2 (mv := M.mv) (line := ln) h.n1
   have hg : lget (n + 1) sp M ((slotN n M.mv ln : Nat) : Int) = (M.tview n sp ln, 0) := by
    unfold lget; rw [if_pos ⟨by omega, by omega⟩, if_neg hd]; rfl
   rw [hg, qlp]
   exact qe2 (Q := fun r H' => At H H' H ∧ r = _ ∧ _) (qc.refl _) (h.lineOf ln) fun H' hk => ⟨At.of_keeps hk, rfl, rfl⟩
 ·rw [if_neg hs, if_neg hs, if_pos (by simp)]
  exact qe2 (Q := fun r H' => At H H' H ∧ r = _ ∧ _) (qc.refl _) qbq fun H' hk => ⟨At.of_keeps hk, rfl, rfl⟩
theorem qj8.s {k : Int → AH → Prop} (h : TAt H t x p c n sp period puts M) (hd : M.down = false) (hk : k (tmove n sp M).2 (setM H p c (tmove n sp M).1)) : qbX (some ⟨t, 0, none⟩) H k := by
 have hn200 := h.n200
 have hg := gapN_le (n := n) (mv := M.mv)
 have hf := qgk (n := n) (mv := M.mv)
 refine qc1 (κ := .int .i64) (by simp) rfl (qbX.link ?_) hk
 unfold qbX.b
 simp only [qi]
 refine qfb.s h hd ?_
 rw [qd, h.c2, qe]
 refine qcY.s ⟨h.n1, by omega⟩ ?_
 rw [qd, h.c1, qag]
 refine qhv.s h.l ?_
 have hg' : lget (n + 1) sp M ((fromN n M.mv : Nat) : Int) = (M.view (n + 1) sp (fromN n M.mv), 0) := by
  unfold lget; rw [if_pos ⟨by omega, by omega⟩, if_neg (by simp [hd])]; rfl
 have hl := h.l.lineOf (s := fromN n M.mv) (by omega)
 rw [hg', zeroV]
 refine qgj hl ?_
 rw [if_neg (by simp)]
 have hT := h.push ⟨lineV (M.view (n + 1) sp (fromN n M.mv)), .rw, 0⟩
 rw [qd, hT.c1, qag, qp (qfa hl)]
 have fin : ∀ {M' : Mem} {H' : AH}, qB H' p c M' → Frm (H.push ⟨lineV (M.view (n + 1) sp (fromN n M.mv)), .rw, 0⟩) H' p c → At H H' (setM H p c M') := by
  intro M' H' hm f
  refine h.l.m.at fun b hb => ?_
  rw [qcM]
  split
  ·rename_i e; rw [e, hm.hp]
  ·split
   ·rename_i e; rw [e, hm.hc]
   ·rw [f.get b ‹_› ‹_›, qO (by omega)]
 refine qeL.g hT.l hl (Prod.eta _).symm ?_
 intro H2 hL2 f2
 unfold tmove
 simp only
 have hmv := h.mv
 by_cases he : (lput (n + 1) sp M ((gapN n M.mv : Nat) : Int) (M.view (n + 1) sp (fromN n M.mv))).2 = 0
 ·rw [if_pos he, if_neg (by simp [he])]
  have hT2 : TAt H2 t x p c n sp period puts (lput (n + 1) sp M ((gapN n M.mv : Nat) : Int) (M.view (n + 1) sp (fromN n M.mv))).1 → True := fun _ => trivial
  have c0 : AH.cell? H2 (qlm ⟨t, 0, none⟩ 0) = some (.pointer (some ⟨p, 0, none⟩)) := by
   rw [qk, f2.cell h.tp h.tc, ← qk]; exact hT.c0
  rw [qd, c0, qag, qbI (n := (M.mv : Int)) (by omega) (by omega), qbI (n := (M.mv : Int) + 1) (by omega) (by omega)]
  refine qN.g hL2.m (by unfold isU; omega) (Prod.eta _).symm ?_
  intro H3 hm3 f3
  exact ⟨fin hm3 (f2.trans f3), rfl⟩
 ·rw [if_neg he, if_pos (by simpa using he)]
  exact ⟨fin hL2.m f2, rfl⟩
end
section
variable {H H' : AH} {t x p c n sp period puts puts' : Nat} {M M' : Mem} {line : Int}
theorem TAt.putsTo (h : TAt H t x p c n sp period puts M) (hp : puts' < period) : AH.canPut H (qlm ⟨t, 0, none⟩ 4) 1 ∧ TAt (AH.put H (qlm ⟨t, 0, none⟩ 4) [.int .i64 (puts' : Int)]) t x p c n sp period puts' M ∧ Frt H (AH.put H (qlm ⟨t, 0, none⟩ 4) [.int .i64 (puts' : Int)]) t p c ∧ (∀ b, b ≠ t → (AH.put H (qlm ⟨t, 0, none⟩ 4) [.int .i64 (puts' : Int)]).get b = H.get b) := by
 rw [qk, qlJ]
 have other : ∀ b, b ≠ t → (AH.put H ⟨t, 4, none⟩ [.int .i64 (puts' : Int)]).get b = H.get b := fun b hb => by simp only [AH.put, qT]; rw [if_neg hb]
 refine ⟨⟨rfl, congrArg AObj.md h.ht, by rw [h.ht]; simp [tobj]⟩, ⟨?_, h.lt, h.tp, h.tc, h.tx, ⟨by rw [other x (Ne.symm h.tx), h.l.hx], h.l.lx, h.l.xp, h.l.xc, h.l.m.keep (qlu _) (other p (Ne.symm h.tp)) (other c (Ne.symm h.tc)), h.l.len, h.l.n1, h.l.sp16⟩, h.n1, h.per, hp, h.mv⟩, ⟨qlu _, fun b _ h1 _ _ => other b h1⟩, other⟩
 simp only [AH.put, qT, if_true, h.ht]
 rfl
theorem tput_ok {k : Nat} {d : List Int} (hd : isLine d) (h : LV M (n + 1) sp k) (hn : 1 ≤ n) (hok : M.ok) (hmv : M.mv ≤ 4611686018427387904) : (tput n sp period M puts line d).1.ok := by
 have hl := h.len
 have hok2 := hok.len
 unfold tput
 split
 ·split
  ·exact hok
  ·split
   ·have h1 := qgr h hok hmv
    simp only
    split
    ·exact lput_ok hd (by omega) h1
    ·exact h1
   ·exact lput_ok hd (by omega) hok
 ·exact hok
theorem qh4 {d : List Int} : (tput n sp period M puts line d).1.cs.length = M.cs.length := by
 unfold tput
 split
 ·split
  ·rfl
  ·split
   ·simp only
    split
    ·rw [qeB, qfx]
    ·exact qfx
   ·exact qeB
 ·rfl
theorem qgd.s {d : List Int} {k : Nat} {K : Int → AH → Prop} (h : TAt H t x p c n sp period puts M) (hlv : LV M (n + 1) sp k) (hmv : M.mv < 4611686018427387904) (hd : isLine d)
  (hk : ∀ H', TAt H' t x p c n sp period (tput n sp period M puts line d).2.1 (tput n sp period M puts line d).1 → Frt H H' t p c → H'.size = H.size → K (tput n sp period M puts line d).2.2 H') : qa1 (some ⟨t, 0, none⟩) line (lineV d) H K := by
 have hn200 := h.n200
 have hper := h.per
 have hpl := h.pl
 have hok := h.l.m.ok
 have lt := h.lt
 have lp := h.l.m.lp
 have lc := h.l.m.lc
 have lx := h.l.lx
 have hok2 := tput_ok (period := period) (puts := puts) (line := line) hd hlv h.n1 hok h.mv
 have hlen2 := qh4 (n := n) (sp := sp) (period := period) (M := M) (puts := puts) (line := line) (d := d)
 have hmain : (tput n sp period M puts line d).2.1 < period ∧ (tput n sp period M puts line d).1.mv ≤ 4611686018427387904 := by
  by_cases hin : 0 ≤ line ∧ line < n
  ·by_cases hdn : M.down = true
   ·unfold tput; rw [if_pos hin, if_pos hdn]; exact ⟨hpl, h.mv⟩
   ·obtain ⟨ln, rfl⟩ := qlI hin.1
    obtain ⟨h1, h2⟩ := qex (line := ln) (period := period) (puts := puts) hlv h.n1 hok h.mv (by simpa using hdn) (by omega) hd.1
    refine ⟨by rw [h2]; split <;> omega, ?_⟩
    have := h1.mv.2.1
    split at this <;> omega
  ·unfold tput; rw [if_neg hin]; exact ⟨hpl, h.mv⟩
 refine qc1 (κ := .int .i64) (v := (tput n sp period M puts line d).2.2) (H2 := setT H t x p c n period (tput n sp period M puts line d).2.1 (tput n sp period M puts line d).1) (by simp) rfl (qa1.link ?_) (hk _ (h.setT hmain.1 hok2 hlen2 hmain.2) qez rfl)
 clear hk hok2 hlen2
 have hmv2 := hmain.2
 unfold qa1.b
 rw [qv]
 simp only [qi, beq_iff_eq]
 have hT := h.push ⟨lineV d, .rw, 0⟩
 have f0 : Frt H (H.push ⟨lineV d, .rw, 0⟩) t p c := Frt.of_keeps ((qc.refl H).push _)
 have g0 : (H.push ⟨lineV d, .rw, 0⟩).get H.size = ⟨lineV d, .rw, 0⟩ := by rw [qs, if_pos rfl]
 have s0 : H.size < (H.push ⟨lineV d, .rw, 0⟩).size := by simp [qm]
 generalize H.push ⟨lineV d, .rw, 0⟩ = H1 at *
 refine qh0.s hT ?_
 unfold tmay
 by_cases hin : 0 ≤ line ∧ line < n
 rotate_left 1
 ·unfold tput
  rw [if_neg hin, if_neg hin, if_pos (by simp)]
  exact ⟨h.at hT f0, rfl⟩
 rw [if_pos hin]
 by_cases hdn : M.down = true
 ·unfold tput
  rw [if_pos hin, if_pos hdn, if_pos hdn, if_pos (by simp)]
  exact ⟨h.at hT f0, rfl⟩
 rw [if_neg hdn, if_neg (by simp)]
 obtain ⟨ln, rfl⟩ := qlI hin.1
 have hln : ln < n := by omega
 have hup : M.down = false := by simpa using hdn
 have rowd : ∀ H2 : AH, H2.get H.size = ⟨lineV d, .rw, 0⟩ → AH.row? H2 ⟨H.size, 0, none⟩ 8 = some (lineV d) := by
  intro H2 hg
  simp only [AH.row?, hg, qlF, qlw, if_false, qmE]
  rw [if_neg (by simp), ql9 (by rw [qt hd.1]; omega), if_pos ⟨by rw [qt hd.1]; omega, qaY _⟩]
 -- the line is put where it is
 have tail : ∀ (H2 : AH) (M2 : Mem) (puts2 : Nat), TAt H2 t x p c n sp period puts2 M2 → Frt H H2 t p c → H2.get H.size = ⟨lineV d, .rw, 0⟩ → M2.down = false → (lput (n + 1) sp M2 (slotN n M2.mv ln : Nat) d).1.mv ≤ 4611686018427387904 →
   ∀ Q : Int → AH → Prop, (∀ H3, TAt H3 t x p c n sp period puts2 (lput (n + 1) sp M2 (slotN n M2.mv ln : Nat) d).1 → Frt H H3 t p c → Q (lput (n + 1) sp M2 (slotN n M2.mv ln : Nat) d).2 H3) → qa1.j1 (some ⟨t, 0, none⟩) (ln : Int) Q H.size H2 := by
  intro H2 M2 puts2 hT2 f2 g2 hd2 hm2 Q hQ
  unfold qa1.j1
  simp only [qd, hT2.c1, hT2.c2, qag, qe]
  rw [qp (rowd _ g2)]
  refine qfb.s hT2 hd2 ⟨rowd _ g2, hT2.c2, hT2.c1, ?_⟩
  refine qca.s ⟨h.n1, by omega⟩ hT2.mv hln ⟨rowd _ g2, hT2.c1, ?_⟩
  refine qeL.g hT2.l hd (Prod.eta _).symm ?_
  intro H3 hL3 f3
  exact hQ H3 (hT2.mem hL3 f3 hm2) (f2.trans (Frt.of_frm f3))
 rw [qd, hT.c4, qe, qd, qg (n := (puts : Int) + 1) (by omega) (by omega)]
 unfold tput at hmv2 ⊢
 rw [if_pos (show 0 ≤ (ln : Int) ∧ (ln : Int) < (n : Int) from ⟨by omega, by omega⟩), if_neg hdn, qlp] at hmv2 ⊢
 -- the count is stored, before it is looked at
 have other1 : ∀ (v : Int) (b : Nat), b ≠ t → (AH.put H1 (qlm ⟨t, 0, none⟩ 4) [.int .i64 v]).get b = H1.get b := fun v b hb => by rw [qk]; simp only [AH.put, qT]; rw [if_neg hb]
 have hobj : (AH.put H1 (qlm ⟨t, 0, none⟩ 4) [.int .i64 ((puts : Int) + 1)]).get t = tobj p x n period (puts + 1) := by
  rw [qk]; simp only [AH.put, qT, if_true, hT.ht]; rfl
 refine stC_to (hT.putsTo (puts' := puts) hpl).1 rfl ?_
 generalize hH2 : AH.put H1 (qlm ⟨t, 0, none⟩ 4) [.int .i64 ((puts : Int) + 1)] = H2 at *
 have o2 : ∀ b, b ≠ t → H2.get b = H1.get b := fun b hb => by rw [← hH2]; exact other1 _ b hb
 have s2 : H2.size = H1.size := by rw [← hH2]; rfl
 have c4 : AH.cell? H2 (qlm ⟨t, 0, none⟩ 4) = some (.int .i64 ((puts : Int) + 1)) := by
  rw [qk]
  simp only [AH.cell?, hobj, qlF, qlw, if_false]
  rw [if_neg (by simp [tobj])]
  simp [tobj]
 have c3 : AH.cell? H2 (qlm ⟨t, 0, none⟩ 3) = some (.int .i64 (period : Int)) := by
  rw [qk]
  simp only [AH.cell?, hobj, qlF, qlw, if_false]
  rw [if_neg (by simp [tobj])]
  rfl
 have hL2 : LAt H2 x p c (n + 1) sp M := ⟨by rw [o2 x (Ne.symm h.tx), hT.l.hx], by rw [s2]; exact hT.l.lx, hT.l.xp, hT.l.xc, hT.l.m.keep (by rw [s2]; exact qlu _) (o2 p (Ne.symm h.tp)) (o2 c (Ne.symm h.tc)), hT.l.len, hT.l.n1, hT.l.sp16⟩
 have f2 : Frt H H2 t p c := f0.trans ⟨by rw [s2]; exact qlu _, fun b _ h1 _ _ => o2 b h1⟩
 have g2 : H2.get H.size = ⟨lineV d, .rw, 0⟩ := by rw [o2 _ (by omega), g0]
 rw [qd, c4, qe, qd, c3, qe]
 by_cases hp : puts + 1 = period
 ·rw [if_pos hp] at hmv2 ⊢
  rw [if_pos (by omega), qd]
  have hcan : AH.canPut H2 (qlm ⟨t, 0, none⟩ 4) 1 := by rw [qk]; exact ⟨rfl, congrArg AObj.md hobj, by rw [hobj]; simp [tobj]⟩
  have hput : AH.put H2 (qlm ⟨t, 0, none⟩ 4) [.int .i64 0] = H2.upd t (tobj p x n period 0) := by
   rw [qk]; simp only [AH.put, hobj]; rfl
  refine stC_to hcan hput ?_
  have o3 : ∀ b, b ≠ t → (H2.upd t (tobj p x n period 0)).get b = H2.get b := fun b hb => by rw [qT, if_neg hb]
  have hT3 : TAt (H2.upd t (tobj p x n period 0)) t x p c n sp period 0 M :=
   ⟨by rw [qT, if_pos rfl], by rw [qiu, s2]; exact hT.lt, h.tp, h.tc, h.tx, ⟨by rw [o3 x (Ne.symm h.tx), hL2.hx], hL2.lx, hL2.xp, hL2.xc, hL2.m.keep (qlu _) (o3 p (Ne.symm h.tp)) (o3 c (Ne.symm h.tc)), hL2.len, hL2.n1, hL2.sp16⟩, h.n1, h.per, by omega, h.mv⟩
  have f3 : Frt H (H2.upd t (tobj p x n period 0)) t p c := f2.trans ⟨qlu _, fun b _ h1 _ _ => o3 b h1⟩
  have g3 : (H2.upd t (tobj p x n period 0)).get H.size = ⟨lineV d, .rw, 0⟩ := by rw [o3 _ (by omega), g2]
  have s3 : H.size < (H2.upd t (tobj p x n period 0)).size := by rw [qiu, s2]; exact s0
  generalize H2.upd t (tobj p x n period 0) = H3 at *
  refine qj8.s hT3 hup ?_
  have hm1 := qhi (d := d) hlv h.n1 hok.regs (qd6 hok) hup hok.cut.1 (fun s hs => (qeV hlv hok hs).1)
  have hokm := qgr hlv hok h.mv
  have hlenm := qfx (n := n) (sp := sp) (M := M)
  have hmvm := hm1.mv.2.1
  have hT4 : TAt (setM H3 p c (tmove n sp M).1) t x p c n sp period 0 (tmove n sp M).1 := hT3.mem (hT3.l.set hokm hlenm) (Frm.set _ _ _ _) (by omega)
  have f4 : Frt H (setM H3 p c (tmove n sp M).1) t p c := f3.trans (Frt.of_frm (Frm.set _ _ _ _))
  have g4 : (setM H3 p c (tmove n sp M).1).get H.size = ⟨lineV d, .rw, 0⟩ := by rw [qc7 (by omega) (by omega), g3]
  generalize setM H3 p c (tmove n sp M).1 = H4 at *
  simp only at hmv2 ⊢
  by_cases he : (tmove n sp M).2 = 0
  ·rw [if_pos he] at hmv2 ⊢
   rw [if_neg (by simp [he])]
   have hup4 : (tmove n sp M).1.down = false := by
    rcases hm1.res with ⟨_, a, _⟩ | ⟨a, _⟩ | ⟨a, _⟩
    ·exact a
    ·omega
    ·omega
   refine tail H4 _ 0 hT4 f4 g4 hup4 hmv2 _ ?_
   intro H5 hT5 f5
   exact ⟨h.at hT5 f5, rfl⟩
  ·rw [if_neg he] at hmv2 ⊢
   rw [if_pos (by simpa using he)]
   exact ⟨h.at hT4 f4, rfl⟩
 ·rw [if_neg hp] at hmv2 ⊢
  rw [if_neg (by omega)]
  have hT3 : TAt H2 t x p c n sp period (puts + 1) M := ⟨hobj, by rw [s2]; exact hT.lt, h.tp, h.tc, h.tx, hL2, h.n1, h.per, by omega, h.mv⟩
  refine tail H2 M (puts + 1) hT3 f2 g2 hup hmv2 _ ?_
  intro H5 hT5 f5
  exact ⟨h.at hT5 f5, rfl⟩
end
section
variable {H : AH} {p c : Nat} {M : Mem} {n sp period : Int}
def qcC (M : Mem) (n sp period : Int) : Prop := 1 ≤ n ∧ 1 ≤ period ∧ period ≤ 1000 ∧ 0 ≤ sp ∧ sp ≤ 16 ∧ (M.cs.length : Int) = n + 1 + sp ∧ M.down = false ∧ MayT (tblL M sp.toNat) (n + 1) ∧ M.mv ≤ 1099511627776
instance : Decidable (qcC M n sp period) := by unfold qcC; infer_instance
theorem qbv.s {k : Option Addr → AH → Prop} (hm : qB H p c M) (hsr : isI sp) (h0 : ¬ qcC M n sp period → k none H)
  (h1 : qcC M n sp period → ∀ H' t x, TAt H' t x p c n.toNat sp.toNat period.toNat 0 M → qc H H' → H.size ≤ t → H.size ≤ x → k (some ⟨t, 0, none⟩) H') : qbv (some ⟨p, 0, none⟩) n sp period H k := by
 have hlen := hm.ok.len
 have h00 := qd6 hm.ok
 have hreg : M.down = false → M.reg 0 = ((M.mv : Int), 0) := by
  intro hd
  unfold Mem.reg
  rw [if_pos ⟨by omega, by omega⟩, if_neg (by simp [hd])]
  unfold Mem.mv
  refine Prod.ext ?_ rfl
  show M.regs.getD 0 0 = _
  omega
 have common : ∀ {Q : Option Addr → AH → Prop}, (¬ qcC M n sp period → ∀ H', qc H H' → Q none H') → (qcC M n sp period → ∀ H' t x, TAt H' t x p c n.toNat sp.toNat period.toNat 0 M → qc H H' → H.size ≤ t → H.size ≤ x → Q (some ⟨t, 0, none⟩) H') →
   qbv.b (some ⟨p, 0, none⟩) n sp period H Q := by
  intro Q q0 q1
  unfold qbv.b qbv.j2 qbv.j1
  simp only [qi, decide_eq_true_eq]
  by_cases a1 : n < 1
  ·rw [if_pos a1]; exact q0 (fun h => by have := h.1; omega) _ (qc.refl _)
  rw [if_neg a1]
  refine qay.s hm ?_
  by_cases a2 : n > (M.cs.length : Int)
  ·rw [if_pos a2]; exact q0 (fun h => by have := h.2.2.2.1; have := h.2.2.2.2.2.1; omega) _ (qc.refl _)
  rw [if_neg a2]
  by_cases a3 : period < 1
  ·rw [if_pos a3]; exact q0 (fun h => by have := h.2.1; omega) _ (qc.refl _)
  rw [if_neg a3]
  by_cases a4 : period > 1000
  ·rw [if_pos a4]; exact q0 (fun h => by have := h.2.2.1; omega) _ (qc.refl _)
  rw [if_neg a4, qg (n := n + 1) (by omega) (by omega)]
  refine qbf.s hm (by unfold isI; omega) hsr ?_ ?_
  ·intro hb
   rw [Option.isNone_none, if_pos rfl]
   exact q0 (fun h => hb ⟨by have := h.1; omega, h.2.2.2.1, h.2.2.2.2.1, by have := h.2.2.2.2.2.1; omega, h.2.2.2.2.2.2.1, h.2.2.2.2.2.2.2.1⟩) _ (qc.refl _)
  ·intro hg H2 hL hk _
   rw [qlG, if_neg (by simp)]
   refine qS.s hL.m ?_
   rw [hreg hg.2.2.2.2.1, if_neg (by simp)]
   by_cases a5 : (M.mv : Int) > 1099511627776
   ·rw [if_pos a5]
    exact q0 (fun h => by have := h.2.2.2.2.2.2.2.2; omega) _ hk
   ·rw [if_neg a5, qv]
    have hgood : qcC M n sp period := ⟨by omega, by omega, by omega, hg.2.1, hg.2.2.1, by have := hg.2.2.2.1; omega, hg.2.2.2.2.1, hg.2.2.2.2.2, by omega⟩
    have hL' := hL.push (tobj p H.size n.toNat period.toNat 0)
    have en : (n + 1).toNat = n.toNat + 1 := by omega
    rw [en] at hL'
    have hobj : (⟨[(qls (some ⟨p, 0, none⟩)), (qls (some ⟨H.size, 0, none⟩)), (qlk .i64 n), (qlk .i64 period), (qlk .i64 (0 : Int))], .rw, 0⟩ : AObj) = tobj p H.size n.toNat period.toNat 0 := by
     simp only [tobj]
     rw [show ((n.toNat : Nat) : Int) = n by omega, show ((period.toNat : Nat) : Int) = period by omega]
     rfl
    rw [hobj]
    have hlp := hm.lp
    have hlc := hm.lc
    have hk1 := hk.1
    have hlx := hL.lx
    exact q1 hgood _ _ H.size ⟨by rw [qs, if_pos rfl], by simp [qm], by omega, by omega, by omega, hL', by omega, by omega, by omega, by omega⟩ (hk.push _) (by omega) (by omega)
 by_cases hg : qcC M n sp period
 ·exact qbv.link (common (fun h => absurd hg h) h1)
 ·refine qc1 (κ := .ptr) (v := none) (by simp) rfl (qbv.link (common ?_ ?_)) (h0 hg)
  ·intro _ H' hk; exact ⟨At.of_keeps hk, rfl⟩
  ·intro h; exact absurd h hg
end
section
variable {H0 H H' : AH} {t x p c n sp period puts puts' o k : Nat} {M M' : Mem} {ws : List (List Int)}
theorem qk2 {line : Int} {d : List Int} (h : ¬ (0 ≤ line ∧ line < n)) : tput n sp period M puts line d = (M, puts, 1) := by unfold tput; rw [if_neg h]
end
section
variable {H : AH}
theorem mv_new {n : Nat} {l : List Int} : (Mem.new n l).mv = 0 := rfl
end
section
variable {H : AH}
theorem qhX (z : Int) : isU (qll .u64 z) := by
 unfold isU
 simp only [qll, IntKind.bits, IntKind.signed, Bool.false_and, Int.reducePow, qlw, if_false]; omega
end
end Go.Proofs.YtemeclnpdpkfdaaGreat
