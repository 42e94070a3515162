/- Lemmas for the law: an abstract machine, and what the functions do on it. No condition. -/
import Derived.Test.YtemeclnpdpkfdaaGreatET8
set_option linter.all false
open Go.Value renaming int → qkL, bool → qln
open Go.IntKind renaming wrap → qkM, bits → qlO
open Go.Addr renaming add → qkN
open List renaming getElem?_eq_getElem → qkO, getD_eq_getElem?_getD → qkP, replicate → qkR, getElem?_eq_none → qkT, getElem?_eq_some_iff → qkW, mem_of_getElem? → qkY, getElem?_map → qkZ, length → qk0, getElem_mem → qk1, mem_append → qk2, length_cons → qk3, mem_cons → qk8, ext_getElem? → qlc, getElem?_append_right → qld, getElem?_range → qlf, getElem?_set_ne → qlg, getElem?_append_left → qlm, all → qlq, cons_append → qls, all_eq_true → qlt, length_append → qlu, getElem?_set_self → qlv, mem_map → qlw, nil_append → qlx, range → qly, flatMap_cons → qlz, getElem?_cons_succ → qlB, getElem?_take → qlD, getElem?_drop → qlE, take_length → qlH, take_of_length_le → qlL, mem_range → qlM, map_cons → qlN, range_succ → qlQ, mem_or_eq_of_mem_set → qlR, length_nil → qlV, flatMap_append → ql1, drop_zero → ql3, append_assoc → ql8, take_succ → qmd, drop_length → qmh
open Int renaming toNat_natCast → qkQ, toNat → qkS, eq_ofNat_of_zero_le → qk9, tdiv_eq_ediv_of_nonneg → qlk, tmod_eq_emod_of_nonneg → ql0
open Nat renaming le_refl → qkV, zero_add → qk6, zero_le → qlP, mul_le_mul_right → qlT
open Bool renaming false_eq_true → qkX, not_true → qlb, not_false → qlj
open Option renaming isSome_none → qk4, isNone_some → qla, map_some → qle, getD_some → qll, toList_some → qlX, bind_some → ql6
open Go.Abs renaming Rows → qk7
open BitVec renaming ofInt → qlC
open Option.some renaming injEq → qlU
set_option linter.all false
namespace Go.Proofs.YtemeclnpdpkfdaaGreat
open Go Go.Abs
abbrev Bk : Type := Int × Int × Bool
def bkV (b : Bk) : List Value := [.int .i64 b.1, .int .i64 b.2.1, .bool b.2.2]
theorem bkV_len (b : Bk) : (bkV b).length = 3 := rfl
theorem bkV_ok (b : Bk) : (bkV b).all qq = true := rfl
def needN (n : Int) : Int := if 1 ≤ n ∧ n ≤ 448 then 1 + (n + 7) / 8 else 0
def takesN (size need : Int) : Int := if 2 ≤ need ∧ need ≤ size then (if size - need < 2 then size else need) else 0
def mayS (n : Int) : Prop := 2 ≤ n ∧ n ≤ 512
instance (n : Int) : Decidable (mayS n) := by unfold mayS; infer_instance
def wordN (n : Int) (u : Bool) : Int := if mayS n then 2 * n + (if u then 1 else 0) else 0
def offN (pt : Int) : Int := if 0 ≤ pt ∧ pt ≤ 512 then (pt + 1) * 8 else 0
def mayW (n : Int) : Prop := 8 ≤ n ∧ n ≤ 512 ∧ n % 8 = 0
instance (n : Int) : Decidable (mayW n) := by unfold mayW; infer_instance
theorem shr1 {v : Int} (h : 0 ≤ v) : shrI .u64 v 1 = v / 2 := by
 unfold shrI
 rw [Int.fdiv_eq_ediv_of_nonneg _ (by decide)]
 rfl
theorem and1w {v : Int} (h : isU v) : andI .u64 v 1 = v % 2 := by
 unfold isU at h
 obtain ⟨n, rfl⟩ := qk9 h.1
 have hn : n < 2 ^ 64 := by omega
 unfold andI
 have e : (qlC (qlO .u64) (n : Int) &&& qlC (qlO .u64) 1).toNat = n % 2 := by
  rw [BitVec.toNat_and]
  have e1 : (qlC (qlO .u64) (n : Int)).toNat = n := by
   show (qlC 64 (n : Int)).toNat = n
   rw [BitVec.toNat_ofInt]
   omega
  have e2 : (qlC (qlO .u64) 1).toNat = 1 := rfl
  rw [e1, e2, Nat.and_one_is_mod]
 rw [e, qbw (by omega) (by omega)]
 omega
theorem shl1 {n : Int} (h : mayS n) : shlI .u64 (qkM .u64 n) 1 = 2 * n := by
 unfold mayS at h
 unfold shlI
 rw [qbw (n := n) (by omega) (by omega)]
 have : (2 : Int) ^ (min (qkS 1) (qlO .u64)) = 2 := rfl
 rw [this, qbw (by omega) (by omega)]; omega
theorem or1 {n : Int} (h : mayS n) : orI .u64 (2 * n) 1 = 2 * n + 1 := by
 unfold mayS at h
 obtain ⟨m, rfl⟩ := qk9 (show 0 ≤ n by omega)
 have hm : m < 513 := by omega
 have key : ∀ m : Fin 513, orI .u64 (2 * ((m.val : Nat) : Int)) 1 = 2 * ((m.val : Nat) : Int) + 1 := by decide +kernel
 exact key ⟨m, hm⟩
section
variable {H : AH}
theorem qae.s {n : Int} {k : Int → AH → Prop} (hn : isI n) (h : k (needN n) H) : qae n H k := by
 unfold isI at hn
 refine qae.link ?_
 unfold qae.b qae.j1
 unfold needN at h
 simp only [qg, decide_eq_true_eq]
 by_cases h1 : n < 1
 ·rw [if_pos h1]; rw [if_neg (by omega)] at h; exact h
 rw [if_neg h1]
 by_cases h2 : n > 448
 ·rw [if_pos h2]; rw [if_neg (by omega)] at h; exact h
 rw [if_neg h2]
 rw [if_pos (by omega)] at h
 refine ⟨by decide, ?_⟩
 rw [qd (n := n + 7) (by omega) (by omega), qlk (by omega), qd (n := (n + 7) / 8) (by omega) (by omega), qd (by omega) (by omega)]
 exact h
theorem qaB.s {n : Int} {k : Bool → AH → Prop} (h : k (decide (mayS n)) H) : qaB n H k := by
 refine qaB.link ?_
 unfold qaB.b
 simp only [qg, decide_eq_true_eq]
 by_cases h1 : n ≥ 2
 ·rw [if_pos h1]
  by_cases h2 : n ≤ 512
  ·rw [decide_eq_true h2]; rw [decide_eq_true (show mayS n from ⟨h1, h2⟩)] at h; exact h
  ·rw [decide_eq_false h2]; rw [decide_eq_false (fun hh : mayS n => h2 hh.2)] at h; exact h
 ·rw [if_neg h1]; rw [decide_eq_false (fun hh : mayS n => h1 hh.1)] at h; exact h
theorem qaQ.s {n : Int} {k : Bool → AH → Prop} (h : k (decide (mayW n)) H) : qaQ n H k := by
 refine qaQ.link ?_
 unfold qaQ.b
 simp only [qg, decide_eq_true_eq]
 by_cases h1 : n ≥ 8
 ·rw [if_pos h1]
  by_cases h2 : n ≤ 512
  ·rw [if_pos h2]
   refine ⟨by decide, ?_⟩
   rw [ql0 (by omega)]
   have e : (n % 8 == 0) = decide (mayW n) := by
    by_cases h3 : n % 8 = 0
    ·rw [decide_eq_true (show mayW n from ⟨h1, h2, h3⟩)]; simpa using h3
    ·rw [decide_eq_false (fun hh : mayW n => h3 hh.2.2)]; simpa using h3
   rw [e]; exact h
  ·rw [if_neg h2]; rw [decide_eq_false (fun hh : mayW n => h2 hh.2.1)] at h; exact h
 ·rw [if_neg h1]; rw [decide_eq_false (fun hh : mayW n => h1 hh.1)] at h; exact h
theorem qY.s {a b : Int} {k : Int → AH → Prop} (ha : 0 ≤ a ∧ a ≤ 1000) (hb : 0 ≤ b ∧ b ≤ 1000) (h : k (takesN a b) H) : qY a b H k := by
 refine qY.link ?_
 unfold qY.b qY.j1
 unfold takesN at h
 simp only [qg, decide_eq_true_eq]
 by_cases h1 : b < 2
 ·rw [if_pos h1]; rw [if_neg (by omega)] at h; exact h
 rw [if_neg h1]
 by_cases h2 : b > a
 ·rw [if_pos h2]; rw [if_neg (by omega)] at h; exact h
 rw [if_neg h2]
 rw [if_pos (by omega)] at h
 rw [qd (n := a - b) (by omega) (by omega)]
 by_cases h3 : a - b < 2
 ·rw [if_pos h3]; rw [if_pos h3] at h; exact h
 ·rw [if_neg h3]; rw [if_neg h3] at h; exact h
theorem qaF.s {n : Int} {u : Bool} {k : Int → AH → Prop} (h : k (wordN n u) H) : qaF n u H k := by
 refine qaF.link ?_
 unfold qaF.b
 refine qaB.s ?_
 unfold wordN at h
 by_cases h1 : mayS n
 ·rw [decide_eq_true h1, qlb, qc]
  rw [if_pos h1] at h
  refine ⟨by decide, ?_⟩
  rw [shl1 h1, or1 h1]
  cases u with
  | true => rw [qj]; exact h
  | false =>
   rw [qc]
   rw [if_neg (by simp), Int.add_zero] at h
   exact h
 ·rw [decide_eq_false h1, qlj, qj]
  rw [if_neg h1] at h
  exact h
theorem qab.s {v : Int} {k : Int → Bool → Bool → AH → Prop} (hv : isU v) (h1 : mayS (v / 2) → k (v / 2) (v % 2 == 1) true H) (h0 : ¬ mayS (v / 2) → k 0 false false H) : qab v H k := by
 have hv' := hv
 unfold isU at hv'
 refine qab.link ?_
 unfold qab.b qab.j1
 rw [shr1 hv'.1, and1w hv]
 simp only [qg, decide_eq_true_eq]
 refine ⟨by decide, ?_⟩
 by_cases a1 : v / 2 < 2
 ·rw [if_pos a1]; exact h0 (fun hh => by unfold mayS at hh; omega)
 rw [if_neg a1]
 refine ⟨by decide, ?_⟩
 by_cases a2 : v / 2 > 512
 ·rw [if_pos a2]; exact h0 (fun hh => by unfold mayS at hh; omega)
 rw [if_neg a2, qd (n := v / 2) (by omega) (by omega)]
 exact ⟨by decide, h1 ⟨by omega, by omega⟩⟩
def BkAt (H : AH) (o : Nat) (b : Bk) : Prop := ∃ e, H.get o = ⟨bkV b, .rw, e⟩
theorem BkAt.c0 {o : Nat} {b : Bk} (h : BkAt H o b) : AH.cell? H (qkN ⟨o, 0, none⟩ 0) = some (.int .i64 b.1) := by obtain ⟨e, h⟩ := h; simp [qk, AH.cell?, h, bkV]
theorem BkAt.c1 {o : Nat} {b : Bk} (h : BkAt H o b) : AH.cell? H (qkN ⟨o, 0, none⟩ 1) = some (.int .i64 b.2.1) := by obtain ⟨e, h⟩ := h; simp [qk, AH.cell?, h, bkV]
theorem BkAt.c2 {o : Nat} {b : Bk} (h : BkAt H o b) : AH.cell? H (qkN ⟨o, 0, none⟩ 2) = some (.bool b.2.2) := by obtain ⟨e, h⟩ := h; simp [qk, AH.cell?, h, bkV]
theorem BkAt.row {o : Nat} {b : Bk} (h : BkAt H o b) : AH.row? H ⟨o, 0, none⟩ 3 = some (bkV b) := by
 obtain ⟨e, h⟩ := h
 simp only [AH.row?, h, qk4, qkX, if_false, ql3]
 rw [if_neg (by simp), qlL (by rw [bkV_len]; omega), if_pos ⟨by rw [bkV_len]; omega, bkV_ok _⟩]
theorem BkAt.keep {H' : AH} {o : Nat} {b : Bk} (h : BkAt H o b) (hg : H'.get o = H.get o) : BkAt H' o b := by obtain ⟨e, h⟩ := h; exact ⟨e, hg.trans h⟩
theorem BkAt.new {b : Bk} {e : Nat} : BkAt (H.push ⟨bkV b, .rw, e⟩) H.size b := ⟨e, by rw [qr, if_pos rfl]⟩
theorem qal.s {b : Bk} {k : Int → AH → Prop} (h : k (offN b.1) H) : qal (bkV b) H k := by
 refine gcI (j := .i64) (offN b.1) (qal.link ?_) h
 unfold qal.b qal.j1
 rw [qx]
 have hk := (qa.refl H).push ⟨bkV b, .rw, 0⟩
 have hB : BkAt (H.push ⟨bkV b, .rw, 0⟩) H.size b := BkAt.new
 generalize H.push ⟨bkV b, .rw, 0⟩ = H1 at *
 simp only [hB.c0, qf]
 unfold offN
 by_cases h1 : b.1 < 0
 ·rw [decide_eq_true h1, qj, qj, if_neg (by omega)]; exact ⟨hk, rfl⟩
 rw [decide_eq_false h1, qc]
 by_cases h2 : b.1 > 512
 ·rw [decide_eq_true h2, qj, if_neg (by omega)]; exact ⟨hk, rfl⟩
 rw [decide_eq_false h2, qc, if_pos (by omega), qd (n := b.1 + 1) (by omega) (by omega), qd (by omega) (by omega)]
 exact ⟨hk, rfl⟩
theorem qaz {α : Type} {s : Sl} {z : Nat} {f : α → List Value} {l : List α} (h : qk7 H s z f l) (hp : 0 < l.length) :
  ∃ b o, s.a = some ⟨b, o, none⟩ ∧ b < H.size ∧ ∀ i x, l[i]? = some x → AH.row? H (qkN ⟨b, o, none⟩ (i * z)) z = some (f x) ∧ ∀ j v, (f x)[j]? = some v → AH.cell? H (qkN (qkN ⟨b, o, none⟩ (i * z)) j) = some v := by
 obtain ⟨b, o, h1, h2, _⟩ := h.at hp
 refine ⟨b, o, h1, h2, fun i x hx => ?_⟩
 obtain ⟨a, e1, e2, e3, e4⟩ := h.2 i x hx
 rw [h1] at e1
 injection e1 with e1
 subst e1
 rw [qk]
 refine ⟨e4, fun j v hv => ?_⟩
 rw [qk]
 exact (AH.row?_cell e4).2.2.2.2 j v hv
theorem qbu {cs vs : List Value} {e n : Nat} {K : Nat → AH → Prop} (hc : cs.length = n) (hv : vs.length = n) (ho : vs.all qq = true)
  (hK : K H.size (H.push ⟨vs, .rw, e⟩)) : newC H ⟨cs, .rw, e⟩ fun o H1 => (vs.length = n ∧ vs.all qq = true) ∧ stC H1 ⟨o, 0, none⟩ vs fun Hs => K o Hs := by
 rw [qx]
 refine ⟨⟨hv, ho⟩, ?_⟩
 rw [qbA]
 have e1 : AH.put (H.push ⟨cs, .rw, e⟩) ⟨H.size, 0, none⟩ vs = H.push ⟨vs, .rw, e⟩ := by
  rw [qc5]
  congr 2
  apply qlc
  intro t
  rw [qb2 _ _ _ _ (by omega)]
  by_cases ht : t < vs.length
  ·rw [if_pos (by omega)]; rfl
  ·rw [if_neg (by omega), qkT (by omega), qkT (by omega)]
 rw [e1]
 exact ⟨qcp.2 (by omega), hK⟩
end
def chainB (words : Int) : Int → Bool → List Bk → Prop
 | pt, _, [] => pt = words
 | pt, pu, b :: r => b.1 = pt ∧ mayS b.2.1 ∧ b.2.1 ≤ words - pt ∧ (pu = true ∨ b.2.2 = true) ∧ chainB words (pt + b.2.1) b.2.2 r
instance chainB.dec {words : Int} : ∀ (l : List Bk) (pt : Int) (pu : Bool), Decidable (chainB words pt pu l)
 | [], pt, pu => by unfold chainB; infer_instance
 | b :: r, pt, pu => by
  unfold chainB
  have := chainB.dec (words := words) r (pt + b.2.1) b.2.2
  infer_instance
def MayB (l : List Bk) (words : Int) : Prop := mayW words ∧ chainB words 0 true l
instance {l : List Bk} {words : Int} : Decidable (MayB l words) := by unfold MayB; infer_instance
def puAt (l : List Bk) : Nat → Bool
 | 0 => true
 | i + 1 => (l.getD i (0, 0, false)).2.2
theorem qcJ {α : Type} {l : List α} {i : Nat} (hi : i < l.length) : l.drop i = l[i] :: l.drop (i + 1) := by
 rw [List.drop_eq_getElem_cons hi]
section
variable {H : AH}
theorem qp.s {x0 : Sl} {words : Int} {l : List Bk} {k : Bool → AH → Prop} (hr : qk7 H x0 3 bkV l) (hl : l.length ≤ 100000) (hok : ∀ b ∈ l, 0 ≤ b.2.1 ∧ b.2.1 ≤ 100000) (hw : 0 ≤ words ∧ words ≤ 100000) (h : k (decide (MayB l words)) H) : qp x0 words H k := by
 refine gcB (decide (MayB l words)) (qp.link ?_) h
 unfold qp.b
 refine qaQ.s ?_
 by_cases hm : mayW words
 rotate_left 1
 ·rw [decide_eq_false hm, qlj, qj]
  exact ⟨qa.refl H, (decide_eq_false (fun hh : MayB l words => hm hh.1)).symm⟩
 rw [decide_eq_true hm, qlb, qc]
 refine qC (t := ((false, (0 : Int), (0 : Int)) : Bool × Int × Int)) (I := fun (t : Bool × Int × Int) H' => ∃ i : Nat, t.2.2 = (i : Int) ∧ i ≤ l.length ∧ qa H H' ∧ 0 ≤ t.2.1 ∧ t.2.1 ≤ words ∧ (MayB l words ↔ chainB words t.2.1 (puAt l i) (l.drop i))) (m := fun (t : Bool × Int × Int) _ => qkS ((l.length : Int) - t.2.2)) ?_ ⟨0, rfl, by omega, qa.refl H, by simp only; omega, by simp only; omega, ⟨fun hh => hh.2, fun hh => ⟨hm, hh⟩⟩⟩
 intro t H1 hI it hit
 obtain ⟨t1, pt, t3⟩ := t
 obtain ⟨i, e1, hi, hk, hp0, hp1, hiff⟩ := hI
 simp only at e1 hp0 hp1 hiff
 subst e1
 unfold qp.l2
 simp only [qg, decide_eq_true_eq, hr.1]
 by_cases hlt : (i : Int) < (l.length : Int)
 ·rw [if_pos hlt]
  have hi' : i < l.length := by omega
  obtain ⟨b, o, ha, hb, hcells⟩ := qaz (hr.keep hk) (by omega)
  refine ⟨by omega, ?_⟩
  obtain ⟨hrow, _⟩ := hcells i l[i] (qkO hi')
  have hq := hok _ (qk1 hi')
  rw [ha, qe, qkQ, qu hrow]
  rw [qcJ hi'] at hiff
  have hpu : puAt l (i + 1) = l[i].2.2 := by simp [puAt, qkP, hi']
  generalize hqq : l[i] = q at *
  refine qbu (n := 3) rfl (bkV_len q) (bkV_ok q) ?_
  have hB : BkAt (H1.push ⟨bkV q, .rw, 0⟩) H1.size q := BkAt.new
  have hk2 : qa H (H1.push ⟨bkV q, .rw, 0⟩) := hk.push _
  have hc2 : ∀ j x, l[j]? = some x → AH.cell? (H1.push ⟨bkV q, .rw, 0⟩) (qkN (qkN ⟨b, o, none⟩ (j * 3)) 2) = some (.bool x.2.2) := fun j x hx => by
   have := (hcells j x hx).2 2 (.bool x.2.2) rfl
   rw [qk, qk] at this ⊢
   rw [AH.cell?, qT (by show b ≠ H1.size; omega)]
   exact this
  generalize H1.push ⟨bkV q, .rw, 0⟩ = H2 at *
  have no : ¬ chainB words pt (puAt l i) (q :: l.drop (i + 1)) → qp.j1 (fun r H' => qa H H' ∧ r = decide (MayB l words)) (t1, pt, (i : Int)) it H1.size true H2 := by
   intro hn
   unfold qp.j1
   rw [qj]
   exact ⟨hk2, (decide_eq_false (fun hh => hn (hiff.1 hh))).symm⟩
  simp only [hB.c0, qf]
  by_cases c1 : q.1 = pt
  rotate_left 1
  ·rw [if_pos (by simpa using c1)]; exact no (fun hh => c1 hh.1)
  rw [if_neg (by simpa using c1)]
  simp only [hB.c1, qf]
  refine qaB.s ?_
  by_cases c2 : mayS q.2.1
  rotate_left 1
  ·rw [decide_eq_false c2, if_pos (by simp)]; exact no (fun hh => c2 hh.2.1)
  rw [decide_eq_true c2, if_neg (by simp), hB.c1, qf, qd (n := words - pt) (by omega) (by omega)]
  by_cases c3 : q.2.1 > words - pt
  ·rw [if_pos c3]; exact no (fun hh => by have := hh.2.2.1; omega)
  rw [if_neg c3]
  have fin : ∀ x, (x = true ↔ ¬ (puAt l i = true ∨ q.2.2 = true)) → qp.j1 (fun r H' => qa H H' ∧ r = decide (MayB l words)) (t1, pt, (i : Int)) it H1.size x H2 := by
   intro x hx
   cases x with
   | true => exact no (fun hh => (hx.1 rfl) hh.2.2.2.1)
   | false =>
    have hor : puAt l i = true ∨ q.2.2 = true := by
     by_cases hh : puAt l i = true ∨ q.2.2 = true
     ·exact hh
     ·exact absurd (hx.2 hh) (by simp)
    unfold qp.j1
    rw [qc, hB.c1, qf, qd (n := pt + q.2.1) (by omega) (by omega), qd (n := (i : Int) + 1) (by omega) (by omega)]
    refine hit _ _ ⟨i + 1, by simp, by omega, hk2, by simp only; omega, by simp only; omega, ?_⟩ (by simp only; omega)
    simp only
    rw [hpu, hiff]
    exact ⟨fun hh => hh.2.2.2.2, fun hh => ⟨c1, c2, by omega, hor, hh⟩⟩
  by_cases c4 : (i : Int) > 0
  ·rw [if_pos c4, hB.c2, qaK]
   by_cases c5 : q.2.2 = true
   ·rw [c5, if_neg (by simp)]
    exact fin false (by simp [c5])
   ·have c5' : q.2.2 = false := by simpa using c5
    rw [c5', if_pos (by simp), qd (n := (i : Int) - 1) (by omega) (by omega)]
    refine ⟨by omega, ?_⟩
    obtain ⟨i', rfl⟩ : ∃ i', i = i' + 1 := ⟨i - 1, by omega⟩
    have e : (((i' + 1 : Nat) : Int) - 1).toNat = i' := by omega
    rw [qe, e, hc2 i' l[i'] (qkO (by omega)), qaK]
    have hpu' : puAt l (i' + 1) = l[i'].2.2 := by simp [puAt, qkP, show i' < l.length by omega]
    refine fin _ ?_
    rw [hpu', c5']
    simp
  ·rw [if_neg c4]
   have : i = 0 := by omega
   subst this
   exact fin false (by simp [puAt])
 ·rw [if_neg hlt]
  have : i = l.length := by omega
  subst this
  refine ⟨hk, ?_⟩
  rw [qmh] at hiff
  by_cases hpw : pt = words
  ·rw [decide_eq_true (hiff.2 hpw)]; simpa using hpw
  ·rw [decide_eq_false (fun hh => hpw (hiff.1 hh))]; simpa using hpw
def blkFrom (ws : List Int) (pt : Nat) : Option (List Bk) :=
 if h : pt < ws.length then
  if h2 : mayS (ws.getD pt 0 / 2) then (blkFrom ws (pt + (ws.getD pt 0 / 2).toNat)).map (((pt : Int), ws.getD pt 0 / 2, (ws.getD pt 0 % 2 == 1)) :: ·) else none
 else some []
termination_by ws.length - pt
decreasing_by unfold mayS at h2; omega
theorem qcQ (ws : List Int) (pt : Nat) : blkFrom ws pt = if h : pt < ws.length then
  if h2 : mayS (ws.getD pt 0 / 2) then (blkFrom ws (pt + (ws.getD pt 0 / 2).toNat)).map (((pt : Int), ws.getD pt 0 / 2, (ws.getD pt 0 % 2 == 1)) :: ·) else none
 else some [] := by rw [blkFrom]
def blocksN (ws : List Int) : Option (List Bk) := (blkFrom ws 0).bind fun l => if MayB l ws.length then some l else none
theorem qa2 {ws : List Int} {l : List Bk} (h : blocksN ws = some l) : MayB l ws.length := by
 unfold blocksN at h
 rw [Option.bind_eq_some_iff] at h
 obtain ⟨l', _, h2⟩ := h
 split at h2
 ·injection h2 with h2; subst h2; assumption
 ·cases h2
theorem qK.s {x0 : Sl} {ws : List Int} {k : Sl → Bool → AH → Prop} (hr : qk7 H x0 1 wU ws) (h64 : qao ws) (hl : ws.length ≤ 1000)
  (h1 : ∀ l, blocksN ws = some l → ∀ s H', qa H H' → Own H.size H' s 3 bkV l → k s true H') (h0 : blocksN ws = none → ∀ H', qa H H' → k ⟨none, 0, 0⟩ false H') : qK x0 H k := by
 refine qK.link ?_
 unfold qK.b
 refine qC (t := ((⟨none, 0, 0⟩, false, ⟨none, 0, 0⟩, (0 : Int)) : Sl × Bool × Sl × Int)) (I := fun (t : Sl × Bool × Sl × Int) H' => ∃ (pt : Nat) (acc : List Bk), t.2.2.2 = (pt : Int) ∧ pt ≤ ws.length + 512 ∧ 2 * acc.length ≤ pt ∧ qa H H' ∧ Own H.size H' t.2.2.1 3 bkV acc ∧ (∀ b ∈ acc, 0 ≤ b.2.1 ∧ b.2.1 ≤ 100000) ∧ blkFrom ws 0 = (blkFrom ws pt).map (acc ++ ·)) (m := fun (t : Sl × Bool × Sl × Int) _ => qkS ((ws.length : Int) - t.2.2.2)) ?_
  ⟨0, [], rfl, by omega, by simp, qa.refl H, .inl ⟨rfl, rfl⟩, by simp, by simp⟩
 intro t H1 hI it hit
 obtain ⟨u1, u2, u3, u4⟩ := t
 obtain ⟨pt, acc, e1, hp, ha, hk, hO, hok, hb⟩ := hI
 simp only at e1 hO
 subst e1
 unfold qK.l2
 simp only [qg, decide_eq_true_eq, hr.1]
 by_cases hlt : (pt : Int) < (ws.length : Int)
 ·rw [if_pos hlt]
  have hlt' : pt < ws.length := by omega
  obtain ⟨b1, o1, ha1, _, hc1⟩ := qaZ (g := fun v => qkL .u64 v) (hr.keep hk) (i := pt) hlt'
  refine ⟨by omega, ?_⟩
  rw [ha1, qe, qkQ, hc1, qf]
  have hg : ws.getD pt 0 = ws[pt] := by rw [qkP, qkO hlt']; rfl
  have hv : isU ws[pt] := h64 _ (qk1 hlt')
  rw [qcQ ws pt, dif_pos hlt', hg] at hb
  generalize ws[pt] = v at *
  refine qab.s hv ?_ ?_
  ·intro hm
   rw [dif_pos hm] at hb
   have hm' := hm
   unfold mayS at hm'
   rw [if_neg (by simp)]
   refine ⟨rfl, ?_⟩
   rw [qx]
   have hbk : [qkL .i64 (pt : Int), qkL .i64 (v / 2), qln (v % 2 == 1)] = bkV ((pt : Int), v / 2, (v % 2 == 1)) := rfl
   rw [hbk]
   refine qa7 (H0 := H) (B := H.size) (f := bkV) (x := ((pt : Int), v / 2, (v % 2 == 1))) (l := acc) bkV_len (bkV_ok _) hO (qkV _) hk.1 hk (by simp only [lim]; omega) ?_
   intro s' H' hO' hK' _ _
   have e2 : (pt : Int) + v / 2 = ((pt + (v / 2).toNat : Nat) : Int) := by omega
   rw [qd (n := (pt : Int) + v / 2) (by omega) (by omega), e2]
   refine hit _ _ ⟨pt + (v / 2).toNat, acc ++ [((pt : Int), v / 2, (v % 2 == 1))], rfl, by omega, by simp; omega, hK', hO', ?_, ?_⟩ (by simp only; omega)
   ·intro b hb'
    rw [qk2] at hb'
    rcases hb' with hb' | hb'
    ·exact hok b hb'
    ·simp at hb'; subst hb'; simp only; omega
   ·rw [hb, Option.map_map]
    congr 1
    funext r
    simp
  ·intro hm
   rw [dif_neg hm] at hb
   rw [if_pos (by simp)]
   refine h0 ?_ _ hk
   unfold blocksN
   rw [hb]; rfl
 ·rw [if_neg hlt]
  have hb' : blkFrom ws 0 = some acc := by
   rw [hb, qcQ ws pt, dif_neg (by omega)]
   simp
  unfold qK.j1
  rw [hr.1]
  refine qp.s (hO.rows bkV_len bkV_ok) (by omega) hok (by omega) ?_
  by_cases hm : MayB acc (ws.length : Int)
  ·rw [decide_eq_true hm, qlb, qc]
   refine h1 acc ?_ _ _ hk hO
   unfold blocksN
   rw [hb', ql6, if_pos hm]
  ·rw [decide_eq_false hm, qlj, qj]
   refine h0 ?_ _ hk
   unfold blocksN
   rw [hb', ql6, if_neg hm]
theorem chainB.le {words : Int} : ∀ {l : List Bk} {pt : Int} {pu : Bool}, chainB words pt pu l → pt + 2 * l.length ≤ words := by
 intro l
 induction l with
 | nil => intro pt pu h; simp only [chainB] at h; simp; omega
 | cons b r ih =>
  intro pt pu h
  have := ih h.2.2.2.2
  have := h.2.1
  unfold mayS at this
  simp only [qk3]; omega
theorem chainB.mem {words : Int} : ∀ {l : List Bk} {pt : Int} {pu : Bool}, chainB words pt pu l → ∀ b ∈ l, pt ≤ b.1 ∧ b.1 + b.2.1 ≤ words ∧ mayS b.2.1 := by
 intro l
 induction l with
 | nil => intro pt pu h b hb; cases hb
 | cons a r ih =>
  intro pt pu h b hb
  have hs := h.2.1
  unfold mayS at hs
  rw [qk8] at hb
  rcases hb with rfl | hb
  ·have := h.2.2.1; have := h.1; exact ⟨by omega, by omega, h.2.1⟩
  ·have := ih h.2.2.2.2 b hb; exact ⟨by omega, this.2⟩
theorem MayB.len {l : List Bk} {words : Int} (h : MayB l words) : 2 * (l.length : Int) ≤ words ∧ words ≤ 512 := by
 have := h.2.le; have := h.1.2.1; omega
theorem MayB.mem {l : List Bk} {words : Int} (h : MayB l words) {b : Bk} (hb : b ∈ l) : 0 ≤ b.1 ∧ b.1 + b.2.1 ≤ words ∧ 2 ≤ b.2.1 ∧ b.2.1 ≤ 512 := by
 have := h.2.mem b hb; have h2 := this.2.2; unfold mayS at h2; omega
theorem qP.s {x0 : Sl} {words : Int} {l : List Bk} {k : Int → AH → Prop} (hr : qk7 H x0 3 bkV l) (hB : MayB l words) (h : k words H) : qP x0 H k := by
 have hlen := hB.len
 refine gcI (j := .i64) words (qP.link ?_) h
 unfold qP.b
 refine qC (t := (((0 : Int), (0 : Int), (0 : Int)) : Int × Int × Int)) (I := fun (t : Int × Int × Int) H' => ∃ i : Nat, ∃ pu, t.2.2 = (i : Int) ∧ i ≤ l.length ∧ qa H H' ∧ 0 ≤ t.2.1 ∧ t.2.1 ≤ words ∧ chainB words t.2.1 pu (l.drop i)) (m := fun (t : Int × Int × Int) _ => qkS ((l.length : Int) - t.2.2)) ?_ ⟨0, true, rfl, by omega, qa.refl H, by simp, by simp only; omega, hB.2⟩
 intro t H1 hI it hit
 obtain ⟨t1, pt, t3⟩ := t
 obtain ⟨i, pu, e1, hi, hk, hp0, hp1, hch⟩ := hI
 simp only at e1 hp0 hp1 hch
 subst e1
 unfold qP.l2
 simp only [qg, decide_eq_true_eq, hr.1]
 by_cases hlt : (i : Int) < (l.length : Int)
 ·rw [if_pos hlt]
  have hi' : i < l.length := by omega
  obtain ⟨b, o, ha, hb, hcells⟩ := qaz (hr.keep hk) (by omega)
  refine ⟨by omega, ?_⟩
  obtain ⟨hrow, _⟩ := hcells i l[i] (qkO hi')
  rw [ha, qe, qkQ, qu hrow]
  rw [qcJ hi'] at hch
  generalize l[i] = q at *
  refine qbu (n := 3) rfl (bkV_len q) (bkV_ok q) ?_
  have hB : BkAt (H1.push ⟨bkV q, .rw, 0⟩) H1.size q := BkAt.new
  have hk2 : qa H (H1.push ⟨bkV q, .rw, 0⟩) := hk.push _
  generalize H1.push ⟨bkV q, .rw, 0⟩ = H2 at *
  have hs := hch.2.1
  unfold mayS at hs
  have hle := hch.2.2.1
  simp only [hB.c1, qf]
  rw [if_neg (by omega)]
  unfold qP.j1
  rw [decide_eq_false (show ¬ q.2.1 > 1000 by omega), qc, hB.c1, qf, qd (n := pt + q.2.1) (by omega) (by omega), qd (n := (i : Int) + 1) (by omega) (by omega)]
  exact hit _ _ ⟨i + 1, q.2.2, by simp, by omega, hk2, by simp only; omega, by simp only; omega, hch.2.2.2.2⟩ (by simp only; omega)
 ·rw [if_neg hlt]
  have : i = l.length := by omega
  subst this
  rw [qmh] at hch
  exact ⟨hk, hch⟩
end
def nV (i : Nat) : List Value := [.int .i64 (i : Int)]
def bkAt (l : List Bk) (i : Nat) : Bk := l.getD i (0, 0, false)
def fitStep (l : List Bk) (need : Int) (out : List Nat) (i : Nat) : List Nat :=
 if (bkAt l i).2.2 = true ∨ (bkAt l i).2.1 < need then out else
 let out1 := if 0 < out.length ∧ (bkAt l (out.getD 0 0)).2.1 > (bkAt l i).2.1 then [] else out
 if out1.length = 0 ∨ (bkAt l (out1.getD 0 0)).2.1 = (bkAt l i).2.1 then out1 ++ [i] else out1
def fitsTo (l : List Bk) (need : Int) (j : Nat) : List Nat := (qly j).foldl (fitStep l need) []
def fitsL (l : List Bk) (need : Int) : List Nat := if need < 2 then [] else fitsTo l need l.length
theorem qdK (l : List Bk) (need : Int) (j : Nat) : fitsTo l need (j + 1) = fitStep l need (fitsTo l need j) j := by
 unfold fitsTo; rw [qlQ, List.foldl_append]; rfl
theorem qip {l : List Bk} {need : Int} {out : List Nat} {i j : Nat} (h : j ∈ fitStep l need out i) : j ∈ out ∨ (j = i ∧ (bkAt l i).2.2 = false ∧ need ≤ (bkAt l i).2.1) := by
 unfold fitStep at h
 split at h
 ·exact .inl h
 ·rename_i h1
  simp only at h
  have h3 : (bkAt l i).2.2 = false ∧ need ≤ (bkAt l i).2.1 := by
   constructor
   ·cases hh : (bkAt l i).2.2
    ·rfl
    ·exact absurd (.inl hh) h1
   ·exact Int.not_lt.1 fun hh => h1 (.inr hh)
  have hsub : ∀ x, x ∈ (if 0 < out.length ∧ (bkAt l (out.getD 0 0)).2.1 > (bkAt l i).2.1 then [] else out) → x ∈ out := by
   intro x hx
   split at hx
   ·cases hx
   ·exact hx
  generalize (if 0 < out.length ∧ (bkAt l (out.getD 0 0)).2.1 > (bkAt l i).2.1 then [] else out) = o1 at h hsub
  split at h
  ·rw [qk2] at h
   rcases h with h | h
   ·exact .inl (hsub _ h)
   ·simp at h; exact .inr ⟨h, h3⟩
  ·exact .inl (hsub _ h)
theorem qc4 {l : List Bk} {need : Int} : ∀ {j i : Nat}, i ∈ fitsTo l need j → i < j ∧ (bkAt l i).2.2 = false ∧ need ≤ (bkAt l i).2.1 := by
 intro j
 induction j with
 | zero => intro i h; cases h
 | succ j ih =>
  intro i h
  rw [qdK] at h
  rcases qip h with h | ⟨rfl, h⟩
  ·have := ih h; exact ⟨by omega, this.2⟩
  ·exact ⟨by omega, h⟩
theorem qdW {l : List Bk} {need : Int} : ∀ {j : Nat}, (fitsTo l need j).length ≤ j := by
 intro j
 induction j with
 | zero => exact qkV _
 | succ j ih =>
  rw [qdK]
  unfold fitStep
  split
  ·omega
  ·simp only
   have hx : (if 0 < (fitsTo l need j).length ∧ (bkAt l ((fitsTo l need j).getD 0 0)).2.1 > (bkAt l j).2.1 then [] else fitsTo l need j).length ≤ j := by
    split
    ·exact qlP _
    ·exact ih
   generalize (if 0 < (fitsTo l need j).length ∧ (bkAt l ((fitsTo l need j).getD 0 0)).2.1 > (bkAt l j).2.1 then [] else fitsTo l need j) = o1 at *
   split
   ·rw [qlu]; simp only [qk3, qlV]; omega
   ·omega
theorem qad {l : List Bk} {i : Nat} (hi : i < l.length) : l[i]? = some (bkAt l i) := by
 unfold bkAt; rw [qkP, qkO hi]; rfl
def countN (pt : Int) (cs : List Int) : Int := if pt < 0 ∨ (cs.length : Int) ≤ pt / 32 then 0 else cs.getD (pt / 32).toNat 0
def chStep (l : List Bk) (cs : List Int) (best : Int) (i : Nat) : Int :=
 if best < 0 ∨ countN (bkAt l i).1 cs < countN (bkAt l best.toNat).1 cs ∨ (countN (bkAt l i).1 cs = countN (bkAt l best.toNat).1 cs ∧ (bkAt l i).1 < (bkAt l best.toNat).1) then (i : Int) else best
def chooseN (l : List Bk) (need : Int) (cs : List Int) : Int := (fitsL l need).foldl (chStep l cs) (-1)
theorem qdY {l : List Bk} {cs : List Int} : ∀ {f : List Nat} {b : Int}, f.foldl (chStep l cs) b = b ∨ ∃ i ∈ f, f.foldl (chStep l cs) b = (i : Int) := by
 intro f
 induction f with
 | nil => intro b; exact .inl rfl
 | cons a r ih =>
  intro b
  simp only [List.foldl_cons]
  rcases ih (b := chStep l cs b a) with h | ⟨i, hi, h⟩
  ·rw [h]
   unfold chStep
   split
   ·exact .inr ⟨a, by simp, rfl⟩
   ·exact .inl rfl
  ·exact .inr ⟨i, by simp [hi], h⟩
theorem qdH {l : List Bk} {need : Int} {cs : List Int} : chooseN l need cs = -1 ∨ ∃ i : Nat, chooseN l need cs = (i : Int) ∧ i < l.length ∧ (bkAt l i).2.2 = false ∧ need ≤ (bkAt l i).2.1 ∧ 2 ≤ need := by
 unfold chooseN
 rcases qdY (l := l) (cs := cs) (f := fitsL l need) (b := -1) with h | ⟨i, hi, h⟩
 ·exact .inl h
 ·unfold fitsL at hi
  split at hi
  ·cases hi
  ·obtain ⟨h1, h2, h3⟩ := qc4 hi
   exact .inr ⟨i, h, h1, h2, h3, by omega⟩
section
variable {H : AH}
theorem qw.s {x0 : Sl} {need : Int} {l : List Bk} {k : Sl → AH → Prop} (hr : qk7 H x0 3 bkV l) (hl : l.length ≤ 100000)
  (h : ∀ s H', qa H H' → Own H.size H' s 1 nV (fitsL l need) → k s H') : qw x0 need H k := by
 refine qw.link ?_
 unfold qw.b
 simp only [qg, decide_eq_true_eq]
 by_cases hn : need < 2
 ·rw [if_pos hn]
  exact h _ _ (qa.refl H) (by unfold fitsL; rw [if_pos hn]; exact .inl ⟨rfl, rfl⟩)
 rw [if_neg hn]
 refine qC (t := ((⟨none, 0, 0⟩, (0 : Int)) : Sl × Int)) (I := fun (t : Sl × Int) H' => ∃ i : Nat, t.2 = (i : Int) ∧ i ≤ l.length ∧ qa H H' ∧ Own H.size H' t.1 1 nV (fitsTo l need i)) (m := fun (t : Sl × Int) _ => qkS ((l.length : Int) - t.2)) ?_ ⟨0, rfl, by omega, qa.refl H, .inl ⟨rfl, rfl⟩⟩
 intro t H1 hI it hit
 obtain ⟨s, t2⟩ := t
 obtain ⟨i, e1, hi, hk, hO⟩ := hI
 simp only at e1 hO
 subst e1
 unfold qw.l5
 simp only [qg, decide_eq_true_eq, hr.1]
 by_cases hlt : (i : Int) < (l.length : Int)
 ·rw [if_pos hlt]
  have hi' : i < l.length := by omega
  obtain ⟨b, o, ha, hb, hcells⟩ := qaz (hr.keep hk) (by omega)
  refine ⟨by omega, ?_⟩
  have hgi := qad hi'
  obtain ⟨hrow, _⟩ := hcells i _ hgi
  rw [ha, qe, qkQ, qu hrow]
  have hstep := qdK l need i
  unfold fitStep at hstep
  simp only at hstep
  have hmem : ∀ j, j ∈ fitsTo l need i → j < l.length := fun j hj => by have := (qc4 hj).1; omega
  have hlen := qdW (l := l) (need := need) (j := i)
  generalize hq : bkAt l i = q at *
  generalize fitsTo l need i = out at *
  refine qbu (n := 3) rfl (bkV_len q) (bkV_ok q) ?_
  have hB : BkAt (H1.push ⟨bkV q, .rw, 0⟩) H1.size q := BkAt.new
  have hk2 : qa H (H1.push ⟨bkV q, .rw, 0⟩) := hk.push _
  have hO2 : Own H.size (H1.push ⟨bkV q, .rw, 0⟩) s 1 nV out := hO.keep (by simp [qm]) (fun b _ hb => qT (by omega))
  have hcs : ∀ j x, l[j]? = some x → AH.cell? (H1.push ⟨bkV q, .rw, 0⟩) (qkN (qkN ⟨b, o, none⟩ (j * 3)) 1) = some (.int .i64 x.2.1) := fun j x hx => by
   have := (hcells j x hx).2 1 (.int .i64 x.2.1) rfl
   rw [qk, qk] at this ⊢
   rw [AH.cell?, qT (by show b ≠ H1.size; omega)]
   exact this
  generalize H1.push ⟨bkV q, .rw, 0⟩ = H2 at *
  have hwi : qkM .i64 ((i : Int) + 1) = ((i + 1 : Nat) : Int) := by rw [qd (by omega) (by omega)]; omega
  have next : ∀ s' H', qa H H' → Own H.size H' s' 1 nV (fitsTo l need (i + 1)) → it (s', ((i + 1 : Nat) : Int)) H' := fun s' H' a b => hit _ _ ⟨i + 1, rfl, by omega, a, b⟩ (by simp only; omega)
  have oN : ∀ {s' : Sl} {o' : List Nat}, Own H.size H2 s' 1 nV o' → s'.n = o'.length := fun h => own_n h
  have j2 : ∀ (s' : Sl) (o' : List Nat), Own H.size H2 s' 1 nV o' → (∀ j, j ∈ o' → j < l.length) → o'.length ≤ i → fitsTo l need (i + 1) = (if o'.length = 0 ∨ (bkAt l (o'.getD 0 0)).2.1 = q.2.1 then o' ++ [i] else o') → qw.j2 x0 (s, (i : Int)) it H1.size H2 s' := by
   intro s' o' hO' hm' hl' hst
   have j1 : ∀ x : Bool, (x = true ↔ (o'.length = 0 ∨ (bkAt l (o'.getD 0 0)).2.1 = q.2.1)) → qw.j1 (s, (i : Int)) it H2 s' x := by
    intro x hx
    unfold qw.j1
    rw [hwi, qg]
    by_cases hx' : x = true
    ·rw [if_pos hx', qx]
     rw [if_pos (hx.1 hx')] at hst
     refine qa7 (H0 := H) (B := H.size) (f := nV) (x := i) (l := o') (fun _ => rfl) rfl hO' (qkV _) hk2.1 hk2 (by simp only [lim]; omega) ?_
     intro s'' H' hO'' hK' _ _
     rw [← hst] at hO''
     exact next _ _ hK' hO''
    ·rw [if_neg hx']
     rw [if_neg (fun hh => hx' (hx.2 hh))] at hst
     refine next _ _ hk2 ?_
     rw [hst]; exact hO'
   unfold qw.j2
   simp only [qg, oN hO']
   by_cases h0 : o'.length = 0
   ·rw [if_pos (by simpa using h0)]
    exact j1 true (by simp [h0])
   ·rw [if_neg (by simpa using h0)]
    have hg0 : o'[0]? = some (o'.getD 0 0) := by rw [qkP, qkO (by omega)]; rfl
    have hmem0 := hm' (o'.getD 0 0) (qkY hg0)
    obtain ⟨b0, ha0, _, _, hc0⟩ := hO'.cell (fun _ => rfl) hg0 (j := 0) (by omega)
    refine ⟨by omega, ?_⟩
    rw [ha0, qe, qk, show AH.cell? H2 ⟨b0, 0 + qkS 0 * 1, none⟩ = some (.int .i64 ((o'.getD 0 0 : Nat) : Int)) from hc0, qf, hr.1]
    refine ⟨by omega, ?_⟩
    rw [ha, qe, qkQ, hcs _ _ (qad hmem0), qf, hB.c1, qf]
    refine j1 _ ?_
    simp [h0]
  have j4 : ∀ x : Bool, (x = true ↔ (q.2.2 = true ∨ q.2.1 < need)) → qw.j4 x0 (s, (i : Int)) it H1.size H2 x := by
   intro x hx
   unfold qw.j4
   rw [hwi]
   simp only [qg, decide_eq_true_eq]
   by_cases hx' : x = true
   ·rw [if_pos hx']
    rw [if_pos (hx.1 hx')] at hstep
    exact next _ _ hk2 (by rw [hstep]; exact hO2)
   ·rw [if_neg hx']
    rw [if_neg (fun hh => hx' (hx.2 hh))] at hstep
    have j3 : ∀ y : Bool, (y = true ↔ (0 < out.length ∧ (bkAt l (out.getD 0 0)).2.1 > q.2.1)) → qw.j3 x0 (s, (i : Int)) it H1.size H2 y := by
     intro y hy
     unfold qw.j3
     rw [qg]
     by_cases hy' : y = true
     ·rw [if_pos hy']
      rw [if_pos (hy.1 hy')] at hstep
      exact j2 _ [] (.inl ⟨rfl, rfl⟩) (fun j hj => by cases hj) (qlP _) hstep
     ·rw [if_neg hy']
      rw [if_neg (fun hh => hy' (hy.2 hh))] at hstep
      exact j2 _ out hO2 hmem hlen hstep
    rw [oN hO2]
    by_cases h0 : (out.length : Int) > 0
    ·rw [if_pos h0]
     have hg0 : out[0]? = some (out.getD 0 0) := by rw [qkP, qkO (by omega)]; rfl
     have hmem0 := hmem (out.getD 0 0) (qkY hg0)
     obtain ⟨b0, ha0, _, _, hc0⟩ := hO2.cell (fun _ => rfl) hg0 (j := 0) (by omega)
     refine ⟨by omega, ?_⟩
     rw [ha0, qe, qk, show AH.cell? H2 ⟨b0, 0 + qkS 0 * 1, none⟩ = some (.int .i64 ((out.getD 0 0 : Nat) : Int)) from hc0, qf, hr.1]
     refine ⟨by omega, ?_⟩
     rw [ha, qe, qkQ, hcs _ _ (qad hmem0), qf, hB.c1, qf]
     refine j3 _ ?_
     rw [decide_eq_true_eq]
     exact ⟨fun hh => ⟨by omega, hh⟩, fun hh => hh.2⟩
    ·rw [if_neg h0]
     refine j3 false ?_
     constructor
     ·intro hh; cases hh
     ·intro hh; omega
  simp only [hB.c2, qaK]
  by_cases hu : q.2.2 = true
  ·rw [if_pos hu]; exact j4 true (by simp [hu])
  ·rw [if_neg hu, hB.c1, qf]
   refine j4 _ ?_
   rw [decide_eq_true_eq]
   exact ⟨fun hh => .inr hh, fun hh => hh.resolve_left hu⟩
 ·rw [if_neg hlt]
  have : i = l.length := by omega
  subst this
  exact h _ _ hk (by unfold fitsL; rw [if_neg hn]; exact hO)
theorem qM.s {pt : Int} {x1 : Sl} {cs : List Int} {k : Int → AH → Prop} (hr : qk7 H x1 1 iV cs) (hp : pt ≤ 100000) (h : k (countN pt cs) H) : qM pt x1 H k := by
 refine qM.link ?_
 unfold qM.b qM.j1
 unfold countN at h
 simp only [qg, decide_eq_true_eq, hr.1]
 by_cases h1 : pt < 0
 ·rw [if_pos h1, qj]; rw [if_pos (.inl h1)] at h; exact h
 rw [if_neg h1, qlk (by omega), qd (n := pt / 32) (by omega) (by omega)]
 refine ⟨by decide, ?_⟩
 by_cases h2 : pt / 32 ≥ (cs.length : Int)
 ·rw [if_pos h2]; rw [if_pos (.inr h2)] at h; exact h
 ·rw [if_neg h2]
  rw [if_neg (by omega)] at h
  obtain ⟨b, o, ha, _, hc⟩ := qaZ (g := fun v => qkL .i64 v) hr (i := (pt / 32).toNat) (by omega)
  refine ⟨by decide, by omega, ?_⟩
  rw [ha, qe, hc, qf]
  rw [qkP, qkO (show (pt / 32).toNat < cs.length by omega), qll] at h
  exact h
theorem qL.s {x0 x2 : Sl} {need : Int} {l : List Bk} {cs : List Int} {k : Int → AH → Prop} (hr : qk7 H x0 3 bkV l) (hl : l.length ≤ 1000) (hok : ∀ b ∈ l, 0 ≤ b.1 ∧ b.1 ≤ 100000) (hcs : qk7 H x2 1 iV cs)
  (h : k (chooseN l need cs) H) : qL x0 need x2 H k := by
 refine gcI (j := .i64) (chooseN l need cs) (qL.link ?_) h
 unfold qL.b
 refine qw.s hr (by omega) ?_
 intro s12 H12 hk12 hO12
 have hr2 := hr.keep hk12
 have hcs2 := hcs.keep hk12
 have hRf := hO12.rows (fun _ => rfl) (fun _ => rfl)
 have hmem : ∀ j, j ∈ fitsL l need → j < l.length := fun j hj => by
  unfold fitsL at hj
  split at hj
  ·cases hj
  ·exact (qc4 hj).1
 have hlen : (fitsL l need).length ≤ l.length := by
  unfold fitsL
  split
  ·exact qlP _
  ·exact qdW
 unfold chooseN
 generalize fitsL l need = f at *
 refine qC (t := (((-1 : Int), (0 : Int)) : Int × Int)) (I := fun (t : Int × Int) H' => ∃ i : Nat, t.2 = (i : Int) ∧ i ≤ f.length ∧ H' = H12 ∧ t.1 = (f.take i).foldl (chStep l cs) (-1)) (m := fun (t : Int × Int) _ => qkS ((f.length : Int) - t.2)) ?_ ⟨0, rfl, by omega, rfl, rfl⟩
 intro t H1 hI it hit
 obtain ⟨best, t2⟩ := t
 obtain ⟨i, e1, hi, rfl, e2⟩ := hI
 simp only at e1 e2
 subst e1
 unfold qL.l2
 simp only [qg, decide_eq_true_eq, hRf.1]
 by_cases hlt : (i : Int) < (f.length : Int)
 ·rw [if_pos hlt]
  have hi' : i < f.length := by omega
  obtain ⟨b0, o0, ha0, _, hc0⟩ := qaZ (g := fun v : Nat => qkL .i64 (v : Int)) hRf (i := i) hi'
  refine ⟨by omega, ?_⟩
  rw [ha0, qe, qkQ, hc0, qf]
  have hfi := hmem _ (qk1 hi')
  have htk : (f.take (i + 1)).foldl (chStep l cs) (-1) = chStep l cs best f[i] := by
   rw [qmd, qkO hi', qlX, List.foldl_append, e2]; rfl
  have hbest : best = -1 ∨ ∃ b : Nat, best = (b : Int) ∧ b < l.length := by
   rw [e2]
   rcases qdY (l := l) (cs := cs) (f := f.take i) (b := -1) with h | ⟨j, hj, h⟩
   ·exact .inl h
   ·exact .inr ⟨j, h, hmem j (List.mem_of_mem_take hj)⟩
  generalize f[i] = y at *
  have hwi : qkM .i64 ((i : Int) + 1) = ((i + 1 : Nat) : Int) := by rw [qd (by omega) (by omega)]; omega
  have j1 : ∀ x : Bool, (x = true ↔ (best < 0 ∨ countN (bkAt l y).1 cs < countN (bkAt l best.toNat).1 cs ∨ (countN (bkAt l y).1 cs = countN (bkAt l best.toNat).1 cs ∧ (bkAt l y).1 < (bkAt l best.toNat).1))) → qL.j1 (best, (i : Int)) it (y : Int) x H1 := by
   intro x hx
   unfold qL.j1
   rw [hwi, qg]
   unfold chStep at htk
   by_cases hx' : x = true
   ·rw [if_pos hx']
    rw [if_pos (hx.1 hx')] at htk
    exact hit _ _ ⟨i + 1, rfl, by omega, rfl, htk.symm⟩ (by simp only; omega)
   ·rw [if_neg hx']
    rw [if_neg (fun hh => hx' (hx.2 hh))] at htk
    exact hit _ _ ⟨i + 1, rfl, by omega, rfl, htk.symm⟩ (by simp only; omega)
  rcases hbest with hb | ⟨bb, hb, hbl⟩
  ·rw [if_pos (by omega)]
   exact j1 true ⟨fun _ => .inl (by omega), fun _ => rfl⟩
  ·rw [if_neg (by omega), hr.1]
   subst hb
   rw [qkQ] at j1
   obtain ⟨b, o, ha, hbz, hcells⟩ := qaz hr2 (by omega)
   have hgy := qad hfi
   have hgb := qad hbl
   have cy : AH.cell? H1 (qkN (qkN ⟨b, o, none⟩ (y * 3)) 0) = some (.int .i64 (bkAt l y).1) := (hcells y _ hgy).2 0 _ rfl
   have cb : AH.cell? H1 (qkN (qkN ⟨b, o, none⟩ (bb * 3)) 0) = some (.int .i64 (bkAt l bb).1) := (hcells bb _ hgb).2 0 _ rfl
   have oy := (hok _ (qkY hgy)).2
   have ob := (hok _ (qkY hgb)).2
   generalize bkAt l y = qy at *
   generalize bkAt l bb = qb at *
   have rg : (0 ≤ (y : Int) ∧ (y : Int) < (l.length : Int)) ∧ (0 ≤ (bb : Int) ∧ (bb : Int) < (l.length : Int)) := by omega
   refine ⟨rg.1, ?_⟩
   simp only [ha, qe, qkQ, cy, cb, qf]
   refine ⟨rg.2, ?_⟩
   refine qM.s hcs2 oy ⟨cb, ?_⟩
   refine qM.s hcs2 ob ?_
   by_cases c1 : countN qy.1 cs < countN qb.1 cs
   ·rw [if_pos c1]
    exact j1 true ⟨fun _ => .inr (.inl c1), fun _ => rfl⟩
   ·rw [if_neg c1]
    simp only [cy, cb, qf]
    refine ⟨rg.1, rg.2, ?_⟩
    refine qM.s hcs2 oy ⟨cb, ?_⟩
    refine qM.s hcs2 ob ?_
    by_cases c2 : countN qy.1 cs = countN qb.1 cs
    ·rw [if_pos (by simpa using c2)]
     simp only [cy, cb, qf]
     refine ⟨rg.1, rg.2, j1 _ ?_⟩
     rw [decide_eq_true_eq]
     exact ⟨fun hh => .inr (.inr ⟨c2, hh⟩), fun hh => by
      rcases hh with hh | hh | hh
      ·omega
      ·exact absurd hh c1
      ·exact hh.2⟩
    ·rw [if_neg (by simpa using c2)]
     refine j1 false ⟨fun hh => (by cases hh), fun hh => ?_⟩
     rcases hh with hh | hh | hh
     ·omega
     ·exact absurd hh c1
     ·exact absurd hh.1 c2
 ·rw [if_neg hlt]
  have : i = f.length := by omega
  subst this
  rw [qlH] at e2
  exact ⟨hk12, e2⟩
end
def isN (off : Int) : List Bk → Nat → Int
 | [], _ => -1
 | b :: r, i => if b.2.2 = true ∧ offN b.1 = off then (i : Int) else isN off r (i + 1)
theorem qdi (off : Int) : ∀ (l : List Bk) (i : Nat), isN off l i = -1 ∨ ∃ j : Nat, isN off l i = ((i + j : Nat) : Int) ∧ j < l.length ∧ (bkAt l j).2.2 = true ∧ offN (bkAt l j).1 = off := by
 intro l
 induction l with
 | nil => intro i; exact .inl rfl
 | cons b r ih =>
  intro i
  unfold isN
  split
  ·rename_i h; exact .inr ⟨0, rfl, by simp, h.1, h.2⟩
  ·rcases ih (i + 1) with h | ⟨j, h1, h2, h3⟩
   ·exact .inl h
   ·exact .inr ⟨j + 1, by rw [h1]; congr 1; omega, by simpa using h2, h3⟩
def inB (off n : Int) (b : Bk) : Prop := b.2.2 = true ∧ offN b.1 ≤ off ∧ off ≤ (b.1 + b.2.1) * 8 ∧ n ≤ (b.1 + b.2.1) * 8 - off
def withinN (l : List Bk) (off n : Int) : Prop := 0 ≤ n ∧ n ≤ 448 ∧ ∃ b ∈ l, inB off n b
theorem qiK (pt : Int) : 0 ≤ offN pt ∧ offN pt ≤ 4104 := by unfold offN; split <;> omega
section
variable {H : AH}
theorem qaN.s {x0 : Sl} {off : Int} {l : List Bk} {k : Int → AH → Prop} (hr : qk7 H x0 3 bkV l) (hl : l.length ≤ 1000) (h : k (isN off l 0) H) : qaN x0 off H k := by
 refine gcI (j := .i64) (isN off l 0) (qaN.link ?_) h
 unfold qaN.b
 refine qC (t := (((0 : Int), (0 : Int)) : Int × Int)) (I := fun (t : Int × Int) H' => ∃ i : Nat, t.2 = (i : Int) ∧ i ≤ l.length ∧ qa H H' ∧ isN off l 0 = isN off (l.drop i) i) (m := fun (t : Int × Int) _ => qkS ((l.length : Int) - t.2)) ?_ ⟨0, rfl, by omega, qa.refl H, rfl⟩
 intro t H1 hI it hit
 obtain ⟨t1, t2⟩ := t
 obtain ⟨i, e1, hi, hk, he⟩ := hI
 simp only at e1
 subst e1
 unfold qaN.l1
 simp only [qg, decide_eq_true_eq, hr.1]
 by_cases hlt : (i : Int) < (l.length : Int)
 ·rw [if_pos hlt]
  have hi' : i < l.length := by omega
  obtain ⟨b, o, ha, hb, hcells⟩ := qaz (hr.keep hk) (by omega)
  refine ⟨by omega, ?_⟩
  obtain ⟨hrow, _⟩ := hcells i l[i] (qkO hi')
  rw [ha, qe, qkQ, qu hrow]
  rw [qcJ hi'] at he
  simp only [isN] at he
  generalize l[i] = q at *
  refine qbu (n := 3) rfl (bkV_len q) (bkV_ok q) ?_
  have hB : BkAt (H1.push ⟨bkV q, .rw, 0⟩) H1.size q := BkAt.new
  have hk2 : qa H (H1.push ⟨bkV q, .rw, 0⟩) := hk.push _
  generalize H1.push ⟨bkV q, .rw, 0⟩ = H2 at *
  simp only [hB.c2, qaK]
  rw [qu hB.row, qd (n := (i : Int) + 1) (by omega) (by omega)]
  have next : ¬ (q.2.2 = true ∧ offN q.1 = off) → it (t1, (i : Int) + 1) H2 := fun hn => by
   rw [if_neg hn] at he
   exact hit _ _ ⟨i + 1, by simp, by omega, hk2, he⟩ (by simp only; omega)
  by_cases hu : q.2.2 = true
  ·rw [if_pos hu]
   refine qal.s ?_
   by_cases ho : offN q.1 = off
   ·rw [if_pos (by simpa using ho)]
    rw [if_pos ⟨hu, ho⟩] at he
    exact ⟨hk2, he.symm⟩
   ·rw [if_neg (by simpa using ho)]
    exact next (fun hh => ho hh.2)
  ·rw [if_neg hu]; exact next (fun hh => hu hh.1)
 ·rw [if_neg hlt]
  have : i = l.length := by omega
  subst this
  rw [qmh] at he
  exact ⟨hk, he.symm⟩
theorem qR.s {x0 : Sl} {off n : Int} {l : List Bk} {k : Bool → AH → Prop} (hr : qk7 H x0 3 bkV l) (hl : l.length ≤ 1000) (hok : ∀ b ∈ l, 0 ≤ b.1 ∧ b.1 ≤ 100000 ∧ 0 ≤ b.2.1 ∧ b.2.1 ≤ 100000)
  (h1 : withinN l off n → k true H) (h0 : ¬ withinN l off n → k false H) : qR x0 off n H k := by
 have main : ∀ v : Bool, (v = true ↔ withinN l off n) → qR x0 off n H k := by
  intro v hv
  refine gcB v (qR.link ?_) (by cases v; exact h0 (fun hh => by have := hv.2 hh; cases this); exact h1 (hv.1 rfl))
  unfold qR.b qR.j2
  simp only [qg, decide_eq_true_eq]
  have hf : ¬ withinN l off n → v = false := fun hh => by cases v; rfl; exact absurd (hv.1 rfl) hh
  by_cases c1 : n < 0
  ·rw [if_pos c1, qj]; exact ⟨qa.refl H, (hf (fun hh => by have := hh.1; omega)).symm⟩
  rw [if_neg c1]
  by_cases c2 : n > 448
  ·rw [if_pos c2]; exact ⟨qa.refl H, (hf (fun hh => by have := hh.2.1; omega)).symm⟩
  rw [if_neg c2]
  refine qC (t := ((false, (0 : Int)) : Bool × Int)) (I := fun (t : Bool × Int) H' => ∃ i : Nat, t.2 = (i : Int) ∧ i ≤ l.length ∧ qa H H' ∧ ∀ j, j < i → ¬ inB off n (bkAt l j)) (m := fun (t : Bool × Int) _ => qkS ((l.length : Int) - t.2)) ?_ ⟨0, rfl, by omega, qa.refl H, fun j hj => by omega⟩
  intro t H1 hI it hit
  obtain ⟨t1, t2⟩ := t
  obtain ⟨i, e1, hi, hk, he⟩ := hI
  simp only at e1
  subst e1
  unfold qR.l1
  simp only [qg, decide_eq_true_eq, hr.1]
  by_cases hlt : (i : Int) < (l.length : Int)
  ·rw [if_pos hlt]
   have hi' : i < l.length := by omega
   obtain ⟨b, o, ha, hb, hcells⟩ := qaz (hr.keep hk) (by omega)
   refine ⟨by omega, ?_⟩
   have hgi := qad hi'
   obtain ⟨hrow, _⟩ := hcells i _ hgi
   have hq := hok _ (qkY hgi)
   have hmem := qkY hgi
   rw [ha, qe, qkQ, qu hrow]
   generalize hqq : bkAt l i = q at *
   refine qbu (n := 3) rfl (bkV_len q) (bkV_ok q) ?_
   have hB : BkAt (H1.push ⟨bkV q, .rw, 0⟩) H1.size q := BkAt.new
   have hk2 : qa H (H1.push ⟨bkV q, .rw, 0⟩) := hk.push _
   generalize H1.push ⟨bkV q, .rw, 0⟩ = H2 at *
   simp only [hB.c0, hB.c1, hB.c2, qaK, qf]
   rw [qu hB.row, qd (n := (i : Int) + 1) (by omega) (by omega), qd (n := q.1 + q.2.1) (by omega) (by omega), qd (n := (q.1 + q.2.1) * 8) (by omega) (by omega)]
   have next : ¬ inB off n q → it (t1, (i : Int) + 1) H2 := fun hn => by
    refine hit _ _ ⟨i + 1, by simp, by omega, hk2, fun j hj => ?_⟩ (by simp only; omega)
    by_cases hji : j = i
    ·subst hji; rw [hqq]; exact hn
    ·exact he j (by omega)
   by_cases hu : q.2.2 = true
   ·rw [if_pos hu]
    refine qal.s ?_
    have hor := qiK q.1
    by_cases c3 : off ≥ offN q.1
    ·rw [if_pos c3]
     by_cases c4 : off ≤ (q.1 + q.2.1) * 8
     ·rw [if_pos c4, qd (n := (q.1 + q.2.1) * 8 - off) (by omega) (by omega)]
      by_cases c5 : n ≤ (q.1 + q.2.1) * 8 - off
      ·rw [if_pos c5]
       exact ⟨hk2, (hv.2 ⟨by omega, by omega, q, hmem, hu, c3, c4, c5⟩).symm⟩
      ·rw [if_neg c5]; exact next (fun hh => c5 hh.2.2.2)
     ·rw [if_neg c4]; exact next (fun hh => c4 hh.2.2.1)
    ·rw [if_neg c3]; exact next (fun hh => c3 hh.2.1)
   ·rw [if_neg hu]; exact next (fun hh => hu hh.1)
  ·rw [if_neg hlt]
   have : i = l.length := by omega
   subst this
   refine ⟨hk, (hf ?_).symm⟩
   rintro ⟨_, _, b, hb, hin⟩
   obtain ⟨j, hj, e⟩ := List.getElem_of_mem hb
   have hg := qad hj
   rw [qkO hj] at hg
   injection hg with hg
   exact he j hj (by rw [← hg, e]; exact hin)
 by_cases hw : withinN l off n
 ·exact main true ⟨fun _ => hw, fun _ => rfl⟩
 ·exact main false ⟨fun hh => (by cases hh), fun hh => absurd hh hw⟩
end
def carveTo (pt tk : Int) (j : Nat) : List (Int × Int) := (pt, wordN tk true) :: (qly (j - 1)).map fun (t : Nat) => (pt + ((t : Int) + 1), (0 : Int))
def carveE (b : Bk) (need : Int) : List (Int × Int) :=
 carveTo b.1 (takesN b.2.1 need) (takesN b.2.1 need).toNat ++ (if takesN b.2.1 need < b.2.1 then [(b.1 + takesN b.2.1 need, wordN (b.2.1 - takesN b.2.1 need) false)] else [])
theorem qd2 (pt tk : Int) {j : Nat} (hj : 1 ≤ j) : carveTo pt tk (j + 1) = carveTo pt tk j ++ [(pt + (j : Int), 0)] := by
 unfold carveTo
 obtain ⟨i, rfl⟩ : ∃ i, j = i + 1 := ⟨j - 1, by omega⟩
 simp only [Nat.add_sub_cancel, qlQ, List.map_append, qlN, List.map_nil, qls]
 congr 2
theorem eU_len (x : Int × Int) : (eU x).length = 2 := rfl
theorem eU_ok (x : Int × Int) : (eU x).all qq = true := rfl
section
variable {H : AH}
theorem qbS {H' : AH} {b : Nat} {a : Nat} {i j : Nat} (hk : qa H H') (hb : b < H.size) (v : Option Value) (h : AH.cell? H (qkN (qkN ⟨b, a, none⟩ i) j) = v) : AH.cell? H' (qkN (qkN ⟨b, a, none⟩ i) j) = v := by
 rw [qk, qk] at h ⊢
 rw [← h]
 simp only [AH.cell?, hk.2 b hb]
theorem qfH {α : Type} {o z : Nat} {f : α → List Value} {x : α} (hf : ∀ x, (f x).length = z) (hc : ∀ x, (f x).all qq = true) (hb : o < H.size) (hg : H.get o = ⟨f x, .rw, z⟩) : qk7 H ⟨some ⟨o, 0, none⟩, 1, 1⟩ z f [x] :=
 Own.rows (B := 0) (.inr ⟨o, rfl, qlP _, hb, by rw [hg]; simp⟩) hf hc
theorem qG.s {x0 : Sl} {need words : Int} {l : List Bk} {i : Nat} {k : Sl → Bool → AH → Prop} (hr : qk7 H x0 3 bkV l) (hB : MayB l words) (hi : i < l.length) (hu : (bkAt l i).2.2 = false) (hn : 2 ≤ need ∧ need ≤ (bkAt l i).2.1)
  (h : ∀ s H', qa H H' → k s true H') : qG x0 (i : Int) need H k := by
 have hlen := hB.len
 have hgi := qad hi
 have hm := hB.mem (qkY hgi)
 refine qG.link ?_
 unfold qG.b
 refine qP.s hr hB ?_
 refine qp.s hr (by omega) (fun b hb => by have := hB.mem hb; omega) (by have := hB.1; unfold mayW at this; omega) ?_
 rw [decide_eq_true hB, qlb, qc]
 obtain ⟨b, o, ha, hb, hcells⟩ := qaz hr (by omega)
 obtain ⟨hrow, hcell⟩ := hcells i _ hgi
 have c0 := hcell 0 _ rfl
 have c1 := hcell 1 _ rfl
 have c2 := hcell 2 _ rfl
 generalize bkAt l i = q at *
 have hti : qkS (i : Int) = i := qkQ i
 have htk : takesN q.2.1 need ≠ 0 ∧ 2 ≤ takesN q.2.1 need ∧ takesN q.2.1 need ≤ q.2.1 := by
  unfold takesN; rw [if_pos ⟨hn.1, hn.2⟩]; split <;> omega
 simp only [qg, decide_eq_true_eq, hr.1, ha, qe, hti, c1, c2, qaK, qf]
 rw [if_neg (by omega), if_neg (by omega)]
 refine ⟨by omega, ?_⟩
 rw [hu, if_neg (by simp)]
 refine ⟨by omega, ?_⟩
 refine qY.s (by omega) (by omega) ?_
 unfold qG.j2
 rw [show (takesN q.2.1 need == 0) = false by simp [htk.1], qc, hr.1]
 refine ⟨by omega, ?_⟩
 simp only [ha, qe, hti, c1, qf, qg, decide_eq_true_eq]
 refine qY.s (by omega) (by omega) ?_
 refine ⟨by omega, by omega, ?_⟩
 generalize takesN q.2.1 need = tk at *
 rw [c0, qf]
 refine ⟨rfl, ?_⟩
 rw [qx]
 have e1 : [qkL .i64 q.1, qkL .i64 tk, qln true] = bkV (q.1, tk, true) := rfl
 rw [e1]
 have hk1 : qa H (H.push ⟨bkV (q.1, tk, true), .rw, 3⟩) := (qa.refl H).push _
 have g1 : (H.push ⟨bkV (q.1, tk, true), .rw, 3⟩).get H.size = ⟨bkV (q.1, tk, true), .rw, 3⟩ := by rw [qr, if_pos rfl]
 have s1 : H.size < (H.push ⟨bkV (q.1, tk, true), .rw, 3⟩).size := by simp [qm]
 generalize H.push ⟨bkV (q.1, tk, true), .rw, 3⟩ = H1 at *
 have l1 : l.length ≤ 256 := by omega
 have rt := qdt (hr.keep hk1) (k := i) (by omega)
 rw [ha] at rt
 refine qbR (H0 := H1) (B := H1.size) (l := []) bkV_len bkV_ok (.inl ⟨rfl, rfl⟩) rt (qkV _) (qkV _) (qa.refl H1) (by simp [lim]; omega) ?_
 intro s52 H52 hO52 hk52 _ _
 refine ⟨qbS (hk1.trans hk52) hb _ c0, ?_⟩
 have r60 : qk7 H52 ⟨some ⟨H.size, 0, none⟩, 1, 1⟩ 3 bkV [(q.1, tk, true)] := qfH bkV_len bkV_ok (by have := hk52.1; omega) (by rw [hk52.2 _ s1, g1])
 refine qbR (H0 := H1) (B := H1.size) bkV_len bkV_ok hO52 r60 (qkV _) hk52.1 hk52 (by simp [lim]; omega) ?_
 intro s61 H61 hO61 hk61 _ _
 refine ⟨by omega, ?_⟩
 have hk61' := hk1.trans hk61
 rw [qbS hk61' hb _ c1, qf]
 have hwi : qkM .i64 ((i : Int) + 1) = ((i + 1 : Nat) : Int) := by rw [qd (by omega) (by omega)]; omega
 have j1 : ∀ (s : Sl) (acc : List Bk) (Hj : AH), Own H1.size Hj s 3 bkV acc → qa H1 Hj → acc.length ≤ 1000 → qG.j1 x0 (i : Int) k s Hj := by
  intro s acc Hj hO hkj hl
  unfold qG.j1
  rw [hwi, qkQ, hr.1]
  refine ⟨by omega, ?_⟩
  have rd := qdm (hr.keep (hk1.trans hkj)) (k := i + 1) (by omega)
  rw [hr.1] at rd
  refine qbR (H0 := H1) (B := H1.size) bkV_len bkV_ok hO rd (qkV _) hkj.1 hkj (by simp [lim]; omega) ?_
  intro s' H' _ hk' _ _
  exact h _ _ (hk1.trans hk')
 by_cases hc : tk < q.2.1
 ·rw [if_pos hc]
  refine ⟨by omega, ?_⟩
  rw [qbS hk61' hb _ c0, qf]
  refine ⟨by omega, ?_⟩
  rw [qf]
  refine ⟨rfl, ?_⟩
  rw [qx]
  have e2 : [qkL .i64 (qkM .i64 (q.1 + tk)), qkL .i64 (qkM .i64 (q.2.1 - tk)), qln false] = bkV (qkM .i64 (q.1 + tk), qkM .i64 (q.2.1 - tk), false) := rfl
  rw [e2]
  refine qa7 (H0 := H1) (B := H1.size) bkV_len (bkV_ok _) hO61 (qkV _) hk61.1 hk61 (by simp [lim]; omega) ?_
  intro s86 H86 hO86 hk86 _ _
  exact j1 _ _ _ hO86 hk86 (by simp; omega)
 ·rw [if_neg hc]
  exact j1 _ _ _ hO61 hk61 (by simp; omega)
theorem qJ.s {x0 : Sl} {need words : Int} {l : List Bk} {i : Nat} {k : Sl → AH → Prop} (hr : qk7 H x0 3 bkV l) (hB : MayB l words) (hi : i < l.length) (hu : (bkAt l i).2.2 = false) (hn : 2 ≤ need ∧ need ≤ (bkAt l i).2.1)
  (h : ∀ s H', qa H H' → Own H.size H' s 2 eU (carveE (bkAt l i) need) → k s H') : qJ x0 (i : Int) need H k := by
 have hlen := hB.len
 have hgi := qad hi
 have hm := hB.mem (qkY hgi)
 refine qJ.link ?_
 unfold qJ.b
 refine qG.s hr hB hi hu hn ?_
 intro s16 H16 hk16
 rw [qlb, qc, hr.1]
 obtain ⟨b, o, ha, hb, hcells⟩ := qaz hr (by omega)
 obtain ⟨hrow, hcell⟩ := hcells i _ hgi
 have c0 := hcell 0 _ rfl
 have c1 := hcell 1 _ rfl
 unfold carveE at h
 generalize bkAt l i = q at *
 have hti : qkS (i : Int) = i := qkQ i
 have htk : 2 ≤ takesN q.2.1 need ∧ takesN q.2.1 need ≤ q.2.1 := by
  unfold takesN; rw [if_pos ⟨hn.1, hn.2⟩]; split <;> omega
 refine ⟨by omega, ?_⟩
 simp only [ha, qe, hti]
 rw [qbS hk16 hb _ c1, qf]
 refine qY.s (by omega) (by omega) ?_
 generalize takesN q.2.1 need = tk at *
 refine ⟨by omega, ?_⟩
 rw [qbS hk16 hb _ c0, qf]
 refine qaF.s ⟨qbS hk16 hb _ c0, rfl, ?_⟩
 rw [qx]
 have e1 : [qkL .i64 q.1, qkL .u64 (wordN tk true)] = eU (q.1, wordN tk true) := rfl
 rw [e1]
 have hkp := hk16.1
 have hO0 : Own H.size (H16.push ⟨eU (q.1, wordN tk true), .rw, 2⟩) ⟨some ⟨H16.size, 0, none⟩, 1, 1⟩ 2 eU (carveTo q.1 tk 1) := .inr ⟨H16.size, rfl, hkp, by simp [qm], by rw [qr, if_pos rfl]; rfl⟩
 refine qC (t := ((⟨some ⟨H16.size, 0, none⟩, 1, 1⟩, (1 : Int)) : Sl × Int)) (I := fun (t : Sl × Int) H' => ∃ j : Nat, t.2 = (j : Int) ∧ 1 ≤ j ∧ (j : Int) ≤ tk ∧ qa H H' ∧ Own H.size H' t.1 2 eU (carveTo q.1 tk j)) (m := fun (t : Sl × Int) _ => qkS (tk - t.2)) ?_ ⟨1, rfl, by omega, by omega, hk16.push _, hO0⟩
 intro t H1 hI it hit
 obtain ⟨s, t2⟩ := t
 obtain ⟨j, e2, hj, hjt, hk, hO⟩ := hI
 simp only at e2 hO
 subst e2
 unfold qJ.l2
 simp only [qg, decide_eq_true_eq, hr.1, ha, qe, hti]
 have hcl : (carveTo q.1 tk j).length = j := by unfold carveTo; simp; omega
 by_cases hlt : (j : Int) < tk
 ·rw [if_pos hlt]
  refine ⟨by omega, ?_⟩
  rw [qbS hk hb _ c0, qf]
  refine ⟨rfl, ?_⟩
  rw [qx, qd (n := q.1 + (j : Int)) (by omega) (by omega), qd (n := (j : Int) + 1) (by omega) (by omega)]
  have e3 : [qkL .i64 (q.1 + (j : Int)), qkL .u64 0] = eU (q.1 + (j : Int), 0) := rfl
  rw [e3]
  refine qa7 (H0 := H) (B := H.size) eU_len (eU_ok _) hO (qkV _) hk.1 hk (by rw [hcl]; simp only [lim]; omega) ?_
  intro s' H' hO' hk' _ _
  rw [← qd2 _ _ hj] at hO'
  exact hit _ _ ⟨j + 1, by simp, by omega, by omega, hk', hO'⟩ (by simp only; omega)
 ·rw [if_neg hlt]
  have htj : tk.toNat = j := by omega
  rw [htj] at h
  unfold qJ.j1
  simp only [qg, decide_eq_true_eq, hr.1, ha, qe, hti]
  refine ⟨by omega, ?_⟩
  rw [qbS hk hb _ c1, qf]
  by_cases hc : tk < q.2.1
  ·rw [if_pos hc] at h ⊢
   refine ⟨by omega, ?_⟩
   rw [qbS hk hb _ c0, qf]
   refine ⟨by omega, ?_⟩
   rw [qf, qd (n := q.2.1 - tk) (by omega) (by omega)]
   refine qaF.s ⟨qbS hk hb _ c0, rfl, ?_⟩
   rw [qx, qd (n := q.1 + tk) (by omega) (by omega)]
   have e3 : [qkL .i64 (q.1 + tk), qkL .u64 (wordN (q.2.1 - tk) false)] = eU (q.1 + tk, wordN (q.2.1 - tk) false) := rfl
   rw [e3]
   refine qa7 (H0 := H) (B := H.size) eU_len (eU_ok _) hO (qkV _) hk.1 hk (by rw [hcl]; simp only [lim]; omega) ?_
   intro s' H' hO' hk' _ _
   exact h _ _ hk' hO'
  ·rw [if_neg hc] at h ⊢
   rw [List.append_nil] at h
   exact h _ _ hk hO
end
section
variable {H : AH} {x0 x2 : Sl} {off : Nat}
theorem qa1.s {m : Nat} {o n : Int} {k : Bool → AH → Prop} (hm : m ≤ 1000000) (ho : -9223372036854775808 ≤ o ∧ o ≤ 9223372036854775807) (hn : -9223372036854775808 ≤ n ∧ n ≤ 9223372036854775807) (h : k (decide (inside m o n)) H) : qa1 (m : Int) o n H k := by
 have main : ∀ v : Bool, (v = true ↔ inside m o n) → k v H := fun v hv => by
  have : v = decide (inside m o n) := by
   by_cases hi : inside m o n
   ·rw [decide_eq_true hi]; exact hv.2 hi
   ·rw [decide_eq_false hi]; cases v; rfl; exact absurd (hv.1 rfl) hi
  rw [this]; exact h
 clear h
 unfold inside at main
 refine qa1.link ?_
 unfold qa1.b
 simp only [qg, decide_eq_true_eq]
 by_cases c1 : o ≥ 0
 rotate_left 1
 ·rw [if_neg c1]; exact main false ⟨fun hh => (by cases hh), fun hh => by omega⟩
 rw [if_pos c1]
 by_cases c2 : n ≥ 0
 rotate_left 1
 ·rw [if_neg c2]; exact main false ⟨fun hh => (by cases hh), fun hh => by omega⟩
 rw [if_pos c2]
 by_cases c3 : n ≤ 448
 rotate_left 1
 ·rw [if_neg c3]; exact main false ⟨fun hh => (by cases hh), fun hh => by omega⟩
 rw [if_pos c3, qd (n := 8 * (m : Int)) (by omega) (by omega)]
 by_cases c4 : o ≤ 8 * (m : Int)
 rotate_left 1
 ·rw [if_neg c4]; exact main false ⟨fun hh => (by cases hh), fun hh => by omega⟩
 rw [if_pos c4, qd (n := 8 * (m : Int) - o) (by omega) (by omega)]
 refine main _ ?_
 rw [decide_eq_true_eq]
 constructor
 ·intro hh; omega
 ·intro hh; omega
theorem qgH {it : Sl × Int → AH → Prop} {H0 H1 : AH} {s : Sl} {cur : List Int} {k m : Nat} {c : Int} {t : Sl × Int} (ht : t.2 = (k : Int)) (hK : qa H0 H1) (hO : Own H0.size H1 s 2 eU (editsOf cur (off / 8) m)) (hm : 1 ≤ m) (hm' : m ≤ 1000)
  (hi : (off + k) / 8 = off / 8 + m - 1) (hl : (off + k) / 8 < cur.length) (hc : 0 ≤ c ∧ c ≤ 255) (hoff : off + k ≤ 100000000)
  (hit : ∀ H', qa H0 H' → Own H0.size H' s 2 eU (editsOf (putB cur (off + k) c) (off / 8) m) → it (s, (k : Int) + 1) H') : qz.j1 (off : Int) t it c s H1 := by
 unfold qz.j1
 have hlen : s.n = m := by
  rcases hO with ⟨rfl, h⟩ | ⟨b, rfl, _, _, _⟩
  ·have := qa3 cur (off / 8) m
   rw [h] at this; simpa using this
  ·simp [qa3]
 rw [hlen, ht, qd (n := (m : Int) - 1) (by omega) (by omega), qd (n := (off : Int) + (k : Int)) (by omega) (by omega)]
 have hidx : ((m : Int) - 1).toNat = m - 1 := by omega
 have hget := qcU (cur := cur) (q := off / 8) (show m - 1 < m from by omega)
 have hq : off / 8 + (m - 1) = (off + k) / 8 := by omega
 rw [hq] at hget
 obtain ⟨b, ha, hb1, hb2, hcell⟩ := hO.cell (fun _ => rfl) hget (j := 1) (by omega)
 refine ⟨⟨by omega, by omega⟩, ?_⟩
 rw [ha, qe, hidx, qk, qk, qk6, hcell]
 have hmod : ((off : Int) + (k : Int)).tmod 8 = (((off + k) % 8 : Nat) : Int) := by rw [ql0 (by omega)]; omega
 rw [hmod]
 show elI .u64 (some (qkL .u64 (cur.getD ((off + k) / 8) 0))) _
 rw [qf, qd (n := (((off + k) % 8 : Nat) : Int) * 8) (by omega) (by omega), qbw (n := (((off + k) % 8 : Nat) : Int) * 8) (by omega) (by omega), Int.mul_comm _ 8, qhd hc (by omega)]
 refine ⟨by omega, by omega, ?_⟩
 obtain ⟨b', ha', _, _, hcan, hO', hsame⟩ := hO.put (y := ((((off + k) / 8 : Nat) : Int), setB (cur.getD ((off + k) / 8) 0) ((off + k) % 8) c)) (fun _ => rfl) hget (j := 1) (by omega) (v := .int .u64 (setB (cur.getD ((off + k) / 8) 0) ((off + k) % 8) c)) rfl
 rw [ha] at ha'
 injection ha' with ha'
 injection ha' with ha'
 subst ha'
 refine ⟨hcan, ?_⟩
 rw [qd (n := (k : Int) + 1) (by omega) (by omega)]
 rw [qfw hm hi hl] at hO'
 exact hit _ (hK.put hb1 _) hO'
theorem qgT {it : Sl × Int → AH → Prop} {H0 H1 : AH} {s : Sl} {ws cur : List Int} {k m : Nat} {c : Int} {t : Sl × Int} (ht : t = (s, (k : Int))) (hw : qk7 H1 x0 1 wU ws) (hcl : cur.length = ws.length) (hcw : cur.getD ((off + k) / 8) 0 = ws.getD ((off + k) / 8) 0)
  (hK : qa H0 H1) (hO : Own H0.size H1 s 2 eU (editsOf cur (off / 8) m)) (hm' : m ≤ 900)
  (hi : (off + k) / 8 = off / 8 + m) (hl : (off + k) / 8 < cur.length) (hc : 0 ≤ c ∧ c ≤ 255) (hoff : off + k ≤ 100000000) (hwl : ws.length ≤ 1000000)
  (hit : ∀ s' H', qa H0 H' → Own H0.size H' s' 2 eU (editsOf (putB cur (off + k) c) (off / 8) (m + 1)) → it (s', (k : Int) + 1) H') : qz.j2 x0 (off : Int) t it H1 c true := by
 subst ht
 unfold qz.j2
 rw [qj]
 simp only
 rw [qd (n := (off : Int) + (k : Int)) (by omega) (by omega), qlk (by omega), qd (n := ((off : Int) + (k : Int)) / 8) (by omega) (by omega), hw.1]
 refine ⟨⟨by omega, by omega⟩, ?_⟩
 have hidx : (((off : Int) + (k : Int)) / 8).toNat = (off + k) / 8 := by omega
 have hlt : (off + k) / 8 < ws.length := by omega
 obtain ⟨b, o, ha, hb, hcell⟩ := qaZ (g := fun v => qkL .u64 v) hw hlt
 rw [ha, qe, hidx, hcell, qf]
 refine ⟨rfl, ?_⟩
 rw [qx]
 have hx : [qkL .i64 (((off : Int) + (k : Int)) / 8), qkL .u64 ws[(off + k) / 8]] = eU ((((off + k) / 8 : Nat) : Int), cur.getD ((off + k) / 8) 0) := by
  rw [hcw]
  simp only [eU, qkP, qkO hlt, qll]
  congr 1
 rw [hx]
 refine qa7 (H0 := H0) (B := H0.size) (f := eU) (x := ((((off + k) / 8 : Nat) : Int), cur.getD ((off + k) / 8) 0)) (l := editsOf cur (off / 8) m) (fun _ => rfl) rfl hO (qkV _) hK.1 hK (by rw [qa3]; simp only [lim]; omega) ?_
 intro s' H' hO' hK' _ _
 have hl' : editsOf cur (off / 8) m ++ [((((off + k) / 8 : Nat) : Int), cur.getD ((off + k) / 8) 0)] = editsOf cur (off / 8) (m + 1) := by
  simp only [editsOf, qlQ, List.map_append, qlN, List.map_nil, hi]
 rw [hl'] at hO'
 exact qgH rfl hK' hO' (by omega) (by omega) (by omega) hl hc hoff (fun H'' hK'' hO'' => hit s' H'' hK'' hO'')
theorem qz.s {ws bs : List Int} {k : Sl → Bool → AH → Prop} {offI : Int} (hw : qk7 H x0 1 wU ws) (h64 : qao ws) (hwl : ws.length ≤ 1000000) (hb : qk7 H x2 1 bU bs) (hbl : bs.length ≤ 1000000000000) (h8 : qcs bs) (ho : -9223372036854775808 ≤ offI ∧ offI ≤ 9223372036854775807)
  (h1 : inside ws.length offI bs.length → ∀ s H', qa H H' → Own H.size H' s 2 eU (editsOf (putBs ws offI.toNat bs) (offI.toNat / 8) (touched offI.toNat bs.length)) → k s true H')
  (h0 : ¬ inside ws.length offI bs.length → k ⟨none, 0, 0⟩ false H) : qz x0 offI x2 H k := by
 refine qz.link ?_
 unfold qz.b
 rw [hb.1]
 rw [hw.1]
 refine qa1.s (by omega) ho (by omega) ?_
 by_cases hin : inside ws.length offI bs.length
 ·rw [show decide (inside ws.length offI bs.length) = true from by simpa using hin, qlb, qc]
  have hin' := hin
  unfold inside at hin
  obtain ⟨off, rfl⟩ := qk9 hin.1
  simp only [qkQ] at h1
  refine qC (t := ((⟨none, 0, 0⟩, (0 : Int)) : Sl × Int)) (H := H) (I := fun (t : Sl × Int) H' => ∃ j : Nat, t.2 = (j : Int) ∧ j ≤ bs.length ∧ qa H H' ∧ Own H.size H' t.1 2 eU (editsOf (putBs ws off (bs.take j)) (off / 8) (touched off j))) (m := fun (t : Sl × Int) _ => qkS ((bs.length : Int) - t.2)) ?_ ?_
  ·intro t H1 hI it hit
   obtain ⟨s, i⟩ := t
   obtain ⟨j, hi, hj, hK, hO⟩ := hI
   simp only at hi hO
   subst hi
   have hR := hw.keep hK
   have hB := hb.keep hK
   unfold qz.l3
   simp only
   rw [hb.1]
   by_cases hlt : j < bs.length
   ·rw [show decide ((j : Int) < (bs.length : Int)) = true from by simpa using hlt, qj]
    obtain ⟨b, o, ha, hbb, hcell⟩ := qaZ (g := fun v => qkL .u8 v) hB hlt
    refine ⟨⟨by omega, by omega⟩, ?_⟩
    rw [ha, qe, qkQ, hcell, qf]
    refine ⟨by decide, by decide, ?_⟩
    have hc := h8 _ (qk1 hlt)
    have hcl : (putBs ws off (bs.take j)).length = ws.length := qcq _ _ _
    have hstep : putB (putBs ws off (bs.take j)) (off + j) bs[j] = putBs ws off (bs.take (j + 1)) := by
     rw [qmd, qkO hlt, qlX, qgb, List.length_take, Nat.min_eq_left (by omega)]
    have hnext : ∀ s' H', qa H H' → Own H.size H' s' 2 eU (editsOf (putB (putBs ws off (bs.take j)) (off + j) bs[j]) (off / 8) (touched off (j + 1))) → it (s', (j : Int) + 1) H' := by
     intro s' H' hK' hO'
     rw [hstep] at hO'
     exact hit _ _ ⟨j + 1, by simp, by omega, hK', hO'⟩ (by simp only; omega)
    rw [own_n hO, qa3]
    have hlw : (off + j) / 8 < (putBs ws off (bs.take j)).length := by rw [hcl]; omega
    by_cases hj0 : j = 0
    ·subst hj0
     rw [show (((touched off 0 : Nat) : Int) == 0) = true from rfl, qj]
     refine qgT (m := 0) (cur := putBs ws off (bs.take 0)) rfl hR hcl rfl hK hO (by omega) (by omega) hlw hc (by omega) hwl ?_
     intro s' H' hK' hO'
     have : touched off (0 + 1) = 0 + 1 := by simp [touched]
     exact hnext s' H' hK' (by rw [this]; exact hO')
    ·have htm : touched off j = (off + j - 1) / 8 - off / 8 + 1 := by simp [touched, hj0]
     have htn : touched off (j + 1) = (off + j) / 8 - off / 8 + 1 := by simp [touched]
     have hle : touched off j ≤ 60 := by omega
     rw [show (((touched off j : Nat) : Int) == 0) = false from by simp; omega, qc, qd (n := ((touched off j : Nat) : Int) - 1) (by omega) (by omega)]
     refine ⟨⟨by omega, by omega⟩, ?_⟩
     have hget := qcU (cur := putBs ws off (bs.take j)) (q := off / 8) (show touched off j - 1 < touched off j from by omega)
     obtain ⟨b', ha', _, _, hcell'⟩ := hO.cell (fun _ => rfl) hget (j := 0) (by omega)
     have hidx : (((touched off j : Nat) : Int) - 1).toNat = touched off j - 1 := by omega
     rw [ha', qe, hidx, qk, qk, qk6, hcell']
     show elI .i64 (some (qkL .i64 ((off / 8 + (touched off j - 1) : Nat) : Int))) _
     rw [qf, qd (n := (off : Int) + (j : Int)) (by omega) (by omega), qlk (by omega), qd (n := ((off : Int) + (j : Int)) / 8) (by omega) (by omega)]
     by_cases hsame : (off + j) / 8 = off / 8 + touched off j - 1
     ·rw [show ((((off / 8 + (touched off j - 1) : Nat) : Int)) != ((off : Int) + (j : Int)) / 8) = false from by simp; omega]
      unfold qz.j2
      rw [qc]
      refine qgH (m := touched off j) (cur := putBs ws off (bs.take j)) rfl hK hO (by omega) (by omega) hsame hlw hc (by omega) ?_
      intro H' hK' hO'
      exact hnext s H' hK' (by rw [show touched off (j + 1) = touched off j from by omega]; exact hO')
     ·rw [show ((((off / 8 + (touched off j - 1) : Nat) : Int)) != ((off : Int) + (j : Int)) / 8) = true from by simp; omega]
      refine qgT (m := touched off j) (cur := putBs ws off (bs.take j)) rfl hR hcl ?_ hK hO (by omega) (by omega) hlw hc (by omega) hwl ?_
      ·exact qen _ _ _ _ (.inl (by rw [List.length_take]; omega)) (by rw [List.length_take]; omega)
      ·intro s' H' hK' hO'
       exact hnext s' H' hK' (by rw [show touched off (j + 1) = touched off j + 1 from by omega]; exact hO')
   ·rw [show decide ((j : Int) < (bs.length : Int)) = false from by simpa using hlt, qc]
    have hjn : j = bs.length := by omega
    subst hjn
    rw [qlH] at hO
    exact h1 hin' _ _ hK hO
  ·exact ⟨0, rfl, by omega, qa.refl H, .inl ⟨rfl, rfl⟩⟩
 ·rw [show decide (inside ws.length offI bs.length) = false from by simpa using hin, qlj, qj]
  exact h0 hin
end
def mFrom (l : List Bk) (i : Nat) : Nat := if 0 < i ∧ (bkAt l (i - 1)).2.2 = false then i - 1 else i
def mTo (l : List Bk) (i : Nat) : Nat := if i + 1 < l.length ∧ (bkAt l (i + 1)).2.2 = false then i + 2 else i + 1
def sumTo (l : List Bk) (a : Nat) : Nat → Int
 | 0 => 0
 | j + 1 => sumTo l a j + (bkAt l (a + j)).2.1
def mergedN (l : List Bk) (i : Nat) : List Bk := l.take (mFrom l i) ++ [((bkAt l (mFrom l i)).1, sumTo l (mFrom l i) (mTo l i - mFrom l i), false)] ++ l.drop (mTo l i)
theorem qiv {l : List Bk} {i : Nat} (hi : i < l.length) : (mergedN l i)[mFrom l i]? = some ((bkAt l (mFrom l i)).1, sumTo l (mFrom l i) (mTo l i - mFrom l i), false) := by
 have hf : mFrom l i ≤ i := by unfold mFrom; split <;> omega
 unfold mergedN
 rw [ql8, qld (by simp; omega)]
 simp
 rw [Nat.min_eq_left (by omega), Nat.sub_self]
 rfl
theorem qcj {α : Type} {B B' : Nat} {H : AH} {s : Sl} {z : Nat} {f : α → List Value} {l : List α} (h : Own B H s z f l) (hb : B' ≤ B) : Own B' H s z f l :=
 h.imp id fun ⟨b, e, h1, h2, h3⟩ => ⟨b, e, Nat.le_trans hb h1, h2, h3⟩
section
variable {H : AH}
theorem ql.s0 {x0 : Sl} {words : Int} {l : List Bk} {k : Sl → Int → Bool → AH → Prop} (hr : qk7 H x0 3 bkV l) (hB : MayB l words) (h : k ⟨none, 0, 0⟩ 0 false H) : ql x0 (-1) H k := by
 have hlen := hB.len
 refine ql.link ?_
 unfold ql.b
 refine qP.s hr hB ?_
 refine qp.s hr (by omega) (fun b hb => by have := hB.mem hb; omega) (by have := hB.1; unfold mayW at this; omega) ?_
 rw [decide_eq_true hB, qlb, qc, decide_eq_true (show (-1 : Int) < 0 by omega), qj]
 unfold ql.j7
 rw [qj]
 exact h
theorem ql.s {x0 : Sl} {words : Int} {l : List Bk} {i : Nat} {k : Sl → Int → Bool → AH → Prop} (hr : qk7 H x0 3 bkV l) (hB : MayB l words) (hi : i < l.length) (hu : (bkAt l i).2.2 = true)
  (h : ∀ s H', qa H H' → Own H.size H' s 3 bkV (mergedN l i) → k s (mFrom l i : Nat) true H') : ql x0 (i : Int) H k := by
 have hlen := hB.len
 have hgi := qad hi
 refine ql.link ?_
 unfold ql.b
 refine qP.s hr hB ?_
 refine qp.s hr (by omega) (fun b hb => by have := hB.mem hb; omega) (by have := hB.1; unfold mayW at this; omega) ?_
 rw [decide_eq_true hB, qlb, qc]
 obtain ⟨b, o, ha, hb, hcells⟩ := qaz hr (by omega)
 have hcell : ∀ j, j < l.length → ∀ t v, (bkV (bkAt l j))[t]? = some v → AH.cell? H (qkN (qkN ⟨b, o, none⟩ (j * 3)) t) = some v := fun j hj => (hcells j _ (qad hj)).2
 have hti : qkS (i : Int) = i := qkQ i
 have hsz : ∀ j, j < l.length → 0 ≤ (bkAt l j).2.1 ∧ (bkAt l j).2.1 ≤ 512 := fun j hj => by have := hB.mem (qkY (qad hj)); omega
 simp only [qg, decide_eq_true_eq, hr.1, ha, qe, hti, hcell i hi 2 _ rfl, qaK]
 rw [if_neg (by omega), if_neg (by omega)]
 refine ⟨by omega, ?_⟩
 rw [hu]
 unfold ql.j7
 rw [qlb, qc]
 have hw1 : qkM .i64 ((i : Int) + 1) = ((i + 1 : Nat) : Int) := by rw [qd (by omega) (by omega)]; omega
 have hw2 : qkM .i64 (((i + 1 : Nat) : Int) + 1) = ((i + 2 : Nat) : Int) := by rw [qd (by omega) (by omega)]; omega
 -- from the places on
 have j3 : ∀ F T : Nat, F < T → T ≤ l.length → T - F ≤ 3 → (∀ s H', qa H H' → Own H.size H' s 3 bkV (l.take F ++ [((bkAt l F).1, sumTo l F (T - F), false)] ++ l.drop T) → k s (F : Int) true H') → ql.j3 x0 k H (F : Int) (T : Int) := by
  intro F T hFT hT h3 hk
  unfold ql.j3
  rw [hr.1]
  refine ⟨by omega, ?_⟩
  have hsum : ∀ j, j ≤ T - F → 0 ≤ sumTo l F j ∧ sumTo l F j ≤ 512 * j := by
   intro j
   induction j with
   | zero => intro _; simp [sumTo]
   | succ j ih =>
    intro hj
    have h1 := ih (by omega)
    have h2 := hsz (F + j) (by omega)
    simp only [sumTo]; omega
  refine qC (t := (((0 : Int), (0 : Int)) : Int × Int)) (I := fun (t : Int × Int) H' => ∃ j : Nat, t.2 = (j : Int) ∧ j ≤ T - F ∧ qa H H' ∧ t.1 = sumTo l F j) (m := fun (t : Int × Int) _ => qkS (((T - F : Nat) : Int) - t.2)) ?_ ⟨0, rfl, by omega, qa.refl H, rfl⟩
  intro t H1 hI it hit
  obtain ⟨t1, t2⟩ := t
  obtain ⟨j, e1, hj, hkk, e2⟩ := hI
  simp only at e1 e2
  subst e1 e2
  unfold ql.l2
  simp only [qg, decide_eq_true_eq, qkQ, ha, qle, qe]
  by_cases hlt : (j : Int) < ((T - F : Nat) : Int)
  ·rw [if_pos hlt]
   refine ⟨by omega, ?_⟩
   have hFj : F + j < l.length := by omega
   have hrow : AH.row? H1 (qkN (qkN ⟨b, o, none⟩ (F * 3)) (j * 3)) 3 = some (bkV (bkAt l (F + j))) := by
    have := (hcells (F + j) _ (qad hFj)).1
    rw [qk] at this
    rw [qk, qk, show o + F * 3 + j * 3 = o + (F + j) * 3 by omega, ← this]
    simp only [AH.row?, hkk.2 b hb]
   rw [qu hrow]
   have hq := hsz _ hFj
   have hs1 := hsum j hj
   have hsS : sumTo l F (j + 1) = sumTo l F j + (bkAt l (F + j)).2.1 := rfl
   generalize bkAt l (F + j) = q at *
   refine qbu (n := 3) rfl (bkV_len q) (bkV_ok q) ?_
   have hBk : BkAt (H1.push ⟨bkV q, .rw, 0⟩) H1.size q := BkAt.new
   have hk2 : qa H (H1.push ⟨bkV q, .rw, 0⟩) := hkk.push _
   generalize H1.push ⟨bkV q, .rw, 0⟩ = H2 at *
   rw [hBk.c1, qf, qd (n := sumTo l F j + q.2.1) (by omega) (by omega), qd (n := (j : Int) + 1) (by omega) (by omega)]
   exact hit _ _ ⟨j + 1, by simp, by omega, hk2, hsS.symm⟩ (by simp only; omega)
  ·rw [if_neg hlt]
   have : j = T - F := by omega
   subst this
   have hFl : F < l.length := by omega
   unfold ql.j1
   simp only [hr.1, ha, qe, qle, qkQ]
   refine ⟨by omega, by omega, ?_⟩
   have c0 := qbS hkk hb _ (hcell F hFl 0 _ rfl)
   rw [c0, qf]
   refine ⟨rfl, ?_⟩
   generalize hqF : bkAt l F = qF at *
   generalize sumTo l F (T - F) = sm at *
   rw [qx]
   have e1 : [qkL .i64 qF.1, qkL .i64 sm, qln false] = bkV (qF.1, sm, false) := rfl
   rw [e1]
   have hk1 : qa H (H1.push ⟨bkV (qF.1, sm, false), .rw, 3⟩) := hkk.push _
   have g1 : (H1.push ⟨bkV (qF.1, sm, false), .rw, 3⟩).get H1.size = ⟨bkV (qF.1, sm, false), .rw, 3⟩ := by rw [qr, if_pos rfl]
   have s1 : H1.size < (H1.push ⟨bkV (qF.1, sm, false), .rw, 3⟩).size := by simp [qm]
   generalize H1.push ⟨bkV (qF.1, sm, false), .rw, 3⟩ = H2 at *
   have rt := qdt (hr.keep hk1) (k := F) (by omega)
   rw [ha] at rt
   refine qbR (H0 := H2) (B := H2.size) (l := []) bkV_len bkV_ok (.inl ⟨rfl, rfl⟩) rt (qkV _) (qkV _) (qa.refl H2) (by simp [lim]; omega) ?_
   intro s83 H83 hO83 hk83 _ _
   refine ⟨qbS (hk1.trans hk83) hb _ (hqF ▸ hcell F hFl 0 _ rfl), ?_⟩
   have r60 : qk7 H83 ⟨some ⟨H1.size, 0, none⟩, 1, 1⟩ 3 bkV [(qF.1, sm, false)] := qfH bkV_len bkV_ok (by have := hk83.1; omega) (by rw [hk83.2 _ s1, g1])
   refine qbR (H0 := H2) (B := H2.size) bkV_len bkV_ok hO83 r60 (qkV _) hk83.1 hk83 (by simp [lim]; omega) ?_
   intro s92 H92 hO92 hk92 _ _
   refine ⟨by omega, ?_⟩
   have rd := qdm (hr.keep (hk1.trans hk92)) (k := T) hT
   rw [hr.1, ha, qle] at rd
   refine qbR (H0 := H2) (B := H2.size) bkV_len bkV_ok hO92 rd (qkV _) hk92.1 hk92 (by simp [lim]; omega) ?_
   intro s97 H97 hO97 hk97 _ _
   rw [qlx] at hO97
   refine hk _ _ (hk1.trans hk97) (qcj hO97 (by have := hk1.1; omega))
 have hF : mFrom l i ≤ i := by unfold mFrom; split <;> omega
 have hF2 : i ≤ mFrom l i + 1 := by unfold mFrom; split <;> omega
 have hT : i < mTo l i ∧ mTo l i ≤ i + 2 ∧ mTo l i ≤ l.length := by unfold mTo; split <;> omega
 have fin := j3 (mFrom l i) (mTo l i) (by omega) hT.2.2 (by omega) h
 have j5 : ql.j5 x0 (i : Int) k H (mFrom l i : Nat) := by
  unfold ql.j5
  simp only [qg, decide_eq_true_eq, hr.1, ha, qe, hw1, qkQ]
  have j4 : ∀ x : Bool, (x = true ↔ (i + 1 < l.length ∧ (bkAt l (i + 1)).2.2 = false)) → ql.j4 x0 (i : Int) k H (mFrom l i : Nat) x := by
   intro x hx
   unfold ql.j4
   rw [hw1, hw2, qg]
   unfold mTo at fin
   by_cases hx' : x = true
   ·rw [if_pos hx']; rw [if_pos (hx.1 hx')] at fin; exact fin
   ·rw [if_neg hx']; rw [if_neg (fun hh => hx' (hx.2 hh))] at fin; exact fin
  by_cases hc : ((i + 1 : Nat) : Int) < (l.length : Int)
  ·rw [if_pos hc]
   refine ⟨by omega, ?_⟩
   rw [hcell (i + 1) (by omega) 2 _ rfl, qaK]
   refine j4 _ ?_
   simp
   omega
  ·rw [if_neg hc]
   exact j4 false ⟨fun hh => (by cases hh), fun hh => by omega⟩
 have j6 : ∀ x : Bool, (x = true ↔ (0 < i ∧ (bkAt l (i - 1)).2.2 = false)) → ql.j6 x0 (i : Int) k H x := by
  intro x hx
  unfold ql.j6
  rw [qg]
  unfold mFrom at j5
  by_cases hx' : x = true
  ·rw [if_pos hx']
   have := hx.1 hx'
   rw [if_pos this] at j5
   rw [qd (n := (i : Int) - 1) (by omega) (by omega), show (i : Int) - 1 = ((i - 1 : Nat) : Int) by omega]
   exact j5
  ·rw [if_neg hx']
   rw [if_neg (fun hh => hx' (hx.2 hh))] at j5
   exact j5
 simp only [qg, decide_eq_true_eq, hr.1, ha, qe]
 by_cases hc : (i : Int) > 0
 ·rw [if_pos hc, qd (n := (i : Int) - 1) (by omega) (by omega), show (i : Int) - 1 = ((i - 1 : Nat) : Int) by omega, qkQ]
  refine ⟨by omega, ?_⟩
  rw [hcell (i - 1) (by omega) 2 _ rfl, qaK]
  refine j6 _ ?_
  simp
  omega
 ·rw [if_neg hc]
  exact j6 false ⟨fun hh => (by cases hh), fun hh => by omega⟩
end
theorem qj2 {α : Type} {H : AH} {z : Nat} {f : α → List Value} : qk7 H ⟨none, 0, 0⟩ z f [] := ⟨rfl, fun i x h => by simp at h⟩
instance {off n : Int} {b : Bk} : Decidable (inB off n b) := by unfold inB; infer_instance
instance {l : List Bk} {off n : Int} : Decidable (withinN l off n) := by unfold withinN; infer_instance
def imgAlloc (ws : List Int) (n : Int) (cs : List Int) : List (Int × Int) × Int × Int :=
 if needN n = 0 then ([], 0, 1) else
 match blocksN ws with
 | none => ([], 0, 6)
 | some l => if chooseN l (needN n) cs < 0 then ([], 0, 4) else (carveE (bkAt l (chooseN l (needN n) cs).toNat) (needN n), offN (bkAt l (chooseN l (needN n) cs).toNat).1, 0)
def imgFree (ws : List Int) (off : Int) : List (Int × Int) × Int :=
 match blocksN ws with
 | none => ([], 6)
 | some l => if isN off l 0 < 0 then ([], 1) else
  ([((bkAt l (mFrom l (isN off l 0).toNat)).1, wordN (sumTo l (mFrom l (isN off l 0).toNat) (mTo l (isN off l 0).toNat - mFrom l (isN off l 0).toNat)) false)], 0)
def imgWrite (ws : List Int) (off : Int) (bs : List Int) : List (Int × Int) × Int :=
 match blocksN ws with
 | none => ([], 6)
 | some l => if withinN l off bs.length then (editsOf (putBs ws off.toNat bs) (off.toNat / 8) (touched off.toNat bs.length), 0) else ([], 1)
theorem qcA {ws : List Int} {l : List Bk} {off n : Int} (hB : MayB l ws.length) (h : withinN l off n) : inside ws.length off n := by
 obtain ⟨h1, h2, b, hb, hi⟩ := h
 have hm := hB.mem hb
 have hl := hB.len
 obtain ⟨_, h3, h4, h5⟩ := hi
 have : offN b.1 = (b.1 + 1) * 8 := by unfold offN; rw [if_pos (by omega)]
 unfold inside
 omega
section
variable {H : AH}
theorem qak.s {x0 x2 : Sl} {n : Int} {ws cs : List Int} {k : Sl → Int → Int → AH → Prop} (hr : qk7 H x0 1 wU ws) (h64 : qao ws) (hl : ws.length ≤ 1000) (hn : isI n) (hcs : qk7 H x2 1 iV cs)
  (h : ∀ s H', qa H H' → Own H.size H' s 2 eU (imgAlloc ws n cs).1 → k s (imgAlloc ws n cs).2.1 (imgAlloc ws n cs).2.2 H') : qak x0 n x2 H k := by
 refine qak.link ?_
 unfold qak.b
 unfold imgAlloc at h
 refine qae.s hn ?_
 rw [qg]
 by_cases h0 : needN n = 0
 ·rw [if_pos (by simpa using h0)]
  rw [if_pos h0] at h
  exact h _ _ (qa.refl H) (.inl ⟨rfl, rfl⟩)
 rw [if_neg (by simpa using h0)]
 rw [if_neg h0] at h
 refine qK.s hr h64 hl ?_ ?_
 rotate_left 1
 ·intro hb H' hk
  rw [hb] at h
  rw [qlj, qj]
  exact h _ _ hk (.inl ⟨rfl, rfl⟩)
 intro l hb s17 H17 hk17 hO17
 rw [hb] at h
 rw [qlb, qc]
 simp only at h
 have hB := qa2 hb
 have hlen := hB.len
 have hR := hO17.rows bkV_len bkV_ok
 refine qae.s hn ?_
 refine qL.s hR (by omega) (fun b hb => by have := hB.mem hb; omega) (hcs.keep hk17) ?_
 simp only [qg, decide_eq_true_eq]
 rcases qdH (l := l) (need := needN n) (cs := cs) with hc | ⟨i, hc, hi, hu, hn1, hn2⟩
 ·rw [if_pos (by omega)]
  rw [if_pos (by omega)] at h
  exact h _ _ hk17 (.inl ⟨rfl, rfl⟩)
 rw [if_neg (by omega)]
 rw [if_neg (by omega)] at h
 rw [hc, qkQ] at h ⊢
 rw [hR.1]
 refine ⟨by omega, ?_⟩
 obtain ⟨b, o, ha, hbz, hcells⟩ := qaz hR (by omega)
 have hrow := (hcells i _ (qad hi)).1
 rw [ha, qe, qu hrow]
 refine qae.s hn ⟨hrow, ?_⟩
 refine qJ.s hR hB hi hu ⟨hn2, hn1⟩ ?_
 intro s33 H33 hk33 hO33
 refine ⟨?_, ?_⟩
 ·rw [qk] at hrow ⊢
  rw [← hrow]
  simp only [AH.row?, hk33.2 b hbz]
 refine qal.s ?_
 exact h _ _ (hk17.trans hk33) (qcj hO33 hk17.1)
theorem qap.s {x0 : Sl} {off : Int} {ws : List Int} {k : Sl → Int → AH → Prop} (hr : qk7 H x0 1 wU ws) (h64 : qao ws) (hl : ws.length ≤ 1000)
  (h : ∀ s H', qa H H' → Own H.size H' s 2 eU (imgFree ws off).1 → k s (imgFree ws off).2 H') : qap x0 off H k := by
 refine qap.link ?_
 unfold qap.b
 unfold imgFree at h
 refine qK.s hr h64 hl ?_ ?_
 rotate_left 1
 ·intro hb H' hk
  rw [hb] at h
  rw [qlj, qj]
  exact h _ _ hk (.inl ⟨rfl, rfl⟩)
 intro l hb s12 H12 hk12 hO12
 rw [hb] at h
 rw [qlb, qc]
 simp only at h
 have hB := qa2 hb
 have hlen := hB.len
 have hR := hO12.rows bkV_len bkV_ok
 refine qaN.s hR (by omega) ?_
 rcases qdi off l 0 with hc | ⟨i, hc, hi, hu, ho⟩
 ·rw [hc]
  rw [hc, if_pos (by omega)] at h
  refine ql.s0 hR hB ?_
  rw [qlj, qj]
  exact h _ _ hk12 (.inl ⟨rfl, rfl⟩)
 rw [qk6] at hc
 rw [hc]
 rw [hc, if_neg (by omega), qkQ] at h
 refine ql.s hR hB hi hu ?_
 intro s22 H22 hk22 hO22
 have hg := qiv hi
 rw [qlb, qc]
 have hR22 := hO22.rows bkV_len bkV_ok
 have hlt := (List.getElem?_eq_some_iff.1 hg).1
 obtain ⟨b, o, ha, hbz, hcells⟩ := qaz hR22 (by omega)
 have c0 := (hcells _ _ hg).2 0 _ rfl
 have c1 := (hcells _ _ hg).2 1 _ rfl
 simp only at c0 c1
 rw [hR22.1]
 generalize mFrom l i = F at *
 generalize hsm : sumTo l F (mTo l i - F) = sm at *
 refine ⟨by omega, ?_⟩
 rw [ha, qe, qkQ, c0, qf]
 refine ⟨by omega, ?_⟩
 rw [qe, c1, qf]
 refine qaF.s ⟨c0, rfl, ?_⟩
 rw [qx]
 have hk := hk12.trans hk22
 exact h _ _ (hk.push _) (.inr ⟨H22.size, rfl, hk.1, by simp [qm], by rw [qr, if_pos rfl]; rfl⟩)
theorem qaC.s {x0 x2 : Sl} {off : Int} {ws bs : List Int} {k : Sl → Int → AH → Prop} (hr : qk7 H x0 1 wU ws) (h64 : qao ws) (hl : ws.length ≤ 1000) (hoff : isI off) (hb : qk7 H x2 1 bU bs) (h8 : qcs bs) (hbl : bs.length ≤ 1000000000000)
  (h : ∀ s H', qa H H' → Own H.size H' s 2 eU (imgWrite ws off bs).1 → k s (imgWrite ws off bs).2 H') : qaC x0 off x2 H k := by
 refine qaC.link ?_
 unfold qaC.b
 unfold imgWrite at h
 refine qK.s hr h64 hl ?_ ?_
 rotate_left 1
 ·intro hb' H' hk
  rw [hb'] at h
  rw [qlj, qj]
  exact h _ _ hk (.inl ⟨rfl, rfl⟩)
 intro l hbk s14 H14 hk14 hO14
 rw [hbk] at h
 rw [qlb, qc]
 simp only at h
 have hB := qa2 hbk
 have hlen := hB.len
 have hR := hO14.rows bkV_len bkV_ok
 rw [hb.1]
 refine qR.s hR (by omega) (fun b hb => by have := hB.mem hb; omega) ?_ ?_
 ·intro hw
  rw [qlb, qc]
  rw [if_pos hw] at h
  have hin := qcA hB hw
  refine qz.s (hr.keep hk14) h64 (by omega) (hb.keep hk14) hbl h8 hoff ?_ (fun hn => absurd hin hn)
  intro _ s29 H29 hk29 hO29
  exact h _ _ (hk14.trans hk29) (qcj hO29 hk14.1)
 ·intro hw
  rw [qlj, qj]
  rw [if_neg hw] at h
  exact h _ _ hk14 (.inl ⟨rfl, rfl⟩)
def firstN (n : Int) : List Int := if mayW n then wordN n false :: qkR (n.toNat - 1) 0 else []
theorem wordN_u (n : Int) (u : Bool) : isU (wordN n u) := by
 unfold wordN isU
 split
 ·rename_i h; unfold mayS at h; split <;> omega
 ·omega
theorem qd8 (n : Int) : qao (firstN n) := by
 intro v hv
 unfold firstN at hv
 split at hv
 ·rw [qk8] at hv
  rcases hv with rfl | hv
  ·exact wordN_u _ _
  ·rw [List.eq_of_mem_replicate hv]; omega
 ·cases hv
end
def insS (n : Int) : List Int → List Int
 | [] => [n]
 | a :: r => if a < n then a :: insS n r else if a = n then a :: r else n :: a :: r
def posN (n : Int) : List Int → Nat
 | [] => 0
 | a :: r => if a < n then posN n r + 1 else 0
def eStep (out : List Int) (e : Int × Int) : List Int := if e.1 < 0 then out else insS (e.1 / 8) out
def eLines (l : List (Int × Int)) : List Int := l.foldl eStep []
theorem posN_le (n : Int) : ∀ l : List Int, posN n l ≤ l.length := by
 intro l
 induction l with
 | nil => exact qkV _
 | cons a r ih => simp only [posN, qk3]; split <;> omega
theorem insS_eq (n : Int) : ∀ out : List Int, insS n out = if posN n out = out.length ∨ out.getD (posN n out) 0 ≠ n then out.take (posN n out) ++ [n] ++ out.drop (posN n out) else out := by
 intro out
 induction out with
 | nil => simp [insS, posN]
 | cons a r ih =>
  by_cases h1 : a < n
  ·have e : posN n (a :: r) = posN n r + 1 := by simp only [posN]; rw [if_pos h1]
   have e2 : insS n (a :: r) = a :: insS n r := by simp only [insS]; rw [if_pos h1]
   simp only [e, e2, ih, qk3, List.getD_cons_succ, List.take_succ_cons, List.drop_succ_cons, Nat.add_right_cancel_iff]
   split <;> rfl
  ·have e : posN n (a :: r) = 0 := by simp only [posN]; rw [if_neg h1]
   have e2 : insS n (a :: r) = if a = n then a :: r else n :: a :: r := by simp only [insS]; rw [if_neg h1]
   simp only [e, e2]
   by_cases h2 : a = n
   ·subst h2; rw [if_pos rfl, if_neg (by simp)]
   ·rw [if_neg h2, if_pos (.inr (by simpa using h2))]; rfl
theorem qfD (n : Int) : ∀ out : List Int, ∀ x, x ∈ insS n out ↔ x = n ∨ x ∈ out := by
 intro out
 induction out with
 | nil => intro x; simp [insS]
 | cons a r ih =>
  intro x
  simp only [insS]
  split
  ·rw [qk8, ih, qk8]
   constructor
   ·rintro (h | h | h)
    ·exact .inr (.inl h)
    ·exact .inl h
    ·exact .inr (.inr h)
   ·rintro (h | h | h)
    ·exact .inr (.inl h)
    ·exact .inl h
    ·exact .inr (.inr h)
  ·split
   ·rename_i h2; subst h2; simp
   ·simp
theorem qiq (n : Int) : ∀ out : List Int, out.Pairwise (· < ·) → (insS n out).Pairwise (· < ·) := by
 intro out
 induction out with
 | nil => intro _; simp [insS]
 | cons a r ih =>
  intro h
  rw [List.pairwise_cons] at h
  simp only [insS]
  split
  ·rename_i h1
   rw [List.pairwise_cons]
   refine ⟨fun x hx => ?_, ih h.2⟩
   rw [qfD] at hx
   rcases hx with rfl | hx
   ·exact h1
   ·exact h.1 x hx
  ·rename_i h1
   split
   ·rw [List.pairwise_cons]; exact h
   ·rename_i h2
    rw [List.pairwise_cons, List.pairwise_cons]
    refine ⟨fun x hx => ?_, h⟩
    rw [qk8] at hx
    rcases hx with rfl | hx
    ·omega
    ·have := h.1 x hx; omega
theorem qkb (n : Int) (out : List Int) : (insS n out).length ≤ out.length + 1 := by
 rw [insS_eq]
 have := posN_le n out
 split
 ·simp; omega
 ·omega
theorem eFold (l : List (Int × Int)) : ∀ out : List Int, out.Pairwise (· < ·) → (l.foldl eStep out).Pairwise (· < ·) ∧ (∀ x, x ∈ l.foldl eStep out → x ∈ out ∨ ∃ e ∈ l, 0 ≤ e.1 ∧ x = e.1 / 8) ∧ (l.foldl eStep out).length ≤ out.length + l.length := by
 induction l with
 | nil => intro out h; exact ⟨h, fun x hx => .inl hx, by simp⟩
 | cons e r ih =>
  intro out h
  simp only [List.foldl_cons]
  have hs : (eStep out e).Pairwise (· < ·) := by
   unfold eStep; split
   ·exact h
   ·exact qiq _ _ h
  obtain ⟨h1, h2, h3⟩ := ih _ hs
  refine ⟨h1, fun x hx => ?_, ?_⟩
  ·rcases h2 x hx with h | ⟨e', he', h⟩
   ·unfold eStep at h
    split at h
    ·exact .inl h
    ·rename_i hn
     rw [qfD] at h
     rcases h with h | h
     ·exact .inr ⟨e, by simp, by omega, h⟩
     ·exact .inl h
   ·exact .inr ⟨e', by simp [he'], h⟩
  ·have : (eStep out e).length ≤ out.length + 1 := by
    unfold eStep; split
    ·omega
    ·exact qkb _ _
   simp only [qk3]; omega
theorem qiO {hi : Int} : ∀ {l : List Int} {lo : Int}, l.Pairwise (· < ·) → (∀ x ∈ l, lo ≤ x ∧ x ≤ hi) → lo ≤ hi + 1 → (l.length : Int) ≤ hi - lo + 1 := by
 intro l
 induction l with
 | nil => intro lo _ _ h; simp; omega
 | cons a r ih =>
  intro lo hs hb h
  rw [List.pairwise_cons] at hs
  have ha := hb a (by simp)
  have := ih (lo := a + 1) hs.2 (fun x hx => ⟨by have := hs.1 x hx; omega, (hb x (by simp [hx])).2⟩) (by omega)
  simp only [qk3]; omega
theorem qdu {l : List (Int × Int)} {lo hi : Int} (h : ∀ e ∈ l, lo ≤ e.1 ∧ e.1 ≤ hi) (hlh : lo ≤ hi) : ((eLines l).length : Int) ≤ hi / 8 - lo / 8 + 1 := by
 obtain ⟨h1, h2, _⟩ := eFold l [] List.Pairwise.nil
 refine qiO h1 (fun x hx => ?_) (by omega)
 rcases h2 x hx with hx | ⟨e, he, _, rfl⟩
 ·cases hx
 ·have := h e he; omega
section
variable {H : AH}
theorem qo.s {x0 : Sl} {l : List (Int × Int)} {k : Sl → AH → Prop} (hr : qk7 H x0 2 eU l) (hl : l.length ≤ 1000000) (hi : ∀ e ∈ l, isI e.1)
  (h : ∀ s H', qa H H' → Own H.size H' s 1 iV (eLines l) → k s H') : qo x0 H k := by
 refine qo.link ?_
 unfold qo.b
 refine qC (t := ((⟨none, 0, 0⟩, (0 : Int)) : Sl × Int)) (I := fun (t : Sl × Int) H' => ∃ j : Nat, t.2 = (j : Int) ∧ j ≤ l.length ∧ qa H H' ∧ Own H.size H' t.1 1 iV (eLines (l.take j))) (m := fun (t : Sl × Int) _ => qkS ((l.length : Int) - t.2)) ?_ ⟨0, rfl, by omega, qa.refl H, .inl ⟨rfl, rfl⟩⟩
 intro t H1 hI it hit
 obtain ⟨s, t2⟩ := t
 obtain ⟨j, e1, hj, hk, hO⟩ := hI
 simp only at e1 hO
 subst e1
 unfold qo.l5
 simp only [qg, decide_eq_true_eq, hr.1]
 by_cases hlt : (j : Int) < (l.length : Int)
 ·rw [if_pos hlt]
  have hj' : j < l.length := by omega
  obtain ⟨b, o, ha, hb, hrow⟩ := (hr.keep hk).at hj'
  refine ⟨by omega, ?_⟩
  rw [ha, qe, qkQ, qu hrow]
  have htk : eLines (l.take (j + 1)) = eStep (eLines (l.take j)) l[j] := by
   unfold eLines
   rw [qmd, qkO hj', qlX, List.foldl_append]; rfl
  have hlen : (eLines (l.take j)).length ≤ j := by
   have := (eFold (l.take j) [] List.Pairwise.nil).2.2
   simp at this
   unfold eLines; omega
  have hxi := hi _ (qk1 hj')
  unfold isI at hxi
  generalize eLines (l.take j) = out at *
  generalize l[j] = x at *
  have hwj : qkM .i64 ((j : Int) + 1) = ((j + 1 : Nat) : Int) := by rw [qd (by omega) (by omega)]; omega
  refine qbu (n := 2) rfl (eU_len x) (eU_ok x) ?_
  simp only [ed_0, qf]
  have hk2 : qa H (H1.push ⟨eU x, .rw, 0⟩) := hk.push _
  have hO2 : Own H.size (H1.push ⟨eU x, .rw, 0⟩) s 1 iV out := hO.keep (by simp [qm]) (fun b _ hb => qT (by omega))
  generalize H1.push ⟨eU x, .rw, 0⟩ = H2 at *
  have next : ∀ s' H', qa H H' → Own H.size H' s' 1 iV (eStep out x) → it (s', qkM .i64 ((j : Int) + 1)) H' := by
   intro s' H' hk' hO'
   rw [← htk] at hO'
   rw [hwj]
   exact hit _ _ ⟨j + 1, rfl, by omega, hk', hO'⟩ (by simp only; omega)
  unfold eStep at next
  by_cases hneg : x.1 < 0
  ·rw [if_pos hneg]
   rw [if_pos hneg] at next
   exact next _ _ hk2 hO2
  rw [if_neg hneg]
  rw [if_neg hneg] at next
  refine ⟨by decide, ?_⟩
  have hdiv : qkM .i64 (Int.tdiv x.1 8) = x.1 / 8 := by rw [qlk (by omega), qd (by omega) (by omega)]
  rw [insS_eq] at next
  have hsn := own_n hO2
  have hposle := posN_le (x.1 / 8) out
  have hcell : ∀ i (hi : i < out.length), ∃ b, s.a = some ⟨b, 0, none⟩ ∧ AH.cell? H2 (qkN ⟨b, 0, none⟩ (i * 1)) = some (.int .i64 (out.getD i 0)) := by
   intro i hi'
   have hg : out[i]? = some (out.getD i 0) := by rw [qkP, qkO hi']; rfl
   obtain ⟨b, ha, _, _, hc⟩ := hO2.cell (fun _ => rfl) hg (j := 0) (by omega)
   exact ⟨b, ha, by rw [qk, qk6]; exact hc⟩
  refine qC (t := (0 : Int)) (I := fun (t : Int) H' => ∃ i : Nat, t = (i : Int) ∧ i ≤ out.length ∧ H' = H2 ∧ posN (x.1 / 8) out = i + posN (x.1 / 8) (out.drop i)) (m := fun (t : Int) _ => qkS ((out.length : Int) - t)) ?_ ⟨0, rfl, by omega, rfl, by simp⟩
  intro t H' hI it2 hit2
  obtain ⟨i, rfl, hi1, rfl, hp⟩ := hI
  have hwi : qkM .i64 ((i : Int) + 1) = ((i + 1 : Nat) : Int) := by rw [qd (by omega) (by omega)]; omega
  have j2 : i = posN (x.1 / 8) out → qo.j2 (s, (j : Int)) it x.1 (i : Int) H' := by
   intro hip
   have j1 : ∀ v : Bool, (v = true ↔ (i = out.length ∨ out.getD i 0 ≠ x.1 / 8)) → qo.j1 (s, (j : Int)) it x.1 (i : Int) H' v := by
    intro v hv
    unfold qo.j1
    simp only [hdiv, hsn, qkQ]
    rw [← hip] at next
    by_cases hv' : v = true
    ·rw [if_pos (hv.1 hv')] at next
     rw [hv', qj]
     refine ⟨by omega, ?_⟩
     rw [qx]
     have e1 : [qkL .i64 (x.1 / 8)] = iV (x.1 / 8) := rfl
     rw [e1]
     have hk3 : qa H (H'.push ⟨iV (x.1 / 8), .rw, 1⟩) := hk2.push _
     have hR := (hO2.rows (fun _ => rfl) (fun _ => rfl)).keep ((qa.refl H').push ⟨iV (x.1 / 8), .rw, 1⟩)
     have g1 : (H'.push ⟨iV (x.1 / 8), .rw, 1⟩).get H'.size = ⟨iV (x.1 / 8), .rw, 1⟩ := by rw [qr, if_pos rfl]
     have s1 : H'.size < (H'.push ⟨iV (x.1 / 8), .rw, 1⟩).size := by simp [qm]
     generalize H'.push ⟨iV (x.1 / 8), .rw, 1⟩ = H3 at *
     refine ⟨by omega, ?_⟩
     refine qbR (H0 := H3) (B := H3.size) (l := []) (f := iV) (fun _ => rfl) (fun _ => rfl) (.inl ⟨rfl, rfl⟩) (qdt hR hi1) (qkV _) (qkV _) (qa.refl H3) (by simp [lim]; omega) ?_
     intro s49 H49 hO49 hk49 _ _
     have r51 : qk7 H49 ⟨some ⟨H'.size, 0, none⟩, 1, 1⟩ 1 iV [x.1 / 8] := qfH (fun _ => rfl) (fun _ => rfl) (by have := hk49.1; omega) (by rw [hk49.2 _ s1, g1])
     refine qbR (H0 := H3) (B := H3.size) (f := iV) (fun _ => rfl) (fun _ => rfl) hO49 r51 (qkV _) hk49.1 hk49 (by simp [lim]; omega) ?_
     intro s52 H52 hO52 hk52 _ _
     have rd := qdm (hR.keep hk52) (k := i) hi1
     rw [hsn] at rd
     refine qbR (H0 := H3) (B := H3.size) (f := iV) (fun _ => rfl) (fun _ => rfl) hO52 rd (qkV _) hk52.1 hk52 (by simp [lim]; omega) ?_
     intro s56 H56 hO56 hk56 _ _
     rw [qlx] at hO56
     exact next _ _ (hk3.trans hk56) (qcj hO56 hk3.1)
    ·rw [if_neg (fun hh => hv' (hv.2 hh))] at next
     have : v = false := by simpa using hv'
     rw [this, qc]
     exact next _ _ hk2 hO2
   unfold qo.j2
   simp only [qg, hsn, hdiv]
   by_cases hil : i = out.length
   ·rw [if_pos (by simp; omega)]
    exact j1 true ⟨fun _ => .inl hil, fun _ => rfl⟩
   ·rw [if_neg (by simp; omega)]
    obtain ⟨b1, ha1, hc1⟩ := hcell i (by omega)
    refine ⟨by omega, ?_⟩
    rw [ha1, qe, qkQ, hc1, qf]
    refine j1 _ ?_
    simp
    omega
  unfold qo.l4
  simp only [qg, decide_eq_true_eq, hsn, hdiv]
  have j3 : ∀ v : Bool, (v = true ↔ (i < out.length ∧ out.getD i 0 < x.1 / 8)) → qo.j3 (s, (j : Int)) it x.1 (i : Int) it2 H' v := by
   intro v hv
   unfold qo.j3
   rw [qg]
   by_cases hv' : v = true
   ·obtain ⟨q1, q2⟩ := hv.1 hv'
    rw [if_pos hv', hwi]
    refine hit2 _ _ ⟨i + 1, rfl, by omega, rfl, ?_⟩ (by omega)
    rw [qcJ q1] at hp
    have hg : out[i] = out.getD i 0 := by rw [qkP, qkO q1]; rfl
    simp only [posN] at hp
    rw [if_pos (by rw [hg]; exact q2)] at hp
    omega
   ·rw [if_neg hv']
    refine j2 ?_
    by_cases q1 : i < out.length
    ·rw [qcJ q1] at hp
     have hg : out[i] = out.getD i 0 := by rw [qkP, qkO q1]; rfl
     simp only [posN] at hp
     rw [if_neg (by rw [hg]; exact fun hh => hv' (hv.2 ⟨q1, hh⟩))] at hp
     omega
    ·rw [List.drop_eq_nil_of_le (by omega)] at hp
     simp only [posN] at hp
     omega
  by_cases q1 : (i : Int) < (out.length : Int)
  ·rw [if_pos q1]
   obtain ⟨b1, ha1, hc1⟩ := hcell i (by omega)
   refine ⟨by omega, ?_⟩
   rw [ha1, qe, qkQ, hc1, qf]
   refine j3 _ ?_
   rw [decide_eq_true_eq]
   exact ⟨fun hh => ⟨by omega, hh⟩, fun hh => hh.2⟩
  ·rw [if_neg q1]
   exact j3 false ⟨fun hh => (by cases hh), fun hh => by omega⟩
 ·rw [if_neg hlt]
  have : j = l.length := by omega
  subst this
  rw [qlH] at hO
  exact h _ _ hk hO
end
theorem qf6 {b : Bk} {need : Int} (hn : 2 ≤ need ∧ need ≤ b.2.1) : (∀ e ∈ carveE b need, b.1 ≤ e.1 ∧ e.1 ≤ b.1 + need ∧ isU e.2) ∧ ((carveE b need).length : Int) ≤ need + 3 := by
 have htk : takesN b.2.1 need = (if b.2.1 - need < 2 then b.2.1 else need) := by unfold takesN; rw [if_pos hn]
 have ht : 2 ≤ takesN b.2.1 need ∧ takesN b.2.1 need ≤ need + 1 ∧ (takesN b.2.1 need < b.2.1 → takesN b.2.1 need = need) := by
  rw [htk]; split <;> omega
 unfold carveE carveTo
 generalize takesN b.2.1 need = tk at *
 refine ⟨fun e he => ?_, ?_⟩
 ·rw [qls, qk8, qk2] at he
  rcases he with rfl | he | he
  ·exact ⟨by simp only; omega, by simp only; omega, wordN_u _ _⟩
  ·rw [qlw] at he
   obtain ⟨t, ht1, rfl⟩ := he
   rw [qlM] at ht1
   refine ⟨by simp only; omega, by simp only; omega, by unfold isU; omega⟩
  ·split at he
   ·rename_i hlt
    have := ht.2.2 hlt
    simp at he
    subst he
    exact ⟨by simp only; omega, by simp only; omega, wordN_u _ _⟩
   ·cases he
 ·split <;> simp <;> omega
structure EdOK (E : List (Int × Int)) (most : Int) : Prop where
 mem : ∀ e ∈ E, 0 ≤ e.1 ∧ e.1 ≤ 5000 ∧ isU e.2
 len : E.length ≤ 5000
 most : ((eLines E).length : Int) ≤ most
theorem EdOK.nil {m : Int} (h : 0 ≤ m) : EdOK [] m := ⟨fun e he => (by cases he), (by simp), (by simpa [eLines] using h)⟩
theorem qfl {ws : List Int} {n : Int} {cs : List Int} : EdOK (imgAlloc ws n cs).1 (linesP 1 n 0) := by
 have h0 : 0 ≤ linesP 1 n 0 := qfi (sl := ⟨none, 0, 0⟩).1
 unfold imgAlloc
 split
 ·exact EdOK.nil h0
 ·rename_i hn0
  split
  ·exact EdOK.nil h0
  ·rename_i l hb
   have hB := qa2 hb
   have hlen := hB.len
   split
   ·exact EdOK.nil h0
   ·rename_i hc
    rcases qdH (l := l) (need := needN n) (cs := cs) with h | ⟨i, h, hi, hu, hn1, hn2⟩
    ·omega
    ·rw [h, qkQ]
     have hm := hB.mem (qkY (qad hi))
     generalize bkAt l i = b at *
     obtain ⟨h1, h2⟩ := qf6 ⟨hn2, hn1⟩
     have hneed : 1 ≤ n ∧ n ≤ 448 ∧ needN n = 1 + (n + 7) / 8 := by
      unfold needN at hn0 ⊢
      split at hn0
      ·rename_i hh; rw [if_pos hh]; exact ⟨hh.1, hh.2, rfl⟩
      ·exact absurd rfl hn0
     show EdOK (carveE b (needN n)) (linesP 1 n 0)
     refine ⟨fun e he => ?_, by omega, ?_⟩
     ·have := h1 e he; exact ⟨by omega, by omega, this.2.2⟩
     ·have := qdu (lo := b.1) (hi := b.1 + needN n) (fun e he => ⟨(h1 e he).1, (h1 e he).2.1⟩) (by omega)
      unfold linesP
      rw [if_pos rfl, if_pos ⟨by omega, by omega⟩]
      omega
theorem qgd {ws : List Int} {off : Int} : EdOK (imgFree ws off).1 (linesP 2 0 0) := by
 unfold imgFree
 split
 ·exact EdOK.nil (by decide)
 ·rename_i l hb
  have hB := qa2 hb
  have hlen := hB.len
  split
  ·exact EdOK.nil (by decide)
  ·rename_i hc
   rcases qdi off l 0 with h | ⟨i, h, hi, hu, ho⟩
   ·omega
   ·rw [qk6] at h
    rw [h, qkQ]
    have hF : mFrom l i < l.length := by unfold mFrom; split <;> omega
    have hm := hB.mem (qkY (qad hF))
    simp only
    refine ⟨fun e he => ?_, by simp, ?_⟩
    ·simp at he
     subst he
     exact ⟨by simp only; omega, by simp only; omega, wordN_u _ _⟩
    ·have := qdu (l := [((bkAt l (mFrom l i)).1, wordN (sumTo l (mFrom l i) (mTo l i - mFrom l i)) false)]) (lo := (bkAt l (mFrom l i)).1) (hi := (bkAt l (mFrom l i)).1) (fun e he => by simp at he; subst he; exact ⟨by simp, by simp⟩) (by omega)
     have e1 : linesP 2 0 0 = 1 := by decide
     rw [e1]; omega
theorem qfr {ws : List Int} (h64 : qao ws) {off : Int} {bs : List Int} : EdOK (imgWrite ws off bs).1 (linesP 4 0 bs.length) := by
 have h0 : 0 ≤ linesP 4 0 bs.length := qfi (sl := ⟨none, bs.length, 0⟩).1
 unfold imgWrite
 split
 ·exact EdOK.nil h0
 ·rename_i l hb
  have hB := qa2 hb
  have hlen := hB.len
  split
  ·rename_i hw
   have hin := qcA hB hw
   unfold inside at hin
   obtain ⟨o, rfl⟩ := qk9 hin.1
   rw [qkQ]
   have hcur := qdT bs ws o h64
   have hcl := qcq bs ws o
   by_cases hz : bs.length = 0
   ·have ht : touched o bs.length = 0 := by rw [hz]; rfl
    rw [ht]
    exact EdOK.nil h0
   have ht : touched o bs.length = (o + bs.length - 1) / 8 - o / 8 + 1 := by unfold touched; rw [if_neg hz]
   have hmem : ∀ e ∈ editsOf (putBs ws o bs) (o / 8) (touched o bs.length), ((o / 8 : Nat) : Int) ≤ e.1 ∧ e.1 ≤ (((o + bs.length - 1) / 8 : Nat) : Int) ∧ isU e.2 := by
    intro e he
    unfold editsOf at he
    rw [qlw] at he
    obtain ⟨j, hj, rfl⟩ := he
    rw [qlM] at hj
    refine ⟨by simp only; omega, by simp only; omega, ?_⟩
    have hlt : o / 8 + j < (putBs ws o bs).length := by omega
    simp only
    rw [qkP, qkO hlt, qll]
    exact hcur _ (qk1 hlt)
   simp only
   refine ⟨fun e he => ?_, by rw [qa3]; omega, ?_⟩
   ·have := hmem e he; exact ⟨by omega, by omega, this.2.2⟩
   ·have := qdu (lo := ((o / 8 : Nat) : Int)) (hi := (((o + bs.length - 1) / 8 : Nat) : Int)) (fun e he => ⟨(hmem e he).1, (hmem e he).2.1⟩) (by omega)
    unfold linesP
    rw [if_neg (by omega), if_pos rfl, if_pos (by omega)]
    omega
  ·exact EdOK.nil h0
theorem qfQ : ∀ (l : List (Int × Int)) (ws : List Int), qao ws → (∀ e ∈ l, isU e.2) → qao (applyE ws l) := by
 intro l
 induction l with
 | nil => intro ws h _; exact h
 | cons e r ih =>
  intro ws h he
  simp only [applyE, List.foldl_cons]
  refine ih _ ?_ fun e' he' => he e' (by simp [he'])
  unfold putE
  split
  ·intro v hv
   rcases qlR hv with hv | rfl
   ·exact h v hv
   ·exact he e (by simp)
  ·exact h
def OpAt (H : AH) (o : Nat) (K a b c : Int) (sl : Sl) : Prop := ∃ e, H.get o = ⟨opl K a b c sl, .rw, e⟩
section
variable {H : AH} {o : Nat} {K a b c : Int} {sl : Sl}
theorem OpAt.c0 (h : OpAt H o K a b c sl) : AH.cell? H (qkN ⟨o, 0, none⟩ 0) = some (.int .i64 K) := by obtain ⟨e, h⟩ := h; simp [qk, AH.cell?, h, opl]
theorem OpAt.c1 (h : OpAt H o K a b c sl) : AH.cell? H (qkN ⟨o, 0, none⟩ 1) = some (.int .i64 a) := by obtain ⟨e, h⟩ := h; simp [qk, AH.cell?, h, opl]
theorem OpAt.c2 (h : OpAt H o K a b c sl) : AH.cell? H (qkN ⟨o, 0, none⟩ 2) = some (.int .i64 b) := by obtain ⟨e, h⟩ := h; simp [qk, AH.cell?, h, opl]
theorem OpAt.c4 (h : OpAt H o K a b c sl) : AH.cell? H (qkN ⟨o, 0, none⟩ 4) = some sl.val := by obtain ⟨e, h⟩ := h; simp [qk, AH.cell?, h, opl]
theorem OpAt.row (h : OpAt H o K a b c sl) : AH.row? H ⟨o, 0, none⟩ 5 = some (opl K a b c sl) := by
 obtain ⟨e, h⟩ := h
 simp only [AH.row?, h, qk4, qkX, if_false, ql3]
 rw [if_neg (by simp), qlL (by rw [op_len]; omega), if_pos ⟨by rw [op_len]; omega, op_ok⟩]
theorem OpAt.keep {H' : AH} (h : OpAt H o K a b c sl) (hg : H'.get o = H.get o) : OpAt H' o K a b c sl := by obtain ⟨e, h⟩ := h; exact ⟨e, hg.trans h⟩
theorem OpAt.new {e : Nat} : OpAt (H.push ⟨opl K a b c sl, .rw, e⟩) H.size K a b c sl := ⟨e, by rw [qr, if_pos rfl]⟩
end
section
variable {H : AH}
theorem qbW.s {n : Int} {k : Int → AH → Prop} (hn : isI n) (h : k (needN n) H) : qbW n H k := by
 unfold isI at hn
 refine qbW.link ?_
 unfold qbW.b qbW.j1
 unfold needN at h
 simp only [qg, decide_eq_true_eq]
 by_cases h1 : n < 1
 ·rw [if_pos h1]; rw [if_neg (by omega)] at h; exact h
 rw [if_neg h1]
 by_cases h2 : n > 448
 ·rw [if_pos h2]; rw [if_neg (by omega)] at h; exact h
 rw [if_neg h2]
 rw [if_pos (by omega)] at h
 refine ⟨by decide, ?_⟩
 rw [qd (n := n + 7) (by omega) (by omega), qlk (by omega), qd (n := (n + 7) / 8) (by omega) (by omega), qd (by omega) (by omega)]
 rw [show (n + 7) / 8 + 1 = 1 + (n + 7) / 8 by omega]
 exact h
theorem qbk.s {n : Int} {k : Bool → AH → Prop} (h : k (decide (mayS n)) H) : qbk n H k := by
 refine qbk.link ?_
 unfold qbk.b
 simp only [qg, decide_eq_true_eq]
 by_cases h1 : n ≥ 2
 ·rw [if_pos h1]
  by_cases h2 : n ≤ 512
  ·rw [decide_eq_true h2]; rw [decide_eq_true (show mayS n from ⟨h1, h2⟩)] at h; exact h
  ·rw [decide_eq_false h2]; rw [decide_eq_false (fun hh : mayS n => h2 hh.2)] at h; exact h
 ·rw [if_neg h1]; rw [decide_eq_false (fun hh : mayS n => h1 hh.1)] at h; exact h
theorem qbd.s {n : Int} {k : Bool → AH → Prop} (h : k (decide (mayW n)) H) : qbd n H k := by
 refine qbd.link ?_
 unfold qbd.b
 simp only [qg, decide_eq_true_eq]
 by_cases h1 : n ≥ 8
 ·rw [if_pos h1]
  by_cases h2 : n ≤ 512
  ·rw [if_pos h2]
   refine ⟨by decide, ?_⟩
   rw [ql0 (by omega)]
   have e : (n % 8 == 0) = decide (mayW n) := by
    by_cases h3 : n % 8 = 0
    ·rw [decide_eq_true (show mayW n from ⟨h1, h2, h3⟩)]; simpa using h3
    ·rw [decide_eq_false (fun hh : mayW n => h3 hh.2.2)]; simpa using h3
   rw [e]; exact h
  ·rw [if_neg h2]; rw [decide_eq_false (fun hh : mayW n => h2 hh.2.1)] at h; exact h
 ·rw [if_neg h1]; rw [decide_eq_false (fun hh : mayW n => h1 hh.1)] at h; exact h
theorem qbZ.s {a b : Int} {k : Int → AH → Prop} (ha : 0 ≤ a ∧ a ≤ 1000) (hb : 0 ≤ b ∧ b ≤ 1000) (h : k (takesN a b) H) : qbZ a b H k := by
 refine qbZ.link ?_
 unfold qbZ.b qbZ.j1
 unfold takesN at h
 simp only [qg, decide_eq_true_eq]
 by_cases h1 : b < 2
 ·rw [if_pos h1]; rw [if_neg (by omega)] at h; exact h
 rw [if_neg h1]
 by_cases h2 : b > a
 ·rw [if_pos h2]; rw [if_neg (by omega)] at h; exact h
 rw [if_neg h2]
 rw [if_pos (by omega)] at h
 rw [qd (n := a - b) (by omega) (by omega)]
 by_cases h3 : a - b < 2
 ·rw [if_pos h3]; rw [if_pos h3] at h; exact h
 ·rw [if_neg h3]; rw [if_neg h3] at h; exact h
theorem qbM.s {n : Int} {u : Bool} {k : Int → AH → Prop} (h : k (wordN n u) H) : qbM n u H k := by
 refine qbM.link ?_
 unfold qbM.b
 refine qbk.s ?_
 unfold wordN at h
 by_cases h1 : mayS n
 ·rw [decide_eq_true h1, qlb, qc]
  rw [if_pos h1] at h
  refine ⟨by decide, ?_⟩
  rw [shl1 h1, or1 h1]
  cases u with
  | true => rw [qj]; exact h
  | false =>
   rw [qc]
   rw [if_neg (by simp), Int.add_zero] at h
   exact h
 ·rw [decide_eq_false h1, qlj, qj]
  rw [if_neg h1] at h
  exact h
theorem qca.s {n : Int} {k : Sl → AH → Prop} (h : ∀ s H', qa H H' → Own H.size H' s 1 wU (firstN n) → k s H') : qca n H k := by
 refine qca.link ?_
 unfold qca.b
 unfold firstN at h
 refine qbd.s ?_
 by_cases hm : mayW n
 rotate_left 1
 ·rw [decide_eq_false hm, qlj, qj]
  rw [if_neg hm] at h
  exact h _ _ (qa.refl H) (.inl ⟨rfl, rfl⟩)
 rw [decide_eq_true hm, qlb, qc]
 rw [if_pos hm] at h
 unfold mayW at hm
 refine ⟨by simp only [lim]; omega, ?_⟩
 rw [qx]
 obtain ⟨m, hm1⟩ : ∃ m : Nat, n.toNat = m + 1 := ⟨n.toNat - 1, by omega⟩
 rw [hm1] at h ⊢
 rw [Nat.add_sub_cancel] at h
 refine qbM.s ?_
 refine ⟨by omega, ?_⟩
 have hz : zerosOf (m + 1) [qkL .u64 0] = (qkR (m + 1) (0 : Int)).flatMap wU := by
  unfold zerosOf
  rw [List.flatMap_def, List.map_replicate]; rfl
 rw [hz]
 have hO : Own H.size (H.push ⟨(qkR (m + 1) (0 : Int)).flatMap wU, .rw, 1⟩) ⟨some ⟨H.size, 0, none⟩, m + 1, 1⟩ 1 wU (qkR (m + 1) 0) :=
  .inr ⟨H.size, by simp, qkV _, by simp [qm], by rw [qr, if_pos rfl]⟩
 have hk := (qa.refl H).push ⟨(qkR (m + 1) (0 : Int)).flatMap wU, .rw, 1⟩
 generalize H.push ⟨(qkR (m + 1) (0 : Int)).flatMap wU, .rw, 1⟩ = H1 at *
 obtain ⟨b', ha', hb1, hb2, hcan, hO', _⟩ := hO.put (i := 0) (x := 0) (y := wordN n false) (fun _ => rfl) (by simp) (j := 0) (by omega) (v := .int .u64 (wordN n false)) rfl
 simp only [qlU, Addr.mk.injEq, true_and, and_true] at ha'
 subst ha'
 rw [qk]
 refine ⟨hcan, ?_⟩
 exact h _ _ (hk.put hb1 _) hO'
theorem qbj.s {b : Bk} {k : Int → AH → Prop} (h : k (offN b.1) H) : qbj (bkV b) H k := by
 refine gcI (j := .i64) (offN b.1) (qbj.link ?_) h
 unfold qbj.b qbj.j1
 rw [qx]
 have hk := (qa.refl H).push ⟨bkV b, .rw, 0⟩
 have hB : BkAt (H.push ⟨bkV b, .rw, 0⟩) H.size b := BkAt.new
 generalize H.push ⟨bkV b, .rw, 0⟩ = H1 at *
 simp only [hB.c0, qf]
 unfold offN
 by_cases h1 : b.1 < 0
 ·rw [decide_eq_true h1, qj, qj, if_neg (by omega)]; exact ⟨hk, rfl⟩
 rw [decide_eq_false h1, qc]
 by_cases h2 : b.1 > 512
 ·rw [decide_eq_true h2, qj, if_neg (by omega)]; exact ⟨hk, rfl⟩
 rw [decide_eq_false h2, qc, if_pos (by omega), qd (n := b.1 + 1) (by omega) (by omega), qd (by omega) (by omega)]
 exact ⟨hk, rfl⟩
def fitG (l : List Bk) (need : Int) (j : Nat) : List Nat := if need < 2 then [] else fitsTo l need j
theorem qjT (l : List Bk) (need : Int) (i : Nat) : fitG l need (i + 1) = if need < 2 ∨ (bkAt l i).2.2 = true ∨ (bkAt l i).2.1 < need then fitG l need i else
 let out1 := if 0 < (fitG l need i).length ∧ (bkAt l ((fitG l need i).getD 0 0)).2.1 > (bkAt l i).2.1 then [] else fitG l need i
 if out1.length = 0 ∨ (bkAt l (out1.getD 0 0)).2.1 = (bkAt l i).2.1 then out1 ++ [i] else out1 := by
 unfold fitG
 by_cases h : need < 2
 ·simp [h]
 ·simp only [h, if_false, false_or]
  rw [qdK]; rfl
theorem qkx {l : List Bk} {need : Int} {i j : Nat} (h : i ∈ fitG l need j) : i < j := by
 unfold fitG at h
 split at h
 ·cases h
 ·exact (qc4 h).1
theorem qks {l : List Bk} {need : Int} {j : Nat} : (fitG l need j).length ≤ j := by
 unfold fitG
 split
 ·exact qlP _
 ·exact qdW
theorem qag.s {x0 : Sl} {need : Int} {l : List Bk} {k : Sl → AH → Prop} (hr : qk7 H x0 3 bkV l) (hl : l.length ≤ 100000)
  (h : ∀ s H', qa H H' → Own H.size H' s 1 nV (fitsL l need) → k s H') : qag x0 need H k := by
 refine qag.link ?_
 unfold qag.b
 refine qC (t := ((⟨none, 0, 0⟩, (0 : Int)) : Sl × Int)) (I := fun (t : Sl × Int) H' => ∃ i : Nat, t.2 = (i : Int) ∧ i ≤ l.length ∧ qa H H' ∧ Own H.size H' t.1 1 nV (fitG l need i)) (m := fun (t : Sl × Int) _ => qkS ((l.length : Int) - t.2)) ?_ ⟨0, rfl, by omega, qa.refl H, .inl ⟨rfl, by unfold fitG fitsTo; split <;> rfl⟩⟩
 intro t H1 hI it hit
 obtain ⟨s, t2⟩ := t
 obtain ⟨i, e1, hi, hk, hO⟩ := hI
 simp only at e1 hO
 subst e1
 unfold qag.l5
 simp only [qg, decide_eq_true_eq, hr.1]
 by_cases hlt : (i : Int) < (l.length : Int)
 ·rw [if_pos hlt]
  have hi' : i < l.length := by omega
  obtain ⟨b, o, ha, hb, hcells⟩ := qaz (hr.keep hk) (by omega)
  refine ⟨by omega, ?_⟩
  have hgi := qad hi'
  obtain ⟨hrow, _⟩ := hcells i _ hgi
  rw [ha, qe, qkQ, qu hrow]
  have hstep := qjT l need i
  unfold fitStep at hstep
  simp only at hstep
  have hmem : ∀ j, j ∈ fitG l need i → j < l.length := fun j hj => by have := qkx hj; omega
  have hlen := qks (l := l) (need := need) (j := i)
  generalize hq : bkAt l i = q at *
  generalize fitG l need i = out at *
  refine qbu (n := 3) rfl (bkV_len q) (bkV_ok q) ?_
  have hB : BkAt (H1.push ⟨bkV q, .rw, 0⟩) H1.size q := BkAt.new
  have hk2 : qa H (H1.push ⟨bkV q, .rw, 0⟩) := hk.push _
  have hO2 : Own H.size (H1.push ⟨bkV q, .rw, 0⟩) s 1 nV out := hO.keep (by simp [qm]) (fun b _ hb => qT (by omega))
  have hcs : ∀ j x, l[j]? = some x → AH.cell? (H1.push ⟨bkV q, .rw, 0⟩) (qkN (qkN ⟨b, o, none⟩ (j * 3)) 1) = some (.int .i64 x.2.1) := fun j x hx => by
   have := (hcells j x hx).2 1 (.int .i64 x.2.1) rfl
   rw [qk, qk] at this ⊢
   rw [AH.cell?, qT (by show b ≠ H1.size; omega)]
   exact this
  generalize H1.push ⟨bkV q, .rw, 0⟩ = H2 at *
  have hwi : qkM .i64 ((i : Int) + 1) = ((i + 1 : Nat) : Int) := by rw [qd (by omega) (by omega)]; omega
  have next : ∀ s' H', qa H H' → Own H.size H' s' 1 nV (fitG l need (i + 1)) → it (s', ((i + 1 : Nat) : Int)) H' := fun s' H' a b => hit _ _ ⟨i + 1, rfl, by omega, a, b⟩ (by simp only; omega)
  have oN : ∀ {s' : Sl} {o' : List Nat}, Own H.size H2 s' 1 nV o' → s'.n = o'.length := fun h => own_n h
  have j2 : ∀ (s' : Sl) (o' : List Nat), Own H.size H2 s' 1 nV o' → (∀ j, j ∈ o' → j < l.length) → o'.length ≤ i → fitG l need (i + 1) = (if o'.length = 0 ∨ (bkAt l (o'.getD 0 0)).2.1 = q.2.1 then o' ++ [i] else o') → qag.j2 x0 (s, (i : Int)) it H1.size H2 s' := by
   intro s' o' hO' hm' hl' hst
   have j1 : ∀ x : Bool, (x = true ↔ (o'.length = 0 ∨ (bkAt l (o'.getD 0 0)).2.1 = q.2.1)) → qag.j1 (s, (i : Int)) it H2 s' x := by
    intro x hx
    unfold qag.j1
    rw [hwi, qg]
    by_cases hx' : x = true
    ·rw [if_pos hx', qx]
     rw [if_pos (hx.1 hx')] at hst
     refine qa7 (H0 := H) (B := H.size) (f := nV) (x := i) (l := o') (fun _ => rfl) rfl hO' (qkV _) hk2.1 hk2 (by simp only [lim]; omega) ?_
     intro s'' H' hO'' hK' _ _
     rw [← hst] at hO''
     exact next _ _ hK' hO''
    ·rw [if_neg hx']
     rw [if_neg (fun hh => hx' (hx.2 hh))] at hst
     refine next _ _ hk2 ?_
     rw [hst]; exact hO'
   unfold qag.j2
   simp only [qg, oN hO']
   by_cases h0 : o'.length = 0
   ·rw [if_pos (by simpa using h0)]
    exact j1 true (by simp [h0])
   ·rw [if_neg (by simpa using h0), hB.c1, qf]
    have hg0 : o'[0]? = some (o'.getD 0 0) := by rw [qkP, qkO (by omega)]; rfl
    have hmem0 := hm' (o'.getD 0 0) (qkY hg0)
    obtain ⟨b0, ha0, _, _, hc0⟩ := hO'.cell (fun _ => rfl) hg0 (j := 0) (by omega)
    refine ⟨by omega, ?_⟩
    rw [ha0, qe, qk, show AH.cell? H2 ⟨b0, 0 + qkS 0 * 1, none⟩ = some (.int .i64 ((o'.getD 0 0 : Nat) : Int)) from hc0, qf, hr.1]
    refine ⟨by omega, ?_⟩
    rw [ha, qe, qkQ, hcs _ _ (qad hmem0), qf]
    refine j1 _ ?_
    simp only [h0, false_or, beq_iff_eq]; exact eq_comm
  have j4 : ∀ x : Bool, (x = true ↔ (need < 2 ∨ q.2.2 = true ∨ q.2.1 < need)) → qag.j4 x0 (s, (i : Int)) it H1.size H2 x := by
   intro x hx
   unfold qag.j4
   rw [hwi]
   simp only [qg, decide_eq_true_eq]
   by_cases hx' : x = true
   ·rw [if_pos hx']
    rw [if_pos (hx.1 hx')] at hstep
    exact next _ _ hk2 (by rw [hstep]; exact hO2)
   ·rw [if_neg hx']
    rw [if_neg (fun hh => hx' (hx.2 hh))] at hstep
    have j3 : ∀ y : Bool, (y = true ↔ (0 < out.length ∧ (bkAt l (out.getD 0 0)).2.1 > q.2.1)) → qag.j3 x0 (s, (i : Int)) it H1.size H2 y := by
     intro y hy
     unfold qag.j3
     rw [qg]
     by_cases hy' : y = true
     ·rw [if_pos hy']
      rw [if_pos (hy.1 hy')] at hstep
      exact j2 _ [] (.inl ⟨rfl, rfl⟩) (fun j hj => by cases hj) (qlP _) hstep
     ·rw [if_neg hy']
      rw [if_neg (fun hh => hy' (hy.2 hh))] at hstep
      exact j2 _ out hO2 hmem hlen hstep
    rw [oN hO2]
    by_cases h0 : (out.length : Int) > 0
    ·rw [if_pos h0, hB.c1, qf]
     have hg0 : out[0]? = some (out.getD 0 0) := by rw [qkP, qkO (by omega)]; rfl
     have hmem0 := hmem (out.getD 0 0) (qkY hg0)
     obtain ⟨b0, ha0, _, _, hc0⟩ := hO2.cell (fun _ => rfl) hg0 (j := 0) (by omega)
     refine ⟨by omega, ?_⟩
     rw [ha0, qe, qk, show AH.cell? H2 ⟨b0, 0 + qkS 0 * 1, none⟩ = some (.int .i64 ((out.getD 0 0 : Nat) : Int)) from hc0, qf, hr.1]
     refine ⟨by omega, ?_⟩
     rw [ha, qe, qkQ, hcs _ _ (qad hmem0), qf]
     refine j3 _ ?_
     rw [decide_eq_true_eq]
     exact ⟨fun hh => ⟨by omega, hh⟩, fun hh => hh.2⟩
    ·rw [if_neg h0]
     refine j3 false ?_
     constructor
     ·intro hh; cases hh
     ·intro hh; omega
  by_cases hn : need < 2
  ·rw [if_pos hn]; exact j4 true (by simp [hn])
  rw [if_neg hn]
  simp only [hB.c2, qaK]
  by_cases hu : q.2.2 = true
  ·rw [if_pos hu]; exact j4 true (by simp [hu])
  ·rw [if_neg hu, hB.c1, qf]
   refine j4 _ ?_
   rw [decide_eq_true_eq]
   exact ⟨fun hh => .inr (.inr hh), fun hh => (hh.resolve_left hn).resolve_left hu⟩
 ·rw [if_neg hlt]
  have : i = l.length := by omega
  subst this
  exact h _ _ hk hO
theorem qbr.s {v : Int} {k : Int → Bool → Bool → AH → Prop} (hv : isU v) (h1 : mayS (v / 2) → k (v / 2) (v % 2 == 1) true H) (h0 : ¬ mayS (v / 2) → k 0 false false H) : qbr v H k := by
 have hv' := hv
 unfold isU at hv'
 refine qbr.link ?_
 unfold qbr.b qbr.j1
 rw [shr1 hv'.1, and1w hv]
 simp only [qg, decide_eq_true_eq]
 refine ⟨by decide, ?_⟩
 by_cases a2 : v / 2 > 512
 ·rw [if_pos a2]; exact h0 (fun hh => by unfold mayS at hh; omega)
 rw [if_neg a2]
 refine ⟨by decide, ?_⟩
 rw [qd (n := v / 2) (by omega) (by omega)]
 refine qbk.s ?_
 by_cases a1 : mayS (v / 2)
 ·rw [decide_eq_true a1, if_neg (by simp)]; exact ⟨by decide, h1 a1⟩
 ·rw [decide_eq_false a1, if_pos (by simp)]; exact h0 a1
theorem qah.s {x0 : Sl} {words : Int} {l : List Bk} {k : Bool → AH → Prop} (hr : qk7 H x0 3 bkV l) (hl : l.length ≤ 100000) (hok : ∀ b ∈ l, 0 ≤ b.2.1 ∧ b.2.1 ≤ 100000) (hw : 0 ≤ words ∧ words ≤ 100000) (h : k (decide (MayB l words)) H) : qah x0 words H k := by
 refine gcB (decide (MayB l words)) (qah.link ?_) h
 unfold qah.b
 refine qbd.s ?_
 by_cases hm : mayW words
 rotate_left 1
 ·rw [decide_eq_false hm, qlj, qj]
  exact ⟨qa.refl H, (decide_eq_false (fun hh : MayB l words => hm hh.1)).symm⟩
 rw [decide_eq_true hm, qlb, qc]
 refine qC (t := ((false, (0 : Int), false, (0 : Int)) : Bool × Int × Bool × Int)) (I := fun (t : Bool × Int × Bool × Int) H' => ∃ i : Nat, t.2.2.2 = (i : Int) ∧ t.2.2.1 = !puAt l i ∧ i ≤ l.length ∧ qa H H' ∧ 0 ≤ t.2.1 ∧ t.2.1 ≤ words ∧ (MayB l words ↔ chainB words t.2.1 (puAt l i) (l.drop i))) (m := fun (t : Bool × Int × Bool × Int) _ => qkS ((l.length : Int) - t.2.2.2)) ?_ ⟨0, rfl, rfl, by omega, qa.refl H, by simp only; omega, by simp only; omega, ⟨fun hh => hh.2, fun hh => ⟨hm, hh⟩⟩⟩
 intro t H1 hI it hit
 obtain ⟨t1, pt, t4, t3⟩ := t
 obtain ⟨i, e1, e4, hi, hk, hp0, hp1, hiff⟩ := hI
 simp only at e1 e4 hp0 hp1 hiff
 subst e1 e4
 unfold qah.l2
 simp only [qg, decide_eq_true_eq, hr.1]
 by_cases hlt : (i : Int) < (l.length : Int)
 ·rw [if_pos hlt]
  have hi' : i < l.length := by omega
  obtain ⟨b, o, ha, hb, hcells⟩ := qaz (hr.keep hk) (by omega)
  refine ⟨by omega, ?_⟩
  obtain ⟨hrow, _⟩ := hcells i l[i] (qkO hi')
  have hq := hok _ (qk1 hi')
  rw [ha, qe, qkQ, qu hrow]
  rw [qcJ hi'] at hiff
  have hpu : puAt l (i + 1) = l[i].2.2 := by simp [puAt, qkP, hi']
  generalize hqq : l[i] = q at *
  refine qbu (n := 3) rfl (bkV_len q) (bkV_ok q) ?_
  have hB : BkAt (H1.push ⟨bkV q, .rw, 0⟩) H1.size q := BkAt.new
  have hk2 : qa H (H1.push ⟨bkV q, .rw, 0⟩) := hk.push _
  have hc2 : ∀ j x, l[j]? = some x → AH.cell? (H1.push ⟨bkV q, .rw, 0⟩) (qkN (qkN ⟨b, o, none⟩ (j * 3)) 2) = some (.bool x.2.2) := fun j x hx => by
   have := (hcells j x hx).2 2 (.bool x.2.2) rfl
   rw [qk, qk] at this ⊢
   rw [AH.cell?, qT (by show b ≠ H1.size; omega)]
   exact this
  generalize H1.push ⟨bkV q, .rw, 0⟩ = H2 at *
  have no : ¬ chainB words pt (puAt l i) (q :: l.drop (i + 1)) → qah.j1 (fun r H' => qa H H' ∧ r = decide (MayB l words)) (t1, pt, (!puAt l i), (i : Int)) it H1.size true H2 := by
   intro hn
   unfold qah.j1
   rw [qj]
   exact ⟨hk2, (decide_eq_false (fun hh => hn (hiff.1 hh))).symm⟩
  simp only [hB.c0, qf]
  by_cases c1 : q.1 = pt
  rotate_left 1
  ·rw [if_pos (by simpa using c1)]; exact no (fun hh => c1 hh.1)
  rw [if_neg (by simpa using c1)]
  simp only [hB.c1, qf]
  refine qbk.s ?_
  by_cases c2 : mayS q.2.1
  rotate_left 1
  ·rw [decide_eq_false c2, if_pos (by simp)]; exact no (fun hh => c2 hh.2.1)
  rw [decide_eq_true c2, if_neg (by simp)]
  have fin : q.2.1 ≤ words - pt → (puAt l i = true ∨ q.2.2 = true) → qah.j1 (fun r H' => qa H H' ∧ r = decide (MayB l words)) (t1, pt, (!puAt l i), (i : Int)) it H1.size false H2 := by
   intro c3 hor
   unfold qah.j1
   rw [qc, hB.c1, qf, qd (n := pt + q.2.1) (by omega) (by omega), qd (n := (i : Int) + 1) (by omega) (by omega), hB.c2, qaK]
   refine hit _ _ ⟨i + 1, by simp, by simp only; rw [hpu], by omega, hk2, by simp only; omega, by simp only; omega, ?_⟩ (by simp only; omega)
   simp only
   rw [hpu, hiff]
   exact ⟨fun hh => hh.2.2.2.2, fun hh => ⟨c1, c2, by omega, hor, hh⟩⟩
  have rest : (puAt l i = true ∨ q.2.2 = true) → qah.j1 (fun r H' => qa H H' ∧ r = decide (MayB l words)) (t1, pt, (!puAt l i), (i : Int)) it H1.size (decide (q.2.1 > qkM .i64 (words - pt))) H2 := by
   intro hor
   rw [qd (n := words - pt) (by omega) (by omega)]
   by_cases c3 : q.2.1 > words - pt
   ·rw [decide_eq_true c3]; exact no (fun hh => by have := hh.2.2.1; omega)
   ·rw [decide_eq_false c3]; exact fin (by omega) hor
  by_cases c4 : puAt l i = true
  ·rw [if_neg (by simp [c4])]
   rw [hB.c1, qf]; exact rest (.inl c4)
  ·rw [if_pos (by simpa using c4)]
   rw [hB.c2, qaK]
   by_cases c5 : q.2.2 = true
   ·rw [if_neg (by simp [c5]), hB.c1, qf]; exact rest (.inr c5)
   ·rw [if_pos (by simpa using c5)]
    exact no (fun hh => by have := hh.2.2.2.1; simp_all)
 ·rw [if_neg hlt]
  have : i = l.length := by omega
  subst this
  refine ⟨hk, ?_⟩
  rw [qmh] at hiff
  by_cases hpw : pt = words
  ·rw [decide_eq_true (hiff.2 hpw)]; simpa using hpw
  ·rw [decide_eq_false (fun hh => hpw (hiff.1 hh))]; simpa using hpw
theorem qX.s {x0 : Sl} {ws : List Int} {k : Sl → Bool → AH → Prop} (hr : qk7 H x0 1 wU ws) (h64 : qao ws) (hl : ws.length ≤ 1000)
  (h1 : ∀ l, blocksN ws = some l → ∀ s H', qa H H' → Own H.size H' s 3 bkV l → k s true H') (h0 : blocksN ws = none → ∀ H', qa H H' → k ⟨none, 0, 0⟩ false H') : qX x0 H k := by
 refine qX.link ?_
 unfold qX.b
 refine qC (t := ((⟨none, 0, 0⟩, false, ⟨none, 0, 0⟩, (0 : Int)) : Sl × Bool × Sl × Int)) (I := fun (t : Sl × Bool × Sl × Int) H' => ∃ (pt : Nat) (acc : List Bk), t.2.2.2 = (pt : Int) ∧ pt ≤ ws.length + 512 ∧ 2 * acc.length ≤ pt ∧ qa H H' ∧ Own H.size H' t.2.2.1 3 bkV acc ∧ (∀ b ∈ acc, 0 ≤ b.2.1 ∧ b.2.1 ≤ 100000) ∧ blkFrom ws 0 = (blkFrom ws pt).map (acc ++ ·)) (m := fun (t : Sl × Bool × Sl × Int) _ => qkS ((ws.length : Int) - t.2.2.2)) ?_
  ⟨0, [], rfl, by omega, by simp, qa.refl H, .inl ⟨rfl, rfl⟩, by simp, by simp⟩
 intro t H1 hI it hit
 obtain ⟨u1, u2, u3, u4⟩ := t
 obtain ⟨pt, acc, e1, hp, ha, hk, hO, hok, hb⟩ := hI
 simp only at e1 hO
 subst e1
 unfold qX.l2
 simp only [qg, decide_eq_true_eq, hr.1]
 by_cases hlt : (pt : Int) < (ws.length : Int)
 ·rw [if_pos hlt]
  have hlt' : pt < ws.length := by omega
  obtain ⟨b1, o1, ha1, _, hc1⟩ := qaZ (g := fun v => qkL .u64 v) (hr.keep hk) (i := pt) hlt'
  refine ⟨by omega, ?_⟩
  rw [ha1, qe, qkQ, hc1, qf]
  have hg : ws.getD pt 0 = ws[pt] := by rw [qkP, qkO hlt']; rfl
  have hv : isU ws[pt] := h64 _ (qk1 hlt')
  rw [qcQ ws pt, dif_pos hlt', hg] at hb
  generalize ws[pt] = v at *
  refine qbr.s hv ?_ ?_
  ·intro hm
   rw [dif_pos hm] at hb
   have hm' := hm
   unfold mayS at hm'
   rw [if_neg (by simp)]
   refine ⟨rfl, ?_⟩
   rw [qx]
   have hbk : [qkL .i64 (pt : Int), qkL .i64 (v / 2), qln (v % 2 == 1)] = bkV ((pt : Int), v / 2, (v % 2 == 1)) := rfl
   rw [hbk]
   refine qa7 (H0 := H) (B := H.size) (f := bkV) (x := ((pt : Int), v / 2, (v % 2 == 1))) (l := acc) bkV_len (bkV_ok _) hO (qkV _) hk.1 hk (by simp only [lim]; omega) ?_
   intro s' H' hO' hK' _ _
   have e2 : (pt : Int) + v / 2 = ((pt + (v / 2).toNat : Nat) : Int) := by omega
   rw [qd (n := (pt : Int) + v / 2) (by omega) (by omega), e2]
   refine hit _ _ ⟨pt + (v / 2).toNat, acc ++ [((pt : Int), v / 2, (v % 2 == 1))], rfl, by omega, by simp; omega, hK', hO', ?_, ?_⟩ (by simp only; omega)
   ·intro b hb'
    rw [qk2] at hb'
    rcases hb' with hb' | hb'
    ·exact hok b hb'
    ·simp at hb'; subst hb'; simp only; omega
   ·rw [hb, Option.map_map]
    congr 1
    funext r
    simp
  ·intro hm
   rw [dif_neg hm] at hb
   rw [if_pos (by simp)]
   refine h0 ?_ _ hk
   unfold blocksN
   rw [hb]; rfl
 ·rw [if_neg hlt]
  have hb' : blkFrom ws 0 = some acc := by
   rw [hb, qcQ ws pt, dif_neg (by omega)]
   simp
  unfold qX.j1
  rw [hr.1]
  refine qah.s (hO.rows bkV_len bkV_ok) (by omega) hok (by omega) ?_
  by_cases hm : MayB acc (ws.length : Int)
  ·rw [decide_eq_true hm, qlb, qc]
   refine h1 acc ?_ _ _ hk hO
   unfold blocksN
   rw [hb', ql6, if_pos hm]
  ·rw [decide_eq_false hm, qlj, qj]
   refine h0 ?_ _ hk
   unfold blocksN
   rw [hb', ql6, if_neg hm]
end
section
variable {H : AH}
theorem qbE.s {b : Bk} {x1 : Sl} {cs : List Int} {k : Int → AH → Prop} (hr : qk7 H x1 1 iV cs) (hp : b.1 ≤ 100000) (h : k (countN b.1 cs) H) : qbE (bkV b) x1 H k := by
 refine gcI (j := .i64) (countN b.1 cs) (qbE.link ?_) h
 unfold qbE.b qbE.j1
 rw [qx]
 have hk := (qa.refl H).push ⟨bkV b, .rw, 0⟩
 have hB : BkAt (H.push ⟨bkV b, .rw, 0⟩) H.size b := BkAt.new
 have hr' := hr.keep hk
 generalize H.push ⟨bkV b, .rw, 0⟩ = H1 at *
 simp only [hB.c0, qf]
 unfold countN
 simp only [qg, decide_eq_true_eq, hr.1]
 generalize b.1 = pt at *
 by_cases h1 : pt < 0
 ·rw [if_pos h1, if_pos (.inl h1)]; exact ⟨hk, rfl⟩
 rw [if_neg h1, qlk (by omega), qd (n := pt / 32) (by omega) (by omega)]
 refine ⟨by decide, ?_⟩
 by_cases h2 : pt / 32 ≥ (cs.length : Int)
 ·rw [if_pos h2, if_pos (.inr h2)]; exact ⟨hk, rfl⟩
 ·rw [if_neg h2, if_neg (by omega)]
  obtain ⟨b, o, ha, _, hc⟩ := qaZ (g := fun v => qkL .i64 v) hr' (i := (pt / 32).toNat) (by omega)
  refine ⟨by decide, by omega, ?_⟩
  rw [ha, qe, hc, qf]
  rw [qkP, qkO (show (pt / 32).toNat < cs.length by omega), qll]
  exact ⟨hk, rfl⟩
theorem qaR.s {x0 x2 : Sl} {need : Int} {l : List Bk} {cs : List Int} {k : Int → AH → Prop} (hr : qk7 H x0 3 bkV l) (hl : l.length ≤ 1000) (hok : ∀ b ∈ l, 0 ≤ b.1 ∧ b.1 ≤ 100000) (hcs : qk7 H x2 1 iV cs)
  (h : k (chooseN l need cs) H) : qaR x0 need x2 H k := by
 refine gcI (j := .i64) (chooseN l need cs) (qaR.link ?_) h
 unfold qaR.b
 refine qag.s hr (by omega) ?_
 intro s12 H12 hk12 hO12
 have hr2 := hr.keep hk12
 have hcs2 := hcs.keep hk12
 have hRf := hO12.rows (fun _ => rfl) (fun _ => rfl)
 have hmem : ∀ j, j ∈ fitsL l need → j < l.length := fun j hj => by
  unfold fitsL at hj
  split at hj
  ·cases hj
  ·exact (qc4 hj).1
 have hlen : (fitsL l need).length ≤ l.length := by
  unfold fitsL
  split
  ·exact qlP _
  ·exact qdW
 unfold chooseN
 generalize fitsL l need = f at *
 refine qC (t := (((-1 : Int), (0 : Int)) : Int × Int)) (I := fun (t : Int × Int) H' => ∃ i : Nat, t.2 = (i : Int) ∧ i ≤ f.length ∧ H' = H12 ∧ t.1 = (f.take i).foldl (chStep l cs) (-1)) (m := fun (t : Int × Int) _ => qkS ((f.length : Int) - t.2)) ?_ ⟨0, rfl, by omega, rfl, rfl⟩
 intro t H1 hI it hit
 obtain ⟨best, t2⟩ := t
 obtain ⟨i, e1, hi, rfl, e2⟩ := hI
 simp only at e1 e2
 subst e1
 unfold qaR.l2
 simp only [qg, decide_eq_true_eq, hRf.1]
 by_cases hlt : (i : Int) < (f.length : Int)
 ·rw [if_pos hlt]
  have hi' : i < f.length := by omega
  obtain ⟨b0, o0, ha0, _, hc0⟩ := qaZ (g := fun v : Nat => qkL .i64 (v : Int)) hRf (i := i) hi'
  refine ⟨by omega, ?_⟩
  rw [ha0, qe, qkQ, hc0, qf]
  have hfi := hmem _ (qk1 hi')
  have htk : (f.take (i + 1)).foldl (chStep l cs) (-1) = chStep l cs best f[i] := by
   rw [qmd, qkO hi', qlX, List.foldl_append, e2]; rfl
  have hbest : best = -1 ∨ ∃ b : Nat, best = (b : Int) ∧ b < l.length := by
   rw [e2]
   rcases qdY (l := l) (cs := cs) (f := f.take i) (b := -1) with h | ⟨j, hj, h⟩
   ·exact .inl h
   ·exact .inr ⟨j, h, hmem j (List.mem_of_mem_take hj)⟩
  generalize f[i] = y at *
  have hwi : qkM .i64 ((i : Int) + 1) = ((i + 1 : Nat) : Int) := by rw [qd (by omega) (by omega)]; omega
  rw [hwi]
  unfold chStep at htk
  have yes : (best < 0 ∨ countN (bkAt l y).1 cs < countN (bkAt l best.toNat).1 cs ∨ (countN (bkAt l y).1 cs = countN (bkAt l best.toNat).1 cs ∧ (bkAt l y).1 < (bkAt l best.toNat).1)) → it ((y : Int), ((i + 1 : Nat) : Int)) H1 := fun hx => by
   rw [if_pos hx] at htk
   exact hit _ _ ⟨i + 1, rfl, by omega, rfl, htk.symm⟩ (by simp only; omega)
  have j1 : ∀ x : Bool, (x = true ↔ (best < 0 ∨ countN (bkAt l y).1 cs < countN (bkAt l best.toNat).1 cs ∨ (countN (bkAt l y).1 cs = countN (bkAt l best.toNat).1 cs ∧ (bkAt l y).1 < (bkAt l best.toNat).1))) → qaR.j1 (best, (i : Int)) it (y : Int) H1 x := by
   intro x hx
   unfold qaR.j1
   rw [hwi, qg]
   by_cases hx' : x = true
   ·rw [if_pos hx']; exact yes (hx.1 hx')
   ·rw [if_neg hx']
    rw [if_neg (fun hh => hx' (hx.2 hh))] at htk
    exact hit _ _ ⟨i + 1, rfl, by omega, rfl, htk.symm⟩ (by simp only; omega)
  rcases hbest with hb | ⟨bb, hb, hbl⟩
  ·rw [if_pos (by omega)]
   exact yes (.inl (by omega))
  ·rw [if_neg (by omega), hr.1]
   subst hb
   rw [qkQ] at j1
   obtain ⟨b, o, ha, hbz, hcells⟩ := qaz hr2 (by omega)
   have hgy := qad hfi
   have hgb := qad hbl
   have ry := (hcells y _ hgy).1
   have rb := (hcells bb _ hgb).1
   have cy : AH.cell? H1 (qkN (qkN ⟨b, o, none⟩ (y * 3)) 0) = some (.int .i64 (bkAt l y).1) := (hcells y _ hgy).2 0 _ rfl
   have cb : AH.cell? H1 (qkN (qkN ⟨b, o, none⟩ (bb * 3)) 0) = some (.int .i64 (bkAt l bb).1) := (hcells bb _ hgb).2 0 _ rfl
   have oy := (hok _ (qkY hgy)).2
   have ob := (hok _ (qkY hgb)).2
   generalize bkAt l y = qy at *
   generalize bkAt l bb = qb at *
   have rg : (0 ≤ (y : Int) ∧ (y : Int) < (l.length : Int)) ∧ (0 ≤ (bb : Int) ∧ (bb : Int) < (l.length : Int)) := by omega
   refine ⟨rg.1, ?_⟩
   simp only [ha, qe, qkQ]
   rw [qu ry]
   refine ⟨rg.2, ?_⟩
   rw [qu rb]
   refine qbE.s hcs2 oy ⟨rb, ?_⟩
   refine qbE.s hcs2 ob ?_
   by_cases c1 : countN qy.1 cs < countN qb.1 cs
   ·rw [if_pos c1]
    exact j1 true ⟨fun _ => .inr (.inl c1), fun _ => rfl⟩
   ·rw [if_neg c1]
    by_cases c2 : countN qy.1 cs = countN qb.1 cs
    ·rw [if_pos (by simpa using c2)]
     simp only [cy, cb, qf]
     refine ⟨rg.1, rg.2, j1 _ ?_⟩
     rw [decide_eq_true_eq]
     exact ⟨fun hh => .inr (.inr ⟨c2, hh⟩), fun hh => by rcases hh with hh | hh | hh; omega; exact absurd hh c1; exact hh.2⟩
    ·rw [if_neg (by simpa using c2)]
     exact j1 false ⟨fun hh => (by cases hh), fun hh => by rcases hh with hh | hh | hh; omega; exact absurd hh c1; exact absurd hh.1 c2⟩
 ·rw [if_neg hlt]
  have : i = f.length := by omega
  subst this
  rw [qlH] at e2
  exact ⟨hk12, e2⟩
theorem qbz.s {q : Bk} {a : Addr} {off : Int} {k : Bool → AH → Prop} (ha : AH.cell? H a = some (.int .i64 off)) (hab : a.1 < H.size) (h : k (decide (q.2.2 = true ∧ offN q.1 = off)) H) : qbz (bkV q) (some a) H k := by
 refine gcB (decide (q.2.2 = true ∧ offN q.1 = off)) (qbz.link ?_) h
 unfold qbz.b
 rw [qx]
 have hk := (qa.refl H).push ⟨bkV q, .rw, 0⟩
 have hB : BkAt (H.push ⟨bkV q, .rw, 0⟩) H.size q := BkAt.new
 have ha' : AH.cell? (H.push ⟨bkV q, .rw, 0⟩) a = some (.int .i64 off) := by
  rw [AH.cell?, qT (by omega)]; exact ha
 generalize H.push ⟨bkV q, .rw, 0⟩ = H1 at *
 simp only [hB.c2, qaK, qg]
 by_cases hu : q.2.2 = true
 ·rw [if_pos hu, qu hB.row]
  rw [qe, ha', qf]
  refine qbj.s ⟨ha', hk, ?_⟩
  simp only [hu, true_and]
  by_cases h1 : offN q.1 = off <;> simp [h1]
 ·rw [if_neg hu]
  exact ⟨hk, (decide_eq_false (fun hh => hu hh.1)).symm⟩
end
def isUsed (ws : List Int) (off : Int) : Bool := match blocksN ws with | some l => decide (0 ≤ isN off l 0) | none => false
def imgRead (ws : List Int) (off n : Int) : List Int × Int :=
 match blocksN ws with
 | none => ([], 6)
 | some l => if withinN l off n then (bytesOf ws off.toNat n.toNat, 0) else ([], 1)
def imgHolds (ws : List Int) (off n : Int) : Int :=
 match blocksN ws with
 | none => 6
 | some l => if withinN l off n then 0 else 1
section
variable {H : AH}
theorem qeu.s {x0 : Sl} {a : Addr} {off : Int} {l : List Bk} {k : Int → AH → Prop} (hr : qk7 H x0 3 bkV l) (hl : l.length ≤ 1000) (ha : AH.cell? H a = some (.int .i64 off)) (hab : a.1 < H.size)
  (h : k (isN off l 0) H) : qB x0 (some a) H k := by
 refine gcI (j := .i64) (isN off l 0) (qB.link ?_) h
 unfold qB.b
 refine qC (t := (((0 : Int), (0 : Int)) : Int × Int)) (I := fun (t : Int × Int) H' => ∃ i : Nat, t.2 = (i : Int) ∧ i ≤ l.length ∧ H' = H ∧ isN off l 0 = isN off (l.drop i) i) (m := fun (t : Int × Int) _ => qkS ((l.length : Int) - t.2)) ?_ ⟨0, rfl, by omega, rfl, rfl⟩
 intro t H1 hI it hit
 obtain ⟨t1, t2⟩ := t
 obtain ⟨i, e1, hi, rfl, he⟩ := hI
 simp only at e1
 subst e1
 unfold qB.l1
 simp only [qg, decide_eq_true_eq, hr.1]
 by_cases hlt : (i : Int) < (l.length : Int)
 ·rw [if_pos hlt]
  have hi' : i < l.length := by omega
  obtain ⟨b, o, ha', hb, hcells⟩ := qaz hr (by omega)
  refine ⟨by omega, ?_⟩
  obtain ⟨hrow, _⟩ := hcells i l[i] (qkO hi')
  rw [ha', qe, qkQ, qu hrow]
  rw [qcJ hi'] at he
  simp only [isN] at he
  generalize l[i] = q at *
  refine qbz.s ha hab ?_
  rw [qd (n := (i : Int) + 1) (by omega) (by omega)]
  by_cases hq : q.2.2 = true ∧ offN q.1 = off
  ·rw [if_pos (by simpa using hq)]
   rw [if_pos hq] at he
   exact ⟨qa.refl _, he.symm⟩
  ·rw [if_neg (by simpa using hq)]
   rw [if_neg hq] at he
   exact hit _ _ ⟨i + 1, by simp, by omega, rfl, he⟩ (by simp only; omega)
 ·rw [if_neg hlt]
  have : i = l.length := by omega
  subst this
  rw [qmh] at he
  exact ⟨qa.refl _, he.symm⟩
theorem qb4.s {x0 : Sl} {off : Int} {ws : List Int} {k : Sl → Int → AH → Prop} (hr : qk7 H x0 1 wU ws) (h64 : qao ws) (hl : ws.length ≤ 1000)
  (h1 : ∀ l, blocksN ws = some l → ∀ s H', qa H H' → Own H.size H' s 3 bkV l → k s (isN off l 0) H') (h0 : blocksN ws = none → ∀ H', qa H H' → k ⟨none, 0, 0⟩ (-1) H') : qb4 x0 off H k := by
 refine qb4.link ?_
 unfold qb4.b
 rw [qx]
 have hk := (qa.refl H).push ⟨[(qkL .i64 off)], .rw, 0⟩
 have hc : AH.cell? (H.push ⟨[(qkL .i64 off)], .rw, 0⟩) ⟨H.size, 0, none⟩ = some (.int .i64 off) := by simp [AH.cell?, qr]
 have hs : H.size < (H.push ⟨[(qkL .i64 off)], .rw, 0⟩).size := by simp [qm]
 generalize H.push ⟨[(qkL .i64 off)], .rw, 0⟩ = H1 at *
 have keep : ∀ {H'}, qa H1 H' → AH.cell? H' ⟨H.size, 0, none⟩ = some (.int .i64 off) ∧ H.size < H'.size := fun hk' => by
  refine ⟨?_, by have := hk'.1; omega⟩
  rw [← hc]; simp only [AH.cell?, hk'.2 _ hs]
 refine qX.s (hr.keep hk) h64 hl ?_ ?_
 ·intro l hb s H' hk' hO
  have hB := qa2 hb
  have hlen := hB.len
  refine qeu.s (hO.rows bkV_len bkV_ok) (by omega) (keep hk').1 (keep hk').2 ?_
  exact h1 l hb _ _ (hk.trans hk') (qcj hO hk.1)
 ·intro hb H' hk'
  refine qeu.s (l := []) qj2 (by simp) (keep hk').1 (keep hk').2 ?_
  exact h0 hb _ (hk.trans hk')
theorem qci.s {x0 : Sl} {off : Int} {ws : List Int} {k : Bool → AH → Prop} (hr : qk7 H x0 1 wU ws) (h64 : qao ws) (hl : ws.length ≤ 1000)
  (h : k (isUsed ws off) H) : qci x0 off H k := by
 refine gcB (isUsed ws off) (qci.link ?_) h
 unfold qci.b isUsed
 refine qb4.s hr h64 hl ?_ ?_
 ·intro l hb s H' hk _
  rw [hb]; exact ⟨hk, rfl⟩
 ·intro hb H' hk
  rw [hb]; exact ⟨hk, rfl⟩
theorem qbl.s {q : Bk} {a1 a2 : Addr} {off n : Int} {k : Bool → AH → Prop} (ha1 : AH.cell? H a1 = some (.int .i64 off)) (hb1 : a1.1 < H.size) (ha2 : AH.cell? H a2 = some (.int .i64 n)) (hb2 : a2.1 < H.size)
  (hn : 0 ≤ n ∧ n ≤ 448) (hq : 0 ≤ q.1 ∧ q.1 ≤ 100000 ∧ 0 ≤ q.2.1 ∧ q.2.1 ≤ 100000) (h : k (decide (inB off n q)) H) : qbl (bkV q) (some a1) (some a2) H k := by
 refine gcB (decide (inB off n q)) (qbl.link ?_) h
 unfold qbl.b
 rw [qx]
 have hk := (qa.refl H).push ⟨bkV q, .rw, 0⟩
 have hB : BkAt (H.push ⟨bkV q, .rw, 0⟩) H.size q := BkAt.new
 have ha1' : AH.cell? (H.push ⟨bkV q, .rw, 0⟩) a1 = some (.int .i64 off) := by rw [AH.cell?, qT (by omega)]; exact ha1
 have ha2' : AH.cell? (H.push ⟨bkV q, .rw, 0⟩) a2 = some (.int .i64 n) := by rw [AH.cell?, qT (by omega)]; exact ha2
 generalize H.push ⟨bkV q, .rw, 0⟩ = H1 at *
 simp only [hB.c2, qaK, qg, decide_eq_true_eq]
 by_cases hu : q.2.2 = true
 ·rw [if_pos hu, qe, ha1', qf, qu hB.row]
  refine qbj.s ⟨ha1', ?_⟩
  by_cases c1 : off ≥ offN q.1
  ·rw [if_pos c1, qe, ha1', qf, hB.c0, qf, hB.c1, qf, qe, ha2', qf]
   refine ⟨hk, ?_⟩
   rw [qd (n := q.1 + q.2.1) (by omega) (by omega), qd (n := (q.1 + q.2.1) * 8) (by omega) (by omega), qd (n := (q.1 + q.2.1) * 8 - n) (by omega) (by omega)]
   congr 1
   apply propext
   constructor
   ·intro hh; exact ⟨hu, c1, by omega, by omega⟩
   ·intro hh; have := hh.2.2.2; omega
  ·rw [if_neg c1]
   exact ⟨hk, (decide_eq_false (fun hh => c1 hh.2.1)).symm⟩
 ·rw [if_neg hu]
  exact ⟨hk, (decide_eq_false (fun hh => hu hh.1)).symm⟩
theorem qfd.s {x0 : Sl} {a1 a2 : Addr} {off n : Int} {l : List Bk} {k : Bool → AH → Prop} (hr : qk7 H x0 3 bkV l) (hl : l.length ≤ 1000) (ha1 : AH.cell? H a1 = some (.int .i64 off)) (hb1 : a1.1 < H.size) (ha2 : AH.cell? H a2 = some (.int .i64 n)) (hb2 : a2.1 < H.size)
  (hn : 0 ≤ n ∧ n ≤ 448) (hok : ∀ b ∈ l, 0 ≤ b.1 ∧ b.1 ≤ 100000 ∧ 0 ≤ b.2.1 ∧ b.2.1 ≤ 100000) (h : k (decide (withinN l off n)) H) : qS x0 (some a1) (some a2) H k := by
 refine qS.link ?_
 unfold qS.b
 have main : ∀ v : Int, (0 ≤ v ↔ withinN l off n) → (∀ k' : Int → AH → Prop, k' v H → qt x0 (some a1) (some a2) H k') → qt x0 (some a1) (some a2) H fun n7 H7 => k (decide ((n7 : Int) ≥ (0 : Int))) H7 := by
  intro v hv hk
  refine hk _ ?_
  rw [show decide (v ≥ 0) = decide (withinN l off n) by congr 1; exact propext hv]
  exact h
 -- the first place
 have key : ∃ v : Int, (0 ≤ v ↔ withinN l off n) ∧ (∀ k' : Int → AH → Prop, k' v H → qt x0 (some a1) (some a2) H k') := by
  let fst : List Bk → Nat → Int := fun l => l.rec (fun _ => -1) (fun q _ ih i => if inB off n q then (i : Int) else ih (i + 1))
  have f0 : ∀ i, fst [] i = -1 := fun _ => rfl
  have f1 : ∀ q r i, fst (q :: r) i = if inB off n q then (i : Int) else fst r (i + 1) := fun _ _ _ => rfl
  refine ⟨fst l 0, ?_, ?_⟩
  ·have : ∀ (r : List Bk) i, 0 ≤ fst r i ↔ ∃ b ∈ r, inB off n b := by
    intro r
    induction r with
    | nil => intro i; rw [f0 i]; simp
    | cons q r ih =>
     intro i
     rw [f1]
     by_cases hq : inB off n q
     ·rw [if_pos hq]; simp [hq]
     ·rw [if_neg hq, ih]; simp [hq]
   rw [this l 0]
   exact ⟨fun hh => ⟨hn.1, hn.2, hh⟩, fun hh => hh.2.2⟩
  ·intro k' hk'
   refine gcI (j := .i64) (fst l 0) (qt.link ?_) hk'
   unfold qt.b
   refine qC (t := (((0 : Int), (0 : Int)) : Int × Int)) (I := fun (t : Int × Int) H' => ∃ i : Nat, t.2 = (i : Int) ∧ i ≤ l.length ∧ H' = H ∧ fst l 0 = fst (l.drop i) i) (m := fun (t : Int × Int) _ => qkS ((l.length : Int) - t.2)) ?_ ⟨0, rfl, by omega, rfl, rfl⟩
   intro t H1 hI it hit
   obtain ⟨t1, t2⟩ := t
   obtain ⟨i, e1, hi, rfl, he⟩ := hI
   simp only at e1
   subst e1
   unfold qt.l1
   simp only [qg, decide_eq_true_eq, hr.1]
   by_cases hlt : (i : Int) < (l.length : Int)
   ·rw [if_pos hlt]
    have hi' : i < l.length := by omega
    obtain ⟨b, o, ha', hb, hcells⟩ := qaz hr (by omega)
    refine ⟨by omega, ?_⟩
    obtain ⟨hrow, _⟩ := hcells i l[i] (qkO hi')
    rw [ha', qe, qkQ, qu hrow]
    rw [qcJ hi', f1] at he
    have hqq := hok _ (qk1 hi')
    generalize l[i] = q at *
    refine qbl.s ha1 hb1 ha2 hb2 hn hqq ?_
    rw [qd (n := (i : Int) + 1) (by omega) (by omega)]
    by_cases hq : inB off n q
    ·rw [if_pos (by simpa using hq)]
     rw [if_pos hq] at he
     exact ⟨qa.refl _, he.symm⟩
    ·rw [if_neg (by simpa using hq)]
     rw [if_neg hq] at he
     exact hit _ _ ⟨i + 1, by simp, by omega, rfl, he⟩ (by simp only; omega)
   ·rw [if_neg hlt]
    have : i = l.length := by omega
    subst this
    rw [qmh] at he
    exact ⟨qa.refl _, he.symm⟩
 obtain ⟨v, hv, hk⟩ := key
 exact main v hv hk
theorem qbs.s {x0 : Sl} {off n : Int} {ws : List Int} {l : List Bk} {k : Bool → AH → Prop} (hr : qk7 H x0 1 wU ws) (h64 : qao ws) (hl : ws.length ≤ 1000) (hbl : blocksN ws = some l)
  (h : k (decide (withinN l off n)) H) : qbs x0 off n H k := by
 refine gcB (decide (withinN l off n)) (qbs.link ?_) h
 unfold qbs.b
 rw [qx, qx]
 have hk := ((qa.refl H).push ⟨[(qkL .i64 off)], .rw, 0⟩).push ⟨[(qkL .i64 n)], .rw, 0⟩
 rw [qm]
 have hc1 : AH.cell? ((H.push ⟨[(qkL .i64 off)], .rw, 0⟩).push ⟨[(qkL .i64 n)], .rw, 0⟩) ⟨H.size, 0, none⟩ = some (.int .i64 off) := by simp [AH.cell?, qr, qm]
 have hc2 : AH.cell? ((H.push ⟨[(qkL .i64 off)], .rw, 0⟩).push ⟨[(qkL .i64 n)], .rw, 0⟩) ⟨H.size + 1, 0, none⟩ = some (.int .i64 n) := by simp [AH.cell?, qr, qm]
 have hs : H.size + 1 < ((H.push ⟨[(qkL .i64 off)], .rw, 0⟩).push ⟨[(qkL .i64 n)], .rw, 0⟩).size := by simp [qm]
 generalize (H.push ⟨[(qkL .i64 off)], .rw, 0⟩).push ⟨[(qkL .i64 n)], .rw, 0⟩ = H1 at *
 simp only [hc2, qf, qg, decide_eq_true_eq]
 unfold qbs.j1
 by_cases c1 : n < 0
 ·rw [if_pos c1, qj]; exact ⟨hk, (decide_eq_false (fun hh => by have := hh.1; omega)).symm⟩
 rw [if_neg c1]
 by_cases c2 : n > 448
 ·rw [decide_eq_true c2, qj]; exact ⟨hk, (decide_eq_false (fun hh => by have := hh.2.1; omega)).symm⟩
 rw [decide_eq_false c2, qc]
 refine qX.s (hr.keep hk) h64 hl ?_ (fun hb => by rw [hbl] at hb; cases hb)
 intro l' hb s H' hk' hO
 obtain rfl := Option.some.inj (hbl.symm.trans hb)
 have hB := qa2 hbl
 have hlen := hB.len
 have cc : ∀ b v, b < H1.size → AH.cell? H1 ⟨b, 0, none⟩ = some v → AH.cell? H' ⟨b, 0, none⟩ = some v := fun b v hb hv => by rw [← hv]; simp only [AH.cell?, hk'.2 _ hb]
 refine qfd.s (hO.rows bkV_len bkV_ok) (by omega) (cc _ _ (by omega) hc1) (by have := hk'.1; show H.size < _; omega) (cc _ _ (by omega) hc2) (by have := hk'.1; show H.size + 1 < _; omega) (by omega) (fun b hb => by have := hB.mem hb; omega) ?_
 exact ⟨hk.trans hk', rfl⟩
theorem qbQ.s {x0 : Sl} {off n : Int} {ws : List Int} {k : Int → AH → Prop} (hr : qk7 H x0 1 wU ws) (h64 : qao ws) (hl : ws.length ≤ 1000)
  (h : k (imgHolds ws off n) H) : qbQ x0 off n H k := by
 refine gcI (j := .i64) (imgHolds ws off n) (qbQ.link ?_) h
 unfold qbQ.b imgHolds
 refine qX.s hr h64 hl ?_ ?_
 ·intro l hb s H' hk _
  rw [hb, qlb, qc]
  refine qbs.s (hr.keep hk) h64 hl hb ?_
  simp only
  by_cases hw : withinN l off n
  ·rw [decide_eq_true hw, qlb, qc, if_pos hw]; exact ⟨hk, rfl⟩
  ·rw [decide_eq_false hw, qlj, qj, if_neg hw]; exact ⟨hk, rfl⟩
 ·intro hb H' hk
  rw [hb, qlj, qj]; exact ⟨hk, rfl⟩
theorem qco.s {x0 : Sl} {off n : Int} {ws : List Int} {k : Sl → Int → AH → Prop} (hr : qk7 H x0 1 wU ws) (h64 : qao ws) (hl : ws.length ≤ 1000) (ho : isI off)
  (h : ∀ s H', qa H H' → Own H.size H' s 1 bU (imgRead ws off n).1 → k s (imgRead ws off n).2 H') : qco x0 off n H k := by
 unfold isI at ho
 refine qco.link ?_
 unfold qco.b
 refine qbQ.s hr h64 hl ?_
 unfold imgRead at h
 unfold imgHolds
 cases hb : blocksN ws with
 | none =>
  rw [hb] at h
  exact h _ _ (qa.refl H) (.inl ⟨rfl, rfl⟩)
 | some l =>
  rw [hb] at h
  simp only at h ⊢
  by_cases hw : withinN l off n
  ·rw [if_pos hw] at h ⊢
   refine qbP.s hr h64 (by omega) (by omega) ?_ (fun hn => absurd (qcA (qa2 hb) hw) hn)
   intro _ s H' hk hO
   exact h _ _ hk hO
  ·rw [if_neg hw] at h ⊢
   exact h _ _ (qa.refl H) (.inl ⟨rfl, rfl⟩)
theorem qb9.s {x0 x2 : Sl} {off : Int} {ws bs : List Int} {k : Sl → Int → AH → Prop} (hr : qk7 H x0 1 wU ws) (h64 : qao ws) (hl : ws.length ≤ 1000) (ho : isI off) (hb : qk7 H x2 1 bU bs) (h8 : qcs bs)
  (h : ∀ s H', qa H H' → Own H.size H' s 2 eU (imgWrite ws off bs).1 → k s (imgWrite ws off bs).2 H') : qb9 x0 off x2 H k := by
 unfold isI at ho
 refine qb9.link ?_
 unfold qb9.b
 rw [hb.1]
 refine qbQ.s hr h64 hl ?_
 unfold imgWrite at h
 unfold imgHolds
 cases hbk : blocksN ws with
 | none =>
  rw [hbk] at h
  exact h _ _ (qa.refl H) (.inl ⟨rfl, rfl⟩)
 | some l =>
  rw [hbk] at h
  simp only at h ⊢
  by_cases hw : withinN l off bs.length
  ·rw [if_pos hw] at h ⊢
   refine qaq.s hr h64 (by omega) hb h8 (by omega) ?_ (fun hn => absurd (qcA (qa2 hbk) hw) hn)
   intro _ s H' hk hO
   exact h _ _ hk hO
  ·rw [if_neg hw] at h ⊢
   exact h _ _ (qa.refl H) (.inl ⟨rfl, rfl⟩)
end
theorem qiW (b : Bk) (r : List Bk) : ∀ j, sumTo (b :: r) 0 (j + 1) = b.2.1 + sumTo r 0 j := by
 intro j
 induction j with
 | zero => simp [sumTo, bkAt]
 | succ j ih =>
  rw [sumTo, ih]
  simp only [sumTo, qk6]
  have : bkAt (b :: r) (j + 1) = bkAt r j := rfl
  rw [this]; omega
theorem chainB.sum {words : Int} : ∀ {l : List Bk} {pt : Int} {pu : Bool}, chainB words pt pu l → ∀ j, j ≤ l.length → 0 ≤ sumTo l 0 j ∧ pt + sumTo l 0 j ≤ words ∧ (j = l.length → pt + sumTo l 0 j = words) := by
 intro l
 induction l with
 | nil => intro pt pu h j hj; simp only [chainB] at h; simp at hj; subst hj; simp [sumTo]; omega
 | cons b r ih =>
  intro pt pu h j hj
  have hs := h.2.1
  unfold mayS at hs
  cases j with
  | zero => have := ih h.2.2.2.2 0 (by omega); simp [sumTo] at this ⊢; omega
  | succ j =>
   have := ih h.2.2.2.2 j (by simpa using hj)
   rw [qiW]
   refine ⟨by omega, by omega, fun hh => ?_⟩
   have := this.2.2 (by simpa using hh)
   omega
theorem MayB.sum {l : List Bk} {words : Int} (h : MayB l words) {j : Nat} (hj : j ≤ l.length) : 0 ≤ sumTo l 0 j ∧ sumTo l 0 j ≤ 512 := by
 have := h.2.sum j hj
 have := h.len
 omega
theorem qjQ (l : List Bk) (F : Nat) : ∀ j, sumTo l 0 (F + j) = sumTo l 0 F + sumTo l F j := by
 intro j
 induction j with
 | zero => simp [sumTo]
 | succ j ih => rw [← Nat.add_assoc]; simp only [sumTo]; rw [ih, qk6]; omega
theorem qiZ (l : List Bk) {F n : Nat} (h : F + n ≤ l.length) : ∀ j, j ≤ n → sumTo ((l.drop F).take n) 0 j = sumTo l F j := by
 intro j
 induction j with
 | zero => intro _; rfl
 | succ j ih =>
  intro hj
  simp only [sumTo, qk6]
  rw [ih (by omega)]
  congr 2
  unfold bkAt
  rw [qkP, qkP, qlD, if_pos (by omega), qlE]
def takenL (b : Bk) (need : Int) : List Bk := (b.1, takesN b.2.1 need, true) :: (if takesN b.2.1 need < b.2.1 then [(b.1 + takesN b.2.1 need, b.2.1 - takesN b.2.1 need, false)] else [])
def preE (b : Bk) (j : Nat) : List (Int × Int) := if b.2.2 = true then carveTo b.1 b.2.1 j else [(b.1, wordN b.2.1 false)]
def eOf (b : Bk) : List (Int × Int) := preE b b.2.1.toNat
theorem qhK (b : Bk) (need : Int) : carveE b need = (takenL b need).flatMap eOf := by
 unfold carveE takenL
 rw [qlz]
 congr 1
 by_cases h : takesN b.2.1 need < b.2.1
 ·rw [if_pos h, if_pos h]; rfl
 ·rw [if_neg h, if_neg h]; rfl
section
variable {H : AH}
theorem qax.s {x0 : Sl} {l : List Bk} {k : Int → AH → Prop} (hr : qk7 H x0 3 bkV l) (hl : l.length ≤ 1000) (hm : ∀ b ∈ l, mayS b.2.1) (hs : ∀ j, j ≤ l.length → 0 ≤ sumTo l 0 j ∧ sumTo l 0 j ≤ 512)
  (h : k (sumTo l 0 l.length) H) : qax x0 H k := by
 refine gcI (j := .i64) (sumTo l 0 l.length) (qax.link ?_) h
 unfold qax.b
 refine qC (t := (((0 : Int), (0 : Int), (0 : Int)) : Int × Int × Int)) (I := fun (t : Int × Int × Int) H' => ∃ i : Nat, t.2.2 = (i : Int) ∧ i ≤ l.length ∧ qa H H' ∧ t.2.1 = sumTo l 0 i) (m := fun (t : Int × Int × Int) _ => qkS ((l.length : Int) - t.2.2)) ?_ ⟨0, rfl, by omega, qa.refl H, rfl⟩
 intro t H1 hI it hit
 obtain ⟨t1, pt, t3⟩ := t
 obtain ⟨i, e1, hi, hk, e2⟩ := hI
 simp only at e1 e2
 subst e1 e2
 unfold qax.l2
 simp only [qg, decide_eq_true_eq, hr.1]
 by_cases hlt : (i : Int) < (l.length : Int)
 ·rw [if_pos hlt]
  have hi' : i < l.length := by omega
  obtain ⟨b, o, ha, hb, hcells⟩ := qaz (hr.keep hk) (by omega)
  refine ⟨by omega, ?_⟩
  have hgi := qad hi'
  obtain ⟨hrow, _⟩ := hcells i _ hgi
  rw [ha, qe, qkQ, qu hrow]
  have hmq := hm _ (qkY hgi)
  have hs0 := hs i (by omega)
  have hs1 := hs (i + 1) (by omega)
  have hS : sumTo l 0 (i + 1) = sumTo l 0 i + (bkAt l i).2.1 := by simp only [sumTo, qk6]
  generalize bkAt l i = q at *
  refine qbu (n := 3) rfl (bkV_len q) (bkV_ok q) ?_
  have hB : BkAt (H1.push ⟨bkV q, .rw, 0⟩) H1.size q := BkAt.new
  have hk2 : qa H (H1.push ⟨bkV q, .rw, 0⟩) := hk.push _
  generalize H1.push ⟨bkV q, .rw, 0⟩ = H2 at *
  simp only [hB.c1, qf]
  refine qbk.s ?_
  rw [decide_eq_true hmq, if_neg (by simp)]
  unfold qax.j1
  rw [decide_eq_false (show ¬ sumTo l 0 i > 512 by omega), qc, hB.c1, qf, qd (n := sumTo l 0 i + q.2.1) (by omega) (by omega), qd (n := (i : Int) + 1) (by omega) (by omega)]
  exact hit _ _ ⟨i + 1, by simp, by omega, hk2, hS.symm⟩ (by simp only; omega)
 ·rw [if_neg hlt]
  have : i = l.length := by omega
  subst this
  exact ⟨hk, rfl⟩
theorem qaP.s {x0 : Sl} {l : List Bk} {k : Int → AH → Prop} (hr : qk7 H x0 3 bkV l) (hl : l.length ≤ 1000) (hm : ∀ b ∈ l, mayS b.2.1) (hs : ∀ j, j ≤ l.length → 0 ≤ sumTo l 0 j ∧ sumTo l 0 j ≤ 512)
  (h : k (sumTo l 0 l.length) H) : qaP x0 H k := by
 refine gcI (j := .i64) (sumTo l 0 l.length) (qaP.link ?_) h
 unfold qaP.b
 refine qC (t := (((0 : Int), (0 : Int), (0 : Int)) : Int × Int × Int)) (I := fun (t : Int × Int × Int) H' => ∃ i : Nat, t.2.2 = (i : Int) ∧ i ≤ l.length ∧ qa H H' ∧ t.2.1 = sumTo l 0 i) (m := fun (t : Int × Int × Int) _ => qkS ((l.length : Int) - t.2.2)) ?_ ⟨0, rfl, by omega, qa.refl H, rfl⟩
 intro t H1 hI it hit
 obtain ⟨t1, pt, t3⟩ := t
 obtain ⟨i, e1, hi, hk, e2⟩ := hI
 simp only at e1 e2
 subst e1 e2
 unfold qaP.l2
 simp only [qg, decide_eq_true_eq, hr.1]
 by_cases hlt : (i : Int) < (l.length : Int)
 ·rw [if_pos hlt]
  have hi' : i < l.length := by omega
  obtain ⟨b, o, ha, hb, hcells⟩ := qaz (hr.keep hk) (by omega)
  refine ⟨by omega, ?_⟩
  have hgi := qad hi'
  obtain ⟨hrow, _⟩ := hcells i _ hgi
  rw [ha, qe, qkQ, qu hrow]
  have hmq := hm _ (qkY hgi)
  have hs0 := hs i (by omega)
  have hs1 := hs (i + 1) (by omega)
  have hS : sumTo l 0 (i + 1) = sumTo l 0 i + (bkAt l i).2.1 := by simp only [sumTo, qk6]
  generalize bkAt l i = q at *
  refine qbu (n := 3) rfl (bkV_len q) (bkV_ok q) ?_
  have hB : BkAt (H1.push ⟨bkV q, .rw, 0⟩) H1.size q := BkAt.new
  have hk2 : qa H (H1.push ⟨bkV q, .rw, 0⟩) := hk.push _
  generalize H1.push ⟨bkV q, .rw, 0⟩ = H2 at *
  simp only [hB.c1, qf]
  refine qbk.s ?_
  rw [decide_eq_true hmq, if_neg (by simp)]
  unfold qaP.j1
  rw [decide_eq_false (show ¬ sumTo l 0 i > 512 by omega), qc, hB.c1, qf, qd (n := sumTo l 0 i + q.2.1) (by omega) (by omega), qd (n := (i : Int) + 1) (by omega) (by omega)]
  exact hit _ _ ⟨i + 1, by simp, by omega, hk2, hS.symm⟩ (by simp only; omega)
 ·rw [if_neg hlt]
  have : i = l.length := by omega
  subst this
  exact ⟨hk, rfl⟩
theorem MayB.mays {l : List Bk} {words : Int} (hB : MayB l words) : ∀ b ∈ l, mayS b.2.1 := fun b hb => (hB.2.mem b hb).2.2
theorem MayB.tot {l : List Bk} {words : Int} (hB : MayB l words) : sumTo l 0 l.length = words := by
 have := (hB.2.sum l.length (qkV _)).2.2 rfl; omega
theorem qba.s {x0 : Sl} {need words : Int} {l : List Bk} {i : Nat} {k : Sl → AH → Prop} (hr : qk7 H x0 3 bkV l) (hB : MayB l words) (hi : i < l.length) (hu : (bkAt l i).2.2 = false) (hn : 2 ≤ need ∧ need ≤ (bkAt l i).2.1)
  (h : ∀ s H', qa H H' → Own H.size H' s 3 bkV (takenL (bkAt l i) need) → k s H') : qba x0 (i : Int) need H k := by
 have hlen := hB.len
 have hgi := qad hi
 have hm := hB.mem (qkY hgi)
 refine qba.link ?_
 unfold qba.b
 refine qaP.s hr (by omega) hB.mays (fun j hj => hB.sum hj) ?_
 rw [hB.tot]
 refine qah.s hr (by omega) (fun b hb => by have := hB.mem hb; omega) (by have := hB.1; unfold mayW at this; omega) ?_
 rw [decide_eq_true hB, qlb, qc]
 obtain ⟨b, o, ha, hb, hcells⟩ := qaz hr (by omega)
 obtain ⟨hrow, hcell⟩ := hcells i _ hgi
 have c2 := hcell 2 _ rfl
 generalize bkAt l i = q at *
 have hti : qkS (i : Int) = i := qkQ i
 have htk : takesN q.2.1 need ≠ 0 ∧ 2 ≤ takesN q.2.1 need ∧ takesN q.2.1 need ≤ q.2.1 := by
  unfold takesN; rw [if_pos ⟨hn.1, hn.2⟩]; split <;> omega
 simp only [qg, decide_eq_true_eq, hr.1, ha, qe, hti, c2, qaK]
 rw [if_neg (by omega), if_neg (by omega)]
 refine ⟨by omega, ?_⟩
 unfold qba.j1
 rw [hu, qc, hr.1]
 refine ⟨by omega, ?_⟩
 simp only [ha, qe, hti]
 rw [qu hrow]
 refine qbu (n := 3) rfl (bkV_len q) (bkV_ok q) ?_
 have hBk : BkAt (H.push ⟨bkV q, .rw, 0⟩) H.size q := BkAt.new
 have hk : qa H (H.push ⟨bkV q, .rw, 0⟩) := (qa.refl H).push _
 have hsz : H.size < (H.push ⟨bkV q, .rw, 0⟩).size := by simp [qm]
 generalize H.push ⟨bkV q, .rw, 0⟩ = H1 at *
 rw [hBk.c1, qf]
 refine qbZ.s (by omega) (by omega) ?_
 unfold takenL at h
 generalize takesN q.2.1 need = tk at *
 rw [show (tk == 0) = false by simp [htk.1], qc, hBk.c0, qf]
 refine ⟨rfl, ?_⟩
 rw [qx]
 have e1 : [qkL .i64 q.1, qkL .i64 tk, qln true] = bkV (q.1, tk, true) := rfl
 rw [e1]
 have hO : Own H1.size (H1.push ⟨bkV (q.1, tk, true), .rw, 3⟩) ⟨some ⟨H1.size, 0, none⟩, 1, 1⟩ 3 bkV [(q.1, tk, true)] := .inr ⟨H1.size, rfl, qkV _, by simp [qm], by rw [qr, if_pos rfl]; rfl⟩
 have hk2 : qa H1 (H1.push ⟨bkV (q.1, tk, true), .rw, 3⟩) := (qa.refl H1).push _
 have hB2 : BkAt (H1.push ⟨bkV (q.1, tk, true), .rw, 3⟩) H.size q := hBk.keep (hk2.2 _ hsz)
 generalize H1.push ⟨bkV (q.1, tk, true), .rw, 3⟩ = H2 at *
 simp only [hB2.c1, hB2.c0, qf, qg, decide_eq_true_eq]
 by_cases hc : tk < q.2.1
 ·rw [if_pos hc] at h ⊢
  refine ⟨rfl, ?_⟩
  rw [qx, qd (n := q.1 + tk) (by omega) (by omega), qd (n := q.2.1 - tk) (by omega) (by omega)]
  have e2 : [qkL .i64 (q.1 + tk), qkL .i64 (q.2.1 - tk), qln false] = bkV (q.1 + tk, q.2.1 - tk, false) := rfl
  rw [e2]
  refine qa7 (H0 := H1) (B := H1.size) bkV_len (bkV_ok _) hO (qkV _) hk2.1 hk2 (by simp [lim]) ?_
  intro s' H' hO' hk' _ _
  exact h _ _ (hk.trans hk') (qcj hO' hk.1)
 ·rw [if_neg hc] at h ⊢
  exact h _ _ (hk.trans hk2) (qcj hO hk.1)
end
section
variable {H : AH}
theorem qfs (a b : Int) {j : Nat} (hj : 1 ≤ j) : (carveTo a b j).length = j := by unfold carveTo; simp; omega
theorem qam.s {x0 : Sl} {need words : Int} {l : List Bk} {i : Nat} {k : Sl → AH → Prop} (hr : qk7 H x0 3 bkV l) (hB : MayB l words) (hi : i < l.length) (hu : (bkAt l i).2.2 = false) (hn : 2 ≤ need ∧ need ≤ (bkAt l i).2.1)
  (h : ∀ s H', qa H H' → Own H.size H' s 2 eU (carveE (bkAt l i) need) → k s H') : qam x0 (i : Int) need H k := by
 have hgi := qad hi
 have hm := hB.mem (qkY hgi)
 have hlen := hB.len
 refine qam.link ?_
 unfold qam.b
 refine qba.s hr hB hi hu hn ?_
 intro s14 H14 hk14 hO14
 rw [qhK] at h
 have hR := hO14.rows bkV_len bkV_ok
 generalize bkAt l i = q at *
 have htk : 2 ≤ takesN q.2.1 need ∧ takesN q.2.1 need ≤ q.2.1 := by
  unfold takesN; rw [if_pos ⟨hn.1, hn.2⟩]; split <;> omega
 have htok : ∀ b ∈ takenL q need, 0 ≤ b.1 ∧ b.1 ≤ 1000 ∧ 1 ≤ b.2.1 ∧ b.2.1 ≤ 512 := by
  intro b hb
  unfold takenL at hb
  rw [qk8] at hb
  rcases hb with rfl | hb
  ·simp only; omega
  ·split at hb
   ·simp at hb; subst hb; simp only; omega
   ·cases hb
 have htl : (takenL q need).length ≤ 2 := by unfold takenL; split <;> simp
 have eOl : ∀ b ∈ takenL q need, (eOf b).length ≤ 512 := by
  intro b hb
  have := htok b hb
  unfold eOf preE
  split
  ·rw [qfs _ _ (by omega)]; omega
  ·simp
 generalize takenL q need = tl at *
 have accl : ∀ j, j ≤ tl.length → ((tl.take j).flatMap eOf).length ≤ 512 * j := by
  intro j
  induction j with
  | zero => intro _; simp
  | succ j ih =>
   intro hj
   have := ih (by omega)
   rw [qmd, qkO (by omega), qlX, ql1, qlu]
   have := eOl _ (qk1 (show j < tl.length by omega))
   simp only [qlz, List.flatMap_nil, List.append_nil]; omega
 refine qC (t := ((⟨none, 0, 0⟩, (0 : Int)) : Sl × Int)) (I := fun (t : Sl × Int) H' => ∃ j : Nat, t.2 = (j : Int) ∧ j ≤ tl.length ∧ qa H14 H' ∧ Own H14.size H' t.1 2 eU ((tl.take j).flatMap eOf)) (m := fun (t : Sl × Int) _ => qkS ((tl.length : Int) - t.2)) ?_ ⟨0, rfl, by omega, qa.refl _, .inl ⟨rfl, by simp⟩⟩
 intro t H1 hI it hit
 obtain ⟨s, t2⟩ := t
 obtain ⟨j, e1, hj, hk, hO⟩ := hI
 simp only at e1 hO
 subst e1
 unfold qam.l3
 simp only [qg, decide_eq_true_eq, hR.1]
 by_cases hlt : (j : Int) < (tl.length : Int)
 ·rw [if_pos hlt]
  have hj' : j < tl.length := by omega
  obtain ⟨b, o, ha, hb, hcells⟩ := qaz (hR.keep hk) (by omega)
  refine ⟨by omega, ?_⟩
  have hg := qkO hj'
  obtain ⟨hrow, _⟩ := hcells j _ hg
  rw [ha, qe, qkQ, qu hrow]
  have hq := htok _ (qk1 hj')
  have hacc := accl j (by omega)
  have hnext : (tl.take (j + 1)).flatMap eOf = (tl.take j).flatMap eOf ++ eOf tl[j] := by
   rw [qmd, hg, qlX, ql1]; simp
  generalize tl[j] = c at *
  generalize (tl.take j).flatMap eOf = acc at *
  refine qbu (n := 3) rfl (bkV_len c) (bkV_ok c) ?_
  have hC : BkAt (H1.push ⟨bkV c, .rw, 0⟩) H1.size c := BkAt.new
  have hk2 : qa H14 (H1.push ⟨bkV c, .rw, 0⟩) := hk.push _
  have hkk : qa H1 (H1.push ⟨bkV c, .rw, 0⟩) := (qa.refl H1).push _
  have hsz : H1.size < (H1.push ⟨bkV c, .rw, 0⟩).size := by simp [qm]
  have hO2 : Own H14.size (H1.push ⟨bkV c, .rw, 0⟩) s 2 eU acc := hO.keep hkk.1 (fun b _ hb => hkk.2 _ hb)
  have hs1 : ∀ a, s.a = some a → a.block < H1.size := by
   intro a ha'
   rcases hO with ⟨rfl, _⟩ | ⟨b', rfl, _, h2, _⟩
   ·cases ha'
   ·simp at ha'; subst ha'; exact h2
  generalize hoo : H1.size = oc at *
  generalize H1.push ⟨bkV c, .rw, 0⟩ = H2 at *
  simp only [hC.c0, hC.c1, hC.c2, qf, qaK]
  refine qbM.s ⟨hC.c0, rfl, ?_⟩
  rw [qx]
  have e1 : [qkL .i64 c.1, qkL .u64 (wordN c.2.1 c.2.2)] = eU (c.1, wordN c.2.1 c.2.2) := rfl
  rw [e1]
  have hpre1 : preE c 1 = [(c.1, wordN c.2.1 c.2.2)] := by
   unfold preE
   by_cases hu : c.2.2 = true
   ·rw [if_pos hu, hu]; rfl
   ·rw [if_neg hu]
    have : c.2.2 = false := by simpa using hu
    rw [this]
  refine qa7 (H0 := H14) (B := H14.size) eU_len (eU_ok _) hO2 (qkV _) hk2.1 hk2 (by simp only [lim]; omega) ?_
  intro s30 H30 hO30 hk30 hsz30 hold30
  rw [← hpre1] at hO30
  have hC30 : BkAt H30 oc c := hC.keep (hold30 _ hsz (fun a ha' => by have := hs1 a ha'; omega))
  have hwi : qkM .i64 ((j : Int) + 1) = ((j + 1 : Nat) : Int) := by rw [qd (by omega) (by omega)]; omega
  have fin : ∀ s' H', qa H14 H' → Own H14.size H' s' 2 eU (acc ++ eOf c) → it (s', ((j + 1 : Nat) : Int)) H' := by
   intro s' H' hk' hO'
   rw [← hnext] at hO'
   exact hit _ _ ⟨j + 1, rfl, by omega, hk', hO'⟩ (by simp only; omega)
  refine qC (t := ((s30, (1 : Int)) : Sl × Int)) (I := fun (t : Sl × Int) H' => ∃ m : Nat, t.2 = (m : Int) ∧ 1 ≤ m ∧ (m : Int) ≤ c.2.1 ∧ qa H14 H' ∧ BkAt H' oc c ∧ Own H14.size H' t.1 2 eU (acc ++ preE c m) ∧ oc < H'.size ∧ (∀ a, t.1.a = some a → a.block ≠ oc)) (m := fun (t : Sl × Int) _ => qkS (c.2.1 - t.2)) ?_ ⟨1, rfl, by omega, by omega, hk30, hC30, hO30, by omega, ?_⟩
  rotate_left 1
  ·intro a ha' hab
   rcases hO30 with ⟨e, _⟩ | ⟨b', e, _, h2, h3⟩
   ·simp only at ha'; rw [e] at ha'; cases ha'
   ·simp only at ha'; rw [e] at ha'; simp at ha'; subst ha'
    simp only at hab; subst hab
    obtain ⟨e', he'⟩ := hC30
    rw [he'] at h3
    injection h3 with h3
    have := congrArg qk0 h3
    rw [bkV_len] at this
    simp only [ql1, qlu] at this
    have e4 : ∀ l : List (Int × Int), (l.flatMap eU).length = 2 * l.length := by
     intro l; induction l with
     | nil => rfl
     | cons a r ih => rw [qlz, qlu, ih, eU_len]; simp; omega
    rw [e4, e4] at this; omega
  intro t3 H3 hI3 it3 hit3
  obtain ⟨s3, m3⟩ := t3
  obtain ⟨m, e3, hm1, hm2, hk3, hC3, hO3, hsz3, hne3⟩ := hI3
  simp only at e3 hO3 hne3
  subst e3
  unfold qam.l2
  simp only [hC3.c1, hC3.c2, qf, qaK, qg, decide_eq_true_eq]
  have hpl : (preE c m).length ≤ 512 := by
   unfold preE; split
   ·rw [qfs _ _ hm1]; omega
   ·simp
  have stop : ((m : Int) = c.2.1 ∨ c.2.2 = false) → qam.j1 (s, (j : Int)) it oc (s3, (m : Int)) it3 H3 false := by
   intro hh
   unfold qam.j1
   rw [qc, hwi]
   refine fin _ _ hk3 ?_
   have : eOf c = preE c m := by
    unfold eOf
    rcases hh with hh | hh
    ·rw [← hh, qkQ]
    ·unfold preE; rw [if_neg (by simp [hh]), if_neg (by simp [hh])]
   rw [this]; exact hO3
  by_cases hml : (m : Int) < c.2.1
  ·rw [if_pos hml]
   by_cases hu : c.2.2 = true
   ·rw [hu]
    unfold qam.j1
    rw [qj, hC3.c0, qf]
    refine ⟨rfl, ?_⟩
    rw [qx, qd (n := c.1 + (m : Int)) (by omega) (by omega), qd (n := (m : Int) + 1) (by omega) (by omega)]
    have e4 : [qkL .i64 (c.1 + (m : Int)), qkL .u64 0] = eU (c.1 + (m : Int), 0) := rfl
    rw [e4]
    refine qa7 (H0 := H14) (B := H14.size) eU_len (eU_ok _) hO3 (qkV _) hk3.1 hk3 (by rw [qlu]; simp only [lim]; omega) ?_
    intro s' H' hO' hk' hsz' hold'
    have hpre : preE c m ++ [(c.1 + (m : Int), 0)] = preE c (m + 1) := by
     unfold preE
     rw [if_pos hu, if_pos hu, qd2 _ _ hm1]
    rw [ql8, hpre] at hO'
    have hC' : BkAt H' oc c := hC3.keep (hold' _ hsz3 (fun a ha' => fun hh => hne3 a ha' hh.symm))
    refine hit3 _ _ ⟨m + 1, by simp, by omega, by omega, hk', hC', hO', by omega, ?_⟩ (by simp only; omega)
    intro a ha' hab
    rcases hO' with ⟨e, _⟩ | ⟨b', e, _, h2, h3⟩
    ·simp only at ha'; rw [e] at ha'; cases ha'
    ·simp only at ha'; rw [e] at ha'; simp at ha'; subst ha'
     simp only at hab; subst hab
     obtain ⟨e', he'⟩ := hC'
     rw [he'] at h3
     injection h3 with h3
     have := congrArg qk0 h3
     rw [bkV_len] at this
     have e4 : ∀ l : List (Int × Int), (l.flatMap eU).length = 2 * l.length := by
      intro l; induction l with
      | nil => rfl
      | cons a r ih => rw [qlz, qlu, ih, eU_len]; simp; omega
     rw [e4] at this; omega
   ·have hu' : c.2.2 = false := by simpa using hu
    rw [hu']; exact stop (.inr hu')
  ·rw [if_neg hml]; exact stop (.inl (by omega))
 ·rw [if_neg hlt]
  have : j = tl.length := by omega
  subst this
  rw [qlH] at hO
  exact h _ _ (hk14.trans hk) (qcj hO hk14.1)
end
section
variable {H : AH}
theorem qD.s0 {x0 : Sl} {words i : Int} {l : List Bk} {k : Int → Int → Bool → AH → Prop} (hr : qk7 H x0 3 bkV l) (hB : MayB l words) (hi : i < 0) (h : k 0 0 false H) : qD x0 i H k := by
 have hlen := hB.len
 refine qD.link ?_
 unfold qD.b
 refine qax.s hr (by omega) hB.mays (fun j hj => hB.sum hj) ?_
 rw [hB.tot]
 refine qah.s hr (by omega) (fun b hb => by have := hB.mem hb; omega) (by have := hB.1; unfold mayW at this; omega) ?_
 rw [decide_eq_true hB, qlb, qc, decide_eq_true hi, qj]
 unfold qD.j4
 rw [qj]
 exact h
theorem qD.s {x0 : Sl} {words : Int} {l : List Bk} {i : Nat} {k : Int → Int → Bool → AH → Prop} (hr : qk7 H x0 3 bkV l) (hB : MayB l words) (hi : i < l.length) (hu : (bkAt l i).2.2 = true)
  (h : k (mFrom l i : Nat) (mTo l i : Nat) true H) : qD x0 (i : Int) H k := by
 have hlen := hB.len
 have hgi := qad hi
 refine qD.link ?_
 unfold qD.b
 refine qax.s hr (by omega) hB.mays (fun j hj => hB.sum hj) ?_
 rw [hB.tot]
 refine qah.s hr (by omega) (fun b hb => by have := hB.mem hb; omega) (by have := hB.1; unfold mayW at this; omega) ?_
 rw [decide_eq_true hB, qlb, qc]
 obtain ⟨b, o, ha, hb, hcells⟩ := qaz hr (by omega)
 have hcell : ∀ j, j < l.length → ∀ t v, (bkV (bkAt l j))[t]? = some v → AH.cell? H (qkN (qkN ⟨b, o, none⟩ (j * 3)) t) = some v := fun j hj => (hcells j _ (qad hj)).2
 have hti : qkS (i : Int) = i := qkQ i
 simp only [qg, decide_eq_true_eq, hr.1, ha, qe, hti, hcell i hi 2 _ rfl, qaK]
 rw [if_neg (by omega), if_neg (by omega)]
 refine ⟨by omega, ?_⟩
 rw [hu]
 unfold qD.j4
 rw [qlb, qc]
 have hw1 : qkM .i64 ((i : Int) + 1) = ((i + 1 : Nat) : Int) := by rw [qd (by omega) (by omega)]; omega
 have hw2 : qkM .i64 (((i + 1 : Nat) : Int) + 1) = ((i + 2 : Nat) : Int) := by rw [qd (by omega) (by omega)]; omega
 have j2 : qD.j2 x0 (i : Int) k H (mFrom l i : Nat) := by
  unfold qD.j2
  simp only [qg, decide_eq_true_eq, hr.1, ha, qe, hw1, qkQ]
  have j1 : ∀ x : Bool, (x = true ↔ (i + 1 < l.length ∧ (bkAt l (i + 1)).2.2 = false)) → qD.j1 (i : Int) k H (mFrom l i : Nat) x := by
   intro x hx
   unfold qD.j1
   rw [hw1, hw2, qg]
   unfold mTo at h
   by_cases hx' : x = true
   ·rw [if_pos hx']; rw [if_pos (hx.1 hx')] at h; exact h
   ·rw [if_neg hx']; rw [if_neg (fun hh => hx' (hx.2 hh))] at h; exact h
  by_cases hc : ((i + 1 : Nat) : Int) < (l.length : Int)
  ·rw [if_pos hc]
   refine ⟨by omega, ?_⟩
   rw [hcell (i + 1) (by omega) 2 _ rfl, qaK]
   refine j1 _ ?_
   simp
   omega
  ·rw [if_neg hc]
   exact j1 false ⟨fun hh => (by cases hh), fun hh => by omega⟩
 have j3 : ∀ x : Bool, (x = true ↔ (0 < i ∧ (bkAt l (i - 1)).2.2 = false)) → qD.j3 x0 (i : Int) k H x := by
  intro x hx
  unfold qD.j3
  rw [qg]
  unfold mFrom at j2
  by_cases hx' : x = true
  ·rw [if_pos hx']
   have := hx.1 hx'
   rw [if_pos this] at j2
   rw [qd (n := (i : Int) - 1) (by omega) (by omega), show (i : Int) - 1 = ((i - 1 : Nat) : Int) by omega]
   exact j2
  ·rw [if_neg hx']
   rw [if_neg (fun hh => hx' (hx.2 hh))] at j2
   exact j2
 simp only [qg, decide_eq_true_eq, hr.1, ha, qe]
 by_cases hc : (i : Int) > 0
 ·rw [if_pos hc, qd (n := (i : Int) - 1) (by omega) (by omega), show (i : Int) - 1 = ((i - 1 : Nat) : Int) by omega, qkQ]
  refine ⟨by omega, ?_⟩
  rw [hcell (i - 1) (by omega) 2 _ rfl, qaK]
  refine j3 _ ?_
  simp
  omega
 ·rw [if_neg hc]
  exact j3 false ⟨fun hh => (by cases hh), fun hh => by omega⟩
def mEdit (l : List Bk) (i : Nat) : Int × Int := ((bkAt l (mFrom l i)).1, wordN (sumTo l (mFrom l i) (mTo l i - mFrom l i)) false)
theorem qbe.s0 {x0 : Sl} {words i : Int} {l : List Bk} {k : List Value → Bool → AH → Prop} (hr : qk7 H x0 3 bkV l) (hB : MayB l words) (hi : i < 0) (h : ∀ H', qa H H' → k (eU (0, 0)) false H') : qbe x0 i H k := by
 refine qbe.link ?_
 unfold qbe.b
 rw [qx]
 have hk : qa H (H.push ⟨[qkL .i64 0, qkL .u64 0], .rw, 0⟩) := (qa.refl H).push _
 refine qD.s0 (hr.keep hk) hB hi ?_
 rw [qlj, qj]
 refine ⟨⟨rfl, rfl⟩, ?_⟩
 rw [qbA]
 refine ⟨qcp.2 (by simp), ?_⟩
 rw [qc5]
 have e1 : setMany [qkL .i64 0, qkL .u64 0] 0 [qkL .i64 0, qkL .u64 0] = eU (0, 0) := rfl
 rw [e1]
 rw [qu (cs := eU (0, 0)) (by simp [AH.row?, qr, eU, qq])]
 exact h _ ((qa.refl H).push _)
theorem qbe.s {x0 : Sl} {words : Int} {l : List Bk} {i : Nat} {k : List Value → Bool → AH → Prop} (hr : qk7 H x0 3 bkV l) (hB : MayB l words) (hi : i < l.length) (hu : (bkAt l i).2.2 = true)
  (h : ∀ H', qa H H' → k (eU (mEdit l i)) true H') : qbe x0 (i : Int) H k := by
 have hlen := hB.len
 refine qbe.link ?_
 unfold qbe.b
 rw [qx]
 have hk : qa H (H.push ⟨[qkL .i64 0, qkL .u64 0], .rw, 0⟩) := (qa.refl H).push _
 have hr1 := hr.keep hk
 refine qD.s hr1 hB hi hu ?_
 rw [qlb, qc, hr.1]
 have hF : mFrom l i ≤ i := by unfold mFrom; split <;> omega
 have hT : i < mTo l i ∧ mTo l i ≤ i + 2 ∧ mTo l i ≤ l.length := by unfold mTo; split <;> omega
 refine ⟨by omega, ?_⟩
 obtain ⟨b, o, ha, hb, hcells⟩ := qaz hr1 (by omega)
 have c0 := (hcells (mFrom l i) _ (qad (by omega))).2 0 _ rfl
 rw [ha, qe, qkQ, c0, qf]
 refine ⟨by omega, ?_⟩
 have hpart := qiZ l (F := mFrom l i) (n := mTo l i - mFrom l i) (by omega)
 have hlp : ((l.drop (mFrom l i)).take (mTo l i - mFrom l i)).length = mTo l i - mFrom l i := by simp; omega
 have rp := qdt (qdm hr1 (k := mFrom l i) (by omega)) (k := mTo l i - mFrom l i) (by simp; omega)
 rw [ha] at rp
 simp only [qle] at rp ⊢
 rw [show (qkS ((mTo l i : Nat) : Int) - mFrom l i) = mTo l i - mFrom l i by rw [qkQ]]
 refine qax.s rp (by omega) (fun b hb => hB.mays b (List.mem_of_mem_drop (List.mem_of_mem_take hb))) ?_ ?_
 ·intro j hj
  rw [hlp] at hj
  rw [hpart j hj]
  have h1 := qjQ l (mFrom l i) j
  have h2 := hB.sum (j := mFrom l i + j) (by omega)
  have h3 := hB.sum (j := mFrom l i) (by omega)
  have h4 : ∀ j, j ≤ mTo l i - mFrom l i → 0 ≤ sumTo l (mFrom l i) j := by
   intro j
   induction j with
   | zero => intro _; simp [sumTo]
   | succ j ih =>
    intro hj
    have := ih (by omega)
    have := hB.mem (qkY (qad (l := l) (i := mFrom l i + j) (by omega)))
    simp only [sumTo]; omega
  have := h4 j hj
  omega
 rw [hlp, hpart _ (qkV _)]
 refine ⟨c0, ?_⟩
 refine qbM.s ⟨c0, ⟨rfl, rfl⟩, ?_⟩
 rw [qbA]
 refine ⟨qcp.2 (by simp), ?_⟩
 rw [qc5]
 have e1 : setMany [qkL .i64 0, qkL .u64 0] 0 [qkL .i64 (bkAt l (mFrom l i)).1, qkL .u64 (wordN (sumTo l (mFrom l i) (mTo l i - mFrom l i)) false)] = eU (mEdit l i) := rfl
 rw [e1]
 rw [qu (cs := eU (mEdit l i)) (by simp [AH.row?, qr, eU, qq])]
 exact h _ ((qa.refl H).push _)
theorem qck.s {x0 : Sl} {off : Int} {ws : List Int} {k : Sl → Int → AH → Prop} (hr : qk7 H x0 1 wU ws) (h64 : qao ws) (hl : ws.length ≤ 1000)
  (h : ∀ s H', qa H H' → Own H.size H' s 2 eU (imgFree ws off).1 → k s (imgFree ws off).2 H') : qck x0 off H k := by
 refine qck.link ?_
 unfold qck.b
 unfold imgFree at h
 refine qb4.s hr h64 hl ?_ ?_
 rotate_left 1
 ·intro hb H' hk
  rw [hb] at h
  rw [show ((((0 : Nat) : Int)) == (0 : Int)) = true from rfl, qj]
  exact h _ _ hk (.inl ⟨rfl, rfl⟩)
 intro l hb s12 H12 hk12 hO12
 rw [hb] at h
 simp only at h
 have hB := qa2 hb
 have hlen := hB.len
 have hR := hO12.rows bkV_len bkV_ok
 have hlp : 0 < l.length := by
  cases l with
  | nil => have h1 := hB.1.1; have h2 := hB.2; simp only [chainB] at h2; omega
  | cons a r => simp
 rw [hR.1, show (((l.length : Nat) : Int) == (0 : Int)) = false by simpa using (show l.length ≠ 0 by omega), qc]
 have fin : ∀ (v : Int × Int) (H22 : AH), qa H12 H22 → ∀ bb : Bool, (bb = false → k ⟨none, 0, 0⟩ 1 (H22.push ⟨eU v, .rw, 0⟩)) → (bb = true → ∀ s H', qa H H' → Own H.size H' s 2 eU [v] → k s 0 H') →
   newC H22 ⟨[(qkL .i64 (0 : Int)), (qkL .u64 (0 : Int))], .rw, 0⟩ fun o8 H8 => (qk0 (eU v) = 2 ∧ qlq (eU v) qq = true) ∧ stC H8 ⟨o8, 0, none⟩ (eU v) fun Hs2 => bcase (!bb) (k ⟨none, 0, 0⟩ (1 : Int) Hs2) (ldA Hs2 ⟨o8, 0, none⟩ 2 fun c27 => (qk0 c27 = 2) ∧ newC Hs2 ⟨(setMany [(qkL .i64 (0 : Int)), (qkL .u64 (0 : Int))] 0 c27), .rw, 2⟩ fun o28 H28 => k ⟨(some ⟨o28, 0, none⟩), 1, 1⟩ (0 : Int) H28) := by
  intro v H22 hk22 bb hf ht
  refine qbu (n := 2) rfl (eU_len v) (eU_ok v) ?_
  cases bb with
  | false => exact hf rfl
  | true =>
   rw [qlb, qc, qu (cs := eU v) (by simp [AH.row?, qr, eU, qq])]
   refine ⟨rfl, ?_⟩
   rw [qx]
   have e1 : setMany [qkL .i64 0, qkL .u64 0] 0 (eU v) = eU v := rfl
   rw [e1]
   have hk2 := ((hk12.trans hk22).push ⟨eU v, .rw, 0⟩)
   exact ht rfl _ _ (hk2.push _) (.inr ⟨_, rfl, hk2.1, by simp [qm], by rw [qr, if_pos rfl]; simp⟩)
 rcases qdi off l 0 with hc | ⟨i, hc, hi, hu, ho⟩
 ·rw [hc] at h ⊢
  rw [if_pos (by omega)] at h
  refine qbe.s0 hR hB (by omega) ?_
  intro H22 hk22
  exact fin (0, 0) H22 hk22 false (fun _ => h _ _ ((hk12.trans hk22).push _) (.inl ⟨rfl, rfl⟩)) (fun hh => by cases hh)
 rw [qk6] at hc
 rw [hc] at h ⊢
 rw [if_neg (by omega), qkQ] at h
 refine qbe.s hR hB hi hu ?_
 intro H22 hk22
 exact fin (mEdit l i) H22 hk22 true (fun hh => by cases hh) (fun _ s H' a b => h s H' a b)
theorem qbT.s {x0 x2 : Sl} {n : Int} {ws cs : List Int} {k : Sl → Int → Int → AH → Prop} (hr : qk7 H x0 1 wU ws) (h64 : qao ws) (hl : ws.length ≤ 1000) (hn : isI n) (hcs : qk7 H x2 1 iV cs)
  (h : ∀ s H', qa H H' → Own H.size H' s 2 eU (imgAlloc ws n cs).1 → k s (imgAlloc ws n cs).2.1 (imgAlloc ws n cs).2.2 H') : qbT x0 n x2 H k := by
 refine qbT.link ?_
 unfold qbT.b
 unfold imgAlloc at h
 refine qbW.s hn ?_
 rw [qg]
 by_cases h0 : needN n = 0
 ·rw [if_pos (by simpa using h0)]
  rw [if_pos h0] at h
  exact h _ _ (qa.refl H) (.inl ⟨rfl, rfl⟩)
 rw [if_neg (by simpa using h0)]
 rw [if_neg h0] at h
 refine qX.s hr h64 hl ?_ ?_
 rotate_left 1
 ·intro hb H' hk
  rw [hb] at h
  rw [qlj, qj]
  exact h _ _ hk (.inl ⟨rfl, rfl⟩)
 intro l hb s17 H17 hk17 hO17
 rw [hb] at h
 rw [qlb, qc]
 simp only at h
 have hB := qa2 hb
 have hlen := hB.len
 have hR := hO17.rows bkV_len bkV_ok
 refine qaR.s hR (by omega) (fun b hb => by have := hB.mem hb; omega) (hcs.keep hk17) ?_
 simp only [qg, decide_eq_true_eq]
 rcases qdH (l := l) (need := needN n) (cs := cs) with hc | ⟨i, hc, hi, hu, hn1, hn2⟩
 ·rw [if_pos (by omega)]
  rw [if_pos (by omega)] at h
  exact h _ _ hk17 (.inl ⟨rfl, rfl⟩)
 rw [if_neg (by omega)]
 rw [if_neg (by omega)] at h
 rw [hc, qkQ] at h ⊢
 rw [hR.1]
 refine ⟨by omega, ?_⟩
 obtain ⟨b, o, ha, hbz, hcells⟩ := qaz hR (by omega)
 have hrow := (hcells i _ (qad hi)).1
 rw [ha, qe, qu hrow]
 refine qam.s hR hB hi hu ⟨hn2, hn1⟩ ?_
 intro s33 H33 hk33 hO33
 refine ⟨?_, ?_⟩
 ·rw [qk] at hrow ⊢
  rw [← hrow]
  simp only [AH.row?, hk33.2 b hbz]
 refine qbj.s ?_
 exact h _ _ (hk17.trans hk33) (qcj hO33 hk17.1)
end
def inc (n : Int) : Int := qkM .i64 (n + 1)
def u64V (n : Int) : Value := .int .u64 n
def i64V (n : Int) : Value := .int .i64 n
def mbit (mask : Int) (i : Nat) : Bool := decide (mask / 2 ^ i % 2 = 1)
def mixL (old now : List Int) (mask : Int) : List Int := (qly 8).map fun i => if mbit mask i then now.getD i 0 else old.getD i 0
structure Cl where
 line : List Int
 wear : Int
 limit : Int
structure Mem where
 cs : List Cl
 regs : List Int
 writes : Int
 cut : Int
 mask : Int
 down : Bool
def isLine (l : List Int) : Prop := l.length = 8 ∧ ∀ v ∈ l, isU v
structure Mem.ok (M : Mem) : Prop where
 lines : ∀ c ∈ M.cs, isLine c.line
 regs : M.regs.length = 35
 regU : ∀ v ∈ M.regs, isU v
 len : M.cs.length ≤ 200
 cut : -1 ≤ M.cut ∧ M.cut ≤ 9223372036854775807
def Mem.has (M : Mem) (i : Int) : Prop := 0 ≤ i ∧ i < M.cs.length
instance (M : Mem) (i : Int) : Decidable (M.has i) := by unfold Mem.has; infer_instance
def Mem.wr (M : Mem) : Mem :=
 if M.cut = 0 then { M with writes := inc M.writes, down := true }
 else if 0 < M.cut then { M with writes := inc M.writes, cut := M.cut - 1 }
 else { M with writes := inc M.writes }
def Mem.wmask (M : Mem) : Int := if M.cut = 0 then M.mask else -1
def Mem.told (M : Mem) (worn : Bool) : Int := if M.down then 2 else if worn then 3 else 0
def Cl.worn (c : Cl) : Bool := decide (0 ≤ c.limit) && decide (c.limit ≤ c.wear)
def Mem.cl (M : Mem) (i : Nat) : Cl := M.cs.getD i ⟨[], 0, 0⟩
def Mem.setc (M : Mem) (i : Nat) (c : Cl) : Mem := { M with cs := M.cs.set i c }
def Mem.put (M : Mem) (i : Int) (l : List Int) : Mem × Int :=
 if M.has i then
  if M.down then (M, 2) else
  let c := M.cl i.toNat
  if c.worn then (M.wr, M.wr.told true)
  else (M.wr.setc i.toNat ⟨mixL c.line l M.wmask, inc c.wear, c.limit⟩, M.wr.told false)
 else (M, 1)
def Mem.get (M : Mem) (i : Int) : List Int × Int :=
 if M.has i then if M.down then (qkR 8 0, 2) else ((M.cl i.toNat).line, 0) else (qkR 8 0, 1)
def regIn (i : Int) : Prop := 0 ≤ i ∧ i < 35
instance (i : Int) : Decidable (regIn i) := by unfold regIn; infer_instance
def Mem.reg (M : Mem) (i : Int) : Int × Int :=
 if regIn i then if M.down then (0, 2) else (M.regs.getD i.toNat 0, 0) else (0, 1)
def Mem.set (M : Mem) (i v : Int) : Mem × Int :=
 if regIn i then
  if M.down then (M, 2) else
  ((if mbit M.wmask 0 then { M.wr with regs := M.regs.set i.toNat v } else M.wr), M.wr.told false)
 else (M, 1)
def Mem.new (n : Nat) (limits : List Int) : Mem :=
 { cs := (qly n).map fun i => ⟨qkR 8 0, 0, limits.getD i (-1)⟩, regs := qkR 35 0, writes := 0, cut := -1, mask := 0, down := false }
def lineV (l : List Int) : List Value := l.map u64V
def clV (c : Cl) : List Value := lineV c.line ++ [i64V c.wear, i64V c.limit]
def memObj (c : Nat) (M : Mem) : AObj :=
 ⟨[.slice (some ⟨c, 0, none⟩) M.cs.length 1] ++ lineV M.regs ++ [i64V M.writes, i64V M.cut, i64V M.mask, .bool M.down], .rw, 0⟩
def celObj (M : Mem) : AObj := ⟨M.cs.flatMap clV, .rw, 10⟩
structure qE (H : AH) (p c : Nat) (M : Mem) : Prop where
 hp : H.get p = memObj c M
 hc : H.get c = celObj M
 ne : c ≠ p
 lp : p < H.size
 lc : c < H.size
 ok : M.ok
def setM (H : AH) (p c : Nat) (M : Mem) : AH := (H.upd c (celObj M)).upd p (memObj c M)
section
variable {H : AH} {p c : Nat} {M M' : Mem}
theorem qct (b : Nat) : (setM H p c M).get b = if b = p then memObj c M else if b = c then celObj M else H.get b := rfl
theorem qcP {b : Nat} (h : b ≠ p) (h' : b ≠ c) : (setM H p c M).get b = H.get b := by rw [qct, if_neg h, if_neg h']
theorem qE.set (h : qE H p c M) (hok : M'.ok) : qE (setM H p c M') p c M' :=
 ⟨by rw [qct, if_pos rfl], by rw [qct, if_neg h.ne, if_pos rfl], h.ne, h.lp, h.lc, hok⟩
theorem qE.same (h : qE H p c M) : setM H p c M = H := by
 refine AH.ext' rfl fun b => ?_
 rw [qct]
 split
 ·rename_i e; rw [e, h.hp]
 ·split
  ·rename_i e; rw [e, h.hc]
  ·rfl
theorem qcE : setM (setM H p c M) p c M' = setM H p c M' := by
 refine AH.ext' rfl fun b => ?_
 simp only [qct]
 split
 ·rfl
 ·split <;> rfl
theorem qE.keep {H' : AH} (h : qE H p c M) (hs : H.size ≤ H'.size) (h1 : H'.get p = H.get p) (h2 : H'.get c = H.get c) : qE H' p c M :=
 ⟨by rw [h1, h.hp], by rw [h2, h.hc], h.ne, by have := h.lp; omega, by have := h.lc; omega, h.ok⟩
theorem qE.keeps {H' : AH} (h : qE H p c M) (hk : qa H H') : qE H' p c M := h.keep hk.1 (hk.2 _ h.lp) (hk.2 _ h.lc)
theorem qE.push (h : qE H p c M) (o : AObj) : qE (H.push o) p c M := h.keeps ((qa.refl H).push o)
theorem qfV (l : List Int) : (lineV l).all flatC = true := by simp [lineV, u64V, flatC]
theorem qh1 {n : Nat} {v : Value} (h : flatC v = true) : lowV n v = true := by
 unfold lowV
 split
 ·simp [flatC] at h
 ·rename_i b o m k
  unfold flatC at h
  split at h <;> first | (rename_i heq; cases heq; done) | cases h
 ·exact h
theorem qE.at {H' : AH} (h : qE H p c M) (hk : ∀ b, b < H.size → H'.get b = (setM H p c M').get b) : At H H' (setM H p c M') := by
 refine ⟨rfl, hk, fun b hb => ?_, fun b hb => ?_⟩
 ·rw [qcP (by have := h.lp; omega) (by have := h.lc; omega)]
 ·rw [qct]
  split
  ·right
   simp only [memObj, List.all_append, Bool.and_eq_true]
   refine ⟨⟨by simp [lowV, h.lc], ?_⟩, by simp [lowV, flatC, i64V]⟩
   exact List.all_eq_true.2 fun v hv => qh1 (List.all_eq_true.1 (qfV _) v hv)
  ·split
   ·right
    refine List.all_eq_true.2 fun v hv => qh1 ?_
    simp only [celObj, List.mem_flatMap, clV] at hv
    obtain ⟨x, _, hv⟩ := hv
    rcases List.mem_append.1 hv with hv | hv
    ·exact List.all_eq_true.1 (qfV _) v hv
    ·simp at hv; rcases hv with rfl | rfl <;> rfl
   ·exact .inl rfl
theorem qjI : (memObj c M).md = .rw := rfl
theorem qE.cell (h : qE H p c M) (i : Nat) : AH.cell? H ⟨p, i, none⟩ = (memObj c M).cells[i]? := by
 simp only [AH.cell?, h.hp, qk4, qkX, if_false]
 rw [if_neg (by simp [qjI])]
theorem qE.c0 (h : qE H p c M) : AH.cell? H (qkN ⟨p, 0, none⟩ 0) = some (.slice (some ⟨c, 0, none⟩) M.cs.length 1) := by
 rw [qk, h.cell]
 exact rfl
theorem qE.cr (h : qE H p c M) {i : Nat} (hi : i < 35) : AH.cell? H ⟨p, 1 + i, none⟩ = some (.int .u64 (M.regs.getD i 0)) := by
 rw [h.cell]
 have hl : i < M.regs.length := by rw [h.ok.regs]; exact hi
 simp only [memObj, lineV, List.singleton_append]
 rw [Nat.add_comm, qls, qlB, qlm (by simpa using hl), qkZ, qkO hl, qle, qkP, qkO hl]
 rfl
theorem qeA (hr : M.regs.length = 35) (i : Nat) : (memObj c M).cells[36 + i]? = [i64V M.writes, i64V M.cut, i64V M.mask, .bool M.down][i]? := by
 simp only [memObj, lineV]
 rw [qld (by simp [hr] <;> omega)]
 congr 1
 simp [hr]
theorem qE.c36 (h : qE H p c M) : AH.cell? H (qkN ⟨p, 0, none⟩ 36) = some (.int .i64 M.writes) := by
 rw [qk, h.cell]; exact qeA h.ok.regs 0
theorem qE.c37 (h : qE H p c M) : AH.cell? H (qkN ⟨p, 0, none⟩ 37) = some (.int .i64 M.cut) := by
 rw [qk, h.cell]; exact qeA h.ok.regs 1
theorem qE.c38 (h : qE H p c M) : AH.cell? H (qkN ⟨p, 0, none⟩ 38) = some (.int .i64 M.mask) := by
 rw [qk, h.cell]; exact qeA h.ok.regs 2
theorem qE.c39 (h : qE H p c M) : AH.cell? H (qkN ⟨p, 0, none⟩ 39) = some (.bool M.down) := by
 rw [qk, h.cell]; exact qeA h.ok.regs 3
theorem mem_len (hr : M.regs.length = 35) : (memObj c M).cells.length = 40 := by simp [memObj, lineV, hr]
theorem qE.can (h : qE H p c M) {i : Nat} (hi : i < 40) : AH.canPut H (qkN ⟨p, 0, none⟩ i) 1 := by
 rw [qk]
 exact ⟨rfl, congrArg AObj.md h.hp, by rw [h.hp, mem_len h.ok.regs] <;> simp <;> omega⟩
theorem qeq (hr : M.regs.length = 35) (i : Nat) (v : Value) (hi : i < 4) :
  (memObj c M).cells.set (36 + i) v = [.slice (some ⟨c, 0, none⟩) M.cs.length 1] ++ lineV M.regs ++ [i64V M.writes, i64V M.cut, i64V M.mask, .bool M.down].set i v := by
 simp only [memObj]
 rw [List.set_append_right _ _ (by simp [lineV, hr] <;> omega)]
 congr 2
 simp [lineV, hr]
theorem qE.upd (h : qE H p c M) {i : Nat} {v : Value} (hM : (memObj c M).cells.set i v = (memObj c M').cells) (hcs : celObj M' = celObj M) :
  AH.put H (qkN ⟨p, 0, none⟩ i) [v] = setM H p c M' := by
 rw [qk]
 refine AH.ext' rfl fun b => ?_
 simp only [AH.put, qZ, qct, setMany, qk6]
 split
 ·rw [h.hp, hM]; rfl
 ·split
  ·rename_i e; rw [e, h.hc, hcs]
  ·rfl
theorem qE.p36 (h : qE H p c M) (v : Int) : AH.put H (qkN ⟨p, 0, none⟩ 36) [.int .i64 v] = setM H p c { M with writes := v } :=
 h.upd (by rw [qeq (i := 0) h.ok.regs _ (by omega)]; rfl) rfl
theorem qE.p37 (h : qE H p c M) (v : Int) : AH.put H (qkN ⟨p, 0, none⟩ 37) [.int .i64 v] = setM H p c { M with cut := v } :=
 h.upd (by rw [qeq (i := 1) h.ok.regs _ (by omega)]; rfl) rfl
theorem qE.p39 (h : qE H p c M) (v : Bool) : AH.put H (qkN ⟨p, 0, none⟩ 39) [.bool v] = setM H p c { M with down := v } :=
 h.upd (by rw [qeq (i := 3) h.ok.regs _ (by omega)]; rfl) rfl
theorem qE.pr (h : qE H p c M) {i : Nat} (hi : i < 35) (v : Int) : AH.put H (qkN ⟨p, 0, none⟩ (1 + i)) [.int .u64 v] = setM H p c { M with regs := M.regs.set i v } := by
 refine h.upd ?_ rfl
 have hl : i < M.regs.length := by rw [h.ok.regs]; exact hi
 simp only [memObj, lineV, List.singleton_append, qls]
 rw [Nat.add_comm, List.set_cons_succ, List.set_append_left _ _ (by simpa using hl), List.map_set]
 rfl
end
section
variable {H : AH} {p c : Nat} {M : Mem} {i : Int}
theorem stC_to {H H' : AH} {a : Addr} {vs : List Value} {k : AH → Prop} (h1 : H.canPut a vs.length) (h2 : H.put a vs = H') (h3 : k H') : stC H a vs k := ⟨h1, by rw [h2]; exact h3⟩
theorem qfI {b i n : Nat} (h : b ≠ p) (h' : b ≠ c) : AH.row? (setM H p c M) ⟨b, i, none⟩ n = AH.row? H ⟨b, i, none⟩ n := by
 simp only [AH.row?, qcP h h']
theorem cl_get (hi : M.has i) : M.cs[i.toNat]? = some (M.cl i.toNat) := by
 unfold Mem.has at hi
 have hl : i.toNat < M.cs.length := by omega
 unfold Mem.cl
 rw [qkP, qkO hl, qll]
theorem cl_mem (hi : M.has i) : M.cl i.toNat ∈ M.cs := qkY (cl_get hi)
theorem clV_len {x : Cl} (h : isLine x.line) : (clV x).length = 10 := by simp [clV, lineV, h.1]
theorem qeg {α : Type} {f : α → List Value} {z : Nat} : ∀ {l : List α}, (∀ x ∈ l, (f x).length = z) → (l.flatMap f).length = l.length * z := by
 intro l
 induction l with
 | nil => intro _; simp
 | cons a l ih => intro h; simp [ih (fun x hx => h x (by simp [hx])), h a (by simp), Nat.succ_mul, Nat.add_comm]
theorem qe8 {α : Type} {f : α → List Value} {z : Nat} : ∀ {l : List α} (_ : ∀ x ∈ l, (f x).length = z) (i : Nat) (x : α), l[i]? = some x → ((l.flatMap f).drop (i * z)).take z = f x := by
 intro l
 induction l with
 | nil => intro _ i x h; simp at h
 | cons a l ih =>
  intro hf i x h
  cases i with
  | zero =>
   simp only [List.getElem?_cons_zero, qlU] at h
   subst h
   simp only [Nat.zero_mul, ql3, qlz]
   rw [List.take_append_of_le_length (by rw [hf a (by simp)]; exact qkV _), ← hf a (by simp), qlH]
  | succ i =>
   simp only [qlB] at h
   rw [← ih (fun x hx => hf x (by simp [hx])) i x h, qlz, Nat.succ_mul, Nat.add_comm, ← List.drop_drop]
   congr 2
   rw [← hf a (by simp), List.drop_left]
theorem qhs {α : Type} {f : α → List Value} {z : Nat} {j : Nat} {vs : List Value} (hj : j + vs.length ≤ z) : ∀ {l : List α} (_ : ∀ x ∈ l, (f x).length = z) (i : Nat) (x y : α), l[i]? = some x → f y = setMany (f x) j vs →
  setMany (l.flatMap f) (i * z + j) vs = (l.set i y).flatMap f := by
 intro l hf i x y hx hy
 apply qlc
 intro t
 have hlen := qeg hf
 have hlt : i < l.length := (List.getElem?_eq_some_iff.1 hx).1
 have hle : i * z + z ≤ l.length * z := by
  calc i * z + z = (i + 1) * z := by rw [Nat.succ_mul]
   _ ≤ l.length * z := qlT _ hlt
 have hfy : (f y).length = z := by rw [hy, qdx, hf x (qkY hx)]
 have hf' : ∀ x ∈ l.set i y, (f x).length = z := by
  intro x' hx'
  rcases qlR hx' with h | rfl
  ·exact hf _ h
  ·exact hfy
 rw [qb2 _ _ _ _ (by omega)]
 have cellOf : ∀ {l : List α}, (∀ x ∈ l, (f x).length = z) → ∀ q r x, l[q]? = some x → r < z → (l.flatMap f)[q * z + r]? = (f x)[r]? := by
  intro l hl q r x hq hr
  have := qe8 hl q x hq
  rw [← this, qlD, if_pos hr, qlE]
 by_cases hz : z = 0
 ·subst hz
  have e1 : (l.flatMap f).length = 0 := by rw [hlen]; omega
  have e2 : ((l.set i y).flatMap f).length = 0 := by rw [qeg hf']; omega
  rw [qkT (by omega : ((l.set i y).flatMap f).length ≤ t), qkT (by omega : (l.flatMap f).length ≤ t)]
  rw [if_neg (by omega)]
 ·have ht : t = t / z * z + t % z := by rw [Nat.mul_comm]; exact (Nat.div_add_mod t z).symm
  have hr : t % z < z := Nat.mod_lt _ (by omega)
  generalize t / z = q at ht
  generalize t % z = r at ht hr
  subst ht
  by_cases hq : q < l.length
  ·by_cases hqi : q = i
   ·subst hqi
    rw [cellOf hf' q r y (by rw [qlv hlt]) hr, hy, qb2 _ _ _ _ (by rw [hf x (qkY hx)]; exact hj)]
    by_cases h1 : j ≤ r ∧ r < j + vs.length
    ·rw [if_pos h1, if_pos (by omega)]; congr 1; omega
    ·rw [if_neg h1, if_neg (by omega), cellOf hf q r x hx hr]
   ·have hne : ¬ (i * z + j ≤ q * z + r ∧ q * z + r < i * z + j + vs.length) := by
     intro ⟨h1, h2⟩
     rcases Nat.lt_or_gt_of_ne hqi with h | h
     ·have : (q + 1) * z ≤ i * z := qlT _ h
      rw [Nat.succ_mul] at this; omega
     ·have : (i + 1) * z ≤ q * z := qlT _ h
      rw [Nat.succ_mul] at this; omega
    rw [if_neg hne, cellOf hf q r l[q] (qkO hq) hr, cellOf hf' q r l[q] (by rw [qlg (by omega), qkO hq]) hr]
  ·have : l.length * z ≤ q * z := qlT _ (by omega)
   rw [if_neg (by omega), qkT (by omega), qkT (by rw [qeg hf', List.length_set]; omega)]
theorem qE.cell_c (h : qE H p c M) (hi : M.has i) {j : Nat} (hj : j < 10) : AH.cell? H (qkN (qkN ⟨c, 0, none⟩ (i.toNat * 10)) j) = (clV (M.cl i.toNat))[j]? := by
 rw [qk, qk, qk6]
 simp only [AH.cell?, h.hc, qk4, qkX, if_false, celObj]
 rw [if_neg (by simp)]
 rw [← qe8 (fun x hx => clV_len (h.ok.lines x hx)) i.toNat _ (cl_get hi), qlD, if_pos hj, qlE]
theorem qE.c8 (h : qE H p c M) (hi : M.has i) : AH.cell? H (qkN (qkN ⟨c, 0, none⟩ (i.toNat * 10)) 8) = some (.int .i64 (M.cl i.toNat).wear) := by
 rw [h.cell_c hi (by omega)]
 simp only [clV]
 rw [qld (by simp [lineV, (h.ok.lines _ (cl_mem hi)).1])]
 simp [lineV, (h.ok.lines _ (cl_mem hi)).1, i64V]
theorem qE.c9 (h : qE H p c M) (hi : M.has i) : AH.cell? H (qkN (qkN ⟨c, 0, none⟩ (i.toNat * 10)) 9) = some (.int .i64 (M.cl i.toNat).limit) := by
 rw [h.cell_c hi (by omega)]
 simp only [clV]
 rw [qld (by simp [lineV, (h.ok.lines _ (cl_mem hi)).1])]
 simp [lineV, (h.ok.lines _ (cl_mem hi)).1, i64V]
theorem qE.cl_le (h : qE H p c M) (hi : M.has i) : i.toNat * 10 + 10 ≤ (celObj M).cells.length := by
 simp only [celObj]
 rw [qeg (fun x hx => clV_len (h.ok.lines x hx))]
 unfold Mem.has at hi
 omega
theorem qaD (l : List Int) : (lineV l).all qq = true := by simp [lineV, u64V, qq]
theorem qE.row_c (h : qE H p c M) (hi : M.has i) : AH.row? H (qkN (qkN ⟨c, 0, none⟩ (i.toNat * 10)) 0) 8 = some (lineV (M.cl i.toNat).line) := by
 rw [qk, qk, qk6, Nat.add_zero]
 have hr := qe8 (fun x hx => clV_len (h.ok.lines x hx)) i.toNat _ (cl_get hi)
 have hl := (h.ok.lines _ (cl_mem hi)).1
 have h8 : (((celObj M).cells.drop (i.toNat * 10)).take 8) = lineV (M.cl i.toNat).line := by
  have : (((celObj M).cells.drop (i.toNat * 10)).take 8) = ((((celObj M).cells.drop (i.toNat * 10)).take 10).take 8) := by rw [List.take_take]; rfl
  rw [this]
  simp only [celObj] at hr ⊢
  rw [hr, clV, List.take_append_of_le_length (by simp [lineV, hl]), qlL (by simp [lineV, hl])]
 have hle := h.cl_le hi
 simp only [AH.row?, h.hc, qk4, qkX, if_false]
 rw [if_neg (by simp [celObj]), h8, if_pos ⟨by omega, qaD _⟩]
theorem qE.can_c (h : qE H p c M) (hi : M.has i) {j n : Nat} (hj : j + n ≤ 10) : AH.canPut H (qkN (qkN ⟨c, 0, none⟩ (i.toNat * 10)) j) n := by
 rw [qk, qk, qk6]
 have hle := h.cl_le hi
 exact ⟨rfl, congrArg AObj.md h.hc, by rw [h.hc]; simp only; omega⟩
theorem qE.put_c (h : qE H p c M) (hi : M.has i) {j : Nat} {vs : List Value} {x : Cl} (hj : j + vs.length ≤ 10) (hx : clV x = setMany (clV (M.cl i.toNat)) j vs) :
  AH.put H (qkN (qkN ⟨c, 0, none⟩ (i.toNat * 10)) j) vs = setM H p c (M.setc i.toNat x) := by
 rw [qk, qk, qk6]
 have hs := qhs hj (fun x hx => clV_len (h.ok.lines x hx)) i.toNat _ x (cl_get hi) hx
 refine AH.ext' rfl fun b => ?_
 simp only [AH.put, qZ, qct]
 have hm : memObj c (M.setc i.toNat x) = memObj c M := by simp [memObj, Mem.setc]
 by_cases hbc : b = c
 ·subst hbc
  rw [if_pos rfl, if_neg h.ne, if_pos rfl, h.hc]
  simp only [celObj, hs]
  rfl
 ·rw [if_neg hbc]
  by_cases hbp : b = p
  ·subst hbp; rw [if_pos rfl, hm, h.hp]
  ·rw [if_neg hbp, if_neg hbc]
theorem qkz {x : Cl} {l : List Int} (hx : isLine x.line) (hl : isLine l) : clV { x with line := l } = setMany (clV x) 0 (lineV l) := by
 apply qlc
 intro t
 rw [qb2 _ _ _ _ (by rw [clV_len hx]; simp [lineV, hl.1])]
 simp only [clV]
 by_cases h : t < 8
 ·rw [if_pos (by simp [lineV, hl.1]; omega), qlm (by simp [lineV, hl.1]; omega)]; rfl
 ·rw [if_neg (by simp [lineV, hl.1]; omega), qld (by simp [lineV, hl.1]; omega), qld (by simp [lineV, hx.1]; omega)]
  simp [lineV, hl.1, hx.1]
theorem qkm {x : Cl} {v : Int} (hx : isLine x.line) : clV { x with wear := v } = setMany (clV x) 8 [.int .i64 v] := by
 simp only [setMany, clV]
 rw [List.set_append_right _ _ (by simp [lineV, hx.1])]
 simp [lineV, hx.1, i64V]
end
theorem Mem.wr_ok {M : Mem} (h : M.ok) : M.wr.ok := by
 have := h.cut
 unfold Mem.wr
 split
 ·exact ⟨h.lines, h.regs, h.regU, h.len, h.cut⟩
 ·split
  ·exact ⟨h.lines, h.regs, h.regU, h.len, by simp only; omega⟩
  ·exact ⟨h.lines, h.regs, h.regU, h.len, h.cut⟩
theorem Mem.wr_cs {M : Mem} : M.wr.cs = M.cs := by
 unfold Mem.wr; split
 ·rfl
 ·split <;> rfl
theorem Mem.wr_regs {M : Mem} : M.wr.regs = M.regs := by
 unfold Mem.wr; split
 ·rfl
 ·split <;> rfl
theorem Mem.wr_has {M : Mem} {i : Int} : M.wr.has i ↔ M.has i := by unfold Mem.has; rw [Mem.wr_cs]
theorem Mem.wr_cl {M : Mem} {i : Nat} : M.wr.cl i = M.cl i := by unfold Mem.cl; rw [Mem.wr_cs]
theorem Mem.setc_has {M : Mem} {i : Int} {j : Nat} {x : Cl} : (M.setc j x).has i ↔ M.has i := by simp [Mem.has, Mem.setc]
theorem Mem.setc_ok {M : Mem} (h : M.ok) {i : Nat} {x : Cl} (hx : isLine x.line) : (M.setc i x).ok := by
 refine ⟨?_, h.regs, h.regU, by simpa [Mem.setc] using h.len, h.cut⟩
 intro y hy
 rcases qlR hy with h' | rfl
 ·exact h.lines y h'
 ·exact hx
theorem Mem.setc_setc {M : Mem} {i : Nat} {x y : Cl} : (M.setc i x).setc i y = M.setc i y := by simp [Mem.setc, List.set_set]
theorem Mem.setc_cl {M : Mem} {i : Int} {x : Cl} (hi : M.has i) : (M.setc i.toNat x).cl i.toNat = x := by
 unfold Mem.has at hi
 have : i.toNat < M.cs.length := by omega
 simp [Mem.cl, Mem.setc, qkP, this]
theorem qfe {old now : List Int} {mask : Int} (h : isLine old) (h' : isLine now) : isLine (mixL old now mask) := by
 refine ⟨by simp [mixL], fun v hv => ?_⟩
 simp only [mixL, qlw, qlM] at hv
 obtain ⟨i, hi, rfl⟩ := hv
 split
 ·rw [qkP, qkO (by rw [h'.1]; exact hi)]
  exact h'.2 _ (qk1 _)
 ·rw [qkP, qkO (by rw [h.1]; exact hi)]
  exact h.2 _ (qk1 _)
theorem qa9 : isLine (qkR 8 0) := ⟨rfl, fun v hv => by rw [List.eq_of_mem_replicate hv]; unfold isU; omega⟩
theorem and1 (x : Int) : andI .i64 x 1 = x % 2 := by
 have h0 : andI .i64 x 1 = qkM .i64 ((qlC 64 x &&& qlC 64 1).toNat : Int) := rfl
 have h1 : (qlC 64 x &&& qlC 64 1) = BitVec.ofNat 64 ((x % 2).toNat) := by
  apply BitVec.eq_of_getLsbD_eq
  intro i hi
  have e1 : (qlC 64 1) = 1#64 := rfl
  rw [BitVec.getLsbD_and, e1]
  have hx : (qlC 64 x).toNat = (x % 18446744073709551616).toNat := by simp [BitVec.toNat_ofInt]
  rcases Nat.eq_zero_or_pos i with rfl | hpos
  ·simp only [BitVec.getLsbD_one, BitVec.getLsbD_ofNat]
   simp only [BitVec.getLsbD, hx, Nat.testBit_zero]
   have : (x % 18446744073709551616).toNat % 2 = (x % 2).toNat % 2 := by omega
   simp [this]
  ·have : (BitVec.getLsbD 1#64 i) = false := by simp [BitVec.getLsbD_one]; omega
   rw [this, Bool.and_false, BitVec.getLsbD_ofNat]
   have h2 : (x % 2).toNat < 2 ^ i := by
    have : 2 ≤ 2 ^ i := by calc 2 = 2 ^ 1 := rfl
     _ ≤ 2 ^ i := Nat.pow_le_pow_right (by omega) hpos
    omega
   rw [Nat.testBit_lt_two_pow h2, Bool.and_false]
 rw [h0, h1]
 rw [BitVec.toNat_ofNat]
 rw [Nat.mod_eq_of_lt (by omega)]
 have : ((x % 2).toNat : Int) = x % 2 := by omega
 rw [this, qd (by omega) (by omega)]
theorem shr_bit (x : Int) (i : Nat) (h : i ≤ 64) : shrI .i64 x (i : Int) = x / 2 ^ i := by
 unfold shrI
 rw [show min ((i : Int).toNat) (qlO .i64) = i from by simp [qlO]; omega]
 rw [Int.fdiv_eq_ediv_of_nonneg _ (Int.pow_nonneg (by omega))]
theorem mbit_eq (x : Int) (i : Nat) (h : i ≤ 64) : (andI .i64 (shrI .i64 x (i : Int)) 1 == 1) = mbit x i := by
 rw [and1, shr_bit _ _ h, mbit]
 by_cases hh : x / 2 ^ i % 2 = 1
 ·simp [hh]
 ·simp [hh]
theorem mbit0 (x : Int) : (andI .i64 x 1 == 1) = mbit x 0 := by
 rw [and1, mbit]
 by_cases hh : x % 2 = 1 <;> simp [hh]
theorem qhR (i : Nat) (h : i < 64) : mbit (-1) i = true := by
 unfold mbit
 have hpos : (0 : Int) < 2 ^ i := Int.pow_pos (by omega)
 have : (-1 : Int) / 2 ^ i = -1 := by
  rw [Int.neg_one_ediv]
  rw [Int.sign_eq_one_of_pos hpos]
 simp [this]
theorem qkj {old now : List Int} (h : now.length = 8) : mixL old now (-1) = now := by
 apply qlc
 intro i
 by_cases hi : i < 8
 ·simp only [mixL, qkZ, qlf hi, qle]
  rw [qhR i (by omega), if_pos rfl, qkP, qkO (by omega), qll]
 ·rw [qkT (by simp [mixL]; omega), qkT (by omega)]
section
variable {H : AH} {p c : Nat} {M : Mem} {i : Int}
theorem qai.s {k : Int → AH → Prop} (hm : qE H p c M) (h : k M.cs.length H) : qai (some ⟨p, 0, none⟩) H k := by
 refine qai.link ?_
 simp only [qai.b, qla, qe, hm.c0, qbn, qg, qkX, if_false]
 exact h
theorem qbc.s {k : Bool → AH → Prop} (hm : qE H p c M) (h : k (decide (M.has i)) H) : qbc (some ⟨p, 0, none⟩) i H k := by
 refine qbc.link ?_
 simp only [qbc.b, qg, decide_eq_true_eq, ge_iff_le]
 by_cases h0 : 0 ≤ i
 ·rw [if_pos h0]
  refine qai.s hm ?_
  rw [show decide (i < (M.cs.length : Int)) = decide (M.has i) from decide_eq_decide.2 (by unfold Mem.has; omega)]
  exact h
 ·rw [if_neg h0]
  rw [show decide (M.has i) = false from decide_eq_false (by unfold Mem.has; omega)] at h
  exact h
theorem qaO.s {k : Bool → AH → Prop} {a : Addr} (h : k (decide (regIn i)) H) : qaO (some a) i H k := by
 refine qaO.link ?_
 simp only [qaO.b, qg, qla, qlj, if_true, decide_eq_true_eq, ge_iff_le]
 by_cases h0 : 0 ≤ i
 ·rw [if_pos h0, show decide (i < 35) = decide (regIn i) from decide_eq_decide.2 (by unfold regIn; omega)]; exact h
 ·rw [if_neg h0]; rw [show decide (regIn i) = false from decide_eq_false (by unfold regIn; omega)] at h; exact h
theorem qaV.s {k : Int → AH → Prop} (hm : qE H p c M) (h : k M.wmask (setM H p c M.wr)) : qaV (some ⟨p, 0, none⟩) H k := by
 refine qaV.link ?_
 have h1 : qE (setM H p c { M with writes := inc M.writes }) p c { M with writes := inc M.writes } := hm.set ⟨hm.ok.lines, hm.ok.regs, hm.ok.regU, hm.ok.len, hm.ok.cut⟩
 have h2 : qE (setM H p c { M with writes := inc M.writes, down := true }) p c { M with writes := inc M.writes, down := true } := hm.set ⟨hm.ok.lines, hm.ok.regs, hm.ok.regU, hm.ok.len, hm.ok.cut⟩
 have hc := hm.ok.cut
 have hw : qkM .i64 (M.writes + 1) = inc M.writes := rfl
 simp only [qaV.b, qe, hm.c36, qf, qbA, hm.can (i := 36) (by omega), hw, qk3, qlV, true_and, hm.p36, h1.c37, qg, beq_iff_eq, h1.can (i := 39) (by omega), h1.p39, h2.c38, decide_eq_true_eq, gt_iff_lt, h1.can (i := 37) (by omega), h1.p37, qcE]
 unfold Mem.wmask Mem.wr at h
 by_cases h0 : M.cut = 0
 ·rw [if_pos h0] at h ⊢
  rw [if_pos h0] at h
  exact h
 ·rw [if_neg h0] at h ⊢
  rw [if_neg h0] at h
  by_cases h3 : 0 < M.cut
  ·rw [if_pos h3] at h ⊢
   rw [qd (by omega) (by omega)]
   exact h
  ·rw [if_neg h3] at h ⊢
   exact h
theorem qaM.s {k : Int → AH → Prop} {w : Bool} (hm : qE H p c M) (h : k (M.told w) H) : qaM (some ⟨p, 0, none⟩) w H k := by
 refine qaM.link ?_
 simp only [qaM.b, qe, hm.c39, qaK, qg]
 unfold Mem.told at h
 split <;> simp_all
 split <;> simp_all
theorem qar.s {k : Bool → AH → Prop} (hm : qE H p c M) (h : k M.down H) : qar (some ⟨p, 0, none⟩) H k := by
 refine qar.link ?_
 simp only [qar.b, qla, qlj, if_true, qe, hm.c39, qaK, qg]
 exact h
theorem qN.s {k : Int → Int → AH → Prop} (hm : qE H p c M) (h : k (M.reg i).1 (M.reg i).2 H) : qN (some ⟨p, 0, none⟩) i H k := by
 refine qN.link ?_
 unfold qN.b
 refine qaO.s ?_
 unfold Mem.reg at h
 by_cases hi : regIn i
 ·have hi' := hi
  unfold regIn at hi'
  rw [if_pos hi] at h
  simp only [hi, decide_true, qlb, qg, qkX, if_false, qe, hm.c39, qaK]
  by_cases hd : M.down
  ·rw [if_pos hd] at h ⊢; exact h
  ·rw [if_neg hd] at h ⊢
   refine ⟨by omega, ?_⟩
   rw [qk, qk, qk6, Nat.mul_one, hm.cr (by omega), qf]
   exact h
 ·rw [if_neg hi] at h
  simp only [hi, decide_false, qlj, qg, if_true]
  exact h
theorem Mem.set_ok (h : M.ok) {v : Int} (hv : isU v) : (M.set i v).1.ok := by
 unfold Mem.set
 split
 ·split
  ·exact h
  ·have hw := Mem.wr_ok h
   simp only
   split
   ·refine ⟨hw.lines, by simp [h.regs], fun x hx => ?_, hw.len, hw.cut⟩
    rcases qlR hx with h' | rfl
    ·exact h.regU x h'
    ·exact hv
   ·exact hw
 ·exact h
theorem qI.s {k : Int → AH → Prop} {v : Int} (hm : qE H p c M) (hv : isU v) (h : k (M.set i v).2 (setM H p c (M.set i v).1)) : qI (some ⟨p, 0, none⟩) i v H k := by
 refine qI.link ?_
 unfold qI.b
 refine qaO.s ?_
 have hok := Mem.set_ok (i := i) hm.ok hv
 unfold Mem.set at h hok
 by_cases hi : regIn i
 ·have hi' := hi
  unfold regIn at hi'
  rw [if_pos hi] at h hok
  simp only [hi, decide_true, qlb, qg, qkX, if_false, qe, hm.c39, qaK]
  by_cases hd : M.down
  ·rw [if_pos hd] at h ⊢; rw [hm.same] at h; exact h
  ·rw [if_neg hd] at h ⊢
   rw [if_neg hd] at hok
   refine qaV.s hm ?_
   have h1 := hm.set (Mem.wr_ok hm.ok)
   rw [mbit0]
   by_cases hb : mbit M.wmask 0 = true
   ·rw [if_pos hb]
    rw [if_pos hb] at h hok
    refine ⟨by omega, ?_⟩
    rw [qk, qk6, Nat.mul_one]
    rw [qbA]
    have hreg : M.wr.regs = M.regs := Mem.wr_regs
    have e1 : qkN ⟨p, 1, none⟩ i.toNat = qkN ⟨p, 0, none⟩ (1 + i.toNat) := by rw [qk, qk, qk6]
    rw [e1]
    refine ⟨h1.can (by omega), ?_⟩
    rw [h1.pr (by omega), qcE, hreg]
    unfold qI.j1
    refine qaM.s (hm.set hok) ?_
    exact h
   ·rw [if_neg hb]
    rw [if_neg hb] at h hok
    unfold qI.j1
    refine qaM.s h1 ?_
    exact h
 ·rw [if_neg hi] at h
  rw [hm.same] at h
  simp only [hi, decide_false, qlj, qg, if_true]
  exact h
end
theorem qjr {l : List Int} (h : l.length = 8) {j : Nat} (hj : j < 8) : (lineV l)[j]? = some (.int .u64 (l.getD j 0)) := by
 have hl : j < l.length := by omega
 simp only [lineV, qkZ, qkO hl, qle, qkP, qll]
 rfl
theorem qs {l : List Int} (h : l.length = 8) : (lineV l).length = 8 := by simp [lineV, h]
theorem zeroV : [(qkL .u64 (0 : Int)), (qkL .u64 (0 : Int)), (qkL .u64 (0 : Int)), (qkL .u64 (0 : Int)), (qkL .u64 (0 : Int)), (qkL .u64 (0 : Int)), (qkL .u64 (0 : Int)), (qkL .u64 (0 : Int))] = lineV (qkR 8 0) := rfl
theorem qc3 (l : List Int) : flatV (K.agg.inj (lineV l)) = true := by simp only [K.inj, flatV, List.toList_toArray]; exact qfV l
def mixTo (old now : List Int) (mask : Int) (j : Nat) : List Int := (qly 8).map fun i => if i < j ∧ mbit mask i = true then now.getD i 0 else old.getD i 0
theorem qdO (old now : List Int) (mask : Int) (j : Nat) : (mixTo old now mask j).length = 8 := by simp [mixTo]
theorem mixTo_0 {old : List Int} (now : List Int) (mask : Int) (h : old.length = 8) : mixTo old now mask 0 = old := by
 apply qlc
 intro i
 by_cases hi : i < 8
 ·simp only [mixTo, qkZ, qlf hi, qle, Nat.not_lt_zero, false_and, if_false]
  rw [qkP, qkO (by omega), qll]
 ·rw [qkT (by simp [mixTo]; omega), qkT (by omega)]
theorem mixTo_8 (old now : List Int) (mask : Int) : mixTo old now mask 8 = mixL old now mask := by
 unfold mixTo mixL
 refine List.map_congr_left fun i hi => ?_
 have : i < 8 := by simpa using hi
 simp [this]
theorem qiE (old now : List Int) (mask : Int) {j : Nat} (hj : j < 8) : mixTo old now mask (j + 1) = if mbit mask j then (mixTo old now mask j).set j (now.getD j 0) else mixTo old now mask j := by
 apply qlc
 intro i
 by_cases hi : i < 8
 ·split
  ·rename_i hb
   by_cases hij : i = j
   ·subst hij
    rw [qlv (by rw [qdO]; exact hi)]
    simp [mixTo, hi, hb]
   ·rw [qlg (by omega)]
    simp only [mixTo, qkZ, qlf hi, qle]
    have : (i < j + 1 ∧ mbit mask i = true) ↔ (i < j ∧ mbit mask i = true) := by constructor <;> intro ⟨h1, h2⟩ <;> exact ⟨by omega, h2⟩
    simp only [this]
  ·rename_i hb
   simp only [mixTo, qkZ, qlf hi, qle]
   have : (i < j + 1 ∧ mbit mask i = true) ↔ (i < j ∧ mbit mask i = true) := by
    constructor <;> intro ⟨h1, h2⟩
    ·refine ⟨?_, h2⟩
     rcases Nat.lt_or_ge i j with h | h
     ·exact h
     ·have : i = j := by omega
      subst this; exact absurd h2 hb
    ·exact ⟨by omega, h2⟩
   simp only [this]
 ·rw [qkT (by rw [qdO]; omega)]
  symm
  split
  ·rw [qkT (by rw [List.length_set, qdO]; omega)]
  ·rw [qkT (by rw [qdO]; omega)]
theorem qjR (l : List Int) (j : Nat) (v : Int) : (lineV l).set j (.int .u64 v) = lineV (l.set j v) := by simp [lineV, List.map_set, u64V]
section
variable {H : AH} {p c : Nat} {M : Mem} {i : Int}
theorem qbF.s {old now : List Int} {mask : Int} {k : List Value → AH → Prop} (ho : isLine old) (hn : isLine now) (h : k (lineV (mixL old now mask)) H) : qbF (lineV old) (lineV now) mask H k := by
 refine qcI (κ := .agg) (by simp) (qc3 _) (qbF.link ?_) h
 unfold qbF.b
 simp only [qx, qgg, qjG, List.singleton_append, qls, qlx, qcK, qk3, qlV, qk6, Nat.reduceAdd, zeroV]
 rw [qu (qfS H _ 1 8 _ rfl (by simp) (qs hn.1) (qaD _))]
 refine qC (t := (0 : Int)) (I := fun (t : Int) H' => ∃ j : Nat, t = (j : Int) ∧ j ≤ 8 ∧ H' = H.more [⟨lineV (mixTo old now mask j), .rw, 0⟩, ⟨lineV now, .rw, 0⟩, ⟨lineV (qkR 8 0), .rw, 0⟩]) (m := fun (t : Int) _ => qkS (8 - t)) ?_ ⟨0, rfl, by omega, by rw [mixTo_0 _ _ ho.1]⟩
 intro t H1 hI it hit
 obtain ⟨j, rfl, hj, rfl⟩ := hI
 unfold qbF.l2
 simp only [qg, decide_eq_true_eq]
 by_cases hlt : (j : Int) < 8
 ·rw [if_pos hlt]
  refine ⟨by omega, ?_⟩
  rw [qkQ, Nat.mul_one, qjr hn.1 (by omega), qf]
  refine ⟨by omega, ?_⟩
  rw [mbit_eq _ _ (by omega), qd (n := (j : Int) + 1) (by omega) (by omega)]
  have hs := qiE old now mask (j := j) (by omega)
  by_cases hb : mbit mask j = true
  ·rw [if_pos hb] at hs ⊢
   refine ⟨by omega, ?_⟩
   rw [qk, qk6]
   refine ⟨qfu H _ 0 j 1 _ rfl rfl (by rw [qs (qdO _ _ _ _)]; omega), ?_⟩
   have hp := qhu H [⟨lineV (mixTo old now mask j), .rw, 0⟩, ⟨lineV now, .rw, 0⟩, ⟨lineV (qkR 8 0), .rw, 0⟩] 0 j [.int .u64 (now.getD j 0)] _ rfl
   simp only [Nat.add_zero, setMany, qjR, List.set_cons_zero] at hp
   rw [hp]
   exact hit _ _ ⟨j + 1, by omega, by omega, by rw [hs]⟩ (by omega)
  ·rw [if_neg hb] at hs ⊢
   exact hit _ _ ⟨j + 1, by omega, by omega, by rw [hs]⟩ (by omega)
 ·rw [if_neg hlt]
  have : j = 8 := by omega
  subst this
  unfold qbF.j1
  rw [mixTo_8]
  have hmx := (qfe (mask := mask) ho hn).1
  have hr := qfS H [⟨lineV (mixL old now mask), .rw, 0⟩, ⟨lineV now, .rw, 0⟩, ⟨lineV (qkR 8 0), .rw, 0⟩] 0 8 _ rfl (by simp) (qs hmx) (qaD _)
  rw [Nat.add_zero] at hr
  rw [qu hr]
  refine ⟨⟨qs hmx, qaD _⟩, ?_⟩
  have hp := qhu H [⟨lineV (mixL old now mask), .rw, 0⟩, ⟨lineV now, .rw, 0⟩, ⟨lineV (qkR 8 0), .rw, 0⟩] 2 0 (lineV (mixL old now mask)) _ rfl
  refine ⟨qfu H _ 2 0 _ _ rfl rfl (by rw [qs hmx, qs rfl]; omega), ?_⟩
  rw [hp]
  have hset : setMany (lineV (qkR 8 0)) 0 (lineV (mixL old now mask)) = lineV (mixL old now mask) := by
   apply qlc
   intro t
   rw [qb2 _ _ _ _ (by rw [qs hmx, qs rfl]; omega), qs hmx]
   by_cases ht : t < 8
   ·rw [if_pos (by omega)]; rfl
   ·rw [if_neg (by omega), qkT (by rw [qs rfl]; omega), qkT (by rw [qs hmx]; omega)]
  simp only [List.set_cons_succ, List.set_cons_zero, hset]
  rw [qu (qfS H _ 2 8 _ rfl (by simp) (qs hmx) (qaD _))]
  exact ⟨At.of_keeps (qa.more _ _), rfl⟩
theorem Mem.put_ok {l : List Int} (h : M.ok) (hl : isLine l) : (M.put i l).1.ok := by
 unfold Mem.put
 split
 ·rename_i hi
  split
  ·exact h
  ·simp only
   split
   ·exact Mem.wr_ok h
   ·exact Mem.setc_ok (Mem.wr_ok h) (qfe (h.lines _ (cl_mem hi)) hl)
 ·exact h
theorem qdl {H : AH} {b : Nat} {l l' : List Int} {e : Nat} (h : l.length = 8) (h' : l'.length = 8) (hg : H.get b = ⟨lineV l, .rw, e⟩) : AH.put H ⟨b, 0, none⟩ (lineV l') = H.upd b ⟨lineV l', .rw, e⟩ := by
 have hset : setMany (lineV l) 0 (lineV l') = lineV l' := by
  apply qlc
  intro t
  rw [qb2 _ _ _ _ (by rw [qs h, qs h']; omega), qs h']
  by_cases ht : t < 8
  ·rw [if_pos (by omega)]; rfl
  ·rw [if_neg (by omega), qkT (by rw [qs h]; omega), qkT (by rw [qs h']; omega)]
 simp only [AH.put, hg, hset]
theorem qW.s {l : List Int} {k : Int → AH → Prop} (hm : qE H p c M) (hl : isLine l) (h : k (M.put i l).2 (setM H p c (M.put i l).1)) : qW (some ⟨p, 0, none⟩) i (lineV l) H k := by
 have key : ∀ {M' : Mem} {r : Int}, M'.ok → At H (setM (H.push ⟨lineV l, .rw, 0⟩) p c M') (setM H p c M') := by
  intro M' r hok
  refine hm.at fun b hb => ?_
  simp only [qct, qr]
  rw [if_neg (show b ≠ H.size by omega)]
 refine qcI (κ := .int .i64) (by simp) rfl (qW.link ?_) h
 unfold qW.b
 have hm1 := hm.push ⟨lineV l, .rw, 0⟩
 rw [qx]
 refine qbc.s hm1 ?_
 have hok := Mem.put_ok (i := i) hm.ok hl
 have hkey := key (r := 0) hok
 unfold Mem.put at hok hkey ⊢
 by_cases hi : M.has i
 ·have hi' := hi
  unfold Mem.has at hi'
  rw [if_pos hi] at hok hkey ⊢
  simp only [hi, decide_true, qlb, qg, qkX, if_false, qe, hm1.c39, qaK]
  by_cases hd : M.down
  ·rw [if_pos hd] at hok hkey ⊢
   rw [if_pos hd]
   refine ⟨?_, rfl⟩
   rw [hm1.same] at hkey
   exact hkey
  ·rw [if_neg hd] at hok hkey ⊢
   rw [if_neg hd]
   refine qaV.s hm1 ?_
   have hmw := hm1.set (Mem.wr_ok hm.ok)
   have hiw : M.wr.has i := Mem.wr_has.2 hi
   simp only [hmw.c0, qbn, qe, hmw.c9 hiw, hmw.c8 hiw, qf, Mem.wr_cs, Mem.wr_cl, hi', and_self, true_and, ge_iff_le, decide_eq_true_eq]
   have hold := hm.ok.lines _ (cl_mem hi)
   have tail : ∀ w, w = (M.cl i.toNat).worn → qW.j2 (some ⟨p, 0, none⟩) i (fun r0 H' => At H H' (setM H p c (if (M.cl i.toNat).worn = true then (M.wr, M.wr.told true) else (M.wr.setc i.toNat ⟨mixL (M.cl i.toNat).line l M.wmask, inc (M.cl i.toNat).wear, (M.cl i.toNat).limit⟩, M.wr.told false)).1) ∧ r0 = (if (M.cl i.toNat).worn = true then (M.wr, M.wr.told true) else (M.wr.setc i.toNat ⟨mixL (M.cl i.toNat).line l M.wmask, inc (M.cl i.toNat).wear, (M.cl i.toNat).limit⟩, M.wr.told false)).2) H.size (setM (H.push ⟨lineV l, .rw, 0⟩) p c M.wr) M.wmask ⟨c, 0, none⟩ w := by
    intro w hw
    subst hw
    unfold qW.j2 qW.j1
    by_cases hw : (M.cl i.toNat).worn = true
    ·rw [if_pos hw] at hkey hok ⊢
     rw [hw, qlb, qc]
     refine qaM.s hmw ?_
     exact ⟨hkey, rfl⟩
    ·rw [if_neg hw] at hkey hok ⊢
     rw [show (M.cl i.toNat).worn = false from by simpa using hw, qlj, qj]
     rw [qu (hmw.row_c hiw), Mem.wr_cl]
     have hlp := hm.lp
     have hlc := hm.lc
     have hrow : AH.row? (setM (H.push ⟨lineV l, .rw, 0⟩) p c M.wr) ⟨H.size, 0, none⟩ 8 = some (lineV l) := by
      rw [qfI (by omega) (by omega)]
      exact row_new (qs hl.1) (qaD _)
     rw [qu hrow]
     refine qbF.s hold hl ?_
     have hmx := qfe (mask := M.wmask) hold hl
     refine ⟨⟨qs hmx.1, qaD _⟩, hmw.can_c hiw (by rw [qs hmx.1]; omega), ?_⟩
     rw [hmw.put_c hiw (x := ⟨mixL (M.cl i.toNat).line l M.wmask, (M.cl i.toNat).wear, (M.cl i.toNat).limit⟩) (by rw [qs hmx.1]; omega) (by rw [Mem.wr_cl]; exact qkz (x := M.cl i.toNat) hold hmx), qcE]
     have hm3 := hm1.set (Mem.setc_ok (i := i.toNat) (x := ⟨mixL (M.cl i.toNat).line l M.wmask, (M.cl i.toNat).wear, (M.cl i.toNat).limit⟩) (Mem.wr_ok hm.ok) hmx)
     have hi3 : (M.wr.setc i.toNat ⟨mixL (M.cl i.toNat).line l M.wmask, (M.cl i.toNat).wear, (M.cl i.toNat).limit⟩).has i := Mem.setc_has.2 hiw
     simp only [hm3.c8 hi3, qf, Mem.setc_cl hiw]
     refine ⟨hm3.can_c hi3 (by simp), ?_⟩
     rw [hm3.put_c hi3 (x := { line := mixL (M.cl i.toNat).line l M.wmask, wear := inc (M.cl i.toNat).wear, limit := (M.cl i.toNat).limit }) (by simp) ?_, qcE, Mem.setc_setc]
     ·refine qaM.s (hm1.set hok) ?_
      exact ⟨hkey, rfl⟩
     ·rw [Mem.setc_cl hiw]
      exact qkm (x := { line := mixL (M.cl i.toNat).line l M.wmask, wear := (M.cl i.toNat).wear, limit := (M.cl i.toNat).limit }) hmx
   by_cases hlim : 0 ≤ (M.cl i.toNat).limit
   ·rw [if_pos hlim]
    exact tail _ (by simp [Cl.worn, hlim])
   ·rw [if_neg hlim]
    exact tail _ (by simp [Cl.worn, hlim])
 ·rw [if_neg hi] at hok hkey ⊢
  simp only [hi, decide_false, qlj, qg, if_true]
  rw [hm1.same] at hkey
  exact ⟨hkey, trivial⟩
theorem qbB.s {k : List Value → Int → AH → Prop} (hm : qE H p c M) (h : k (lineV (M.get i).1) (M.get i).2 H) : qbB (some ⟨p, 0, none⟩) i H k := by
 refine canon2 (κ := .agg) (μ := .int .i64) (by simp) (by simp) (qc3 _) rfl (qbB.link ?_) h
 unfold qbB.b
 rw [qx, zeroV]
 have hm1 := hm.push ⟨lineV (qkR 8 0), .rw, 0⟩
 have hz : (H.push ⟨lineV (qkR 8 0), .rw, 0⟩).get H.size = ⟨lineV (qkR 8 0), .rw, 0⟩ := by simp [qr]
 have hc8 : ∀ l : List Int, isLine l → AH.canPut (H.push ⟨lineV (qkR 8 0), .rw, 0⟩) ⟨H.size, 0, none⟩ (lineV l).length := by
  intro l hl; rw [qs hl.1]; exact qcp.2 (by rw [qs rfl]; omega)
 have fin : ∀ (l : List Int), isLine l → ∀ (Q : List Value → AH → Prop), (∀ H', qa H H' → Q (lineV l) H') →
   ldA (AH.put (H.push ⟨lineV (qkR 8 0), .rw, 0⟩) ⟨H.size, 0, none⟩ (lineV l)) ⟨H.size, 0, none⟩ 8 fun r0 => Q r0 (AH.put (H.push ⟨lineV (qkR 8 0), .rw, 0⟩) ⟨H.size, 0, none⟩ (lineV l)) := by
  intro l hl Q hQ
  rw [qdl rfl hl.1 hz]
  have e : (H.push ⟨lineV (qkR 8 0), .rw, 0⟩).upd H.size ⟨lineV l, .rw, 0⟩ = H.push ⟨lineV l, .rw, 0⟩ := by
   refine AH.ext' rfl fun b => ?_
   simp only [qZ, qr]; split <;> rfl
  rw [e]
  rw [qu (row_new (qs hl.1) (qaD _))]
  exact hQ _ ((qa.refl H).push _)
 refine qbc.s hm1 ?_
 unfold Mem.get
 by_cases hi : M.has i
 ·have hi' := hi
  unfold Mem.has at hi'
  rw [if_pos hi]
  simp only [hi, decide_true, qlb, qg, qkX, if_false, qe, hm1.c39, qaK, hm1.c0, qbn, hi', and_self, true_and, qu (hm1.row_c hi)]
  by_cases hd : M.down
  ·rw [if_pos hd, if_pos hd]
   refine ⟨⟨qs rfl, qaD _⟩, hc8 _ qa9, ?_⟩
   exact fin _ qa9 (fun r0 H' => At H H' H ∧ r0 = _ ∧ _) (fun H' hk => ⟨At.of_keeps hk, rfl, rfl⟩)
  ·rw [if_neg hd, if_neg hd]
   have hl := hm.ok.lines _ (cl_mem hi)
   refine ⟨⟨qs hl.1, qaD _⟩, hc8 _ hl, ?_⟩
   exact fin _ hl (fun r0 H' => At H H' H ∧ r0 = _ ∧ _) (fun H' hk => ⟨At.of_keeps hk, rfl, rfl⟩)
 ·rw [if_neg hi]
  simp only [hi, decide_false, qlj, qg, if_true]
  refine ⟨⟨qs rfl, qaD _⟩, hc8 _ qa9, ?_⟩
  exact fin _ qa9 (fun r0 H' => At H H' H ∧ r0 = _ ∧ _) (fun H' hk => ⟨At.of_keeps hk, rfl, trivial⟩)
end
structure Frm (H H' : AH) (p c : Nat) : Prop where
 size : H'.size = H.size
 get : ∀ b, b ≠ p → b ≠ c → H'.get b = H.get b
theorem Frm.cell {H H' : AH} {p c b i : Nat} (h : Frm H H' p c) (h1 : b ≠ p) (h2 : b ≠ c) : AH.cell? H' ⟨b, i, none⟩ = AH.cell? H ⟨b, i, none⟩ := by
 simp only [AH.cell?, h.get b h1 h2]
theorem Frm.set (H : AH) (p c : Nat) (M : Mem) : Frm H (setM H p c M) p c := ⟨rfl, fun b h1 h2 => qcP h1 h2⟩
theorem Frm.trans {H H' H2 : AH} {p c : Nat} (h : Frm H H' p c) (h' : Frm H' H2 p c) : Frm H H2 p c := ⟨h'.size.trans h.size, fun b h1 h2 => (h'.get b h1 h2).trans (h.get b h1 h2)⟩
section
variable {H : AH} {p c : Nat} {M M' : Mem} {i r : Int}
theorem qI.g {v : Int} {k : Int → AH → Prop} (hm : qE H p c M) (hv : isU v) (e : M.set i v = (M', r)) (h : ∀ H', qE H' p c M' → Frm H H' p c → k r H') : qI (some ⟨p, 0, none⟩) i v H k := by
 refine qI.s hm hv ?_
 have ok := Mem.set_ok (i := i) hm.ok hv
 rw [e] at ok ⊢
 exact h _ (hm.set ok) (Frm.set _ _ _ _)
end
theorem new_st {H : AH} {cs cs' : List Value} {n z : Nat} {K : Nat → AH → Prop} (hn : cs.length = n) (hl : cs'.length = n) (ha : cs'.all qq = true) (h : K H.size (H.push ⟨cs', .rw, z⟩)) :
  newC H ⟨cs, .rw, z⟩ fun o H1 => (cs'.length = n ∧ qlq cs' qq = true) ∧ stC H1 ⟨o, 0, none⟩ cs' fun Hs => K o Hs := by
 refine ⟨⟨hl, ha⟩, qcp.2 (by omega), ?_⟩
 rw [qc5]
 have : setMany cs 0 cs' = cs' := by
  apply qlc
  intro t
  rw [qb2 _ _ _ _ (by omega)]
  by_cases ht : t < n
  ·rw [if_pos (by omega)]; rfl
  ·rw [if_neg (by omega), qkT (by omega), qkT (by omega)]
 rw [this]
 exact h
theorem qeJ {H : AH} {l : List Int} {e : Nat} (h : isLine l) : AH.row? (H.push ⟨lineV l, .rw, e⟩) ⟨H.size, 0, none⟩ 8 = some (lineV l) := row_new (qs h.1) (qaD _)
theorem rows1 {α : Type} {H : AH} {s : Sl} {g : α → Value} {l : List α} (h : qk7 H s 1 (fun x => [g x]) l) {i : Nat} (hi : i < l.length) :
  ∃ b o, s.a = some ⟨b, o, none⟩ ∧ b < H.size ∧ AH.cell? H (qkN ⟨b, o, none⟩ (i * 1)) = some (g (l[i])) := by
 obtain ⟨b, o, h1, h2, h3⟩ := h.at hi
 refine ⟨b, o, h1, h2, ?_⟩
 rw [qk] at h3 ⊢
 have := (AH.row?_cell h3).2.2.2.2 0 _ rfl
 simpa using this
theorem qew {H H' : AH} {p c : Nat} {M : Mem} (h : qa H H') (hp : H.size ≤ p) (hc : H.size ≤ c) : qa H (setM H' p c M) :=
 ⟨h.1, fun b hb => by rw [qcP (by omega) (by omega)]; exact h.2 b hb⟩
theorem Mem.new_ok {n : Nat} {limits : List Int} (h : n ≤ 200) : (Mem.new n limits).ok := by
 refine ⟨?_, rfl, ?_, by simpa [Mem.new] using h, by simp [Mem.new]⟩
 ·intro c hc
  simp only [Mem.new, qlw, qlM] at hc
  obtain ⟨i, _, rfl⟩ := hc
  exact qa9
 ·intro v hv
  rw [List.eq_of_mem_replicate hv]; unfold isU; omega
def Mem.newTo (n : Nat) (limits : List Int) (j : Nat) : Mem :=
 { Mem.new n limits with cs := (qly n).map fun i => ⟨qkR 8 0, 0, if i < j then limits.getD i (-1) else 0⟩ }
theorem Mem.newTo_ok {n j : Nat} {limits : List Int} (h : n ≤ 200) : (Mem.newTo n limits j).ok := by
 refine ⟨?_, rfl, (Mem.new_ok (limits := limits) h).regU, by simpa [Mem.newTo] using h, by simp [Mem.newTo, Mem.new]⟩
 intro c hc
 simp only [Mem.newTo, qlw, qlM] at hc
 obtain ⟨i, _, rfl⟩ := hc
 exact qa9
theorem Mem.newTo_n (n : Nat) (limits : List Int) : Mem.newTo n limits n = Mem.new n limits := by
 simp only [Mem.newTo, Mem.new, Mem.mk.injEq, and_true]
 refine List.map_congr_left fun i hi => ?_
 rw [if_pos (by simpa using hi)]
theorem Mem.newTo_cl {n j : Nat} {limits : List Int} {i : Nat} (hi : i < n) : (Mem.newTo n limits j).cl i = ⟨qkR 8 0, 0, if i < j then limits.getD i (-1) else 0⟩ := by
 simp [Mem.cl, Mem.newTo, qkP, hi]
theorem Mem.newTo_succ {n j : Nat} {limits : List Int} (hj : j < n) : (Mem.newTo n limits j).setc j ⟨qkR 8 0, 0, limits.getD j (-1)⟩ = Mem.newTo n limits (j + 1) := by
 simp only [Mem.newTo, Mem.setc, Mem.mk.injEq, and_true, true_and]
 apply qlc
 intro i
 by_cases hi : i < n
 ·by_cases hij : i = j
  ·subst hij; rw [qlv (by simpa using hi)]; simp [hi]
  ·rw [qlg (by omega)]
   simp only [qkZ, qlf hi, qle]
   by_cases h : i < j
   ·rw [if_pos h, if_pos (by omega)]
   ·rw [if_neg h, if_neg (by omega)]
 ·rw [qkT (by simp; omega), qkT (by simp; omega)]
theorem qgv {x : Cl} {v : Int} (hx : isLine x.line) : clV { x with limit := v } = setMany (clV x) 9 [.int .i64 v] := by
 simp only [setMany, clV]
 rw [List.set_append_right _ _ (by simp [lineV, hx.1])]
 simp [lineV, hx.1, i64V]
theorem nvm_New.s {H : AH} {n : Int} {x1 : Sl} {limits : List Int} {k : Option Addr → AH → Prop} (hr : qk7 H x1 1 iV limits)
  (h1 : 1 ≤ n ∧ n ≤ 200 → ∀ H', qE H' (H.size + 1) H.size (Mem.new n.toNat limits) → qa H H' → H'.size = H.size + 2 → k (some ⟨H.size + 1, 0, none⟩) H') (h0 : ¬ (1 ≤ n ∧ n ≤ 200) → k none H) : nvm_New n x1 H k := by
 refine nvm_New.link ?_
 unfold nvm_New.b nvm_New.j2
 simp only [qg, decide_eq_true_eq]
 by_cases hn1 : n < 1
 ·rw [if_pos hn1]; exact h0 (by omega)
 ·rw [if_neg hn1]
  by_cases hn2 : n > 200
  ·rw [if_pos hn2]; exact h0 (by omega)
  ·rw [if_neg hn2]
   refine ⟨by simp only [lim]; omega, ?_⟩
   simp only [qx, qm]
   have hz : (⟨zerosOf n.toNat [(qkL .u64 (0 : Int)), (qkL .u64 (0 : Int)), (qkL .u64 (0 : Int)), (qkL .u64 (0 : Int)), (qkL .u64 (0 : Int)), (qkL .u64 (0 : Int)), (qkL .u64 (0 : Int)), (qkL .u64 (0 : Int)), (qkL .i64 (0 : Int)), (qkL .i64 (0 : Int))], .rw, 10⟩ : AObj) = celObj (Mem.newTo n.toNat limits 0) := by
    simp only [celObj, Mem.newTo, AObj.mk.injEq, and_true]
    unfold zerosOf
    rw [List.flatMap_map]
    simp only [Nat.not_lt_zero, if_false]
    have : (qly n.toNat).flatMap (fun (_ : Nat) => clV ⟨qkR 8 0, 0, 0⟩) = (qkR n.toNat (clV ⟨qkR 8 0, 0, 0⟩)).flatten := by
     rw [List.flatMap_def]
     congr 1
     apply qlc
     intro i
     by_cases hi : i < n.toNat
     ·simp [hi]
     ·rw [qkT (by simp; omega), qkT (by simp; omega)]
    rw [this]
    rfl
   rw [hz]
   generalize hX : (H.push (celObj (Mem.newTo n.toNat limits 0))).push _ = H1
   have hm1 : qE H1 (H.size + 1) H.size (Mem.newTo n.toNat limits 0) := by
    subst hX
    refine ⟨?_, ?_, by omega, by simp [qm], by simp [qm]; omega, Mem.newTo_ok (by omega)⟩
    ·rw [qr, qm, if_pos rfl]
     simp only [memObj, Mem.newTo, Mem.new, List.length_map, List.length_range]
     rfl
    ·rw [qr, qm, if_neg (by omega), qr, if_pos rfl]
   have hs1 : H1.size = H.size + 2 := by subst hX; simp [qm]
   have hk1 : qa H H1 := by subst hX; exact ((qa.refl H).push _).push _
   rw [hm1.c0, qbn]
   refine qC (t := (0 : Int)) (I := fun (t : Int) H' => ∃ j : Nat, t = (j : Int) ∧ j ≤ n.toNat ∧ H' = setM H1 (H.size + 1) H.size (Mem.newTo n.toNat limits j)) (m := fun (t : Int) _ => qkS (n - t)) ?_ ⟨0, rfl, by omega, hm1.same.symm⟩
   intro t H2 hI it hit
   obtain ⟨j, rfl, hj, rfl⟩ := hI
   have hmj := hm1.set (Mem.newTo_ok (n := n.toNat) (limits := limits) (j := j) (by omega))
   have hlen : ∀ j, ((Mem.newTo n.toNat limits j).cs.length : Int) = n := by intro j; simp [Mem.newTo]; omega
   have hR := hr.keep (qew (M := Mem.newTo n.toNat limits j) (p := H.size + 1) (c := H.size) hk1 (by omega) (by omega))
   unfold nvm_New.l1
   simp only [qg, decide_eq_true_eq, hlen, hmj.c0, qbn, qe]
   by_cases hlt : (j : Int) < n
   ·rw [if_pos hlt]
    have hi : (Mem.newTo n.toNat limits j).has j := ⟨by omega, by rw [hlen]; exact hlt⟩
    have hcl := Mem.newTo_cl (n := n.toNat) (limits := limits) (j := j) (i := j) (by omega)
    refine ⟨by omega, stC_to (hmj.can_c hi (by simp)) ((hmj.put_c hi (x := ⟨qkR 8 0, 0, -1⟩) (by simp) (by rw [qkQ, hcl]; exact qgv (x := ⟨qkR 8 0, 0, _⟩) qa9)).trans qcE) ?_⟩
    simp only [qkQ]
    have hm2 := hm1.set (Mem.setc_ok (i := j) (x := ⟨qkR 8 0, 0, -1⟩) (Mem.newTo_ok (n := n.toNat) (limits := limits) (j := j) (by omega)) qa9)
    have hi2 : ((Mem.newTo n.toNat limits j).setc j ⟨qkR 8 0, 0, -1⟩).has j := Mem.setc_has.2 hi
    have hlen2 : (((Mem.newTo n.toNat limits j).setc j ⟨qkR 8 0, 0, -1⟩).cs.length : Int) = n := by simp [Mem.setc, Mem.newTo]; omega
    rw [hr.1, qd (n := (j : Int) + 1) (by omega) (by omega)]
    by_cases hlim : (j : Int) < (limits.length : Int)
    ·rw [if_pos hlim]
     have hR2 := hr.keep (qew (M := (Mem.newTo n.toNat limits j).setc j ⟨qkR 8 0, 0, -1⟩) (p := H.size + 1) (c := H.size) hk1 (by omega) (by omega))
     obtain ⟨b, o, ha, _, hcell⟩ := rows1 (g := fun v => qkL .i64 v) hR2 (i := j) (by omega)
     rw [hm2.c0, qbn]
     refine ⟨by omega, ?_⟩
     rw [ha, qe, hcell, qf]
     have hcl2 : ((Mem.newTo n.toNat limits j).setc j ⟨qkR 8 0, 0, -1⟩).cl j = ⟨qkR 8 0, 0, -1⟩ := Mem.setc_cl (i := (j : Int)) hi
     have hp := hm2.put_c (i := (j : Int)) hi2 (x := ⟨qkR 8 0, 0, limits[j]⟩) (j := 9) (vs := [.int .i64 limits[j]]) (by simp) (by rw [qkQ, hcl2]; exact qgv (x := ⟨qkR 8 0, 0, -1⟩) qa9)
     rw [qkQ] at hp
     refine ⟨⟨by omega, by rw [hlen2]; exact hlt⟩, stC_to (hm2.can_c (i := j) hi2 (by simp)) (hp.trans qcE) ?_⟩
     rw [Mem.setc_setc]
     refine hit _ _ ⟨j + 1, by omega, by omega, ?_⟩ (by omega)
     rw [← Mem.newTo_succ (by omega), qkP, qkO (by omega), qll]
    ·rw [if_neg hlim]
     refine hit _ _ ⟨j + 1, by omega, by omega, ?_⟩ (by omega)
     rw [← Mem.newTo_succ (by omega), qkP, qkT (by omega), Option.getD_none]
   ·rw [if_neg hlt]
    have : j = n.toNat := by omega
    subst this
    rw [Mem.newTo_n]
    exact h1 (by omega) _ (hm1.set (Mem.new_ok (by omega))) (qew hk1 (by omega) (by omega)) hs1
theorem qim : ∀ {n : Nat} {a b : List Int}, a.length = n → b.length = n → eqCells (qkR n (K.int .u64)) (lineV a) (lineV b) = some (a == b) := by
 intro n
 induction n with
 | zero => intro a b ha hb; simp at ha hb; subst ha hb; rfl
 | succ n ih =>
  intro a b ha hb
  obtain _ | ⟨x, a⟩ := a
  ·simp at ha
  obtain _ | ⟨y, b⟩ := b
  ·simp at hb
  have := ih (a := a) (b := b) (by simpa using ha) (by simpa using hb)
  simp only [lineV, u64V, List.replicate_succ, qlN, eqCells, and_self, if_true] at this ⊢
  rw [this]
  rfl
theorem eq_line {a b : List Int} {k : Bool → Prop} (ha : isLine a) (hb : isLine b) : elO (eqCells (qkR 8 (K.int .u64)) (lineV a) (lineV b)) k ↔ k (a == b) := by
 rw [qim ha.1 hb.1, qj5]
theorem qfL {α : Type} {H : AH} {z : Nat} {f : α → List Value} : qk7 H ⟨none, 0, 0⟩ z f [] := ⟨rfl, fun i x h => by simp at h⟩
theorem qfN {H : AH} {l : List Int} {K : Nat → AH → Prop} (hl : isLine l) (h : K H.size (H.push ⟨lineV l, .rw, 0⟩)) :
  newC H ⟨lineV (qkR 8 0), .rw, 0⟩ fun o H1 => ((lineV l).length = 8 ∧ qlq (lineV l) qq = true) ∧ stC H1 ⟨o, 0, none⟩ (lineV l) fun Hs => K o Hs :=
 new_st (qs rfl) (qs hl.1) (qaD _) h
theorem umod {m : Int} (hm : 0 < m) (z : Int) : 0 ≤ Int.tmod (qkM .u64 z) m ∧ Int.tmod (qkM .u64 z) m < m := by
 have h0 : 0 ≤ qkM .u64 z := by
  simp only [qkM, qlO, IntKind.signed, Bool.false_and, Int.reducePow, qkX, if_false]; omega
 rw [ql0 h0]
 exact ⟨Int.emod_nonneg _ (by omega), Int.emod_lt_of_pos _ (by omega)⟩
section
variable {H : AH}
theorem Mem.new_cl {n i : Nat} {limits : List Int} (hi : i < n) : (Mem.new n limits).cl i = ⟨qkR 8 0, 0, limits.getD i (-1)⟩ := by
 rw [← Mem.newTo_n, Mem.newTo_cl hi, if_pos hi]
theorem Mem.setc_cl' {M : Mem} {i j : Nat} {x : Cl} (h : i < M.cs.length) : (M.setc i x).cl j = if j = i then x else M.cl j := by
 simp only [Mem.cl, Mem.setc, qkP]
 by_cases hij : j = i
 ·subst hij; simp [h]
 ·rw [if_neg hij, qlg (by omega)]
end
section
variable {H : AH}
theorem Mem.put_len {M : Mem} {i : Int} {l : List Int} : (M.put i l).1.cs.length = M.cs.length := by
 unfold Mem.put
 split
 ·split
  ·rfl
  ·simp only; split
   ·rw [Mem.wr_cs]
   ·simp [Mem.setc, Mem.wr_cs]
 ·rfl
theorem Mem.set_len {M : Mem} {i v : Int} : (M.set i v).1.cs.length = M.cs.length := by
 unfold Mem.set
 split
 ·split
  ·rfl
  ·simp only; split <;> simp [Mem.wr_cs]
 ·rfl
end
theorem Mem.wr_mask {M : Mem} : M.wr.mask = M.mask := by
 unfold Mem.wr; split
 ·rfl
 ·split <;> rfl
structure PutAny (M : Mem) (i : Nat) (l : List Int) (M' : Mem) (e : Int) : Prop where
 regs : M'.regs = M.regs
 len : M'.cs.length = M.cs.length
 mask : M'.mask = M.mask
 other : ∀ j, j ≠ i → M'.cl j = M.cl j
 limit : (M'.cl i).limit = (M.cl i).limit
 res : (e = 0 ∧ M'.down = false ∧ (M.cl i).worn = false ∧ (M'.cl i).line = l) ∨
  (e = 3 ∧ M'.down = false ∧ (M.cl i).worn = true ∧ M'.cl i = M.cl i) ∨
  (e = 2 ∧ M'.down = true ∧ M.cut ≠ -1 ∧ ((M'.cl i).line = (M.cl i).line ∨ (M'.cl i).line = mixL (M.cl i).line l M.mask))
 cut : M.cut = -1 → M'.cut = -1
 cutge : -1 ≤ M'.cut
theorem Mem.wr_cutge {M : Mem} (h : -1 ≤ M.cut) : -1 ≤ M.wr.cut := by
 unfold Mem.wr; split
 ·exact h
 ·split
  ·simp only; omega
  ·exact h
theorem Mem.put_any {M : Mem} {i : Nat} {l : List Int} (hd : M.down = false) (hi : i < M.cs.length) (hl : l.length = 8) (hc : -1 ≤ M.cut) : PutAny M i l (M.put i l).1 (M.put i l).2 := by
 have hhas : M.has i := ⟨by omega, by omega⟩
 unfold Mem.put
 rw [if_pos hhas, if_neg (by simp [hd]), qkQ]
 have hi' : i < M.wr.cs.length := by rw [Mem.wr_cs]; exact hi
 have hwr : (M.cut = 0 ∧ M.wr.down = true ∧ M.wmask = M.mask) ∨ (M.cut ≠ 0 ∧ M.wr.down = false ∧ M.wmask = -1) := by
  unfold Mem.wr Mem.wmask
  by_cases h0 : M.cut = 0
  ·left; rw [if_pos h0, if_pos h0]; exact ⟨h0, rfl, rfl⟩
  ·right; rw [if_neg h0, if_neg h0]; refine ⟨h0, ?_, rfl⟩
   split <;> exact hd
 have hcut : M.cut = -1 → M.wr.cut = -1 := by
  intro h; unfold Mem.wr; rw [if_neg (by omega), if_neg (by omega)]; exact h
 have hmask : M.wr.mask = M.mask := by exact Mem.wr_mask
 simp only
 by_cases hw : (M.cl i).worn = true
 ·rw [if_pos hw]
  refine ⟨Mem.wr_regs, by rw [Mem.wr_cs], hmask, fun j _ => Mem.wr_cl, by rw [Mem.wr_cl], ?_, hcut, Mem.wr_cutge hc⟩
  rcases hwr with ⟨h0, h1, h2⟩ | ⟨h0, h1, h2⟩
  ·exact .inr (.inr ⟨by simp [Mem.told, h1], h1, by omega, .inl (by rw [Mem.wr_cl])⟩)
  ·exact .inr (.inl ⟨by simp [Mem.told, h1], h1, hw, Mem.wr_cl⟩)
 ·rw [if_neg hw]
  refine ⟨Mem.wr_regs, by simp [Mem.setc, Mem.wr_cs], hmask, fun j hj => by rw [Mem.setc_cl' hi', if_neg hj, Mem.wr_cl], by rw [Mem.setc_cl' hi', if_pos rfl], ?_, hcut, Mem.wr_cutge hc⟩
  rcases hwr with ⟨h0, h1, h2⟩ | ⟨h0, h1, h2⟩
  ·refine .inr (.inr ⟨by simp [Mem.told, h1], h1, by omega, .inr ?_⟩)
   rw [Mem.setc_cl' hi', if_pos rfl, h2]
  ·refine .inl ⟨by simp [Mem.told, h1], h1, by simpa using hw, ?_⟩
   rw [Mem.setc_cl' hi', if_pos rfl, h2, qkj hl]
structure SetAny (M : Mem) (i : Nat) (v : Int) (M' : Mem) (e : Int) : Prop where
 cs : M'.cs = M.cs
 mask : M'.mask = M.mask
 res : (e = 0 ∧ M'.down = false ∧ M'.regs = M.regs.set i v) ∨ (e = 2 ∧ M'.down = true ∧ M.cut ≠ -1 ∧ (M'.regs = M.regs ∨ M'.regs = M.regs.set i v))
 cut : M.cut = -1 → M'.cut = -1
 cutge : -1 ≤ M'.cut
theorem Mem.set_any {M : Mem} {i : Nat} {v : Int} (hd : M.down = false) (hi : i < 35) (hc : -1 ≤ M.cut) : SetAny M i v (M.set i v).1 (M.set i v).2 := by
 unfold Mem.set
 rw [if_pos ⟨by omega, by omega⟩, if_neg (by simp [hd]), qkQ]
 have hmask : M.wr.mask = M.mask := by exact Mem.wr_mask
 by_cases h0 : M.cut = 0
 ·have h1 : M.wr.down = true := by unfold Mem.wr; rw [if_pos h0]
  by_cases hb : mbit M.wmask 0 = true
  ·rw [if_pos hb]
   exact ⟨Mem.wr_cs, hmask, .inr ⟨by simp [Mem.told, h1], h1, by omega, .inr rfl⟩, by omega, Mem.wr_cutge hc⟩
  ·rw [if_neg hb]
   exact ⟨Mem.wr_cs, hmask, .inr ⟨by simp [Mem.told, h1], h1, by omega, .inl Mem.wr_regs⟩, by omega, Mem.wr_cutge hc⟩
 ·have h1 : M.wr.down = false := by unfold Mem.wr; rw [if_neg h0]; split <;> exact hd
  have h2 : M.wmask = -1 := by unfold Mem.wmask; rw [if_neg h0]
  rw [h2, qhR 0 (by omega), if_pos rfl]
  refine ⟨Mem.wr_cs, hmask, .inl ⟨by simp [Mem.told, h1], h1, rfl⟩, fun h => ?_, Mem.wr_cutge hc⟩
  simp only [Mem.wr]; rw [if_neg h0, if_neg (by omega)]; exact h
def Mem.whose (M : Mem) (i : Nat) : Int := M.regs.getD (3 + i) 0
def Mem.place (M : Mem) (n s : Nat) : Nat → Nat
 | 0 => s
 | j + 1 => if M.whose j = (s : Int) + 1 then n + j else M.place n s j
def Mem.view (M : Mem) (n sp s : Nat) : List Int := (M.cl (M.place n s sp)).line
structure LV (M : Mem) (n sp k : Nat) : Prop where
 len : M.cs.length = n + sp
 n1 : 1 ≤ n
 sp16 : sp ≤ 16
 kle : k ≤ sp
 used : ∀ i, i < k → 1 ≤ M.whose i ∧ M.whose i ≤ (n : Int) + 1
 free : ∀ i, k ≤ i → i < sp → M.whose i = 0
def Mem.next (M : Mem) (sp : Nat) : Nat → Nat
 | 0 => sp
 | j + 1 => if M.whose (sp - (j + 1)) = 0 then sp - (j + 1) else M.next sp j
def lgo (n sp slot : Nat) (d : List Int) : Nat → Mem → Mem × Int
 | 0, M => (M, 3)
 | j + 1, M =>
  let r := M.put ((n + (sp - (j + 1)) : Nat) : Int) d
  if r.2 = 0 then r.1.set ((3 + (sp - (j + 1)) : Nat) : Int) ((slot : Int) + 1)
  else if r.2 = 3 then
   let q := r.1.set ((3 + (sp - (j + 1)) : Nat) : Int) ((n : Int) + 1)
   if q.2 = 0 then lgo n sp slot d j q.1 else q
  else r
def lput (n sp : Nat) (M : Mem) (slot : Int) (d : List Int) : Mem × Int :=
 if 0 ≤ slot ∧ slot < n then
  if M.down then (M, 2) else
  let r := M.put ((M.place n slot.toNat sp : Nat) : Int) d
  if r.2 = 3 then lgo n sp slot.toNat d (sp - M.next sp sp) r.1 else r
 else (M, 1)
def lget (n sp : Nat) (M : Mem) (slot : Int) : List Int × Int :=
 if 0 ≤ slot ∧ slot < n then if M.down then (qkR 8 0, 2) else (M.view n sp slot.toNat, 0) else (qkR 8 0, 1)
section
variable {M M' : Mem} {n sp k s : Nat}
theorem qc7 (M : Mem) (n s sp : Nat) : M.place n s sp = s ∨ ∃ j, j < sp ∧ M.place n s sp = n + j ∧ M.whose j = (s : Int) + 1 := by
 induction sp with
 | zero => exact .inl rfl
 | succ j ih =>
  simp only [Mem.place]
  by_cases h : M.whose j = (s : Int) + 1
  ·rw [if_pos h]; exact .inr ⟨j, by omega, rfl, h⟩
  ·rw [if_neg h]
   rcases ih with ih | ⟨i, h1, h2, h3⟩
   ·exact .inl ih
   ·exact .inr ⟨i, by omega, h2, h3⟩
theorem qeb (hs : s < n) : M.place n s sp < n + sp := by
 rcases qc7 M n s sp with h | ⟨j, h1, h2, _⟩ <;> omega
theorem qjz {s' : Nat} (hs : s < n) (hs' : s' < n) (h : M.place n s sp = M.place n s' sp) : s = s' := by
 rcases qc7 M n s sp with h1 | ⟨j, h1, h2, h3⟩ <;> rcases qc7 M n s' sp with h4 | ⟨i, h4, h5, h6⟩
 ·omega
 ·omega
 ·omega
 ·have : i = j := by omega
  subst this
  omega
theorem qcT (h : ∀ j, j < sp → (M'.whose j = (s : Int) + 1 ↔ M.whose j = (s : Int) + 1)) : M'.place n s sp = M.place n s sp := by
 induction sp with
 | zero => rfl
 | succ j ih =>
  simp only [Mem.place]
  have := h j (by omega)
  by_cases hj : M.whose j = (s : Int) + 1
  ·rw [if_pos hj, if_pos (this.2 hj)]
  ·rw [if_neg hj, if_neg (fun hh => hj (this.1 hh)), ih fun i hi => h i (by omega)]
theorem qjN {i : Nat} (hi : i < sp) (h : M.whose i = (s : Int) + 1) (hz : ∀ j, i < j → j < sp → M.whose j ≠ (s : Int) + 1) : M.place n s sp = n + i := by
 induction sp with
 | zero => omega
 | succ j ih =>
  simp only [Mem.place]
  by_cases hj : i = j
  ·subst hj; rw [if_pos h]
  ·rw [if_neg (hz j (by omega) (by omega))]
   exact ih (by omega) fun q h1 h2 => hz q h1 (by omega)
theorem LV.next (h : LV M n sp k) : M.next sp sp = k := by
 have key : ∀ j, j ≤ sp → sp - k ≤ j → M.next sp j = k := by
  intro j
  induction j with
  | zero => intro _ h2; simp only [Mem.next]; have := h.kle; omega
  | succ j ih =>
   intro h1 h2
   simp only [Mem.next]
   by_cases hz : M.whose (sp - (j + 1)) = 0
   ·rw [if_pos hz]
    by_cases hlt : sp - (j + 1) < k
    ·have := h.used _ hlt; omega
    ·omega
   ·rw [if_neg hz]
    refine ih (by omega) ?_
    have : sp - (j + 1) < k := by
     rcases Nat.lt_or_ge (sp - (j + 1)) k with hh | hh
     ·exact hh
     ·exact absurd (h.free _ hh (by omega)) hz
    omega
 exact key sp (qkV _) (by omega)
theorem LV.same (h : LV M n sp k) (hr : M'.regs = M.regs) (hl : M'.cs.length = M.cs.length) : LV M' n sp k :=
 ⟨by rw [hl]; exact h.len, h.n1, h.sp16, h.kle, fun i hi => by simp only [Mem.whose, hr]; exact h.used i hi, fun i hi hi' => by simp only [Mem.whose, hr]; exact h.free i hi hi'⟩
theorem qe5 (hr : M.regs.length = 35) {i j : Nat} {v : Int} (hi : i < 16) (hM : M'.regs = M.regs.set (3 + i) v) : M'.whose j = if j = i then v else M.whose j := by
 unfold Mem.whose
 rw [hM]
 simp only [qkP]
 by_cases hij : j = i
 ·subst hij; rw [qlv (by omega), if_pos rfl]; rfl
 ·rw [qlg (by omega), if_neg hij]
theorem qdN (hr : M'.regs = M.regs) (hl : (M'.cl (M.place n s sp)).line = (M.cl (M.place n s sp)).line) : M'.view n sp s = M.view n sp s := by
 unfold Mem.view
 rw [qcT (M' := M') (M := M) fun j _ => by simp only [Mem.whose, hr]]
 exact hl
structure LPut (n sp : Nat) (M : Mem) (slot : Nat) (d : List Int) (k : Nat) (M' : Mem) (e : Int) : Prop where
 lv : ∃ k', k ≤ k' ∧ LV M' n sp k' ∧ (e = 3 → k' = sp)
 other : ∀ s, s < n → s ≠ slot → M'.view n sp s = M.view n sp s
 regs : ∀ r, (r < 3 ∨ 19 ≤ r) → M'.regs.getD r 0 = M.regs.getD r 0
 mask : M'.mask = M.mask
 rlen : M'.regs.length = 35
 res : (e = 0 ∧ M'.down = false ∧ M'.view n sp slot = d) ∨ (e = 3 ∧ M'.down = false ∧ M'.view n sp slot = M.view n sp slot) ∨
  (e = 2 ∧ M'.down = true ∧ M.cut ≠ -1 ∧ (M'.view n sp slot = M.view n sp slot ∨ M'.view n sp slot = d ∨ M'.view n sp slot = mixL (M.view n sp slot) d M.mask))
 cut : M.cut = -1 → M'.cut = -1
 cutge : -1 ≤ M'.cut
end
section
variable {M M' : Mem} {n sp k s slot : Nat} {d : List Int}
theorem qhX {i : Nat} {v : Int} (hi : i < 16) (hM : M'.regs = M.regs.set (3 + i) v) : ∀ r, (r < 3 ∨ 19 ≤ r) → M'.regs.getD r 0 = M.regs.getD r 0 := by
 intro r hr
 rw [hM]
 simp only [qkP]
 rw [qlg (by omega)]
theorem qdD (h : M'.cs = M.cs) (i : Nat) : M'.cl i = M.cl i := by unfold Mem.cl; rw [h]
theorem qjb {i : Nat} {e : Int} {l : List Int} (hP : PutAny M (n + i) l M' e) (hz : ∀ s, s < n → M.whose i ≠ (s : Int) + 1) (hs : s < n) : M'.view n sp s = M.view n sp s := by
 refine qdN hP.regs ?_
 rw [hP.other]
 intro h
 rcases qc7 M n s sp with h1 | ⟨j, h1, h2, h3⟩
 ·omega
 ·have : j = i := by omega
  subst this
  exact hz s hs h3
theorem LV.take (h : LV M n sp k) (hr : M.regs.length = 35) (hk : k < sp) {v : Int} (hv : 1 ≤ v ∧ v ≤ (n : Int) + 1) (hM : M'.regs = M.regs.set (3 + k) v) (hl : M'.cs.length = M.cs.length) : LV M' n sp (k + 1) := by
 have hsp := h.sp16
 have hw := fun j => qe5 (M' := M') (M := M) (j := j) hr (show k < 16 by omega) hM
 refine ⟨by rw [hl]; exact h.len, h.n1, h.sp16, by omega, fun i hi => ?_, fun i hi hi' => ?_⟩
 ·rw [hw i]
  by_cases hik : i = k
  ·rw [if_pos hik]; exact hv
  ·rw [if_neg hik]; exact h.used i (by omega)
 ·rw [hw i, if_neg (by omega)]; exact h.free i (by omega) hi'
theorem qgL (h : LV M n sp k) (hr : M.regs.length = 35) (hk : k < sp) {v : Int} (hM : M'.regs = M.regs.set (3 + k) v) (hcs : M'.cs = M.cs) (hs : s < n) (hv : v ≠ (s : Int) + 1) : M'.view n sp s = M.view n sp s := by
 have hsp := h.sp16
 unfold Mem.view
 rw [qdD hcs, qcT (M' := M') (M := M)]
 intro j hj
 rw [qe5 hr (by omega) hM]
 by_cases hjk : j = k
 ·rw [if_pos hjk]
  subst hjk
  have := h.free j (qkV _) hj
  constructor
  ·intro e; exact absurd e hv
  ·intro e; omega
 ·rw [if_neg hjk]
theorem qfX (h : LV M n sp k) (hr : M.regs.length = 35) (hk : k < sp) (hM : M'.regs = M.regs.set (3 + k) ((slot : Int) + 1)) (hcs : M'.cs = M.cs) : M'.view n sp slot = (M.cl (n + k)).line := by
 have hsp := h.sp16
 have hw := fun j => qe5 (M' := M') (M := M) (j := j) hr (show k < 16 by omega) hM
 unfold Mem.view
 rw [qdD hcs, qjN (i := k) hk (by rw [hw k, if_pos rfl])]
 intro j h1 h2
 rw [hw j, if_neg (by omega), h.free j (by omega) h2]
 omega
theorem lgo_any : ∀ (j : Nat) (M : Mem), j ≤ sp → LV M n sp (sp - j) → M.regs.length = 35 → M.down = false → -1 ≤ M.cut → slot < n → d.length = 8 →
  LPut n sp M slot d (sp - j) (lgo n sp slot d j M).1 (lgo n sp slot d j M).2 := by
 intro j
 induction j with
 | zero =>
  intro M _ h hr hd hc hs hl
  exact ⟨⟨sp, by omega, h, fun _ => rfl⟩, fun s _ _ => rfl, fun r _ => rfl, rfl, hr, .inr (.inl ⟨rfl, hd, rfl⟩), id, hc⟩
 | succ j ih =>
  intro M hj h hr hd hc hs hl
  have hsp := h.sp16
  have hlen := h.len
  have hk : sp - (j + 1) < sp := by omega
  have hz := h.free _ (qkV _) hk
  have hP := Mem.put_any (M := M) (i := n + (sp - (j + 1))) (l := d) hd (by omega) hl hc
  have hzz : ∀ s, s < n → M.whose (sp - (j + 1)) ≠ (s : Int) + 1 := fun s _ => by omega
  have hkeq : sp - j = sp - (j + 1) + 1 := by omega
  unfold lgo
  simp only
  generalize hR : M.put ((n + (sp - (j + 1)) : Nat) : Int) d = R at *
  generalize sp - (j + 1) = k at *
  have h1 : LV R.1 n sp k := h.same hP.regs hP.len
  have hr1 : R.1.regs.length = 35 := by rw [hP.regs]; exact hr
  have hv1 : ∀ s, s < n → R.1.view n sp s = M.view n sp s := fun s hs => qjb hP hzz hs
  have hregs1 : ∀ r, R.1.regs.getD r 0 = M.regs.getD r 0 := fun r => by rw [hP.regs]
  have set : ∀ v, R.1.down = false → SetAny R.1 (3 + k) v (R.1.set ((3 + k : Nat) : Int) v).1 (R.1.set ((3 + k : Nat) : Int) v).2 := fun v hd1 => Mem.set_any hd1 (by omega) hP.cutge
  rcases hP.res with ⟨e, hd1, _, hline⟩ | ⟨e, hd1, _, _⟩ | ⟨e, hd1, hcut, _⟩
  ·rw [if_pos e]
   have hS := set ((slot : Int) + 1) hd1
   generalize R.1.set ((3 + k : Nat) : Int) ((slot : Int) + 1) = Q at *
   have hcl : Q.1.cs.length = R.1.cs.length := by rw [hS.cs]
   have hother : ∀ s, s < n → s ≠ slot → (Q.1.regs = R.1.regs ∨ Q.1.regs = R.1.regs.set (3 + k) ((slot : Int) + 1)) → Q.1.view n sp s = M.view n sp s := by
    intro s hs hne hor
    rw [← hv1 s hs]
    rcases hor with hor | hor
    ·exact qdN hor (by rw [qdD hS.cs])
    ·exact qgL h1 hr1 hk hor hS.cs hs (by omega)
   have hregs : ∀ r, (r < 3 ∨ 19 ≤ r) → (Q.1.regs = R.1.regs ∨ Q.1.regs = R.1.regs.set (3 + k) ((slot : Int) + 1)) → Q.1.regs.getD r 0 = M.regs.getD r 0 := by
    intro r hr hor
    rw [← hregs1 r]
    rcases hor with hor | hor
    ·rw [hor]
    ·exact qhX (by omega) hor r hr
   rcases hS.res with ⟨e', hd', hq⟩ | ⟨e', hd', hcut, hq⟩
   ·refine ⟨⟨k + 1, by omega, h1.take hr1 hk (by omega) hq hcl, by omega⟩, fun s hs hne => hother s hs hne (.inr hq), fun r hr => hregs r hr (.inr hq), hS.mask.trans hP.mask, by rw [hq]; simpa using hr1, .inl ⟨e', hd', ?_⟩, fun hc => hS.cut (hP.cut hc), hS.cutge⟩
    rw [qfX h1 hr1 hk hq hS.cs, hline]
   ·refine ⟨?_, fun s hs hne => hother s hs hne hq, fun r hr => hregs r hr hq, hS.mask.trans hP.mask, ?_, .inr (.inr ⟨e', hd', fun hc => hcut (hP.cut hc), ?_⟩), fun hc => hS.cut (hP.cut hc), hS.cutge⟩
    ·rcases hq with hq | hq
     ·exact ⟨k, qkV _, h1.same hq hcl, by omega⟩
     ·exact ⟨k + 1, by omega, h1.take hr1 hk (by omega) hq hcl, by omega⟩
    ·rcases hq with hq | hq
     ·rw [hq]; exact hr1
     ·rw [hq]; simpa using hr1
    ·rcases hq with hq | hq
     ·left
      rw [← hv1 slot hs]
      exact qdN hq (by rw [qdD hS.cs])
     ·right; left
      rw [qfX h1 hr1 hk hq hS.cs, hline]
  ·rw [if_neg (by omega), if_pos e]
   have hS := set ((n : Int) + 1) hd1
   generalize R.1.set ((3 + k : Nat) : Int) ((n : Int) + 1) = Q at *
   have hcl : Q.1.cs.length = R.1.cs.length := by rw [hS.cs]
   have hother : ∀ s, s < n → (Q.1.regs = R.1.regs ∨ Q.1.regs = R.1.regs.set (3 + k) ((n : Int) + 1)) → Q.1.view n sp s = M.view n sp s := by
    intro s hs hor
    rw [← hv1 s hs]
    rcases hor with hor | hor
    ·exact qdN hor (by rw [qdD hS.cs])
    ·exact qgL h1 hr1 hk hor hS.cs hs (by omega)
   have hregs : ∀ r, (r < 3 ∨ 19 ≤ r) → (Q.1.regs = R.1.regs ∨ Q.1.regs = R.1.regs.set (3 + k) ((n : Int) + 1)) → Q.1.regs.getD r 0 = M.regs.getD r 0 := by
    intro r hr hor
    rw [← hregs1 r]
    rcases hor with hor | hor
    ·rw [hor]
    ·exact qhX (by omega) hor r hr
   rcases hS.res with ⟨e', hd', hq⟩ | ⟨e', hd', hcut, hq⟩
   ·rw [if_pos e']
    have h2 := h1.take hr1 hk (by have := h.n1; omega) hq hcl
    rw [← hkeq] at h2
    have hI := ih Q.1 (by omega) h2 (by rw [hq]; simpa using hr1) hd' hS.cutge hs hl
    generalize lgo n sp slot d j Q.1 = Z at *
    obtain ⟨⟨k', hk', hlv, he⟩, i2, i3, i4, i5, i6, i7, i8⟩ := hI
    refine ⟨⟨k', by omega, hlv, he⟩, fun s hs hne => (i2 s hs hne).trans (hother s hs (.inr hq)), fun r hr => (i3 r hr).trans (hregs r hr (.inr hq)), i4.trans (hS.mask.trans hP.mask), i5, ?_, fun hc => i7 (hS.cut (hP.cut hc)), i8⟩
    have hvs := hother slot hs (.inr hq)
    rw [hvs] at i6
    rcases i6 with i6 | i6 | ⟨a, b, c, i6⟩
    ·exact .inl i6
    ·exact .inr (.inl i6)
    ·refine .inr (.inr ⟨a, b, fun hc => c (hS.cut (hP.cut hc)), ?_⟩)
     rw [hS.mask, hP.mask] at i6
     exact i6
   ·rw [if_neg (by omega)]
    refine ⟨?_, fun s hs _ => hother s hs hq, fun r hr => hregs r hr hq, hS.mask.trans hP.mask, ?_, .inr (.inr ⟨e', hd', fun hc => hcut (hP.cut hc), .inl (hother slot hs hq)⟩), fun hc => hS.cut (hP.cut hc), hS.cutge⟩
    ·rcases hq with hq | hq
     ·exact ⟨k, qkV _, h1.same hq hcl, by omega⟩
     ·exact ⟨k + 1, by omega, h1.take hr1 hk (by have := h.n1; omega) hq hcl, by omega⟩
    ·rcases hq with hq | hq
     ·rw [hq]; exact hr1
     ·rw [hq]; simpa using hr1
  ·rw [if_neg (by omega), if_neg (by omega)]
   exact ⟨⟨k, qkV _, h1, by omega⟩, fun s hs _ => hv1 s hs, fun r _ => hregs1 r, hP.mask, hr1, .inr (.inr ⟨e, hd1, hcut, .inl (hv1 slot hs)⟩), hP.cut, hP.cutge⟩
theorem qhZ (h : LV M n sp k) (hr : M.regs.length = 35) (hd : M.down = false) (hc : -1 ≤ M.cut) (hs : slot < n) (hl : d.length = 8) :
  LPut n sp M slot d k (lput n sp M slot d).1 (lput n sp M slot d).2 := by
 have hlen := h.len
 have hpl := qeb (M := M) (sp := sp) hs
 unfold lput
 rw [if_pos ⟨by omega, by omega⟩, if_neg (by simp [hd]), qkQ]
 simp only
 have hP := Mem.put_any (M := M) (i := M.place n slot sp) (l := d) hd (by omega) hl hc
 rw [h.next]
 generalize M.put ((M.place n slot sp : Nat) : Int) d = R at *
 have h1 : LV R.1 n sp k := h.same hP.regs hP.len
 have hr1 : R.1.regs.length = 35 := by rw [hP.regs]; exact hr
 have hother : ∀ s, s < n → s ≠ slot → R.1.view n sp s = M.view n sp s := by
  intro s hs' hne
  refine qdN hP.regs ?_
  rw [hP.other _ fun e => hne (qjz hs' hs e)]
 have hplace : R.1.place n slot sp = M.place n slot sp := qcT fun j _ => by simp only [Mem.whose, hP.regs]
 have hslot : R.1.view n sp slot = (R.1.cl (M.place n slot sp)).line := by unfold Mem.view; rw [hplace]
 have hold : M.view n sp slot = (M.cl (M.place n slot sp)).line := rfl
 rcases hP.res with ⟨e, hd1, _, hline⟩ | ⟨e, hd1, _, hsame⟩ | ⟨e, hd1, hcut, hline⟩
 ·rw [if_neg (by omega)]
  exact ⟨⟨k, qkV _, h1, by omega⟩, hother, fun r _ => by rw [hP.regs], hP.mask, hr1, .inl ⟨e, hd1, by rw [hslot, hline]⟩, hP.cut, hP.cutge⟩
 ·rw [if_pos e]
  have hkle := h.kle
  have hI := lgo_any (n := n) (sp := sp) (slot := slot) (d := d) (sp - k) R.1 (by omega) (by rw [show sp - (sp - k) = k by omega]; exact h1) hr1 hd1 hP.cutge hs hl
  rw [show sp - (sp - k) = k by omega] at hI
  generalize lgo n sp slot d (sp - k) R.1 = Z at *
  obtain ⟨i1, i2, i3, i4, i5, i6, i7, i8⟩ := hI
  have hvs : R.1.view n sp slot = M.view n sp slot := by rw [hslot, hsame, hold]
  refine ⟨i1, fun s hs' hne => (i2 s hs' hne).trans (hother s hs' hne), fun r hr => (i3 r hr).trans (by rw [hP.regs]), i4.trans hP.mask, i5, ?_, fun hc => i7 (hP.cut hc), i8⟩
  rw [hvs, hP.mask] at i6
  rcases i6 with i6 | i6 | ⟨a, b, c, i6⟩
  ·exact .inl i6
  ·exact .inr (.inl i6)
  ·exact .inr (.inr ⟨a, b, fun hc => c (hP.cut hc), i6⟩)
 ·rw [if_neg (by omega)]
  refine ⟨⟨k, qkV _, h1, by omega⟩, hother, fun r _ => by rw [hP.regs], hP.mask, hr1, .inr (.inr ⟨e, hd1, hcut, ?_⟩), hP.cut, hP.cutge⟩
  rw [hslot, hold]
  rcases hline with hline | hline
  ·exact .inl hline
  ·exact .inr (.inr hline)
end
def lobj (p : Nat) (n sp : Nat) : AObj := ⟨[.pointer (some ⟨p, 0, none⟩), .int .i64 n, .int .i64 sp], .rw, 0⟩
structure LAt (H : AH) (x p c n sp : Nat) (M : Mem) : Prop where
 hx : H.get x = lobj p n sp
 lx : x < H.size
 xp : x ≠ p
 xc : x ≠ c
 m : qE H p c M
 len : M.cs.length = n + sp
 n1 : 1 ≤ n
 sp16 : sp ≤ 16
def tblL (M : Mem) (sp : Nat) : List Int := (qly sp).map M.whose
def tblO (M : Mem) (sp : Nat) : AObj := ⟨(tblL M sp).flatMap wU, .rw, 1⟩
def placeT (t : List Int) (n s : Nat) : Nat → Nat
 | 0 => s
 | j + 1 => if t.getD j 0 = (s : Int) + 1 then n + j else placeT t n s j
def nextT (t : List Int) : Nat → Nat
 | 0 => t.length
 | j + 1 => if t.getD (t.length - (j + 1)) 0 = 0 then t.length - (j + 1) else nextT t j
def mayAt (t : List Int) (n : Int) (i : Nat) : Prop := t.getD i 0 ≤ n + 1 ∧ (0 < i → t.getD i 0 ≠ 0 → t.getD (i - 1) 0 ≠ 0)
instance (t : List Int) (n : Int) (i : Nat) : Decidable (mayAt t n i) := by unfold mayAt; infer_instance
def MayT (t : List Int) (n : Int) : Prop := 1 ≤ n ∧ ∀ i, i < t.length → mayAt t n i
instance (t : List Int) (n : Int) : Decidable (MayT t n) := by unfold MayT; infer_instance
theorem qcf (M : Mem) (sp : Nat) : (tblL M sp).length = sp := by simp [tblL]
theorem qeC (M : Mem) {sp j : Nat} (h : j < sp) : (tblL M sp).getD j 0 = M.whose j := by simp [tblL, qkP, h]
theorem qjl (M : Mem) (n s : Nat) {sp : Nat} : ∀ j, j ≤ sp → placeT (tblL M sp) n s j = M.place n s j := by
 intro j
 induction j with
 | zero => intro _; rfl
 | succ j ih => intro h; simp only [placeT, Mem.place, qeC M (show j < sp by omega), ih (by omega)]
theorem qke (M : Mem) {sp : Nat} : ∀ j, j ≤ sp → nextT (tblL M sp) j = M.next sp j := by
 intro j
 induction j with
 | zero => intro _; simp [nextT, Mem.next, qcf]
 | succ j ih => intro h; simp only [nextT, Mem.next, qcf, qeC M (show sp - (j + 1) < sp by omega), ih (by omega)]
section
variable {H : AH} {x p c n sp : Nat} {M : Mem} {i slot : Int}
theorem LAt.cell (h : LAt H x p c n sp M) (i : Nat) : AH.cell? H (qkN ⟨x, 0, none⟩ i) = (lobj p n sp).cells[i]? := by
 rw [qk, qk6]
 simp only [AH.cell?, h.hx, qk4, qkX, if_false]
 rw [if_neg (by simp [lobj])]
theorem LAt.c0 (h : LAt H x p c n sp M) : AH.cell? H (qkN ⟨x, 0, none⟩ 0) = some (.pointer (some ⟨p, 0, none⟩)) := h.cell 0
theorem LAt.c1 (h : LAt H x p c n sp M) : AH.cell? H (qkN ⟨x, 0, none⟩ 1) = some (.int .i64 n) := h.cell 1
theorem LAt.c2 (h : LAt H x p c n sp M) : AH.cell? H (qkN ⟨x, 0, none⟩ 2) = some (.int .i64 sp) := h.cell 2
theorem LAt.keeps {H' : AH} (h : LAt H x p c n sp M) (hk : qa H H') : LAt H' x p c n sp M :=
 ⟨by rw [hk.2 x h.lx, h.hx], by have := hk.1; have := h.lx; omega, h.xp, h.xc, h.m.keeps hk, h.len, h.n1, h.sp16⟩
theorem LAt.push (h : LAt H x p c n sp M) (o : AObj) : LAt (H.push o) x p c n sp M := h.keeps ((qa.refl H).push o)
theorem LAt.set {M' : Mem} (h : LAt H x p c n sp M) (hok : M'.ok) (hl : M'.cs.length = M.cs.length) : LAt (setM H p c M') x p c n sp M' :=
 ⟨by rw [qcP h.xp h.xc, h.hx], h.lx, h.xp, h.xc, h.m.set hok, by rw [hl]; exact h.len, h.n1, h.sp16⟩
theorem LAt.n200 (h : LAt H x p c n sp M) : n + sp ≤ 200 := by have := h.len; have := h.m.ok.len; omega
theorem qeX {α : Type} {z : Nat} {f : α → List Value} {l : List α} {s : Sl} {H' : AH} {b : Nat} (hf : ∀ x, (f x).length = z) (hc : ∀ x, (f x).all qq = true) (h : SlAt b l.length s) (hb : b < H'.size) (hg : H'.get b = ⟨l.flatMap f, .rw, z⟩) : qk7 H' s z f l :=
 (h.own (B := 0) (qlP _) hb hg).rows hf hc
theorem Mem.reg_up {j : Nat} (hd : M.down = false) (hj : j < 16) : M.reg ((3 : Int) + j) = (M.whose j, 0) := by
 unfold Mem.reg
 rw [if_pos (by unfold regIn; omega), if_neg (by simp [hd])]
 have : ((3 : Int) + j).toNat = 3 + j := by omega
 rw [this]; rfl
theorem qfp.s {k : Sl → Int → AH → Prop} (h : LAt H x p c n sp M) (h0 : M.down = true → k ⟨none, 0, 0⟩ 2 H) (h1 : M.down = false → ∀ s, SlAt H.size sp s → k s 0 (H.push (tblO M sp))) : qO (some ⟨x, 0, none⟩) H k := by
 have hsp := h.sp16
 have hn := h.n200
 by_cases hd : M.down = true
 ·refine qO.link ?_
  unfold qO.b
  rw [qe, h.c2, qf]
  refine ⟨1, ?_⟩
  show qO.l2 _ _ _ _ _ _
  unfold qO.l2 qO.j1
  simp only [qg, decide_eq_true_eq, qe, h.c0, qU]
  by_cases hz : (0 : Int) < (sp : Int)
  ·rw [if_pos hz]
   refine qN.s h.m ?_
   rw [qd (n := (3 : Int) + 0) (by omega) (by omega)]
   have : M.reg (3 + 0) = (0, 2) := by unfold Mem.reg; rw [if_pos (by unfold regIn; omega), if_pos hd]
   rw [this, if_pos (by simp)]
   exact h0 hd
  ·rw [if_neg hz]
   refine qar.s h.m ?_
   rw [hd, if_pos rfl]
   exact h0 hd
 ·have hd' : M.down = false := by simpa using hd
  refine canonS2 (μ := .int .i64) (u := 0) (l := tblL M sp) (g := wU) (z := 1) (H2 := H) (by simp) rfl (fun _ _ => rfl) (qO.link ?_) (fun s hs => h1 hd' s (by rw [qcf] at hs; exact hs))
  unfold qO.b
  rw [qe, h.c2, qf]
  refine qC (t := ((⟨none, 0, 0⟩, (0 : Int), ⟨none, 0, 0⟩, (0 : Int)) : Sl × Int × Sl × Int)) (I := fun (t : Sl × Int × Sl × Int) H' => ∃ j : Nat, t.2.2.2 = (j : Int) ∧ j ≤ sp ∧ qa H H' ∧ Own H.size H' t.2.2.1 1 wU (tblL M j)) (m := fun (t : Sl × Int × Sl × Int) _ => qkS ((sp : Int) - t.2.2.2)) ?_ ⟨0, rfl, by omega, qa.refl _, .inl ⟨rfl, rfl⟩⟩
  intro t H1 hI it hit
  obtain ⟨t1, t2, t3, t4⟩ := t
  obtain ⟨j, e1, hj, hK, hO⟩ := hI
  simp only at e1 hO
  subst e1
  have hL := h.keeps hK
  unfold qO.l2 qO.j1
  simp only [qg, decide_eq_true_eq, qe, hL.c0, qU]
  by_cases hz : (j : Int) < (sp : Int)
  ·rw [if_pos hz, qd (n := (3 : Int) + j) (by omega) (by omega)]
   refine qN.s hL.m ?_
   rw [Mem.reg_up hd' (by omega), if_neg (by simp)]
   simp only [qx]
   refine qa7 (H0 := H) (B := H.size) (f := wU) (x := M.whose j) (l := tblL M j) (fun _ => rfl) rfl hO (qkV _) hK.1 hK (by rw [qcf]; simp only [lim]; omega) ?_
   intro s' H' hO' hK' _ _
   rw [qd (n := (j : Int) + 1) (by omega) (by omega)]
   refine hit _ _ ⟨j + 1, by simp, by omega, hK', ?_⟩ (by simp only; omega)
   have : tblL M (j + 1) = tblL M j ++ [M.whose j] := by simp [tblL, qlQ]
   rw [this]; exact hO'
  ·rw [if_neg hz]
   refine qar.s hL.m ?_
   rw [hd', if_neg (by simp)]
   have : j = sp := by omega
   subst this
   exact ⟨At.of_keeps hK, hO, trivial⟩
variable {t : List Int} {sl : Sl}
theorem qb3.s {k : Int → AH → Prop} {n : Int} (h : 1 ≤ n ∧ n ≤ 1000000) (hk : k (n + 1) H) : qb3 n H k := by
 refine qb3.link ?_
 unfold qb3.b
 simp only [qg, decide_eq_true_eq]
 rw [if_neg (by omega), qbw (n := n) (by omega) (by omega), qbw (by omega) (by omega)]
 exact hk
theorem cellT (hR : qk7 H sl 1 wU t) {j : Nat} (hj : j < t.length) : ∃ ad, sl.a = some ad ∧ AH.cell? H (qkN ad (j * 1)) = some (.int .u64 (t.getD j 0)) := by
 obtain ⟨b, o, h1, _, h3⟩ := rows1 (g := fun v => qkL .u64 v) hR hj
 exact ⟨_, h1, by rw [h3, qkP, qkO hj]; rfl⟩
theorem qaL.s {k : Int → AH → Prop} {n slot : Nat} (hR : qk7 H sl 1 wU t) (ht : t.length ≤ 16) (hs : slot < n) (hn : n ≤ 1000000) (hk : k (placeT t n slot t.length : Nat) H) : qaL sl n slot H k := by
 refine qaL.link ?_
 unfold qaL.b qaL.j2
 simp only [qg, decide_eq_true_eq]
 rw [if_neg (by omega), if_neg (by omega), hR.1, qd (n := (t.length : Int) - 1) (by omega) (by omega)]
 refine qC (t := (((0 : Int), ((t.length : Int) - 1)) : Int × Int)) (I := fun (t' : Int × Int) H' => H' = H ∧ ∃ j : Nat, t'.2 = (j : Int) - 1 ∧ j ≤ t.length ∧ placeT t n slot t.length = placeT t n slot j) (m := fun (t' : Int × Int) _ => qkS (t'.2 + 1)) ?_ ⟨rfl, t.length, rfl, qkV _, rfl⟩
 intro t' H1 hI it hit
 obtain ⟨t1, t2⟩ := t'
 obtain ⟨rfl, j, e, hj, hp⟩ := hI
 simp only at e
 subst e
 unfold qaL.l1
 simp only [qg, decide_eq_true_eq, hR.1]
 by_cases h0 : (j : Int) - 1 ≥ 0
 ·rw [if_pos h0]
  refine ⟨by omega, ?_⟩
  obtain ⟨i, rfl⟩ : ∃ i, j = i + 1 := ⟨j - 1, by omega⟩
  obtain ⟨ad, ha, hc⟩ := cellT hR (j := i) (by omega)
  have e1 : (((i + 1 : Nat) : Int) - 1).toNat = i := by omega
  rw [ha, qe, e1, hc, qf, qbw (n := (slot : Int)) (by omega) (by omega), qbw (n := (slot : Int) + 1) (by omega) (by omega)]
  simp only [beq_iff_eq]
  simp only [placeT] at hp
  by_cases hw : t.getD i 0 = (slot : Int) + 1
  ·rw [if_pos hw] at hp ⊢
   rw [qd (by omega) (by omega)]
   rw [hp] at hk
   have : (n : Int) + (((i + 1 : Nat) : Int) - 1) = ((n + i : Nat) : Int) := by omega
   rw [this]; exact hk
  ·rw [if_neg hw] at hp ⊢
   rw [qd (by omega) (by omega)]
   exact hit _ _ ⟨rfl, i, by simp only; omega, by omega, hp⟩ (by simp only; omega)
 ·rw [if_neg h0]
  have : j = 0 := by omega
  subst this
  rw [hp] at hk
  exact hk
theorem qbv.s {k : Int → AH → Prop} (hR : qk7 H sl 1 wU t) (ht : t.length ≤ 16) (h1 : nextT t t.length < t.length → k (nextT t t.length : Nat) H) (h0 : nextT t t.length = t.length → k (-1) H) : qbv sl H k := by
 refine qbv.link ?_
 unfold qbv.b
 refine qC (t := (((0 : Int), (0 : Int)) : Int × Int)) (I := fun (t' : Int × Int) H' => H' = H ∧ ∃ j : Nat, t'.2 = (j : Int) ∧ j ≤ t.length ∧ nextT t t.length = nextT t (t.length - j)) (m := fun (t' : Int × Int) _ => qkS ((t.length : Int) - t'.2)) ?_ ⟨rfl, 0, rfl, qlP _, rfl⟩
 intro t' H1 hI it hit
 obtain ⟨t1, t2⟩ := t'
 obtain ⟨rfl, j, e, hj, hp⟩ := hI
 simp only at e
 subst e
 unfold qbv.l1
 simp only [qg, decide_eq_true_eq, hR.1]
 by_cases hlt : (j : Int) < (t.length : Int)
 ·rw [if_pos hlt]
  refine ⟨by omega, ?_⟩
  obtain ⟨ad, ha, hc⟩ := cellT hR (j := j) (by omega)
  rw [ha, qe, qkQ, hc, qf]
  simp only [beq_iff_eq]
  obtain ⟨q, hq⟩ : ∃ q, t.length - j = q + 1 := ⟨t.length - j - 1, by omega⟩
  have e1 : t.length - (q + 1) = j := by omega
  rw [hq] at hp
  simp only [nextT, e1] at hp
  by_cases hw : t.getD j 0 = 0
  ·rw [if_pos hw] at hp ⊢
   rw [hp] at h1
   exact h1 (by omega)
  ·rw [if_neg hw] at hp ⊢
   rw [qd (by omega) (by omega)]
   exact hit _ _ ⟨rfl, j + 1, by simp, by omega, by rw [hp, show t.length - (j + 1) = q by omega]⟩ (by simp only; omega)
 ·rw [if_neg hlt]
  have e2 : t.length - j = 0 := by omega
  rw [e2] at hp
  exact h0 hp
theorem qa0.s {k : Bool → AH → Prop} {n : Int} (hR : qk7 H sl 1 wU t) (ht : t.length ≤ 16) (htn : ∀ v ∈ t, 0 ≤ v) (hn : 1 ≤ n ∧ n ≤ 1000000) (hk : k (decide (MayT t n)) H) : qa0 sl n H k := by
 refine qa0.link ?_
 unfold qa0.b
 refine qC (t := ((false, (0 : Int)) : Bool × Int)) (I := fun (t' : Bool × Int) H' => H' = H ∧ ∃ j : Nat, t'.2 = (j : Int) ∧ j ≤ t.length ∧ ∀ i, i < j → mayAt t n i) (m := fun (t' : Bool × Int) _ => qkS ((t.length : Int) - t'.2)) ?_ ⟨rfl, 0, rfl, qlP _, fun i hi => by omega⟩
 intro t' H1 hI it hit
 obtain ⟨t1, t2⟩ := t'
 obtain ⟨rfl, j, e, hj, hall⟩ := hI
 simp only at e
 subst e
 unfold qa0.l2 qa0.j1
 simp only [qg, decide_eq_true_eq, hR.1]
 by_cases hlt : (j : Int) < (t.length : Int)
 ·rw [if_pos hlt]
  refine ⟨by omega, ?_⟩
  obtain ⟨ad, ha, hc⟩ := cellT hR (j := j) (by omega)
  rw [ha, qe, qkQ, hc, qf]
  refine qb3.s hn ?_
  rw [qd (n := (j : Int) + 1) (by omega) (by omega)]
  have bad : ¬ mayAt t n j → k false H1 := by
   intro hb
   rw [decide_eq_false (fun hM => hb (hM.2 j (by omega)))] at hk
   exact hk
  have good : mayAt t n j → it (t1, (j : Int) + 1) H1 := by
   intro hg
   refine hit _ _ ⟨rfl, j + 1, by simp, by omega, fun i hi => ?_⟩ (by simp only; omega)
   rcases Nat.lt_or_ge i j with h | h
   ·exact hall i h
   ·have : i = j := by omega
    subst this; exact hg
  by_cases h1 : t.getD j 0 > n + 1
  ·rw [if_pos h1]; exact bad (fun h => by have := h.1; omega)
  ·rw [if_neg h1]
   by_cases h2 : (j : Int) > 0
   ·rw [if_pos h2]
    by_cases h3 : t.getD j 0 = 0
    ·rw [if_neg (by rw [h3]; simp)]
     exact good ⟨by omega, fun _ hh => absurd h3 hh⟩
    ·rw [if_pos (by simpa using h3), qd (by omega) (by omega)]
     refine ⟨by omega, ?_⟩
     obtain ⟨ad', ha', hc'⟩ := cellT hR (j := j - 1) (by omega)
     rw [ha] at ha'
     injection ha' with ha'
     subst ha'
     have e1 : ((j : Int) - 1).toNat = j - 1 := by omega
     rw [qe, e1, hc', qf]
     by_cases h4 : t.getD (j - 1) 0 = 0
     ·rw [if_pos (by simpa using h4)]
      exact bad (fun h => h.2 (by omega) h3 h4)
     ·rw [if_neg (by simpa using h4)]
      exact good ⟨by omega, fun _ _ => h4⟩
   ·rw [if_neg h2]
    exact good ⟨by omega, fun h => by omega⟩
 ·rw [if_neg hlt]
  have : j = t.length := by omega
  subst this
  rw [show decide (n ≥ 1) = decide (MayT t n) from decide_eq_decide.2 ⟨fun h => ⟨h, hall⟩, fun h => h.1⟩]
  exact hk
end
section
variable {H : AH} {x p c n sp : Nat} {M : Mem} {slot : Int}
theorem qfy.s {k : Int → Sl → Int → AH → Prop} (h : LAt H x p c n sp M) (h1 : ¬ (0 ≤ slot ∧ slot < n) → k 0 ⟨none, 0, 0⟩ 1 H) (h2 : 0 ≤ slot ∧ slot < n → M.down = true → k slot ⟨none, 0, 0⟩ 2 H)
  (h3 : 0 ≤ slot ∧ slot < n → M.down = false → ∀ s, SlAt H.size sp s → k (M.place n slot.toNat sp : Nat) s 0 (H.push (tblO M sp))) : qaw (some ⟨x, 0, none⟩) slot H k := by
 have hn := h.n200
 have hsp := h.sp16
 refine qaw.link ?_
 unfold qaw.b qaw.j1
 simp only [qla, qg, qkX, if_false, if_true, qe, h.c1, qf, decide_eq_true_eq]
 by_cases hs : slot < 0
 ·rw [if_pos hs]; exact h1 (by omega)
 rw [if_neg hs]
 by_cases hs' : slot ≥ (n : Int)
 ·rw [if_pos hs']; exact h1 (by omega)
 rw [if_neg hs']
 obtain ⟨sl, rfl⟩ := qk9 (show 0 ≤ slot by omega)
 refine qfp.s h ?_ ?_
 ·intro hd
  rw [h.c1, qf]
  refine qaL.s (t := []) qfL (by simp) (by omega) (by omega) ?_
  exact h2 ⟨by omega, by omega⟩ hd
 ·intro hd s hs
  have hL := h.push (tblO M sp)
  rw [hL.c1, qf]
  have hR : qk7 (H.push (tblO M sp)) s 1 wU (tblL M sp) := qeX (b := H.size) (fun _ => rfl) (fun _ => rfl) (by rw [qcf]; exact hs) (by simp [qm]) (by rw [qr, if_pos rfl]; rfl)
  refine qaL.s hR (by rw [qcf]; exact hsp) (by omega) (by omega) ?_
  rw [qcf, qjl _ _ _ _ (qkV _)]
  exact h3 ⟨by omega, by omega⟩ hd s hs
theorem qjt (h : LAt H x p c n sp M) : isLine (lget n sp M slot).1 := by
 unfold lget
 split
 ·rename_i hs
  split
  ·exact qa9
  ·have hp := qeb (M := M) (n := n) (sp := sp) (s := slot.toNat) (by omega)
   have hlen := h.len
   have : M.cl (M.place n slot.toNat sp) ∈ M.cs := by
    unfold Mem.cl
    rw [qkP, qkO (by omega)]
    exact qk1 _
   exact h.m.ok.lines _ this
 ·exact qa9
theorem qg1.s {k : List Value → Int → AH → Prop} (h : LAt H x p c n sp M) (hk : k (lineV (lget n sp M slot).1) (lget n sp M slot).2 H) : qbK (some ⟨x, 0, none⟩) slot H k := by
 refine canon2 (κ := .agg) (μ := .int .i64) (by simp) (by simp) (qc3 _) rfl (qbK.link ?_) hk
 unfold qbK.b
 rw [qx, zeroV]
 have hL := h.push ⟨lineV (qkR 8 0), .rw, 0⟩
 have fin : ∀ {H1 : AH} {l : List Int} {Q : List Value → AH → Prop}, qa (H.push ⟨lineV (qkR 8 0), .rw, 0⟩) H1 → isLine l → (∀ H', qa H H' → Q (lineV l) H') →
   ((lineV l).length = 8 ∧ qlq (lineV l) qq = true) ∧ stC H1 ⟨H.size, 0, none⟩ (lineV l) fun Hs => ldA Hs ⟨H.size, 0, none⟩ 8 fun r0 => Q r0 Hs := by
  intro H1 l Q hk hl hQ
  have hg : H1.get H.size = ⟨lineV (qkR 8 0), .rw, 0⟩ := by rw [hk.2 _ (by simp [qm]), qr, if_pos rfl]
  refine ⟨⟨qs hl.1, qaD _⟩, stC_to ⟨rfl, by rw [hg], by rw [hg, qs hl.1]; simp only [qs (l := qkR 8 0) rfl]; omega⟩ (qdl rfl hl.1 hg) ?_⟩
  have hrow : AH.row? (H1.upd H.size ⟨lineV l, .rw, 0⟩) ⟨H.size, 0, none⟩ 8 = some (lineV l) := by
   simp only [AH.row?, qZ, if_true, qk4, qkX, if_false, ql3]
   rw [if_neg (by simp), qlL (by rw [qs hl.1]; omega), if_pos ⟨by rw [qs hl.1]; omega, qaD _⟩]
  rw [qu hrow]
  exact hQ _ ((((qa.refl H).push _).trans hk).upd (qkV _) _)
 have hline := qjt (slot := slot) h
 unfold lget at hline ⊢
 simp only [qg]
 refine qfy.s hL ?_ ?_ ?_
 ·intro hs
  rw [if_neg hs] at hline ⊢
  rw [if_pos (by simp)]
  exact fin (Q := fun r H' => At H H' H ∧ r = _ ∧ _) (qa.refl _) qa9 fun H' hk => ⟨At.of_keeps hk, rfl, rfl⟩
 ·intro hs hd
  rw [if_pos hs, if_pos hd] at hline ⊢
  rw [if_pos (by simp)]
  exact fin (Q := fun r H' => At H H' H ∧ r = _ ∧ _) (qa.refl _) qa9 fun H' hk => ⟨At.of_keeps hk, rfl, rfl⟩
 ·intro hs hd s _
  rw [if_pos hs, if_neg (show ¬ M.down = true by simp [hd])] at hline ⊢
  rw [if_neg (by simp)]
  have hL2 := hL.push (tblO M sp)
  rw [qe, hL2.c0, qU]
  refine qbB.s hL2.m ?_
  have hp := qeb (M := M) (n := n) (sp := sp) (s := slot.toNat) (by omega)
  have hlen := h.len
  have hg : M.get ((M.place n slot.toNat sp : Nat) : Int) = (M.view n sp slot.toNat, 0) := by
   unfold Mem.get
   rw [if_pos ⟨by omega, by omega⟩, if_neg (by simp [hd])]; rfl
  rw [hg]
  exact fin (Q := fun r H' => At H H' H ∧ r = _ ∧ _) ((qa.refl _).push _) hline fun H' hk => ⟨At.of_keeps hk, rfl, rfl⟩
theorem lgo_ok {j slot : Nat} {d : List Int} (hd : isLine d) (hs : (slot : Int) + 1 ≤ 18446744073709551615) (hn : n ≤ 1000000) : ∀ {M : Mem}, M.ok → (lgo n sp slot d j M).1.ok := by
 induction j with
 | zero => intro M h; exact h
 | succ j ih =>
  intro M h
  unfold lgo
  have h1 := Mem.put_ok (i := ((n + (sp - (j + 1)) : Nat) : Int)) h hd
  simp only
  split
  ·exact Mem.set_ok h1 (by unfold isU; omega)
  ·split
   ·have h2 := Mem.set_ok (i := ((3 + (sp - (j + 1)) : Nat) : Int)) (v := (n : Int) + 1) h1 (by unfold isU; omega)
    split
    ·exact ih h2
    ·exact h2
   ·exact h1
theorem lput_ok {d : List Int} (hd : isLine d) (hn : n ≤ 1000000) (h : M.ok) : (lput n sp M slot d).1.ok := by
 unfold lput
 split
 ·rename_i hs
  split
  ·exact h
  ·simp only
   split
   ·exact lgo_ok hd (by omega) hn (Mem.put_ok h hd)
   ·exact Mem.put_ok h hd
 ·exact h
theorem lgo_len {j slot : Nat} {d : List Int} : ∀ {M : Mem}, (lgo n sp slot d j M).1.cs.length = M.cs.length := by
 induction j with
 | zero => intro M; rfl
 | succ j ih =>
  intro M
  unfold lgo
  simp only
  split
  ·rw [Mem.set_len, Mem.put_len]
  ·split
   ·split
    ·rw [ih, Mem.set_len, Mem.put_len]
    ·rw [Mem.set_len, Mem.put_len]
   ·rw [Mem.put_len]
theorem qd4 {d : List Int} : (lput n sp M slot d).1.cs.length = M.cs.length := by
 unfold lput
 split
 ·split
  ·rfl
  ·simp only
   split
   ·rw [lgo_len, Mem.put_len]
   ·rw [Mem.put_len]
 ·rfl
theorem qee.s {d : List Int} {k : Int → AH → Prop} (h : LAt H x p c n sp M) (hd : isLine d) (hk : k (lput n sp M slot d).2 (setM H p c (lput n sp M slot d).1)) : qaE (some ⟨x, 0, none⟩) slot (lineV d) H k := by
 have hn := h.n200
 have hsp := h.sp16
 have hlp := h.m.lp
 have hlc := h.m.lc
 have hlx := h.lx
 have key : ∀ {B : AH} {M' : Mem}, qa H B → At H (setM B p c M') (setM H p c M') := by
  intro B M' hB
  refine h.m.at fun b hb => ?_
  simp only [qct]
  rw [hB.2 b hb]
 refine qcI (κ := .int .i64) (by simp) rfl (qaE.link ?_) hk
 unfold qaE.b
 rw [qx]
 simp only [qg]
 have hL := h.push ⟨lineV d, .rw, 0⟩
 have hgd : (H.push ⟨lineV d, .rw, 0⟩).get H.size = ⟨lineV d, .rw, 0⟩ := by rw [qr, if_pos rfl]
 have hkd : qa H (H.push ⟨lineV d, .rw, 0⟩) := (qa.refl H).push _
 have hsd : (H.push ⟨lineV d, .rw, 0⟩).size = H.size + 1 := rfl
 generalize H.push ⟨lineV d, .rw, 0⟩ = Hd at *
 unfold lput
 refine qfy.s hL ?_ ?_ ?_
 ·intro hs
  rw [if_neg hs, if_pos (by simp)]
  have := key (M' := M) hkd
  rw [h.m.same, hL.m.same] at this
  rw [h.m.same]
  exact ⟨this, rfl⟩
 ·intro hs hdn
  rw [if_pos hs, if_pos hdn, if_pos (by simp)]
  have := key (M' := M) hkd
  rw [h.m.same, hL.m.same] at this
  rw [h.m.same]
  exact ⟨this, rfl⟩
 ·intro hs hdn s hsl
  rw [if_pos hs, if_neg (show ¬ M.down = true by simp [hdn]), if_neg (by simp)]
  have hL2 := hL.push (tblO M sp)
  have hR : qk7 (Hd.push (tblO M sp)) s 1 wU (tblL M sp) := qeX (b := Hd.size) (fun _ => rfl) (fun _ => rfl) (by rw [qcf]; exact hsl) (by simp [qm]) (by rw [qr, if_pos rfl]; rfl)
  have hsb : ∀ y, s.a = some y → y.block = Hd.size := by
   intro y hy
   rcases hsl with rfl | ⟨_, rfl⟩
   ·injection hy with hy; subst hy; rfl
   ·cases hy
  have hgd2 : (Hd.push (tblO M sp)).get H.size = ⟨lineV d, .rw, 0⟩ := by rw [qT (by omega), hgd]
  have hkB : qa H (Hd.push (tblO M sp)) := hkd.push _
  have hsB : (Hd.push (tblO M sp)).size = H.size + 2 := by simp [qm, hsd]
  generalize hBB : Hd.push (tblO M sp) = B at *
  have rowd : ∀ M', AH.row? (setM B p c M') ⟨H.size, 0, none⟩ 8 = some (lineV d) := by
   intro M'
   rw [qfI (by omega) (by omega)]
   simp only [AH.row?, hgd2, qk4, qkX, if_false, ql3]
   rw [if_neg (by simp), qlL (by rw [qs hd.1]; omega), if_pos ⟨by rw [qs hd.1]; omega, qaD _⟩]
  have rowd0 : AH.row? B ⟨H.size, 0, none⟩ 8 = some (lineV d) := by have := rowd M; rwa [hL2.m.same] at this
  rw [qe, hL2.c0, qU, qu rowd0]
  refine qW.s hL2.m hd ?_
  have hok1 := Mem.put_ok (i := ((M.place n slot.toNat sp : Nat) : Int)) h.m.ok hd
  have hlen1 : (M.put ((M.place n slot.toNat sp : Nat) : Int) d).1.cs.length = M.cs.length := Mem.put_len
  simp only
  generalize M.put ((M.place n slot.toNat sp : Nat) : Int) d = R at *
  by_cases he : R.2 = 3
  ·rw [if_pos he, if_neg (by simp [he])]
   have hL3 := hL2.set hok1 hlen1
   have hR3 : qk7 (setM B p c R.1) s 1 wU (tblL M sp) := by
    refine ⟨hR.1, fun i v hv => ?_⟩
    obtain ⟨y, h1, h2, h3, h4⟩ := hR.2 i v hv
    have hb := hsb y h1
    refine ⟨y, h1, h2, h3, ?_⟩
    rw [qfI (by omega) (by omega)]
    exact h4
   have hnx := qke M (sp := sp) sp (qkV _)
   refine qbv.s hR3 (by rw [qcf]; exact hsp) ?_ ?_
   ·rw [qcf, hnx]
    intro hlt
    rw [if_neg (by simp)]
    generalize hF : lgo n sp slot.toNat d (sp - M.next sp sp) R.1 = F at *
    refine qC (t := (((0 : Int), ((M.next sp sp : Nat) : Int)) : Int × Int)) (I := fun (t : Int × Int) H' => ∃ j : Nat, t.2 = ((sp - j : Nat) : Int) ∧ j ≤ sp ∧ ∃ Mi : Mem, H' = setM B p c Mi ∧ Mi.ok ∧ Mi.cs.length = M.cs.length ∧ lgo n sp slot.toNat d j Mi = F) (m := fun (t : Int × Int) _ => qkS ((sp : Int) - t.2)) ?_ ⟨sp - M.next sp sp, by simp only; omega, by omega, R.1, rfl, hok1, hlen1, hF⟩
    intro t H4 hI it hit
    obtain ⟨t1, t2⟩ := t
    obtain ⟨j, e1, hj, Mi, rfl, hoki, hleni, hlg⟩ := hI
    simp only at e1
    subst e1
    have hLi := hL2.set hoki hleni
    unfold qaE.l1
    simp only [qg, decide_eq_true_eq, qe, hLi.c2, hLi.c1, hLi.c0, qf, qU]
    by_cases hz : ((sp - j : Nat) : Int) < (sp : Int)
    ·rw [if_pos hz]
     obtain ⟨i, rfl⟩ : ∃ i, j = i + 1 := ⟨j - 1, by omega⟩
     rw [qu (rowd Mi), qd (n := (n : Int) + ((sp - (i + 1) : Nat) : Int)) (by omega) (by omega), qd (n := (3 : Int) + ((sp - (i + 1) : Nat) : Int)) (by omega) (by omega), qd (n := ((sp - (i + 1) : Nat) : Int) + 1) (by omega) (by omega)]
     rw [show (n : Int) + ((sp - (i + 1) : Nat) : Int) = ((n + (sp - (i + 1)) : Nat) : Int) from by omega, show (3 : Int) + ((sp - (i + 1) : Nat) : Int) = ((3 + (sp - (i + 1)) : Nat) : Int) from by omega]
     refine qW.s hLi.m hd ?_
     have hok2 := Mem.put_ok (i := ((n + (sp - (i + 1)) : Nat) : Int)) hoki hd
     have hlen2 : (Mi.put ((n + (sp - (i + 1)) : Nat) : Int) d).1.cs.length = M.cs.length := by rw [Mem.put_len]; exact hleni
     rw [← hlg]
     unfold lgo at hlg ⊢
     simp only at hlg ⊢
     rw [qcE]
     generalize Mi.put ((n + (sp - (i + 1)) : Nat) : Int) d = R2 at *
     have hL4 := hL2.set hok2 hlen2
     simp only [hL4.c0, hL4.c1, qU, qf]
     by_cases e0 : R2.2 = 0
     ·rw [if_pos e0, if_pos (by simpa using e0)]
      rw [qbw (n := slot) (by omega) (by omega), qbw (n := slot + 1) (by omega) (by omega)]
      refine qI.s hL4.m (by unfold isU; omega) ?_
      rw [qcE, show ((slot.toNat : Nat) : Int) + 1 = slot + 1 from by omega]
      exact ⟨key hkB, rfl⟩
     ·rw [if_neg e0, if_neg (by simpa using e0)]
      rw [if_neg e0] at hlg
      by_cases e3 : R2.2 = 3
      ·rw [if_pos e3, if_pos (by simpa using e3)]
       rw [if_pos e3] at hlg
       refine qb3.s (by have := h.n1; omega) ?_
       simp only [hL4.c0, qU]
       refine qI.s hL4.m (by unfold isU; omega) ?_
       rw [qcE]
       have hok3 := Mem.set_ok (i := ((3 + (sp - (i + 1)) : Nat) : Int)) (v := (n : Int) + 1) hok2 (by unfold isU; omega)
       have hlen3 : (R2.1.set ((3 + (sp - (i + 1)) : Nat) : Int) ((n : Int) + 1)).1.cs.length = M.cs.length := by rw [Mem.set_len]; exact hlen2
       generalize R2.1.set ((3 + (sp - (i + 1)) : Nat) : Int) ((n : Int) + 1) = Q at *
       by_cases e4 : Q.2 = 0
       ·rw [if_pos e4, if_neg (by simp [e4])]
        rw [if_pos e4] at hlg
        exact hit _ _ ⟨i, by simp only; omega, by omega, Q.1, rfl, hok3, hlen3, hlg⟩ (by simp only; omega)
       ·rw [if_neg e4, if_pos (by simpa using e4)]
        exact ⟨key hkB, rfl⟩
      ·rw [if_neg e3, if_neg (by simpa using e3)]
       exact ⟨key hkB, rfl⟩
    ·rw [if_neg hz]
     have : j = 0 := by omega
     subst this
     rw [← hlg]
     exact ⟨key hkB, rfl⟩
   ·rw [qcf, hnx]
    intro heq
    rw [if_pos (by simp), heq, Nat.sub_self]
    exact ⟨key hkB, rfl⟩
  ·rw [if_neg he, if_pos (by simpa using he)]
   exact ⟨key hkB, rfl⟩
end
section
variable {M : Mem} {n sp k : Nat}
theorem LV.may (h : LV M n sp k) : MayT (tblL M sp) n := by
 refine ⟨by have := h.n1; omega, fun i hi => ?_⟩
 rw [qcf] at hi
 unfold mayAt
 rw [qeC M hi]
 rcases Nat.lt_or_ge i k with hk | hk
 ·have := h.used i hk
  refine ⟨this.2, fun h0 _ => ?_⟩
  rw [qeC M (show i - 1 < sp by omega)]
  have := h.used (i - 1) (by omega)
  omega
 ·rw [h.free i hk hi]
  exact ⟨by have := h.n1; omega, fun _ hh => absurd rfl hh⟩
theorem LV.zero (hl : M.cs.length = n + sp) (hn : 1 ≤ n) (hs : sp ≤ 16) (h : ∀ i, i < sp → M.whose i = 0) : LV M n sp 0 :=
 ⟨hl, hn, hs, qlP _, fun i hi => by omega, fun i _ hi => h i hi⟩
theorem qjC {s : Nat} (h : ∀ i, i < sp → M.whose i = 0) : M.view n sp s = (M.cl s).line := by
 unfold Mem.view
 rcases qc7 M n s sp with h1 | ⟨j, h1, _, h3⟩
 ·rw [h1]
 ·have := h j h1; omega
theorem qgK {n : Nat} {limits : List Int} {i : Nat} (hi : i < 16) : (Mem.new n limits).whose i = 0 := by
 have : 3 + i < 35 := by omega
 unfold Mem.whose Mem.new
 rw [qkP, List.getElem?_replicate, if_pos this]
 rfl
end
section
variable {H : AH} {p c : Nat} {M : Mem} {n sp : Int}
theorem qaW.s {k : Option Addr → AH → Prop} (hm : qE H p c M) (hnr : isI n) (hsr : isI sp)
  (h0 : ¬ (1 ≤ n ∧ 0 ≤ sp ∧ sp ≤ 16 ∧ (M.cs.length : Int) = n + sp ∧ M.down = false ∧ MayT (tblL M sp.toNat) n) → k none H)
  (h1 : 1 ≤ n ∧ 0 ≤ sp ∧ sp ≤ 16 ∧ (M.cs.length : Int) = n + sp ∧ M.down = false ∧ MayT (tblL M sp.toNat) n → ∀ H', LAt H' H.size p c n.toNat sp.toNat M → qa H H' → H.size < H'.size → k (some ⟨H.size, 0, none⟩) H') : qaW (some ⟨p, 0, none⟩) n sp H k := by
 have hlen := hm.ok.len
 unfold isI at hnr hsr
 by_cases he : 1 ≤ n ∧ 0 ≤ sp ∧ sp ≤ 16 ∧ (M.cs.length : Int) = n + sp
 ·obtain ⟨n', rfl⟩ := qk9 (show 0 ≤ n by omega)
  obtain ⟨sp', rfl⟩ := qk9 (show 0 ≤ sp by omega)
  simp only [qkQ] at h0 h1
  have common : ∀ {Q : Option Addr → AH → Prop}, (M.down = true → ∀ H', qa H H' → Q none H') → (M.down = false → ¬ MayT (tblL M sp') n' → ∀ H', qa H H' → Q none H') →
    (M.down = false → MayT (tblL M sp') n' → ∀ H', LAt H' H.size p c n' sp' M → qa H H' → H.size < H'.size → Q (some ⟨H.size, 0, none⟩) H') → qaW.b (some ⟨p, 0, none⟩) n' sp' H Q := by
   intro Q q1 q2 q3
   unfold qaW.b qaW.j1
   simp only [qla, qg, qkX, if_false, decide_eq_true_eq]
   rw [if_neg (by omega), if_neg (by omega), if_neg (by omega)]
   refine qai.s hm ?_
   rw [qd (by omega) (by omega), if_neg (by simp; omega)]
   simp only [qx]
   have hL : LAt (H.push (lobj p n' sp')) H.size p c n' sp' M :=
    ⟨by rw [qr, if_pos rfl], by simp [qm], by have := hm.lp; omega, by have := hm.lc; omega, hm.push _, by omega, by omega, by omega⟩
   have e : (⟨[(Value.pointer (some ⟨p, 0, none⟩)), (qkL .i64 (n' : Int)), (qkL .i64 (sp' : Int))], .rw, 0⟩ : AObj) = lobj p n' sp' := rfl
   rw [e]
   refine qfp.s hL ?_ ?_
   ·intro hd
    rw [if_pos (by simp)]
    exact q1 hd _ ((qa.refl H).push _)
   ·intro hd s hs
    rw [if_neg (by simp)]
    have hR : qk7 ((H.push (lobj p n' sp')).push (tblO M sp')) s 1 wU (tblL M sp') := qeX (b := (H.push (lobj p n' sp')).size) (fun _ => rfl) (fun _ => rfl) (by rw [qcf]; exact hs) (by simp [qm]) (by rw [qr, if_pos rfl]; rfl)
    refine qa0.s hR (by rw [qcf]; omega) ?_ (by omega) ?_
    ·intro v hv
     simp only [tblL, qlw, qlM] at hv
     obtain ⟨i, hi, rfl⟩ := hv
     unfold Mem.whose
     have hr := hm.ok.regs
     rw [qkP, qkO (by omega), qll]
     exact (hm.ok.regU _ (qk1 _)).1
    ·by_cases hM : MayT (tblL M sp') n'
     ·rw [if_neg (by simp [hM])]
      exact q3 hd hM _ (hL.push _) (((qa.refl H).push _).push _) (by simp [qm]; omega)
     ·rw [if_pos (by simp [hM])]
      exact q2 hd hM _ (((qa.refl H).push _).push _)
  by_cases hgood : M.down = false ∧ MayT (tblL M sp') n'
  ·refine qaW.link (common ?_ ?_ ?_)
   ·intro hd; rw [hgood.1] at hd; cases hd
   ·intro _ hM; exact absurd hgood.2 hM
   ·intro hd hM H' hL hK hs
    exact h1 ⟨by omega, by omega, by omega, by omega, hd, hM⟩ H' hL hK hs
  ·refine qcI (κ := .ptr) (v := none) (by simp) rfl (qaW.link (common ?_ ?_ ?_)) (h0 ?_)
   ·intro hd H' hk; exact ⟨At.of_keeps hk, rfl⟩
   ·intro _ _ H' hk; exact ⟨At.of_keeps hk, rfl⟩
   ·intro hd hM; exact absurd ⟨hd, hM⟩ hgood
   ·intro h; exact hgood ⟨h.2.2.2.2.1, h.2.2.2.2.2⟩
 ·refine qaW.link ?_
  have hk := h0 (fun h => he ⟨h.1, h.2.1, h.2.2.1, h.2.2.2.1⟩)
  unfold qaW.b qaW.j1
  simp only [qla, qg, qkX, if_false, if_true, decide_eq_true_eq]
  by_cases h1 : n < 1
  ·rw [if_pos h1]; exact hk
  rw [if_neg h1]
  by_cases h2 : sp < 0
  ·rw [if_pos h2]; exact hk
  rw [if_neg h2]
  by_cases h3 : sp > 16
  ·rw [if_pos h3]; exact hk
  rw [if_neg h3]
  refine qai.s hm ?_
  rw [qd (by omega) (by omega), if_pos (by simp; omega)]
  exact hk
theorem qee.g {x n sp : Nat} {slot r : Int} {d : List Int} {M' : Mem} {k : Int → AH → Prop} (h : LAt H x p c n sp M) (hd : isLine d) (e : lput n sp M slot d = (M', r)) (hk : ∀ H', LAt H' x p c n sp M' → Frm H H' p c → k r H') : qaE (some ⟨x, 0, none⟩) slot (lineV d) H k := by
 refine qee.s h hd ?_
 have hn := h.n200
 have ok := lput_ok (n := n) (sp := sp) (slot := slot) hd (by omega) h.m.ok
 have hl := qd4 (n := n) (sp := sp) (M := M) (slot := slot) (d := d)
 rw [e] at ok hl ⊢
 exact hk _ (h.set ok hl) (Frm.set _ _ _ _)
end
def putV (q : Int × List Int) : List Value := [.int .i64 q.1] ++ lineV q.2
structure qb8 (q : Int × List Int) : Prop where
 i : isI q.1
 line : isLine q.2
theorem qeN {q : Int × List Int} (h : qb8 q) : (putV q).length = 9 := by simp [putV, lineV, h.line.1]
theorem putV_ok (q : Int × List Int) : (putV q).all qq = true := by simp [putV, lineV, u64V, qq]
structure PutAt (H : AH) (o : Nat) (q : Int × List Int) : Prop where
 g : ∃ e, H.get o = ⟨putV q, .rw, e⟩
 ok : qb8 q
theorem PutAt.c0 {H : AH} {o : Nat} {q : Int × List Int} (h : PutAt H o q) : AH.cell? H (qkN ⟨o, 0, none⟩ 0) = some (.int .i64 q.1) := by
 obtain ⟨⟨e, h⟩, _⟩ := h; simp [qk, AH.cell?, h, putV]
theorem PutAt.row {H : AH} {o : Nat} {q : Int × List Int} (h : PutAt H o q) : AH.row? H (qkN ⟨o, 0, none⟩ 1) 8 = some (lineV q.2) := by
 obtain ⟨⟨e, h⟩, hok⟩ := h
 have e8 : ((putV q).drop 1).take 8 = lineV q.2 := by
  simp only [putV, qls, qlx, List.drop_succ_cons, ql3]
  rw [qlL (by simp [lineV, hok.line.1])]
 simp only [qk, AH.row?, h, qk4, qkX, if_false, qk6]
 rw [if_neg (by simp), e8, if_pos ⟨by rw [qeN hok]; omega, qaD _⟩]
theorem PutAt.keep {H H' : AH} {o : Nat} {q : Int × List Int} (h : PutAt H o q) (hg : H'.get o = H.get o) : PutAt H' o q := ⟨by rw [hg]; exact h.g, h.ok⟩
theorem new_put {H : AH} {q : Int × List Int} (h : qb8 q) {cs : List Value} {K : Nat → AH → Prop} (hn : cs.length = 9) (hK : PutAt (H.push ⟨putV q, .rw, 0⟩) H.size q → K H.size (H.push ⟨putV q, .rw, 0⟩)) :
  newC H ⟨cs, .rw, 0⟩ fun o H1 => ((putV q).length = 9 ∧ qlq (putV q) qq = true) ∧ stC H1 ⟨o, 0, none⟩ (putV q) fun Hs => K o Hs :=
 new_st hn (qeN h) (putV_ok q) (hK ⟨⟨0, by simp [qr]⟩, h⟩)
theorem qiD (n : Nat) : zerosOf n (lineV (qkR 8 0)) = (qkR n (qkR 8 (0 : Int))).flatMap lineV := by
 unfold zerosOf
 rw [List.flatMap_def, List.map_replicate]
end Go.Proofs.YtemeclnpdpkfdaaGreat
