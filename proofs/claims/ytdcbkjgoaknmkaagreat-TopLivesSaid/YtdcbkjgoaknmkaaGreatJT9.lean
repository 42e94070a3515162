/- Lemmas for the law: an abstract machine, and what the functions do on it. No condition. -/
import Derived.Test.YtdcbkjgoaknmkaaGreatJT8
set_option linter.all false
open Go.Value renaming int → qkL, pointer → qkR
open Go.IntKind renaming wrap → qkM, bits → qlI
open Go.Addr renaming add → qkN
open List renaming getElem?_eq_getElem → qkO, getD_eq_getElem?_getD → qkP, replicate → qkQ, getElem?_eq_none → qkT, mem_of_getElem? → qkY, getElem?_map → qkZ, length → qk0, length_cons → qk3, getElem_mem → qk5, ext_getElem? → qlb, getElem?_range → qlc, getElem?_append_right → qld, getElem?_set_ne → qle, mem_map → qlk, getElem?_append_left → qll, all → qlo, cons_append → qlr, all_eq_true → qls, length_append → qlt, getElem?_set_self → qlu, range → qlw, getElem?_cons_succ → qlx, flatMap_cons → qly, mem_range → qlC, getElem?_take → qlD, getElem?_drop → qlE, take_of_length_le → qlH, length_nil → qlL, mem_or_eq_of_mem_set → qlP, take_length → qlU, flatMap_append → qlZ, drop_zero → ql1
open Int renaming toNat_natCast → qkS, toNat → qkX, eq_ofNat_of_zero_le → qk9, tdiv_eq_ediv_of_nonneg → qlJ, tmod → qlM
open Nat renaming le_refl → qkV, zero_add → qla, mul_le_mul_right → qlT, zero_le → qlY
open Bool renaming false_eq_true → qkW, not_true → qlm, not_false → qlv
open Option renaming isNone_some → qk1, isSome_none → qk7, map_some → qlg, getD_some → qln, toList_some → qmd
open Go.Abs renaming Rows → qli
open BitVec renaming ofInt → qlz
open Option.some renaming injEq → qlV
set_option linter.all false
namespace Go.Proofs.YtdcbkjgoaknmkaaGreat
open Go Go.Abs
section
variable {H : AH}
theorem qbz.s {n : Int} {k : Int → AH → Prop} (hn : isI n) (h : k (needN n) H) : qbz n H k := by
 unfold isI at hn
 refine qbz.link ?_
 unfold qbz.b qbz.j1
 unfold needN at h
 simp only [qj, decide_eq_true_eq]
 by_cases h1 : n < 1
 ·rw [if_pos h1]; rw [if_neg (by omega)] at h; exact h
 rw [if_neg h1]
 by_cases h2 : n > 448
 ·rw [if_pos h2]; rw [if_neg (by omega)] at h; exact h
 rw [if_neg h2]
 rw [if_pos (by omega)] at h
 refine ⟨by decide, ?_⟩
 rw [qe (n := n + 7) (by omega) (by omega), qlJ (by omega), qe (n := (n + 7) / 8) (by omega) (by omega), qe (by omega) (by omega)]
 rw [show (n + 7) / 8 + 1 = 1 + (n + 7) / 8 by omega]
 exact h
theorem qaW.s {n : Int} {k : Bool → AH → Prop} (h : k (decide (mayS n)) H) : qaW n H k := by
 refine qaW.link ?_
 unfold qaW.b
 simp only [qj, decide_eq_true_eq]
 by_cases h1 : n ≥ 2
 ·rw [if_pos h1]
  by_cases h2 : n ≤ 512
  ·rw [decide_eq_true h2]; rw [decide_eq_true (show mayS n from ⟨h1, h2⟩)] at h; exact h
  ·rw [decide_eq_false h2]; rw [decide_eq_false (fun hh : mayS n => h2 hh.2)] at h; exact h
 ·rw [if_neg h1]; rw [decide_eq_false (fun hh : mayS n => h1 hh.1)] at h; exact h
theorem qaP.s {n : Int} {k : Bool → AH → Prop} (h : k (decide (mayW n)) H) : qaP n H k := by
 refine qaP.link ?_
 unfold qaP.b
 simp only [qj, decide_eq_true_eq]
 by_cases h1 : n ≥ 8
 ·rw [if_pos h1]
  by_cases h2 : n ≤ 512
  ·rw [if_pos h2]
   refine ⟨by decide, ?_⟩
   rw [Int.tmod_eq_emod_of_nonneg (by omega)]
   have e : (n % 8 == 0) = decide (mayW n) := by
    by_cases h3 : n % 8 = 0
    ·rw [decide_eq_true (show mayW n from ⟨h1, h2, h3⟩)]; simpa using h3
    ·rw [decide_eq_false (fun hh : mayW n => h3 hh.2.2)]; simpa using h3
   rw [e]; exact h
  ·rw [if_neg h2]; rw [decide_eq_false (fun hh : mayW n => h2 hh.2.1)] at h; exact h
 ·rw [if_neg h1]; rw [decide_eq_false (fun hh : mayW n => h1 hh.1)] at h; exact h
theorem qbA.s {a b : Int} {k : Int → AH → Prop} (ha : 0 ≤ a ∧ a ≤ 1000) (hb : 0 ≤ b ∧ b ≤ 1000) (h : k (takesN a b) H) : qbA a b H k := by
 refine qbA.link ?_
 unfold qbA.b qbA.j1
 unfold takesN at h
 simp only [qj, decide_eq_true_eq]
 by_cases h1 : b < 2
 ·rw [if_pos h1]; rw [if_neg (by omega)] at h; exact h
 rw [if_neg h1]
 by_cases h2 : b > a
 ·rw [if_pos h2]; rw [if_neg (by omega)] at h; exact h
 rw [if_neg h2]
 rw [if_pos (by omega)] at h
 rw [qe (n := a - b) (by omega) (by omega)]
 by_cases h3 : a - b < 2
 ·rw [if_pos h3]; rw [if_pos h3] at h; exact h
 ·rw [if_neg h3]; rw [if_neg h3] at h; exact h
theorem qbk.s {n : Int} {u : Bool} {k : Int → AH → Prop} (h : k (wordN n u) H) : qbk n u H k := by
 refine qbk.link ?_
 unfold qbk.b
 refine qaW.s ?_
 unfold wordN at h
 by_cases h1 : mayS n
 ·rw [decide_eq_true h1, qlm, qc]
  rw [if_pos h1] at h
  refine ⟨by decide, ?_⟩
  rw [shl1 h1, or1 h1]
  cases u with
  | true => rw [qk]; exact h
  | false =>
   rw [qc]
   rw [if_neg (by simp), Int.add_zero] at h
   exact h
 ·rw [decide_eq_false h1, qlv, qk]
  rw [if_neg h1] at h
  exact h
theorem qbT.s {n : Int} {k : Sl → AH → Prop} (h : ∀ s H', qa H H' → Own H.size H' s 1 wU (firstN n) → k s H') : qbT n H k := by
 refine qbT.link ?_
 unfold qbT.b
 unfold firstN at h
 refine qaP.s ?_
 by_cases hm : mayW n
 rotate_left 1
 ·rw [decide_eq_false hm, qlv, qk]
  rw [if_neg hm] at h
  exact h _ _ (qa.refl H) (.inl ⟨rfl, rfl⟩)
 rw [decide_eq_true hm, qlm, qc]
 rw [if_pos hm] at h
 unfold mayW at hm
 refine ⟨by simp only [lim]; omega, ?_⟩
 rw [qt]
 obtain ⟨m, hm1⟩ : ∃ m : Nat, n.toNat = m + 1 := ⟨n.toNat - 1, by omega⟩
 rw [hm1] at h ⊢
 rw [Nat.add_sub_cancel] at h
 refine qbk.s ?_
 refine ⟨by omega, ?_⟩
 have hz : zerosOf (m + 1) [qkL .u64 0] = (qkQ (m + 1) (0 : Int)).flatMap wU := by
  unfold zerosOf
  rw [List.flatMap_def, List.map_replicate]; rfl
 rw [hz]
 have hO : Own H.size (H.push ⟨(qkQ (m + 1) (0 : Int)).flatMap wU, .rw, 1⟩) ⟨some ⟨H.size, 0, none⟩, m + 1, 1⟩ 1 wU (qkQ (m + 1) 0) :=
  .inr ⟨H.size, by simp, qkV _, by simp [qi], by rw [qp, if_pos rfl]⟩
 have hk := (qa.refl H).push ⟨(qkQ (m + 1) (0 : Int)).flatMap wU, .rw, 1⟩
 generalize H.push ⟨(qkQ (m + 1) (0 : Int)).flatMap wU, .rw, 1⟩ = H1 at *
 obtain ⟨b', ha', hb1, hb2, hcan, hO', _⟩ := hO.put (i := 0) (x := 0) (y := wordN n false) (fun _ => rfl) (by simp) (j := 0) (by omega) (v := .int .u64 (wordN n false)) rfl
 simp only [qlV, Addr.mk.injEq, true_and, and_true] at ha'
 subst ha'
 rw [ql]
 refine ⟨hcan, ?_⟩
 exact h _ _ (hk.put hb1 _) hO'
theorem qaV.s {b : Bk} {k : Int → AH → Prop} (h : k (offN b.1) H) : qaV (bkV b) H k := by
 refine gcI (j := .i64) (offN b.1) (qaV.link ?_) h
 unfold qaV.b qaV.j1
 rw [qt]
 have hk := (qa.refl H).push ⟨bkV b, .rw, 0⟩
 have hB : BkAt (H.push ⟨bkV b, .rw, 0⟩) H.size b := BkAt.new
 generalize H.push ⟨bkV b, .rw, 0⟩ = H1 at *
 simp only [hB.c0, qg]
 unfold offN
 by_cases h1 : b.1 < 0
 ·rw [decide_eq_true h1, qk, qk, if_neg (by omega)]; exact ⟨hk, rfl⟩
 rw [decide_eq_false h1, qc]
 by_cases h2 : b.1 > 512
 ·rw [decide_eq_true h2, qk, if_neg (by omega)]; exact ⟨hk, rfl⟩
 rw [decide_eq_false h2, qc, if_pos (by omega), qe (n := b.1 + 1) (by omega) (by omega), qe (by omega) (by omega)]
 exact ⟨hk, rfl⟩
def fitG (l : List Bk) (need : Int) (j : Nat) : List Nat := if need < 2 then [] else fitsTo l need j
theorem qjQ (l : List Bk) (need : Int) (i : Nat) : fitG l need (i + 1) = if need < 2 ∨ (bkAt l i).2.2 = true ∨ (bkAt l i).2.1 < need then fitG l need i else
 let out1 := if 0 < (fitG l need i).length ∧ (bkAt l ((fitG l need i).getD 0 0)).2.1 > (bkAt l i).2.1 then [] else fitG l need i
 if out1.length = 0 ∨ (bkAt l (out1.getD 0 0)).2.1 = (bkAt l i).2.1 then out1 ++ [i] else out1 := by
 unfold fitG
 by_cases h : need < 2
 ·simp [h]
 ·simp only [h, if_false, false_or]
  rw [qd3]; rfl
theorem qj1 {l : List Bk} {need : Int} {i j : Nat} (h : i ∈ fitG l need j) : i < j := by
 unfold fitG at h
 split at h
 ·cases h
 ·exact (qdv h).1
theorem qko {l : List Bk} {need : Int} {j : Nat} : (fitG l need j).length ≤ j := by
 unfold fitG
 split
 ·exact qlY _
 ·exact qf1
theorem qO.s {x0 : Sl} {need : Int} {l : List Bk} {k : Sl → AH → Prop} (hr : qli H x0 3 bkV l) (hl : l.length ≤ 100000)
  (h : ∀ s H', qa H H' → Own H.size H' s 1 nV (fitsL l need) → k s H') : qO x0 need H k := by
 refine qO.link ?_
 unfold qO.b
 refine qL (t := ((⟨none, 0, 0⟩, (0 : Int)) : Sl × Int)) (I := fun (t : Sl × Int) H' => ∃ i : Nat, t.2 = (i : Int) ∧ i ≤ l.length ∧ qa H H' ∧ Own H.size H' t.1 1 nV (fitG l need i)) (m := fun (t : Sl × Int) _ => qkX ((l.length : Int) - t.2)) ?_ ⟨0, rfl, by omega, qa.refl H, .inl ⟨rfl, by unfold fitG fitsTo; split <;> rfl⟩⟩
 intro t H1 hI it hit
 obtain ⟨s, t2⟩ := t
 obtain ⟨i, e1, hi, hk, hO⟩ := hI
 simp only at e1 hO
 subst e1
 unfold qO.l5
 simp only [qj, decide_eq_true_eq, hr.1]
 by_cases hlt : (i : Int) < (l.length : Int)
 ·rw [if_pos hlt]
  have hi' : i < l.length := by omega
  obtain ⟨b, o, ha, hb, hcells⟩ := qbM (hr.keep hk) (by omega)
  refine ⟨by omega, ?_⟩
  have hgi := qaF hi'
  obtain ⟨hrow, _⟩ := hcells i _ hgi
  rw [ha, qd, qkS, qs hrow]
  have hstep := qjQ l need i
  unfold fitStep at hstep
  simp only at hstep
  have hmem : ∀ j, j ∈ fitG l need i → j < l.length := fun j hj => by have := qj1 hj; omega
  have hlen := qko (l := l) (need := need) (j := i)
  generalize hq : bkAt l i = q at *
  generalize fitG l need i = out at *
  refine qbX (n := 3) rfl (bkV_len q) (bkV_ok q) ?_
  have hB : BkAt (H1.push ⟨bkV q, .rw, 0⟩) H1.size q := BkAt.new
  have hk2 : qa H (H1.push ⟨bkV q, .rw, 0⟩) := hk.push _
  have hO2 : Own H.size (H1.push ⟨bkV q, .rw, 0⟩) s 1 nV out := hO.keep (by simp [qi]) (fun b _ hb => qG (by omega))
  have hcs : ∀ j x, l[j]? = some x → AH.cell? (H1.push ⟨bkV q, .rw, 0⟩) (qkN (qkN ⟨b, o, none⟩ (j * 3)) 1) = some (.int .i64 x.2.1) := fun j x hx => by
   have := (hcells j x hx).2 1 (.int .i64 x.2.1) rfl
   rw [ql, ql] at this ⊢
   rw [AH.cell?, qG (by show b ≠ H1.size; omega)]
   exact this
  generalize H1.push ⟨bkV q, .rw, 0⟩ = H2 at *
  have hwi : qkM .i64 ((i : Int) + 1) = ((i + 1 : Nat) : Int) := by rw [qe (by omega) (by omega)]; omega
  have next : ∀ s' H', qa H H' → Own H.size H' s' 1 nV (fitG l need (i + 1)) → it (s', ((i + 1 : Nat) : Int)) H' := fun s' H' a b => hit _ _ ⟨i + 1, rfl, by omega, a, b⟩ (by simp only; omega)
  have oN : ∀ {s' : Sl} {o' : List Nat}, Own H.size H2 s' 1 nV o' → s'.n = o'.length := fun h => own_n h
  have j2 : ∀ (s' : Sl) (o' : List Nat), Own H.size H2 s' 1 nV o' → (∀ j, j ∈ o' → j < l.length) → o'.length ≤ i → fitG l need (i + 1) = (if o'.length = 0 ∨ (bkAt l (o'.getD 0 0)).2.1 = q.2.1 then o' ++ [i] else o') → qO.j2 x0 (s, (i : Int)) it H1.size H2 s' := by
   intro s' o' hO' hm' hl' hst
   have j1 : ∀ x : Bool, (x = true ↔ (o'.length = 0 ∨ (bkAt l (o'.getD 0 0)).2.1 = q.2.1)) → qO.j1 (s, (i : Int)) it H2 s' x := by
    intro x hx
    unfold qO.j1
    rw [hwi, qj]
    by_cases hx' : x = true
    ·rw [if_pos hx', qt]
     rw [if_pos (hx.1 hx')] at hst
     refine qbL (H0 := H) (B := H.size) (f := nV) (x := i) (l := o') (fun _ => rfl) rfl hO' (qkV _) hk2.1 hk2 (by simp only [lim]; omega) ?_
     intro s'' H' hO'' hK' _ _
     rw [← hst] at hO''
     exact next _ _ hK' hO''
    ·rw [if_neg hx']
     rw [if_neg (fun hh => hx' (hx.2 hh))] at hst
     refine next _ _ hk2 ?_
     rw [hst]; exact hO'
   unfold qO.j2
   simp only [qj, oN hO']
   by_cases h0 : o'.length = 0
   ·rw [if_pos (by simpa using h0)]
    exact j1 true (by simp [h0])
   ·rw [if_neg (by simpa using h0), hB.c1, qg]
    have hg0 : o'[0]? = some (o'.getD 0 0) := by rw [qkP, qkO (by omega)]; rfl
    have hmem0 := hm' (o'.getD 0 0) (qkY hg0)
    obtain ⟨b0, ha0, _, _, hc0⟩ := hO'.cell (fun _ => rfl) hg0 (j := 0) (by omega)
    refine ⟨by omega, ?_⟩
    rw [ha0, qd, ql, show AH.cell? H2 ⟨b0, 0 + qkX 0 * 1, none⟩ = some (.int .i64 ((o'.getD 0 0 : Nat) : Int)) from hc0, qg, hr.1]
    refine ⟨by omega, ?_⟩
    rw [ha, qd, qkS, hcs _ _ (qaF hmem0), qg]
    refine j1 _ ?_
    simp only [h0, false_or, beq_iff_eq]; exact eq_comm
  have j4 : ∀ x : Bool, (x = true ↔ (need < 2 ∨ q.2.2 = true ∨ q.2.1 < need)) → qO.j4 x0 (s, (i : Int)) it H1.size H2 x := by
   intro x hx
   unfold qO.j4
   rw [hwi]
   simp only [qj, decide_eq_true_eq]
   by_cases hx' : x = true
   ·rw [if_pos hx']
    rw [if_pos (hx.1 hx')] at hstep
    exact next _ _ hk2 (by rw [hstep]; exact hO2)
   ·rw [if_neg hx']
    rw [if_neg (fun hh => hx' (hx.2 hh))] at hstep
    have j3 : ∀ y : Bool, (y = true ↔ (0 < out.length ∧ (bkAt l (out.getD 0 0)).2.1 > q.2.1)) → qO.j3 x0 (s, (i : Int)) it H1.size H2 y := by
     intro y hy
     unfold qO.j3
     rw [qj]
     by_cases hy' : y = true
     ·rw [if_pos hy']
      rw [if_pos (hy.1 hy')] at hstep
      exact j2 _ [] (.inl ⟨rfl, rfl⟩) (fun j hj => by cases hj) (qlY _) hstep
     ·rw [if_neg hy']
      rw [if_neg (fun hh => hy' (hy.2 hh))] at hstep
      exact j2 _ out hO2 hmem hlen hstep
    rw [oN hO2]
    by_cases h0 : (out.length : Int) > 0
    ·rw [if_pos h0, hB.c1, qg]
     have hg0 : out[0]? = some (out.getD 0 0) := by rw [qkP, qkO (by omega)]; rfl
     have hmem0 := hmem (out.getD 0 0) (qkY hg0)
     obtain ⟨b0, ha0, _, _, hc0⟩ := hO2.cell (fun _ => rfl) hg0 (j := 0) (by omega)
     refine ⟨by omega, ?_⟩
     rw [ha0, qd, ql, show AH.cell? H2 ⟨b0, 0 + qkX 0 * 1, none⟩ = some (.int .i64 ((out.getD 0 0 : Nat) : Int)) from hc0, qg, hr.1]
     refine ⟨by omega, ?_⟩
     rw [ha, qd, qkS, hcs _ _ (qaF hmem0), qg]
     refine j3 _ ?_
     rw [decide_eq_true_eq]
     exact ⟨fun hh => ⟨by omega, hh⟩, fun hh => hh.2⟩
    ·rw [if_neg h0]
     refine j3 false ?_
     constructor
     ·intro hh; cases hh
     ·intro hh; omega
  by_cases hn : need < 2
  ·rw [if_pos hn]; exact j4 true (by simp [hn])
  rw [if_neg hn]
  simp only [hB.c2, qa6]
  by_cases hu : q.2.2 = true
  ·rw [if_pos hu]; exact j4 true (by simp [hu])
  ·rw [if_neg hu, hB.c1, qg]
   refine j4 _ ?_
   rw [decide_eq_true_eq]
   exact ⟨fun hh => .inr (.inr hh), fun hh => (hh.resolve_left hn).resolve_left hu⟩
 ·rw [if_neg hlt]
  have : i = l.length := by omega
  subst this
  exact h _ _ hk hO
theorem qa3.s {v : Int} {k : Int → Bool → Bool → AH → Prop} (hv : isU v) (h1 : mayS (v / 2) → k (v / 2) (v % 2 == 1) true H) (h0 : ¬ mayS (v / 2) → k 0 false false H) : qa3 v H k := by
 have hv' := hv
 unfold isU at hv'
 refine qa3.link ?_
 unfold qa3.b qa3.j1
 rw [shr1 hv'.1, and1w hv]
 simp only [qj, decide_eq_true_eq]
 refine ⟨by decide, ?_⟩
 by_cases a2 : v / 2 > 512
 ·rw [if_pos a2]; exact h0 (fun hh => by unfold mayS at hh; omega)
 rw [if_neg a2]
 refine ⟨by decide, ?_⟩
 rw [qe (n := v / 2) (by omega) (by omega)]
 refine qaW.s ?_
 by_cases a1 : mayS (v / 2)
 ·rw [decide_eq_true a1, if_neg (by simp)]; exact ⟨by decide, h1 a1⟩
 ·rw [decide_eq_false a1, if_pos (by simp)]; exact h0 a1
theorem qQ.s {x0 : Sl} {words : Int} {l : List Bk} {k : Bool → AH → Prop} (hr : qli H x0 3 bkV l) (hl : l.length ≤ 100000) (hok : ∀ b ∈ l, 0 ≤ b.2.1 ∧ b.2.1 ≤ 100000) (hw : 0 ≤ words ∧ words ≤ 100000) (h : k (decide (MayB l words)) H) : qQ x0 words H k := by
 refine gcB (decide (MayB l words)) (qQ.link ?_) h
 unfold qQ.b
 refine qaP.s ?_
 by_cases hm : mayW words
 rotate_left 1
 ·rw [decide_eq_false hm, qlv, qk]
  exact ⟨qa.refl H, (decide_eq_false (fun hh : MayB l words => hm hh.1)).symm⟩
 rw [decide_eq_true hm, qlm, qc]
 refine qL (t := ((false, (0 : Int), false, (0 : Int)) : Bool × Int × Bool × Int)) (I := fun (t : Bool × Int × Bool × Int) H' => ∃ i : Nat, t.2.2.2 = (i : Int) ∧ t.2.2.1 = !puAt l i ∧ i ≤ l.length ∧ qa H H' ∧ 0 ≤ t.2.1 ∧ t.2.1 ≤ words ∧ (MayB l words ↔ chainB words t.2.1 (puAt l i) (l.drop i))) (m := fun (t : Bool × Int × Bool × Int) _ => qkX ((l.length : Int) - t.2.2.2)) ?_ ⟨0, rfl, rfl, by omega, qa.refl H, by simp only; omega, by simp only; omega, ⟨fun hh => hh.2, fun hh => ⟨hm, hh⟩⟩⟩
 intro t H1 hI it hit
 obtain ⟨t1, pt, t4, t3⟩ := t
 obtain ⟨i, e1, e4, hi, hk, hp0, hp1, hiff⟩ := hI
 simp only at e1 e4 hp0 hp1 hiff
 subst e1 e4
 unfold qQ.l2
 simp only [qj, decide_eq_true_eq, hr.1]
 by_cases hlt : (i : Int) < (l.length : Int)
 ·rw [if_pos hlt]
  have hi' : i < l.length := by omega
  obtain ⟨b, o, ha, hb, hcells⟩ := qbM (hr.keep hk) (by omega)
  refine ⟨by omega, ?_⟩
  obtain ⟨hrow, _⟩ := hcells i l[i] (qkO hi')
  have hq := hok _ (qk5 hi')
  rw [ha, qd, qkS, qs hrow]
  rw [qfb hi'] at hiff
  have hpu : puAt l (i + 1) = l[i].2.2 := by simp [puAt, qkP, hi']
  generalize hqq : l[i] = q at *
  refine qbX (n := 3) rfl (bkV_len q) (bkV_ok q) ?_
  have hB : BkAt (H1.push ⟨bkV q, .rw, 0⟩) H1.size q := BkAt.new
  have hk2 : qa H (H1.push ⟨bkV q, .rw, 0⟩) := hk.push _
  have hc2 : ∀ j x, l[j]? = some x → AH.cell? (H1.push ⟨bkV q, .rw, 0⟩) (qkN (qkN ⟨b, o, none⟩ (j * 3)) 2) = some (.bool x.2.2) := fun j x hx => by
   have := (hcells j x hx).2 2 (.bool x.2.2) rfl
   rw [ql, ql] at this ⊢
   rw [AH.cell?, qG (by show b ≠ H1.size; omega)]
   exact this
  generalize H1.push ⟨bkV q, .rw, 0⟩ = H2 at *
  have no : ¬ chainB words pt (puAt l i) (q :: l.drop (i + 1)) → qQ.j1 (fun r H' => qa H H' ∧ r = decide (MayB l words)) (t1, pt, (!puAt l i), (i : Int)) it H1.size true H2 := by
   intro hn
   unfold qQ.j1
   rw [qk]
   exact ⟨hk2, (decide_eq_false (fun hh => hn (hiff.1 hh))).symm⟩
  simp only [hB.c0, qg]
  by_cases c1 : q.1 = pt
  rotate_left 1
  ·rw [if_pos (by simpa using c1)]; exact no (fun hh => c1 hh.1)
  rw [if_neg (by simpa using c1)]
  simp only [hB.c1, qg]
  refine qaW.s ?_
  by_cases c2 : mayS q.2.1
  rotate_left 1
  ·rw [decide_eq_false c2, if_pos (by simp)]; exact no (fun hh => c2 hh.2.1)
  rw [decide_eq_true c2, if_neg (by simp)]
  have fin : q.2.1 ≤ words - pt → (puAt l i = true ∨ q.2.2 = true) → qQ.j1 (fun r H' => qa H H' ∧ r = decide (MayB l words)) (t1, pt, (!puAt l i), (i : Int)) it H1.size false H2 := by
   intro c3 hor
   unfold qQ.j1
   rw [qc, hB.c1, qg, qe (n := pt + q.2.1) (by omega) (by omega), qe (n := (i : Int) + 1) (by omega) (by omega), hB.c2, qa6]
   refine hit _ _ ⟨i + 1, by simp, by simp only; rw [hpu], by omega, hk2, by simp only; omega, by simp only; omega, ?_⟩ (by simp only; omega)
   simp only
   rw [hpu, hiff]
   exact ⟨fun hh => hh.2.2.2.2, fun hh => ⟨c1, c2, by omega, hor, hh⟩⟩
  have rest : (puAt l i = true ∨ q.2.2 = true) → qQ.j1 (fun r H' => qa H H' ∧ r = decide (MayB l words)) (t1, pt, (!puAt l i), (i : Int)) it H1.size (decide (q.2.1 > qkM .i64 (words - pt))) H2 := by
   intro hor
   rw [qe (n := words - pt) (by omega) (by omega)]
   by_cases c3 : q.2.1 > words - pt
   ·rw [decide_eq_true c3]; exact no (fun hh => by have := hh.2.2.1; omega)
   ·rw [decide_eq_false c3]; exact fin (by omega) hor
  by_cases c4 : puAt l i = true
  ·rw [if_neg (by simp [c4])]
   rw [hB.c1, qg]; exact rest (.inl c4)
  ·rw [if_pos (by simpa using c4)]
   rw [hB.c2, qa6]
   by_cases c5 : q.2.2 = true
   ·rw [if_neg (by simp [c5]), hB.c1, qg]; exact rest (.inr c5)
   ·rw [if_pos (by simpa using c5)]
    exact no (fun hh => by have := hh.2.2.2.1; simp_all)
 ·rw [if_neg hlt]
  have : i = l.length := by omega
  subst this
  refine ⟨hk, ?_⟩
  rw [List.drop_length] at hiff
  by_cases hpw : pt = words
  ·rw [decide_eq_true (hiff.2 hpw)]; simpa using hpw
  ·rw [decide_eq_false (fun hh => hpw (hiff.1 hh))]; simpa using hpw
theorem qI.s {x0 : Sl} {ws : List Int} {k : Sl → Bool → AH → Prop} (hr : qli H x0 1 wU ws) (h64 : qah ws) (hl : ws.length ≤ 1000)
  (h1 : ∀ l, blocksN ws = some l → ∀ s H', qa H H' → Own H.size H' s 3 bkV l → k s true H') (h0 : blocksN ws = none → ∀ H', qa H H' → k ⟨none, 0, 0⟩ false H') : qI x0 H k := by
 refine qI.link ?_
 unfold qI.b
 refine qL (t := ((⟨none, 0, 0⟩, false, ⟨none, 0, 0⟩, (0 : Int)) : Sl × Bool × Sl × Int)) (I := fun (t : Sl × Bool × Sl × Int) H' => ∃ (pt : Nat) (acc : List Bk), t.2.2.2 = (pt : Int) ∧ pt ≤ ws.length + 512 ∧ 2 * acc.length ≤ pt ∧ qa H H' ∧ Own H.size H' t.2.2.1 3 bkV acc ∧ (∀ b ∈ acc, 0 ≤ b.2.1 ∧ b.2.1 ≤ 100000) ∧ blkFrom ws 0 = (blkFrom ws pt).map (acc ++ ·)) (m := fun (t : Sl × Bool × Sl × Int) _ => qkX ((ws.length : Int) - t.2.2.2)) ?_
  ⟨0, [], rfl, by omega, by simp, qa.refl H, .inl ⟨rfl, rfl⟩, by simp, by simp⟩
 intro t H1 hI it hit
 obtain ⟨u1, u2, u3, u4⟩ := t
 obtain ⟨pt, acc, e1, hp, ha, hk, hO, hok, hb⟩ := hI
 simp only at e1 hO
 subst e1
 unfold qI.l2
 simp only [qj, decide_eq_true_eq, hr.1]
 by_cases hlt : (pt : Int) < (ws.length : Int)
 ·rw [if_pos hlt]
  have hlt' : pt < ws.length := by omega
  obtain ⟨b1, o1, ha1, _, hc1⟩ := qbI (g := fun v => qkL .u64 v) (hr.keep hk) (i := pt) hlt'
  refine ⟨by omega, ?_⟩
  rw [ha1, qd, qkS, hc1, qg]
  have hg : ws.getD pt 0 = ws[pt] := by rw [qkP, qkO hlt']; rfl
  have hv : isU ws[pt] := h64 _ (qk5 hlt')
  rw [qdc ws pt, dif_pos hlt', hg] at hb
  generalize ws[pt] = v at *
  refine qa3.s hv ?_ ?_
  ·intro hm
   rw [dif_pos hm] at hb
   have hm' := hm
   unfold mayS at hm'
   rw [if_neg (by simp)]
   refine ⟨rfl, ?_⟩
   rw [qt]
   have hbk : [qkL .i64 (pt : Int), qkL .i64 (v / 2), Value.bool (v % 2 == 1)] = bkV ((pt : Int), v / 2, (v % 2 == 1)) := rfl
   rw [hbk]
   refine qbL (H0 := H) (B := H.size) (f := bkV) (x := ((pt : Int), v / 2, (v % 2 == 1))) (l := acc) bkV_len (bkV_ok _) hO (qkV _) hk.1 hk (by simp only [lim]; omega) ?_
   intro s' H' hO' hK' _ _
   have e2 : (pt : Int) + v / 2 = ((pt + (v / 2).toNat : Nat) : Int) := by omega
   rw [qe (n := (pt : Int) + v / 2) (by omega) (by omega), e2]
   refine hit _ _ ⟨pt + (v / 2).toNat, acc ++ [((pt : Int), v / 2, (v % 2 == 1))], rfl, by omega, by simp; omega, hK', hO', ?_, ?_⟩ (by simp only; omega)
   ·intro b hb'
    rw [List.mem_append] at hb'
    rcases hb' with hb' | hb'
    ·exact hok b hb'
    ·simp at hb'; subst hb'; simp only; omega
   ·rw [hb, Option.map_map]
    congr 1
    funext r
    simp
  ·intro hm
   rw [dif_neg hm] at hb
   rw [if_pos (by simp)]
   refine h0 ?_ _ hk
   unfold blocksN
   rw [hb]; rfl
 ·rw [if_neg hlt]
  have hb' : blkFrom ws 0 = some acc := by
   rw [hb, qdc ws pt, dif_neg (by omega)]
   simp
  unfold qI.j1
  rw [hr.1]
  refine qQ.s (hO.rows bkV_len bkV_ok) (by omega) hok (by omega) ?_
  by_cases hm : MayB acc (ws.length : Int)
  ·rw [decide_eq_true hm, qlm, qc]
   refine h1 acc ?_ _ _ hk hO
   unfold blocksN
   rw [hb', Option.bind_some, if_pos hm]
  ·rw [decide_eq_false hm, qlv, qk]
   refine h0 ?_ _ hk
   unfold blocksN
   rw [hb', Option.bind_some, if_neg hm]
end
section
variable {H : AH}
theorem qbd.s {b : Bk} {x1 : Sl} {cs : List Int} {k : Int → AH → Prop} (hr : qli H x1 1 iV cs) (hp : b.1 ≤ 100000) (h : k (countN b.1 cs) H) : qbd (bkV b) x1 H k := by
 refine gcI (j := .i64) (countN b.1 cs) (qbd.link ?_) h
 unfold qbd.b qbd.j1
 rw [qt]
 have hk := (qa.refl H).push ⟨bkV b, .rw, 0⟩
 have hB : BkAt (H.push ⟨bkV b, .rw, 0⟩) H.size b := BkAt.new
 have hr' := hr.keep hk
 generalize H.push ⟨bkV b, .rw, 0⟩ = H1 at *
 simp only [hB.c0, qg]
 unfold countN
 simp only [qj, decide_eq_true_eq, hr.1]
 generalize b.1 = pt at *
 by_cases h1 : pt < 0
 ·rw [if_pos h1, if_pos (.inl h1)]; exact ⟨hk, rfl⟩
 rw [if_neg h1, qlJ (by omega), qe (n := pt / 32) (by omega) (by omega)]
 refine ⟨by decide, ?_⟩
 by_cases h2 : pt / 32 ≥ (cs.length : Int)
 ·rw [if_pos h2, if_pos (.inr h2)]; exact ⟨hk, rfl⟩
 ·rw [if_neg h2, if_neg (by omega)]
  obtain ⟨b, o, ha, _, hc⟩ := qbI (g := fun v => qkL .i64 v) hr' (i := (pt / 32).toNat) (by omega)
  refine ⟨by decide, by omega, ?_⟩
  rw [ha, qd, hc, qg]
  rw [qkP, qkO (show (pt / 32).toNat < cs.length by omega), qln]
  exact ⟨hk, rfl⟩
theorem qas.s {x0 x2 : Sl} {need : Int} {l : List Bk} {cs : List Int} {k : Int → AH → Prop} (hr : qli H x0 3 bkV l) (hl : l.length ≤ 1000) (hok : ∀ b ∈ l, 0 ≤ b.1 ∧ b.1 ≤ 100000) (hcs : qli H x2 1 iV cs)
  (h : k (chooseN l need cs) H) : qas x0 need x2 H k := by
 refine gcI (j := .i64) (chooseN l need cs) (qas.link ?_) h
 unfold qas.b
 refine qO.s hr (by omega) ?_
 intro s12 H12 hk12 hO12
 have hr2 := hr.keep hk12
 have hcs2 := hcs.keep hk12
 have hRf := hO12.rows (fun _ => rfl) (fun _ => rfl)
 have hmem : ∀ j, j ∈ fitsL l need → j < l.length := fun j hj => by
  unfold fitsL at hj
  split at hj
  ·cases hj
  ·exact (qdv hj).1
 have hlen : (fitsL l need).length ≤ l.length := by
  unfold fitsL
  split
  ·exact qlY _
  ·exact qf1
 unfold chooseN
 generalize fitsL l need = f at *
 refine qL (t := (((-1 : Int), (0 : Int)) : Int × Int)) (I := fun (t : Int × Int) H' => ∃ i : Nat, t.2 = (i : Int) ∧ i ≤ f.length ∧ H' = H12 ∧ t.1 = (f.take i).foldl (chStep l cs) (-1)) (m := fun (t : Int × Int) _ => qkX ((f.length : Int) - t.2)) ?_ ⟨0, rfl, by omega, rfl, rfl⟩
 intro t H1 hI it hit
 obtain ⟨best, t2⟩ := t
 obtain ⟨i, e1, hi, rfl, e2⟩ := hI
 simp only at e1 e2
 subst e1
 unfold qas.l2
 simp only [qj, decide_eq_true_eq, hRf.1]
 by_cases hlt : (i : Int) < (f.length : Int)
 ·rw [if_pos hlt]
  have hi' : i < f.length := by omega
  obtain ⟨b0, o0, ha0, _, hc0⟩ := qbI (g := fun v : Nat => qkL .i64 (v : Int)) hRf (i := i) hi'
  refine ⟨by omega, ?_⟩
  rw [ha0, qd, qkS, hc0, qg]
  have hfi := hmem _ (qk5 hi')
  have htk : (f.take (i + 1)).foldl (chStep l cs) (-1) = chStep l cs best f[i] := by
   rw [List.take_succ, qkO hi', qmd, List.foldl_append, e2]; rfl
  have hbest : best = -1 ∨ ∃ b : Nat, best = (b : Int) ∧ b < l.length := by
   rw [e2]
   rcases qer (l := l) (cs := cs) (f := f.take i) (b := -1) with h | ⟨j, hj, h⟩
   ·exact .inl h
   ·exact .inr ⟨j, h, hmem j (List.mem_of_mem_take hj)⟩
  generalize f[i] = y at *
  have hwi : qkM .i64 ((i : Int) + 1) = ((i + 1 : Nat) : Int) := by rw [qe (by omega) (by omega)]; omega
  rw [hwi]
  unfold chStep at htk
  have yes : (best < 0 ∨ countN (bkAt l y).1 cs < countN (bkAt l best.toNat).1 cs ∨ (countN (bkAt l y).1 cs = countN (bkAt l best.toNat).1 cs ∧ (bkAt l y).1 < (bkAt l best.toNat).1)) → it ((y : Int), ((i + 1 : Nat) : Int)) H1 := fun hx => by
   rw [if_pos hx] at htk
   exact hit _ _ ⟨i + 1, rfl, by omega, rfl, htk.symm⟩ (by simp only; omega)
  have j1 : ∀ x : Bool, (x = true ↔ (best < 0 ∨ countN (bkAt l y).1 cs < countN (bkAt l best.toNat).1 cs ∨ (countN (bkAt l y).1 cs = countN (bkAt l best.toNat).1 cs ∧ (bkAt l y).1 < (bkAt l best.toNat).1))) → qas.j1 (best, (i : Int)) it (y : Int) H1 x := by
   intro x hx
   unfold qas.j1
   rw [hwi, qj]
   by_cases hx' : x = true
   ·rw [if_pos hx']; exact yes (hx.1 hx')
   ·rw [if_neg hx']
    rw [if_neg (fun hh => hx' (hx.2 hh))] at htk
    exact hit _ _ ⟨i + 1, rfl, by omega, rfl, htk.symm⟩ (by simp only; omega)
  rcases hbest with hb | ⟨bb, hb, hbl⟩
  ·rw [if_pos (by omega)]
   exact yes (.inl (by omega))
  ·rw [if_neg (by omega), hr.1]
   subst hb
   rw [qkS] at j1
   obtain ⟨b, o, ha, hbz, hcells⟩ := qbM hr2 (by omega)
   have hgy := qaF hfi
   have hgb := qaF hbl
   have ry := (hcells y _ hgy).1
   have rb := (hcells bb _ hgb).1
   have cy : AH.cell? H1 (qkN (qkN ⟨b, o, none⟩ (y * 3)) 0) = some (.int .i64 (bkAt l y).1) := (hcells y _ hgy).2 0 _ rfl
   have cb : AH.cell? H1 (qkN (qkN ⟨b, o, none⟩ (bb * 3)) 0) = some (.int .i64 (bkAt l bb).1) := (hcells bb _ hgb).2 0 _ rfl
   have oy := (hok _ (qkY hgy)).2
   have ob := (hok _ (qkY hgb)).2
   generalize bkAt l y = qy at *
   generalize bkAt l bb = qb at *
   have rg : (0 ≤ (y : Int) ∧ (y : Int) < (l.length : Int)) ∧ (0 ≤ (bb : Int) ∧ (bb : Int) < (l.length : Int)) := by omega
   refine ⟨rg.1, ?_⟩
   simp only [ha, qd, qkS]
   rw [qs ry]
   refine ⟨rg.2, ?_⟩
   rw [qs rb]
   refine qbd.s hcs2 oy ⟨rb, ?_⟩
   refine qbd.s hcs2 ob ?_
   by_cases c1 : countN qy.1 cs < countN qb.1 cs
   ·rw [if_pos c1]
    exact j1 true ⟨fun _ => .inr (.inl c1), fun _ => rfl⟩
   ·rw [if_neg c1]
    by_cases c2 : countN qy.1 cs = countN qb.1 cs
    ·rw [if_pos (by simpa using c2)]
     simp only [cy, cb, qg]
     refine ⟨rg.1, rg.2, j1 _ ?_⟩
     rw [decide_eq_true_eq]
     exact ⟨fun hh => .inr (.inr ⟨c2, hh⟩), fun hh => by rcases hh with hh | hh | hh; omega; exact absurd hh c1; exact hh.2⟩
    ·rw [if_neg (by simpa using c2)]
     exact j1 false ⟨fun hh => (by cases hh), fun hh => by rcases hh with hh | hh | hh; omega; exact absurd hh c1; exact absurd hh.1 c2⟩
 ·rw [if_neg hlt]
  have : i = f.length := by omega
  subst this
  rw [qlU] at e2
  exact ⟨hk12, e2⟩
theorem qa8.s {q : Bk} {a : Addr} {off : Int} {k : Bool → AH → Prop} (ha : AH.cell? H a = some (.int .i64 off)) (hab : a.1 < H.size) (h : k (decide (q.2.2 = true ∧ offN q.1 = off)) H) : qa8 (bkV q) (some a) H k := by
 refine gcB (decide (q.2.2 = true ∧ offN q.1 = off)) (qa8.link ?_) h
 unfold qa8.b
 rw [qt]
 have hk := (qa.refl H).push ⟨bkV q, .rw, 0⟩
 have hB : BkAt (H.push ⟨bkV q, .rw, 0⟩) H.size q := BkAt.new
 have ha' : AH.cell? (H.push ⟨bkV q, .rw, 0⟩) a = some (.int .i64 off) := by
  rw [AH.cell?, qG (by omega)]; exact ha
 generalize H.push ⟨bkV q, .rw, 0⟩ = H1 at *
 simp only [hB.c2, qa6, qj]
 by_cases hu : q.2.2 = true
 ·rw [if_pos hu, qs hB.row]
  rw [qd, ha', qg]
  refine qaV.s ⟨ha', hk, ?_⟩
  simp only [hu, true_and]
  by_cases h1 : offN q.1 = off <;> simp [h1]
 ·rw [if_neg hu]
  exact ⟨hk, (decide_eq_false (fun hh => hu hh.1)).symm⟩
end
def isUsed (ws : List Int) (off : Int) : Bool := match blocksN ws with | some l => decide (0 ≤ isN off l 0) | none => false
def imgRead (ws : List Int) (off n : Int) : List Int × Int :=
 match blocksN ws with
 | none => ([], 6)
 | some l => if withinN l off n then (bytesOf ws off.toNat n.toNat, 0) else ([], 1)
def imgHolds (ws : List Int) (off n : Int) : Int :=
 match blocksN ws with
 | none => 6
 | some l => if withinN l off n then 0 else 1
section
variable {H : AH}
theorem qec.s {x0 : Sl} {a : Addr} {off : Int} {l : List Bk} {k : Int → AH → Prop} (hr : qli H x0 3 bkV l) (hl : l.length ≤ 1000) (ha : AH.cell? H a = some (.int .i64 off)) (hab : a.1 < H.size)
  (h : k (isN off l 0) H) : qu x0 (some a) H k := by
 refine gcI (j := .i64) (isN off l 0) (qu.link ?_) h
 unfold qu.b
 refine qL (t := (((0 : Int), (0 : Int)) : Int × Int)) (I := fun (t : Int × Int) H' => ∃ i : Nat, t.2 = (i : Int) ∧ i ≤ l.length ∧ H' = H ∧ isN off l 0 = isN off (l.drop i) i) (m := fun (t : Int × Int) _ => qkX ((l.length : Int) - t.2)) ?_ ⟨0, rfl, by omega, rfl, rfl⟩
 intro t H1 hI it hit
 obtain ⟨t1, t2⟩ := t
 obtain ⟨i, e1, hi, rfl, he⟩ := hI
 simp only at e1
 subst e1
 unfold qu.l1
 simp only [qj, decide_eq_true_eq, hr.1]
 by_cases hlt : (i : Int) < (l.length : Int)
 ·rw [if_pos hlt]
  have hi' : i < l.length := by omega
  obtain ⟨b, o, ha', hb, hcells⟩ := qbM hr (by omega)
  refine ⟨by omega, ?_⟩
  obtain ⟨hrow, _⟩ := hcells i l[i] (qkO hi')
  rw [ha', qd, qkS, qs hrow]
  rw [qfb hi'] at he
  simp only [isN] at he
  generalize l[i] = q at *
  refine qa8.s ha hab ?_
  rw [qe (n := (i : Int) + 1) (by omega) (by omega)]
  by_cases hq : q.2.2 = true ∧ offN q.1 = off
  ·rw [if_pos (by simpa using hq)]
   rw [if_pos hq] at he
   exact ⟨qa.refl _, he.symm⟩
  ·rw [if_neg (by simpa using hq)]
   rw [if_neg hq] at he
   exact hit _ _ ⟨i + 1, by simp, by omega, rfl, he⟩ (by simp only; omega)
 ·rw [if_neg hlt]
  have : i = l.length := by omega
  subst this
  rw [List.drop_length] at he
  exact ⟨qa.refl _, he.symm⟩
theorem qbH.s {x0 : Sl} {off : Int} {ws : List Int} {k : Sl → Int → AH → Prop} (hr : qli H x0 1 wU ws) (h64 : qah ws) (hl : ws.length ≤ 1000)
  (h1 : ∀ l, blocksN ws = some l → ∀ s H', qa H H' → Own H.size H' s 3 bkV l → k s (isN off l 0) H') (h0 : blocksN ws = none → ∀ H', qa H H' → k ⟨none, 0, 0⟩ (-1) H') : qbH x0 off H k := by
 refine qbH.link ?_
 unfold qbH.b
 rw [qt]
 have hk := (qa.refl H).push ⟨[(qkL .i64 off)], .rw, 0⟩
 have hc : AH.cell? (H.push ⟨[(qkL .i64 off)], .rw, 0⟩) ⟨H.size, 0, none⟩ = some (.int .i64 off) := by simp [AH.cell?, qp]
 have hs : H.size < (H.push ⟨[(qkL .i64 off)], .rw, 0⟩).size := by simp [qi]
 generalize H.push ⟨[(qkL .i64 off)], .rw, 0⟩ = H1 at *
 have keep : ∀ {H'}, qa H1 H' → AH.cell? H' ⟨H.size, 0, none⟩ = some (.int .i64 off) ∧ H.size < H'.size := fun hk' => by
  refine ⟨?_, by have := hk'.1; omega⟩
  rw [← hc]; simp only [AH.cell?, hk'.2 _ hs]
 refine qI.s (hr.keep hk) h64 hl ?_ ?_
 ·intro l hb s H' hk' hO
  have hB := qa0 hb
  have hlen := hB.len
  refine qec.s (hO.rows bkV_len bkV_ok) (by omega) (keep hk').1 (keep hk').2 ?_
  exact h1 l hb _ _ (hk.trans hk') (qci hO hk.1)
 ·intro hb H' hk'
  refine qec.s (l := []) qc2 (by simp) (keep hk').1 (keep hk').2 ?_
  exact h0 hb _ (hk.trans hk')
theorem qb1.s {x0 : Sl} {off : Int} {ws : List Int} {k : Bool → AH → Prop} (hr : qli H x0 1 wU ws) (h64 : qah ws) (hl : ws.length ≤ 1000)
  (h : k (isUsed ws off) H) : qb1 x0 off H k := by
 refine gcB (isUsed ws off) (qb1.link ?_) h
 unfold qb1.b isUsed
 refine qbH.s hr h64 hl ?_ ?_
 ·intro l hb s H' hk _
  rw [hb]; exact ⟨hk, rfl⟩
 ·intro hb H' hk
  rw [hb]; exact ⟨hk, rfl⟩
theorem qaY.s {q : Bk} {a1 a2 : Addr} {off n : Int} {k : Bool → AH → Prop} (ha1 : AH.cell? H a1 = some (.int .i64 off)) (hb1 : a1.1 < H.size) (ha2 : AH.cell? H a2 = some (.int .i64 n)) (hb2 : a2.1 < H.size)
  (hn : 0 ≤ n ∧ n ≤ 448) (hq : 0 ≤ q.1 ∧ q.1 ≤ 100000 ∧ 0 ≤ q.2.1 ∧ q.2.1 ≤ 100000) (h : k (decide (inB off n q)) H) : qaY (bkV q) (some a1) (some a2) H k := by
 refine gcB (decide (inB off n q)) (qaY.link ?_) h
 unfold qaY.b
 rw [qt]
 have hk := (qa.refl H).push ⟨bkV q, .rw, 0⟩
 have hB : BkAt (H.push ⟨bkV q, .rw, 0⟩) H.size q := BkAt.new
 have ha1' : AH.cell? (H.push ⟨bkV q, .rw, 0⟩) a1 = some (.int .i64 off) := by rw [AH.cell?, qG (by omega)]; exact ha1
 have ha2' : AH.cell? (H.push ⟨bkV q, .rw, 0⟩) a2 = some (.int .i64 n) := by rw [AH.cell?, qG (by omega)]; exact ha2
 generalize H.push ⟨bkV q, .rw, 0⟩ = H1 at *
 simp only [hB.c2, qa6, qj, decide_eq_true_eq]
 by_cases hu : q.2.2 = true
 ·rw [if_pos hu, qd, ha1', qg, qs hB.row]
  refine qaV.s ⟨ha1', ?_⟩
  by_cases c1 : off ≥ offN q.1
  ·rw [if_pos c1, qd, ha1', qg, hB.c0, qg, hB.c1, qg, qd, ha2', qg]
   refine ⟨hk, ?_⟩
   rw [qe (n := q.1 + q.2.1) (by omega) (by omega), qe (n := (q.1 + q.2.1) * 8) (by omega) (by omega), qe (n := (q.1 + q.2.1) * 8 - n) (by omega) (by omega)]
   congr 1
   apply propext
   constructor
   ·intro hh; exact ⟨hu, c1, by omega, by omega⟩
   ·intro hh; have := hh.2.2.2; omega
  ·rw [if_neg c1]
   exact ⟨hk, (decide_eq_false (fun hh => c1 hh.2.1)).symm⟩
 ·rw [if_neg hu]
  exact ⟨hk, (decide_eq_false (fun hh => hu hh.1)).symm⟩
theorem qeL.s {x0 : Sl} {a1 a2 : Addr} {off n : Int} {l : List Bk} {k : Bool → AH → Prop} (hr : qli H x0 3 bkV l) (hl : l.length ≤ 1000) (ha1 : AH.cell? H a1 = some (.int .i64 off)) (hb1 : a1.1 < H.size) (ha2 : AH.cell? H a2 = some (.int .i64 n)) (hb2 : a2.1 < H.size)
  (hn : 0 ≤ n ∧ n ≤ 448) (hok : ∀ b ∈ l, 0 ≤ b.1 ∧ b.1 ≤ 100000 ∧ 0 ≤ b.2.1 ∧ b.2.1 ≤ 100000) (h : k (decide (withinN l off n)) H) : qF x0 (some a1) (some a2) H k := by
 refine qF.link ?_
 unfold qF.b
 have main : ∀ v : Int, (0 ≤ v ↔ withinN l off n) → (∀ k' : Int → AH → Prop, k' v H → qq x0 (some a1) (some a2) H k') → qq x0 (some a1) (some a2) H fun n7 H7 => k (decide ((n7 : Int) ≥ (0 : Int))) H7 := by
  intro v hv hk
  refine hk _ ?_
  rw [show decide (v ≥ 0) = decide (withinN l off n) by congr 1; exact propext hv]
  exact h
 -- the first place
 have key : ∃ v : Int, (0 ≤ v ↔ withinN l off n) ∧ (∀ k' : Int → AH → Prop, k' v H → qq x0 (some a1) (some a2) H k') := by
  let fst : List Bk → Nat → Int := fun l => l.rec (fun _ => -1) (fun q _ ih i => if inB off n q then (i : Int) else ih (i + 1))
  have f0 : ∀ i, fst [] i = -1 := fun _ => rfl
  have f1 : ∀ q r i, fst (q :: r) i = if inB off n q then (i : Int) else fst r (i + 1) := fun _ _ _ => rfl
  refine ⟨fst l 0, ?_, ?_⟩
  ·have : ∀ (r : List Bk) i, 0 ≤ fst r i ↔ ∃ b ∈ r, inB off n b := by
    intro r
    induction r with
    | nil => intro i; rw [f0 i]; simp
    | cons q r ih =>
     intro i
     rw [f1]
     by_cases hq : inB off n q
     ·rw [if_pos hq]; simp [hq]
     ·rw [if_neg hq, ih]; simp [hq]
   rw [this l 0]
   exact ⟨fun hh => ⟨hn.1, hn.2, hh⟩, fun hh => hh.2.2⟩
  ·intro k' hk'
   refine gcI (j := .i64) (fst l 0) (qq.link ?_) hk'
   unfold qq.b
   refine qL (t := (((0 : Int), (0 : Int)) : Int × Int)) (I := fun (t : Int × Int) H' => ∃ i : Nat, t.2 = (i : Int) ∧ i ≤ l.length ∧ H' = H ∧ fst l 0 = fst (l.drop i) i) (m := fun (t : Int × Int) _ => qkX ((l.length : Int) - t.2)) ?_ ⟨0, rfl, by omega, rfl, rfl⟩
   intro t H1 hI it hit
   obtain ⟨t1, t2⟩ := t
   obtain ⟨i, e1, hi, rfl, he⟩ := hI
   simp only at e1
   subst e1
   unfold qq.l1
   simp only [qj, decide_eq_true_eq, hr.1]
   by_cases hlt : (i : Int) < (l.length : Int)
   ·rw [if_pos hlt]
    have hi' : i < l.length := by omega
    obtain ⟨b, o, ha', hb, hcells⟩ := qbM hr (by omega)
    refine ⟨by omega, ?_⟩
    obtain ⟨hrow, _⟩ := hcells i l[i] (qkO hi')
    rw [ha', qd, qkS, qs hrow]
    rw [qfb hi', f1] at he
    have hqq := hok _ (qk5 hi')
    generalize l[i] = q at *
    refine qaY.s ha1 hb1 ha2 hb2 hn hqq ?_
    rw [qe (n := (i : Int) + 1) (by omega) (by omega)]
    by_cases hq : inB off n q
    ·rw [if_pos (by simpa using hq)]
     rw [if_pos hq] at he
     exact ⟨qa.refl _, he.symm⟩
    ·rw [if_neg (by simpa using hq)]
     rw [if_neg hq] at he
     exact hit _ _ ⟨i + 1, by simp, by omega, rfl, he⟩ (by simp only; omega)
   ·rw [if_neg hlt]
    have : i = l.length := by omega
    subst this
    rw [List.drop_length] at he
    exact ⟨qa.refl _, he.symm⟩
 obtain ⟨v, hv, hk⟩ := key
 exact main v hv hk
theorem qaZ.s {x0 : Sl} {off n : Int} {ws : List Int} {l : List Bk} {k : Bool → AH → Prop} (hr : qli H x0 1 wU ws) (h64 : qah ws) (hl : ws.length ≤ 1000) (hbl : blocksN ws = some l)
  (h : k (decide (withinN l off n)) H) : qaZ x0 off n H k := by
 refine gcB (decide (withinN l off n)) (qaZ.link ?_) h
 unfold qaZ.b
 rw [qt, qt]
 have hk := ((qa.refl H).push ⟨[(qkL .i64 off)], .rw, 0⟩).push ⟨[(qkL .i64 n)], .rw, 0⟩
 rw [qi]
 have hc1 : AH.cell? ((H.push ⟨[(qkL .i64 off)], .rw, 0⟩).push ⟨[(qkL .i64 n)], .rw, 0⟩) ⟨H.size, 0, none⟩ = some (.int .i64 off) := by simp [AH.cell?, qp, qi]
 have hc2 : AH.cell? ((H.push ⟨[(qkL .i64 off)], .rw, 0⟩).push ⟨[(qkL .i64 n)], .rw, 0⟩) ⟨H.size + 1, 0, none⟩ = some (.int .i64 n) := by simp [AH.cell?, qp, qi]
 have hs : H.size + 1 < ((H.push ⟨[(qkL .i64 off)], .rw, 0⟩).push ⟨[(qkL .i64 n)], .rw, 0⟩).size := by simp [qi]
 generalize (H.push ⟨[(qkL .i64 off)], .rw, 0⟩).push ⟨[(qkL .i64 n)], .rw, 0⟩ = H1 at *
 simp only [hc2, qg, qj, decide_eq_true_eq]
 unfold qaZ.j1
 by_cases c1 : n < 0
 ·rw [if_pos c1, qk]; exact ⟨hk, (decide_eq_false (fun hh => by have := hh.1; omega)).symm⟩
 rw [if_neg c1]
 by_cases c2 : n > 448
 ·rw [decide_eq_true c2, qk]; exact ⟨hk, (decide_eq_false (fun hh => by have := hh.2.1; omega)).symm⟩
 rw [decide_eq_false c2, qc]
 refine qI.s (hr.keep hk) h64 hl ?_ (fun hb => by rw [hbl] at hb; cases hb)
 intro l' hb s H' hk' hO
 obtain rfl := Option.some.inj (hbl.symm.trans hb)
 have hB := qa0 hbl
 have hlen := hB.len
 have cc : ∀ b v, b < H1.size → AH.cell? H1 ⟨b, 0, none⟩ = some v → AH.cell? H' ⟨b, 0, none⟩ = some v := fun b v hb hv => by rw [← hv]; simp only [AH.cell?, hk'.2 _ hb]
 refine qeL.s (hO.rows bkV_len bkV_ok) (by omega) (cc _ _ (by omega) hc1) (by have := hk'.1; show H.size < _; omega) (cc _ _ (by omega) hc2) (by have := hk'.1; show H.size + 1 < _; omega) (by omega) (fun b hb => by have := hB.mem hb; omega) ?_
 exact ⟨hk.trans hk', rfl⟩
theorem qbs.s {x0 : Sl} {off n : Int} {ws : List Int} {k : Int → AH → Prop} (hr : qli H x0 1 wU ws) (h64 : qah ws) (hl : ws.length ≤ 1000)
  (h : k (imgHolds ws off n) H) : qbs x0 off n H k := by
 refine gcI (j := .i64) (imgHolds ws off n) (qbs.link ?_) h
 unfold qbs.b imgHolds
 refine qI.s hr h64 hl ?_ ?_
 ·intro l hb s H' hk _
  rw [hb, qlm, qc]
  refine qaZ.s (hr.keep hk) h64 hl hb ?_
  simp only
  by_cases hw : withinN l off n
  ·rw [decide_eq_true hw, qlm, qc, if_pos hw]; exact ⟨hk, rfl⟩
  ·rw [decide_eq_false hw, qlv, qk, if_neg hw]; exact ⟨hk, rfl⟩
 ·intro hb H' hk
  rw [hb, qlv, qk]; exact ⟨hk, rfl⟩
theorem qb6.s {x0 : Sl} {off n : Int} {ws : List Int} {k : Sl → Int → AH → Prop} (hr : qli H x0 1 wU ws) (h64 : qah ws) (hl : ws.length ≤ 1000) (ho : isI off)
  (h : ∀ s H', qa H H' → Own H.size H' s 1 bU (imgRead ws off n).1 → k s (imgRead ws off n).2 H') : qb6 x0 off n H k := by
 unfold isI at ho
 refine qb6.link ?_
 unfold qb6.b
 refine qbs.s hr h64 hl ?_
 unfold imgRead at h
 unfold imgHolds
 cases hb : blocksN ws with
 | none =>
  rw [hb] at h
  exact h _ _ (qa.refl H) (.inl ⟨rfl, rfl⟩)
 | some l =>
  rw [hb] at h
  simp only at h ⊢
  by_cases hw : withinN l off n
  ·rw [if_pos hw] at h ⊢
   refine qbr.s hr h64 (by omega) (by omega) ?_ (fun hn => absurd (qcz (qa0 hb) hw) hn)
   intro _ s H' hk hO
   exact h _ _ hk hO
  ·rw [if_neg hw] at h ⊢
   exact h _ _ (qa.refl H) (.inl ⟨rfl, rfl⟩)
theorem qbS.s {x0 x2 : Sl} {off : Int} {ws bs : List Int} {k : Sl → Int → AH → Prop} (hr : qli H x0 1 wU ws) (h64 : qah ws) (hl : ws.length ≤ 1000) (ho : isI off) (hb : qli H x2 1 bU bs) (h8 : qbW bs)
  (h : ∀ s H', qa H H' → Own H.size H' s 2 eU (imgWrite ws off bs).1 → k s (imgWrite ws off bs).2 H') : qbS x0 off x2 H k := by
 unfold isI at ho
 refine qbS.link ?_
 unfold qbS.b
 rw [hb.1]
 refine qbs.s hr h64 hl ?_
 unfold imgWrite at h
 unfold imgHolds
 cases hbk : blocksN ws with
 | none =>
  rw [hbk] at h
  exact h _ _ (qa.refl H) (.inl ⟨rfl, rfl⟩)
 | some l =>
  rw [hbk] at h
  simp only at h ⊢
  by_cases hw : withinN l off bs.length
  ·rw [if_pos hw] at h ⊢
   refine qV.s hr h64 (by omega) hb h8 (by omega) ?_ (fun hn => absurd (qcz (qa0 hbk) hw) hn)
   intro _ s H' hk hO
   exact h _ _ hk hO
  ·rw [if_neg hw] at h ⊢
   exact h _ _ (qa.refl H) (.inl ⟨rfl, rfl⟩)
end
theorem qi3 (b : Bk) (r : List Bk) : ∀ j, sumTo (b :: r) 0 (j + 1) = b.2.1 + sumTo r 0 j := by
 intro j
 induction j with
 | zero => simp [sumTo, bkAt]
 | succ j ih =>
  rw [sumTo, ih]
  simp only [sumTo, qla]
  have : bkAt (b :: r) (j + 1) = bkAt r j := rfl
  rw [this]; omega
theorem chainB.sum {words : Int} : ∀ {l : List Bk} {pt : Int} {pu : Bool}, chainB words pt pu l → ∀ j, j ≤ l.length → 0 ≤ sumTo l 0 j ∧ pt + sumTo l 0 j ≤ words ∧ (j = l.length → pt + sumTo l 0 j = words) := by
 intro l
 induction l with
 | nil => intro pt pu h j hj; simp only [chainB] at h; simp at hj; subst hj; simp [sumTo]; omega
 | cons b r ih =>
  intro pt pu h j hj
  have hs := h.2.1
  unfold mayS at hs
  cases j with
  | zero => have := ih h.2.2.2.2 0 (by omega); simp [sumTo] at this ⊢; omega
  | succ j =>
   have := ih h.2.2.2.2 j (by simpa using hj)
   rw [qi3]
   refine ⟨by omega, by omega, fun hh => ?_⟩
   have := this.2.2 (by simpa using hh)
   omega
theorem MayB.sum {l : List Bk} {words : Int} (h : MayB l words) {j : Nat} (hj : j ≤ l.length) : 0 ≤ sumTo l 0 j ∧ sumTo l 0 j ≤ 512 := by
 have := h.2.sum j hj
 have := h.len
 omega
theorem qjd (l : List Bk) (F : Nat) : ∀ j, sumTo l 0 (F + j) = sumTo l 0 F + sumTo l F j := by
 intro j
 induction j with
 | zero => simp [sumTo]
 | succ j ih => rw [← Nat.add_assoc]; simp only [sumTo]; rw [ih, qla]; omega
theorem qiQ (l : List Bk) {F n : Nat} (h : F + n ≤ l.length) : ∀ j, j ≤ n → sumTo ((l.drop F).take n) 0 j = sumTo l F j := by
 intro j
 induction j with
 | zero => intro _; rfl
 | succ j ih =>
  intro hj
  simp only [sumTo, qla]
  rw [ih (by omega)]
  congr 2
  unfold bkAt
  rw [qkP, qkP, qlD, if_pos (by omega), qlE]
def takenL (b : Bk) (need : Int) : List Bk := (b.1, takesN b.2.1 need, true) :: (if takesN b.2.1 need < b.2.1 then [(b.1 + takesN b.2.1 need, b.2.1 - takesN b.2.1 need, false)] else [])
def preE (b : Bk) (j : Nat) : List (Int × Int) := if b.2.2 = true then carveTo b.1 b.2.1 j else [(b.1, wordN b.2.1 false)]
def eOf (b : Bk) : List (Int × Int) := preE b b.2.1.toNat
theorem qhJ (b : Bk) (need : Int) : carveE b need = (takenL b need).flatMap eOf := by
 unfold carveE takenL
 rw [qly]
 congr 1
 by_cases h : takesN b.2.1 need < b.2.1
 ·rw [if_pos h, if_pos h]; rfl
 ·rw [if_neg h, if_neg h]; rfl
section
variable {H : AH}
theorem qac.s {x0 : Sl} {l : List Bk} {k : Int → AH → Prop} (hr : qli H x0 3 bkV l) (hl : l.length ≤ 1000) (hm : ∀ b ∈ l, mayS b.2.1) (hs : ∀ j, j ≤ l.length → 0 ≤ sumTo l 0 j ∧ sumTo l 0 j ≤ 512)
  (h : k (sumTo l 0 l.length) H) : qac x0 H k := by
 refine gcI (j := .i64) (sumTo l 0 l.length) (qac.link ?_) h
 unfold qac.b
 refine qL (t := (((0 : Int), (0 : Int), (0 : Int)) : Int × Int × Int)) (I := fun (t : Int × Int × Int) H' => ∃ i : Nat, t.2.2 = (i : Int) ∧ i ≤ l.length ∧ qa H H' ∧ t.2.1 = sumTo l 0 i) (m := fun (t : Int × Int × Int) _ => qkX ((l.length : Int) - t.2.2)) ?_ ⟨0, rfl, by omega, qa.refl H, rfl⟩
 intro t H1 hI it hit
 obtain ⟨t1, pt, t3⟩ := t
 obtain ⟨i, e1, hi, hk, e2⟩ := hI
 simp only at e1 e2
 subst e1 e2
 unfold qac.l2
 simp only [qj, decide_eq_true_eq, hr.1]
 by_cases hlt : (i : Int) < (l.length : Int)
 ·rw [if_pos hlt]
  have hi' : i < l.length := by omega
  obtain ⟨b, o, ha, hb, hcells⟩ := qbM (hr.keep hk) (by omega)
  refine ⟨by omega, ?_⟩
  have hgi := qaF hi'
  obtain ⟨hrow, _⟩ := hcells i _ hgi
  rw [ha, qd, qkS, qs hrow]
  have hmq := hm _ (qkY hgi)
  have hs0 := hs i (by omega)
  have hs1 := hs (i + 1) (by omega)
  have hS : sumTo l 0 (i + 1) = sumTo l 0 i + (bkAt l i).2.1 := by simp only [sumTo, qla]
  generalize bkAt l i = q at *
  refine qbX (n := 3) rfl (bkV_len q) (bkV_ok q) ?_
  have hB : BkAt (H1.push ⟨bkV q, .rw, 0⟩) H1.size q := BkAt.new
  have hk2 : qa H (H1.push ⟨bkV q, .rw, 0⟩) := hk.push _
  generalize H1.push ⟨bkV q, .rw, 0⟩ = H2 at *
  simp only [hB.c1, qg]
  refine qaW.s ?_
  rw [decide_eq_true hmq, if_neg (by simp)]
  unfold qac.j1
  rw [decide_eq_false (show ¬ sumTo l 0 i > 512 by omega), qc, hB.c1, qg, qe (n := sumTo l 0 i + q.2.1) (by omega) (by omega), qe (n := (i : Int) + 1) (by omega) (by omega)]
  exact hit _ _ ⟨i + 1, by simp, by omega, hk2, hS.symm⟩ (by simp only; omega)
 ·rw [if_neg hlt]
  have : i = l.length := by omega
  subst this
  exact ⟨hk, rfl⟩
theorem qar.s {x0 : Sl} {l : List Bk} {k : Int → AH → Prop} (hr : qli H x0 3 bkV l) (hl : l.length ≤ 1000) (hm : ∀ b ∈ l, mayS b.2.1) (hs : ∀ j, j ≤ l.length → 0 ≤ sumTo l 0 j ∧ sumTo l 0 j ≤ 512)
  (h : k (sumTo l 0 l.length) H) : qar x0 H k := by
 refine gcI (j := .i64) (sumTo l 0 l.length) (qar.link ?_) h
 unfold qar.b
 refine qL (t := (((0 : Int), (0 : Int), (0 : Int)) : Int × Int × Int)) (I := fun (t : Int × Int × Int) H' => ∃ i : Nat, t.2.2 = (i : Int) ∧ i ≤ l.length ∧ qa H H' ∧ t.2.1 = sumTo l 0 i) (m := fun (t : Int × Int × Int) _ => qkX ((l.length : Int) - t.2.2)) ?_ ⟨0, rfl, by omega, qa.refl H, rfl⟩
 intro t H1 hI it hit
 obtain ⟨t1, pt, t3⟩ := t
 obtain ⟨i, e1, hi, hk, e2⟩ := hI
 simp only at e1 e2
 subst e1 e2
 unfold qar.l2
 simp only [qj, decide_eq_true_eq, hr.1]
 by_cases hlt : (i : Int) < (l.length : Int)
 ·rw [if_pos hlt]
  have hi' : i < l.length := by omega
  obtain ⟨b, o, ha, hb, hcells⟩ := qbM (hr.keep hk) (by omega)
  refine ⟨by omega, ?_⟩
  have hgi := qaF hi'
  obtain ⟨hrow, _⟩ := hcells i _ hgi
  rw [ha, qd, qkS, qs hrow]
  have hmq := hm _ (qkY hgi)
  have hs0 := hs i (by omega)
  have hs1 := hs (i + 1) (by omega)
  have hS : sumTo l 0 (i + 1) = sumTo l 0 i + (bkAt l i).2.1 := by simp only [sumTo, qla]
  generalize bkAt l i = q at *
  refine qbX (n := 3) rfl (bkV_len q) (bkV_ok q) ?_
  have hB : BkAt (H1.push ⟨bkV q, .rw, 0⟩) H1.size q := BkAt.new
  have hk2 : qa H (H1.push ⟨bkV q, .rw, 0⟩) := hk.push _
  generalize H1.push ⟨bkV q, .rw, 0⟩ = H2 at *
  simp only [hB.c1, qg]
  refine qaW.s ?_
  rw [decide_eq_true hmq, if_neg (by simp)]
  unfold qar.j1
  rw [decide_eq_false (show ¬ sumTo l 0 i > 512 by omega), qc, hB.c1, qg, qe (n := sumTo l 0 i + q.2.1) (by omega) (by omega), qe (n := (i : Int) + 1) (by omega) (by omega)]
  exact hit _ _ ⟨i + 1, by simp, by omega, hk2, hS.symm⟩ (by simp only; omega)
 ·rw [if_neg hlt]
  have : i = l.length := by omega
  subst this
  exact ⟨hk, rfl⟩
theorem MayB.mays {l : List Bk} {words : Int} (hB : MayB l words) : ∀ b ∈ l, mayS b.2.1 := fun b hb => (hB.2.mem b hb).2.2
theorem MayB.tot {l : List Bk} {words : Int} (hB : MayB l words) : sumTo l 0 l.length = words := by
 have := (hB.2.sum l.length (qkV _)).2.2 rfl; omega
theorem qaJ.s {x0 : Sl} {need words : Int} {l : List Bk} {i : Nat} {k : Sl → AH → Prop} (hr : qli H x0 3 bkV l) (hB : MayB l words) (hi : i < l.length) (hu : (bkAt l i).2.2 = false) (hn : 2 ≤ need ∧ need ≤ (bkAt l i).2.1)
  (h : ∀ s H', qa H H' → Own H.size H' s 3 bkV (takenL (bkAt l i) need) → k s H') : qaJ x0 (i : Int) need H k := by
 have hlen := hB.len
 have hgi := qaF hi
 have hm := hB.mem (qkY hgi)
 refine qaJ.link ?_
 unfold qaJ.b
 refine qar.s hr (by omega) hB.mays (fun j hj => hB.sum hj) ?_
 rw [hB.tot]
 refine qQ.s hr (by omega) (fun b hb => by have := hB.mem hb; omega) (by have := hB.1; unfold mayW at this; omega) ?_
 rw [decide_eq_true hB, qlm, qc]
 obtain ⟨b, o, ha, hb, hcells⟩ := qbM hr (by omega)
 obtain ⟨hrow, hcell⟩ := hcells i _ hgi
 have c2 := hcell 2 _ rfl
 generalize bkAt l i = q at *
 have hti : qkX (i : Int) = i := qkS i
 have htk : takesN q.2.1 need ≠ 0 ∧ 2 ≤ takesN q.2.1 need ∧ takesN q.2.1 need ≤ q.2.1 := by
  unfold takesN; rw [if_pos ⟨hn.1, hn.2⟩]; split <;> omega
 simp only [qj, decide_eq_true_eq, hr.1, ha, qd, hti, c2, qa6]
 rw [if_neg (by omega), if_neg (by omega)]
 refine ⟨by omega, ?_⟩
 unfold qaJ.j1
 rw [hu, qc, hr.1]
 refine ⟨by omega, ?_⟩
 simp only [ha, qd, hti]
 rw [qs hrow]
 refine qbX (n := 3) rfl (bkV_len q) (bkV_ok q) ?_
 have hBk : BkAt (H.push ⟨bkV q, .rw, 0⟩) H.size q := BkAt.new
 have hk : qa H (H.push ⟨bkV q, .rw, 0⟩) := (qa.refl H).push _
 have hsz : H.size < (H.push ⟨bkV q, .rw, 0⟩).size := by simp [qi]
 generalize H.push ⟨bkV q, .rw, 0⟩ = H1 at *
 rw [hBk.c1, qg]
 refine qbA.s (by omega) (by omega) ?_
 unfold takenL at h
 generalize takesN q.2.1 need = tk at *
 rw [show (tk == 0) = false by simp [htk.1], qc, hBk.c0, qg]
 refine ⟨rfl, ?_⟩
 rw [qt]
 have e1 : [qkL .i64 q.1, qkL .i64 tk, Value.bool true] = bkV (q.1, tk, true) := rfl
 rw [e1]
 have hO : Own H1.size (H1.push ⟨bkV (q.1, tk, true), .rw, 3⟩) ⟨some ⟨H1.size, 0, none⟩, 1, 1⟩ 3 bkV [(q.1, tk, true)] := .inr ⟨H1.size, rfl, qkV _, by simp [qi], by rw [qp, if_pos rfl]; rfl⟩
 have hk2 : qa H1 (H1.push ⟨bkV (q.1, tk, true), .rw, 3⟩) := (qa.refl H1).push _
 have hB2 : BkAt (H1.push ⟨bkV (q.1, tk, true), .rw, 3⟩) H.size q := hBk.keep (hk2.2 _ hsz)
 generalize H1.push ⟨bkV (q.1, tk, true), .rw, 3⟩ = H2 at *
 simp only [hB2.c1, hB2.c0, qg, qj, decide_eq_true_eq]
 by_cases hc : tk < q.2.1
 ·rw [if_pos hc] at h ⊢
  refine ⟨rfl, ?_⟩
  rw [qt, qe (n := q.1 + tk) (by omega) (by omega), qe (n := q.2.1 - tk) (by omega) (by omega)]
  have e2 : [qkL .i64 (q.1 + tk), qkL .i64 (q.2.1 - tk), Value.bool false] = bkV (q.1 + tk, q.2.1 - tk, false) := rfl
  rw [e2]
  refine qbL (H0 := H1) (B := H1.size) bkV_len (bkV_ok _) hO (qkV _) hk2.1 hk2 (by simp [lim]) ?_
  intro s' H' hO' hk' _ _
  exact h _ _ (hk.trans hk') (qci hO' hk.1)
 ·rw [if_neg hc] at h ⊢
  exact h _ _ (hk.trans hk2) (qci hO hk.1)
end
section
variable {H : AH}
theorem qff (a b : Int) {j : Nat} (hj : 1 ≤ j) : (carveTo a b j).length = j := by unfold carveTo; simp; omega
theorem qT.s {x0 : Sl} {need words : Int} {l : List Bk} {i : Nat} {k : Sl → AH → Prop} (hr : qli H x0 3 bkV l) (hB : MayB l words) (hi : i < l.length) (hu : (bkAt l i).2.2 = false) (hn : 2 ≤ need ∧ need ≤ (bkAt l i).2.1)
  (h : ∀ s H', qa H H' → Own H.size H' s 2 eU (carveE (bkAt l i) need) → k s H') : qT x0 (i : Int) need H k := by
 have hgi := qaF hi
 have hm := hB.mem (qkY hgi)
 have hlen := hB.len
 refine qT.link ?_
 unfold qT.b
 refine qaJ.s hr hB hi hu hn ?_
 intro s14 H14 hk14 hO14
 rw [qhJ] at h
 have hR := hO14.rows bkV_len bkV_ok
 generalize bkAt l i = q at *
 have htk : 2 ≤ takesN q.2.1 need ∧ takesN q.2.1 need ≤ q.2.1 := by
  unfold takesN; rw [if_pos ⟨hn.1, hn.2⟩]; split <;> omega
 have htok : ∀ b ∈ takenL q need, 0 ≤ b.1 ∧ b.1 ≤ 1000 ∧ 1 ≤ b.2.1 ∧ b.2.1 ≤ 512 := by
  intro b hb
  unfold takenL at hb
  rw [List.mem_cons] at hb
  rcases hb with rfl | hb
  ·simp only; omega
  ·split at hb
   ·simp at hb; subst hb; simp only; omega
   ·cases hb
 have htl : (takenL q need).length ≤ 2 := by unfold takenL; split <;> simp
 have eOl : ∀ b ∈ takenL q need, (eOf b).length ≤ 512 := by
  intro b hb
  have := htok b hb
  unfold eOf preE
  split
  ·rw [qff _ _ (by omega)]; omega
  ·simp
 generalize takenL q need = tl at *
 have accl : ∀ j, j ≤ tl.length → ((tl.take j).flatMap eOf).length ≤ 512 * j := by
  intro j
  induction j with
  | zero => intro _; simp
  | succ j ih =>
   intro hj
   have := ih (by omega)
   rw [List.take_succ, qkO (by omega), qmd, qlZ, qlt]
   have := eOl _ (qk5 (show j < tl.length by omega))
   simp only [qly, List.flatMap_nil, List.append_nil]; omega
 refine qL (t := ((⟨none, 0, 0⟩, (0 : Int)) : Sl × Int)) (I := fun (t : Sl × Int) H' => ∃ j : Nat, t.2 = (j : Int) ∧ j ≤ tl.length ∧ qa H14 H' ∧ Own H14.size H' t.1 2 eU ((tl.take j).flatMap eOf)) (m := fun (t : Sl × Int) _ => qkX ((tl.length : Int) - t.2)) ?_ ⟨0, rfl, by omega, qa.refl _, .inl ⟨rfl, by simp⟩⟩
 intro t H1 hI it hit
 obtain ⟨s, t2⟩ := t
 obtain ⟨j, e1, hj, hk, hO⟩ := hI
 simp only at e1 hO
 subst e1
 unfold qT.l3
 simp only [qj, decide_eq_true_eq, hR.1]
 by_cases hlt : (j : Int) < (tl.length : Int)
 ·rw [if_pos hlt]
  have hj' : j < tl.length := by omega
  obtain ⟨b, o, ha, hb, hcells⟩ := qbM (hR.keep hk) (by omega)
  refine ⟨by omega, ?_⟩
  have hg := qkO hj'
  obtain ⟨hrow, _⟩ := hcells j _ hg
  rw [ha, qd, qkS, qs hrow]
  have hq := htok _ (qk5 hj')
  have hacc := accl j (by omega)
  have hnext : (tl.take (j + 1)).flatMap eOf = (tl.take j).flatMap eOf ++ eOf tl[j] := by
   rw [List.take_succ, hg, qmd, qlZ]; simp
  generalize tl[j] = c at *
  generalize (tl.take j).flatMap eOf = acc at *
  refine qbX (n := 3) rfl (bkV_len c) (bkV_ok c) ?_
  have hC : BkAt (H1.push ⟨bkV c, .rw, 0⟩) H1.size c := BkAt.new
  have hk2 : qa H14 (H1.push ⟨bkV c, .rw, 0⟩) := hk.push _
  have hkk : qa H1 (H1.push ⟨bkV c, .rw, 0⟩) := (qa.refl H1).push _
  have hsz : H1.size < (H1.push ⟨bkV c, .rw, 0⟩).size := by simp [qi]
  have hO2 : Own H14.size (H1.push ⟨bkV c, .rw, 0⟩) s 2 eU acc := hO.keep hkk.1 (fun b _ hb => hkk.2 _ hb)
  have hs1 : ∀ a, s.a = some a → a.block < H1.size := by
   intro a ha'
   rcases hO with ⟨rfl, _⟩ | ⟨b', rfl, _, h2, _⟩
   ·cases ha'
   ·simp at ha'; subst ha'; exact h2
  generalize hoo : H1.size = oc at *
  generalize H1.push ⟨bkV c, .rw, 0⟩ = H2 at *
  simp only [hC.c0, hC.c1, hC.c2, qg, qa6]
  refine qbk.s ⟨hC.c0, rfl, ?_⟩
  rw [qt]
  have e1 : [qkL .i64 c.1, qkL .u64 (wordN c.2.1 c.2.2)] = eU (c.1, wordN c.2.1 c.2.2) := rfl
  rw [e1]
  have hpre1 : preE c 1 = [(c.1, wordN c.2.1 c.2.2)] := by
   unfold preE
   by_cases hu : c.2.2 = true
   ·rw [if_pos hu, hu]; rfl
   ·rw [if_neg hu]
    have : c.2.2 = false := by simpa using hu
    rw [this]
  refine qbL (H0 := H14) (B := H14.size) eU_len (eU_ok _) hO2 (qkV _) hk2.1 hk2 (by simp only [lim]; omega) ?_
  intro s30 H30 hO30 hk30 hsz30 hold30
  rw [← hpre1] at hO30
  have hC30 : BkAt H30 oc c := hC.keep (hold30 _ hsz (fun a ha' => by have := hs1 a ha'; omega))
  have hwi : qkM .i64 ((j : Int) + 1) = ((j + 1 : Nat) : Int) := by rw [qe (by omega) (by omega)]; omega
  have fin : ∀ s' H', qa H14 H' → Own H14.size H' s' 2 eU (acc ++ eOf c) → it (s', ((j + 1 : Nat) : Int)) H' := by
   intro s' H' hk' hO'
   rw [← hnext] at hO'
   exact hit _ _ ⟨j + 1, rfl, by omega, hk', hO'⟩ (by simp only; omega)
  refine qL (t := ((s30, (1 : Int)) : Sl × Int)) (I := fun (t : Sl × Int) H' => ∃ m : Nat, t.2 = (m : Int) ∧ 1 ≤ m ∧ (m : Int) ≤ c.2.1 ∧ qa H14 H' ∧ BkAt H' oc c ∧ Own H14.size H' t.1 2 eU (acc ++ preE c m) ∧ oc < H'.size ∧ (∀ a, t.1.a = some a → a.block ≠ oc)) (m := fun (t : Sl × Int) _ => qkX (c.2.1 - t.2)) ?_ ⟨1, rfl, by omega, by omega, hk30, hC30, hO30, by omega, ?_⟩
  rotate_left 1
  ·intro a ha' hab
   rcases hO30 with ⟨e, _⟩ | ⟨b', e, _, h2, h3⟩
   ·simp only at ha'; rw [e] at ha'; cases ha'
   ·simp only at ha'; rw [e] at ha'; simp at ha'; subst ha'
    simp only at hab; subst hab
    obtain ⟨e', he'⟩ := hC30
    rw [he'] at h3
    injection h3 with h3
    have := congrArg qk0 h3
    rw [bkV_len] at this
    simp only [qlZ, qlt] at this
    have e4 : ∀ l : List (Int × Int), (l.flatMap eU).length = 2 * l.length := by
     intro l; induction l with
     | nil => rfl
     | cons a r ih => rw [qly, qlt, ih, eU_len]; simp; omega
    rw [e4, e4] at this; omega
  intro t3 H3 hI3 it3 hit3
  obtain ⟨s3, m3⟩ := t3
  obtain ⟨m, e3, hm1, hm2, hk3, hC3, hO3, hsz3, hne3⟩ := hI3
  simp only at e3 hO3 hne3
  subst e3
  unfold qT.l2
  simp only [hC3.c1, hC3.c2, qg, qa6, qj, decide_eq_true_eq]
  have hpl : (preE c m).length ≤ 512 := by
   unfold preE; split
   ·rw [qff _ _ hm1]; omega
   ·simp
  have stop : ((m : Int) = c.2.1 ∨ c.2.2 = false) → qT.j1 (s, (j : Int)) it oc (s3, (m : Int)) it3 H3 false := by
   intro hh
   unfold qT.j1
   rw [qc, hwi]
   refine fin _ _ hk3 ?_
   have : eOf c = preE c m := by
    unfold eOf
    rcases hh with hh | hh
    ·rw [← hh, qkS]
    ·unfold preE; rw [if_neg (by simp [hh]), if_neg (by simp [hh])]
   rw [this]; exact hO3
  by_cases hml : (m : Int) < c.2.1
  ·rw [if_pos hml]
   by_cases hu : c.2.2 = true
   ·rw [hu]
    unfold qT.j1
    rw [qk, hC3.c0, qg]
    refine ⟨rfl, ?_⟩
    rw [qt, qe (n := c.1 + (m : Int)) (by omega) (by omega), qe (n := (m : Int) + 1) (by omega) (by omega)]
    have e4 : [qkL .i64 (c.1 + (m : Int)), qkL .u64 0] = eU (c.1 + (m : Int), 0) := rfl
    rw [e4]
    refine qbL (H0 := H14) (B := H14.size) eU_len (eU_ok _) hO3 (qkV _) hk3.1 hk3 (by rw [qlt]; simp only [lim]; omega) ?_
    intro s' H' hO' hk' hsz' hold'
    have hpre : preE c m ++ [(c.1 + (m : Int), 0)] = preE c (m + 1) := by
     unfold preE
     rw [if_pos hu, if_pos hu, qe4 _ _ hm1]
    rw [List.append_assoc, hpre] at hO'
    have hC' : BkAt H' oc c := hC3.keep (hold' _ hsz3 (fun a ha' => fun hh => hne3 a ha' hh.symm))
    refine hit3 _ _ ⟨m + 1, by simp, by omega, by omega, hk', hC', hO', by omega, ?_⟩ (by simp only; omega)
    intro a ha' hab
    rcases hO' with ⟨e, _⟩ | ⟨b', e, _, h2, h3⟩
    ·simp only at ha'; rw [e] at ha'; cases ha'
    ·simp only at ha'; rw [e] at ha'; simp at ha'; subst ha'
     simp only at hab; subst hab
     obtain ⟨e', he'⟩ := hC'
     rw [he'] at h3
     injection h3 with h3
     have := congrArg qk0 h3
     rw [bkV_len] at this
     have e4 : ∀ l : List (Int × Int), (l.flatMap eU).length = 2 * l.length := by
      intro l; induction l with
      | nil => rfl
      | cons a r ih => rw [qly, qlt, ih, eU_len]; simp; omega
     rw [e4] at this; omega
   ·have hu' : c.2.2 = false := by simpa using hu
    rw [hu']; exact stop (.inr hu')
  ·rw [if_neg hml]; exact stop (.inl (by omega))
 ·rw [if_neg hlt]
  have : j = tl.length := by omega
  subst this
  rw [qlU] at hO
  exact h _ _ (hk14.trans hk) (qci hO hk14.1)
end
section
variable {H : AH}
theorem qw.s0 {x0 : Sl} {words i : Int} {l : List Bk} {k : Int → Int → Bool → AH → Prop} (hr : qli H x0 3 bkV l) (hB : MayB l words) (hi : i < 0) (h : k 0 0 false H) : qw x0 i H k := by
 have hlen := hB.len
 refine qw.link ?_
 unfold qw.b
 refine qac.s hr (by omega) hB.mays (fun j hj => hB.sum hj) ?_
 rw [hB.tot]
 refine qQ.s hr (by omega) (fun b hb => by have := hB.mem hb; omega) (by have := hB.1; unfold mayW at this; omega) ?_
 rw [decide_eq_true hB, qlm, qc, decide_eq_true hi, qk]
 unfold qw.j4
 rw [qk]
 exact h
theorem qw.s {x0 : Sl} {words : Int} {l : List Bk} {i : Nat} {k : Int → Int → Bool → AH → Prop} (hr : qli H x0 3 bkV l) (hB : MayB l words) (hi : i < l.length) (hu : (bkAt l i).2.2 = true)
  (h : k (mFrom l i : Nat) (mTo l i : Nat) true H) : qw x0 (i : Int) H k := by
 have hlen := hB.len
 have hgi := qaF hi
 refine qw.link ?_
 unfold qw.b
 refine qac.s hr (by omega) hB.mays (fun j hj => hB.sum hj) ?_
 rw [hB.tot]
 refine qQ.s hr (by omega) (fun b hb => by have := hB.mem hb; omega) (by have := hB.1; unfold mayW at this; omega) ?_
 rw [decide_eq_true hB, qlm, qc]
 obtain ⟨b, o, ha, hb, hcells⟩ := qbM hr (by omega)
 have hcell : ∀ j, j < l.length → ∀ t v, (bkV (bkAt l j))[t]? = some v → AH.cell? H (qkN (qkN ⟨b, o, none⟩ (j * 3)) t) = some v := fun j hj => (hcells j _ (qaF hj)).2
 have hti : qkX (i : Int) = i := qkS i
 simp only [qj, decide_eq_true_eq, hr.1, ha, qd, hti, hcell i hi 2 _ rfl, qa6]
 rw [if_neg (by omega), if_neg (by omega)]
 refine ⟨by omega, ?_⟩
 rw [hu]
 unfold qw.j4
 rw [qlm, qc]
 have hw1 : qkM .i64 ((i : Int) + 1) = ((i + 1 : Nat) : Int) := by rw [qe (by omega) (by omega)]; omega
 have hw2 : qkM .i64 (((i + 1 : Nat) : Int) + 1) = ((i + 2 : Nat) : Int) := by rw [qe (by omega) (by omega)]; omega
 have j2 : qw.j2 x0 (i : Int) k H (mFrom l i : Nat) := by
  unfold qw.j2
  simp only [qj, decide_eq_true_eq, hr.1, ha, qd, hw1, qkS]
  have j1 : ∀ x : Bool, (x = true ↔ (i + 1 < l.length ∧ (bkAt l (i + 1)).2.2 = false)) → qw.j1 (i : Int) k H (mFrom l i : Nat) x := by
   intro x hx
   unfold qw.j1
   rw [hw1, hw2, qj]
   unfold mTo at h
   by_cases hx' : x = true
   ·rw [if_pos hx']; rw [if_pos (hx.1 hx')] at h; exact h
   ·rw [if_neg hx']; rw [if_neg (fun hh => hx' (hx.2 hh))] at h; exact h
  by_cases hc : ((i + 1 : Nat) : Int) < (l.length : Int)
  ·rw [if_pos hc]
   refine ⟨by omega, ?_⟩
   rw [hcell (i + 1) (by omega) 2 _ rfl, qa6]
   refine j1 _ ?_
   simp
   omega
  ·rw [if_neg hc]
   exact j1 false ⟨fun hh => (by cases hh), fun hh => by omega⟩
 have j3 : ∀ x : Bool, (x = true ↔ (0 < i ∧ (bkAt l (i - 1)).2.2 = false)) → qw.j3 x0 (i : Int) k H x := by
  intro x hx
  unfold qw.j3
  rw [qj]
  unfold mFrom at j2
  by_cases hx' : x = true
  ·rw [if_pos hx']
   have := hx.1 hx'
   rw [if_pos this] at j2
   rw [qe (n := (i : Int) - 1) (by omega) (by omega), show (i : Int) - 1 = ((i - 1 : Nat) : Int) by omega]
   exact j2
  ·rw [if_neg hx']
   rw [if_neg (fun hh => hx' (hx.2 hh))] at j2
   exact j2
 simp only [qj, decide_eq_true_eq, hr.1, ha, qd]
 by_cases hc : (i : Int) > 0
 ·rw [if_pos hc, qe (n := (i : Int) - 1) (by omega) (by omega), show (i : Int) - 1 = ((i - 1 : Nat) : Int) by omega, qkS]
  refine ⟨by omega, ?_⟩
  rw [hcell (i - 1) (by omega) 2 _ rfl, qa6]
  refine j3 _ ?_
  simp
  omega
 ·rw [if_neg hc]
  exact j3 false ⟨fun hh => (by cases hh), fun hh => by omega⟩
def mEdit (l : List Bk) (i : Nat) : Int × Int := ((bkAt l (mFrom l i)).1, wordN (sumTo l (mFrom l i) (mTo l i - mFrom l i)) false)
theorem qaQ.s0 {x0 : Sl} {words i : Int} {l : List Bk} {k : List Value → Bool → AH → Prop} (hr : qli H x0 3 bkV l) (hB : MayB l words) (hi : i < 0) (h : ∀ H', qa H H' → k (eU (0, 0)) false H') : qaQ x0 i H k := by
 refine qaQ.link ?_
 unfold qaQ.b
 rw [qt]
 have hk : qa H (H.push ⟨[qkL .i64 0, qkL .u64 0], .rw, 0⟩) := (qa.refl H).push _
 refine qw.s0 (hr.keep hk) hB hi ?_
 rw [qlv, qk]
 refine ⟨⟨rfl, rfl⟩, ?_⟩
 rw [qaL]
 refine ⟨qb4.2 (by simp), ?_⟩
 rw [qcP]
 have e1 : setMany [qkL .i64 0, qkL .u64 0] 0 [qkL .i64 0, qkL .u64 0] = eU (0, 0) := rfl
 rw [e1]
 rw [qs (cs := eU (0, 0)) (by simp [AH.row?, qp, eU, qo])]
 exact h _ ((qa.refl H).push _)
theorem qaQ.s {x0 : Sl} {words : Int} {l : List Bk} {i : Nat} {k : List Value → Bool → AH → Prop} (hr : qli H x0 3 bkV l) (hB : MayB l words) (hi : i < l.length) (hu : (bkAt l i).2.2 = true)
  (h : ∀ H', qa H H' → k (eU (mEdit l i)) true H') : qaQ x0 (i : Int) H k := by
 have hlen := hB.len
 refine qaQ.link ?_
 unfold qaQ.b
 rw [qt]
 have hk : qa H (H.push ⟨[qkL .i64 0, qkL .u64 0], .rw, 0⟩) := (qa.refl H).push _
 have hr1 := hr.keep hk
 refine qw.s hr1 hB hi hu ?_
 rw [qlm, qc, hr.1]
 have hF : mFrom l i ≤ i := by unfold mFrom; split <;> omega
 have hT : i < mTo l i ∧ mTo l i ≤ i + 2 ∧ mTo l i ≤ l.length := by unfold mTo; split <;> omega
 refine ⟨by omega, ?_⟩
 obtain ⟨b, o, ha, hb, hcells⟩ := qbM hr1 (by omega)
 have c0 := (hcells (mFrom l i) _ (qaF (by omega))).2 0 _ rfl
 rw [ha, qd, qkS, c0, qg]
 refine ⟨by omega, ?_⟩
 have hpart := qiQ l (F := mFrom l i) (n := mTo l i - mFrom l i) (by omega)
 have hlp : ((l.drop (mFrom l i)).take (mTo l i - mFrom l i)).length = mTo l i - mFrom l i := by simp; omega
 have rp := qf9 (qga hr1 (k := mFrom l i) (by omega)) (k := mTo l i - mFrom l i) (by simp; omega)
 rw [ha] at rp
 simp only [qlg] at rp ⊢
 rw [show (qkX ((mTo l i : Nat) : Int) - mFrom l i) = mTo l i - mFrom l i by rw [qkS]]
 refine qac.s rp (by omega) (fun b hb => hB.mays b (List.mem_of_mem_drop (List.mem_of_mem_take hb))) ?_ ?_
 ·intro j hj
  rw [hlp] at hj
  rw [hpart j hj]
  have h1 := qjd l (mFrom l i) j
  have h2 := hB.sum (j := mFrom l i + j) (by omega)
  have h3 := hB.sum (j := mFrom l i) (by omega)
  have h4 : ∀ j, j ≤ mTo l i - mFrom l i → 0 ≤ sumTo l (mFrom l i) j := by
   intro j
   induction j with
   | zero => intro _; simp [sumTo]
   | succ j ih =>
    intro hj
    have := ih (by omega)
    have := hB.mem (qkY (qaF (l := l) (i := mFrom l i + j) (by omega)))
    simp only [sumTo]; omega
  have := h4 j hj
  omega
 rw [hlp, hpart _ (qkV _)]
 refine ⟨c0, ?_⟩
 refine qbk.s ⟨c0, ⟨rfl, rfl⟩, ?_⟩
 rw [qaL]
 refine ⟨qb4.2 (by simp), ?_⟩
 rw [qcP]
 have e1 : setMany [qkL .i64 0, qkL .u64 0] 0 [qkL .i64 (bkAt l (mFrom l i)).1, qkL .u64 (wordN (sumTo l (mFrom l i) (mTo l i - mFrom l i)) false)] = eU (mEdit l i) := rfl
 rw [e1]
 rw [qs (cs := eU (mEdit l i)) (by simp [AH.row?, qp, eU, qo])]
 exact h _ ((qa.refl H).push _)
theorem qb7.s {x0 : Sl} {off : Int} {ws : List Int} {k : Sl → Int → AH → Prop} (hr : qli H x0 1 wU ws) (h64 : qah ws) (hl : ws.length ≤ 1000)
  (h : ∀ s H', qa H H' → Own H.size H' s 2 eU (imgFree ws off).1 → k s (imgFree ws off).2 H') : qb7 x0 off H k := by
 refine qb7.link ?_
 unfold qb7.b
 unfold imgFree at h
 refine qbH.s hr h64 hl ?_ ?_
 rotate_left 1
 ·intro hb H' hk
  rw [hb] at h
  rw [show ((((0 : Nat) : Int)) == (0 : Int)) = true from rfl, qk]
  exact h _ _ hk (.inl ⟨rfl, rfl⟩)
 intro l hb s12 H12 hk12 hO12
 rw [hb] at h
 simp only at h
 have hB := qa0 hb
 have hlen := hB.len
 have hR := hO12.rows bkV_len bkV_ok
 have hlp : 0 < l.length := by
  cases l with
  | nil => have h1 := hB.1.1; have h2 := hB.2; simp only [chainB] at h2; omega
  | cons a r => simp
 rw [hR.1, show (((l.length : Nat) : Int) == (0 : Int)) = false by simpa using (show l.length ≠ 0 by omega), qc]
 have fin : ∀ (v : Int × Int) (H22 : AH), qa H12 H22 → ∀ bb : Bool, (bb = false → k ⟨none, 0, 0⟩ 1 (H22.push ⟨eU v, .rw, 0⟩)) → (bb = true → ∀ s H', qa H H' → Own H.size H' s 2 eU [v] → k s 0 H') →
   newC H22 ⟨[(qkL .i64 (0 : Int)), (qkL .u64 (0 : Int))], .rw, 0⟩ fun o8 H8 => (qk0 (eU v) = 2 ∧ qlo (eU v) qo = true) ∧ stC H8 ⟨o8, 0, none⟩ (eU v) fun Hs2 => bcase (!bb) (k ⟨none, 0, 0⟩ (1 : Int) Hs2) (ldA Hs2 ⟨o8, 0, none⟩ 2 fun c27 => (qk0 c27 = 2) ∧ newC Hs2 ⟨(setMany [(qkL .i64 (0 : Int)), (qkL .u64 (0 : Int))] 0 c27), .rw, 2⟩ fun o28 H28 => k ⟨(some ⟨o28, 0, none⟩), 1, 1⟩ (0 : Int) H28) := by
  intro v H22 hk22 bb hf ht
  refine qbX (n := 2) rfl (eU_len v) (eU_ok v) ?_
  cases bb with
  | false => exact hf rfl
  | true =>
   rw [qlm, qc, qs (cs := eU v) (by simp [AH.row?, qp, eU, qo])]
   refine ⟨rfl, ?_⟩
   rw [qt]
   have e1 : setMany [qkL .i64 0, qkL .u64 0] 0 (eU v) = eU v := rfl
   rw [e1]
   have hk2 := ((hk12.trans hk22).push ⟨eU v, .rw, 0⟩)
   exact ht rfl _ _ (hk2.push _) (.inr ⟨_, rfl, hk2.1, by simp [qi], by rw [qp, if_pos rfl]; simp⟩)
 rcases qdp off l 0 with hc | ⟨i, hc, hi, hu, ho⟩
 ·rw [hc] at h ⊢
  rw [if_pos (by omega)] at h
  refine qaQ.s0 hR hB (by omega) ?_
  intro H22 hk22
  exact fin (0, 0) H22 hk22 false (fun _ => h _ _ ((hk12.trans hk22).push _) (.inl ⟨rfl, rfl⟩)) (fun hh => by cases hh)
 rw [qla] at hc
 rw [hc] at h ⊢
 rw [if_neg (by omega), qkS] at h
 refine qaQ.s hR hB hi hu ?_
 intro H22 hk22
 exact fin (mEdit l i) H22 hk22 true (fun hh => by cases hh) (fun _ s H' a b => h s H' a b)
theorem qbu.s {x0 x2 : Sl} {n : Int} {ws cs : List Int} {k : Sl → Int → Int → AH → Prop} (hr : qli H x0 1 wU ws) (h64 : qah ws) (hl : ws.length ≤ 1000) (hn : isI n) (hcs : qli H x2 1 iV cs)
  (h : ∀ s H', qa H H' → Own H.size H' s 2 eU (imgAlloc ws n cs).1 → k s (imgAlloc ws n cs).2.1 (imgAlloc ws n cs).2.2 H') : qbu x0 n x2 H k := by
 refine qbu.link ?_
 unfold qbu.b
 unfold imgAlloc at h
 refine qbz.s hn ?_
 rw [qj]
 by_cases h0 : needN n = 0
 ·rw [if_pos (by simpa using h0)]
  rw [if_pos h0] at h
  exact h _ _ (qa.refl H) (.inl ⟨rfl, rfl⟩)
 rw [if_neg (by simpa using h0)]
 rw [if_neg h0] at h
 refine qI.s hr h64 hl ?_ ?_
 rotate_left 1
 ·intro hb H' hk
  rw [hb] at h
  rw [qlv, qk]
  exact h _ _ hk (.inl ⟨rfl, rfl⟩)
 intro l hb s17 H17 hk17 hO17
 rw [hb] at h
 rw [qlm, qc]
 simp only at h
 have hB := qa0 hb
 have hlen := hB.len
 have hR := hO17.rows bkV_len bkV_ok
 refine qas.s hR (by omega) (fun b hb => by have := hB.mem hb; omega) (hcs.keep hk17) ?_
 simp only [qj, decide_eq_true_eq]
 rcases qd6 (l := l) (need := needN n) (cs := cs) with hc | ⟨i, hc, hi, hu, hn1, hn2⟩
 ·rw [if_pos (by omega)]
  rw [if_pos (by omega)] at h
  exact h _ _ hk17 (.inl ⟨rfl, rfl⟩)
 rw [if_neg (by omega)]
 rw [if_neg (by omega)] at h
 rw [hc, qkS] at h ⊢
 rw [hR.1]
 refine ⟨by omega, ?_⟩
 obtain ⟨b, o, ha, hbz, hcells⟩ := qbM hR (by omega)
 have hrow := (hcells i _ (qaF hi)).1
 rw [ha, qd, qs hrow]
 refine qT.s hR hB hi hu ⟨hn2, hn1⟩ ?_
 intro s33 H33 hk33 hO33
 refine ⟨?_, ?_⟩
 ·rw [ql] at hrow ⊢
  rw [← hrow]
  simp only [AH.row?, hk33.2 b hbz]
 refine qaV.s ?_
 exact h _ _ (hk17.trans hk33) (qci hO33 hk17.1)
end
def inc (n : Int) : Int := qkM .i64 (n + 1)
def u64V (n : Int) : Value := .int .u64 n
def i64V (n : Int) : Value := .int .i64 n
def mbit (mask : Int) (i : Nat) : Bool := decide (mask / 2 ^ i % 2 = 1)
def mixL (old now : List Int) (mask : Int) : List Int := (qlw 8).map fun i => if mbit mask i then now.getD i 0 else old.getD i 0
structure Cl where
 line : List Int
 wear : Int
 limit : Int
structure Mem where
 cs : List Cl
 regs : List Int
 writes : Int
 cut : Int
 mask : Int
 down : Bool
def isLine (l : List Int) : Prop := l.length = 8 ∧ ∀ v ∈ l, isU v
structure Mem.ok (M : Mem) : Prop where
 lines : ∀ c ∈ M.cs, isLine c.line
 regs : M.regs.length = 35
 regU : ∀ v ∈ M.regs, isU v
 len : M.cs.length ≤ 200
 cut : -1 ≤ M.cut ∧ M.cut ≤ 9223372036854775807
def Mem.has (M : Mem) (i : Int) : Prop := 0 ≤ i ∧ i < M.cs.length
instance (M : Mem) (i : Int) : Decidable (M.has i) := by unfold Mem.has; infer_instance
def Mem.wr (M : Mem) : Mem :=
 if M.cut = 0 then { M with writes := inc M.writes, down := true }
 else if 0 < M.cut then { M with writes := inc M.writes, cut := M.cut - 1 }
 else { M with writes := inc M.writes }
def Mem.wmask (M : Mem) : Int := if M.cut = 0 then M.mask else -1
def Mem.told (M : Mem) (worn : Bool) : Int := if M.down then 2 else if worn then 3 else 0
def Cl.worn (c : Cl) : Bool := decide (0 ≤ c.limit) && decide (c.limit ≤ c.wear)
def Mem.cl (M : Mem) (i : Nat) : Cl := M.cs.getD i ⟨[], 0, 0⟩
def Mem.setc (M : Mem) (i : Nat) (c : Cl) : Mem := { M with cs := M.cs.set i c }
def Mem.put (M : Mem) (i : Int) (l : List Int) : Mem × Int :=
 if M.has i then
  if M.down then (M, 2) else
  let c := M.cl i.toNat
  if c.worn then (M.wr, M.wr.told true)
  else (M.wr.setc i.toNat ⟨mixL c.line l M.wmask, inc c.wear, c.limit⟩, M.wr.told false)
 else (M, 1)
def Mem.get (M : Mem) (i : Int) : List Int × Int :=
 if M.has i then if M.down then (qkQ 8 0, 2) else ((M.cl i.toNat).line, 0) else (qkQ 8 0, 1)
def regIn (i : Int) : Prop := 0 ≤ i ∧ i < 35
instance (i : Int) : Decidable (regIn i) := by unfold regIn; infer_instance
def Mem.reg (M : Mem) (i : Int) : Int × Int :=
 if regIn i then if M.down then (0, 2) else (M.regs.getD i.toNat 0, 0) else (0, 1)
def Mem.set (M : Mem) (i v : Int) : Mem × Int :=
 if regIn i then
  if M.down then (M, 2) else
  ((if mbit M.wmask 0 then { M.wr with regs := M.regs.set i.toNat v } else M.wr), M.wr.told false)
 else (M, 1)
def Mem.setCut (M : Mem) (n mask : Int) : Mem := { M with cut := max n (-1), mask := mask }
def Mem.power (M : Mem) : Mem := { M with cut := -1, down := false }
def Mem.new (n : Nat) (limits : List Int) : Mem :=
 { cs := (qlw n).map fun i => ⟨qkQ 8 0, 0, limits.getD i (-1)⟩, regs := qkQ 35 0, writes := 0, cut := -1, mask := 0, down := false }
def lineV (l : List Int) : List Value := l.map u64V
def clV (c : Cl) : List Value := lineV c.line ++ [i64V c.wear, i64V c.limit]
def memObj (c : Nat) (M : Mem) : AObj :=
 ⟨[.slice (some ⟨c, 0, none⟩) M.cs.length 1] ++ lineV M.regs ++ [i64V M.writes, i64V M.cut, i64V M.mask, .bool M.down], .rw, 0⟩
def celObj (M : Mem) : AObj := ⟨M.cs.flatMap clV, .rw, 10⟩
structure qv (H : AH) (p c : Nat) (M : Mem) : Prop where
 hp : H.get p = memObj c M
 hc : H.get c = celObj M
 ne : c ≠ p
 lp : p < H.size
 lc : c < H.size
 ok : M.ok
def setM (H : AH) (p c : Nat) (M : Mem) : AH := (H.upd c (celObj M)).upd p (memObj c M)
section
variable {H : AH} {p c : Nat} {M M' : Mem}
theorem qca (b : Nat) : (setM H p c M).get b = if b = p then memObj c M else if b = c then celObj M else H.get b := rfl
theorem qcv {b : Nat} (h : b ≠ p) (h' : b ≠ c) : (setM H p c M).get b = H.get b := by rw [qca, if_neg h, if_neg h']
theorem qv.set (h : qv H p c M) (hok : M'.ok) : qv (setM H p c M') p c M' :=
 ⟨by rw [qca, if_pos rfl], by rw [qca, if_neg h.ne, if_pos rfl], h.ne, h.lp, h.lc, hok⟩
theorem qv.same (h : qv H p c M) : setM H p c M = H := by
 refine AH.ext' rfl fun b => ?_
 rw [qca]
 split
 ·rename_i e; rw [e, h.hp]
 ·split
  ·rename_i e; rw [e, h.hc]
  ·rfl
theorem qb8 : setM (setM H p c M) p c M' = setM H p c M' := by
 refine AH.ext' rfl fun b => ?_
 simp only [qca]
 split
 ·rfl
 ·split <;> rfl
theorem qv.keep {H' : AH} (h : qv H p c M) (hs : H.size ≤ H'.size) (h1 : H'.get p = H.get p) (h2 : H'.get c = H.get c) : qv H' p c M :=
 ⟨by rw [h1, h.hp], by rw [h2, h.hc], h.ne, by have := h.lp; omega, by have := h.lc; omega, h.ok⟩
theorem qv.keeps {H' : AH} (h : qv H p c M) (hk : qa H H') : qv H' p c M := h.keep hk.1 (hk.2 _ h.lp) (hk.2 _ h.lc)
theorem qv.push (h : qv H p c M) (o : AObj) : qv (H.push o) p c M := h.keeps ((qa.refl H).push o)
theorem qfH (l : List Int) : (lineV l).all flatC = true := by simp [lineV, u64V, flatC]
theorem qg3 {n : Nat} {v : Value} (h : flatC v = true) : lowV n v = true := by
 unfold lowV
 split
 ·simp [flatC] at h
 ·rename_i b o m k
  unfold flatC at h
  split at h <;> first | (rename_i heq; cases heq; done) | cases h
 ·exact h
theorem qv.at {H' : AH} (h : qv H p c M) (hk : ∀ b, b < H.size → H'.get b = (setM H p c M').get b) : At H H' (setM H p c M') := by
 refine ⟨rfl, hk, fun b hb => ?_, fun b hb => ?_⟩
 ·rw [qcv (by have := h.lp; omega) (by have := h.lc; omega)]
 ·rw [qca]
  split
  ·right
   simp only [memObj, List.all_append, Bool.and_eq_true]
   refine ⟨⟨by simp [lowV, h.lc], ?_⟩, by simp [lowV, flatC, i64V]⟩
   exact List.all_eq_true.2 fun v hv => qg3 (List.all_eq_true.1 (qfH _) v hv)
  ·split
   ·right
    refine List.all_eq_true.2 fun v hv => qg3 ?_
    simp only [celObj, List.mem_flatMap, clV] at hv
    obtain ⟨x, _, hv⟩ := hv
    rcases List.mem_append.1 hv with hv | hv
    ·exact List.all_eq_true.1 (qfH _) v hv
    ·simp at hv; rcases hv with rfl | rfl <;> rfl
   ·exact .inl rfl
theorem qje : (memObj c M).md = .rw := rfl
theorem qv.cell (h : qv H p c M) (i : Nat) : AH.cell? H ⟨p, i, none⟩ = (memObj c M).cells[i]? := by
 simp only [AH.cell?, h.hp, qk7, qkW, if_false]
 rw [if_neg (by simp [qje])]
theorem qv.c0 (h : qv H p c M) : AH.cell? H (qkN ⟨p, 0, none⟩ 0) = some (.slice (some ⟨c, 0, none⟩) M.cs.length 1) := by
 rw [ql, h.cell]
 exact rfl
theorem qv.cr (h : qv H p c M) {i : Nat} (hi : i < 35) : AH.cell? H ⟨p, 1 + i, none⟩ = some (.int .u64 (M.regs.getD i 0)) := by
 rw [h.cell]
 have hl : i < M.regs.length := by rw [h.ok.regs]; exact hi
 simp only [memObj, lineV, List.singleton_append]
 rw [Nat.add_comm, qlr, qlx, qll (by simpa using hl), qkZ, qkO hl, qlg, qkP, qkO hl]
 rfl
theorem qeo (hr : M.regs.length = 35) (i : Nat) : (memObj c M).cells[36 + i]? = [i64V M.writes, i64V M.cut, i64V M.mask, .bool M.down][i]? := by
 simp only [memObj, lineV]
 rw [qld (by simp [hr] <;> omega)]
 congr 1
 simp [hr]
theorem qv.c36 (h : qv H p c M) : AH.cell? H (qkN ⟨p, 0, none⟩ 36) = some (.int .i64 M.writes) := by
 rw [ql, h.cell]; exact qeo h.ok.regs 0
theorem qv.c37 (h : qv H p c M) : AH.cell? H (qkN ⟨p, 0, none⟩ 37) = some (.int .i64 M.cut) := by
 rw [ql, h.cell]; exact qeo h.ok.regs 1
theorem qv.c38 (h : qv H p c M) : AH.cell? H (qkN ⟨p, 0, none⟩ 38) = some (.int .i64 M.mask) := by
 rw [ql, h.cell]; exact qeo h.ok.regs 2
theorem qv.c39 (h : qv H p c M) : AH.cell? H (qkN ⟨p, 0, none⟩ 39) = some (.bool M.down) := by
 rw [ql, h.cell]; exact qeo h.ok.regs 3
theorem mem_len (hr : M.regs.length = 35) : (memObj c M).cells.length = 40 := by simp [memObj, lineV, hr]
theorem qv.can (h : qv H p c M) {i : Nat} (hi : i < 40) : AH.canPut H (qkN ⟨p, 0, none⟩ i) 1 := by
 rw [ql]
 exact ⟨rfl, congrArg AObj.md h.hp, by rw [h.hp, mem_len h.ok.regs] <;> simp <;> omega⟩
theorem qdn (hr : M.regs.length = 35) (i : Nat) (v : Value) (hi : i < 4) :
  (memObj c M).cells.set (36 + i) v = [.slice (some ⟨c, 0, none⟩) M.cs.length 1] ++ lineV M.regs ++ [i64V M.writes, i64V M.cut, i64V M.mask, .bool M.down].set i v := by
 simp only [memObj]
 rw [List.set_append_right _ _ (by simp [lineV, hr] <;> omega)]
 congr 2
 simp [lineV, hr]
theorem qv.upd (h : qv H p c M) {i : Nat} {v : Value} (hM : (memObj c M).cells.set i v = (memObj c M').cells) (hcs : celObj M' = celObj M) :
  AH.put H (qkN ⟨p, 0, none⟩ i) [v] = setM H p c M' := by
 rw [ql]
 refine AH.ext' rfl fun b => ?_
 simp only [AH.put, qA, qca, setMany, qla]
 split
 ·rw [h.hp, hM]; rfl
 ·split
  ·rename_i e; rw [e, h.hc, hcs]
  ·rfl
theorem qv.p36 (h : qv H p c M) (v : Int) : AH.put H (qkN ⟨p, 0, none⟩ 36) [.int .i64 v] = setM H p c { M with writes := v } :=
 h.upd (by rw [qdn (i := 0) h.ok.regs _ (by omega)]; rfl) rfl
theorem qv.p37 (h : qv H p c M) (v : Int) : AH.put H (qkN ⟨p, 0, none⟩ 37) [.int .i64 v] = setM H p c { M with cut := v } :=
 h.upd (by rw [qdn (i := 1) h.ok.regs _ (by omega)]; rfl) rfl
theorem qv.p38 (h : qv H p c M) (v : Int) : AH.put H (qkN ⟨p, 0, none⟩ 38) [.int .i64 v] = setM H p c { M with mask := v } :=
 h.upd (by rw [qdn (i := 2) h.ok.regs _ (by omega)]; rfl) rfl
theorem qv.p39 (h : qv H p c M) (v : Bool) : AH.put H (qkN ⟨p, 0, none⟩ 39) [.bool v] = setM H p c { M with down := v } :=
 h.upd (by rw [qdn (i := 3) h.ok.regs _ (by omega)]; rfl) rfl
theorem qv.pr (h : qv H p c M) {i : Nat} (hi : i < 35) (v : Int) : AH.put H (qkN ⟨p, 0, none⟩ (1 + i)) [.int .u64 v] = setM H p c { M with regs := M.regs.set i v } := by
 refine h.upd ?_ rfl
 have hl : i < M.regs.length := by rw [h.ok.regs]; exact hi
 simp only [memObj, lineV, List.singleton_append, qlr]
 rw [Nat.add_comm, List.set_cons_succ, List.set_append_left _ _ (by simpa using hl), List.map_set]
 rfl
end
section
variable {H : AH} {p c : Nat} {M : Mem} {i : Int}
theorem stC_to {H H' : AH} {a : Addr} {vs : List Value} {k : AH → Prop} (h1 : H.canPut a vs.length) (h2 : H.put a vs = H') (h3 : k H') : stC H a vs k := ⟨h1, by rw [h2]; exact h3⟩
theorem qfF {b i n : Nat} (h : b ≠ p) (h' : b ≠ c) : AH.row? (setM H p c M) ⟨b, i, none⟩ n = AH.row? H ⟨b, i, none⟩ n := by
 simp only [AH.row?, qcv h h']
theorem cl_get (hi : M.has i) : M.cs[i.toNat]? = some (M.cl i.toNat) := by
 unfold Mem.has at hi
 have hl : i.toNat < M.cs.length := by omega
 unfold Mem.cl
 rw [qkP, qkO hl, qln]
theorem cl_mem (hi : M.has i) : M.cl i.toNat ∈ M.cs := qkY (cl_get hi)
theorem clV_len {x : Cl} (h : isLine x.line) : (clV x).length = 10 := by simp [clV, lineV, h.1]
theorem qdX {α : Type} {f : α → List Value} {z : Nat} : ∀ {l : List α}, (∀ x ∈ l, (f x).length = z) → (l.flatMap f).length = l.length * z := by
 intro l
 induction l with
 | nil => intro _; simp
 | cons a l ih => intro h; simp [ih (fun x hx => h x (by simp [hx])), h a (by simp), Nat.succ_mul, Nat.add_comm]
theorem qeK {α : Type} {f : α → List Value} {z : Nat} : ∀ {l : List α} (_ : ∀ x ∈ l, (f x).length = z) (i : Nat) (x : α), l[i]? = some x → ((l.flatMap f).drop (i * z)).take z = f x := by
 intro l
 induction l with
 | nil => intro _ i x h; simp at h
 | cons a l ih =>
  intro hf i x h
  cases i with
  | zero =>
   simp only [List.getElem?_cons_zero, qlV] at h
   subst h
   simp only [Nat.zero_mul, ql1, qly]
   rw [List.take_append_of_le_length (by rw [hf a (by simp)]; exact qkV _), ← hf a (by simp), qlU]
  | succ i =>
   simp only [qlx] at h
   rw [← ih (fun x hx => hf x (by simp [hx])) i x h, qly, Nat.succ_mul, Nat.add_comm, ← List.drop_drop]
   congr 2
   rw [← hf a (by simp), List.drop_left]
theorem qg4 {α : Type} {f : α → List Value} {z : Nat} {j : Nat} {vs : List Value} (hj : j + vs.length ≤ z) : ∀ {l : List α} (_ : ∀ x ∈ l, (f x).length = z) (i : Nat) (x y : α), l[i]? = some x → f y = setMany (f x) j vs →
  setMany (l.flatMap f) (i * z + j) vs = (l.set i y).flatMap f := by
 intro l hf i x y hx hy
 apply qlb
 intro t
 have hlen := qdX hf
 have hlt : i < l.length := (List.getElem?_eq_some_iff.1 hx).1
 have hle : i * z + z ≤ l.length * z := by
  calc i * z + z = (i + 1) * z := by rw [Nat.succ_mul]
   _ ≤ l.length * z := qlT _ hlt
 have hfy : (f y).length = z := by rw [hy, qdg, hf x (qkY hx)]
 have hf' : ∀ x ∈ l.set i y, (f x).length = z := by
  intro x' hx'
  rcases qlP hx' with h | rfl
  ·exact hf _ h
  ·exact hfy
 rw [qbG _ _ _ _ (by omega)]
 have cellOf : ∀ {l : List α}, (∀ x ∈ l, (f x).length = z) → ∀ q r x, l[q]? = some x → r < z → (l.flatMap f)[q * z + r]? = (f x)[r]? := by
  intro l hl q r x hq hr
  have := qeK hl q x hq
  rw [← this, qlD, if_pos hr, qlE]
 by_cases hz : z = 0
 ·subst hz
  have e1 : (l.flatMap f).length = 0 := by rw [hlen]; omega
  have e2 : ((l.set i y).flatMap f).length = 0 := by rw [qdX hf']; omega
  rw [qkT (by omega : ((l.set i y).flatMap f).length ≤ t), qkT (by omega : (l.flatMap f).length ≤ t)]
  rw [if_neg (by omega)]
 ·have ht : t = t / z * z + t % z := by rw [Nat.mul_comm]; exact (Nat.div_add_mod t z).symm
  have hr : t % z < z := Nat.mod_lt _ (by omega)
  generalize t / z = q at ht
  generalize t % z = r at ht hr
  subst ht
  by_cases hq : q < l.length
  ·by_cases hqi : q = i
   ·subst hqi
    rw [cellOf hf' q r y (by rw [qlu hlt]) hr, hy, qbG _ _ _ _ (by rw [hf x (qkY hx)]; exact hj)]
    by_cases h1 : j ≤ r ∧ r < j + vs.length
    ·rw [if_pos h1, if_pos (by omega)]; congr 1; omega
    ·rw [if_neg h1, if_neg (by omega), cellOf hf q r x hx hr]
   ·have hne : ¬ (i * z + j ≤ q * z + r ∧ q * z + r < i * z + j + vs.length) := by
     intro ⟨h1, h2⟩
     rcases Nat.lt_or_gt_of_ne hqi with h | h
     ·have : (q + 1) * z ≤ i * z := qlT _ h
      rw [Nat.succ_mul] at this; omega
     ·have : (i + 1) * z ≤ q * z := qlT _ h
      rw [Nat.succ_mul] at this; omega
    rw [if_neg hne, cellOf hf q r l[q] (qkO hq) hr, cellOf hf' q r l[q] (by rw [qle (by omega), qkO hq]) hr]
  ·have : l.length * z ≤ q * z := qlT _ (by omega)
   rw [if_neg (by omega), qkT (by omega), qkT (by rw [qdX hf', List.length_set]; omega)]
theorem qv.cell_c (h : qv H p c M) (hi : M.has i) {j : Nat} (hj : j < 10) : AH.cell? H (qkN (qkN ⟨c, 0, none⟩ (i.toNat * 10)) j) = (clV (M.cl i.toNat))[j]? := by
 rw [ql, ql, qla]
 simp only [AH.cell?, h.hc, qk7, qkW, if_false, celObj]
 rw [if_neg (by simp)]
 rw [← qeK (fun x hx => clV_len (h.ok.lines x hx)) i.toNat _ (cl_get hi), qlD, if_pos hj, qlE]
theorem qv.c8 (h : qv H p c M) (hi : M.has i) : AH.cell? H (qkN (qkN ⟨c, 0, none⟩ (i.toNat * 10)) 8) = some (.int .i64 (M.cl i.toNat).wear) := by
 rw [h.cell_c hi (by omega)]
 simp only [clV]
 rw [qld (by simp [lineV, (h.ok.lines _ (cl_mem hi)).1])]
 simp [lineV, (h.ok.lines _ (cl_mem hi)).1, i64V]
theorem qv.c9 (h : qv H p c M) (hi : M.has i) : AH.cell? H (qkN (qkN ⟨c, 0, none⟩ (i.toNat * 10)) 9) = some (.int .i64 (M.cl i.toNat).limit) := by
 rw [h.cell_c hi (by omega)]
 simp only [clV]
 rw [qld (by simp [lineV, (h.ok.lines _ (cl_mem hi)).1])]
 simp [lineV, (h.ok.lines _ (cl_mem hi)).1, i64V]
theorem qv.cl_le (h : qv H p c M) (hi : M.has i) : i.toNat * 10 + 10 ≤ (celObj M).cells.length := by
 simp only [celObj]
 rw [qdX (fun x hx => clV_len (h.ok.lines x hx))]
 unfold Mem.has at hi
 omega
theorem qai (l : List Int) : (lineV l).all qo = true := by simp [lineV, u64V, qo]
theorem qv.row_c (h : qv H p c M) (hi : M.has i) : AH.row? H (qkN (qkN ⟨c, 0, none⟩ (i.toNat * 10)) 0) 8 = some (lineV (M.cl i.toNat).line) := by
 rw [ql, ql, qla, Nat.add_zero]
 have hr := qeK (fun x hx => clV_len (h.ok.lines x hx)) i.toNat _ (cl_get hi)
 have hl := (h.ok.lines _ (cl_mem hi)).1
 have h8 : (((celObj M).cells.drop (i.toNat * 10)).take 8) = lineV (M.cl i.toNat).line := by
  have : (((celObj M).cells.drop (i.toNat * 10)).take 8) = ((((celObj M).cells.drop (i.toNat * 10)).take 10).take 8) := by rw [List.take_take]; rfl
  rw [this]
  simp only [celObj] at hr ⊢
  rw [hr, clV, List.take_append_of_le_length (by simp [lineV, hl]), qlH (by simp [lineV, hl])]
 have hle := h.cl_le hi
 simp only [AH.row?, h.hc, qk7, qkW, if_false]
 rw [if_neg (by simp [celObj]), h8, if_pos ⟨by omega, qai _⟩]
theorem qv.can_c (h : qv H p c M) (hi : M.has i) {j n : Nat} (hj : j + n ≤ 10) : AH.canPut H (qkN (qkN ⟨c, 0, none⟩ (i.toNat * 10)) j) n := by
 rw [ql, ql, qla]
 have hle := h.cl_le hi
 exact ⟨rfl, congrArg AObj.md h.hc, by rw [h.hc]; simp only; omega⟩
theorem qv.put_c (h : qv H p c M) (hi : M.has i) {j : Nat} {vs : List Value} {x : Cl} (hj : j + vs.length ≤ 10) (hx : clV x = setMany (clV (M.cl i.toNat)) j vs) :
  AH.put H (qkN (qkN ⟨c, 0, none⟩ (i.toNat * 10)) j) vs = setM H p c (M.setc i.toNat x) := by
 rw [ql, ql, qla]
 have hs := qg4 hj (fun x hx => clV_len (h.ok.lines x hx)) i.toNat _ x (cl_get hi) hx
 refine AH.ext' rfl fun b => ?_
 simp only [AH.put, qA, qca]
 have hm : memObj c (M.setc i.toNat x) = memObj c M := by simp [memObj, Mem.setc]
 by_cases hbc : b = c
 ·subst hbc
  rw [if_pos rfl, if_neg h.ne, if_pos rfl, h.hc]
  simp only [celObj, hs]
  rfl
 ·rw [if_neg hbc]
  by_cases hbp : b = p
  ·subst hbp; rw [if_pos rfl, hm, h.hp]
  ·rw [if_neg hbp, if_neg hbc]
theorem qj9 {x : Cl} {l : List Int} (hx : isLine x.line) (hl : isLine l) : clV { x with line := l } = setMany (clV x) 0 (lineV l) := by
 apply qlb
 intro t
 rw [qbG _ _ _ _ (by rw [clV_len hx]; simp [lineV, hl.1])]
 simp only [clV]
 by_cases h : t < 8
 ·rw [if_pos (by simp [lineV, hl.1]; omega), qll (by simp [lineV, hl.1]; omega)]; rfl
 ·rw [if_neg (by simp [lineV, hl.1]; omega), qld (by simp [lineV, hl.1]; omega), qld (by simp [lineV, hx.1]; omega)]
  simp [lineV, hl.1, hx.1]
theorem qkf {x : Cl} {v : Int} (hx : isLine x.line) : clV { x with wear := v } = setMany (clV x) 8 [.int .i64 v] := by
 simp only [setMany, clV]
 rw [List.set_append_right _ _ (by simp [lineV, hx.1])]
 simp [lineV, hx.1, i64V]
end
theorem Mem.wr_ok {M : Mem} (h : M.ok) : M.wr.ok := by
 have := h.cut
 unfold Mem.wr
 split
 ·exact ⟨h.lines, h.regs, h.regU, h.len, h.cut⟩
 ·split
  ·exact ⟨h.lines, h.regs, h.regU, h.len, by simp only; omega⟩
  ·exact ⟨h.lines, h.regs, h.regU, h.len, h.cut⟩
theorem Mem.wr_cs {M : Mem} : M.wr.cs = M.cs := by
 unfold Mem.wr; split
 ·rfl
 ·split <;> rfl
theorem Mem.wr_regs {M : Mem} : M.wr.regs = M.regs := by
 unfold Mem.wr; split
 ·rfl
 ·split <;> rfl
theorem Mem.wr_has {M : Mem} {i : Int} : M.wr.has i ↔ M.has i := by unfold Mem.has; rw [Mem.wr_cs]
theorem Mem.wr_cl {M : Mem} {i : Nat} : M.wr.cl i = M.cl i := by unfold Mem.cl; rw [Mem.wr_cs]
theorem Mem.setc_has {M : Mem} {i : Int} {j : Nat} {x : Cl} : (M.setc j x).has i ↔ M.has i := by simp [Mem.has, Mem.setc]
theorem Mem.setc_ok {M : Mem} (h : M.ok) {i : Nat} {x : Cl} (hx : isLine x.line) : (M.setc i x).ok := by
 refine ⟨?_, h.regs, h.regU, by simpa [Mem.setc] using h.len, h.cut⟩
 intro y hy
 rcases qlP hy with h' | rfl
 ·exact h.lines y h'
 ·exact hx
theorem Mem.setc_setc {M : Mem} {i : Nat} {x y : Cl} : (M.setc i x).setc i y = M.setc i y := by simp [Mem.setc, List.set_set]
theorem Mem.setc_cl {M : Mem} {i : Int} {x : Cl} (hi : M.has i) : (M.setc i.toNat x).cl i.toNat = x := by
 unfold Mem.has at hi
 have : i.toNat < M.cs.length := by omega
 simp [Mem.cl, Mem.setc, qkP, this]
theorem qeU {old now : List Int} {mask : Int} (h : isLine old) (h' : isLine now) : isLine (mixL old now mask) := by
 refine ⟨by simp [mixL], fun v hv => ?_⟩
 simp only [mixL, qlk, qlC] at hv
 obtain ⟨i, hi, rfl⟩ := hv
 split
 ·rw [qkP, qkO (by rw [h'.1]; exact hi)]
  exact h'.2 _ (qk5 _)
 ·rw [qkP, qkO (by rw [h.1]; exact hi)]
  exact h.2 _ (qk5 _)
theorem qaH : isLine (qkQ 8 0) := ⟨rfl, fun v hv => by rw [List.eq_of_mem_replicate hv]; unfold isU; omega⟩
theorem and1 (x : Int) : andI .i64 x 1 = x % 2 := by
 have h0 : andI .i64 x 1 = qkM .i64 ((qlz 64 x &&& qlz 64 1).toNat : Int) := rfl
 have h1 : (qlz 64 x &&& qlz 64 1) = BitVec.ofNat 64 ((x % 2).toNat) := by
  apply BitVec.eq_of_getLsbD_eq
  intro i hi
  have e1 : (qlz 64 1) = 1#64 := rfl
  rw [BitVec.getLsbD_and, e1]
  have hx : (qlz 64 x).toNat = (x % 18446744073709551616).toNat := by simp [BitVec.toNat_ofInt]
  rcases Nat.eq_zero_or_pos i with rfl | hpos
  ·simp only [BitVec.getLsbD_one, BitVec.getLsbD_ofNat]
   simp only [BitVec.getLsbD, hx, Nat.testBit_zero]
   have : (x % 18446744073709551616).toNat % 2 = (x % 2).toNat % 2 := by omega
   simp [this]
  ·have : (BitVec.getLsbD 1#64 i) = false := by simp [BitVec.getLsbD_one]; omega
   rw [this, Bool.and_false, BitVec.getLsbD_ofNat]
   have h2 : (x % 2).toNat < 2 ^ i := by
    have : 2 ≤ 2 ^ i := by calc 2 = 2 ^ 1 := rfl
     _ ≤ 2 ^ i := Nat.pow_le_pow_right (by omega) hpos
    omega
   rw [Nat.testBit_lt_two_pow h2, Bool.and_false]
 rw [h0, h1]
 rw [BitVec.toNat_ofNat]
 rw [Nat.mod_eq_of_lt (by omega)]
 have : ((x % 2).toNat : Int) = x % 2 := by omega
 rw [this, qe (by omega) (by omega)]
theorem shr_bit (x : Int) (i : Nat) (h : i ≤ 64) : shrI .i64 x (i : Int) = x / 2 ^ i := by
 unfold shrI
 rw [show min ((i : Int).toNat) (qlI .i64) = i from by simp [qlI]; omega]
 rw [Int.fdiv_eq_ediv_of_nonneg _ (Int.pow_nonneg (by omega))]
theorem mbit_eq (x : Int) (i : Nat) (h : i ≤ 64) : (andI .i64 (shrI .i64 x (i : Int)) 1 == 1) = mbit x i := by
 rw [and1, shr_bit _ _ h, mbit]
 by_cases hh : x / 2 ^ i % 2 = 1
 ·simp [hh]
 ·simp [hh]
theorem mbit0 (x : Int) : (andI .i64 x 1 == 1) = mbit x 0 := by
 rw [and1, mbit]
 by_cases hh : x % 2 = 1 <;> simp [hh]
theorem qhu (i : Nat) (h : i < 64) : mbit (-1) i = true := by
 unfold mbit
 have hpos : (0 : Int) < 2 ^ i := Int.pow_pos (by omega)
 have : (-1 : Int) / 2 ^ i = -1 := by
  rw [Int.neg_one_ediv]
  rw [Int.sign_eq_one_of_pos hpos]
 simp [this]
theorem qky {old now : List Int} (h : now.length = 8) : mixL old now (-1) = now := by
 apply qlb
 intro i
 by_cases hi : i < 8
 ·simp only [mixL, qkZ, qlc hi, qlg]
  rw [qhu i (by omega), if_pos rfl, qkP, qkO (by omega), qln]
 ·rw [qkT (by simp [mixL]; omega), qkT (by omega)]
section
variable {H : AH} {p c : Nat} {M : Mem} {i : Int}
theorem qP.s {k : Int → AH → Prop} (hm : qv H p c M) (h : k M.cs.length H) : qP (some ⟨p, 0, none⟩) H k := by
 refine qP.link ?_
 simp only [qP.b, qk1, qd, hm.c0, qaT, qj, qkW, if_false]
 exact h
theorem qaO.s {k : Bool → AH → Prop} (hm : qv H p c M) (h : k (decide (M.has i)) H) : qaO (some ⟨p, 0, none⟩) i H k := by
 refine qaO.link ?_
 simp only [qaO.b, qj, decide_eq_true_eq, ge_iff_le]
 by_cases h0 : 0 ≤ i
 ·rw [if_pos h0]
  refine qP.s hm ?_
  rw [show decide (i < (M.cs.length : Int)) = decide (M.has i) from decide_eq_decide.2 (by unfold Mem.has; omega)]
  exact h
 ·rw [if_neg h0]
  rw [show decide (M.has i) = false from decide_eq_false (by unfold Mem.has; omega)] at h
  exact h
theorem qaq.s {k : Bool → AH → Prop} {a : Addr} (h : k (decide (regIn i)) H) : qaq (some a) i H k := by
 refine qaq.link ?_
 simp only [qaq.b, qj, qk1, qlv, if_true, decide_eq_true_eq, ge_iff_le]
 by_cases h0 : 0 ≤ i
 ·rw [if_pos h0, show decide (i < 35) = decide (regIn i) from decide_eq_decide.2 (by unfold regIn; omega)]; exact h
 ·rw [if_neg h0]; rw [show decide (regIn i) = false from decide_eq_false (by unfold regIn; omega)] at h; exact h
theorem qaw.s {k : Int → AH → Prop} (hm : qv H p c M) (h : k M.wmask (setM H p c M.wr)) : qaw (some ⟨p, 0, none⟩) H k := by
 refine qaw.link ?_
 have h1 : qv (setM H p c { M with writes := inc M.writes }) p c { M with writes := inc M.writes } := hm.set ⟨hm.ok.lines, hm.ok.regs, hm.ok.regU, hm.ok.len, hm.ok.cut⟩
 have h2 : qv (setM H p c { M with writes := inc M.writes, down := true }) p c { M with writes := inc M.writes, down := true } := hm.set ⟨hm.ok.lines, hm.ok.regs, hm.ok.regU, hm.ok.len, hm.ok.cut⟩
 have hc := hm.ok.cut
 have hw : qkM .i64 (M.writes + 1) = inc M.writes := rfl
 simp only [qaw.b, qd, hm.c36, qg, qaL, hm.can (i := 36) (by omega), hw, qk3, qlL, true_and, hm.p36, h1.c37, qj, beq_iff_eq, h1.can (i := 39) (by omega), h1.p39, h2.c38, decide_eq_true_eq, gt_iff_lt, h1.can (i := 37) (by omega), h1.p37, qb8]
 unfold Mem.wmask Mem.wr at h
 by_cases h0 : M.cut = 0
 ·rw [if_pos h0] at h ⊢
  rw [if_pos h0] at h
  exact h
 ·rw [if_neg h0] at h ⊢
  rw [if_neg h0] at h
  by_cases h3 : 0 < M.cut
  ·rw [if_pos h3] at h ⊢
   rw [qe (by omega) (by omega)]
   exact h
  ·rw [if_neg h3] at h ⊢
   exact h
theorem qan.s {k : Int → AH → Prop} {w : Bool} (hm : qv H p c M) (h : k (M.told w) H) : qan (some ⟨p, 0, none⟩) w H k := by
 refine qan.link ?_
 simp only [qan.b, qd, hm.c39, qa6, qj]
 unfold Mem.told at h
 split <;> simp_all
 split <;> simp_all
theorem qap.s {k : Int → AH → Prop} (hm : qv H p c M) (h : k M.writes H) : qap (some ⟨p, 0, none⟩) H k := by
 refine qap.link ?_
 simp only [qap.b, qk1, qd, hm.c36, qg, qj, qkW, if_false]
 exact h
theorem qW.s {k : Bool → AH → Prop} (hm : qv H p c M) (h : k M.down H) : qW (some ⟨p, 0, none⟩) H k := by
 refine qW.link ?_
 simp only [qW.b, qk1, qlv, if_true, qd, hm.c39, qa6, qj]
 exact h
theorem Mem.setCut_ok (h : M.ok) {n mask : Int} (hn : n ≤ 9223372036854775807) : (M.setCut n mask).ok :=
 ⟨h.lines, h.regs, h.regU, h.len, by simp only [Mem.setCut]; omega⟩
theorem qaB.s {k : AH → Prop} {n mask : Int} (hm : qv H p c M) (hn : n ≤ 9223372036854775807) (h : k (setM H p c (M.setCut n mask))) : qaB (some ⟨p, 0, none⟩) n mask H k := by
 refine qaB.link ?_
 have e : (if (-1 : Int) > n then (-1 : Int) else n) = max n (-1) := by split <;> omega
 have h1 : qv (setM H p c { M with cut := max n (-1) }) p c { M with cut := max n (-1) } := hm.set ⟨hm.ok.lines, hm.ok.regs, hm.ok.regU, hm.ok.len, by simp only; omega⟩
 simp only [qaB.b, qk1, qlv, if_true, qj, qd, e, qaL, hm.can (i := 37) (by omega), qk3, qlL, true_and, hm.p37, h1.can (i := 38) (by omega), h1.p38, qb8]
 exact h
theorem Mem.power_ok (h : M.ok) : M.power.ok := ⟨h.lines, h.regs, h.regU, h.len, by simp only [Mem.power]; omega⟩
theorem qao.s {k : AH → Prop} (hm : qv H p c M) (h : k (setM H p c M.power)) : qao (some ⟨p, 0, none⟩) H k := by
 refine qao.link ?_
 have h1 : qv (setM H p c { M with cut := -1 }) p c { M with cut := -1 } := hm.set ⟨hm.ok.lines, hm.ok.regs, hm.ok.regU, hm.ok.len, by simp only; omega⟩
 simp only [qao.b, qk1, qlv, if_true, qj, qd, qaL, hm.can (i := 37) (by omega), qk3, qlL, true_and, hm.p37, h1.can (i := 39) (by omega), h1.p39, qb8]
 exact h
theorem qE.s {k : Int → Int → AH → Prop} (hm : qv H p c M) (h : k (M.reg i).1 (M.reg i).2 H) : qE (some ⟨p, 0, none⟩) i H k := by
 refine qE.link ?_
 unfold qE.b
 refine qaq.s ?_
 unfold Mem.reg at h
 by_cases hi : regIn i
 ·have hi' := hi
  unfold regIn at hi'
  rw [if_pos hi] at h
  simp only [hi, decide_true, qlm, qj, qkW, if_false, qd, hm.c39, qa6]
  by_cases hd : M.down
  ·rw [if_pos hd] at h ⊢; exact h
  ·rw [if_neg hd] at h ⊢
   refine ⟨by omega, ?_⟩
   rw [ql, ql, qla, Nat.mul_one, hm.cr (by omega), qg]
   exact h
 ·rw [if_neg hi] at h
  simp only [hi, decide_false, qlv, qj, if_true]
  exact h
theorem Mem.set_ok (h : M.ok) {v : Int} (hv : isU v) : (M.set i v).1.ok := by
 unfold Mem.set
 split
 ·split
  ·exact h
  ·have hw := Mem.wr_ok h
   simp only
   split
   ·refine ⟨hw.lines, by simp [h.regs], fun x hx => ?_, hw.len, hw.cut⟩
    rcases qlP hx with h' | rfl
    ·exact h.regU x h'
    ·exact hv
   ·exact hw
 ·exact h
theorem qz.s {k : Int → AH → Prop} {v : Int} (hm : qv H p c M) (hv : isU v) (h : k (M.set i v).2 (setM H p c (M.set i v).1)) : qz (some ⟨p, 0, none⟩) i v H k := by
 refine qz.link ?_
 unfold qz.b
 refine qaq.s ?_
 have hok := Mem.set_ok (i := i) hm.ok hv
 unfold Mem.set at h hok
 by_cases hi : regIn i
 ·have hi' := hi
  unfold regIn at hi'
  rw [if_pos hi] at h hok
  simp only [hi, decide_true, qlm, qj, qkW, if_false, qd, hm.c39, qa6]
  by_cases hd : M.down
  ·rw [if_pos hd] at h ⊢; rw [hm.same] at h; exact h
  ·rw [if_neg hd] at h ⊢
   rw [if_neg hd] at hok
   refine qaw.s hm ?_
   have h1 := hm.set (Mem.wr_ok hm.ok)
   rw [mbit0]
   by_cases hb : mbit M.wmask 0 = true
   ·rw [if_pos hb]
    rw [if_pos hb] at h hok
    refine ⟨by omega, ?_⟩
    rw [ql, qla, Nat.mul_one]
    rw [qaL]
    have hreg : M.wr.regs = M.regs := Mem.wr_regs
    have e1 : qkN ⟨p, 1, none⟩ i.toNat = qkN ⟨p, 0, none⟩ (1 + i.toNat) := by rw [ql, ql, qla]
    rw [e1]
    refine ⟨h1.can (by omega), ?_⟩
    rw [h1.pr (by omega), qb8, hreg]
    unfold qz.j1
    refine qan.s (hm.set hok) ?_
    exact h
   ·rw [if_neg hb]
    rw [if_neg hb] at h hok
    unfold qz.j1
    refine qan.s h1 ?_
    exact h
 ·rw [if_neg hi] at h
  rw [hm.same] at h
  simp only [hi, decide_false, qlv, qj, if_true]
  exact h
end
theorem qjg {l : List Int} (h : l.length = 8) {j : Nat} (hj : j < 8) : (lineV l)[j]? = some (.int .u64 (l.getD j 0)) := by
 have hl : j < l.length := by omega
 simp only [lineV, qkZ, qkO hl, qlg, qkP, qln]
 rfl
theorem qn {l : List Int} (h : l.length = 8) : (lineV l).length = 8 := by simp [lineV, h]
theorem zeroV : [(qkL .u64 (0 : Int)), (qkL .u64 (0 : Int)), (qkL .u64 (0 : Int)), (qkL .u64 (0 : Int)), (qkL .u64 (0 : Int)), (qkL .u64 (0 : Int)), (qkL .u64 (0 : Int)), (qkL .u64 (0 : Int))] = lineV (qkQ 8 0) := rfl
theorem qcO (l : List Int) : flatV (K.agg.inj (lineV l)) = true := by simp only [K.inj, flatV, List.toList_toArray]; exact qfH l
def mixTo (old now : List Int) (mask : Int) (j : Nat) : List Int := (qlw 8).map fun i => if i < j ∧ mbit mask i = true then now.getD i 0 else old.getD i 0
theorem qdr (old now : List Int) (mask : Int) (j : Nat) : (mixTo old now mask j).length = 8 := by simp [mixTo]
theorem mixTo_0 {old : List Int} (now : List Int) (mask : Int) (h : old.length = 8) : mixTo old now mask 0 = old := by
 apply qlb
 intro i
 by_cases hi : i < 8
 ·simp only [mixTo, qkZ, qlc hi, qlg, Nat.not_lt_zero, false_and, if_false]
  rw [qkP, qkO (by omega), qln]
 ·rw [qkT (by simp [mixTo]; omega), qkT (by omega)]
theorem mixTo_8 (old now : List Int) (mask : Int) : mixTo old now mask 8 = mixL old now mask := by
 unfold mixTo mixL
 refine List.map_congr_left fun i hi => ?_
 have : i < 8 := by simpa using hi
 simp [this]
theorem qjc (old now : List Int) (mask : Int) {j : Nat} (hj : j < 8) : mixTo old now mask (j + 1) = if mbit mask j then (mixTo old now mask j).set j (now.getD j 0) else mixTo old now mask j := by
 apply qlb
 intro i
 by_cases hi : i < 8
 ·split
  ·rename_i hb
   by_cases hij : i = j
   ·subst hij
    rw [qlu (by rw [qdr]; exact hi)]
    simp [mixTo, hi, hb]
   ·rw [qle (by omega)]
    simp only [mixTo, qkZ, qlc hi, qlg]
    have : (i < j + 1 ∧ mbit mask i = true) ↔ (i < j ∧ mbit mask i = true) := by constructor <;> intro ⟨h1, h2⟩ <;> exact ⟨by omega, h2⟩
    simp only [this]
  ·rename_i hb
   simp only [mixTo, qkZ, qlc hi, qlg]
   have : (i < j + 1 ∧ mbit mask i = true) ↔ (i < j ∧ mbit mask i = true) := by
    constructor <;> intro ⟨h1, h2⟩
    ·refine ⟨?_, h2⟩
     rcases Nat.lt_or_ge i j with h | h
     ·exact h
     ·have : i = j := by omega
      subst this; exact absurd h2 hb
    ·exact ⟨by omega, h2⟩
   simp only [this]
 ·rw [qkT (by rw [qdr]; omega)]
  symm
  split
  ·rw [qkT (by rw [List.length_set, qdr]; omega)]
  ·rw [qkT (by rw [qdr]; omega)]
theorem qjx (l : List Int) (j : Nat) (v : Int) : (lineV l).set j (.int .u64 v) = lineV (l.set j v) := by simp [lineV, List.map_set, u64V]
section
variable {H : AH} {p c : Nat} {M : Mem} {i : Int}
theorem qbg.s {old now : List Int} {mask : Int} {k : List Value → AH → Prop} (ho : isLine old) (hn : isLine now) (h : k (lineV (mixL old now mask)) H) : qbg (lineV old) (lineV now) mask H k := by
 refine qco (κ := .agg) (by simp) (qcO _) (qbg.link ?_) h
 unfold qbg.b
 simp only [qt, qfO, qjT, List.singleton_append, qlr, List.nil_append, qct, qk3, qlL, qla, Nat.reduceAdd, zeroV]
 rw [qs (qfr H _ 1 8 _ rfl (by simp) (qn hn.1) (qai _))]
 refine qL (t := (0 : Int)) (I := fun (t : Int) H' => ∃ j : Nat, t = (j : Int) ∧ j ≤ 8 ∧ H' = H.more [⟨lineV (mixTo old now mask j), .rw, 0⟩, ⟨lineV now, .rw, 0⟩, ⟨lineV (qkQ 8 0), .rw, 0⟩]) (m := fun (t : Int) _ => qkX (8 - t)) ?_ ⟨0, rfl, by omega, by rw [mixTo_0 _ _ ho.1]⟩
 intro t H1 hI it hit
 obtain ⟨j, rfl, hj, rfl⟩ := hI
 unfold qbg.l2
 simp only [qj, decide_eq_true_eq]
 by_cases hlt : (j : Int) < 8
 ·rw [if_pos hlt]
  refine ⟨by omega, ?_⟩
  rw [qkS, Nat.mul_one, qjg hn.1 (by omega), qg]
  refine ⟨by omega, ?_⟩
  rw [mbit_eq _ _ (by omega), qe (n := (j : Int) + 1) (by omega) (by omega)]
  have hs := qjc old now mask (j := j) (by omega)
  by_cases hb : mbit mask j = true
  ·rw [if_pos hb] at hs ⊢
   refine ⟨by omega, ?_⟩
   rw [ql, qla]
   refine ⟨qfg H _ 0 j 1 _ rfl rfl (by rw [qn (qdr _ _ _ _)]; omega), ?_⟩
   have hp := qhI H [⟨lineV (mixTo old now mask j), .rw, 0⟩, ⟨lineV now, .rw, 0⟩, ⟨lineV (qkQ 8 0), .rw, 0⟩] 0 j [.int .u64 (now.getD j 0)] _ rfl
   simp only [Nat.add_zero, setMany, qjx, List.set_cons_zero] at hp
   rw [hp]
   exact hit _ _ ⟨j + 1, by omega, by omega, by rw [hs]⟩ (by omega)
  ·rw [if_neg hb] at hs ⊢
   exact hit _ _ ⟨j + 1, by omega, by omega, by rw [hs]⟩ (by omega)
 ·rw [if_neg hlt]
  have : j = 8 := by omega
  subst this
  unfold qbg.j1
  rw [mixTo_8]
  have hmx := (qeU (mask := mask) ho hn).1
  have hr := qfr H [⟨lineV (mixL old now mask), .rw, 0⟩, ⟨lineV now, .rw, 0⟩, ⟨lineV (qkQ 8 0), .rw, 0⟩] 0 8 _ rfl (by simp) (qn hmx) (qai _)
  rw [Nat.add_zero] at hr
  rw [qs hr]
  refine ⟨⟨qn hmx, qai _⟩, ?_⟩
  have hp := qhI H [⟨lineV (mixL old now mask), .rw, 0⟩, ⟨lineV now, .rw, 0⟩, ⟨lineV (qkQ 8 0), .rw, 0⟩] 2 0 (lineV (mixL old now mask)) _ rfl
  refine ⟨qfg H _ 2 0 _ _ rfl rfl (by rw [qn hmx, qn rfl]; omega), ?_⟩
  rw [hp]
  have hset : setMany (lineV (qkQ 8 0)) 0 (lineV (mixL old now mask)) = lineV (mixL old now mask) := by
   apply qlb
   intro t
   rw [qbG _ _ _ _ (by rw [qn hmx, qn rfl]; omega), qn hmx]
   by_cases ht : t < 8
   ·rw [if_pos (by omega)]; rfl
   ·rw [if_neg (by omega), qkT (by rw [qn rfl]; omega), qkT (by rw [qn hmx]; omega)]
  simp only [List.set_cons_succ, List.set_cons_zero, hset]
  rw [qs (qfr H _ 2 8 _ rfl (by simp) (qn hmx) (qai _))]
  exact ⟨At.of_keeps (qa.more _ _), rfl⟩
theorem Mem.put_ok {l : List Int} (h : M.ok) (hl : isLine l) : (M.put i l).1.ok := by
 unfold Mem.put
 split
 ·rename_i hi
  split
  ·exact h
  ·simp only
   split
   ·exact Mem.wr_ok h
   ·exact Mem.setc_ok (Mem.wr_ok h) (qeU (h.lines _ (cl_mem hi)) hl)
 ·exact h
theorem qc1 {H : AH} {b : Nat} {l l' : List Int} {e : Nat} (h : l.length = 8) (h' : l'.length = 8) (hg : H.get b = ⟨lineV l, .rw, e⟩) : AH.put H ⟨b, 0, none⟩ (lineV l') = H.upd b ⟨lineV l', .rw, e⟩ := by
 have hset : setMany (lineV l) 0 (lineV l') = lineV l' := by
  apply qlb
  intro t
  rw [qbG _ _ _ _ (by rw [qn h, qn h']; omega), qn h']
  by_cases ht : t < 8
  ·rw [if_pos (by omega)]; rfl
  ·rw [if_neg (by omega), qkT (by rw [qn h]; omega), qkT (by rw [qn h']; omega)]
 simp only [AH.put, hg, hset]
theorem qK.s {l : List Int} {k : Int → AH → Prop} (hm : qv H p c M) (hl : isLine l) (h : k (M.put i l).2 (setM H p c (M.put i l).1)) : qK (some ⟨p, 0, none⟩) i (lineV l) H k := by
 have key : ∀ {M' : Mem} {r : Int}, M'.ok → At H (setM (H.push ⟨lineV l, .rw, 0⟩) p c M') (setM H p c M') := by
  intro M' r hok
  refine hm.at fun b hb => ?_
  simp only [qca, qp]
  rw [if_neg (show b ≠ H.size by omega)]
 refine qco (κ := .int .i64) (by simp) rfl (qK.link ?_) h
 unfold qK.b
 have hm1 := hm.push ⟨lineV l, .rw, 0⟩
 rw [qt]
 refine qaO.s hm1 ?_
 have hok := Mem.put_ok (i := i) hm.ok hl
 have hkey := key (r := 0) hok
 unfold Mem.put at hok hkey ⊢
 by_cases hi : M.has i
 ·have hi' := hi
  unfold Mem.has at hi'
  rw [if_pos hi] at hok hkey ⊢
  simp only [hi, decide_true, qlm, qj, qkW, if_false, qd, hm1.c39, qa6]
  by_cases hd : M.down
  ·rw [if_pos hd] at hok hkey ⊢
   rw [if_pos hd]
   refine ⟨?_, rfl⟩
   rw [hm1.same] at hkey
   exact hkey
  ·rw [if_neg hd] at hok hkey ⊢
   rw [if_neg hd]
   refine qaw.s hm1 ?_
   have hmw := hm1.set (Mem.wr_ok hm.ok)
   have hiw : M.wr.has i := Mem.wr_has.2 hi
   simp only [hmw.c0, qaT, qd, hmw.c9 hiw, hmw.c8 hiw, qg, Mem.wr_cs, Mem.wr_cl, hi', and_self, true_and, ge_iff_le, decide_eq_true_eq]
   have hold := hm.ok.lines _ (cl_mem hi)
   have tail : ∀ w, w = (M.cl i.toNat).worn → qK.j2 (some ⟨p, 0, none⟩) i (fun r0 H' => At H H' (setM H p c (if (M.cl i.toNat).worn = true then (M.wr, M.wr.told true) else (M.wr.setc i.toNat ⟨mixL (M.cl i.toNat).line l M.wmask, inc (M.cl i.toNat).wear, (M.cl i.toNat).limit⟩, M.wr.told false)).1) ∧ r0 = (if (M.cl i.toNat).worn = true then (M.wr, M.wr.told true) else (M.wr.setc i.toNat ⟨mixL (M.cl i.toNat).line l M.wmask, inc (M.cl i.toNat).wear, (M.cl i.toNat).limit⟩, M.wr.told false)).2) H.size (setM (H.push ⟨lineV l, .rw, 0⟩) p c M.wr) M.wmask ⟨c, 0, none⟩ w := by
    intro w hw
    subst hw
    unfold qK.j2 qK.j1
    by_cases hw : (M.cl i.toNat).worn = true
    ·rw [if_pos hw] at hkey hok ⊢
     rw [hw, qlm, qc]
     refine qan.s hmw ?_
     exact ⟨hkey, rfl⟩
    ·rw [if_neg hw] at hkey hok ⊢
     rw [show (M.cl i.toNat).worn = false from by simpa using hw, qlv, qk]
     rw [qs (hmw.row_c hiw), Mem.wr_cl]
     have hlp := hm.lp
     have hlc := hm.lc
     have hrow : AH.row? (setM (H.push ⟨lineV l, .rw, 0⟩) p c M.wr) ⟨H.size, 0, none⟩ 8 = some (lineV l) := by
      rw [qfF (by omega) (by omega)]
      exact row_new (qn hl.1) (qai _)
     rw [qs hrow]
     refine qbg.s hold hl ?_
     have hmx := qeU (mask := M.wmask) hold hl
     refine ⟨⟨qn hmx.1, qai _⟩, hmw.can_c hiw (by rw [qn hmx.1]; omega), ?_⟩
     rw [hmw.put_c hiw (x := ⟨mixL (M.cl i.toNat).line l M.wmask, (M.cl i.toNat).wear, (M.cl i.toNat).limit⟩) (by rw [qn hmx.1]; omega) (by rw [Mem.wr_cl]; exact qj9 (x := M.cl i.toNat) hold hmx), qb8]
     have hm3 := hm1.set (Mem.setc_ok (i := i.toNat) (x := ⟨mixL (M.cl i.toNat).line l M.wmask, (M.cl i.toNat).wear, (M.cl i.toNat).limit⟩) (Mem.wr_ok hm.ok) hmx)
     have hi3 : (M.wr.setc i.toNat ⟨mixL (M.cl i.toNat).line l M.wmask, (M.cl i.toNat).wear, (M.cl i.toNat).limit⟩).has i := Mem.setc_has.2 hiw
     simp only [hm3.c8 hi3, qg, Mem.setc_cl hiw]
     refine ⟨hm3.can_c hi3 (by simp), ?_⟩
     rw [hm3.put_c hi3 (x := { line := mixL (M.cl i.toNat).line l M.wmask, wear := inc (M.cl i.toNat).wear, limit := (M.cl i.toNat).limit }) (by simp) ?_, qb8, Mem.setc_setc]
     ·refine qan.s (hm1.set hok) ?_
      exact ⟨hkey, rfl⟩
     ·rw [Mem.setc_cl hiw]
      exact qkf (x := { line := mixL (M.cl i.toNat).line l M.wmask, wear := (M.cl i.toNat).wear, limit := (M.cl i.toNat).limit }) hmx
   by_cases hlim : 0 ≤ (M.cl i.toNat).limit
   ·rw [if_pos hlim]
    exact tail _ (by simp [Cl.worn, hlim])
   ·rw [if_neg hlim]
    exact tail _ (by simp [Cl.worn, hlim])
 ·rw [if_neg hi] at hok hkey ⊢
  simp only [hi, decide_false, qlv, qj, if_true]
  rw [hm1.same] at hkey
  exact ⟨hkey, trivial⟩
theorem qba.s {k : List Value → Int → AH → Prop} (hm : qv H p c M) (h : k (lineV (M.get i).1) (M.get i).2 H) : qba (some ⟨p, 0, none⟩) i H k := by
 refine canon2 (κ := .agg) (μ := .int .i64) (by simp) (by simp) (qcO _) rfl (qba.link ?_) h
 unfold qba.b
 rw [qt, zeroV]
 have hm1 := hm.push ⟨lineV (qkQ 8 0), .rw, 0⟩
 have hz : (H.push ⟨lineV (qkQ 8 0), .rw, 0⟩).get H.size = ⟨lineV (qkQ 8 0), .rw, 0⟩ := by simp [qp]
 have hc8 : ∀ l : List Int, isLine l → AH.canPut (H.push ⟨lineV (qkQ 8 0), .rw, 0⟩) ⟨H.size, 0, none⟩ (lineV l).length := by
  intro l hl; rw [qn hl.1]; exact qb4.2 (by rw [qn rfl]; omega)
 have fin : ∀ (l : List Int), isLine l → ∀ (Q : List Value → AH → Prop), (∀ H', qa H H' → Q (lineV l) H') →
   ldA (AH.put (H.push ⟨lineV (qkQ 8 0), .rw, 0⟩) ⟨H.size, 0, none⟩ (lineV l)) ⟨H.size, 0, none⟩ 8 fun r0 => Q r0 (AH.put (H.push ⟨lineV (qkQ 8 0), .rw, 0⟩) ⟨H.size, 0, none⟩ (lineV l)) := by
  intro l hl Q hQ
  rw [qc1 rfl hl.1 hz]
  have e : (H.push ⟨lineV (qkQ 8 0), .rw, 0⟩).upd H.size ⟨lineV l, .rw, 0⟩ = H.push ⟨lineV l, .rw, 0⟩ := by
   refine AH.ext' rfl fun b => ?_
   simp only [qA, qp]; split <;> rfl
  rw [e]
  rw [qs (row_new (qn hl.1) (qai _))]
  exact hQ _ ((qa.refl H).push _)
 refine qaO.s hm1 ?_
 unfold Mem.get
 by_cases hi : M.has i
 ·have hi' := hi
  unfold Mem.has at hi'
  rw [if_pos hi]
  simp only [hi, decide_true, qlm, qj, qkW, if_false, qd, hm1.c39, qa6, hm1.c0, qaT, hi', and_self, true_and, qs (hm1.row_c hi)]
  by_cases hd : M.down
  ·rw [if_pos hd, if_pos hd]
   refine ⟨⟨qn rfl, qai _⟩, hc8 _ qaH, ?_⟩
   exact fin _ qaH (fun r0 H' => At H H' H ∧ r0 = _ ∧ _) (fun H' hk => ⟨At.of_keeps hk, rfl, rfl⟩)
  ·rw [if_neg hd, if_neg hd]
   have hl := hm.ok.lines _ (cl_mem hi)
   refine ⟨⟨qn hl.1, qai _⟩, hc8 _ hl, ?_⟩
   exact fin _ hl (fun r0 H' => At H H' H ∧ r0 = _ ∧ _) (fun H' hk => ⟨At.of_keeps hk, rfl, rfl⟩)
 ·rw [if_neg hi]
  simp only [hi, decide_false, qlv, qj, if_true]
  refine ⟨⟨qn rfl, qai _⟩, hc8 _ qaH, ?_⟩
  exact fin _ qaH (fun r0 H' => At H H' H ∧ r0 = _ ∧ _) (fun H' hk => ⟨At.of_keeps hk, rfl, trivial⟩)
end
structure Frm (H H' : AH) (p c : Nat) : Prop where
 size : H'.size = H.size
 get : ∀ b, b ≠ p → b ≠ c → H'.get b = H.get b
theorem Frm.cell {H H' : AH} {p c b i : Nat} (h : Frm H H' p c) (h1 : b ≠ p) (h2 : b ≠ c) : AH.cell? H' ⟨b, i, none⟩ = AH.cell? H ⟨b, i, none⟩ := by
 simp only [AH.cell?, h.get b h1 h2]
theorem Frm.set (H : AH) (p c : Nat) (M : Mem) : Frm H (setM H p c M) p c := ⟨rfl, fun b h1 h2 => qcv h1 h2⟩
theorem Frm.trans {H H' H2 : AH} {p c : Nat} (h : Frm H H' p c) (h' : Frm H' H2 p c) : Frm H H2 p c := ⟨h'.size.trans h.size, fun b h1 h2 => (h'.get b h1 h2).trans (h.get b h1 h2)⟩
section
variable {H : AH} {p c : Nat} {M M' : Mem} {i r : Int}
theorem qz.g {v : Int} {k : Int → AH → Prop} (hm : qv H p c M) (hv : isU v) (e : M.set i v = (M', r)) (h : ∀ H', qv H' p c M' → Frm H H' p c → k r H') : qz (some ⟨p, 0, none⟩) i v H k := by
 refine qz.s hm hv ?_
 have ok := Mem.set_ok (i := i) hm.ok hv
 rw [e] at ok ⊢
 exact h _ (hm.set ok) (Frm.set _ _ _ _)
theorem qaB.g {n mask : Int} {k : AH → Prop} (hm : qv H p c M) (hn : n ≤ 9223372036854775807) (h : ∀ H', qv H' p c (M.setCut n mask) → Frm H H' p c → k H') : qaB (some ⟨p, 0, none⟩) n mask H k :=
 qaB.s hm hn (h _ (hm.set (Mem.setCut_ok hm.ok hn)) (Frm.set _ _ _ _))
theorem qao.g {k : AH → Prop} (hm : qv H p c M) (h : ∀ H', qv H' p c M.power → Frm H H' p c → k H') : qao (some ⟨p, 0, none⟩) H k :=
 qao.s hm (h _ (hm.set (Mem.power_ok hm.ok)) (Frm.set _ _ _ _))
end
theorem new_st {H : AH} {cs cs' : List Value} {n z : Nat} {K : Nat → AH → Prop} (hn : cs.length = n) (hl : cs'.length = n) (ha : cs'.all qo = true) (h : K H.size (H.push ⟨cs', .rw, z⟩)) :
  newC H ⟨cs, .rw, z⟩ fun o H1 => (cs'.length = n ∧ qlo cs' qo = true) ∧ stC H1 ⟨o, 0, none⟩ cs' fun Hs => K o Hs := by
 refine ⟨⟨hl, ha⟩, qb4.2 (by omega), ?_⟩
 rw [qcP]
 have : setMany cs 0 cs' = cs' := by
  apply qlb
  intro t
  rw [qbG _ _ _ _ (by omega)]
  by_cases ht : t < n
  ·rw [if_pos (by omega)]; rfl
  ·rw [if_neg (by omega), qkT (by omega), qkT (by omega)]
 rw [this]
 exact h
theorem qem {H : AH} {l : List Int} {e : Nat} (h : isLine l) : AH.row? (H.push ⟨lineV l, .rw, e⟩) ⟨H.size, 0, none⟩ 8 = some (lineV l) := row_new (qn h.1) (qai _)
theorem rows1 {α : Type} {H : AH} {s : Sl} {g : α → Value} {l : List α} (h : qli H s 1 (fun x => [g x]) l) {i : Nat} (hi : i < l.length) :
  ∃ b o, s.a = some ⟨b, o, none⟩ ∧ b < H.size ∧ AH.cell? H (qkN ⟨b, o, none⟩ (i * 1)) = some (g (l[i])) := by
 obtain ⟨b, o, h1, h2, h3⟩ := h.at hi
 refine ⟨b, o, h1, h2, ?_⟩
 rw [ql] at h3 ⊢
 have := (AH.row?_cell h3).2.2.2.2 0 _ rfl
 simpa using this
theorem qef {H H' : AH} {p c : Nat} {M : Mem} (h : qa H H') (hp : H.size ≤ p) (hc : H.size ≤ c) : qa H (setM H' p c M) :=
 ⟨h.1, fun b hb => by rw [qcv (by omega) (by omega)]; exact h.2 b hb⟩
theorem Mem.new_ok {n : Nat} {limits : List Int} (h : n ≤ 200) : (Mem.new n limits).ok := by
 refine ⟨?_, rfl, ?_, by simpa [Mem.new] using h, by simp [Mem.new]⟩
 ·intro c hc
  simp only [Mem.new, qlk, qlC] at hc
  obtain ⟨i, _, rfl⟩ := hc
  exact qaH
 ·intro v hv
  rw [List.eq_of_mem_replicate hv]; unfold isU; omega
def Mem.newTo (n : Nat) (limits : List Int) (j : Nat) : Mem :=
 { Mem.new n limits with cs := (qlw n).map fun i => ⟨qkQ 8 0, 0, if i < j then limits.getD i (-1) else 0⟩ }
theorem Mem.newTo_ok {n j : Nat} {limits : List Int} (h : n ≤ 200) : (Mem.newTo n limits j).ok := by
 refine ⟨?_, rfl, (Mem.new_ok (limits := limits) h).regU, by simpa [Mem.newTo] using h, by simp [Mem.newTo, Mem.new]⟩
 intro c hc
 simp only [Mem.newTo, qlk, qlC] at hc
 obtain ⟨i, _, rfl⟩ := hc
 exact qaH
theorem Mem.newTo_n (n : Nat) (limits : List Int) : Mem.newTo n limits n = Mem.new n limits := by
 simp only [Mem.newTo, Mem.new, Mem.mk.injEq, and_true]
 refine List.map_congr_left fun i hi => ?_
 rw [if_pos (by simpa using hi)]
theorem Mem.newTo_cl {n j : Nat} {limits : List Int} {i : Nat} (hi : i < n) : (Mem.newTo n limits j).cl i = ⟨qkQ 8 0, 0, if i < j then limits.getD i (-1) else 0⟩ := by
 simp [Mem.cl, Mem.newTo, qkP, hi]
theorem Mem.newTo_succ {n j : Nat} {limits : List Int} (hj : j < n) : (Mem.newTo n limits j).setc j ⟨qkQ 8 0, 0, limits.getD j (-1)⟩ = Mem.newTo n limits (j + 1) := by
 simp only [Mem.newTo, Mem.setc, Mem.mk.injEq, and_true, true_and]
 apply qlb
 intro i
 by_cases hi : i < n
 ·by_cases hij : i = j
  ·subst hij; rw [qlu (by simpa using hi)]; simp [hi]
  ·rw [qle (by omega)]
   simp only [qkZ, qlc hi, qlg]
   by_cases h : i < j
   ·rw [if_pos h, if_pos (by omega)]
   ·rw [if_neg h, if_neg (by omega)]
 ·rw [qkT (by simp; omega), qkT (by simp; omega)]
theorem qgQ {x : Cl} {v : Int} (hx : isLine x.line) : clV { x with limit := v } = setMany (clV x) 9 [.int .i64 v] := by
 simp only [setMany, clV]
 rw [List.set_append_right _ _ (by simp [lineV, hx.1])]
 simp [lineV, hx.1, i64V]
theorem nvm_New.s {H : AH} {n : Int} {x1 : Sl} {limits : List Int} {k : Option Addr → AH → Prop} (hr : qli H x1 1 iV limits)
  (h1 : 1 ≤ n ∧ n ≤ 200 → ∀ H', qv H' (H.size + 1) H.size (Mem.new n.toNat limits) → qa H H' → H'.size = H.size + 2 → k (some ⟨H.size + 1, 0, none⟩) H') (h0 : ¬ (1 ≤ n ∧ n ≤ 200) → k none H) : nvm_New n x1 H k := by
 refine nvm_New.link ?_
 unfold nvm_New.b nvm_New.j2
 simp only [qj, decide_eq_true_eq]
 by_cases hn1 : n < 1
 ·rw [if_pos hn1]; exact h0 (by omega)
 ·rw [if_neg hn1]
  by_cases hn2 : n > 200
  ·rw [if_pos hn2]; exact h0 (by omega)
  ·rw [if_neg hn2]
   refine ⟨by simp only [lim]; omega, ?_⟩
   simp only [qt, qi]
   have hz : (⟨zerosOf n.toNat [(qkL .u64 (0 : Int)), (qkL .u64 (0 : Int)), (qkL .u64 (0 : Int)), (qkL .u64 (0 : Int)), (qkL .u64 (0 : Int)), (qkL .u64 (0 : Int)), (qkL .u64 (0 : Int)), (qkL .u64 (0 : Int)), (qkL .i64 (0 : Int)), (qkL .i64 (0 : Int))], .rw, 10⟩ : AObj) = celObj (Mem.newTo n.toNat limits 0) := by
    simp only [celObj, Mem.newTo, AObj.mk.injEq, and_true]
    unfold zerosOf
    rw [List.flatMap_map]
    simp only [Nat.not_lt_zero, if_false]
    have : (qlw n.toNat).flatMap (fun (_ : Nat) => clV ⟨qkQ 8 0, 0, 0⟩) = (qkQ n.toNat (clV ⟨qkQ 8 0, 0, 0⟩)).flatten := by
     rw [List.flatMap_def]
     congr 1
     apply qlb
     intro i
     by_cases hi : i < n.toNat
     ·simp [hi]
     ·rw [qkT (by simp; omega), qkT (by simp; omega)]
    rw [this]
    rfl
   rw [hz]
   generalize hX : (H.push (celObj (Mem.newTo n.toNat limits 0))).push _ = H1
   have hm1 : qv H1 (H.size + 1) H.size (Mem.newTo n.toNat limits 0) := by
    subst hX
    refine ⟨?_, ?_, by omega, by simp [qi], by simp [qi]; omega, Mem.newTo_ok (by omega)⟩
    ·rw [qp, qi, if_pos rfl]
     simp only [memObj, Mem.newTo, Mem.new, List.length_map, List.length_range]
     rfl
    ·rw [qp, qi, if_neg (by omega), qp, if_pos rfl]
   have hs1 : H1.size = H.size + 2 := by subst hX; simp [qi]
   have hk1 : qa H H1 := by subst hX; exact ((qa.refl H).push _).push _
   rw [hm1.c0, qaT]
   refine qL (t := (0 : Int)) (I := fun (t : Int) H' => ∃ j : Nat, t = (j : Int) ∧ j ≤ n.toNat ∧ H' = setM H1 (H.size + 1) H.size (Mem.newTo n.toNat limits j)) (m := fun (t : Int) _ => qkX (n - t)) ?_ ⟨0, rfl, by omega, hm1.same.symm⟩
   intro t H2 hI it hit
   obtain ⟨j, rfl, hj, rfl⟩ := hI
   have hmj := hm1.set (Mem.newTo_ok (n := n.toNat) (limits := limits) (j := j) (by omega))
   have hlen : ∀ j, ((Mem.newTo n.toNat limits j).cs.length : Int) = n := by intro j; simp [Mem.newTo]; omega
   have hR := hr.keep (qef (M := Mem.newTo n.toNat limits j) (p := H.size + 1) (c := H.size) hk1 (by omega) (by omega))
   unfold nvm_New.l1
   simp only [qj, decide_eq_true_eq, hlen, hmj.c0, qaT, qd]
   by_cases hlt : (j : Int) < n
   ·rw [if_pos hlt]
    have hi : (Mem.newTo n.toNat limits j).has j := ⟨by omega, by rw [hlen]; exact hlt⟩
    have hcl := Mem.newTo_cl (n := n.toNat) (limits := limits) (j := j) (i := j) (by omega)
    refine ⟨by omega, stC_to (hmj.can_c hi (by simp)) ((hmj.put_c hi (x := ⟨qkQ 8 0, 0, -1⟩) (by simp) (by rw [qkS, hcl]; exact qgQ (x := ⟨qkQ 8 0, 0, _⟩) qaH)).trans qb8) ?_⟩
    simp only [qkS]
    have hm2 := hm1.set (Mem.setc_ok (i := j) (x := ⟨qkQ 8 0, 0, -1⟩) (Mem.newTo_ok (n := n.toNat) (limits := limits) (j := j) (by omega)) qaH)
    have hi2 : ((Mem.newTo n.toNat limits j).setc j ⟨qkQ 8 0, 0, -1⟩).has j := Mem.setc_has.2 hi
    have hlen2 : (((Mem.newTo n.toNat limits j).setc j ⟨qkQ 8 0, 0, -1⟩).cs.length : Int) = n := by simp [Mem.setc, Mem.newTo]; omega
    rw [hr.1, qe (n := (j : Int) + 1) (by omega) (by omega)]
    by_cases hlim : (j : Int) < (limits.length : Int)
    ·rw [if_pos hlim]
     have hR2 := hr.keep (qef (M := (Mem.newTo n.toNat limits j).setc j ⟨qkQ 8 0, 0, -1⟩) (p := H.size + 1) (c := H.size) hk1 (by omega) (by omega))
     obtain ⟨b, o, ha, _, hcell⟩ := rows1 (g := fun v => qkL .i64 v) hR2 (i := j) (by omega)
     rw [hm2.c0, qaT]
     refine ⟨by omega, ?_⟩
     rw [ha, qd, hcell, qg]
     have hcl2 : ((Mem.newTo n.toNat limits j).setc j ⟨qkQ 8 0, 0, -1⟩).cl j = ⟨qkQ 8 0, 0, -1⟩ := Mem.setc_cl (i := (j : Int)) hi
     have hp := hm2.put_c (i := (j : Int)) hi2 (x := ⟨qkQ 8 0, 0, limits[j]⟩) (j := 9) (vs := [.int .i64 limits[j]]) (by simp) (by rw [qkS, hcl2]; exact qgQ (x := ⟨qkQ 8 0, 0, -1⟩) qaH)
     rw [qkS] at hp
     refine ⟨⟨by omega, by rw [hlen2]; exact hlt⟩, stC_to (hm2.can_c (i := j) hi2 (by simp)) (hp.trans qb8) ?_⟩
     rw [Mem.setc_setc]
     refine hit _ _ ⟨j + 1, by omega, by omega, ?_⟩ (by omega)
     rw [← Mem.newTo_succ (by omega), qkP, qkO (by omega), qln]
    ·rw [if_neg hlim]
     refine hit _ _ ⟨j + 1, by omega, by omega, ?_⟩ (by omega)
     rw [← Mem.newTo_succ (by omega), qkP, qkT (by omega), Option.getD_none]
   ·rw [if_neg hlt]
    have : j = n.toNat := by omega
    subst this
    rw [Mem.newTo_n]
    exact h1 (by omega) _ (hm1.set (Mem.new_ok (by omega))) (qef hk1 (by omega) (by omega)) hs1
theorem qhW : ∀ {n : Nat} {a b : List Int}, a.length = n → b.length = n → eqCells (qkQ n (K.int .u64)) (lineV a) (lineV b) = some (a == b) := by
 intro n
 induction n with
 | zero => intro a b ha hb; simp at ha hb; subst ha hb; rfl
 | succ n ih =>
  intro a b ha hb
  obtain _ | ⟨x, a⟩ := a
  ·simp at ha
  obtain _ | ⟨y, b⟩ := b
  ·simp at hb
  have := ih (a := a) (b := b) (by simpa using ha) (by simpa using hb)
  simp only [lineV, u64V, List.replicate_succ, List.map_cons, eqCells, and_self, if_true] at this ⊢
  rw [this]
  rfl
theorem eq_line {a b : List Int} {k : Bool → Prop} (ha : isLine a) (hb : isLine b) : elO (eqCells (qkQ 8 (K.int .u64)) (lineV a) (lineV b)) k ↔ k (a == b) := by
 rw [qhW ha.1 hb.1, qkA]
theorem qfz {α : Type} {H : AH} {z : Nat} {f : α → List Value} : qli H ⟨none, 0, 0⟩ z f [] := ⟨rfl, fun i x h => by simp at h⟩
theorem qfu {H : AH} {l : List Int} {K : Nat → AH → Prop} (hl : isLine l) (h : K H.size (H.push ⟨lineV l, .rw, 0⟩)) :
  newC H ⟨lineV (qkQ 8 0), .rw, 0⟩ fun o H1 => ((lineV l).length = 8 ∧ qlo (lineV l) qo = true) ∧ stC H1 ⟨o, 0, none⟩ (lineV l) fun Hs => K o Hs :=
 new_st (qn rfl) (qn hl.1) (qai _) h
theorem umod {m : Int} (hm : 0 < m) (z : Int) : 0 ≤ qlM (qkM .u64 z) m ∧ qlM (qkM .u64 z) m < m := by
 have h0 : 0 ≤ qkM .u64 z := by
  simp only [qkM, qlI, IntKind.signed, Bool.false_and, Int.reducePow, qkW, if_false]; omega
 rw [Int.tmod_eq_emod_of_nonneg h0]
 exact ⟨Int.emod_nonneg _ (by omega), Int.emod_lt_of_pos _ (by omega)⟩
section
variable {H : AH}
theorem Mem.new_cl {n i : Nat} {limits : List Int} (hi : i < n) : (Mem.new n limits).cl i = ⟨qkQ 8 0, 0, limits.getD i (-1)⟩ := by
 rw [← Mem.newTo_n, Mem.newTo_cl hi, if_pos hi]
theorem Mem.setc_cl' {M : Mem} {i j : Nat} {x : Cl} (h : i < M.cs.length) : (M.setc i x).cl j = if j = i then x else M.cl j := by
 simp only [Mem.cl, Mem.setc, qkP]
 by_cases hij : j = i
 ·subst hij; simp [h]
 ·rw [if_neg hij, qle (by omega)]
end
section
variable {H : AH}
theorem Mem.put_len {M : Mem} {i : Int} {l : List Int} : (M.put i l).1.cs.length = M.cs.length := by
 unfold Mem.put
 split
 ·split
  ·rfl
  ·simp only; split
   ·rw [Mem.wr_cs]
   ·simp [Mem.setc, Mem.wr_cs]
 ·rfl
theorem Mem.set_len {M : Mem} {i v : Int} : (M.set i v).1.cs.length = M.cs.length := by
 unfold Mem.set
 split
 ·split
  ·rfl
  ·simp only; split <;> simp [Mem.wr_cs]
 ·rfl
end
theorem Mem.wr_mask {M : Mem} : M.wr.mask = M.mask := by
 unfold Mem.wr; split
 ·rfl
 ·split <;> rfl
structure PutAny (M : Mem) (i : Nat) (l : List Int) (M' : Mem) (e : Int) : Prop where
 regs : M'.regs = M.regs
 len : M'.cs.length = M.cs.length
 mask : M'.mask = M.mask
 other : ∀ j, j ≠ i → M'.cl j = M.cl j
 limit : (M'.cl i).limit = (M.cl i).limit
 res : (e = 0 ∧ M'.down = false ∧ (M.cl i).worn = false ∧ (M'.cl i).line = l) ∨
  (e = 3 ∧ M'.down = false ∧ (M.cl i).worn = true ∧ M'.cl i = M.cl i) ∨
  (e = 2 ∧ M'.down = true ∧ M.cut ≠ -1 ∧ ((M'.cl i).line = (M.cl i).line ∨ (M'.cl i).line = mixL (M.cl i).line l M.mask))
 cut : M.cut = -1 → M'.cut = -1
 cutge : -1 ≤ M'.cut
theorem Mem.wr_cutge {M : Mem} (h : -1 ≤ M.cut) : -1 ≤ M.wr.cut := by
 unfold Mem.wr; split
 ·exact h
 ·split
  ·simp only; omega
  ·exact h
theorem Mem.put_any {M : Mem} {i : Nat} {l : List Int} (hd : M.down = false) (hi : i < M.cs.length) (hl : l.length = 8) (hc : -1 ≤ M.cut) : PutAny M i l (M.put i l).1 (M.put i l).2 := by
 have hhas : M.has i := ⟨by omega, by omega⟩
 unfold Mem.put
 rw [if_pos hhas, if_neg (by simp [hd]), qkS]
 have hi' : i < M.wr.cs.length := by rw [Mem.wr_cs]; exact hi
 have hwr : (M.cut = 0 ∧ M.wr.down = true ∧ M.wmask = M.mask) ∨ (M.cut ≠ 0 ∧ M.wr.down = false ∧ M.wmask = -1) := by
  unfold Mem.wr Mem.wmask
  by_cases h0 : M.cut = 0
  ·left; rw [if_pos h0, if_pos h0]; exact ⟨h0, rfl, rfl⟩
  ·right; rw [if_neg h0, if_neg h0]; refine ⟨h0, ?_, rfl⟩
   split <;> exact hd
 have hcut : M.cut = -1 → M.wr.cut = -1 := by
  intro h; unfold Mem.wr; rw [if_neg (by omega), if_neg (by omega)]; exact h
 have hmask : M.wr.mask = M.mask := by exact Mem.wr_mask
 simp only
 by_cases hw : (M.cl i).worn = true
 ·rw [if_pos hw]
  refine ⟨Mem.wr_regs, by rw [Mem.wr_cs], hmask, fun j _ => Mem.wr_cl, by rw [Mem.wr_cl], ?_, hcut, Mem.wr_cutge hc⟩
  rcases hwr with ⟨h0, h1, h2⟩ | ⟨h0, h1, h2⟩
  ·exact .inr (.inr ⟨by simp [Mem.told, h1], h1, by omega, .inl (by rw [Mem.wr_cl])⟩)
  ·exact .inr (.inl ⟨by simp [Mem.told, h1], h1, hw, Mem.wr_cl⟩)
 ·rw [if_neg hw]
  refine ⟨Mem.wr_regs, by simp [Mem.setc, Mem.wr_cs], hmask, fun j hj => by rw [Mem.setc_cl' hi', if_neg hj, Mem.wr_cl], by rw [Mem.setc_cl' hi', if_pos rfl], ?_, hcut, Mem.wr_cutge hc⟩
  rcases hwr with ⟨h0, h1, h2⟩ | ⟨h0, h1, h2⟩
  ·refine .inr (.inr ⟨by simp [Mem.told, h1], h1, by omega, .inr ?_⟩)
   rw [Mem.setc_cl' hi', if_pos rfl, h2]
  ·refine .inl ⟨by simp [Mem.told, h1], h1, by simpa using hw, ?_⟩
   rw [Mem.setc_cl' hi', if_pos rfl, h2, qky hl]
structure SetAny (M : Mem) (i : Nat) (v : Int) (M' : Mem) (e : Int) : Prop where
 cs : M'.cs = M.cs
 mask : M'.mask = M.mask
 res : (e = 0 ∧ M'.down = false ∧ M'.regs = M.regs.set i v) ∨ (e = 2 ∧ M'.down = true ∧ M.cut ≠ -1 ∧ (M'.regs = M.regs ∨ M'.regs = M.regs.set i v))
 cut : M.cut = -1 → M'.cut = -1
 cutge : -1 ≤ M'.cut
theorem Mem.set_any {M : Mem} {i : Nat} {v : Int} (hd : M.down = false) (hi : i < 35) (hc : -1 ≤ M.cut) : SetAny M i v (M.set i v).1 (M.set i v).2 := by
 unfold Mem.set
 rw [if_pos ⟨by omega, by omega⟩, if_neg (by simp [hd]), qkS]
 have hmask : M.wr.mask = M.mask := by exact Mem.wr_mask
 by_cases h0 : M.cut = 0
 ·have h1 : M.wr.down = true := by unfold Mem.wr; rw [if_pos h0]
  by_cases hb : mbit M.wmask 0 = true
  ·rw [if_pos hb]
   exact ⟨Mem.wr_cs, hmask, .inr ⟨by simp [Mem.told, h1], h1, by omega, .inr rfl⟩, by omega, Mem.wr_cutge hc⟩
  ·rw [if_neg hb]
   exact ⟨Mem.wr_cs, hmask, .inr ⟨by simp [Mem.told, h1], h1, by omega, .inl Mem.wr_regs⟩, by omega, Mem.wr_cutge hc⟩
 ·have h1 : M.wr.down = false := by unfold Mem.wr; rw [if_neg h0]; split <;> exact hd
  have h2 : M.wmask = -1 := by unfold Mem.wmask; rw [if_neg h0]
  rw [h2, qhu 0 (by omega), if_pos rfl]
  refine ⟨Mem.wr_cs, hmask, .inl ⟨by simp [Mem.told, h1], h1, rfl⟩, fun h => ?_, Mem.wr_cutge hc⟩
  simp only [Mem.wr]; rw [if_neg h0, if_neg (by omega)]; exact h
def Mem.whose (M : Mem) (i : Nat) : Int := M.regs.getD (3 + i) 0
def Mem.place (M : Mem) (n s : Nat) : Nat → Nat
 | 0 => s
 | j + 1 => if M.whose j = (s : Int) + 1 then n + j else M.place n s j
def Mem.view (M : Mem) (n sp s : Nat) : List Int := (M.cl (M.place n s sp)).line
structure LV (M : Mem) (n sp k : Nat) : Prop where
 len : M.cs.length = n + sp
 n1 : 1 ≤ n
 sp16 : sp ≤ 16
 kle : k ≤ sp
 used : ∀ i, i < k → 1 ≤ M.whose i ∧ M.whose i ≤ (n : Int) + 1
 free : ∀ i, k ≤ i → i < sp → M.whose i = 0
def Mem.next (M : Mem) (sp : Nat) : Nat → Nat
 | 0 => sp
 | j + 1 => if M.whose (sp - (j + 1)) = 0 then sp - (j + 1) else M.next sp j
def lgo (n sp slot : Nat) (d : List Int) : Nat → Mem → Mem × Int
 | 0, M => (M, 3)
 | j + 1, M =>
  let r := M.put ((n + (sp - (j + 1)) : Nat) : Int) d
  if r.2 = 0 then r.1.set ((3 + (sp - (j + 1)) : Nat) : Int) ((slot : Int) + 1)
  else if r.2 = 3 then
   let q := r.1.set ((3 + (sp - (j + 1)) : Nat) : Int) ((n : Int) + 1)
   if q.2 = 0 then lgo n sp slot d j q.1 else q
  else r
def lput (n sp : Nat) (M : Mem) (slot : Int) (d : List Int) : Mem × Int :=
 if 0 ≤ slot ∧ slot < n then
  if M.down then (M, 2) else
  let r := M.put ((M.place n slot.toNat sp : Nat) : Int) d
  if r.2 = 3 then lgo n sp slot.toNat d (sp - M.next sp sp) r.1 else r
 else (M, 1)
def lget (n sp : Nat) (M : Mem) (slot : Int) : List Int × Int :=
 if 0 ≤ slot ∧ slot < n then if M.down then (qkQ 8 0, 2) else (M.view n sp slot.toNat, 0) else (qkQ 8 0, 1)
section
variable {M M' : Mem} {n sp k s : Nat}
theorem qcC (M : Mem) (n s sp : Nat) : M.place n s sp = s ∨ ∃ j, j < sp ∧ M.place n s sp = n + j ∧ M.whose j = (s : Int) + 1 := by
 induction sp with
 | zero => exact .inl rfl
 | succ j ih =>
  simp only [Mem.place]
  by_cases h : M.whose j = (s : Int) + 1
  ·rw [if_pos h]; exact .inr ⟨j, by omega, rfl, h⟩
  ·rw [if_neg h]
   rcases ih with ih | ⟨i, h1, h2, h3⟩
   ·exact .inl ih
   ·exact .inr ⟨i, by omega, h2, h3⟩
theorem qdF (hs : s < n) : M.place n s sp < n + sp := by
 rcases qcC M n s sp with h | ⟨j, h1, h2, _⟩ <;> omega
theorem qjj {s' : Nat} (hs : s < n) (hs' : s' < n) (h : M.place n s sp = M.place n s' sp) : s = s' := by
 rcases qcC M n s sp with h1 | ⟨j, h1, h2, h3⟩ <;> rcases qcC M n s' sp with h4 | ⟨i, h4, h5, h6⟩
 ·omega
 ·omega
 ·omega
 ·have : i = j := by omega
  subst this
  omega
theorem qcD (h : ∀ j, j < sp → (M'.whose j = (s : Int) + 1 ↔ M.whose j = (s : Int) + 1)) : M'.place n s sp = M.place n s sp := by
 induction sp with
 | zero => rfl
 | succ j ih =>
  simp only [Mem.place]
  have := h j (by omega)
  by_cases hj : M.whose j = (s : Int) + 1
  ·rw [if_pos hj, if_pos (this.2 hj)]
  ·rw [if_neg hj, if_neg (fun hh => hj (this.1 hh)), ih fun i hi => h i (by omega)]
theorem qjF {i : Nat} (hi : i < sp) (h : M.whose i = (s : Int) + 1) (hz : ∀ j, i < j → j < sp → M.whose j ≠ (s : Int) + 1) : M.place n s sp = n + i := by
 induction sp with
 | zero => omega
 | succ j ih =>
  simp only [Mem.place]
  by_cases hj : i = j
  ·subst hj; rw [if_pos h]
  ·rw [if_neg (hz j (by omega) (by omega))]
   exact ih (by omega) fun q h1 h2 => hz q h1 (by omega)
theorem LV.next (h : LV M n sp k) : M.next sp sp = k := by
 have key : ∀ j, j ≤ sp → sp - k ≤ j → M.next sp j = k := by
  intro j
  induction j with
  | zero => intro _ h2; simp only [Mem.next]; have := h.kle; omega
  | succ j ih =>
   intro h1 h2
   simp only [Mem.next]
   by_cases hz : M.whose (sp - (j + 1)) = 0
   ·rw [if_pos hz]
    by_cases hlt : sp - (j + 1) < k
    ·have := h.used _ hlt; omega
    ·omega
   ·rw [if_neg hz]
    refine ih (by omega) ?_
    have : sp - (j + 1) < k := by
     rcases Nat.lt_or_ge (sp - (j + 1)) k with hh | hh
     ·exact hh
     ·exact absurd (h.free _ hh (by omega)) hz
    omega
 exact key sp (qkV _) (by omega)
theorem LV.same (h : LV M n sp k) (hr : M'.regs = M.regs) (hl : M'.cs.length = M.cs.length) : LV M' n sp k :=
 ⟨by rw [hl]; exact h.len, h.n1, h.sp16, h.kle, fun i hi => by simp only [Mem.whose, hr]; exact h.used i hi, fun i hi hi' => by simp only [Mem.whose, hr]; exact h.free i hi hi'⟩
theorem qeZ (hr : M.regs.length = 35) {i j : Nat} {v : Int} (hi : i < 16) (hM : M'.regs = M.regs.set (3 + i) v) : M'.whose j = if j = i then v else M.whose j := by
 unfold Mem.whose
 rw [hM]
 simp only [qkP]
 by_cases hij : j = i
 ·subst hij; rw [qlu (by omega), if_pos rfl]; rfl
 ·rw [qle (by omega), if_neg hij]
theorem qcG (hr : M'.regs = M.regs) (hl : (M'.cl (M.place n s sp)).line = (M.cl (M.place n s sp)).line) : M'.view n sp s = M.view n sp s := by
 unfold Mem.view
 rw [qcD (M' := M') (M := M) fun j _ => by simp only [Mem.whose, hr]]
 exact hl
structure LPut (n sp : Nat) (M : Mem) (slot : Nat) (d : List Int) (k : Nat) (M' : Mem) (e : Int) : Prop where
 lv : ∃ k', k ≤ k' ∧ LV M' n sp k' ∧ (e = 3 → k' = sp)
 other : ∀ s, s < n → s ≠ slot → M'.view n sp s = M.view n sp s
 regs : ∀ r, (r < 3 ∨ 19 ≤ r) → M'.regs.getD r 0 = M.regs.getD r 0
 mask : M'.mask = M.mask
 rlen : M'.regs.length = 35
 res : (e = 0 ∧ M'.down = false ∧ M'.view n sp slot = d) ∨ (e = 3 ∧ M'.down = false ∧ M'.view n sp slot = M.view n sp slot) ∨
  (e = 2 ∧ M'.down = true ∧ M.cut ≠ -1 ∧ (M'.view n sp slot = M.view n sp slot ∨ M'.view n sp slot = d ∨ M'.view n sp slot = mixL (M.view n sp slot) d M.mask))
 cut : M.cut = -1 → M'.cut = -1
 cutge : -1 ≤ M'.cut
end
section
variable {M M' : Mem} {n sp k s slot : Nat} {d : List Int}
theorem qhp {i : Nat} {v : Int} (hi : i < 16) (hM : M'.regs = M.regs.set (3 + i) v) : ∀ r, (r < 3 ∨ 19 ≤ r) → M'.regs.getD r 0 = M.regs.getD r 0 := by
 intro r hr
 rw [hM]
 simp only [qkP]
 rw [qle (by omega)]
theorem qdj (h : M'.cs = M.cs) (i : Nat) : M'.cl i = M.cl i := by unfold Mem.cl; rw [h]
theorem qi2 {i : Nat} {e : Int} {l : List Int} (hP : PutAny M (n + i) l M' e) (hz : ∀ s, s < n → M.whose i ≠ (s : Int) + 1) (hs : s < n) : M'.view n sp s = M.view n sp s := by
 refine qcG hP.regs ?_
 rw [hP.other]
 intro h
 rcases qcC M n s sp with h1 | ⟨j, h1, h2, h3⟩
 ·omega
 ·have : j = i := by omega
  subst this
  exact hz s hs h3
theorem LV.take (h : LV M n sp k) (hr : M.regs.length = 35) (hk : k < sp) {v : Int} (hv : 1 ≤ v ∧ v ≤ (n : Int) + 1) (hM : M'.regs = M.regs.set (3 + k) v) (hl : M'.cs.length = M.cs.length) : LV M' n sp (k + 1) := by
 have hsp := h.sp16
 have hw := fun j => qeZ (M' := M') (M := M) (j := j) hr (show k < 16 by omega) hM
 refine ⟨by rw [hl]; exact h.len, h.n1, h.sp16, by omega, fun i hi => ?_, fun i hi hi' => ?_⟩
 ·rw [hw i]
  by_cases hik : i = k
  ·rw [if_pos hik]; exact hv
  ·rw [if_neg hik]; exact h.used i (by omega)
 ·rw [hw i, if_neg (by omega)]; exact h.free i (by omega) hi'
theorem qgF (h : LV M n sp k) (hr : M.regs.length = 35) (hk : k < sp) {v : Int} (hM : M'.regs = M.regs.set (3 + k) v) (hcs : M'.cs = M.cs) (hs : s < n) (hv : v ≠ (s : Int) + 1) : M'.view n sp s = M.view n sp s := by
 have hsp := h.sp16
 unfold Mem.view
 rw [qdj hcs, qcD (M' := M') (M := M)]
 intro j hj
 rw [qeZ hr (by omega) hM]
 by_cases hjk : j = k
 ·rw [if_pos hjk]
  subst hjk
  have := h.free j (qkV _) hj
  constructor
  ·intro e; exact absurd e hv
  ·intro e; omega
 ·rw [if_neg hjk]
theorem qf8 (h : LV M n sp k) (hr : M.regs.length = 35) (hk : k < sp) (hM : M'.regs = M.regs.set (3 + k) ((slot : Int) + 1)) (hcs : M'.cs = M.cs) : M'.view n sp slot = (M.cl (n + k)).line := by
 have hsp := h.sp16
 have hw := fun j => qeZ (M' := M') (M := M) (j := j) hr (show k < 16 by omega) hM
 unfold Mem.view
 rw [qdj hcs, qjF (i := k) hk (by rw [hw k, if_pos rfl])]
 intro j h1 h2
 rw [hw j, if_neg (by omega), h.free j (by omega) h2]
 omega
theorem lgo_any : ∀ (j : Nat) (M : Mem), j ≤ sp → LV M n sp (sp - j) → M.regs.length = 35 → M.down = false → -1 ≤ M.cut → slot < n → d.length = 8 →
  LPut n sp M slot d (sp - j) (lgo n sp slot d j M).1 (lgo n sp slot d j M).2 := by
 intro j
 induction j with
 | zero =>
  intro M _ h hr hd hc hs hl
  exact ⟨⟨sp, by omega, h, fun _ => rfl⟩, fun s _ _ => rfl, fun r _ => rfl, rfl, hr, .inr (.inl ⟨rfl, hd, rfl⟩), id, hc⟩
 | succ j ih =>
  intro M hj h hr hd hc hs hl
  have hsp := h.sp16
  have hlen := h.len
  have hk : sp - (j + 1) < sp := by omega
  have hz := h.free _ (qkV _) hk
  have hP := Mem.put_any (M := M) (i := n + (sp - (j + 1))) (l := d) hd (by omega) hl hc
  have hzz : ∀ s, s < n → M.whose (sp - (j + 1)) ≠ (s : Int) + 1 := fun s _ => by omega
  have hkeq : sp - j = sp - (j + 1) + 1 := by omega
  unfold lgo
  simp only
  generalize hR : M.put ((n + (sp - (j + 1)) : Nat) : Int) d = R at *
  generalize sp - (j + 1) = k at *
  have h1 : LV R.1 n sp k := h.same hP.regs hP.len
  have hr1 : R.1.regs.length = 35 := by rw [hP.regs]; exact hr
  have hv1 : ∀ s, s < n → R.1.view n sp s = M.view n sp s := fun s hs => qi2 hP hzz hs
  have hregs1 : ∀ r, R.1.regs.getD r 0 = M.regs.getD r 0 := fun r => by rw [hP.regs]
  have set : ∀ v, R.1.down = false → SetAny R.1 (3 + k) v (R.1.set ((3 + k : Nat) : Int) v).1 (R.1.set ((3 + k : Nat) : Int) v).2 := fun v hd1 => Mem.set_any hd1 (by omega) hP.cutge
  rcases hP.res with ⟨e, hd1, _, hline⟩ | ⟨e, hd1, _, _⟩ | ⟨e, hd1, hcut, _⟩
  ·rw [if_pos e]
   have hS := set ((slot : Int) + 1) hd1
   generalize R.1.set ((3 + k : Nat) : Int) ((slot : Int) + 1) = Q at *
   have hcl : Q.1.cs.length = R.1.cs.length := by rw [hS.cs]
   have hother : ∀ s, s < n → s ≠ slot → (Q.1.regs = R.1.regs ∨ Q.1.regs = R.1.regs.set (3 + k) ((slot : Int) + 1)) → Q.1.view n sp s = M.view n sp s := by
    intro s hs hne hor
    rw [← hv1 s hs]
    rcases hor with hor | hor
    ·exact qcG hor (by rw [qdj hS.cs])
    ·exact qgF h1 hr1 hk hor hS.cs hs (by omega)
   have hregs : ∀ r, (r < 3 ∨ 19 ≤ r) → (Q.1.regs = R.1.regs ∨ Q.1.regs = R.1.regs.set (3 + k) ((slot : Int) + 1)) → Q.1.regs.getD r 0 = M.regs.getD r 0 := by
    intro r hr hor
    rw [← hregs1 r]
    rcases hor with hor | hor
    ·rw [hor]
    ·exact qhp (by omega) hor r hr
   rcases hS.res with ⟨e', hd', hq⟩ | ⟨e', hd', hcut, hq⟩
   ·refine ⟨⟨k + 1, by omega, h1.take hr1 hk (by omega) hq hcl, by omega⟩, fun s hs hne => hother s hs hne (.inr hq), fun r hr => hregs r hr (.inr hq), hS.mask.trans hP.mask, by rw [hq]; simpa using hr1, .inl ⟨e', hd', ?_⟩, fun hc => hS.cut (hP.cut hc), hS.cutge⟩
    rw [qf8 h1 hr1 hk hq hS.cs, hline]
   ·refine ⟨?_, fun s hs hne => hother s hs hne hq, fun r hr => hregs r hr hq, hS.mask.trans hP.mask, ?_, .inr (.inr ⟨e', hd', fun hc => hcut (hP.cut hc), ?_⟩), fun hc => hS.cut (hP.cut hc), hS.cutge⟩
    ·rcases hq with hq | hq
     ·exact ⟨k, qkV _, h1.same hq hcl, by omega⟩
     ·exact ⟨k + 1, by omega, h1.take hr1 hk (by omega) hq hcl, by omega⟩
    ·rcases hq with hq | hq
     ·rw [hq]; exact hr1
     ·rw [hq]; simpa using hr1
    ·rcases hq with hq | hq
     ·left
      rw [← hv1 slot hs]
      exact qcG hq (by rw [qdj hS.cs])
     ·right; left
      rw [qf8 h1 hr1 hk hq hS.cs, hline]
  ·rw [if_neg (by omega), if_pos e]
   have hS := set ((n : Int) + 1) hd1
   generalize R.1.set ((3 + k : Nat) : Int) ((n : Int) + 1) = Q at *
   have hcl : Q.1.cs.length = R.1.cs.length := by rw [hS.cs]
   have hother : ∀ s, s < n → (Q.1.regs = R.1.regs ∨ Q.1.regs = R.1.regs.set (3 + k) ((n : Int) + 1)) → Q.1.view n sp s = M.view n sp s := by
    intro s hs hor
    rw [← hv1 s hs]
    rcases hor with hor | hor
    ·exact qcG hor (by rw [qdj hS.cs])
    ·exact qgF h1 hr1 hk hor hS.cs hs (by omega)
   have hregs : ∀ r, (r < 3 ∨ 19 ≤ r) → (Q.1.regs = R.1.regs ∨ Q.1.regs = R.1.regs.set (3 + k) ((n : Int) + 1)) → Q.1.regs.getD r 0 = M.regs.getD r 0 := by
    intro r hr hor
    rw [← hregs1 r]
    rcases hor with hor | hor
    ·rw [hor]
    ·exact qhp (by omega) hor r hr
   rcases hS.res with ⟨e', hd', hq⟩ | ⟨e', hd', hcut, hq⟩
   ·rw [if_pos e']
    have h2 := h1.take hr1 hk (by have := h.n1; omega) hq hcl
    rw [← hkeq] at h2
    have hI := ih Q.1 (by omega) h2 (by rw [hq]; simpa using hr1) hd' hS.cutge hs hl
    generalize lgo n sp slot d j Q.1 = Z at *
    obtain ⟨⟨k', hk', hlv, he⟩, i2, i3, i4, i5, i6, i7, i8⟩ := hI
    refine ⟨⟨k', by omega, hlv, he⟩, fun s hs hne => (i2 s hs hne).trans (hother s hs (.inr hq)), fun r hr => (i3 r hr).trans (hregs r hr (.inr hq)), i4.trans (hS.mask.trans hP.mask), i5, ?_, fun hc => i7 (hS.cut (hP.cut hc)), i8⟩
    have hvs := hother slot hs (.inr hq)
    rw [hvs] at i6
    rcases i6 with i6 | i6 | ⟨a, b, c, i6⟩
    ·exact .inl i6
    ·exact .inr (.inl i6)
    ·refine .inr (.inr ⟨a, b, fun hc => c (hS.cut (hP.cut hc)), ?_⟩)
     rw [hS.mask, hP.mask] at i6
     exact i6
   ·rw [if_neg (by omega)]
    refine ⟨?_, fun s hs _ => hother s hs hq, fun r hr => hregs r hr hq, hS.mask.trans hP.mask, ?_, .inr (.inr ⟨e', hd', fun hc => hcut (hP.cut hc), .inl (hother slot hs hq)⟩), fun hc => hS.cut (hP.cut hc), hS.cutge⟩
    ·rcases hq with hq | hq
     ·exact ⟨k, qkV _, h1.same hq hcl, by omega⟩
     ·exact ⟨k + 1, by omega, h1.take hr1 hk (by have := h.n1; omega) hq hcl, by omega⟩
    ·rcases hq with hq | hq
     ·rw [hq]; exact hr1
     ·rw [hq]; simpa using hr1
  ·rw [if_neg (by omega), if_neg (by omega)]
   exact ⟨⟨k, qkV _, h1, by omega⟩, fun s hs _ => hv1 s hs, fun r _ => hregs1 r, hP.mask, hr1, .inr (.inr ⟨e, hd1, hcut, .inl (hv1 slot hs)⟩), hP.cut, hP.cutge⟩
theorem qhc (h : LV M n sp k) (hr : M.regs.length = 35) (hd : M.down = false) (hc : -1 ≤ M.cut) (hs : slot < n) (hl : d.length = 8) :
  LPut n sp M slot d k (lput n sp M slot d).1 (lput n sp M slot d).2 := by
 have hlen := h.len
 have hpl := qdF (M := M) (sp := sp) hs
 unfold lput
 rw [if_pos ⟨by omega, by omega⟩, if_neg (by simp [hd]), qkS]
 simp only
 have hP := Mem.put_any (M := M) (i := M.place n slot sp) (l := d) hd (by omega) hl hc
 rw [h.next]
 generalize M.put ((M.place n slot sp : Nat) : Int) d = R at *
 have h1 : LV R.1 n sp k := h.same hP.regs hP.len
 have hr1 : R.1.regs.length = 35 := by rw [hP.regs]; exact hr
 have hother : ∀ s, s < n → s ≠ slot → R.1.view n sp s = M.view n sp s := by
  intro s hs' hne
  refine qcG hP.regs ?_
  rw [hP.other _ fun e => hne (qjj hs' hs e)]
 have hplace : R.1.place n slot sp = M.place n slot sp := qcD fun j _ => by simp only [Mem.whose, hP.regs]
 have hslot : R.1.view n sp slot = (R.1.cl (M.place n slot sp)).line := by unfold Mem.view; rw [hplace]
 have hold : M.view n sp slot = (M.cl (M.place n slot sp)).line := rfl
 rcases hP.res with ⟨e, hd1, _, hline⟩ | ⟨e, hd1, _, hsame⟩ | ⟨e, hd1, hcut, hline⟩
 ·rw [if_neg (by omega)]
  exact ⟨⟨k, qkV _, h1, by omega⟩, hother, fun r _ => by rw [hP.regs], hP.mask, hr1, .inl ⟨e, hd1, by rw [hslot, hline]⟩, hP.cut, hP.cutge⟩
 ·rw [if_pos e]
  have hkle := h.kle
  have hI := lgo_any (n := n) (sp := sp) (slot := slot) (d := d) (sp - k) R.1 (by omega) (by rw [show sp - (sp - k) = k by omega]; exact h1) hr1 hd1 hP.cutge hs hl
  rw [show sp - (sp - k) = k by omega] at hI
  generalize lgo n sp slot d (sp - k) R.1 = Z at *
  obtain ⟨i1, i2, i3, i4, i5, i6, i7, i8⟩ := hI
  have hvs : R.1.view n sp slot = M.view n sp slot := by rw [hslot, hsame, hold]
  refine ⟨i1, fun s hs' hne => (i2 s hs' hne).trans (hother s hs' hne), fun r hr => (i3 r hr).trans (by rw [hP.regs]), i4.trans hP.mask, i5, ?_, fun hc => i7 (hP.cut hc), i8⟩
  rw [hvs, hP.mask] at i6
  rcases i6 with i6 | i6 | ⟨a, b, c, i6⟩
  ·exact .inl i6
  ·exact .inr (.inl i6)
  ·exact .inr (.inr ⟨a, b, fun hc => c (hP.cut hc), i6⟩)
 ·rw [if_neg (by omega)]
  refine ⟨⟨k, qkV _, h1, by omega⟩, hother, fun r _ => by rw [hP.regs], hP.mask, hr1, .inr (.inr ⟨e, hd1, hcut, ?_⟩), hP.cut, hP.cutge⟩
  rw [hslot, hold]
  rcases hline with hline | hline
  ·exact .inl hline
  ·exact .inr (.inr hline)
end
def lobj (p : Nat) (n sp : Nat) : AObj := ⟨[.pointer (some ⟨p, 0, none⟩), .int .i64 n, .int .i64 sp], .rw, 0⟩
structure LAt (H : AH) (x p c n sp : Nat) (M : Mem) : Prop where
 hx : H.get x = lobj p n sp
 lx : x < H.size
 xp : x ≠ p
 xc : x ≠ c
 m : qv H p c M
 len : M.cs.length = n + sp
 n1 : 1 ≤ n
 sp16 : sp ≤ 16
def tblL (M : Mem) (sp : Nat) : List Int := (qlw sp).map M.whose
def tblO (M : Mem) (sp : Nat) : AObj := ⟨(tblL M sp).flatMap wU, .rw, 1⟩
def placeT (t : List Int) (n s : Nat) : Nat → Nat
 | 0 => s
 | j + 1 => if t.getD j 0 = (s : Int) + 1 then n + j else placeT t n s j
def nextT (t : List Int) : Nat → Nat
 | 0 => t.length
 | j + 1 => if t.getD (t.length - (j + 1)) 0 = 0 then t.length - (j + 1) else nextT t j
def leftT (t : List Int) : Nat → Nat
 | 0 => 0
 | j + 1 => leftT t j + if t.getD j 0 = 0 then 1 else 0
def mayAt (t : List Int) (n : Int) (i : Nat) : Prop := t.getD i 0 ≤ n + 1 ∧ (0 < i → t.getD i 0 ≠ 0 → t.getD (i - 1) 0 ≠ 0)
instance (t : List Int) (n : Int) (i : Nat) : Decidable (mayAt t n i) := by unfold mayAt; infer_instance
def MayT (t : List Int) (n : Int) : Prop := 1 ≤ n ∧ ∀ i, i < t.length → mayAt t n i
instance (t : List Int) (n : Int) : Decidable (MayT t n) := by unfold MayT; infer_instance
theorem qbp (M : Mem) (sp : Nat) : (tblL M sp).length = sp := by simp [tblL]
theorem qdH (M : Mem) {sp j : Nat} (h : j < sp) : (tblL M sp).getD j 0 = M.whose j := by simp [tblL, qkP, h]
theorem qjP (M : Mem) (n s : Nat) {sp : Nat} : ∀ j, j ≤ sp → placeT (tblL M sp) n s j = M.place n s j := by
 intro j
 induction j with
 | zero => intro _; rfl
 | succ j ih => intro h; simp only [placeT, Mem.place, qdH M (show j < sp by omega), ih (by omega)]
theorem qj8 (M : Mem) {sp : Nat} : ∀ j, j ≤ sp → nextT (tblL M sp) j = M.next sp j := by
 intro j
 induction j with
 | zero => intro _; simp [nextT, Mem.next, qbp]
 | succ j ih => intro h; simp only [nextT, Mem.next, qbp, qdH M (show sp - (j + 1) < sp by omega), ih (by omega)]
theorem qku (t : List Int) : ∀ j, leftT t j ≤ j := by
 intro j
 induction j with
 | zero => simp [leftT]
 | succ j ih => simp only [leftT]; split <;> omega
section
variable {H : AH} {x p c n sp : Nat} {M : Mem} {i slot : Int}
theorem LAt.cell (h : LAt H x p c n sp M) (i : Nat) : AH.cell? H (qkN ⟨x, 0, none⟩ i) = (lobj p n sp).cells[i]? := by
 rw [ql, qla]
 simp only [AH.cell?, h.hx, qk7, qkW, if_false]
 rw [if_neg (by simp [lobj])]
theorem LAt.c0 (h : LAt H x p c n sp M) : AH.cell? H (qkN ⟨x, 0, none⟩ 0) = some (.pointer (some ⟨p, 0, none⟩)) := h.cell 0
theorem LAt.c1 (h : LAt H x p c n sp M) : AH.cell? H (qkN ⟨x, 0, none⟩ 1) = some (.int .i64 n) := h.cell 1
theorem LAt.c2 (h : LAt H x p c n sp M) : AH.cell? H (qkN ⟨x, 0, none⟩ 2) = some (.int .i64 sp) := h.cell 2
theorem LAt.keeps {H' : AH} (h : LAt H x p c n sp M) (hk : qa H H') : LAt H' x p c n sp M :=
 ⟨by rw [hk.2 x h.lx, h.hx], by have := hk.1; have := h.lx; omega, h.xp, h.xc, h.m.keeps hk, h.len, h.n1, h.sp16⟩
theorem LAt.push (h : LAt H x p c n sp M) (o : AObj) : LAt (H.push o) x p c n sp M := h.keeps ((qa.refl H).push o)
theorem LAt.set {M' : Mem} (h : LAt H x p c n sp M) (hok : M'.ok) (hl : M'.cs.length = M.cs.length) : LAt (setM H p c M') x p c n sp M' :=
 ⟨by rw [qcv h.xp h.xc, h.hx], h.lx, h.xp, h.xc, h.m.set hok, by rw [hl]; exact h.len, h.n1, h.sp16⟩
theorem LAt.n200 (h : LAt H x p c n sp M) : n + sp ≤ 200 := by have := h.len; have := h.m.ok.len; omega
theorem qdQ {α : Type} {z : Nat} {f : α → List Value} {l : List α} {s : Sl} {H' : AH} {b : Nat} (hf : ∀ x, (f x).length = z) (hc : ∀ x, (f x).all qo = true) (h : SlAt b l.length s) (hb : b < H'.size) (hg : H'.get b = ⟨l.flatMap f, .rw, z⟩) : qli H' s z f l :=
 (h.own (B := 0) (qlY _) hb hg).rows hf hc
theorem Mem.reg_up {j : Nat} (hd : M.down = false) (hj : j < 16) : M.reg ((3 : Int) + j) = (M.whose j, 0) := by
 unfold Mem.reg
 rw [if_pos (by unfold regIn; omega), if_neg (by simp [hd])]
 have : ((3 : Int) + j).toNat = 3 + j := by omega
 rw [this]; rfl
theorem qeb.s {k : Sl → Int → AH → Prop} (h : LAt H x p c n sp M) (h0 : M.down = true → k ⟨none, 0, 0⟩ 2 H) (h1 : M.down = false → ∀ s, SlAt H.size sp s → k s 0 (H.push (tblO M sp))) : qD (some ⟨x, 0, none⟩) H k := by
 have hsp := h.sp16
 have hn := h.n200
 by_cases hd : M.down = true
 ·refine qD.link ?_
  unfold qD.b
  rw [qd, h.c2, qg]
  refine ⟨1, ?_⟩
  show qD.l2 _ _ _ _ _ _
  unfold qD.l2 qD.j1
  simp only [qj, decide_eq_true_eq, qd, h.c0, qC]
  by_cases hz : (0 : Int) < (sp : Int)
  ·rw [if_pos hz]
   refine qE.s h.m ?_
   rw [qe (n := (3 : Int) + 0) (by omega) (by omega)]
   have : M.reg (3 + 0) = (0, 2) := by unfold Mem.reg; rw [if_pos (by unfold regIn; omega), if_pos hd]
   rw [this, if_pos (by simp)]
   exact h0 hd
  ·rw [if_neg hz]
   refine qW.s h.m ?_
   rw [hd, if_pos rfl]
   exact h0 hd
 ·have hd' : M.down = false := by simpa using hd
  refine canonS2 (μ := .int .i64) (u := 0) (l := tblL M sp) (g := wU) (z := 1) (H2 := H) (by simp) rfl (fun _ _ => rfl) (qD.link ?_) (fun s hs => h1 hd' s (by rw [qbp] at hs; exact hs))
  unfold qD.b
  rw [qd, h.c2, qg]
  refine qL (t := ((⟨none, 0, 0⟩, (0 : Int), ⟨none, 0, 0⟩, (0 : Int)) : Sl × Int × Sl × Int)) (I := fun (t : Sl × Int × Sl × Int) H' => ∃ j : Nat, t.2.2.2 = (j : Int) ∧ j ≤ sp ∧ qa H H' ∧ Own H.size H' t.2.2.1 1 wU (tblL M j)) (m := fun (t : Sl × Int × Sl × Int) _ => qkX ((sp : Int) - t.2.2.2)) ?_ ⟨0, rfl, by omega, qa.refl _, .inl ⟨rfl, rfl⟩⟩
  intro t H1 hI it hit
  obtain ⟨t1, t2, t3, t4⟩ := t
  obtain ⟨j, e1, hj, hK, hO⟩ := hI
  simp only at e1 hO
  subst e1
  have hL := h.keeps hK
  unfold qD.l2 qD.j1
  simp only [qj, decide_eq_true_eq, qd, hL.c0, qC]
  by_cases hz : (j : Int) < (sp : Int)
  ·rw [if_pos hz, qe (n := (3 : Int) + j) (by omega) (by omega)]
   refine qE.s hL.m ?_
   rw [Mem.reg_up hd' (by omega), if_neg (by simp)]
   simp only [qt]
   refine qbL (H0 := H) (B := H.size) (f := wU) (x := M.whose j) (l := tblL M j) (fun _ => rfl) rfl hO (qkV _) hK.1 hK (by rw [qbp]; simp only [lim]; omega) ?_
   intro s' H' hO' hK' _ _
   rw [qe (n := (j : Int) + 1) (by omega) (by omega)]
   refine hit _ _ ⟨j + 1, by simp, by omega, hK', ?_⟩ (by simp only; omega)
   have : tblL M (j + 1) = tblL M j ++ [M.whose j] := by simp [tblL, List.range_succ]
   rw [this]; exact hO'
  ·rw [if_neg hz]
   refine qW.s hL.m ?_
   rw [hd', if_neg (by simp)]
   have : j = sp := by omega
   subst this
   exact ⟨At.of_keeps hK, hO, trivial⟩
variable {t : List Int} {sl : Sl}
theorem qbK.s {k : Int → AH → Prop} {n : Int} (h : 1 ≤ n ∧ n ≤ 1000000) (hk : k (n + 1) H) : qbK n H k := by
 refine qbK.link ?_
 unfold qbK.b
 simp only [qj, decide_eq_true_eq]
 rw [if_neg (by omega), qbe (n := n) (by omega) (by omega), qbe (by omega) (by omega)]
 exact hk
theorem cellT (hR : qli H sl 1 wU t) {j : Nat} (hj : j < t.length) : ∃ ad, sl.a = some ad ∧ AH.cell? H (qkN ad (j * 1)) = some (.int .u64 (t.getD j 0)) := by
 obtain ⟨b, o, h1, _, h3⟩ := rows1 (g := fun v => qkL .u64 v) hR hj
 exact ⟨_, h1, by rw [h3, qkP, qkO hj]; rfl⟩
theorem qam.s {k : Int → AH → Prop} {n slot : Nat} (hR : qli H sl 1 wU t) (ht : t.length ≤ 16) (hs : slot < n) (hn : n ≤ 1000000) (hk : k (placeT t n slot t.length : Nat) H) : qam sl n slot H k := by
 refine qam.link ?_
 unfold qam.b qam.j2
 simp only [qj, decide_eq_true_eq]
 rw [if_neg (by omega), if_neg (by omega), hR.1, qe (n := (t.length : Int) - 1) (by omega) (by omega)]
 refine qL (t := (((0 : Int), ((t.length : Int) - 1)) : Int × Int)) (I := fun (t' : Int × Int) H' => H' = H ∧ ∃ j : Nat, t'.2 = (j : Int) - 1 ∧ j ≤ t.length ∧ placeT t n slot t.length = placeT t n slot j) (m := fun (t' : Int × Int) _ => qkX (t'.2 + 1)) ?_ ⟨rfl, t.length, rfl, qkV _, rfl⟩
 intro t' H1 hI it hit
 obtain ⟨t1, t2⟩ := t'
 obtain ⟨rfl, j, e, hj, hp⟩ := hI
 simp only at e
 subst e
 unfold qam.l1
 simp only [qj, decide_eq_true_eq, hR.1]
 by_cases h0 : (j : Int) - 1 ≥ 0
 ·rw [if_pos h0]
  refine ⟨by omega, ?_⟩
  obtain ⟨i, rfl⟩ : ∃ i, j = i + 1 := ⟨j - 1, by omega⟩
  obtain ⟨ad, ha, hc⟩ := cellT hR (j := i) (by omega)
  have e1 : (((i + 1 : Nat) : Int) - 1).toNat = i := by omega
  rw [ha, qd, e1, hc, qg, qbe (n := (slot : Int)) (by omega) (by omega), qbe (n := (slot : Int) + 1) (by omega) (by omega)]
  simp only [beq_iff_eq]
  simp only [placeT] at hp
  by_cases hw : t.getD i 0 = (slot : Int) + 1
  ·rw [if_pos hw] at hp ⊢
   rw [qe (by omega) (by omega)]
   rw [hp] at hk
   have : (n : Int) + (((i + 1 : Nat) : Int) - 1) = ((n + i : Nat) : Int) := by omega
   rw [this]; exact hk
  ·rw [if_neg hw] at hp ⊢
   rw [qe (by omega) (by omega)]
   exact hit _ _ ⟨rfl, i, by simp only; omega, by omega, hp⟩ (by simp only; omega)
 ·rw [if_neg h0]
  have : j = 0 := by omega
  subst this
  rw [hp] at hk
  exact hk
theorem qa7.s {k : Int → AH → Prop} (hR : qli H sl 1 wU t) (ht : t.length ≤ 16) (h1 : nextT t t.length < t.length → k (nextT t t.length : Nat) H) (h0 : nextT t t.length = t.length → k (-1) H) : qa7 sl H k := by
 refine qa7.link ?_
 unfold qa7.b
 refine qL (t := (((0 : Int), (0 : Int)) : Int × Int)) (I := fun (t' : Int × Int) H' => H' = H ∧ ∃ j : Nat, t'.2 = (j : Int) ∧ j ≤ t.length ∧ nextT t t.length = nextT t (t.length - j)) (m := fun (t' : Int × Int) _ => qkX ((t.length : Int) - t'.2)) ?_ ⟨rfl, 0, rfl, qlY _, rfl⟩
 intro t' H1 hI it hit
 obtain ⟨t1, t2⟩ := t'
 obtain ⟨rfl, j, e, hj, hp⟩ := hI
 simp only at e
 subst e
 unfold qa7.l1
 simp only [qj, decide_eq_true_eq, hR.1]
 by_cases hlt : (j : Int) < (t.length : Int)
 ·rw [if_pos hlt]
  refine ⟨by omega, ?_⟩
  obtain ⟨ad, ha, hc⟩ := cellT hR (j := j) (by omega)
  rw [ha, qd, qkS, hc, qg]
  simp only [beq_iff_eq]
  obtain ⟨q, hq⟩ : ∃ q, t.length - j = q + 1 := ⟨t.length - j - 1, by omega⟩
  have e1 : t.length - (q + 1) = j := by omega
  rw [hq] at hp
  simp only [nextT, e1] at hp
  by_cases hw : t.getD j 0 = 0
  ·rw [if_pos hw] at hp ⊢
   rw [hp] at h1
   exact h1 (by omega)
  ·rw [if_neg hw] at hp ⊢
   rw [qe (by omega) (by omega)]
   exact hit _ _ ⟨rfl, j + 1, by simp, by omega, by rw [hp, show t.length - (j + 1) = q by omega]⟩ (by simp only; omega)
 ·rw [if_neg hlt]
  have e2 : t.length - j = 0 := by omega
  rw [e2] at hp
  exact h0 hp
theorem qaX.s {k : Int → AH → Prop} (hR : qli H sl 1 wU t) (ht : t.length ≤ 16) (hk : k (leftT t t.length : Nat) H) : qaX sl H k := by
 refine qaX.link ?_
 unfold qaX.b
 refine qL (t := (((0 : Int), (0 : Int)) : Int × Int)) (I := fun (t' : Int × Int) H' => H' = H ∧ ∃ j : Nat, t'.2 = (j : Int) ∧ j ≤ t.length ∧ t'.1 = (leftT t j : Nat)) (m := fun (t' : Int × Int) _ => qkX ((t.length : Int) - t'.2)) ?_ ⟨rfl, 0, rfl, qlY _, rfl⟩
 intro t' H1 hI it hit
 obtain ⟨t1, t2⟩ := t'
 obtain ⟨rfl, j, e, hj, hp⟩ := hI
 simp only at e hp
 subst e hp
 have hle := qku t j
 unfold qaX.l1
 simp only [qj, decide_eq_true_eq, hR.1]
 by_cases hlt : (j : Int) < (t.length : Int)
 ·rw [if_pos hlt]
  refine ⟨by omega, ?_⟩
  obtain ⟨ad, ha, hc⟩ := cellT hR (j := j) (by omega)
  rw [ha, qd, qkS, hc, qg]
  simp only [beq_iff_eq]
  rw [qe (n := (j : Int) + 1) (by omega) (by omega)]
  by_cases hw : t.getD j 0 = 0
  ·rw [if_pos hw, qe (by omega) (by omega)]
   exact hit _ _ ⟨rfl, j + 1, by simp, by omega, by simp only [leftT]; rw [if_pos hw]; omega⟩ (by simp only; omega)
  ·rw [if_neg hw]
   exact hit _ _ ⟨rfl, j + 1, by simp, by omega, by simp only [leftT]; rw [if_neg hw]; omega⟩ (by simp only; omega)
 ·rw [if_neg hlt]
  have : j = t.length := by omega
  subst this
  exact hk
theorem qaA.s {k : Bool → AH → Prop} {n : Int} (hR : qli H sl 1 wU t) (ht : t.length ≤ 16) (htn : ∀ v ∈ t, 0 ≤ v) (hn : 1 ≤ n ∧ n ≤ 1000000) (hk : k (decide (MayT t n)) H) : qaA sl n H k := by
 refine qaA.link ?_
 unfold qaA.b
 refine qL (t := ((false, (0 : Int)) : Bool × Int)) (I := fun (t' : Bool × Int) H' => H' = H ∧ ∃ j : Nat, t'.2 = (j : Int) ∧ j ≤ t.length ∧ ∀ i, i < j → mayAt t n i) (m := fun (t' : Bool × Int) _ => qkX ((t.length : Int) - t'.2)) ?_ ⟨rfl, 0, rfl, qlY _, fun i hi => by omega⟩
 intro t' H1 hI it hit
 obtain ⟨t1, t2⟩ := t'
 obtain ⟨rfl, j, e, hj, hall⟩ := hI
 simp only at e
 subst e
 unfold qaA.l2 qaA.j1
 simp only [qj, decide_eq_true_eq, hR.1]
 by_cases hlt : (j : Int) < (t.length : Int)
 ·rw [if_pos hlt]
  refine ⟨by omega, ?_⟩
  obtain ⟨ad, ha, hc⟩ := cellT hR (j := j) (by omega)
  rw [ha, qd, qkS, hc, qg]
  refine qbK.s hn ?_
  rw [qe (n := (j : Int) + 1) (by omega) (by omega)]
  have bad : ¬ mayAt t n j → k false H1 := by
   intro hb
   rw [decide_eq_false (fun hM => hb (hM.2 j (by omega)))] at hk
   exact hk
  have good : mayAt t n j → it (t1, (j : Int) + 1) H1 := by
   intro hg
   refine hit _ _ ⟨rfl, j + 1, by simp, by omega, fun i hi => ?_⟩ (by simp only; omega)
   rcases Nat.lt_or_ge i j with h | h
   ·exact hall i h
   ·have : i = j := by omega
    subst this; exact hg
  by_cases h1 : t.getD j 0 > n + 1
  ·rw [if_pos h1]; exact bad (fun h => by have := h.1; omega)
  ·rw [if_neg h1]
   by_cases h2 : (j : Int) > 0
   ·rw [if_pos h2]
    by_cases h3 : t.getD j 0 = 0
    ·rw [if_neg (by rw [h3]; simp)]
     exact good ⟨by omega, fun _ hh => absurd h3 hh⟩
    ·rw [if_pos (by simpa using h3), qe (by omega) (by omega)]
     refine ⟨by omega, ?_⟩
     obtain ⟨ad', ha', hc'⟩ := cellT hR (j := j - 1) (by omega)
     rw [ha] at ha'
     injection ha' with ha'
     subst ha'
     have e1 : ((j : Int) - 1).toNat = j - 1 := by omega
     rw [qd, e1, hc', qg]
     by_cases h4 : t.getD (j - 1) 0 = 0
     ·rw [if_pos (by simpa using h4)]
      exact bad (fun h => h.2 (by omega) h3 h4)
     ·rw [if_neg (by simpa using h4)]
      exact good ⟨by omega, fun _ _ => h4⟩
   ·rw [if_neg h2]
    exact good ⟨by omega, fun h => by omega⟩
 ·rw [if_neg hlt]
  have : j = t.length := by omega
  subst this
  rw [show decide (n ≥ 1) = decide (MayT t n) from decide_eq_decide.2 ⟨fun h => ⟨h, hall⟩, fun h => h.1⟩]
  exact hk
end
section
variable {H : AH} {x p c n sp : Nat} {M : Mem} {slot : Int}
theorem qfe.s {k : Int → Sl → Int → AH → Prop} (h : LAt H x p c n sp M) (h1 : ¬ (0 ≤ slot ∧ slot < n) → k 0 ⟨none, 0, 0⟩ 1 H) (h2 : 0 ≤ slot ∧ slot < n → M.down = true → k slot ⟨none, 0, 0⟩ 2 H)
  (h3 : 0 ≤ slot ∧ slot < n → M.down = false → ∀ s, SlAt H.size sp s → k (M.place n slot.toNat sp : Nat) s 0 (H.push (tblO M sp))) : qab (some ⟨x, 0, none⟩) slot H k := by
 have hn := h.n200
 have hsp := h.sp16
 refine qab.link ?_
 unfold qab.b qab.j1
 simp only [qk1, qj, qkW, if_false, if_true, qd, h.c1, qg, decide_eq_true_eq]
 by_cases hs : slot < 0
 ·rw [if_pos hs]; exact h1 (by omega)
 rw [if_neg hs]
 by_cases hs' : slot ≥ (n : Int)
 ·rw [if_pos hs']; exact h1 (by omega)
 rw [if_neg hs']
 obtain ⟨sl, rfl⟩ := qk9 (show 0 ≤ slot by omega)
 refine qeb.s h ?_ ?_
 ·intro hd
  rw [h.c1, qg]
  refine qam.s (t := []) qfz (by simp) (by omega) (by omega) ?_
  exact h2 ⟨by omega, by omega⟩ hd
 ·intro hd s hs
  have hL := h.push (tblO M sp)
  rw [hL.c1, qg]
  have hR : qli (H.push (tblO M sp)) s 1 wU (tblL M sp) := qdQ (b := H.size) (fun _ => rfl) (fun _ => rfl) (by rw [qbp]; exact hs) (by simp [qi]) (by rw [qp, if_pos rfl]; rfl)
  refine qam.s hR (by rw [qbp]; exact hsp) (by omega) (by omega) ?_
  rw [qbp, qjP _ _ _ _ (qkV _)]
  exact h3 ⟨by omega, by omega⟩ hd s hs
def lleft (M : Mem) (sp : Nat) : Nat := if M.down then 0 else leftT (tblL M sp) sp
theorem qix.s {k : Int → AH → Prop} (h : LAt H x p c n sp M) (hk : k (lleft M sp : Nat) H) : qbo (some ⟨x, 0, none⟩) H k := by
 refine qco (κ := .int .i64) (by simp) rfl (qbo.link ?_) hk
 unfold qbo.b
 simp only [qk1, qj, qkW, if_false]
 unfold lleft
 refine qeb.s h ?_ ?_
 ·intro hd
  refine qaX.s (t := []) qfz (by simp) ?_
  rw [if_pos hd]
  exact ⟨At.of_keeps (qa.refl _), rfl⟩
 ·intro hd s hs
  have hR : qli (H.push (tblO M sp)) s 1 wU (tblL M sp) := qdQ (b := H.size) (fun _ => rfl) (fun _ => rfl) (by rw [qbp]; exact hs) (by simp [qi]) (by rw [qp, if_pos rfl]; rfl)
  refine qaX.s hR (by rw [qbp]; exact h.sp16) ?_
  rw [if_neg (by simp [hd]), qbp]
  exact ⟨At.of_keeps ((qa.refl H).push _), rfl⟩
theorem qjK (h : LAt H x p c n sp M) : isLine (lget n sp M slot).1 := by
 unfold lget
 split
 ·rename_i hs
  split
  ·exact qaH
  ·have hp := qdF (M := M) (n := n) (sp := sp) (s := slot.toNat) (by omega)
   have hlen := h.len
   have : M.cl (M.place n slot.toNat sp) ∈ M.cs := by
    unfold Mem.cl
    rw [qkP, qkO (by omega)]
    exact qk5 _
   exact h.m.ok.lines _ this
 ·exact qaH
theorem qgo.s {k : List Value → Int → AH → Prop} (h : LAt H x p c n sp M) (hk : k (lineV (lget n sp M slot).1) (lget n sp M slot).2 H) : qbl (some ⟨x, 0, none⟩) slot H k := by
 refine canon2 (κ := .agg) (μ := .int .i64) (by simp) (by simp) (qcO _) rfl (qbl.link ?_) hk
 unfold qbl.b
 rw [qt, zeroV]
 have hL := h.push ⟨lineV (qkQ 8 0), .rw, 0⟩
 have fin : ∀ {H1 : AH} {l : List Int} {Q : List Value → AH → Prop}, qa (H.push ⟨lineV (qkQ 8 0), .rw, 0⟩) H1 → isLine l → (∀ H', qa H H' → Q (lineV l) H') →
   ((lineV l).length = 8 ∧ qlo (lineV l) qo = true) ∧ stC H1 ⟨H.size, 0, none⟩ (lineV l) fun Hs => ldA Hs ⟨H.size, 0, none⟩ 8 fun r0 => Q r0 Hs := by
  intro H1 l Q hk hl hQ
  have hg : H1.get H.size = ⟨lineV (qkQ 8 0), .rw, 0⟩ := by rw [hk.2 _ (by simp [qi]), qp, if_pos rfl]
  refine ⟨⟨qn hl.1, qai _⟩, stC_to ⟨rfl, by rw [hg], by rw [hg, qn hl.1]; simp only [qn (l := qkQ 8 0) rfl]; omega⟩ (qc1 rfl hl.1 hg) ?_⟩
  have hrow : AH.row? (H1.upd H.size ⟨lineV l, .rw, 0⟩) ⟨H.size, 0, none⟩ 8 = some (lineV l) := by
   simp only [AH.row?, qA, if_true, qk7, qkW, if_false, ql1]
   rw [if_neg (by simp), qlH (by rw [qn hl.1]; omega), if_pos ⟨by rw [qn hl.1]; omega, qai _⟩]
  rw [qs hrow]
  exact hQ _ ((((qa.refl H).push _).trans hk).upd (qkV _) _)
 have hline := qjK (slot := slot) h
 unfold lget at hline ⊢
 simp only [qj]
 refine qfe.s hL ?_ ?_ ?_
 ·intro hs
  rw [if_neg hs] at hline ⊢
  rw [if_pos (by simp)]
  exact fin (Q := fun r H' => At H H' H ∧ r = _ ∧ _) (qa.refl _) qaH fun H' hk => ⟨At.of_keeps hk, rfl, rfl⟩
 ·intro hs hd
  rw [if_pos hs, if_pos hd] at hline ⊢
  rw [if_pos (by simp)]
  exact fin (Q := fun r H' => At H H' H ∧ r = _ ∧ _) (qa.refl _) qaH fun H' hk => ⟨At.of_keeps hk, rfl, rfl⟩
 ·intro hs hd s _
  rw [if_pos hs, if_neg (show ¬ M.down = true by simp [hd])] at hline ⊢
  rw [if_neg (by simp)]
  have hL2 := hL.push (tblO M sp)
  rw [qd, hL2.c0, qC]
  refine qba.s hL2.m ?_
  have hp := qdF (M := M) (n := n) (sp := sp) (s := slot.toNat) (by omega)
  have hlen := h.len
  have hg : M.get ((M.place n slot.toNat sp : Nat) : Int) = (M.view n sp slot.toNat, 0) := by
   unfold Mem.get
   rw [if_pos ⟨by omega, by omega⟩, if_neg (by simp [hd])]; rfl
  rw [hg]
  exact fin (Q := fun r H' => At H H' H ∧ r = _ ∧ _) ((qa.refl _).push _) hline fun H' hk => ⟨At.of_keeps hk, rfl, rfl⟩
theorem lgo_ok {j slot : Nat} {d : List Int} (hd : isLine d) (hs : (slot : Int) + 1 ≤ 18446744073709551615) (hn : n ≤ 1000000) : ∀ {M : Mem}, M.ok → (lgo n sp slot d j M).1.ok := by
 induction j with
 | zero => intro M h; exact h
 | succ j ih =>
  intro M h
  unfold lgo
  have h1 := Mem.put_ok (i := ((n + (sp - (j + 1)) : Nat) : Int)) h hd
  simp only
  split
  ·exact Mem.set_ok h1 (by unfold isU; omega)
  ·split
   ·have h2 := Mem.set_ok (i := ((3 + (sp - (j + 1)) : Nat) : Int)) (v := (n : Int) + 1) h1 (by unfold isU; omega)
    split
    ·exact ih h2
    ·exact h2
   ·exact h1
theorem lput_ok {d : List Int} (hd : isLine d) (hn : n ≤ 1000000) (h : M.ok) : (lput n sp M slot d).1.ok := by
 unfold lput
 split
 ·rename_i hs
  split
  ·exact h
  ·simp only
   split
   ·exact lgo_ok hd (by omega) hn (Mem.put_ok h hd)
   ·exact Mem.put_ok h hd
 ·exact h
theorem lgo_len {j slot : Nat} {d : List Int} : ∀ {M : Mem}, (lgo n sp slot d j M).1.cs.length = M.cs.length := by
 induction j with
 | zero => intro M; rfl
 | succ j ih =>
  intro M
  unfold lgo
  simp only
  split
  ·rw [Mem.set_len, Mem.put_len]
  ·split
   ·split
    ·rw [ih, Mem.set_len, Mem.put_len]
    ·rw [Mem.set_len, Mem.put_len]
   ·rw [Mem.put_len]
theorem qdD {d : List Int} : (lput n sp M slot d).1.cs.length = M.cs.length := by
 unfold lput
 split
 ·split
  ·rfl
  ·simp only
   split
   ·rw [lgo_len, Mem.put_len]
   ·rw [Mem.put_len]
 ·rfl
theorem qd1.s {d : List Int} {k : Int → AH → Prop} (h : LAt H x p c n sp M) (hd : isLine d) (hk : k (lput n sp M slot d).2 (setM H p c (lput n sp M slot d).1)) : qaj (some ⟨x, 0, none⟩) slot (lineV d) H k := by
 have hn := h.n200
 have hsp := h.sp16
 have hlp := h.m.lp
 have hlc := h.m.lc
 have hlx := h.lx
 have key : ∀ {B : AH} {M' : Mem}, qa H B → At H (setM B p c M') (setM H p c M') := by
  intro B M' hB
  refine h.m.at fun b hb => ?_
  simp only [qca]
  rw [hB.2 b hb]
 refine qco (κ := .int .i64) (by simp) rfl (qaj.link ?_) hk
 unfold qaj.b
 rw [qt]
 simp only [qj]
 have hL := h.push ⟨lineV d, .rw, 0⟩
 have hgd : (H.push ⟨lineV d, .rw, 0⟩).get H.size = ⟨lineV d, .rw, 0⟩ := by rw [qp, if_pos rfl]
 have hkd : qa H (H.push ⟨lineV d, .rw, 0⟩) := (qa.refl H).push _
 have hsd : (H.push ⟨lineV d, .rw, 0⟩).size = H.size + 1 := rfl
 generalize H.push ⟨lineV d, .rw, 0⟩ = Hd at *
 unfold lput
 refine qfe.s hL ?_ ?_ ?_
 ·intro hs
  rw [if_neg hs, if_pos (by simp)]
  have := key (M' := M) hkd
  rw [h.m.same, hL.m.same] at this
  rw [h.m.same]
  exact ⟨this, rfl⟩
 ·intro hs hdn
  rw [if_pos hs, if_pos hdn, if_pos (by simp)]
  have := key (M' := M) hkd
  rw [h.m.same, hL.m.same] at this
  rw [h.m.same]
  exact ⟨this, rfl⟩
 ·intro hs hdn s hsl
  rw [if_pos hs, if_neg (show ¬ M.down = true by simp [hdn]), if_neg (by simp)]
  have hL2 := hL.push (tblO M sp)
  have hR : qli (Hd.push (tblO M sp)) s 1 wU (tblL M sp) := qdQ (b := Hd.size) (fun _ => rfl) (fun _ => rfl) (by rw [qbp]; exact hsl) (by simp [qi]) (by rw [qp, if_pos rfl]; rfl)
  have hsb : ∀ y, s.a = some y → y.block = Hd.size := by
   intro y hy
   rcases hsl with rfl | ⟨_, rfl⟩
   ·injection hy with hy; subst hy; rfl
   ·cases hy
  have hgd2 : (Hd.push (tblO M sp)).get H.size = ⟨lineV d, .rw, 0⟩ := by rw [qG (by omega), hgd]
  have hkB : qa H (Hd.push (tblO M sp)) := hkd.push _
  have hsB : (Hd.push (tblO M sp)).size = H.size + 2 := by simp [qi, hsd]
  generalize hBB : Hd.push (tblO M sp) = B at *
  have rowd : ∀ M', AH.row? (setM B p c M') ⟨H.size, 0, none⟩ 8 = some (lineV d) := by
   intro M'
   rw [qfF (by omega) (by omega)]
   simp only [AH.row?, hgd2, qk7, qkW, if_false, ql1]
   rw [if_neg (by simp), qlH (by rw [qn hd.1]; omega), if_pos ⟨by rw [qn hd.1]; omega, qai _⟩]
  have rowd0 : AH.row? B ⟨H.size, 0, none⟩ 8 = some (lineV d) := by have := rowd M; rwa [hL2.m.same] at this
  rw [qd, hL2.c0, qC, qs rowd0]
  refine qK.s hL2.m hd ?_
  have hok1 := Mem.put_ok (i := ((M.place n slot.toNat sp : Nat) : Int)) h.m.ok hd
  have hlen1 : (M.put ((M.place n slot.toNat sp : Nat) : Int) d).1.cs.length = M.cs.length := Mem.put_len
  simp only
  generalize M.put ((M.place n slot.toNat sp : Nat) : Int) d = R at *
  by_cases he : R.2 = 3
  ·rw [if_pos he, if_neg (by simp [he])]
   have hL3 := hL2.set hok1 hlen1
   have hR3 : qli (setM B p c R.1) s 1 wU (tblL M sp) := by
    refine ⟨hR.1, fun i v hv => ?_⟩
    obtain ⟨y, h1, h2, h3, h4⟩ := hR.2 i v hv
    have hb := hsb y h1
    refine ⟨y, h1, h2, h3, ?_⟩
    rw [qfF (by omega) (by omega)]
    exact h4
   have hnx := qj8 M (sp := sp) sp (qkV _)
   refine qa7.s hR3 (by rw [qbp]; exact hsp) ?_ ?_
   ·rw [qbp, hnx]
    intro hlt
    rw [if_neg (by simp)]
    generalize hF : lgo n sp slot.toNat d (sp - M.next sp sp) R.1 = F at *
    refine qL (t := (((0 : Int), ((M.next sp sp : Nat) : Int)) : Int × Int)) (I := fun (t : Int × Int) H' => ∃ j : Nat, t.2 = ((sp - j : Nat) : Int) ∧ j ≤ sp ∧ ∃ Mi : Mem, H' = setM B p c Mi ∧ Mi.ok ∧ Mi.cs.length = M.cs.length ∧ lgo n sp slot.toNat d j Mi = F) (m := fun (t : Int × Int) _ => qkX ((sp : Int) - t.2)) ?_ ⟨sp - M.next sp sp, by simp only; omega, by omega, R.1, rfl, hok1, hlen1, hF⟩
    intro t H4 hI it hit
    obtain ⟨t1, t2⟩ := t
    obtain ⟨j, e1, hj, Mi, rfl, hoki, hleni, hlg⟩ := hI
    simp only at e1
    subst e1
    have hLi := hL2.set hoki hleni
    unfold qaj.l1
    simp only [qj, decide_eq_true_eq, qd, hLi.c2, hLi.c1, hLi.c0, qg, qC]
    by_cases hz : ((sp - j : Nat) : Int) < (sp : Int)
    ·rw [if_pos hz]
     obtain ⟨i, rfl⟩ : ∃ i, j = i + 1 := ⟨j - 1, by omega⟩
     rw [qs (rowd Mi), qe (n := (n : Int) + ((sp - (i + 1) : Nat) : Int)) (by omega) (by omega), qe (n := (3 : Int) + ((sp - (i + 1) : Nat) : Int)) (by omega) (by omega), qe (n := ((sp - (i + 1) : Nat) : Int) + 1) (by omega) (by omega)]
     rw [show (n : Int) + ((sp - (i + 1) : Nat) : Int) = ((n + (sp - (i + 1)) : Nat) : Int) from by omega, show (3 : Int) + ((sp - (i + 1) : Nat) : Int) = ((3 + (sp - (i + 1)) : Nat) : Int) from by omega]
     refine qK.s hLi.m hd ?_
     have hok2 := Mem.put_ok (i := ((n + (sp - (i + 1)) : Nat) : Int)) hoki hd
     have hlen2 : (Mi.put ((n + (sp - (i + 1)) : Nat) : Int) d).1.cs.length = M.cs.length := by rw [Mem.put_len]; exact hleni
     rw [← hlg]
     unfold lgo at hlg ⊢
     simp only at hlg ⊢
     rw [qb8]
     generalize Mi.put ((n + (sp - (i + 1)) : Nat) : Int) d = R2 at *
     have hL4 := hL2.set hok2 hlen2
     simp only [hL4.c0, hL4.c1, qC, qg]
     by_cases e0 : R2.2 = 0
     ·rw [if_pos e0, if_pos (by simpa using e0)]
      rw [qbe (n := slot) (by omega) (by omega), qbe (n := slot + 1) (by omega) (by omega)]
      refine qz.s hL4.m (by unfold isU; omega) ?_
      rw [qb8, show ((slot.toNat : Nat) : Int) + 1 = slot + 1 from by omega]
      exact ⟨key hkB, rfl⟩
     ·rw [if_neg e0, if_neg (by simpa using e0)]
      rw [if_neg e0] at hlg
      by_cases e3 : R2.2 = 3
      ·rw [if_pos e3, if_pos (by simpa using e3)]
       rw [if_pos e3] at hlg
       refine qbK.s (by have := h.n1; omega) ?_
       simp only [hL4.c0, qC]
       refine qz.s hL4.m (by unfold isU; omega) ?_
       rw [qb8]
       have hok3 := Mem.set_ok (i := ((3 + (sp - (i + 1)) : Nat) : Int)) (v := (n : Int) + 1) hok2 (by unfold isU; omega)
       have hlen3 : (R2.1.set ((3 + (sp - (i + 1)) : Nat) : Int) ((n : Int) + 1)).1.cs.length = M.cs.length := by rw [Mem.set_len]; exact hlen2
       generalize R2.1.set ((3 + (sp - (i + 1)) : Nat) : Int) ((n : Int) + 1) = Q at *
       by_cases e4 : Q.2 = 0
       ·rw [if_pos e4, if_neg (by simp [e4])]
        rw [if_pos e4] at hlg
        exact hit _ _ ⟨i, by simp only; omega, by omega, Q.1, rfl, hok3, hlen3, hlg⟩ (by simp only; omega)
       ·rw [if_neg e4, if_pos (by simpa using e4)]
        exact ⟨key hkB, rfl⟩
      ·rw [if_neg e3, if_neg (by simpa using e3)]
       exact ⟨key hkB, rfl⟩
    ·rw [if_neg hz]
     have : j = 0 := by omega
     subst this
     rw [← hlg]
     exact ⟨key hkB, rfl⟩
   ·rw [qbp, hnx]
    intro heq
    rw [if_pos (by simp), heq, Nat.sub_self]
    exact ⟨key hkB, rfl⟩
  ·rw [if_neg he, if_pos (by simpa using he)]
   exact ⟨key hkB, rfl⟩
end
section
variable {M : Mem} {n sp k : Nat}
theorem LV.may (h : LV M n sp k) : MayT (tblL M sp) n := by
 refine ⟨by have := h.n1; omega, fun i hi => ?_⟩
 rw [qbp] at hi
 unfold mayAt
 rw [qdH M hi]
 rcases Nat.lt_or_ge i k with hk | hk
 ·have := h.used i hk
  refine ⟨this.2, fun h0 _ => ?_⟩
  rw [qdH M (show i - 1 < sp by omega)]
  have := h.used (i - 1) (by omega)
  omega
 ·rw [h.free i hk hi]
  exact ⟨by have := h.n1; omega, fun _ hh => absurd rfl hh⟩
theorem LV.left (h : LV M n sp k) : leftT (tblL M sp) sp = sp - k := by
 have key : ∀ j, j ≤ sp → leftT (tblL M sp) j = j - k := by
  intro j
  induction j with
  | zero => intro _; simp [leftT]
  | succ j ih =>
   intro hj
   simp only [leftT, ih (by omega), qdH M (show j < sp by omega)]
   rcases Nat.lt_or_ge j k with hk | hk
   ·have := h.used j hk
    rw [if_neg (by omega)]; omega
   ·rw [if_pos (h.free j hk (by omega))]; omega
 exact key sp (qkV _)
theorem LV.zero (hl : M.cs.length = n + sp) (hn : 1 ≤ n) (hs : sp ≤ 16) (h : ∀ i, i < sp → M.whose i = 0) : LV M n sp 0 :=
 ⟨hl, hn, hs, qlY _, fun i hi => by omega, fun i _ hi => h i hi⟩
theorem qjm {s : Nat} (h : ∀ i, i < sp → M.whose i = 0) : M.view n sp s = (M.cl s).line := by
 unfold Mem.view
 rcases qcC M n s sp with h1 | ⟨j, h1, _, h3⟩
 ·rw [h1]
 ·have := h j h1; omega
theorem qgP {n : Nat} {limits : List Int} {i : Nat} (hi : i < 16) : (Mem.new n limits).whose i = 0 := by
 have : 3 + i < 35 := by omega
 unfold Mem.whose Mem.new
 rw [qkP, List.getElem?_replicate, if_pos this]
 rfl
end
section
variable {H : AH} {p c : Nat} {M : Mem} {n sp : Int}
theorem qax.s {k : Option Addr → AH → Prop} (hm : qv H p c M) (hnr : isI n) (hsr : isI sp)
  (h0 : ¬ (1 ≤ n ∧ 0 ≤ sp ∧ sp ≤ 16 ∧ (M.cs.length : Int) = n + sp ∧ M.down = false ∧ MayT (tblL M sp.toNat) n) → k none H)
  (h1 : 1 ≤ n ∧ 0 ≤ sp ∧ sp ≤ 16 ∧ (M.cs.length : Int) = n + sp ∧ M.down = false ∧ MayT (tblL M sp.toNat) n → ∀ H', LAt H' H.size p c n.toNat sp.toNat M → qa H H' → H.size < H'.size → k (some ⟨H.size, 0, none⟩) H') : qax (some ⟨p, 0, none⟩) n sp H k := by
 have hlen := hm.ok.len
 unfold isI at hnr hsr
 by_cases he : 1 ≤ n ∧ 0 ≤ sp ∧ sp ≤ 16 ∧ (M.cs.length : Int) = n + sp
 ·obtain ⟨n', rfl⟩ := qk9 (show 0 ≤ n by omega)
  obtain ⟨sp', rfl⟩ := qk9 (show 0 ≤ sp by omega)
  simp only [qkS] at h0 h1
  have common : ∀ {Q : Option Addr → AH → Prop}, (M.down = true → ∀ H', qa H H' → Q none H') → (M.down = false → ¬ MayT (tblL M sp') n' → ∀ H', qa H H' → Q none H') →
    (M.down = false → MayT (tblL M sp') n' → ∀ H', LAt H' H.size p c n' sp' M → qa H H' → H.size < H'.size → Q (some ⟨H.size, 0, none⟩) H') → qax.b (some ⟨p, 0, none⟩) n' sp' H Q := by
   intro Q q1 q2 q3
   unfold qax.b qax.j1
   simp only [qk1, qj, qkW, if_false, decide_eq_true_eq]
   rw [if_neg (by omega), if_neg (by omega), if_neg (by omega)]
   refine qP.s hm ?_
   rw [qe (by omega) (by omega), if_neg (by simp; omega)]
   simp only [qt]
   have hL : LAt (H.push (lobj p n' sp')) H.size p c n' sp' M :=
    ⟨by rw [qp, if_pos rfl], by simp [qi], by have := hm.lp; omega, by have := hm.lc; omega, hm.push _, by omega, by omega, by omega⟩
   have e : (⟨[(qkR (some ⟨p, 0, none⟩)), (qkL .i64 (n' : Int)), (qkL .i64 (sp' : Int))], .rw, 0⟩ : AObj) = lobj p n' sp' := rfl
   rw [e]
   refine qeb.s hL ?_ ?_
   ·intro hd
    rw [if_pos (by simp)]
    exact q1 hd _ ((qa.refl H).push _)
   ·intro hd s hs
    rw [if_neg (by simp)]
    have hR : qli ((H.push (lobj p n' sp')).push (tblO M sp')) s 1 wU (tblL M sp') := qdQ (b := (H.push (lobj p n' sp')).size) (fun _ => rfl) (fun _ => rfl) (by rw [qbp]; exact hs) (by simp [qi]) (by rw [qp, if_pos rfl]; rfl)
    refine qaA.s hR (by rw [qbp]; omega) ?_ (by omega) ?_
    ·intro v hv
     simp only [tblL, qlk, qlC] at hv
     obtain ⟨i, hi, rfl⟩ := hv
     unfold Mem.whose
     have hr := hm.ok.regs
     rw [qkP, qkO (by omega), qln]
     exact (hm.ok.regU _ (qk5 _)).1
    ·by_cases hM : MayT (tblL M sp') n'
     ·rw [if_neg (by simp [hM])]
      exact q3 hd hM _ (hL.push _) (((qa.refl H).push _).push _) (by simp [qi]; omega)
     ·rw [if_pos (by simp [hM])]
      exact q2 hd hM _ (((qa.refl H).push _).push _)
  by_cases hgood : M.down = false ∧ MayT (tblL M sp') n'
  ·refine qax.link (common ?_ ?_ ?_)
   ·intro hd; rw [hgood.1] at hd; cases hd
   ·intro _ hM; exact absurd hgood.2 hM
   ·intro hd hM H' hL hK hs
    exact h1 ⟨by omega, by omega, by omega, by omega, hd, hM⟩ H' hL hK hs
  ·refine qco (κ := .ptr) (v := none) (by simp) rfl (qax.link (common ?_ ?_ ?_)) (h0 ?_)
   ·intro hd H' hk; exact ⟨At.of_keeps hk, rfl⟩
   ·intro _ _ H' hk; exact ⟨At.of_keeps hk, rfl⟩
   ·intro hd hM; exact absurd ⟨hd, hM⟩ hgood
   ·intro h; exact hgood ⟨h.2.2.2.2.1, h.2.2.2.2.2⟩
 ·refine qax.link ?_
  have hk := h0 (fun h => he ⟨h.1, h.2.1, h.2.2.1, h.2.2.2.1⟩)
  unfold qax.b qax.j1
  simp only [qk1, qj, qkW, if_false, if_true, decide_eq_true_eq]
  by_cases h1 : n < 1
  ·rw [if_pos h1]; exact hk
  rw [if_neg h1]
  by_cases h2 : sp < 0
  ·rw [if_pos h2]; exact hk
  rw [if_neg h2]
  by_cases h3 : sp > 16
  ·rw [if_pos h3]; exact hk
  rw [if_neg h3]
  refine qP.s hm ?_
  rw [qe (by omega) (by omega), if_pos (by simp; omega)]
  exact hk
theorem qd1.g {x n sp : Nat} {slot r : Int} {d : List Int} {M' : Mem} {k : Int → AH → Prop} (h : LAt H x p c n sp M) (hd : isLine d) (e : lput n sp M slot d = (M', r)) (hk : ∀ H', LAt H' x p c n sp M' → Frm H H' p c → k r H') : qaj (some ⟨x, 0, none⟩) slot (lineV d) H k := by
 refine qd1.s h hd ?_
 have hn := h.n200
 have ok := lput_ok (n := n) (sp := sp) (slot := slot) hd (by omega) h.m.ok
 have hl := qdD (n := n) (sp := sp) (M := M) (slot := slot) (d := d)
 rw [e] at ok hl ⊢
 exact hk _ (h.set ok hl) (Frm.set _ _ _ _)
end
def putV (q : Int × List Int) : List Value := [.int .i64 q.1] ++ lineV q.2
structure qbR (q : Int × List Int) : Prop where
 i : isI q.1
 line : isLine q.2
theorem qeu {q : Int × List Int} (h : qbR q) : (putV q).length = 9 := by simp [putV, lineV, h.line.1]
theorem putV_ok (q : Int × List Int) : (putV q).all qo = true := by simp [putV, lineV, u64V, qo]
structure PutAt (H : AH) (o : Nat) (q : Int × List Int) : Prop where
 g : ∃ e, H.get o = ⟨putV q, .rw, e⟩
 ok : qbR q
theorem PutAt.c0 {H : AH} {o : Nat} {q : Int × List Int} (h : PutAt H o q) : AH.cell? H (qkN ⟨o, 0, none⟩ 0) = some (.int .i64 q.1) := by
 obtain ⟨⟨e, h⟩, _⟩ := h; simp [ql, AH.cell?, h, putV]
theorem PutAt.row {H : AH} {o : Nat} {q : Int × List Int} (h : PutAt H o q) : AH.row? H (qkN ⟨o, 0, none⟩ 1) 8 = some (lineV q.2) := by
 obtain ⟨⟨e, h⟩, hok⟩ := h
 have e8 : ((putV q).drop 1).take 8 = lineV q.2 := by
  simp only [putV, qlr, List.nil_append, List.drop_succ_cons, ql1]
  rw [qlH (by simp [lineV, hok.line.1])]
 simp only [ql, AH.row?, h, qk7, qkW, if_false, qla]
 rw [if_neg (by simp), e8, if_pos ⟨by rw [qeu hok]; omega, qai _⟩]
theorem PutAt.keep {H H' : AH} {o : Nat} {q : Int × List Int} (h : PutAt H o q) (hg : H'.get o = H.get o) : PutAt H' o q := ⟨by rw [hg]; exact h.g, h.ok⟩
theorem new_put {H : AH} {q : Int × List Int} (h : qbR q) {cs : List Value} {K : Nat → AH → Prop} (hn : cs.length = 9) (hK : PutAt (H.push ⟨putV q, .rw, 0⟩) H.size q → K H.size (H.push ⟨putV q, .rw, 0⟩)) :
  newC H ⟨cs, .rw, 0⟩ fun o H1 => ((putV q).length = 9 ∧ qlo (putV q) qo = true) ∧ stC H1 ⟨o, 0, none⟩ (putV q) fun Hs => K o Hs :=
 new_st hn (qeu h) (putV_ok q) (hK ⟨⟨0, by simp [qp]⟩, h⟩)
theorem qil (n : Nat) : zerosOf n (lineV (qkQ 8 0)) = (qkQ n (qkQ 8 (0 : Int))).flatMap lineV := by
 unfold zerosOf
 rw [List.flatMap_def, List.map_replicate]
theorem qiH (M : Mem) (n sp s : Nat) : M.power.view n sp s = M.view n sp s := qcG rfl rfl
theorem qie (M : Mem) (n sp s : Nat) (a b : Int) : (M.setCut a b).view n sp s = M.view n sp s := qcG rfl rfl
def gapN (n mv : Nat) : Nat := n - mv % (n + 1)
def baseN (n mv line : Nat) : Nat := (line + mv / (n + 1) % n) % n
def slotN (n mv line : Nat) : Nat := if gapN n mv ≤ baseN n mv line then baseN n mv line + 1 else baseN n mv line
def fromN (n mv : Nat) : Nat := if gapN n mv = 0 then n else gapN n mv - 1
section
variable {n mv line line' : Nat}
theorem gapN_le : gapN n mv ≤ n := by unfold gapN; omega
theorem qet (hn : 1 ≤ n) : baseN n mv line < n := Nat.mod_lt _ (by omega)
theorem qcY (hn : 1 ≤ n) : slotN n mv line ≤ n := by
 have := qet (mv := mv) (line := line) hn
 unfold slotN; split <;> omega
theorem qjn (hn : 1 ≤ n) : slotN n mv line ≠ gapN n mv := by unfold slotN; split <;> omega
theorem qjY (h : line < n) (h' : line' < n) (e : baseN n mv line = baseN n mv line') : line = line' := by
 unfold baseN at e
 generalize mv / (n + 1) % n = t at e
 have h1 : ∀ a, a < n → (a + t) % n = (a + t % n) % n := fun a _ => by rw [Nat.add_mod, Nat.add_mod a (t % n), Nat.mod_mod]
 rw [h1 _ h, h1 _ h'] at e
 have ht : t % n < n := Nat.mod_lt _ (by omega)
 generalize t % n = u at e ht
 have k : ∀ a, a < n → (a + u) % n = if a + u < n then a + u else a + u - n := by
  intro a ha
  split
  ·exact Nat.mod_eq_of_lt (by assumption)
  ·rw [Nat.mod_eq_sub_mod (by omega), Nat.mod_eq_of_lt (by omega)]
 rw [k _ h, k _ h'] at e
 split at e <;> split at e <;> omega
theorem qjw (hl : line < n) (hl' : line' < n) (e : slotN n mv line = slotN n mv line') : line = line' := by
 refine qjY (mv := mv) hl hl' ?_
 unfold slotN at e
 split at e <;> split at e <;> omega
theorem qja (hn : 1 ≤ n) (hl : line < n) : slotN n (mv + 1) line = if slotN n mv line = fromN n mv then gapN n mv else slotN n mv line := by
 have hb := qet (mv := mv) (line := line) hn
 have hb' := qet (mv := mv + 1) (line := line) hn
 have hm := Nat.mod_lt mv (show n + 1 > 0 by omega)
 by_cases hlast : mv % (n + 1) = n
 ·have g0 : gapN n mv = 0 := by unfold gapN; omega
  have hdiv : (mv + 1) / (n + 1) = mv / (n + 1) + 1 := by
   have h0 := Nat.div_add_mod mv (n + 1)
   have : mv + 1 = (n + 1) * (mv / (n + 1) + 1) := by rw [Nat.mul_add]; omega
   rw [this, Nat.mul_div_cancel_left _ (by omega)]
  have hmod : (mv + 1) % (n + 1) = 0 := by rw [Nat.add_mod, hlast]; by_cases h1 : n = 0 <;> simp
  have g1 : gapN n (mv + 1) = n := by unfold gapN; rw [hmod]; omega
  have hbb : baseN n (mv + 1) line = if baseN n mv line + 1 = n then 0 else baseN n mv line + 1 := by
   unfold baseN
   rw [hdiv]
   have e1 : (line + (mv / (n + 1) + 1) % n) % n = ((line + mv / (n + 1) % n) % n + 1) % n := by
    rw [Nat.add_mod_mod, Nat.add_mod_mod, Nat.mod_add_mod]; rfl
   rw [e1]
   have hlt := Nat.mod_lt (line + mv / (n + 1) % n) (show n > 0 by omega)
   generalize (line + mv / (n + 1) % n) % n = b at *
   split
   ·rename_i h; rw [h, Nat.mod_self]
   ·rw [Nat.mod_eq_of_lt (by omega)]
  unfold slotN fromN
  rw [g0, g1, hbb, if_pos rfl, if_pos (qlY _)]
  by_cases h : baseN n mv line + 1 = n
  ·rw [if_pos h, if_neg (show ¬ n ≤ 0 by omega)]
  ·rw [if_neg h, if_neg (show ¬ n ≤ baseN n mv line + 1 by omega)]
 ·have hdiv : (mv + 1) / (n + 1) = mv / (n + 1) := by
   have h0 := Nat.div_add_mod mv (n + 1)
   refine (Nat.div_eq_iff (by omega)).2 ?_
   rw [Nat.mul_comm] at h0
   constructor <;> omega
  have hmod : (mv + 1) % (n + 1) = mv % (n + 1) + 1 := by
   have h0 := Nat.div_add_mod mv (n + 1)
   have h1 := Nat.div_add_mod (mv + 1) (n + 1)
   rw [hdiv] at h1
   omega
  have hbb : baseN n (mv + 1) line = baseN n mv line := by unfold baseN; rw [hdiv]
  have g1 : gapN n (mv + 1) = gapN n mv - 1 := by unfold gapN; rw [hmod]; omega
  have g0 : gapN n mv ≠ 0 := by unfold gapN; omega
  unfold slotN fromN
  rw [hbb, g1, if_neg g0]
  generalize baseN n mv line = b at *
  generalize gapN n mv = g at *
  by_cases h : g ≤ b
  ·rw [if_pos h, if_pos (by omega), if_neg (by omega)]
  ·rw [if_neg h]
   by_cases h2 : b = g - 1
   ·rw [if_pos h2, if_pos (by omega)]; omega
   ·rw [if_neg (by omega), if_neg h2]
theorem qfs : fromN n mv ≤ n := by have := gapN_le (n := n) (mv := mv); unfold fromN; split <;> omega
end
def Mem.mv (M : Mem) : Nat := (M.regs.getD 0 0).toNat
def Mem.tview (M : Mem) (n sp line : Nat) : List Int := M.view (n + 1) sp (slotN n M.mv line)
def tmove (n sp : Nat) (M : Mem) : Mem × Int :=
 let r := lput (n + 1) sp M (gapN n M.mv : Nat) (M.view (n + 1) sp (fromN n M.mv))
 if r.2 = 0 then r.1.set 0 ((M.mv : Int) + 1) else r
def tput (n sp period : Nat) (M : Mem) (puts : Nat) (line : Int) (d : List Int) : Mem × Nat × Int :=
 if 0 ≤ line ∧ line < n then
  if M.down then (M, puts, 2) else
  if puts + 1 = period then
   let r := tmove n sp M
   if r.2 = 0 then let q := lput (n + 1) sp r.1 (slotN n r.1.mv line.toNat : Nat) d; (q.1, 0, q.2) else (r.1, 0, r.2)
  else let q := lput (n + 1) sp M (slotN n M.mv line.toNat : Nat) d; (q.1, puts + 1, q.2)
 else (M, puts, 1)
def tget (n sp : Nat) (M : Mem) (line : Int) : List Int × Int :=
 if 0 ≤ line ∧ line < n then if M.down then (qkQ 8 0, 2) else (M.tview n sp line.toNat, 0) else (qkQ 8 0, 1)
structure TPut (n sp : Nat) (M : Mem) (line : Option Nat) (d : List Int) (k may : Nat) (M' : Mem) (e : Int) : Prop where
 lv : ∃ k', k ≤ k' ∧ LV M' (n + 1) sp k' ∧ (e = 3 → k' = sp)
 other : ∀ s, s < n → line ≠ some s → M'.tview n sp s = M.tview n sp s
 mv : M.mv ≤ M'.mv ∧ M'.mv ≤ M.mv + may ∧ (e = 0 → M'.mv = M.mv + may)
 regs : ∀ r, (r = 1 ∨ r = 2 ∨ 19 ≤ r) → M'.regs.getD r 0 = M.regs.getD r 0
 mask : M'.mask = M.mask
 rlen : M'.regs.length = 35
 res : (e = 0 ∧ M'.down = false ∧ ∀ s, line = some s → M'.tview n sp s = d) ∨ (e = 3 ∧ M'.down = false ∧ ∀ s, line = some s → M'.tview n sp s = M.tview n sp s) ∨
  (e = 2 ∧ M'.down = true ∧ M.cut ≠ -1 ∧ ∀ s, line = some s → M'.tview n sp s = M.tview n sp s ∨ M'.tview n sp s = d ∨ M'.tview n sp s = mixL (M.tview n sp s) d M.mask)
 cut : M.cut = -1 → M'.cut = -1
 cutge : -1 ≤ M'.cut
section
variable {M M' : Mem} {n sp k : Nat} {d : List Int}
theorem mv_same (h : M'.regs.getD 0 0 = M.regs.getD 0 0) : M'.mv = M.mv := by unfold Mem.mv; rw [h]
theorem qgs (h : LV M (n + 1) sp k) (hn : 1 ≤ n) (hr : M.regs.length = 35) (h0 : 0 ≤ M.regs.getD 0 0) (hd : M.down = false) (hc : -1 ≤ M.cut) (hlen : ∀ s, s < n + 1 → (M.view (n + 1) sp s).length = 8) :
  TPut n sp M none d k 1 (tmove n sp M).1 (tmove n sp M).2 := by
 have hg : gapN n M.mv < n + 1 := by have := gapN_le (n := n) (mv := M.mv); omega
 have hf : fromN n M.mv < n + 1 := by have := qfs (n := n) (mv := M.mv); omega
 have hP := qhc (slot := gapN n M.mv) (d := M.view (n + 1) sp (fromN n M.mv)) h hr hd hc hg (hlen _ hf)
 unfold tmove
 simp only
 generalize lput (n + 1) sp M (gapN n M.mv : Nat) (M.view (n + 1) sp (fromN n M.mv)) = R at *
 obtain ⟨⟨k1, hk1, hlv1, he1⟩, p2, p3, p4, p5, p6, p7, p8⟩ := hP
 have hmv1 : R.1.mv = M.mv := mv_same (p3 0 (by omega))
 have hview : ∀ s, s < n → R.1.tview n sp s = M.tview n sp s := by
  intro s hs
  unfold Mem.tview
  rw [hmv1]
  exact p2 _ (by have := qcY (mv := M.mv) (line := s) hn; omega) (qjn hn)
 by_cases he : R.2 = 0
 ·rw [if_pos he]
  have hup : R.1.down = false ∧ R.1.view (n + 1) sp (gapN n M.mv) = M.view (n + 1) sp (fromN n M.mv) := by
   rcases p6 with ⟨_, a, b⟩ | ⟨a, _⟩ | ⟨a, _⟩
   ·exact ⟨a, b⟩
   ·omega
   ·omega
  have hS := Mem.set_any (M := R.1) (i := 0) (v := (M.mv : Int) + 1) hup.1 (by omega) p8
  rw [show ((0 : Nat) : Int) = 0 from rfl] at hS
  generalize R.1.set 0 ((M.mv : Int) + 1) = Q at *
  have hcl : Q.1.cs.length = R.1.cs.length := by rw [hS.cs]
  have hwh : ∀ j, (Q.1.regs = R.1.regs ∨ Q.1.regs = R.1.regs.set 0 ((M.mv : Int) + 1)) → Q.1.whose j = R.1.whose j := by
   intro j hor
   unfold Mem.whose
   rcases hor with hor | hor
   ·rw [hor]
   ·rw [hor]; simp only [qkP]; rw [qle (by omega)]
  have hvQ : ∀ s, (Q.1.regs = R.1.regs ∨ Q.1.regs = R.1.regs.set 0 ((M.mv : Int) + 1)) → Q.1.view (n + 1) sp s = R.1.view (n + 1) sp s := by
   intro s hor
   unfold Mem.view
   rw [qdj hS.cs, qcD (M' := Q.1) (M := R.1) fun j _ => by rw [hwh j hor]]
  have hlvQ : (Q.1.regs = R.1.regs ∨ Q.1.regs = R.1.regs.set 0 ((M.mv : Int) + 1)) → LV Q.1 (n + 1) sp k1 := fun hor =>
   ⟨by rw [hcl]; exact hlv1.len, hlv1.n1, hlv1.sp16, hlv1.kle, fun i hi => by rw [hwh i hor]; exact hlv1.used i hi, fun i hi hi' => by rw [hwh i hor]; exact hlv1.free i hi hi'⟩
  have hregs : ∀ r, (r = 1 ∨ r = 2 ∨ 19 ≤ r) → (Q.1.regs = R.1.regs ∨ Q.1.regs = R.1.regs.set 0 ((M.mv : Int) + 1)) → Q.1.regs.getD r 0 = M.regs.getD r 0 := by
   intro r hr' hor
   rw [← p3 r (by omega)]
   rcases hor with hor | hor
   ·rw [hor]
   ·rw [hor]; simp only [qkP]; rw [qle (by omega)]
  have hrl : (Q.1.regs = R.1.regs ∨ Q.1.regs = R.1.regs.set 0 ((M.mv : Int) + 1)) → Q.1.regs.length = 35 := by
   rintro (hor | hor)
   ·rw [hor]; exact p5
   ·rw [hor]; simpa using p5
  have hmvold : Q.1.regs = R.1.regs → Q.1.mv = M.mv := fun hor => by rw [← hmv1]; exact mv_same (by rw [hor])
  have hmvnew : Q.1.regs = R.1.regs.set 0 ((M.mv : Int) + 1) → Q.1.mv = M.mv + 1 := by
   intro hor
   have : Q.1.regs.getD 0 0 = (M.mv : Int) + 1 := by rw [hor, qkP, qlu (by omega)]; rfl
   show (Q.1.regs.getD 0 0).toNat = _
   rw [this]; omega
  have hold : Q.1.regs = R.1.regs → ∀ s, s < n → Q.1.tview n sp s = M.tview n sp s := by
   intro hor s hs
   rw [← hview s hs]
   unfold Mem.tview
   rw [hmvold hor, hmv1, hvQ _ (.inl hor)]
  have hnew : Q.1.regs = R.1.regs.set 0 ((M.mv : Int) + 1) → ∀ s, s < n → Q.1.tview n sp s = M.tview n sp s := by
   intro hor s hs
   unfold Mem.tview
   rw [hmvnew hor, qja hn hs, hvQ _ (.inr hor)]
   by_cases hfr : slotN n M.mv s = fromN n M.mv
   ·rw [if_pos hfr, hup.2, hfr]
   ·rw [if_neg hfr]
    have := hview s hs
    unfold Mem.tview at this
    rw [hmv1] at this
    exact this
  rcases hS.res with ⟨e', hd', hq⟩ | ⟨e', hd', hcut, hq⟩
  ·exact ⟨⟨k1, hk1, hlvQ (.inr hq), by omega⟩, fun s hs _ => hnew hq s hs, ⟨by rw [hmvnew hq]; omega, by rw [hmvnew hq]; omega, fun _ => hmvnew hq⟩, fun r hr' => hregs r hr' (.inr hq), hS.mask.trans p4, hrl (.inr hq), .inl ⟨e', hd', by simp⟩, fun hc => hS.cut (p7 hc), hS.cutge⟩
  ·refine ⟨⟨k1, hk1, hlvQ hq, by omega⟩, fun s hs _ => ?_, ?_, fun r hr' => hregs r hr' hq, hS.mask.trans p4, hrl hq, .inr (.inr ⟨e', hd', fun hc => hcut (p7 hc), by simp⟩), fun hc => hS.cut (p7 hc), hS.cutge⟩
   ·rcases hq with hq | hq
    ·exact hold hq s hs
    ·exact hnew hq s hs
   ·rcases hq with hq | hq
    ·rw [hmvold hq]; exact ⟨by omega, by omega, by omega⟩
    ·rw [hmvnew hq]; exact ⟨by omega, by omega, by omega⟩
 ·rw [if_neg he]
  refine ⟨⟨k1, hk1, hlv1, he1⟩, fun s hs _ => hview s hs, ⟨by omega, by omega, fun h => absurd h he⟩, fun r hr' => p3 r (by omega), p4, p5, ?_, p7, p8⟩
  rcases p6 with ⟨a, _⟩ | ⟨a, b, _⟩ | ⟨a, b, c, _⟩
  ·exact absurd a he
  ·exact .inr (.inl ⟨a, b, by simp⟩)
  ·exact .inr (.inr ⟨a, b, c, by simp⟩)
theorem qgz {line : Nat} (h : LV M (n + 1) sp k) (hn : 1 ≤ n) (hr : M.regs.length = 35) (hd : M.down = false) (hc : -1 ≤ M.cut) (hl : line < n) (hlen : d.length = 8) :
  TPut n sp M (some line) d k 0 (lput (n + 1) sp M (slotN n M.mv line : Nat) d).1 (lput (n + 1) sp M (slotN n M.mv line : Nat) d).2 := by
 have hs : slotN n M.mv line < n + 1 := by have := qcY (mv := M.mv) (line := line) hn; omega
 have hP := qhc (slot := slotN n M.mv line) (d := d) h hr hd hc hs hlen
 generalize lput (n + 1) sp M (slotN n M.mv line : Nat) d = R at *
 obtain ⟨⟨k1, hk1, hlv1, he1⟩, p2, p3, p4, p5, p6, p7, p8⟩ := hP
 have hmv1 : R.1.mv = M.mv := mv_same (p3 0 (by omega))
 refine ⟨⟨k1, hk1, hlv1, he1⟩, fun s hs' hne => ?_, ⟨by omega, by omega, fun _ => by omega⟩, fun r hr' => p3 r (by omega), p4, p5, ?_, p7, p8⟩
 ·unfold Mem.tview
  rw [hmv1]
  exact p2 _ (by have := qcY (mv := M.mv) (line := s) hn; omega) fun e => hne (by rw [qjw hl hs' e.symm])
 ·have hv : ∀ s, some line = some s → R.1.tview n sp s = R.1.view (n + 1) sp (slotN n M.mv line) ∧ M.tview n sp s = M.view (n + 1) sp (slotN n M.mv line) := by
   intro s hs'
   injection hs' with hs'
   subst hs'
   unfold Mem.tview
   rw [hmv1]
   exact ⟨rfl, rfl⟩
  rcases p6 with ⟨a, b, c⟩ | ⟨a, b, c⟩ | ⟨a, b, b', c⟩
  ·exact .inl ⟨a, b, fun s hs' => by rw [(hv s hs').1, c]⟩
  ·exact .inr (.inl ⟨a, b, fun s hs' => by rw [(hv s hs').1, (hv s hs').2, c]⟩)
  ·exact .inr (.inr ⟨a, b, b', fun s hs' => by rw [(hv s hs').1, (hv s hs').2]; exact c⟩)
theorem qd4 (h : LV M (n + 1) sp k) (hok : M.ok) {s : Nat} (hs : s < n + 1) : isLine (M.view (n + 1) sp s) := by
 have hp := qdF (M := M) (n := n + 1) (sp := sp) hs
 have hlen := h.len
 have : M.cl (M.place (n + 1) s sp) ∈ M.cs := by
  unfold Mem.cl
  rw [qkP, qkO (by omega)]
  exact qk5 _
 exact hok.lines _ this
theorem qdl (hok : M.ok) : 0 ≤ M.regs.getD 0 0 := by
 have := hok.regs
 rw [qkP, qkO (by omega)]
 exact (hok.regU _ (qk5 _)).1
theorem qfx (h : LV M (n + 1) sp k) (hok : M.ok) (hmv : M.mv ≤ 4611686018427387904) : (tmove n sp M).1.ok := by
 have hl := h.len
 have hok2 := hok.len
 have hf : fromN n M.mv < n + 1 := by have := qfs (n := n) (mv := M.mv); omega
 have h1 := lput_ok (n := n + 1) (sp := sp) (slot := ((gapN n M.mv : Nat) : Int)) (qd4 h hok hf) (by omega) hok
 unfold tmove
 simp only
 split
 ·exact Mem.set_ok h1 (by unfold isU; omega)
 ·exact h1
theorem qeP : (tmove n sp M).1.cs.length = M.cs.length := by
 unfold tmove
 simp only
 split
 ·rw [Mem.set_len, qdD]
 ·rw [qdD]
theorem qdB {line period puts : Nat} (h : LV M (n + 1) sp k) (hn : 1 ≤ n) (hok : M.ok) (hmv : M.mv ≤ 4611686018427387904) (hd : M.down = false) (hl : line < n) (hlen : d.length = 8) :
  TPut n sp M (some line) d k (if puts + 1 = period then 1 else 0) (tput n sp period M puts line d).1 (tput n sp period M puts line d).2.2 ∧
  (tput n sp period M puts line d).2.1 = (if puts + 1 = period then 0 else puts + 1) := by
 unfold tput
 rw [if_pos (show 0 ≤ (line : Int) ∧ (line : Int) < (n : Int) from ⟨by omega, by omega⟩), if_neg (show ¬ M.down = true by simp [hd]), qkS]
 by_cases hp : puts + 1 = period
 ·rw [if_pos hp, if_pos hp, if_pos hp]
  have h1 := qgs (d := d) h hn hok.regs (qdl hok) hd hok.cut.1 (fun s hs => (qd4 h hok hs).1)
  have hok1 := qfx h hok hmv
  simp only
  generalize tmove n sp M = R at *
  obtain ⟨⟨k1, hk1, hlv1, he1⟩, p2, p3, p4, p5, p6, p7, p8, p9⟩ := h1
  by_cases he : R.2 = 0
  ·rw [if_pos he]
   have hup : R.1.down = false := by
    rcases p7 with ⟨_, a, _⟩ | ⟨a, _⟩ | ⟨a, _⟩
    ·exact a
    ·omega
    ·omega
   have h2 := qgz (line := line) (d := d) hlv1 hn p6 hup p9 hl hlen
   simp only
   generalize lput (n + 1) sp R.1 (slotN n R.1.mv line : Nat) d = Q at *
   obtain ⟨⟨k2, hk2, hlv2, he2⟩, q2, q3, q4, q5, q6, q7, q8, q9⟩ := h2
   have hvl := p2 line hl (by simp)
   refine ⟨⟨⟨k2, by omega, hlv2, he2⟩, fun s hs hne => (q2 s hs hne).trans (p2 s hs (by simp)), ⟨by omega, by omega, fun _ => by have := p3.2.2 he; omega⟩, fun r hr => (q4 r hr).trans (p4 r hr), q5.trans p5, q6, ?_, fun hc => q8 (p8 hc), q9⟩, trivial⟩
   rcases q7 with ⟨a, b, c⟩ | ⟨a, b, c⟩ | ⟨a, b, b', c⟩
   ·exact .inl ⟨a, b, c⟩
   ·refine .inr (.inl ⟨a, b, fun s hs => ?_⟩)
    rw [c s hs]; injection hs with hs; subst hs; exact hvl
   ·refine .inr (.inr ⟨a, b, fun hc => b' (p8 hc), fun s hs => ?_⟩)
    have := c s hs
    injection hs with hs; subst hs
    rw [hvl, p5] at this
    exact this
  ·rw [if_neg he]
   have hvl := p2 line hl (by simp)
   refine ⟨⟨⟨k1, hk1, hlv1, he1⟩, fun s hs _ => p2 s hs (by simp), p3, p4, p5, p6, ?_, p8, p9⟩, rfl⟩
   rcases p7 with ⟨a, _⟩ | ⟨a, b, _⟩ | ⟨a, b, b', _⟩
   ·exact absurd a he
   ·refine .inr (.inl ⟨a, b, fun s hs => ?_⟩)
    injection hs with hs; subst hs; exact hvl
   ·refine .inr (.inr ⟨a, b, b', fun s hs => ?_⟩)
    injection hs with hs; subst hs; exact .inl hvl
 ·rw [if_neg hp, if_neg hp, if_neg hp]
  exact ⟨qgz (line := line) (d := d) h hn hok.regs hd hok.cut.1 hl hlen, rfl⟩
end
section
variable {H : AH}
theorem qdM (a b : Nat) : qlM (a : Int) (b : Int) = ((a % b : Nat) : Int) := by
 rw [Int.tmod_eq_emod_of_nonneg (by omega)]; rfl
theorem qfA (a b : Nat) : Int.tdiv (a : Int) (b : Int) = ((a / b : Nat) : Int) := by
 rw [qlJ (by omega)]; rfl
variable {n mv line : Nat}
theorem gap_may.s {k : Bool → AH → Prop} (hn : 1 ≤ n ∧ n ≤ 1000) (h : k true H) : gap_may n mv H k := by
 refine gap_may.link ?_
 unfold gap_may.b
 rw [show decide ((n : Int) ≥ 1) = true from by simp; omega, qk, show decide ((n : Int) ≤ 100000) = true from by simp; omega, qk, show decide ((mv : Int) ≥ 0) = true from by simp]
 exact h
theorem gap_Gap.s {k : Int → AH → Prop} (hn : 1 ≤ n ∧ n ≤ 1000) (h : k (gapN n mv : Nat) H) : gap_Gap n mv H k := by
 refine gap_Gap.link ?_
 unfold gap_Gap.b
 refine gap_may.s hn ?_
 rw [qlm, qc, qe (n := (n : Int) + 1) (by omega) (by omega)]
 refine ⟨by omega, ?_⟩
 have e : (n : Int) + 1 = ((n + 1 : Nat) : Int) := by omega
 have hm := Nat.mod_lt mv (show n + 1 > 0 by omega)
 rw [e, qdM]
 have e2 : qkM .i64 ((n : Int) - ((mv % (n + 1) : Nat) : Int)) = ((gapN n mv : Nat) : Int) := by
  unfold gapN
  generalize mv % (n + 1) = r at *
  rw [qe (by omega) (by omega)]; omega
 rw [e2]
 exact h
theorem qb3.s {k : Int → AH → Prop} (hn : 1 ≤ n ∧ n ≤ 1000) (hmv : mv ≤ 4611686018427387904) (h : k (mv / (n + 1) % n : Nat) H) : qb3 n mv H k := by
 refine qb3.link ?_
 unfold qb3.b
 rw [qe (n := (n : Int) + 1) (by omega) (by omega)]
 refine ⟨by omega, by omega, ?_⟩
 have e : (n : Int) + 1 = ((n + 1 : Nat) : Int) := by omega
 have hd := Nat.div_le_self mv (n + 1)
 rw [e, qfA]
 generalize mv / (n + 1) = r at *
 rw [qe (n := (r : Int)) (by omega) (by omega), qdM]
 exact h
theorem qbn.s {k : Int → AH → Prop} (hn : 1 ≤ n ∧ n ≤ 1000) (hmv : mv ≤ 4611686018427387904) (hl : line < n) (h : k (slotN n mv line : Nat) H) : qbn n mv line H k := by
 refine qbn.link ?_
 unfold qbn.b qbn.j1
 refine gap_may.s hn ?_
 rw [qlm, qc, show decide ((line : Int) < 0) = false from by simp, qc, show decide ((line : Int) ≥ (n : Int)) = false from by simp; omega, qc]
 refine qb3.s hn hmv ?_
 refine ⟨by omega, ?_⟩
 refine gap_Gap.s hn ?_
 have hb : qlM (qkM .i64 ((line : Int) + ((mv / (n + 1) % n : Nat) : Int))) (n : Int) = ((baseN n mv line : Nat) : Int) := by
  unfold baseN
  have ht := Nat.mod_lt (mv / (n + 1)) (show n > 0 by omega)
  generalize mv / (n + 1) % n = t at *
  rw [qe (by omega) (by omega)]
  have : (line : Int) + (t : Int) = ((line + t : Nat) : Int) := by omega
  rw [this, qdM]
 have hlt := qet (mv := mv) (line := line) hn.1
 rw [hb]
 unfold slotN at h
 simp only [qj, decide_eq_true_eq]
 by_cases hc : gapN n mv ≤ baseN n mv line
 ·rw [if_pos hc] at h
  rw [if_pos (by omega), qe (by omega) (by omega)]
  exact_mod_cast h
 ·rw [if_neg hc] at h
  rw [if_neg (by omega)]
  exact h
theorem qcr.s {k : Int → Int → AH → Prop} (hn : 1 ≤ n ∧ n ≤ 1000) (h : k (fromN n mv : Nat) (gapN n mv : Nat) H) : qcr n mv H k := by
 refine qcr.link ?_
 unfold qcr.b
 refine gap_Gap.s hn ?_
 have hg := gapN_le (n := n) (mv := mv)
 unfold fromN at h
 simp only [qj, beq_iff_eq]
 rw [if_neg (by omega)]
 by_cases h0 : gapN n mv = 0
 ·rw [if_pos h0] at h
  rw [if_pos (by omega)]
  rw [h0] at h
  exact h
 ·rw [if_neg h0] at h
  rw [if_neg (by omega), qe (by omega) (by omega)]
  have : ((gapN n mv : Nat) : Int) - 1 = ((gapN n mv - 1 : Nat) : Int) := by omega
  rw [this]
  exact h
end
def tobj (p x n period puts : Nat) : AObj := ⟨[.pointer (some ⟨p, 0, none⟩), .pointer (some ⟨x, 0, none⟩), .int .i64 n, .int .i64 period, .int .i64 puts], .rw, 0⟩
structure TAt (H : AH) (t x p c n sp period puts : Nat) (M : Mem) : Prop where
 ht : H.get t = tobj p x n period puts
 lt : t < H.size
 tp : t ≠ p
 tc : t ≠ c
 tx : t ≠ x
 l : LAt H x p c (n + 1) sp M
 n1 : 1 ≤ n
 per : 1 ≤ period ∧ period ≤ 1000
 pl : puts < period
 mv : M.mv ≤ 4611686018427387904
structure Frt (H H' : AH) (t p c : Nat) : Prop where
 size : H.size ≤ H'.size
 get : ∀ b, b < H.size → b ≠ t → b ≠ p → b ≠ c → H'.get b = H.get b
theorem Frt.refl {H : AH} {t p c : Nat} : Frt H H t p c := ⟨qkV _, fun _ _ _ _ _ => rfl⟩
theorem Frt.trans {H H' H2 : AH} {t p c : Nat} (h : Frt H H' t p c) (h' : Frt H' H2 t p c) : Frt H H2 t p c :=
 ⟨Nat.le_trans h.size h'.size, fun b hb h1 h2 h3 => (h'.get b (by have := h.size; omega) h1 h2 h3).trans (h.get b hb h1 h2 h3)⟩
theorem Frt.of_keeps {H H' : AH} {t p c : Nat} (h : qa H H') : Frt H H' t p c := ⟨h.1, fun b hb _ _ _ => h.2 b hb⟩
theorem Frt.of_frm {H H' : AH} {t p c : Nat} (h : Frm H H' p c) : Frt H H' t p c := ⟨by rw [h.size]; exact qkV _, fun b _ _ h2 h3 => h.get b h2 h3⟩
section
variable {H H' : AH} {t x p c n sp period puts puts' : Nat} {M M' : Mem} {line : Int}
theorem TAt.cell (h : TAt H t x p c n sp period puts M) (i : Nat) : AH.cell? H (qkN ⟨t, 0, none⟩ i) = (tobj p x n period puts).cells[i]? := by
 rw [ql, qla]
 simp only [AH.cell?, h.ht, qk7, qkW, if_false]
 rw [if_neg (by simp [tobj])]
theorem TAt.c0 (h : TAt H t x p c n sp period puts M) : AH.cell? H (qkN ⟨t, 0, none⟩ 0) = some (.pointer (some ⟨p, 0, none⟩)) := h.cell 0
theorem TAt.c1 (h : TAt H t x p c n sp period puts M) : AH.cell? H (qkN ⟨t, 0, none⟩ 1) = some (.pointer (some ⟨x, 0, none⟩)) := h.cell 1
theorem TAt.c2 (h : TAt H t x p c n sp period puts M) : AH.cell? H (qkN ⟨t, 0, none⟩ 2) = some (.int .i64 n) := h.cell 2
theorem TAt.c4 (h : TAt H t x p c n sp period puts M) : AH.cell? H (qkN ⟨t, 0, none⟩ 4) = some (.int .i64 puts) := h.cell 4
theorem TAt.n200 (h : TAt H t x p c n sp period puts M) : n + 1 + sp ≤ 200 := h.l.n200
theorem TAt.keeps (h : TAt H t x p c n sp period puts M) (hk : qa H H') : TAt H' t x p c n sp period puts M :=
 ⟨by rw [hk.2 t h.lt, h.ht], by have := hk.1; have := h.lt; omega, h.tp, h.tc, h.tx, h.l.keeps hk, h.n1, h.per, h.pl, h.mv⟩
theorem TAt.push (h : TAt H t x p c n sp period puts M) (o : AObj) : TAt (H.push o) t x p c n sp period puts M := h.keeps ((qa.refl H).push o)
theorem TAt.mem (h : TAt H t x p c n sp period puts M) (hl : LAt H' x p c (n + 1) sp M') (f : Frm H H' p c) (hmv : M'.mv ≤ 4611686018427387904) : TAt H' t x p c n sp period puts M' :=
 ⟨by rw [f.get t h.tp h.tc, h.ht], by rw [f.size]; exact h.lt, h.tp, h.tc, h.tx, hl, h.n1, h.per, h.pl, hmv⟩
def setT (H : AH) (t x p c n period puts : Nat) (M : Mem) : AH := (setM H p c M).upd t (tobj p x n period puts)
theorem TAt.at (h : TAt H t x p c n sp period puts M) (h' : TAt H' t x p c n sp period puts' M') (f : Frt H H' t p c) : At H H' (setT H t x p c n period puts' M') := by
 have hlt := h.lt
 have hlx := h.l.lx
 have hlp := h.l.m.lp
 have hlc := h.l.m.lc
 have hget : ∀ b, (setT H t x p c n period puts' M').get b = if b = t then tobj p x n period puts' else if b = p then memObj c M' else if b = c then celObj M' else H.get b := fun _ => rfl
 have hmem := qv.at (M' := M') (H' := setM H p c M') h.l.m (fun _ _ => rfl)
 refine ⟨rfl, fun b hb => ?_, fun b hb => ?_, fun b hb => ?_⟩
 ·rw [hget]
  split
  ·rename_i e; rw [e, h'.ht]
  ·split
   ·rename_i e; rw [e, h'.l.m.hp]
   ·split
    ·rename_i e; rw [e, h'.l.m.hc]
    ·exact f.get b hb ‹_› ‹_› ‹_›
 ·rw [hget, if_neg (by omega), if_neg (by omega), if_neg (by omega)]
 ·by_cases hbt : b = t
  ·right
   rw [hget, if_pos hbt]
   simp [tobj, lowV, hlp, hlx, flatC]
  ·have e : (setT H t x p c n period puts' M').get b = (setM H p c M').get b := by rw [hget, if_neg hbt, qca]
   rw [e]
   exact hmem.low b hb
theorem TAt.setT (h : TAt H t x p c n sp period puts M) (hpl : puts' < period) (hok : M'.ok) (hl : M'.cs.length = M.cs.length) (hmv : M'.mv ≤ 4611686018427387904) : TAt (setT H t x p c n period puts' M') t x p c n sp period puts' M' := by
 have hget : ∀ b, (Go.Proofs.YtdcbkjgoaknmkaaGreat.setT H t x p c n period puts' M').get b = if b = t then tobj p x n period puts' else (setM H p c M').get b := fun _ => rfl
 have hL := h.l.set hok hl
 refine ⟨by rw [hget, if_pos rfl], h.lt, h.tp, h.tc, h.tx, ⟨by rw [hget, if_neg (Ne.symm h.tx), hL.hx], hL.lx, hL.xp, hL.xc, hL.m.keep (qkV _) (by rw [hget, if_neg (Ne.symm h.tp)]) (by rw [hget, if_neg (Ne.symm h.tc)]), hL.len, hL.n1, hL.sp16⟩, h.n1, h.per, hpl, hmv⟩
theorem qdL : Frt H (setT H t x p c n period puts M) t p c := ⟨qkV _, fun b _ h1 h2 h3 => by
 show (if b = t then _ else (setM H p c M).get b) = _
 rw [if_neg h1, qcv h2 h3]⟩
theorem qee.s {k : Int → AH → Prop} (h : TAt H t x p c n sp period puts M) (hd : M.down = false) (hk : k (M.mv : Nat) H) : qa1 (some ⟨t, 0, none⟩) H k := by
 refine qa1.link ?_
 unfold qa1.b
 simp only [qk1, qj, qkW, if_false, qd, h.c0, qC]
 refine qE.s h.l.m ?_
 have h0 := qdl h.l.m.ok
 have hmv := h.mv
 have e : M.reg 0 = ((M.mv : Int), 0) := by
  unfold Mem.reg
  rw [if_pos ⟨by omega, by omega⟩, if_neg (by simp [hd])]
  unfold Mem.mv
  refine Prod.ext ?_ rfl
  show M.regs.getD 0 0 = _
  omega
 rw [e, qe (n := (M.mv : Int)) (by omega) (by omega)]
 exact hk
def tmay (n : Nat) (M : Mem) (line : Int) : Int := if 0 ≤ line ∧ line < n then if M.down then 2 else 0 else 1
theorem qhn.s {k : Int → AH → Prop} (h : TAt H t x p c n sp period puts M) (hk : k (tmay n M line) H) : qaD (some ⟨t, 0, none⟩) line H k := by
 refine qaD.link ?_
 unfold qaD.b qaD.j1
 unfold tmay at hk
 simp only [qk1, qj, qkW, if_false, if_true, qd, h.c0, h.c2, qC, qg, decide_eq_true_eq]
 by_cases h1 : line < 0
 ·rw [if_pos h1]
  rw [if_neg (by omega)] at hk
  exact hk
 rw [if_neg h1]
 by_cases h2 : line ≥ (n : Int)
 ·rw [if_pos h2]
  rw [if_neg (by omega)] at hk
  exact hk
 rw [if_neg h2]
 rw [if_pos ⟨by omega, by omega⟩] at hk
 refine qW.s h.l.m ?_
 by_cases hd : M.down = true
 ·rw [if_pos hd] at hk ⊢; exact hk
 ·rw [if_neg hd] at hk ⊢; exact hk
theorem qcx.s {k : Int → AH → Prop} (h : TAt H t x p c n sp period puts M) (hk : k n H) : qau (some ⟨t, 0, none⟩) H k := by
 refine qau.link ?_
 unfold qau.b
 simp only [qk1, qj, qkW, if_false, qd, h.c2, qg]
 exact hk
theorem qgJ.s {k : Int → AH → Prop} (h : TAt H t x p c n sp period puts M) (hk : k (lleft M sp : Nat) H) : qbv (some ⟨t, 0, none⟩) H k := by
 refine qbv.link ?_
 unfold qbv.b
 simp only [qk1, qj, qkW, if_false, qd, h.c1, qC]
 exact qix.s h.l hk
theorem qew {H1 : AH} {l : List Int} {Q : List Value → AH → Prop} (hk : qa (H.push ⟨lineV (qkQ 8 0), .rw, 0⟩) H1) (hl : isLine l) (hQ : ∀ H', qa H H' → Q (lineV l) H') :
  ((lineV l).length = 8 ∧ qlo (lineV l) qo = true) ∧ stC H1 ⟨H.size, 0, none⟩ (lineV l) fun Hs => ldA Hs ⟨H.size, 0, none⟩ 8 fun r0 => Q r0 Hs := by
 have hg : H1.get H.size = ⟨lineV (qkQ 8 0), .rw, 0⟩ := by rw [hk.2 _ (by simp [qi]), qp, if_pos rfl]
 refine ⟨⟨qn hl.1, qai _⟩, stC_to ⟨rfl, by rw [hg], by rw [hg, qn hl.1]; simp only [qn (l := qkQ 8 0) rfl]; omega⟩ (qc1 rfl hl.1 hg) ?_⟩
 have hrow : AH.row? (H1.upd H.size ⟨lineV l, .rw, 0⟩) ⟨H.size, 0, none⟩ 8 = some (lineV l) := by
  simp only [AH.row?, qA, if_true, qk7, qkW, if_false, ql1]
  rw [if_neg (by simp), qlH (by rw [qn hl.1]; omega), if_pos ⟨by rw [qn hl.1]; omega, qai _⟩]
 rw [qs hrow]
 exact hQ _ ((((qa.refl H).push _).trans hk).upd (qkV _) _)
theorem LAt.lineOf (h : LAt H x p c n sp M) {s : Nat} (hs : s < n) : isLine (M.view n sp s) := by
 have hp := qdF (M := M) (n := n) (sp := sp) hs
 have hlen := h.len
 have : M.cl (M.place n s sp) ∈ M.cs := by
  unfold Mem.cl
  rw [qkP, qkO (by omega)]
  exact qk5 _
 exact h.m.ok.lines _ this
theorem TAt.lineOf (h : TAt H t x p c n sp period puts M) (s : Nat) : isLine (M.tview n sp s) :=
 h.l.lineOf (by have := qcY (mv := M.mv) (line := s) h.n1; omega)
theorem qej.s {k : List Value → Int → AH → Prop} (h : TAt H t x p c n sp period puts M) (hk : k (lineV (tget n sp M line).1) (tget n sp M line).2 H) : qaE (some ⟨t, 0, none⟩) line H k := by
 refine canon2 (κ := .agg) (μ := .int .i64) (by simp) (by simp) (qcO _) rfl (qaE.link ?_) hk
 unfold qaE.b
 rw [qt, zeroV]
 have hT := h.push ⟨lineV (qkQ 8 0), .rw, 0⟩
 simp only [qj]
 refine qhn.s hT ?_
 unfold tmay tget
 by_cases hs : 0 ≤ line ∧ line < n
 ·rw [if_pos hs, if_pos hs]
  by_cases hd : M.down = true
  ·rw [if_pos hd, if_pos hd, if_pos (by simp)]
   exact qew (Q := fun r H' => At H H' H ∧ r = _ ∧ _) (qa.refl _) qaH fun H' hk => ⟨At.of_keeps hk, rfl, rfl⟩
  ·have hd' : M.down = false := by simpa using hd
   obtain ⟨ln, rfl⟩ := qk9 hs.1
   rw [if_neg hd, if_neg hd, if_neg (by simp)]
   simp only [qd, hT.c1, hT.c2, qC, qg]
   refine qee.s hT hd' ⟨hT.c2, hT.c1, ?_⟩
   have hn200 := h.n200
   refine qbn.s ⟨h.n1, by omega⟩ h.mv (by omega) ⟨hT.c1, ?_⟩
   refine qgo.s hT.l ?_
   have hsl := qcY (mv := M.mv) (line := ln) h.n1
   have hg : lget (n + 1) sp M ((slotN n M.mv ln : Nat) : Int) = (M.tview n sp ln, 0) := by
    unfold lget; rw [if_pos ⟨by omega, by omega⟩, if_neg hd]; rfl
   rw [hg, qkS]
   exact qew (Q := fun r H' => At H H' H ∧ r = _ ∧ _) (qa.refl _) (h.lineOf ln) fun H' hk => ⟨At.of_keeps hk, rfl, rfl⟩
 ·rw [if_neg hs, if_neg hs, if_pos (by simp)]
  exact qew (Q := fun r H' => At H H' H ∧ r = _ ∧ _) (qa.refl _) qaH fun H' hk => ⟨At.of_keeps hk, rfl, rfl⟩
theorem qjz.s {k : Int → AH → Prop} (h : TAt H t x p c n sp period puts M) (hd : M.down = false) (hk : k (tmove n sp M).2 (setM H p c (tmove n sp M).1)) : qbb (some ⟨t, 0, none⟩) H k := by
 have hn200 := h.n200
 have hg := gapN_le (n := n) (mv := M.mv)
 have hf := qfs (n := n) (mv := M.mv)
 refine qco (κ := .int .i64) (by simp) rfl (qbb.link ?_) hk
 unfold qbb.b
 simp only [qj]
 refine qee.s h hd ?_
 rw [qd, h.c2, qg]
 refine qcr.s ⟨h.n1, by omega⟩ ?_
 rw [qd, h.c1, qC]
 refine qgo.s h.l ?_
 have hg' : lget (n + 1) sp M ((fromN n M.mv : Nat) : Int) = (M.view (n + 1) sp (fromN n M.mv), 0) := by
  unfold lget; rw [if_pos ⟨by omega, by omega⟩, if_neg (by simp [hd])]; rfl
 have hl := h.l.lineOf (s := fromN n M.mv) (by omega)
 rw [hg', zeroV]
 refine qfu hl ?_
 rw [if_neg (by simp)]
 have hT := h.push ⟨lineV (M.view (n + 1) sp (fromN n M.mv)), .rw, 0⟩
 rw [qd, hT.c1, qC, qs (qem hl)]
 have fin : ∀ {M' : Mem} {H' : AH}, qv H' p c M' → Frm (H.push ⟨lineV (M.view (n + 1) sp (fromN n M.mv)), .rw, 0⟩) H' p c → At H H' (setM H p c M') := by
  intro M' H' hm f
  refine h.l.m.at fun b hb => ?_
  rw [qca]
  split
  ·rename_i e; rw [e, hm.hp]
  ·split
   ·rename_i e; rw [e, hm.hc]
   ·rw [f.get b ‹_› ‹_›, qG (by omega)]
 refine qd1.g hT.l hl (Prod.eta _).symm ?_
 intro H2 hL2 f2
 unfold tmove
 simp only
 have hmv := h.mv
 by_cases he : (lput (n + 1) sp M ((gapN n M.mv : Nat) : Int) (M.view (n + 1) sp (fromN n M.mv))).2 = 0
 ·rw [if_pos he, if_neg (by simp [he])]
  have hT2 : TAt H2 t x p c n sp period puts (lput (n + 1) sp M ((gapN n M.mv : Nat) : Int) (M.view (n + 1) sp (fromN n M.mv))).1 → True := fun _ => trivial
  have c0 : AH.cell? H2 (qkN ⟨t, 0, none⟩ 0) = some (.pointer (some ⟨p, 0, none⟩)) := by
   rw [ql, f2.cell h.tp h.tc, ← ql]; exact hT.c0
  rw [qd, c0, qC, qbe (n := (M.mv : Int)) (by omega) (by omega), qbe (n := (M.mv : Int) + 1) (by omega) (by omega)]
  refine qz.g hL2.m (by unfold isU; omega) (Prod.eta _).symm ?_
  intro H3 hm3 f3
  exact ⟨fin hm3 (f2.trans f3), rfl⟩
 ·rw [if_neg he, if_pos (by simpa using he)]
  exact ⟨fin hL2.m f2, rfl⟩
end
section
variable {H H' : AH} {t x p c n sp period puts puts' : Nat} {M M' : Mem} {line : Int}
theorem TAt.putsTo (h : TAt H t x p c n sp period puts M) (hp : puts' < period) : AH.canPut H (qkN ⟨t, 0, none⟩ 4) 1 ∧ TAt (AH.put H (qkN ⟨t, 0, none⟩ 4) [.int .i64 (puts' : Int)]) t x p c n sp period puts' M ∧ Frt H (AH.put H (qkN ⟨t, 0, none⟩ 4) [.int .i64 (puts' : Int)]) t p c ∧ (∀ b, b ≠ t → (AH.put H (qkN ⟨t, 0, none⟩ 4) [.int .i64 (puts' : Int)]).get b = H.get b) := by
 rw [ql, qla]
 have other : ∀ b, b ≠ t → (AH.put H ⟨t, 4, none⟩ [.int .i64 (puts' : Int)]).get b = H.get b := fun b hb => by simp only [AH.put, qA]; rw [if_neg hb]
 refine ⟨⟨rfl, congrArg AObj.md h.ht, by rw [h.ht]; simp [tobj]⟩, ⟨?_, h.lt, h.tp, h.tc, h.tx, ⟨by rw [other x (Ne.symm h.tx), h.l.hx], h.l.lx, h.l.xp, h.l.xc, h.l.m.keep (qkV _) (other p (Ne.symm h.tp)) (other c (Ne.symm h.tc)), h.l.len, h.l.n1, h.l.sp16⟩, h.n1, h.per, hp, h.mv⟩, ⟨qkV _, fun b _ h1 _ _ => other b h1⟩, other⟩
 simp only [AH.put, qA, if_true, h.ht]
 rfl
theorem tput_ok {k : Nat} {d : List Int} (hd : isLine d) (h : LV M (n + 1) sp k) (hn : 1 ≤ n) (hok : M.ok) (hmv : M.mv ≤ 4611686018427387904) : (tput n sp period M puts line d).1.ok := by
 have hl := h.len
 have hok2 := hok.len
 unfold tput
 split
 ·split
  ·exact hok
  ·split
   ·have h1 := qfx h hok hmv
    simp only
    split
    ·exact lput_ok hd (by omega) h1
    ·exact h1
   ·exact lput_ok hd (by omega) hok
 ·exact hok
theorem qhA {d : List Int} : (tput n sp period M puts line d).1.cs.length = M.cs.length := by
 unfold tput
 split
 ·split
  ·rfl
  ·split
   ·simp only
    split
    ·rw [qdD, qeP]
    ·exact qeP
   ·exact qdD
 ·rfl
theorem qfy.s {d : List Int} {k : Nat} {K : Int → AH → Prop} (h : TAt H t x p c n sp period puts M) (hlv : LV M (n + 1) sp k) (hmv : M.mv < 4611686018427387904) (hd : isLine d)
  (hk : ∀ H', TAt H' t x p c n sp period (tput n sp period M puts line d).2.1 (tput n sp period M puts line d).1 → Frt H H' t p c → H'.size = H.size → K (tput n sp period M puts line d).2.2 H') : qal (some ⟨t, 0, none⟩) line (lineV d) H K := by
 have hn200 := h.n200
 have hper := h.per
 have hpl := h.pl
 have hok := h.l.m.ok
 have lt := h.lt
 have lp := h.l.m.lp
 have lc := h.l.m.lc
 have lx := h.l.lx
 have hok2 := tput_ok (period := period) (puts := puts) (line := line) hd hlv h.n1 hok h.mv
 have hlen2 := qhA (n := n) (sp := sp) (period := period) (M := M) (puts := puts) (line := line) (d := d)
 have hmain : (tput n sp period M puts line d).2.1 < period ∧ (tput n sp period M puts line d).1.mv ≤ 4611686018427387904 := by
  by_cases hin : 0 ≤ line ∧ line < n
  ·by_cases hdn : M.down = true
   ·unfold tput; rw [if_pos hin, if_pos hdn]; exact ⟨hpl, h.mv⟩
   ·obtain ⟨ln, rfl⟩ := qk9 hin.1
    obtain ⟨h1, h2⟩ := qdB (line := ln) (period := period) (puts := puts) hlv h.n1 hok h.mv (by simpa using hdn) (by omega) hd.1
    refine ⟨by rw [h2]; split <;> omega, ?_⟩
    have := h1.mv.2.1
    split at this <;> omega
  ·unfold tput; rw [if_neg hin]; exact ⟨hpl, h.mv⟩
 refine qco (κ := .int .i64) (v := (tput n sp period M puts line d).2.2) (H2 := setT H t x p c n period (tput n sp period M puts line d).2.1 (tput n sp period M puts line d).1) (by simp) rfl (qal.link ?_) (hk _ (h.setT hmain.1 hok2 hlen2 hmain.2) qdL rfl)
 clear hk hok2 hlen2
 have hmv2 := hmain.2
 unfold qal.b
 rw [qt]
 simp only [qj, beq_iff_eq]
 have hT := h.push ⟨lineV d, .rw, 0⟩
 have f0 : Frt H (H.push ⟨lineV d, .rw, 0⟩) t p c := Frt.of_keeps ((qa.refl H).push _)
 have g0 : (H.push ⟨lineV d, .rw, 0⟩).get H.size = ⟨lineV d, .rw, 0⟩ := by rw [qp, if_pos rfl]
 have s0 : H.size < (H.push ⟨lineV d, .rw, 0⟩).size := by simp [qi]
 generalize H.push ⟨lineV d, .rw, 0⟩ = H1 at *
 refine qhn.s hT ?_
 unfold tmay
 by_cases hin : 0 ≤ line ∧ line < n
 rotate_left 1
 ·unfold tput
  rw [if_neg hin, if_neg hin, if_pos (by simp)]
  exact ⟨h.at hT f0, rfl⟩
 rw [if_pos hin]
 by_cases hdn : M.down = true
 ·unfold tput
  rw [if_pos hin, if_pos hdn, if_pos hdn, if_pos (by simp)]
  exact ⟨h.at hT f0, rfl⟩
 rw [if_neg hdn, if_neg (by simp)]
 obtain ⟨ln, rfl⟩ := qk9 hin.1
 have hln : ln < n := by omega
 have hup : M.down = false := by simpa using hdn
 have rowd : ∀ H2 : AH, H2.get H.size = ⟨lineV d, .rw, 0⟩ → AH.row? H2 ⟨H.size, 0, none⟩ 8 = some (lineV d) := by
  intro H2 hg
  simp only [AH.row?, hg, qk7, qkW, if_false, ql1]
  rw [if_neg (by simp), qlH (by rw [qn hd.1]; omega), if_pos ⟨by rw [qn hd.1]; omega, qai _⟩]
 -- the line is put where it is
 have tail : ∀ (H2 : AH) (M2 : Mem) (puts2 : Nat), TAt H2 t x p c n sp period puts2 M2 → Frt H H2 t p c → H2.get H.size = ⟨lineV d, .rw, 0⟩ → M2.down = false → (lput (n + 1) sp M2 (slotN n M2.mv ln : Nat) d).1.mv ≤ 4611686018427387904 →
   ∀ Q : Int → AH → Prop, (∀ H3, TAt H3 t x p c n sp period puts2 (lput (n + 1) sp M2 (slotN n M2.mv ln : Nat) d).1 → Frt H H3 t p c → Q (lput (n + 1) sp M2 (slotN n M2.mv ln : Nat) d).2 H3) → qal.j1 (some ⟨t, 0, none⟩) (ln : Int) Q H.size H2 := by
  intro H2 M2 puts2 hT2 f2 g2 hd2 hm2 Q hQ
  unfold qal.j1
  simp only [qd, hT2.c1, hT2.c2, qC, qg]
  rw [qs (rowd _ g2)]
  refine qee.s hT2 hd2 ⟨rowd _ g2, hT2.c2, hT2.c1, ?_⟩
  refine qbn.s ⟨h.n1, by omega⟩ hT2.mv hln ⟨rowd _ g2, hT2.c1, ?_⟩
  refine qd1.g hT2.l hd (Prod.eta _).symm ?_
  intro H3 hL3 f3
  exact hQ H3 (hT2.mem hL3 f3 hm2) (f2.trans (Frt.of_frm f3))
 rw [qd, hT.c4, qg, qd, qe (n := (puts : Int) + 1) (by omega) (by omega)]
 unfold tput at hmv2 ⊢
 rw [if_pos (show 0 ≤ (ln : Int) ∧ (ln : Int) < (n : Int) from ⟨by omega, by omega⟩), if_neg hdn, qkS] at hmv2 ⊢
 -- the count is stored, before it is looked at
 have other1 : ∀ (v : Int) (b : Nat), b ≠ t → (AH.put H1 (qkN ⟨t, 0, none⟩ 4) [.int .i64 v]).get b = H1.get b := fun v b hb => by rw [ql]; simp only [AH.put, qA]; rw [if_neg hb]
 have hobj : (AH.put H1 (qkN ⟨t, 0, none⟩ 4) [.int .i64 ((puts : Int) + 1)]).get t = tobj p x n period (puts + 1) := by
  rw [ql]; simp only [AH.put, qA, if_true, hT.ht]; rfl
 refine stC_to (hT.putsTo (puts' := puts) hpl).1 rfl ?_
 generalize hH2 : AH.put H1 (qkN ⟨t, 0, none⟩ 4) [.int .i64 ((puts : Int) + 1)] = H2 at *
 have o2 : ∀ b, b ≠ t → H2.get b = H1.get b := fun b hb => by rw [← hH2]; exact other1 _ b hb
 have s2 : H2.size = H1.size := by rw [← hH2]; rfl
 have c4 : AH.cell? H2 (qkN ⟨t, 0, none⟩ 4) = some (.int .i64 ((puts : Int) + 1)) := by
  rw [ql]
  simp only [AH.cell?, hobj, qk7, qkW, if_false]
  rw [if_neg (by simp [tobj])]
  simp [tobj]
 have c3 : AH.cell? H2 (qkN ⟨t, 0, none⟩ 3) = some (.int .i64 (period : Int)) := by
  rw [ql]
  simp only [AH.cell?, hobj, qk7, qkW, if_false]
  rw [if_neg (by simp [tobj])]
  rfl
 have hL2 : LAt H2 x p c (n + 1) sp M := ⟨by rw [o2 x (Ne.symm h.tx), hT.l.hx], by rw [s2]; exact hT.l.lx, hT.l.xp, hT.l.xc, hT.l.m.keep (by rw [s2]; exact qkV _) (o2 p (Ne.symm h.tp)) (o2 c (Ne.symm h.tc)), hT.l.len, hT.l.n1, hT.l.sp16⟩
 have f2 : Frt H H2 t p c := f0.trans ⟨by rw [s2]; exact qkV _, fun b _ h1 _ _ => o2 b h1⟩
 have g2 : H2.get H.size = ⟨lineV d, .rw, 0⟩ := by rw [o2 _ (by omega), g0]
 rw [qd, c4, qg, qd, c3, qg]
 by_cases hp : puts + 1 = period
 ·rw [if_pos hp] at hmv2 ⊢
  rw [if_pos (by omega), qd]
  have hcan : AH.canPut H2 (qkN ⟨t, 0, none⟩ 4) 1 := by rw [ql]; exact ⟨rfl, congrArg AObj.md hobj, by rw [hobj]; simp [tobj]⟩
  have hput : AH.put H2 (qkN ⟨t, 0, none⟩ 4) [.int .i64 0] = H2.upd t (tobj p x n period 0) := by
   rw [ql]; simp only [AH.put, hobj]; rfl
  refine stC_to hcan hput ?_
  have o3 : ∀ b, b ≠ t → (H2.upd t (tobj p x n period 0)).get b = H2.get b := fun b hb => by rw [qA, if_neg hb]
  have hT3 : TAt (H2.upd t (tobj p x n period 0)) t x p c n sp period 0 M :=
   ⟨by rw [qA, if_pos rfl], by rw [qhG, s2]; exact hT.lt, h.tp, h.tc, h.tx, ⟨by rw [o3 x (Ne.symm h.tx), hL2.hx], hL2.lx, hL2.xp, hL2.xc, hL2.m.keep (qkV _) (o3 p (Ne.symm h.tp)) (o3 c (Ne.symm h.tc)), hL2.len, hL2.n1, hL2.sp16⟩, h.n1, h.per, by omega, h.mv⟩
  have f3 : Frt H (H2.upd t (tobj p x n period 0)) t p c := f2.trans ⟨qkV _, fun b _ h1 _ _ => o3 b h1⟩
  have g3 : (H2.upd t (tobj p x n period 0)).get H.size = ⟨lineV d, .rw, 0⟩ := by rw [o3 _ (by omega), g2]
  have s3 : H.size < (H2.upd t (tobj p x n period 0)).size := by rw [qhG, s2]; exact s0
  generalize H2.upd t (tobj p x n period 0) = H3 at *
  refine qjz.s hT3 hup ?_
  have hm1 := qgs (d := d) hlv h.n1 hok.regs (qdl hok) hup hok.cut.1 (fun s hs => (qd4 hlv hok hs).1)
  have hokm := qfx hlv hok h.mv
  have hlenm := qeP (n := n) (sp := sp) (M := M)
  have hmvm := hm1.mv.2.1
  have hT4 : TAt (setM H3 p c (tmove n sp M).1) t x p c n sp period 0 (tmove n sp M).1 := hT3.mem (hT3.l.set hokm hlenm) (Frm.set _ _ _ _) (by omega)
  have f4 : Frt H (setM H3 p c (tmove n sp M).1) t p c := f3.trans (Frt.of_frm (Frm.set _ _ _ _))
  have g4 : (setM H3 p c (tmove n sp M).1).get H.size = ⟨lineV d, .rw, 0⟩ := by rw [qcv (by omega) (by omega), g3]
  generalize setM H3 p c (tmove n sp M).1 = H4 at *
  simp only at hmv2 ⊢
  by_cases he : (tmove n sp M).2 = 0
  ·rw [if_pos he] at hmv2 ⊢
   rw [if_neg (by simp [he])]
   have hup4 : (tmove n sp M).1.down = false := by
    rcases hm1.res with ⟨_, a, _⟩ | ⟨a, _⟩ | ⟨a, _⟩
    ·exact a
    ·omega
    ·omega
   refine tail H4 _ 0 hT4 f4 g4 hup4 hmv2 _ ?_
   intro H5 hT5 f5
   exact ⟨h.at hT5 f5, rfl⟩
  ·rw [if_neg he] at hmv2 ⊢
   rw [if_pos (by simpa using he)]
   exact ⟨h.at hT4 f4, rfl⟩
 ·rw [if_neg hp] at hmv2 ⊢
  rw [if_neg (by omega)]
  have hT3 : TAt H2 t x p c n sp period (puts + 1) M := ⟨hobj, by rw [s2]; exact hT.lt, h.tp, h.tc, h.tx, hL2, h.n1, h.per, by omega, h.mv⟩
  refine tail H2 M (puts + 1) hT3 f2 g2 hup hmv2 _ ?_
  intro H5 hT5 f5
  exact ⟨h.at hT5 f5, rfl⟩
end
section
variable {H : AH} {p c : Nat} {M : Mem} {n sp period : Int}
def qb0 (M : Mem) (n sp period : Int) : Prop := 1 ≤ n ∧ 1 ≤ period ∧ period ≤ 1000 ∧ 0 ≤ sp ∧ sp ≤ 16 ∧ (M.cs.length : Int) = n + 1 + sp ∧ M.down = false ∧ MayT (tblL M sp.toNat) (n + 1) ∧ M.mv ≤ 1099511627776
instance : Decidable (qb0 M n sp period) := by unfold qb0; infer_instance
theorem qaN.s {k : Option Addr → AH → Prop} (hm : qv H p c M) (hsr : isI sp) (h0 : ¬ qb0 M n sp period → k none H)
  (h1 : qb0 M n sp period → ∀ H' t x, TAt H' t x p c n.toNat sp.toNat period.toNat 0 M → qa H H' → H.size ≤ t → H.size ≤ x → k (some ⟨t, 0, none⟩) H') : qaN (some ⟨p, 0, none⟩) n sp period H k := by
 have hlen := hm.ok.len
 have h00 := qdl hm.ok
 have hreg : M.down = false → M.reg 0 = ((M.mv : Int), 0) := by
  intro hd
  unfold Mem.reg
  rw [if_pos ⟨by omega, by omega⟩, if_neg (by simp [hd])]
  unfold Mem.mv
  refine Prod.ext ?_ rfl
  show M.regs.getD 0 0 = _
  omega
 have common : ∀ {Q : Option Addr → AH → Prop}, (¬ qb0 M n sp period → ∀ H', qa H H' → Q none H') → (qb0 M n sp period → ∀ H' t x, TAt H' t x p c n.toNat sp.toNat period.toNat 0 M → qa H H' → H.size ≤ t → H.size ≤ x → Q (some ⟨t, 0, none⟩) H') →
   qaN.b (some ⟨p, 0, none⟩) n sp period H Q := by
  intro Q q0 q1
  unfold qaN.b qaN.j2 qaN.j1
  simp only [qj, decide_eq_true_eq]
  by_cases a1 : n < 1
  ·rw [if_pos a1]; exact q0 (fun h => by have := h.1; omega) _ (qa.refl _)
  rw [if_neg a1]
  refine qP.s hm ?_
  by_cases a2 : n > (M.cs.length : Int)
  ·rw [if_pos a2]; exact q0 (fun h => by have := h.2.2.2.1; have := h.2.2.2.2.2.1; omega) _ (qa.refl _)
  rw [if_neg a2]
  by_cases a3 : period < 1
  ·rw [if_pos a3]; exact q0 (fun h => by have := h.2.1; omega) _ (qa.refl _)
  rw [if_neg a3]
  by_cases a4 : period > 1000
  ·rw [if_pos a4]; exact q0 (fun h => by have := h.2.2.1; omega) _ (qa.refl _)
  rw [if_neg a4, qe (n := n + 1) (by omega) (by omega)]
  refine qax.s hm (by unfold isI; omega) hsr ?_ ?_
  ·intro hb
   rw [Option.isNone_none, if_pos rfl]
   exact q0 (fun h => hb ⟨by have := h.1; omega, h.2.2.2.1, h.2.2.2.2.1, by have := h.2.2.2.2.2.1; omega, h.2.2.2.2.2.2.1, h.2.2.2.2.2.2.2.1⟩) _ (qa.refl _)
  ·intro hg H2 hL hk _
   rw [qk1, if_neg (by simp)]
   refine qE.s hL.m ?_
   rw [hreg hg.2.2.2.2.1, if_neg (by simp)]
   by_cases a5 : (M.mv : Int) > 1099511627776
   ·rw [if_pos a5]
    exact q0 (fun h => by have := h.2.2.2.2.2.2.2.2; omega) _ hk
   ·rw [if_neg a5, qt]
    have hgood : qb0 M n sp period := ⟨by omega, by omega, by omega, hg.2.1, hg.2.2.1, by have := hg.2.2.2.1; omega, hg.2.2.2.2.1, hg.2.2.2.2.2, by omega⟩
    have hL' := hL.push (tobj p H.size n.toNat period.toNat 0)
    have en : (n + 1).toNat = n.toNat + 1 := by omega
    rw [en] at hL'
    have hobj : (⟨[(qkR (some ⟨p, 0, none⟩)), (qkR (some ⟨H.size, 0, none⟩)), (qkL .i64 n), (qkL .i64 period), (qkL .i64 (0 : Int))], .rw, 0⟩ : AObj) = tobj p H.size n.toNat period.toNat 0 := by
     simp only [tobj]
     rw [show ((n.toNat : Nat) : Int) = n by omega, show ((period.toNat : Nat) : Int) = period by omega]
     rfl
    rw [hobj]
    have hlp := hm.lp
    have hlc := hm.lc
    have hk1 := hk.1
    have hlx := hL.lx
    exact q1 hgood _ _ H.size ⟨by rw [qp, if_pos rfl], by simp [qi], by omega, by omega, by omega, hL', by omega, by omega, by omega, by omega⟩ (hk.push _) (by omega) (by omega)
 by_cases hg : qb0 M n sp period
 ·exact qaN.link (common (fun h => absurd hg h) h1)
 ·refine qco (κ := .ptr) (v := none) (by simp) rfl (qaN.link (common ?_ ?_)) (h0 hg)
  ·intro _ H' hk; exact ⟨At.of_keeps hk, rfl⟩
  ·intro h; exact absurd h hg
end
section
variable {H0 H H' : AH} {t x p c n sp period puts puts' o k : Nat} {M M' : Mem} {ws : List (List Int)}
theorem qkb {line : Int} {d : List Int} (h : ¬ (0 ≤ line ∧ line < n)) : tput n sp period M puts line d = (M, puts, 1) := by unfold tput; rw [if_neg h]
end
section
variable {H : AH}
theorem mv_new {n : Nat} {l : List Int} : (Mem.new n l).mv = 0 := rfl
end
section
variable {H : AH}
theorem qhM (z : Int) : isU (qkM .u64 z) := by
 unfold isU
 simp only [qkM, qlI, IntKind.signed, Bool.false_and, Int.reducePow, qkW, if_false]; omega
end
end Go.Proofs.YtdcbkjgoaknmkaaGreat
