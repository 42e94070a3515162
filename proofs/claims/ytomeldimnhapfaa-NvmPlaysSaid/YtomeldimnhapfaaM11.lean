import Derived.Test.YtomeldimnhapfaaM10
set_option linter.all false
set_option linter.all false
namespace Go.Proofs.Ytomeldimnhapfaa
open Go Go.Abs

/-- All old blocks are as they were but for the document's memory. -/
structure Frl (H H' : AH) (q a b : Nat) : Prop where
  size : H.size ≤ H'.size
  get : ∀ x, x < H.size → x ≠ q → x ≠ a → x ≠ b → H'.get x = H.get x
theorem Frl.refl {H : AH} {q a b : Nat} : Frl H H q a b := ⟨Nat.le_refl _, fun _ _ _ _ _ => rfl⟩
theorem Frr.l {H H' : AH} {q a b : Nat} (h : Frr H H' q a b) : Frl H H' q a b := ⟨by rw [h.size]; exact Nat.le_refl _, fun x _ h1 h2 h3 => h.get x h1 h2 h3⟩
theorem Frl.trans {H H' H2 : AH} {q a b : Nat} (h : Frl H H' q a b) (h' : Frl H' H2 q a b) : Frl H H2 q a b :=
  ⟨Nat.le_trans h.size h'.size, fun x hx h1 h2 h3 => (h'.get x (by have := h.size; omega) h1 h2 h3).trans (h.get x hx h1 h2 h3)⟩
theorem Frl.push {H : AH} {q a b : Nat} (o : AObj) : Frl H (H.push o) q a b := ⟨by simp [push_size], fun x hx _ _ _ => push_get_ne (by omega)⟩
theorem Frl.keeps {H0 H H' : AH} {q a b : Nat} (h : Frl H H' q a b) (hk : Keeps H0 H) (hq : H0.size ≤ q) (ha : H0.size ≤ a) (hb : H0.size ≤ b) : Keeps H0 H' :=
  ⟨Nat.le_trans hk.1 h.size, fun x hx => by rw [h.get x (by have := hk.1; omega) (by omega) (by omega) (by omega)]; exact hk.2 x hx⟩

def mixFr (old now : List Int) (mask : Int) (j : Nat) : List Int := (List.range 8).map fun i => if i < j ∧ mbit mask i = false then old.getD i 0 else now.getD i 0
theorem mixFr_len (old now : List Int) (mask : Int) (j : Nat) : (mixFr old now mask j).length = 8 := by simp [mixFr]
theorem mixFr_0 {now : List Int} (old : List Int) (mask : Int) (h : now.length = 8) : mixFr old now mask 0 = now := by
  apply List.ext_getElem?
  intro i
  by_cases hi : i < 8
  · simp only [mixFr, List.getElem?_map, List.getElem?_range hi, Option.map_some, Nat.not_lt_zero, false_and, if_false]
    rw [List.getD_eq_getElem?_getD, List.getElem?_eq_getElem (by omega), Option.getD_some]
  · rw [List.getElem?_eq_none (by simp [mixFr]; omega), List.getElem?_eq_none (by omega)]
theorem mixFr_8 (old now : List Int) (mask : Int) : mixFr old now mask 8 = mixL old now mask := by
  unfold mixFr mixL
  refine List.map_congr_left fun i hi => ?_
  have : i < 8 := by simpa using hi
  cases h : mbit mask i <;> simp [this]
theorem mixFr_succ (old now : List Int) (mask : Int) {j : Nat} (hj : j < 8) : mixFr old now mask (j + 1) = if mbit mask j then mixFr old now mask j else (mixFr old now mask j).set j (old.getD j 0) := by
  apply List.ext_getElem?
  intro i
  by_cases hi : i < 8
  · split
    · rename_i hb
      simp only [mixFr, List.getElem?_map, List.getElem?_range hi, Option.map_some]
      have : (i < j + 1 ∧ mbit mask i = false) ↔ (i < j ∧ mbit mask i = false) := by
        constructor <;> intro ⟨h1, h2⟩
        · refine ⟨?_, h2⟩
          rcases Nat.lt_or_ge i j with h | h
          · exact h
          · have : i = j := by omega
            subst this; rw [hb] at h2; cases h2
        · exact ⟨by omega, h2⟩
      simp only [this]
    · rename_i hb
      have hb' : mbit mask j = false := by simpa using hb
      by_cases hij : i = j
      · subst hij
        rw [List.getElem?_set_self (by rw [mixFr_len]; exact hi)]
        simp [mixFr, hi, hb']
      · rw [List.getElem?_set_ne (by omega)]
        simp only [mixFr, List.getElem?_map, List.getElem?_range hi, Option.map_some]
        have : (i < j + 1 ∧ mbit mask i = false) ↔ (i < j ∧ mbit mask i = false) := by constructor <;> intro ⟨h1, h2⟩ <;> exact ⟨by omega, h2⟩
        simp only [this]
  · rw [List.getElem?_eq_none (by rw [mixFr_len]; omega)]
    symm
    split
    · rw [List.getElem?_eq_none (by rw [mixFr_len]; omega)]
    · rw [List.getElem?_eq_none (by rw [List.length_set, mixFr_len]; omega)]

theorem setLine {l l' : List Int} (h : l.length = 8) (h' : l'.length = 8) : setMany (lineV l) 0 (lineV l') = lineV l' := by
  apply List.ext_getElem?
  intro t
  rw [setMany_get _ _ _ _ (by rw [lineV_len h, lineV_len h']; omega), lineV_len h']
  by_cases ht : t < 8
  · rw [if_pos (by omega)]; rfl
  · rw [if_neg (by omega), List.getElem?_eq_none (by rw [lineV_len h]; omega), List.getElem?_eq_none (by rw [lineV_len h']; omega)]

section
variable {H : AH} {q a b : Nat} {sl : Sl} {w : RMem} {i : Int}

theorem darningref4_Mix.s {old now : List Int} {mask : Int} {k : List Value → AH → Prop} (ho : isLine old) (hn : isLine now) (h : k (lineV (mixL old now mask)) H) : darningref4_Mix (lineV old) (lineV now) mask H k := by
  refine canon1 (κ := .agg) (by simp) (lineV_flat _) (darningref4_Mix.link ?_) h
  unfold darningref4_Mix.b
  simp only [newC_eq, push_more0, more_more, List.singleton_append, List.cons_append, List.nil_append, more_size, List.length_cons, List.length_nil, Nat.zero_add, Nat.reduceAdd, Nat.add_assoc, zeroV]
  refine loopT_inv (t := (0 : Int)) (I := fun (t : Int) H' => ∃ j : Nat, t = (j : Int) ∧ j ≤ 8 ∧ H' = H.more [⟨lineV old, .rw, 0⟩, ⟨lineV (mixFr old now mask j), .rw, 0⟩, ⟨lineV (List.replicate 8 0), .rw, 0⟩]) (m := fun (t : Int) _ => Int.toNat (8 - t)) ?_ ⟨0, rfl, by omega, by rw [mixFr_0 _ _ hn.1]⟩
  intro t H1 hI it hit
  obtain ⟨j, rfl, hj, rfl⟩ := hI
  unfold darningref4_Mix.l2
  simp only [bcase_eq, decide_eq_true_eq]
  by_cases hlt : (j : Int) < 8
  · rw [if_pos hlt, wrap_u64 (n := (j : Int)) (by omega) (by omega)]
    refine ⟨by omega, ?_⟩
    rw [mbit_eq0 _ _ (by omega), wrap_i64 (n := (j : Int) + 1) (by omega) (by omega), Int.toNat_natCast, Nat.mul_one]
    have hs := mixFr_succ old now mask (j := j) (by omega)
    by_cases hb : mbit mask j = true
    · rw [if_pos hb] at hs
      rw [if_neg (by simp [hb])]
      exact hit _ _ ⟨j + 1, by omega, by omega, by rw [hs]⟩ (by omega)
    · rw [if_neg hb] at hs
      rw [if_pos (by simpa using hb)]
      refine ⟨by omega, ?_⟩
      have c0 := more_cell H [⟨lineV old, .rw, 0⟩, ⟨lineV (mixFr old now mask j), .rw, 0⟩, ⟨lineV (List.replicate 8 0), .rw, 0⟩] 0 j _ rfl (by simp)
      rw [Nat.add_zero, lineV_get ho.1 (show j < 8 by omega)] at c0
      rw [addr_add, Nat.zero_add, c0, elI_some]
      refine ⟨by omega, ?_⟩
      have hp := more_put H [⟨lineV old, .rw, 0⟩, ⟨lineV (mixFr old now mask j), .rw, 0⟩, ⟨lineV (List.replicate 8 0), .rw, 0⟩] 1 j [.int .u64 (old.getD j 0)] _ rfl
      simp only [setMany, lineV_set, List.set_cons_zero, List.set_cons_succ] at hp
      rw [addr_add, Nat.zero_add]
      refine stC_to (more_canPut H _ 1 j 1 _ rfl rfl (by rw [lineV_len (mixFr_len _ _ _ _)]; omega)) hp ?_
      exact hit _ _ ⟨j + 1, by omega, by omega, by rw [hs]⟩ (by omega)
  · rw [if_neg hlt]
    have : j = 8 := by omega
    subst this
    unfold darningref4_Mix.j1
    rw [mixFr_8]
    have hmx := (mixL_line (mask := mask) ho hn).1
    rw [ldA_some (more_row H _ 1 8 _ rfl (by simp) (lineV_len hmx) (lineV_ok _))]
    refine ⟨⟨lineV_len hmx, lineV_ok _⟩, ?_⟩
    have hp := more_put H [⟨lineV old, .rw, 0⟩, ⟨lineV (mixL old now mask), .rw, 0⟩, ⟨lineV (List.replicate 8 0), .rw, 0⟩] 2 0 (lineV (mixL old now mask)) _ rfl
    simp only [setLine (l := List.replicate 8 0) rfl hmx, List.set_cons_zero, List.set_cons_succ] at hp
    refine stC_to (more_canPut H _ 2 0 _ _ rfl rfl (by rw [lineV_len hmx, lineV_len rfl]; omega)) hp ?_
    rw [ldA_some (more_row H _ 2 8 _ rfl (by simp) (lineV_len hmx) (lineV_ok _))]
    exact ⟨At.of_keeps (Keeps.more _ _), rfl⟩

theorem darningref4_Memory_goes.s {k : Bool → AH → Prop} (hr : RAt H q a b sl w) (h : ∀ H', RAt H' q a b sl w.goes.1 → Frr H H' q a b → k w.goes.2 H') : darningref4_Memory_goes (some ⟨q, 0, none⟩) H k := by
  refine darningref4_Memory_goes.link ?_
  have hc := hr.ok.cuts
  unfold darningref4_Memory_goes.b
  rw [onPtr_mk, hr.c41, elI_some, onPtr_mk]
  obtain ⟨h1, f1⟩ := hr.p41 (v := inc w.count)
  refine stC_to (hr.can (by omega)) rfl ?_
  have hw : IntKind.wrap .i64 (w.count + 1) = inc w.count := rfl
  rw [hw]
  generalize AH.put H _ _ = H1 at *
  simp only [onPtr_mk, h1.c38, elI_some, bcase_eq, beq_iff_eq]
  unfold RMem.goes at h
  by_cases h0 : w.cuts = 0
  · rw [if_pos h0] at h ⊢; exact h _ h1 f1
  · rw [if_neg h0] at h ⊢
    rw [wrap_i64 (n := w.cuts - 1) (by omega) (by omega)]
    obtain ⟨h2, f2⟩ := h1.p38 (v := w.cuts - 1) (by omega)
    refine stC_to (h1.can (by omega)) rfl ?_
    generalize AH.put H1 _ _ = H2 at *
    rw [h2.c38, elI_some]
    exact h _ h2 (f1.trans f2)

theorem RMem.goes_ok (h : w.ok) : w.goes.1.ok := by
  have := h.cuts
  unfold RMem.goes
  split
  · exact ⟨h.lines, h.regs, h.regU, h.len, h.n, h.cuts⟩
  · exact ⟨h.lines, h.regs, h.regU, h.len, h.n, by simp only; omega⟩
theorem RMem.goes_L : w.goes.1.L = w.L := by unfold RMem.goes; split <;> rfl
theorem RMem.goes_W : w.goes.1.W = w.W := by unfold RMem.goes; split <;> rfl
theorem RMem.goes_lim : w.goes.1.lim = w.lim := by unfold RMem.goes; split <;> rfl
theorem RMem.goes_mask : w.goes.1.mask = w.mask := by unfold RMem.goes; split <;> rfl
theorem RMem.goes_R : w.goes.1.R = w.R := by unfold RMem.goes; split <;> rfl
theorem RMem.goes_dark : w.goes.1.dark = w.dark := by unfold RMem.goes; split <;> rfl
theorem RMem.goes_has : w.goes.1.has i ↔ w.has i := by unfold RMem.has; rw [RMem.goes_L]

theorem put_tail {k : Int → AH → Prop} {cut worn : Bool} {H1 : AH} (hr : RAt H1 q a b sl w) (h : ∀ H', RAt H' q a b sl (w.ended cut worn).1 → Frr H1 H' q a b → k (w.ended cut worn).2 H') : darningref4_Memory_Put.j1 (some ⟨q, 0, none⟩) k cut worn H1 := by
  unfold darningref4_Memory_Put.j1
  simp only [bcase_eq]
  unfold RMem.ended at h
  by_cases hc : cut = true
  · rw [if_pos hc] at h ⊢
    obtain ⟨h1, f1⟩ := hr.p40 (v := true)
    rw [onPtr_mk]
    refine stC_to (hr.can (by omega)) rfl ?_
    exact h _ h1 f1
  · rw [if_neg hc] at h ⊢
    by_cases hw : worn = true
    · rw [if_pos hw] at h ⊢; exact h _ hr ⟨rfl, fun _ _ _ _ => rfl⟩
    · rw [if_neg hw] at h ⊢; exact h _ hr ⟨rfl, fun _ _ _ _ => rfl⟩

theorem darningref4_Memory_Put.s {l : List Int} {k : Int → AH → Prop} (hr : RAt H q a b sl w) (hl : isLine l) (h : ∀ H', RAt H' q a b sl (w.put i l).1 → Frl H H' q a b → k (w.put i l).2 H') : darningref4_Memory_Put (some ⟨q, 0, none⟩) i (lineV l) H k := by
  refine darningref4_Memory_Put.link ?_
  unfold darningref4_Memory_Put.b
  rw [newC_eq]
  have hr1 := hr.push ⟨lineV l, .rw, 0⟩
  have f1 : Frl H (H.push ⟨lineV l, .rw, 0⟩) q a b := Frl.push _
  have hrow1 : AH.row? (H.push ⟨lineV l, .rw, 0⟩) ⟨H.size, 0, none⟩ 8 = some (lineV l) := line_new hl
  have hg1 : (H.push ⟨lineV l, .rw, 0⟩).get H.size = ⟨lineV l, .rw, 0⟩ := by simp [push_get]
  have hs1 : H.size < (H.push ⟨lineV l, .rw, 0⟩).size := by simp [push_size]
  have lq := hr.lq
  have la := hr.la
  have lb := hr.lb
  generalize H.push ⟨lineV l, .rw, 0⟩ = H1 at *
  simp only [onPtr_mk, hr1.c0, elL_some, bcase_eq, decide_eq_true_eq]
  have key : ∀ bb, (bb = true ↔ ¬ w.has i) → darningref4_Memory_Put.j4 (some ⟨q, 0, none⟩) i k H.size H1 bb := by
    intro bb hb
    unfold darningref4_Memory_Put.j4
    simp only [bcase_eq]
    unfold RMem.put at h
    by_cases hi : w.has i
    · rw [if_pos hi] at h
      have hi' := hi
      unfold RMem.has at hi'
      rw [if_neg (fun hh => hb.1 hh hi), onPtr_mk, hr1.c40, elB_some]
      by_cases hd : w.dark = true
      · rw [if_pos hd] at h ⊢; exact h _ hr1 f1
      · rw [if_neg hd] at h ⊢
        refine darningref4_Memory_goes.s hr1 ?_
        intro H2 hr2 f2
        have hi2 : w.goes.1.has i := RMem.goes_has.2 hi
        have hrow2 : AH.row? H2 ⟨H.size, 0, none⟩ 8 = some (lineV l) := by
          simp only [AH.row?, f2.get H.size (by omega) (by omega) (by omega)] at hrow1 ⊢; exact hrow1
        have hg2 : H2.get H.size = ⟨lineV l, .rw, 0⟩ := by rw [f2.get H.size (by omega) (by omega) (by omega), hg1]
        have hs2 : H.size < H2.size := by rw [f2.size]; exact hs1
        have f12 : Frl H H2 q a b := f1.trans f2.l
        have hlen : i.toNat < w.goes.1.W.length := by have := hr2.ok.len; have := hi2; unfold RMem.has at this; omega
        have j3 : ∀ worn, worn = w.goes.1.worn i.toNat → darningref4_Memory_Put.j3 (some ⟨q, 0, none⟩) i k H.size H2 w.goes.2 worn := by
          intro worn hw
          unfold darningref4_Memory_Put.j3
          simp only [bcase_eq]
          by_cases hw' : worn = true
          · rw [if_neg (by simp [hw'])]
            rw [if_pos (by rw [← hw]; exact hw')] at h
            rw [hw']
            exact put_tail hr2 fun H' hr' f' => h _ hr' (f12.trans f'.l)
          · have hwf : worn = false := by simpa using hw'
            rw [if_pos (by simp [hwf])]
            rw [if_neg (by rw [← hw]; exact hw')] at h
            obtain ⟨can, hr3, f3⟩ := hr2.putW hi2 (v := inc (w.W.getD i.toNat 0))
            rw [onPtr_mk, hr2.c36, elL_some]
            refine ⟨⟨hi'.1, by show i < (w.goes.1.W.length : Int); omega⟩, ?_⟩
            rw [onPtr_mk, hr2.cellW hi2, elI_some]
            refine ⟨⟨hi'.1, by show i < (w.goes.1.W.length : Int); omega⟩, ?_⟩
            rw [onPtr_mk]
            have hW : IntKind.wrap .i64 (w.goes.1.W.getD i.toNat 0 + 1) = inc (w.W.getD i.toNat 0) := by rw [RMem.goes_W]; rfl
            rw [hW]
            refine stC_to can rfl ?_
            generalize AH.put H2 _ _ = H3 at *
            have hrow3 : AH.row? H3 ⟨H.size, 0, none⟩ 8 = some (lineV l) := by
              simp only [AH.row?, f3.get H.size (by omega) (by omega) (by omega)] at hrow2 ⊢; exact hrow2
            have hg3 : H3.get H.size = ⟨lineV l, .rw, 0⟩ := by rw [f3.get H.size (by omega) (by omega) (by omega), hg2]
            have hs3 : H.size < H3.size := by rw [f3.size]; exact hs2
            have f13 := f12.trans f3.l
            have hi3 : RMem.has { w.goes.1 with W := w.goes.1.W.set i.toNat (inc (w.W.getD i.toNat 0)) } i := hi2
            have j2 : ∀ H4 l', isLine l' → RAt H4 q a b sl { w.goes.1 with W := w.goes.1.W.set i.toNat (inc (w.W.getD i.toNat 0)) } → AH.row? H4 ⟨H.size, 0, none⟩ 8 = some (lineV l') → Frl H H4 q a b →
                l' = (if w.goes.2 = true then mixL (w.L.getD i.toNat []) l w.mask else l) → darningref4_Memory_Put.j2 (some ⟨q, 0, none⟩) i k H.size w.goes.2 false H4 := by
              intro H4 l' hl' hr4 hrow4 f4 he
              unfold darningref4_Memory_Put.j2
              rw [onPtr_mk, hr4.c0, elL_some, ldA_some hrow4]
              obtain ⟨can, hr5, f5⟩ := hr4.putL hi3 hl'
              refine ⟨by have := hi2; unfold RMem.has at this; exact this, ?_⟩
              rw [onPtr_mk]
              refine ⟨⟨lineV_len hl'.1, lineV_ok _⟩, stC_to can rfl ?_⟩
              refine put_tail hr5 fun H' hr' f' => ?_
              subst he
              simp only [RMem.goes_L, RMem.goes_W] at hr' ⊢
              exact h _ hr' ((f4.trans f5.l).trans f'.l)
            by_cases hcut : w.goes.2 = true
            · rw [if_pos hcut]
              rw [hwf]
              have hold := hr3.ok.lines _ (r_mem hi3)
              rw [onPtr_mk, hr3.c0, elL_some]
              refine ⟨by have := hi2; unfold RMem.has at this; exact this, ?_⟩
              rw [onPtr_mk, ldA_some (hr3.rowL hi3), ldA_some hrow3, onPtr_mk, hr3.c39, elI_some]
              refine darningref4_Mix.s hold hl ?_
              have hmx := mixL_line (mask := w.goes.1.mask) hold hl
              refine ⟨⟨lineV_len hmx.1, lineV_ok _⟩, ?_⟩
              have hput := lineV_put hl.1 hmx.1 hg3
              refine stC_to ⟨rfl, by rw [hg3], by rw [hg3, lineV_len hmx.1]; simp only [lineV_len hl.1]; omega⟩ hput ?_
              refine j2 _ _ hmx ?_ ?_ ?_ ?_
              · refine hr3.keep (by exact Nat.le_refl _) fun x hx hy => ?_
                rw [upd_get, if_neg]
                rintro rfl
                rcases hy with h | h | h | ⟨y, h1, h2⟩
                · omega
                · omega
                · omega
                · have := hr.sl y h1; omega
              · simp only [AH.row?, upd_get, if_true, Option.isSome_none, Bool.false_eq_true, if_false, List.drop_zero]
                rw [if_neg (by simp), List.take_of_length_le (by rw [lineV_len hmx.1]; omega), if_pos ⟨by rw [lineV_len hmx.1]; omega, lineV_ok _⟩]
              · refine ⟨by rw [upd_size]; exact f13.size, fun x hx h1 h2 h3 => ?_⟩
                rw [upd_get, if_neg (by omega)]
                exact f13.get x hx h1 h2 h3
              · rw [if_pos hcut, RMem.goes_mask]
                show mixL (w.goes.1.L.getD i.toNat []) l w.mask = _
                rw [RMem.goes_L]
            · rw [if_neg hcut, hwf]
              exact j2 H3 l hl hr3 hrow3 f13 (by rw [if_neg hcut])
        have hsn : sl.n = w.lim.length := hr.hs.1
        have hW0 : w.goes.1.W = w.W := RMem.goes_W
        simp only [hr2.c37, elL_some, onPtr_mk, hr2.c36, hr2.cellW hi2, hsn, elI_some, decide_eq_true_eq]
        by_cases hlt : i < (w.lim.length : Int)
        · rw [if_pos hlt]
          refine ⟨by omega, ?_⟩
          obtain ⟨ad, had, hcell⟩ := hr2.cellLim (j := i.toNat) (by rw [RMem.goes_lim]; omega)
          rw [RMem.goes_lim] at hcell
          have hww : w.goes.1.worn i.toNat = (decide (0 ≤ w.lim.getD i.toNat 0) && decide (w.lim.getD i.toNat 0 ≤ w.W.getD i.toNat 0)) := by
            unfold RMem.worn; rw [RMem.goes_lim, if_pos (by omega), hW0]
          simp only [had, onPtr_mk, hcell, elI_some, ge_iff_le, hW0, decide_eq_true_eq]
          by_cases h0 : 0 ≤ w.lim.getD i.toNat 0
          · rw [if_pos h0]
            refine ⟨by have := hlen; rw [hW0] at this; omega, by omega, ?_⟩
            exact j3 _ (by rw [hww, decide_eq_true h0, Bool.true_and])
          · rw [if_neg h0]
            exact j3 _ (by rw [hww, decide_eq_false h0, Bool.false_and])
        · rw [if_neg hlt]
          exact j3 _ (by unfold RMem.worn; rw [RMem.goes_lim, if_neg (by omega)])
    · rw [if_neg hi] at h
      rw [if_pos (hb.2 hi)]
      exact h _ hr1 f1
  by_cases h0 : i < 0
  · rw [if_pos h0]
    exact key true (by unfold RMem.has; simp; omega)
  · rw [if_neg h0]
    exact key _ (by unfold RMem.has; simp; omega)

theorem RMem.set_ok {v : Int} (h : w.ok) (hv : isU v) : (w.set i v).1.ok := by
  have hg := RMem.goes_ok h
  have hset : ∀ x ∈ w.R.set i.toNat v, isU x := by
    intro x hx
    rcases List.mem_or_eq_of_mem_set hx with h' | rfl
    · exact h.regU x h'
    · exact hv
  unfold RMem.set
  split
  · split
    · exact h
    · split
      · refine ⟨hg.lines, ?_, ?_, hg.len, hg.n, hg.cuts⟩
        · simp only; split
          · simpa using h.regs
          · exact h.regs
        · simp only; split
          · exact hset
          · exact h.regU
      · exact ⟨hg.lines, by simpa using h.regs, hset, hg.len, hg.n, hg.cuts⟩
  · exact h

theorem darningref4_Memory_Set.s {v : Int} {k : Int → AH → Prop} (hr : RAt H q a b sl w) (hv : isU v) (h : ∀ H', RAt H' q a b sl (w.set i v).1 → Frl H H' q a b → k (w.set i v).2 H') : darningref4_Memory_Set (some ⟨q, 0, none⟩) i v H k := by
  refine darningref4_Memory_Set.link ?_
  unfold darningref4_Memory_Set.b
  simp only [bcase_eq, decide_eq_true_eq]
  have key : ∀ bb, (bb = true ↔ ¬ regIn i) → darningref4_Memory_Set.j2 (some ⟨q, 0, none⟩) i v H k bb := by
    intro bb hb
    unfold darningref4_Memory_Set.j2
    simp only [bcase_eq]
    unfold RMem.set at h
    by_cases hi : regIn i
    · have hi' := hi
      unfold regIn at hi'
      rw [if_pos hi] at h
      rw [if_neg (fun hh => hb.1 hh hi), onPtr_mk, hr.c40, elB_some]
      by_cases hd : w.dark = true
      · rw [if_pos hd] at h ⊢; exact h _ hr Frl.refl
      · rw [if_neg hd] at h ⊢
        refine darningref4_Memory_goes.s hr ?_
        intro H2 hr2 f2
        obtain ⟨hr3, f3⟩ := hr2.pr (i := i.toNat) (v := v) (by omega) hv
        rw [RMem.goes_R] at hr3
        by_cases hc : w.goes.2 = true
        · rw [if_pos hc] at h
          rw [if_neg (by simp [hc]), onPtr_mk, hr2.c39, elI_some, mbit0, RMem.goes_mask]
          by_cases hm : mbit w.mask 0 = true
          · rw [if_pos hm] at h ⊢
            rw [onPtr_mk]
            refine ⟨by omega, stC_to (by have := hr2.can (i := 1 + i.toNat) (by omega); simpa [addr_add] using this) rfl ?_⟩
            generalize AH.put H2 _ _ = H3 at *
            unfold darningref4_Memory_Set.j1
            rw [onPtr_mk]
            obtain ⟨hr4, f4⟩ := hr3.p40 (v := true)
            refine stC_to (hr3.can (by omega)) rfl ?_
            exact h _ hr4 ((f2.trans f3).trans f4).l
          · rw [if_neg hm] at h ⊢
            unfold darningref4_Memory_Set.j1
            rw [onPtr_mk]
            obtain ⟨hr4, f4⟩ := hr2.p40 (v := true)
            refine stC_to (hr2.can (by omega)) rfl ?_
            have e : ({ w.goes.1 with dark := true, R := w.R } : RMem) = { w.goes.1 with dark := true } := by rw [← RMem.goes_R]
            rw [e] at h
            exact h _ hr4 (f2.trans f4).l
        · rw [if_neg hc] at h
          rw [if_pos (by simpa using hc), onPtr_mk]
          refine ⟨by omega, stC_to (by have := hr2.can (i := 1 + i.toNat) (by omega); simpa [addr_add] using this) rfl ?_⟩
          exact h _ hr3 (f2.trans f3).l
    · rw [if_neg hi] at h
      rw [if_pos (hb.2 hi)]
      exact h _ hr Frl.refl
  by_cases h0 : i < 0
  · rw [if_pos h0]
    exact key true (by unfold regIn; simp; omega)
  · rw [if_neg h0]
    exact key _ (by unfold regIn; simp; omega)

theorem darningref4_Memory_Cut.s {n mask : Int} {k : AH → Prop} (hr : RAt H q a b sl w) (h : ∀ H', RAt H' q a b sl (w.cut n mask) → Frl H H' q a b → k H') : darningref4_Memory_Cut (some ⟨q, 0, none⟩) n mask H k := by
  refine darningref4_Memory_Cut.link ?_
  unfold darningref4_Memory_Cut.b
  rw [onPtr_mk]
  obtain ⟨h1, f1⟩ := hr.p38 (v := 0) (by omega)
  refine stC_to (hr.can (by omega)) rfl ?_
  generalize AH.put H _ _ = H1 at *
  rw [onPtr_mk]
  obtain ⟨h2, f2⟩ := h1.p39 (v := mask)
  refine stC_to (h1.can (by omega)) rfl ?_
  generalize AH.put H1 _ _ = H2 at *
  unfold darningref4_Memory_Cut.j1
  unfold RMem.cut at h
  simp only [bcase_eq, decide_eq_true_eq, ge_iff_le]
  by_cases h0 : 0 ≤ n
  · rw [if_pos h0]
    by_cases h3 : n < 4611686018427387904
    · rw [if_pos h3, onPtr_mk, wrap_i64 (n := n + 1) (by omega) (by omega)]
      obtain ⟨h4, f4⟩ := h2.p38 (v := n + 1) (by omega)
      refine stC_to (h2.can (by omega)) rfl ?_
      rw [if_pos ⟨h0, h3⟩] at h
      exact h _ h4 ((f1.trans f2).trans f4).l
    · rw [if_neg h3]
      rw [if_neg (by omega)] at h
      exact h _ h2 (f1.trans f2).l
  · rw [if_neg h0]
    rw [if_neg (by omega)] at h
    exact h _ h2 (f1.trans f2).l

theorem darningref4_Memory_Power.s {k : AH → Prop} (hr : RAt H q a b sl w) (h : ∀ H', RAt H' q a b sl w.power → Frl H H' q a b → k H') : darningref4_Memory_Power (some ⟨q, 0, none⟩) H k := by
  refine darningref4_Memory_Power.link ?_
  unfold darningref4_Memory_Power.b
  rw [onPtr_mk]
  obtain ⟨h1, f1⟩ := hr.p40 (v := false)
  refine stC_to (hr.can (by omega)) rfl ?_
  generalize AH.put H _ _ = H1 at *
  rw [onPtr_mk]
  obtain ⟨h2, f2⟩ := h1.p38 (v := 0) (by omega)
  refine stC_to (h1.can (by omega)) rfl ?_
  exact h _ h2 (f1.trans f2).l

theorem darningref4_Memory_Reg.s {k : Int → Int → AH → Prop} (hr : RAt H q a b sl w) (h : k (w.reg i).1 (w.reg i).2 H) : darningref4_Memory_Reg (some ⟨q, 0, none⟩) i H k := by
  refine darningref4_Memory_Reg.link ?_
  unfold darningref4_Memory_Reg.b
  simp only [bcase_eq, decide_eq_true_eq]
  have key : ∀ bb, (bb = true ↔ ¬ regIn i) → darningref4_Memory_Reg.j1 (some ⟨q, 0, none⟩) i H k bb := by
    intro bb hb
    unfold darningref4_Memory_Reg.j1
    simp only [bcase_eq]
    unfold RMem.reg at h
    by_cases hi : regIn i
    · have hi' := hi
      unfold regIn at hi'
      rw [if_pos hi] at h
      rw [if_neg (fun hh => hb.1 hh hi), onPtr_mk, hr.c40, elB_some]
      by_cases hd : w.dark = true
      · rw [if_pos hd] at h ⊢; exact h
      · rw [if_neg hd] at h ⊢
        rw [onPtr_mk]
        refine ⟨by omega, ?_⟩
        rw [hr.cr (by omega), elI_some]
        exact h
    · rw [if_neg hi] at h
      rw [if_pos (hb.2 hi)]
      exact h
  by_cases h0 : i < 0
  · rw [if_pos h0]
    exact key true (by unfold regIn; simp; omega)
  · rw [if_neg h0]
    exact key _ (by unfold regIn; simp; omega)

theorem darningref4_Memory_Get.s {k : List Value → Int → AH → Prop} (hr : RAt H q a b sl w) (h : k (lineV (w.get i).1) (w.get i).2 H) : darningref4_Memory_Get (some ⟨q, 0, none⟩) i H k := by
  refine canon2 (κ := .agg) (μ := .int .i64) (by simp) (by simp) (lineV_flat _) rfl (darningref4_Memory_Get.link ?_) h
  unfold darningref4_Memory_Get.b
  rw [newC_eq, zeroV]
  have hr1 := hr.push ⟨lineV (List.replicate 8 0), .rw, 0⟩
  have fin : ∀ {l : List Int} {Q : List Value → AH → Prop}, isLine l → (∀ H', Keeps H H' → Q (lineV l) H') →
      ((lineV l).length = 8 ∧ List.all (lineV l) cellOK = true) ∧ stC (H.push ⟨lineV (List.replicate 8 0), .rw, 0⟩) ⟨H.size, 0, none⟩ (lineV l) fun Hs => ldA Hs ⟨H.size, 0, none⟩ 8 fun r0 => Q r0 Hs := by
    intro l Q hl hQ
    refine ⟨⟨lineV_len hl.1, lineV_ok _⟩, stC_to (canPut_new.2 (by rw [lineV_len hl.1, lineV_len rfl]; omega)) (put_new _ _ _ _ _) ?_⟩
    rw [setLine rfl hl.1, ldA_some (line_new hl)]
    exact hQ _ ((Keeps.refl H).push _)
  simp only [onPtr_mk, hr1.c0, elL_some, bcase_eq, decide_eq_true_eq]
  have key : ∀ bb, (bb = true ↔ ¬ w.has i) → darningref4_Memory_Get.j1 (some ⟨q, 0, none⟩) i (fun r s H' => At H H' H ∧ r = lineV (w.get i).1 ∧ s = (w.get i).2) H.size (H.push ⟨lineV (List.replicate 8 0), .rw, 0⟩) bb := by
    intro bb hb
    unfold darningref4_Memory_Get.j1
    simp only [bcase_eq, zeroV]
    unfold RMem.get
    by_cases hi : w.has i
    · have hi' := hi
      unfold RMem.has at hi'
      rw [if_pos hi, if_neg (fun hh => hb.1 hh hi), onPtr_mk, hr1.c40, elB_some]
      by_cases hd : w.dark = true
      · rw [if_pos hd, if_pos hd]
        exact fin (Q := fun r H' => At H H' H ∧ r = _ ∧ _) zero_line fun H' hk => ⟨At.of_keeps hk, rfl, rfl⟩
      · rw [if_neg hd, if_neg hd]
        rw [onPtr_mk, hr1.c0, elL_some]
        refine ⟨by omega, ?_⟩
        rw [onPtr_mk, ldA_some (hr1.rowL hi)]
        exact fin (Q := fun r H' => At H H' H ∧ r = _ ∧ _) (hr.ok.lines _ (r_mem hi)) fun H' hk => ⟨At.of_keeps hk, rfl, rfl⟩
    · rw [if_neg hi, if_pos (hb.2 hi)]
      exact fin (Q := fun r H' => At H H' H ∧ r = _ ∧ _) zero_line fun H' hk => ⟨At.of_keeps hk, rfl, rfl⟩
  by_cases h0 : i < 0
  · rw [if_pos h0]
    exact key true (by unfold RMem.has; simp; omega)
  · rw [if_neg h0]
    exact key _ (by unfold RMem.has; simp; omega)
end
end Go.Proofs.Ytomeldimnhapfaa
