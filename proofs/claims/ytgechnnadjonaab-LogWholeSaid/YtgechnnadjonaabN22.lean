import Derived.Test.YtgechnnadjonaabN21
set_option linter.all false
set_option linter.all false
namespace Go.Proofs.Ytgechnnadjonaab
open Go Go.Abs

section
variable {H0 H H' : AH} {g t x p c nn sp per puts puts' o mvb mvb' : Nat} {M M' : Mem} {ws ws' vs : List (List Int)}

/-- Something else is written: o is as it was. -/
theorem KL.off (h : KL H0 H g t x p c nn sp per puts o M ws mvb) {b : Nat} (hb : b ≠ g ∧ b ≠ t ∧ b ≠ p ∧ b ≠ c ∧ b ≠ x ∧ b ≠ o) (hb0 : H0.size ≤ b) (hg : ∀ y, y ≠ b → H'.get y = H.get y) (hs : H'.size = H.size) : KL H0 H' g t x p c nn sp per puts o M ws mvb :=
  ⟨⟨by rw [hs]; exact h.keeps.1, fun y hy => by rw [hg y (by omega)]; exact h.keeps.2 y hy⟩, h.gat.other ⟨hb.1, hb.2.1, hb.2.2.1, hb.2.2.2.1, hb.2.2.2.2.1⟩ hg hs, h.calm, h.w.keep (hg o (Ne.symm hb.2.2.2.2.2)) (by omega), h.wl, h.low, h.op⟩
theorem WantAt.own (h : WantAt H o ws) {B : Nat} (hB : B ≤ o) : Own B H ⟨some ⟨o, 0, none⟩, ws.length, 1⟩ 8 lineV ws := .inr ⟨o, rfl, hB, h.lt, h.g⟩

/-- A list of lines is copied behind an empty one. -/
theorem copy_lines {k : Sl → AH → Prop} (h : KL H0 H g t x p c nn sp per puts o M ws mvb) (hn : 1 ≤ nn) (hl : nn ≤ 1000)
    (hk : ∀ b H', Keeps H H' → H.size ≤ b → KL H0 H' g t x p c nn sp per puts o M ws mvb → KL H0 H' g t x p c nn sp per puts b M ws mvb → k ⟨some ⟨b, 0, none⟩, nn, 1⟩ H') :
    newC H ⟨[], .rw, 8⟩ fun o101 H101 => appendC 8 H101 ⟨some ⟨o101, 0, none⟩, 0, 1⟩ ⟨some ⟨o, 0, none⟩, nn, 1⟩ k := by
  rw [newC_eq]
  have hwl := h.wl
  have hlow := h.low
  have hop := h.op
  have lg := h.gat.lg
  have lt := h.gat.tn.lt
  have lp := h.gat.tn.l.m.lp
  have lc := h.gat.tn.l.m.lc
  have lx := h.gat.tn.l.lx
  have lo := h.w.lt
  have hok := h.w.ok
  have e : ∀ r ∈ ws, lineF r = lineV r := fun r hr => lineF_eq (hok r hr)
  have hk0 : Keeps H (H.push ⟨[], .rw, 8⟩) := (Keeps.refl H).push _
  have hO : Own H.size (H.push ⟨[], .rw, 8⟩) ⟨some ⟨H.size, 0, none⟩, 0, 1⟩ 8 lineF [] := .inr ⟨H.size, rfl, Nat.le_refl _, by simp [push_size], by rw [push_get, if_pos rfl]; rfl⟩
  have hW1 := h.w.push ⟨[], .rw, 8⟩
  have hR : Abs.Rows (H.push ⟨[], .rw, 8⟩) ⟨some ⟨o, 0, none⟩, nn, 1⟩ 8 lineF ws := by
    have := (own_congr (fun r hr => e r hr) (hW1.own (Nat.le_refl _))).rows lineF_len lineF_ok
    rw [hwl] at this
    exact this
  refine append_list (H0 := H) (B := H.size) lineF_len lineF_ok hO hR (Nat.le_refl _) (by simp [push_size]) hk0 (by simp [lim]; omega) ?_
  intro s' H2 hO2 hk2 hsz hold
  rw [List.nil_append] at hO2
  rcases hO2 with ⟨_, h0⟩ | ⟨b, rfl, hb1, hb2, hg⟩
  · rw [h0] at hwl; simp at hwl; omega
  · rw [hwl]
    have hw' : WantAt H2 b ws := ⟨by rw [hg, flat_congr e], hb2, hok⟩
    refine hk b H2 hk2 hb1 ?_ ?_
    · exact ⟨h.keeps.trans hk2, h.gat.keeps hk2, h.calm, h.w.keep (hk2.2 o lo) hk2.1, hwl, hlow, hop⟩
    · have := h.keeps.1
      exact ⟨h.keeps.trans hk2, h.gat.keeps hk2, h.calm, hw', hwl, ⟨hlow.1, hlow.2.1, hlow.2.2.1, hlow.2.2.2.1, hlow.2.2.2.2.1, by omega⟩, ⟨by omega, by omega, by omega, by omega, by omega⟩⟩
end

section
variable {H : AH}

/-- What holds of the memory and the two lists, whatever log is on it. -/
structure KM (H0 H : AH) (p c nn sp o b : Nat) (M : Mem) (ws vs V : List (List Int)) : Prop where
  keeps : Keeps H0 H
  m : MemAt H p c M
  w : WantAt H o ws
  v : WantAt H b vs
  wl : ws.length = nn
  vl : vs.length = nn
  sd : Sd (16 + nn) sp M V
  lv : ∃ k, LV M (16 + nn + 1) sp k
  low : H0.size ≤ p ∧ H0.size ≤ c ∧ H0.size ≤ o ∧ H0.size ≤ b
  ne : o ≠ p ∧ o ≠ c ∧ b ≠ p ∧ b ≠ c ∧ o ≠ b
theorem KM.frm {H0 H H' : AH} {p c nn sp o b : Nat} {M M' : Mem} {ws vs V : List (List Int)} (h : KM H0 H p c nn sp o b M ws vs V) (hm : MemAt H' p c M') (f : Frm H H' p c) (hs : Sd (16 + nn) sp M' V) (hl : ∃ k, LV M' (16 + nn + 1) sp k) : KM H0 H' p c nn sp o b M' ws vs V :=
  ⟨f.keeps h.keeps h.low.1 h.low.2.1, hm, h.w.keep (f.get o h.ne.1 h.ne.2.1) (by rw [f.size]; exact Nat.le_refl _), h.v.keep (f.get b h.ne.2.2.1 h.ne.2.2.2.1) (by rw [f.size]; exact Nat.le_refl _), h.wl, h.vl, hs, hl, h.low, h.ne⟩
theorem LV.congr' {M M' : Mem} {n sp k : Nat} (h : LV M n sp k) (hr : M'.regs = M.regs) (hc : M'.cs = M.cs) : LV M' n sp k := h.same hr (by rw [hc])

theorem LogWhole_recov {H12 : AH} {nn sp per o b g' t2 x' : Nat} {ws vs V : List (List Int)} {M10 : Mem} {p12 mvb : Nat} {K : Int → AH → Prop} (hnn : 1 ≤ nn ∧ nn ≤ 20) : KL H H12 g' t2 x' (H.size + 1) H.size nn sp per p12 o M10 ws mvb → KL H H12 g' t2 x' (H.size + 1) H.size nn sp per p12 b M10 vs mvb → Sd (16 + nn) sp M10 V → mvb ≤ 10000 →
    (∀ H13 M13 p13, KL H H13 g' t2 x' (H.size + 1) H.size nn sp per p13 o M13 ws (mvb + 14) → KL H H13 g' t2 x' (H.size + 1) H.size nn sp per p13 b M13 vs (mvb + 14) → Sd (16 + nn) sp M13 V → K 0 H13) → log_Log_Recover (some ⟨g', 0, none⟩) H12 K := by
  intro kK kB hsd hmvb hKK
  obtain ⟨r1, r2, r3⟩ := rec_any kK.calm.ps (by omega) kK.calm.up (by omega) hsd
  obtain ⟨hhok', hhl'⟩ := homes_ok kK.gat
  have hpsr : PSt (16 + nn) sp per (recN (16 + nn) sp per M10 p12).1 (recN (16 + nn) sp per M10 p12).2.1 (mvb + 14) (16 + nn + 1 + sp) := by
    unfold recN
    split
    · exact kK.calm.ps.mono (by omega)
    · split
      · exact kK.calm.ps.mono (by omega)
      · split
        · exact kK.calm.ps.mono (by omega)
        · exact (kK.calm.ps.fin (by omega) (by omega) hhok').mono (by omega)
  refine log_Recover.s kK.gat kK.calm.ps (by omega) ?_
  intro H13 hG13 f13 _
  have hc13 := r3 kK.calm.cut
  have hz : (recN (16 + nn) sp per M10 p12).2.2 = 0 ∧ (recN (16 + nn) sp per M10 p12).1.down = false := by
    rcases r2 with r2 | ⟨_, _, r2⟩
    · exact r2
    · exact absurd kK.calm.cut r2
  rw [hz.1]
  exact hKK H13 _ _ (kK.step hG13 ⟨hpsr, hz.2, hc13⟩ f13) (kB.step hG13 ⟨hpsr, hz.2, hc13⟩ f13) r1
theorem LogWhole_end {nn sp per o b : Nat} {M9 : Mem} {ws vs V : List (List Int)} {e : Int} {H9 : AH} (hKM9 : KM H H9 (H.size + 1) H.size nn sp o b M9 ws vs V) (hnn : 1 ≤ nn ∧ nn ≤ 20) (hsp : sp ≤ 16) (hper : 1 ≤ per ∧ per ≤ 20) (hmv9 : M9.mv ≤ 4000 + 40 * 6) (hVe : (V = ws ∧ e ≠ 0) ∨ (V = vs ∧ (e = 0 ∨ e = 2))) :
    darninglaw12_LogWhole.j8 (fun r _ => r = true) (nn : Int) (sp : Int) (per : Int) (some ⟨H.size + 1, 0, none⟩) o ⟨some ⟨b, 0, none⟩, nn, 1⟩ e H9 := by
  unfold darninglaw12_LogWhole.j8
  refine nvm_Memory_Power.g hKM9.m ?_
  intro H10 hm10 f10
  obtain ⟨k9, hlv9⟩ := hKM9.lv
  have hKM10 := hKM9.frm hm10 f10 (hKM9.sd.power (by omega)) ⟨k9, hlv9.same rfl rfl⟩
  have hlv10 : LV M9.power (16 + nn + 1) sp k9 := hlv9.same rfl rfl
  have hmv10 : M9.power.mv ≤ 4000 + 40 * 6 := by rw [mv_power]; omega
  have hup10 : M9.power.down = false := rfl
  have hcut10 : M9.power.cut = -1 := rfl
  generalize M9.power = M10 at *
  refine darninglaw12_over.s hm10 ⟨by omega, by omega⟩ hsp ⟨by omega, by omega⟩ hup10 hlv10 (by omega) ?_
  intro H12 g' t2 x' hG12 hk12 hg12 ht12 hx12
  rw [Option.isNone_some, bcase_false]
  have hps12 : PSt (16 + nn) sp per M10 0 (4000 + 40 * 6) (16 + nn + 1 + sp) := hG12.pst hlv10 (by omega)
  have lw := hKM10.w.lt
  have lv := hKM10.v.lt
  have s12 := hk12.1
  have hks10 := hKM10.keeps.1
  have lm10 := hm10.lp
  have lc10 := hm10.lc
  have nKM := hKM10.ne
  have kK : KL H H12 g' t2 x' (H.size + 1) H.size nn sp per 0 o M10 ws (4000 + 40 * 6) :=
    ⟨hKM10.keeps.trans hk12, hG12, ⟨hps12, hup10, hcut10⟩, hKM10.w.keep (hk12.2 o lw) s12, hKM10.wl, ⟨by omega, by omega, by omega, by omega, by omega, hKM10.low.2.2.1⟩, ⟨by omega, by omega, by omega, by omega, by omega⟩⟩
  have kB : KL H H12 g' t2 x' (H.size + 1) H.size nn sp per 0 b M10 vs (4000 + 40 * 6) :=
    ⟨hKM10.keeps.trans hk12, hG12, ⟨hps12, hup10, hcut10⟩, hKM10.v.keep (hk12.2 b lv) s12, hKM10.vl, ⟨by omega, by omega, by omega, by omega, by omega, hKM10.low.2.2.2⟩, ⟨by omega, by omega, by omega, by omega, by omega⟩⟩
  refine LogWhole_recov hnn kK kB hKM10.sd (by omega) ?_
  intro H13 M13 p13 kK3 kB3 hsd3
  rw [show ((0 : Int) != 0) = false from rfl]
  unfold darninglaw12_LogWhole.j7
  rw [bcase_false]
  have hVl : V.length = nn := by
    rcases hVe with ⟨rfl, _⟩ | ⟨rfl, _⟩
    · exact kK3.wl
    · exact kB3.wl
  have hVline : ∀ i, i < nn → isLine (V.getD i []) := by
    intro i hi
    rcases hVe with ⟨rfl, _⟩ | ⟨rfl, _⟩
    · exact kK3.w.line (by rw [kK3.wl]; exact hi)
    · exact kB3.w.line (by rw [kB3.wl]; exact hi)
  -- the first look
  refine loopT_inv (t := ((false, true, true, (0 : Int)) : Bool × Bool × Bool × Int)) (I := fun (t' : Bool × Bool × Bool × Int) H' => ∃ j : Nat, t'.2.2.2 = (j : Int) ∧ j ≤ nn ∧ KL H H' g' t2 x' (H.size + 1) H.size nn sp per p13 o M13 ws (4000 + 40 * 6 + 14) ∧ KL H H' g' t2 x' (H.size + 1) H.size nn sp per p13 b M13 vs (4000 + 40 * 6 + 14) ∧
    (t'.2.1 = true ↔ ∀ a, a < j → V.getD a [] = ws.getD a []) ∧ (t'.2.2.1 = true ↔ ∀ a, a < j → V.getD a [] = vs.getD a [])) (m := fun (t' : Bool × Bool × Bool × Int) _ => Int.toNat ((nn : Int) - t'.2.2.2)) ?_ ⟨0, rfl, by omega, kK3, kB3, ⟨fun _ a ha => by omega, fun _ => rfl⟩, ⟨fun _ a ha => by omega, fun _ => rfl⟩⟩
  intro t4 H14 hI it hit
  obtain ⟨v1, old, now, v4⟩ := t4
  obtain ⟨j2, h1, hj2, kK4, kB4, hold, hnow⟩ := hI
  simp only at h1 hold hnow
  subst h1
  unfold darninglaw12_LogWhole.l6
  simp only [Int.toNat_natCast]
  by_cases hs : (j2 : Int) < (nn : Int)
  · rw [decide_eq_true hs, bcase_true, wrap_i64 (n := 16 + (j2 : Int)) (by omega) (by omega)]
    have hline := hVline j2 (by omega)
    have hlw := kK4.w.line (i := j2) (by rw [kK4.wl]; omega)
    have hlv' := kB4.w.line (i := j2) (by rw [kB4.wl]; omega)
    refine log_Get.s kK4.gat (by unfold isI; omega) ?_
    have hget := sd_get (nn := nn) rfl (by omega) kK4.calm.up hsd3 (i := j2) (by omega)
    rw [show ((16 + j2 : Nat) : Int) = 16 + (j2 : Int) by omega] at hget
    rw [hget, zeroV]
    refine new_line hline ?_
    have kK5 := kK4.push ⟨lineV (V.getD j2 []), .rw, 0⟩
    have kB5 := kB4.push ⟨lineV (V.getD j2 []), .rw, 0⟩
    rw [show ((0 : Int) != 0) = false from rfl, bcase_false, wrap_i64 (n := (j2 : Int) + 1) (by omega) (by omega)]
    have rowW := kK5.w.row (i := j2) (by rw [kK5.wl]; omega)
    have rowV := kB5.w.row (i := j2) (by rw [kB5.wl]; omega)
    have rowN := line_new (H := H14) (e := 0) hline
    have step : ∀ old' now' : Bool, (old' = true ↔ old = true ∧ V.getD j2 [] = ws.getD j2 []) → (now' = true ↔ now = true ∧ V.getD j2 [] = vs.getD j2 []) → it (v1, old', now', ((j2 : Int) + 1)) (H14.push ⟨lineV (V.getD j2 []), .rw, 0⟩) := by
      intro old' now' ho hn
      have ext : ∀ (P : Nat → Prop), (∀ a, a < j2 + 1 → P a) ↔ (∀ a, a < j2 → P a) ∧ P j2 := fun P => ⟨fun h => ⟨fun a ha => h a (by omega), h j2 (by omega)⟩, fun h a ha => by
        by_cases e : a = j2
        · rw [e]; exact h.2
        · exact h.1 a (by omega)⟩
      refine hit _ _ ⟨j2 + 1, by simp, by omega, kK5, kB5, ?_, ?_⟩ (by simp only; omega)
      · simp only; rw [ho, hold, ext]
      · simp only; rw [hn, hnow, ext]
    have hin : (0 ≤ (j2 : Int) ∧ (j2 : Int) < ((nn : Nat) : Int)) := ⟨by omega, hs⟩
    cases old with
    | true =>
      rw [bcase_true, ldA_some rowN]
      refine ⟨hin, ?_⟩
      rw [ldA_some rowW, eq_line hline hlw]
      cases now with
      | true =>
        rw [bcase_true, ldA_some rowN]
        refine ⟨hin, ?_⟩
        rw [onPtr_mk, ldA_some rowV, eq_line hline hlv']
        exact step _ _ (by simp) (by simp)
      | false => rw [bcase_false]; exact step _ _ (by simp) (by simp)
    | false =>
      rw [bcase_false]
      cases now with
      | true =>
        rw [bcase_true, ldA_some rowN]
        refine ⟨hin, ?_⟩
        rw [onPtr_mk, ldA_some rowV, eq_line hline hlv']
        exact step _ _ (by simp) (by simp)
      | false => rw [bcase_false]; exact step _ _ (by simp) (by simp)
  rw [decide_eq_false hs, bcase_false]
  have hj3 : j2 = nn := by omega
  subst hj3
  clear hit it
  -- what was found
  have h1 : e = 0 → now = true := fun he => hnow.2 fun a _ => by
    rcases hVe with ⟨_, h⟩ | ⟨rfl, _⟩
    · exact absurd he h
    · rfl
  have h2 : e ≠ 0 → e ≠ 2 → old = true := fun h0 h2 => hold.2 fun a _ => by
    rcases hVe with ⟨rfl, _⟩ | ⟨_, h | h⟩
    · rfl
    · exact absurd h h0
    · exact absurd h h2
  have h3 : old = true ∨ now = true := by
    rcases hVe with ⟨rfl, _⟩ | ⟨rfl, _⟩
    · exact .inl (hold.2 fun a _ => rfl)
    · exact .inr (hnow.2 fun a _ => rfl)
  have j4 : darninglaw12_LogWhole.j4 (fun r _ => r = true) (j2 : Int) o ⟨some ⟨b, 0, none⟩, j2, 1⟩ (some ⟨g', 0, none⟩) (v1, old, now, (j2 : Int)) H14 false := by
    unfold darninglaw12_LogWhole.j4
    rw [bcase_false]
    refine LogWhole_recov hnn kK4 kB4 hsd3 (by omega) ?_
    intro H15 M15 p15 kK5 kB5 hsd5
    rw [show ((0 : Int) != 0) = false from rfl, bcase_false]
    refine loopT_inv (I := fun (t1 : Bool × Int) H' => ∃ s : Nat, t1.2 = (s : Int) ∧ s ≤ j2 ∧ KL H H' g' t2 x' (H.size + 1) H.size j2 sp per p15 o M15 ws (4000 + 40 * 6 + 14 + 14) ∧ KL H H' g' t2 x' (H.size + 1) H.size j2 sp per p15 b M15 vs (4000 + 40 * 6 + 14 + 14)) (m := fun (t : Bool × Int) _ => Int.toNat ((j2 : Int) - t.2)) ?_ ⟨0, rfl, by omega, kK5, kB5⟩
    intro t6 H16 hI it hit
    obtain ⟨w1, w2⟩ := t6
    obtain ⟨s, h1', hs', kK6, kB6⟩ := hI
    simp only at h1'
    subst h1'
    unfold darninglaw12_LogWhole.l3
    simp only [Int.toNat_natCast]
    by_cases hss : (s : Int) < (j2 : Int)
    rotate_left 1
    · rw [decide_eq_false hss, bcase_false]
      unfold darninglaw12_LogWhole.j1
      exact darninglaw12_awake.s rfl
    rw [decide_eq_true hss, bcase_true, wrap_i64 (n := 16 + (s : Int)) (by omega) (by omega)]
    have hline := hVline s (by omega)
    have hlw := kK6.w.line (i := s) (by rw [kK6.wl]; omega)
    have hlv' := kB6.w.line (i := s) (by rw [kB6.wl]; omega)
    refine log_Get.s kK6.gat (by unfold isI; omega) ?_
    have hget := sd_get (nn := j2) rfl (by omega) kK6.calm.up hsd5 (i := s) (by omega)
    rw [show ((16 + s : Nat) : Int) = 16 + (s : Int) by omega] at hget
    rw [hget, zeroV]
    refine new_line hline ?_
    have kK7 := kK6.push ⟨lineV (V.getD s []), .rw, 0⟩
    have kB7 := kB6.push ⟨lineV (V.getD s []), .rw, 0⟩
    have rowW := kK7.w.row (i := s) (by rw [kK7.wl]; omega)
    have rowV := kB7.w.row (i := s) (by rw [kB7.wl]; omega)
    have rowN := line_new (H := H16) (e := 0) hline
    have go : darninglaw12_LogWhole.j2 (fun r _ => r = true) (H16.push ⟨lineV (V.getD s []), .rw, 0⟩) (w1, (s : Int)) it false := by
      unfold darninglaw12_LogWhole.j2
      rw [bcase_false, wrap_i64 (n := (s : Int) + 1) (by omega) (by omega)]
      exact hit _ _ ⟨s + 1, by simp, by omega, kK7, kB7⟩ (by simp only; omega)
    have hin : (0 ≤ (s : Int) ∧ (s : Int) < ((j2 : Nat) : Int)) := ⟨by omega, hss⟩
    cases hn : now with
    | true =>
      rw [bcase_true, ldA_some rowN]
      refine ⟨hin, ?_⟩
      have hv := hnow.1 hn s (by omega)
      rw [onPtr_mk, ldA_some rowV, eq_line hline hlv', hv, beq_self_eq_true, Bool.not_true, bcase_false, bcase_false]
      rw [← hv]
      exact go
    | false =>
      have ho : old = true := by
        rcases h3 with h | h
        · exact h
        · rw [hn] at h; cases h
      have hv := hold.1 ho s (by omega)
      rw [bcase_false, Bool.not_false, bcase_true, ldA_some rowN]
      refine ⟨hin, ?_⟩
      rw [ldA_some rowW, eq_line hline hlw, hv, beq_self_eq_true, Bool.not_true]
      rw [← hv]
      exact go
  unfold darninglaw12_LogWhole.j5
  by_cases e0 : e = 0
  · have hn := h1 e0
    subst hn
    rw [e0, show ((0 : Int) == 0) = true from rfl, show ((0 : Int) != 0) = false from rfl]
    simp only [bcase_true, bcase_false, Bool.not_true]
    cases old <;> simp only [bcase_true, bcase_false, Bool.not_true, Bool.not_false] <;> exact j4
  · rw [show ((e : Int) == 0) = false by simpa using e0, show ((e : Int) != 0) = true by simpa using e0]
    simp only [bcase_true, bcase_false]
    by_cases e2 : e = 2
    · rw [e2, show ((2 : Int) != 2) = false from rfl, bcase_false]
      cases old with
      | true => simp only [bcase_true, bcase_false, Bool.not_true]; exact j4
      | false =>
        have hn : now = true := by rcases h3 with h | h
                                   · cases h
                                   · exact h
        subst hn
        simp only [bcase_true, bcase_false, Bool.not_true, Bool.not_false]; exact j4
    · have ho := h2 e0 e2
      subst ho
      rw [show ((e : Int) != 2) = true by simpa using e2]
      simp only [bcase_true, bcase_false, Bool.not_true]
      exact j4
theorem LogWhole_rest {x5 x8 : Sl} {x6 x7 : Int} {again : List Int} {h : List (Int × List Int)} {nn sp per puts o b g t x i : Nat} {M : Mem} {ws vs : List (List Int)} {H6 : AH} (hnn : 1 ≤ nn ∧ nn ≤ 20) (hsp : sp ≤ 16) (hper : 1 ≤ per ∧ per ≤ 20) (hi29 : i ≤ 29) (hh : Abs.Rows H x5 9 putV h) (hhok : ∀ q ∈ h, putOK q) (hh30 : h.length ≤ 30) (hag : Abs.Rows H x8 1 iV again) (c1 : ¬ (again.length : Int) > 6) (hob : o ≠ b)
    (hS : Sd (16 + nn) sp M ws) (hK6 : KL H H6 g t x (H.size + 1) H.size nn sp per puts o M ws (40 * i)) (hB6 : KL H H6 g t x (H.size + 1) H.size nn sp per puts b M vs (40 * i)) (hvs : MayL ((16 + nn : Nat) : Int) h ∧ commits M = 0 → vs = upd ws h) :
    darninglaw12_LogWhole.j10 x5 x6 x7 x8 (fun r _ => r = true) (nn : Int) (sp : Int) (per : Int) (some ⟨g, 0, none⟩) (some ⟨H.size + 1, 0, none⟩) o ⟨some ⟨b, 0, none⟩, nn, 1⟩ H6 := by
  have hup := hK6.calm.up
  unfold darninglaw12_LogWhole.j10
  refine ⟨by decide, ?_⟩
  have hx := umod (m := 60) (by omega) x6
  rw [wrap_i64 (n := Int.tmod (IntKind.wrap .u64 x6) 60) (by omega) (by omega)]
  generalize hat : Int.tmod (IntKind.wrap .u64 x6) 60 = cutat at *
  refine nvm_Memory_Cut.g hK6.gat.tn.l.m (by omega) ?_
  intro H7 hm7 f7
  have hG7 := hK6.gat.mem hm7 f7 rfl (by have := hK6.calm.ps.mv; show M.mv ≤ _; omega)
  obtain ⟨k0, hlv0⟩ := hK6.calm.ps.lv
  have hmv0 := hK6.calm.ps.mv
  have hlv7 : LV (M.setCut cutat x7) (16 + nn + 1) sp k0 := hlv0.same rfl rfl
  have hps7 : PSt (16 + nn) sp per (M.setCut cutat x7) puts (40 * i) (16 + nn + 1 + sp) := hG7.pst hlv7 hmv0
  have hS7 := hS.setCut (by omega) cutat x7
  have hcom := (com_any (l := h) hps7 (by omega) hup (by omega) hhok (by rw [hK6.wl]; omega) hS7).1
  have hps8 := hps7.com (by omega) (by omega) hhok
  have hcm7 : commits (M.setCut cutat x7) = commits M := rfl
  have lo6 := hK6.low
  have op6 := hK6.op
  have ob6 := hB6.op
  have lb6 := hB6.low
  have hk7 : Keeps H H7 := f7.keeps hK6.keeps (by omega) (by omega)
  refine log_Commit.s hG7 hps7 (by omega) (hh.keep hk7) hhok (by omega) ?_ ?_
  · intro h0 bb hbb
    obtain ⟨b2, o2, ha2, hlt2, _⟩ := hh.at h0
    rw [ha2] at hbb
    simp at hbb
    omega
  intro H8 hG8 f8 _
  generalize comN (16 + nn) sp per h (M.setCut cutat x7) puts = R at *
  obtain ⟨M8, p8, e⟩ := R
  simp only at hG8 hps8 hcom ⊢
  obtain ⟨V, hV, hVe⟩ : ∃ V, Sd (16 + nn) sp M8 V ∧ ((V = ws ∧ e ≠ 0) ∨ (V = vs ∧ (e = 0 ∨ e = 2))) := by
    rcases hcom with ⟨a, b⟩ | ⟨m, c, a, b⟩
    · refine ⟨ws, a, .inl ⟨rfl, ?_⟩⟩
      rcases b with ⟨b, _⟩ | ⟨b, _⟩
      · exact b
      · omega
    · have e0 := hvs ⟨m, by rw [hcm7] at c; exact c⟩
      refine ⟨vs, by rw [e0]; exact a, .inr ⟨rfl, ?_⟩⟩
      rcases b with ⟨b, _⟩ | ⟨b, _⟩
      · exact .inl b
      · exact .inr b
  have hk8 : Keeps H H8 := f8.keeps hk7 (by omega) (by omega) (by omega)
  have hKM : KM H H8 (H.size + 1) H.size nn sp o b M8 ws vs V := by
    obtain ⟨k8, hlv8⟩ := hps8.lv
    have s78 : H7.size ≤ H8.size := f8.size
    have w7 := hK6.w.keep (f7.get o (by omega) (by omega)) (by rw [f7.size]; exact Nat.le_refl _)
    have v7 := hB6.w.keep (f7.get b (by omega) (by omega)) (by rw [f7.size]; exact Nat.le_refl _)
    exact ⟨hk8, hG8.tn.l.m, w7.keep (f8.get o w7.lt (by omega) (by omega) (by omega)) s78, v7.keep (f8.get b v7.lt (by omega) (by omega) (by omega)) s78, hK6.wl, hB6.wl, hV, ⟨k8, hlv8⟩, ⟨by omega, by omega, by omega, by omega⟩, ⟨by omega, by omega, by omega, by omega, hob⟩⟩
  have hmv8 := hps8.mv
  -- again and again
  refine loopT_inv (t := (0 : Int)) (I := fun (t' : Int) H' => ∃ j : Nat, ∃ M', t' = (j : Int) ∧ j ≤ again.length ∧ KM H H' (H.size + 1) H.size nn sp o b M' ws vs V ∧ M'.mv ≤ 4000 + 40 * j) (m := fun (t' : Int) _ => Int.toNat ((again.length : Int) - t')) ?_ ⟨0, M8, rfl, by omega, hKM, by omega⟩
  intro t9 H9 hI it hit
  obtain ⟨j, M9, rfl, hj, hKM9, hmv9⟩ := hI
  unfold darninglaw12_LogWhole.l9
  simp only [bcase_eq, decide_eq_true_eq, hag.1, Int.toNat_natCast]
  by_cases hjl : (j : Int) < (again.length : Int)
  · rw [if_pos hjl]
    have hj' : j < again.length := by omega
    obtain ⟨bb, oo, ha, _, hc⟩ := rows1 (g := fun v => Value.int .i64 v) (hag.keep hKM9.keeps) (i := j) hj'
    refine ⟨by omega, ?_⟩
    rw [ha, onPtr_mk, hc, elI_some]
    generalize again[j] = q at *
    refine nvm_Memory_Power.g hKM9.m ?_
    intro H10 hm10 f10
    obtain ⟨k9, hlv9⟩ := hKM9.lv
    have hKM10 := hKM9.frm hm10 f10 (hKM9.sd.power (by omega)) ⟨k9, hlv9.same rfl rfl⟩
    have hq := umod (m := 40) (by omega) q
    refine ⟨by decide, ?_⟩
    rw [wrap_i64 (n := Int.tmod (IntKind.wrap .u64 q) 40) (by omega) (by omega)]
    refine nvm_Memory_Cut.g hm10 (by omega) ?_
    intro H11 hm11 f11
    generalize hMx : M9.power.setCut (Int.tmod (IntKind.wrap .u64 q) 40) (xorI .i64 x7 q) = M11 at *
    have hM11 : M11.down = false ∧ M11.regs = M9.regs ∧ M11.cs = M9.cs := by rw [← hMx]; exact ⟨rfl, rfl, rfl⟩
    have hKM11 := hKM10.frm hm11 f11 (by rw [← hMx]; exact hKM10.sd.setCut (by omega) _ _) ⟨k9, hlv9.congr' hM11.2.1 hM11.2.2⟩
    have hmv11 : M11.mv = M9.mv := mv_same (by rw [hM11.2.1])
    refine darninglaw12_over.s hm11 ⟨by omega, by omega⟩ hsp ⟨by omega, by omega⟩ hM11.1 (hlv9.congr' hM11.2.1 hM11.2.2) (by omega) ?_
    intro H12 g' t2 x' hG12 hk12 hg12 ht12 hx12
    rw [Option.isNone_some, if_pos (by simp)]
    have hps12 : PSt (16 + nn) sp per M11 0 (4000 + 40 * j) (16 + nn + 1 + sp) := hG12.pst (hlv9.congr' hM11.2.1 hM11.2.2) (by omega)
    have hrec := (rec_any hps12 (by omega) hM11.1 (by omega) hKM11.sd).1
    obtain ⟨hhok', hhl'⟩ := homes_ok hG12
    have hpsr : PSt (16 + nn) sp per (recN (16 + nn) sp per M11 0).1 (recN (16 + nn) sp per M11 0).2.1 (4000 + 40 * j + 14) (16 + nn + 1 + sp) := by
      unfold recN
      split
      · exact hps12.mono (by omega)
      · split
        · exact hps12.mono (by omega)
        · split
          · exact hps12.mono (by omega)
          · exact (hps12.fin (by omega) (by omega) hhok').mono (by omega)
    refine log_Recover.s hG12 hps12 (by omega) ?_
    intro H13 hG13 f13 _
    generalize recN (16 + nn) sp per M11 0 = R at *
    obtain ⟨M13, p13, e13⟩ := R
    simp only at hG13 hpsr hrec ⊢
    rw [wrap_i64 (n := (j : Int) + 1) (by omega) (by omega)]
    have hmv13 := hpsr.mv
    have lw := hKM11.w.lt
    have lv := hKM11.v.lt
    have s12 := hk12.1
    refine hit _ _ ⟨j + 1, M13, by simp, by omega, ⟨f13.keeps (hKM11.keeps.trans hk12) (by have := hKM11.keeps.1; omega) (by omega) (by omega), hG13.tn.l.m, ?_, ?_, hKM11.wl, hKM11.vl, hrec, hpsr.lv, hKM11.low, hKM11.ne⟩, by omega⟩ (by omega)
    · have := hKM11.ne
      exact (hKM11.w.keep (hk12.2 o lw) s12).keep (f13.get o (by omega) (by omega) (by omega) (by omega)) f13.size
    · have := hKM11.ne
      exact (hKM11.v.keep (hk12.2 b lv) s12).keep (f13.get b (by omega) (by omega) (by omega) (by omega)) f13.size
  rw [if_neg hjl]
  clear hit it
  exact LogWhole_end hKM9 hnn hsp hper (by omega) hVe
theorem darninglaw12_LogWhole.t {x0 x1 x2 x6 x7 : Int} {x3 x4 x5 x8 : Sl} {limits again : List Int} {L : List (Sl × List (Int × List Int))} {h : List (Int × List Int)} (_ : (Lit.int .i64 x0).wf = true) (_ : (Lit.int .i64 x1).wf = true) (_ : (Lit.int .i64 x2).wf = true)
    (hlim : Abs.Rows H x3 1 iV limits) (_ : ∀ v ∈ limits, isI v) (_ : limits.length ≤ maxLen) (hr : Abs.Rows H x4 1 slV L) (hro : ∀ q ∈ L, SlOK putV putOK 9 H q) (hLr : L.length * 24 ≤ reachBytes)
    (hh : Abs.Rows H x5 9 putV h) (hhok : ∀ q ∈ h, putOK q) (_ : h.length ≤ maxLen) (hx6 : (Lit.int .i64 x6).wf = true) (_ : (Lit.int .i64 x7).wf = true) (hag : Abs.Rows H x8 1 iV again) (_ : ∀ v ∈ again, isI v) (_ : again.length ≤ maxLen) :
    darninglaw12_LogWhole x0 x1 x2 x3 x4 x5 x6 x7 x8 H (fun r _ => r = true) := by
  refine darninglaw12_LogWhole.link ?_
  unfold darninglaw12_LogWhole.b
  rw [newC_eq]
  have hmax : reachBytes ≤ 140737488351232 := by decide
  have hk1 : Keeps H (H.push ⟨[Sl.val x5], .rw, 1⟩) := (Keeps.refl H).push _
  have hOh : Own H.size (H.push ⟨[Sl.val x5], .rw, 1⟩) ⟨some ⟨H.size, 0, none⟩, 1, 1⟩ 1 slV [(x5, h)] := .inr ⟨H.size, rfl, Nat.le_refl _, by simp [push_size], by rw [push_get, if_pos rfl]; rfl⟩
  refine append_listS (H0 := H) (B := H.size) (fun _ => rfl) (fun _ => rfl) hOh (hr.keep hk1) (Nat.le_refl _) (by simp [push_size]) hk1 (by simp only [List.length_cons, List.length_nil, limS, if_true]; omega) ?_
  intro s46 H46 hO46 hk46 _ _
  have hRR : RR H46 s46 ([(x5, h)] ++ L) := by
    refine ⟨hO46.rows (fun _ => rfl) (fun _ => rfl), fun q hq => ?_⟩
    rw [List.mem_append] at hq
    rcases hq with hq | hq
    · simp only [List.mem_cons, List.not_mem_nil, or_false] at hq
      subst hq
      exact ⟨hh.keep hk46, hhok⟩
    · exact ⟨(hro q hq).1.keep hk46, (hro q hq).2⟩
  refine darninglaw12_heavy.s hRR ?_
  intro rv hlight
  have aw : darninglaw12_LogWhole.j16 x0 x1 x2 x3 x4 x5 x6 x7 x8 (fun r _ => r = true) H46 true := by
    unfold darninglaw12_LogWhole.j16
    rw [bcase_true]
    exact darninglaw12_awake.s rfl
  by_cases c0 : rv > 0
  · rw [decide_eq_true c0, bcase_true]; exact aw
  rw [decide_eq_false c0, bcase_false, hag.1]
  by_cases c1 : (again.length : Int) > 6
  · rw [decide_eq_true c1]; exact aw
  rw [decide_eq_false c1]
  clear aw
  obtain ⟨hL30, hlim2, hL2⟩ := hlight (by omega)
  have hL29 : L.length ≤ 29 := by simp at hL30; omega
  have hh30 : h.length ≤ 30 := hL2 (x5, h) (by simp)
  have hln30 : ∀ q ∈ L, q.2.length ≤ 30 := fun q hq => hL2 q (by simp [hq])
  have hr : RR H46 x4 L := ⟨hr.keep hk46, fun q hq => ⟨(hro q hq).1.keep hk46, (hro q hq).2⟩⟩
  have hh := hh.keep hk46
  have hag := hag.keep hk46
  have hlim := hlim.keep hk46
  clear hlight hRR hO46 hk46 hOh hk1 hro hL30 hL2 hLr hmax
  generalize H46 = H at *
  unfold darninglaw12_LogWhole.j16
  rw [bcase_false]
  refine darninglaw12_sized.s ?_
  intro nn sp per hnn hsp hper _ _
  refine darninglaw12_made.s hlim ⟨by omega, by omega⟩ hsp ⟨by omega, by omega⟩ ?_
  intro H1 g t x hG hk hg ht hx
  rw [Option.isNone_some, bcase_false]
  refine ⟨by simp only [lim]; omega, ?_⟩
  rw [newC_eq, Int.toNat_natCast, zeroV, zeros_flat7]
  have hK0 := KL.new hnn.1 hsp hk hG (by omega) (by omega) (by omega) rfl
  have hS0 : Sd (16 + nn) sp (Mem.new (16 + nn + 1 + sp) limits) (List.replicate nn (List.replicate 8 (0 : Int))) := sd_new hnn.1 hsp
  generalize Mem.new (16 + nn + 1 + sp) limits = M0 at *
  generalize H1.size = o at *
  generalize H1.push ⟨(List.replicate nn (List.replicate 8 (0 : Int))).flatMap lineV, .rw, 8⟩ = H2 at *
  refine loopT_inv (t := (0 : Int)) (I := fun (t' : Int) H' => ∃ i : Nat, t' = (i : Int) ∧ i ≤ L.length ∧ ∃ M ws puts, KL H H' g t x (H.size + 1) H.size nn sp per puts o M ws (40 * i) ∧ Sd (16 + nn) sp M ws) (m := fun (t' : Int) _ => Int.toNat ((L.length : Int) - t')) ?_ ⟨0, rfl, by omega, M0, _, 0, hK0, hS0⟩
  clear hK0 hS0
  intro t' H4 hI it hit
  obtain ⟨i, rfl, hi, M, ws, puts, hK, hS⟩ := hI
  unfold darninglaw12_LogWhole.l15
  rw [hr.1.1]
  have hup := hK.calm.up
  have hcut := hK.calm.cut
  have ecast : (16 + (nn : Int)) = ((16 + nn : Nat) : Int) := by omega
  by_cases hlt : (i : Int) < (L.length : Int)
  · rw [decide_eq_true hlt, bcase_true]
    have hi' : i < L.length := by omega
    obtain ⟨b, oo, ha, _, hc⟩ := (hr.keep hK.keeps).at hi'
    refine ⟨by omega, ?_⟩
    rw [ha, onPtr_mk, Int.toNat_natCast, hc, show elL (some (Sl.val L[i].1)) _ = _ from propext (elL_some _ _ _ _)]
    have hRl := (hr.2 _ (List.getElem_mem hi')).1
    have hok := (hr.2 _ (List.getElem_mem hi')).2
    have hln := hln30 _ (List.getElem_mem hi')
    show log_Log_Commit _ _ _ _
    have ep : (⟨L[i].1.a, L[i].1.n, L[i].1.k⟩ : Sl) = L[i].1 := rfl
    rw [ep]
    generalize L[i] = E at *
    obtain ⟨s, l⟩ := E
    simp only at hRl hok hln ⊢
    have hcom := com_any (l := l) hK.calm.ps (by omega) hup (by omega) hok (by rw [hK.wl]; omega) hS
    have hps' := hK.calm.ps.com (by omega) (by omega) hok
    refine log_Commit.s hK.gat hK.calm.ps (by omega) (hRl.keep hK.keeps) hok (by omega) ?_ ?_
    · intro h0 bb hbb
      obtain ⟨b2, o2, ha2, hlt2, _⟩ := hRl.at h0
      rw [ha2] at hbb
      simp at hbb
      have := hK.low
      omega
    intro H5 hG5 f5 _
    have hcut' := hcom.2 hcut
    have hcom := hcom.1
    generalize comN (16 + nn) sp per l M puts = R at *
    obtain ⟨M5, p5, r5⟩ := R
    simp only at hG5 hcut' hps' hcom ⊢
    by_cases he : r5 = 0
    rotate_left 1
    · have hS5 : Sd (16 + nn) sp M5 ws ∧ M5.down = false := by
        rcases hcom with ⟨a, ⟨_, _, b⟩ | ⟨_, _, b⟩⟩ | ⟨_, _, _, ⟨b, _⟩ | ⟨_, _, b⟩⟩
        · exact ⟨a, b⟩
        · exact absurd hcut b
        · exact absurd b he
        · exact absurd hcut b
      have hK5 := hK.step hG5 ⟨hps', hS5.2, hcut'⟩ f5
      rw [show ((r5 : Int) == 0) = false by simpa using he, bcase_false, wrap_i64 (n := (i : Int) + 1) (by omega) (by omega)]
      exact hit _ _ ⟨i + 1, by simp, by omega, M5, ws, p5, hK5, hS5.1⟩ (by omega)
    have hS5 : MayL ((16 + nn : Nat) : Int) l ∧ Sd (16 + nn) sp M5 (upd ws l) ∧ M5.down = false := by
      rcases hcom with ⟨a, ⟨b, _⟩ | ⟨b, _⟩⟩ | ⟨m, _, a, ⟨_, b⟩ | ⟨b, _⟩⟩
      · exact absurd he b
      · omega
      · exact ⟨m, a, b⟩
      · omega
    obtain ⟨hm, hS5, hup5⟩ := hS5
    have hK5 := hK.step hG5 ⟨hps', hup5, hcut'⟩ f5
    rw [he, show ((0 : Int) == 0) = true from rfl, bcase_true]
    refine loopT_inv (t := (0 : Int)) (I := fun (t1 : Int) H' => ∃ j : Nat, t1 = (j : Int) ∧ j ≤ l.length ∧ KL H H' g t x (H.size + 1) H.size nn sp per p5 o M5 (upd ws (l.take j)) (40 * i + 40)) (m := fun (t : Int) _ => Int.toNat ((l.length : Int) - t)) ?_ ⟨0, rfl, by omega, hK5⟩
    intro t1 H7 hI it2 hit2
    obtain ⟨j, rfl, hj, hK7⟩ := hI
    unfold darninglaw12_LogWhole.l14
    simp only [bcase_eq, decide_eq_true_eq, hRl.1, Int.toNat_natCast]
    by_cases hjl : (j : Int) < (l.length : Int)
    rotate_left 1
    · rw [if_neg hjl]
      rw [List.take_of_length_le (by omega)] at hK7
      rw [wrap_i64 (n := (i : Int) + 1) (by omega) (by omega)]
      exact hit _ _ ⟨i + 1, by simp, by omega, M5, _, p5, hK7, hS5⟩ (by omega)
    rw [if_pos hjl]
    have hj' : j < l.length := by omega
    obtain ⟨b, oo, ha, _, hrow⟩ := (hRl.keep hK7.keeps).at hj'
    refine ⟨by omega, ?_⟩
    rw [ha, onPtr_mk, ldA_some hrow]
    have hcl := hok _ (List.getElem_mem hj')
    have hrg := may_range hm (List.getElem_mem hj')
    have hut := upd_take hj' (ws := ws)
    generalize l[j] = q at *
    refine new_put hcl rfl ?_
    intro hQ
    have hK8 := hK7.push ⟨putV q, .rw, 0⟩
    rw [hQ.c0, elI_some, ldA_some hQ.row, wrap_i64 (n := q.1 - 16) (by omega) (by omega)]
    obtain ⟨w1, hK9⟩ := hK8.want (i := (q.1 - 16).toNat) (by omega) hcl.line
    refine ⟨by omega, ⟨lineV_len hcl.line.1, lineV_ok _⟩, w1, ?_⟩
    rw [wrap_i64 (n := (j : Int) + 1) (by omega) (by omega)]
    refine hit2 _ _ ⟨j + 1, by simp, by omega, ?_⟩ (by omega)
    rw [hut]
    exact hK9
  rw [decide_eq_false hlt, bcase_false]
  clear hit it
  unfold darninglaw12_LogWhole.j13
  rw [Int.toNat_natCast]
  refine copy_lines hK hnn.1 (by omega) ?_
  intro b H5 hk5 hb5 hK5 hB5
  have hob : o ≠ b := by have := hK.w.lt; omega
  refine darningref4_MayHomes.s (n := IntKind.wrap .i64 (16 + (nn : Int))) (hh.keep hK5.keeps) hhok (by omega) ?_
  rw [wrap_i64 (n := 16 + (nn : Int)) (by omega) (by omega), ecast]
  by_cases hm : MayL ((16 + nn : Nat) : Int) h
  rotate_left 1
  · rw [decide_eq_false hm, bcase_false]
    unfold darninglaw12_LogWhole.j12
    rw [bcase_false]
    exact LogWhole_rest hnn hsp hper (by omega) hh hhok hh30 hag c1 hob hS hK5 hB5 fun hh => absurd hh.1 hm
  rw [decide_eq_true hm, bcase_true]
  refine log_Pending.s hK5.gat ?_
  unfold darninglaw12_LogWhole.j12
  by_cases hcm : commits M = 0
  rotate_left 1
  · rw [decide_eq_true ⟨hup, hcm⟩, Bool.not_true, bcase_false]
    exact LogWhole_rest hnn hsp hper (by omega) hh hhok hh30 hag c1 hob hS hK5 hB5 fun hh => absurd hh.2 hcm
  rw [decide_eq_false (fun hh => hh.2 hcm), Bool.not_false, bcase_true]
  refine loopT_inv (t := (0 : Int)) (I := fun (t1 : Int) H' => ∃ j : Nat, t1 = (j : Int) ∧ j ≤ h.length ∧ KL H H' g t x (H.size + 1) H.size nn sp per puts o M ws (40 * i) ∧ KL H H' g t x (H.size + 1) H.size nn sp per puts b M (upd ws (h.take j)) (40 * i)) (m := fun (t : Int) _ => Int.toNat ((h.length : Int) - t)) ?_ ⟨0, rfl, by omega, hK5, hB5⟩
  intro t1 H7 hI it2 hit2
  obtain ⟨j, rfl, hj, hK7, hB7⟩ := hI
  unfold darninglaw12_LogWhole.l11
  simp only [bcase_eq, decide_eq_true_eq, hh.1, Int.toNat_natCast]
  by_cases hjl : (j : Int) < (h.length : Int)
  rotate_left 1
  · rw [if_neg hjl]
    rw [List.take_of_length_le (by omega)] at hB7
    exact LogWhole_rest hnn hsp hper (by omega) hh hhok hh30 hag c1 hob hS hK7 hB7 fun _ => rfl
  rw [if_pos hjl]
  have hj' : j < h.length := by omega
  obtain ⟨b2, oo, ha, _, hrow⟩ := (hh.keep hK7.keeps).at hj'
  refine ⟨by omega, ?_⟩
  rw [ha, onPtr_mk, ldA_some hrow]
  have hcl := hhok _ (List.getElem_mem hj')
  have hrg := may_range hm (List.getElem_mem hj')
  have hut := upd_take hj' (ws := ws)
  generalize h[j] = q at *
  refine new_put hcl rfl ?_
  intro hQ
  have hK8 := hK7.push ⟨putV q, .rw, 0⟩
  have hB8 := hB7.push ⟨putV q, .rw, 0⟩
  rw [hQ.c0, elI_some, ldA_some hQ.row, wrap_i64 (n := q.1 - 16) (by omega) (by omega)]
  obtain ⟨w1, hB9⟩ := hB8.want (i := (q.1 - 16).toNat) (by omega) hcl.line
  obtain ⟨_, _, w3⟩ := hB8.w.put (i := (q.1 - 16).toNat) (by rw [hB8.wl]; omega) hcl.line
  have opb := hB8.op
  have lob := hB8.low
  have hK9 := hK8.off (b := b) ⟨opb.1, opb.2.1, opb.2.2.1, opb.2.2.2.1, opb.2.2.2.2, Ne.symm hob⟩ lob.2.2.2.2.2 w3 rfl
  refine ⟨by omega, ?_⟩
  rw [onPtr_mk]
  refine ⟨⟨lineV_len hcl.line.1, lineV_ok _⟩, w1, ?_⟩
  rw [wrap_i64 (n := (j : Int) + 1) (by omega) (by omega)]
  refine hit2 _ _ ⟨j + 1, by simp, by omega, hK9, ?_⟩ (by omega)
  rw [hut]
  exact hB9
end
end Go.Proofs.Ytgechnnadjonaab
