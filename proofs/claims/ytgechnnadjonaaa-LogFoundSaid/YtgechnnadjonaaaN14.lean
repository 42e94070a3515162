import Derived.Test.YtgechnnadjonaaaN13
set_option linter.all false
set_option linter.all false
namespace Go.Proofs.Ytgechnnadjonaaa
open Go Go.Abs

structure KL (H0 H : AH) (g t x p c nn sp per puts o : Nat) (M : Mem) (ws : List (List Int)) (mvb : Nat) : Prop where
  keeps : Keeps H0 H
  gat : GAt H g t x p c (16 + nn) sp per puts M
  calm : Calm (16 + nn) sp per M puts mvb (16 + nn + 1 + sp)
  w : WantAt H o ws
  wl : ws.length = nn
  low : H0.size ≤ g ∧ H0.size ≤ t ∧ H0.size ≤ p ∧ H0.size ≤ c ∧ H0.size ≤ x ∧ H0.size ≤ o
  op : o ≠ g ∧ o ≠ t ∧ o ≠ p ∧ o ≠ c ∧ o ≠ x

section
variable {H0 H H' : AH} {g t x p c nn sp per puts puts' o mvb mvb' : Nat} {M M' : Mem} {ws ws' : List (List Int)}
theorem KL.push (h : KL H0 H g t x p c nn sp per puts o M ws mvb) (ob : AObj) : KL H0 (H.push ob) g t x p c nn sp per puts o M ws mvb :=
  ⟨h.keeps.push _, h.gat.push _, h.calm, h.w.push _, h.wl, h.low, h.op⟩
theorem KL.step (h : KL H0 H g t x p c nn sp per puts o M ws mvb) (hG : GAt H' g t x p c (16 + nn) sp per puts' M') (hC : Calm (16 + nn) sp per M' puts' mvb' (16 + nn + 1 + sp)) (f : Frt H H' t p c) : KL H0 H' g t x p c nn sp per puts' o M' ws mvb' :=
  ⟨f.keeps h.keeps h.low.2.1 h.low.2.2.1 h.low.2.2.2.1, hG, hC, h.w.keep (f.get o h.w.lt h.op.2.1 h.op.2.2.1 h.op.2.2.2.1) f.size, h.wl, h.low, h.op⟩
theorem GAt.other (h : GAt H g t x p c nn sp per puts M) (ho : o ≠ g ∧ o ≠ t ∧ o ≠ p ∧ o ≠ c ∧ o ≠ x) (hg : ∀ b, b ≠ o → H'.get b = H.get b) (hs : H'.size = H.size) : GAt H' g t x p c nn sp per puts M := by
  have hl := h.tn.l
  obtain ⟨o1, o2, o3, o4, o5⟩ := ho
  refine ⟨by rw [hg g (Ne.symm o1), h.hg], by rw [hs]; exact h.lg, h.ne, ?_, h.n16⟩
  exact ⟨by rw [hg t (Ne.symm o2)]; exact h.tn.ht, by rw [hs]; exact h.tn.lt, h.tn.tp, h.tn.tc, h.tn.tx, ⟨by rw [hg x (Ne.symm o5), hl.hx], by rw [hs]; exact hl.lx, hl.xp, hl.xc, hl.m.keep (by rw [hs]; exact Nat.le_refl _) (hg p (Ne.symm o3)) (hg c (Ne.symm o4)), hl.len, hl.n1, hl.sp16⟩, h.tn.n1, h.tn.per, h.tn.pl, h.tn.mv⟩
theorem KL.want (h : KL H0 H g t x p c nn sp per puts o M ws mvb) {i : Nat} (hi : i < nn) {l : List Int} (hl : isLine l) :
    AH.canPut H (Addr.add ⟨o, 0, none⟩ (i * 8)) (lineV l).length ∧ KL H0 (AH.put H (Addr.add ⟨o, 0, none⟩ (i * 8)) (lineV l)) g t x p c nn sp per puts o M (ws.set i l) mvb := by
  obtain ⟨w1, w2, w3⟩ := h.w.put (i := i) (by rw [h.wl]; exact hi) hl
  have hs : (AH.put H (Addr.add ⟨o, 0, none⟩ (i * 8)) (lineV l)).size = H.size := rfl
  refine ⟨w1, ⟨by rw [hs]; exact h.keeps.1, fun b hb => by rw [w3 b (by have := h.low.2.2.2.2.2; omega)]; exact h.keeps.2 b hb⟩, h.gat.other h.op w3 hs, h.calm, w2, by simp [h.wl], h.low, h.op⟩
end

section
variable {H : AH}
theorem KL.new {H1 : AH} {g t x nn sp per o : Nat} {limits : List Int} (hnn : 1 ≤ nn) (hsp : sp ≤ 16) (hk : Keeps H H1) (hG : GAt H1 g t x (H.size + 1) H.size (16 + nn) sp per 0 (Mem.new (16 + nn + 1 + sp) limits)) (hg : H.size ≤ g) (ht : H.size ≤ t) (hx : H.size ≤ x) (ho : o = H1.size) :
    KL H (H1.push ⟨(List.replicate nn (List.replicate 8 (0 : Int))).flatMap lineV, .rw, 8⟩) g t x (H.size + 1) H.size nn sp per 0 o (Mem.new (16 + nn + 1 + sp) limits) (List.replicate nn (List.replicate 8 0)) 0 := by
  subst ho
  have hLV : LV (Mem.new (16 + nn + 1 + sp) limits) (16 + nn + 1) sp 0 := LV.zero (by simp [Mem.new]) (by omega) hsp fun i hi => whose_new (by omega)
  have lp := hG.tn.l.m.lp
  have lc := hG.tn.l.m.lc
  have lx := hG.tn.l.lx
  have lt := hG.tn.lt
  have lg := hG.lg
  refine ⟨hk.push _, hG.push _, ⟨hG.pst hLV (by rw [mv_new]; omega), rfl, rfl⟩, ⟨by rw [push_get, if_pos rfl], by simp [push_size], ?_⟩, by simp, ⟨hg, ht, by omega, Nat.le_refl _, hx, hk.1⟩, by omega⟩
  intro l hl; rw [List.eq_of_mem_replicate hl]; exact zero_line

theorem get_new {nn sp : Nat} {limits : List Int} (hnn : 1 ≤ nn) (hsp : sp ≤ 16) (i : Nat) (hi : i < nn) : getN (16 + nn) sp (Mem.new (16 + nn + 1 + sp) limits) ((16 + i : Nat) : Int) = ((List.replicate nn (List.replicate 8 (0 : Int))).getD i [], 0) := by
  have hzero : ∀ i, i < sp → (Mem.new (16 + nn + 1 + sp) limits).whose i = 0 := fun i hi => whose_new (by omega)
  rw [get_clean rfl rfl (by omega), Int.toNat_natCast]
  unfold Mem.tview
  have hsl := slotN_le (mv := (Mem.new (16 + nn + 1 + sp) limits).mv) (line := 16 + i) (n := 16 + nn) (by omega)
  rw [view_zero hzero, Mem.new_cl (by omega)]; simp [List.getD_eq_getElem?_getD, hi]

theorem darninglaw12_LogKeeps.t {x0 x1 x2 : Int} {x3 x4 : Sl} {limits : List Int} {L : List (Sl × List (Int × List Int))} (_ : (Lit.int .i64 x0).wf = true) (_ : (Lit.int .i64 x1).wf = true) (_ : (Lit.int .i64 x2).wf = true) (hlim : Abs.Rows H x3 1 iV limits) (_ : ∀ v ∈ limits, isI v) (_ : limits.length ≤ maxLen)
    (hr : RR H x4 L) (_ : L.length ≤ maxLen) : darninglaw12_LogKeeps x0 x1 x2 x3 x4 H (fun r _ => r = true) := by
  refine darninglaw12_LogKeeps.link ?_
  unfold darninglaw12_LogKeeps.b
  refine darninglaw12_heavy.s hr ?_
  intro rv hlight
  by_cases c0 : rv > 0
  · rw [decide_eq_true c0, bcase_true]; exact darninglaw12_awake.s rfl
  rw [decide_eq_false c0, bcase_false]
  obtain ⟨hL, hlim2, hL2⟩ := hlight (by omega)
  clear hlight
  refine darninglaw12_sized.s ?_
  intro nn sp per hnn hsp hper _ _
  refine darninglaw12_made.s hlim ⟨by omega, by omega⟩ hsp ⟨by omega, by omega⟩ ?_
  intro H1 g t x hG hk hg ht hx
  rw [Option.isNone_some, bcase_false]
  refine ⟨by simp only [lim]; omega, ?_⟩
  rw [newC_eq, Int.toNat_natCast, zeroV, zeros_flat7]
  have hK0 := KL.new hnn.1 hsp hk hG (by omega) (by omega) (by omega) rfl
  have hget0 := get_new (limits := limits) hnn.1 hsp
  have hc0 : commits (Mem.new (16 + nn + 1 + sp) limits) = 0 := rfl
  generalize Mem.new (16 + nn + 1 + sp) limits = M0 at *
  generalize H1.size = o at *
  generalize H1.push ⟨(List.replicate nn (List.replicate 8 (0 : Int))).flatMap lineV, .rw, 8⟩ = H2 at *
  refine loopT_inv (t := ((false, (0 : Int)) : Bool × Int)) (I := fun (t' : Bool × Int) H' => ∃ i : Nat, t'.2 = (i : Int) ∧ i ≤ L.length ∧ ∃ M ws puts, KL H H' g t x (H.size + 1) H.size nn sp per puts o M ws (40 * i) ∧ ∀ j, j < nn → getN (16 + nn) sp M ((16 + j : Nat) : Int) = (ws.getD j [], 0)) (m := fun (t' : Bool × Int) _ => Int.toNat ((L.length : Int) - t'.2)) ?_ ⟨0, rfl, by omega, M0, _, 0, hK0, hget0⟩
  intro t' H4 hI it hit
  obtain ⟨u1, u2⟩ := t'
  obtain ⟨i, h1, hi, M, ws, puts, hK, hget⟩ := hI
  simp only at h1
  subst h1
  unfold darninglaw12_LogKeeps.l6
  rw [hr.1.1]
  by_cases hlt : (i : Int) < (L.length : Int)
  rotate_left 1
  · rw [decide_eq_false hlt, bcase_false]
    unfold darninglaw12_LogKeeps.j1
    refine log_Get.s hK.gat (by unfold isI; omega) ?_
    have g15 : getN (16 + nn) sp M 15 = (List.replicate 8 0, 1) := by unfold getN; rw [if_neg (by omega)]
    have gn : getN (16 + nn) sp M (16 + (nn : Int)) = (List.replicate 8 0, 1) := by unfold getN; rw [if_neg (by omega)]
    rw [g15, zeroV]
    refine new_line zero_line ?_
    rw [wrap_i64 (n := 16 + (nn : Int)) (by omega) (by omega)]
    refine log_Get.s (hK.gat.push _) (by unfold isI; omega) ?_
    rw [gn]
    refine new_line zero_line ?_
    rw [show ((1 : Int) == 1) = true from rfl, bcase_true, bcase_true]
    exact darninglaw12_awake.s rfl
  rw [decide_eq_true hlt, bcase_true]
  have hi' : i < L.length := by omega
  obtain ⟨b, oo, ha, _, hc⟩ := (hr.keep hK.keeps).at hi'
  refine ⟨by omega, ?_⟩
  rw [ha, onPtr_mk, Int.toNat_natCast, hc, show elL (some (Sl.val L[i].1)) _ = _ from propext (elL_some _ _ _ _)]
  have hRl := (hr.2 _ (List.getElem_mem hi')).1
  have hok := (hr.2 _ (List.getElem_mem hi')).2
  have hln := hL2 _ (List.getElem_mem hi')
  show log_Log_Pending _ _ _
  have ep : (⟨L[i].1.a, L[i].1.n, L[i].1.k⟩ : Sl) = L[i].1 := rfl
  try rw [ep]
  generalize L[i] = E at *
  obtain ⟨s, l⟩ := E
  simp only at hRl hok hln ⊢
  have hup := hK.calm.up
  refine log_Pending.s hK.gat ?_
  refine log_Commit.s hK.gat hK.calm.ps (by omega) (hRl.keep hK.keeps) hok (by omega) ?_ ?_
  · intro h0 bb hbb
    obtain ⟨b2, o2, ha2, hlt2, _⟩ := hRl.at h0
    rw [ha2] at hbb
    simp at hbb
    have := hK.low
    omega
  intro H5 hG5 f5 _
  obtain ⟨hC, hout⟩ := com_get rfl hK.calm (by omega) (by omega) hok hK.wl hget
  have hK5 := hK.step hG5 hC f5
  refine darningref4_MayHomes.s (n := IntKind.wrap .i64 (16 + (nn : Int))) (hRl.keep hK5.keeps) hok (by omega) ?_
  rw [wrap_i64 (n := 16 + (nn : Int)) (by omega) (by omega)]
  have ecast : (16 + (nn : Int)) = ((16 + nn : Nat) : Int) := by omega
  rw [ecast]
  -- the check of every line
  have j4 : ∀ H6 M6 ws6 p6, KL H H6 g t x (H.size + 1) H.size nn sp per p6 o M6 ws6 (40 * i + 40) → (∀ j, j < nn → getN (16 + nn) sp M6 ((16 + j : Nat) : Int) = (ws6.getD j [], 0)) → darninglaw12_LogKeeps.j4 (fun r _ => r = true) (nn : Int) (some ⟨g, 0, none⟩) o (u1, (i : Int)) it H6 := by
    intro H6 M6 ws6 p6 hK6 hget6
    unfold darninglaw12_LogKeeps.j4
    refine loopT_inv (I := fun (t1 : Bool × Int) H' => ∃ s : Nat, t1.2 = (s : Int) ∧ s ≤ nn ∧ KL H H' g t x (H.size + 1) H.size nn sp per p6 o M6 ws6 (40 * i + 40)) (m := fun (t : Bool × Int) _ => Int.toNat ((nn : Int) - t.2)) ?_ ⟨0, rfl, by omega, hK6⟩
    intro t1 H7 hI it2 hit2
    obtain ⟨t1', t2'⟩ := t1
    obtain ⟨s, h1, h2, hK7⟩ := hI
    simp only at h1
    subst h1
    unfold darninglaw12_LogKeeps.l3
    simp only [bcase_eq, decide_eq_true_eq, Int.toNat_natCast]
    by_cases hs : (s : Int) < (nn : Int)
    · rw [if_pos hs]
      have hw := hK7.wl
      have hline := hK7.w.line (i := s) (by omega)
      refine ⟨by omega, ?_⟩
      rw [ldA_some (hK7.w.row (by omega)), zeroV]
      refine new_line hline ?_
      have hK8 := hK7.push ⟨lineV (ws6.getD s []), .rw, 0⟩
      rw [wrap_i64 (n := 16 + (s : Int)) (by omega) (by omega)]
      refine log_Get.s hK8.gat (by unfold isI; omega) ?_
      have := hget6 s (by omega)
      rw [show ((16 + s : Nat) : Int) = 16 + (s : Int) by omega] at this
      rw [this]
      refine new_line hline ?_
      rw [if_neg (by simp), ldA_some (line_new hline), ldA_some (by rw [row_push (by simp [push_size])]; exact line_new hline), eq_line hline hline, beq_self_eq_true]
      unfold darninglaw12_LogKeeps.j2
      rw [Bool.not_true, bcase_false, wrap_i64 (n := (s : Int) + 1) (by omega) (by omega)]
      exact hit2 _ _ ⟨s + 1, by simp, by omega, hK8.push _⟩ (by simp only; omega)
    · rw [if_neg hs, wrap_i64 (n := (i : Int) + 1) (by omega) (by omega)]
      exact hit _ _ ⟨i + 1, by simp, by omega, M6, ws6, p6, hK7, hget6⟩ (by simp only; omega)
  rcases hout with ⟨hm, e⟩ | ⟨hm, hcm, e⟩ | ⟨hm, hcm, e, hcm2, hget5⟩ | ⟨hm, hcm, e, hget5⟩
  · rw [e] at hK5 ⊢
    rw [decide_eq_false hm, Bool.not_false, bcase_true]
    simp only
    rw [show ((1 : Int) != 1) = false from rfl, bcase_false]
    exact j4 _ _ _ _ hK5 hget
  · rw [e] at hK5 ⊢
    rw [decide_eq_true hm, Bool.not_true, bcase_false, decide_eq_true ⟨hup, hcm⟩, bcase_true]
    simp only
    rw [show ((5 : Int) != 5) = false from rfl, bcase_false]
    exact j4 _ _ _ _ hK5 hget
  · rw [decide_eq_true hm, Bool.not_true, bcase_false, decide_eq_false (fun hh => hh.2 hcm), bcase_false, e, show ((3 : Int) == 0) = false from rfl, bcase_false, show ((3 : Int) != 3) = false from rfl, bcase_false]
    refine log_Pending.s hK5.gat ?_
    rw [decide_eq_false (fun hh => hh.2 hcm2), bcase_false]
    exact j4 _ _ _ _ hK5 hget5
  rw [decide_eq_true hm, Bool.not_true, bcase_false, decide_eq_false (fun hh => hh.2 hcm), bcase_false, e, show ((0 : Int) == 0) = true from rfl, bcase_true]
  generalize (comN (16 + nn) sp per l M puts).1 = M5 at *
  generalize (comN (16 + nn) sp per l M puts).2.1 = p5 at *
  refine loopT_inv (t := (0 : Int)) (I := fun (t1 : Int) H' => ∃ j : Nat, t1 = (j : Int) ∧ j ≤ l.length ∧ KL H H' g t x (H.size + 1) H.size nn sp per p5 o M5 (upd ws (l.take j)) (40 * i + 40)) (m := fun (t : Int) _ => Int.toNat ((l.length : Int) - t)) ?_ ⟨0, rfl, by omega, hK5⟩
  intro t1 H7 hI it2 hit2
  obtain ⟨j, rfl, hj, hK7⟩ := hI
  unfold darninglaw12_LogKeeps.l5
  simp only [bcase_eq, decide_eq_true_eq, hRl.1, Int.toNat_natCast]
  by_cases hjl : (j : Int) < (l.length : Int)
  rotate_left 1
  · rw [if_neg hjl]
    rw [List.take_of_length_le (by omega)] at hK7
    exact j4 _ _ _ _ hK7 hget5
  rw [if_pos hjl]
  have hj' : j < l.length := by omega
  obtain ⟨b, oo, ha, _, hrow⟩ := (hRl.keep hK7.keeps).at hj'
  refine ⟨by omega, ?_⟩
  rw [ha, onPtr_mk, ldA_some hrow]
  have hcl := hok _ (List.getElem_mem hj')
  have hrg := may_range hm (List.getElem_mem hj')
  have hut := upd_take hj' (ws := ws)
  generalize l[j] = q at *
  refine new_put hcl rfl ?_
  intro hQ
  have hK8 := hK7.push ⟨putV q, .rw, 0⟩
  rw [hQ.c0, elI_some, ldA_some hQ.row, wrap_i64 (n := q.1 - 16) (by omega) (by omega)]
  obtain ⟨w1, hK9⟩ := hK8.want (i := (q.1 - 16).toNat) (by omega) hcl.line
  refine ⟨by omega, ⟨lineV_len hcl.line.1, lineV_ok _⟩, w1, ?_⟩
  rw [wrap_i64 (n := (j : Int) + 1) (by omega) (by omega)]
  refine hit2 _ _ ⟨j + 1, by simp, by omega, ?_⟩ (by omega)
  rw [hut]
  exact hK9
theorem darninglaw12_LogKeeps.u {x0 x1 x2 : Int} {x3 x4 : Sl} {limits : List Int} {L : List (Sl × List (Int × List Int))} (h0 : (Lit.int .i64 x0).wf = true) (h1 : (Lit.int .i64 x1).wf = true) (h2 : (Lit.int .i64 x2).wf = true) (h3 : Abs.Rows H x3 1 iV limits) (h4 : ∀ v ∈ limits, isI v) (h5 : limits.length ≤ maxLen)
    (hr : Abs.Rows H x4 1 slV L) (ho : ∀ q ∈ L, SlOK putV putOK 9 H q) (hl : L.length ≤ maxLen) : darninglaw12_LogKeeps x0 x1 x2 x3 x4 H (fun r _ => r = true) := darninglaw12_LogKeeps.t h0 h1 h2 h3 h4 h5 ⟨hr, ho⟩ hl
end
end Go.Proofs.Ytgechnnadjonaaa
