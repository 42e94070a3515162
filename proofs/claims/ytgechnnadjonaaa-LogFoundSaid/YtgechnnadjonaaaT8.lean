import Derived.Test.YtgechnnadjonaaaT7
set_option linter.all false
set_option linter.all false
namespace Go.Proofs.Ytgechnnadjonaaa
open Go Go.Abs

section
variable {H0 H H' H2 : AH} {t x p c n sp period puts puts' o k : Nat} {M M' : Mem} {ws : List (List Int)}
/-- The array is written before the Put. -/
theorem K9.put0 (h : K9 H0 H t x p c n sp period puts o M ws k) {line : Nat} {d : List Int} (hl : line < n) (hd : isLine d) :
    AH.canPut H (Addr.add ⟨o, 0, none⟩ (line * 8)) (lineV d).length ∧ ∃ H1, AH.put H (Addr.add ⟨o, 0, none⟩ (line * 8)) (lineV d) = H1 ∧ WantAt H1 o (ws.set line d) ∧ TAt H1 t x p c n sp period puts M ∧ Keeps H0 H1 := by
  obtain ⟨w1, w2, w3⟩ := h.w.put (i := line) (by rw [h.wl]; exact hl) hd
  refine ⟨w1, _, rfl, w2, ?_, ?_⟩
  · have hl := h.tn.l
    exact ⟨by rw [w3 t (Ne.symm h.op.1)]; exact h.tn.ht, h.tn.lt, h.tn.tp, h.tn.tc, h.tn.tx, ⟨by rw [w3 x (Ne.symm h.op.2.2.2), hl.hx], hl.lx, hl.xp, hl.xc, hl.m.keep (Nat.le_refl _) (w3 p (Ne.symm h.op.2.1)) (w3 c (Ne.symm h.op.2.2.1)), hl.len, hl.n1, hl.sp16⟩, h.tn.n1, h.tn.per, h.tn.pl, h.tn.mv⟩
  · exact ⟨h.keeps.1, fun b hb => by rw [w3 b (by have := h.low.2.2.2; omega)]; exact h.keeps.2 b hb⟩
theorem K9.done (h : K9 H0 H t x p c n sp period puts o M ws k) {line may : Nat} {d : List Int} (hl : line < n) (hW : WantAt H' o (ws.set line d)) (hk0 : Keeps H0 H')
    (hT : TAt H2 t x p c n sp period puts' M') (f : Frt H' H2 t p c) (hP : TPut n sp M (some line) d k may M' 0) : ∃ k', K9 H0 H2 t x p c n sp period puts' o M' (ws.set line d) k' := by
  obtain ⟨⟨k', hk', hlv, he3⟩, h2, h3, h4, h5, h6, h7, h8⟩ := hP
  have hlo := h.low
  have hw := hW.keep (f.get o hW.lt h.op.1 h.op.2.1 h.op.2.2.1) f.size
  rcases h7 with ⟨_, hd, hv⟩ | ⟨e1, _⟩ | ⟨e1, _⟩
  · refine ⟨k', f.keeps hk0 hlo.1 hlo.2.1 hlo.2.2.1, hT, hw, by simp [h.wl], hlo, h.op, hlv, h8 h.cut, hd, fun s hs' => ?_⟩
    by_cases hss : s = line
    · subst hss; rw [hv s rfl, List.getD_eq_getElem?_getD, List.getElem?_set_self (by rw [h.wl]; exact hs')]; rfl
    · rw [h2 s hs' (by simp; omega), h.view s hs', List.getD_eq_getElem?_getD, List.getD_eq_getElem?_getD, List.getElem?_set_ne (by omega)]
  · omega
  · omega
end

section
variable {H : AH}

theorem isLine2 {a b : Int} (ha : isU a) (hb : isU b) : isLine [a, b, 0, 0, 0, 0, 0, 0] := ⟨rfl, fun v hv => by
  simp only [List.mem_cons, List.not_mem_nil, or_false] at hv
  rcases hv with rfl | rfl | rfl | rfl | rfl | rfl | rfl | rfl <;> first | assumption | (unfold isU; omega)⟩
theorem isU_wrap (z : Int) : isU (IntKind.wrap .u64 z) := by
  unfold isU
  simp only [IntKind.wrap, IntKind.bits, IntKind.signed, Bool.false_and, Int.reducePow, Bool.false_eq_true, if_false]; omega

theorem darninglaw9_TurnFound.t {x0 x1 : Int} {x2 x3 : Sl} {l2 l3 : List Int} (_ : (Lit.int .i64 x0).wf = true) (_ : (Lit.int .i64 x1).wf = true) (hr2 : Abs.Rows H x2 1 iV l2) (_ : ∀ v ∈ l2, isI v) (hz2 : l2.length * 8 ≤ reachBytes)
    (hr3 : Abs.Rows H x3 1 iV l3) (_ : ∀ v ∈ l3, isI v) (hz3 : l3.length * 8 ≤ reachBytes) : darninglaw9_TurnFound x0 x1 x2 x3 H (fun r _ => r = true) := by
  refine darninglaw9_TurnFound.link ?_
  unfold darninglaw9_TurnFound.b
  simp only [bcase_eq, decide_eq_true_eq, hr2.1, hr3.1]
  have hmax : reachBytes ≤ 140737488355328 := by decide
  rw [wrap_i64 (n := (l2.length : Int) + (l3.length : Int)) (by omega) (by omega)]
  by_cases h1 : (l2.length : Int) + (l3.length : Int) > 200
  · rw [if_pos h1]; exact darninglaw9_awake.s rfl
  rw [if_neg h1]
  have hx := umod (m := 20) (by omega) x0
  have hy := umod (m := 6) (by omega) x1
  refine ⟨by decide, by decide, ?_⟩
  have e0 := wrap_i64 (n := Int.tmod (IntKind.wrap .u64 x0) 20) (by omega) (by omega)
  have e1 := wrap_i64 (n := Int.tmod (IntKind.wrap .u64 x1) 6) (by omega) (by omega)
  obtain ⟨n, hn⟩ := Int.eq_ofNat_of_zero_le (show 0 ≤ 1 + Int.tmod (IntKind.wrap .u64 x0) 20 by omega)
  obtain ⟨per, hper⟩ := Int.eq_ofNat_of_zero_le (show 0 ≤ 1 + Int.tmod (IntKind.wrap .u64 x1) 6 by omega)
  have hN : IntKind.wrap .i64 (1 + IntKind.wrap .i64 (Int.tmod (IntKind.wrap .u64 x0) 20)) = (n : Int) := by rw [e0, wrap_i64 (by omega) (by omega), hn]
  have hP : IntKind.wrap .i64 (1 + IntKind.wrap .i64 (Int.tmod (IntKind.wrap .u64 x1) 6)) = (per : Int) := by rw [e1, wrap_i64 (by omega) (by omega), hper]
  have hn1 : 1 ≤ n ∧ n ≤ 20 := by omega
  have hp1 : 1 ≤ per ∧ per ≤ 6 := by omega
  have hU : IntKind.wrap .u64 (n : Int) = (n : Int) := wrap_u64 (by omega) (by omega)
  rw [hN, wrap_i64 (n := (n : Int) + 1) (by omega) (by omega)]
  refine nvm_New.s (limits := []) rows_nil ?_ (fun h => absurd (by omega) h)
  intro _ H1 hm hk sz1
  have hNN : ((n : Int) + 1).toNat = n + 1 := by omega
  rw [hNN] at hm
  refine ⟨by simp only [lim]; omega, ?_⟩
  rw [newC_eq, Int.toNat_natCast, zeroV, zeros_flat7]
  have hF0 : Free n (Mem.new (n + 1) []) := Free.new
  have hv0 : ∀ s, s < n → (Mem.new (n + 1) []).tview n 0 s = (List.replicate n (List.replicate 8 (0 : Int))).getD s [] := by
    intro s hs
    have hsl := slotN_le (mv := (Mem.new (n + 1) []).mv) (line := s) hn1.1
    unfold Mem.tview
    rw [view0, Mem.new_cl (by omega)]; simp [List.getD_eq_getElem?_getD, hs]
  have hmv0 : (Mem.new (n + 1) []).mv = 0 := mv_new
  have hm3 := hm.push ⟨(List.replicate n (List.replicate 8 (0 : Int))).flatMap lineV, .rw, 8⟩
  have hW0 : WantAt (H1.push ⟨(List.replicate n (List.replicate 8 (0 : Int))).flatMap lineV, .rw, 8⟩) H1.size (List.replicate n (List.replicate 8 0)) :=
    ⟨by rw [push_get, if_pos rfl], by simp [push_size], fun l hl => by rw [List.eq_of_mem_replicate hl]; exact zero_line⟩
  have hkk := hk.push ⟨(List.replicate n (List.replicate 8 (0 : Int))).flatMap lineV, .rw, 8⟩
  have hmlp := hm.lp
  generalize Mem.new (n + 1) [] = M0 at *
  generalize ho : H1.size = o at *
  have hop : o ≠ H.size + 1 ∧ o ≠ H.size ∧ H.size ≤ o := by omega
  generalize H1.push ⟨(List.replicate n (List.replicate 8 (0 : Int))).flatMap lineV, .rw, 8⟩ = H3 at *
  refine loopT_inv (t := ((false, (0 : Int), (0 : Int)) : Bool × Int × Int)) (I := fun (t' : Bool × Int × Int) H' => ∃ j : Nat, ∃ M ws, t'.2.2 = (j : Int) ∧ j ≤ 2 ∧ t'.2.1 = (M.mv : Int) ∧ M.mv ≤ 200 * j ∧ Keeps H H' ∧ MemAt H' (H.size + 1) H.size M ∧ Free n M ∧ WantAt H' o ws ∧ ws.length = n ∧ ∀ s, s < n → M.tview n 0 s = ws.getD s []) (m := fun (t' : Bool × Int × Int) _ => Int.toNat (2 - t'.2.2)) ?_ ⟨0, _, _, rfl, by omega, by rw [hmv0]; rfl, by omega, hkk, hm3, hF0, hW0, by simp, hv0⟩
  intro t' H4 hI it hit
  obtain ⟨u1, u2, u3⟩ := t'
  obtain ⟨j, M, ws, h1, h2, h3, hmv, hK, hm, hF, hW, hwl, hv⟩ := hI
  simp only at h1 h3
  subst h1 h3
  unfold darninglaw9_TurnFound.l8
  simp only [bcase_eq, decide_eq_true_eq, hN, hP]
  by_cases hlt : (j : Int) < 2
  · rw [if_pos hlt]
    refine ⟨by omega, ?_⟩
    have body : ∀ (s : Sl) (l : List Int), Abs.Rows H s 1 iV l → l.length ≤ 200 → turn_New (some ⟨H.size + 1, 0, none⟩) (n : Int) 0 (per : Int) H4 fun p53 H53 =>
        if Option.isNone p53 = true then darninglaw9_TurnFound.j7 x0 x1 (fun r _ => r = true) o (u1, (M.mv : Int), (j : Int)) it s p53 true H53
        else turn_Turn_Moves p53 H53 fun n58 H58 => darninglaw9_TurnFound.j7 x0 x1 (fun r _ => r = true) o (u1, (M.mv : Int), (j : Int)) it s p53 (n58 != (M.mv : Int)) H58 := by
      intro s l hr hl200
      have hLV : LV M (n + 1) 0 0 := LV.zero hF.len (by omega) (by omega) fun i hi => by omega
      have hlen := hF.len
      have hwlt := hW.lt
      refine turn_New.s hm (by unfold isI; omega) (fun hh => absurd ⟨by omega, by omega, by omega, by omega, by omega, by omega, hF.up, hLV.may, by omega⟩ hh) ?_
      intro _ H5 t x hT hk5 ht hxl
      rw [Int.toNat_natCast, Int.toNat_natCast] at hT
      rw [Option.isNone_some, if_neg (by simp)]
      refine turn_Moves.s hT hF.up ?_
      unfold darninglaw9_TurnFound.j7
      rw [show ((M.mv : Int) != (M.mv : Int)) = false by simp, bcase_false]
      have hks := hK.1
      have hW5 := hW.keep (hk5.2 o hwlt) hk5.1
      have hK0 : K9 H H5 t x (H.size + 1) H.size n 0 per 0 o M ws 0 := ⟨hK.trans hk5, hT, hW5, hwl, ⟨by omega, by omega, by omega, by omega⟩, ⟨by omega, by omega, by omega, by omega⟩, hLV, hF.cut, hF.up, hv⟩
      refine loopT_inv (t := ((u1, (0 : Int)) : Bool × Int)) (I := fun (t' : Bool × Int) H' => ∃ i : Nat, ∃ M' ws' k', t'.2 = (i : Int) ∧ i ≤ l.length ∧ K9 H H' t x (H.size + 1) H.size n 0 per (i % per) o M' ws' k' ∧ Free n M' ∧ M'.mv = M.mv + i / per) (m := fun (t' : Bool × Int) _ => Int.toNat ((l.length : Int) - t'.2)) ?_ ⟨0, _, _, _, rfl, by omega, by rw [Nat.zero_mod]; exact hK0, hF, by rw [Nat.zero_div]; rfl⟩
      intro t1 H6 hI it2 hit2
      obtain ⟨v1, v2⟩ := t1
      obtain ⟨i, M', ws', k', h1, hi, hK6, hF6, hmv6⟩ := hI
      simp only at h1
      subst h1
      have hdl : i / per ≤ i := Nat.div_le_self _ _
      unfold darninglaw9_TurnFound.l6
      simp only [bcase_eq, decide_eq_true_eq, hN, hU, hr.1]
      by_cases hlt2 : (i : Int) < (l.length : Int)
      · rw [if_pos hlt2]
        obtain ⟨bb, oo, ha, _, hc⟩ := rows1 (g := fun v => Value.int .i64 v) (hr.keep hK6.keeps) (i := i) (by omega)
        refine ⟨by omega, ?_⟩
        rw [ha, onPtr_mk, Int.toNat_natCast, hc, elI_some]
        generalize l[i] = q at *
        have hq := umod (m := (n : Int)) (by omega) q
        obtain ⟨sl, hsl⟩ := Int.eq_ofNat_of_zero_le hq.1
        rw [hsl, wrap_i64 (n := (sl : Int)) (by omega) (by omega), Int.toNat_natCast, Int.toNat_natCast]
        have hld : isLine [IntKind.wrap .u64 (i : Int), IntKind.wrap .u64 q, 0, 0, 0, 0, 0, 0] := isLine2 (isU_wrap _) (isU_wrap _)
        have eL : [(Value.int .u64 (IntKind.wrap .u64 (i : Int))), (Value.int .u64 (IntKind.wrap .u64 q)), (Value.int .u64 0), (Value.int .u64 0), (Value.int .u64 0), (Value.int .u64 0), (Value.int .u64 0), (Value.int .u64 0)] = lineV [IntKind.wrap .u64 (i : Int), IntKind.wrap .u64 q, 0, 0, 0, 0, 0, 0] := rfl
        rw [eL]
        generalize [IntKind.wrap .u64 (i : Int), IntKind.wrap .u64 q, 0, 0, 0, 0, 0, 0] = d at *
        obtain ⟨cp, H7, hput, hW7, hT7, hK7⟩ := hK6.put0 (show sl < n by omega) hld
        refine ⟨by omega, by omega, ⟨lineV_len hld.1, lineV_ok _⟩, stC_to cp hput ⟨by omega, ?_⟩⟩
        have hwl6 := hK6.wl
        have hrow7 := hW7.row (i := sl) (by simp; omega)
        have hgd : (ws'.set sl d).getD sl [] = d := by rw [List.getD_eq_getElem?_getD, List.getElem?_set_self (by omega)]; rfl
        rw [hgd] at hrow7
        rw [ldA_some hrow7]
        obtain ⟨hPP, hpu⟩ := hK6.any (d := d) (show sl < n by omega) hld.1
        obtain ⟨f1, f2, _⟩ := hF6.tput hK6.tn.l.m.ok hn1.1 (line := sl) (per := per) (puts := i % per) (d := d) (by omega) hld.1 _ rfl
        obtain ⟨ds1, ds2⟩ := div_succ (P := i) hp1.1
        have hmv9 := hPP.mv.2.2 f1
        refine turn_Put.s hT7 hK6.lv (by omega) hld ?_
        intro H8 hT8 f8 _
        rw [hpu, ← ds2] at hT8
        rw [f1] at hPP ⊢
        generalize tput n 0 per M' (i % per) (sl : Int) d = R at *
        rw [if_neg (by simp), wrap_i64 (n := (i : Int) + 1) (by omega) (by omega)]
        obtain ⟨k9, hK9⟩ := hK6.done (show sl < n by omega) hW7 hK7 hT8 f8 hPP
        exact hit2 _ _ ⟨i + 1, _, _, _, by simp, by omega, hK9, f2, by omega⟩ (by simp only; omega)
      · rw [if_neg hlt2]
        have : i = l.length := by omega
        subst this
        unfold darninglaw9_TurnFound.j5
        simp only [bcase_eq, hP, hr.1]
        have hdiv : IntKind.wrap .i64 ((M.mv : Int) + IntKind.wrap .i64 (Int.tdiv (l.length : Int) (per : Int))) = (M'.mv : Int) := by
          rw [tdiv_nat, hmv6]
          generalize l.length / per = dd at *
          rw [wrap_i64 (n := (dd : Int)) (by omega) (by omega), wrap_i64 (by omega) (by omega)]; omega
        refine ⟨by omega, turn_Moves.s hK6.tn hK6.up ?_⟩
        rw [hdiv, if_neg (by simp)]
        refine loopT_inv (I := fun (t1 : Bool × Int) H' => ∃ s : Nat, t1.2 = (s : Int) ∧ s ≤ n ∧ K9 H H' t x (H.size + 1) H.size n 0 per (l.length % per) o M' ws' k') (m := fun (t : Bool × Int) _ => Int.toNat ((n : Int) - t.2)) ?_ ⟨0, rfl, by omega, hK6⟩
        intro t1 H7 hI it3 hit3
        obtain ⟨t1', t2'⟩ := t1
        obtain ⟨s', h1, h2, hK7⟩ := hI
        simp only at h1
        subst h1
        unfold darninglaw9_TurnFound.l4
        simp only [bcase_eq, decide_eq_true_eq, hN, Int.toNat_natCast]
        by_cases hs : (s' : Int) < (n : Int)
        · rw [if_pos hs]
          have hw := hK7.wl
          have hline := hK7.w.line (i := s') (by omega)
          refine ⟨by omega, ?_⟩
          rw [ldA_some (hK7.w.row (by omega)), zeroV]
          refine new_line hline ?_
          have hK8 := hK7.push ⟨lineV (ws'.getD s' []), .rw, 0⟩
          refine turn_Get.s hK8.tn ?_
          rw [hK8.get (by omega)]
          refine new_line hline ?_
          rw [if_neg (by simp), ldA_some (line_new hline), ldA_some (by rw [row_push (by simp [push_size])]; exact line_new hline), eq_line hline hline, beq_self_eq_true]
          unfold darninglaw9_TurnFound.j3
          rw [Bool.not_true, bcase_false, wrap_i64 (n := (s' : Int) + 1) (by omega) (by omega)]
          exact hit3 _ _ ⟨s' + 1, by simp, by omega, hK8.push _⟩ (by simp only; omega)
        · rw [if_neg hs]
          unfold darninglaw9_TurnFound.j2
          simp only [hP, hr.1]
          rw [hdiv, wrap_i64 (n := (j : Int) + 1) (by omega) (by omega)]
          exact hit _ _ ⟨j + 1, M', ws', by simp, by omega, rfl, by omega, hK7.keeps, hK7.tn.l.m, hF6, hK7.w, hK7.wl, hK7.view⟩ (by simp only; omega)
    by_cases hj : j = 0
    · subst hj
      exact ⟨x2, rfl, body x2 l2 hr2 (by omega)⟩
    · have : j = 1 := by omega
      subst this
      exact ⟨x3, rfl, body x3 l3 hr3 (by omega)⟩
  · rw [if_neg hlt]
    exact darninglaw9_awake.s rfl
end
end Go.Proofs.Ytgechnnadjonaaa
