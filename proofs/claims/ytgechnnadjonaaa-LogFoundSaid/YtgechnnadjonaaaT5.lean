import Derived.Test.YtgechnnadjonaaaT4
set_option linter.all false
set_option linter.all false
namespace Go.Proofs.Ytgechnnadjonaaa
open Go Go.Abs

section
variable {H : AH}

theorem mv_new {n : Nat} {l : List Int} : (Mem.new n l).mv = 0 := rfl
theorem K9.new {H H1 : AH} {t x n sp period o : Nat} {limits : List Int} {N : Nat} (hN : N = n + 1 + sp) (hk : Keeps H H1) (hT : TAt H1 t x (H.size + 1) H.size n sp period 0 (Mem.new N limits)) (ht : H.size ≤ t) (ho : o = H1.size) :
    K9 H (H1.push ⟨(List.replicate n (List.replicate 8 (0 : Int))).flatMap lineV, .rw, 8⟩) t x (H.size + 1) H.size n sp period 0 o (Mem.new N limits) (List.replicate n (List.replicate 8 0)) 0 := by
  subst ho
  have hlenM : (Mem.new N limits).cs.length = n + 1 + sp := by simp [Mem.new]; omega
  have hzero : ∀ i, i < sp → (Mem.new N limits).whose i = 0 := fun i hi => whose_new (by have := hT.l.sp16; omega)
  have hLV : LV (Mem.new N limits) (n + 1) sp 0 := LV.zero hlenM (by omega) hT.l.sp16 hzero
  have lp := hT.l.m.lp
  have lc := hT.l.m.lc
  have lx := hT.l.lx
  have lt := hT.lt
  refine ⟨hk.push _, hT.push _, ⟨by rw [push_get, if_pos rfl], by simp [push_size], ?_⟩, by simp, ⟨ht, by omega, by omega, by have := hk.1; omega⟩, by omega, hLV, rfl, rfl, fun s hs => ?_⟩
  · intro l hl; rw [List.eq_of_mem_replicate hl]; exact zero_line
  · unfold Mem.tview
    have hsl := slotN_le (mv := (Mem.new N limits).mv) (line := s) (show 1 ≤ n by omega)
    rw [view_zero hzero, Mem.new_cl (by omega)]; simp [List.getD_eq_getElem?_getD, hs]

theorem darninglaw9_TurnKeeps.t {x0 x1 x2 : Int} {x3 x4 : Sl} {limits : List Int} {l : List (Int × List Int)} (_ : (Lit.int .i64 x0).wf = true) (_ : (Lit.int .i64 x1).wf = true) (_ : (Lit.int .i64 x2).wf = true) (hlim : Abs.Rows H x3 1 iV limits) (_ : ∀ v ∈ limits, isI v) (_ : limits.length ≤ maxLen)
    (hr : Abs.Rows H x4 9 putV l) (hok : ∀ q ∈ l, putOK q) (_ : l.length ≤ maxLen) : darninglaw9_TurnKeeps x0 x1 x2 x3 x4 H (fun r _ => r = true) := by
  refine darninglaw9_TurnKeeps.link ?_
  unfold darninglaw9_TurnKeeps.b darninglaw9_TurnKeeps.j12
  simp only [bcase_eq, decide_eq_true_eq, hr.1, hlim.1]
  by_cases h1 : (l.length : Int) > 200
  · rw [if_pos h1]; exact darninglaw9_awake.s rfl
  rw [if_neg h1]
  by_cases h2 : (limits.length : Int) > 200
  · rw [if_pos h2]; exact darninglaw9_awake.s rfl
  rw [if_neg h2]
  have hx := umod (m := 30) (by omega) x0
  have hy := umod (m := 17) (by omega) x1
  have hz := umod (m := 20) (by omega) x2
  refine ⟨by decide, by decide, by decide, ?_⟩
  have e0 := wrap_i64 (n := Int.tmod (IntKind.wrap .u64 x0) 30) (by omega) (by omega)
  have e1 := wrap_i64 (n := Int.tmod (IntKind.wrap .u64 x1) 17) (by omega) (by omega)
  have e2 := wrap_i64 (n := Int.tmod (IntKind.wrap .u64 x2) 20) (by omega) (by omega)
  obtain ⟨n, hn⟩ := Int.eq_ofNat_of_zero_le (show 0 ≤ 1 + Int.tmod (IntKind.wrap .u64 x0) 30 by omega)
  obtain ⟨sp, hsp⟩ := Int.eq_ofNat_of_zero_le hy.1
  obtain ⟨per, hper⟩ := Int.eq_ofNat_of_zero_le (show 0 ≤ 1 + Int.tmod (IntKind.wrap .u64 x2) 20 by omega)
  have hN : IntKind.wrap .i64 (1 + IntKind.wrap .i64 (Int.tmod (IntKind.wrap .u64 x0) 30)) = (n : Int) := by rw [e0, wrap_i64 (by omega) (by omega), hn]
  have hS : IntKind.wrap .i64 (Int.tmod (IntKind.wrap .u64 x1) 17) = (sp : Int) := by rw [e1, hsp]
  have hP : IntKind.wrap .i64 (1 + IntKind.wrap .i64 (Int.tmod (IntKind.wrap .u64 x2) 20)) = (per : Int) := by rw [e2, wrap_i64 (by omega) (by omega), hper]
  have hn1 : 1 ≤ n ∧ n ≤ 30 := by omega
  have hsp1 : sp ≤ 16 := by omega
  have hp1 : 1 ≤ per ∧ per ≤ 20 := by omega
  rw [hN, hS, hP, wrap_i64 (n := (n : Int) + 1) (by omega) (by omega), wrap_i64 (n := (n : Int) + 1 + (sp : Int)) (by omega) (by omega)]
  refine nvm_New.s hlim ?_ (fun h => absurd (by omega) h)
  intro _ H1 hm hk _
  have hNN : ((n : Int) + 1 + (sp : Int)).toNat = n + 1 + sp := by omega
  rw [hNN] at hm
  have hlenM : (Mem.new (n + 1 + sp) limits).cs.length = n + 1 + sp := by simp [Mem.new]
  have hLV : LV (Mem.new (n + 1 + sp) limits) (n + 1) sp 0 := LV.zero hlenM (by omega) hsp1 fun i hi => whose_new (by omega)
  refine turn_New.s hm (by unfold isI; omega) (fun hh => absurd ⟨by omega, by omega, by omega, by omega, by omega, by omega, rfl, by rw [Int.toNat_natCast]; exact hLV.may, by rw [mv_new]; omega⟩ hh) ?_
  intro _ H2 t x hT hk2 ht hxl
  rw [Int.toNat_natCast, Int.toNat_natCast, Int.toNat_natCast] at hT
  rw [Option.isNone_some, if_neg (by simp)]
  refine turn_Lines.s hT ?_
  unfold darninglaw9_TurnKeeps.j11
  simp only [bcase_eq, hN]
  rw [if_neg (by simp)]
  refine ⟨by simp only [lim]; omega, ?_⟩
  rw [newC_eq, Int.toNat_natCast, zeroV, zeros_flat7]
  have hK0 := K9.new rfl (hk.trans hk2) hT (by have := hk.1; omega) rfl
  have hmv0 : (Mem.new (n + 1 + sp) limits).mv = 0 := mv_new
  have hxs : H.size ≤ x := by have := hk.1; omega
  generalize Mem.new (n + 1 + sp) limits = M0 at *
  generalize H2.size = o at *
  generalize H2.push ⟨(List.replicate n (List.replicate 8 (0 : Int))).flatMap lineV, .rw, 8⟩ = H3 at *
  refine loopT_inv (t := ((false, (0 : Int), false, (0 : Int)) : Bool × Int × Bool × Int)) (I := fun (t' : Bool × Int × Bool × Int) H' => ∃ i P : Nat, t'.2.1 = (P : Int) ∧ P ≤ i ∧ t'.2.2.2 = (i : Int) ∧ i ≤ l.length ∧ ∃ M ws k, K9 H H' t x (H.size + 1) H.size n sp per (P % per) o M ws k ∧ M.mv ≤ P / per ∧ (t'.2.2.1 = false → M.mv = P / per)) (m := fun (t' : Bool × Int × Bool × Int) _ => Int.toNat ((l.length : Int) - t'.2.2.2)) ?_ ⟨0, 0, rfl, by omega, rfl, by omega, _, _, _, by rw [Nat.zero_mod]; exact hK0, by rw [hmv0]; exact Nat.zero_le _, fun _ => by rw [hmv0, Nat.zero_div]⟩
  intro t' H4 hI it hit
  obtain ⟨u1, u2, u3, u4⟩ := t'
  obtain ⟨i, P, h1, hPi, h2, h3, M, ws, k, hK, hmv, hmvw⟩ := hI
  simp only at h1 h2 hmvw
  subst h1 h2
  unfold darninglaw9_TurnKeeps.l10
  simp only [bcase_eq, decide_eq_true_eq, hr.1, hN]
  by_cases hlt : (i : Int) < (l.length : Int)
  · rw [if_pos hlt]
    obtain ⟨b, oo, ha, _, hrow⟩ := (hr.keep hK.keeps).at (show i < l.length by omega)
    refine ⟨by omega, ?_⟩
    rw [ha, onPtr_mk, Int.toNat_natCast, ldA_some hrow]
    have hcl := hok _ (List.getElem_mem (show i < l.length by omega))
    generalize l[i] = q at *
    refine new_put hcl rfl ?_
    intro hQ
    have hK5 := hK.push ⟨putV q, .rw, 0⟩
    have l4 := hK.tn.lt
    have l4p := hK.tn.l.m.lp
    have l4c := hK.tn.l.m.lc
    have l4o := hK.w.lt
    have l5 : H4.size < (H4.push ⟨putV q, .rw, 0⟩).size := by simp [push_size]
    rw [hQ.c0, elI_some, ldA_some hQ.row]
    have hkle := hK.lv.kle
    obtain ⟨ds1, ds2⟩ := div_succ (P := P) hp1.1
    have hPle : (P + 1) / per ≤ P + 1 := Nat.div_le_self _ _
    -- behind a Put in range
    have after : ∀ (e : Int) H' M' ws' k', K9 H H' t x (H.size + 1) H.size n sp per ((P + 1) % per) o M' ws' k' → M'.mv ≤ (P + 1) / per → ((u3 = false ∧ e = 0) → M'.mv = (P + 1) / per) → darninglaw9_TurnKeeps.j7 x0 x2 (fun r _ => r = true) (some ⟨t, 0, none⟩) o (u1, (P : Int), u3, (i : Int)) it e H' := by
      intro e H' M' ws' k' hK' hm1 hm2
      have hdiv : IntKind.wrap .i64 (Int.tdiv (IntKind.wrap .i64 ((P : Int) + 1)) (per : Int)) = (((P + 1) / per : Nat) : Int) := by
        rw [wrap_i64 (n := (P : Int) + 1) (by omega) (by omega), show (P : Int) + 1 = ((P + 1 : Nat) : Int) by omega, tdiv_nat]
        generalize (P + 1) / per = dd at *
        exact wrap_i64 (by omega) (by omega)
      have j5 : ∀ w : Bool, (w = false → M'.mv = (P + 1) / per) → darninglaw9_TurnKeeps.j5 x0 (fun r _ => r = true) (some ⟨t, 0, none⟩) o (u1, (P : Int), u3, (i : Int)) it w false H' := by
        intro w hw
        unfold darninglaw9_TurnKeeps.j5
        rw [bcase_false]
        refine loopT_inv (I := fun (t1 : Bool × Int) H' => ∃ s : Nat, t1.2 = (s : Int) ∧ s ≤ n ∧ K9 H H' t x (H.size + 1) H.size n sp per ((P + 1) % per) o M' ws' k') (m := fun (t : Bool × Int) _ => Int.toNat ((n : Int) - t.2)) ?_ ⟨0, rfl, by omega, hK'⟩
        intro t1 H6 hI it2 hit2
        obtain ⟨t1', t2'⟩ := t1
        obtain ⟨s, h1, h2, hK6⟩ := hI
        simp only at h1
        subst h1
        unfold darninglaw9_TurnKeeps.l4
        simp only [bcase_eq, decide_eq_true_eq, hN, Int.toNat_natCast]
        by_cases hs : (s : Int) < (n : Int)
        · rw [if_pos hs]
          have hw := hK6.wl
          have hline := hK6.w.line (i := s) (by omega)
          refine ⟨by omega, ?_⟩
          rw [ldA_some (hK6.w.row (by omega)), zeroV]
          refine new_line hline ?_
          have hK7 := hK6.push ⟨lineV (ws'.getD s []), .rw, 0⟩
          refine turn_Get.s hK7.tn ?_
          rw [hK7.get (by omega)]
          refine new_line hline ?_
          rw [if_neg (by simp), ldA_some (line_new hline), ldA_some (by rw [row_push (by simp [push_size])]; exact line_new hline), eq_line hline hline, beq_self_eq_true]
          unfold darninglaw9_TurnKeeps.j3
          rw [Bool.not_true, bcase_false, wrap_i64 (n := (s : Int) + 1) (by omega) (by omega)]
          exact hit2 _ _ ⟨s + 1, by simp, by omega, hK7.push _⟩ (by simp only; omega)
        · rw [if_neg hs]
          unfold darninglaw9_TurnKeeps.j2
          rw [wrap_i64 (n := (i : Int) + 1) (by omega) (by omega), wrap_i64 (n := (P : Int) + 1) (by omega) (by omega)]
          exact hit _ _ ⟨i + 1, P + 1, by simp, by omega, by simp, by omega, _, _, _, hK6, hm1, hw⟩ (by simp only; omega)
      have j6 : ∀ w : Bool, (w = false → M'.mv = (P + 1) / per) → darninglaw9_TurnKeeps.j6 x0 x2 (fun r _ => r = true) (some ⟨t, 0, none⟩) H' o (u1, (P : Int), u3, (i : Int)) it w := by
        intro w hw
        unfold darninglaw9_TurnKeeps.j6
        have hg : decide ((M'.mv : Int) > (((P + 1) / per : Nat) : Int)) = false := decide_eq_false (Int.not_lt.2 (Int.ofNat_le.2 hm1))
        simp only [bcase_eq, hP, hdiv]
        cases w with
        | true =>
          rw [if_neg (by simp)]
          refine ⟨by omega, turn_Moves.s hK'.tn hK'.up ?_⟩
          rw [hg]
          exact j5 _ hw
        | false =>
          rw [if_pos (by simp)]
          refine ⟨by omega, turn_Moves.s hK'.tn hK'.up ?_⟩
          rw [if_neg (by rw [hw rfl]; simp)]
          refine ⟨by omega, turn_Moves.s hK'.tn hK'.up ?_⟩
          rw [hg]
          exact j5 _ hw
      unfold darninglaw9_TurnKeeps.j7
      simp only [bcase_eq]
      by_cases hu3 : u3 = true
      · rw [if_pos hu3]; exact j6 _ (by simp)
      · rw [if_neg hu3]; exact j6 _ (fun he => hm2 ⟨by simpa using hu3, by simpa using he⟩)
    have hlow := hK.low
    have hPl : P / per ≤ P := Nat.div_le_self _ _
    have hmvlt : M.mv < 4611686018427387904 := by clear after; generalize P / per = dd at *; omega
    by_cases hin : 0 ≤ q.1 ∧ q.1 < n
    · obtain ⟨sl, hsl⟩ := Int.eq_ofNat_of_zero_le hin.1
      obtain ⟨hPP, hpu⟩ := hK5.any (d := q.2) (show sl < n by omega) hcl.line.1
      rw [← hsl] at hPP hpu
      refine turn_Put.s hK5.tn hK5.lv hmvlt hcl.line ?_
      intro H6 hT6 f6 _
      have hQ6 := hQ.keep (f6.get H4.size l5 (by omega) (by omega) (by omega))
      have hmv6 := hPP.mv
      rw [hpu, ← ds2] at hT6
      generalize tput n sp per M (P % per) q.1 q.2 = R at *
      rw [hQ6.c0, elI_some, if_neg (by omega), elI_some]
      unfold darninglaw9_TurnKeeps.j9
      rw [show decide (q.1 ≥ (n : Int)) = false from by simp; omega, bcase_false, hN]
      simp only [bcase_eq]
      by_cases he : R.2.2 = 0
      · rw [if_pos (by simpa using he), hQ6.c0, elI_some, ldA_some hQ6.row]
        obtain ⟨c1, k', hkk, hK7, hg⟩ := hK5.right hT6 f6 hcl.line (show sl < n by omega) hPP he
        rw [hsl, Int.toNat_natCast, Int.toNat_natCast]
        refine ⟨by omega, ⟨lineV_len hcl.line.1, lineV_ok _⟩, stC_to c1 rfl ?_⟩
        refine after _ _ _ _ k' hK7 (by omega) (fun hh => ?_)
        have := hmvw hh.1
        have := hmv6.2.2 he
        omega
      · rw [if_neg (by simpa using he)]
        obtain ⟨e3, hK7⟩ := hK5.worn hT6 f6 (show sl < n by omega) hPP he
        rw [e3, if_neg (by simp)]
        refine turn_Left.s hK7.tn ?_
        rw [hK7.left, Nat.sub_self]
        unfold darninglaw9_TurnKeeps.j8
        rw [show (((0 : Nat) : Int) != 0) = false from rfl, bcase_false]
        exact after _ _ _ _ sp hK7 (by omega) (fun hh => by omega)
    · refine turn_Put.s hK5.tn hK5.lv hmvlt hcl.line ?_
      intro H6 hT6 f6 _
      rw [tput_out hin] at hT6 ⊢
      simp only at hT6 ⊢
      have hQ6 := hQ.keep (f6.get H4.size l5 (by omega) (by omega) (by omega))
      have hK6 := hK5.same hT6 f6
      have j9 : darninglaw9_TurnKeeps.j9 x0 x2 (fun r _ => r = true) (some ⟨t, 0, none⟩) o (u1, (P : Int), u3, (i : Int)) it H4.size H6 1 true := by
        unfold darninglaw9_TurnKeeps.j9
        rw [bcase_true, bcase_eq, if_neg (by simp), wrap_i64 (n := (i : Int) + 1) (by omega) (by omega)]
        exact hit _ _ ⟨i + 1, P, rfl, by omega, by simp, by omega, _, _, _, hK6, hmv, hmvw⟩ (by simp only; omega)
      rw [hQ6.c0, elI_some]
      by_cases hneg : q.1 < 0
      · rw [if_pos hneg]; exact j9
      · rw [if_neg hneg, elI_some, show decide (q.1 ≥ (n : Int)) = true from by simp; omega]
        exact j9
  · rw [if_neg hlt]
    exact darninglaw9_awake.s rfl
end
end Go.Proofs.Ytgechnnadjonaaa
