import Derived.Test.YtgechnnadjonaaaT5
set_option linter.all false
set_option linter.all false
namespace Go.Proofs.Ytgechnnadjonaaa
open Go Go.Abs

theorem tview_power (M : Mem) (n sp s : Nat) : M.power.tview n sp s = M.tview n sp s := view_power M _ _ _
theorem tview_setCut (M : Mem) (n sp s : Nat) (a b : Int) : (M.setCut a b).tview n sp s = M.tview n sp s := view_setCut M _ _ _ a b

section
variable {H : AH}

/-- One line of the comparison behind a cut. -/
theorem TurnCut_line {x0 : Int} {o11 o56 sl s n : Nat} {e : Int} {p103 : Option Addr} {t1 : Bool} {it : Bool × Int → AH → Prop} {t x p c sp per puts : Nat} {M : Mem} {ws : List (List Int)} {d : List Int} {H6 : AH}
    (hN : IntKind.wrap .i64 (1 + IntKind.wrap .i64 (Int.tmod (IntKind.wrap .u64 x0) 20)) = (n : Int)) (hn : n ≤ 20) (hs : s < n) (hT : TAt H6 t x p c n sp per puts M) (hp103 : p103 = some ⟨t, 0, none⟩) (hup : M.down = false)
    (hW : WantAt H6 o56 ws) (hwl : ws.length = n) (hQ : PutAt H6 o11 ((sl : Int), d)) (h11 : o11 < H6.size)
    (hother : s ≠ sl → M.tview n sp s = ws.getD s [])
    (hself : s = sl → (e = 0 → M.tview n sp s = d) ∧ (e = 3 → M.tview n sp s = ws.getD s []) ∧ could (ws.getD s []) d (M.tview n sp s))
    (hit : ∀ H', Keeps H6 H' → it (t1, (s : Int) + 1) H') : darninglaw9_TurnCut.l3 x0 (fun r _ => r = true) o11 o56 e p103 (t1, (s : Int)) H6 it := by
  subst hp103
  unfold darninglaw9_TurnCut.l3
  simp only [bcase_eq, decide_eq_true_eq, hN, Int.toNat_natCast]
  rw [if_pos (by omega)]
  refine ⟨by omega, ?_⟩
  have hline := hW.line (i := s) (by omega)
  rw [ldA_some (hW.row (by omega)), zeroV]
  refine new_line hline ?_
  have hT7 := hT.push ⟨lineV (ws.getD s []), .rw, 0⟩
  refine turn_Get.s hT7 ?_
  have hg : tget n sp M (s : Int) = (M.tview n sp s, 0) := by unfold tget; rw [if_pos ⟨by omega, by omega⟩, if_neg (by simp [hup]), Int.toNat_natCast]
  have hgl := hT.lineOf s
  rw [hg]
  refine new_line hgl ?_
  have hQ8 : PutAt ((H6.push ⟨lineV (ws.getD s []), .rw, 0⟩).push ⟨lineV (M.tview n sp s), .rw, 0⟩) o11 ((sl : Int), d) := hQ.keep (by rw [push_get_ne (by simp [push_size]; omega), push_get_ne (by omega)])
  have r23 : AH.row? ((H6.push ⟨lineV (ws.getD s []), .rw, 0⟩).push ⟨lineV (M.tview n sp s), .rw, 0⟩) ⟨H6.size, 0, none⟩ 8 = some (lineV (ws.getD s [])) := by rw [row_push (by simp [push_size])]; exact line_new hline
  have r24 : AH.row? ((H6.push ⟨lineV (ws.getD s []), .rw, 0⟩).push ⟨lineV (M.tview n sp s), .rw, 0⟩) ⟨(H6.push ⟨lineV (ws.getD s []), .rw, 0⟩).size, 0, none⟩ 8 = some (lineV (M.tview n sp s)) := line_new hgl
  have hK : Keeps H6 ((H6.push ⟨lineV (ws.getD s []), .rw, 0⟩).push ⟨lineV (M.tview n sp s), .rw, 0⟩) := ((Keeps.refl H6).push _).push _
  have hd : isLine d := hQ.ok.line
  generalize (H6.push ⟨lineV (ws.getD s []), .rw, 0⟩).size = o24 at *
  generalize (H6.push ⟨lineV (ws.getD s []), .rw, 0⟩).push ⟨lineV (M.tview n sp s), .rw, 0⟩ = H8 at *
  have j2 : darninglaw9_TurnCut.j2 (fun r _ => r = true) (t1, (s : Int)) it false H8 := by
    unfold darninglaw9_TurnCut.j2
    rw [bcase_false, wrap_i64 (n := (s : Int) + 1) (by omega) (by omega)]
    exact hit _ hK
  rw [if_neg (by simp), hQ8.c0, elI_some]
  simp only []
  by_cases hsl : s = sl
  · obtain ⟨h0, h3, hc⟩ := hself hsl
    have e1 : ((s : Int) != (sl : Int)) = false := by simp; omega
    have e2 : ((s : Int) == (sl : Int)) = true := by simp; omega
    rw [e1, if_neg (by simp), elI_some, e2, if_pos rfl, ldA_some r23, ldA_some hQ8.row, ldA_some r24]
    refine torn_Could.s hline hd hgl ?_
    rw [decide_eq_true hc, if_neg (by simp)]
    simp only [ldA_some r24, ldA_some r23, ldA_some hQ8.row, eq_line hgl hline, eq_line hgl hd]
    by_cases he0 : e = 0
    · rw [if_pos (by simpa using he0), h0 he0, beq_self_eq_true, if_neg (by simp), if_neg (by simp; omega)]
      exact j2
    · rw [if_neg (by simpa using he0)]
      by_cases he3 : e = 3
      · rw [if_pos (by simpa using he3), h3 he3, beq_self_eq_true]
        exact j2
      · rw [if_neg (by simpa using he3)]
        exact j2
  · have e1 : ((s : Int) != (sl : Int)) = true := by simp; omega
    have e2 : ((s : Int) == (sl : Int)) = false := by simp; omega
    rw [e1, if_pos rfl, ldA_some r24, ldA_some r23, eq_line hgl hline, hother hsl, beq_self_eq_true, if_neg (by simp), elI_some, e2, if_neg (by simp)]
    exact j2

theorem darninglaw9_TurnCut.t {x0 x1 x2 : Int} {x3 x4 : Sl} {limits : List Int} {l : List (Int × List Int)} {q0 : Int × List Int} {x6 mask : Int} (_ : (Lit.int .i64 x0).wf = true) (_ : (Lit.int .i64 x1).wf = true) (_ : (Lit.int .i64 x2).wf = true) (hlim : Abs.Rows H x3 1 iV limits) (_ : ∀ v ∈ limits, isI v) (_ : limits.length ≤ maxLen)
    (hr : Abs.Rows H x4 9 putV l) (hok : ∀ q ∈ l, putOK q) (_ : l.length ≤ maxLen) (hq0 : putOK q0) (_ : (Lit.int .i64 x6).wf = true) (_ : (Lit.int .i64 mask).wf = true) : darninglaw9_TurnCut x0 x1 x2 x3 x4 (putV q0) x6 mask H (fun r _ => r = true) := by
  refine darninglaw9_TurnCut.link ?_
  unfold darninglaw9_TurnCut.b darninglaw9_TurnCut.j6
  simp only [bcase_eq, decide_eq_true_eq, hr.1, hlim.1, newC_eq]
  by_cases h1 : (l.length : Int) > 60
  · rw [if_pos h1]; exact darninglaw9_awake.s rfl
  rw [if_neg h1]
  by_cases h2 : (limits.length : Int) > 200
  · rw [if_pos h2]; exact darninglaw9_awake.s rfl
  rw [if_neg h2]
  have hQ : PutAt (H.push ⟨putV q0, .rw, 0⟩) H.size q0 := ⟨⟨0, by simp [push_get]⟩, hq0⟩
  have hkq : Keeps H (H.push ⟨putV q0, .rw, 0⟩) := (Keeps.refl H).push _
  have hsq : (H.push ⟨putV q0, .rw, 0⟩).size = H.size + 1 := rfl
  generalize H.push ⟨putV q0, .rw, 0⟩ = Hq at *
  have hx := umod (m := 20) (by omega) x0
  have hy := umod (m := 17) (by omega) x1
  have hz := umod (m := 5) (by omega) x2
  have hc10 := umod (m := 10) (by omega) x6
  refine ⟨by decide, by decide, by decide, ?_⟩
  have e0 := wrap_i64 (n := Int.tmod (IntKind.wrap .u64 x0) 20) (by omega) (by omega)
  have e1 := wrap_i64 (n := Int.tmod (IntKind.wrap .u64 x1) 17) (by omega) (by omega)
  have e2 := wrap_i64 (n := Int.tmod (IntKind.wrap .u64 x2) 5) (by omega) (by omega)
  obtain ⟨n, hn⟩ := Int.eq_ofNat_of_zero_le (show 0 ≤ 1 + Int.tmod (IntKind.wrap .u64 x0) 20 by omega)
  obtain ⟨sp, hsp⟩ := Int.eq_ofNat_of_zero_le hy.1
  obtain ⟨per, hper⟩ := Int.eq_ofNat_of_zero_le (show 0 ≤ 1 + Int.tmod (IntKind.wrap .u64 x2) 5 by omega)
  have hN : IntKind.wrap .i64 (1 + IntKind.wrap .i64 (Int.tmod (IntKind.wrap .u64 x0) 20)) = (n : Int) := by rw [e0, wrap_i64 (by omega) (by omega), hn]
  have hS : IntKind.wrap .i64 (Int.tmod (IntKind.wrap .u64 x1) 17) = (sp : Int) := by rw [e1, hsp]
  have hP : IntKind.wrap .i64 (1 + IntKind.wrap .i64 (Int.tmod (IntKind.wrap .u64 x2) 5)) = (per : Int) := by rw [e2, wrap_i64 (by omega) (by omega), hper]
  have hn1 : 1 ≤ n ∧ n ≤ 20 := by omega
  have hsp1 : sp ≤ 16 := by omega
  have hp1 : 1 ≤ per ∧ per ≤ 5 := by omega
  rw [hN, hS, hP, wrap_i64 (n := (n : Int) + 1) (by omega) (by omega), wrap_i64 (n := (n : Int) + 1 + (sp : Int)) (by omega) (by omega)]
  refine nvm_New.s (hlim.keep hkq) ?_ (fun h => absurd (by omega) h)
  intro _ H1 hm hk _
  have hNN : ((n : Int) + 1 + (sp : Int)).toNat = n + 1 + sp := by omega
  rw [hNN] at hm
  have hlenM : (Mem.new (n + 1 + sp) limits).cs.length = n + 1 + sp := by simp [Mem.new]
  have hLV : LV (Mem.new (n + 1 + sp) limits) (n + 1) sp 0 := LV.zero hlenM (by omega) hsp1 fun i hi => whose_new (by omega)
  refine turn_New.s hm (by unfold isI; omega) (fun hh => absurd ⟨by omega, by omega, by omega, by omega, by omega, by omega, rfl, by rw [Int.toNat_natCast]; exact hLV.may, by rw [mv_new]; omega⟩ hh) ?_
  intro _ H2 t x hT hk2 ht hxl
  rw [Int.toNat_natCast, Int.toNat_natCast, Int.toNat_natCast] at hT
  rw [Option.isNone_some, if_neg (by simp)]
  refine ⟨by simp only [lim]; omega, ?_⟩
  rw [Int.toNat_natCast, zeroV, zeros_flat7]
  have hK0 := K9.new rfl (hk.trans hk2) hT (by have := hk.1; omega) rfl
  have hmv0 : (Mem.new (n + 1 + sp) limits).mv = 0 := mv_new
  have hxs : Hq.size ≤ x := by have := hk.1; omega
  generalize Mem.new (n + 1 + sp) limits = M0 at *
  generalize H2.size = o at *
  generalize H2.push ⟨(List.replicate n (List.replicate 8 (0 : Int))).flatMap lineV, .rw, 8⟩ = H3 at *
  refine loopT_inv (t := (0 : Int)) (I := fun (t' : Int) H' => ∃ i : Nat, t' = (i : Int) ∧ i ≤ l.length ∧ ∃ pt M ws k, K9 Hq H' t x (Hq.size + 1) Hq.size n sp per pt o M ws k ∧ M.mv ≤ i) (m := fun (t' : Int) _ => Int.toNat ((l.length : Int) - t')) ?_ ⟨0, rfl, by omega, _, _, _, _, hK0, by omega⟩
  intro t' H4 hI it hit
  obtain ⟨i, rfl, h2, pt, M, ws, k, hK, hmv⟩ := hI
  unfold darninglaw9_TurnCut.l5
  simp only [bcase_eq, decide_eq_true_eq, hr.1, hN]
  have l4 := hK.tn.lt
  have l4x := hK.tn.l.lx
  have l4p := hK.tn.l.m.lp
  have l4c := hK.tn.l.m.lc
  have l4o := hK.w.lt
  have hlow := hK.low
  have hop := hK.op
  by_cases hlt : (i : Int) < (l.length : Int)
  · rw [if_pos hlt]
    obtain ⟨b, oo, ha, _, hrow⟩ := (hr.keep (hkq.trans hK.keeps)).at (show i < l.length by omega)
    refine ⟨by omega, ?_⟩
    rw [ha, onPtr_mk, Int.toNat_natCast, ldA_some hrow]
    have hcl := hok _ (List.getElem_mem (show i < l.length by omega))
    generalize l[i] = q at *
    refine new_put hcl rfl ?_
    intro hP1
    have hK5 := hK.push ⟨putV q, .rw, 0⟩
    have l5 : H4.size < (H4.push ⟨putV q, .rw, 0⟩).size := by simp [push_size]
    rw [hP1.c0, elI_some, ldA_some hP1.row, wrap_i64 (n := (i : Int) + 1) (by omega) (by omega)]
    refine turn_Put.s hK5.tn hK5.lv (by omega) hcl.line ?_
    intro H6 hT6 f6 _
    by_cases hin : 0 ≤ q.1 ∧ q.1 < n
    · obtain ⟨sl, hsl⟩ := Int.eq_ofNat_of_zero_le hin.1
      obtain ⟨hPP, hpu⟩ := hK5.any (d := q.2) (show sl < n by omega) hcl.line.1
      rw [← hsl] at hPP hpu
      have hQ6 := hP1.keep (f6.get H4.size l5 (by omega) (by omega) (by omega))
      have hmv6 := hPP.mv
      have hmv7 : (tput n sp per M pt q.1 q.2).1.mv ≤ i + 1 := by have := hmv6.2.1; split at this <;> omega
      generalize tput n sp per M pt q.1 q.2 = R at *
      by_cases he : R.2.2 = 0
      · rw [if_pos (by simpa using he), hQ6.c0, elI_some, ldA_some hQ6.row]
        obtain ⟨c1, k', hkk, hK7, hg⟩ := hK5.right hT6 f6 hcl.line (show sl < n by omega) hPP he
        rw [hsl, Int.toNat_natCast, Int.toNat_natCast]
        refine ⟨by omega, ⟨lineV_len hcl.line.1, lineV_ok _⟩, stC_to c1 rfl ?_⟩
        exact hit _ _ ⟨i + 1, by simp, by omega, _, _, _, _, hK7, hmv7⟩ (by omega)
      · rw [if_neg (by simpa using he)]
        obtain ⟨e3, hK7⟩ := hK5.worn hT6 f6 (show sl < n by omega) hPP he
        exact hit _ _ ⟨i + 1, by simp, by omega, _, _, _, _, hK7, hmv7⟩ (by omega)
    · rw [tput_out hin] at hT6 ⊢
      simp only at hT6 ⊢
      rw [if_neg (by simp)]
      exact hit _ _ ⟨i + 1, by simp, by omega, _, _, _, _, hK5.same hT6 f6, by omega⟩ (by omega)
  · rw [if_neg hlt]
    unfold darninglaw9_TurnCut.j4
    have hQ4 := hQ.keep (hK.keeps.2 H.size (by omega))
    rw [hQ4.c0, elI_some, hN, hS, hP, wrap_u64 (n := (n : Int)) (by omega) (by omega)]
    refine ⟨by omega, ?_⟩
    have hw := umod (m := (n : Int)) (by omega) q0.1
    obtain ⟨sl, hsl⟩ := Int.eq_ofNat_of_zero_le hw.1
    rw [hsl, wrap_i64 (n := (sl : Int)) (by omega) (by omega)]
    have hsn : sl < n := by omega
    obtain ⟨ee, hge⟩ := hQ4.g
    have hput : AH.put H4 (Addr.add ⟨H.size, 0, none⟩ 0) [Value.int .i64 (sl : Int)] = H4.upd H.size ⟨putV ((sl : Int), q0.2), .rw, ee⟩ := by
      rw [addr_add]
      simp only [AH.put, hge, setMany, putV]
      rfl
    refine stC_to (by rw [addr_add]; exact ⟨rfl, congrArg AObj.md hge, by rw [hge, putV_len hq0]; simp⟩) hput ?_
    have hgo : ∀ b, b ≠ H.size → (H4.upd H.size ⟨putV ((sl : Int), q0.2), .rw, ee⟩).get b = H4.get b := fun b hb => by rw [upd_get, if_neg hb]
    have hQ5 : PutAt (H4.upd H.size ⟨putV ((sl : Int), q0.2), .rw, ee⟩) H.size ((sl : Int), q0.2) := ⟨⟨ee, by rw [upd_get, if_pos rfl]⟩, ⟨by unfold isI; simp only; omega, hq0.line⟩⟩
    have hL4 := hK.tn.l
    have hT5 : TAt (H4.upd H.size ⟨putV ((sl : Int), q0.2), .rw, ee⟩) t x (Hq.size + 1) Hq.size n sp per pt M :=
      ⟨by rw [hgo _ (by omega)]; exact hK.tn.ht, l4, hK.tn.tp, hK.tn.tc, hK.tn.tx, ⟨by rw [hgo _ (by omega)]; exact hL4.hx, l4x, hL4.xp, hL4.xc, hL4.m.keep (Nat.le_refl _) (hgo _ (by omega)) (hgo _ (by omega)), hL4.len, hL4.n1, hL4.sp16⟩, hK.tn.n1, hK.tn.per, hK.tn.pl, hK.tn.mv⟩
    have hW5 : WantAt (H4.upd H.size ⟨putV ((sl : Int), q0.2), .rw, ee⟩) o ws := hK.w.keep (hgo _ (by omega)) (Nat.le_refl _)
    have hs5 : (H4.upd H.size ⟨putV ((sl : Int), q0.2), .rw, ee⟩).size = H4.size := rfl
    generalize H4.upd H.size ⟨putV ((sl : Int), q0.2), .rw, ee⟩ = H5 at *
    refine ⟨by decide, ?_⟩
    rw [wrap_i64 (n := Int.tmod (IntKind.wrap .u64 x6) 10) (by omega) (by omega)]
    refine nvm_Memory_Cut.g hT5.l.m (by omega) ?_
    intro H6 hm6 f6
    have hL6 : LAt H6 x (Hq.size + 1) Hq.size (n + 1) sp (M.setCut (Int.tmod (IntKind.wrap .u64 x6) 10) mask) := ⟨by rw [f6.get _ hL4.xp hL4.xc, hT5.l.hx], by rw [f6.size]; exact hT5.l.lx, hL4.xp, hL4.xc, hm6, hL4.len, hL4.n1, hL4.sp16⟩
    have hT6 := hT5.mem hL6 f6 hK.tn.mv
    have hQ6 := hQ5.keep (f6.get H.size (by omega) (by omega))
    have hW6 := hW5.keep (f6.get o (by omega) (by omega)) (by rw [f6.size]; exact Nat.le_refl _)
    rw [hQ6.c0, elI_some, ldA_some hQ6.row]
    have hlv6 : LV (M.setCut (Int.tmod (IntKind.wrap .u64 x6) 10) mask) (n + 1) sp k := hK.lv.same rfl rfl
    have hmv6 : (M.setCut (Int.tmod (IntKind.wrap .u64 x6) 10) mask).mv = M.mv := rfl
    obtain ⟨hPP, hpu⟩ := tput_any (d := q0.2) (period := per) (puts := pt) hlv6 hK.tn.n1 hm6.ok (by omega) hK.up hsn hq0.line.1
    have s6 := f6.size
    refine turn_Put.s hT6 hlv6 (by omega) hq0.line ?_
    intro H7 hT7 f7 sz7
    simp only at hT7 ⊢
    have hmv7 := hPP.mv
    have hmv8 : (tput n sp per (M.setCut (Int.tmod (IntKind.wrap .u64 x6) 10) mask) pt (sl : Int) q0.2).1.mv ≤ i + 1 := by have := hmv7.2.1; split at this <;> omega
    generalize tput n sp per (M.setCut (Int.tmod (IntKind.wrap .u64 x6) 10) mask) pt (sl : Int) q0.2 = R at *
    have hQ7 := hQ6.keep (f7.get H.size (by omega) (by omega) (by omega) (by omega))
    have hW7 := hW6.keep (f7.get o (by omega) (by omega) (by omega) (by omega)) f7.size
    refine nvm_Memory_Power.g hT7.l.m ?_
    intro H8 hm8 f8
    have hQ8 := hQ7.keep (f8.get H.size (by omega) (by omega))
    have hW8 := hW7.keep (f8.get o (by omega) (by omega)) (by rw [f8.size]; exact Nat.le_refl _)
    obtain ⟨⟨k', hk', hlv7, he3⟩, p2, p3, p4, p5, p6, p7, p8⟩ := hPP
    simp only [tview_setCut] at p2 p7
    have hlv8 : LV R.1.power (n + 1) sp k' := hlv7.same rfl rfl
    have hlen8 := hlv8.len
    have hs8 : H4.size ≤ H8.size := by rw [f8.size]; have := f7.size; omega
    have hmv9 : R.1.power.mv ≤ i + 1 := hmv8
    refine turn_New.s hm8 (by unfold isI; omega) (fun hh => absurd ⟨by omega, by omega, by omega, by omega, by omega, by omega, rfl, by rw [Int.toNat_natCast]; exact hlv8.may, by omega⟩ hh) ?_
    intro _ H9 t9 x9 hT9 hk9 _ _
    rw [Int.toNat_natCast, Int.toNat_natCast, Int.toNat_natCast] at hT9
    rw [Option.isNone_some, bcase_false]
    have hQ9 := hQ8.keep (hk9.2 H.size (by omega))
    have hW9 := hW8.keep (hk9.2 o (by omega)) hk9.1
    have hv := hK.view
    refine loopT_inv (t := ((false, (0 : Int)) : Bool × Int)) (I := fun (t : Bool × Int) H' => ∃ s : Nat, t.2 = (s : Int) ∧ s ≤ n ∧ Keeps H9 H') (m := fun (t : Bool × Int) _ => Int.toNat ((n : Int) - t.2)) ?_ ⟨0, rfl, by omega, Keeps.refl _⟩
    intro t' H10 hI it2 hit2
    obtain ⟨t1, t2⟩ := t'
    obtain ⟨s, h1, h2, hk10⟩ := hI
    simp only at h1
    subst h1
    by_cases hs : s < n
    · have hT10 := hT9.keeps hk10
      have hQ10 := hQ9.keep (hk10.2 H.size (by have := hk9.1; omega))
      have hW10 := hW9.keep (hk10.2 o (by have := hk9.1; omega)) hk10.1
      refine TurnCut_line (sp := sp) (M := R.1.power) (ws := ws) (d := q0.2) (sl := sl) hN hn1.2 hs hT10 rfl rfl hW10 hK.wl hQ10 (by have := hk10.1; have := hk9.1; omega) ?_ ?_ ?_
      · intro hne
        rw [tview_power, p2 s hs (by simp; omega), hv s hs]
      · rintro rfl
        rw [tview_power, ← hv s hs]
        rcases p7 with ⟨a, _, hh⟩ | ⟨a, _, hh⟩ | ⟨a, _, _, hh⟩
        · have hh := hh s rfl
          refine ⟨fun _ => hh, fun h3 => by omega, by rw [hh]; exact could_new⟩
        · have hh := hh s rfl
          refine ⟨fun h0 => by omega, fun _ => hh, by rw [hh]; exact could_old⟩
        · refine ⟨fun h0 => by omega, fun h3 => by omega, ?_⟩
          rcases hh s rfl with hh | hh | hh
          · rw [hh]; exact could_old
          · rw [hh]; exact could_new
          · rw [hh]
            refine could_mix ?_ hq0.line
            rw [hv s hs]; exact hK.w.line (by rw [hK.wl]; exact hs)
      · intro H' hk'
        exact hit2 _ _ ⟨s + 1, by simp, by omega, hk10.trans hk'⟩ (by simp only; omega)
    · unfold darninglaw9_TurnCut.l3
      simp only [hN, Int.toNat_natCast]
      rw [show decide ((s : Int) < (n : Int)) = false from by simp; omega, bcase_false]
      exact darninglaw9_awake.s rfl
end
end Go.Proofs.Ytgechnnadjonaaa
