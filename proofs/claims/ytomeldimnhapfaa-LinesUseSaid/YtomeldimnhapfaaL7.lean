import Derived.Test.YtomeldimnhapfaaL6
set_option linter.all false
set_option linter.all false
namespace Go.Proofs.Ytomeldimnhapfaa
open Go Go.Abs

theorem view_power (M : Mem) (n sp s : Nat) : M.power.view n sp s = M.view n sp s := view_same rfl rfl
theorem view_setCut (M : Mem) (n sp s : Nat) (a b : Int) : (M.setCut a b).view n sp s = M.view n sp s := view_same rfl rfl

theorem could_new {old now : List Int} : could old now now := fun i _ => .inr rfl
theorem could_old {old now : List Int} : could old now old := fun i _ => .inl rfl

section
variable {H : AH}

/-- One line of the comparison behind a cut. -/
theorem LinesCut_line {x0 : Int} {o11 o56 sl s n : Nat} {e : Int} {p103 : Option Addr} {t1 : Bool} {it : Bool × Int → AH → Prop} {x p c sp : Nat} {M : Mem} {ws : List (List Int)} {d : List Int} {H6 : AH}
    (hN : IntKind.wrap .i64 (1 + IntKind.wrap .i64 (Int.tmod (IntKind.wrap .u64 x0) 20)) = (n : Int)) (hn : n ≤ 20) (hs : s < n) (hL : LAt H6 x p c n sp M) (hp103 : p103 = some ⟨x, 0, none⟩) (hup : M.down = false)
    (hW : WantAt H6 o56 ws) (hwl : ws.length = n) (hQ : PutAt H6 o11 ((sl : Int), d)) (h11 : o11 < H6.size)
    (hother : s ≠ sl → M.view n sp s = ws.getD s [])
    (hself : s = sl → (e = 0 → M.view n sp s = d) ∧ (e = 3 → M.view n sp s = ws.getD s []) ∧ could (ws.getD s []) d (M.view n sp s))
    (hit : ∀ H', Keeps H6 H' → it (t1, (s : Int) + 1) H') : darninglaw7_LinesCut.l3 x0 (fun r _ => r = true) o11 o56 e p103 (t1, (s : Int)) H6 it := by
  subst hp103
  unfold darninglaw7_LinesCut.l3
  simp only [bcase_eq, decide_eq_true_eq, hN, Int.toNat_natCast]
  rw [if_pos (by omega)]
  refine ⟨by omega, ?_⟩
  have hline := hW.line (i := s) (by omega)
  rw [ldA_some (hW.row (by omega)), zeroV]
  refine new_line hline ?_
  have hL7 := hL.push ⟨lineV (ws.getD s []), .rw, 0⟩
  refine lines_Get.s hL7 ?_
  have hg : lget n sp M (s : Int) = (M.view n sp s, 0) := by unfold lget; rw [if_pos ⟨by omega, by omega⟩, if_neg (by simp [hup]), Int.toNat_natCast]
  have hgl := lget_line (slot := (s : Int)) hL
  rw [hg] at hgl ⊢
  refine new_line hgl ?_
  have hQ8 : PutAt ((H6.push ⟨lineV (ws.getD s []), .rw, 0⟩).push ⟨lineV (M.view n sp s), .rw, 0⟩) o11 ((sl : Int), d) := hQ.keep (by rw [push_get_ne (by simp [push_size]; omega), push_get_ne (by omega)])
  have r23 : AH.row? ((H6.push ⟨lineV (ws.getD s []), .rw, 0⟩).push ⟨lineV (M.view n sp s), .rw, 0⟩) ⟨H6.size, 0, none⟩ 8 = some (lineV (ws.getD s [])) := by rw [row_push (by simp [push_size])]; exact line_new hline
  have r24 : AH.row? ((H6.push ⟨lineV (ws.getD s []), .rw, 0⟩).push ⟨lineV (M.view n sp s), .rw, 0⟩) ⟨(H6.push ⟨lineV (ws.getD s []), .rw, 0⟩).size, 0, none⟩ 8 = some (lineV (M.view n sp s)) := line_new hgl
  have hK : Keeps H6 ((H6.push ⟨lineV (ws.getD s []), .rw, 0⟩).push ⟨lineV (M.view n sp s), .rw, 0⟩) := ((Keeps.refl H6).push _).push _
  have hd : isLine d := hQ.ok.line
  generalize (H6.push ⟨lineV (ws.getD s []), .rw, 0⟩).size = o24 at *
  generalize (H6.push ⟨lineV (ws.getD s []), .rw, 0⟩).push ⟨lineV (M.view n sp s), .rw, 0⟩ = H8 at *
  have j2 : darninglaw7_LinesCut.j2 (fun r _ => r = true) (t1, (s : Int)) it false H8 := by
    unfold darninglaw7_LinesCut.j2
    rw [bcase_false, wrap_i64 (n := (s : Int) + 1) (by omega) (by omega)]
    exact hit _ hK
  have tail : ldA H8 ⟨H6.size, 0, none⟩ 8 fun c164 => ldA H8 (Addr.add ⟨o11, 0, none⟩ 1) 8 fun c166 => ldA H8 ⟨o24, 0, none⟩ 8 fun c167 => torn_Could c164 c166 c167 H8 fun b168 H168 =>
      if (!b168) = true then elI .i64 (AH.cell? H168 (Addr.add ⟨o11, 0, none⟩ 0)) fun n173 => darninglaw7_LinesCut.j2 (fun r _ => r = true) (t1, (s : Int)) it ((s : Int) == n173) H168 else darninglaw7_LinesCut.j2 (fun r _ => r = true) (t1, (s : Int)) it false H168 := by
    rw [ldA_some r23, ldA_some hQ8.row, ldA_some r24]
    refine torn_Could.s hline hd hgl ?_
    by_cases hc : could (ws.getD s []) d (M.view n sp s)
    · rw [decide_eq_true hc, if_neg (by simp)]; exact j2
    · rw [decide_eq_false hc, if_pos (by simp), hQ8.c0, elI_some]
      have hne : s ≠ sl := fun h => hc (hself h).2.2
      rw [show ((s : Int) == (sl : Int)) = false from by simp; omega]
      exact j2
  simp only [hQ8.c0, elI_some, ldA_some r24, ldA_some r23, ldA_some hQ8.row, eq_line hgl hline, eq_line hgl hd] at tail ⊢
  rw [if_neg (by simp)]
  by_cases hsl : s = sl
  · obtain ⟨h0, h3, hc⟩ := hself hsl
    have e1 : ((s : Int) != (sl : Int)) = false := by simp; omega
    have e2 : ((s : Int) == (sl : Int)) = true := by simp; omega
    rw [e1, e2] at *
    simp only [Bool.false_eq_true, if_false, if_true]
    by_cases he0 : e = 0
    · rw [if_pos (by simpa using he0), h0 he0, beq_self_eq_true]
      have he3 : (e == 3) = false := by simp; omega
      simp only [Bool.not_true, Bool.false_eq_true, if_false, he3]
      rw [h0 he0] at tail
      exact tail
    · rw [if_neg (by simpa using he0)]
      by_cases he3 : e = 3
      · rw [if_pos (by simpa using he3), h3 he3, beq_self_eq_true]
        simp only [Bool.not_true, Bool.false_eq_true, if_false]
        rw [h3 he3] at tail
        exact tail
      · rw [if_neg (by simpa using he3)]
        exact tail
  · have e1 : ((s : Int) != (sl : Int)) = true := by simp; omega
    have e2 : ((s : Int) == (sl : Int)) = false := by simp; omega
    rw [e1, e2] at *
    simp only [Bool.false_eq_true, if_false, if_true]
    rw [hother hsl, beq_self_eq_true]
    simp only [Bool.not_true, Bool.false_eq_true, if_false]
    rw [hother hsl] at tail
    exact tail

theorem darninglaw7_LinesCut.t {x0 x1 : Int} {x2 x3 : Sl} {limits : List Int} {l : List (Int × List Int)} {q0 : Int × List Int} {x5 mask : Int} (_ : (Lit.int .i64 x0).wf = true) (_ : (Lit.int .i64 x1).wf = true) (hlim : Abs.Rows H x2 1 iV limits) (_ : ∀ v ∈ limits, isI v) (_ : limits.length ≤ maxLen)
    (hr : Abs.Rows H x3 9 putV l) (hok : ∀ q ∈ l, putOK q) (_ : l.length ≤ maxLen) (hq0 : putOK q0) (_ : (Lit.int .i64 x5).wf = true) (_ : (Lit.int .i64 mask).wf = true) : darninglaw7_LinesCut x0 x1 x2 x3 (putV q0) x5 mask H (fun r _ => r = true) := by
  refine darninglaw7_LinesCut.link ?_
  unfold darninglaw7_LinesCut.b darninglaw7_LinesCut.j6
  simp only [bcase_eq, decide_eq_true_eq, hr.1, hlim.1, newC_eq]
  by_cases h1 : (l.length : Int) > 60
  · rw [if_pos h1]; exact darninglaw7_awake.s rfl
  rw [if_neg h1]
  by_cases h2 : (limits.length : Int) > 200
  · rw [if_pos h2]; exact darninglaw7_awake.s rfl
  rw [if_neg h2]
  have hQ : PutAt (H.push ⟨putV q0, .rw, 0⟩) H.size q0 := ⟨⟨0, by simp [push_get]⟩, hq0⟩
  have hkq : Keeps H (H.push ⟨putV q0, .rw, 0⟩) := (Keeps.refl H).push _
  have hsq : (H.push ⟨putV q0, .rw, 0⟩).size = H.size + 1 := rfl
  generalize H.push ⟨putV q0, .rw, 0⟩ = Hq at *
  have hx := umod (m := 20) (by omega) x0
  have hy := umod (m := 17) (by omega) x1
  have hz := umod (m := 8) (by omega) x5
  refine ⟨by decide, by decide, ?_⟩
  have e0 := wrap_i64 (n := Int.tmod (IntKind.wrap .u64 x0) 20) (by omega) (by omega)
  have e1 := wrap_i64 (n := Int.tmod (IntKind.wrap .u64 x1) 17) (by omega) (by omega)
  obtain ⟨n, hn⟩ := Int.eq_ofNat_of_zero_le (show 0 ≤ 1 + Int.tmod (IntKind.wrap .u64 x0) 20 by omega)
  obtain ⟨sp, hsp⟩ := Int.eq_ofNat_of_zero_le hy.1
  have hN : IntKind.wrap .i64 (1 + IntKind.wrap .i64 (Int.tmod (IntKind.wrap .u64 x0) 20)) = (n : Int) := by rw [e0, wrap_i64 (by omega) (by omega), hn]
  have hS : IntKind.wrap .i64 (Int.tmod (IntKind.wrap .u64 x1) 17) = (sp : Int) := by rw [e1, hsp]
  have hn1 : 1 ≤ n ∧ n ≤ 20 := by omega
  have hsp1 : sp ≤ 16 := by omega
  rw [hN, hS, wrap_i64 (n := (n : Int) + (sp : Int)) (by omega) (by omega)]
  refine nvm_New.s (hlim.keep hkq) ?_ (fun h => absurd (by omega) h)
  intro _ H1 hm hk _
  have hlenM : (Mem.new ((n : Int) + (sp : Int)).toNat limits).cs.length = n + sp := by simp [Mem.new]; omega
  have hzero : ∀ i, i < sp → (Mem.new ((n : Int) + (sp : Int)).toNat limits).whose i = 0 := fun i hi => whose_new (by omega)
  have hLV : LV (Mem.new ((n : Int) + (sp : Int)).toNat limits) n sp 0 := LV.zero hlenM (by omega) (by omega) hzero
  have hview : ∀ s, s < n → (Mem.new ((n : Int) + (sp : Int)).toNat limits).view n sp s = List.replicate 8 0 := by
    intro s hs
    rw [view_zero hzero, Mem.new_cl (by omega)]
  have hcut : (Mem.new ((n : Int) + (sp : Int)).toNat limits).cut = -1 := rfl
  have hdn : (Mem.new ((n : Int) + (sp : Int)).toNat limits).down = false := rfl
  generalize Mem.new ((n : Int) + (sp : Int)).toNat limits = M0 at *
  refine lines_New.s hm (by unfold isI; omega) (by unfold isI; omega) (fun hh => absurd ⟨by omega, by omega, by omega, by omega, hdn, by rw [Int.toNat_natCast]; exact hLV.may⟩ hh) ?_
  intro _ H2 hL hk2 _
  rw [Int.toNat_natCast, Int.toNat_natCast] at hL
  rw [Option.isNone_some, if_neg (by simp)]
  refine ⟨by simp only [lim]; omega, ?_⟩
  rw [Int.toNat_natCast, zeroV, zeros_flat7]
  have lp := hL.m.lp
  have lc := hL.m.lc
  have lx := hL.lx
  have hk02 := hk.trans hk2
  have hK0 : K7 Hq (H2.push ⟨(List.replicate n (List.replicate 8 (0 : Int))).flatMap lineV, .rw, 8⟩) H1.size (Hq.size + 1) Hq.size n sp H2.size M0 (List.replicate n (List.replicate 8 0)) 0 := by
    refine ⟨hk02.push _, hL.push _, ⟨by rw [push_get, if_pos rfl], by simp [push_size], ?_⟩, by simp, ⟨by omega, by omega, by have := hk02.1; omega⟩, by omega, hLV, hcut, hdn, fun s hs => ?_⟩
    · intro l hl; rw [List.eq_of_mem_replicate hl]; exact zero_line
    · rw [hview s hs]; simp [List.getD_eq_getElem?_getD, hs]
  have hxq : Hq.size ≤ H1.size := hk.1
  generalize H2.size = o at *
  generalize H2.push ⟨(List.replicate n (List.replicate 8 (0 : Int))).flatMap lineV, .rw, 8⟩ = H3 at *
  generalize H1.size = x at *
  refine loopT_inv (t := (0 : Int)) (I := fun (t : Int) H' => ∃ i : Nat, t = (i : Int) ∧ i ≤ l.length ∧ ∃ M ws k, K7 Hq H' x (Hq.size + 1) Hq.size n sp o M ws k) (m := fun (t : Int) _ => Int.toNat ((l.length : Int) - t)) ?_ ⟨0, rfl, by omega, _, _, _, hK0⟩
  intro t H4 hI it hit
  obtain ⟨i, rfl, h2, M, ws, k, hK⟩ := hI
  unfold darninglaw7_LinesCut.l5
  simp only [bcase_eq, decide_eq_true_eq, hr.1, hN]
  have l4 := hK.l.lx
  have l4p := hK.l.m.lp
  have l4c := hK.l.m.lc
  have l4o := hK.w.lt
  have hlow := hK.low
  by_cases hlt : (i : Int) < (l.length : Int)
  · rw [if_pos hlt]
    obtain ⟨b, oo, ha, _, hrow⟩ := (hr.keep (hkq.trans hK.keeps)).at (show i < l.length by omega)
    refine ⟨by omega, ?_⟩
    rw [ha, onPtr_mk, Int.toNat_natCast, ldA_some hrow]
    have hcl := hok _ (List.getElem_mem (show i < l.length by omega))
    generalize l[i] = q at *
    refine new_put hcl rfl ?_
    intro hP1
    have hK5 := hK.push ⟨putV q, .rw, 0⟩
    rw [hP1.c0, elI_some, ldA_some hP1.row, wrap_i64 (n := (i : Int) + 1) (by omega) (by omega)]
    by_cases hin : 0 ≤ q.1 ∧ q.1 < n
    · obtain ⟨sl, hsl⟩ := Int.eq_ofNat_of_zero_le hin.1
      have hP := lput_any (d := q.2) hK.lv hK.rlen hK.up (by have := hK.cut; omega) (show sl < n by omega) hcl.line.1
      rw [← hsl] at hP
      refine lines_Put.g hK5.l hcl.line (Prod.eta _).symm ?_
      intro H6 hL6 f6
      have hP6 := hP1.keep (f6.get H4.size (by omega) (by omega))
      by_cases he : (lput n sp M q.1 q.2).2 = 0
      · rw [if_pos (by simpa using he), hP6.c0, elI_some, ldA_some hP6.row]
        obtain ⟨c1, k', hkk, hK7, hg⟩ := hK5.right hL6 f6 hcl.line (show sl < n by omega) hP he
        rw [hsl, Int.toNat_natCast, Int.toNat_natCast]
        refine ⟨by omega, ⟨lineV_len hcl.line.1, lineV_ok _⟩, stC_to c1 rfl ?_⟩
        exact hit _ _ ⟨i + 1, by simp, by omega, _, _, _, hK7⟩ (by omega)
      · rw [if_neg (by simpa using he)]
        obtain ⟨e3, hK7⟩ := hK5.worn hL6 f6 (show sl < n by omega) hP he
        exact hit _ _ ⟨i + 1, by simp, by omega, _, _, _, hK7⟩ (by omega)
    · refine lines_Put.g hK5.l hcl.line (lput_out hin) ?_
      intro H6 hL6 f6
      rw [if_neg (by simp)]
      exact hit _ _ ⟨i + 1, by simp, by omega, _, _, _, hK5.same hL6 f6⟩ (by omega)
  · rw [if_neg hlt]
    unfold darninglaw7_LinesCut.j4
    have hQ4 := hQ.keep (hK.keeps.2 H.size (by omega))
    rw [hQ4.c0, elI_some, hN, hS, wrap_u64 (n := (n : Int)) (by omega) (by omega)]
    refine ⟨by omega, ?_⟩
    have hw := umod (m := (n : Int)) (by omega) q0.1
    obtain ⟨sl, hsl⟩ := Int.eq_ofNat_of_zero_le hw.1
    rw [hsl, wrap_i64 (n := (sl : Int)) (by omega) (by omega)]
    have hsn : sl < n := by omega
    obtain ⟨ee, hge⟩ := hQ4.g
    have hput : AH.put H4 (Addr.add ⟨H.size, 0, none⟩ 0) [Value.int .i64 (sl : Int)] = H4.upd H.size ⟨putV ((sl : Int), q0.2), .rw, ee⟩ := by
      rw [addr_add]
      simp only [AH.put, hge, setMany, putV]
      rfl
    refine stC_to (by rw [addr_add]; exact ⟨rfl, congrArg AObj.md hge, by rw [hge, putV_len hq0]; simp⟩) hput ?_
    have hgo : ∀ b, b ≠ H.size → (H4.upd H.size ⟨putV ((sl : Int), q0.2), .rw, ee⟩).get b = H4.get b := fun b hb => by rw [upd_get, if_neg hb]
    have hQ5 : PutAt (H4.upd H.size ⟨putV ((sl : Int), q0.2), .rw, ee⟩) H.size ((sl : Int), q0.2) := ⟨⟨ee, by rw [upd_get, if_pos rfl]⟩, ⟨by unfold isI; simp only; omega, hq0.line⟩⟩
    have hL5 : LAt (H4.upd H.size ⟨putV ((sl : Int), q0.2), .rw, ee⟩) x (Hq.size + 1) Hq.size n sp M :=
      ⟨by rw [hgo _ (by omega)]; exact hK.l.hx, l4, hK.l.xp, hK.l.xc, hK.l.m.keep (Nat.le_refl _) (hgo _ (by omega)) (hgo _ (by omega)), hK.l.len, hK.l.n1, hK.l.sp16⟩
    have hW5 : WantAt (H4.upd H.size ⟨putV ((sl : Int), q0.2), .rw, ee⟩) o ws := hK.w.keep (hgo _ (by omega)) (Nat.le_refl _)
    have hs5 : (H4.upd H.size ⟨putV ((sl : Int), q0.2), .rw, ee⟩).size = H4.size := rfl
    generalize H4.upd H.size ⟨putV ((sl : Int), q0.2), .rw, ee⟩ = H5 at *
    refine ⟨by decide, ?_⟩
    rw [wrap_i64 (n := Int.tmod (IntKind.wrap .u64 x5) 8) (by omega) (by omega)]
    refine nvm_Memory_Cut.g hL5.m (by omega) ?_
    intro H6 hm6 f6
    have hL6 : LAt H6 x (Hq.size + 1) Hq.size n sp (M.setCut (Int.tmod (IntKind.wrap .u64 x5) 8) mask) := ⟨by rw [f6.get _ hL5.xp hL5.xc, hL5.hx], by rw [f6.size]; exact hL5.lx, hL5.xp, hL5.xc, hm6, hL5.len, hL5.n1, hL5.sp16⟩
    have hQ6 := hQ5.keep (f6.get H.size (by omega) (by omega))
    have hW6 := hW5.keep (f6.get o (by have := hK.op; omega) (by have := hK.op; omega)) (by rw [f6.size]; exact Nat.le_refl _)
    rw [hQ6.c0, elI_some, ldA_some hQ6.row]
    have hlv6 : LV (M.setCut (Int.tmod (IntKind.wrap .u64 x5) 8) mask) n sp k := hK.lv.same rfl rfl
    have hP := lput_any (d := q0.2) hlv6 hK.rlen hK.up (by simp only [Mem.setCut]; omega) hsn hq0.line.1
    refine lines_Put.g hL6 hq0.line (Prod.eta _).symm ?_
    intro H7 hL7 f7
    simp only
    generalize lput n sp (M.setCut (Int.tmod (IntKind.wrap .u64 x5) 8) mask) (sl : Int) q0.2 = R at *
    have hQ7 := hQ6.keep (f7.get H.size (by omega) (by omega))
    have hW7 := hW6.keep (f7.get o (by have := hK.op; omega) (by have := hK.op; omega)) (by rw [f7.size]; exact Nat.le_refl _)
    refine nvm_Memory_Power.g hL7.m ?_
    intro H8 hm8 f8
    have hQ8 := hQ7.keep (f8.get H.size (by omega) (by omega))
    have hW8 := hW7.keep (f8.get o (by have := hK.op; omega) (by have := hK.op; omega)) (by rw [f8.size]; exact Nat.le_refl _)
    obtain ⟨⟨k', hk', hlv7, he3⟩, p2, p3, p4, p5, p6, p7, p8⟩ := hP
    simp only [view_setCut] at p2 p6
    have hlv8 : LV R.1.power n sp k' := hlv7.same rfl rfl
    have hlen8 := hlv8.len
    have hs8 : H8.size = H4.size := by rw [f8.size, f7.size, f6.size, hs5]
    refine lines_New.s hm8 (by unfold isI; omega) (by unfold isI; omega) (fun hh => absurd ⟨by omega, by omega, by omega, by omega, rfl, by rw [Int.toNat_natCast]; exact hlv8.may⟩ hh) ?_
    intro _ H9 hL9 hk9 _
    rw [Int.toNat_natCast, Int.toNat_natCast] at hL9
    rw [Option.isNone_some, bcase_false]
    have hQ9 := hQ8.keep (hk9.2 H.size (by omega))
    have hW9 := hW8.keep (hk9.2 o (by omega)) hk9.1
    have hv := hK.view
    refine loopT_inv (t := ((false, (0 : Int)) : Bool × Int)) (I := fun (t : Bool × Int) H' => ∃ s : Nat, t.2 = (s : Int) ∧ s ≤ n ∧ Keeps H9 H') (m := fun (t : Bool × Int) _ => Int.toNat ((n : Int) - t.2)) ?_ ⟨0, rfl, by omega, Keeps.refl _⟩
    intro t H10 hI it2 hit2
    obtain ⟨t1, t2⟩ := t
    obtain ⟨s, h1, h2, hk10⟩ := hI
    simp only at h1
    subst h1
    have l9 := hL9.lx
    by_cases hs : s < n
    · have hL10 := hL9.keeps hk10
      have hQ10 := hQ9.keep (hk10.2 H.size (by have := hk9.1; omega))
      have hW10 := hW9.keep (hk10.2 o (by have := hk9.1; omega)) hk10.1
      refine LinesCut_line (sp := sp) (M := R.1.power) (ws := ws) (d := q0.2) (sl := sl) hN hn1.2 hs hL10 rfl rfl hW10 hK.wl hQ10 (by have := hk10.1; have := hk9.1; omega) ?_ ?_ ?_
      · intro hne
        rw [view_power, p2 s hs hne, hv s hs]
      · rintro rfl
        rw [view_power, ← hv s hs]
        rcases p6 with ⟨a, _, hh⟩ | ⟨a, _, hh⟩ | ⟨a, _, _, hh⟩
        · refine ⟨fun _ => hh, fun h3 => by omega, by rw [hh]; exact could_new⟩
        · refine ⟨fun h0 => by omega, fun _ => hh, by rw [hh]; exact could_old⟩
        · refine ⟨fun h0 => by omega, fun h3 => by omega, ?_⟩
          rcases hh with hh | hh | hh
          · rw [hh]; exact could_old
          · rw [hh]; exact could_new
          · rw [hh]
            refine could_mix ?_ hq0.line
            rw [hv s hs]; exact hK.w.line (by rw [hK.wl]; exact hs)
      · intro H' hk'
        exact hit2 _ _ ⟨s + 1, by simp, by omega, hk10.trans hk'⟩ (by simp only; omega)
    · unfold darninglaw7_LinesCut.l3
      simp only [hN, Int.toNat_natCast]
      rw [show decide ((s : Int) < (n : Int)) = false from by simp; omega, bcase_false]
      unfold darninglaw7_LinesCut.j1
      simp only [bcase_eq, beq_iff_eq]
      have fin : darninglaw7_awake H10 fun b189 H189 => b189 = true := darninglaw7_awake.s rfl
      rcases p6 with ⟨a, _⟩ | ⟨a, _⟩ | ⟨a, _⟩
      · rw [if_pos a]; exact fin
      · rw [if_neg (by omega), if_pos a]; exact fin
      · rw [if_neg (by omega), if_neg (by omega), if_pos a]; exact fin
end
end Go.Proofs.Ytomeldimnhapfaa
