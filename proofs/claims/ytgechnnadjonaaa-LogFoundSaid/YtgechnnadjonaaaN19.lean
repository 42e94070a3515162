import Derived.Test.YtgechnnadjonaaaN18
set_option linter.all false
set_option linter.all false
namespace Go.Proofs.Ytgechnnadjonaaa
open Go Go.Abs

section
variable {H : AH}
theorem sd_new {nn sp : Nat} {limits : List Int} (hnn : 1 ≤ nn) (hsp : sp ≤ 16) : Sd (16 + nn) sp (Mem.new (16 + nn + 1 + sp) limits) (List.replicate nn (List.replicate 8 (0 : Int))) := by
  refine .inl ⟨rfl, fun s h1 h2 => ?_⟩
  have hzero : ∀ i, i < sp → (Mem.new (16 + nn + 1 + sp) limits).whose i = 0 := fun i hi => whose_new (by omega)
  unfold Mem.tview
  have hsl := slotN_le (mv := (Mem.new (16 + nn + 1 + sp) limits).mv) (line := s) (n := 16 + nn) (by omega)
  rw [view_zero hzero, Mem.new_cl (by omega)]
  show List.replicate 8 (0 : Int) = _
  rw [List.getD_eq_getElem?_getD, List.getElem?_replicate, if_pos (by omega)]; rfl

theorem may_one {n : Nat} {i : Nat} {d : List Int} (hi : 16 ≤ i ∧ i < n) : MayL n [((i : Int), d)] := by
  refine ⟨by omega, by simp, by simp, fun j hj => ?_⟩
  have : j = 0 := by simpa using hj
  subst this
  have e : lnAt [((i : Int), d)] 0 = (i : Int) := rfl
  rw [e]
  exact ⟨by omega, by omega, fun j hj => by omega⟩

theorem darninglaw12_LogOne.t {x0 x1 x3 : Int} {x2 : Sl} {l : List (Int × List Int)} (_ : (Lit.int .i64 x0).wf = true) (_ : (Lit.int .i64 x1).wf = true) (hr : Abs.Rows H x2 9 putV l) (hok : ∀ q ∈ l, putOK q) (_ : l.length ≤ maxLen) (_ : (Lit.int .i64 x3).wf = true) : darninglaw12_LogOne x0 x1 x2 x3 H (fun r _ => r = true) := by
  refine darninglaw12_LogOne.link ?_
  unfold darninglaw12_LogOne.b
  rw [hr.1]
  by_cases c1 : (l.length : Int) > 60
  · rw [decide_eq_true c1, bcase_true]; exact darninglaw12_awake.s rfl
  rw [decide_eq_false c1, bcase_false]
  refine darninglaw12_sized.s ?_
  intro nn sp0 per hnn _ hper _ _
  refine darninglaw12_made.s (sp := 0) (limits := []) rows_nil ⟨by omega, by omega⟩ (by omega) ⟨by omega, by omega⟩ ?_
  intro H1 g t x hG hk hg ht hx
  rw [Option.isNone_some, bcase_false]
  refine ⟨by simp only [lim]; omega, ?_⟩
  rw [newC_eq, Int.toNat_natCast, zeroV, zeros_flat7]
  have hK0 := KL.new hnn.1 (by omega) hk hG (by omega) (by omega) (by omega) rfl
  have hS0 : Sd (16 + nn) 0 (Mem.new (16 + nn + 1 + 0) []) (List.replicate nn (List.replicate 8 (0 : Int))) := sd_new hnn.1 (by omega)
  have hN0 : NL (Mem.new (16 + nn + 1 + 0) []) := NL.new
  have hc0 : commits (Mem.new (16 + nn + 1 + 0) []) = 0 := rfl
  generalize Mem.new (16 + nn + 1 + 0) [] = M0 at *
  generalize H1.size = o at *
  generalize H1.push ⟨(List.replicate nn (List.replicate 8 (0 : Int))).flatMap lineV, .rw, 8⟩ = H2 at *
  have hU : IntKind.wrap .u64 (nn : Int) = (nn : Int) := wrap_u64 (by omega) (by omega)
  refine loopT_inv (t := ((false, (0 : Int)) : Bool × Int)) (I := fun (t' : Bool × Int) H' => ∃ i : Nat, t'.2 = (i : Int) ∧ i ≤ l.length ∧ ∃ M ws puts, KL H H' g t x (H.size + 1) H.size nn 0 per puts o M ws (40 * i) ∧ Sd (16 + nn) 0 M ws ∧ NL M ∧ commits M = 0) (m := fun (t' : Bool × Int) _ => Int.toNat ((l.length : Int) - t'.2)) ?_ ⟨0, rfl, by omega, M0, _, 0, hK0, hS0, hN0, hc0⟩
  intro t' H4 hI it hit
  obtain ⟨u1, u2⟩ := t'
  obtain ⟨i, h1, hi, M, ws, puts, hK, hS, hN, hc⟩ := hI
  simp only at h1
  subst h1
  unfold darninglaw12_LogOne.l3
  rw [hr.1, hU]
  by_cases hlt : (i : Int) < (l.length : Int)
  rotate_left 1
  · rw [decide_eq_false hlt, bcase_false]
    unfold darninglaw12_LogOne.j1
    rw [hU]
    have hx3 := umod (m := (nn : Int)) (by omega) x3
    obtain ⟨s, hs⟩ := Int.eq_ofNat_of_zero_le hx3.1
    rw [hs, wrap_i64 (n := (s : Int)) (by omega) (by omega), wrap_i64 (n := 16 + (s : Int)) (by omega) (by omega), show 16 + (s : Int) = ((16 + s : Nat) : Int) by omega]
    refine ⟨by omega, ?_⟩
    refine log_Get.s hK.gat (by unfold isI; omega) ?_
    rw [sd_get rfl (by omega) hK.calm.up hS (by omega), zeroV]
    have hw := hK.wl
    have hline := hK.w.line (i := s) (by omega)
    refine new_line hline ?_
    have hK8 := hK.push ⟨lineV (ws.getD s []), .rw, 0⟩
    rw [show ((0 : Int) == 0) = true from rfl, bcase_true, ldA_some (line_new hline)]
    refine ⟨by simp only [Int.toNat_natCast]; omega, ?_⟩
    rw [Int.toNat_natCast, ldA_some (hK8.w.row (by omega)), eq_line hline hline, beq_self_eq_true, bcase_true]
    have hrec : recN (16 + nn) 0 per M puts = (M, puts, 0) := by
      have hh : homesN (16 + nn) 0 M = ([], 0) := by unfold homesN; rw [if_neg (by simp [hK.calm.up]), hc, if_neg (by omega)]; rfl
      unfold recN
      rw [hh, if_neg (by simp), if_pos (by rfl)]
    refine log_Recover.s hK8.gat hK8.calm.ps (by omega) ?_
    intro H9 _ _ _
    rw [hrec]
    rw [show ((0 : Int) == 0) = true from rfl, bcase_true]
    exact darninglaw12_awake.s rfl
  rw [decide_eq_true hlt, bcase_true]
  have hi' : i < l.length := by omega
  obtain ⟨b, oo, ha, _, hrow⟩ := (hr.keep hK.keeps).at hi'
  refine ⟨by omega, ?_⟩
  rw [ha, onPtr_mk, Int.toNat_natCast, ldA_some hrow]
  have hcl := hok _ (List.getElem_mem hi')
  generalize l[i] = q at *
  refine new_put hcl rfl ?_
  intro hQ
  rw [hQ.c0, elI_some]
  have hq := umod (m := (nn : Int)) (by omega) q.1
  obtain ⟨s, hs⟩ := Int.eq_ofNat_of_zero_le hq.1
  rw [hs, wrap_i64 (n := (s : Int)) (by omega) (by omega), wrap_i64 (n := 16 + (s : Int)) (by omega) (by omega), show 16 + (s : Int) = ((16 + s : Nat) : Int) by omega]
  refine ⟨by omega, new_put0 hcl ?_⟩
  have hcl' : putOK (((16 + s : Nat) : Int), q.2) := ⟨by unfold isI; simp only; omega, hcl.line⟩
  have hK5 := hK.push ⟨putV (((16 + s : Nat) : Int), q.2), .rw, 0⟩
  have hQ5 : PutAt (H4.push ⟨putV (((16 + s : Nat) : Int), q.2), .rw, 0⟩) H4.size (((16 + s : Nat) : Int), q.2) := ⟨⟨0, by rw [push_get, if_pos rfl]⟩, hcl'⟩
  have hrow5 : AH.row? (H4.push ⟨putV (((16 + s : Nat) : Int), q.2), .rw, 0⟩) ⟨H4.size, 0, none⟩ 9 = some (putV (((16 + s : Nat) : Int), q.2)) := row_new (putV_len hcl') (putV_ok _)
  have hs5 : (H4.push ⟨putV (((16 + s : Nat) : Int), q.2), .rw, 0⟩).size = H4.size + 1 := by simp [push_size]
  rw [ldA_some hrow5]
  refine ⟨putV_len hcl', ?_⟩
  rw [newC_eq, putV_over hcl'.line]
  have hk4 := hK.keeps.1
  have lg4 := hK.gat.lg
  have lt4 := hK.gat.tn.lt
  have lp4 := hK.gat.tn.l.m.lp
  have lc4 := hK.gat.tn.l.m.lc
  have ho4 := hK.w.lt
  generalize H4.push ⟨putV (((16 + s : Nat) : Int), q.2), .rw, 0⟩ = H5 at *
  have hK6 := hK5.push ⟨putV (((16 + s : Nat) : Int), q.2), .rw, 9⟩
  have hQ6 : PutAt (H5.push ⟨putV (((16 + s : Nat) : Int), q.2), .rw, 9⟩) H4.size (((16 + s : Nat) : Int), q.2) := hQ5.keep (push_get_ne (by omega))
  have hokl : ∀ q' ∈ [(((16 + s : Nat) : Int), q.2)], putOK q' := fun q' hq' => by
    simp only [List.mem_cons, List.not_mem_nil, or_false] at hq'; subst hq'; exact hcl'
  have hR : Abs.Rows (H5.push ⟨putV (((16 + s : Nat) : Int), q.2), .rw, 9⟩) ⟨some ⟨H5.size, 0, none⟩, 1, 1⟩ 9 putV [(((16 + s : Nat) : Int), q.2)] := lit_rows (l := [(((16 + s : Nat) : Int), q.2)]) hokl (by simp [push_size]) (by rw [push_get, if_pos rfl]; simp)
  have hmay : MayL ((16 + nn : Nat) : Int) [(((16 + s : Nat) : Int), q.2)] := may_one (by omega)
  obtain ⟨n1, n2⟩ := com_nl hK.calm.ps hN (by omega) hK.calm.up hK.calm.cut (by omega) hokl hmay hc
  obtain ⟨c1', c2'⟩ := com_any hK.calm.ps (by omega) hK.calm.up (by omega) hokl (by rw [hK.wl]; omega) hS
  have hps' := hK.calm.ps.com (by omega) (by omega) hokl
  have hN' := (hN.com (n := 16 + nn) (sp := 0) (per := per) (pt := puts) (l := [(((16 + s : Nat) : Int), q.2)])).2
  have hcut' := c2' hK.calm.cut
  refine log_Commit.s hK6.gat hK6.calm.ps (by omega) hR hokl (by simp) ?_ ?_
  · intro _ b hb
    simp at hb; subst hb; omega
  intro H7 hG7 f7 _
  have hS' : Sd (16 + nn) 0 (comN (16 + nn) 0 per [(((16 + s : Nat) : Int), q.2)] M puts).1 (ws.set s q.2) ∧ (comN (16 + nn) 0 per [(((16 + s : Nat) : Int), q.2)] M puts).1.down = false := by
    have e : upd ws [(((16 + s : Nat) : Int), q.2)] = ws.set s q.2 := by
      unfold upd
      simp only [List.foldl_cons, List.foldl_nil]
      rw [show (((16 + s : Nat) : Int) - 16).toNat = s by omega]
    rcases c1' with ⟨_, ⟨a, _⟩ | ⟨a, _⟩⟩ | ⟨_, _, a, ⟨_, b⟩ | ⟨b, _⟩⟩
    · exact absurd n1 a
    · omega
    · rw [← e]; exact ⟨a, b⟩
    · omega
  generalize comN (16 + nn) 0 per [(((16 + s : Nat) : Int), q.2)] M puts = R at *
  have hC' : Calm (16 + nn) 0 per R.1 R.2.1 (40 * i + 40) (16 + nn + 1 + 0) := ⟨hps', hS'.2, hcut'⟩
  have hK7 := hK6.step hG7 hC' f7
  have hQ7 := hQ6.keep (f7.get H4.size (by simp [push_size]; omega) (by omega) (by omega) (by omega))
  rw [n1, show ((0 : Int) != 0) = false from rfl, bcase_false]
  refine log_Pending.s hK7.gat ?_
  rw [decide_eq_false (fun hh => hh.2 n2)]
  unfold darninglaw12_LogOne.j2
  rw [bcase_false, hQ7.c0, elI_some, ldA_some hQ7.row]
  rw [show ((16 + s : Nat) : Int) - 16 = (s : Int) by omega, wrap_i64 (n := (s : Int)) (by omega) (by omega), Int.toNat_natCast]
  obtain ⟨w1, hK9⟩ := hK7.want (i := s) (by omega) hcl.line
  refine ⟨by omega, ⟨lineV_len hcl.line.1, lineV_ok _⟩, w1, ?_⟩
  rw [wrap_i64 (n := (i : Int) + 1) (by omega) (by omega)]
  exact hit _ _ ⟨i + 1, by simp, by omega, R.1, _, R.2.1, hK9, hS'.1, hN', n2⟩ (by simp only; omega)
end
end Go.Proofs.Ytgechnnadjonaaa
