import Derived.Test.YtgechnnadjonaaaN20
set_option linter.all false
set_option linter.all false
namespace Go.Proofs.Ytgechnnadjonaaa
open Go Go.Abs

section
variable {H : AH}
theorem darninglaw12_LogFound.t {x0 x1 x2 : Int} {x3 : Sl} {L : List (Sl × List (Int × List Int))} (_ : (Lit.int .i64 x0).wf = true) (_ : (Lit.int .i64 x1).wf = true) (_ : (Lit.int .i64 x2).wf = true)
    (hr : RR H x3 L) (_ : L.length ≤ maxLen) : darninglaw12_LogFound x0 x1 x2 x3 H (fun r _ => r = true) := by
  refine darninglaw12_LogFound.link ?_
  unfold darninglaw12_LogFound.b
  refine darninglaw12_heavy.s hr ?_
  intro rv hlight
  by_cases c0 : rv > 0
  · rw [decide_eq_true c0, bcase_true]; exact darninglaw12_awake.s rfl
  rw [decide_eq_false c0, bcase_false]
  obtain ⟨hL, _, hL2⟩ := hlight (by omega)
  clear hlight
  refine darninglaw12_sized.s ?_
  intro nn sp per hnn hsp hper _ _
  refine darninglaw12_made.s (limits := []) rows_nil ⟨by omega, by omega⟩ hsp ⟨by omega, by omega⟩ ?_
  intro H1 g t x hG hk hg ht hx
  rw [Option.isNone_some, bcase_false]
  refine ⟨by simp only [lim]; omega, ?_⟩
  rw [newC_eq, Int.toNat_natCast, zeroV, zeros_flat7]
  have hK0 := KL.new hnn.1 hsp hk hG (by omega) (by omega) (by omega) rfl
  have hS0 : Sd (16 + nn) sp (Mem.new (16 + nn + 1 + sp) []) (List.replicate nn (List.replicate 8 (0 : Int))) := sd_new hnn.1 hsp
  have hN0 : NL (Mem.new (16 + nn + 1 + sp) []) := NL.new
  have hc0 : commits (Mem.new (16 + nn + 1 + sp) []) = 0 := rfl
  have ho : H.size + 1 < H1.size := by have := hG.tn.l.m.lp; omega
  generalize Mem.new (16 + nn + 1 + sp) [] = M0 at *
  generalize H1.size = o at *
  generalize H1.push ⟨(List.replicate nn (List.replicate 8 (0 : Int))).flatMap lineV, .rw, 8⟩ = H2 at *
  refine loopT_inv (t := ((false, some ⟨g, 0, none⟩, (0 : Int)) : Bool × Option Addr × Int)) (I := fun (t' : Bool × Option Addr × Int) H' => ∃ i : Nat, t'.2.2 = (i : Int) ∧ i ≤ L.length ∧ ∃ g t x M ws puts, t'.2.1 = some ⟨g, 0, none⟩ ∧ KL H H' g t x (H.size + 1) H.size nn sp per puts o M ws (40 * i) ∧ Sd (16 + nn) sp M ws ∧ NL M ∧ commits M = 0) (m := fun (t' : Bool × Option Addr × Int) _ => Int.toNat ((L.length : Int) - t'.2.2)) ?_ ⟨0, rfl, by omega, g, t, x, M0, _, 0, rfl, hK0, hS0, hN0, hc0⟩
  clear hK0 hS0 hN0 hc0 hG hg ht hx hk
  clear g t x
  intro t' H4 hI it hit
  obtain ⟨u1, up, u2⟩ := t'
  obtain ⟨i, h1, hi, g, t, x, M, ws, puts, hp, hK, hS, hN, hc⟩ := hI
  simp only at h1 hp
  subst h1 hp
  unfold darninglaw12_LogFound.l7
  rw [hr.1.1]
  dsimp only
  by_cases hlt : (i : Int) < (L.length : Int)
  rotate_left 1
  · rw [decide_eq_false hlt, bcase_false]
    unfold darninglaw12_LogFound.j1
    exact darninglaw12_awake.s rfl
  rw [decide_eq_true hlt, bcase_true]
  have hi' : i < L.length := by omega
  obtain ⟨b, oo, ha, _, hcell⟩ := (hr.keep hK.keeps).at hi'
  refine ⟨by omega, ?_⟩
  rw [ha, onPtr_mk, Int.toNat_natCast, hcell, show elL (some (Sl.val L[i].1)) _ = _ from propext (elL_some _ _ _ _)]
  have hRl := (hr.2 _ (List.getElem_mem hi')).1
  have hok := (hr.2 _ (List.getElem_mem hi')).2
  have hln := hL2 _ (List.getElem_mem hi')
  show log_Log_Commit _ _ _ _
  have ep : (⟨L[i].1.a, L[i].1.n, L[i].1.k⟩ : Sl) = L[i].1 := rfl
  rw [ep]
  generalize L[i] = E at *
  obtain ⟨s, l⟩ := E
  simp only at hRl hok hln ⊢
  have hup := hK.calm.up
  have hcut := hK.calm.cut
  have hcom := com_any (l := l) hK.calm.ps (by omega) hup (by omega) hok (by rw [hK.wl]; omega) hS
  have hps' := hK.calm.ps.com (by omega) (by omega) hok
  have hN' := (hN.com (n := 16 + nn) (sp := sp) (per := per) (pt := puts) (l := l)).2
  have hone := fun hm => com_nl (l := l) hK.calm.ps hN (by omega) hup hcut (by omega) hok hm hc
  have hnot : ¬ MayL ((16 + nn : Nat) : Int) l → comN (16 + nn) sp per l M puts = (M, puts, 1) := fun hm => by unfold comN; rw [if_pos hm]
  refine log_Commit.s hK.gat hK.calm.ps (by omega) (hRl.keep hK.keeps) hok (by omega) ?_ ?_
  · intro h0 bb hbb
    obtain ⟨b2, o2, ha2, hlt2, _⟩ := hRl.at h0
    rw [ha2] at hbb
    simp at hbb
    have := hK.low
    omega
  intro H5 hG5 f5 _
  by_cases hm : MayL ((16 + nn : Nat) : Int) l
  rotate_left 1
  · rw [hnot hm] at hG5 ⊢
    simp only at hG5 ⊢
    rw [show ((1 : Int) != 0) = true from rfl, bcase_true, wrap_i64 (n := (i : Int) + 1) (by omega) (by omega)]
    have hK5 := hK.step hG5 ⟨hK.calm.ps.mono (b := 40 * i + 40) (by omega), hup, hcut⟩ f5
    exact hit _ _ ⟨i + 1, by simp, by omega, g, t, x, M, ws, puts, rfl, hK5, hS, hN, hc⟩ (by simp only; omega)
  obtain ⟨n1, n2⟩ := hone hm
  have hcut' := hcom.2 hcut
  have hS' : Sd (16 + nn) sp (comN (16 + nn) sp per l M puts).1 (upd ws l) ∧ (comN (16 + nn) sp per l M puts).1.down = false := by
    rcases hcom.1 with ⟨_, ⟨a, _⟩ | ⟨a, _⟩⟩ | ⟨_, _, a, ⟨_, b⟩ | ⟨b, _⟩⟩
    · exact absurd n1 a
    · omega
    · exact ⟨a, b⟩
    · omega
  clear hcom hone hnot
  generalize comN (16 + nn) sp per l M puts = R at *
  obtain ⟨M5, p5, r5⟩ := R
  simp only at hG5 hS' hcut' hN' n1 n2 hps' ⊢
  have hK5 := hK.step hG5 ⟨hps', hS'.2, hcut'⟩ f5
  rw [n1, show ((0 : Int) != 0) = false from rfl, bcase_false]
  -- what is wanted
  refine loopT_inv (t := (0 : Int)) (I := fun (t1 : Int) H' => ∃ j : Nat, t1 = (j : Int) ∧ j ≤ l.length ∧ KL H H' g t x (H.size + 1) H.size nn sp per p5 o M5 (upd ws (l.take j)) (40 * i + 40)) (m := fun (t : Int) _ => Int.toNat ((l.length : Int) - t)) ?_ ⟨0, rfl, by omega, hK5⟩
  intro t1 H7 hI it2 hit2
  obtain ⟨j, rfl, hj, hK7⟩ := hI
  unfold darninglaw12_LogFound.l6
  simp only [bcase_eq, decide_eq_true_eq, hRl.1, Int.toNat_natCast]
  by_cases hjl : (j : Int) < (l.length : Int)
  · rw [if_pos hjl]
    have hj' : j < l.length := by omega
    obtain ⟨b, oo, ha, _, hrow⟩ := (hRl.keep hK7.keeps).at hj'
    refine ⟨by omega, ?_⟩
    rw [ha, onPtr_mk, ldA_some hrow]
    have hcl := hok _ (List.getElem_mem hj')
    have hrg := may_range hm (List.getElem_mem hj')
    have hut := upd_take hj' (ws := ws)
    generalize l[j] = q at *
    refine new_put hcl rfl ?_
    intro hQ
    have hK8 := hK7.push ⟨putV q, .rw, 0⟩
    rw [hQ.c0, elI_some, ldA_some hQ.row, wrap_i64 (n := q.1 - 16) (by omega) (by omega)]
    obtain ⟨w1, hK9⟩ := hK8.want (i := (q.1 - 16).toNat) (by omega) hcl.line
    refine ⟨by omega, ⟨lineV_len hcl.line.1, lineV_ok _⟩, w1, ?_⟩
    rw [wrap_i64 (n := (j : Int) + 1) (by omega) (by omega)]
    refine hit2 _ _ ⟨j + 1, by simp, by omega, ?_⟩ (by omega)
    rw [hut]
    exact hK9
  rw [if_neg hjl]
  rw [List.take_of_length_le (by omega)] at hK7
  -- found anew
  unfold darninglaw12_LogFound.j5
  obtain ⟨k0, hlv⟩ := hps'.lv
  have hmv := hps'.mv
  have hlow := hK7.low
  have hop := hK7.op
  refine darninglaw12_over.s hK7.gat.tn.l.m ⟨by omega, by omega⟩ hsp ⟨by omega, by omega⟩ hS'.2 hlv (by omega) ?_
  intro H8 g' t2 x' hG8 hk8 hg8 ht8 hx8
  refine nvm_Memory_Writes.s hG8.tn.l.m ?_
  rw [Option.isNone_some, bcase_false]
  have holt := hK7.w.lt
  have hk7 := hK7.keeps.1
  have hps0 : PSt (16 + nn) sp per M5 0 (40 * i + 40) (16 + nn + 1 + sp) := hG8.pst hlv hmv
  have hK8 : KL H H8 g' t2 x' (H.size + 1) H.size nn sp per 0 o M5 (upd ws l) (40 * i + 40) :=
    ⟨hK7.keeps.trans hk8, hG8, ⟨hps0, hS'.2, hcut'⟩, hK7.w.keep (hk8.2 o holt) hk8.1, hK7.wl, ⟨by omega, by omega, by omega, by omega, by omega, by omega⟩, ⟨by omega, by omega, by omega, by omega, by omega⟩⟩
  have hrec : recN (16 + nn) sp per M5 0 = (M5, 0, 0) := by
    have hh : homesN (16 + nn) sp M5 = ([], 0) := by unfold homesN; rw [if_neg (by simp [hS'.2]), n2, if_neg (by omega)]; rfl
    unfold recN
    rw [hh, if_neg (by simp), if_pos (by rfl)]
  refine log_Recover.s hG8 hps0 (by omega) ?_
  intro H9 hG9 f9 _
  rw [hrec] at hG9 ⊢
  simp only at hG9 ⊢
  have hK9 := hK8.step hG9 ⟨hps0, hS'.2, hcut'⟩ f9
  rw [show ((0 : Int) != 0) = false from rfl, bcase_false]
  refine nvm_Memory_Writes.s hG9.tn.l.m ?_
  rw [show (M5.writes != M5.writes) = false by simp, bcase_false]
  refine log_Pending.s hG9 ?_
  rw [decide_eq_false (fun hh => hh.2 n2)]
  unfold darninglaw12_LogFound.j4
  rw [bcase_false]
  refine loopT_inv (I := fun (t1 : Bool × Int) H' => ∃ s : Nat, t1.2 = (s : Int) ∧ s ≤ nn ∧ KL H H' g' t2 x' (H.size + 1) H.size nn sp per 0 o M5 (upd ws l) (40 * i + 40)) (m := fun (t : Bool × Int) _ => Int.toNat ((nn : Int) - t.2)) ?_ ⟨0, rfl, by omega, hK9⟩
  intro t3 H10 hI it3 hit3
  obtain ⟨t3', t3''⟩ := t3
  obtain ⟨s3, h1, h2, hK10⟩ := hI
  simp only at h1
  subst h1
  unfold darninglaw12_LogFound.l3
  simp only [bcase_eq, decide_eq_true_eq, Int.toNat_natCast]
  by_cases hs : (s3 : Int) < (nn : Int)
  · rw [if_pos hs]
    have hw := hK10.wl
    have hline := hK10.w.line (i := s3) (by omega)
    refine ⟨by omega, ?_⟩
    rw [ldA_some (hK10.w.row (by omega)), zeroV]
    refine new_line hline ?_
    have hK11 := hK10.push ⟨lineV ((upd ws l).getD s3 []), .rw, 0⟩
    rw [wrap_i64 (n := 16 + (s3 : Int)) (by omega) (by omega)]
    refine log_Get.s hK11.gat (by unfold isI; omega) ?_
    have := sd_get (nn := nn) rfl (by omega) hS'.2 hS'.1 (i := s3) (by omega)
    rw [show ((16 + s3 : Nat) : Int) = 16 + (s3 : Int) by omega] at this
    rw [this]
    refine new_line hline ?_
    rw [if_neg (by simp), ldA_some (line_new hline), ldA_some (by rw [row_push (by simp [push_size])]; exact line_new hline), eq_line hline hline, beq_self_eq_true]
    unfold darninglaw12_LogFound.j2
    rw [Bool.not_true, bcase_false, wrap_i64 (n := (s3 : Int) + 1) (by omega) (by omega)]
    exact hit3 _ _ ⟨s3 + 1, by simp, by omega, hK11.push _⟩ (by simp only; omega)
  · rw [if_neg hs, wrap_i64 (n := (i : Int) + 1) (by omega) (by omega)]
    exact hit _ _ ⟨i + 1, by simp, by omega, g', t2, x', M5, upd ws l, 0, rfl, hK10, hS'.1, hN', n2⟩ (by simp only; omega)
theorem darninglaw12_LogFound.u {x0 x1 x2 : Int} {x3 : Sl} {L : List (Sl × List (Int × List Int))} (h0 : (Lit.int .i64 x0).wf = true) (h1 : (Lit.int .i64 x1).wf = true) (h2 : (Lit.int .i64 x2).wf = true)
    (hr : Abs.Rows H x3 1 slV L) (ho : ∀ q ∈ L, SlOK putV putOK 9 H q) (hl : L.length ≤ maxLen) : darninglaw12_LogFound x0 x1 x2 x3 H (fun r _ => r = true) := darninglaw12_LogFound.t h0 h1 h2 ⟨hr, ho⟩ hl
end
end Go.Proofs.Ytgechnnadjonaaa
