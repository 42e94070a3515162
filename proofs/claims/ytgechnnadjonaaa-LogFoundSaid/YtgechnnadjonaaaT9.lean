import Derived.Test.YtgechnnadjonaaaT8
set_option linter.all false
set_option linter.all false
namespace Go.Proofs.Ytgechnnadjonaaa
open Go Go.Abs

section
variable {H : AH}

theorem wf_u64' {x : Int} (h : (Lit.int .u64 x).wf = true) : 0 ≤ x ∧ x < 18446744073709551616 := by
  have := wf_u64 h
  unfold isU at this; omega

theorem darninglaw9_TurnFrom.t {x0 x1 x2 : Int} {d : List Int} (_ : (Lit.int .i64 x0).wf = true) (hx1 : (Lit.int .u64 x1).wf = true) (_ : (Lit.int .i64 x2).wf = true) (hd : isLine d) : darninglaw9_TurnFrom x0 x1 x2 (lineV d) H (fun r _ => r = true) := by
  refine darninglaw9_TurnFrom.link ?_
  unfold darninglaw9_TurnFrom.b
  simp only [bcase_eq, decide_eq_true_eq]
  rw [newC_eq]
  have hrow : AH.row? (H.push ⟨lineV d, .rw, 0⟩) ⟨H.size, 0, none⟩ 8 = some (lineV d) := line_new hd
  have hkq : Keeps H (H.push ⟨lineV d, .rw, 0⟩) := (Keeps.refl H).push _
  have hsq : H.size < (H.push ⟨lineV d, .rw, 0⟩).size := by simp [push_size]
  have hg7 : (H.push ⟨lineV d, .rw, 0⟩).get H.size = ⟨lineV d, .rw, 0⟩ := by rw [push_get, if_pos rfl]
  generalize H.push ⟨lineV d, .rw, 0⟩ = Hq at *
  have hx := umod (m := 20) (by omega) x0
  refine ⟨by decide, by decide, ?_⟩
  have e0 := wrap_i64 (n := Int.tmod (IntKind.wrap .u64 x0) 20) (by omega) (by omega)
  obtain ⟨n, hn⟩ := Int.eq_ofNat_of_zero_le (show 0 ≤ 1 + Int.tmod (IntKind.wrap .u64 x0) 20 by omega)
  have hN : IntKind.wrap .i64 (1 + IntKind.wrap .i64 (Int.tmod (IntKind.wrap .u64 x0) 20)) = (n : Int) := by rw [e0, wrap_i64 (by omega) (by omega), hn]
  have hn1 : 1 ≤ n ∧ n ≤ 20 := by omega
  have hU : IntKind.wrap .u64 (n : Int) = (n : Int) := wrap_u64 (by omega) (by omega)
  rw [hN, wrap_i64 (n := (n : Int) + 1) (by omega) (by omega)]
  have hx1' := wf_u64' hx1
  have hmvI : 0 ≤ Int.tmod x1 1099511627776 ∧ Int.tmod x1 1099511627776 < 1099511627776 := by
    rw [Int.tmod_eq_emod_of_nonneg (by omega)]
    exact ⟨Int.emod_nonneg _ (by omega), Int.emod_lt_of_pos _ (by omega)⟩
  obtain ⟨v, hv⟩ := Int.eq_ofNat_of_zero_le hmvI.1
  rw [hv] at hmvI ⊢
  have hWv : IntKind.wrap .i64 (v : Int) = (v : Int) := wrap_i64 (by omega) (by omega)
  refine nvm_New.s (limits := []) rows_nil ?_ (fun h => absurd (by omega) h)
  intro _ H1 hm hk sz1
  have hNN : ((n : Int) + 1).toNat = n + 1 := by omega
  rw [hNN] at hm
  have hF0 : Free n (Mem.new (n + 1) []) := Free.new
  have hcl0 : ∀ i, i < n + 1 → ((Mem.new (n + 1) []).cl i).line = List.replicate 8 0 := fun i hi => by rw [Mem.new_cl hi]
  generalize Mem.new (n + 1) [] = M0 at *
  obtain ⟨s1, s2, s3, s4⟩ := hF0.set (v := (v : Int))
  refine nvm_Memory_Set.g hm (by unfold isU; omega) (Prod.eta _).symm ?_
  intro H2 hm2 f2
  rw [s1, if_neg (by simp)]
  have hmv : (M0.set 0 (v : Int)).1.mv = v := by
    show ((M0.set 0 (v : Int)).1.regs.getD 0 0).toNat = v
    rw [s3, List.getD_eq_getElem?_getD, List.getElem?_set_self (by have := hF0.regs; omega)]
    simp
  have hcl1 : ∀ i, i < n + 1 → ((M0.set 0 (v : Int)).1.cl i).line = List.replicate 8 0 := fun i hi => by rw [s4, hcl0 i hi]
  generalize (M0.set 0 (v : Int)).1 = M1 at *
  have hlen := s2.len
  have hLV : LV M1 (n + 1) 0 0 := LV.zero s2.len (by omega) (by omega) fun i hi => by omega
  have hK2 : Keeps Hq H2 := f2.keeps hk (by omega) (by omega)
  refine turn_New.s hm2 (by unfold isI; omega) (fun hh => absurd ⟨by omega, by omega, by omega, by omega, by omega, by omega, s2.up, hLV.may, by omega⟩ hh) ?_
  intro _ H3 t x hT hk3 ht hxl
  rw [Int.toNat_natCast] at hT
  rw [Option.isNone_some, if_neg (by simp)]
  refine turn_Moves.s hT s2.up ?_
  rw [hmv, hWv, show ((v : Int) != (v : Int)) = false by simp]
  unfold darninglaw9_TurnFrom.j4
  simp only [bcase_eq, hN, hU]
  rw [bcase_false]
  have hq := umod (m := (n : Int)) (by omega) x2
  obtain ⟨sl, hsl⟩ := Int.eq_ofNat_of_zero_le hq.1
  have hK3 : Keeps Hq H3 := hK2.trans hk3
  have row3 : ∀ {H'}, Keeps Hq H' → AH.row? H' ⟨H.size, 0, none⟩ 8 = some (lineV d) := fun {H'} hk' => by rw [keeps_row hk' hsq]; exact hrow
  rw [hsl, wrap_i64 (n := (sl : Int)) (by omega) (by omega)]
  refine ⟨by omega, ?_⟩
  rw [ldA_some (row3 hK3)]
  refine turn_Put.s hT hLV (by omega) hd ?_
  intro H4 hT4 f4 _
  obtain ⟨hPP, _⟩ := tput_any (d := d) (period := Int.toNat 1000) (puts := 0) hLV hn1.1 hm2.ok (by omega) s2.up (show sl < n by omega) hd.1
  obtain ⟨g1, g2, _⟩ := s2.tput hm2.ok hn1.1 (line := sl) (per := Int.toNat 1000) (puts := 0) (d := d) (by omega) hd.1 _ rfl
  rw [show Int.toNat 0 = 0 from rfl] at hT4 ⊢
  rw [g1, if_neg (by simp)]
  rw [g1] at hPP
  have hs2 := f2.size
  have hk1 := hk.1
  have hK4 : Keeps Hq H4 := f4.keeps hK3 (by omega) (by omega) (by omega)
  have hvw : ∀ s, s < n → (tput n 0 (Int.toNat 1000) M1 0 (sl : Int) d).1.tview n 0 s = if s = sl then d else List.replicate 8 0 := by
    intro s hs
    by_cases h : s = sl
    · rw [if_pos h]
      rcases hPP.res with ⟨_, _, hh⟩ | ⟨e, _⟩ | ⟨e, _⟩
      · exact hh s (by rw [h])
      · omega
      · omega
    · rw [if_neg h, hPP.other s hs (by simp; omega)]
      have hsn := slotN_le (mv := M1.mv) (line := s) hn1.1
      unfold Mem.tview
      rw [view0]
      exact hcl1 _ (by omega)
  generalize (tput n 0 (Int.toNat 1000) M1 0 (sl : Int) d).1 = M4 at *
  generalize (tput n 0 (Int.toNat 1000) M1 0 (sl : Int) d).2.1 = pu at *
  refine loopT_inv (t := ((false, (0 : Int)) : Bool × Int)) (I := fun (t' : Bool × Int) H' => ∃ s : Nat, t'.2 = (s : Int) ∧ s ≤ n ∧ Keeps Hq H' ∧ TAt H' t x (Hq.size + 1) Hq.size n 0 (Int.toNat 1000) pu M4) (m := fun (t : Bool × Int) _ => Int.toNat ((n : Int) - t.2)) ?_ ⟨0, rfl, by omega, hK4, hT4⟩
  intro t1 H6 hI it hit
  obtain ⟨t1', t2'⟩ := t1
  obtain ⟨s, h1, h2, hK6, hT6⟩ := hI
  simp only at h1
  subst h1
  unfold darninglaw9_TurnFrom.l3
  simp only [bcase_eq, decide_eq_true_eq, hN, hU, hsl]
  rw [wrap_i64 (n := (sl : Int)) (by omega) (by omega)]
  by_cases hs : (s : Int) < (n : Int)
  · rw [if_pos hs]
    refine turn_Get.s hT6 ?_
    have hg : tget n 0 M4 (s : Int) = (M4.tview n 0 s, 0) := by unfold tget; rw [if_pos ⟨by omega, by omega⟩, if_neg (by simp [g2.up]), Int.toNat_natCast]
    have hgl := hT6.lineOf s
    rw [hg, zeroV]
    refine new_line hgl ?_
    have hK7 := hK6.push ⟨lineV (M4.tview n 0 s), .rw, 0⟩
    have hT7 := hT6.push ⟨lineV (M4.tview n 0 s), .rw, 0⟩
    have r12 := line_new (H := H6) (e := 0) hgl
    have hvs := hvw s (by omega)
    have next : darninglaw9_TurnFrom.j2 (fun r _ => r = true) (t1', (s : Int)) it (H6.push ⟨lineV (M4.tview n 0 s), .rw, 0⟩) false := by
      unfold darninglaw9_TurnFrom.j2
      rw [bcase_false, wrap_i64 (n := (s : Int) + 1) (by omega) (by omega)]
      exact hit _ _ ⟨s + 1, by simp, by omega, hK7, hT7⟩ (by simp only; omega)
    rw [if_neg (by simp)]
    by_cases hss : s = sl
    · rw [if_pos hss] at hvs
      rw [if_pos (by simp; omega), ldA_some r12, ldA_some (row3 hK7), eq_line hgl hd, hvs, beq_self_eq_true, if_neg (by simp), if_neg (by simp; omega)]
      rw [← hvs]; exact next
    · rw [if_neg hss] at hvs
      rw [if_neg (by simp; omega), if_pos (by simp; omega), ldA_some r12, eq_line hgl zero_line, hvs, beq_self_eq_true]
      rw [← hvs]; exact next
  · rw [if_neg hs]
    unfold darninglaw9_TurnFrom.j1
    simp only [bcase_eq, hN]
    obtain ⟨u1, u2, u3, u4⟩ := g2.set (v := 2199023255552)
    refine nvm_Memory_Set.g hT6.l.m (by unfold isU; omega) (Prod.eta _).symm ?_
    intro H7 hm7 f7
    have hmv7 : (M4.set 0 2199023255552).1.mv = 2199023255552 := by
      show ((M4.set 0 2199023255552).1.regs.getD 0 0).toNat = 2199023255552
      rw [u3, List.getD_eq_getElem?_getD, List.getElem?_set_self (by have := g2.regs; omega)]
      rfl
    refine turn_New.s hm7 (by unfold isI; omega) ?_ (fun hh => absurd hh.2.2.2.2.2.2.2.2 (by rw [hmv7]; omega))
    intro _
    rw [Option.isNone_none, if_pos rfl]
    exact darninglaw9_awake.s rfl
end
end Go.Proofs.Ytgechnnadjonaaa
