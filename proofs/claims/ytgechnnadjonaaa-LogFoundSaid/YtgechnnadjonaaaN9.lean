import Derived.Test.YtgechnnadjonaaaN8
set_option linter.all false
set_option linter.all false
namespace Go.Proofs.Ytgechnnadjonaaa
open Go Go.Abs

section
variable {H H' : AH} {g t x p c n sp per puts : Nat} {M M' : Mem}
theorem GAt.mem (h : GAt H g t x p c n sp per puts M) (hm : MemAt H' p c M') (f : Frm H H' p c) (hl : M'.cs.length = M.cs.length) (hmv : M'.mv ≤ 4611686018427387904) : GAt H' g t x p c n sp per puts M' :=
  h.step (h.tn.mem ⟨by rw [f.get _ h.tn.l.xp h.tn.l.xc, h.tn.l.hx], by rw [f.size]; exact h.tn.l.lx, h.tn.l.xp, h.tn.l.xc, hm, hl.trans h.tn.l.len, h.tn.l.n1, h.tn.l.sp16⟩ f hmv) (Frt.of_frm f)

end
section
variable {H : AH}
theorem darninglaw12_sized.s {x0 x1 x2 : Int} {k : Int → Int → Int → AH → Prop}
    (h : ∀ nn sp per : Nat, 1 ≤ nn ∧ nn ≤ 20 → sp ≤ 16 → 1 ≤ per ∧ per ≤ 20 → (nn : Int) = 1 + Int.tmod (IntKind.wrap .u64 x0) 20 → (sp : Int) = Int.tmod (IntKind.wrap .u64 x1) 17 → k nn sp per H) : darninglaw12_sized x0 x1 x2 H k := by
  have hx := umod (m := 20) (by omega) x0
  have hy := umod (m := 17) (by omega) x1
  have hz := umod (m := 20) (by omega) x2
  refine darninglaw12_sized.link ?_
  unfold darninglaw12_sized.b
  refine ⟨by decide, by decide, by decide, ?_⟩
  have e0 := wrap_i64 (n := Int.tmod (IntKind.wrap .u64 x0) 20) (by omega) (by omega)
  have e1 := wrap_i64 (n := Int.tmod (IntKind.wrap .u64 x1) 17) (by omega) (by omega)
  have e2 := wrap_i64 (n := Int.tmod (IntKind.wrap .u64 x2) 20) (by omega) (by omega)
  obtain ⟨nn, hn⟩ := Int.eq_ofNat_of_zero_le (show 0 ≤ 1 + Int.tmod (IntKind.wrap .u64 x0) 20 by omega)
  obtain ⟨sp, hsp⟩ := Int.eq_ofNat_of_zero_le hy.1
  obtain ⟨per, hper⟩ := Int.eq_ofNat_of_zero_le (show 0 ≤ 1 + Int.tmod (IntKind.wrap .u64 x2) 20 by omega)
  rw [e0, e1, e2, hn, hsp, hper, wrap_i64 (n := (nn : Int)) (by omega) (by omega), wrap_i64 (n := (per : Int)) (by omega) (by omega)]
  exact h nn sp per (by omega) (by omega) (by omega) hn.symm hsp.symm

theorem not_may_nil {n : Int} : ¬ MayL n [] := fun h => by have := h.2.1; simp at this

theorem darninglaw12_LogRaw.t {x0 x2 : Int} {x1 : Sl} {l : List (Int × List Int)} (hx0 : (Lit.int .u64 x0).wf = true) (hr : Abs.Rows H x1 9 putV l) (hok : ∀ q ∈ l, putOK q) (_ : l.length ≤ maxLen) (_ : (Lit.int .i64 x2).wf = true) : darninglaw12_LogRaw x0 x1 x2 H (fun r _ => r = true) := by
  have hu0 : isU x0 := wf_u64 hx0
  refine darninglaw12_LogRaw.link ?_
  unfold darninglaw12_LogRaw.b
  rw [hr.1]
  by_cases c1 : (l.length : Int) > 30
  · rw [decide_eq_true c1, bcase_true]; exact darninglaw12_awake.s rfl
  rw [decide_eq_false c1, bcase_false]
  refine darninglaw12_sized.s ?_
  intro nn _ _ hnn _ _ _ _
  refine darninglaw12_made.s (sp := 0) (per := 5) (limits := []) rows_nil ⟨by omega, by omega⟩ (by omega) (by omega) ?_
  intro H29 g t x hG hk29 hg ht hx
  rw [Option.isNone_some, bcase_false]
  unfold darninglaw12_LogRaw.j1
  by_cases c2 : x0 ≤ 14
  · rw [decide_eq_true c2, bcase_true, Option.isNone_some, Bool.not_false, bcase_true]; exact darninglaw12_awake.s rfl
  rw [decide_eq_false c2, bcase_false]
  have hcut0 : (Mem.new (16 + nn + 1 + 0) []).cut = -1 := rfl
  have hup0 : (Mem.new (16 + nn + 1 + 0) []).down = false := rfl
  have hmv0 : (Mem.new (16 + nn + 1 + 0) []).mv = 0 := mv_new
  have hcs0 : ∀ i, i < 16 + nn + 1 + 0 → ((Mem.new (16 + nn + 1 + 0) []).cl i).line = List.replicate 8 0 := fun i hi => by rw [Mem.new_cl hi]
  have hlen0 : (Mem.new (16 + nn + 1 + 0) []).cs.length = 16 + nn + 1 + 0 := by simp [Mem.new]
  have hrl0 : (Mem.new (16 + nn + 1 + 0) []).regs.length = 35 := by simp [Mem.new]
  generalize Mem.new (16 + nn + 1 + 0) [] = M0 at *
  have hset := Mem.set_calm (M := M0) (i := 1) (v := x0) hcut0 hup0 ⟨by omega, by omega⟩
  refine nvm_Memory_Set.g hG.tn.l.m hu0 hset ?_
  intro H45 hm45 f45
  have hr45 : Abs.Rows H45 x1 9 putV l := hr.keep (f45.keeps hk29 (by omega) (by omega))
  have hG45 := hG.mem hm45 f45 rfl (by
    have : ({ M0 with writes := inc M0.writes, regs := M0.regs.set (Int.toNat 1) x0 } : Mem).mv = M0.mv := by
      unfold Mem.mv
      simp only [List.getD_eq_getElem?_getD]
      rw [List.getElem?_set_ne (by decide)]
    rw [this]; omega)
  have hc1 : commits { M0 with writes := inc M0.writes, regs := M0.regs.set (Int.toNat 1) x0 } = x0 := by
    unfold commits
    simp only [List.getD_eq_getElem?_getD]
    rw [show Int.toNat 1 = 1 from rfl, List.getElem?_set_self (by omega)]; rfl
  have hmv1 : ({ M0 with writes := inc M0.writes, regs := M0.regs.set (Int.toNat 1) x0 } : Mem).mv = 0 := by
    unfold Mem.mv at hmv0 ⊢
    simp only [List.getD_eq_getElem?_getD] at hmv0 ⊢
    rw [List.getElem?_set_ne (by decide)]; exact hmv0
  generalize hM1 : ({ M0 with writes := inc M0.writes, regs := M0.regs.set (Int.toNat 1) x0 } : Mem) = M1 at *
  have hup1 : M1.down = false := by rw [← hM1]; exact hup0
  have hcs1 : ∀ i, i < 16 + nn + 1 + 0 → (M1.cl i).line = List.replicate 8 0 := by rw [← hM1]; exact hcs0
  have hlen1 : M1.cs.length = 16 + nn + 1 + 0 := by rw [← hM1]; exact hlen0
  have hLV1 : LV M1 (16 + nn + 1) 0 0 := LV.zero (by omega) (by omega) (by omega) fun i hi => by omega
  have hhom1 : homesN (16 + nn) 0 M1 = ([], 6) := by unfold homesN; rw [if_neg (by simp [hup1]), hc1, if_pos (by omega)]
  have hrec1 : recN (16 + nn) 0 5 M1 0 = (M1, 0, 6) := by unfold recN; rw [hhom1, if_pos (by simp)]
  have hp1 : PSt (16 + nn) 0 5 M1 0 0 (16 + nn + 1 + 0) := hG45.pst hLV1 (by omega)
  refine log_Recover.s hG45 hp1 (by omega) ?_
  intro H47 hG47 f47 _
  rw [hrec1] at hG47 ⊢
  simp only at hG47 ⊢
  have lt := hG.tn.lt
  have hr47 : Abs.Rows H47 x1 9 putV l := hr.keep (f47.keeps (f45.keeps hk29 (by omega) (by omega)) (by omega) (by omega) (by omega))
  have hk47 : Keeps H H47 := f47.keeps (f45.keeps hk29 (by omega) (by omega)) (by omega) (by omega) (by omega)
  refine log_Get.s hG47 (by unfold isI; omega) ?_
  have hget1 : getN (16 + nn) 0 M1 16 = (List.replicate 8 0, 0) := by
    unfold getN
    rw [if_pos ⟨by omega, by omega⟩, if_neg (by simp [hup1]), hhom1, if_neg not_may_nil]
    simp only
    unfold Mem.tview
    have hsl := slotN_le (n := 16 + nn) (mv := M1.mv) (line := Int.toNat 16) (by omega)
    rw [view0, hcs1 _ (by omega)]
  rw [hget1, zeroV]
  refine new_line zero_line ?_
  have hr10 := line_new (H := H47) (e := 0) zero_line
  have hG2 := hG47.push ⟨lineV (List.replicate 8 0), .rw, 0⟩
  have hk2 : Keeps H (H47.push ⟨lineV (List.replicate 8 0), .rw, 0⟩) := hk47.push _
  have hs2 : H47.size < (H47.push ⟨lineV (List.replicate 8 0), .rw, 0⟩).size := by simp [push_size]
  have lt2 := hG47.tn.lt
  have lp2 := hG47.tn.l.m.lp
  have lc2 := hG47.tn.l.m.lc
  generalize H47.push ⟨lineV (List.replicate 8 0), .rw, 0⟩ = H2 at *
  refine log_Pending.s hG2 ?_
  rw [decide_eq_true ⟨hup1, by rw [hc1]; omega⟩]
  refine nvm_Memory_Cut.g hG2.tn.l.m (by omega) ?_
  intro H56 hm56 f56
  have hG56 := hG2.mem hm56 f56 rfl (by show M1.mv ≤ _; omega)
  have hset2 := Mem.set_cut0 (M := M1.setCut 0 0) (i := 2) (v := 1) rfl hup1 ⟨by omega, by omega⟩
  refine nvm_Memory_Set.g hm56 (by unfold isU; omega) (Prod.eta _).symm ?_
  intro H58 hm58 f58
  have hdn : ((M1.setCut 0 0).set 2 1).1.down = true := by
    rw [hset2]
  have hl58 : ((M1.setCut 0 0).set 2 1).1.cs.length = (M1.setCut 0 0).cs.length := Mem.set_len
  have hmv58 : ((M1.setCut 0 0).set 2 1).1.mv = 0 := by
    rw [hset2]
    split
    · unfold Mem.mv at hmv1 ⊢
      simp only [List.getD_eq_getElem?_getD] at hmv1 ⊢
      rw [List.getElem?_set_ne (by decide)]; exact hmv1
    · exact hmv1
  have hwh58 : LV ((M1.setCut 0 0).set 2 1).1 (16 + nn + 1) 0 0 := LV.zero (by rw [hl58]; show M1.cs.length = _; omega) (by omega) (by omega) fun i hi => by omega
  have hG58 := hG56.mem hm58 f58 hl58 (by omega)
  generalize ((M1.setCut 0 0).set 2 1).1 = M3 at *
  refine log_Get.s hG58 (by unfold isI; omega) ?_
  have hget3 : getN (16 + nn) 0 M3 16 = (List.replicate 8 0, 2) := by unfold getN; rw [if_pos ⟨by omega, by omega⟩, if_pos hdn]
  rw [hget3]
  refine new_line zero_line ?_
  have hr13 := line_new (H := H58) (e := 0) zero_line
  have hG4 := hG58.push ⟨lineV (List.replicate 8 0), .rw, 0⟩
  have hk58 : Keeps H H58 := f58.keeps (f56.keeps hk2 (by omega) (by omega)) (by omega) (by omega)
  have hk4 : Keeps H (H58.push ⟨lineV (List.replicate 8 0), .rw, 0⟩) := hk58.push _
  have hs58 : H58.size = H2.size := by rw [f58.size, f56.size]
  have hs4 : (H58.push ⟨lineV (List.replicate 8 0), .rw, 0⟩).size = H58.size + 1 := by simp [push_size]
  have hr10' : AH.row? (H58.push ⟨lineV (List.replicate 8 0), .rw, 0⟩) ⟨H47.size, 0, none⟩ 8 = some (lineV (List.replicate 8 0)) := by
    rw [← hr10]
    simp only [AH.row?]
    rw [push_get_ne (by omega), f58.get _ (by omega) (by omega), f56.get _ (by omega) (by omega)]
  have hr13' := hr13
  generalize H58.push ⟨lineV (List.replicate 8 0), .rw, 0⟩ = H4 at *
  have hp3 : PSt (16 + nn) 0 5 M3 0 0 (16 + nn + 1 + 0) := hG4.pst hwh58 (by omega)
  have hrec3 : recN (16 + nn) 0 5 M3 0 = (M3, 0, 2) := by
    have : homesN (16 + nn) 0 M3 = ([], 2) := by unfold homesN; rw [if_pos hdn]
    unfold recN; rw [this, if_pos (by simp)]
  refine log_Recover.s hG4 hp3 (by omega) ?_
  intro H65 hG65 f65 _
  rw [hrec3] at hG65 ⊢
  simp only at hG65 ⊢
  have hk65 : Keeps H H65 := f65.keeps hk4 (by omega) (by omega) (by omega)
  have hcom3 : comN (16 + nn) 0 5 l M3 0 = (M3, 0, if MayL (16 + nn : Nat) l then 2 else 1) := by
    unfold comN
    by_cases hm : MayL (16 + nn : Nat) l
    · rw [if_neg (fun hh => hh hm), if_pos hdn, if_pos hm]
    · rw [if_pos hm, if_neg hm]
  refine log_Commit.s hG65 hp3 (by omega) (hr.keep hk65) hok (by omega) ?_ ?_
  · intro h0 b hb
    obtain ⟨b2, o2, ha2, hlt2, _⟩ := hr.at h0
    rw [ha2] at hb
    simp at hb; omega
  intro H68 hG68 f68 _
  rw [hcom3] at hG68 ⊢
  simp only at hG68 ⊢
  have hk68 : Keeps H H68 := f68.keeps hk65 (by omega) (by omega) (by omega)
  have f468 := f65.trans f68
  have q10 : AH.row? H68 ⟨H47.size, 0, none⟩ 8 = some (lineV (List.replicate 8 0)) := by
    rw [← hr10']
    simp only [AH.row?]
    rw [f468.get _ (by omega) (by omega) (by omega) (by omega)]
  have q13 : AH.row? H68 ⟨H58.size, 0, none⟩ 8 = some (lineV (List.replicate 8 0)) := by
    rw [← hr13']
    simp only [AH.row?]
    rw [f468.get _ (by omega) (by omega) (by omega) (by omega)]
  rw [show ((6 : Int) == 6) = true from rfl, bcase_true, show ((0 : Int) == 0) = true from rfl, bcase_true, ldA_some q10, eq_line zero_line zero_line, beq_self_eq_true, bcase_true, bcase_true, show ((2 : Int) == 2) = true from rfl, bcase_true, ldA_some q13, eq_line zero_line zero_line, beq_self_eq_true, bcase_true, bcase_true, wrap_i64 (n := 16 + (nn : Int)) (by omega) (by omega), show 16 + (nn : Int) = ((16 + nn : Nat) : Int) by omega]
  refine darningref4_MayHomes.s (hr.keep hk68) hok (by omega) ?_
  have hb : ((if MayL (16 + nn : Nat) l then (2 : Int) else 1) == 2) = decide (MayL (16 + nn : Nat) l) := by
    by_cases hm : MayL (16 + nn : Nat) l
    · rw [if_pos hm, decide_eq_true hm]; rfl
    · rw [if_neg hm, decide_eq_false hm]; rfl
  rw [hb, beq_self_eq_true, bcase_true]
  refine log_Pending.s hG68 ?_
  rw [decide_eq_false (fun hh => by rw [hdn] at hh; exact absurd hh.1 (by simp)), Bool.not_false, bcase_true]
  exact darninglaw12_awake.s rfl
end
end Go.Proofs.Ytgechnnadjonaaa
