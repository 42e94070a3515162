import Derived.Test.YtomeldimnhapfaaM12
set_option linter.all false
set_option linter.all false
namespace Go.Proofs.Ytomeldimnhapfaa
open Go Go.Abs

/-- Both memories, side by side. -/
structure Both (H0 H : AH) (p c q a b : Nat) (sl : Sl) (M : Mem) (w : RMem) : Prop where
  keeps : Keeps H0 H
  m : MemAt H p c M
  r : RAt H q a b sl w
  low : H0.size ≤ p ∧ H0.size ≤ c ∧ H0.size ≤ q ∧ H0.size ≤ a ∧ H0.size ≤ b
  dj : p ≠ q ∧ p ≠ a ∧ p ≠ b ∧ c ≠ q ∧ c ≠ a ∧ c ≠ b
  ds : ∀ y, sl.a = some y → y.block ≠ p ∧ y.block ≠ c

section
variable {H0 H H' : AH} {p c q a b : Nat} {sl : Sl} {M M' : Mem} {w w' : RMem}
theorem Both.m' (h : Both H0 H p c q a b sl M w) (hm : MemAt H' p c M') (f : Frm H H' p c) : Both H0 H' p c q a b sl M' w := by
  refine ⟨f.keeps h.keeps h.low.1 h.low.2.1, hm, h.r.keep (by rw [f.size]; exact Nat.le_refl _) fun x _ hx => f.get x ?_ ?_, h.low, h.dj, h.ds⟩
  · rintro rfl
    obtain ⟨d1, d2, d3, d4, d5, d6⟩ := h.dj
    rcases hx with e | e | e | ⟨y, h1, h2⟩
    · exact d1 e
    · exact d2 e
    · exact d3 e
    · exact (h.ds y h1).1 h2
  · rintro rfl
    obtain ⟨d1, d2, d3, d4, d5, d6⟩ := h.dj
    rcases hx with e | e | e | ⟨y, h1, h2⟩
    · exact d4 e
    · exact d5 e
    · exact d6 e
    · exact (h.ds y h1).2 h2
theorem Both.r' (h : Both H0 H p c q a b sl M w) (hr : RAt H' q a b sl w') (f : Frl H H' q a b) : Both H0 H' p c q a b sl M w' :=
  ⟨f.keeps h.keeps h.low.2.2.1 h.low.2.2.2.1 h.low.2.2.2.2, h.m.keep f.size (f.get p h.m.lp h.dj.1 h.dj.2.1 h.dj.2.2.1) (f.get c h.m.lc h.dj.2.2.2.1 h.dj.2.2.2.2.1 h.dj.2.2.2.2.2), hr, h.low, h.dj, h.ds⟩
theorem Both.push (h : Both H0 H p c q a b sl M w) (o : AObj) : Both H0 (H.push o) p c q a b sl M w := ⟨h.keeps.push _, h.m.push _, h.r.push _, h.low, h.dj, h.ds⟩
end

section
variable {H : AH}

theorem bool_eq_self (x : Bool) : (x == x) = true := by cases x <;> rfl

theorem NvmPlays_end {n : Int} {p c q a b : Nat} {sl : Sl} {M : Mem} {w : RMem} {j : Nat} {t : Bool × Int} {H1 : AH} (hn : 1 ≤ n ∧ n ≤ 200) (hB : Both H H1 p c q a b sl M w) (hS : Sim n.toNat M w j) :
    darninglaw5_NvmPlays.j4 n (fun r _ => r = true) (some ⟨p, 0, none⟩) (some ⟨q, 0, none⟩) t H1 := by
  unfold darninglaw5_NvmPlays.j4
  refine nvm_Memory_Power.g hB.m ?_
  intro H2 hm2 f2
  have hB2 := hB.m' hm2 f2
  refine darningref4_Memory_Power.s hB2.r ?_
  intro H3 hr3 f3
  have hB3 := hB2.r' hr3 f3
  have hS3 := hS.power
  have hd : M.power.down = false := rfl
  generalize M.power = M3 at *
  generalize w.power = w3 at *
  refine loopT_inv (t := ((t.1, (0 : Int)) : Bool × Int)) (I := fun (t : Bool × Int) H' => ∃ i : Nat, t.2 = (i : Int) ∧ (i : Int) ≤ n ∧ Both H H' p c q a b sl M3 w3) (m := fun (t : Bool × Int) _ => Int.toNat (n - t.2)) ?_ ⟨0, rfl, by omega, hB3⟩
  intro t H4 hI it hit
  obtain ⟨t1, t2⟩ := t
  obtain ⟨i, h1, h2, hB4⟩ := hI
  simp only at h1
  subst h1
  unfold darninglaw5_NvmPlays.l3 darninglaw5_NvmPlays.j2
  simp only [bcase_eq, decide_eq_true_eq]
  have hlen := hS3.len
  by_cases hlt : (i : Int) < n
  · rw [if_pos hlt]
    have hi : M3.has i := ⟨by omega, by omega⟩
    have hir : w3.has i := hS3.has.2 hi
    have hg : M3.get i = ((M3.cl (Int.toNat i)).line, 0) := by unfold Mem.get; rw [if_pos hi, if_neg (by simp [hd])]
    refine nvm_Memory_Get.s hB4.m ?_
    rw [hg, zeroV]
    have hl := hB4.m.ok.lines _ (cl_mem hi)
    refine new_line hl ?_
    have hB5 := hB4.push ⟨lineV (M3.cl (Int.toNat i)).line, .rw, 0⟩
    rw [ldA_some (line_new hl)]
    have hlw : (i : Int) < ((w3.L.length : Nat) : Int) := by have := hir; unfold RMem.has at this; omega
    have hww : (i : Int) < ((w3.W.length : Nat) : Int) := by rw [hB4.r.ok.len]; exact hlw
    rw [onPtr_mk, hB5.r.c0, elL_some]
    refine ⟨⟨by omega, hlw⟩, ?_⟩
    rw [onPtr_mk, ldA_some (hB5.r.rowL hir), hS3.lineAt hi, eq_line hl hl, beq_self_eq_true]
    rw [if_neg (by simp), onPtr_mk, hB5.r.c36, elL_some]
    refine ⟨⟨by omega, hww⟩, ?_⟩
    rw [onPtr_mk, hB5.r.cellW hir, elI_some]
    refine nvm_Memory_Wear.s hB5.m ⟨hB5.r.cellW hir, hB5.r.c36, ?_⟩
    have hw : M3.wearOf i = (M3.cl (Int.toNat i)).wear := by unfold Mem.wearOf; rw [if_pos hi]
    rw [hw, hS3.wearAt hi, if_neg (by simp), wrap_i64 (n := (i : Int) + 1) (by omega) (by omega)]
    exact hit _ _ ⟨i + 1, by simp, by omega, hB5⟩ (by simp only; omega)
  · rw [if_neg hlt]
    unfold darninglaw5_NvmPlays.j1
    simp only [bcase_eq]
    refine nvm_Memory_Wear.s hB4.m ?_
    have e1 : M3.wearOf n = 0 := by unfold Mem.wearOf; rw [if_neg (by unfold Mem.has; omega)]
    rw [e1, beq_self_eq_true, if_pos rfl]
    refine nvm_Memory_Wear.s hB4.m ?_
    have e2 : M3.wearOf (-1) = 0 := by unfold Mem.wearOf; rw [if_neg (by unfold Mem.has; omega)]
    rw [e2, beq_self_eq_true, if_pos rfl]
    exact darninglaw5_awake.s rfl

theorem darninglaw5_NvmPlays.t {n : Int} {x1 x2 : Sl} {limits : List Int} {l : List ((Int × Int × Int) × List Int × Int)} (_ : (Lit.int .i64 n).wf = true) (hlim : Abs.Rows H x1 1 iV limits) (_ : ∀ v ∈ limits, isI v) (_ : limits.length ≤ maxLen)
    (hr : Abs.Rows H x2 12 callV l) (hok : ∀ c ∈ l, callOK c) (_ : l.length ≤ maxLen) : darninglaw5_NvmPlays n x1 x2 H (fun r _ => r = true) := by
  refine darninglaw5_NvmPlays.link ?_
  unfold darninglaw5_NvmPlays.b darninglaw5_NvmPlays.j7
  simp only [bcase_eq, decide_eq_true_eq, hr.1, hlim.1]
  by_cases h1 : (l.length : Int) > 200
  · rw [if_pos h1]; exact darninglaw5_awake.s rfl
  rw [if_neg h1]
  by_cases h2 : (limits.length : Int) > 300
  · rw [if_pos h2]; exact darninglaw5_awake.s rfl
  rw [if_neg h2]
  refine nvm_New.s hlim ?_ ?_
  rotate_left 1
  · intro hn
    refine darningref4_NewMemory.s hlim (by omega) (fun h => absurd h hn) (fun _ => ?_)
    simp only [Option.isNone_none, bool_eq_self, Bool.not_true, Bool.false_eq_true, if_false, if_true]
    exact darninglaw5_awake.s rfl
  intro hn H1 hm hk _
  refine darningref4_NewMemory.s (hlim.keep hk) (by omega) ?_ (fun h => absurd hn h)
  intro _ H2 q a b sl hrr hk2 lq la lb ls
  simp only [Option.isNone_some, Bool.not_false, bool_eq_self, Bool.not_true, Bool.false_eq_true, if_false]
  have hp1 := hm.lp
  have hc1 := hm.lc
  have hB : Both H H2 (H.size + 1) H.size q a b sl (Mem.new n.toNat limits) (RMem.new n.toNat limits) :=
    ⟨hk.trans hk2, hm.keeps hk2, hrr, by omega, by omega, fun y hy => by have := ls y hy; omega⟩
  refine loopT_inv (t := ((false, (0 : Int)) : Bool × Int)) (I := fun (t : Bool × Int) H' => ∃ i : Nat, t.2 = (i : Int) ∧ i ≤ l.length ∧ ∃ M w, Both H H' (H.size + 1) H.size q a b sl M w ∧ Sim n.toNat M w i) (m := fun (t : Bool × Int) _ => Int.toNat ((l.length : Int) - t.2)) ?_ ⟨0, rfl, by omega, _, _, hB, Sim.new _ _⟩
  intro t H3 hI it hit
  obtain ⟨t1, t2⟩ := t
  obtain ⟨i, h1, h2, M, w, hB, hS⟩ := hI
  simp only at h1
  subst h1
  unfold darninglaw5_NvmPlays.l6
  simp only [bcase_eq, decide_eq_true_eq, hr.1]
  by_cases hlt : (i : Int) < (l.length : Int)
  · rw [if_pos hlt]
    obtain ⟨bb, oo, ha, _, hrow⟩ := (hr.keep hB.keeps).at (show i < l.length by omega)
    refine ⟨by omega, ?_⟩
    rw [ha, onPtr_mk, Int.toNat_natCast, ldA_some hrow]
    have hcl := hok _ (List.getElem_mem (show i < l.length by omega))
    generalize l[i] = cc at *
    have j5 : ∀ H' M' w', Both H H' (H.size + 1) H.size q a b sl M' w' → Sim n.toNat M' w' (i + 1) → darninglaw5_NvmPlays.j5 n (fun r _ => r = true) (some ⟨H.size + 1, 0, none⟩) (some ⟨q, 0, none⟩) (t1, (i : Int)) it true H' := by
      intro H' M' w' hB' hS'
      unfold darninglaw5_NvmPlays.j5
      simp only [bcase_eq, Bool.not_true, Bool.false_eq_true, if_false, onPtr_mk, hB'.r.c40, elB_some]
      refine nvm_Memory_Down.s hB'.m ⟨hB'.r.c40, ?_⟩
      rw [hS'.dark, bool_eq_self]
      simp only [Bool.not_true, Bool.false_eq_true, if_false, hB'.r.c41, elI_some]
      refine nvm_Memory_Writes.s hB'.m ⟨hB'.r.c41, ?_⟩
      rw [hS'.count, if_neg (by simp)]
      refine nvm_Memory_Lines.s hB'.m ?_
      rw [hS'.len, if_neg (by simp; omega), wrap_i64 (n := (i : Int) + 1) (by omega) (by omega)]
      exact hit _ _ ⟨i + 1, by simp, by omega, _, _, hB', hS'⟩ (by simp only; omega)
    refine new_call hcl rfl ?_
    intro hC
    have hB0 := hB.push ⟨callV cc, .rw, 0⟩
    have lp := hB.m.lp
    have lc := hB.m.lc
    have hl := hcl.line.1
    have lq' := hB.r.lq
    have la' := hB.r.la
    have lb' := hB.r.lb
    have i1 : isI cc.1.2.2 := hcl.i2
    generalize hHc : H3.push ⟨callV cc, .rw, 0⟩ = Hc at *
    have hsz : H3.size < Hc.size := by rw [← hHc]; simp [push_size]
    rw [hC.c0, elI_some]
    by_cases d0 : cc.1.1 = 0
    · rw [if_pos (by simpa using d0), hC.c1, elI_some, ldA_some hC.row, elI_some, ldA_some hC.row]
      obtain ⟨e, hS'⟩ := hS.put (i := cc.1.2.1) hl (by omega)
      refine nvm_Memory_Put.g hB0.m hcl.line (Prod.eta _).symm ?_
      intro H5 hM5 f5
      have hB5 := hB0.m' hM5 f5
      have hC5 := hC.keep (f5.get H3.size (by omega) (by omega))
      refine ⟨hC5.row, hC5.c1, ?_⟩
      refine darningref4_Memory_Put.s hB5.r hcl.line ?_
      intro H6 hr6 f6
      rw [e, beq_self_eq_true]
      exact j5 _ _ _ (hB5.r' hr6 f6) hS'
    rw [if_neg (by simpa using d0)]
    by_cases d1 : cc.1.1 = 1
    · rw [if_pos (by simpa using d1), hC.c1, elI_some, hC.c11, elI_some, elI_some, elI_some]
      obtain ⟨e, hS'⟩ := hS.set (i := cc.1.2.1) (v := cc.2.2) (by omega)
      refine nvm_Memory_Set.g hB0.m hcl.u (Prod.eta _).symm ?_
      intro H5 hM5 f5
      have hB5 := hB0.m' hM5 f5
      have hC5 := hC.keep (f5.get H3.size (by omega) (by omega))
      refine ⟨hC5.c11, hC5.c1, ?_⟩
      refine darningref4_Memory_Set.s hB5.r hcl.u ?_
      intro H6 hr6 f6
      rw [e, beq_self_eq_true]
      exact j5 _ _ _ (hB5.r' hr6 f6) hS'
    rw [if_neg (by simpa using d1)]
    by_cases d2 : cc.1.1 = 2
    · rw [if_pos (by simpa using d2), hC.c2, elI_some, hC.c1, elI_some]
      refine nvm_Memory_Cut.g hB0.m i1.2 ?_
      intro H5 hM5 f5
      have hB5 := hB0.m' hM5 f5
      have hC5 := hC.keep (f5.get H3.size (by omega) (by omega))
      rw [hC5.c2, elI_some, hC5.c1, elI_some]
      refine darningref4_Memory_Cut.s hB5.r ?_
      intro H6 hr6 f6
      exact j5 _ _ _ (hB5.r' hr6 f6) (hS.setCut i1.2)
    rw [if_neg (by simpa using d2)]
    by_cases d3 : cc.1.1 = 3
    · rw [if_pos (by simpa using d3)]
      refine nvm_Memory_Power.g hB0.m ?_
      intro H5 hM5 f5
      have hB5 := hB0.m' hM5 f5
      refine darningref4_Memory_Power.s hB5.r ?_
      intro H6 hr6 f6
      exact j5 _ _ _ (hB5.r' hr6 f6) hS.power
    rw [if_neg (by simpa using d3)]
    by_cases d4 : cc.1.1 = 4
    · rw [if_pos (by simpa using d4), hC.c1, elI_some]
      refine nvm_Memory_Reg.s hB0.m ?_
      rw [hC.c1, elI_some]
      refine darningref4_Memory_Reg.s hB0.r ?_
      rw [hS.reg, beq_self_eq_true, if_pos rfl, beq_self_eq_true]
      exact j5 _ _ _ hB0 hS.later
    · rw [if_neg (by simpa using d4), hC.c1, elI_some]
      refine nvm_Memory_Get.s hB0.m ?_
      have hgl := Mem.get_line (i := cc.1.2.1) hB0.m.ok
      rw [zeroV]
      refine new_line hgl ?_
      have hB6 := hB0.push ⟨lineV (M.get cc.1.2.1).1, .rw, 0⟩
      have hC6 : CallAt (Hc.push ⟨lineV (M.get cc.1.2.1).1, .rw, 0⟩) H3.size cc := hC.keep (push_get_ne (by omega))
      rw [hC6.c1, elI_some]
      refine darningref4_Memory_Get.s hB6.r ?_
      rw [hS.get]
      refine new_line hgl ?_
      have hB7 := hB6.push ⟨lineV (M.get cc.1.2.1).1, .rw, 0⟩
      rw [ldA_some (by rw [row_push (by simp [push_size])]; exact line_new hgl), ldA_some (line_new hgl), eq_line hgl hgl, beq_self_eq_true, if_pos rfl, beq_self_eq_true]
      exact j5 _ _ _ hB7 hS.later
  · rw [if_neg hlt]
    exact NvmPlays_end hn hB hS
end
end Go.Proofs.Ytomeldimnhapfaa
