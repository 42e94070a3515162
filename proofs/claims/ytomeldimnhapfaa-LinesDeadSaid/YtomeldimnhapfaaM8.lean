import Derived.Test.YtomeldimnhapfaaM7
import Derived.Test.YtomeldimnhapfaaAbsTwo
set_option linter.all false
set_option linter.all false
namespace Go.Proofs.Ytomeldimnhapfaa
open Go Go.Abs

theorem callV_flat (c : (Int × Int × Int) × List Int × Int) : (callV c).all flatC = true := by
  simp only [callV, List.all_append, flat_u64, Bool.and_true]
  rfl
theorem call_eq {cs : List Value} {x0 x1 x2 x4 : Int} {x3 : List Int} (n : cs.length = 12) (e0 : cs[0]? = some (.int .i64 x0)) (e1 : cs[1]? = some (.int .i64 x1)) (e2 : cs[2]? = some (.int .i64 x2))
    (e3 : (cs.drop 3).take 8 = x3.map fun v => Value.int .u64 v) (e4 : cs[11]? = some (.int .u64 x4)) : cs = callV ⟨⟨x0, x1, x2⟩, x3, x4⟩ := by
  have h8 : x3.length = 8 := by
    have := congrArg List.length e3
    simp [n] at this
    omega
  apply List.ext_getElem?
  intro i
  match i with
  | 0 => rw [e0]; rfl
  | 1 => rw [e1]; rfl
  | 2 => rw [e2]; rfl
  | i + 3 =>
    by_cases hi : i < 8
    · have h1 : cs[i + 3]? = ((cs.drop 3).take 8)[i]? := by rw [List.getElem?_take, if_pos hi, List.getElem?_drop, Nat.add_comm]
      rw [h1, e3]
      simp only [callV, List.cons_append, List.nil_append, List.getElem?_cons_succ]
      rw [List.getElem?_append_left (by simp [lineV, h8]; omega)]
      rfl
    · by_cases hi' : i = 8
      · subst hi'
        rw [e4]
        simp only [callV, List.cons_append, List.nil_append, List.getElem?_cons_succ]
        rw [List.getElem?_append_right (by simp [lineV, h8])]
        simp [lineV, h8]
      · rw [List.getElem?_eq_none (by omega), List.getElem?_eq_none (by simp [callV, lineV, h8]; omega)]

/-- The next call of a row of calls, laid in a local place. -/
theorem rows_call {H : AH} {s : Sl} {l : List ((Int × Int × Int) × List Int × Int)} (h : Abs.Rows H s 12 callV l) {j : Nat} (hj : j < l.length) :
    ∃ b o, s.a = some ⟨b, o, none⟩ ∧ b < H.size ∧ AH.row? H (Addr.add ⟨b, o, none⟩ (j * 12)) 12 = some (callV l[j]) := h.at hj

section
variable {H : AH}

/-! ### NvmNever -/

theorem Mem.put_live {M : Mem} {i : Int} {l : List Int} (hc : M.cut = -1) (hd : M.down = false) : (M.put i l).2 ≠ 2 ∧ (M.put i l).1.cut = -1 ∧ (M.put i l).1.down = false := by
  unfold Mem.put
  have hw : M.wr = { M with writes := inc M.writes } := by unfold Mem.wr; rw [if_neg (by omega), if_neg (by omega)]
  split
  · rw [if_neg (by simp [hd])]
    simp only
    split
    · simp [hw, Mem.told, hd, hc]
    · simp [hw, Mem.told, hd, hc, Mem.setc]
  · exact ⟨by simp, hc, hd⟩
theorem Mem.put_dark {M : Mem} {i : Int} {l : List Int} (hd : M.down = true) (hi : M.has i) : M.put i l = (M, 2) := by
  unfold Mem.put; rw [if_pos hi, if_pos hd]
theorem Mem.set_dark {M : Mem} {i v : Int} (hd : M.down = true) (hi : regIn i) : M.set i v = (M, 2) := by
  unfold Mem.set; rw [if_pos hi, if_pos hd]
theorem Mem.put_len {M : Mem} {i : Int} {l : List Int} : (M.put i l).1.cs.length = M.cs.length := by
  unfold Mem.put
  split
  · split
    · rfl
    · simp only; split
      · rw [Mem.wr_cs]
      · simp [Mem.setc, Mem.wr_cs]
  · rfl
theorem Mem.set_len {M : Mem} {i v : Int} : (M.set i v).1.cs.length = M.cs.length := by
  unfold Mem.set
  split
  · split
    · rfl
    · simp only; split <;> simp [Mem.wr_cs]
  · rfl

theorem darninglaw5_NvmNever.t {x0 : Int} {x1 : Sl} {l : List ((Int × Int × Int) × List Int × Int)} (_ : (Lit.int .i64 x0).wf = true) (hr : Abs.Rows H x1 12 callV l) (hok : ∀ c ∈ l, callOK c) (_ : l.length ≤ maxLen) : darninglaw5_NvmNever x0 x1 H (fun r _ => r = true) := by
  refine darninglaw5_NvmNever.link ?_
  unfold darninglaw5_NvmNever.b
  simp only [bcase_eq, decide_eq_true_eq, hr.1]
  have hx := umod (m := 100) (by omega) x0
  by_cases hlen : (l.length : Int) > 80
  · rw [if_pos hlen]; exact darninglaw5_awake.s rfl
  rw [if_neg hlen]
  refine nvm_New.s (limits := []) rows_nil ?_ (fun h => absurd (by omega) h)
  intro _ H1 hm hk _
  refine nvm_Memory_Cut.g hm (by omega) ?_
  intro H2 hm2 f2
  refine ⟨by decide, ?_⟩
  rw [wrap_i64 (n := Int.tmod (IntKind.wrap .u64 x0) 100) (by omega) (by omega), wrap_i64 (by omega) (by omega)]
  refine nvm_Memory_Cut.g hm2 (by omega) ?_
  intro H3 hm3 f3
  have hk3 : Keeps H H3 := f3.keeps (f2.keeps hk (by omega) (by omega)) (by omega) (by omega)
  refine loopT_inv (t := ((false, (0 : Int)) : Bool × Int)) (I := fun (t : Bool × Int) H' => ∃ i : Nat, t.2 = (i : Int) ∧ i ≤ l.length ∧ Keeps H H' ∧ ∃ M, MemAt H' (H.size + 1) H.size M ∧ M.cut = -1 ∧ M.down = false ∧ M.cs.length = 6) (m := fun (t : Bool × Int) _ => Int.toNat ((l.length : Int) - t.2)) ?_ ⟨0, rfl, by omega, hk3, _, hm3, ?_, rfl, rfl⟩
  · intro t H4 hI it hit
    obtain ⟨t1, t2⟩ := t
    obtain ⟨i, h1, h2, hK, M, hM, hc, hd, hn⟩ := hI
    simp only at h1
    subst h1
    unfold darninglaw5_NvmNever.l4
    simp only [bcase_eq, decide_eq_true_eq, hr.1]
    by_cases hlt : (i : Int) < (l.length : Int)
    · rw [if_pos hlt]
      obtain ⟨b, o, ha, _, hrow⟩ := (hr.keep hK).at (show i < l.length by omega)
      refine ⟨by omega, ?_⟩
      rw [ha, onPtr_mk, Int.toNat_natCast, ldA_some hrow]
      have hcl := hok _ (List.getElem_mem (show i < l.length by omega))
      generalize l[i] = cc at *
      refine new_call hcl rfl ?_
      intro hC
      rw [hC.c0, elI_some, wrap_i64 (n := (i : Int) + 1) (by omega) (by omega)]
      by_cases h0 : cc.1.1 = 0
      · simp only [h0, beq_self_eq_true, if_true, hC.c1, elI_some, ldA_some hC.row]
        have hp := Mem.put_live (M := M) (i := cc.1.2.1) (l := cc.2.1) hc hd
        refine nvm_Memory_Put.g (hM.push _) hcl.line (Prod.eta _).symm ?_
        intro H5 hM5 f5
        rw [if_neg (by simpa using hp.1)]
        exact hit _ _ ⟨i + 1, by simp, by omega, f5.keeps (hK.push _) (by omega) (by omega), _, hM5, hp.2.1, hp.2.2, by rw [Mem.put_len]; exact hn⟩ (by simp only; omega)
      · rw [if_neg (by simpa using h0)]
        exact hit _ _ ⟨i + 1, by simp, by omega, hK.push _, _, hM.push _, hc, hd, hn⟩ (by simp only; omega)
    · rw [if_neg hlt]
      unfold darninglaw5_NvmNever.j3
      refine nvm_Memory_Cut.g hM (by omega) ?_
      intro H5 hM5 f5
      rw [lineV_lit]
      have hl9 : isLine [9, 0, 0, 0, 0, 0, 0, 0] := isLine_lit (by unfold isU; omega)
      have hdark : ((M.setCut 0 0).put 0 [9, 0, 0, 0, 0, 0, 0, 0]).1.down = true := by
        unfold Mem.put
        rw [if_pos ⟨by omega, by simp only [Mem.setCut]; omega⟩, if_neg (by simp [Mem.setCut, hd])]
        have hw : (M.setCut 0 0).wr.down = true := by unfold Mem.wr; rw [if_pos (by simp [Mem.setCut]; omega)]
        simp only
        split
        · exact hw
        · simpa [Mem.setc] using hw
      refine nvm_Memory_Put.g hM5 hl9 (Prod.eta _).symm ?_
      intro H6 hM6 f6
      have hlen6 : ((M.setCut 0 0).put 0 [9, 0, 0, 0, 0, 0, 0, 0]).1.cs.length = 6 := by rw [Mem.put_len]; exact hn
      generalize ((M.setCut 0 0).put 0 [9, 0, 0, 0, 0, 0, 0, 0]).1 = N at *
      refine nvm_Memory_Writes.s hM6 ?_
      have hK6 : Keeps H H6 := f6.keeps (f5.keeps hK (by omega) (by omega)) (by omega) (by omega)
      refine loopT_inv (t := ((t1, (0 : Int)) : Bool × Int)) (I := fun (t : Bool × Int) H' => ∃ j : Nat, t.2 = (j : Int) ∧ j ≤ l.length ∧ Keeps H H' ∧ MemAt H' (H.size + 1) H.size N) (m := fun (t : Bool × Int) _ => Int.toNat ((l.length : Int) - t.2)) ?_ ⟨0, rfl, by omega, hK6, hM6⟩
      intro t H7 hI it hit
      obtain ⟨t1', t2'⟩ := t
      obtain ⟨j, h1, h2, hK7, hM7⟩ := hI
      simp only at h1
      subst h1
      unfold darninglaw5_NvmNever.l2
      simp only [bcase_eq, decide_eq_true_eq, hr.1]
      by_cases hlt : (j : Int) < (l.length : Int)
      · rw [if_pos hlt]
        obtain ⟨b, o, ha, _, hrow⟩ := (hr.keep hK7).at (show j < l.length by omega)
        refine ⟨by omega, ?_⟩
        rw [ha, onPtr_mk, Int.toNat_natCast, ldA_some hrow]
        have hcl := hok _ (List.getElem_mem (show j < l.length by omega))
        generalize l[j] = cc at *
        refine new_call hcl rfl ?_
        intro hC
        rw [hC.c1, elI_some]
        refine ⟨by decide, ?_⟩
        rw [ldA_some hC.row]
        have h6 := umod (m := 6) (by omega) cc.1.2.1
        have h35 := umod (m := 35) (by omega) cc.1.2.1
        rw [wrap_i64 (n := Int.tmod (IntKind.wrap .u64 cc.1.2.1) 6) (by omega) (by omega)]
        refine nvm_Memory_Put.g (hM7.push _) hcl.line (Mem.put_dark hdark ⟨by omega, by omega⟩) ?_
        intro H8 hM8 f8
        rw [if_neg (by simp)]
        have hC8 := hC.keep (f8.get H7.size (by have := hM7.lp; omega) (by have := hM7.lc; omega))
        rw [hC8.c1, elI_some]
        refine ⟨by decide, ?_⟩
        rw [hC8.c11, elI_some, wrap_i64 (n := Int.tmod (IntKind.wrap .u64 cc.1.2.1) 35) (by omega) (by omega)]
        refine nvm_Memory_Set.g hM8 hcl.u (Mem.set_dark hdark ⟨by omega, by omega⟩) ?_
        intro H9 hM9 f9
        rw [if_neg (by simp), wrap_i64 (n := (j : Int) + 1) (by omega) (by omega)]
        exact hit _ _ ⟨j + 1, by simp, by omega, f9.keeps (f8.keeps (hK7.push _) (by omega) (by omega)) (by omega) (by omega), hM9⟩ (by simp only; omega)
      · rw [if_neg hlt]
        unfold darninglaw5_NvmNever.j1
        refine nvm_Memory_Down.s hM7 ?_
        rw [hdark, bcase_true]
        refine nvm_Memory_Writes.s hM7 ?_
        rw [beq_self_eq_true, bcase_true]
        exact darninglaw5_awake.s rfl
  · simp only [Mem.setCut]; omega

/-! ### NvmStays -/

/-- Line 1 and register 3 hold these; nothing wears, no power goes. -/
structure Stays5 (M : Mem) (old : List Int) (v : Int) : Prop where
  cut : M.cut = -1
  down : M.down = false
  len : M.cs.length = 5
  limit : (M.cl 1).limit = -1
  line : (M.cl 1).line = old
  reg : M.regs.getD 3 0 = v

theorem Stays5.put {M : Mem} {old l : List Int} {v i : Int} (h : Stays5 M old v) (hl : l.length = 8) (hi : i ≠ 1) : Stays5 (M.put i l).1 old v := by
  by_cases hh : M.has i
  · rw [Mem.put_calm h.cut h.down hh hl]
    split
    · exact ⟨h.cut, h.down, h.len, h.limit, h.line, h.reg⟩
    · have hh' := hh
      unfold Mem.has at hh'
      have hne : i.toNat ≠ 1 := by omega
      have hcl : ∀ x, (Mem.cl { M with writes := inc M.writes, cs := M.cs.set i.toNat x } 1) = M.cl 1 := by
        intro x; simp only [Mem.cl, List.getD_eq_getElem?_getD]; rw [List.getElem?_set_ne hne]
      exact ⟨h.cut, h.down, by simpa using h.len, by rw [hcl]; exact h.limit, by rw [hcl]; exact h.line, h.reg⟩
  · unfold Mem.put; rw [if_neg hh]; exact h
theorem Mem.set_calm {M : Mem} {i v : Int} (hc : M.cut = -1) (hd : M.down = false) (hi : regIn i) : M.set i v = ({ M with writes := inc M.writes, regs := M.regs.set i.toNat v }, 0) := by
  unfold Mem.set
  have hw : M.wr = { M with writes := inc M.writes } := by unfold Mem.wr; rw [if_neg (by omega), if_neg (by omega)]
  have hk : M.wmask = -1 := by unfold Mem.wmask; rw [if_neg (by omega)]
  rw [if_pos hi, if_neg (by simp [hd]), hk, mbit_neg 0 (by omega), if_pos rfl, hw]
  simp [Mem.told, hd]
theorem Stays5.set {M : Mem} {old : List Int} {v w i : Int} (h : Stays5 M old v) (hi : i ≠ 3) : Stays5 (M.set i w).1 old v := by
  by_cases hh : regIn i
  · rw [Mem.set_calm h.cut h.down hh]
    unfold regIn at hh
    refine ⟨h.cut, h.down, h.len, h.limit, h.line, ?_⟩
    have := h.reg
    simp only [List.getD_eq_getElem?_getD] at this ⊢
    rw [List.getElem?_set_ne (by omega)]
    exact this
  · unfold Mem.set; rw [if_neg hh]; exact h
end
end Go.Proofs.Ytomeldimnhapfaa
