import Derived.Test.YtgechnnadjonaabM2
set_option linter.all false
set_option linter.all false
namespace Go.Proofs.Ytgechnnadjonaab
open Go Go.Abs

theorem wrap64_range (n : Int) : -9223372036854775808 ≤ IntKind.wrap .i64 n ∧ IntKind.wrap .i64 n ≤ 9223372036854775807 := by
  simp only [IntKind.wrap, IntKind.bits, IntKind.signed]
  simp only [Bool.true_and, decide_eq_true_eq, ge_iff_le, Nat.reduceSub, Int.reducePow]
  split <;> omega

theorem Mem.wr_ok {M : Mem} (h : M.ok) : M.wr.ok := by
  have := h.cut
  unfold Mem.wr
  split
  · exact ⟨h.lines, h.regs, h.regU, h.len, h.cut⟩
  · split
    · exact ⟨h.lines, h.regs, h.regU, h.len, by simp only; omega⟩
    · exact ⟨h.lines, h.regs, h.regU, h.len, h.cut⟩
theorem Mem.wr_cs {M : Mem} : M.wr.cs = M.cs := by
  unfold Mem.wr; split
  · rfl
  · split <;> rfl
theorem Mem.wr_regs {M : Mem} : M.wr.regs = M.regs := by
  unfold Mem.wr; split
  · rfl
  · split <;> rfl
theorem Mem.wr_has {M : Mem} {i : Int} : M.wr.has i ↔ M.has i := by unfold Mem.has; rw [Mem.wr_cs]
theorem Mem.wr_cl {M : Mem} {i : Nat} : M.wr.cl i = M.cl i := by unfold Mem.cl; rw [Mem.wr_cs]
theorem Mem.setc_has {M : Mem} {i : Int} {j : Nat} {x : Cl} : (M.setc j x).has i ↔ M.has i := by simp [Mem.has, Mem.setc]
theorem Mem.setc_ok {M : Mem} (h : M.ok) {i : Nat} {x : Cl} (hx : isLine x.line) : (M.setc i x).ok := by
  refine ⟨?_, h.regs, h.regU, by simpa [Mem.setc] using h.len, h.cut⟩
  intro y hy
  rcases List.mem_or_eq_of_mem_set hy with h' | rfl
  · exact h.lines y h'
  · exact hx
theorem Mem.setc_setc {M : Mem} {i : Nat} {x y : Cl} : (M.setc i x).setc i y = M.setc i y := by simp [Mem.setc, List.set_set]
theorem Mem.setc_cl {M : Mem} {i : Int} {x : Cl} (hi : M.has i) : (M.setc i.toNat x).cl i.toNat = x := by
  unfold Mem.has at hi
  have : i.toNat < M.cs.length := by omega
  simp [Mem.cl, Mem.setc, List.getD_eq_getElem?_getD, this]

theorem mixL_line {old now : List Int} {mask : Int} (h : isLine old) (h' : isLine now) : isLine (mixL old now mask) := by
  refine ⟨by simp [mixL], fun v hv => ?_⟩
  simp only [mixL, List.mem_map, List.mem_range] at hv
  obtain ⟨i, hi, rfl⟩ := hv
  split
  · rw [List.getD_eq_getElem?_getD, List.getElem?_eq_getElem (by rw [h'.1]; exact hi)]
    exact h'.2 _ (List.getElem_mem _)
  · rw [List.getD_eq_getElem?_getD, List.getElem?_eq_getElem (by rw [h.1]; exact hi)]
    exact h.2 _ (List.getElem_mem _)
theorem zero_line : isLine (List.replicate 8 0) := ⟨rfl, fun v hv => by rw [List.eq_of_mem_replicate hv]; unfold isU; omega⟩

theorem and1 (x : Int) : andI .i64 x 1 = x % 2 := by
  have h0 : andI .i64 x 1 = IntKind.wrap .i64 ((BitVec.ofInt 64 x &&& BitVec.ofInt 64 1).toNat : Int) := rfl
  have h1 : (BitVec.ofInt 64 x &&& BitVec.ofInt 64 1) = BitVec.ofNat 64 ((x % 2).toNat) := by
    apply BitVec.eq_of_getLsbD_eq
    intro i hi
    have e1 : (BitVec.ofInt 64 1) = 1#64 := rfl
    rw [BitVec.getLsbD_and, e1]
    have hx : (BitVec.ofInt 64 x).toNat = (x % 18446744073709551616).toNat := by simp [BitVec.toNat_ofInt]
    rcases Nat.eq_zero_or_pos i with rfl | hpos
    · simp only [BitVec.getLsbD_one, BitVec.getLsbD_ofNat]
      simp only [BitVec.getLsbD, hx, Nat.testBit_zero]
      have : (x % 18446744073709551616).toNat % 2 = (x % 2).toNat % 2 := by omega
      simp [this]
    · have : (BitVec.getLsbD 1#64 i) = false := by simp [BitVec.getLsbD_one]; omega
      rw [this, Bool.and_false, BitVec.getLsbD_ofNat]
      have h2 : (x % 2).toNat < 2 ^ i := by
        have : 2 ≤ 2 ^ i := by calc 2 = 2 ^ 1 := rfl
          _ ≤ 2 ^ i := Nat.pow_le_pow_right (by omega) hpos
        omega
      rw [Nat.testBit_lt_two_pow h2, Bool.and_false]
  rw [h0, h1]
  rw [BitVec.toNat_ofNat]
  rw [Nat.mod_eq_of_lt (by omega)]
  have : ((x % 2).toNat : Int) = x % 2 := by omega
  rw [this, wrap_i64 (by omega) (by omega)]

theorem shr_bit (x : Int) (i : Nat) (h : i ≤ 64) : shrI .i64 x (i : Int) = x / 2 ^ i := by
  unfold shrI
  rw [show min ((i : Int).toNat) (IntKind.bits .i64) = i from by simp [IntKind.bits]; omega]
  rw [Int.fdiv_eq_ediv_of_nonneg _ (Int.pow_nonneg (by omega))]

theorem mbit_eq (x : Int) (i : Nat) (h : i ≤ 64) : (andI .i64 (shrI .i64 x (i : Int)) 1 == 1) = mbit x i := by
  rw [and1, shr_bit _ _ h, mbit]
  by_cases hh : x / 2 ^ i % 2 = 1
  · simp [hh]
  · simp [hh]
theorem mbit_eq0 (x : Int) (i : Nat) (h : i ≤ 64) : (andI .i64 (shrI .i64 x (i : Int)) 1 == 0) = !mbit x i := by
  rw [and1, shr_bit _ _ h, mbit]
  have := Int.emod_two_eq (x / 2 ^ i)
  rcases this with hh | hh <;> simp [hh]
theorem mbit0 (x : Int) : (andI .i64 x 1 == 1) = mbit x 0 := by
  rw [and1, mbit]
  by_cases hh : x % 2 = 1 <;> simp [hh]

theorem mbit_neg (i : Nat) (h : i < 64) : mbit (-1) i = true := by
  unfold mbit
  have hpos : (0 : Int) < 2 ^ i := Int.pow_pos (by omega)
  have : (-1 : Int) / 2 ^ i = -1 := by
    rw [Int.neg_one_ediv]
    rw [Int.sign_eq_one_of_pos hpos]
  simp [this]
theorem mixL_all {old now : List Int} (h : now.length = 8) : mixL old now (-1) = now := by
  apply List.ext_getElem?
  intro i
  by_cases hi : i < 8
  · simp only [mixL, List.getElem?_map, List.getElem?_range hi, Option.map_some]
    rw [mbit_neg i (by omega), if_pos rfl, List.getD_eq_getElem?_getD, List.getElem?_eq_getElem (by omega), Option.getD_some]
  · rw [List.getElem?_eq_none (by simp [mixL]; omega), List.getElem?_eq_none (by omega)]

section
variable {H : AH} {p c : Nat} {M : Mem} {i : Int}

theorem nvm_Memory_Lines.s {k : Int → AH → Prop} (hm : MemAt H p c M) (h : k M.cs.length H) : nvm_Memory_Lines (some ⟨p, 0, none⟩) H k := by
  refine nvm_Memory_Lines.link ?_
  simp only [nvm_Memory_Lines.b, Option.isNone_some, onPtr_mk, hm.c0, elL_some, bcase_eq, Bool.false_eq_true, if_false]
  exact h
theorem nvm_Memory_Lines.n {k : Int → AH → Prop} (h : k 0 H) : nvm_Memory_Lines none H k := by
  refine nvm_Memory_Lines.link ?_
  simp only [nvm_Memory_Lines.b, Option.isNone_none, bcase_eq, if_true]
  exact h

theorem nvm_Memory_has.s {k : Bool → AH → Prop} (hm : MemAt H p c M) (h : k (decide (M.has i)) H) : nvm_Memory_has (some ⟨p, 0, none⟩) i H k := by
  refine nvm_Memory_has.link ?_
  simp only [nvm_Memory_has.b, bcase_eq, decide_eq_true_eq, ge_iff_le]
  by_cases h0 : 0 ≤ i
  · rw [if_pos h0]
    refine nvm_Memory_Lines.s hm ?_
    rw [show decide (i < (M.cs.length : Int)) = decide (M.has i) from decide_eq_decide.2 (by unfold Mem.has; omega)]
    exact h
  · rw [if_neg h0]
    rw [show decide (M.has i) = false from decide_eq_false (by unfold Mem.has; omega)] at h
    exact h
theorem nvm_Memory_has.n {k : Bool → AH → Prop} (h : k false H) : nvm_Memory_has none i H k := by
  refine nvm_Memory_has.link ?_
  simp only [nvm_Memory_has.b, bcase_eq, decide_eq_true_eq, ge_iff_le]
  by_cases h0 : 0 ≤ i
  · rw [if_pos h0]
    refine nvm_Memory_Lines.n ?_
    rw [show decide (i < 0) = false from decide_eq_false (by omega)]
    exact h
  · rw [if_neg h0]; exact h

theorem nvm_Memory_hasReg.s {k : Bool → AH → Prop} {a : Addr} (h : k (decide (regIn i)) H) : nvm_Memory_hasReg (some a) i H k := by
  refine nvm_Memory_hasReg.link ?_
  simp only [nvm_Memory_hasReg.b, bcase_eq, Option.isNone_some, Bool.not_false, if_true, decide_eq_true_eq, ge_iff_le]
  by_cases h0 : 0 ≤ i
  · rw [if_pos h0, show decide (i < 35) = decide (regIn i) from decide_eq_decide.2 (by unfold regIn; omega)]; exact h
  · rw [if_neg h0]; rw [show decide (regIn i) = false from decide_eq_false (by unfold regIn; omega)] at h; exact h
theorem nvm_Memory_hasReg.n {k : Bool → AH → Prop} (h : k false H) : nvm_Memory_hasReg none i H k := by
  refine nvm_Memory_hasReg.link ?_
  simp only [nvm_Memory_hasReg.b, bcase_eq, Option.isNone_none, Bool.not_true, Bool.false_eq_true, if_false]
  exact h

theorem nvm_Memory_write.s {k : Int → AH → Prop} (hm : MemAt H p c M) (h : k M.wmask (setM H p c M.wr)) : nvm_Memory_write (some ⟨p, 0, none⟩) H k := by
  refine nvm_Memory_write.link ?_
  have h1 : MemAt (setM H p c { M with writes := inc M.writes }) p c { M with writes := inc M.writes } := hm.set ⟨hm.ok.lines, hm.ok.regs, hm.ok.regU, hm.ok.len, hm.ok.cut⟩
  have h2 : MemAt (setM H p c { M with writes := inc M.writes, down := true }) p c { M with writes := inc M.writes, down := true } := hm.set ⟨hm.ok.lines, hm.ok.regs, hm.ok.regU, hm.ok.len, hm.ok.cut⟩
  have hc := hm.ok.cut
  have hw : IntKind.wrap .i64 (M.writes + 1) = inc M.writes := rfl
  simp only [nvm_Memory_write.b, onPtr_mk, hm.c36, elI_some, stC_eq, hm.can (i := 36) (by omega), hw, List.length_cons, List.length_nil, true_and, hm.p36, h1.c37, bcase_eq, beq_iff_eq, h1.can (i := 39) (by omega), h1.p39, h2.c38, decide_eq_true_eq, gt_iff_lt, h1.can (i := 37) (by omega), h1.p37, setM_setM]
  unfold Mem.wmask Mem.wr at h
  by_cases h0 : M.cut = 0
  · rw [if_pos h0] at h ⊢
    rw [if_pos h0] at h
    exact h
  · rw [if_neg h0] at h ⊢
    rw [if_neg h0] at h
    by_cases h3 : 0 < M.cut
    · rw [if_pos h3] at h ⊢
      rw [wrap_i64 (by omega) (by omega)]
      exact h
    · rw [if_neg h3] at h ⊢
      exact h

theorem nvm_Memory_told.s {k : Int → AH → Prop} {w : Bool} (hm : MemAt H p c M) (h : k (M.told w) H) : nvm_Memory_told (some ⟨p, 0, none⟩) w H k := by
  refine nvm_Memory_told.link ?_
  simp only [nvm_Memory_told.b, onPtr_mk, hm.c39, elB_some, bcase_eq]
  unfold Mem.told at h
  split <;> simp_all
  split <;> simp_all

theorem nvm_Memory_Down.s {k : Bool → AH → Prop} (hm : MemAt H p c M) (h : k M.down H) : nvm_Memory_Down (some ⟨p, 0, none⟩) H k := by
  refine nvm_Memory_Down.link ?_
  simp only [nvm_Memory_Down.b, Option.isNone_some, Bool.not_false, if_true, onPtr_mk, hm.c39, elB_some, bcase_eq]
  exact h
theorem nvm_Memory_Down.n {k : Bool → AH → Prop} (h : k false H) : nvm_Memory_Down none H k := by
  refine nvm_Memory_Down.link ?_
  simp only [nvm_Memory_Down.b, Option.isNone_none, Bool.not_true, Bool.false_eq_true, if_false, bcase_eq]
  exact h

theorem Mem.setCut_ok (h : M.ok) {n mask : Int} (hn : n ≤ 9223372036854775807) : (M.setCut n mask).ok :=
  ⟨h.lines, h.regs, h.regU, h.len, by simp only [Mem.setCut]; omega⟩
theorem nvm_Memory_Cut.s {k : AH → Prop} {n mask : Int} (hm : MemAt H p c M) (hn : n ≤ 9223372036854775807) (h : k (setM H p c (M.setCut n mask))) : nvm_Memory_Cut (some ⟨p, 0, none⟩) n mask H k := by
  refine nvm_Memory_Cut.link ?_
  have e : (if (-1 : Int) > n then (-1 : Int) else n) = max n (-1) := by split <;> omega
  have h1 : MemAt (setM H p c { M with cut := max n (-1) }) p c { M with cut := max n (-1) } := hm.set ⟨hm.ok.lines, hm.ok.regs, hm.ok.regU, hm.ok.len, by simp only; omega⟩
  simp only [nvm_Memory_Cut.b, Option.isNone_some, Bool.not_false, if_true, bcase_eq, onPtr_mk, e, stC_eq, hm.can (i := 37) (by omega), List.length_cons, List.length_nil, true_and, hm.p37, h1.can (i := 38) (by omega), h1.p38, setM_setM]
  exact h
theorem nvm_Memory_Cut.n {k : AH → Prop} {n mask : Int} (h : k H) : nvm_Memory_Cut none n mask H k := by
  refine nvm_Memory_Cut.link ?_
  simp only [nvm_Memory_Cut.b, Option.isNone_none, Bool.not_true, Bool.false_eq_true, if_false, bcase_eq]
  exact h

theorem Mem.power_ok (h : M.ok) : M.power.ok := ⟨h.lines, h.regs, h.regU, h.len, by simp only [Mem.power]; omega⟩
theorem nvm_Memory_Power.s {k : AH → Prop} (hm : MemAt H p c M) (h : k (setM H p c M.power)) : nvm_Memory_Power (some ⟨p, 0, none⟩) H k := by
  refine nvm_Memory_Power.link ?_
  have h1 : MemAt (setM H p c { M with cut := -1 }) p c { M with cut := -1 } := hm.set ⟨hm.ok.lines, hm.ok.regs, hm.ok.regU, hm.ok.len, by simp only; omega⟩
  simp only [nvm_Memory_Power.b, Option.isNone_some, Bool.not_false, if_true, bcase_eq, onPtr_mk, stC_eq, hm.can (i := 37) (by omega), List.length_cons, List.length_nil, true_and, hm.p37, h1.can (i := 39) (by omega), h1.p39, setM_setM]
  exact h
theorem nvm_Memory_Power.n {k : AH → Prop} (h : k H) : nvm_Memory_Power none H k := by
  refine nvm_Memory_Power.link ?_
  simp only [nvm_Memory_Power.b, Option.isNone_none, Bool.not_true, Bool.false_eq_true, if_false, bcase_eq]
  exact h

theorem nvm_Memory_Reg.s {k : Int → Int → AH → Prop} (hm : MemAt H p c M) (h : k (M.reg i).1 (M.reg i).2 H) : nvm_Memory_Reg (some ⟨p, 0, none⟩) i H k := by
  refine nvm_Memory_Reg.link ?_
  unfold nvm_Memory_Reg.b
  refine nvm_Memory_hasReg.s ?_
  unfold Mem.reg at h
  by_cases hi : regIn i
  · have hi' := hi
    unfold regIn at hi'
    rw [if_pos hi] at h
    simp only [hi, decide_true, Bool.not_true, bcase_eq, Bool.false_eq_true, if_false, onPtr_mk, hm.c39, elB_some]
    by_cases hd : M.down
    · rw [if_pos hd] at h ⊢; exact h
    · rw [if_neg hd] at h ⊢
      refine ⟨by omega, ?_⟩
      rw [addr_add, addr_add, Nat.zero_add, Nat.mul_one, hm.cr (by omega), elI_some]
      exact h
  · rw [if_neg hi] at h
    simp only [hi, decide_false, Bool.not_false, bcase_eq, if_true]
    exact h
theorem nvm_Memory_Reg.n {k : Int → Int → AH → Prop} (h : k 0 1 H) : nvm_Memory_Reg none i H k := by
  refine nvm_Memory_Reg.link ?_
  unfold nvm_Memory_Reg.b
  refine nvm_Memory_hasReg.n ?_
  simp only [Bool.not_false, bcase_eq, if_true]
  exact h

theorem Mem.set_ok (h : M.ok) {v : Int} (hv : isU v) : (M.set i v).1.ok := by
  unfold Mem.set
  split
  · split
    · exact h
    · have hw := Mem.wr_ok h
      simp only
      split
      · refine ⟨hw.lines, by simp [h.regs], fun x hx => ?_, hw.len, hw.cut⟩
        rcases List.mem_or_eq_of_mem_set hx with h' | rfl
        · exact h.regU x h'
        · exact hv
      · exact hw
  · exact h
theorem nvm_Memory_Set.s {k : Int → AH → Prop} {v : Int} (hm : MemAt H p c M) (hv : isU v) (h : k (M.set i v).2 (setM H p c (M.set i v).1)) : nvm_Memory_Set (some ⟨p, 0, none⟩) i v H k := by
  refine nvm_Memory_Set.link ?_
  unfold nvm_Memory_Set.b
  refine nvm_Memory_hasReg.s ?_
  have hok := Mem.set_ok (i := i) hm.ok hv
  unfold Mem.set at h hok
  by_cases hi : regIn i
  · have hi' := hi
    unfold regIn at hi'
    rw [if_pos hi] at h hok
    simp only [hi, decide_true, Bool.not_true, bcase_eq, Bool.false_eq_true, if_false, onPtr_mk, hm.c39, elB_some]
    by_cases hd : M.down
    · rw [if_pos hd] at h ⊢; rw [hm.same] at h; exact h
    · rw [if_neg hd] at h ⊢
      rw [if_neg hd] at hok
      refine nvm_Memory_write.s hm ?_
      have h1 := hm.set (Mem.wr_ok hm.ok)
      rw [mbit0]
      by_cases hb : mbit M.wmask 0 = true
      · rw [if_pos hb]
        rw [if_pos hb] at h hok
        refine ⟨by omega, ?_⟩
        rw [addr_add, Nat.zero_add, Nat.mul_one]
        rw [stC_eq]
        have hreg : M.wr.regs = M.regs := Mem.wr_regs
        have e1 : Addr.add ⟨p, 1, none⟩ i.toNat = Addr.add ⟨p, 0, none⟩ (1 + i.toNat) := by rw [addr_add, addr_add, Nat.zero_add]
        rw [e1]
        refine ⟨h1.can (by omega), ?_⟩
        rw [h1.pr (by omega), setM_setM, hreg]
        unfold nvm_Memory_Set.j1
        refine nvm_Memory_told.s (hm.set hok) ?_
        exact h
      · rw [if_neg hb]
        rw [if_neg hb] at h hok
        unfold nvm_Memory_Set.j1
        refine nvm_Memory_told.s h1 ?_
        exact h
  · rw [if_neg hi] at h
    rw [hm.same] at h
    simp only [hi, decide_false, Bool.not_false, bcase_eq, if_true]
    exact h
theorem nvm_Memory_Set.n {k : Int → AH → Prop} {v : Int} (h : k 1 H) : nvm_Memory_Set none i v H k := by
  refine nvm_Memory_Set.link ?_
  unfold nvm_Memory_Set.b
  refine nvm_Memory_hasReg.n ?_
  simp only [Bool.not_false, bcase_eq, if_true]
  exact h
end
end Go.Proofs.Ytgechnnadjonaab
