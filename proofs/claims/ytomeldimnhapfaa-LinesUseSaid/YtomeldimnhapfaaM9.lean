import Derived.Test.YtomeldimnhapfaaM8
set_option linter.all false
set_option linter.all false
namespace Go.Proofs.Ytomeldimnhapfaa
open Go Go.Abs

theorem keeps_row {H H' : AH} {b i n : Nat} (h : Keeps H H') (hb : b < H.size) : AH.row? H' ⟨b, i, none⟩ n = AH.row? H ⟨b, i, none⟩ n := by
  simp only [AH.row?, h.2 b hb]
theorem keeps_cell {H H' : AH} {b i : Nat} (h : Keeps H H') (hb : b < H.size) : AH.cell? H' ⟨b, i, none⟩ = AH.cell? H ⟨b, i, none⟩ := by
  simp only [AH.cell?, h.2 b hb]

theorem Mem.put_cut0 {M : Mem} {i : Int} {l : List Int} (hc : M.cut = 0) (hd : M.down = false) (hi : M.has i) (hw : (M.cl i.toNat).worn = false) :
    M.put i l = ({ M with writes := inc M.writes, down := true, cs := M.cs.set i.toNat ⟨mixL (M.cl i.toNat).line l M.mask, inc (M.cl i.toNat).wear, (M.cl i.toNat).limit⟩ }, 2) := by
  unfold Mem.put
  have h1 : M.wr = { M with writes := inc M.writes, down := true } := by unfold Mem.wr; rw [if_pos hc]
  have h2 : M.wmask = M.mask := by unfold Mem.wmask; rw [if_pos hc]
  rw [if_pos hi, if_neg (by simp [hd])]
  simp only [hw, Bool.false_eq_true, if_false, h1, h2, Mem.setc, Mem.told]
  simp
theorem Mem.set_cut0 {M : Mem} {i v : Int} (hc : M.cut = 0) (hd : M.down = false) (hi : regIn i) :
    M.set i v = ({ M with writes := inc M.writes, down := true, regs := if mbit M.mask 0 then M.regs.set i.toNat v else M.regs }, 2) := by
  unfold Mem.set
  have h1 : M.wr = { M with writes := inc M.writes, down := true } := by unfold Mem.wr; rw [if_pos hc]
  have h2 : M.wmask = M.mask := by unfold Mem.wmask; rw [if_pos hc]
  rw [if_pos hi, if_neg (by simp [hd]), h1, h2]
  simp only [Mem.told, if_true]
  split <;> rfl

section
variable {H : AH}

theorem stays_tail {old now : List Int} {v w mask : Int} {H1 HL : AH} {M : Mem} {o6 o7 p c : Nat} (ho : isLine old) (hn : isLine now) (hv : isU v) (hw : isU w) (hK : Keeps H1 HL) (h6 : o6 < H1.size) (h7 : o7 < H1.size) (hp : H1.size ≤ p) (hc : H1.size ≤ c)
    (r6 : AH.row? H1 ⟨o6, 0, none⟩ 8 = some (lineV old)) (r7 : AH.row? H1 ⟨o7, 0, none⟩ 8 = some (lineV now)) (hM : MemAt HL p c M) (hS : Stays5 M old v) : darninglaw5_NvmStays.j1 v w mask (fun r _ => r = true) o6 o7 (some ⟨p, 0, none⟩) HL := by
  unfold darninglaw5_NvmStays.j1
  simp only [bcase_eq]
  refine nvm_Memory_Cut.g hM (by omega) ?_
  intro H2 hM2 f2
  have hK2 := f2.keeps hK hp hc
  have row6 : ∀ H', Keeps H1 H' → AH.row? H' ⟨o6, 0, none⟩ 8 = some (lineV old) := fun H' hk => by rw [keeps_row hk h6, r6]
  have row7 : ∀ H', Keeps H1 H' → AH.row? H' ⟨o7, 0, none⟩ 8 = some (lineV now) := fun H' hk => by rw [keeps_row hk h7, r7]
  rw [ldA_some (row7 _ hK2)]
  have hcl1 : (M.setCut 0 mask).cl (Int.toNat 1) = M.cl 1 := rfl
  have hput := Mem.put_cut0 (M := M.setCut 0 mask) (i := 1) (l := now) (by simp [Mem.setCut]; omega) hS.down ⟨by omega, by have := hS.len; simp only [Mem.setCut]; omega⟩ (by rw [hcl1]; simp [Cl.worn, hS.limit])
  rw [hcl1, hS.line, hS.limit] at hput
  refine nvm_Memory_Put.g hM2 hn hput ?_
  intro H3 hM3 f3
  have hK3 := f3.keeps hK2 hp hc
  generalize hM2e : ({ cs := (M.setCut 0 mask).cs.set (Int.toNat 1) ⟨mixL old now (M.setCut 0 mask).mask, inc (M.cl 1).wear, -1⟩, regs := (M.setCut 0 mask).regs, writes := inc (M.setCut 0 mask).writes, cut := (M.setCut 0 mask).cut, mask := (M.setCut 0 mask).mask, down := true } : Mem) = M2 at *
  have e_down : M2.down = true := by rw [← hM2e]
  have e_len : M2.cs.length = 5 := by rw [← hM2e]; simpa [Mem.setCut] using hS.len
  have e_cl : (M2.cl 1).line = mixL old now mask := by
    rw [← hM2e]
    have := hS.len
    simp [Mem.cl, Mem.setCut, List.getD_eq_getElem?_getD, this]
  have e_reg : M2.regs.getD 3 0 = v := by rw [← hM2e]; exact hS.reg
  have e_regs : M2.regs.length = 35 := hM3.ok.regs
  have hhas2 : M2.has 1 := ⟨by omega, by omega⟩
  have g2 : M2.get 1 = (List.replicate 8 0, 2) := by unfold Mem.get; rw [if_pos hhas2, if_pos e_down]
  refine nvm_Memory_Get.s hM3 ?_
  rw [g2, zeroV]
  refine new_line zero_line ?_
  refine nvm_Memory_Power.g (hM3.push _) ?_
  intro H4 hM4 f4
  have hK4 := f4.keeps (hK3.push _) hp hc
  refine nvm_Memory_Get.s hM4 ?_
  have hmx := mixL_line (mask := mask) ho hn
  have g4 : M2.power.get 1 = (mixL old now mask, 0) := by
    unfold Mem.get
    rw [if_pos (show M2.power.has 1 from hhas2), if_neg (by simp [Mem.power])]
    exact Prod.ext e_cl rfl
  rw [g4]
  refine new_line hmx ?_
  have hK5 := hK4.push (⟨lineV (mixL old now mask), .rw, 0⟩ : AObj)
  have hp4 := hM4.lp
  have hc4 := hM4.lc
  refine nvm_Memory_Cut.g (hM4.push _) (by omega) ?_
  intro H6 hM6 f6
  have hK6 := f6.keeps hK5 hp hc
  have r23 : AH.row? H6 ⟨H4.size, 0, none⟩ 8 = some (lineV (mixL old now mask)) := by
    rw [f6.row (by omega) (by omega), line_new hmx]
  have hset := Mem.set_cut0 (M := M2.power.setCut 0 mask) (i := 3) (v := w) (by simp [Mem.setCut]; omega) rfl ⟨by omega, by omega⟩
  refine nvm_Memory_Set.g hM6 hw hset ?_
  intro H7 hM7 f7
  have hK7 := f7.keeps hK6 hp hc
  have s6 : H6.size = H4.size + 1 := by rw [f6.size, push_size]
  have r23' : AH.row? H7 ⟨H4.size, 0, none⟩ 8 = some (lineV (mixL old now mask)) := by rw [f7.row (by omega) (by omega), r23]
  refine nvm_Memory_Power.g hM7 ?_
  intro H8 hM8 f8
  have hK8 := f8.keeps hK7 hp hc
  have r23'' : AH.row? H8 ⟨H4.size, 0, none⟩ 8 = some (lineV (mixL old now mask)) := by rw [f8.row (by omega) (by omega), r23']
  refine nvm_Memory_Reg.s hM8 ?_
  have g8 : (Mem.power { cs := (M2.power.setCut 0 mask).cs, regs := if mbit (M2.power.setCut 0 mask).mask 0 then (M2.power.setCut 0 mask).regs.set (Int.toNat 3) w else (M2.power.setCut 0 mask).regs, writes := inc (M2.power.setCut 0 mask).writes, cut := (M2.power.setCut 0 mask).cut, mask := (M2.power.setCut 0 mask).mask, down := true }).reg 3 = (if mbit mask 0 then w else v, 0) := by
    unfold Mem.reg
    rw [if_pos ⟨by omega, by omega⟩, if_neg (by simp [Mem.power])]
    refine Prod.ext ?_ rfl
    have e1 : (M2.power.setCut 0 mask).mask = mask := rfl
    have e2 : (M2.power.setCut 0 mask).regs = M2.regs := rfl
    simp only [Mem.power]
    show (if mbit mask 0 then M2.regs.set (Int.toNat 3) w else M2.regs).getD (Int.toNat 3) 0 = _
    by_cases hb : mbit mask 0 = true
    · rw [if_pos hb, if_pos hb, List.getD_eq_getElem?_getD]
      rw [List.getElem?_set_self (by rw [e_regs]; decide)]; rfl
    · rw [if_neg hb, if_neg hb]; exact e_reg
  rw [g8]
  simp only [beq_self_eq_true, if_true]
  rw [ldA_some (row6 _ hK8), ldA_some (row7 _ hK8), ldA_some r23'']
  refine torn_Could.s ho hn hmx ?_
  rw [decide_eq_true (could_mix ho hn), if_pos rfl, ldA_some r23'', ldA_some (row6 _ hK8), ldA_some (row7 _ hK8)]
  refine torn_Mix.s ho hn ?_
  refine ⟨r23'', ?_⟩
  rw [eq_line hmx hmx, beq_self_eq_true, if_pos rfl, and1]
  have hb : (mask % 2 == 1) = mbit mask 0 := by rw [← and1, mbit0]
  rw [hb]
  by_cases hb' : mbit mask 0 = true
  · rw [if_pos hb', if_pos hb', beq_self_eq_true, if_pos rfl]
    exact darninglaw5_awake.s rfl
  · rw [if_neg hb', if_neg hb', beq_self_eq_true, if_pos rfl]
    have : mask % 2 = 0 := by
      have h1 : ¬ (mask % 2 = 1) := by intro h; apply hb'; rw [← hb]; simpa using h
      omega
    rw [this, beq_self_eq_true, if_pos rfl]
    exact darninglaw5_awake.s rfl

theorem darninglaw5_NvmStays.t {old now : List Int} {v w mask : Int} {x5 : Sl} {l : List ((Int × Int × Int) × List Int × Int)} (ho : isLine old) (hn : isLine now) (hv' : (Lit.int .u64 v).wf = true) (hw' : (Lit.int .u64 w).wf = true) (_ : (Lit.int .i64 mask).wf = true)
    (hr : Abs.Rows H x5 12 callV l) (hok : ∀ c ∈ l, callOK c) (_ : l.length ≤ maxLen) : darninglaw5_NvmStays (lineV old) (lineV now) v w mask x5 H (fun r _ => r = true) := by
  have hv : isU v := wf_u64 hv'
  have hw : isU w := wf_u64 hw'
  refine darninglaw5_NvmStays.link ?_
  unfold darninglaw5_NvmStays.b
  simp only [newC_eq, bcase_eq, decide_eq_true_eq, hr.1]
  by_cases hlen : (l.length : Int) > 100
  · rw [if_pos hlen]; exact darninglaw5_awake.s rfl
  rw [if_neg hlen]
  generalize hH1 : (H.push ⟨lineV old, .rw, 0⟩).push ⟨lineV now, .rw, 0⟩ = H1
  have hk1 : Keeps H H1 := by rw [← hH1]; exact ((Keeps.refl H).push _).push _
  have hs1 : H1.size = H.size + 2 := by rw [← hH1]; simp [push_size]
  have r6 : AH.row? H1 ⟨H.size, 0, none⟩ 8 = some (lineV old) := by
    rw [← hH1, row_push (by simp [push_size])]; exact line_new ho
  have r7 : AH.row? H1 ⟨(H.push ⟨lineV old, .rw, 0⟩).size, 0, none⟩ 8 = some (lineV now) := by
    rw [← hH1]; exact line_new hn
  have h7 : (H.push ⟨lineV old, .rw, 0⟩).size < H1.size := by rw [hs1]; simp [push_size]
  generalize (H.push ⟨lineV old, .rw, 0⟩).size = o7 at *
  refine nvm_New.s (limits := []) rows_nil ?_ (fun h => absurd (by omega) h)
  intro _ H2 hm hk _
  rw [ldA_some (by rw [keeps_row hk (by omega), r6])]
  have hput := Mem.put_calm (M := Mem.new (Int.toNat 5) []) (i := 1) (l := old) rfl rfl (by decide) ho.1
  rw [if_neg (by decide)] at hput
  refine nvm_Memory_Put.g hm ho hput ?_
  intro H3 hm3 f3
  rw [if_neg (by simp)]
  have hset := Mem.set_calm (M := { Mem.new (Int.toNat 5) [] with writes := inc (Mem.new (Int.toNat 5) []).writes, cs := (Mem.new (Int.toNat 5) []).cs.set (Int.toNat 1) ⟨old, inc ((Mem.new (Int.toNat 5) []).cl (Int.toNat 1)).wear, ((Mem.new (Int.toNat 5) []).cl (Int.toNat 1)).limit⟩ }) (i := 3) (v := v) rfl rfl ⟨by omega, by omega⟩
  refine nvm_Memory_Set.g hm3 hv hset ?_
  intro H4 hm4 f4
  unfold darninglaw5_NvmStays.j7
  rw [show ((0 : Int) != 0) = false from rfl, bcase_false]
  have hK4 : Keeps H1 H4 := f4.keeps (f3.keeps hk (by omega) (by omega)) (by omega) (by omega)
  have hS0 : ∀ M, M = ({ cs := (Mem.new (Int.toNat 5) []).cs.set (Int.toNat 1) ⟨old, inc ((Mem.new (Int.toNat 5) []).cl (Int.toNat 1)).wear, ((Mem.new (Int.toNat 5) []).cl (Int.toNat 1)).limit⟩, regs := (Mem.new (Int.toNat 5) []).regs.set (Int.toNat 3) v, writes := inc (inc (Mem.new (Int.toNat 5) []).writes), cut := -1, mask := 0, down := false } : Mem) → Stays5 M old v := by
    rintro M rfl
    exact ⟨rfl, rfl, rfl, rfl, rfl, rfl⟩
  refine loopT_inv (t := ((false, (0 : Int)) : Bool × Int)) (I := fun (t : Bool × Int) H' => ∃ i : Nat, t.2 = (i : Int) ∧ i ≤ l.length ∧ Keeps H1 H' ∧ ∃ M, MemAt H' (H1.size + 1) H1.size M ∧ Stays5 M old v) (m := fun (t : Bool × Int) _ => Int.toNat ((l.length : Int) - t.2)) ?_ ⟨0, rfl, by omega, hK4, _, hm4, hS0 _ rfl⟩
  intro t H5 hI it hit
  obtain ⟨t1, t2⟩ := t
  obtain ⟨i, h1, h2, hK, M, hM, hS⟩ := hI
  simp only at h1
  subst h1
  unfold darninglaw5_NvmStays.l6
  simp only [bcase_eq, decide_eq_true_eq, hr.1]
  by_cases hlt : (i : Int) < (l.length : Int)
  · rw [if_pos hlt]
    obtain ⟨b, o, ha, _, hrow⟩ := (hr.keep (hk1.trans hK)).at (show i < l.length by omega)
    refine ⟨by omega, ?_⟩
    rw [ha, onPtr_mk, Int.toNat_natCast, ldA_some hrow]
    have hcl := hok _ (List.getElem_mem (show i < l.length by omega))
    generalize l[i] = cc at *
    refine new_call hcl rfl ?_
    intro hC
    have j3 : ∀ H' M', Keeps H1 H' → MemAt H' (H1.size + 1) H1.size M' → Stays5 M' old v → darninglaw5_NvmStays.j3 v (fun r _ => r = true) H.size (some ⟨H1.size + 1, 0, none⟩) (t1, (i : Int)) it H' := by
      intro H' M' hK' hM' hS'
      unfold darninglaw5_NvmStays.j3 darninglaw5_NvmStays.j2
      simp only [bcase_eq]
      refine nvm_Memory_Get.s hM' ?_
      have hg : M'.get 1 = (old, 0) := by
        unfold Mem.get
        rw [if_pos ⟨by omega, by have := hS'.len; omega⟩, if_neg (by simp [hS'.down])]
        exact Prod.ext hS'.line rfl
      rw [hg, zeroV]
      refine new_line ho ?_
      refine nvm_Memory_Reg.s (hM'.push _) ?_
      have hreg : M'.reg 3 = (v, 0) := by
        unfold Mem.reg
        rw [if_pos ⟨by omega, by omega⟩, if_neg (by simp [hS'.down])]
        exact Prod.ext hS'.reg rfl
      rw [ldA_some (line_new ho), ldA_some (by rw [keeps_row (hK'.push _) (by omega), r6]), eq_line ho ho, beq_self_eq_true, hreg, wrap_i64 (n := (i : Int) + 1) (by omega) (by omega)]
      rw [if_neg (by simp), if_neg (by simp)]
      exact hit _ _ ⟨i + 1, by simp, by omega, hK'.push _, _, hM'.push _, hS'⟩ (by simp only; omega)
    have j5 : ∀ b, (b = true → cc.1.2.1 ≠ 1) → darninglaw5_NvmStays.j5 v (fun r _ => r = true) H.size (some ⟨H1.size + 1, 0, none⟩) (t1, (i : Int)) it H5.size (H5.push ⟨callV cc, .rw, 0⟩) b := by
      intro b hb
      unfold darninglaw5_NvmStays.j5
      simp only [bcase_eq]
      by_cases hb' : b = true
      · rw [if_pos hb', hC.c1, elI_some, ldA_some hC.row]
        refine nvm_Memory_Put.g (hM.push _) hcl.line (Prod.eta _).symm ?_
        intro H6 hM6 f6
        exact j3 _ _ (f6.keeps (hK.push _) (by omega) (by omega)) hM6 (hS.put hcl.line.1 (hb hb'))
      · rw [if_neg hb', hC.c0, elI_some]
        have j4 : ∀ b, (b = true → cc.1.2.1 ≠ 3) → darninglaw5_NvmStays.j4 v (fun r _ => r = true) H.size (some ⟨H1.size + 1, 0, none⟩) (t1, (i : Int)) it H5.size (H5.push ⟨callV cc, .rw, 0⟩) b := by
          intro b hb
          unfold darninglaw5_NvmStays.j4
          simp only [bcase_eq]
          by_cases hb' : b = true
          · rw [if_pos hb', hC.c1, elI_some, hC.c11, elI_some]
            refine nvm_Memory_Set.g (hM.push _) hcl.u (Prod.eta _).symm ?_
            intro H6 hM6 f6
            exact j3 _ _ (f6.keeps (hK.push _) (by omega) (by omega)) hM6 (hS.set (hb hb'))
          · rw [if_neg hb']
            exact j3 _ _ (hK.push _) (hM.push _) hS
        by_cases h1 : cc.1.1 = 1
        · rw [if_pos (by simpa using h1), hC.c1, elI_some]
          exact j4 _ (by simp)
        · rw [if_neg (by simpa using h1)]
          exact j4 _ (by simp)
    rw [hC.c0, elI_some]
    by_cases h0 : cc.1.1 = 0
    · rw [if_pos (by simpa using h0), hC.c1, elI_some]
      exact j5 _ (by simp)
    · rw [if_neg (by simpa using h0)]
      exact j5 _ (by simp)
  · rw [if_neg hlt]
    exact stays_tail ho hn hv hw hK (by omega) h7 (by omega) (by omega) r6 r7 hM hS
end
end Go.Proofs.Ytomeldimnhapfaa
