import Derived.Test.YtomeldimnhapfaaM6
set_option linter.all false
set_option linter.all false
namespace Go.Proofs.Ytomeldimnhapfaa
open Go Go.Abs

theorem umod {m : Int} (hm : 0 < m) (z : Int) : 0 ≤ Int.tmod (IntKind.wrap .u64 z) m ∧ Int.tmod (IntKind.wrap .u64 z) m < m := by
  have h0 : 0 ≤ IntKind.wrap .u64 z := by
    simp only [IntKind.wrap, IntKind.bits, IntKind.signed, Bool.false_and, Int.reducePow, Bool.false_eq_true, if_false]; omega
  rw [Int.tmod_eq_emod_of_nonneg h0]
  exact ⟨Int.emod_nonneg _ (by omega), Int.emod_lt_of_pos _ (by omega)⟩

theorem inc_eq {n : Int} (h : 0 ≤ n) (h' : n < 9223372036854775807) : inc n = n + 1 := wrap_i64 (by omega) (by omega)

section
variable {H : AH}

theorem Mem.new_cl {n i : Nat} {limits : List Int} (hi : i < n) : (Mem.new n limits).cl i = ⟨List.replicate 8 0, 0, limits.getD i (-1)⟩ := by
  rw [← Mem.newTo_n, Mem.newTo_cl hi, if_pos hi]

/-! ### NvmLasts -/

/-- Behind i rounds. -/
structure Lasts (limit : Int) (i : Nat) (M : Mem) : Prop where
  cut : M.cut = -1
  down : M.down = false
  cs : M.cs = [⟨[min (i : Int) limit, 0, 0, 0, 0, 0, 0, 0], min (i : Int) limit, limit⟩, ⟨[if i = 0 then 0 else 7, 0, 0, 0, 0, 0, 0, 0], i, -1⟩]
  writes : M.writes = 2 * i
  ok : M.ok

theorem Lasts.step {limit : Int} {i : Nat} {M : Mem} (h : Lasts limit i M) (hl : 0 ≤ limit) (hi : i < 100) :
    (M.put 0 [(i : Int) + 1, 0, 0, 0, 0, 0, 0, 0]).2 = (if (i : Int) < limit then 0 else 3) ∧
    ((M.put 0 [(i : Int) + 1, 0, 0, 0, 0, 0, 0, 0]).1.put 1 [7, 0, 0, 0, 0, 0, 0, 0]).2 = 0 ∧
    Lasts limit (i + 1) ((M.put 0 [(i : Int) + 1, 0, 0, 0, 0, 0, 0, 0]).1.put 1 [7, 0, 0, 0, 0, 0, 0, 0]).1 := by
  obtain ⟨h1, h2, h3, h4, h5⟩ := h
  have hb : isLine [(i : Int) + 1, 0, 0, 0, 0, 0, 0, 0] := isLine_lit (by unfold isU; omega)
  have hb7 : isLine [7, 0, 0, 0, 0, 0, 0, 0] := isLine_lit (by unfold isU; omega)
  have ok1 := Mem.put_ok (i := 0) h5 hb
  have ok2 := Mem.put_ok (i := 1) ok1 hb7
  have hh0 : M.has 0 := by simp [Mem.has, h3]
  have e0 : M.cl (Int.toNat 0) = ⟨[min (i : Int) limit, 0, 0, 0, 0, 0, 0, 0], min (i : Int) limit, limit⟩ := by simp [Mem.cl, h3]
  have w0 : (⟨[min (i : Int) limit, 0, 0, 0, 0, 0, 0, 0], min (i : Int) limit, limit⟩ : Cl).worn = decide (limit ≤ (i : Int)) := by
    simp only [Cl.worn, hl, decide_true, Bool.true_and]
    exact decide_eq_decide.2 (by omega)
  have hp := Mem.put_calm (i := 0) h1 h2 hh0 hb.1
  rw [e0, w0] at hp
  by_cases hlt : (i : Int) < limit
  · rw [if_neg (by simp; omega)] at hp
    rw [hp] at ok1 ok2 ⊢
    rw [if_pos hlt]
    refine ⟨rfl, ?_⟩
    have hp2 := Mem.put_calm (M := { M with writes := inc M.writes, cs := M.cs.set (Int.toNat 0) ⟨[(i : Int) + 1, 0, 0, 0, 0, 0, 0, 0], inc (min (i : Int) limit), limit⟩ }) (i := 1) (l := [7, 0, 0, 0, 0, 0, 0, 0]) h1 h2 (by simp [Mem.has, h3]) rfl
    rw [if_neg (by simp [Mem.cl, h3, Cl.worn])] at hp2
    rw [hp2] at ok2 ⊢
    refine ⟨rfl, h1, h2, ?_, ?_, ok2⟩
    · simp only [h3, Mem.cl]
      simp
      rw [inc_eq (by omega) (by omega), inc_eq (by omega) (by omega)]
      refine ⟨⟨by omega, by omega⟩, rfl⟩
    · simp only [h4]
      rw [inc_eq (n := 2 * (i : Int)) (by omega) (by omega), inc_eq (by omega) (by omega)]
      omega
  · rw [if_pos (by simp; omega)] at hp
    rw [hp] at ok1 ok2 ⊢
    rw [if_neg hlt]
    refine ⟨rfl, ?_⟩
    have hp2 := Mem.put_calm (M := { M with writes := inc M.writes }) (i := 1) (l := [7, 0, 0, 0, 0, 0, 0, 0]) h1 h2 (by simp [Mem.has, h3]) rfl
    rw [if_neg (by simp [Mem.cl, h3, Cl.worn])] at hp2
    rw [hp2] at ok2 ⊢
    refine ⟨rfl, h1, h2, ?_, ?_, ok2⟩
    · simp only [h3, Mem.cl]
      have e1 : min (i : Int) limit = limit := by omega
      have e2 : min ((i : Int) + 1) limit = limit := by omega
      simp [e1, e2]
      exact inc_eq (by omega) (by omega)
    · simp only [h4]
      rw [inc_eq (n := 2 * (i : Int)) (by omega) (by omega), inc_eq (by omega) (by omega)]
      omega

theorem darninglaw5_NvmLasts.t {x0 x1 : Int} : darninglaw5_NvmLasts x0 x1 H (fun r _ => r = true) := by
  refine darninglaw5_NvmLasts.link ?_
  unfold darninglaw5_NvmLasts.b
  have hx := umod (m := 30) (by omega) x0
  have hy := umod (m := 60) (by omega) x1
  refine ⟨by decide, by decide, ?_⟩
  unfold darninglaw5_NvmLasts.l2 darninglaw5_NvmLasts.j1
  generalize Int.tmod (IntKind.wrap .u64 x0) 30 = limit at *
  generalize Int.tmod (IntKind.wrap .u64 x1) 60 = n at *
  rw [wrap_i64 (n := limit) (by omega) (by omega), wrap_i64 (n := n) (by omega) (by omega)]
  rw [newC_eq]
  refine nvm_New.s (limits := [limit]) (rows_one (g := fun v => Value.int .i64 v) (fun _ => rfl) limit) ?_ (fun h => absurd (by omega) h)
  intro _ H1 hm hk _
  refine loopT_inv (t := ((false, (0 : Int)) : Bool × Int)) (I := fun (t : Bool × Int) H' => ∃ i : Nat, t.2 = (i : Int) ∧ (i : Int) ≤ n ∧ ∃ M, MemAt H' ((H.push ⟨[Value.int .i64 limit], .rw, 1⟩).size + 1) (H.push ⟨[Value.int .i64 limit], .rw, 1⟩).size M ∧ Lasts limit i M) (m := fun (t : Bool × Int) _ => Int.toNat (n - t.2)) ?_ ⟨0, rfl, by omega, _, hm, rfl, rfl, ?_, rfl, hm.ok⟩
  · intro t H2 hI it hit
    obtain ⟨t1, t2⟩ := t
    obtain ⟨i, h1, h2, M, hM, hL⟩ := hI
    simp only at h1
    subst h1
    simp only
    by_cases hlt : (i : Int) < n
    · have hb : isLine [(i : Int) + 1, 0, 0, 0, 0, 0, 0, 0] := isLine_lit (by unfold isU; omega)
      have hb7 : isLine [7, 0, 0, 0, 0, 0, 0, 0] := isLine_lit (by unfold isU; omega)
      obtain ⟨s1, s2, s3⟩ := hL.step (by omega) (by omega)
      rw [show decide ((i : Int) < n) = true from by simpa using hlt, bcase_true]
      rw [wrap_i64 (n := (i : Int) + 1) (by omega) (by omega), wrap_u64 (n := (i : Int) + 1) (by omega) (by omega), lineV_lit, lineV_lit]
      refine nvm_Memory_Put.s hM hb ?_
      have hM1 := hM.set (Mem.put_ok (i := 0) hM.ok hb)
      rw [s1]
      have hfin : nvm_Memory_Put (some ⟨(H.push ⟨[Value.int .i64 limit], .rw, 1⟩).size + 1, 0, none⟩) 1 (lineV [7, 0, 0, 0, 0, 0, 0, 0]) (setM H2 ((H.push ⟨[Value.int .i64 limit], .rw, 1⟩).size + 1) (H.push ⟨[Value.int .i64 limit], .rw, 1⟩).size (M.put 0 [(i : Int) + 1, 0, 0, 0, 0, 0, 0, 0]).1)
          fun n48 H48 => bcase (n48 != 0) (false = true) (it (t1, (i : Int) + 1) H48) := by
        refine nvm_Memory_Put.s hM1 hb7 ?_
        rw [s2, bcase_eq, if_neg (by simp)]
        exact hit _ _ ⟨i + 1, by simp, by omega, _, hM1.set s3.ok, s3⟩ (by simp only; omega)
      by_cases hl : (i : Int) < limit
      · rw [if_pos hl, show decide ((i : Int) < limit) = true from by simpa using hl]
        exact hfin
      · rw [if_neg hl, show decide ((i : Int) < limit) = false from by simpa using hl]
        exact hfin
    · rw [show decide ((i : Int) < n) = false from by simpa using hlt, bcase_false]
      have hin : (i : Int) = n := by omega
      have hmin : (if limit < n then limit else n) = min n limit := by split <;> omega
      obtain ⟨h1, h2, h3, h4, h5⟩ := hL
      rw [hmin]
      refine nvm_Memory_Get.s hM ?_
      have hg : M.get 0 = ([min (i : Int) limit, 0, 0, 0, 0, 0, 0, 0], 0) := by simp [Mem.get, Mem.has, h3, h2, Mem.cl]
      have hbl : isLine [min (i : Int) limit, 0, 0, 0, 0, 0, 0, 0] := isLine_lit (by unfold isU; omega)
      rw [hg, zeroV]
      refine new_line hbl ?_
      refine ⟨by omega, ?_⟩
      have hcell : AH.cell? (H2.push ⟨lineV [min (i : Int) limit, 0, 0, 0, 0, 0, 0, 0], .rw, 0⟩) (Addr.add ⟨H2.size, 0, none⟩ (Int.toNat 0 * 1)) = some (.int .u64 (min (i : Int) limit)) := cell_new _ _ _ _
      rw [hcell, elI_some, wrap_u64 (n := min n limit) (by omega) (by omega), hin, beq_self_eq_true, bcase_true]
      refine nvm_Memory_Wear.s (hM.push _) ?_
      rw [show M.wearOf 0 = min n limit from by simp [Mem.wearOf, Mem.has, h3, Mem.cl, hin], beq_self_eq_true, bcase_true]
      refine nvm_Memory_Wear.s (hM.push _) ?_
      rw [show M.wearOf 1 = n from by simp [Mem.wearOf, Mem.has, h3, Mem.cl, hin], beq_self_eq_true, bcase_true]
      refine nvm_Memory_Writes.s (hM.push _) ?_
      rw [h4, wrap_i64 (n := 2 * n) (by omega) (by omega), hin, beq_self_eq_true, bcase_true]
      exact darninglaw5_awake.s rfl
  · simp [Mem.new, List.range_succ]
    omega

/-! ### NvmCuts -/

/-- Behind i puts, where the power goes at the n-th. -/
structure Cuts (n : Nat) (mask : Int) (i : Nat) (M : Mem) : Prop where
  cut : M.cut = if i ≤ n then (n : Int) - i else 0
  down : M.down = decide (n < i)
  msk : M.mask = mask
  len : M.cs.length = 50
  cl : ∀ j, j < 50 → M.cl j = ⟨[if j < i ∧ (j < n ∨ (j = n ∧ mbit mask 0 = true)) then 7 else 0, 0, 0, 0, 0, 0, 0, 0], (M.cl j).wear, -1⟩
  writes : M.writes = min (i : Int) (n + 1)
  ok : M.ok

theorem cl_ext {a b : List Cl} (hl : a.length = b.length) : True := trivial

theorem mix7 (mask : Int) : mixL [0, 0, 0, 0, 0, 0, 0, 0] [7, 0, 0, 0, 0, 0, 0, 0] mask = [if mbit mask 0 = true then 7 else 0, 0, 0, 0, 0, 0, 0, 0] := by
  simp only [mixL, List.range_succ, List.range_zero, List.nil_append, List.map_append, List.map_cons, List.map_nil, List.cons_append]
  simp

theorem Mem.setc_cl' {M : Mem} {i j : Nat} {x : Cl} (h : i < M.cs.length) : (M.setc i x).cl j = if j = i then x else M.cl j := by
  simp only [Mem.cl, Mem.setc, List.getD_eq_getElem?_getD]
  by_cases hij : j = i
  · subst hij; simp [h]
  · rw [if_neg hij, List.getElem?_set_ne (by omega)]

theorem Cuts.step {n i : Nat} {mask : Int} {M : Mem} (h : Cuts n mask i M) (hn : n < 20) (hi : i < 40) :
    (M.put (i : Int) [7, 0, 0, 0, 0, 0, 0, 0]).2 = (if i < n then 0 else 2) ∧ (M.put (i : Int) [7, 0, 0, 0, 0, 0, 0, 0]).1.down = decide (n ≤ i) ∧ Cuts n mask (i + 1) (M.put (i : Int) [7, 0, 0, 0, 0, 0, 0, 0]).1 := by
  have hb7 : isLine [7, 0, 0, 0, 0, 0, 0, 0] := isLine_lit (by unfold isU; omega)
  have ok1 := Mem.put_ok (i := i) h.ok hb7
  obtain ⟨h1, h2, h3, h4, h5, h6, h7⟩ := h
  have hhas : M.has i := ⟨by omega, by rw [h4]; omega⟩
  have hcl := h5 i (by omega)
  rw [if_neg (by omega)] at hcl
  unfold Mem.put at ok1 ⊢
  rw [if_pos hhas] at ok1 ⊢
  by_cases hd : M.down = true
  · rw [if_pos hd] at ok1 ⊢
    have hni : n < i := by rw [h2] at hd; simpa using hd
    refine ⟨by rw [if_neg (by omega)], by rw [hd]; simp; omega, ?_, ?_, h3, h4, ?_, ?_, h7⟩
    · rw [h1, if_neg (by omega), if_neg (by omega)]
    · rw [h2]; simp; omega
    · intro j hj
      rw [h5 j hj]
      have : (j < i + 1 ∧ (j < n ∨ j = n ∧ mbit mask 0 = true)) ↔ (j < i ∧ (j < n ∨ j = n ∧ mbit mask 0 = true)) := by
        constructor <;> rintro ⟨a, b⟩ <;> refine ⟨?_, b⟩ <;> rcases b with b | ⟨b, _⟩ <;> omega
      simp only [this]
    · rw [h6]; omega
  · have hd' : M.down = false := by simpa using hd
    have hni : ¬ n < i := by rw [h2] at hd'; simpa using hd'
    rw [if_neg hd] at ok1 ⊢
    rw [Int.toNat_natCast] at ok1 ⊢
    have hw : (M.cl i).worn = false := by rw [hcl]; simp [Cl.worn]
    simp only [hw, Bool.false_eq_true, if_false] at ok1 ⊢
    rw [if_pos (by omega)] at h1
    have hlen : i < M.wr.cs.length := by rw [Mem.wr_cs, h4]; omega
    by_cases hin : i = n
    · subst hin
      have hcut : M.cut = 0 := by omega
      have hwr : M.wr = { M with writes := inc M.writes, down := true } := by unfold Mem.wr; rw [if_pos hcut]
      have hwm : M.wmask = mask := by unfold Mem.wmask; rw [if_pos hcut, h3]
      have hwrd : M.wr.down = true := by rw [hwr]
      refine ⟨by rw [if_neg (by omega)]; simp [Mem.told, hwrd], by simp [Mem.setc, hwrd], ?_, ?_, ?_, ?_, ?_, ?_, ok1⟩
      · simp only [Mem.setc, hwr, hcut]; rw [if_neg (by omega)]
      · simp [Mem.setc, hwrd]
      · simp [Mem.setc, hwr, h3]
      · simp [Mem.setc, Mem.wr_cs, h4]
      · intro j hj
        rw [Mem.setc_cl' hlen, Mem.wr_cl]
        by_cases hji : j = i
        · subst hji
          rw [if_pos rfl, hwm, hcl]
          simp only [mix7]
          simp
        · rw [if_neg hji]
          have := h5 j hj
          rw [this]
          have e : (j < i + 1 ∧ (j < i ∨ j = i ∧ mbit mask 0 = true)) ↔ (j < i ∧ (j < i ∨ j = i ∧ mbit mask 0 = true)) := by omega
          simp only [e]
      · simp only [Mem.setc, hwr, h6]
        rw [inc_eq (by omega) (by omega)]; omega
    · have hcut : 0 < M.cut := by omega
      have hwr : M.wr = { M with writes := inc M.writes, cut := M.cut - 1 } := by unfold Mem.wr; rw [if_neg (by omega), if_pos hcut]
      have hwm : M.wmask = -1 := by unfold Mem.wmask; rw [if_neg (by omega)]
      have hwrd : M.wr.down = false := by rw [hwr]; exact hd'
      refine ⟨by rw [if_pos (by omega)]; simp [Mem.told, hwrd], by simp [Mem.setc, hwrd]; omega, ?_, ?_, ?_, ?_, ?_, ?_, ok1⟩
      · simp only [Mem.setc, hwr, h1]; rw [if_pos (by omega)]; omega
      · simp [Mem.setc, hwrd]; omega
      · simp [Mem.setc, hwr, h3]
      · simp [Mem.setc, Mem.wr_cs, h4]
      · intro j hj
        rw [Mem.setc_cl' hlen, Mem.wr_cl]
        by_cases hji : j = i
        · subst hji
          rw [if_pos rfl, hwm, hcl, mixL_all rfl]
          simp only [Cl.mk.injEq, List.cons.injEq, and_true, true_and]
          rw [if_pos (by omega)]
        · rw [if_neg hji]
          have := h5 j hj
          rw [this]
          have e : (j < i + 1 ∧ (j < n ∨ j = n ∧ mbit mask 0 = true)) ↔ (j < i ∧ (j < n ∨ j = n ∧ mbit mask 0 = true)) := by omega
          simp only [e]
      · simp only [Mem.setc, hwr, h6]
        rw [inc_eq (by omega) (by omega)]; omega

theorem darninglaw5_NvmCuts.t {x0 x1 mask : Int} : darninglaw5_NvmCuts x0 x1 mask H (fun r _ => r = true) := by
  refine darninglaw5_NvmCuts.link ?_
  unfold darninglaw5_NvmCuts.b
  have hx := umod (m := 20) (by omega) x0
  have hy := umod (m := 40) (by omega) x1
  refine ⟨by decide, by decide, ?_⟩
  unfold darninglaw5_NvmCuts.l7 darninglaw5_NvmCuts.j6 darninglaw5_NvmCuts.l5 darninglaw5_NvmCuts.j1
  generalize Int.tmod (IntKind.wrap .u64 x0) 20 = nn at *
  generalize Int.tmod (IntKind.wrap .u64 x1) 40 = k at *
  obtain ⟨n, rfl⟩ := Int.eq_ofNat_of_zero_le hx.1
  rw [wrap_i64 (n := (n : Int)) (by omega) (by omega), wrap_i64 (n := k) (by omega) (by omega)]
  have hb7 : isLine [7, 0, 0, 0, 0, 0, 0, 0] := isLine_lit (by unfold isU; omega)
  refine nvm_New.s (limits := []) rows_nil ?_ (fun h => absurd (by omega) h)
  intro _ H1 hm hk _
  refine nvm_Memory_Cut.s hm (by omega) ?_
  have hm1 := hm.set (Mem.setCut_ok (n := 99) (mask := 0) hm.ok (by omega))
  refine nvm_Memory_Cut.s hm1 (by omega) ?_
  have hm2 := hm1.set (Mem.setCut_ok (n := n) (mask := mask) hm1.ok (by omega))
  generalize setM (setM H1 _ _ _) _ _ _ = H2 at *
  refine loopT_inv (t := ((false, (0 : Int)) : Bool × Int)) (I := fun (t : Bool × Int) H' => ∃ i : Nat, t.2 = (i : Int) ∧ (i : Int) ≤ k ∧ ∃ M, MemAt H' (H.size + 1) H.size M ∧ Cuts n mask i M) (m := fun (t : Bool × Int) _ => Int.toNat (k - t.2)) ?_ ⟨0, rfl, by omega, _, hm2, ?_, rfl, rfl, rfl, ?_, ?_, hm2.ok⟩
  · intro t H3 hI it hit
    obtain ⟨t1, t2⟩ := t
    obtain ⟨i, h1, h2, M, hM, hL⟩ := hI
    simp only at h1
    subst h1
    simp only
    by_cases hlt : (i : Int) < k
    · obtain ⟨s1, s2, s3⟩ := hL.step (by omega) (by omega)
      rw [show decide ((i : Int) < k) = true from by simpa using hlt, bcase_true, lineV_lit]
      rw [wrap_i64 (n := (i : Int) + 1) (by omega) (by omega)]
      refine nvm_Memory_Put.s hM hb7 ?_
      have hM1 := hM.set s3.ok
      rw [s1]
      have hdown : nvm_Memory_Down (some ⟨H.size + 1, 0, none⟩) (setM H3 (H.size + 1) H.size (M.put i [7, 0, 0, 0, 0, 0, 0, 0]).1) fun b55 H55 => bcase (!(b55 == decide ((i : Int) ≥ (n : Int)))) (false = true) (it (t1, (i : Int) + 1) H55) := by
        refine nvm_Memory_Down.s hM1 ?_
        rw [s2, show decide ((i : Int) ≥ (n : Int)) = decide (n ≤ i) from decide_eq_decide.2 (by omega), beq_self_eq_true, Bool.not_true, bcase_false]
        exact hit _ _ ⟨i + 1, by simp, by omega, _, hM1, s3⟩ (by simp only; omega)
      by_cases hin : i < n
      · rw [if_pos hin, show decide ((i : Int) < (n : Int)) = true from by simpa using hin, bcase_true]
        rw [show ((0 : Int) != 0) = false from rfl, bcase_false]
        rw [show decide ((i : Int) ≥ (n : Int)) = false from by simp; omega] at hdown ⊢
        rw [bcase_false]
        exact hdown
      · rw [if_neg hin, show decide ((i : Int) < (n : Int)) = false from by simp; omega, bcase_false]
        rw [show decide ((i : Int) ≥ (n : Int)) = true from by simp; omega] at hdown ⊢
        rw [bcase_true, show ((2 : Int) != 2) = false from rfl, bcase_false]
        exact hdown
    · rw [show decide ((i : Int) < k) = false from by simpa using hlt, bcase_false]
      have hik : (i : Int) = k := by omega
      refine nvm_Memory_Power.s hM ?_
      have hM1 := hM.set (Mem.power_ok hM.ok)
      refine loopT_inv (t := ((t1, (0 : Int)) : Bool × Int)) (I := fun (t : Bool × Int) H' => ∃ j : Nat, t.2 = (j : Int) ∧ (j : Int) ≤ k ∧ MemAt H' (H.size + 1) H.size M.power) (m := fun (t : Bool × Int) _ => Int.toNat (k - t.2)) ?_ ⟨0, rfl, by omega, hM1⟩
      intro t H4 hI it hit
      obtain ⟨t1', t2'⟩ := t
      obtain ⟨j, h1, h2, hM4⟩ := hI
      simp only at h1
      subst h1
      simp only
      by_cases hlt : (j : Int) < k
      · rw [show decide ((j : Int) < k) = true from by simpa using hlt, bcase_true]
        refine nvm_Memory_Get.s hM4 ?_
        have hcl := hL.cl j (by omega)
        have hg : M.power.get j = ([if j < i ∧ (j < n ∨ (j = n ∧ mbit mask 0 = true)) then 7 else 0, 0, 0, 0, 0, 0, 0, 0], 0) := by
          unfold Mem.get
          rw [if_pos ⟨by omega, by have := hL.len; simp only [Mem.power]; omega⟩, if_neg (by simp [Mem.power])]
          have : (M.power.cl (Int.toNat j)) = M.cl j := rfl
          rw [this, hcl]
        have hbl : isLine [if j < i ∧ (j < n ∨ (j = n ∧ mbit mask 0 = true)) then 7 else 0, 0, 0, 0, 0, 0, 0, 0] := isLine_lit (by unfold isU; split <;> omega)
        rw [hg, zeroV]
        refine new_line hbl ?_
        have hM5 := hM4.push ⟨lineV [if j < i ∧ (j < n ∨ (j = n ∧ mbit mask 0 = true)) then 7 else 0, 0, 0, 0, 0, 0, 0, 0], .rw, 0⟩
        have hcell : AH.cell? (H4.push ⟨lineV [if j < i ∧ (j < n ∨ (j = n ∧ mbit mask 0 = true)) then 7 else 0, 0, 0, 0, 0, 0, 0, 0], .rw, 0⟩) (Addr.add ⟨H4.size, 0, none⟩ (Int.toNat 0 * 1)) = some (.int .u64 (if j < i ∧ (j < n ∨ (j = n ∧ mbit mask 0 = true)) then 7 else 0)) := cell_new _ _ _ _
        have fin : ∀ b : Bool, (b = true ↔ (j < n ∨ (j = n ∧ mbit mask 0 = true))) → darninglaw5_NvmCuts.j4 (fun r _ => r = true) (t1', (j : Int)) it 0 H4.size (H4.push ⟨lineV [if j < i ∧ (j < n ∨ (j = n ∧ mbit mask 0 = true)) then 7 else 0, 0, 0, 0, 0, 0, 0, 0], .rw, 0⟩) b := by
          intro b hb
          unfold darninglaw5_NvmCuts.j4 darninglaw5_NvmCuts.j3 darninglaw5_NvmCuts.j2
          rw [hcell]
          simp only [wrap_i64 (n := (j : Int) + 1) (by omega) (by omega), elI_some, bne_self_eq_false, bcase_eq, Bool.false_eq_true, if_false]
          have hji : j < i := by omega
          cases b with
          | true =>
            rw [if_pos rfl]
            refine ⟨by omega, ?_⟩
            have hv : (if j < i ∧ (j < n ∨ (j = n ∧ mbit mask 0 = true)) then (7 : Int) else 0) = 7 := if_pos ⟨hji, hb.1 rfl⟩
            rw [if_neg (by rw [hv]; simp)]
            exact hit _ _ ⟨j + 1, by simp, by omega, hM5⟩ (by simp only; omega)
          | false =>
            rw [if_neg (by simp)]
            refine ⟨by omega, ?_⟩
            have hv : (if j < i ∧ (j < n ∨ (j = n ∧ mbit mask 0 = true)) then (7 : Int) else 0) = 0 := if_neg (fun h => by have := hb.2 h.2; simp at this)
            rw [if_neg (by rw [hv]; simp)]
            exact hit _ _ ⟨j + 1, by simp, by omega, hM5⟩ (by simp only; omega)
        rw [bcase_eq, bcase_eq]
        by_cases h1 : (j : Int) < (n : Int)
        · rw [if_pos (by simpa using h1)]
          exact fin _ (by simp; omega)
        · rw [if_neg (by simpa using h1)]
          by_cases h2 : (j : Int) = (n : Int)
          · rw [if_pos (by simpa using h2), mbit0]
            have : j = n := by omega
            exact fin _ (by subst this; simp)
          · rw [if_neg (by simpa using h2)]
            exact fin _ (by simp; omega)
      · rw [show decide ((j : Int) < k) = false from by simpa using hlt, bcase_false]
        refine nvm_Memory_Writes.s hM4 ?_
        rw [show M.power.writes = min (i : Int) (n + 1) from hL.writes, wrap_i64 (n := (n : Int) + 1) (by omega) (by omega)]
        rw [show (min (i : Int) (n + 1) == if (n : Int) + 1 < k then (n : Int) + 1 else k) = true from by rw [beq_iff_eq]; split <;> omega, bcase_true, lineV_lit]
        refine nvm_Memory_Put.s hM4 (isLine_lit (by unfold isU; omega)) ?_
        have hlen := hL.len
        have : (M.power.put 49 [1, 0, 0, 0, 0, 0, 0, 0]).2 = 0 := by
          have hhas : M.power.has 49 := ⟨by omega, by simp only [Mem.power]; omega⟩
          rw [Mem.put_calm (by rfl) (by rfl) hhas rfl, if_neg]
          have hcl := hL.cl 49 (by omega)
          have e : M.power.cl (Int.toNat 49) = M.cl 49 := rfl
          rw [e, hcl]
          simp [Cl.worn]
        rw [this, beq_self_eq_true, bcase_true]
        exact darninglaw5_awake.s rfl
  · simp only [Mem.setCut]; omega
  · intro j hj
    have : ∀ M : Mem, ∀ a b c d, ((M.setCut a b).setCut c d).cl j = M.cl j := fun _ _ _ _ _ => rfl
    rw [this]
    rw [Mem.new_cl (show j < Int.toNat 50 from hj)]
    simp
  · show (0 : Int) = _
    omega
end
end Go.Proofs.Ytomeldimnhapfaa
