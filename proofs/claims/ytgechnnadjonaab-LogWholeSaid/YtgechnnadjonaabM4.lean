import Derived.Test.YtgechnnadjonaabM3
set_option linter.all false
set_option linter.all false
namespace Go.Proofs.Ytgechnnadjonaab
open Go Go.Abs

theorem lineV_get {l : List Int} (h : l.length = 8) {j : Nat} (hj : j < 8) : (lineV l)[j]? = some (.int .u64 (l.getD j 0)) := by
  have hl : j < l.length := by omega
  simp only [lineV, List.getElem?_map, List.getElem?_eq_getElem hl, Option.map_some, List.getD_eq_getElem?_getD, Option.getD_some]
  rfl
theorem lineV_len {l : List Int} (h : l.length = 8) : (lineV l).length = 8 := by simp [lineV, h]
theorem zeroV : [(Value.int .u64 (0 : Int)), (Value.int .u64 (0 : Int)), (Value.int .u64 (0 : Int)), (Value.int .u64 (0 : Int)), (Value.int .u64 (0 : Int)), (Value.int .u64 (0 : Int)), (Value.int .u64 (0 : Int)), (Value.int .u64 (0 : Int))] = lineV (List.replicate 8 0) := rfl
theorem lineV_flat (l : List Int) : flatV (K.agg.inj (lineV l)) = true := by simp only [K.inj, flatV, List.toList_toArray]; exact flat_u64 l

/-- The first j words mixed. -/
def mixTo (old now : List Int) (mask : Int) (j : Nat) : List Int := (List.range 8).map fun i => if i < j ∧ mbit mask i = true then now.getD i 0 else old.getD i 0
theorem mixTo_len (old now : List Int) (mask : Int) (j : Nat) : (mixTo old now mask j).length = 8 := by simp [mixTo]
theorem mixTo_0 {old : List Int} (now : List Int) (mask : Int) (h : old.length = 8) : mixTo old now mask 0 = old := by
  apply List.ext_getElem?
  intro i
  by_cases hi : i < 8
  · simp only [mixTo, List.getElem?_map, List.getElem?_range hi, Option.map_some, Nat.not_lt_zero, false_and, if_false]
    rw [List.getD_eq_getElem?_getD, List.getElem?_eq_getElem (by omega), Option.getD_some]
  · rw [List.getElem?_eq_none (by simp [mixTo]; omega), List.getElem?_eq_none (by omega)]
theorem mixTo_8 (old now : List Int) (mask : Int) : mixTo old now mask 8 = mixL old now mask := by
  unfold mixTo mixL
  refine List.map_congr_left fun i hi => ?_
  have : i < 8 := by simpa using hi
  simp [this]
theorem mixTo_succ (old now : List Int) (mask : Int) {j : Nat} (hj : j < 8) : mixTo old now mask (j + 1) = if mbit mask j then (mixTo old now mask j).set j (now.getD j 0) else mixTo old now mask j := by
  apply List.ext_getElem?
  intro i
  by_cases hi : i < 8
  · split
    · rename_i hb
      by_cases hij : i = j
      · subst hij
        rw [List.getElem?_set_self (by rw [mixTo_len]; exact hi)]
        simp [mixTo, hi, hb]
      · rw [List.getElem?_set_ne (by omega)]
        simp only [mixTo, List.getElem?_map, List.getElem?_range hi, Option.map_some]
        have : (i < j + 1 ∧ mbit mask i = true) ↔ (i < j ∧ mbit mask i = true) := by constructor <;> intro ⟨h1, h2⟩ <;> exact ⟨by omega, h2⟩
        simp only [this]
    · rename_i hb
      simp only [mixTo, List.getElem?_map, List.getElem?_range hi, Option.map_some]
      have : (i < j + 1 ∧ mbit mask i = true) ↔ (i < j ∧ mbit mask i = true) := by
        constructor <;> intro ⟨h1, h2⟩
        · refine ⟨?_, h2⟩
          rcases Nat.lt_or_ge i j with h | h
          · exact h
          · have : i = j := by omega
            subst this; exact absurd h2 hb
        · exact ⟨by omega, h2⟩
      simp only [this]
  · rw [List.getElem?_eq_none (by rw [mixTo_len]; omega)]
    symm
    split
    · rw [List.getElem?_eq_none (by rw [List.length_set, mixTo_len]; omega)]
    · rw [List.getElem?_eq_none (by rw [mixTo_len]; omega)]
theorem lineV_set (l : List Int) (j : Nat) (v : Int) : (lineV l).set j (.int .u64 v) = lineV (l.set j v) := by simp [lineV, List.map_set, u64V]

section
variable {H : AH} {p c : Nat} {M : Mem} {i : Int}

theorem torn_Mix.s {old now : List Int} {mask : Int} {k : List Value → AH → Prop} (ho : isLine old) (hn : isLine now) (h : k (lineV (mixL old now mask)) H) : torn_Mix (lineV old) (lineV now) mask H k := by
  refine canon1 (κ := .agg) (by simp) (lineV_flat _) (torn_Mix.link ?_) h
  unfold torn_Mix.b
  simp only [newC_eq, push_more0, more_more, List.singleton_append, List.cons_append, List.nil_append, more_size, List.length_cons, List.length_nil, Nat.zero_add, Nat.reduceAdd, zeroV]
  rw [ldA_some (more_row H _ 1 8 _ rfl (by simp) (lineV_len hn.1) (lineV_ok _))]
  refine loopT_inv (t := (0 : Int)) (I := fun (t : Int) H' => ∃ j : Nat, t = (j : Int) ∧ j ≤ 8 ∧ H' = H.more [⟨lineV (mixTo old now mask j), .rw, 0⟩, ⟨lineV now, .rw, 0⟩, ⟨lineV (List.replicate 8 0), .rw, 0⟩]) (m := fun (t : Int) _ => Int.toNat (8 - t)) ?_ ⟨0, rfl, by omega, by rw [mixTo_0 _ _ ho.1]⟩
  intro t H1 hI it hit
  obtain ⟨j, rfl, hj, rfl⟩ := hI
  unfold torn_Mix.l2
  simp only [bcase_eq, decide_eq_true_eq]
  by_cases hlt : (j : Int) < 8
  · rw [if_pos hlt]
    refine ⟨by omega, ?_⟩
    rw [Int.toNat_natCast, Nat.mul_one, lineV_get hn.1 (by omega), elI_some]
    refine ⟨by omega, ?_⟩
    rw [mbit_eq _ _ (by omega), wrap_i64 (n := (j : Int) + 1) (by omega) (by omega)]
    have hs := mixTo_succ old now mask (j := j) (by omega)
    by_cases hb : mbit mask j = true
    · rw [if_pos hb] at hs ⊢
      refine ⟨by omega, ?_⟩
      rw [addr_add, Nat.zero_add]
      refine ⟨more_canPut H _ 0 j 1 _ rfl rfl (by rw [lineV_len (mixTo_len _ _ _ _)]; omega), ?_⟩
      have hp := more_put H [⟨lineV (mixTo old now mask j), .rw, 0⟩, ⟨lineV now, .rw, 0⟩, ⟨lineV (List.replicate 8 0), .rw, 0⟩] 0 j [.int .u64 (now.getD j 0)] _ rfl
      simp only [Nat.add_zero, setMany, lineV_set, List.set_cons_zero] at hp
      rw [hp]
      exact hit _ _ ⟨j + 1, by omega, by omega, by rw [hs]⟩ (by omega)
    · rw [if_neg hb] at hs ⊢
      exact hit _ _ ⟨j + 1, by omega, by omega, by rw [hs]⟩ (by omega)
  · rw [if_neg hlt]
    have : j = 8 := by omega
    subst this
    unfold torn_Mix.j1
    rw [mixTo_8]
    have hmx := (mixL_line (mask := mask) ho hn).1
    have hr := more_row H [⟨lineV (mixL old now mask), .rw, 0⟩, ⟨lineV now, .rw, 0⟩, ⟨lineV (List.replicate 8 0), .rw, 0⟩] 0 8 _ rfl (by simp) (lineV_len hmx) (lineV_ok _)
    rw [Nat.add_zero] at hr
    rw [ldA_some hr]
    refine ⟨⟨lineV_len hmx, lineV_ok _⟩, ?_⟩
    have hp := more_put H [⟨lineV (mixL old now mask), .rw, 0⟩, ⟨lineV now, .rw, 0⟩, ⟨lineV (List.replicate 8 0), .rw, 0⟩] 2 0 (lineV (mixL old now mask)) _ rfl
    refine ⟨more_canPut H _ 2 0 _ _ rfl rfl (by rw [lineV_len hmx, lineV_len rfl]; omega), ?_⟩
    rw [hp]
    have hset : setMany (lineV (List.replicate 8 0)) 0 (lineV (mixL old now mask)) = lineV (mixL old now mask) := by
      apply List.ext_getElem?
      intro t
      rw [setMany_get _ _ _ _ (by rw [lineV_len hmx, lineV_len rfl]; omega), lineV_len hmx]
      by_cases ht : t < 8
      · rw [if_pos (by omega)]; rfl
      · rw [if_neg (by omega), List.getElem?_eq_none (by rw [lineV_len rfl]; omega), List.getElem?_eq_none (by rw [lineV_len hmx]; omega)]
    simp only [List.set_cons_succ, List.set_cons_zero, hset]
    rw [ldA_some (more_row H _ 2 8 _ rfl (by simp) (lineV_len hmx) (lineV_ok _))]
    exact ⟨At.of_keeps (Keeps.more _ _), rfl⟩

theorem Mem.put_ok {l : List Int} (h : M.ok) (hl : isLine l) : (M.put i l).1.ok := by
  unfold Mem.put
  split
  · rename_i hi
    split
    · exact h
    · simp only
      split
      · exact Mem.wr_ok h
      · exact Mem.setc_ok (Mem.wr_ok h) (mixL_line (h.lines _ (cl_mem hi)) hl)
  · exact h

theorem lineV_put {H : AH} {b : Nat} {l l' : List Int} {e : Nat} (h : l.length = 8) (h' : l'.length = 8) (hg : H.get b = ⟨lineV l, .rw, e⟩) : AH.put H ⟨b, 0, none⟩ (lineV l') = H.upd b ⟨lineV l', .rw, e⟩ := by
  have hset : setMany (lineV l) 0 (lineV l') = lineV l' := by
    apply List.ext_getElem?
    intro t
    rw [setMany_get _ _ _ _ (by rw [lineV_len h, lineV_len h']; omega), lineV_len h']
    by_cases ht : t < 8
    · rw [if_pos (by omega)]; rfl
    · rw [if_neg (by omega), List.getElem?_eq_none (by rw [lineV_len h]; omega), List.getElem?_eq_none (by rw [lineV_len h']; omega)]
  simp only [AH.put, hg, hset]

theorem nvm_Memory_Put.s {l : List Int} {k : Int → AH → Prop} (hm : MemAt H p c M) (hl : isLine l) (h : k (M.put i l).2 (setM H p c (M.put i l).1)) : nvm_Memory_Put (some ⟨p, 0, none⟩) i (lineV l) H k := by
  have key : ∀ {M' : Mem} {r : Int}, M'.ok → At H (setM (H.push ⟨lineV l, .rw, 0⟩) p c M') (setM H p c M') := by
    intro M' r hok
    refine hm.at fun b hb => ?_
    simp only [setM_get, push_get]
    rw [if_neg (show b ≠ H.size by omega)]
  refine canon1 (κ := .int .i64) (by simp) rfl (nvm_Memory_Put.link ?_) h
  unfold nvm_Memory_Put.b
  have hm1 := hm.push ⟨lineV l, .rw, 0⟩
  rw [newC_eq]
  refine nvm_Memory_has.s hm1 ?_
  have hok := Mem.put_ok (i := i) hm.ok hl
  have hkey := key (r := 0) hok
  unfold Mem.put at hok hkey ⊢
  by_cases hi : M.has i
  · have hi' := hi
    unfold Mem.has at hi'
    rw [if_pos hi] at hok hkey ⊢
    simp only [hi, decide_true, Bool.not_true, bcase_eq, Bool.false_eq_true, if_false, onPtr_mk, hm1.c39, elB_some]
    by_cases hd : M.down
    · rw [if_pos hd] at hok hkey ⊢
      rw [if_pos hd]
      refine ⟨?_, rfl⟩
      rw [hm1.same] at hkey
      exact hkey
    · rw [if_neg hd] at hok hkey ⊢
      rw [if_neg hd]
      refine nvm_Memory_write.s hm1 ?_
      have hmw := hm1.set (Mem.wr_ok hm.ok)
      have hiw : M.wr.has i := Mem.wr_has.2 hi
      simp only [hmw.c0, elL_some, onPtr_mk, hmw.c9 hiw, hmw.c8 hiw, elI_some, Mem.wr_cs, Mem.wr_cl, hi', and_self, true_and, ge_iff_le, decide_eq_true_eq]
      have hold := hm.ok.lines _ (cl_mem hi)
      have tail : ∀ w, w = (M.cl i.toNat).worn → nvm_Memory_Put.j2 (some ⟨p, 0, none⟩) i (fun r0 H' => At H H' (setM H p c (if (M.cl i.toNat).worn = true then (M.wr, M.wr.told true) else (M.wr.setc i.toNat ⟨mixL (M.cl i.toNat).line l M.wmask, inc (M.cl i.toNat).wear, (M.cl i.toNat).limit⟩, M.wr.told false)).1) ∧ r0 = (if (M.cl i.toNat).worn = true then (M.wr, M.wr.told true) else (M.wr.setc i.toNat ⟨mixL (M.cl i.toNat).line l M.wmask, inc (M.cl i.toNat).wear, (M.cl i.toNat).limit⟩, M.wr.told false)).2) H.size (setM (H.push ⟨lineV l, .rw, 0⟩) p c M.wr) M.wmask ⟨c, 0, none⟩ w := by
        intro w hw
        subst hw
        unfold nvm_Memory_Put.j2 nvm_Memory_Put.j1
        by_cases hw : (M.cl i.toNat).worn = true
        · rw [if_pos hw] at hkey hok ⊢
          rw [hw, Bool.not_true, bcase_false]
          refine nvm_Memory_told.s hmw ?_
          exact ⟨hkey, rfl⟩
        · rw [if_neg hw] at hkey hok ⊢
          rw [show (M.cl i.toNat).worn = false from by simpa using hw, Bool.not_false, bcase_true]
          rw [ldA_some (hmw.row_c hiw), Mem.wr_cl]
          have hlp := hm.lp
          have hlc := hm.lc
          have hrow : AH.row? (setM (H.push ⟨lineV l, .rw, 0⟩) p c M.wr) ⟨H.size, 0, none⟩ 8 = some (lineV l) := by
            rw [row_setM (by omega) (by omega)]
            exact row_new (lineV_len hl.1) (lineV_ok _)
          rw [ldA_some hrow]
          refine torn_Mix.s hold hl ?_
          have hmx := mixL_line (mask := M.wmask) hold hl
          refine ⟨⟨lineV_len hmx.1, lineV_ok _⟩, hmw.can_c hiw (by rw [lineV_len hmx.1]; omega), ?_⟩
          rw [hmw.put_c hiw (x := ⟨mixL (M.cl i.toNat).line l M.wmask, (M.cl i.toNat).wear, (M.cl i.toNat).limit⟩) (by rw [lineV_len hmx.1]; omega) (by rw [Mem.wr_cl]; exact clV_line (x := M.cl i.toNat) hold hmx), setM_setM]
          have hm3 := hm1.set (Mem.setc_ok (i := i.toNat) (x := ⟨mixL (M.cl i.toNat).line l M.wmask, (M.cl i.toNat).wear, (M.cl i.toNat).limit⟩) (Mem.wr_ok hm.ok) hmx)
          have hi3 : (M.wr.setc i.toNat ⟨mixL (M.cl i.toNat).line l M.wmask, (M.cl i.toNat).wear, (M.cl i.toNat).limit⟩).has i := Mem.setc_has.2 hiw
          simp only [hm3.c8 hi3, elI_some, Mem.setc_cl hiw]
          refine ⟨hm3.can_c hi3 (by simp), ?_⟩
          rw [hm3.put_c hi3 (x := { line := mixL (M.cl i.toNat).line l M.wmask, wear := inc (M.cl i.toNat).wear, limit := (M.cl i.toNat).limit }) (by simp) ?_, setM_setM, Mem.setc_setc]
          · refine nvm_Memory_told.s (hm1.set hok) ?_
            exact ⟨hkey, rfl⟩
          · rw [Mem.setc_cl hiw]
            exact clV_wear (x := { line := mixL (M.cl i.toNat).line l M.wmask, wear := (M.cl i.toNat).wear, limit := (M.cl i.toNat).limit }) hmx
      by_cases hlim : 0 ≤ (M.cl i.toNat).limit
      · rw [if_pos hlim]
        exact tail _ (by simp [Cl.worn, hlim])
      · rw [if_neg hlim]
        exact tail _ (by simp [Cl.worn, hlim])
  · rw [if_neg hi] at hok hkey ⊢
    simp only [hi, decide_false, Bool.not_false, bcase_eq, if_true]
    rw [hm1.same] at hkey
    exact ⟨hkey, trivial⟩
theorem nvm_Memory_Put.n {l : List Int} {k : Int → AH → Prop} (h : k 1 H) : nvm_Memory_Put none i (lineV l) H k := by
  refine canon1 (κ := .int .i64) (by simp) rfl (nvm_Memory_Put.link ?_) h
  unfold nvm_Memory_Put.b
  rw [newC_eq]
  refine nvm_Memory_has.n ?_
  simp only [Bool.not_false, bcase_eq, if_true]
  exact ⟨At.of_keeps ((Keeps.refl H).push _), trivial⟩

theorem Mem.get_line (h : M.ok) : isLine (M.get i).1 := by
  unfold Mem.get
  split
  · rename_i hi
    split
    · exact zero_line
    · exact h.lines _ (cl_mem hi)
  · exact zero_line

theorem nvm_Memory_Get.s {k : List Value → Int → AH → Prop} (hm : MemAt H p c M) (h : k (lineV (M.get i).1) (M.get i).2 H) : nvm_Memory_Get (some ⟨p, 0, none⟩) i H k := by
  refine canon2 (κ := .agg) (μ := .int .i64) (by simp) (by simp) (lineV_flat _) rfl (nvm_Memory_Get.link ?_) h
  unfold nvm_Memory_Get.b
  rw [newC_eq, zeroV]
  have hm1 := hm.push ⟨lineV (List.replicate 8 0), .rw, 0⟩
  have hz : (H.push ⟨lineV (List.replicate 8 0), .rw, 0⟩).get H.size = ⟨lineV (List.replicate 8 0), .rw, 0⟩ := by simp [push_get]
  have hc8 : ∀ l : List Int, isLine l → AH.canPut (H.push ⟨lineV (List.replicate 8 0), .rw, 0⟩) ⟨H.size, 0, none⟩ (lineV l).length := by
    intro l hl; rw [lineV_len hl.1]; exact canPut_new.2 (by rw [lineV_len rfl]; omega)
  have fin : ∀ (l : List Int), isLine l → ∀ (Q : List Value → AH → Prop), (∀ H', Keeps H H' → Q (lineV l) H') →
      ldA (AH.put (H.push ⟨lineV (List.replicate 8 0), .rw, 0⟩) ⟨H.size, 0, none⟩ (lineV l)) ⟨H.size, 0, none⟩ 8 fun r0 => Q r0 (AH.put (H.push ⟨lineV (List.replicate 8 0), .rw, 0⟩) ⟨H.size, 0, none⟩ (lineV l)) := by
    intro l hl Q hQ
    rw [lineV_put rfl hl.1 hz]
    have e : (H.push ⟨lineV (List.replicate 8 0), .rw, 0⟩).upd H.size ⟨lineV l, .rw, 0⟩ = H.push ⟨lineV l, .rw, 0⟩ := by
      refine AH.ext' rfl fun b => ?_
      simp only [upd_get, push_get]; split <;> rfl
    rw [e]
    rw [ldA_some (row_new (lineV_len hl.1) (lineV_ok _))]
    exact hQ _ ((Keeps.refl H).push _)
  refine nvm_Memory_has.s hm1 ?_
  unfold Mem.get
  by_cases hi : M.has i
  · have hi' := hi
    unfold Mem.has at hi'
    rw [if_pos hi]
    simp only [hi, decide_true, Bool.not_true, bcase_eq, Bool.false_eq_true, if_false, onPtr_mk, hm1.c39, elB_some, hm1.c0, elL_some, hi', and_self, true_and, ldA_some (hm1.row_c hi)]
    by_cases hd : M.down
    · rw [if_pos hd, if_pos hd]
      refine ⟨⟨lineV_len rfl, lineV_ok _⟩, hc8 _ zero_line, ?_⟩
      exact fin _ zero_line (fun r0 H' => At H H' H ∧ r0 = _ ∧ _) (fun H' hk => ⟨At.of_keeps hk, rfl, rfl⟩)
    · rw [if_neg hd, if_neg hd]
      have hl := hm.ok.lines _ (cl_mem hi)
      refine ⟨⟨lineV_len hl.1, lineV_ok _⟩, hc8 _ hl, ?_⟩
      exact fin _ hl (fun r0 H' => At H H' H ∧ r0 = _ ∧ _) (fun H' hk => ⟨At.of_keeps hk, rfl, rfl⟩)
  · rw [if_neg hi]
    simp only [hi, decide_false, Bool.not_false, bcase_eq, if_true]
    refine ⟨⟨lineV_len rfl, lineV_ok _⟩, hc8 _ zero_line, ?_⟩
    exact fin _ zero_line (fun r0 H' => At H H' H ∧ r0 = _ ∧ _) (fun H' hk => ⟨At.of_keeps hk, rfl, trivial⟩)
theorem nvm_Memory_Get.n {k : List Value → Int → AH → Prop} (h : k (lineV (List.replicate 8 0)) 1 H) : nvm_Memory_Get none i H k := by
  refine canon2 (κ := .agg) (μ := .int .i64) (by simp) (by simp) (lineV_flat _) rfl (nvm_Memory_Get.link ?_) h
  unfold nvm_Memory_Get.b
  rw [newC_eq, zeroV]
  refine nvm_Memory_has.n ?_
  simp only [Bool.not_false, bcase_eq, if_true]
  refine ⟨⟨lineV_len rfl, lineV_ok _⟩, canPut_new.2 (by omega), ?_⟩
  rw [put_new]
  have : setMany (lineV (List.replicate 8 0)) 0 (lineV (List.replicate 8 0)) = lineV (List.replicate 8 0) := rfl
  simp only [this]
  rw [ldA_some (row_new (lineV_len rfl) (lineV_ok _))]
  exact ⟨At.of_keeps ((Keeps.refl H).push _), rfl, trivial⟩
end
/-! ### with the next heap's name alone -/

/-- All is as it was but for the blocks p and c. -/
structure Frm (H H' : AH) (p c : Nat) : Prop where
  size : H'.size = H.size
  get : ∀ b, b ≠ p → b ≠ c → H'.get b = H.get b
theorem Frm.row {H H' : AH} {p c b i n : Nat} (h : Frm H H' p c) (h1 : b ≠ p) (h2 : b ≠ c) : AH.row? H' ⟨b, i, none⟩ n = AH.row? H ⟨b, i, none⟩ n := by
  simp only [AH.row?, h.get b h1 h2]
theorem Frm.cell {H H' : AH} {p c b i : Nat} (h : Frm H H' p c) (h1 : b ≠ p) (h2 : b ≠ c) : AH.cell? H' ⟨b, i, none⟩ = AH.cell? H ⟨b, i, none⟩ := by
  simp only [AH.cell?, h.get b h1 h2]
theorem Frm.keeps {H0 H H' : AH} {p c : Nat} (h : Frm H H' p c) (hk : Keeps H0 H) (hp : H0.size ≤ p) (hc : H0.size ≤ c) : Keeps H0 H' :=
  ⟨by rw [h.size]; exact hk.1, fun b hb => by rw [h.get b (by omega) (by omega)]; exact hk.2 b hb⟩
theorem Frm.set (H : AH) (p c : Nat) (M : Mem) : Frm H (setM H p c M) p c := ⟨rfl, fun b h1 h2 => setM_other h1 h2⟩
theorem Frm.trans {H H' H2 : AH} {p c : Nat} (h : Frm H H' p c) (h' : Frm H' H2 p c) : Frm H H2 p c := ⟨h'.size.trans h.size, fun b h1 h2 => (h'.get b h1 h2).trans (h.get b h1 h2)⟩

section
variable {H : AH} {p c : Nat} {M M' : Mem} {i r : Int}
theorem nvm_Memory_Put.g {l : List Int} {k : Int → AH → Prop} (hm : MemAt H p c M) (hl : isLine l) (e : M.put i l = (M', r)) (h : ∀ H', MemAt H' p c M' → Frm H H' p c → k r H') : nvm_Memory_Put (some ⟨p, 0, none⟩) i (lineV l) H k := by
  refine nvm_Memory_Put.s hm hl ?_
  have ok := Mem.put_ok (i := i) hm.ok hl
  rw [e] at ok ⊢
  exact h _ (hm.set ok) (Frm.set _ _ _ _)
theorem nvm_Memory_Set.g {v : Int} {k : Int → AH → Prop} (hm : MemAt H p c M) (hv : isU v) (e : M.set i v = (M', r)) (h : ∀ H', MemAt H' p c M' → Frm H H' p c → k r H') : nvm_Memory_Set (some ⟨p, 0, none⟩) i v H k := by
  refine nvm_Memory_Set.s hm hv ?_
  have ok := Mem.set_ok (i := i) hm.ok hv
  rw [e] at ok ⊢
  exact h _ (hm.set ok) (Frm.set _ _ _ _)
theorem nvm_Memory_Cut.g {n mask : Int} {k : AH → Prop} (hm : MemAt H p c M) (hn : n ≤ 9223372036854775807) (h : ∀ H', MemAt H' p c (M.setCut n mask) → Frm H H' p c → k H') : nvm_Memory_Cut (some ⟨p, 0, none⟩) n mask H k :=
  nvm_Memory_Cut.s hm hn (h _ (hm.set (Mem.setCut_ok hm.ok hn)) (Frm.set _ _ _ _))
theorem nvm_Memory_Power.g {k : AH → Prop} (hm : MemAt H p c M) (h : ∀ H', MemAt H' p c M.power → Frm H H' p c → k H') : nvm_Memory_Power (some ⟨p, 0, none⟩) H k :=
  nvm_Memory_Power.s hm (h _ (hm.set (Mem.power_ok hm.ok)) (Frm.set _ _ _ _))
end
end Go.Proofs.Ytgechnnadjonaab
