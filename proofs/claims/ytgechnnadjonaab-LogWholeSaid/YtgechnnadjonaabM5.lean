import Derived.Test.YtgechnnadjonaabM4
set_option linter.all false
set_option linter.all false
namespace Go.Proofs.Ytgechnnadjonaab
open Go Go.Abs

theorem new_st {H : AH} {cs cs' : List Value} {n z : Nat} {K : Nat → AH → Prop} (hn : cs.length = n) (hl : cs'.length = n) (ha : cs'.all cellOK = true) (h : K H.size (H.push ⟨cs', .rw, z⟩)) :
    newC H ⟨cs, .rw, z⟩ fun o H1 => (cs'.length = n ∧ List.all cs' cellOK = true) ∧ stC H1 ⟨o, 0, none⟩ cs' fun Hs => K o Hs := by
  refine ⟨⟨hl, ha⟩, canPut_new.2 (by omega), ?_⟩
  rw [put_new]
  have : setMany cs 0 cs' = cs' := by
    apply List.ext_getElem?
    intro t
    rw [setMany_get _ _ _ _ (by omega)]
    by_cases ht : t < n
    · rw [if_pos (by omega)]; rfl
    · rw [if_neg (by omega), List.getElem?_eq_none (by omega), List.getElem?_eq_none (by omega)]
  rw [this]
  exact h

theorem line_new {H : AH} {l : List Int} {e : Nat} (h : isLine l) : AH.row? (H.push ⟨lineV l, .rw, e⟩) ⟨H.size, 0, none⟩ 8 = some (lineV l) := row_new (lineV_len h.1) (lineV_ok _)

theorem rows1 {α : Type} {H : AH} {s : Sl} {g : α → Value} {l : List α} (h : Abs.Rows H s 1 (fun x => [g x]) l) {i : Nat} (hi : i < l.length) :
    ∃ b o, s.a = some ⟨b, o, none⟩ ∧ b < H.size ∧ AH.cell? H (Addr.add ⟨b, o, none⟩ (i * 1)) = some (g (l[i])) := by
  obtain ⟨b, o, h1, h2, h3⟩ := h.at hi
  refine ⟨b, o, h1, h2, ?_⟩
  rw [addr_add] at h3 ⊢
  have := (AH.row?_cell h3).2.2.2.2 0 _ rfl
  simpa using this

theorem keeps_setM {H H' : AH} {p c : Nat} {M : Mem} (h : Keeps H H') (hp : H.size ≤ p) (hc : H.size ≤ c) : Keeps H (setM H' p c M) :=
  ⟨h.1, fun b hb => by rw [setM_other (by omega) (by omega)]; exact h.2 b hb⟩

theorem Mem.new_ok {n : Nat} {limits : List Int} (h : n ≤ 200) : (Mem.new n limits).ok := by
  refine ⟨?_, rfl, ?_, by simpa [Mem.new] using h, by simp [Mem.new]⟩
  · intro c hc
    simp only [Mem.new, List.mem_map, List.mem_range] at hc
    obtain ⟨i, _, rfl⟩ := hc
    exact zero_line
  · intro v hv
    rw [List.eq_of_mem_replicate hv]; unfold isU; omega

/-- New, with the first j limits set. -/
def Mem.newTo (n : Nat) (limits : List Int) (j : Nat) : Mem :=
  { Mem.new n limits with cs := (List.range n).map fun i => ⟨List.replicate 8 0, 0, if i < j then limits.getD i (-1) else 0⟩ }
theorem Mem.newTo_ok {n j : Nat} {limits : List Int} (h : n ≤ 200) : (Mem.newTo n limits j).ok := by
  refine ⟨?_, rfl, (Mem.new_ok (limits := limits) h).regU, by simpa [Mem.newTo] using h, by simp [Mem.newTo, Mem.new]⟩
  intro c hc
  simp only [Mem.newTo, List.mem_map, List.mem_range] at hc
  obtain ⟨i, _, rfl⟩ := hc
  exact zero_line
theorem Mem.newTo_n (n : Nat) (limits : List Int) : Mem.newTo n limits n = Mem.new n limits := by
  simp only [Mem.newTo, Mem.new, Mem.mk.injEq, and_true]
  refine List.map_congr_left fun i hi => ?_
  rw [if_pos (by simpa using hi)]
theorem Mem.newTo_cl {n j : Nat} {limits : List Int} {i : Nat} (hi : i < n) : (Mem.newTo n limits j).cl i = ⟨List.replicate 8 0, 0, if i < j then limits.getD i (-1) else 0⟩ := by
  simp [Mem.cl, Mem.newTo, List.getD_eq_getElem?_getD, hi]
theorem Mem.newTo_succ {n j : Nat} {limits : List Int} (hj : j < n) : (Mem.newTo n limits j).setc j ⟨List.replicate 8 0, 0, limits.getD j (-1)⟩ = Mem.newTo n limits (j + 1) := by
  simp only [Mem.newTo, Mem.setc, Mem.mk.injEq, and_true, true_and]
  apply List.ext_getElem?
  intro i
  by_cases hi : i < n
  · by_cases hij : i = j
    · subst hij; rw [List.getElem?_set_self (by simpa using hi)]; simp [hi]
    · rw [List.getElem?_set_ne (by omega)]
      simp only [List.getElem?_map, List.getElem?_range hi, Option.map_some]
      by_cases h : i < j
      · rw [if_pos h, if_pos (by omega)]
      · rw [if_neg h, if_neg (by omega)]
  · rw [List.getElem?_eq_none (by simp; omega), List.getElem?_eq_none (by simp; omega)]
theorem clV_limit {x : Cl} {v : Int} (hx : isLine x.line) : clV { x with limit := v } = setMany (clV x) 9 [.int .i64 v] := by
  simp only [setMany, clV]
  rw [List.set_append_right _ _ (by simp [lineV, hx.1])]
  simp [lineV, hx.1, i64V]

theorem nvm_New.s {H : AH} {n : Int} {x1 : Sl} {limits : List Int} {k : Option Addr → AH → Prop} (hr : Abs.Rows H x1 1 iV limits)
    (h1 : 1 ≤ n ∧ n ≤ 200 → ∀ H', MemAt H' (H.size + 1) H.size (Mem.new n.toNat limits) → Keeps H H' → H'.size = H.size + 2 → k (some ⟨H.size + 1, 0, none⟩) H') (h0 : ¬ (1 ≤ n ∧ n ≤ 200) → k none H) : nvm_New n x1 H k := by
  refine nvm_New.link ?_
  unfold nvm_New.b nvm_New.j2
  simp only [bcase_eq, decide_eq_true_eq]
  by_cases hn1 : n < 1
  · rw [if_pos hn1]; exact h0 (by omega)
  · rw [if_neg hn1]
    by_cases hn2 : n > 200
    · rw [if_pos hn2]; exact h0 (by omega)
    · rw [if_neg hn2]
      refine ⟨by simp only [lim]; omega, ?_⟩
      simp only [newC_eq, push_size]
      have hz : (⟨zerosOf n.toNat [(Value.int .u64 (0 : Int)), (Value.int .u64 (0 : Int)), (Value.int .u64 (0 : Int)), (Value.int .u64 (0 : Int)), (Value.int .u64 (0 : Int)), (Value.int .u64 (0 : Int)), (Value.int .u64 (0 : Int)), (Value.int .u64 (0 : Int)), (Value.int .i64 (0 : Int)), (Value.int .i64 (0 : Int))], .rw, 10⟩ : AObj) = celObj (Mem.newTo n.toNat limits 0) := by
        simp only [celObj, Mem.newTo, AObj.mk.injEq, and_true]
        unfold zerosOf
        rw [List.flatMap_map]
        simp only [Nat.not_lt_zero, if_false]
        have : (List.range n.toNat).flatMap (fun (_ : Nat) => clV ⟨List.replicate 8 0, 0, 0⟩) = (List.replicate n.toNat (clV ⟨List.replicate 8 0, 0, 0⟩)).flatten := by
          rw [List.flatMap_def]
          congr 1
          apply List.ext_getElem?
          intro i
          by_cases hi : i < n.toNat
          · simp [hi]
          · rw [List.getElem?_eq_none (by simp; omega), List.getElem?_eq_none (by simp; omega)]
        rw [this]
        rfl
      rw [hz]
      generalize hX : (H.push (celObj (Mem.newTo n.toNat limits 0))).push _ = H1
      have hm1 : MemAt H1 (H.size + 1) H.size (Mem.newTo n.toNat limits 0) := by
        subst hX
        refine ⟨?_, ?_, by omega, by simp [push_size], by simp [push_size]; omega, Mem.newTo_ok (by omega)⟩
        · rw [push_get, push_size, if_pos rfl]
          simp only [memObj, Mem.newTo, Mem.new, List.length_map, List.length_range]
          rfl
        · rw [push_get, push_size, if_neg (by omega), push_get, if_pos rfl]
      have hs1 : H1.size = H.size + 2 := by subst hX; simp [push_size]
      have hk1 : Keeps H H1 := by subst hX; exact ((Keeps.refl H).push _).push _
      rw [hm1.c0, elL_some]
      refine loopT_inv (t := (0 : Int)) (I := fun (t : Int) H' => ∃ j : Nat, t = (j : Int) ∧ j ≤ n.toNat ∧ H' = setM H1 (H.size + 1) H.size (Mem.newTo n.toNat limits j)) (m := fun (t : Int) _ => Int.toNat (n - t)) ?_ ⟨0, rfl, by omega, hm1.same.symm⟩
      intro t H2 hI it hit
      obtain ⟨j, rfl, hj, rfl⟩ := hI
      have hmj := hm1.set (Mem.newTo_ok (n := n.toNat) (limits := limits) (j := j) (by omega))
      have hlen : ∀ j, ((Mem.newTo n.toNat limits j).cs.length : Int) = n := by intro j; simp [Mem.newTo]; omega
      have hR := hr.keep (keeps_setM (M := Mem.newTo n.toNat limits j) (p := H.size + 1) (c := H.size) hk1 (by omega) (by omega))
      unfold nvm_New.l1
      simp only [bcase_eq, decide_eq_true_eq, hlen, hmj.c0, elL_some, onPtr_mk]
      by_cases hlt : (j : Int) < n
      · rw [if_pos hlt]
        have hi : (Mem.newTo n.toNat limits j).has j := ⟨by omega, by rw [hlen]; exact hlt⟩
        have hcl := Mem.newTo_cl (n := n.toNat) (limits := limits) (j := j) (i := j) (by omega)
        refine ⟨by omega, stC_to (hmj.can_c hi (by simp)) ((hmj.put_c hi (x := ⟨List.replicate 8 0, 0, -1⟩) (by simp) (by rw [Int.toNat_natCast, hcl]; exact clV_limit (x := ⟨List.replicate 8 0, 0, _⟩) zero_line)).trans setM_setM) ?_⟩
        simp only [Int.toNat_natCast]
        have hm2 := hm1.set (Mem.setc_ok (i := j) (x := ⟨List.replicate 8 0, 0, -1⟩) (Mem.newTo_ok (n := n.toNat) (limits := limits) (j := j) (by omega)) zero_line)
        have hi2 : ((Mem.newTo n.toNat limits j).setc j ⟨List.replicate 8 0, 0, -1⟩).has j := Mem.setc_has.2 hi
        have hlen2 : (((Mem.newTo n.toNat limits j).setc j ⟨List.replicate 8 0, 0, -1⟩).cs.length : Int) = n := by simp [Mem.setc, Mem.newTo]; omega
        rw [hr.1, wrap_i64 (n := (j : Int) + 1) (by omega) (by omega)]
        by_cases hlim : (j : Int) < (limits.length : Int)
        · rw [if_pos hlim]
          have hR2 := hr.keep (keeps_setM (M := (Mem.newTo n.toNat limits j).setc j ⟨List.replicate 8 0, 0, -1⟩) (p := H.size + 1) (c := H.size) hk1 (by omega) (by omega))
          obtain ⟨b, o, ha, _, hcell⟩ := rows1 (g := fun v => Value.int .i64 v) hR2 (i := j) (by omega)
          rw [hm2.c0, elL_some]
          refine ⟨by omega, ?_⟩
          rw [ha, onPtr_mk, hcell, elI_some]
          have hcl2 : ((Mem.newTo n.toNat limits j).setc j ⟨List.replicate 8 0, 0, -1⟩).cl j = ⟨List.replicate 8 0, 0, -1⟩ := Mem.setc_cl (i := (j : Int)) hi
          have hp := hm2.put_c (i := (j : Int)) hi2 (x := ⟨List.replicate 8 0, 0, limits[j]⟩) (j := 9) (vs := [.int .i64 limits[j]]) (by simp) (by rw [Int.toNat_natCast, hcl2]; exact clV_limit (x := ⟨List.replicate 8 0, 0, -1⟩) zero_line)
          rw [Int.toNat_natCast] at hp
          refine ⟨⟨by omega, by rw [hlen2]; exact hlt⟩, stC_to (hm2.can_c (i := j) hi2 (by simp)) (hp.trans setM_setM) ?_⟩
          rw [Mem.setc_setc]
          refine hit _ _ ⟨j + 1, by omega, by omega, ?_⟩ (by omega)
          rw [← Mem.newTo_succ (by omega), List.getD_eq_getElem?_getD, List.getElem?_eq_getElem (by omega), Option.getD_some]
        · rw [if_neg hlim]
          refine hit _ _ ⟨j + 1, by omega, by omega, ?_⟩ (by omega)
          rw [← Mem.newTo_succ (by omega), List.getD_eq_getElem?_getD, List.getElem?_eq_none (by omega), Option.getD_none]
      · rw [if_neg hlt]
        have : j = n.toNat := by omega
        subst this
        rw [Mem.newTo_n]
        exact h1 (by omega) _ (hm1.set (Mem.new_ok (by omega))) (keeps_setM hk1 (by omega) (by omega)) hs1

/-! ### could a line be a mix -/

def mixOK (old now is : List Int) (i : Nat) : Prop := is.getD i 0 = old.getD i 0 ∨ is.getD i 0 = now.getD i 0
instance (old now is : List Int) (i : Nat) : Decidable (mixOK old now is i) := by unfold mixOK; infer_instance
def could (old now is : List Int) : Prop := ∀ i, i < 8 → mixOK old now is i
instance (old now is : List Int) : Decidable (could old now is) := by unfold could; infer_instance
def masksTo (old now is : List Int) : Nat → Int
  | 0 => 1
  | j + 1 => if is.getD j 0 = old.getD j 0 ∧ is.getD j 0 = now.getD j 0 then masksTo old now is j * 2 else masksTo old now is j
theorem masksTo_le (old now is : List Int) : ∀ j, 1 ≤ masksTo old now is j ∧ masksTo old now is j ≤ 2 ^ j := by
  intro j
  induction j with
  | zero => simp [masksTo]
  | succ j ih =>
    simp only [masksTo]
    have : (2 : Int) ^ (j + 1) = 2 ^ j * 2 := Int.pow_succ 2 j
    split <;> omega

theorem could_mix {old now : List Int} {mask : Int} (ho : isLine old) (hn : isLine now) : could old now (mixL old now mask) := by
  intro i hi
  have : (mixL old now mask).getD i 0 = if mbit mask i then now.getD i 0 else old.getD i 0 := by
    simp [mixL, List.getD_eq_getElem?_getD, hi]
  unfold mixOK
  rw [this]
  split
  · exact .inr rfl
  · exact .inl rfl

/-! ### plain facts -/

theorem Mem.put_calm {M : Mem} {i : Int} {l : List Int} (hc : M.cut = -1) (hd : M.down = false) (hi : M.has i) (hl : l.length = 8) :
    M.put i l = if (M.cl i.toNat).worn then ({ M with writes := inc M.writes }, 3) else ({ M with writes := inc M.writes, cs := M.cs.set i.toNat ⟨l, inc (M.cl i.toNat).wear, (M.cl i.toNat).limit⟩ }, 0) := by
  unfold Mem.put
  rw [if_pos hi, if_neg (by simp [hd])]
  have hw : M.wr = { M with writes := inc M.writes } := by unfold Mem.wr; rw [if_neg (by omega), if_neg (by omega)]
  have hk : M.wmask = -1 := by unfold Mem.wmask; rw [if_neg (by omega)]
  simp only [hw, hk, mixL_all hl, Mem.told, hd, Mem.setc]
  simp
end Go.Proofs.Ytgechnnadjonaab
