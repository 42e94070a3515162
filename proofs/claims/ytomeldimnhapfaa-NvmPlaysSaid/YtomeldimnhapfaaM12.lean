import Derived.Test.YtomeldimnhapfaaM11
set_option linter.all false
set_option linter.all false
namespace Go.Proofs.Ytomeldimnhapfaa
open Go Go.Abs

theorem rows_all1 {α : Type} {H : AH} {s : Sl} {g : α → Value} {l : List α} (hg : ∀ x, cellOK (g x) = true) (h : Abs.Rows H s 1 (fun x => [g x]) l) : AH.rowS? H s 1 = some (l.map g) := by
  simp only [AH.rowS?]
  by_cases h0 : s.n = 0
  · rw [if_pos h0]
    have : l = [] := List.length_eq_zero_iff.1 (by rw [← h.1]; exact h0)
    subst this; rfl
  · rw [if_neg h0]
    have hpos : 0 < l.length := by rw [← h.1]; omega
    obtain ⟨b, o, ha, hb, hr0⟩ := h.at hpos
    rw [ha]
    simp only [Nat.mul_one]
    have hcell : ∀ i (hi : i < l.length), AH.cell? H ⟨b, o + i, none⟩ = some (g l[i]) := by
      intro i hi
      obtain ⟨b', o', ha', _, hr⟩ := rows1 h hi
      rw [ha] at ha'
      injection ha' with ha'
      injection ha' with e1 e2 _
      subst e1 e2
      rw [addr_add, Nat.mul_one] at hr
      exact hr
    have hm : (H.get b).md ≠ .dead := by
      intro hm
      have := hcell 0 hpos
      simp [AH.cell?, hm] at this
    have hc : ∀ i (hi : i < l.length), (H.get b).cells[o + i]? = some (g l[i]) := by
      intro i hi
      have := hcell i hi
      simpa [AH.cell?, hm] using this
    have hlen : o + s.n ≤ (H.get b).cells.length := by
      have h1 := hc (l.length - 1) (by omega)
      have := (List.getElem?_eq_some_iff.1 h1).1
      have := h.1
      omega
    have htake : ((H.get b).cells.drop o).take s.n = l.map g := by
      apply List.ext_getElem?
      intro i
      by_cases hi : i < s.n
      · have hi' : i < l.length := by rw [← h.1]; exact hi
        rw [List.getElem?_take, if_pos hi, List.getElem?_drop, hc i hi', List.getElem?_map, List.getElem?_eq_getElem hi', Option.map_some]
      · rw [List.getElem?_eq_none (by simp; omega), List.getElem?_eq_none (by rw [List.length_map, ← h.1]; omega)]
    simp only [AH.row?, Option.isSome_none, Bool.false_eq_true, if_false]
    rw [if_neg hm, htake, if_pos ⟨hlen, by simp [hg]⟩]

theorem rows_new {α : Type} {H : AH} {g : α → Value} {l : List α} (hg : ∀ x, cellOK (g x) = true) {k e : Nat} : Abs.Rows (H.push ⟨l.map g, .rw, e⟩) ⟨some ⟨H.size, 0, none⟩, l.length, k⟩ 1 (fun x => [g x]) l := by
  refine ⟨rfl, fun i x hi => ⟨_, rfl, rfl, by simp [push_size], ?_⟩⟩
  have hl := (List.getElem?_eq_some_iff.1 hi).1
  simp only [AH.row?, push_get, if_true, Option.isSome_none, Bool.false_eq_true, if_false, Nat.zero_add, Nat.mul_one]
  have e1 : ((l.map g).drop i).take 1 = [g x] := by
    rw [List.drop_eq_getElem_cons (by simpa using hl)]
    simp only [List.take_succ_cons, List.take_zero, List.getElem_map]
    rw [(List.getElem?_eq_some_iff.1 hi).2]
  rw [if_neg (by simp), e1, if_pos ⟨by simp; omega, by simp [hg]⟩]

theorem zeros_flat {α : Type} (f : α → List Value) (n : Nat) (x : α) : zerosOf n (f x) = (List.replicate n x).flatMap f := by
  unfold zerosOf
  rw [List.flatMap_def, List.map_replicate]

theorem RMem.new_ok {n : Nat} {limits : List Int} (h : n ≤ 200) : (RMem.new n limits).ok := by
  refine ⟨fun l hl => ?_, rfl, fun v hv => ?_, by simp [RMem.new], by simpa [RMem.new] using h, by simp [RMem.new]⟩
  · rw [List.eq_of_mem_replicate hl]; exact zero_line
  · rw [List.eq_of_mem_replicate hv]; unfold isU; omega

theorem darningref4_NewMemory.s {H : AH} {n : Int} {x1 : Sl} {limits : List Int} {k : Option Addr → AH → Prop} (hr : Abs.Rows H x1 1 iV limits) (hlen : limits.length ≤ 1000000)
    (h1 : 1 ≤ n ∧ n ≤ 200 → ∀ H' q a b sl, RAt H' q a b sl (RMem.new n.toNat limits) → Keeps H H' → H.size ≤ q → H.size ≤ a → H.size ≤ b → (∀ y, sl.a = some y → H.size ≤ y.block) → k (some ⟨q, 0, none⟩) H') (h0 : ¬ (1 ≤ n ∧ n ≤ 200) → k none H) : darningref4_NewMemory n x1 H k := by
  refine darningref4_NewMemory.link ?_
  unfold darningref4_NewMemory.b darningref4_NewMemory.j1
  simp only [bcase_eq, decide_eq_true_eq]
  by_cases hn1 : n < 1
  · rw [if_pos hn1]; exact h0 (by omega)
  · rw [if_neg hn1]
    by_cases hn2 : n > 200
    · rw [if_pos hn2]; exact h0 (by omega)
    · rw [if_neg hn2]
      have hl : (0 ≤ n ∧ n ≤ n ∧ n ≤ (lim : Int)) := by simp only [lim]; omega
      refine ⟨hl, ?_⟩
      simp only [newC_eq, push_size, zeroV]
      refine ⟨hl, ?_⟩
      have e1 : (⟨zerosOf n.toNat (lineV (List.replicate 8 0)), .rw, 8⟩ : AObj) = rL (RMem.new n.toNat limits) := by rw [zeros_flat]; rfl
      have e2 : (⟨zerosOf n.toNat [Value.int .i64 (0 : Int)], .rw, 1⟩ : AObj) = rW (RMem.new n.toNat limits) := by
        have : zerosOf n.toNat [Value.int .i64 (0 : Int)] = zerosOf n.toNat (iV 0) := rfl
        rw [this, zeros_flat]; rfl
      rw [e1, e2]
      generalize hX : (H.push (rL (RMem.new n.toNat limits))).push (rW (RMem.new n.toNat limits)) = H2
      have hk2 : Keeps H H2 := by rw [← hX]; exact ((Keeps.refl H).push _).push _
      have hs2 : H2.size = H.size + 2 := by rw [← hX]; simp [push_size]
      have ga : H2.get H.size = rL (RMem.new n.toNat limits) := by rw [← hX, push_get_ne (by simp [push_size]), push_get, if_pos rfl]
      have gb : H2.get (H.size + 1) = rW (RMem.new n.toNat limits) := by rw [← hX, push_get, push_size, if_pos rfl]
      have hR := hr.keep hk2
      have fin : ∀ (s : Sl) (H3 : AH), Keeps H2 H3 → Abs.Rows H3 s 1 iV limits → (∀ y, s.a = some y → H2.size ≤ y.block ∧ y.block < H3.size) → ∀ o, o = rObj H.size (H.size + 1) s (RMem.new n.toNat limits) → k (some ⟨H3.size, 0, none⟩) (H3.push o) := by
        intro s H3 hk3 hR3 hs o ho
        have hsz := hk3.1
        refine h1 (by omega) _ _ H.size (H.size + 1) s ⟨?_, ?_, ?_, hR3.keep ((Keeps.refl _).push _), ?_, ?_, ?_, ?_, ?_, ?_, ?_, ?_, RMem.new_ok (by omega)⟩ ((hk2.trans hk3).push _) ?_ ?_ ?_ ?_
        · rw [push_get, if_pos rfl, ho]
        · rw [push_get_ne (by omega), hk3.2 _ (by omega), ga]
        · rw [push_get_ne (by omega), hk3.2 _ (by omega), gb]
        · simp [push_size]
        · simp [push_size]; omega
        · simp [push_size]; omega
        · omega
        · omega
        · omega
        · intro y hy; have := hs y hy; omega
        · intro y hy; have := hs y hy; simp [push_size]; omega
        · omega
        · omega
        · omega
        · intro y hy; have := hs y hy; omega
      refine ⟨by rw [hR.1]; simp [lim]; omega, ?_⟩
      by_cases hz : x1.n = 0
      · rw [if_pos hz]
        have : limits = [] := List.length_eq_zero_iff.1 (by rw [← hr.1]; exact hz)
        subst this
        refine fin ⟨none, 0, 0⟩ H2 (Keeps.refl _) rows_nil (by simp) _ ?_
        simp only [rObj, RMem.new, List.length_replicate]
        rfl
      · rw [if_neg hz]
        refine ⟨_, rows_all1 (g := fun v => Value.int .i64 v) (fun _ => rfl) hR, ?_⟩
        have hx1 : 0 + x1.n = limits.length := by rw [Nat.zero_add]; exact hr.1
        simp only [hx1, newAt]
        refine fin ⟨some ⟨H2.size, 0, none⟩, limits.length, 1⟩ _ ((Keeps.refl _).push _) (rows_new (g := fun v => Value.int .i64 v) (fun _ => rfl)) (by rintro y hy; injection hy with hy; subst hy; simp [push_size]) _ ?_
        simp only [rObj, RMem.new, List.length_replicate]
        rfl

/-! ## The two memories go together -/

structure Sim (n : Nat) (M : Mem) (w : RMem) (j : Nat) : Prop where
  L : w.L = M.cs.map Cl.line
  W : w.W = M.cs.map Cl.wear
  lim : ∀ i, i < M.cs.length → (M.cl i).limit = w.lim.getD i (-1)
  R : w.R = M.regs
  count : w.count = M.writes
  dark : w.dark = M.down
  mask : w.mask = M.mask
  len : M.cs.length = n
  cut : M.down = false → -1 ≤ M.cut ∧ (w.cuts = M.cut + 1 ∨ (w.cuts = 0 ∧ 4611686018427387904 - (j : Int) ≤ M.cut))

section
variable {n j : Nat} {M : Mem} {w : RMem} {i : Int}

theorem Sim.has (h : Sim n M w j) : w.has i ↔ M.has i := by unfold RMem.has Mem.has; rw [h.L]; simp
theorem Sim.lineAt (h : Sim n M w j) (hi : M.has i) : w.L.getD i.toNat [] = (M.cl i.toNat).line := by
  have := cl_get hi
  rw [h.L, List.getD_eq_getElem?_getD, List.getElem?_map, this]; rfl
theorem Sim.wearAt (h : Sim n M w j) (hi : M.has i) : w.W.getD i.toNat 0 = (M.cl i.toNat).wear := by
  have := cl_get hi
  rw [h.W, List.getD_eq_getElem?_getD, List.getElem?_map, this]; rfl
theorem Sim.worn (h : Sim n M w j) (hi : M.has i) : w.worn i.toNat = (M.cl i.toNat).worn := by
  have hl := h.lim i.toNat (by unfold Mem.has at hi; omega)
  unfold RMem.worn Cl.worn
  rw [hl, h.wearAt hi]
  by_cases hlt : i.toNat < w.lim.length
  · rw [if_pos hlt]
    simp only [List.getD_eq_getElem?_getD, List.getElem?_eq_getElem hlt, Option.getD_some]
  · rw [if_neg hlt]
    simp only [List.getD_eq_getElem?_getD, List.getElem?_eq_none (Nat.le_of_not_lt hlt), Option.getD_none]
    rfl

theorem Sim.step (h : Sim n M w j) (hd : M.down = false) (hj : j < 1000000) :
    (M.wr = { M with writes := inc M.writes, down := true } ∧ M.wmask = M.mask ∧ w.goes = ({ w with count := inc w.count, cuts := 0 }, true)) ∨
    (∃ c' u', M.wr = { M with writes := inc M.writes, cut := c' } ∧ M.wmask = -1 ∧ w.goes = ({ w with count := inc w.count, cuts := u' }, false) ∧ -1 ≤ c' ∧ (u' = c' + 1 ∨ (u' = 0 ∧ 4611686018427387904 - ((j : Int) + 1) ≤ c'))) := by
  obtain ⟨hc0, hc⟩ := h.cut hd
  unfold RMem.goes Mem.wr Mem.wmask
  by_cases h0 : M.cut = 0
  · have hw : w.cuts = 1 := by omega
    left
    rw [if_pos h0, if_pos h0, if_neg (by omega)]
    refine ⟨rfl, rfl, ?_⟩
    simp [hw]
  · right
    rw [if_neg h0, if_neg h0]
    by_cases h1 : 0 < M.cut
    · rw [if_pos h1]
      by_cases hw : w.cuts = 0
      · refine ⟨M.cut - 1, 0, rfl, rfl, ?_, by omega, by omega⟩
        rw [if_pos hw, ← hw]
      · refine ⟨M.cut - 1, w.cuts - 1, rfl, rfl, ?_, by omega, by omega⟩
        rw [if_neg hw]
        simp; omega
    · rw [if_neg h1]
      have hw : w.cuts = 0 := by omega
      refine ⟨M.cut, 0, rfl, rfl, ?_, by omega, by omega⟩
      rw [if_pos hw, ← hw]

theorem Sim.later (h : Sim n M w j) : Sim n M w (j + 1) :=
  ⟨h.L, h.W, h.lim, h.R, h.count, h.dark, h.mask, h.len, fun hd => by have := h.cut hd; omega⟩

theorem Sim.put {l : List Int} (h : Sim n M w j) (hl : l.length = 8) (hj : j < 1000000) : (w.put i l).2 = (M.put i l).2 ∧ Sim n (M.put i l).1 (w.put i l).1 (j + 1) := by
  unfold RMem.put Mem.put
  by_cases hi : M.has i
  · rw [if_pos hi, if_pos (h.has.2 hi), h.dark]
    by_cases hd : M.down = true
    · rw [if_pos hd, if_pos hd]; exact ⟨rfl, h.later⟩
    · rw [if_neg hd, if_neg hd]
      have hd' : M.down = false := by simpa using hd
      have hworn : ∀ x y, RMem.worn { w with count := x, cuts := y } i.toNat = (M.cl i.toNat).worn := fun x y => h.worn hi
      have hlen : i.toNat < M.cs.length := by unfold Mem.has at hi; omega
      have setL : ∀ x : List Int, w.L.set i.toNat x = (M.cs.set i.toNat ⟨x, inc (M.cl i.toNat).wear, (M.cl i.toNat).limit⟩).map Cl.line := fun x => by rw [h.L, List.map_set]
      have setW : ∀ x : List Int, w.W.set i.toNat (inc (w.W.getD i.toNat 0)) = (M.cs.set i.toNat ⟨x, inc (M.cl i.toNat).wear, (M.cl i.toNat).limit⟩).map Cl.wear := fun x => by rw [h.wearAt hi, h.W, List.map_set]
      have setlim : ∀ (x : List Int) (k : Nat), k < (M.cs.set i.toNat ⟨x, inc (M.cl i.toNat).wear, (M.cl i.toNat).limit⟩).length → ((M.cs.set i.toNat ⟨x, inc (M.cl i.toNat).wear, (M.cl i.toNat).limit⟩).getD k ⟨[], 0, 0⟩).limit = w.lim.getD k (-1) := by
        intro x k hk
        rw [List.length_set] at hk
        have := h.lim k hk
        rw [← this]
        simp only [Mem.cl, List.getD_eq_getElem?_getD]
        by_cases hki : k = i.toNat
        · subst hki; rw [List.getElem?_set_self hk]; rfl
        · rw [List.getElem?_set_ne (by omega)]
      rcases h.step hd' hj with ⟨e1, e2, e3⟩ | ⟨c', u', e1, e2, e3, h1, h2⟩
      · simp only [e1, e2, e3, hworn]
        by_cases hw : (M.cl i.toNat).worn = true
        · rw [if_pos hw, if_pos hw]
          exact ⟨rfl, h.L, h.W, h.lim, h.R, by simp [h.count, RMem.ended], rfl, h.mask, h.len, by simp⟩
        · rw [if_neg hw, if_neg hw]
          refine ⟨rfl, ?_, ?_, ?_, h.R, by simp [h.count, RMem.ended, Mem.setc], rfl, h.mask, by simpa [Mem.setc] using h.len, by simp [Mem.setc]⟩
          · simp only [RMem.ended, if_true, Mem.setc]
            rw [h.lineAt hi, h.mask]; exact setL _
          · simp only [RMem.ended, if_true, Mem.setc]; exact setW _
          · exact setlim _
      · simp only [e1, e2, e3, hworn]
        by_cases hw : (M.cl i.toNat).worn = true
        · rw [if_pos hw, if_pos hw]
          refine ⟨by simp [RMem.ended, Mem.told, hd'], h.L, h.W, h.lim, h.R, by simp [h.count, RMem.ended], by simpa [RMem.ended] using h.dark, h.mask, h.len, ?_⟩
          intro _; simp only [RMem.ended]; exact ⟨h1, by simpa using h2⟩
        · rw [if_neg hw, if_neg hw]
          refine ⟨by simp [RMem.ended, Mem.told, hd'], ?_, ?_, ?_, h.R, by simp [h.count, RMem.ended, Mem.setc], by simpa [RMem.ended, Mem.setc] using h.dark, h.mask, by simpa [Mem.setc] using h.len, ?_⟩
          · simp only [RMem.ended, Mem.setc, Bool.false_eq_true, if_false]
            rw [mixL_all hl]; exact setL _
          · simp only [RMem.ended, Mem.setc, Bool.false_eq_true, if_false]; exact setW _
          · exact setlim _
          · intro _; simp only [RMem.ended, Mem.setc]; exact ⟨h1, by simpa using h2⟩
  · rw [if_neg hi, if_neg (fun hh => hi (h.has.1 hh))]
    exact ⟨rfl, h.later⟩

theorem Sim.set {v : Int} (h : Sim n M w j) (hj : j < 1000000) : (w.set i v).2 = (M.set i v).2 ∧ Sim n (M.set i v).1 (w.set i v).1 (j + 1) := by
  unfold RMem.set Mem.set
  by_cases hi : regIn i
  · rw [if_pos hi, if_pos hi, h.dark]
    by_cases hd : M.down = true
    · rw [if_pos hd, if_pos hd]; exact ⟨rfl, h.later⟩
    · rw [if_neg hd, if_neg hd]
      have hd' : M.down = false := by simpa using hd
      rcases h.step hd' hj with ⟨e1, e2, e3⟩ | ⟨c', u', e1, e2, e3, h1, h2⟩
      · simp only [e1, e2, e3, if_true, h.mask]
        refine ⟨rfl, ?_⟩
        by_cases hm : mbit M.mask 0 = true
        · rw [if_pos hm, if_pos hm]
          exact ⟨h.L, h.W, h.lim, by simp [h.R], by simp [h.count], rfl, rfl, h.len, by simp⟩
        · rw [if_neg hm, if_neg hm]
          exact ⟨h.L, h.W, h.lim, h.R, by simp [h.count], rfl, rfl, h.len, by simp⟩
      · simp only [e1, e2, e3, Bool.false_eq_true, if_false]
        rw [if_pos (mbit_neg 0 (by omega))]
        refine ⟨by simp [Mem.told, hd'], h.L, h.W, h.lim, by simp [h.R], by simp [h.count], by simpa using h.dark, h.mask, h.len, ?_⟩
        intro _; exact ⟨h1, by simpa using h2⟩
  · rw [if_neg hi, if_neg hi]; exact ⟨rfl, h.later⟩

theorem Sim.setCut {mask : Int} (h : Sim n M w j) (hi : i ≤ 9223372036854775807) : Sim n (M.setCut i mask) (w.cut i mask) (j + 1) := by
  refine ⟨h.L, h.W, h.lim, h.R, h.count, h.dark, rfl, h.len, fun hd => ?_⟩
  simp only [Mem.setCut, RMem.cut]
  by_cases h0 : 0 ≤ i ∧ i < 4611686018427387904
  · rw [if_pos h0]; omega
  · rw [if_neg h0]; omega
theorem Sim.power (h : Sim n M w j) : Sim n M.power w.power (j + 1) := by
  refine ⟨h.L, h.W, h.lim, h.R, h.count, rfl, h.mask, h.len, fun hd => ?_⟩
  simp only [Mem.power, RMem.power]
  omega
theorem Sim.reg (h : Sim n M w j) : w.reg i = M.reg i := by unfold RMem.reg Mem.reg; rw [h.dark, h.R]
theorem Sim.get (h : Sim n M w j) : w.get i = M.get i := by
  unfold RMem.get Mem.get
  rw [h.dark]
  by_cases hi : M.has i
  · rw [if_pos hi, if_pos (h.has.2 hi), h.lineAt hi]
  · rw [if_neg hi, if_neg (fun hh => hi (h.has.1 hh))]
theorem Sim.new (n : Nat) (limits : List Int) : Sim n (Mem.new n limits) (RMem.new n limits) 0 := by
  refine ⟨?_, ?_, fun i hi => ?_, rfl, rfl, rfl, rfl, by simp [Mem.new], fun _ => by simp [Mem.new, RMem.new]⟩
  · simp only [Mem.new, RMem.new, List.map_map]
    apply List.ext_getElem?
    intro i
    by_cases hi : i < n
    · simp [hi]
    · rw [List.getElem?_eq_none (by simp; omega), List.getElem?_eq_none (by simp; omega)]
  · simp only [Mem.new, RMem.new, List.map_map]
    apply List.ext_getElem?
    intro i
    by_cases hi : i < n
    · simp [hi]
    · rw [List.getElem?_eq_none (by simp; omega), List.getElem?_eq_none (by simp; omega)]
  · rw [Mem.new_cl (by simpa [Mem.new] using hi)]; rfl
end
end Go.Proofs.Ytomeldimnhapfaa
