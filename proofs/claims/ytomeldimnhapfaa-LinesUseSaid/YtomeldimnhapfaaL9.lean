import Derived.Test.YtomeldimnhapfaaL8
set_option linter.all false
set_option linter.all false
namespace Go.Proofs.Ytomeldimnhapfaa
open Go Go.Abs

/-- How many spare lines are used behind i puts of a line that lasts for L. -/
def usedBy (L i : Nat) : Nat := (i - 1) / L

structure Uses (L sp i : Nat) (M : Mem) : Prop where
  lv : LV M 3 sp (usedBy L i)
  place : M.place 3 1 sp = if usedBy L i = 0 then 1 else 2 + usedBy L i
  wear : (M.cl (M.place 3 1 sp)).wear = (i : Int) - usedBy L i * L
  spare : ∀ j, usedBy L i ≤ j → j < sp → (M.cl (3 + j)).wear = 0
  limit : ∀ j, j < 3 + sp → (M.cl j).limit = L
  view : M.view 3 sp 1 = [(i : Int), 0, 0, 0, 0, 0, 0, 0]
  cut : M.cut = -1
  up : M.down = false
  rlen : M.regs.length = 35

theorem worn_eq {c : Cl} {L : Nat} (h : c.limit = (L : Int)) : c.worn = decide ((L : Int) ≤ c.wear) := by
  unfold Cl.worn; rw [h]; simp

theorem usedBy_le {L i sp : Nat} (hL : 1 ≤ L) (hi : i ≤ L * (sp + 1)) : usedBy L i ≤ sp := by
  unfold usedBy
  rcases Nat.eq_zero_or_pos i with rfl | h
  · simp
  · have : (i - 1) / L < sp + 1 := (Nat.div_lt_iff_lt_mul (by omega)).2 (by rw [Nat.mul_comm]; omega)
    omega
theorem used_mul {L i : Nat} (hL : 1 ≤ L) : usedBy L i * L ≤ i - 1 ∧ i - 1 < usedBy L i * L + L := by
  unfold usedBy
  have h1 := Nat.div_mul_le_self (i - 1) L
  have h2 := Nat.lt_div_mul_add (a := i - 1) (b := L) (by omega)
  exact ⟨h1, h2⟩

/-- The next put. -/
theorem Uses.step {L sp i : Nat} {M : Mem} (h : Uses L sp i M) (hL : 1 ≤ L ∧ L ≤ 6) (hi : i < L * (sp + 1)) (hi60 : i < 60) :
    (lput 3 sp M 1 [(i : Int) + 1, 0, 0, 0, 0, 0, 0, 0]).2 = 0 ∧ Uses L sp (i + 1) (lput 3 sp M 1 [(i : Int) + 1, 0, 0, 0, 0, 0, 0, 0]).1 := by
  obtain ⟨hlv, hpl, hw, hs, hlim, hv, hc, hd, hr⟩ := h
  have hlen := hlv.len
  have hsp := hlv.sp16
  have hP := lput_any (slot := 1) (d := [(i : Int) + 1, 0, 0, 0, 0, 0, 0, 0]) hlv hr hd (by omega) (by omega) rfl
  have hplt := place_lt (M := M) (n := 3) (sp := sp) (s := 1) (by omega)
  obtain ⟨u1, u2⟩ := used_mul (L := L) (i := i) hL.1
  obtain ⟨v1, v2⟩ := used_mul (L := L) (i := i + 1) hL.1
  have hul := usedBy_le hL.1 (Nat.le_of_lt hi)
  have hul' := usedBy_le (L := L) (i := i + 1) (sp := sp) hL.1 (by omega)
  have hwl := worn_eq (hlim _ hplt)
  rw [hw] at hwl
  rw [Nat.add_sub_cancel] at v1 v2
  have hput := Mem.put_calm (M := M) (i := ((M.place 3 1 sp : Nat) : Int)) (l := [(i : Int) + 1, 0, 0, 0, 0, 0, 0, 0]) hc hd ⟨by omega, by omega⟩ rfl
  rw [Int.toNat_natCast, hwl] at hput
  have hinc : ∀ n : Int, 0 ≤ n → n < 1000 → inc n = n + 1 := fun n h h' => inc_eq h (by omega)
  unfold lput at hP ⊢
  rw [if_pos ⟨by omega, by omega⟩, if_neg (by simp [hd])] at hP
  rw [if_pos ⟨by omega, by omega⟩, if_neg (by simp [hd])]
  rw [show (1 : Int).toNat = 1 from rfl] at *
  rw [show ((1 : Nat) : Int).toNat = 1 from rfl, hlv.next] at hP
  rw [hlv.next]
  simp only at hP ⊢
  generalize hu : usedBy L i = u at *
  generalize hu' : usedBy L (i + 1) = u' at *
  by_cases hworn : (L : Int) ≤ (i : Int) - u * L
  · -- the line is worn: the next spare one is taken
    rw [decide_eq_true hworn, if_pos rfl] at hput
    have hmul : ((u * L : Nat) : Int) = (u : Int) * L := by push_cast; rfl
    have e1 : i = u * L + L := by omega
    have hu1 : u' = u + 1 := by
      have : (u + 1) * L = u * L + L := by rw [Nat.succ_mul]
      have h1 : u' * L ≤ (u + 1) * L := by omega
      have h2 : (u + 1) * L < (u' + 1) * L := by rw [Nat.succ_mul u']; omega
      have h3 : u' ≤ u + 1 := Nat.le_of_mul_le_mul_right h1 (by omega)
      have h4 : u + 1 < u' + 1 := Nat.lt_of_mul_lt_mul_right h2
      omega
    rw [hput] at hP ⊢
    simp only [if_true] at hP ⊢
    have hk : u < sp := by omega
    obtain ⟨j, hj⟩ : ∃ j, sp - u = j + 1 := ⟨sp - u - 1, by omega⟩
    rw [hj] at hP ⊢
    unfold lgo at hP ⊢
    have ej : sp - (j + 1) = u := by omega
    rw [ej] at hP ⊢
    simp only at hP ⊢
    have hcl : ∀ q, Mem.cl { M with writes := inc M.writes } q = M.cl q := fun _ => rfl
    have hput2 := Mem.put_calm (M := { M with writes := inc M.writes }) (i := ((3 + u : Nat) : Int)) (l := [(i : Int) + 1, 0, 0, 0, 0, 0, 0, 0]) hc hd ⟨by omega, by simp only; omega⟩ rfl
    rw [Int.toNat_natCast, hcl, worn_eq (hlim (3 + u) (by omega)), hs u (Nat.le_refl _) hk, if_neg (by simp; omega), hlim (3 + u) (by omega)] at hput2
    rw [hput2] at hP ⊢
    simp only [if_true] at hP ⊢
    have hset := Mem.set_calm (M := { M with writes := inc (inc M.writes), cs := M.cs.set (3 + u) ⟨[(i : Int) + 1, 0, 0, 0, 0, 0, 0, 0], inc 0, (L : Int)⟩ }) (i := ((3 + u : Nat) : Int)) (v := ((1 : Nat) : Int) + 1) hc hd ⟨by omega, by omega⟩
    rw [Int.toNat_natCast] at hset
    simp only at hset
    rw [hset] at hP ⊢
    refine ⟨rfl, ?_⟩
    simp only at hP
    have hclS : ∀ q, (M.cs.set (3 + u) ⟨[(i : Int) + 1, 0, 0, 0, 0, 0, 0, 0], inc 0, (L : Int)⟩).getD q ⟨[], 0, 0⟩ = if q = 3 + u then ⟨[(i : Int) + 1, 0, 0, 0, 0, 0, 0, 0], inc 0, (L : Int)⟩ else M.cl q := by
      intro q
      simp only [Mem.cl, List.getD_eq_getElem?_getD]
      by_cases hq : q = 3 + u
      · subst hq; rw [if_pos rfl, List.getElem?_set_self (by omega)]; rfl
      · rw [if_neg hq, List.getElem?_set_ne (by omega)]
    generalize hN : (Mem.mk (M.cs.set (3 + u) ⟨[(i : Int) + 1, 0, 0, 0, 0, 0, 0, 0], inc 0, (L : Int)⟩) (M.regs.set (3 + u) (((1 : Nat) : Int) + 1)) (inc (inc (inc M.writes))) M.cut M.mask M.down) = N at *
    have hclN : ∀ q, N.cl q = if q = 3 + u then ⟨[(i : Int) + 1, 0, 0, 0, 0, 0, 0, 0], inc 0, (L : Int)⟩ else M.cl q := by intro q; rw [← hN]; exact hclS q
    have hregN : N.regs = M.regs.set (3 + u) (((1 : Nat) : Int) + 1) := by rw [← hN]
    have hwh := fun q => whose_set (M' := N) (M := M) (j := q) hr (show u < 16 by omega) hregN
    have hlvN : LV N 3 sp (u + 1) := hlv.take hr hk (by omega) hregN (by rw [← hN]; simp)
    have hplN : N.place 3 1 sp = 3 + u := place_top hk (by rw [hwh, if_pos rfl]) fun q h1 h2 => by rw [hwh, if_neg (by omega), hlv.free q (by omega) h2]; omega
    refine ⟨by rw [hu', hu1]; exact hlvN, by rw [hu', hu1, hplN, if_neg (by omega)]; omega, ?_, ?_, ?_, ?_, by rw [← hN]; exact hc, by rw [← hN]; exact hd, by rw [hregN]; simpa using hr⟩
    · rw [hplN, hclN, if_pos rfl, hu', hu1]
      simp only
      rw [hinc 0 (by omega) (by omega), e1]
      push_cast
      rw [Int.add_mul]; omega
    · intro q h1 h2
      rw [hu', hu1] at h1
      rw [hclN, if_neg (by omega)]
      exact hs q (by omega) h2
    · intro q hq
      rw [hclN]
      split
      · rfl
      · exact hlim q hq
    · show (N.cl (N.place 3 1 sp)).line = _
      rw [hplN, hclN, if_pos rfl]
      push_cast; rfl
  · -- the line lasts
    rw [decide_eq_false hworn, if_neg (by simp)] at hput
    have hmul : ((u * L : Nat) : Int) = (u : Int) * L := by push_cast; rfl
    have hu1 : u' = u := by
      have h1 : u' * L < (u + 1) * L := by rw [Nat.succ_mul]; omega
      have h2 : u * L < (u' + 1) * L := by rw [Nat.succ_mul u']; omega
      have h3 : u' < u + 1 := Nat.lt_of_mul_lt_mul_right h1
      have h4 : u < u' + 1 := Nat.lt_of_mul_lt_mul_right h2
      omega
    rw [hput] at hP ⊢
    simp only at hP ⊢
    rw [if_neg (by omega)] at hP ⊢
    refine ⟨rfl, ?_⟩
    simp only at hP
    have hclS : ∀ q, (M.cs.set (M.place 3 1 sp) ⟨[(i : Int) + 1, 0, 0, 0, 0, 0, 0, 0], inc (M.cl (M.place 3 1 sp)).wear, (M.cl (M.place 3 1 sp)).limit⟩).getD q ⟨[], 0, 0⟩ = if q = M.place 3 1 sp then ⟨[(i : Int) + 1, 0, 0, 0, 0, 0, 0, 0], inc (M.cl (M.place 3 1 sp)).wear, (M.cl (M.place 3 1 sp)).limit⟩ else M.cl q := by
      intro q
      simp only [Mem.cl, List.getD_eq_getElem?_getD]
      by_cases hq : q = M.place 3 1 sp
      · subst hq; rw [if_pos rfl, List.getElem?_set_self (by omega)]; rfl
      · rw [if_neg hq, List.getElem?_set_ne (by omega)]
    have hclN : ∀ q, Mem.cl { M with writes := inc M.writes, cs := M.cs.set (M.place 3 1 sp) ⟨[(i : Int) + 1, 0, 0, 0, 0, 0, 0, 0], inc (M.cl (M.place 3 1 sp)).wear, (M.cl (M.place 3 1 sp)).limit⟩ } q = if q = M.place 3 1 sp then ⟨[(i : Int) + 1, 0, 0, 0, 0, 0, 0, 0], inc (M.cl (M.place 3 1 sp)).wear, (M.cl (M.place 3 1 sp)).limit⟩ else M.cl q := hclS
    have hplN : Mem.place { M with writes := inc M.writes, cs := M.cs.set (M.place 3 1 sp) ⟨[(i : Int) + 1, 0, 0, 0, 0, 0, 0, 0], inc (M.cl (M.place 3 1 sp)).wear, (M.cl (M.place 3 1 sp)).limit⟩ } 3 1 sp = M.place 3 1 sp := place_congr fun q _ => Iff.rfl
    generalize hN : ({ M with writes := inc M.writes, cs := M.cs.set (M.place 3 1 sp) ⟨[(i : Int) + 1, 0, 0, 0, 0, 0, 0, 0], inc (M.cl (M.place 3 1 sp)).wear, (M.cl (M.place 3 1 sp)).limit⟩ } : Mem) = N at *
    refine ⟨by rw [hu', hu1]; exact hlv.same (by rw [← hN]) (by rw [← hN]; simp), by rw [hu', hu1, hplN, hpl], ?_, ?_, ?_, ?_, by rw [← hN]; exact hc, by rw [← hN]; exact hd, by rw [← hN]; exact hr⟩
    · rw [hplN, hclN, if_pos rfl, hu', hu1]
      simp only
      rw [hw, hinc _ (by omega) (by omega)]
      push_cast; omega
    · intro q h1 h2
      rw [hu', hu1] at h1
      rw [hclN, if_neg ?_]
      · exact hs q h1 h2
      · rw [hpl]; split <;> omega
    · intro q hq
      rw [hclN]
      split
      · rename_i hh; rw [← hh]; exact hlim q hq
      · exact hlim q hq
    · show (N.cl (N.place 3 1 sp)).line = _
      rw [hplN, hclN, if_pos rfl]
      push_cast; rfl

/-- Behind the last one nothing can be put. -/
theorem Uses.last {L sp : Nat} {M : Mem} {d : List Int} (h : Uses L sp (L * (sp + 1)) M) (hL : 1 ≤ L ∧ L ≤ 6) (hsp : sp ≤ 5) (hl : d.length = 8) :
    (lput 3 sp M 1 d).2 = 3 ∧ Uses L sp (L * (sp + 1)) (lput 3 sp M 1 d).1 := by
  obtain ⟨hlv, hpl, hw, hs, hlim, hv, hc, hd, hr⟩ := h
  have hlen := hlv.len
  have hplt := place_lt (M := M) (n := 3) (sp := sp) (s := 1) (by omega)
  have hu : usedBy L (L * (sp + 1)) = sp := by
    obtain ⟨u1, u2⟩ := used_mul (L := L) (i := L * (sp + 1)) hL.1
    have hle := usedBy_le (L := L) (i := L * (sp + 1)) (sp := sp) hL.1 (Nat.le_refl _)
    have e : L * (sp + 1) = sp * L + L := by rw [Nat.mul_succ, Nat.mul_comm]
    rw [e] at u1 u2 hle ⊢
    have h1 : sp * L < (usedBy L (sp * L + L) + 1) * L := by rw [Nat.succ_mul]; omega
    have h2 : sp < usedBy L (sp * L + L) + 1 := Nat.lt_of_mul_lt_mul_right h1
    omega
  have hwl := worn_eq (hlim _ hplt)
  rw [hw, hu] at hwl
  have e : ((L * (sp + 1) : Nat) : Int) = (sp : Int) * L + L := by push_cast; rw [Int.mul_add, Int.mul_comm]; omega
  rw [e, decide_eq_true (by omega)] at hwl
  have hput := Mem.put_calm (M := M) (i := ((M.place 3 1 sp : Nat) : Int)) (l := d) hc hd ⟨by omega, by omega⟩ hl
  rw [Int.toNat_natCast, hwl, if_pos rfl] at hput
  have hres : lput 3 sp M 1 d = ({ M with writes := inc M.writes }, 3) := by
    unfold lput
    rw [if_pos ⟨by omega, by omega⟩, if_neg (by simp [hd]), show (1 : Int).toNat = 1 from rfl, hlv.next, hu, hput, Nat.sub_self]
    rfl
  rw [hres]
  have hp : Mem.place { M with writes := inc M.writes } 3 1 sp = M.place 3 1 sp := place_congr fun q _ => Iff.rfl
  have hvv : Mem.view { M with writes := inc M.writes } 3 sp 1 = M.view 3 sp 1 := view_same rfl rfl
  exact ⟨rfl, hlv.same rfl rfl, hp.trans hpl, by rw [hp]; exact hw, hs, hlim, hvv.trans hv, hc, hd, hr⟩

section
variable {H : AH}
theorem rows_new' {α : Type} {H : AH} {g : α → Value} {l : List α} (hg : ∀ x, cellOK (g x) = true) {k e : Nat} : Abs.Rows (H.push ⟨l.map g, .rw, e⟩) ⟨some ⟨H.size, 0, none⟩, l.length, k⟩ 1 (fun x => [g x]) l := by
  refine ⟨rfl, fun i x hi => ⟨_, rfl, rfl, by simp [push_size], ?_⟩⟩
  have hl := (List.getElem?_eq_some_iff.1 hi).1
  simp only [AH.row?, push_get, if_true, Option.isSome_none, Bool.false_eq_true, if_false, Nat.zero_add, Nat.mul_one]
  have e1 : ((l.map g).drop i).take 1 = [g x] := by
    rw [List.drop_eq_getElem_cons (by simpa using hl)]
    simp only [List.take_succ_cons, List.take_zero, List.getElem_map]
    rw [(List.getElem?_eq_some_iff.1 hi).2]
  rw [if_neg (by simp), e1, if_pos ⟨by simp; omega, by simp [hg]⟩]
theorem darninglaw7_LinesUse.t {x0 x1 x2 : Int} : darninglaw7_LinesUse x0 x1 x2 H (fun r _ => r = true) := by
  refine darninglaw7_LinesUse.link ?_
  unfold darninglaw7_LinesUse.b
  have hx := umod (m := 6) (by omega) x0
  have hy := umod (m := 6) (by omega) x1
  have hz := umod (m := 60) (by omega) x2
  obtain ⟨L, hLe⟩ := Int.eq_ofNat_of_zero_le (show 0 ≤ 1 + Int.tmod (IntKind.wrap .u64 x0) 6 by omega)
  obtain ⟨sp, hsp⟩ := Int.eq_ofNat_of_zero_le hy.1
  obtain ⟨n, hn⟩ := Int.eq_ofNat_of_zero_le hz.1
  have hL : IntKind.wrap .i64 (1 + IntKind.wrap .i64 (Int.tmod (IntKind.wrap .u64 x0) 6)) = (L : Int) := by rw [wrap_i64 (n := Int.tmod (IntKind.wrap .u64 x0) 6) (by omega) (by omega), wrap_i64 (by omega) (by omega), hLe]
  have hS : IntKind.wrap .i64 (Int.tmod (IntKind.wrap .u64 x1) 6) = (sp : Int) := by rw [wrap_i64 (by omega) (by omega), hsp]
  have hNN : IntKind.wrap .i64 (Int.tmod (IntKind.wrap .u64 x2) 60) = (n : Int) := by rw [wrap_i64 (by omega) (by omega), hn]
  have hS3 : IntKind.wrap .i64 ((3 : Int) + (sp : Int)) = ((3 + sp : Nat) : Int) := by rw [wrap_i64 (by omega) (by omega)]; omega
  have hL1 : 1 ≤ L ∧ L ≤ 6 := by omega
  have hsp1 : sp ≤ 5 := by omega
  have hn1 : n < 60 := by omega
  rw [hS, hS3]
  refine ⟨by decide, by decide, by decide, ⟨by omega, by omega, by simp only [lim]; omega⟩, ?_⟩
  rw [newC_eq, Int.toNat_natCast]
  have hz0 : zerosOf (3 + sp) [Value.int .i64 (0 : Int)] = ((List.range (3 + sp)).map fun q => i64V (if q < 0 then (L : Int) else 0)) := by
    unfold zerosOf
    rw [List.flatten_replicate_singleton]
    apply List.ext_getElem?
    intro q
    by_cases hq : q < 3 + sp
    · simp [hq, i64V]
    · rw [List.getElem?_eq_none (by simp; omega), List.getElem?_eq_none (by simp; omega)]
  rw [hz0]
  refine loopT_inv (t := (0 : Int)) (I := fun (t : Int) H' => ∃ j : Nat, t = (j : Int) ∧ j ≤ 3 + sp ∧ H' = H.push ⟨(List.range (3 + sp)).map fun q => i64V (if q < j then (L : Int) else 0), .rw, 1⟩) (m := fun (t : Int) _ => Int.toNat (((3 + sp : Nat) : Int) - t)) ?_ ⟨0, rfl, by omega, rfl⟩
  intro t H1 hI it hit
  obtain ⟨j, rfl, hj, rfl⟩ := hI
  unfold darninglaw7_LinesUse.l6
  simp only [bcase_eq, decide_eq_true_eq, hS, hS3, hL, Int.toNat_natCast]
  by_cases hlt : (j : Int) < ((3 + sp : Nat) : Int)
  · rw [if_pos hlt]
    refine ⟨by omega, ?_⟩
    rw [addr_add, Nat.zero_add, Nat.mul_one]
    refine stC_to (canPut_new.2 (by simp; omega)) (put_new _ _ _ _ _) ?_
    rw [wrap_i64 (n := (j : Int) + 1) (by omega) (by omega)]
    refine hit _ _ ⟨j + 1, by omega, by omega, ?_⟩ (by omega)
    congr 2
    simp only [setMany]
    apply List.ext_getElem?
    intro q
    by_cases hqj : q = j
    · subst hqj
      rw [List.getElem?_set_self (by simp; omega)]
      simp [show q < 3 + sp by omega, i64V]
    · rw [List.getElem?_set_ne (by omega)]
      by_cases hq : q < 3 + sp
      · simp only [List.getElem?_map, List.getElem?_range hq, Option.map_some]
        by_cases hh : q < j
        · rw [if_pos hh, if_pos (by omega)]
        · rw [if_neg hh, if_neg (by omega)]
      · rw [List.getElem?_eq_none (by simp; omega), List.getElem?_eq_none (by simp; omega)]
  rw [if_neg hlt]
  have hje : j = 3 + sp := by omega
  subst hje
  clear hit hlt
  have hlist : ((List.range (3 + sp)).map fun q => i64V (if q < 3 + sp then (L : Int) else 0)) = (List.replicate (3 + sp) (L : Int)).map i64V := by
    apply List.ext_getElem?
    intro q
    by_cases hq : q < 3 + sp
    · simp [hq]
    · rw [List.getElem?_eq_none (by simp; omega), List.getElem?_eq_none (by simp; omega)]
  rw [hlist]
  unfold darninglaw7_LinesUse.j5
  simp only [hS, hS3, Int.toNat_natCast]
  have hR := rows_new' (H := H) (g := fun v => Value.int .i64 v) (l := List.replicate (3 + sp) (L : Int)) (fun _ => rfl) (k := 1) (e := 1)
  rw [List.length_replicate] at hR
  have hk0 : Keeps H (H.push ⟨(List.replicate (3 + sp) (L : Int)).map i64V, .rw, 1⟩) := (Keeps.refl H).push _
  refine nvm_New.s (limits := List.replicate (3 + sp) (L : Int)) hR ?_ (fun h => absurd (by omega) h)
  intro _ H2 hm hk _
  rw [Int.toNat_natCast] at hm
  have hzero : ∀ i, i < sp → (Mem.new (3 + sp) (List.replicate (3 + sp) (L : Int))).whose i = 0 := fun i hi => whose_new (by omega)
  have hlenM : (Mem.new (3 + sp) (List.replicate (3 + sp) (L : Int))).cs.length = 3 + sp := by simp [Mem.new]
  have hLV : LV (Mem.new (3 + sp) (List.replicate (3 + sp) (L : Int))) 3 sp 0 := LV.zero hlenM (by omega) (by omega) hzero
  have hclM : ∀ q, q < 3 + sp → (Mem.new (3 + sp) (List.replicate (3 + sp) (L : Int))).cl q = ⟨List.replicate 8 0, 0, L⟩ := by
    intro q hq
    rw [Mem.new_cl hq]
    simp [List.getD_eq_getElem?_getD, hq]
  have hpl : (Mem.new (3 + sp) (List.replicate (3 + sp) (L : Int))).place 3 1 sp = 1 := by
    rcases place_cases (Mem.new (3 + sp) (List.replicate (3 + sp) (L : Int))) 3 1 sp with h | ⟨q, h1, _, h3⟩
    · exact h
    · have := hzero q h1; omega
  have hu0 : usedBy L 0 = 0 := by simp [usedBy]
  have hU : Uses L sp 0 (Mem.new (3 + sp) (List.replicate (3 + sp) (L : Int))) := by
    refine ⟨by rw [hu0]; exact hLV, by rw [hpl, hu0]; rfl, by rw [hpl, hclM 1 (by omega), hu0]; simp, fun q h1 h2 => by rw [hclM _ (by omega)], fun q hq => by rw [hclM q hq], ?_, rfl, rfl, rfl⟩
    show (Mem.cl _ (Mem.place _ 3 1 sp)).line = _
    rw [hpl, hclM 1 (by omega)]
    rfl
  generalize Mem.new (3 + sp) (List.replicate (3 + sp) (L : Int)) = M0 at *
  refine lines_New.s hm (by unfold isI; omega) (by unfold isI; omega) (fun hh => absurd ⟨by omega, by omega, by omega, by omega, hU.up, by rw [Int.toNat_natCast]; exact hLV.may⟩ hh) ?_
  intro _ H3 hLA hk3 _
  rw [Int.toNat_natCast, show Int.toNat 3 = 3 from rfl] at hLA
  rw [Option.isNone_some, bcase_false]
  generalize (H.push ⟨(List.replicate (3 + sp) (L : Int)).map i64V, .rw, 1⟩).size = c at *
  generalize H2.size = x at *
  have hT : L * (sp + 1) ≤ 36 := by
    calc L * (sp + 1) ≤ 6 * (5 + 1) := Nat.mul_le_mul (by omega) (by omega)
      _ = 36 := rfl
  have hT1 : 1 ≤ L * (sp + 1) := Nat.mul_pos (by omega) (by omega)
  have hTT : IntKind.wrap .i64 ((L : Int) * IntKind.wrap .i64 ((sp : Int) + 1)) = ((L * (sp + 1) : Nat) : Int) := by
    rw [wrap_i64 (n := (sp : Int) + 1) (by omega) (by omega)]
    have : (L : Int) * ((sp : Int) + 1) = ((L * (sp + 1) : Nat) : Int) := by push_cast; rfl
    rw [this, wrap_i64 (by omega) (by omega)]
  refine loopT_inv (t := ((false, (0 : Int)) : Bool × Int)) (I := fun (t : Bool × Int) H' => ∃ i : Nat, t.2 = (i : Int) ∧ i ≤ n ∧ ∃ M, LAt H' x (c + 1) c 3 sp M ∧ Uses L sp (min i (L * (sp + 1))) M) (m := fun (t : Bool × Int) _ => Int.toNat ((n : Int) - t.2)) ?_ ⟨0, rfl, by omega, _, hLA, by rw [Nat.zero_min]; exact hU⟩
  intro t H4 hI it hit
  obtain ⟨t1, t2⟩ := t
  obtain ⟨i, h1, h2, M, hL4, hU4⟩ := hI
  simp only at h1
  subst h1
  unfold darninglaw7_LinesUse.l4
  simp only [bcase_eq, decide_eq_true_eq, hNN, hL, hS, hTT]
  by_cases hlt : (i : Int) < (n : Int)
  · rw [if_pos hlt, wrap_i64 (n := (i : Int) + 1) (by omega) (by omega), wrap_u64 (n := (i : Int) + 1) (by omega) (by omega), lineV_lit]
    have hld : isLine [(i : Int) + 1, 0, 0, 0, 0, 0, 0, 0] := isLine_lit (by unfold isU; omega)
    by_cases hiT : i < L * (sp + 1)
    · rw [Nat.min_eq_left (by omega)] at hU4
      obtain ⟨e, hU5⟩ := hU4.step hL1 hiT (by omega)
      refine lines_Put.g hL4 hld (Prod.eta _).symm ?_
      intro H5 hL5 f5
      refine ⟨by omega, ?_⟩
      rw [if_pos (by omega), e, if_neg (by simp)]
      refine lines_Left.s hL5 ?_
      have hleft : lleft (lput 3 sp M 1 [(i : Int) + 1, 0, 0, 0, 0, 0, 0, 0]).1 sp = sp - i / L := by
        unfold lleft; rw [if_neg (by simp [hU5.up]), hU5.lv.left]
        simp [usedBy]
      have hdl : i / L ≤ sp := by
        have := usedBy_le (L := L) (i := i + 1) (sp := sp) hL1.1 (by omega)
        simpa [usedBy] using this
      have hle := Nat.div_le_self i L
      have hc : Int.tdiv (i : Int) (L : Int) = ((i / L : Nat) : Int) := by rw [Int.tdiv_eq_ediv_of_nonneg (by omega)]; push_cast; rfl
      generalize i / L = qq at *
      have hdiv : IntKind.wrap .i64 (Int.tdiv (i : Int) (L : Int)) = (qq : Int) := by rw [hc, wrap_i64 (by omega) (by omega)]
      unfold darninglaw7_LinesUse.j2
      rw [hleft, hdiv]
      have hmin : (if (qq : Int) < (sp : Int) then (qq : Int) else (sp : Int)) = (qq : Int) := by split <;> omega
      rw [hmin, wrap_i64 (n := (sp : Int) - (qq : Int)) (by omega) (by omega), bcase_eq, if_neg (by simp; omega), wrap_i64 (n := (i : Int) + 1) (by omega) (by omega)]
      exact hit _ _ ⟨i + 1, by simp, by omega, _, hL5, by rw [Nat.min_eq_left (by omega)]; exact hU5⟩ (by simp only; omega)
    · rw [Nat.min_eq_right (by omega)] at hU4
      obtain ⟨e, hU5⟩ := hU4.last (d := [(i : Int) + 1, 0, 0, 0, 0, 0, 0, 0]) hL1 hsp1 rfl
      refine lines_Put.g hL4 hld (Prod.eta _).symm ?_
      intro H5 hL5 f5
      refine ⟨by omega, ?_⟩
      rw [if_neg (by omega)]
      have hlT : isLine [((L * (sp + 1) : Nat) : Int), 0, 0, 0, 0, 0, 0, 0] := isLine_lit (by unfold isU; omega)
      have hg : lget 3 sp (lput 3 sp M 1 [(i : Int) + 1, 0, 0, 0, 0, 0, 0, 0]).1 1 = ([((L * (sp + 1) : Nat) : Int), 0, 0, 0, 0, 0, 0, 0], 0) := by
        unfold lget; rw [if_pos ⟨by omega, by omega⟩, if_neg (by simp [hU5.up])]
        exact Prod.ext hU5.view rfl
      refine lines_Get.s hL5 ?_
      rw [hg, zeroV]
      refine new_line hlT ?_
      rw [e, if_neg (by simp), ldA_some (line_new hlT), wrap_u64 (n := ((L * (sp + 1) : Nat) : Int)) (by omega) (by omega), lineV_lit, eq_line hlT hlT, beq_self_eq_true]
      unfold darninglaw7_LinesUse.j3
      rw [Bool.not_true, bcase_false, wrap_i64 (n := (i : Int) + 1) (by omega) (by omega)]
      exact hit _ _ ⟨i + 1, by simp, by omega, _, hL5.push _, by rw [Nat.min_eq_right (by omega)]; exact hU5⟩ (by simp only; omega)
  · rw [if_neg hlt]
    unfold darninglaw7_LinesUse.j1
    exact darninglaw7_awake.s rfl
end
end Go.Proofs.Ytomeldimnhapfaa
