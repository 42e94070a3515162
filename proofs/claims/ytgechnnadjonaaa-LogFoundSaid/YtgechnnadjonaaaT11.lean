import Derived.Test.YtgechnnadjonaaaT10
set_option linter.all false
set_option linter.all false
namespace Go.Proofs.Ytgechnnadjonaaa
open Go Go.Abs

section
variable {H : AH}

/-- The memory behind j Puts of line 0. -/
structure W9 (n per j : Nat) (M : Mem) : Prop where
  free : Free n M
  mv : M.mv = j / per
  wear : ∀ s, s < n + 1 → (M.cl s).wear = ((lw n per j s + gw n per j s : Nat) : Int)

theorem W9.step {n per j : Nat} {M : Mem} {d : List Int} (h : W9 n per j M) (hok : M.ok) (hn : 1 ≤ n) (hp : 1 ≤ per) (hj : j ≤ 100000) (hd : d.length = 8)
    (hmv : (tput n 0 per M (j % per) (0 : Nat) d).1.mv = M.mv + (if j % per + 1 = per then 1 else 0)) :
    W9 n per (j + 1) (tput n 0 per M (j % per) (0 : Nat) d).1 := by
  obtain ⟨d1, d2⟩ := div_succ (P := j) hp
  obtain ⟨_, f2, f3⟩ := h.free.tput hok hn (line := 0) (per := per) (puts := j % per) (d := d) (by omega) hd _ rfl
  refine ⟨f2, by rw [hmv, h.mv, d1], fun s hs => ?_⟩
  rw [f3 s hs]
  unfold wearTo
  simp only [h.wear s hs, h.mv, ← d1]
  have a1 := lw_le (n := n) (per := per) (j := j) (s := s)
  have a2 := gw_le (n := n) (per := per) (j := j) (s := s)
  simp only [lw, gw]
  generalize lw n per j s = x at *
  generalize gw n per j s = y at *
  have i1 : inc ((x + y : Nat) : Int) = ((x + (y + 1) : Nat) : Int) := by rw [inc_eq (by omega) (by omega)]; omega
  have e1 : ((if j % per + 1 = per then 1 else 0) = 1 ∧ s = gapN n (j / per)) ↔ (j % per + 1 = per ∧ s = gapN n (j / per)) := by
    by_cases hh : j % per + 1 = per
    · simp [hh]
    · simp [hh]
  simp only [e1]
  by_cases c1 : j % per + 1 = per ∧ s = gapN n (j / per)
  · simp only [if_pos c1]
    by_cases c2 : s = slotN n ((j + 1) / per) 0
    · rw [if_pos c2, if_pos c2, i1, inc_eq (by omega) (by omega)]; omega
    · rw [if_neg c2, if_neg c2, i1]; omega
  · simp only [if_neg c1]
    by_cases c2 : s = slotN n ((j + 1) / per) 0
    · rw [if_pos c2, if_pos c2, inc_eq (by omega) (by omega)]; omega
    · rw [if_neg c2, if_neg c2]; omega

theorem darninglaw9_TurnWears.t {x0 x1 x2 : Int} (_ : (Lit.int .i64 x0).wf = true) (_ : (Lit.int .i64 x1).wf = true) (_ : (Lit.int .i64 x2).wf = true) : darninglaw9_TurnWears x0 x1 x2 H (fun r _ => r = true) := by
  refine darninglaw9_TurnWears.link ?_
  unfold darninglaw9_TurnWears.b
  simp only [bcase_eq]
  have hx := umod (m := 10) (by omega) x0
  have hy := umod (m := 6) (by omega) x1
  have hz := umod (m := 1000) (by omega) x2
  refine ⟨by decide, by decide, by decide, ?_⟩
  have e0 := wrap_i64 (n := Int.tmod (IntKind.wrap .u64 x0) 10) (by omega) (by omega)
  have e1 := wrap_i64 (n := Int.tmod (IntKind.wrap .u64 x1) 6) (by omega) (by omega)
  have e2 := wrap_i64 (n := Int.tmod (IntKind.wrap .u64 x2) 1000) (by omega) (by omega)
  obtain ⟨n, hn⟩ := Int.eq_ofNat_of_zero_le (show 0 ≤ 1 + Int.tmod (IntKind.wrap .u64 x0) 10 by omega)
  obtain ⟨per, hper⟩ := Int.eq_ofNat_of_zero_le (show 0 ≤ 1 + Int.tmod (IntKind.wrap .u64 x1) 6 by omega)
  obtain ⟨J, hJ⟩ := Int.eq_ofNat_of_zero_le hz.1
  have hN : IntKind.wrap .i64 (1 + IntKind.wrap .i64 (Int.tmod (IntKind.wrap .u64 x0) 10)) = (n : Int) := by rw [e0, wrap_i64 (by omega) (by omega), hn]
  have hP : IntKind.wrap .i64 (1 + IntKind.wrap .i64 (Int.tmod (IntKind.wrap .u64 x1) 6)) = (per : Int) := by rw [e1, wrap_i64 (by omega) (by omega), hper]
  have hJJ : IntKind.wrap .i64 (Int.tmod (IntKind.wrap .u64 x2) 1000) = (J : Int) := by rw [e2, hJ]
  have hn1 : 1 ≤ n ∧ n ≤ 10 := by omega
  have hp1 : 1 ≤ per ∧ per ≤ 6 := by omega
  have hj1 : J < 1000 := by omega
  have hN1 : IntKind.wrap .i64 ((n : Int) + 1) = ((n + 1 : Nat) : Int) := by rw [wrap_i64 (by omega) (by omega)]; omega
  rw [hN, hP, hN1]
  refine nvm_New.s (limits := []) rows_nil ?_ (fun h => absurd (by omega) h)
  intro _ H1 hm hk sz1
  rw [Int.toNat_natCast] at hm
  have hF0 : Free n (Mem.new (n + 1) []) := Free.new
  have hw0 : W9 n per 0 (Mem.new (n + 1) []) := ⟨hF0, by rw [Nat.zero_div]; rfl, fun s hs => by rw [Mem.new_cl hs]; rfl⟩
  generalize Mem.new (n + 1) [] = M0 at *
  have hlen := hF0.len
  have hLV : LV M0 (n + 1) 0 0 := LV.zero hF0.len (by omega) (by omega) fun i hi => by omega
  have hmv0 : M0.mv = 0 := by rw [hw0.mv, Nat.zero_div]
  refine turn_New.s hm (by unfold isI; omega) (fun hh => absurd ⟨by omega, by omega, by omega, by omega, by omega, by omega, hF0.up, hLV.may, by omega⟩ hh) ?_
  intro _ H2 t x hT hk2 ht hxl
  rw [Int.toNat_natCast, Int.toNat_natCast, show Int.toNat 0 = 0 from rfl] at hT
  rw [Option.isNone_some, if_neg (by simp)]
  refine loopT_inv (t := ((false, (0 : Int)) : Bool × Int)) (I := fun (t' : Bool × Int) H' => ∃ j : Nat, t'.2 = (j : Int) ∧ j ≤ J ∧ ∃ M, TAt H' t x (H.size + 1) H.size n 0 per (j % per) M ∧ W9 n per j M) (m := fun (t : Bool × Int) _ => Int.toNat ((J : Int) - t.2)) ?_ ⟨0, rfl, by omega, M0, by rw [Nat.zero_mod]; exact hT, hw0⟩
  intro t1 H4 hI it hit
  obtain ⟨v1, v2⟩ := t1
  obtain ⟨j, h1, hj, M, hTj, hW⟩ := hI
  simp only at h1
  subst h1
  unfold darninglaw9_TurnWears.l4
  simp only [bcase_eq, decide_eq_true_eq, hJJ]
  have hjd : j / per ≤ j := Nat.div_le_self _ _
  have hmvj := hW.mv
  by_cases hlt : (j : Int) < (J : Int)
  · rw [if_pos hlt, lineV_lit]
    have hld : isLine [IntKind.wrap .u64 (j : Int), 0, 0, 0, 0, 0, 0, 0] := isLine_lit (isU_wrap _)
    generalize [IntKind.wrap .u64 (j : Int), 0, 0, 0, 0, 0, 0, 0] = d at *
    have hLVj : LV M (n + 1) 0 0 := LV.zero hW.free.len (by omega) (by omega) fun i hi => by omega
    obtain ⟨hPP, hpu⟩ := tput_any (line := 0) (d := d) (period := per) (puts := j % per) hLVj hn1.1 hTj.l.m.ok (by omega) hW.free.up (by omega) hld.1
    obtain ⟨f1, f2, _⟩ := hW.free.tput hTj.l.m.ok hn1.1 (line := 0) (per := per) (puts := j % per) (d := d) (by omega) hld.1 _ rfl
    have hstep := hW.step hTj.l.m.ok hn1.1 hp1.1 (by omega) hld.1 (hPP.mv.2.2 f1)
    obtain ⟨d1, d2⟩ := div_succ (P := j) hp1.1
    refine turn_Put.s hTj hLVj (by omega) hld ?_
    intro H5 hT5 f5 _
    rw [show ((0 : Nat) : Int) = 0 from rfl] at hpu f1 hstep
    rw [hpu, ← d2] at hT5
    rw [f1, if_neg (by simp), wrap_i64 (n := (j : Int) + 1) (by omega) (by omega)]
    exact hit _ _ ⟨j + 1, by simp, by omega, _, hT5, hstep⟩ (by simp only; omega)
  · rw [if_neg hlt]
    have : j = J := by omega
    subst this
    unfold darninglaw9_TurnWears.j3
    have hQ : j / (per * n * (n + 1)) ≤ j := Nat.div_le_self _ _
    obtain ⟨R, hR⟩ : ∃ R, R = j / (per * n * (n + 1)) + 1 := ⟨_, rfl⟩
    have m1 : per * n ≤ 6 * 10 := Nat.mul_le_mul hp1.2 hn1.2
    have m2 : per * n * (n + 1) ≤ 60 * 11 := Nat.mul_le_mul m1 (by omega)
    have m0 : 1 ≤ per * n := Nat.mul_pos (by omega) (by omega)
    have m00 : 1 ≤ per * n * (n + 1) := Nat.mul_pos (by omega) (by omega)
    have m3 : 2 * R * (n + 1) ≤ 2000 * 11 := Nat.mul_le_mul (by omega) (by omega)
    have m4 : 2 * R * (n + 1) * per ≤ 22000 * 6 := Nat.mul_le_mul m3 hp1.2
    have m5 : 2 * R * n ≤ 2000 * 10 := Nat.mul_le_mul (by omega) hn1.2
    have hden : IntKind.wrap .i64 (IntKind.wrap .i64 ((per : Int) * (n : Int)) * ((n + 1 : Nat) : Int)) = ((per * n * (n + 1) : Nat) : Int) := by
      rw [show (per : Int) * (n : Int) = ((per * n : Nat) : Int) by simp, wrap_i64 (n := ((per * n : Nat) : Int)) (by omega) (by omega), show ((per * n : Nat) : Int) * ((n + 1 : Nat) : Int) = ((per * n * (n + 1) : Nat) : Int) by simp]
      exact wrap_i64 (by omega) (by omega)
    have hrnd : IntKind.wrap .i64 (IntKind.wrap .i64 (Int.tdiv (j : Int) ((per * n * (n + 1) : Nat) : Int)) + 1) = (R : Int) := by
      rw [tdiv_nat]
      generalize j / (per * n * (n + 1)) = q at *
      rw [wrap_i64 (n := (q : Int)) (by omega) (by omega), wrap_i64 (by omega) (by omega)]; omega
    have h2R : IntKind.wrap .i64 (2 * (R : Int)) = ((2 * R : Nat) : Int) := by rw [wrap_i64 (by omega) (by omega)]; omega
    have hb1 : IntKind.wrap .i64 (((2 * R : Nat) : Int) * ((n + 1 : Nat) : Int)) = ((2 * R * (n + 1) : Nat) : Int) := by
      rw [show ((2 * R : Nat) : Int) * ((n + 1 : Nat) : Int) = ((2 * R * (n + 1) : Nat) : Int) from (Int.natCast_mul _ _).symm]; exact wrap_i64 (by omega) (by omega)
    have hb2 : IntKind.wrap .i64 (((2 * R * (n + 1) : Nat) : Int) * (per : Int)) = ((2 * R * (n + 1) * per : Nat) : Int) := by
      rw [show ((2 * R * (n + 1) : Nat) : Int) * (per : Int) = ((2 * R * (n + 1) * per : Nat) : Int) from (Int.natCast_mul _ _).symm]; exact wrap_i64 (by omega) (by omega)
    have hb3 : IntKind.wrap .i64 (((2 * R : Nat) : Int) * (n : Int)) = ((2 * R * n : Nat) : Int) := by
      rw [show ((2 * R : Nat) : Int) * (n : Int) = ((2 * R * n : Nat) : Int) from (Int.natCast_mul _ _).symm]; exact wrap_i64 (by omega) (by omega)
    have hb4 : IntKind.wrap .i64 (((2 * R * (n + 1) * per : Nat) : Int) + ((2 * R * n : Nat) : Int)) = ((2 * R * (n + 1) * per + 2 * R * n : Nat) : Int) := by
      rw [show ((2 * R * (n + 1) * per : Nat) : Int) + ((2 * R * n : Nat) : Int) = ((2 * R * (n + 1) * per + 2 * R * n : Nat) : Int) from (Int.natCast_add _ _).symm]; exact wrap_i64 (by omega) (by omega)
    have hwe : ∀ s, s < n + 1 → lw n per j s + gw n per j s ≤ 2 * R * (n + 1) * per + 2 * R * n := fun s hs => wear_bound hn1.1 hp1.1 (by omega) hR
    generalize 2 * R * (n + 1) * per + 2 * R * n = BB at *
    have hlenj := hW.free.len
    refine loopT_inv (I := fun (t1 : Bool × Int × Int) H' => ∃ s : Nat, t1.2.2 = (s : Int) ∧ s ≤ n + 1 ∧ t1.2.1 = (tot (fun s => lw n per j s + gw n per j s) s : Nat) ∧ tot (fun s => lw n per j s + gw n per j s) s ≤ 2000 * s ∧ TAt H' t x (H.size + 1) H.size n 0 per (j % per) M) (m := fun (t : Bool × Int × Int) _ => Int.toNat (((n + 1 : Nat) : Int) - t.2.2)) ?_ ⟨0, rfl, by omega, rfl, Nat.zero_le _, hTj⟩
    intro t2 H6 hI it2 hit2
    obtain ⟨w1, w2, w3⟩ := t2
    obtain ⟨s, h1, h2, h3, h4, hT6⟩ := hI
    simp only at h1 h3
    subst h1 h3
    unfold darninglaw9_TurnWears.l2
    simp only [bcase_eq, decide_eq_true_eq, hN, hN1, hP, hJJ, hden, hrnd, h2R, hb1, hb2, hb3, hb4]
    by_cases hs : (s : Int) < ((n + 1 : Nat) : Int)
    · rw [if_pos hs]
      refine nvm_Memory_Wear.s hT6.l.m ?_
      have hwo : M.wearOf (s : Int) = ((lw n per j s + gw n per j s : Nat) : Int) := by
        unfold Mem.wearOf
        rw [if_pos ⟨by omega, by omega⟩, Int.toNat_natCast]
        exact hW.wear s (by omega)
      have hB := hwe s (by omega)
      have a1 := lw_le (n := n) (per := per) (j := j) (s := s)
      have a2 := gw_le (n := n) (per := per) (j := j) (s := s)
      have htot : tot (fun s => lw n per j s + gw n per j s) (s + 1) = tot (fun s => lw n per j s + gw n per j s) s + (lw n per j s + gw n per j s) := rfl
      rw [hwo]
      generalize hww : lw n per j s + gw n per j s = w at *
      refine ⟨by omega, ?_⟩
      rw [if_neg (by omega), wrap_i64 (n := (s : Int) + 1) (by omega) (by omega), wrap_i64 (n := ((tot (fun s => lw n per j s + gw n per j s) s : Nat) : Int) + (w : Int)) (by omega) (by omega)]
      exact hit2 _ _ ⟨s + 1, by simp, by omega, by simp only [htot]; omega, by rw [htot]; omega, hT6⟩ (by simp only; omega)
    · rw [if_neg hs]
      have : s = n + 1 := by omega
      subst this
      have hfull : tot (fun s => lw n per j s + gw n per j s) (n + 1) = j + j / per := by rw [tot_add, tot_lw hn1.1, tot_gw hp1.1]
      rw [hfull]
      unfold darninglaw9_TurnWears.j1
      simp only [bcase_eq, hP, hJJ]
      refine turn_Moves.s hT6 hW.free.up ?_
      have hdv : Int.tdiv (j : Int) (per : Int) = ((j / per : Nat) : Int) := tdiv_nat _ _
      rw [hW.mv, hdv]
      generalize j / per = q at *
      rw [wrap_i64 (n := (j : Int) + (q : Int)) (by omega) (by omega), wrap_i64 (n := (q : Int)) (by omega) (by omega), if_pos (by simp)]
      refine ⟨by omega, turn_Moves.s hT6 hW.free.up ?_⟩
      rw [hmvj, if_pos (by simp)]
      exact darninglaw9_awake.s rfl
end
end Go.Proofs.Ytgechnnadjonaaa
