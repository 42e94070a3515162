import Derived.Test.YtomeldimnhapfaaL7
set_option linter.all false
set_option linter.all false
namespace Go.Proofs.Ytomeldimnhapfaa
open Go Go.Abs

section
variable {H : AH} {sp : Nat}

/-! ### LinesDead -/

theorem lgo_dead {d : List Int} (dead : Nat → Bool) (hl : d.length = 8) : ∀ (j : Nat) (M : Mem), j ≤ sp → LV M 1 sp (sp - j) → M.regs.length = 35 → M.down = false → M.cut = -1 → (∀ i, sp - j ≤ i → i < sp → (M.cl (1 + i)).worn = dead i) →
    (∀ g, sp - j ≤ g → g < sp → dead g = false → (∀ i, sp - j ≤ i → i < g → dead i = true) → (lgo 1 sp 0 d j M).2 = 0 ∧ LV (lgo 1 sp 0 d j M).1 1 sp (g + 1)) ∧
    ((∀ i, sp - j ≤ i → i < sp → dead i = true) → (lgo 1 sp 0 d j M).2 = 3 ∧ LV (lgo 1 sp 0 d j M).1 1 sp sp) := by
  intro j
  induction j with
  | zero =>
    intro M _ h hr hd hc hw
    exact ⟨fun g h1 h2 => by omega, fun _ => ⟨rfl, h⟩⟩
  | succ j ih =>
    intro M hj h hr hd hc hw
    have hsp := h.sp16
    have hlen := h.len
    have hkeq : sp - j = sp - (j + 1) + 1 := by omega
    have hP := Mem.put_any (M := M) (i := 1 + (sp - (j + 1))) (l := d) hd (by omega) hl (by omega)
    have hw0 := hw (sp - (j + 1)) (Nat.le_refl _) (by omega)
    unfold lgo
    simp only
    have hk : sp - (j + 1) < sp := by omega
    generalize M.put ((1 + (sp - (j + 1)) : Nat) : Int) d = R at *
    rw [hkeq] at ih
    generalize sp - (j + 1) = k at *
    have h1 : LV R.1 1 sp k := h.same hP.regs hP.len
    have hr1 : R.1.regs.length = 35 := by rw [hP.regs]; exact hr
    rcases hP.res with ⟨e, hd1, hwn, _⟩ | ⟨e, hd1, hwn, hsame⟩ | ⟨_, _, hcut, _⟩
    · rw [hwn] at hw0
      rw [if_pos e]
      have hS := Mem.set_any (M := R.1) (i := 3 + k) (v := ((0 : Nat) : Int) + 1) hd1 (by omega) hP.cutge
      rcases hS.res with ⟨e', hd', hq⟩ | ⟨_, _, hcut, _⟩
      · refine ⟨fun g g1 g2 g3 g4 => ?_, fun hall => ?_⟩
        · have : g = k := by
            rcases Nat.lt_or_ge k g with hh | hh
            · have := g4 k (Nat.le_refl _) hh; rw [← hw0] at this; cases this
            · omega
          subst this
          exact ⟨e', h1.take hr1 hk (by omega) hq (by rw [hS.cs])⟩
        · have := hall k (Nat.le_refl _) hk; rw [← hw0] at this; cases this
      · exact absurd (hP.cut hc) hcut
    · rw [hwn] at hw0
      rw [if_neg (by omega), if_pos e]
      have hS := Mem.set_any (M := R.1) (i := 3 + k) (v := ((1 : Nat) : Int) + 1) hd1 (by omega) hP.cutge
      rcases hS.res with ⟨e', hd', hq⟩ | ⟨_, _, hcut, _⟩
      · rw [if_pos e']
        have h2 := h1.take hr1 hk (v := ((1 : Nat) : Int) + 1) (by omega) hq (by rw [hS.cs])
        have hI := ih _ (by omega) h2 (by rw [hq]; simpa using hr1) hd' (hS.cut (hP.cut hc)) (fun i i1 i2 => by
          rw [cl_of_cs hS.cs, hP.other _ (by omega)]
          exact hw i (by omega) i2)
        refine ⟨fun g g1 g2 g3 g4 => ?_, fun hall => ?_⟩
        · have hgk : g ≠ k := by rintro rfl; rw [g3] at hw0; cases hw0
          exact hI.1 g (by omega) g2 g3 fun i i1 i2 => g4 i (by omega) i2
        · exact hI.2 fun i i1 i2 => hall i (by omega) i2
      · exact absurd (hP.cut hc) hcut
    · exact absurd hc hcut

theorem darninglaw7_bit.s {b : Bool} {k : Int → AH → Prop} (h : k (if b then 1 else 0) H) : darninglaw7_bit b H k := by
  refine darninglaw7_bit.link ?_
  unfold darninglaw7_bit.b
  rw [bcase_eq]
  split <;> simp_all

def deadLim (l : List Bool) : List Int := 0 :: l.map fun d => if d then 0 else -1
/-- The first one that is good. -/
def goodTo (l : List Bool) : Nat → Int
  | 0 => -1
  | j + 1 => if l.getD j true = false ∧ goodTo l j < 0 then (j : Int) else goodTo l j

theorem goodTo_cases (l : List Bool) : ∀ j, (goodTo l j = -1 ∧ ∀ i, i < j → l.getD i true = true) ∨ (∃ g : Nat, goodTo l j = (g : Int) ∧ g < j ∧ l.getD g true = false ∧ ∀ i, i < g → l.getD i true = true) := by
  intro j
  induction j with
  | zero => exact .inl ⟨rfl, fun i hi => by omega⟩
  | succ j ih =>
    simp only [goodTo]
    rcases ih with ⟨h1, h2⟩ | ⟨g, h1, h2, h3, h4⟩
    · by_cases hb : l.getD j true = false
      · rw [if_pos ⟨hb, by omega⟩]
        exact .inr ⟨j, rfl, by omega, hb, h2⟩
      · rw [if_neg (fun hh => hb hh.1)]
        refine .inl ⟨h1, fun i hi => ?_⟩
        rcases Nat.lt_or_ge i j with h | h
        · exact h2 i h
        · have : i = j := by omega
          subst this
          simpa using hb
    · rw [if_neg (fun hh => by omega)]
      exact .inr ⟨g, h1, by omega, h3, h4⟩

theorem darninglaw7_LinesDead.t {x0 : Sl} {l : List Bool} {v : Int} (hr : Abs.Rows H x0 1 bV l) (_ : ∀ b ∈ l, isT b) (_ : l.length ≤ maxLen) (hv' : (Lit.int .u64 v).wf = true) : darninglaw7_LinesDead x0 v H (fun r _ => r = true) := by
  have hv : isU v := wf_u64 hv'
  refine darninglaw7_LinesDead.link ?_
  unfold darninglaw7_LinesDead.b
  simp only [bcase_eq, decide_eq_true_eq, hr.1]
  by_cases h1 : (l.length : Int) > 16
  · rw [if_pos h1]; exact darninglaw7_awake.s rfl
  rw [if_neg h1, newC_eq]
  have base : Own H.size (H.push ⟨[Value.int .i64 (0 : Int)], .rw, 1⟩) ⟨some ⟨H.size, 0, none⟩, 1, 1⟩ 1 iV [0] := .inr ⟨H.size, rfl, Nat.le_refl _, by simp [push_size], by rw [push_get, if_pos rfl]; rfl⟩
  refine loopT_inv (t := ((⟨some ⟨H.size, 0, none⟩, 1, 1⟩, (-1 : Int), (0 : Int)) : Sl × Int × Int)) (I := fun (t : Sl × Int × Int) H' => ∃ i : Nat, t.2.2 = (i : Int) ∧ i ≤ l.length ∧ Keeps H H' ∧ Own H.size H' t.1 1 iV (deadLim (l.take i)) ∧ t.2.1 = goodTo l i) (m := fun (t : Sl × Int × Int) _ => Int.toNat ((l.length : Int) - t.2.2)) ?_ ⟨0, rfl, by omega, (Keeps.refl H).push _, base, rfl⟩
  intro t H1 hI it hit
  obtain ⟨t1, t2, t3⟩ := t
  obtain ⟨i, e1, hi, hK, hO, e2⟩ := hI
  simp only at e1 e2 hO
  subst e1 e2
  unfold darninglaw7_LinesDead.l3
  simp only [bcase_eq, decide_eq_true_eq, hr.1]
  by_cases hlt : (i : Int) < (l.length : Int)
  · rw [if_pos hlt]
    obtain ⟨bb, oo, ha, _, hc⟩ := rows1 (g := fun v => Value.bool v) (hr.keep hK) (i := i) (by omega)
    refine ⟨by omega, ?_⟩
    rw [ha, onPtr_mk, Int.toNat_natCast, hc, elB_some]
    have hget : l.getD i true = l[i]'(by omega) := by rw [List.getD_eq_getElem?_getD, List.getElem?_eq_getElem (by omega), Option.getD_some]
    have htk : deadLim (l.take (i + 1)) = deadLim (l.take i) ++ [if l[i]'(by omega) then 0 else -1] := by
      simp only [deadLim, List.take_succ, List.getElem?_eq_getElem (show i < l.length by omega), Option.toList_some, List.map_append, List.map_cons, List.map_nil, List.cons_append]
    generalize hb : l[i]'(by omega) = b at *
    refine darninglaw7_bit.s ?_
    have hval : IntKind.wrap .i64 (0 - (if (!b) = true then 1 else 0)) = (if b = true then 0 else -1) := by cases b <;> decide
    rw [hval, newC_eq]
    refine append_own (H0 := H) (B := H.size) (f := iV) (x := if b = true then 0 else -1) (l := deadLim (l.take i)) (fun _ => rfl) rfl hO (Nat.le_refl _) hK.1 hK (by simp only [deadLim, List.length_cons, List.length_map, List.length_take, lim]; omega) ?_
    intro s' H' hO' hK' _ _
    rw [← htk] at hO'
    have hgt : goodTo l (i + 1) = if b = false ∧ goodTo l i < 0 then (i : Int) else goodTo l i := by simp only [goodTo, hget]
    have step : ∀ v, v = goodTo l (i + 1) → it (s', v, (i : Int) + 1) H' := by
      rintro v rfl
      exact hit _ _ ⟨i + 1, by simp, by omega, hK', hO', rfl⟩ (by simp only; omega)
    have j2 : ∀ x, (x = true ↔ (b = false ∧ goodTo l i < 0)) → darninglaw7_LinesDead.j2 (t1, goodTo l i, (i : Int)) it H' s' x := by
      intro x hx
      unfold darninglaw7_LinesDead.j2
      simp only [bcase_eq, wrap_i64 (n := (i : Int) + 1) (by omega) (by omega)]
      by_cases hx' : x = true
      · rw [if_pos hx']; exact step _ (by rw [hgt, if_pos (hx.1 hx')])
      · rw [if_neg hx']; exact step _ (by rw [hgt, if_neg (fun hh => hx' (hx.2 hh))])
    cases b with
    | true => rw [if_neg (by simp)]; exact j2 _ (by simp)
    | false => rw [if_pos (by simp)]; exact j2 _ (by simp)
  · rw [if_neg hlt]
    have : i = l.length := by omega
    subst this
    rw [List.take_length] at hO
    unfold darninglaw7_LinesDead.j1
    simp only [bcase_eq, decide_eq_true_eq, hr.1]
    rw [wrap_i64 (n := 1 + (l.length : Int)) (by omega) (by omega)]
    refine nvm_New.s (hO.rows (fun _ => rfl) (fun _ => rfl)) ?_ (fun h => absurd (by omega) h)
    intro _ H2 hm hk _
    have hl1 : ((1 : Int) + (l.length : Int)).toNat = 1 + l.length := by omega
    rw [hl1] at hm
    have hzero : ∀ i, i < l.length → (Mem.new (1 + l.length) (deadLim l)).whose i = 0 := fun i hi => whose_new (by omega)
    have hlenM : (Mem.new (1 + l.length) (deadLim l)).cs.length = 1 + l.length := by simp [Mem.new]
    have hLV : LV (Mem.new (1 + l.length) (deadLim l)) 1 l.length 0 := LV.zero hlenM (by omega) (by omega) hzero
    have hw : ∀ i, i < l.length → ((Mem.new (1 + l.length) (deadLim l)).cl (1 + i)).worn = l.getD i true := by
      intro i hi
      rw [Mem.new_cl (by omega), Nat.add_comm 1 i]
      have hx : (deadLim l).getD (i + 1) (-1) = if l[i] then 0 else -1 := by
        simp only [deadLim, List.getD_cons_succ]
        rw [List.getD_eq_getElem?_getD, List.getElem?_map, List.getElem?_eq_getElem hi]; rfl
      have hy : l.getD i true = l[i] := by rw [List.getD_eq_getElem?_getD, List.getElem?_eq_getElem hi]; rfl
      rw [hx, hy]
      unfold Cl.worn
      cases l[i] <;> rfl
    have hw0 : ((Mem.new (1 + l.length) (deadLim l)).cl 0).worn = true := by
      rw [Mem.new_cl (by omega)]; rfl
    have hv0 : (Mem.new (1 + l.length) (deadLim l)).view 1 l.length 0 = List.replicate 8 0 := by rw [view_zero hzero, Mem.new_cl (by omega)]
    have hpl : (Mem.new (1 + l.length) (deadLim l)).place 1 0 l.length = 0 := by
      rcases place_cases (Mem.new (1 + l.length) (deadLim l)) 1 0 l.length with h | ⟨j, h1, _, h3⟩
      · exact h
      · have := hzero j h1; omega
    have hcut : (Mem.new (1 + l.length) (deadLim l)).cut = -1 := rfl
    have hdn : (Mem.new (1 + l.length) (deadLim l)).down = false := rfl
    generalize Mem.new (1 + l.length) (deadLim l) = M at *
    refine lines_New.s hm (by unfold isI; omega) (by unfold isI; omega) (fun hh => absurd ⟨by omega, by omega, by omega, by omega, hdn, by rw [Int.toNat_natCast]; exact hLV.may⟩ hh) ?_
    intro _ H3 hL hk3 _
    rw [Int.toNat_natCast] at hL
    rw [Option.isNone_some, if_neg (by simp), lineV_lit]
    have hld : isLine [v, 0, 0, 0, 0, 0, 0, 0] := isLine_lit hv
    have hP := lput_any (d := [v, 0, 0, 0, 0, 0, 0, 0]) hLV hm.ok.regs hdn (by omega) (show 0 < 1 by omega) hld.1
    have hput : lput 1 l.length M ((0 : Nat) : Int) [v, 0, 0, 0, 0, 0, 0, 0] = lgo 1 l.length 0 [v, 0, 0, 0, 0, 0, 0, 0] l.length (M.put 0 [v, 0, 0, 0, 0, 0, 0, 0]).1 := by
      unfold lput
      rw [if_pos ⟨by omega, by omega⟩, if_neg (by simp [hdn]), Int.toNat_natCast, hLV.next, hpl]
      have hPA := Mem.put_any (M := M) (i := 0) (l := [v, 0, 0, 0, 0, 0, 0, 0]) hdn (by omega) rfl (by omega)
      rcases hPA.res with ⟨_, _, h, _⟩ | ⟨e, _, _, _⟩ | ⟨_, _, h, _⟩
      · rw [hw0] at h; cases h
      · simp only
        rw [if_pos e]; rfl
      · exact absurd hcut h
    have hPA := Mem.put_any (M := M) (i := 0) (l := [v, 0, 0, 0, 0, 0, 0, 0]) hdn (by omega) rfl (by omega)
    have hdn1 : (M.put ((0 : Nat) : Int) [v, 0, 0, 0, 0, 0, 0, 0]).1.down = false := by
      rcases hPA.res with ⟨_, h, _⟩ | ⟨_, h, _⟩ | ⟨_, _, h, _⟩
      · exact h
      · exact h
      · exact absurd hcut h
    obtain ⟨d1, d2⟩ := lgo_dead (sp := l.length) (d := [v, 0, 0, 0, 0, 0, 0, 0]) (fun i => l.getD i true) rfl l.length (M.put ((0 : Nat) : Int) [v, 0, 0, 0, 0, 0, 0, 0]).1 (Nat.le_refl _) (by rw [Nat.sub_self]; exact hLV.same hPA.regs hPA.len) (by rw [hPA.regs]; exact hm.ok.regs) hdn1 (hPA.cut hcut) (fun i _ hi => by rw [hPA.other _ (by omega)]; exact hw i hi)
    rw [Nat.sub_self] at d1 d2
    have e0 : ((0 : Nat) : Int) = 0 := rfl
    rw [e0] at hput hP d1 d2
    rw [← hput] at d1 d2
    refine lines_Put.g hL hld (Prod.eta _).symm ?_
    intro H4 hL4 f4
    rw [show Int.toNat 1 = 1 from rfl] at hL4 ⊢
    have hup : (lput 1 l.length M 0 [v, 0, 0, 0, 0, 0, 0, 0]).1.down = false := by
      rcases hP.res with ⟨_, h, _⟩ | ⟨_, h, _⟩ | ⟨_, _, h, _⟩
      · exact h
      · exact h
      · exact absurd hcut h
    refine lines_Get.s hL4 ?_
    have hgl := lget_line (slot := 0) hL4
    have hg : lget 1 l.length (lput 1 l.length M 0 [v, 0, 0, 0, 0, 0, 0, 0]).1 0 = ((lput 1 l.length M 0 [v, 0, 0, 0, 0, 0, 0, 0]).1.view 1 l.length 0, 0) := by
      unfold lget; rw [if_pos ⟨by omega, by omega⟩, if_neg (by simp [hup])]; rfl
    rw [hg] at hgl ⊢
    rw [zeroV]
    refine new_line hgl ?_
    have hL5 := hL4.push ⟨lineV ((lput 1 l.length M 0 [v, 0, 0, 0, 0, 0, 0, 0]).1.view 1 l.length 0, (0 : Int)).1, .rw, 0⟩
    have hrow := line_new (H := H4) (e := 0) hgl
    rcases goodTo_cases l l.length with ⟨g1, g2⟩ | ⟨g, g1, g2, g3, g4⟩
    · obtain ⟨e, hlv⟩ := d2 fun i _ hi => g2 i hi
      have hvw : (lput 1 l.length M 0 [v, 0, 0, 0, 0, 0, 0, 0]).1.view 1 l.length 0 = List.replicate 8 0 := by
        rw [← hv0]
        rcases hP.res with ⟨h, _⟩ | ⟨_, _, h⟩ | ⟨h, _⟩
        · omega
        · exact h
        · omega
      have hleft : lleft (lput 1 l.length M 0 [v, 0, 0, 0, 0, 0, 0, 0]).1 l.length = 0 := by unfold lleft; rw [if_neg (by simp [hup]), hlv.left]; omega
      rw [g1, if_pos (by omega), e, beq_self_eq_true, if_pos rfl]
      refine lines_Left.s hL5 ?_
      rw [hleft, if_pos (by simp)]
      simp only [hvw] at hrow ⊢
      rw [ldA_some hrow, eq_line zero_line zero_line, beq_self_eq_true, if_pos rfl]
      exact darninglaw7_awake.s rfl
    · obtain ⟨e, hlv⟩ := d1 g (by omega) g2 g3 fun i _ hi => g4 i hi
      have hvw : (lput 1 l.length M 0 [v, 0, 0, 0, 0, 0, 0, 0]).1.view 1 l.length 0 = [v, 0, 0, 0, 0, 0, 0, 0] := by
        rcases hP.res with ⟨_, _, h⟩ | ⟨h, _⟩ | ⟨h, _⟩
        · exact h
        · omega
        · omega
      have hleft : lleft (lput 1 l.length M 0 [v, 0, 0, 0, 0, 0, 0, 0]).1 l.length = l.length - (g + 1) := by unfold lleft; rw [if_neg (by simp [hup]), hlv.left]
      rw [g1, if_neg (by omega), e, beq_self_eq_true, if_pos rfl]
      simp only [hvw] at hrow ⊢
      rw [ldA_some hrow, eq_line hld hld, beq_self_eq_true, if_pos rfl]
      simp only [hvw] at hL5
      refine lines_Left.s hL5 ?_
      rw [hleft, wrap_i64 (n := (l.length : Int) - (g : Int)) (by omega) (by omega), wrap_i64 (by omega) (by omega), if_pos (by simp; omega)]
      exact darninglaw7_awake.s rfl
end
end Go.Proofs.Ytomeldimnhapfaa
