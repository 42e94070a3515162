import Derived.Test.YtomeldimnhapfaaL5
import Derived.Test.YtomeldimnhapfaaM8
set_option linter.all false
set_option linter.all false
namespace Go.Proofs.Ytomeldimnhapfaa
open Go Go.Abs

def putV (q : Int × List Int) : List Value := [.int .i64 q.1] ++ lineV q.2
structure putOK (q : Int × List Int) : Prop where
  i : isI q.1
  line : isLine q.2
theorem putV_len {q : Int × List Int} (h : putOK q) : (putV q).length = 9 := by simp [putV, lineV, h.line.1]
theorem putV_ok (q : Int × List Int) : (putV q).all cellOK = true := by simp [putV, lineV, u64V, cellOK]
theorem putV_flat (q : Int × List Int) : (putV q).all flatC = true := by
  simp only [putV, List.all_append, flat_u64, Bool.and_true]; rfl
theorem put_eq {cs : List Value} {x0 : Int} {x1 : List Int} (n : cs.length = 9) (e0 : cs[0]? = some (.int .i64 x0)) (e1 : (cs.drop 1).take 8 = x1.map fun v => Value.int .u64 v) : cs = putV ⟨x0, x1⟩ := by
  match cs, n with
  | a :: r, n =>
    simp only [List.getElem?_cons_zero, Option.some.injEq] at e0
    subst e0
    simp only [List.drop_succ_cons, List.drop_zero] at e1
    rw [List.take_of_length_le (by simp at n; omega)] at e1
    subst e1
    rfl

structure PutAt (H : AH) (o : Nat) (q : Int × List Int) : Prop where
  g : ∃ e, H.get o = ⟨putV q, .rw, e⟩
  ok : putOK q
theorem PutAt.c0 {H : AH} {o : Nat} {q : Int × List Int} (h : PutAt H o q) : AH.cell? H (Addr.add ⟨o, 0, none⟩ 0) = some (.int .i64 q.1) := by
  obtain ⟨⟨e, h⟩, _⟩ := h; simp [addr_add, AH.cell?, h, putV]
theorem PutAt.row {H : AH} {o : Nat} {q : Int × List Int} (h : PutAt H o q) : AH.row? H (Addr.add ⟨o, 0, none⟩ 1) 8 = some (lineV q.2) := by
  obtain ⟨⟨e, h⟩, hok⟩ := h
  have e8 : ((putV q).drop 1).take 8 = lineV q.2 := by
    simp only [putV, List.cons_append, List.nil_append, List.drop_succ_cons, List.drop_zero]
    rw [List.take_of_length_le (by simp [lineV, hok.line.1])]
  simp only [addr_add, AH.row?, h, Option.isSome_none, Bool.false_eq_true, if_false, Nat.zero_add]
  rw [if_neg (by simp), e8, if_pos ⟨by rw [putV_len hok]; omega, lineV_ok _⟩]
theorem PutAt.keep {H H' : AH} {o : Nat} {q : Int × List Int} (h : PutAt H o q) (hg : H'.get o = H.get o) : PutAt H' o q := ⟨by rw [hg]; exact h.g, h.ok⟩
theorem new_put {H : AH} {q : Int × List Int} (h : putOK q) {cs : List Value} {K : Nat → AH → Prop} (hn : cs.length = 9) (hK : PutAt (H.push ⟨putV q, .rw, 0⟩) H.size q → K H.size (H.push ⟨putV q, .rw, 0⟩)) :
    newC H ⟨cs, .rw, 0⟩ fun o H1 => ((putV q).length = 9 ∧ List.all (putV q) cellOK = true) ∧ stC H1 ⟨o, 0, none⟩ (putV q) fun Hs => K o Hs :=
  new_st hn (putV_len h) (putV_ok q) (hK ⟨⟨0, by simp [push_get]⟩, h⟩)

theorem zeros_flat7 (n : Nat) : zerosOf n (lineV (List.replicate 8 0)) = (List.replicate n (List.replicate 8 (0 : Int))).flatMap lineV := by
  unfold zerosOf
  rw [List.flatMap_def, List.map_replicate]

/-- An array of lines of the law's own. -/
structure WantAt (H : AH) (o : Nat) (ws : List (List Int)) : Prop where
  g : H.get o = ⟨ws.flatMap lineV, .rw, 8⟩
  lt : o < H.size
  ok : ∀ l ∈ ws, isLine l
theorem WantAt.row {H : AH} {o : Nat} {ws : List (List Int)} (h : WantAt H o ws) {i : Nat} (hi : i < ws.length) : AH.row? H (Addr.add ⟨o, 0, none⟩ (i * 8)) 8 = some (lineV (ws.getD i [])) := by
  rw [addr_add, Nat.zero_add]
  have hg : ws[i]? = some (ws.getD i []) := by rw [List.getD_eq_getElem?_getD, List.getElem?_eq_getElem hi, Option.getD_some]
  have hr := flat_row' (fun x hx => lineV_len (h.ok x hx).1) i _ hg
  have hr' : ((ws.flatMap lineV).drop (i * 8)).take 8 = lineV (ws.getD i []) := hr
  have hle : i * 8 + 8 ≤ (ws.flatMap lineV).length := by rw [flat_len' (fun x hx => lineV_len (h.ok x hx).1)]; omega
  simp only [AH.row?, h.g, Option.isSome_none, Bool.false_eq_true, if_false]
  rw [if_neg (by simp), hr', if_pos ⟨hle, lineV_ok _⟩]
theorem WantAt.line {H : AH} {o : Nat} {ws : List (List Int)} (h : WantAt H o ws) {i : Nat} (hi : i < ws.length) : isLine (ws.getD i []) := by
  rw [List.getD_eq_getElem?_getD, List.getElem?_eq_getElem hi, Option.getD_some]
  exact h.ok _ (List.getElem_mem _)
theorem WantAt.keep {H H' : AH} {o : Nat} {ws : List (List Int)} (h : WantAt H o ws) (hg : H'.get o = H.get o) (hs : H.size ≤ H'.size) : WantAt H' o ws := ⟨by rw [hg, h.g], by have := h.lt; omega, h.ok⟩
theorem WantAt.push {H : AH} {o : Nat} {ws : List (List Int)} (h : WantAt H o ws) (ob : AObj) : WantAt (H.push ob) o ws := h.keep (push_get_ne (by have := h.lt; omega)) (by simp [push_size])
theorem WantAt.put {H : AH} {o : Nat} {ws : List (List Int)} (h : WantAt H o ws) {i : Nat} (hi : i < ws.length) {l : List Int} (hl : isLine l) :
    AH.canPut H (Addr.add ⟨o, 0, none⟩ (i * 8)) (lineV l).length ∧ WantAt (AH.put H (Addr.add ⟨o, 0, none⟩ (i * 8)) (lineV l)) o (ws.set i l) ∧ (∀ b, b ≠ o → (AH.put H (Addr.add ⟨o, 0, none⟩ (i * 8)) (lineV l)).get b = H.get b) := by
  rw [addr_add, Nat.zero_add]
  have hg : ws[i]? = some (ws.getD i []) := by rw [List.getD_eq_getElem?_getD, List.getElem?_eq_getElem hi, Option.getD_some]
  have hle : i * 8 + 8 ≤ (ws.flatMap lineV).length := by rw [flat_len' (fun x hx => lineV_len (h.ok x hx).1)]; omega
  have h0 := (h.line hi).1
  have hset : setMany (lineV (ws.getD i [])) 0 (lineV l) = lineV l := by
    apply List.ext_getElem?
    intro t
    rw [setMany_get _ _ _ _ (by rw [lineV_len h0, lineV_len hl.1]; omega), lineV_len hl.1]
    by_cases ht : t < 8
    · rw [if_pos (by omega)]; rfl
    · rw [if_neg (by omega), List.getElem?_eq_none (by rw [lineV_len h0]; omega), List.getElem?_eq_none (by rw [lineV_len hl.1]; omega)]
  have hs := flat_setMany (j := 0) (vs := lineV l) (by rw [lineV_len hl.1]; omega) (fun x hx => lineV_len (h.ok x hx).1) i _ l hg hset.symm
  rw [Nat.add_zero] at hs
  have other : ∀ x, x ≠ o → (AH.put H ⟨o, i * 8, none⟩ (lineV l)).get x = H.get x := fun x hx => by simp only [AH.put, upd_get]; rw [if_neg hx]
  refine ⟨⟨rfl, congrArg AObj.md h.g, by rw [h.g, lineV_len hl.1]; exact hle⟩, ⟨?_, h.lt, ?_⟩, other⟩
  · simp only [AH.put, upd_get, if_true, h.g, hs]
  · intro x hx
    rcases List.mem_or_eq_of_mem_set hx with h' | rfl
    · exact h.ok x h'
    · exact hl

/-- Lines, and what they should hold. -/
structure K7 (H0 H : AH) (x p c n sp o : Nat) (M : Mem) (ws : List (List Int)) (k : Nat) : Prop where
  keeps : Keeps H0 H
  l : LAt H x p c n sp M
  w : WantAt H o ws
  wl : ws.length = n
  low : H0.size ≤ p ∧ H0.size ≤ c ∧ H0.size ≤ o
  op : o ≠ p ∧ o ≠ c ∧ o ≠ x
  lv : LV M n sp k
  cut : M.cut = -1
  up : M.down = false
  view : ∀ s, s < n → M.view n sp s = ws.getD s []

section
variable {H0 H H' : AH} {x p c n sp o k : Nat} {M M' : Mem} {ws : List (List Int)}
theorem K7.push (h : K7 H0 H x p c n sp o M ws k) (ob : AObj) : K7 H0 (H.push ob) x p c n sp o M ws k :=
  ⟨h.keeps.push _, h.l.push _, h.w.push _, h.wl, h.low, h.op, h.lv, h.cut, h.up, h.view⟩
theorem K7.left (h : K7 H0 H x p c n sp o M ws k) : lleft M sp = sp - k := by unfold lleft; rw [if_neg (by simp [h.up]), h.lv.left]
theorem K7.rlen (h : K7 H0 H x p c n sp o M ws k) : M.regs.length = 35 := h.l.m.ok.regs
theorem K7.get (h : K7 H0 H x p c n sp o M ws k) {i : Nat} (hi : i < n) : lget n sp M i = (ws.getD i [], 0) := by
  unfold lget
  rw [if_pos ⟨by omega, by omega⟩, if_neg (by simp [h.up]), Int.toNat_natCast, h.view i hi]

/-- A Put out of range. -/
theorem lput_out {slot : Int} {d : List Int} (h : ¬ (0 ≤ slot ∧ slot < n)) : lput n sp M slot d = (M, 1) := by unfold lput; rw [if_neg h]

/-- Behind a Put that was not told as right nothing has changed. -/
theorem K7.worn (h : K7 H0 H x p c n sp o M ws k) {slot : Nat} {d : List Int} {e : Int} (hL : LAt H' x p c n sp M') (f : Frm H H' p c) (hs : slot < n) (hP : LPut n sp M slot d k M' e) (he : e ≠ 0) :
    e = 3 ∧ K7 H0 H' x p c n sp o M' ws sp := by
  obtain ⟨⟨k', hk', hlv, he3⟩, h2, h3, h4, h5, h6, h7, h8⟩ := hP
  rcases h6 with ⟨e0, _⟩ | ⟨e1, hd, hv⟩ | ⟨_, _, hc, _⟩
  · exact absurd e0 he
  · have : k' = sp := he3 e1
    subst this
    refine ⟨e1, f.keeps h.keeps h.low.1 h.low.2.1, hL, h.w.keep (f.get o h.op.1 h.op.2.1) (by rw [f.size]; exact Nat.le_refl _), h.wl, h.low, h.op, hlv, h7 h.cut, hd, fun s hs' => ?_⟩
    by_cases hss : s = slot
    · subst hss; rw [hv]; exact h.view s hs'
    · rw [h2 s hs' hss]; exact h.view s hs'
  · exact absurd h.cut hc
theorem K7.same (h : K7 H0 H x p c n sp o M ws k) (hL : LAt H' x p c n sp M) (f : Frm H H' p c) : K7 H0 H' x p c n sp o M ws k :=
  ⟨f.keeps h.keeps h.low.1 h.low.2.1, hL, h.w.keep (f.get o h.op.1 h.op.2.1) (by rw [f.size]; exact Nat.le_refl _), h.wl, h.low, h.op, h.lv, h.cut, h.up, h.view⟩
/-- A Put that was told as right, once it is noted. -/
theorem K7.right (h : K7 H0 H x p c n sp o M ws k) {slot : Nat} {d : List Int} {e : Int} (hL : LAt H' x p c n sp M') (f : Frm H H' p c) (hd' : isLine d) (hs : slot < n) (hP : LPut n sp M slot d k M' e) (he : e = 0) :
    AH.canPut H' (Addr.add ⟨o, 0, none⟩ (slot * 8)) (lineV d).length ∧ ∃ k', k ≤ k' ∧ K7 H0 (AH.put H' (Addr.add ⟨o, 0, none⟩ (slot * 8)) (lineV d)) x p c n sp o M' (ws.set slot d) k' ∧ ∀ b, b ≠ o → (AH.put H' (Addr.add ⟨o, 0, none⟩ (slot * 8)) (lineV d)).get b = H'.get b := by
  obtain ⟨⟨k', hk', hlv, he3⟩, h2, h3, h4, h5, h6, h7, h8⟩ := hP
  have hw := h.w.keep (H' := H') (f.get o h.op.1 h.op.2.1) (by rw [f.size]; exact Nat.le_refl _)
  obtain ⟨w1, w2, w3⟩ := hw.put (i := slot) (by rw [h.wl]; exact hs) hd'
  refine ⟨w1, k', hk', ?_, w3⟩
  rcases h6 with ⟨e0, hd, hv⟩ | ⟨e1, _⟩ | ⟨e1, _⟩
  · have hk0 := f.keeps h.keeps h.low.1 h.low.2.1
    refine ⟨⟨hk0.1, fun b hb => by rw [w3 b (by have := h.low.2.2; omega)]; exact hk0.2 b hb⟩, ?_, w2, by simp [h.wl], h.low, h.op, hlv, h7 h.cut, hd, fun s hs' => ?_⟩
    · exact ⟨by rw [w3 x (Ne.symm h.op.2.2), hL.hx], hL.lx, hL.xp, hL.xc, hL.m.keep (Nat.le_refl _) (w3 p (Ne.symm h.op.1)) (w3 c (Ne.symm h.op.2.1)), hL.len, hL.n1, hL.sp16⟩
    · by_cases hss : s = slot
      · subst hss; rw [hv, List.getD_eq_getElem?_getD, List.getElem?_set_self (by rw [h.wl]; exact hs')]; rfl
      · rw [h2 s hs' hss, h.view s hs', List.getD_eq_getElem?_getD, List.getD_eq_getElem?_getD, List.getElem?_set_ne (by omega)]
  · omega
  · omega
end

section
variable {H : AH}

theorem darninglaw7_LinesNil.t {q : Int × List Int} {v : Int} (hq : putOK q) (hv' : (Lit.int .u64 v).wf = true) : darninglaw7_LinesNil (putV q) v H (fun r _ => r = true) := by
  have hv : isU v := wf_u64 hv'
  refine darninglaw7_LinesNil.link ?_
  unfold darninglaw7_LinesNil.b
  simp only [bcase_eq]
  rw [newC_eq]
  have hQ : PutAt (H.push ⟨putV q, .rw, 0⟩) H.size q := ⟨⟨0, by simp [push_get]⟩, hq⟩
  rw [hQ.c0, elI_some]
  refine lines_Get.nil ?_
  rw [zeroV]
  refine new_line zero_line ?_
  have hrow := line_new (H := H.push ⟨putV q, .rw, 0⟩) (e := 0) zero_line
  have hQ2 : PutAt ((H.push ⟨putV q, .rw, 0⟩).push ⟨lineV (List.replicate 8 0), .rw, 0⟩) H.size q := hQ.keep (push_get_ne (by simp [push_size]))
  have h6 : (H.push ⟨putV q, .rw, 0⟩).size < ((H.push ⟨putV q, .rw, 0⟩).push ⟨lineV (List.replicate 8 0), .rw, 0⟩).size := by simp [push_size]
  have h2 : H.size < ((H.push ⟨putV q, .rw, 0⟩).push ⟨lineV (List.replicate 8 0), .rw, 0⟩).size := by simp [push_size]; omega
  generalize (H.push ⟨putV q, .rw, 0⟩).size = o6 at *
  generalize (H.push ⟨putV q, .rw, 0⟩).push ⟨lineV (List.replicate 8 0), .rw, 0⟩ = H1 at *
  refine nvm_New.s (limits := []) rows_nil ?_ (fun h => absurd (by omega) h)
  intro _ H2 hm hk _
  refine lines_New.nil ?_
  rw [Option.isNone_none, if_neg (by simp)]
  refine lines_New.s hm (by unfold isI; omega) (by unfold isI; omega) ?_ (fun hh => absurd hh (by decide))
  intro _
  rw [Option.isNone_none, if_neg (by simp)]
  refine lines_New.s hm (by unfold isI; omega) (by unfold isI; omega) ?_ (fun hh => absurd hh (by decide))
  intro _
  rw [Option.isNone_none, if_neg (by simp)]
  refine lines_New.s hm (by unfold isI; omega) (by unfold isI; omega) (fun hh => absurd (by decide) hh) ?_
  intro _ H3 hL hk3 _
  have hk13 := hk.trans hk3
  have hQ3 := hQ2.keep (hk13.2 _ h2)
  rw [Option.isNone_some, if_neg (by simp), ldA_some (by rw [keeps_row hk13 h6, hrow]), eq_line zero_line zero_line, beq_self_eq_true, if_neg (by simp), if_neg (by simp), hQ3.c0, elI_some, ldA_some hQ3.row]
  refine lines_Put.nil ?_
  rw [if_neg (by simp)]
  refine lines_Slots.nil (lines_Left.nil ?_)
  unfold darninglaw7_LinesNil.j1
  rw [show (IntKind.wrap .i64 (0 + 0) != 0) = false from by decide, bcase_false]
  have hset := Mem.set_calm (M := Mem.new (Int.toNat 9) []) (i := 4) (v := v) rfl rfl ⟨by omega, by omega⟩
  refine nvm_Memory_Set.g hL.m hv hset ?_
  intro H4 hm4 f4
  have hT : tblL { Mem.new (Int.toNat 9) [] with writes := inc (Mem.new (Int.toNat 9) []).writes, regs := (Mem.new (Int.toNat 9) []).regs.set (Int.toNat 4) v } (Int.toNat 2) = [0, v] := rfl
  generalize hMM : ({ Mem.new (Int.toNat 9) [] with writes := inc (Mem.new (Int.toNat 9) []).writes, regs := (Mem.new (Int.toNat 9) []).regs.set (Int.toNat 4) v } : Mem) = MM at *
  have hmm1 : (MM.cs.length : Int) = 7 + 2 := by rw [← hMM]; rfl
  have hmm2 : MM.down = false := by rw [← hMM]; rfl
  have fin : ∀ (pp : Option Addr) (H' : AH), pp.isNone = !decide (MayT [0, v] 7) → newC H' ⟨[(Value.int .u64 (0 : Int)), (Value.int .u64 v)], .rw, 1⟩ fun o69 H69 => darningref4_MayTable ⟨some ⟨o69, 0, none⟩, 2, 1⟩ 7 H69 fun b70 H70 => bcase ((!(Option.isNone pp)) == b70) (darninglaw7_awake H70 fun b73 H73 => b73 = true) (false = true) := by
    intro pp H' hpp
    rw [newC_eq]
    have hR : Abs.Rows (H'.push ⟨[(Value.int .u64 (0 : Int)), (Value.int .u64 v)], .rw, 1⟩) ⟨some ⟨H'.size, 0, none⟩, 2, 1⟩ 1 wU [0, v] :=
      slAt_rows (b := H'.size) (l := [0, v]) (fun _ => rfl) (fun _ => rfl) (.inl rfl) (by simp [push_size]) (by rw [push_get, if_pos rfl]; rfl)
    refine darningref4_MayTable.s hR (by simp) (by omega) ?_
    rw [hpp, Bool.not_not, show (decide (MayT [0, v] 7) == decide (MayT [0, v] 7)) = true from by cases decide (MayT [0, v] 7) <;> rfl, bcase_true]
    exact darninglaw7_awake.s rfl
  refine lines_New.s hm4 (by unfold isI; omega) (by unfold isI; omega) ?_ ?_
  · intro hh
    refine fin none _ ?_
    rw [Option.isNone_none, decide_eq_false]
    · rfl
    · intro hM
      exact hh ⟨by omega, by omega, by omega, hmm1, hmm2, by rw [hT]; exact hM⟩
  · intro hh H5 _ _ _
    refine fin _ _ ?_
    have := hh.2.2.2.2.2
    rw [hT] at this
    rw [Option.isNone_some, decide_eq_true this]
    rfl

theorem darninglaw7_LinesKeep.t {x0 x1 : Int} {x2 x3 : Sl} {limits : List Int} {l : List (Int × List Int)} (_ : (Lit.int .i64 x0).wf = true) (_ : (Lit.int .i64 x1).wf = true) (hlim : Abs.Rows H x2 1 iV limits) (_ : ∀ v ∈ limits, isI v) (_ : limits.length ≤ maxLen)
    (hr : Abs.Rows H x3 9 putV l) (hok : ∀ q ∈ l, putOK q) (_ : l.length ≤ maxLen) : darninglaw7_LinesKeep x0 x1 x2 x3 H (fun r _ => r = true) := by
  refine darninglaw7_LinesKeep.link ?_
  unfold darninglaw7_LinesKeep.b darninglaw7_LinesKeep.j9
  simp only [bcase_eq, decide_eq_true_eq, hr.1, hlim.1]
  by_cases h1 : (l.length : Int) > 200
  · rw [if_pos h1]; exact darninglaw7_awake.s rfl
  rw [if_neg h1]
  by_cases h2 : (limits.length : Int) > 200
  · rw [if_pos h2]; exact darninglaw7_awake.s rfl
  rw [if_neg h2]
  have hx := umod (m := 40) (by omega) x0
  have hy := umod (m := 17) (by omega) x1
  refine ⟨by decide, by decide, ?_⟩
  have e0 := wrap_i64 (n := Int.tmod (IntKind.wrap .u64 x0) 40) (by omega) (by omega)
  have e1 := wrap_i64 (n := Int.tmod (IntKind.wrap .u64 x1) 17) (by omega) (by omega)
  obtain ⟨n, hn⟩ := Int.eq_ofNat_of_zero_le (show 0 ≤ 1 + Int.tmod (IntKind.wrap .u64 x0) 40 by omega)
  obtain ⟨sp, hsp⟩ := Int.eq_ofNat_of_zero_le hy.1
  have hN : IntKind.wrap .i64 (1 + IntKind.wrap .i64 (Int.tmod (IntKind.wrap .u64 x0) 40)) = (n : Int) := by rw [e0, wrap_i64 (by omega) (by omega), hn]
  have hS : IntKind.wrap .i64 (Int.tmod (IntKind.wrap .u64 x1) 17) = (sp : Int) := by rw [e1, hsp]
  have hn1 : 1 ≤ n ∧ n ≤ 40 := by omega
  have hsp1 : sp ≤ 16 := by omega
  rw [hN, hS, wrap_i64 (n := (n : Int) + (sp : Int)) (by omega) (by omega)]
  refine nvm_New.s hlim ?_ (fun h => absurd (by omega) h)
  intro _ H1 hm hk _
  have hlenM : (Mem.new ((n : Int) + (sp : Int)).toNat limits).cs.length = n + sp := by simp [Mem.new]; omega
  have hzero : ∀ i, i < sp → (Mem.new ((n : Int) + (sp : Int)).toNat limits).whose i = 0 := fun i hi => whose_new (by omega)
  have hLV : LV (Mem.new ((n : Int) + (sp : Int)).toNat limits) n sp 0 := LV.zero hlenM (by omega) (by omega) hzero
  have hview : ∀ s, s < n → (Mem.new ((n : Int) + (sp : Int)).toNat limits).view n sp s = List.replicate 8 0 := by
    intro s hs
    rw [view_zero hzero, Mem.new_cl (by omega)]
  have hcut : (Mem.new ((n : Int) + (sp : Int)).toNat limits).cut = -1 := rfl
  have hdn : (Mem.new ((n : Int) + (sp : Int)).toNat limits).down = false := rfl
  generalize Mem.new ((n : Int) + (sp : Int)).toNat limits = M0 at *
  refine lines_New.s hm (by unfold isI; omega) (by unfold isI; omega) (fun hh => absurd ⟨by omega, by omega, by omega, by omega, hdn, by rw [Int.toNat_natCast]; exact hLV.may⟩ hh) ?_
  intro _ H2 hL hk2 _
  rw [Int.toNat_natCast, Int.toNat_natCast] at hL
  rw [Option.isNone_some, if_neg (by simp)]
  refine lines_Slots.s hL ?_
  rw [if_neg (by simp)]
  refine lines_Left.s hL ?_
  have hleft0 : lleft M0 sp = sp := by unfold lleft; rw [if_neg (by simp [hdn]), hLV.left]; omega
  rw [hleft0]
  unfold darninglaw7_LinesKeep.j8
  simp only [bcase_eq, hN]
  rw [if_neg (by simp)]
  refine ⟨by simp only [lim]; omega, ?_⟩
  rw [newC_eq, Int.toNat_natCast, zeroV, zeros_flat7]
  have lp := hL.m.lp
  have lc := hL.m.lc
  have lx := hL.lx
  have hK0 : K7 H (H2.push ⟨(List.replicate n (List.replicate 8 (0 : Int))).flatMap lineV, .rw, 8⟩) H1.size (H.size + 1) H.size n sp H2.size M0 (List.replicate n (List.replicate 8 0)) 0 := by
    refine ⟨(hk.trans hk2).push _, hL.push _, ⟨by rw [push_get, if_pos rfl], by simp [push_size], ?_⟩, by simp, ⟨by omega, by omega, by have := (hk.trans hk2).1; omega⟩, by omega, hLV, hcut, hdn, fun s hs => ?_⟩
    · intro l hl; rw [List.eq_of_mem_replicate hl]; exact zero_line
    · rw [hview s hs]; simp [List.getD_eq_getElem?_getD, hs]
  have ho : H2.size < (H2.push ⟨(List.replicate n (List.replicate 8 (0 : Int))).flatMap lineV, .rw, 8⟩).size := by simp [push_size]
  generalize H2.size = o at *
  generalize H2.push ⟨(List.replicate n (List.replicate 8 (0 : Int))).flatMap lineV, .rw, 8⟩ = H3 at *
  generalize H1.size = x at *
  refine loopT_inv (t := ((false, (0 : Int)) : Bool × Int)) (I := fun (t : Bool × Int) H' => ∃ i : Nat, t.2 = (i : Int) ∧ i ≤ l.length ∧ ∃ M ws k, K7 H H' x (H.size + 1) H.size n sp o M ws k) (m := fun (t : Bool × Int) _ => Int.toNat ((l.length : Int) - t.2)) ?_ ⟨0, rfl, by omega, _, _, _, hK0⟩
  intro t H4 hI it hit
  obtain ⟨t1, t2⟩ := t
  obtain ⟨i, h1, h2, M, ws, k, hK⟩ := hI
  simp only at h1
  subst h1
  unfold darninglaw7_LinesKeep.l7
  simp only [bcase_eq, decide_eq_true_eq, hr.1, hN]
  by_cases hlt : (i : Int) < (l.length : Int)
  · rw [if_pos hlt]
    obtain ⟨b, oo, ha, _, hrow⟩ := (hr.keep hK.keeps).at (show i < l.length by omega)
    refine ⟨by omega, ?_⟩
    rw [ha, onPtr_mk, Int.toNat_natCast, ldA_some hrow]
    have hcl := hok _ (List.getElem_mem (show i < l.length by omega))
    generalize l[i] = q at *
    refine new_put hcl rfl ?_
    intro hQ
    have hK5 := hK.push ⟨putV q, .rw, 0⟩
    have l4 := hK.l.lx
    have l4p := hK.l.m.lp
    have l4c := hK.l.m.lc
    have l4o := hK.w.lt
    refine lines_Left.s hK5.l ?_
    rw [hK5.left, hQ.c0, elI_some, ldA_some hQ.row]
    have hkle := hK.lv.kle
    have after : ∀ H' M' ws' k', k ≤ k' → K7 H H' x (H.size + 1) H.size n sp o M' ws' k' → darninglaw7_LinesKeep.j5 x0 (fun r _ => r = true) (some ⟨x, 0, none⟩) o (t1, (i : Int)) it ((sp - k : Nat) : Int) H' := by
      intro H' M' ws' k' hkk hK'
      unfold darninglaw7_LinesKeep.j5
      simp only [bcase_eq, decide_eq_true_eq]
      refine lines_Left.s hK'.l ?_
      rw [hK'.left, if_neg (by omega)]
      refine lines_Left.s hK'.l ?_
      unfold darninglaw7_LinesKeep.j4
      rw [hK'.left, bcase_eq, if_neg (by simp)]
      refine loopT_inv (I := fun (t : Bool × Int) H' => ∃ s : Nat, t.2 = (s : Int) ∧ s ≤ n ∧ K7 H H' x (H.size + 1) H.size n sp o M' ws' k') (m := fun (t : Bool × Int) _ => Int.toNat ((n : Int) - t.2)) ?_ ⟨0, rfl, by omega, hK'⟩
      intro t H6 hI it2 hit2
      obtain ⟨t1', t2'⟩ := t
      obtain ⟨s, h1, h2, hK6⟩ := hI
      simp only at h1
      subst h1
      unfold darninglaw7_LinesKeep.l3 darninglaw7_LinesKeep.j2
      simp only [bcase_eq, decide_eq_true_eq, hN, Int.toNat_natCast]
      by_cases hs : (s : Int) < (n : Int)
      · rw [if_pos hs]
        have hw := hK6.wl
        have hline := hK6.w.line (i := s) (by omega)
        refine ⟨by omega, ?_⟩
        rw [ldA_some (hK6.w.row (by omega)), zeroV]
        refine new_line hline ?_
        have hK7 := hK6.push ⟨lineV (ws'.getD s []), .rw, 0⟩
        refine lines_Get.s hK7.l ?_
        rw [hK7.get (by omega)]
        refine new_line hline ?_
        rw [if_neg (by simp), ldA_some (line_new hline), ldA_some (by rw [row_push (by simp [push_size])]; exact line_new hline), eq_line hline hline, beq_self_eq_true, if_neg (by simp), wrap_i64 (n := (s : Int) + 1) (by omega) (by omega)]
        exact hit2 _ _ ⟨s + 1, by simp, by omega, hK7.push _⟩ (by simp only; omega)
      · rw [if_neg hs, wrap_i64 (n := (i : Int) + 1) (by omega) (by omega)]
        exact hit _ _ ⟨i + 1, by simp, by omega, _, _, _, hK6⟩ (by simp only; omega)
    have hlow := hK.low
    by_cases hin : 0 ≤ q.1 ∧ q.1 < n
    · obtain ⟨sl, hsl⟩ := Int.eq_ofNat_of_zero_le hin.1
      have hP := lput_any (d := q.2) hK.lv hK.rlen hK.up (by have := hK.cut; omega) (show sl < n by omega) hcl.line.1
      rw [← hsl] at hP
      refine lines_Put.g hK5.l hcl.line (Prod.eta _).symm ?_
      intro H6 hL6 f6
      have hQ6 := hQ.keep (f6.get H4.size (by omega) (by omega))
      rw [hQ6.c0, elI_some, if_neg (by omega), elI_some]
      unfold darninglaw7_LinesKeep.j6
      rw [show decide (q.1 ≥ (n : Int)) = false from by simp; omega, bcase_false, hN]
      simp only [bcase_eq]
      by_cases he : (lput n sp M q.1 q.2).2 = 0
      · rw [if_pos (by simpa using he), hQ6.c0, elI_some, ldA_some hQ6.row]
        obtain ⟨c1, k', hkk, hK7, hg⟩ := hK5.right hL6 f6 hcl.line (show sl < n by omega) hP he
        rw [hsl, Int.toNat_natCast, Int.toNat_natCast]
        refine ⟨by omega, ⟨lineV_len hcl.line.1, lineV_ok _⟩, stC_to c1 rfl ?_⟩
        exact after _ _ _ k' hkk hK7
      · rw [if_neg (by simpa using he)]
        obtain ⟨e3, hK7⟩ := hK5.worn hL6 f6 (show sl < n by omega) hP he
        rw [e3, if_neg (by simp)]
        refine lines_Left.s hK7.l ?_
        rw [hK7.left, Nat.sub_self, if_neg (by simp)]
        exact after _ _ _ sp hkle hK7
    · refine lines_Put.g hK5.l hcl.line (lput_out hin) ?_
      intro H6 hL6 f6
      have hQ6 := hQ.keep (f6.get H4.size (by omega) (by omega))
      have hK6 := hK5.same hL6 f6
      have j6 : darninglaw7_LinesKeep.j6 x0 (fun r _ => r = true) (some ⟨x, 0, none⟩) o (t1, (i : Int)) it H4.size ((sp - k : Nat) : Int) H6 1 true := by
        unfold darninglaw7_LinesKeep.j6
        rw [bcase_true, bcase_eq, if_neg (by simp)]
        exact after _ _ _ k (Nat.le_refl _) hK6
      rw [hQ6.c0, elI_some]
      by_cases hneg : q.1 < 0
      · rw [if_pos hneg]; exact j6
      · rw [if_neg hneg, elI_some, show decide (q.1 ≥ (n : Int)) = true from by simp; omega]
        exact j6
  · rw [if_neg hlt]
    unfold darninglaw7_LinesKeep.j1
    rw [hN, zeroV]
    refine lines_Get.s hK.l ?_
    have hg : lget n sp M (n : Int) = (List.replicate 8 0, 1) := by unfold lget; rw [if_neg (by omega)]
    rw [hg]
    refine new_line zero_line ?_
    rw [beq_self_eq_true, bcase_true]
    exact darninglaw7_awake.s rfl
end
end Go.Proofs.Ytomeldimnhapfaa
