import Derived.Test.YtgechnnadjonaabN2
set_option linter.all false
set_option linter.all false
namespace Go.Proofs.Ytgechnnadjonaab
open Go Go.Abs

def gobj (p t : Nat) : AObj := ⟨[.pointer (some ⟨p, 0, none⟩), .pointer (some ⟨t, 0, none⟩)], .rw, 0⟩
structure GAt (H : AH) (g t x p c n sp per puts : Nat) (M : Mem) : Prop where
  hg : H.get g = gobj p t
  lg : g < H.size
  ne : g ≠ t ∧ g ≠ p ∧ g ≠ c ∧ g ≠ x
  tn : TAt H t x p c n sp per puts M
  n16 : 16 < n

section
variable {H H' : AH} {g t x p c n sp per puts puts' : Nat} {M M' : Mem}
theorem GAt.c0 (h : GAt H g t x p c n sp per puts M) : AH.cell? H (Addr.add ⟨g, 0, none⟩ 0) = some (.pointer (some ⟨p, 0, none⟩)) := by simp [addr_add, AH.cell?, h.hg, gobj]
theorem GAt.c1 (h : GAt H g t x p c n sp per puts M) : AH.cell? H (Addr.add ⟨g, 0, none⟩ 1) = some (.pointer (some ⟨t, 0, none⟩)) := by simp [addr_add, AH.cell?, h.hg, gobj]
theorem GAt.step (h : GAt H g t x p c n sp per puts M) (hT : TAt H' t x p c n sp per puts' M') (f : Frt H H' t p c) : GAt H' g t x p c n sp per puts' M' :=
  ⟨by rw [f.get g h.lg h.ne.1 h.ne.2.1 h.ne.2.2.1, h.hg], by have := f.size; have := h.lg; omega, h.ne, hT, h.n16⟩
theorem GAt.keeps (h : GAt H g t x p c n sp per puts M) (hk : Keeps H H') : GAt H' g t x p c n sp per puts M := h.step (h.tn.keeps hk) (Frt.of_keeps hk)
theorem GAt.push (h : GAt H g t x p c n sp per puts M) (o : AObj) : GAt (H.push o) g t x p c n sp per puts M := h.keeps ((Keeps.refl H).push o)

/-! ### what is committed -/

def idxN (v : Nat) : Nat := (v + 7) / 8
def homeLine (n sp : Nat) (M : Mem) (i : Nat) : Int :=
  if (M.tview n sp (i / 8)).getD (i % 8) 0 < (n : Int) then (M.tview n sp (i / 8)).getD (i % 8) 0 else -1
def homeAt (n sp : Nat) (M : Mem) (v i : Nat) : Int × List Int := (homeLine n sp M i, M.tview n sp (idxN v + i))
def commits (M : Mem) : Int := M.regs.getD 1 0
def homesN (n sp : Nat) (M : Mem) : List (Int × List Int) × Int :=
  if M.down then ([], 2) else if commits M > 14 then ([], 6) else ((List.range (commits M).toNat).map (homeAt n sp M (commits M).toNat), 0)

theorem reg_U {M : Mem} (hok : M.ok) {i : Nat} (hi : i < 35) : isU (M.regs.getD i 0) := by
  rw [List.getD_eq_getElem?_getD, List.getElem?_eq_getElem (by have := hok.regs; omega)]
  exact hok.regU _ (List.getElem_mem _)
theorem reg1 {M : Mem} (hd : M.down = false) : M.reg 1 = (commits M, 0) := by
  unfold Mem.reg
  rw [if_pos ⟨by omega, by omega⟩, if_neg (by simp [hd])]
  rfl

theorem log_New.s {q u : Nat} {k : Option Addr → AH → Prop} (hT : TAt H t x p c n sp per puts M) (h0 : n ≤ 16 → k none H)
    (h1 : 16 < n → ∀ H' g, GAt H' g t x p c n sp per puts M → Keeps H H' → H.size ≤ g → k (some ⟨g, 0, none⟩) H') : log_New (some ⟨p, 0, none⟩) (some ⟨t, 0, none⟩) H k := by
  by_cases hn : n ≤ 16
  · refine canon1 (κ := .ptr) (v := none) (by simp) rfl (log_New.link ?_) (h0 hn)
    unfold log_New.b log_New.j1
    rw [Option.isNone_some, Option.isNone_some, bcase_false, bcase_false]
    refine turn_Lines.s hT ?_
    rw [decide_eq_true (by omega), bcase_true]
    exact ⟨At.of_keeps (Keeps.refl H), rfl⟩
  · refine log_New.link ?_
    unfold log_New.b log_New.j1
    rw [Option.isNone_some, Option.isNone_some, bcase_false, bcase_false]
    refine turn_Lines.s hT ?_
    rw [decide_eq_false (by omega), bcase_false, newC_eq]
    have lt := hT.lt
    have lx := hT.l.lx
    have lp := hT.l.m.lp
    have lc := hT.l.m.lc
    exact h1 (by omega) _ _ ⟨by rw [push_get, if_pos rfl]; rfl, by simp [push_size], by omega, hT.push _, by omega⟩ ((Keeps.refl H).push _) (Nat.le_refl _)
theorem log_New.nil {m t' : Option Addr} {k : Option Addr → AH → Prop} (hn : m = none ∨ t' = none) (h : k none H) : log_New m t' H k := by
  refine canon1 (κ := .ptr) (v := none) (by simp) rfl (log_New.link ?_) h
  unfold log_New.b log_New.j1
  rcases hn with rfl | rfl
  · rw [Option.isNone_none, bcase_true, bcase_true]
    exact ⟨At.of_keeps (Keeps.refl H), rfl⟩
  · cases m with
    | none => rw [Option.isNone_none, bcase_true, bcase_true]; exact ⟨At.of_keeps (Keeps.refl H), rfl⟩
    | some a => rw [Option.isNone_some, bcase_false, Option.isNone_none, bcase_true, bcase_true]; exact ⟨At.of_keeps (Keeps.refl H), rfl⟩

theorem log_Pending.s {k : Bool → AH → Prop} (h : GAt H g t x p c n sp per puts M) (hk : k (decide (M.down = false ∧ commits M ≠ 0)) H) : log_Log_Pending (some ⟨g, 0, none⟩) H k := by
  refine log_Log_Pending.link ?_
  unfold log_Log_Pending.b
  simp only [Option.isNone_some, bcase_eq, Bool.false_eq_true, if_false, onPtr_mk, h.c0, elP_some]
  refine nvm_Memory_Reg.s h.tn.l.m ?_
  by_cases hd : M.down = true
  · have e : M.reg 1 = (0, 2) := by
      unfold Mem.reg
      rw [if_pos ⟨by omega, by omega⟩, if_pos hd]
    rw [e]
    rw [decide_eq_false (by simp [hd])] at hk
    exact hk
  · have hd' : M.down = false := by simpa using hd
    rw [reg1 hd']
    have e : (commits M != 0) = decide (M.down = false ∧ commits M ≠ 0) := by
      by_cases hc : commits M = 0
      · rw [decide_eq_false (fun hh => hh.2 hc)]; simp [hc]
      · rw [decide_eq_true ⟨hd', hc⟩]; simpa using hc
    simp only [e]
    exact hk
theorem log_Pending.nil {k : Bool → AH → Prop} (hk : k false H) : log_Log_Pending none H k := by
  refine log_Log_Pending.link ?_
  unfold log_Log_Pending.b
  rw [Option.isNone_none, bcase_true]
  exact hk
theorem log_index.s {v : Nat} {k : Int → AH → Prop} (hv : v ≤ 1000000000) (hk : k (idxN v : Nat) H) : log_index (v : Int) H k := by
  refine log_index.link ?_
  unfold log_index.b
  rw [wrap_i64 (n := (v : Int) + 8) (by omega) (by omega), wrap_i64 (n := (v : Int) + 8 - 1) (by omega) (by omega), Int.tdiv_eq_ediv_of_nonneg (by omega)]
  have e : ((v : Int) + 8 - 1) / 8 = ((idxN v : Nat) : Int) := by unfold idxN; omega
  rw [e]
  refine ⟨by decide, ?_⟩
  rw [wrap_i64 (by unfold idxN; omega) (by unfold idxN; omega)]
  exact hk

theorem flat_congr {α : Type} {f f' : α → List Value} : ∀ {l : List α}, (∀ q ∈ l, f' q = f q) → l.flatMap f' = l.flatMap f := by
  intro l
  induction l with
  | nil => intro _; rfl
  | cons a r ih => intro h; rw [List.flatMap_cons, List.flatMap_cons, h a (by simp), ih fun q hq => h q (by simp [hq])]
theorem own_congr {α : Type} {f f' : α → List Value} {B : Nat} {H : AH} {s : Sl} {z : Nat} {l : List α} (hl : ∀ q ∈ l, f' q = f q) (h : Own B H s z f l) : Own B H s z f' l := by
  rcases h with h | ⟨b, h1, h2, h3, h4⟩
  · exact .inl h
  · exact .inr ⟨b, h1, h2, h3, by rw [flat_congr hl]; exact h4⟩
theorem append_put {α : Type} {H0 H : AH} {B : Nat} {s : Sl} {z : Nat} {f : α → List Value} {l : List α} {x : α} {k : Sl → AH → Prop} (hl : ∀ q ∈ l, (f q).length = z) (hx : (f x).length = z) (hc : (f x).all cellOK = true)
    (hO : Own B H s z f l) (hB : H0.size ≤ B) (hBH : B ≤ H.size) (hK : Keeps H0 H) (hlim : l.length + 1 ≤ lim)
    (h : ∀ s' H', Own B H' s' z f (l ++ [x]) → Keeps H0 H' → k s' H') : appendC z (H.push ⟨f x, .rw, z⟩) s ⟨some ⟨H.size, 0, none⟩, 1, 1⟩ k := by
  have hf : ∀ q, (if (f q).length = z then f q else List.replicate z (Value.int .i64 0)).length = z := fun q => by split <;> simp_all
  have e : ∀ q, (f q).length = z → (if (f q).length = z then f q else List.replicate z (Value.int .i64 0)) = f q := fun q hq => if_pos hq
  have hO' := own_congr (f' := fun q => if (f q).length = z then f q else List.replicate z (Value.int .i64 0)) (fun q hq => e q (hl q hq)) hO
  have := append_own (H0 := H0) (B := B) (f := fun q => if (f q).length = z then f q else List.replicate z (Value.int .i64 0)) (x := x) (k := k) hf (by rw [e x hx]; exact hc) hO' hB hBH hK hlim
    (fun s' H' hO2 hK2 _ _ => h s' H' (own_congr (fun q hq => by
      rw [List.mem_append] at hq
      rcases hq with hq | hq
      · exact (e q (hl q hq)).symm
      · simp at hq; subst hq; exact (e _ hx).symm) hO2) hK2)
  simp only [e x hx] at this
  exact this

theorem put_len9 (q : Int × List Int) (h : q.2.length = 8) : (putV q).length = 9 := by simp [putV, lineV, h]

theorem log_homes.s {k : Sl → Int → AH → Prop} (h : GAt H g t x p c n sp per puts M) (hk : ∀ s H', Keeps H H' → Own H.size H' s 9 putV (homesN n sp M).1 → k s (homesN n sp M).2 H') : log_Log_homes (some ⟨g, 0, none⟩) H k := by
  have hok := h.tn.l.m.ok
  have hn16 := h.n16
  have hn200 := h.tn.n200
  have hu1 := reg_U hok (i := 1) (by omega)
  refine log_Log_homes.link ?_
  unfold log_Log_homes.b
  unfold homesN at hk
  simp only [bcase_eq, decide_eq_true_eq, onPtr_mk, h.c0, elP_some]
  refine nvm_Memory_Reg.s h.tn.l.m ?_
  by_cases hd : M.down = true
  · have e : M.reg 1 = (0, 2) := by
      unfold Mem.reg
      rw [if_pos ⟨by omega, by omega⟩, if_pos hd]
    rw [e, if_pos (by simp)]
    rw [if_pos hd] at hk
    exact hk _ _ (Keeps.refl H) (.inl ⟨rfl, rfl⟩)
  have hd' : M.down = false := by simpa using hd
  rw [if_neg hd] at hk
  rw [reg1 hd', if_neg (by simp)]
  simp only
  by_cases hc : commits M > 14
  · rw [if_pos hc]
    rw [if_pos hc] at hk
    exact hk _ _ (Keeps.refl H) (.inl ⟨rfl, rfl⟩)
  rw [if_neg hc]
  rw [if_neg hc] at hk
  have hcu : isU (commits M) := hu1
  unfold isU at hcu
  obtain ⟨v, hv⟩ := Int.eq_ofNat_of_zero_le hcu.1
  rw [hv] at hc hk ⊢
  rw [Int.toNat_natCast] at hk
  have hv14 : v ≤ 14 := by omega
  have hwv : IntKind.wrap .i64 (v : Int) = (v : Int) := wrap_i64 (by omega) (by omega)
  have hidx : idxN v ≤ 2 := by unfold idxN; omega
  refine loopT_inv (t := ((⟨none, 0, 0⟩, (0 : Int), ⟨none, 0, 0⟩, (0 : Int)) : Sl × Int × Sl × Int)) (I := fun (t' : Sl × Int × Sl × Int) H' => ∃ i : Nat, t'.2.2.2 = (i : Int) ∧ i ≤ v ∧ Keeps H H' ∧ Own H.size H' t'.2.2.1 9 putV ((List.range i).map (homeAt n sp M v))) (m := fun (t' : Sl × Int × Sl × Int) _ => Int.toNat ((v : Int) - t'.2.2.2)) ?_ ⟨0, rfl, by omega, Keeps.refl H, .inl ⟨rfl, rfl⟩⟩
  intro t' H1 hI it hit
  obtain ⟨u1, u2, s, u4⟩ := t'
  obtain ⟨i, e1, hi, hkk, hO⟩ := hI
  simp only at e1 hO
  subst e1
  unfold log_Log_homes.l2
  have hg := h.keeps hkk
  simp only [bcase_eq, decide_eq_true_eq, onPtr_mk, hwv, hg.c1, elP_some]
  by_cases hlt : (i : Int) < (v : Int)
  · rw [if_pos hlt]
    refine ⟨by decide, ?_⟩
    have hdiv : IntKind.wrap .i64 (Int.tdiv (i : Int) 8) = ((i / 8 : Nat) : Int) := by rw [show (8 : Int) = ((8 : Nat) : Int) from rfl, tdiv_nat]; exact wrap_i64 (by omega) (by omega)
    have hmod : Int.tmod (i : Int) 8 = ((i % 8 : Nat) : Int) := by rw [show (8 : Int) = ((8 : Nat) : Int) from rfl, tmod_nat]
    rw [hdiv, hmod]
    refine turn_Get.s hg.tn ?_
    have tg : ∀ j : Nat, j < 16 → tget n sp M (j : Int) = (M.tview n sp j, 0) := fun j hj => by unfold tget; rw [if_pos ⟨by omega, by omega⟩, if_neg (by simp [hd']), Int.toNat_natCast]
    rw [tg _ (by omega), zeroV]
    have hl8 := hg.tn.lineOf (i / 8)
    refine new_line hl8 ?_
    rw [if_neg (by simp)]
    have hr8 := line_new (H := H1) (e := 0) hl8
    have hg2 := hg.push ⟨lineV (M.tview n sp (i / 8)), .rw, 0⟩
    have hk2 : Keeps H (H1.push ⟨lineV (M.tview n sp (i / 8)), .rw, 0⟩) := hkk.push _
    have hs2 : H1.size < (H1.push ⟨lineV (M.tview n sp (i / 8)), .rw, 0⟩).size := by simp [push_size]
    have hO2 : Own H.size (H1.push ⟨lineV (M.tview n sp (i / 8)), .rw, 0⟩) s 9 putV ((List.range i).map (homeAt n sp M v)) := hO.keep (by omega) (fun b _ hb => push_get_ne (by omega))
    have o8 : (H1.push ⟨lineV (M.tview n sp (i / 8)), .rw, 0⟩).get H1.size = ⟨lineV (M.tview n sp (i / 8)), .rw, 0⟩ := by rw [push_get, if_pos rfl]
    generalize H1.push ⟨lineV (M.tview n sp (i / 8)), .rw, 0⟩ = H2 at *
    rw [hg2.c1, elP_some, newC_eq]
    have hg3 := hg2.push ⟨lineV (List.replicate 8 0), .rw, 0⟩
    have hk3 : Keeps H (H2.push ⟨lineV (List.replicate 8 0), .rw, 0⟩) := hk2.push _
    have hs3 : (H2.push ⟨lineV (List.replicate 8 0), .rw, 0⟩).size = H2.size + 1 := by simp [push_size]
    refine log_index.s (by omega) ⟨hg3.c1, ?_⟩
    rw [wrap_i64 (n := ((idxN v : Nat) : Int) + (i : Int)) (by omega) (by omega), show ((idxN v : Nat) : Int) + (i : Int) = ((idxN v + i : Nat) : Int) by omega]
    refine turn_Get.s hg3.tn ?_
    rw [tg _ (by omega)]
    have hld := hg.tn.lineOf (idxN v + i)
    generalize hD : M.tview n sp (idxN v + i) = D at *
    have hst : AH.canPut (H2.push ⟨lineV (List.replicate 8 0), .rw, 0⟩) ⟨H2.size, 0, none⟩ (lineV D).length := canPut_new.2 (by rw [lineV_len hld.1, lineV_len rfl]; omega)
    have hpu : AH.put (H2.push ⟨lineV (List.replicate 8 0), .rw, 0⟩) ⟨H2.size, 0, none⟩ (lineV D) = H2.push ⟨lineV D, .rw, 0⟩ := by
      rw [put_new]
      congr 2
      apply List.ext_getElem?
      intro j
      rw [setMany_get _ _ _ _ (by rw [lineV_len hld.1, lineV_len rfl]; omega), lineV_len hld.1]
      by_cases hj : j < 8
      · rw [if_pos (by omega)]; rfl
      · rw [if_neg (by omega), List.getElem?_eq_none (by rw [lineV_len rfl]; omega), List.getElem?_eq_none (by rw [lineV_len hld.1]; omega)]
    refine ⟨⟨lineV_len hld.1, lineV_ok _⟩, stC_to hst hpu ?_⟩
    rw [if_neg (by simp)]
    have hg4 := hg2.push ⟨lineV D, .rw, 0⟩
    have hk4 : Keeps H (H2.push ⟨lineV D, .rw, 0⟩) := hk2.push _
    have hr10 := line_new (H := H2) (e := 0) hld
    have o8' : (H2.push ⟨lineV D, .rw, 0⟩).get H1.size = ⟨lineV (M.tview n sp (i / 8)), .rw, 0⟩ := by rw [push_get_ne (by omega), o8]
    have hO4 : Own H.size (H2.push ⟨lineV D, .rw, 0⟩) s 9 putV ((List.range i).map (homeAt n sp M v)) := hO2.keep (by simp [push_size]) (fun b _ hb => push_get_ne (by omega))
    generalize H2.push ⟨lineV D, .rw, 0⟩ = H4 at *
    refine ⟨by decide, by omega, ?_⟩
    have hc8 : AH.cell? H4 (Addr.add ⟨H1.size, 0, none⟩ (((i % 8 : Nat) : Int).toNat * 1)) = some (.int .u64 ((M.tview n sp (i / 8)).getD (i % 8) 0)) := by
      have hm : i % 8 < (M.tview n sp (i / 8)).length := by rw [hl8.1]; omega
      rw [addr_add, Int.toNat_natCast]
      simp only [AH.cell?, o8', Option.isSome_none, Bool.false_eq_true, if_false]
      rw [if_neg (by simp)]
      simp only [lineV, Nat.zero_add, Nat.mul_one, List.getElem?_map]
      rw [List.getD_eq_getElem?_getD, List.getElem?_eq_getElem hm]; rfl
    rw [hc8, elI_some, hg4.c1, elP_some]
    refine turn_Lines.s hg4.tn ?_
    have hline : isU ((M.tview n sp (i / 8)).getD (i % 8) 0) := by
      have hm : i % 8 < (M.tview n sp (i / 8)).length := by rw [hl8.1]; omega
      rw [List.getD_eq_getElem?_getD, List.getElem?_eq_getElem hm]
      exact hl8.2 _ (List.getElem_mem hm)
    have hhl : homeLine n sp M i = if (M.tview n sp (i / 8)).getD (i % 8) 0 < (n : Int) then (M.tview n sp (i / 8)).getD (i % 8) 0 else -1 := rfl
    have hha : homeAt n sp M v i = (homeLine n sp M i, D) := by unfold homeAt; rw [hD]
    generalize (M.tview n sp (i / 8)).getD (i % 8) 0 = w at *
    rw [wrap_u64 (n := (n : Int)) (by omega) (by omega)]
    have j1 : ∀ y : Int, y = homeLine n sp M i → log_Log_homes.j1 (u1, u2, s, (i : Int)) it H2.size H4 y := by
      intro y hy
      unfold log_Log_homes.j1
      rw [ldA_some hr10]
      have hsm : setMany [Value.int .i64 0, Value.int .u64 0, Value.int .u64 0, Value.int .u64 0, Value.int .u64 0, Value.int .u64 0, Value.int .u64 0, Value.int .u64 0, Value.int .u64 0] 0 (setMany [Value.int .i64 y, Value.int .u64 0, Value.int .u64 0, Value.int .u64 0, Value.int .u64 0, Value.int .u64 0, Value.int .u64 0, Value.int .u64 0, Value.int .u64 0] 1 (lineV D)) = putV (y, D) ∧ (setMany [Value.int .i64 y, Value.int .u64 0, Value.int .u64 0, Value.int .u64 0, Value.int .u64 0, Value.int .u64 0, Value.int .u64 0, Value.int .u64 0, Value.int .u64 0] 1 (lineV D)).length = 9 := by
        have h8 := hld.1
        match D, h8 with
        | [a0, a1, a2, a3, a4, a5, a6, a7], _ => exact ⟨rfl, rfl⟩
      refine ⟨lineV_len hld.1, hsm.2, ?_⟩
      rw [newC_eq, hsm.1]
      have hlz : ∀ q ∈ (List.range i).map (homeAt n sp M v), (putV q).length = 9 := by
        intro q hq
        rw [List.mem_map] at hq
        obtain ⟨j, _, rfl⟩ := hq
        exact put_len9 _ (hg.tn.lineOf _).1
      refine append_put hlz (put_len9 _ hld.1) (putV_ok _) hO4 (Nat.le_refl _) hk4.1 hk4 (by simp [lim]; omega) ?_
      intro s' H' hO' hK'
      rw [wrap_i64 (n := (i : Int) + 1) (by omega) (by omega)]
      refine hit _ _ ⟨i + 1, by simp, by omega, hK', ?_⟩ (by simp only; omega)
      rw [List.range_succ, List.map_append, List.map_cons, List.map_nil, hha, ← hy]
      exact hO'
    by_cases hw : w < (n : Int)
    · rw [if_pos hw]
      rw [if_pos hw] at hhl
      unfold isU at hline
      rw [wrap_i64 (n := w) (by omega) (by omega)]
      exact j1 _ hhl.symm
    · rw [if_neg hw]
      rw [if_neg hw] at hhl
      exact j1 _ hhl.symm
  · rw [if_neg hlt]
    have : i = v := by omega
    subst this
    exact hk _ _ hkk hO
end
end Go.Proofs.Ytgechnnadjonaab
