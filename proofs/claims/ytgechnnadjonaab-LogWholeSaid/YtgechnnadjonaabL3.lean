import Derived.Test.YtgechnnadjonaabL2
set_option linter.all false
set_option linter.all false
namespace Go.Proofs.Ytgechnnadjonaab
open Go Go.Abs

def lobj (p : Nat) (n sp : Nat) : AObj := ⟨[.pointer (some ⟨p, 0, none⟩), .int .i64 n, .int .i64 sp], .rw, 0⟩

structure LAt (H : AH) (x p c n sp : Nat) (M : Mem) : Prop where
  hx : H.get x = lobj p n sp
  lx : x < H.size
  xp : x ≠ p
  xc : x ≠ c
  m : MemAt H p c M
  len : M.cs.length = n + sp
  n1 : 1 ≤ n
  sp16 : sp ≤ 16

def tblL (M : Mem) (sp : Nat) : List Int := (List.range sp).map M.whose
def tblO (M : Mem) (sp : Nat) : AObj := ⟨(tblL M sp).flatMap wU, .rw, 1⟩

/-! ### tables as lists -/

def placeT (t : List Int) (n s : Nat) : Nat → Nat
  | 0 => s
  | j + 1 => if t.getD j 0 = (s : Int) + 1 then n + j else placeT t n s j
def nextT (t : List Int) : Nat → Nat
  | 0 => t.length
  | j + 1 => if t.getD (t.length - (j + 1)) 0 = 0 then t.length - (j + 1) else nextT t j
def leftT (t : List Int) : Nat → Nat
  | 0 => 0
  | j + 1 => leftT t j + if t.getD j 0 = 0 then 1 else 0
def mayAt (t : List Int) (n : Int) (i : Nat) : Prop := t.getD i 0 ≤ n + 1 ∧ (0 < i → t.getD i 0 ≠ 0 → t.getD (i - 1) 0 ≠ 0)
instance (t : List Int) (n : Int) (i : Nat) : Decidable (mayAt t n i) := by unfold mayAt; infer_instance
def MayT (t : List Int) (n : Int) : Prop := 1 ≤ n ∧ ∀ i, i < t.length → mayAt t n i
instance (t : List Int) (n : Int) : Decidable (MayT t n) := by unfold MayT; infer_instance

theorem tblL_len (M : Mem) (sp : Nat) : (tblL M sp).length = sp := by simp [tblL]
theorem tblL_get (M : Mem) {sp j : Nat} (h : j < sp) : (tblL M sp).getD j 0 = M.whose j := by simp [tblL, List.getD_eq_getElem?_getD, h]
theorem placeT_eq (M : Mem) (n s : Nat) {sp : Nat} : ∀ j, j ≤ sp → placeT (tblL M sp) n s j = M.place n s j := by
  intro j
  induction j with
  | zero => intro _; rfl
  | succ j ih => intro h; simp only [placeT, Mem.place, tblL_get M (show j < sp by omega), ih (by omega)]
theorem nextT_eq (M : Mem) {sp : Nat} : ∀ j, j ≤ sp → nextT (tblL M sp) j = M.next sp j := by
  intro j
  induction j with
  | zero => intro _; simp [nextT, Mem.next, tblL_len]
  | succ j ih => intro h; simp only [nextT, Mem.next, tblL_len, tblL_get M (show sp - (j + 1) < sp by omega), ih (by omega)]
theorem next_le (M : Mem) (sp : Nat) : ∀ j, M.next sp j ≤ sp := by
  intro j
  induction j with
  | zero => simp [Mem.next]
  | succ j ih => simp only [Mem.next]; split <;> omega
theorem leftT_le (t : List Int) : ∀ j, leftT t j ≤ j := by
  intro j
  induction j with
  | zero => simp [leftT]
  | succ j ih => simp only [leftT]; split <;> omega

section
variable {H : AH} {x p c n sp : Nat} {M : Mem} {i slot : Int}

theorem LAt.cell (h : LAt H x p c n sp M) (i : Nat) : AH.cell? H (Addr.add ⟨x, 0, none⟩ i) = (lobj p n sp).cells[i]? := by
  rw [addr_add, Nat.zero_add]
  simp only [AH.cell?, h.hx, Option.isSome_none, Bool.false_eq_true, if_false]
  rw [if_neg (by simp [lobj])]
theorem LAt.c0 (h : LAt H x p c n sp M) : AH.cell? H (Addr.add ⟨x, 0, none⟩ 0) = some (.pointer (some ⟨p, 0, none⟩)) := h.cell 0
theorem LAt.c1 (h : LAt H x p c n sp M) : AH.cell? H (Addr.add ⟨x, 0, none⟩ 1) = some (.int .i64 n) := h.cell 1
theorem LAt.c2 (h : LAt H x p c n sp M) : AH.cell? H (Addr.add ⟨x, 0, none⟩ 2) = some (.int .i64 sp) := h.cell 2
theorem LAt.keeps {H' : AH} (h : LAt H x p c n sp M) (hk : Keeps H H') : LAt H' x p c n sp M :=
  ⟨by rw [hk.2 x h.lx, h.hx], by have := hk.1; have := h.lx; omega, h.xp, h.xc, h.m.keeps hk, h.len, h.n1, h.sp16⟩
theorem LAt.push (h : LAt H x p c n sp M) (o : AObj) : LAt (H.push o) x p c n sp M := h.keeps ((Keeps.refl H).push o)
theorem LAt.set {M' : Mem} (h : LAt H x p c n sp M) (hok : M'.ok) (hl : M'.cs.length = M.cs.length) : LAt (setM H p c M') x p c n sp M' :=
  ⟨by rw [setM_other h.xp h.xc, h.hx], h.lx, h.xp, h.xc, h.m.set hok, by rw [hl]; exact h.len, h.n1, h.sp16⟩
theorem LAt.n200 (h : LAt H x p c n sp M) : n + sp ≤ 200 := by have := h.len; have := h.m.ok.len; omega

theorem slAt_rows {α : Type} {z : Nat} {f : α → List Value} {l : List α} {s : Sl} {H' : AH} {b : Nat} (hf : ∀ x, (f x).length = z) (hc : ∀ x, (f x).all cellOK = true) (h : SlAt b l.length s) (hb : b < H'.size) (hg : H'.get b = ⟨l.flatMap f, .rw, z⟩) : Abs.Rows H' s z f l :=
  (h.own (B := 0) (Nat.zero_le _) hb hg).rows hf hc

theorem Mem.reg_up {j : Nat} (hd : M.down = false) (hj : j < 16) : M.reg ((3 : Int) + j) = (M.whose j, 0) := by
  unfold Mem.reg
  rw [if_pos (by unfold regIn; omega), if_neg (by simp [hd])]
  have : ((3 : Int) + j).toNat = 3 + j := by omega
  rw [this]; rfl

theorem lines_table.s {k : Sl → Int → AH → Prop} (h : LAt H x p c n sp M) (h0 : M.down = true → k ⟨none, 0, 0⟩ 2 H) (h1 : M.down = false → ∀ s, SlAt H.size sp s → k s 0 (H.push (tblO M sp))) : lines_Lines_table (some ⟨x, 0, none⟩) H k := by
  have hsp := h.sp16
  have hn := h.n200
  by_cases hd : M.down = true
  · refine lines_Lines_table.link ?_
    unfold lines_Lines_table.b
    rw [onPtr_mk, h.c2, elI_some]
    refine ⟨1, ?_⟩
    show lines_Lines_table.l2 _ _ _ _ _ _
    unfold lines_Lines_table.l2 lines_Lines_table.j1
    simp only [bcase_eq, decide_eq_true_eq, onPtr_mk, h.c0, elP_some]
    by_cases hz : (0 : Int) < (sp : Int)
    · rw [if_pos hz]
      refine nvm_Memory_Reg.s h.m ?_
      rw [wrap_i64 (n := (3 : Int) + 0) (by omega) (by omega)]
      have : M.reg (3 + 0) = (0, 2) := by unfold Mem.reg; rw [if_pos (by unfold regIn; omega), if_pos hd]
      rw [this, if_pos (by simp)]
      exact h0 hd
    · rw [if_neg hz]
      refine nvm_Memory_Down.s h.m ?_
      rw [hd, if_pos rfl]
      exact h0 hd
  · have hd' : M.down = false := by simpa using hd
    refine canonS2 (μ := .int .i64) (u := 0) (l := tblL M sp) (g := wU) (z := 1) (H2 := H) (by simp) rfl (fun _ _ => rfl) (lines_Lines_table.link ?_) (fun s hs => h1 hd' s (by rw [tblL_len] at hs; exact hs))
    unfold lines_Lines_table.b
    rw [onPtr_mk, h.c2, elI_some]
    refine loopT_inv (t := ((⟨none, 0, 0⟩, (0 : Int), ⟨none, 0, 0⟩, (0 : Int)) : Sl × Int × Sl × Int)) (I := fun (t : Sl × Int × Sl × Int) H' => ∃ j : Nat, t.2.2.2 = (j : Int) ∧ j ≤ sp ∧ Keeps H H' ∧ Own H.size H' t.2.2.1 1 wU (tblL M j)) (m := fun (t : Sl × Int × Sl × Int) _ => Int.toNat ((sp : Int) - t.2.2.2)) ?_ ⟨0, rfl, by omega, Keeps.refl _, .inl ⟨rfl, rfl⟩⟩
    intro t H1 hI it hit
    obtain ⟨t1, t2, t3, t4⟩ := t
    obtain ⟨j, e1, hj, hK, hO⟩ := hI
    simp only at e1 hO
    subst e1
    have hL := h.keeps hK
    unfold lines_Lines_table.l2 lines_Lines_table.j1
    simp only [bcase_eq, decide_eq_true_eq, onPtr_mk, hL.c0, elP_some]
    by_cases hz : (j : Int) < (sp : Int)
    · rw [if_pos hz, wrap_i64 (n := (3 : Int) + j) (by omega) (by omega)]
      refine nvm_Memory_Reg.s hL.m ?_
      rw [Mem.reg_up hd' (by omega), if_neg (by simp)]
      simp only [newC_eq]
      refine append_own (H0 := H) (B := H.size) (f := wU) (x := M.whose j) (l := tblL M j) (fun _ => rfl) rfl hO (Nat.le_refl _) hK.1 hK (by rw [tblL_len]; simp only [lim]; omega) ?_
      intro s' H' hO' hK' _ _
      rw [wrap_i64 (n := (j : Int) + 1) (by omega) (by omega)]
      refine hit _ _ ⟨j + 1, by simp, by omega, hK', ?_⟩ (by simp only; omega)
      have : tblL M (j + 1) = tblL M j ++ [M.whose j] := by simp [tblL, List.range_succ]
      rw [this]; exact hO'
    · rw [if_neg hz]
      refine nvm_Memory_Down.s hL.m ?_
      rw [hd', if_neg (by simp)]
      have : j = sp := by omega
      subst this
      exact ⟨At.of_keeps hK, hO, trivial⟩

/-! ### spare -/

variable {t : List Int} {sl : Sl}

theorem spare_Dead.s {k : Int → AH → Prop} {n : Int} (h : 1 ≤ n ∧ n ≤ 1000000) (hk : k (n + 1) H) : spare_Dead n H k := by
  refine spare_Dead.link ?_
  unfold spare_Dead.b
  simp only [bcase_eq, decide_eq_true_eq]
  rw [if_neg (by omega), wrap_u64 (n := n) (by omega) (by omega), wrap_u64 (by omega) (by omega)]
  exact hk

theorem cellT (hR : Abs.Rows H sl 1 wU t) {j : Nat} (hj : j < t.length) : ∃ ad, sl.a = some ad ∧ AH.cell? H (Addr.add ad (j * 1)) = some (.int .u64 (t.getD j 0)) := by
  obtain ⟨b, o, h1, _, h3⟩ := rows1 (g := fun v => Value.int .u64 v) hR hj
  exact ⟨_, h1, by rw [h3, List.getD_eq_getElem?_getD, List.getElem?_eq_getElem hj]; rfl⟩

theorem spare_Place.s {k : Int → AH → Prop} {n slot : Nat} (hR : Abs.Rows H sl 1 wU t) (ht : t.length ≤ 16) (hs : slot < n) (hn : n ≤ 1000000) (hk : k (placeT t n slot t.length : Nat) H) : spare_Place sl n slot H k := by
  refine spare_Place.link ?_
  unfold spare_Place.b spare_Place.j2
  simp only [bcase_eq, decide_eq_true_eq]
  rw [if_neg (by omega), if_neg (by omega), hR.1, wrap_i64 (n := (t.length : Int) - 1) (by omega) (by omega)]
  refine loopT_inv (t := (((0 : Int), ((t.length : Int) - 1)) : Int × Int)) (I := fun (t' : Int × Int) H' => H' = H ∧ ∃ j : Nat, t'.2 = (j : Int) - 1 ∧ j ≤ t.length ∧ placeT t n slot t.length = placeT t n slot j) (m := fun (t' : Int × Int) _ => Int.toNat (t'.2 + 1)) ?_ ⟨rfl, t.length, rfl, Nat.le_refl _, rfl⟩
  intro t' H1 hI it hit
  obtain ⟨t1, t2⟩ := t'
  obtain ⟨rfl, j, e, hj, hp⟩ := hI
  simp only at e
  subst e
  unfold spare_Place.l1
  simp only [bcase_eq, decide_eq_true_eq, hR.1]
  by_cases h0 : (j : Int) - 1 ≥ 0
  · rw [if_pos h0]
    refine ⟨by omega, ?_⟩
    obtain ⟨i, rfl⟩ : ∃ i, j = i + 1 := ⟨j - 1, by omega⟩
    obtain ⟨ad, ha, hc⟩ := cellT hR (j := i) (by omega)
    have e1 : (((i + 1 : Nat) : Int) - 1).toNat = i := by omega
    rw [ha, onPtr_mk, e1, hc, elI_some, wrap_u64 (n := (slot : Int)) (by omega) (by omega), wrap_u64 (n := (slot : Int) + 1) (by omega) (by omega)]
    simp only [beq_iff_eq]
    simp only [placeT] at hp
    by_cases hw : t.getD i 0 = (slot : Int) + 1
    · rw [if_pos hw] at hp ⊢
      rw [wrap_i64 (by omega) (by omega)]
      rw [hp] at hk
      have : (n : Int) + (((i + 1 : Nat) : Int) - 1) = ((n + i : Nat) : Int) := by omega
      rw [this]; exact hk
    · rw [if_neg hw] at hp ⊢
      rw [wrap_i64 (by omega) (by omega)]
      exact hit _ _ ⟨rfl, i, by simp only; omega, by omega, hp⟩ (by simp only; omega)
  · rw [if_neg h0]
    have : j = 0 := by omega
    subst this
    rw [hp] at hk
    exact hk

theorem spare_Next.s {k : Int → AH → Prop} (hR : Abs.Rows H sl 1 wU t) (ht : t.length ≤ 16) (h1 : nextT t t.length < t.length → k (nextT t t.length : Nat) H) (h0 : nextT t t.length = t.length → k (-1) H) : spare_Next sl H k := by
  refine spare_Next.link ?_
  unfold spare_Next.b
  refine loopT_inv (t := (((0 : Int), (0 : Int)) : Int × Int)) (I := fun (t' : Int × Int) H' => H' = H ∧ ∃ j : Nat, t'.2 = (j : Int) ∧ j ≤ t.length ∧ nextT t t.length = nextT t (t.length - j)) (m := fun (t' : Int × Int) _ => Int.toNat ((t.length : Int) - t'.2)) ?_ ⟨rfl, 0, rfl, Nat.zero_le _, rfl⟩
  intro t' H1 hI it hit
  obtain ⟨t1, t2⟩ := t'
  obtain ⟨rfl, j, e, hj, hp⟩ := hI
  simp only at e
  subst e
  unfold spare_Next.l1
  simp only [bcase_eq, decide_eq_true_eq, hR.1]
  by_cases hlt : (j : Int) < (t.length : Int)
  · rw [if_pos hlt]
    refine ⟨by omega, ?_⟩
    obtain ⟨ad, ha, hc⟩ := cellT hR (j := j) (by omega)
    rw [ha, onPtr_mk, Int.toNat_natCast, hc, elI_some]
    simp only [beq_iff_eq]
    obtain ⟨q, hq⟩ : ∃ q, t.length - j = q + 1 := ⟨t.length - j - 1, by omega⟩
    have e1 : t.length - (q + 1) = j := by omega
    rw [hq] at hp
    simp only [nextT, e1] at hp
    by_cases hw : t.getD j 0 = 0
    · rw [if_pos hw] at hp ⊢
      rw [hp] at h1
      exact h1 (by omega)
    · rw [if_neg hw] at hp ⊢
      rw [wrap_i64 (by omega) (by omega)]
      exact hit _ _ ⟨rfl, j + 1, by simp, by omega, by rw [hp, show t.length - (j + 1) = q by omega]⟩ (by simp only; omega)
  · rw [if_neg hlt]
    have e2 : t.length - j = 0 := by omega
    rw [e2] at hp
    exact h0 hp

theorem spare_May.s {k : Bool → AH → Prop} {n : Int} (hR : Abs.Rows H sl 1 wU t) (ht : t.length ≤ 16) (htn : ∀ v ∈ t, 0 ≤ v) (hn : 1 ≤ n ∧ n ≤ 1000000) (hk : k (decide (MayT t n)) H) : spare_May sl n H k := by
  refine spare_May.link ?_
  unfold spare_May.b
  refine loopT_inv (t := ((false, (0 : Int)) : Bool × Int)) (I := fun (t' : Bool × Int) H' => H' = H ∧ ∃ j : Nat, t'.2 = (j : Int) ∧ j ≤ t.length ∧ ∀ i, i < j → mayAt t n i) (m := fun (t' : Bool × Int) _ => Int.toNat ((t.length : Int) - t'.2)) ?_ ⟨rfl, 0, rfl, Nat.zero_le _, fun i hi => by omega⟩
  intro t' H1 hI it hit
  obtain ⟨t1, t2⟩ := t'
  obtain ⟨rfl, j, e, hj, hall⟩ := hI
  simp only at e
  subst e
  unfold spare_May.l2 spare_May.j1
  simp only [bcase_eq, decide_eq_true_eq, hR.1]
  by_cases hlt : (j : Int) < (t.length : Int)
  · rw [if_pos hlt]
    refine ⟨by omega, ?_⟩
    obtain ⟨ad, ha, hc⟩ := cellT hR (j := j) (by omega)
    rw [ha, onPtr_mk, Int.toNat_natCast, hc, elI_some]
    refine spare_Dead.s hn ?_
    rw [wrap_i64 (n := (j : Int) + 1) (by omega) (by omega)]
    have bad : ¬ mayAt t n j → k false H1 := by
      intro hb
      rw [decide_eq_false (fun hM => hb (hM.2 j (by omega)))] at hk
      exact hk
    have good : mayAt t n j → it (t1, (j : Int) + 1) H1 := by
      intro hg
      refine hit _ _ ⟨rfl, j + 1, by simp, by omega, fun i hi => ?_⟩ (by simp only; omega)
      rcases Nat.lt_or_ge i j with h | h
      · exact hall i h
      · have : i = j := by omega
        subst this; exact hg
    by_cases h1 : t.getD j 0 > n + 1
    · rw [if_pos h1]; exact bad (fun h => by have := h.1; omega)
    · rw [if_neg h1]
      by_cases h2 : (j : Int) > 0
      · rw [if_pos h2]
        by_cases h3 : t.getD j 0 = 0
        · rw [if_neg (by rw [h3]; simp)]
          exact good ⟨by omega, fun _ hh => absurd h3 hh⟩
        · rw [if_pos (by simpa using h3), wrap_i64 (by omega) (by omega)]
          refine ⟨by omega, ?_⟩
          obtain ⟨ad', ha', hc'⟩ := cellT hR (j := j - 1) (by omega)
          rw [ha] at ha'
          injection ha' with ha'
          subst ha'
          have e1 : ((j : Int) - 1).toNat = j - 1 := by omega
          rw [onPtr_mk, e1, hc', elI_some]
          by_cases h4 : t.getD (j - 1) 0 = 0
          · rw [if_pos (by simpa using h4)]
            exact bad (fun h => h.2 (by omega) h3 h4)
          · rw [if_neg (by simpa using h4)]
            exact good ⟨by omega, fun _ _ => h4⟩
      · rw [if_neg h2]
        exact good ⟨by omega, fun h => by omega⟩
  · rw [if_neg hlt]
    have : j = t.length := by omega
    subst this
    rw [show decide (n ≥ 1) = decide (MayT t n) from decide_eq_decide.2 ⟨fun h => ⟨h, hall⟩, fun h => h.1⟩]
    exact hk
end
end Go.Proofs.Ytgechnnadjonaab
