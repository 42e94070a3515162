import Derived.Test.YtomeldimnhapfaaM9
set_option linter.all false
set_option linter.all false
namespace Go.Proofs.Ytomeldimnhapfaa
open Go Go.Abs

/-! ## The document's memory -/

structure RMem where
  L : List (List Int)
  R : List Int
  W : List Int
  lim : List Int
  cuts : Int
  mask : Int
  dark : Bool
  count : Int

structure RMem.ok (w : RMem) : Prop where
  lines : ∀ l ∈ w.L, isLine l
  regs : w.R.length = 35
  regU : ∀ v ∈ w.R, isU v
  len : w.W.length = w.L.length
  n : w.L.length ≤ 200
  cuts : 0 ≤ w.cuts ∧ w.cuts ≤ 4611686018427387904

def RMem.goes (w : RMem) : RMem × Bool :=
  if w.cuts = 0 then ({ w with count := inc w.count }, false) else ({ w with count := inc w.count, cuts := w.cuts - 1 }, w.cuts - 1 == 0)
def RMem.worn (w : RMem) (i : Nat) : Bool := if i < w.lim.length then decide (0 ≤ w.lim.getD i 0) && decide (w.lim.getD i 0 ≤ w.W.getD i 0) else false
def RMem.has (w : RMem) (i : Int) : Prop := 0 ≤ i ∧ i < w.L.length
instance (w : RMem) (i : Int) : Decidable (w.has i) := by unfold RMem.has; infer_instance
def RMem.ended (w : RMem) (cut worn : Bool) : RMem × Int := if cut then ({ w with dark := true }, 2) else if worn then (w, 3) else (w, 0)
def RMem.put (w : RMem) (i : Int) (l : List Int) : RMem × Int :=
  if w.has i then if w.dark then (w, 2) else
    if w.goes.1.worn i.toNat then w.goes.1.ended w.goes.2 true
    else RMem.ended { w.goes.1 with W := w.W.set i.toNat (inc (w.W.getD i.toNat 0)), L := w.L.set i.toNat (if w.goes.2 then mixL (w.L.getD i.toNat []) l w.mask else l) } w.goes.2 false
  else (w, 1)
def RMem.set (w : RMem) (i v : Int) : RMem × Int :=
  if regIn i then if w.dark then (w, 2) else
    if w.goes.2 then ({ w.goes.1 with dark := true, R := if mbit w.mask 0 then w.R.set i.toNat v else w.R }, 2)
    else ({ w.goes.1 with R := w.R.set i.toNat v }, 0)
  else (w, 1)
def RMem.get (w : RMem) (i : Int) : List Int × Int :=
  if w.has i then if w.dark then (List.replicate 8 0, 2) else (w.L.getD i.toNat [], 0) else (List.replicate 8 0, 1)
def RMem.reg (w : RMem) (i : Int) : Int × Int := if regIn i then if w.dark then (0, 2) else (w.R.getD i.toNat 0, 0) else (0, 1)
def RMem.cut (w : RMem) (n mask : Int) : RMem := { w with cuts := if 0 ≤ n ∧ n < 4611686018427387904 then n + 1 else 0, mask := mask }
def RMem.power (w : RMem) : RMem := { w with dark := false, cuts := 0 }
def RMem.new (n : Nat) (limits : List Int) : RMem :=
  { L := List.replicate n (List.replicate 8 0), R := List.replicate 35 0, W := List.replicate n 0, lim := limits, cuts := 0, mask := 0, dark := false, count := 0 }

def rObj (a b : Nat) (s : Sl) (w : RMem) : AObj :=
  ⟨[.slice (some ⟨a, 0, none⟩) w.L.length 1] ++ lineV w.R ++ [.slice (some ⟨b, 0, none⟩) w.W.length 1, s.val, i64V w.cuts, i64V w.mask, .bool w.dark, i64V w.count], .rw, 0⟩
def rL (w : RMem) : AObj := ⟨w.L.flatMap lineV, .rw, 8⟩
def rW (w : RMem) : AObj := ⟨w.W.flatMap iV, .rw, 1⟩

structure RAt (H : AH) (q a b : Nat) (s : Sl) (w : RMem) : Prop where
  hq : H.get q = rObj a b s w
  ha : H.get a = rL w
  hb : H.get b = rW w
  hs : Abs.Rows H s 1 iV w.lim
  lq : q < H.size
  la : a < H.size
  lb : b < H.size
  aq : a ≠ q
  bq : b ≠ q
  ab : a ≠ b
  sq : ∀ x, s.a = some x → x.block ≠ q ∧ x.block ≠ a ∧ x.block ≠ b
  sl : ∀ x, s.a = some x → x.block < H.size
  ok : w.ok

/-- All is as it was but for the document's memory. -/
structure Frr (H H' : AH) (q a b : Nat) : Prop where
  size : H'.size = H.size
  get : ∀ x, x ≠ q → x ≠ a → x ≠ b → H'.get x = H.get x
theorem Frr.refl {H : AH} {q a b : Nat} : Frr H H q a b := ⟨rfl, fun _ _ _ _ => rfl⟩
theorem Frr.trans {H H' H2 : AH} {q a b : Nat} (h : Frr H H' q a b) (h' : Frr H' H2 q a b) : Frr H H2 q a b := ⟨h'.size.trans h.size, fun x h1 h2 h3 => (h'.get x h1 h2 h3).trans (h.get x h1 h2 h3)⟩

section
variable {H H' : AH} {q a b : Nat} {s : Sl} {w w' : RMem} {i : Int}

theorem RAt.keep (h : RAt H q a b s w) (hs : H.size ≤ H'.size) (hg : ∀ x, x < H.size → (x = q ∨ x = a ∨ x = b ∨ ∃ y, s.a = some y ∧ y.block = x) → H'.get x = H.get x) : RAt H' q a b s w := by
  refine ⟨by rw [hg q h.lq (.inl rfl)]; exact h.hq, by rw [hg a h.la (.inr (.inl rfl))]; exact h.ha, by rw [hg b h.lb (.inr (.inr (.inl rfl)))]; exact h.hb, ?_, by have := h.lq; omega, by have := h.la; omega, by have := h.lb; omega, h.aq, h.bq, h.ab, h.sq, fun x hx => by have := h.sl x hx; omega, h.ok⟩
  refine ⟨h.hs.1, fun j x hx => ?_⟩
  obtain ⟨y, h1, h2, h3, h4⟩ := h.hs.2 j x hx
  refine ⟨y, h1, h2, by omega, ?_⟩
  simp only [AH.row?] at h4 ⊢
  rw [hg _ h3 (.inr (.inr (.inr ⟨y, h1, rfl⟩)))]
  exact h4
theorem RAt.push (h : RAt H q a b s w) (o : AObj) : RAt (H.push o) q a b s w :=
  h.keep (by simp [push_size]) fun x hx _ => push_get_ne (by omega)
theorem RAt.keeps (h : RAt H q a b s w) (hk : Keeps H H') : RAt H' q a b s w := h.keep hk.1 fun x hx _ => hk.2 x hx

theorem RAt.cell (h : RAt H q a b s w) (i : Nat) : AH.cell? H (Addr.add ⟨q, 0, none⟩ i) = (rObj a b s w).cells[i]? := by
  rw [addr_add, Nat.zero_add]
  simp only [AH.cell?, h.hq, Option.isSome_none, Bool.false_eq_true, if_false]
  rw [if_neg (by simp [rObj])]
theorem robj_tail (hr : w.R.length = 35) (i : Nat) : (rObj a b s w).cells[36 + i]? = [.slice (some ⟨b, 0, none⟩) w.W.length 1, s.val, i64V w.cuts, i64V w.mask, .bool w.dark, i64V w.count][i]? := by
  simp only [rObj, lineV]
  rw [List.getElem?_append_right (by simp [hr])]
  congr 1
  simp [hr]
theorem RAt.c0 (h : RAt H q a b s w) : AH.cell? H (Addr.add ⟨q, 0, none⟩ 0) = some (.slice (some ⟨a, 0, none⟩) w.L.length 1) := by rw [h.cell]; exact rfl
theorem RAt.c36 (h : RAt H q a b s w) : AH.cell? H (Addr.add ⟨q, 0, none⟩ 36) = some (.slice (some ⟨b, 0, none⟩) w.W.length 1) := by rw [h.cell]; exact robj_tail h.ok.regs 0
theorem RAt.c37 (h : RAt H q a b s w) : AH.cell? H (Addr.add ⟨q, 0, none⟩ 37) = some (.slice s.a s.n s.k) := by rw [h.cell]; exact robj_tail h.ok.regs 1
theorem RAt.c38 (h : RAt H q a b s w) : AH.cell? H (Addr.add ⟨q, 0, none⟩ 38) = some (.int .i64 w.cuts) := by rw [h.cell]; exact robj_tail h.ok.regs 2
theorem RAt.c39 (h : RAt H q a b s w) : AH.cell? H (Addr.add ⟨q, 0, none⟩ 39) = some (.int .i64 w.mask) := by rw [h.cell]; exact robj_tail h.ok.regs 3
theorem RAt.c40 (h : RAt H q a b s w) : AH.cell? H (Addr.add ⟨q, 0, none⟩ 40) = some (.bool w.dark) := by rw [h.cell]; exact robj_tail h.ok.regs 4
theorem RAt.c41 (h : RAt H q a b s w) : AH.cell? H (Addr.add ⟨q, 0, none⟩ 41) = some (.int .i64 w.count) := by rw [h.cell]; exact robj_tail h.ok.regs 5
theorem RAt.cr (h : RAt H q a b s w) {i : Nat} (hi : i < 35) : AH.cell? H (Addr.add (Addr.add ⟨q, 0, none⟩ 1) (i * 1)) = some (.int .u64 (w.R.getD i 0)) := by
  rw [addr_add, addr_add, Nat.zero_add, Nat.mul_one]
  have := h.cell (1 + i)
  rw [addr_add, Nat.zero_add] at this
  rw [this]
  have hl : i < w.R.length := by rw [h.ok.regs]; exact hi
  simp only [rObj, lineV, List.singleton_append]
  rw [Nat.add_comm, List.cons_append, List.getElem?_cons_succ, List.getElem?_append_left (by simpa using hl), List.getElem?_map, List.getElem?_eq_getElem hl, Option.map_some, List.getD_eq_getElem?_getD, List.getElem?_eq_getElem hl]
  rfl
theorem robj_len (hr : w.R.length = 35) : (rObj a b s w).cells.length = 42 := by simp [rObj, lineV, hr]
theorem RAt.can (h : RAt H q a b s w) {i : Nat} (hi : i < 42) : AH.canPut H (Addr.add ⟨q, 0, none⟩ i) 1 := by
  rw [addr_add]
  exact ⟨rfl, congrArg AObj.md h.hq, by rw [h.hq, robj_len h.ok.regs]; simp only; omega⟩

theorem RAt.upd (h : RAt H q a b s w) {i : Nat} {v : Value} (hq : (rObj a b s w).cells.set i v = (rObj a b s w').cells) (hL : w'.L = w.L) (hW : w'.W = w.W) (hlim : w'.lim = w.lim) (hok : w'.ok) :
    RAt (AH.put H (Addr.add ⟨q, 0, none⟩ i) [v]) q a b s w' ∧ Frr H (AH.put H (Addr.add ⟨q, 0, none⟩ i) [v]) q a b := by
  rw [addr_add, Nat.zero_add]
  have other : ∀ x, x ≠ q → (AH.put H ⟨q, i, none⟩ [v]).get x = H.get x := fun x hx => by simp only [AH.put, upd_get]; rw [if_neg hx]
  refine ⟨⟨?_, by rw [other a h.aq, h.ha]; simp [rL, hL], by rw [other b h.bq, h.hb]; simp [rW, hW], ?_, h.lq, h.la, h.lb, h.aq, h.bq, h.ab, h.sq, h.sl, hok⟩, rfl, fun x hx _ _ => other x hx⟩
  · simp only [AH.put, upd_get, if_true, setMany, h.hq]
    rw [hq]; rfl
  · rw [hlim]
    refine ⟨h.hs.1, fun j x hx => ?_⟩
    obtain ⟨y, h1, h2, h3, h4⟩ := h.hs.2 j x hx
    refine ⟨y, h1, h2, h3, ?_⟩
    simp only [AH.row?] at h4 ⊢
    rw [other _ (h.sq y h1).1]
    exact h4
theorem robj_setTail (hr : w.R.length = 35) (i : Nat) (v : Value) (hi : i < 6) :
    (rObj a b s w).cells.set (36 + i) v = [.slice (some ⟨a, 0, none⟩) w.L.length 1] ++ lineV w.R ++ [.slice (some ⟨b, 0, none⟩) w.W.length 1, s.val, i64V w.cuts, i64V w.mask, .bool w.dark, i64V w.count].set i v := by
  simp only [rObj]
  rw [List.set_append_right _ _ (by simp [lineV, hr])]
  congr 2
  simp [lineV, hr]
theorem RAt.p38 (h : RAt H q a b s w) {v : Int} (hv : 0 ≤ v ∧ v ≤ 4611686018427387904) : RAt (AH.put H (Addr.add ⟨q, 0, none⟩ 38) [.int .i64 v]) q a b s { w with cuts := v } ∧ Frr H (AH.put H (Addr.add ⟨q, 0, none⟩ 38) [.int .i64 v]) q a b :=
  h.upd (by rw [robj_setTail (i := 2) h.ok.regs _ (by omega)]; rfl) rfl rfl rfl ⟨h.ok.lines, h.ok.regs, h.ok.regU, h.ok.len, h.ok.n, hv⟩
theorem RAt.p39 (h : RAt H q a b s w) {v : Int} : RAt (AH.put H (Addr.add ⟨q, 0, none⟩ 39) [.int .i64 v]) q a b s { w with mask := v } ∧ Frr H (AH.put H (Addr.add ⟨q, 0, none⟩ 39) [.int .i64 v]) q a b :=
  h.upd (by rw [robj_setTail (i := 3) h.ok.regs _ (by omega)]; rfl) rfl rfl rfl ⟨h.ok.lines, h.ok.regs, h.ok.regU, h.ok.len, h.ok.n, h.ok.cuts⟩
theorem RAt.p40 (h : RAt H q a b s w) {v : Bool} : RAt (AH.put H (Addr.add ⟨q, 0, none⟩ 40) [.bool v]) q a b s { w with dark := v } ∧ Frr H (AH.put H (Addr.add ⟨q, 0, none⟩ 40) [.bool v]) q a b :=
  h.upd (by rw [robj_setTail (i := 4) h.ok.regs _ (by omega)]; rfl) rfl rfl rfl ⟨h.ok.lines, h.ok.regs, h.ok.regU, h.ok.len, h.ok.n, h.ok.cuts⟩
theorem RAt.p41 (h : RAt H q a b s w) {v : Int} : RAt (AH.put H (Addr.add ⟨q, 0, none⟩ 41) [.int .i64 v]) q a b s { w with count := v } ∧ Frr H (AH.put H (Addr.add ⟨q, 0, none⟩ 41) [.int .i64 v]) q a b :=
  h.upd (by rw [robj_setTail (i := 5) h.ok.regs _ (by omega)]; rfl) rfl rfl rfl ⟨h.ok.lines, h.ok.regs, h.ok.regU, h.ok.len, h.ok.n, h.ok.cuts⟩
theorem RAt.pr (h : RAt H q a b s w) {i : Nat} (hi : i < 35) {v : Int} (hv : isU v) :
    RAt (AH.put H (Addr.add (Addr.add ⟨q, 0, none⟩ 1) (i * 1)) [.int .u64 v]) q a b s { w with R := w.R.set i v } ∧ Frr H (AH.put H (Addr.add (Addr.add ⟨q, 0, none⟩ 1) (i * 1)) [.int .u64 v]) q a b := by
  have e : Addr.add (Addr.add ⟨q, 0, none⟩ 1) (i * 1) = Addr.add ⟨q, 0, none⟩ (1 + i) := by simp [addr_add]
  rw [e]
  refine h.upd ?_ rfl rfl rfl ⟨h.ok.lines, by simp [h.ok.regs], fun x hx => ?_, h.ok.len, h.ok.n, h.ok.cuts⟩
  · have hl : i < w.R.length := by rw [h.ok.regs]; exact hi
    simp only [rObj, lineV, List.singleton_append, List.cons_append]
    rw [Nat.add_comm, List.set_cons_succ, List.set_append_left _ _ (by simpa using hl), List.map_set]
    rfl
  · rcases List.mem_or_eq_of_mem_set hx with h' | rfl
    · exact h.ok.regU x h'
    · exact hv

theorem r_get (hi : w.has i) : w.L[i.toNat]? = some (w.L.getD i.toNat []) := by
  unfold RMem.has at hi
  rw [List.getD_eq_getElem?_getD, List.getElem?_eq_getElem (by omega), Option.getD_some]
theorem r_mem (hi : w.has i) : w.L.getD i.toNat [] ∈ w.L := List.mem_of_getElem? (r_get hi)
theorem RAt.le (h : RAt H q a b s w) (hi : w.has i) : i.toNat * 8 + 8 ≤ (rL w).cells.length := by
  simp only [rL]
  rw [flat_len' (fun x hx => lineV_len (h.ok.lines x hx).1)]
  unfold RMem.has at hi; omega
theorem RAt.rowL (h : RAt H q a b s w) (hi : w.has i) : AH.row? H (Addr.add ⟨a, 0, none⟩ (i.toNat * 8)) 8 = some (lineV (w.L.getD i.toNat [])) := by
  rw [addr_add, Nat.zero_add]
  have hr := flat_row' (fun x hx => lineV_len (h.ok.lines x hx).1) i.toNat _ (r_get hi)
  have hle := h.le hi
  simp only [AH.row?, h.ha, Option.isSome_none, Bool.false_eq_true, if_false]
  rw [if_neg (by simp [rL])]
  have hr' : ((rL w).cells.drop (i.toNat * 8)).take 8 = lineV (w.L.getD i.toNat []) := hr
  rw [hr', if_pos ⟨hle, lineV_ok _⟩]
theorem RAt.putL (h : RAt H q a b s w) (hi : w.has i) {l : List Int} (hl : isLine l) :
    AH.canPut H (Addr.add ⟨a, 0, none⟩ (i.toNat * 8)) (lineV l).length ∧ RAt (AH.put H (Addr.add ⟨a, 0, none⟩ (i.toNat * 8)) (lineV l)) q a b s { w with L := w.L.set i.toNat l } ∧ Frr H (AH.put H (Addr.add ⟨a, 0, none⟩ (i.toNat * 8)) (lineV l)) q a b := by
  rw [addr_add, Nat.zero_add]
  have hle := h.le hi
  have hset : setMany (lineV (w.L.getD i.toNat [])) 0 (lineV l) = lineV l := by
    have h0 := (h.ok.lines _ (r_mem hi)).1
    apply List.ext_getElem?
    intro t
    rw [setMany_get _ _ _ _ (by rw [lineV_len h0, lineV_len hl.1]; omega), lineV_len hl.1]
    by_cases ht : t < 8
    · rw [if_pos (by omega)]; rfl
    · rw [if_neg (by omega), List.getElem?_eq_none (by rw [lineV_len h0]; omega), List.getElem?_eq_none (by rw [lineV_len hl.1]; omega)]
  have hs := flat_setMany (j := 0) (vs := lineV l) (by rw [lineV_len hl.1]; omega) (fun x hx => lineV_len (h.ok.lines x hx).1) i.toNat _ l (r_get hi) hset.symm
  rw [Nat.add_zero] at hs
  have other : ∀ x, x ≠ a → (AH.put H ⟨a, i.toNat * 8, none⟩ (lineV l)).get x = H.get x := fun x hx => by simp only [AH.put, upd_get]; rw [if_neg hx]
  refine ⟨⟨rfl, congrArg AObj.md h.ha, by rw [h.ha, lineV_len hl.1]; exact hle⟩, ⟨?_, ?_, ?_, ?_, h.lq, h.la, h.lb, h.aq, h.bq, h.ab, h.sq, h.sl, ⟨?_, h.ok.regs, h.ok.regU, by simpa using h.ok.len, by simpa using h.ok.n, h.ok.cuts⟩⟩, rfl, fun x _ hx _ => other x hx⟩
  · rw [other q (Ne.symm h.aq), h.hq]; simp [rObj]
  · simp only [AH.put, upd_get, if_true, h.ha, rL, hs]
  · rw [other b (Ne.symm h.ab), h.hb]; rfl
  · refine ⟨h.hs.1, fun j x hx => ?_⟩
    obtain ⟨y, h1, h2, h3, h4⟩ := h.hs.2 j x hx
    refine ⟨y, h1, h2, h3, ?_⟩
    simp only [AH.row?] at h4 ⊢
    rw [other _ (h.sq y h1).2.1]
    exact h4
  · intro x hx
    rcases List.mem_or_eq_of_mem_set hx with h' | rfl
    · exact h.ok.lines x h'
    · exact hl
theorem flat_iV (l : List Int) : l.flatMap iV = l.map i64V := by
  induction l with
  | nil => rfl
  | cons x l ih => simp only [List.flatMap_cons, ih, List.map_cons]; rfl
theorem RAt.cellW (h : RAt H q a b s w) (hi : w.has i) : AH.cell? H (Addr.add ⟨b, 0, none⟩ (i.toNat * 1)) = some (.int .i64 (w.W.getD i.toNat 0)) := by
  have hl : i.toNat < w.W.length := by have := h.ok.len; unfold RMem.has at hi; omega
  rw [addr_add, Nat.zero_add, Nat.mul_one]
  simp only [AH.cell?, h.hb, rW, flat_iV, Option.isSome_none, Bool.false_eq_true, if_false]
  rw [if_neg (by simp)]
  simp [hl, List.getD_eq_getElem?_getD, i64V]
theorem RAt.putW (h : RAt H q a b s w) (hi : w.has i) {v : Int} :
    AH.canPut H (Addr.add ⟨b, 0, none⟩ (i.toNat * 1)) 1 ∧ RAt (AH.put H (Addr.add ⟨b, 0, none⟩ (i.toNat * 1)) [.int .i64 v]) q a b s { w with W := w.W.set i.toNat v } ∧ Frr H (AH.put H (Addr.add ⟨b, 0, none⟩ (i.toNat * 1)) [.int .i64 v]) q a b := by
  have hl : i.toNat < w.W.length := by have := h.ok.len; unfold RMem.has at hi; omega
  rw [addr_add, Nat.zero_add, Nat.mul_one]
  have other : ∀ x, x ≠ b → (AH.put H ⟨b, i.toNat, none⟩ [.int .i64 v]).get x = H.get x := fun x hx => by simp only [AH.put, upd_get]; rw [if_neg hx]
  refine ⟨⟨rfl, congrArg AObj.md h.hb, by rw [h.hb]; simp only [rW, flat_iV, List.length_map]; omega⟩, ⟨?_, ?_, ?_, ?_, h.lq, h.la, h.lb, h.aq, h.bq, h.ab, h.sq, h.sl, ⟨h.ok.lines, h.ok.regs, h.ok.regU, by simpa using h.ok.len, h.ok.n, h.ok.cuts⟩⟩, rfl, fun x _ _ hx => other x hx⟩
  · rw [other q (Ne.symm h.bq), h.hq]; simp [rObj]
  · rw [other a h.ab, h.ha]; rfl
  · simp only [AH.put, upd_get, if_true, h.hb, rW, flat_iV, setMany, AObj.mk.injEq, and_true]
    rw [List.map_set]; rfl
  · refine ⟨h.hs.1, fun j x hx => ?_⟩
    obtain ⟨y, h1, h2, h3, h4⟩ := h.hs.2 j x hx
    refine ⟨y, h1, h2, h3, ?_⟩
    simp only [AH.row?] at h4 ⊢
    rw [other _ (h.sq y h1).2.2]
    exact h4
theorem RAt.cellLim (h : RAt H q a b s w) {j : Nat} (hj : j < w.lim.length) : ∃ ad, s.a = some ad ∧ AH.cell? H (Addr.add ad (j * 1)) = some (.int .i64 (w.lim.getD j 0)) := by
  obtain ⟨bb, o, h1, _, h3⟩ := rows1 (g := fun v => Value.int .i64 v) h.hs hj
  exact ⟨_, h1, by rw [h3, List.getD_eq_getElem?_getD, List.getElem?_eq_getElem hj]; rfl⟩
end
end Go.Proofs.Ytomeldimnhapfaa
