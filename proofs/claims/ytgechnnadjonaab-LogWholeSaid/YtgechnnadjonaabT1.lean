import Derived.Test.YtgechnnadjonaabL7
set_option linter.all false
set_option linter.all false
namespace Go.Proofs.Ytgechnnadjonaab
open Go Go.Abs

/-! ## Lines that go round, in plain Lean -/

def gapN (n mv : Nat) : Nat := n - mv % (n + 1)
def baseN (n mv line : Nat) : Nat := (line + mv / (n + 1) % n) % n
def slotN (n mv line : Nat) : Nat := if gapN n mv ≤ baseN n mv line then baseN n mv line + 1 else baseN n mv line
def fromN (n mv : Nat) : Nat := if gapN n mv = 0 then n else gapN n mv - 1

section
variable {n mv line line' : Nat}

theorem gapN_le : gapN n mv ≤ n := by unfold gapN; omega
theorem baseN_lt (hn : 1 ≤ n) : baseN n mv line < n := Nat.mod_lt _ (by omega)
theorem slotN_le (hn : 1 ≤ n) : slotN n mv line ≤ n := by
  have := baseN_lt (mv := mv) (line := line) hn
  unfold slotN; split <;> omega
theorem slotN_gap (hn : 1 ≤ n) : slotN n mv line ≠ gapN n mv := by unfold slotN; split <;> omega
theorem baseN_inj (h : line < n) (h' : line' < n) (e : baseN n mv line = baseN n mv line') : line = line' := by
  unfold baseN at e
  generalize mv / (n + 1) % n = t at e
  have h1 : ∀ a, a < n → (a + t) % n = (a + t % n) % n := fun a _ => by rw [Nat.add_mod, Nat.add_mod a (t % n), Nat.mod_mod]
  rw [h1 _ h, h1 _ h'] at e
  have ht : t % n < n := Nat.mod_lt _ (by omega)
  generalize t % n = u at e ht
  have k : ∀ a, a < n → (a + u) % n = if a + u < n then a + u else a + u - n := by
    intro a ha
    split
    · exact Nat.mod_eq_of_lt (by assumption)
    · rw [Nat.mod_eq_sub_mod (by omega), Nat.mod_eq_of_lt (by omega)]
  rw [k _ h, k _ h'] at e
  split at e <;> split at e <;> omega
theorem slotN_inj (hl : line < n) (hl' : line' < n) (e : slotN n mv line = slotN n mv line') : line = line' := by
  refine baseN_inj (mv := mv) hl hl' ?_
  unfold slotN at e
  split at e <;> split at e <;> omega

/-- A move of the gap: the line that was at the one place is at the other one; all others are where they were. -/
theorem slotN_move (hn : 1 ≤ n) (hl : line < n) : slotN n (mv + 1) line = if slotN n mv line = fromN n mv then gapN n mv else slotN n mv line := by
  have hb := baseN_lt (mv := mv) (line := line) hn
  have hb' := baseN_lt (mv := mv + 1) (line := line) hn
  have hm := Nat.mod_lt mv (show n + 1 > 0 by omega)
  by_cases hlast : mv % (n + 1) = n
  · have g0 : gapN n mv = 0 := by unfold gapN; omega
    have hdiv : (mv + 1) / (n + 1) = mv / (n + 1) + 1 := by
      have h0 := Nat.div_add_mod mv (n + 1)
      have : mv + 1 = (n + 1) * (mv / (n + 1) + 1) := by rw [Nat.mul_add]; omega
      rw [this, Nat.mul_div_cancel_left _ (by omega)]
    have hmod : (mv + 1) % (n + 1) = 0 := by rw [Nat.add_mod, hlast]; by_cases h1 : n = 0 <;> simp
    have g1 : gapN n (mv + 1) = n := by unfold gapN; rw [hmod]; omega
    have hbb : baseN n (mv + 1) line = if baseN n mv line + 1 = n then 0 else baseN n mv line + 1 := by
      unfold baseN
      rw [hdiv]
      have e1 : (line + (mv / (n + 1) + 1) % n) % n = ((line + mv / (n + 1) % n) % n + 1) % n := by
        rw [Nat.add_mod_mod, Nat.add_mod_mod, Nat.mod_add_mod]; rfl
      rw [e1]
      have hlt := Nat.mod_lt (line + mv / (n + 1) % n) (show n > 0 by omega)
      generalize (line + mv / (n + 1) % n) % n = b at *
      split
      · rename_i h; rw [h, Nat.mod_self]
      · rw [Nat.mod_eq_of_lt (by omega)]
    unfold slotN fromN
    rw [g0, g1, hbb, if_pos rfl, if_pos (Nat.zero_le _)]
    by_cases h : baseN n mv line + 1 = n
    · rw [if_pos h, if_neg (show ¬ n ≤ 0 by omega)]
    · rw [if_neg h, if_neg (show ¬ n ≤ baseN n mv line + 1 by omega)]
  · have hdiv : (mv + 1) / (n + 1) = mv / (n + 1) := by
      have h0 := Nat.div_add_mod mv (n + 1)
      refine (Nat.div_eq_iff (by omega)).2 ?_
      rw [Nat.mul_comm] at h0
      constructor <;> omega
    have hmod : (mv + 1) % (n + 1) = mv % (n + 1) + 1 := by
      have h0 := Nat.div_add_mod mv (n + 1)
      have h1 := Nat.div_add_mod (mv + 1) (n + 1)
      rw [hdiv] at h1
      omega
    have hbb : baseN n (mv + 1) line = baseN n mv line := by unfold baseN; rw [hdiv]
    have g1 : gapN n (mv + 1) = gapN n mv - 1 := by unfold gapN; rw [hmod]; omega
    have g0 : gapN n mv ≠ 0 := by unfold gapN; omega
    unfold slotN fromN
    rw [hbb, g1, if_neg g0]
    generalize baseN n mv line = b at *
    generalize gapN n mv = g at *
    by_cases h : g ≤ b
    · rw [if_pos h, if_pos (by omega), if_neg (by omega)]
    · rw [if_neg h]
      by_cases h2 : b = g - 1
      · rw [if_pos h2, if_pos (by omega)]; omega
      · rw [if_neg (by omega), if_neg h2]
theorem fromN_le : fromN n mv ≤ n := by have := gapN_le (n := n) (mv := mv); unfold fromN; split <;> omega
theorem fromN_gap (hn : 1 ≤ n) : fromN n mv ≠ gapN n mv := by unfold fromN; split <;> omega
end

/-! ### the memory's part -/

def Mem.mv (M : Mem) : Nat := (M.regs.getD 0 0).toNat
def Mem.tview (M : Mem) (n sp line : Nat) : List Int := M.view (n + 1) sp (slotN n M.mv line)

/-- The gap moves. -/
def tmove (n sp : Nat) (M : Mem) : Mem × Int :=
  let r := lput (n + 1) sp M (gapN n M.mv : Nat) (M.view (n + 1) sp (fromN n M.mv))
  if r.2 = 0 then r.1.set 0 ((M.mv : Int) + 1) else r

/-- A Put: the memory, the count of puts, the answer. -/
def tput (n sp period : Nat) (M : Mem) (puts : Nat) (line : Int) (d : List Int) : Mem × Nat × Int :=
  if 0 ≤ line ∧ line < n then
    if M.down then (M, puts, 2) else
    if puts + 1 = period then
      let r := tmove n sp M
      if r.2 = 0 then let q := lput (n + 1) sp r.1 (slotN n r.1.mv line.toNat : Nat) d; (q.1, 0, q.2) else (r.1, 0, r.2)
    else let q := lput (n + 1) sp M (slotN n M.mv line.toNat : Nat) d; (q.1, puts + 1, q.2)
  else (M, puts, 1)

def tget (n sp : Nat) (M : Mem) (line : Int) : List Int × Int :=
  if 0 ≤ line ∧ line < n then if M.down then (List.replicate 8 0, 2) else (M.tview n sp line.toNat, 0) else (List.replicate 8 0, 1)

/-- What the layers above may rely on, of a Put of a line (or of a move, for no line). -/
structure TPut (n sp : Nat) (M : Mem) (line : Option Nat) (d : List Int) (k may : Nat) (M' : Mem) (e : Int) : Prop where
  lv : ∃ k', k ≤ k' ∧ LV M' (n + 1) sp k' ∧ (e = 3 → k' = sp)
  other : ∀ s, s < n → line ≠ some s → M'.tview n sp s = M.tview n sp s
  mv : M.mv ≤ M'.mv ∧ M'.mv ≤ M.mv + may ∧ (e = 0 → M'.mv = M.mv + may)
  regs : ∀ r, (r = 1 ∨ r = 2 ∨ 19 ≤ r) → M'.regs.getD r 0 = M.regs.getD r 0
  mask : M'.mask = M.mask
  rlen : M'.regs.length = 35
  res : (e = 0 ∧ M'.down = false ∧ ∀ s, line = some s → M'.tview n sp s = d) ∨ (e = 3 ∧ M'.down = false ∧ ∀ s, line = some s → M'.tview n sp s = M.tview n sp s) ∨
    (e = 2 ∧ M'.down = true ∧ M.cut ≠ -1 ∧ ∀ s, line = some s → M'.tview n sp s = M.tview n sp s ∨ M'.tview n sp s = d ∨ M'.tview n sp s = mixL (M.tview n sp s) d M.mask)
  cut : M.cut = -1 → M'.cut = -1
  cutge : -1 ≤ M'.cut

section
variable {M M' : Mem} {n sp k : Nat} {d : List Int}

theorem mv_same (h : M'.regs.getD 0 0 = M.regs.getD 0 0) : M'.mv = M.mv := by unfold Mem.mv; rw [h]

/-- A move. -/
theorem tmove_any (h : LV M (n + 1) sp k) (hn : 1 ≤ n) (hr : M.regs.length = 35) (h0 : 0 ≤ M.regs.getD 0 0) (hd : M.down = false) (hc : -1 ≤ M.cut) (hlen : ∀ s, s < n + 1 → (M.view (n + 1) sp s).length = 8) :
    TPut n sp M none d k 1 (tmove n sp M).1 (tmove n sp M).2 := by
  have hg : gapN n M.mv < n + 1 := by have := gapN_le (n := n) (mv := M.mv); omega
  have hf : fromN n M.mv < n + 1 := by have := fromN_le (n := n) (mv := M.mv); omega
  have hP := lput_any (slot := gapN n M.mv) (d := M.view (n + 1) sp (fromN n M.mv)) h hr hd hc hg (hlen _ hf)
  unfold tmove
  simp only
  generalize lput (n + 1) sp M (gapN n M.mv : Nat) (M.view (n + 1) sp (fromN n M.mv)) = R at *
  obtain ⟨⟨k1, hk1, hlv1, he1⟩, p2, p3, p4, p5, p6, p7, p8⟩ := hP
  have hmv1 : R.1.mv = M.mv := mv_same (p3 0 (by omega))
  have hview : ∀ s, s < n → R.1.tview n sp s = M.tview n sp s := by
    intro s hs
    unfold Mem.tview
    rw [hmv1]
    exact p2 _ (by have := slotN_le (mv := M.mv) (line := s) hn; omega) (slotN_gap hn)
  by_cases he : R.2 = 0
  · rw [if_pos he]
    have hup : R.1.down = false ∧ R.1.view (n + 1) sp (gapN n M.mv) = M.view (n + 1) sp (fromN n M.mv) := by
      rcases p6 with ⟨_, a, b⟩ | ⟨a, _⟩ | ⟨a, _⟩
      · exact ⟨a, b⟩
      · omega
      · omega
    have hS := Mem.set_any (M := R.1) (i := 0) (v := (M.mv : Int) + 1) hup.1 (by omega) p8
    rw [show ((0 : Nat) : Int) = 0 from rfl] at hS
    generalize R.1.set 0 ((M.mv : Int) + 1) = Q at *
    have hcl : Q.1.cs.length = R.1.cs.length := by rw [hS.cs]
    have hwh : ∀ j, (Q.1.regs = R.1.regs ∨ Q.1.regs = R.1.regs.set 0 ((M.mv : Int) + 1)) → Q.1.whose j = R.1.whose j := by
      intro j hor
      unfold Mem.whose
      rcases hor with hor | hor
      · rw [hor]
      · rw [hor]; simp only [List.getD_eq_getElem?_getD]; rw [List.getElem?_set_ne (by omega)]
    have hvQ : ∀ s, (Q.1.regs = R.1.regs ∨ Q.1.regs = R.1.regs.set 0 ((M.mv : Int) + 1)) → Q.1.view (n + 1) sp s = R.1.view (n + 1) sp s := by
      intro s hor
      unfold Mem.view
      rw [cl_of_cs hS.cs, place_congr (M' := Q.1) (M := R.1) fun j _ => by rw [hwh j hor]]
    have hlvQ : (Q.1.regs = R.1.regs ∨ Q.1.regs = R.1.regs.set 0 ((M.mv : Int) + 1)) → LV Q.1 (n + 1) sp k1 := fun hor =>
      ⟨by rw [hcl]; exact hlv1.len, hlv1.n1, hlv1.sp16, hlv1.kle, fun i hi => by rw [hwh i hor]; exact hlv1.used i hi, fun i hi hi' => by rw [hwh i hor]; exact hlv1.free i hi hi'⟩
    have hregs : ∀ r, (r = 1 ∨ r = 2 ∨ 19 ≤ r) → (Q.1.regs = R.1.regs ∨ Q.1.regs = R.1.regs.set 0 ((M.mv : Int) + 1)) → Q.1.regs.getD r 0 = M.regs.getD r 0 := by
      intro r hr' hor
      rw [← p3 r (by omega)]
      rcases hor with hor | hor
      · rw [hor]
      · rw [hor]; simp only [List.getD_eq_getElem?_getD]; rw [List.getElem?_set_ne (by omega)]
    have hrl : (Q.1.regs = R.1.regs ∨ Q.1.regs = R.1.regs.set 0 ((M.mv : Int) + 1)) → Q.1.regs.length = 35 := by
      rintro (hor | hor)
      · rw [hor]; exact p5
      · rw [hor]; simpa using p5
    have hmvold : Q.1.regs = R.1.regs → Q.1.mv = M.mv := fun hor => by rw [← hmv1]; exact mv_same (by rw [hor])
    have hmvnew : Q.1.regs = R.1.regs.set 0 ((M.mv : Int) + 1) → Q.1.mv = M.mv + 1 := by
      intro hor
      have : Q.1.regs.getD 0 0 = (M.mv : Int) + 1 := by rw [hor, List.getD_eq_getElem?_getD, List.getElem?_set_self (by omega)]; rfl
      show (Q.1.regs.getD 0 0).toNat = _
      rw [this]; omega
    have hold : Q.1.regs = R.1.regs → ∀ s, s < n → Q.1.tview n sp s = M.tview n sp s := by
      intro hor s hs
      rw [← hview s hs]
      unfold Mem.tview
      rw [hmvold hor, hmv1, hvQ _ (.inl hor)]
    have hnew : Q.1.regs = R.1.regs.set 0 ((M.mv : Int) + 1) → ∀ s, s < n → Q.1.tview n sp s = M.tview n sp s := by
      intro hor s hs
      unfold Mem.tview
      rw [hmvnew hor, slotN_move hn hs, hvQ _ (.inr hor)]
      by_cases hfr : slotN n M.mv s = fromN n M.mv
      · rw [if_pos hfr, hup.2, hfr]
      · rw [if_neg hfr]
        have := hview s hs
        unfold Mem.tview at this
        rw [hmv1] at this
        exact this
    rcases hS.res with ⟨e', hd', hq⟩ | ⟨e', hd', hcut, hq⟩
    · exact ⟨⟨k1, hk1, hlvQ (.inr hq), by omega⟩, fun s hs _ => hnew hq s hs, ⟨by rw [hmvnew hq]; omega, by rw [hmvnew hq]; omega, fun _ => hmvnew hq⟩, fun r hr' => hregs r hr' (.inr hq), hS.mask.trans p4, hrl (.inr hq), .inl ⟨e', hd', by simp⟩, fun hc => hS.cut (p7 hc), hS.cutge⟩
    · refine ⟨⟨k1, hk1, hlvQ hq, by omega⟩, fun s hs _ => ?_, ?_, fun r hr' => hregs r hr' hq, hS.mask.trans p4, hrl hq, .inr (.inr ⟨e', hd', fun hc => hcut (p7 hc), by simp⟩), fun hc => hS.cut (p7 hc), hS.cutge⟩
      · rcases hq with hq | hq
        · exact hold hq s hs
        · exact hnew hq s hs
      · rcases hq with hq | hq
        · rw [hmvold hq]; exact ⟨by omega, by omega, by omega⟩
        · rw [hmvnew hq]; exact ⟨by omega, by omega, by omega⟩
  · rw [if_neg he]
    refine ⟨⟨k1, hk1, hlv1, he1⟩, fun s hs _ => hview s hs, ⟨by omega, by omega, fun h => absurd h he⟩, fun r hr' => p3 r (by omega), p4, p5, ?_, p7, p8⟩
    rcases p6 with ⟨a, _⟩ | ⟨a, b, _⟩ | ⟨a, b, c, _⟩
    · exact absurd a he
    · exact .inr (.inl ⟨a, b, by simp⟩)
    · exact .inr (.inr ⟨a, b, c, by simp⟩)

/-- A line put where it is. -/
theorem tline_any {line : Nat} (h : LV M (n + 1) sp k) (hn : 1 ≤ n) (hr : M.regs.length = 35) (hd : M.down = false) (hc : -1 ≤ M.cut) (hl : line < n) (hlen : d.length = 8) :
    TPut n sp M (some line) d k 0 (lput (n + 1) sp M (slotN n M.mv line : Nat) d).1 (lput (n + 1) sp M (slotN n M.mv line : Nat) d).2 := by
  have hs : slotN n M.mv line < n + 1 := by have := slotN_le (mv := M.mv) (line := line) hn; omega
  have hP := lput_any (slot := slotN n M.mv line) (d := d) h hr hd hc hs hlen
  generalize lput (n + 1) sp M (slotN n M.mv line : Nat) d = R at *
  obtain ⟨⟨k1, hk1, hlv1, he1⟩, p2, p3, p4, p5, p6, p7, p8⟩ := hP
  have hmv1 : R.1.mv = M.mv := mv_same (p3 0 (by omega))
  refine ⟨⟨k1, hk1, hlv1, he1⟩, fun s hs' hne => ?_, ⟨by omega, by omega, fun _ => by omega⟩, fun r hr' => p3 r (by omega), p4, p5, ?_, p7, p8⟩
  · unfold Mem.tview
    rw [hmv1]
    exact p2 _ (by have := slotN_le (mv := M.mv) (line := s) hn; omega) fun e => hne (by rw [slotN_inj hl hs' e.symm])
  · have hv : ∀ s, some line = some s → R.1.tview n sp s = R.1.view (n + 1) sp (slotN n M.mv line) ∧ M.tview n sp s = M.view (n + 1) sp (slotN n M.mv line) := by
      intro s hs'
      injection hs' with hs'
      subst hs'
      unfold Mem.tview
      rw [hmv1]
      exact ⟨rfl, rfl⟩
    rcases p6 with ⟨a, b, c⟩ | ⟨a, b, c⟩ | ⟨a, b, b', c⟩
    · exact .inl ⟨a, b, fun s hs' => by rw [(hv s hs').1, c]⟩
    · exact .inr (.inl ⟨a, b, fun s hs' => by rw [(hv s hs').1, (hv s hs').2, c]⟩)
    · exact .inr (.inr ⟨a, b, b', fun s hs' => by rw [(hv s hs').1, (hv s hs').2]; exact c⟩)

theorem lv_line_len (h : LV M (n + 1) sp k) (hok : M.ok) {s : Nat} (hs : s < n + 1) : isLine (M.view (n + 1) sp s) := by
  have hp := place_lt (M := M) (n := n + 1) (sp := sp) hs
  have hlen := h.len
  have : M.cl (M.place (n + 1) s sp) ∈ M.cs := by
    unfold Mem.cl
    rw [List.getD_eq_getElem?_getD, List.getElem?_eq_getElem (by omega)]
    exact List.getElem_mem _
  exact hok.lines _ this
theorem reg0_nonneg (hok : M.ok) : 0 ≤ M.regs.getD 0 0 := by
  have := hok.regs
  rw [List.getD_eq_getElem?_getD, List.getElem?_eq_getElem (by omega)]
  exact (hok.regU _ (List.getElem_mem _)).1

theorem tmove_ok (h : LV M (n + 1) sp k) (hok : M.ok) (hmv : M.mv ≤ 4611686018427387904) : (tmove n sp M).1.ok := by
  have hl := h.len
  have hok2 := hok.len
  have hf : fromN n M.mv < n + 1 := by have := fromN_le (n := n) (mv := M.mv); omega
  have h1 := lput_ok (n := n + 1) (sp := sp) (slot := ((gapN n M.mv : Nat) : Int)) (lv_line_len h hok hf) (by omega) hok
  unfold tmove
  simp only
  split
  · exact Mem.set_ok h1 (by unfold isU; omega)
  · exact h1
theorem tmove_len : (tmove n sp M).1.cs.length = M.cs.length := by
  unfold tmove
  simp only
  split
  · rw [Mem.set_len, lput_len]
  · rw [lput_len]

/-- A PUT OF A LINE. -/
theorem tput_any {line period puts : Nat} (h : LV M (n + 1) sp k) (hn : 1 ≤ n) (hok : M.ok) (hmv : M.mv ≤ 4611686018427387904) (hd : M.down = false) (hl : line < n) (hlen : d.length = 8) :
    TPut n sp M (some line) d k (if puts + 1 = period then 1 else 0) (tput n sp period M puts line d).1 (tput n sp period M puts line d).2.2 ∧
    (tput n sp period M puts line d).2.1 = (if puts + 1 = period then 0 else puts + 1) := by
  unfold tput
  rw [if_pos (show 0 ≤ (line : Int) ∧ (line : Int) < (n : Int) from ⟨by omega, by omega⟩), if_neg (show ¬ M.down = true by simp [hd]), Int.toNat_natCast]
  by_cases hp : puts + 1 = period
  · rw [if_pos hp, if_pos hp, if_pos hp]
    have h1 := tmove_any (d := d) h hn hok.regs (reg0_nonneg hok) hd hok.cut.1 (fun s hs => (lv_line_len h hok hs).1)
    have hok1 := tmove_ok h hok hmv
    simp only
    generalize tmove n sp M = R at *
    obtain ⟨⟨k1, hk1, hlv1, he1⟩, p2, p3, p4, p5, p6, p7, p8, p9⟩ := h1
    by_cases he : R.2 = 0
    · rw [if_pos he]
      have hup : R.1.down = false := by
        rcases p7 with ⟨_, a, _⟩ | ⟨a, _⟩ | ⟨a, _⟩
        · exact a
        · omega
        · omega
      have h2 := tline_any (line := line) (d := d) hlv1 hn p6 hup p9 hl hlen
      simp only
      generalize lput (n + 1) sp R.1 (slotN n R.1.mv line : Nat) d = Q at *
      obtain ⟨⟨k2, hk2, hlv2, he2⟩, q2, q3, q4, q5, q6, q7, q8, q9⟩ := h2
      have hvl := p2 line hl (by simp)
      refine ⟨⟨⟨k2, by omega, hlv2, he2⟩, fun s hs hne => (q2 s hs hne).trans (p2 s hs (by simp)), ⟨by omega, by omega, fun _ => by have := p3.2.2 he; omega⟩, fun r hr => (q4 r hr).trans (p4 r hr), q5.trans p5, q6, ?_, fun hc => q8 (p8 hc), q9⟩, trivial⟩
      rcases q7 with ⟨a, b, c⟩ | ⟨a, b, c⟩ | ⟨a, b, b', c⟩
      · exact .inl ⟨a, b, c⟩
      · refine .inr (.inl ⟨a, b, fun s hs => ?_⟩)
        rw [c s hs]; injection hs with hs; subst hs; exact hvl
      · refine .inr (.inr ⟨a, b, fun hc => b' (p8 hc), fun s hs => ?_⟩)
        have := c s hs
        injection hs with hs; subst hs
        rw [hvl, p5] at this
        exact this
    · rw [if_neg he]
      have hvl := p2 line hl (by simp)
      refine ⟨⟨⟨k1, hk1, hlv1, he1⟩, fun s hs _ => p2 s hs (by simp), p3, p4, p5, p6, ?_, p8, p9⟩, rfl⟩
      rcases p7 with ⟨a, _⟩ | ⟨a, b, _⟩ | ⟨a, b, b', _⟩
      · exact absurd a he
      · refine .inr (.inl ⟨a, b, fun s hs => ?_⟩)
        injection hs with hs; subst hs; exact hvl
      · refine .inr (.inr ⟨a, b, b', fun s hs => ?_⟩)
        injection hs with hs; subst hs; exact .inl hvl
  · rw [if_neg hp, if_neg hp, if_neg hp]
    exact ⟨tline_any (line := line) (d := d) h hn hok.regs hd hok.cut.1 hl hlen, rfl⟩
end
end Go.Proofs.Ytgechnnadjonaab
