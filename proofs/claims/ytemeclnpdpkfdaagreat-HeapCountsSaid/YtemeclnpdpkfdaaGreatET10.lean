/- Lemmas for the law: an abstract machine, and what the functions do on it. No condition. -/
import Derived.Test.YtemeclnpdpkfdaaGreatET9
set_option linter.all false
open Go.IntKind renaming wrap → qkM
open Go.Addr renaming add → qkN
open List renaming getElem?_eq_getElem → qkO, getD_eq_getElem?_getD → qkP, replicate → qkR, getElem_mem → qk1, getElem?_set_ne → qlg, take_of_length_le → qlL
open Int renaming toNat_natCast → qkQ, eq_ofNat_of_zero_le → qk9
open Nat renaming le_refl → qkV
open Bool renaming false_eq_true → qkX
open Option renaming isSome_none → qk4, isNone_some → qla
set_option linter.all false
namespace Go.Proofs.YtemeclnpdpkfdaaGreat
open Go Go.Abs
def gapN (n mv : Nat) : Nat := n - mv % (n + 1)
def baseN (n mv line : Nat) : Nat := (line + mv / (n + 1) % n) % n
def slotN (n mv line : Nat) : Nat := if gapN n mv ≤ baseN n mv line then baseN n mv line + 1 else baseN n mv line
def fromN (n mv : Nat) : Nat := if gapN n mv = 0 then n else gapN n mv - 1
section
variable {n mv line line' : Nat}
theorem gapN_le : gapN n mv ≤ n := by unfold gapN; omega
theorem qeI (hn : 1 ≤ n) : baseN n mv line < n := Nat.mod_lt _ (by omega)
theorem qdy (hn : 1 ≤ n) : slotN n mv line ≤ n := by
 have := qeI (mv := mv) (line := line) hn
 unfold slotN; split <;> omega
theorem qjm (hn : 1 ≤ n) : slotN n mv line ≠ gapN n mv := by unfold slotN; split <;> omega
theorem qjV (h : line < n) (h' : line' < n) (e : baseN n mv line = baseN n mv line') : line = line' := by
 unfold baseN at e
 generalize mv / (n + 1) % n = t at e
 have h1 : ∀ a, a < n → (a + t) % n = (a + t % n) % n := fun a _ => by rw [Nat.add_mod, Nat.add_mod a (t % n), Nat.mod_mod]
 rw [h1 _ h, h1 _ h'] at e
 have ht : t % n < n := Nat.mod_lt _ (by omega)
 generalize t % n = u at e ht
 have k : ∀ a, a < n → (a + u) % n = if a + u < n then a + u else a + u - n := by
  intro a ha
  split
  ·exact Nat.mod_eq_of_lt (by assumption)
  ·rw [Nat.mod_eq_sub_mod (by omega), Nat.mod_eq_of_lt (by omega)]
 rw [k _ h, k _ h'] at e
 split at e <;> split at e <;> omega
theorem qjP (hl : line < n) (hl' : line' < n) (e : slotN n mv line = slotN n mv line') : line = line' := by
 refine qjV (mv := mv) hl hl' ?_
 unfold slotN at e
 split at e <;> split at e <;> omega
theorem qiQ (hn : 1 ≤ n) (hl : line < n) : slotN n (mv + 1) line = if slotN n mv line = fromN n mv then gapN n mv else slotN n mv line := by
 have hb := qeI (mv := mv) (line := line) hn
 have hb' := qeI (mv := mv + 1) (line := line) hn
 have hm := Nat.mod_lt mv (show n + 1 > 0 by omega)
 by_cases hlast : mv % (n + 1) = n
 ·have g0 : gapN n mv = 0 := by unfold gapN; omega
  have hdiv : (mv + 1) / (n + 1) = mv / (n + 1) + 1 := by
   have h0 := Nat.div_add_mod mv (n + 1)
   have : mv + 1 = (n + 1) * (mv / (n + 1) + 1) := by rw [Nat.mul_add]; omega
   rw [this, Nat.mul_div_cancel_left _ (by omega)]
  have hmod : (mv + 1) % (n + 1) = 0 := by rw [Nat.add_mod, hlast]; by_cases h1 : n = 0 <;> simp
  have g1 : gapN n (mv + 1) = n := by unfold gapN; rw [hmod]; omega
  have hbb : baseN n (mv + 1) line = if baseN n mv line + 1 = n then 0 else baseN n mv line + 1 := by
   unfold baseN
   rw [hdiv]
   have e1 : (line + (mv / (n + 1) + 1) % n) % n = ((line + mv / (n + 1) % n) % n + 1) % n := by
    rw [Nat.add_mod_mod, Nat.add_mod_mod, Nat.mod_add_mod]; rfl
   rw [e1]
   have hlt := Nat.mod_lt (line + mv / (n + 1) % n) (show n > 0 by omega)
   generalize (line + mv / (n + 1) % n) % n = b at *
   split
   ·rename_i h; rw [h, Nat.mod_self]
   ·rw [Nat.mod_eq_of_lt (by omega)]
  unfold slotN fromN
  rw [g0, g1, hbb, if_pos rfl, if_pos (Nat.zero_le _)]
  by_cases h : baseN n mv line + 1 = n
  ·rw [if_pos h, if_neg (show ¬ n ≤ 0 by omega)]
  ·rw [if_neg h, if_neg (show ¬ n ≤ baseN n mv line + 1 by omega)]
 ·have hdiv : (mv + 1) / (n + 1) = mv / (n + 1) := by
   have h0 := Nat.div_add_mod mv (n + 1)
   refine (Nat.div_eq_iff (by omega)).2 ?_
   rw [Nat.mul_comm] at h0
   constructor <;> omega
  have hmod : (mv + 1) % (n + 1) = mv % (n + 1) + 1 := by
   have h0 := Nat.div_add_mod mv (n + 1)
   have h1 := Nat.div_add_mod (mv + 1) (n + 1)
   rw [hdiv] at h1
   omega
  have hbb : baseN n (mv + 1) line = baseN n mv line := by unfold baseN; rw [hdiv]
  have g1 : gapN n (mv + 1) = gapN n mv - 1 := by unfold gapN; rw [hmod]; omega
  have g0 : gapN n mv ≠ 0 := by unfold gapN; omega
  unfold slotN fromN
  rw [hbb, g1, if_neg g0]
  generalize baseN n mv line = b at *
  generalize gapN n mv = g at *
  by_cases h : g ≤ b
  ·rw [if_pos h, if_pos (by omega), if_neg (by omega)]
  ·rw [if_neg h]
   by_cases h2 : b = g - 1
   ·rw [if_pos h2, if_pos (by omega)]; omega
   ·rw [if_neg (by omega), if_neg h2]
theorem qfU : fromN n mv ≤ n := by have := gapN_le (n := n) (mv := mv); unfold fromN; split <;> omega
end
def Mem.mv (M : Mem) : Nat := (M.regs.getD 0 0).toNat
def Mem.tview (M : Mem) (n sp line : Nat) : List Int := M.view (n + 1) sp (slotN n M.mv line)
def tmove (n sp : Nat) (M : Mem) : Mem × Int :=
 let r := lput (n + 1) sp M (gapN n M.mv : Nat) (M.view (n + 1) sp (fromN n M.mv))
 if r.2 = 0 then r.1.set 0 ((M.mv : Int) + 1) else r
def tput (n sp period : Nat) (M : Mem) (puts : Nat) (line : Int) (d : List Int) : Mem × Nat × Int :=
 if 0 ≤ line ∧ line < n then
  if M.down then (M, puts, 2) else
  if puts + 1 = period then
   let r := tmove n sp M
   if r.2 = 0 then let q := lput (n + 1) sp r.1 (slotN n r.1.mv line.toNat : Nat) d; (q.1, 0, q.2) else (r.1, 0, r.2)
  else let q := lput (n + 1) sp M (slotN n M.mv line.toNat : Nat) d; (q.1, puts + 1, q.2)
 else (M, puts, 1)
def tget (n sp : Nat) (M : Mem) (line : Int) : List Int × Int :=
 if 0 ≤ line ∧ line < n then if M.down then (qkR 8 0, 2) else (M.tview n sp line.toNat, 0) else (qkR 8 0, 1)
structure TPut (n sp : Nat) (M : Mem) (line : Option Nat) (d : List Int) (k may : Nat) (M' : Mem) (e : Int) : Prop where
 lv : ∃ k', k ≤ k' ∧ LV M' (n + 1) sp k' ∧ (e = 3 → k' = sp)
 other : ∀ s, s < n → line ≠ some s → M'.tview n sp s = M.tview n sp s
 mv : M.mv ≤ M'.mv ∧ M'.mv ≤ M.mv + may ∧ (e = 0 → M'.mv = M.mv + may)
 regs : ∀ r, (r = 1 ∨ r = 2 ∨ 19 ≤ r) → M'.regs.getD r 0 = M.regs.getD r 0
 mask : M'.mask = M.mask
 rlen : M'.regs.length = 35
 res : (e = 0 ∧ M'.down = false ∧ ∀ s, line = some s → M'.tview n sp s = d) ∨ (e = 3 ∧ M'.down = false ∧ ∀ s, line = some s → M'.tview n sp s = M.tview n sp s) ∨
  (e = 2 ∧ M'.down = true ∧ M.cut ≠ -1 ∧ ∀ s, line = some s → M'.tview n sp s = M.tview n sp s ∨ M'.tview n sp s = d ∨ M'.tview n sp s = mixL (M.tview n sp s) d M.mask)
 cut : M.cut = -1 → M'.cut = -1
 cutge : -1 ≤ M'.cut
section
variable {M M' : Mem} {n sp k : Nat} {d : List Int}
theorem mv_same (h : M'.regs.getD 0 0 = M.regs.getD 0 0) : M'.mv = M.mv := by unfold Mem.mv; rw [h]
theorem qgB (h : LV M (n + 1) sp k) (hn : 1 ≤ n) (hr : M.regs.length = 35) (h0 : 0 ≤ M.regs.getD 0 0) (hd : M.down = false) (hc : -1 ≤ M.cut) (hlen : ∀ s, s < n + 1 → (M.view (n + 1) sp s).length = 8) :
  TPut n sp M none d k 1 (tmove n sp M).1 (tmove n sp M).2 := by
 have hg : gapN n M.mv < n + 1 := by have := gapN_le (n := n) (mv := M.mv); omega
 have hf : fromN n M.mv < n + 1 := by have := qfU (n := n) (mv := M.mv); omega
 have hP := qhZ (slot := gapN n M.mv) (d := M.view (n + 1) sp (fromN n M.mv)) h hr hd hc hg (hlen _ hf)
 unfold tmove
 simp only
 generalize lput (n + 1) sp M (gapN n M.mv : Nat) (M.view (n + 1) sp (fromN n M.mv)) = R at *
 obtain ⟨⟨k1, hk1, hlv1, he1⟩, p2, p3, p4, p5, p6, p7, p8⟩ := hP
 have hmv1 : R.1.mv = M.mv := mv_same (p3 0 (by omega))
 have hview : ∀ s, s < n → R.1.tview n sp s = M.tview n sp s := by
  intro s hs
  unfold Mem.tview
  rw [hmv1]
  exact p2 _ (by have := qdy (mv := M.mv) (line := s) hn; omega) (qjm hn)
 by_cases he : R.2 = 0
 ·rw [if_pos he]
  have hup : R.1.down = false ∧ R.1.view (n + 1) sp (gapN n M.mv) = M.view (n + 1) sp (fromN n M.mv) := by
   rcases p6 with ⟨_, a, b⟩ | ⟨a, _⟩ | ⟨a, _⟩
   ·exact ⟨a, b⟩
   ·omega
   ·omega
  have hS := Mem.set_any (M := R.1) (i := 0) (v := (M.mv : Int) + 1) hup.1 (by omega) p8
  rw [show ((0 : Nat) : Int) = 0 from rfl] at hS
  generalize R.1.set 0 ((M.mv : Int) + 1) = Q at *
  have hcl : Q.1.cs.length = R.1.cs.length := by rw [hS.cs]
  have hwh : ∀ j, (Q.1.regs = R.1.regs ∨ Q.1.regs = R.1.regs.set 0 ((M.mv : Int) + 1)) → Q.1.whose j = R.1.whose j := by
   intro j hor
   unfold Mem.whose
   rcases hor with hor | hor
   ·rw [hor]
   ·rw [hor]; simp only [qkP]; rw [qlg (by omega)]
  have hvQ : ∀ s, (Q.1.regs = R.1.regs ∨ Q.1.regs = R.1.regs.set 0 ((M.mv : Int) + 1)) → Q.1.view (n + 1) sp s = R.1.view (n + 1) sp s := by
   intro s hor
   unfold Mem.view
   rw [qdD hS.cs, qcT (M' := Q.1) (M := R.1) fun j _ => by rw [hwh j hor]]
  have hlvQ : (Q.1.regs = R.1.regs ∨ Q.1.regs = R.1.regs.set 0 ((M.mv : Int) + 1)) → LV Q.1 (n + 1) sp k1 := fun hor =>
   ⟨by rw [hcl]; exact hlv1.len, hlv1.n1, hlv1.sp16, hlv1.kle, fun i hi => by rw [hwh i hor]; exact hlv1.used i hi, fun i hi hi' => by rw [hwh i hor]; exact hlv1.free i hi hi'⟩
  have hregs : ∀ r, (r = 1 ∨ r = 2 ∨ 19 ≤ r) → (Q.1.regs = R.1.regs ∨ Q.1.regs = R.1.regs.set 0 ((M.mv : Int) + 1)) → Q.1.regs.getD r 0 = M.regs.getD r 0 := by
   intro r hr' hor
   rw [← p3 r (by omega)]
   rcases hor with hor | hor
   ·rw [hor]
   ·rw [hor]; simp only [qkP]; rw [qlg (by omega)]
  have hrl : (Q.1.regs = R.1.regs ∨ Q.1.regs = R.1.regs.set 0 ((M.mv : Int) + 1)) → Q.1.regs.length = 35 := by
   rintro (hor | hor)
   ·rw [hor]; exact p5
   ·rw [hor]; simpa using p5
  have hmvold : Q.1.regs = R.1.regs → Q.1.mv = M.mv := fun hor => by rw [← hmv1]; exact mv_same (by rw [hor])
  have hmvnew : Q.1.regs = R.1.regs.set 0 ((M.mv : Int) + 1) → Q.1.mv = M.mv + 1 := by
   intro hor
   have : Q.1.regs.getD 0 0 = (M.mv : Int) + 1 := by rw [hor, qkP, List.getElem?_set_self (by omega)]; rfl
   show (Q.1.regs.getD 0 0).toNat = _
   rw [this]; omega
  have hold : Q.1.regs = R.1.regs → ∀ s, s < n → Q.1.tview n sp s = M.tview n sp s := by
   intro hor s hs
   rw [← hview s hs]
   unfold Mem.tview
   rw [hmvold hor, hmv1, hvQ _ (.inl hor)]
  have hnew : Q.1.regs = R.1.regs.set 0 ((M.mv : Int) + 1) → ∀ s, s < n → Q.1.tview n sp s = M.tview n sp s := by
   intro hor s hs
   unfold Mem.tview
   rw [hmvnew hor, qiQ hn hs, hvQ _ (.inr hor)]
   by_cases hfr : slotN n M.mv s = fromN n M.mv
   ·rw [if_pos hfr, hup.2, hfr]
   ·rw [if_neg hfr]
    have := hview s hs
    unfold Mem.tview at this
    rw [hmv1] at this
    exact this
  rcases hS.res with ⟨e', hd', hq⟩ | ⟨e', hd', hcut, hq⟩
  ·exact ⟨⟨k1, hk1, hlvQ (.inr hq), by omega⟩, fun s hs _ => hnew hq s hs, ⟨by rw [hmvnew hq]; omega, by rw [hmvnew hq]; omega, fun _ => hmvnew hq⟩, fun r hr' => hregs r hr' (.inr hq), hS.mask.trans p4, hrl (.inr hq), .inl ⟨e', hd', by simp⟩, fun hc => hS.cut (p7 hc), hS.cutge⟩
  ·refine ⟨⟨k1, hk1, hlvQ hq, by omega⟩, fun s hs _ => ?_, ?_, fun r hr' => hregs r hr' hq, hS.mask.trans p4, hrl hq, .inr (.inr ⟨e', hd', fun hc => hcut (p7 hc), by simp⟩), fun hc => hS.cut (p7 hc), hS.cutge⟩
   ·rcases hq with hq | hq
    ·exact hold hq s hs
    ·exact hnew hq s hs
   ·rcases hq with hq | hq
    ·rw [hmvold hq]; exact ⟨by omega, by omega, by omega⟩
    ·rw [hmvnew hq]; exact ⟨by omega, by omega, by omega⟩
 ·rw [if_neg he]
  refine ⟨⟨k1, hk1, hlv1, he1⟩, fun s hs _ => hview s hs, ⟨by omega, by omega, fun h => absurd h he⟩, fun r hr' => p3 r (by omega), p4, p5, ?_, p7, p8⟩
  rcases p6 with ⟨a, _⟩ | ⟨a, b, _⟩ | ⟨a, b, c, _⟩
  ·exact absurd a he
  ·exact .inr (.inl ⟨a, b, by simp⟩)
  ·exact .inr (.inr ⟨a, b, c, by simp⟩)
theorem qgy {line : Nat} (h : LV M (n + 1) sp k) (hn : 1 ≤ n) (hr : M.regs.length = 35) (hd : M.down = false) (hc : -1 ≤ M.cut) (hl : line < n) (hlen : d.length = 8) :
  TPut n sp M (some line) d k 0 (lput (n + 1) sp M (slotN n M.mv line : Nat) d).1 (lput (n + 1) sp M (slotN n M.mv line : Nat) d).2 := by
 have hs : slotN n M.mv line < n + 1 := by have := qdy (mv := M.mv) (line := line) hn; omega
 have hP := qhZ (slot := slotN n M.mv line) (d := d) h hr hd hc hs hlen
 generalize lput (n + 1) sp M (slotN n M.mv line : Nat) d = R at *
 obtain ⟨⟨k1, hk1, hlv1, he1⟩, p2, p3, p4, p5, p6, p7, p8⟩ := hP
 have hmv1 : R.1.mv = M.mv := mv_same (p3 0 (by omega))
 refine ⟨⟨k1, hk1, hlv1, he1⟩, fun s hs' hne => ?_, ⟨by omega, by omega, fun _ => by omega⟩, fun r hr' => p3 r (by omega), p4, p5, ?_, p7, p8⟩
 ·unfold Mem.tview
  rw [hmv1]
  exact p2 _ (by have := qdy (mv := M.mv) (line := s) hn; omega) fun e => hne (by rw [qjP hl hs' e.symm])
 ·have hv : ∀ s, some line = some s → R.1.tview n sp s = R.1.view (n + 1) sp (slotN n M.mv line) ∧ M.tview n sp s = M.view (n + 1) sp (slotN n M.mv line) := by
   intro s hs'
   injection hs' with hs'
   subst hs'
   unfold Mem.tview
   rw [hmv1]
   exact ⟨rfl, rfl⟩
  rcases p6 with ⟨a, b, c⟩ | ⟨a, b, c⟩ | ⟨a, b, b', c⟩
  ·exact .inl ⟨a, b, fun s hs' => by rw [(hv s hs').1, c]⟩
  ·exact .inr (.inl ⟨a, b, fun s hs' => by rw [(hv s hs').1, (hv s hs').2, c]⟩)
  ·exact .inr (.inr ⟨a, b, b', fun s hs' => by rw [(hv s hs').1, (hv s hs').2]; exact c⟩)
theorem qet (h : LV M (n + 1) sp k) (hok : M.ok) {s : Nat} (hs : s < n + 1) : isLine (M.view (n + 1) sp s) := by
 have hp := qeb (M := M) (n := n + 1) (sp := sp) hs
 have hlen := h.len
 have : M.cl (M.place (n + 1) s sp) ∈ M.cs := by
  unfold Mem.cl
  rw [qkP, qkO (by omega)]
  exact qk1 _
 exact hok.lines _ this
theorem qdL (hok : M.ok) : 0 ≤ M.regs.getD 0 0 := by
 have := hok.regs
 rw [qkP, qkO (by omega)]
 exact (hok.regU _ (qk1 _)).1
theorem qfT (h : LV M (n + 1) sp k) (hok : M.ok) (hmv : M.mv ≤ 4611686018427387904) : (tmove n sp M).1.ok := by
 have hl := h.len
 have hok2 := hok.len
 have hf : fromN n M.mv < n + 1 := by have := qfU (n := n) (mv := M.mv); omega
 have h1 := lput_ok (n := n + 1) (sp := sp) (slot := ((gapN n M.mv : Nat) : Int)) (qet h hok hf) (by omega) hok
 unfold tmove
 simp only
 split
 ·exact Mem.set_ok h1 (by unfold isU; omega)
 ·exact h1
theorem qeW : (tmove n sp M).1.cs.length = M.cs.length := by
 unfold tmove
 simp only
 split
 ·rw [Mem.set_len, qd4]
 ·rw [qd4]
theorem qd7 {line period puts : Nat} (h : LV M (n + 1) sp k) (hn : 1 ≤ n) (hok : M.ok) (hmv : M.mv ≤ 4611686018427387904) (hd : M.down = false) (hl : line < n) (hlen : d.length = 8) :
  TPut n sp M (some line) d k (if puts + 1 = period then 1 else 0) (tput n sp period M puts line d).1 (tput n sp period M puts line d).2.2 ∧
  (tput n sp period M puts line d).2.1 = (if puts + 1 = period then 0 else puts + 1) := by
 unfold tput
 rw [if_pos (show 0 ≤ (line : Int) ∧ (line : Int) < (n : Int) from ⟨by omega, by omega⟩), if_neg (show ¬ M.down = true by simp [hd]), qkQ]
 by_cases hp : puts + 1 = period
 ·rw [if_pos hp, if_pos hp, if_pos hp]
  have h1 := qgB (d := d) h hn hok.regs (qdL hok) hd hok.cut.1 (fun s hs => (qet h hok hs).1)
  have hok1 := qfT h hok hmv
  simp only
  generalize tmove n sp M = R at *
  obtain ⟨⟨k1, hk1, hlv1, he1⟩, p2, p3, p4, p5, p6, p7, p8, p9⟩ := h1
  by_cases he : R.2 = 0
  ·rw [if_pos he]
   have hup : R.1.down = false := by
    rcases p7 with ⟨_, a, _⟩ | ⟨a, _⟩ | ⟨a, _⟩
    ·exact a
    ·omega
    ·omega
   have h2 := qgy (line := line) (d := d) hlv1 hn p6 hup p9 hl hlen
   simp only
   generalize lput (n + 1) sp R.1 (slotN n R.1.mv line : Nat) d = Q at *
   obtain ⟨⟨k2, hk2, hlv2, he2⟩, q2, q3, q4, q5, q6, q7, q8, q9⟩ := h2
   have hvl := p2 line hl (by simp)
   refine ⟨⟨⟨k2, by omega, hlv2, he2⟩, fun s hs hne => (q2 s hs hne).trans (p2 s hs (by simp)), ⟨by omega, by omega, fun _ => by have := p3.2.2 he; omega⟩, fun r hr => (q4 r hr).trans (p4 r hr), q5.trans p5, q6, ?_, fun hc => q8 (p8 hc), q9⟩, trivial⟩
   rcases q7 with ⟨a, b, c⟩ | ⟨a, b, c⟩ | ⟨a, b, b', c⟩
   ·exact .inl ⟨a, b, c⟩
   ·refine .inr (.inl ⟨a, b, fun s hs => ?_⟩)
    rw [c s hs]; injection hs with hs; subst hs; exact hvl
   ·refine .inr (.inr ⟨a, b, fun hc => b' (p8 hc), fun s hs => ?_⟩)
    have := c s hs
    injection hs with hs; subst hs
    rw [hvl, p5] at this
    exact this
  ·rw [if_neg he]
   have hvl := p2 line hl (by simp)
   refine ⟨⟨⟨k1, hk1, hlv1, he1⟩, fun s hs _ => p2 s hs (by simp), p3, p4, p5, p6, ?_, p8, p9⟩, rfl⟩
   rcases p7 with ⟨a, _⟩ | ⟨a, b, _⟩ | ⟨a, b, b', _⟩
   ·exact absurd a he
   ·refine .inr (.inl ⟨a, b, fun s hs => ?_⟩)
    injection hs with hs; subst hs; exact hvl
   ·refine .inr (.inr ⟨a, b, b', fun s hs => ?_⟩)
    injection hs with hs; subst hs; exact .inl hvl
 ·rw [if_neg hp, if_neg hp, if_neg hp]
  exact ⟨qgy (line := line) (d := d) h hn hok.regs hd hok.cut.1 hl hlen, rfl⟩
end
section
variable {H : AH}
theorem qd3 (a b : Nat) : Int.tmod (a : Int) (b : Int) = ((a % b : Nat) : Int) := by
 rw [Int.tmod_eq_emod_of_nonneg (by omega)]; rfl
theorem qfM (a b : Nat) : Int.tdiv (a : Int) (b : Int) = ((a / b : Nat) : Int) := by
 rw [Int.tdiv_eq_ediv_of_nonneg (by omega)]; rfl
variable {n mv line : Nat}
theorem gap_may.s {k : Bool → AH → Prop} (hn : 1 ≤ n ∧ n ≤ 1000) (h : k true H) : gap_may n mv H k := by
 refine gap_may.link ?_
 unfold gap_may.b
 rw [show decide ((n : Int) ≥ 1) = true from by simp; omega, qj, show decide ((n : Int) ≤ 100000) = true from by simp; omega, qj, show decide ((mv : Int) ≥ 0) = true from by simp]
 exact h
theorem gap_Gap.s {k : Int → AH → Prop} (hn : 1 ≤ n ∧ n ≤ 1000) (h : k (gapN n mv : Nat) H) : gap_Gap n mv H k := by
 refine gap_Gap.link ?_
 unfold gap_Gap.b
 refine gap_may.s hn ?_
 rw [Bool.not_true, qc, qd (n := (n : Int) + 1) (by omega) (by omega)]
 refine ⟨by omega, ?_⟩
 have e : (n : Int) + 1 = ((n + 1 : Nat) : Int) := by omega
 have hm := Nat.mod_lt mv (show n + 1 > 0 by omega)
 rw [e, qd3]
 have e2 : qkM .i64 ((n : Int) - ((mv % (n + 1) : Nat) : Int)) = ((gapN n mv : Nat) : Int) := by
  unfold gapN
  generalize mv % (n + 1) = r at *
  rw [qd (by omega) (by omega)]; omega
 rw [e2]
 exact h
theorem qcl.s {k : Int → AH → Prop} (hn : 1 ≤ n ∧ n ≤ 1000) (hmv : mv ≤ 4611686018427387904) (h : k (mv / (n + 1) % n : Nat) H) : qcl n mv H k := by
 refine qcl.link ?_
 unfold qcl.b
 rw [qd (n := (n : Int) + 1) (by omega) (by omega)]
 refine ⟨by omega, by omega, ?_⟩
 have e : (n : Int) + 1 = ((n + 1 : Nat) : Int) := by omega
 have hd := Nat.div_le_self mv (n + 1)
 rw [e, qfM]
 generalize mv / (n + 1) = r at *
 rw [qd (n := (r : Int)) (by omega) (by omega), qd3]
 exact h
theorem qbO.s {k : Int → AH → Prop} (hn : 1 ≤ n ∧ n ≤ 1000) (hmv : mv ≤ 4611686018427387904) (hl : line < n) (h : k (slotN n mv line : Nat) H) : qbO n mv line H k := by
 refine qbO.link ?_
 unfold qbO.b qbO.j1
 refine gap_may.s hn ?_
 rw [Bool.not_true, qc, show decide ((line : Int) < 0) = false from by simp, qc, show decide ((line : Int) ≥ (n : Int)) = false from by simp; omega, qc]
 refine qcl.s hn hmv ?_
 refine ⟨by omega, ?_⟩
 refine gap_Gap.s hn ?_
 have hb : Int.tmod (qkM .i64 ((line : Int) + ((mv / (n + 1) % n : Nat) : Int))) (n : Int) = ((baseN n mv line : Nat) : Int) := by
  unfold baseN
  have ht := Nat.mod_lt (mv / (n + 1)) (show n > 0 by omega)
  generalize mv / (n + 1) % n = t at *
  rw [qd (by omega) (by omega)]
  have : (line : Int) + (t : Int) = ((line + t : Nat) : Int) := by omega
  rw [this, qd3]
 have hlt := qeI (mv := mv) (line := line) hn.1
 rw [hb]
 unfold slotN at h
 simp only [qg, decide_eq_true_eq]
 by_cases hc : gapN n mv ≤ baseN n mv line
 ·rw [if_pos hc] at h
  rw [if_pos (by omega), qd (by omega) (by omega)]
  exact_mod_cast h
 ·rw [if_neg hc] at h
  rw [if_neg (by omega)]
  exact h
theorem qcH.s {k : Int → Int → AH → Prop} (hn : 1 ≤ n ∧ n ≤ 1000) (h : k (fromN n mv : Nat) (gapN n mv : Nat) H) : qcH n mv H k := by
 refine qcH.link ?_
 unfold qcH.b
 refine gap_Gap.s hn ?_
 have hg := gapN_le (n := n) (mv := mv)
 unfold fromN at h
 simp only [qg, beq_iff_eq]
 rw [if_neg (by omega)]
 by_cases h0 : gapN n mv = 0
 ·rw [if_pos h0] at h
  rw [if_pos (by omega)]
  rw [h0] at h
  exact h
 ·rw [if_neg h0] at h
  rw [if_neg (by omega), qd (by omega) (by omega)]
  have : ((gapN n mv : Nat) : Int) - 1 = ((gapN n mv - 1 : Nat) : Int) := by omega
  rw [this]
  exact h
end
def tobj (p x n period puts : Nat) : AObj := ⟨[.pointer (some ⟨p, 0, none⟩), .pointer (some ⟨x, 0, none⟩), .int .i64 n, .int .i64 period, .int .i64 puts], .rw, 0⟩
structure TAt (H : AH) (t x p c n sp period puts : Nat) (M : Mem) : Prop where
 ht : H.get t = tobj p x n period puts
 lt : t < H.size
 tp : t ≠ p
 tc : t ≠ c
 tx : t ≠ x
 l : LAt H x p c (n + 1) sp M
 n1 : 1 ≤ n
 per : 1 ≤ period ∧ period ≤ 1000
 pl : puts < period
 mv : M.mv ≤ 4611686018427387904
structure Frt (H H' : AH) (t p c : Nat) : Prop where
 size : H.size ≤ H'.size
 get : ∀ b, b < H.size → b ≠ t → b ≠ p → b ≠ c → H'.get b = H.get b
theorem Frt.refl {H : AH} {t p c : Nat} : Frt H H t p c := ⟨qkV _, fun _ _ _ _ _ => rfl⟩
theorem Frt.trans {H H' H2 : AH} {t p c : Nat} (h : Frt H H' t p c) (h' : Frt H' H2 t p c) : Frt H H2 t p c :=
 ⟨Nat.le_trans h.size h'.size, fun b hb h1 h2 h3 => (h'.get b (by have := h.size; omega) h1 h2 h3).trans (h.get b hb h1 h2 h3)⟩
theorem Frt.of_keeps {H H' : AH} {t p c : Nat} (h : qa H H') : Frt H H' t p c := ⟨h.1, fun b hb _ _ _ => h.2 b hb⟩
theorem Frt.of_frm {H H' : AH} {t p c : Nat} (h : Frm H H' p c) : Frt H H' t p c := ⟨by rw [h.size]; exact qkV _, fun b _ _ h2 h3 => h.get b h2 h3⟩
section
variable {H H' : AH} {t x p c n sp period puts puts' : Nat} {M M' : Mem} {line : Int}
theorem TAt.cell (h : TAt H t x p c n sp period puts M) (i : Nat) : AH.cell? H (qkN ⟨t, 0, none⟩ i) = (tobj p x n period puts).cells[i]? := by
 rw [qk, Nat.zero_add]
 simp only [AH.cell?, h.ht, qk4, qkX, if_false]
 rw [if_neg (by simp [tobj])]
theorem TAt.c0 (h : TAt H t x p c n sp period puts M) : AH.cell? H (qkN ⟨t, 0, none⟩ 0) = some (.pointer (some ⟨p, 0, none⟩)) := h.cell 0
theorem TAt.c1 (h : TAt H t x p c n sp period puts M) : AH.cell? H (qkN ⟨t, 0, none⟩ 1) = some (.pointer (some ⟨x, 0, none⟩)) := h.cell 1
theorem TAt.c2 (h : TAt H t x p c n sp period puts M) : AH.cell? H (qkN ⟨t, 0, none⟩ 2) = some (.int .i64 n) := h.cell 2
theorem TAt.c4 (h : TAt H t x p c n sp period puts M) : AH.cell? H (qkN ⟨t, 0, none⟩ 4) = some (.int .i64 puts) := h.cell 4
theorem TAt.n200 (h : TAt H t x p c n sp period puts M) : n + 1 + sp ≤ 200 := h.l.n200
theorem TAt.keeps (h : TAt H t x p c n sp period puts M) (hk : qa H H') : TAt H' t x p c n sp period puts M :=
 ⟨by rw [hk.2 t h.lt, h.ht], by have := hk.1; have := h.lt; omega, h.tp, h.tc, h.tx, h.l.keeps hk, h.n1, h.per, h.pl, h.mv⟩
theorem TAt.push (h : TAt H t x p c n sp period puts M) (o : AObj) : TAt (H.push o) t x p c n sp period puts M := h.keeps ((qa.refl H).push o)
theorem TAt.mem (h : TAt H t x p c n sp period puts M) (hl : LAt H' x p c (n + 1) sp M') (f : Frm H H' p c) (hmv : M'.mv ≤ 4611686018427387904) : TAt H' t x p c n sp period puts M' :=
 ⟨by rw [f.get t h.tp h.tc, h.ht], by rw [f.size]; exact h.lt, h.tp, h.tc, h.tx, hl, h.n1, h.per, h.pl, hmv⟩
def setT (H : AH) (t x p c n period puts : Nat) (M : Mem) : AH := (setM H p c M).upd t (tobj p x n period puts)
theorem TAt.at (h : TAt H t x p c n sp period puts M) (h' : TAt H' t x p c n sp period puts' M') (f : Frt H H' t p c) : At H H' (setT H t x p c n period puts' M') := by
 have hlt := h.lt
 have hlx := h.l.lx
 have hlp := h.l.m.lp
 have hlc := h.l.m.lc
 have hget : ∀ b, (setT H t x p c n period puts' M').get b = if b = t then tobj p x n period puts' else if b = p then memObj c M' else if b = c then celObj M' else H.get b := fun _ => rfl
 have hmem := qE.at (M' := M') (H' := setM H p c M') h.l.m (fun _ _ => rfl)
 refine ⟨rfl, fun b hb => ?_, fun b hb => ?_, fun b hb => ?_⟩
 ·rw [hget]
  split
  ·rename_i e; rw [e, h'.ht]
  ·split
   ·rename_i e; rw [e, h'.l.m.hp]
   ·split
    ·rename_i e; rw [e, h'.l.m.hc]
    ·exact f.get b hb ‹_› ‹_› ‹_›
 ·rw [hget, if_neg (by omega), if_neg (by omega), if_neg (by omega)]
 ·by_cases hbt : b = t
  ·right
   rw [hget, if_pos hbt]
   simp [tobj, lowV, hlp, hlx, flatC]
  ·have e : (setT H t x p c n period puts' M').get b = (setM H p c M').get b := by rw [hget, if_neg hbt, qct]
   rw [e]
   exact hmem.low b hb
theorem TAt.setT (h : TAt H t x p c n sp period puts M) (hpl : puts' < period) (hok : M'.ok) (hl : M'.cs.length = M.cs.length) (hmv : M'.mv ≤ 4611686018427387904) : TAt (setT H t x p c n period puts' M') t x p c n sp period puts' M' := by
 have hget : ∀ b, (Go.Proofs.YtemeclnpdpkfdaaGreat.setT H t x p c n period puts' M').get b = if b = t then tobj p x n period puts' else (setM H p c M').get b := fun _ => rfl
 have hL := h.l.set hok hl
 refine ⟨by rw [hget, if_pos rfl], h.lt, h.tp, h.tc, h.tx, ⟨by rw [hget, if_neg (Ne.symm h.tx), hL.hx], hL.lx, hL.xp, hL.xc, hL.m.keep (qkV _) (by rw [hget, if_neg (Ne.symm h.tp)]) (by rw [hget, if_neg (Ne.symm h.tc)]), hL.len, hL.n1, hL.sp16⟩, h.n1, h.per, hpl, hmv⟩
theorem qd6 : Frt H (setT H t x p c n period puts M) t p c := ⟨qkV _, fun b _ h1 h2 h3 => by
 show (if b = t then _ else (setM H p c M).get b) = _
 rw [if_neg h1, qcP h2 h3]⟩
theorem qeM.s {k : Int → AH → Prop} (h : TAt H t x p c n sp period puts M) (hd : M.down = false) (hk : k (M.mv : Nat) H) : qbo (some ⟨t, 0, none⟩) H k := by
 refine qbo.link ?_
 unfold qbo.b
 simp only [qla, qg, qkX, if_false, qe, h.c0, qU]
 refine qN.s h.l.m ?_
 have h0 := qdL h.l.m.ok
 have hmv := h.mv
 have e : M.reg 0 = ((M.mv : Int), 0) := by
  unfold Mem.reg
  rw [if_pos ⟨by omega, by omega⟩, if_neg (by simp [hd])]
  unfold Mem.mv
  refine Prod.ext ?_ rfl
  show M.regs.getD 0 0 = _
  omega
 rw [e, qd (n := (M.mv : Int)) (by omega) (by omega)]
 exact hk
def tmay (n : Nat) (M : Mem) (line : Int) : Int := if 0 ≤ line ∧ line < n then if M.down then 2 else 0 else 1
theorem qha.s {k : Int → AH → Prop} (h : TAt H t x p c n sp period puts M) (hk : k (tmay n M line) H) : qa6 (some ⟨t, 0, none⟩) line H k := by
 refine qa6.link ?_
 unfold qa6.b qa6.j1
 unfold tmay at hk
 simp only [qla, qg, qkX, if_false, if_true, qe, h.c0, h.c2, qU, qf, decide_eq_true_eq]
 by_cases h1 : line < 0
 ·rw [if_pos h1]
  rw [if_neg (by omega)] at hk
  exact hk
 rw [if_neg h1]
 by_cases h2 : line ≥ (n : Int)
 ·rw [if_pos h2]
  rw [if_neg (by omega)] at hk
  exact hk
 rw [if_neg h2]
 rw [if_pos ⟨by omega, by omega⟩] at hk
 refine qar.s h.l.m ?_
 by_cases hd : M.down = true
 ·rw [if_pos hd] at hk ⊢; exact hk
 ·rw [if_neg hd] at hk ⊢; exact hk
theorem qcL.s {k : Int → AH → Prop} (h : TAt H t x p c n sp period puts M) (hk : k n H) : qaT (some ⟨t, 0, none⟩) H k := by
 refine qaT.link ?_
 unfold qaT.b
 simp only [qla, qg, qkX, if_false, qe, h.c2, qf]
 exact hk
theorem qeG {H1 : AH} {l : List Int} {Q : List Value → AH → Prop} (hk : qa (H.push ⟨lineV (qkR 8 0), .rw, 0⟩) H1) (hl : isLine l) (hQ : ∀ H', qa H H' → Q (lineV l) H') :
  ((lineV l).length = 8 ∧ List.all (lineV l) qq = true) ∧ stC H1 ⟨H.size, 0, none⟩ (lineV l) fun Hs => ldA Hs ⟨H.size, 0, none⟩ 8 fun r0 => Q r0 Hs := by
 have hg : H1.get H.size = ⟨lineV (qkR 8 0), .rw, 0⟩ := by rw [hk.2 _ (by simp [qm]), qr, if_pos rfl]
 refine ⟨⟨qs hl.1, qaD _⟩, stC_to ⟨rfl, by rw [hg], by rw [hg, qs hl.1]; simp only [qs (l := qkR 8 0) rfl]; omega⟩ (qdl rfl hl.1 hg) ?_⟩
 have hrow : AH.row? (H1.upd H.size ⟨lineV l, .rw, 0⟩) ⟨H.size, 0, none⟩ 8 = some (lineV l) := by
  simp only [AH.row?, qZ, if_true, qk4, qkX, if_false, List.drop_zero]
  rw [if_neg (by simp), qlL (by rw [qs hl.1]; omega), if_pos ⟨by rw [qs hl.1]; omega, qaD _⟩]
 rw [qu hrow]
 exact hQ _ ((((qa.refl H).push _).trans hk).upd (qkV _) _)
theorem LAt.lineOf (h : LAt H x p c n sp M) {s : Nat} (hs : s < n) : isLine (M.view n sp s) := by
 have hp := qeb (M := M) (n := n) (sp := sp) hs
 have hlen := h.len
 have : M.cl (M.place n s sp) ∈ M.cs := by
  unfold Mem.cl
  rw [qkP, qkO (by omega)]
  exact qk1 _
 exact h.m.ok.lines _ this
theorem TAt.lineOf (h : TAt H t x p c n sp period puts M) (s : Nat) : isLine (M.tview n sp s) :=
 h.l.lineOf (by have := qdy (mv := M.mv) (line := s) h.n1; omega)
theorem qex.s {k : List Value → Int → AH → Prop} (h : TAt H t x p c n sp period puts M) (hk : k (lineV (tget n sp M line).1) (tget n sp M line).2 H) : qa4 (some ⟨t, 0, none⟩) line H k := by
 refine canon2 (κ := .agg) (μ := .int .i64) (by simp) (by simp) (qc3 _) rfl (qa4.link ?_) hk
 unfold qa4.b
 rw [qx, zeroV]
 have hT := h.push ⟨lineV (qkR 8 0), .rw, 0⟩
 simp only [qg]
 refine qha.s hT ?_
 unfold tmay tget
 by_cases hs : 0 ≤ line ∧ line < n
 ·rw [if_pos hs, if_pos hs]
  by_cases hd : M.down = true
  ·rw [if_pos hd, if_pos hd, if_pos (by simp)]
   exact qeG (Q := fun r H' => At H H' H ∧ r = _ ∧ _) (qa.refl _) qa9 fun H' hk => ⟨At.of_keeps hk, rfl, rfl⟩
  ·have hd' : M.down = false := by simpa using hd
   obtain ⟨ln, rfl⟩ := qk9 hs.1
   rw [if_neg hd, if_neg hd, if_neg (by simp)]
   simp only [qe, hT.c1, hT.c2, qU, qf]
   refine qeM.s hT hd' ⟨hT.c2, hT.c1, ?_⟩
   have hn200 := h.n200
   refine qbO.s ⟨h.n1, by omega⟩ h.mv (by omega) ⟨hT.c1, ?_⟩
   refine qg1.s hT.l ?_
   have hsl := qdy (mv := M.mv) (line := ln) h.n1
   have hg : lget (n + 1) sp M ((slotN n M.mv ln : Nat) : Int) = (M.tview n sp ln, 0) := by
    unfold lget; rw [if_pos ⟨by omega, by omega⟩, if_neg hd]; rfl
   rw [hg, qkQ]
   exact qeG (Q := fun r H' => At H H' H ∧ r = _ ∧ _) (qa.refl _) (h.lineOf ln) fun H' hk => ⟨At.of_keeps hk, rfl, rfl⟩
 ·rw [if_neg hs, if_neg hs, if_pos (by simp)]
  exact qeG (Q := fun r H' => At H H' H ∧ r = _ ∧ _) (qa.refl _) qa9 fun H' hk => ⟨At.of_keeps hk, rfl, rfl⟩
theorem qjS.s {k : Int → AH → Prop} (h : TAt H t x p c n sp period puts M) (hd : M.down = false) (hk : k (tmove n sp M).2 (setM H p c (tmove n sp M).1)) : qbD (some ⟨t, 0, none⟩) H k := by
 have hn200 := h.n200
 have hg := gapN_le (n := n) (mv := M.mv)
 have hf := qfU (n := n) (mv := M.mv)
 refine qcI (κ := .int .i64) (by simp) rfl (qbD.link ?_) hk
 unfold qbD.b
 simp only [qg]
 refine qeM.s h hd ?_
 rw [qe, h.c2, qf]
 refine qcH.s ⟨h.n1, by omega⟩ ?_
 rw [qe, h.c1, qU]
 refine qg1.s h.l ?_
 have hg' : lget (n + 1) sp M ((fromN n M.mv : Nat) : Int) = (M.view (n + 1) sp (fromN n M.mv), 0) := by
  unfold lget; rw [if_pos ⟨by omega, by omega⟩, if_neg (by simp [hd])]; rfl
 have hl := h.l.lineOf (s := fromN n M.mv) (by omega)
 rw [hg', zeroV]
 refine qfN hl ?_
 rw [if_neg (by simp)]
 have hT := h.push ⟨lineV (M.view (n + 1) sp (fromN n M.mv)), .rw, 0⟩
 rw [qe, hT.c1, qU, qu (qeJ hl)]
 have fin : ∀ {M' : Mem} {H' : AH}, qE H' p c M' → Frm (H.push ⟨lineV (M.view (n + 1) sp (fromN n M.mv)), .rw, 0⟩) H' p c → At H H' (setM H p c M') := by
  intro M' H' hm f
  refine h.l.m.at fun b hb => ?_
  rw [qct]
  split
  ·rename_i e; rw [e, hm.hp]
  ·split
   ·rename_i e; rw [e, hm.hc]
   ·rw [f.get b ‹_› ‹_›, qT (by omega)]
 refine qee.g hT.l hl (Prod.eta _).symm ?_
 intro H2 hL2 f2
 unfold tmove
 simp only
 have hmv := h.mv
 by_cases he : (lput (n + 1) sp M ((gapN n M.mv : Nat) : Int) (M.view (n + 1) sp (fromN n M.mv))).2 = 0
 ·rw [if_pos he, if_neg (by simp [he])]
  have hT2 : TAt H2 t x p c n sp period puts (lput (n + 1) sp M ((gapN n M.mv : Nat) : Int) (M.view (n + 1) sp (fromN n M.mv))).1 → True := fun _ => trivial
  have c0 : AH.cell? H2 (qkN ⟨t, 0, none⟩ 0) = some (.pointer (some ⟨p, 0, none⟩)) := by
   rw [qk, f2.cell h.tp h.tc, ← qk]; exact hT.c0
  rw [qe, c0, qU, qbw (n := (M.mv : Int)) (by omega) (by omega), qbw (n := (M.mv : Int) + 1) (by omega) (by omega)]
  refine qI.g hL2.m (by unfold isU; omega) (Prod.eta _).symm ?_
  intro H3 hm3 f3
  exact ⟨fin hm3 (f2.trans f3), rfl⟩
 ·rw [if_neg he, if_pos (by simpa using he)]
  exact ⟨fin hL2.m f2, rfl⟩
end
section
variable {H H' : AH} {t x p c n sp period puts puts' : Nat} {M M' : Mem} {line : Int}
theorem TAt.putsTo (h : TAt H t x p c n sp period puts M) (hp : puts' < period) : AH.canPut H (qkN ⟨t, 0, none⟩ 4) 1 ∧ TAt (AH.put H (qkN ⟨t, 0, none⟩ 4) [.int .i64 (puts' : Int)]) t x p c n sp period puts' M ∧ Frt H (AH.put H (qkN ⟨t, 0, none⟩ 4) [.int .i64 (puts' : Int)]) t p c ∧ (∀ b, b ≠ t → (AH.put H (qkN ⟨t, 0, none⟩ 4) [.int .i64 (puts' : Int)]).get b = H.get b) := by
 rw [qk, Nat.zero_add]
 have other : ∀ b, b ≠ t → (AH.put H ⟨t, 4, none⟩ [.int .i64 (puts' : Int)]).get b = H.get b := fun b hb => by simp only [AH.put, qZ]; rw [if_neg hb]
 refine ⟨⟨rfl, congrArg AObj.md h.ht, by rw [h.ht]; simp [tobj]⟩, ⟨?_, h.lt, h.tp, h.tc, h.tx, ⟨by rw [other x (Ne.symm h.tx), h.l.hx], h.l.lx, h.l.xp, h.l.xc, h.l.m.keep (qkV _) (other p (Ne.symm h.tp)) (other c (Ne.symm h.tc)), h.l.len, h.l.n1, h.l.sp16⟩, h.n1, h.per, hp, h.mv⟩, ⟨qkV _, fun b _ h1 _ _ => other b h1⟩, other⟩
 simp only [AH.put, qZ, if_true, h.ht]
 rfl
theorem tput_ok {k : Nat} {d : List Int} (hd : isLine d) (h : LV M (n + 1) sp k) (hn : 1 ≤ n) (hok : M.ok) (hmv : M.mv ≤ 4611686018427387904) : (tput n sp period M puts line d).1.ok := by
 have hl := h.len
 have hok2 := hok.len
 unfold tput
 split
 ·split
  ·exact hok
  ·split
   ·have h1 := qfT h hok hmv
    simp only
    split
    ·exact lput_ok hd (by omega) h1
    ·exact h1
   ·exact lput_ok hd (by omega) hok
 ·exact hok
theorem qhb {d : List Int} : (tput n sp period M puts line d).1.cs.length = M.cs.length := by
 unfold tput
 split
 ·split
  ·rfl
  ·split
   ·simp only
    split
    ·rw [qd4, qeW]
    ·exact qeW
   ·exact qd4
 ·rfl
theorem qfR.s {d : List Int} {k : Nat} {K : Int → AH → Prop} (h : TAt H t x p c n sp period puts M) (hlv : LV M (n + 1) sp k) (hmv : M.mv < 4611686018427387904) (hd : isLine d)
  (hk : ∀ H', TAt H' t x p c n sp period (tput n sp period M puts line d).2.1 (tput n sp period M puts line d).1 → Frt H H' t p c → H'.size = H.size → K (tput n sp period M puts line d).2.2 H') : qaJ (some ⟨t, 0, none⟩) line (lineV d) H K := by
 have hn200 := h.n200
 have hper := h.per
 have hpl := h.pl
 have hok := h.l.m.ok
 have lt := h.lt
 have lp := h.l.m.lp
 have lc := h.l.m.lc
 have lx := h.l.lx
 have hok2 := tput_ok (period := period) (puts := puts) (line := line) hd hlv h.n1 hok h.mv
 have hlen2 := qhb (n := n) (sp := sp) (period := period) (M := M) (puts := puts) (line := line) (d := d)
 have hmain : (tput n sp period M puts line d).2.1 < period ∧ (tput n sp period M puts line d).1.mv ≤ 4611686018427387904 := by
  by_cases hin : 0 ≤ line ∧ line < n
  ·by_cases hdn : M.down = true
   ·unfold tput; rw [if_pos hin, if_pos hdn]; exact ⟨hpl, h.mv⟩
   ·obtain ⟨ln, rfl⟩ := qk9 hin.1
    obtain ⟨h1, h2⟩ := qd7 (line := ln) (period := period) (puts := puts) hlv h.n1 hok h.mv (by simpa using hdn) (by omega) hd.1
    refine ⟨by rw [h2]; split <;> omega, ?_⟩
    have := h1.mv.2.1
    split at this <;> omega
  ·unfold tput; rw [if_neg hin]; exact ⟨hpl, h.mv⟩
 refine qcI (κ := .int .i64) (v := (tput n sp period M puts line d).2.2) (H2 := setT H t x p c n period (tput n sp period M puts line d).2.1 (tput n sp period M puts line d).1) (by simp) rfl (qaJ.link ?_) (hk _ (h.setT hmain.1 hok2 hlen2 hmain.2) qd6 rfl)
 clear hk hok2 hlen2
 have hmv2 := hmain.2
 unfold qaJ.b
 rw [qx]
 simp only [qg, beq_iff_eq]
 have hT := h.push ⟨lineV d, .rw, 0⟩
 have f0 : Frt H (H.push ⟨lineV d, .rw, 0⟩) t p c := Frt.of_keeps ((qa.refl H).push _)
 have g0 : (H.push ⟨lineV d, .rw, 0⟩).get H.size = ⟨lineV d, .rw, 0⟩ := by rw [qr, if_pos rfl]
 have s0 : H.size < (H.push ⟨lineV d, .rw, 0⟩).size := by simp [qm]
 generalize H.push ⟨lineV d, .rw, 0⟩ = H1 at *
 refine qha.s hT ?_
 unfold tmay
 by_cases hin : 0 ≤ line ∧ line < n
 rotate_left 1
 ·unfold tput
  rw [if_neg hin, if_neg hin, if_pos (by simp)]
  exact ⟨h.at hT f0, rfl⟩
 rw [if_pos hin]
 by_cases hdn : M.down = true
 ·unfold tput
  rw [if_pos hin, if_pos hdn, if_pos hdn, if_pos (by simp)]
  exact ⟨h.at hT f0, rfl⟩
 rw [if_neg hdn, if_neg (by simp)]
 obtain ⟨ln, rfl⟩ := qk9 hin.1
 have hln : ln < n := by omega
 have hup : M.down = false := by simpa using hdn
 have rowd : ∀ H2 : AH, H2.get H.size = ⟨lineV d, .rw, 0⟩ → AH.row? H2 ⟨H.size, 0, none⟩ 8 = some (lineV d) := by
  intro H2 hg
  simp only [AH.row?, hg, qk4, qkX, if_false, List.drop_zero]
  rw [if_neg (by simp), qlL (by rw [qs hd.1]; omega), if_pos ⟨by rw [qs hd.1]; omega, qaD _⟩]
 -- the line is put where it is
 have tail : ∀ (H2 : AH) (M2 : Mem) (puts2 : Nat), TAt H2 t x p c n sp period puts2 M2 → Frt H H2 t p c → H2.get H.size = ⟨lineV d, .rw, 0⟩ → M2.down = false → (lput (n + 1) sp M2 (slotN n M2.mv ln : Nat) d).1.mv ≤ 4611686018427387904 →
   ∀ Q : Int → AH → Prop, (∀ H3, TAt H3 t x p c n sp period puts2 (lput (n + 1) sp M2 (slotN n M2.mv ln : Nat) d).1 → Frt H H3 t p c → Q (lput (n + 1) sp M2 (slotN n M2.mv ln : Nat) d).2 H3) → qaJ.j1 (some ⟨t, 0, none⟩) (ln : Int) Q H.size H2 := by
  intro H2 M2 puts2 hT2 f2 g2 hd2 hm2 Q hQ
  unfold qaJ.j1
  simp only [qe, hT2.c1, hT2.c2, qU, qf]
  rw [qu (rowd _ g2)]
  refine qeM.s hT2 hd2 ⟨rowd _ g2, hT2.c2, hT2.c1, ?_⟩
  refine qbO.s ⟨h.n1, by omega⟩ hT2.mv hln ⟨rowd _ g2, hT2.c1, ?_⟩
  refine qee.g hT2.l hd (Prod.eta _).symm ?_
  intro H3 hL3 f3
  exact hQ H3 (hT2.mem hL3 f3 hm2) (f2.trans (Frt.of_frm f3))
 rw [qe, hT.c4, qf, qe, qd (n := (puts : Int) + 1) (by omega) (by omega)]
 unfold tput at hmv2 ⊢
 rw [if_pos (show 0 ≤ (ln : Int) ∧ (ln : Int) < (n : Int) from ⟨by omega, by omega⟩), if_neg hdn, qkQ] at hmv2 ⊢
 -- the count is stored, before it is looked at
 have other1 : ∀ (v : Int) (b : Nat), b ≠ t → (AH.put H1 (qkN ⟨t, 0, none⟩ 4) [.int .i64 v]).get b = H1.get b := fun v b hb => by rw [qk]; simp only [AH.put, qZ]; rw [if_neg hb]
 have hobj : (AH.put H1 (qkN ⟨t, 0, none⟩ 4) [.int .i64 ((puts : Int) + 1)]).get t = tobj p x n period (puts + 1) := by
  rw [qk]; simp only [AH.put, qZ, if_true, hT.ht]; rfl
 refine stC_to (hT.putsTo (puts' := puts) hpl).1 rfl ?_
 generalize hH2 : AH.put H1 (qkN ⟨t, 0, none⟩ 4) [.int .i64 ((puts : Int) + 1)] = H2 at *
 have o2 : ∀ b, b ≠ t → H2.get b = H1.get b := fun b hb => by rw [← hH2]; exact other1 _ b hb
 have s2 : H2.size = H1.size := by rw [← hH2]; rfl
 have c4 : AH.cell? H2 (qkN ⟨t, 0, none⟩ 4) = some (.int .i64 ((puts : Int) + 1)) := by
  rw [qk]
  simp only [AH.cell?, hobj, qk4, qkX, if_false]
  rw [if_neg (by simp [tobj])]
  simp [tobj]
 have c3 : AH.cell? H2 (qkN ⟨t, 0, none⟩ 3) = some (.int .i64 (period : Int)) := by
  rw [qk]
  simp only [AH.cell?, hobj, qk4, qkX, if_false]
  rw [if_neg (by simp [tobj])]
  rfl
 have hL2 : LAt H2 x p c (n + 1) sp M := ⟨by rw [o2 x (Ne.symm h.tx), hT.l.hx], by rw [s2]; exact hT.l.lx, hT.l.xp, hT.l.xc, hT.l.m.keep (by rw [s2]; exact qkV _) (o2 p (Ne.symm h.tp)) (o2 c (Ne.symm h.tc)), hT.l.len, hT.l.n1, hT.l.sp16⟩
 have f2 : Frt H H2 t p c := f0.trans ⟨by rw [s2]; exact qkV _, fun b _ h1 _ _ => o2 b h1⟩
 have g2 : H2.get H.size = ⟨lineV d, .rw, 0⟩ := by rw [o2 _ (by omega), g0]
 rw [qe, c4, qf, qe, c3, qf]
 by_cases hp : puts + 1 = period
 ·rw [if_pos hp] at hmv2 ⊢
  rw [if_pos (by omega), qe]
  have hcan : AH.canPut H2 (qkN ⟨t, 0, none⟩ 4) 1 := by rw [qk]; exact ⟨rfl, congrArg AObj.md hobj, by rw [hobj]; simp [tobj]⟩
  have hput : AH.put H2 (qkN ⟨t, 0, none⟩ 4) [.int .i64 0] = H2.upd t (tobj p x n period 0) := by
   rw [qk]; simp only [AH.put, hobj]; rfl
  refine stC_to hcan hput ?_
  have o3 : ∀ b, b ≠ t → (H2.upd t (tobj p x n period 0)).get b = H2.get b := fun b hb => by rw [qZ, if_neg hb]
  have hT3 : TAt (H2.upd t (tobj p x n period 0)) t x p c n sp period 0 M :=
   ⟨by rw [qZ, if_pos rfl], by rw [qhS, s2]; exact hT.lt, h.tp, h.tc, h.tx, ⟨by rw [o3 x (Ne.symm h.tx), hL2.hx], hL2.lx, hL2.xp, hL2.xc, hL2.m.keep (qkV _) (o3 p (Ne.symm h.tp)) (o3 c (Ne.symm h.tc)), hL2.len, hL2.n1, hL2.sp16⟩, h.n1, h.per, by omega, h.mv⟩
  have f3 : Frt H (H2.upd t (tobj p x n period 0)) t p c := f2.trans ⟨qkV _, fun b _ h1 _ _ => o3 b h1⟩
  have g3 : (H2.upd t (tobj p x n period 0)).get H.size = ⟨lineV d, .rw, 0⟩ := by rw [o3 _ (by omega), g2]
  have s3 : H.size < (H2.upd t (tobj p x n period 0)).size := by rw [qhS, s2]; exact s0
  generalize H2.upd t (tobj p x n period 0) = H3 at *
  refine qjS.s hT3 hup ?_
  have hm1 := qgB (d := d) hlv h.n1 hok.regs (qdL hok) hup hok.cut.1 (fun s hs => (qet hlv hok hs).1)
  have hokm := qfT hlv hok h.mv
  have hlenm := qeW (n := n) (sp := sp) (M := M)
  have hmvm := hm1.mv.2.1
  have hT4 : TAt (setM H3 p c (tmove n sp M).1) t x p c n sp period 0 (tmove n sp M).1 := hT3.mem (hT3.l.set hokm hlenm) (Frm.set _ _ _ _) (by omega)
  have f4 : Frt H (setM H3 p c (tmove n sp M).1) t p c := f3.trans (Frt.of_frm (Frm.set _ _ _ _))
  have g4 : (setM H3 p c (tmove n sp M).1).get H.size = ⟨lineV d, .rw, 0⟩ := by rw [qcP (by omega) (by omega), g3]
  generalize setM H3 p c (tmove n sp M).1 = H4 at *
  simp only at hmv2 ⊢
  by_cases he : (tmove n sp M).2 = 0
  ·rw [if_pos he] at hmv2 ⊢
   rw [if_neg (by simp [he])]
   have hup4 : (tmove n sp M).1.down = false := by
    rcases hm1.res with ⟨_, a, _⟩ | ⟨a, _⟩ | ⟨a, _⟩
    ·exact a
    ·omega
    ·omega
   refine tail H4 _ 0 hT4 f4 g4 hup4 hmv2 _ ?_
   intro H5 hT5 f5
   exact ⟨h.at hT5 f5, rfl⟩
  ·rw [if_neg he] at hmv2 ⊢
   rw [if_pos (by simpa using he)]
   exact ⟨h.at hT4 f4, rfl⟩
 ·rw [if_neg hp] at hmv2 ⊢
  rw [if_neg (by omega)]
  have hT3 : TAt H2 t x p c n sp period (puts + 1) M := ⟨hobj, by rw [s2]; exact hT.lt, h.tp, h.tc, h.tx, hL2, h.n1, h.per, by omega, h.mv⟩
  refine tail H2 M (puts + 1) hT3 f2 g2 hup hmv2 _ ?_
  intro H5 hT5 f5
  exact ⟨h.at hT5 f5, rfl⟩
end
section
variable {H : AH} {p c : Nat} {M : Mem} {n sp period : Int}
def qch (M : Mem) (n sp period : Int) : Prop := 1 ≤ n ∧ 1 ≤ period ∧ period ≤ 1000 ∧ 0 ≤ sp ∧ sp ≤ 16 ∧ (M.cs.length : Int) = n + 1 + sp ∧ M.down = false ∧ MayT (tblL M sp.toNat) (n + 1) ∧ M.mv ≤ 1099511627776
instance : Decidable (qch M n sp period) := by unfold qch; infer_instance
theorem qbb.s {k : Option Addr → AH → Prop} (hm : qE H p c M) (hsr : isI sp) (h0 : ¬ qch M n sp period → k none H)
  (h1 : qch M n sp period → ∀ H' t x, TAt H' t x p c n.toNat sp.toNat period.toNat 0 M → qa H H' → H.size ≤ t → H.size ≤ x → k (some ⟨t, 0, none⟩) H') : qbb (some ⟨p, 0, none⟩) n sp period H k := by
 have hlen := hm.ok.len
 have h00 := qdL hm.ok
 have hreg : M.down = false → M.reg 0 = ((M.mv : Int), 0) := by
  intro hd
  unfold Mem.reg
  rw [if_pos ⟨by omega, by omega⟩, if_neg (by simp [hd])]
  unfold Mem.mv
  refine Prod.ext ?_ rfl
  show M.regs.getD 0 0 = _
  omega
 have common : ∀ {Q : Option Addr → AH → Prop}, (¬ qch M n sp period → ∀ H', qa H H' → Q none H') → (qch M n sp period → ∀ H' t x, TAt H' t x p c n.toNat sp.toNat period.toNat 0 M → qa H H' → H.size ≤ t → H.size ≤ x → Q (some ⟨t, 0, none⟩) H') →
   qbb.b (some ⟨p, 0, none⟩) n sp period H Q := by
  intro Q q0 q1
  unfold qbb.b qbb.j2 qbb.j1
  simp only [qg, decide_eq_true_eq]
  by_cases a1 : n < 1
  ·rw [if_pos a1]; exact q0 (fun h => by have := h.1; omega) _ (qa.refl _)
  rw [if_neg a1]
  refine qai.s hm ?_
  by_cases a2 : n > (M.cs.length : Int)
  ·rw [if_pos a2]; exact q0 (fun h => by have := h.2.2.2.1; have := h.2.2.2.2.2.1; omega) _ (qa.refl _)
  rw [if_neg a2]
  by_cases a3 : period < 1
  ·rw [if_pos a3]; exact q0 (fun h => by have := h.2.1; omega) _ (qa.refl _)
  rw [if_neg a3]
  by_cases a4 : period > 1000
  ·rw [if_pos a4]; exact q0 (fun h => by have := h.2.2.1; omega) _ (qa.refl _)
  rw [if_neg a4, qd (n := n + 1) (by omega) (by omega)]
  refine qaW.s hm (by unfold isI; omega) hsr ?_ ?_
  ·intro hb
   rw [Option.isNone_none, if_pos rfl]
   exact q0 (fun h => hb ⟨by have := h.1; omega, h.2.2.2.1, h.2.2.2.2.1, by have := h.2.2.2.2.2.1; omega, h.2.2.2.2.2.2.1, h.2.2.2.2.2.2.2.1⟩) _ (qa.refl _)
  ·intro hg H2 hL hk _
   rw [qla, if_neg (by simp)]
   refine qN.s hL.m ?_
   rw [hreg hg.2.2.2.2.1, if_neg (by simp)]
   by_cases a5 : (M.mv : Int) > 1099511627776
   ·rw [if_pos a5]
    exact q0 (fun h => by have := h.2.2.2.2.2.2.2.2; omega) _ hk
   ·rw [if_neg a5, qx]
    have hgood : qch M n sp period := ⟨by omega, by omega, by omega, hg.2.1, hg.2.2.1, by have := hg.2.2.2.1; omega, hg.2.2.2.2.1, hg.2.2.2.2.2, by omega⟩
    have hL' := hL.push (tobj p H.size n.toNat period.toNat 0)
    have en : (n + 1).toNat = n.toNat + 1 := by omega
    rw [en] at hL'
    have hobj : (⟨[(Value.pointer (some ⟨p, 0, none⟩)), (Value.pointer (some ⟨H.size, 0, none⟩)), (Value.int .i64 n), (Value.int .i64 period), (Value.int .i64 (0 : Int))], .rw, 0⟩ : AObj) = tobj p H.size n.toNat period.toNat 0 := by
     simp only [tobj]
     rw [show ((n.toNat : Nat) : Int) = n by omega, show ((period.toNat : Nat) : Int) = period by omega]
     rfl
    rw [hobj]
    have hlp := hm.lp
    have hlc := hm.lc
    have hk1 := hk.1
    have hlx := hL.lx
    exact q1 hgood _ _ H.size ⟨by rw [qr, if_pos rfl], by simp [qm], by omega, by omega, by omega, hL', by omega, by omega, by omega, by omega⟩ (hk.push _) (by omega) (by omega)
 by_cases hg : qch M n sp period
 ·exact qbb.link (common (fun h => absurd hg h) h1)
 ·refine qcI (κ := .ptr) (v := none) (by simp) rfl (qbb.link (common ?_ ?_)) (h0 hg)
  ·intro _ H' hk; exact ⟨At.of_keeps hk, rfl⟩
  ·intro h; exact absurd h hg
end
section
variable {H0 H H' : AH} {t x p c n sp period puts puts' o k : Nat} {M M' : Mem} {ws : List (List Int)}
theorem qkt {line : Int} {d : List Int} (h : ¬ (0 ≤ line ∧ line < n)) : tput n sp period M puts line d = (M, puts, 1) := by unfold tput; rw [if_neg h]
end
section
variable {H : AH}
theorem mv_new {n : Nat} {l : List Int} : (Mem.new n l).mv = 0 := rfl
end
section
variable {H : AH}
theorem qhI (z : Int) : isU (qkM .u64 z) := by
 unfold isU
 simp only [qkM, IntKind.bits, IntKind.signed, Bool.false_and, Int.reducePow, qkX, if_false]; omega
end
end Go.Proofs.YtemeclnpdpkfdaaGreat
