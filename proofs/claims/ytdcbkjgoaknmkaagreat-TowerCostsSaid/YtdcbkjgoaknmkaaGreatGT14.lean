/- Lemmas for the law: an abstract machine, and what the functions do on it. No condition. -/
import Derived.Test.YtdcbkjgoaknmkaaGreatGT13
set_option linter.all false
open Go.IntKind renaming wrap → qk3
open List renaming getD_eq_getElem?_getD → qk6, length_map → qlX
open Int renaming toNat_natCast → qk9
open Nat renaming le_refl → qlc
open Option renaming isNone_some → qlj
set_option linter.all false
namespace Go.Proofs.YtdcbkjgoaknmkaaGreat
open Go Go.Abs
def Wr (w : Nat) (M M' : Mem) : Prop := 0 ≤ M.writes → M.writes + w < 4611686018427387904 → M'.writes = M.writes + w
theorem Wr.refl (M : Mem) : Wr 0 M M := fun _ _ => by simp
theorem Wr.trans {a b : Nat} {M M' M2 : Mem} (h : Wr a M M') (h' : Wr b M' M2) : Wr (a + b) M M2 := fun h0 h1 => by
 have e1 := h h0 (by omega)
 have e2 := h' (by omega) (by omega)
 omega
theorem Wr.one {M M' : Mem} (h : M'.writes = inc M.writes) : Wr 1 M M' := fun h0 h1 => by
 rw [h]; unfold inc; rw [qe (by omega) (by omega)]; rfl
theorem qd9 (M : Mem) : M.wr.writes = inc M.writes := by unfold Mem.wr; split <;> (try split) <;> rfl
def WC (n sp c : Nat) (M M' : Mem) : Prop := ∀ k, LV M n sp k → M.regs.length = 35 → ∃ w rep k' : Nat, Wr w M M' ∧ w ≤ c + 2 * rep ∧ (M.down = true → M' = M) ∧ LV M' n sp k' ∧ M'.regs.length = 35 ∧ k ≤ k' ∧ (M'.down = false → k + rep ≤ k') ∧ (NL M → rep = 0 ∧ NL M') ∧ k + rep ≤ sp + 1
section
variable {n sp c : Nat} {M M' M2 : Mem}
theorem WC.refl (M : Mem) : WC n sp 0 M M := fun k hk hr => ⟨0, 0, k, Wr.refl M, qlc _, fun _ => rfl, hk, hr, qlc _, fun _ => qlc _, fun h => ⟨rfl, h⟩, by have := hk.kle; omega⟩
theorem WC.mono {c' : Nat} (h : WC n sp c M M') (hc : c ≤ c') : WC n sp c' M M' := fun k hk hr => by
 obtain ⟨w, rep, k', a, b, r⟩ := h k hk hr
 exact ⟨w, rep, k', a, by omega, r⟩
theorem WC.trans {c' : Nat} (h : WC n sp c M M') (h' : WC n sp c' M' M2) : WC n sp (c + c') M M2 := fun k hk hr => by
 obtain ⟨w, rep, k', a1, a2, a3, a4, a5, a6, a7, a8, a9⟩ := h k hk hr
 obtain ⟨w', rep', k2, b1, b2, b3, b4, b5, b6, b7, b8, b9⟩ := h' k' a4 a5
 cases hd : M'.down with
 | true =>
  have e := b3 hd
  rw [e]
  exact ⟨w, rep, k', a1, by omega, a3, a4, a5, a6, a7, a8, a9⟩
 | false =>
  have ha := a7 hd
  refine ⟨w + w', rep + rep', k2, a1.trans b1, by omega, fun hdn => ?_, b4, b5, by omega, fun hu => by have := b7 hu; omega, fun hn => ?_, by omega⟩
  ·have := a3 hdn; rw [this] at hd; rw [hd] at hdn; cases hdn
  ·obtain ⟨e1, q1⟩ := a8 hn
   obtain ⟨e2, q2⟩ := b8 q1
   exact ⟨by omega, q2⟩
theorem qfp {i : Int} {d : List Int} : (∃ w, w ≤ 1 ∧ Wr w M (M.put i d).1) ∧ (M.put i d).1.regs = M.regs ∧ (M.put i d).1.cs.length = M.cs.length ∧ (M.down = true → (M.put i d).1 = M) ∧ ((M.put i d).1.down = true ∨ (M.put i d).1.down = M.down) := by
 unfold Mem.put
 split
 ·split
  ·rename_i hd
   exact ⟨⟨0, by omega, Wr.refl M⟩, rfl, rfl, fun _ => rfl, .inr rfl⟩
  ·rename_i hd
   simp only
   have hw : M.wr.down = true ∨ M.wr.down = M.down := by
    unfold Mem.wr
    split
    ·exact .inl rfl
    ·split <;> exact .inr rfl
   split
   ·exact ⟨⟨1, by omega, Wr.one (qd9 M)⟩, Mem.wr_regs, by rw [Mem.wr_cs], fun h => absurd h hd, hw⟩
   ·exact ⟨⟨1, by omega, Wr.one (qd9 M)⟩, Mem.wr_regs, by simp [Mem.setc, Mem.wr_cs], fun h => absurd h hd, hw⟩
 ·exact ⟨⟨0, by omega, Wr.refl M⟩, rfl, rfl, fun _ => rfl, .inr rfl⟩
theorem put_wc {i : Int} {d : List Int} : WC n sp 1 M (M.put i d).1 := fun k hk hr => by
 obtain ⟨⟨w, h1, h2⟩, h3, h4, h5, _⟩ := qfp (M := M) (i := i) (d := d)
 exact ⟨w, 0, k, h2, by omega, h5, hk.same h3 h4, by rw [h3]; exact hr, qlc _, fun _ => qlc _, fun hn => ⟨rfl, hn.put.2⟩, by have := hk.kle; omega⟩
theorem qdd {i v : Int} : (∃ w, w ≤ 1 ∧ Wr w M (M.set i v).1) ∧ (M.set i v).1.cs = M.cs ∧ (M.down = true → (M.set i v).1 = M) ∧ ((M.set i v).1.regs = M.regs ∨ (M.set i v).1.regs = M.regs.set i.toNat v) ∧
  (regIn i → (M.set i v).1.down = false → (M.set i v).2 = 0 ∧ (M.set i v).1.regs = M.regs.set i.toNat v) ∧ (regIn i → (M.set i v).2 ≠ 0 → (M.set i v).1.down = true) := by
 unfold Mem.set
 split
 ·rename_i hin
  split
  ·rename_i hd
   exact ⟨⟨0, by omega, Wr.refl M⟩, rfl, fun _ => rfl, .inl rfl, fun _ h => (by rw [hd] at h; cases h), fun _ _ => hd⟩
  ·rename_i hd
   simp only
   refine ⟨⟨1, by omega, Wr.one ?_⟩, ?_, fun h => absurd h hd, ?_, fun _ hu => ?_, fun _ ht => ?_⟩
   ·split
    ·exact qd9 M
    ·exact qd9 M
   ·split
    ·exact Mem.wr_cs
    ·exact Mem.wr_cs
   ·split
    ·exact .inr rfl
    ·exact .inl Mem.wr_regs
   ·have hwu : M.wr.down = false := by
     split at hu
     ·exact hu
     ·exact hu
    have hm : M.wmask = -1 := by
     unfold Mem.wmask
     unfold Mem.wr at hwu
     split at hwu
     ·cases hwu
     ·rename_i h0; rw [if_neg h0]
    rw [hm, if_pos (show mbit (-1) 0 = true by decide)]
    exact ⟨by simp [Mem.told, hwu], rfl⟩
   ·have : M.wr.down = true := by
     unfold Mem.told at ht
     cases hw : M.wr.down with
     | true => rfl
     | false => rw [hw] at ht; simp at ht
    split
    ·exact this
    ·exact this
 ·rename_i hin
  exact ⟨⟨0, by omega, Wr.refl M⟩, rfl, fun _ => rfl, .inl rfl, fun h => absurd h hin, fun h => absurd h hin⟩
theorem LV.setOut {k : Nat} {i v : Int} (hk : LV M n sp k) (hi : i < 3 ∨ 19 ≤ i) (hi0 : 0 ≤ i) : LV (M.set i v).1 n sp k := by
 obtain ⟨_, h2, _, h4, _⟩ := qdd (M := M) (i := i) (v := v)
 have hsp := hk.sp16
 rcases h4 with h4 | h4
 ·exact hk.same h4 (by rw [h2])
 ·have hw : ∀ j, j < sp → (M.set i v).1.whose j = M.whose j := fun j hj => by
   unfold Mem.whose
   rw [h4, qk6, qk6, List.getElem?_set_ne (by omega)]
  have hkl := hk.kle
  exact ⟨by rw [h2]; exact hk.len, hk.n1, hk.sp16, hk.kle, fun j hj => by rw [hw j (by omega)]; exact hk.used j hj, fun j h1' h2' => by rw [hw j h2']; exact hk.free j h1' h2'⟩
theorem set_wc {i v : Int} (hi : i < 3 ∨ 19 ≤ i) (hi0 : 0 ≤ i) : WC n sp 1 M (M.set i v).1 := fun k hk hr => by
 obtain ⟨⟨w, h1, h2⟩, h3, h4, h5, _⟩ := qdd (M := M) (i := i) (v := v)
 refine ⟨w, 0, k, h2, by omega, h4, hk.setOut hi hi0, ?_, qlc _, fun _ => qlc _, fun hn => ⟨rfl, hn.set.2⟩, by have := hk.kle; omega⟩
 rcases h5 with h5 | h5 <;> rw [h5] <;> simp [hr]
theorem lgo_wc {slot : Nat} {d : List Int} (hs : slot < n) : ∀ (j : Nat) (M : Mem), j ≤ sp → LV M n sp (sp - j) → M.regs.length = 35 → ∃ w rep k' : Nat, Wr w M (lgo n sp slot d j M).1 ∧ w ≤ 2 * rep ∧ rep ≤ j + 1 ∧ LV (lgo n sp slot d j M).1 n sp k' ∧ (lgo n sp slot d j M).1.regs.length = 35 ∧ sp - j ≤ k' ∧ ((lgo n sp slot d j M).1.down = false → sp - j + rep ≤ k') := by
 intro j
 induction j with
 | zero =>
  intro M _ hk hr
  have hk' : LV M n sp sp := by simpa using hk
  exact ⟨0, 0, sp, Wr.refl M, by omega, by omega, hk', hr, by omega, fun _ => by omega⟩
 | succ j ih =>
  intro M hj hk hr
  have hsp := hk.sp16
  have hn1 := hk.n1
  have hkk : sp - (j + 1) < sp := by omega
  have hkeq : sp - j = sp - (j + 1) + 1 := by omega
  unfold lgo
  simp only
  obtain ⟨⟨w, a1, a2⟩, a3, a4, a5, a6⟩ := qfp (M := M) (i := ((n + (sp - (j + 1)) : Nat) : Int)) (d := d)
  have hpe : (M.put ((n + (sp - (j + 1)) : Nat) : Int) d).2 = 2 → (M.put ((n + (sp - (j + 1)) : Nat) : Int) d).1.down = true := by
   unfold Mem.put
   split
   ·split
    ·rename_i hd; intro _; exact hd
    ·simp only
     split
     ·unfold Mem.told; intro h
      by_cases hw : M.wr.down = true
      ·exact hw
      ·rw [if_neg hw] at h; simp at h
     ·unfold Mem.told; intro h
      by_cases hw : M.wr.down = true
      ·exact hw
      ·rw [if_neg hw] at h; simp at h
   ·intro h; simp at h
  have hp1 : (M.put ((n + (sp - (j + 1)) : Nat) : Int) d).2 = 1 → Wr 0 M (M.put ((n + (sp - (j + 1)) : Nat) : Int) d).1 := by
   unfold Mem.put
   split
   ·split
    ·intro h; simp at h
    ·simp only
     have hne : ∀ b, M.wr.told b ≠ 1 := fun b => by unfold Mem.told; split <;> (try split) <;> simp
     split
     ·intro h; exact absurd h (hne _)
     ·intro h; exact absurd h (hne _)
   ·intro _; exact Wr.refl M
  have hpv : (M.put ((n + (sp - (j + 1)) : Nat) : Int) d).2 = 0 ∨ (M.put ((n + (sp - (j + 1)) : Nat) : Int) d).2 = 1 ∨ (M.put ((n + (sp - (j + 1)) : Nat) : Int) d).2 = 2 ∨ (M.put ((n + (sp - (j + 1)) : Nat) : Int) d).2 = 3 := by
   unfold Mem.put
   split
   ·split
    ·simp
    ·simp only
     have hne : ∀ b, M.wr.told b = 0 ∨ M.wr.told b = 2 ∨ M.wr.told b = 3 := fun b => by unfold Mem.told; split <;> (try split) <;> simp
     split
     ·rcases hne true with h | h | h <;> simp [h]
     ·rcases hne false with h | h | h <;> simp [h]
   ·simp
  generalize M.put ((n + (sp - (j + 1)) : Nat) : Int) d = R at *
  have h1 : LV R.1 n sp (sp - (j + 1)) := hk.same a3 a4
  have hr1 : R.1.regs.length = 35 := by rw [a3]; exact hr
  have setc : ∀ v : Int, 1 ≤ v → v ≤ (n : Int) + 1 → ∃ k', sp - (j + 1) ≤ k' ∧ LV (R.1.set ((3 + (sp - (j + 1)) : Nat) : Int) v).1 n sp k' ∧ (R.1.set ((3 + (sp - (j + 1)) : Nat) : Int) v).1.regs.length = 35 ∧ ((R.1.set ((3 + (sp - (j + 1)) : Nat) : Int) v).1.down = false → k' = sp - (j + 1) + 1) := by
   intro v hv1 hv2
   obtain ⟨_, b2, _, b4, b5, _⟩ := qdd (M := R.1) (i := ((3 + (sp - (j + 1)) : Nat) : Int)) (v := v)
   rw [qk9] at b4 b5
   have htake : (R.1.set ((3 + (sp - (j + 1)) : Nat) : Int) v).1.regs = R.1.regs.set (3 + (sp - (j + 1))) v → LV (R.1.set ((3 + (sp - (j + 1)) : Nat) : Int) v).1 n sp (sp - (j + 1) + 1) := fun hh => h1.take hr1 hkk ⟨hv1, hv2⟩ hh (by rw [b2])
   cases hd : (R.1.set ((3 + (sp - (j + 1)) : Nat) : Int) v).1.down with
   | false =>
    obtain ⟨_, q2⟩ := b5 (by unfold regIn; omega) hd
    exact ⟨_, by omega, htake q2, by rw [q2]; simpa using hr1, fun _ => rfl⟩
   | true =>
    rcases b4 with b4 | b4
    ·exact ⟨_, qlc _, h1.same b4 (by rw [b2]), by rw [b4]; exact hr1, fun h => by cases h⟩
    ·exact ⟨_, by omega, htake b4, by rw [b4]; simpa using hr1, fun h => by cases h⟩
  by_cases e0 : R.2 = 0
  ·rw [if_pos e0]
   obtain ⟨⟨w', b1, b1'⟩, b2, b3, b4, b5, b6⟩ := qdd (M := R.1) (i := ((3 + (sp - (j + 1)) : Nat) : Int)) (v := (slot : Int) + 1)
   obtain ⟨k', c1, c2, c3, c4⟩ := setc ((slot : Int) + 1) (by omega) (by omega)
   exact ⟨w + w', 1, k', a2.trans b1', by omega, by omega, c2, c3, c1, fun hu => by have := c4 hu; omega⟩
  rw [if_neg e0]
  by_cases e3 : R.2 = 3
  ·rw [if_pos e3]
   obtain ⟨⟨w', b1, b1'⟩, b2, b3, b4, b5, b6⟩ := qdd (M := R.1) (i := ((3 + (sp - (j + 1)) : Nat) : Int)) (v := (n : Int) + 1)
   obtain ⟨k', c1, c2, c3, c4⟩ := setc ((n : Int) + 1) (by omega) (by omega)
   by_cases q0 : (R.1.set ((3 + (sp - (j + 1)) : Nat) : Int) ((n : Int) + 1)).2 = 0
   ·rw [if_pos q0]
    have hup : (R.1.set ((3 + (sp - (j + 1)) : Nat) : Int) ((n : Int) + 1)).1.down = false := by
     unfold Mem.set at q0 ⊢
     rw [if_pos (show regIn ((3 + (sp - (j + 1)) : Nat) : Int) by unfold regIn; omega)] at q0 ⊢
     split at q0
     ·simp at q0
     ·rename_i hd
      rw [if_neg hd]
      simp only at q0 ⊢
      have hw : R.1.wr.down = false := by
       unfold Mem.told at q0
       cases hw : R.1.wr.down with
       | false => rfl
       | true => rw [hw] at q0; simp at q0
      split
      ·exact hw
      ·exact hw
    have hk' := c4 hup
    rw [hk', ← hkeq] at c2
    obtain ⟨w2, rep, k2, d1, d2, d3, d4, d5, d6, d7⟩ := ih _ (by omega) c2 c3
    exact ⟨(w + w') + w2, rep + 1, k2, (a2.trans b1').trans d1, by omega, by omega, d4, d5, by omega, fun hu => by have := d7 hu; omega⟩
   ·rw [if_neg q0]
    have hdn := b6 (by unfold regIn; omega) q0
    exact ⟨w + w', 1, k', a2.trans b1', by omega, by omega, c2, c3, c1, fun hu => by rw [hdn] at hu; cases hu⟩
  rw [if_neg e3]
  rcases hpv with h | h | h | h
  ·exact absurd h e0
  ·exact ⟨0, 0, _, hp1 h, by omega, by omega, h1, hr1, qlc _, fun _ => by omega⟩
  ·have hdn := hpe h
   exact ⟨w, 1, _, a2, by omega, by omega, h1, hr1, qlc _, fun hu => by rw [hdn] at hu; cases hu⟩
  ·exact absurd h e3
theorem lput_wc {slot : Int} {d : List Int} : WC n sp 1 M (lput n sp M slot d).1 := by
 intro k hk hr
 unfold lput
 split
 ·rename_i hs
  split
  ·exact (WC.refl M).mono (by omega) k hk hr
  ·simp only
   split
   ·rename_i e3
    obtain ⟨⟨w, a1, a2⟩, a3, a4, a5, a6⟩ := qfp (M := M) (i := ((M.place n slot.toNat sp : Nat) : Int)) (d := d)
    have h1 := hk.same a3 a4
    have hkl := hk.kle
    rw [show M.next sp sp = k from hk.next]
    obtain ⟨w2, rep, k2, d1, d2, d3, d4, d5, d6, d7⟩ := lgo_wc (sp := sp) (slot := slot.toNat) (d := d) (n := n) (by omega) (sp - k) (M.put ((M.place n slot.toNat sp : Nat) : Int) d).1 (by omega) (by rw [show sp - (sp - k) = k by omega]; exact h1) (by rw [a3]; exact hr)
    exact ⟨w + w2, rep, k2, a2.trans d1, by omega, fun h => absurd h (by assumption), d4, d5, by omega, fun hu => by have := d7 hu; omega, fun hn => absurd e3 hn.put.1, by omega⟩
   ·exact put_wc k hk hr
 ·exact (WC.refl M).mono (by omega) k hk hr
end
section
variable {n sp per pt : Nat} {M : Mem}
theorem qhc : WC (n + 1) sp 2 M (tmove n sp M).1 := by
 unfold tmove
 simp only
 split
 ·exact (lput_wc (n := n + 1) (sp := sp)).trans (set_wc (n := n + 1) (sp := sp) (.inl (by omega)) (by omega))
 ·exact (lput_wc (n := n + 1) (sp := sp)).mono (by omega)
theorem tput_wc {line : Int} {d : List Int} : WC (n + 1) sp 3 M (tput n sp per M pt line d).1 := by
 unfold tput
 split
 ·split
  ·exact (WC.refl M).mono (by omega)
  ·split
   ·simp only
    split
    ·exact qhc.trans lput_wc
    ·exact qhc.mono (by omega)
   ·exact lput_wc.mono (by omega)
 ·exact (WC.refl M).mono (by omega)
theorem qdt : ∀ {l : List (Int × List Int)} {M : Mem} {pt : Nat}, WC (n + 1) sp (3 * l.length) M (tputs n sp per l M pt).1 := by
 intro l
 induction l with
 | nil => intro M pt; exact WC.refl M
 | cons q r ih =>
  intro M pt
  unfold tputs
  rw [List.length_cons]
  split
  ·exact (tput_wc.trans ih).mono (by omega)
  ·exact tput_wc.mono (by omega)
theorem fin_wc {l : List (Int × List Int)} : WC (n + 1) sp (3 * l.length + 1) M (finN n sp per l M pt).1 := by
 unfold finN
 simp only
 split
 ·exact qdt.trans (set_wc (.inl (by omega)) (by omega))
 ·split
  ·exact qdt.mono (by omega)
  ·exact qdt.mono (by omega)
theorem com_wc {l : List (Int × List Int)} : WC (n + 1) sp (3 * (idxN l.length + l.length) + 3 * l.length + 2) M (comN n sp per l M pt).1 := by
 have hlen : (rowsN l).length = idxN l.length + l.length := qbW l (qlc _)
 have hrp : (rowPuts l).length = idxN l.length + l.length := by unfold rowPuts; rw [qlX, List.length_range, hlen]
 unfold comN
 split
 ·exact (WC.refl M).mono (by omega)
 split
 ·exact (WC.refl M).mono (by omega)
 split
 ·exact (WC.refl M).mono (by omega)
 split
 ·exact qdt.mono (by rw [hrp]; omega)
 split
 ·exact (qdt.trans (set_wc (.inl (by omega)) (by omega))).mono (by rw [hrp]; omega)
 ·exact ((qdt.trans (set_wc (.inl (by omega)) (by omega))).trans fin_wc).mono (by rw [hrp]; omega)
theorem rec_wc : WC (n + 1) sp 43 M (recN n sp per M pt).1 := by
 unfold recN
 split
 ·exact (WC.refl M).mono (by omega)
 split
 ·exact (WC.refl M).mono (by omega)
 split
 ·exact (WC.refl M).mono (by omega)
 ·refine fin_wc.mono ?_
  have : (homesN n sp M).1.length ≤ 14 := by
   unfold homesN
   split
   ·simp
   ·split
    ·simp
    ·rw [qlX, List.length_range]; omega
  omega
end
section
variable {n sp : Nat}
theorem qkH {pd : Int} : ∀ {ls : List Int} {M : Mem} {now kept : List Int}, (∀ x ∈ ls, 0 ≤ x) → WC n sp ls.length M (notesN pd ls M now kept).1 := by
 intro ls
 induction ls with
 | nil => intro M now kept _; exact WC.refl M
 | cons a r ih =>
  intro M now kept h
  have ha := h a (by simp)
  have hr : ∀ x ∈ r, 0 ≤ x := fun x hx => h x (by simp [hx])
  unfold notesN
  rw [List.length_cons]
  split
  ·split
   ·exact ((set_wc (.inr (by omega)) (by omega)).trans (ih hr)).mono (by omega)
   ·exact (set_wc (.inr (by omega)) (by omega)).mono (by omega)
  ·exact (ih hr).mono (by omega)
variable {pa pb pc pd : Int} {s : HS} {ws : List Int} {root : Int} {mvb : Nat} {cb : Int}
theorem qkd {E : List (Int × Int)} : ∀ x ∈ eLines E, 0 ≤ x := fun x hx => by
 obtain ⟨e, _, h0, rfl⟩ := qcr.1 hx
 omega
theorem qe6 {E : List (Int × Int)} : WC (16 + pa.toNat + 1) pb.toNat (10 * (eLines E).length + 5) s.M (commitH pa pb pc pd ws E s).1.M := by
 have hhl : (homesC (applyE ws E) (eLines E)).length = (eLines E).length := by unfold homesC; rw [qlX]
 have hc := com_wc (n := 16 + pa.toNat) (sp := pb.toNat) (per := pc.toNat) (pt := s.pt) (M := s.M) (l := homesC (applyE ws E) (eLines E))
 rw [hhl] at hc
 have hi : idxN (eLines E).length ≤ (eLines E).length := by unfold idxN; omega
 unfold commitH
 simp only
 split
 ·exact hc.mono (by omega)
 ·exact (hc.trans (qkH qkd)).mono (by omega)
end
section
variable {pa pb pc pd : Int} {s : HS} {ws : List Int} {root : Int} {mvb : Nat} {cb : Int}
theorem qfv {b : Int} {n : Nat} : linesP 2 b n = 1 := by unfold linesP; rw [if_neg (by omega), if_neg (by omega), if_pos rfl]
theorem qjC {b : Int} {n n' : Nat} : linesP 1 b n = linesP 1 b n' := by unfold linesP; rw [if_pos rfl, if_pos rfl]
theorem qju {b b' : Int} {n : Nat} : linesP 4 b n = linesP 4 b' n := rfl
theorem qj7 {pd : Int} : ∀ {ls : List Int} {M : Mem} {now kept : List Int}, (notesN pd ls M now kept).2.2.2 ≠ 3 := by
 intro ls
 induction ls with
 | nil => intro M now kept; simp [notesN]
 | cons a r ih =>
  intro M now kept
  unfold notesN
  split
  ·split
   ·exact ih
   ·simp only
    unfold Mem.set
    split
    ·split
     ·simp
     ·exact qhn _
    ·simp
  ·exact ih
theorem qeQ {E : List (Int × Int)} (h : NL s.M) : (commitH pa pb pc pd ws E s).2 ≠ 3 := by
 have := (h.com (n := 16 + pa.toNat) (sp := pb.toNat) (per := pc.toNat) (pt := s.pt) (l := homesC (applyE ws E) (eLines E))).1
 unfold commitH
 simp only
 split
 ·exact this
 ·exact qj7
def DoC (K n : Int) (bl : Nat) (sp : Nat) (N : Nat) (M M' : Mem) (e : Int) : Prop :=
 M' = M ∨ (e ≠ 1 ∧ (NL M → e = 0 ∨ e = 2) ∧ (((K = 1 ∨ K = 2 ∨ K = 4) ∧ linesP K n bl ≠ 0 ∧ ∃ c : Nat, WC N sp c M M' ∧ (c : Int) ≤ 10 * linesP K n bl + 5) ∨ (K = 5 ∧ ∃ v, M' = (M.set 2 v).1)))
theorem DoC.same {K n : Int} {bl sp N : Nat} {M : Mem} {e : Int} : DoC K n bl sp N M M e := .inl rfl
theorem do_wc {K off n : Int} {bs : List Int} (hio : isI off) (h8 : qbx bs) (hp : HP pa pb pc pd s ws root mvb cb) (hb : mvb + 2000 < 4611686018427387904) (hcb : cb + 100 < 4611686018427387904) :
  DoC K n bs.length pb.toNat (16 + pa.toNat + 1) s.M (doH pa pb pc pd s K off n bs).1.M (doH pa pb pc pd s K off n bs).2.1 := by
 cases hup : s.M.down with
 | true => rw [do_down hup]; exact DoC.same
 | false =>
 unfold doH
 by_cases k1 : K = 1
 ·rw [if_pos k1]
  simp only
  obtain ⟨c1, c2, c3, c4, c5⟩ := qfn (n := n) hp hup hb hcb
  -- it is the state as it was, or a commit
  have hA : (allocH pa pb pc pd s n).1 = s ∨ (needN n ≠ 0 ∧ (imgAlloc ws n s.now).2.2 = 0 ∧ (allocH pa pb pc pd s n).1 = (commitH pa pb pc pd ws (imgAlloc ws n s.now).1 s).1 ∧ (allocH pa pb pc pd s n).2.1 = (commitH pa pb pc pd ws (imgAlloc ws n s.now).1 s).2) := by
   unfold allocH
   rw [if_neg (by simp [hup]), hp.words hup]
   by_cases h0 : needN n = 0
   ·rw [if_pos h0]; exact .inl rfl
   rw [if_neg h0]
   by_cases hs : s.stuck
   ·rw [if_pos hs]; exact .inl rfl
   rw [if_neg hs]
   by_cases he : (imgAlloc ws n s.now).2.2 ≠ 0
   ·rw [if_pos he]; exact .inl rfl
   rw [if_neg he]
   exact .inr ⟨h0, by simpa using he, rfl, rfl⟩
  rcases hA with hA | ⟨hn0, hE, hA, hA2⟩
  ·rw [hA]; exact DoC.same
  have hml := (qeo (ws := ws) (n := n) (cs := s.now)).most
  have e1 : linesP K n bs.length = linesP 1 n 0 := by rw [k1]; exact qjC
  have hn : 1 ≤ n ∧ n ≤ 448 := by
   unfold needN at hn0
   by_cases h : 1 ≤ n ∧ n ≤ 448
   ·exact h
   ·rw [if_neg h] at hn0; exact absurd rfl hn0
  have hl : linesP 1 n 0 = n / 64 + 4 := by unfold linesP; rw [if_pos rfl, if_pos (by omega)]
  have hne1 : (allocH pa pb pc pd s n).2.1 ≠ 1 := by
   rcases c1 with ⟨a, _⟩ | ⟨a, _⟩ | ⟨a, _⟩ | ⟨a, _⟩ <;> omega
  refine .inr ⟨hne1, fun hnl => ?_, .inl ⟨.inl k1, by omega, 10 * (eLines (imgAlloc ws n s.now).1).length + 5, by rw [hA]; exact qe6, by omega⟩⟩
  have h3 := qeQ (pa := pa) (pb := pb) (pc := pc) (pd := pd) (ws := ws) (E := (imgAlloc ws n s.now).1) hnl
  rw [← hA2] at h3
  rcases c1 with ⟨a, _⟩ | ⟨a, _⟩ | ⟨a, _⟩ | ⟨a, _⟩ <;> omega
 rw [if_neg k1]
 by_cases k2 : K = 2
 ·rw [if_pos k2]
  simp only
  obtain ⟨c1, c2, c3⟩ := qhf (off := off) hp hup hb hcb
  have hF : (freeH pa pb pc pd s off).1 = s ∨ (errFree ws root off = 0 ∧ (freeH pa pb pc pd s off) = (commitH pa pb pc pd ws (imgFree ws off).1 s)) := by
   unfold freeH errFree
   rw [if_neg (by simp [hup]), hp.words hup, hp.rootN.1]
   by_cases he : (imgFree ws off).2 ≠ 0
   ·rw [if_pos he]; exact .inl rfl
   rw [if_neg he, if_neg he]
   by_cases hr : root = off
   ·rw [if_pos hr]; exact .inl rfl
   rw [if_neg hr, if_neg hr]
   by_cases hs : s.stuck
   ·rw [if_pos hs]; exact .inl rfl
   rw [if_neg hs]
   exact .inr ⟨rfl, rfl⟩
  rcases hF with hA | ⟨hE, hA⟩
  ·rw [hA]; exact DoC.same
  have hml := (qeu (ws := ws) (off := off)).most
  have e0 : linesP 2 0 0 = 1 := qfv
  have e1 : linesP K n bs.length = 1 := by rw [k2]; exact qfv
  have hne1 : (freeH pa pb pc pd s off).2 ≠ 1 := by
   rcases c1 with ⟨a, _⟩ | ⟨a, _⟩ | ⟨a, _⟩ | ⟨a, _⟩ <;> omega
  refine .inr ⟨hne1, fun hnl => ?_, .inl ⟨.inr (.inl k2), by omega, 10 * (eLines (imgFree ws off).1).length + 5, by rw [hA]; exact qe6, by omega⟩⟩
  have h3 := qeQ (pa := pa) (pb := pb) (pc := pc) (pd := pd) (ws := ws) (E := (imgFree ws off).1) hnl
  rw [← hA] at h3
  rcases c1 with ⟨a, _⟩ | ⟨a, _⟩ | ⟨a, _⟩ | ⟨a, _⟩ <;> omega
 rw [if_neg k2]
 by_cases k3 : K = 3
 ·rw [if_pos k3]; exact DoC.same
 rw [if_neg k3]
 by_cases k4 : K = 4
 ·rw [if_pos k4]
  simp only
  obtain ⟨c1, c2, c3, c4, c5⟩ := qgB (off := off) (bs := bs) h8 hp hup hb hcb
  have hF : (writeH pa pb pc pd s off bs).1 = s ∨ ((imgWrite ws off bs).2 = 0 ∧ (writeH pa pb pc pd s off bs) = (commitH pa pb pc pd ws (imgWrite ws off bs).1 s)) := by
   unfold writeH
   rw [if_neg (by simp [hup]), hp.words hup]
   by_cases he : (imgWrite ws off bs).2 ≠ 0
   ·rw [if_pos he]; exact .inl rfl
   rw [if_neg he]
   by_cases hz : (imgWrite ws off bs).1.length = 0
   ·rw [if_pos hz]; exact .inl rfl
   rw [if_neg hz]
   by_cases hs : s.stuck
   ·rw [if_pos hs]; exact .inl rfl
   rw [if_neg hs]
   exact .inr ⟨by simpa using he, rfl⟩
  rcases hF with hA | ⟨hE, hA⟩
  ·rw [hA]; exact DoC.same
  have hml := (qed (ws := ws) hp.ok.len.2.2 (off := off) (bs := bs)).most
  have hbl : (bs.length : Int) ≤ 448 := by
   have hA' : aWrite ws off bs = (0, applyE ws (imgWrite ws off bs).1) := by unfold aWrite; rw [if_pos hE]
   obtain ⟨e, h⟩ := hp.ok
   by_cases hw : 0 ≤ (bs.length : Int) ∧ (bs.length : Int) ≤ 448 ∧ ∃ x ∈ e, (x.1 + 1) * 8 ≤ off ∧ off + bs.length ≤ (x.1 + x.2.1) * 8
   ·exact hw.2.1
   ·rw [h.wr0 hw] at hA'; simp at hA'
  have e1 : linesP K n bs.length = linesP 4 0 bs.length := by rw [k4]; exact qju
  have hl : linesP 4 0 bs.length = (bs.length : Int) / 64 + 2 := by unfold linesP; rw [if_neg (by omega), if_pos rfl, if_pos (by omega)]
  have hne1 : (writeH pa pb pc pd s off bs).2 ≠ 1 := by
   rcases c1 with ⟨a, _⟩ | ⟨a, _⟩ | ⟨a, _⟩ | ⟨a, _⟩ <;> omega
  refine .inr ⟨hne1, fun hnl => ?_, .inl ⟨.inr (.inr k4), by omega, 10 * (eLines (imgWrite ws off bs).1).length + 5, by rw [hA]; exact qe6, by omega⟩⟩
  have h3 := qeQ (pa := pa) (pb := pb) (pc := pc) (pd := pd) (ws := ws) (E := (imgWrite ws off bs).1) hnl
  rw [← hA] at h3
  rcases c1 with ⟨a, _⟩ | ⟨a, _⟩ | ⟨a, _⟩ | ⟨a, _⟩ <;> omega
 rw [if_neg k4]
 by_cases k5 : K = 5
 ·rw [if_pos k5]
  simp only
  have hF : (setRootH pa pb s off).1 = s ∨ setRootH pa pb s off = ({ s with M := (s.M.set 2 (qk3 .u64 off)).1 }, (s.M.set 2 (qk3 .u64 off)).2) := by
   unfold setRootH
   rw [if_neg (by simp [hup])]
   split
   ·exact .inl rfl
   ·split
    ·exact .inl rfl
    ·exact .inr rfl
  rcases hF with hA | hA
  ·rw [hA]; exact DoC.same
  rw [hA]
  simp only
  have hv : (s.M.set 2 (qk3 .u64 off)).2 = 0 ∨ (s.M.set 2 (qk3 .u64 off)).2 = 2 := by
   unfold Mem.set
   rw [if_pos (show regIn 2 by unfold regIn; omega), if_neg (by simp [hup])]
   unfold Mem.told
   simp only
   split <;> simp
  exact .inr ⟨by omega, fun _ => hv, .inr ⟨k5, _, rfl⟩⟩
 rw [if_neg k5]
 by_cases k6 : K = 6
 ·rw [if_pos k6]
  split <;> exact DoC.same
 ·rw [if_neg k6]; exact DoC.same
theorem LV.uniq {M : Mem} {n sp k k' : Nat} (h : LV M n sp k) (h' : LV M n sp k') : k = k' := by
 have h1 := h.left
 have h2 := h'.left
 have := h.kle
 have := h'.kle
 omega
theorem LV.power {M : Mem} {n sp k : Nat} (h : LV M n sp k) : LV M.power n sp k := h.same rfl rfl
structure TwC (K n : Int) (bl sp N : Nat) (M M' : Mem) (e : Int) (w rep k k' : Nat) : Prop where
 lv : LV M N sp k
 lv' : LV M' N sp k'
 le : k ≤ k'
 wr : Wr w M M'
 up : M'.down = false → k + rep ≤ k'
 nl : NL M → rep = 0 ∧ NL M'
 r17 : rep ≤ 17
 st : K = 8 → w ≤ 43 + 2 * rep
 op : K ≠ 8 → w = 0 ∨ (e ≠ 1 ∧ (NL M → e = 0 ∨ e = 2) ∧ (((K = 1 ∨ K = 2 ∨ K = 4) ∧ linesP K n bl ≠ 0 ∧ (w : Int) ≤ 10 * linesP K n bl + 5 + 2 * rep) ∨ (K = 5 ∧ w ≤ 1)))
theorem tw_wc {T : TS} {K off n mask : Int} {bs : List Int} (h : TW pa pb pc pd T mvb cb) (hio : isI off) (h8 : qbx bs) (hb : mvb + 2000 < 4611686018427387904) (hcb : cb + 100 < 4611686018427387904) :
  ∃ w rep k k' : Nat, TwC K n bs.length pb.toNat (16 + pa.toNat + 1) T.s.M (twDoes pa pb pc pd T K off n mask bs).1.s.M (twDoes pa pb pc pd T K off n mask bs).2.1 w rep k k' := by
 obtain ⟨ws0, root0, hMP⟩ := h.mp
 obtain ⟨k, hlv⟩ := hMP.lv
 have hreg := hMP.mok.regs
 unfold twDoes
 by_cases k7 : K = 7
 ·rw [if_pos k7]
  exact ⟨0, 0, k, k, hlv, hlv.same rfl rfl, qlc _, fun _ _ => by simp [Mem.setCut], fun _ => qlc _, fun hn => ⟨rfl, hn.cs rfl⟩, by omega, fun hh => by omega, fun _ => .inl rfl⟩
 rw [if_neg k7]
 by_cases k8 : K = 8
 ·rw [if_pos k8]
  have hR : (twOpen pa pb pc pd T.s.M.power T.s).1.s.M = (recN (16 + pa.toNat) pb.toNat pc.toNat T.s.M.power 0).1 := by
   unfold twOpen
   split <;> rfl
  obtain ⟨w, rep, k', a1, a2, a3, a4, a5, a6, a7, a8, a9⟩ := rec_wc (n := 16 + pa.toNat) (sp := pb.toNat) (per := pc.toNat) (pt := 0) (M := T.s.M.power) k hlv.power hreg
  have h16 := hlv.sp16
  refine ⟨w, rep, k, k', hlv, ?_, a6, ?_, ?_, ?_, by omega, fun _ => by omega, fun hh => absurd k8 hh⟩
  ·simp only; rw [hR]; exact a4
  ·simp only; rw [hR]; exact fun h0 h1 => a1 h0 h1
  ·simp only; rw [hR]; exact a7
  ·simp only; rw [hR]; exact fun hn => a8 (hn.cs rfl)
 rw [if_neg k8]
 by_cases ho : T.on = false
 ·rw [if_pos ho]
  exact ⟨0, 0, k, k, hlv, hlv, qlc _, Wr.refl _, fun _ => qlc _, fun hn => ⟨rfl, hn⟩, by omega, fun hh => absurd hh k8, fun _ => .inl rfl⟩
 rw [if_neg ho]
 obtain ⟨ws, root, hP⟩ := h.1 (by simpa using ho)
 simp only
 rcases do_wc (K := K) (off := off) (n := n) (bs := bs) hio h8 hP hb hcb with hc | ⟨h1, h2, ⟨h3, h4, c, h5, h6⟩ | ⟨h3, v, h4⟩⟩
 ·rw [hc]
  exact ⟨0, 0, k, k, hlv, hlv, qlc _, Wr.refl _, fun _ => qlc _, fun hn => ⟨rfl, hn⟩, by omega, fun hh => absurd hh k8, fun _ => .inl rfl⟩
 ·obtain ⟨w, rep, k', a1, a2, a3, a4, a5, a6, a7, a8, a9⟩ := h5 k hlv hreg
  have h16 := hlv.sp16
  exact ⟨w, rep, k, k', hlv, a4, a6, a1, a7, a8, by omega, fun hh => absurd hh k8, fun _ => .inr ⟨h1, h2, .inl ⟨h3, h4, by omega⟩⟩⟩
 ·obtain ⟨⟨w, a1, a2⟩, _⟩ := qdd (M := T.s.M) (i := 2) (v := v)
  rw [h4]
  exact ⟨w, 0, k, k, hlv, hlv.setOut (.inl (by omega)) (by omega), qlc _, a2, fun _ => qlc _, fun hn => ⟨rfl, hn.set.2⟩, by omega, fun hh => absurd hh k8, fun _ => .inr ⟨h1, h2, .inr ⟨h3, a1⟩⟩⟩
end
section
variable {H : AH} {pa pb pc pd : Int}
theorem qh3 {M : Mem} {n sp k : Nat} (h : LV M n sp k) (hup : M.down = false) : lleft M sp = sp - k := by
 unfold lleft; rw [if_neg (by simp [hup]), h.left]
theorem qkY {limits : List Int} (hmay : mayP pa pb pc pd = true) (he : (formN pa pb pc limits).2.2 = 0) :
  0 ≤ (twStart pa pb pc pd limits).s.M.writes ∧ (twStart pa pb pc pd limits).s.M.writes ≤ 100 ∧ (limits = [] → (twStart pa pb pc pd limits).s.M.writes ≤ 3) := by
 have hm := qN.1 hmay
 obtain ⟨_, _, _, _, _, eM⟩ := qf0 hmay he
 rw [eM]
 have hlv := new_lv (limits := limits) (pa := pa) (pb := pb) (by omega)
 have hw := tput_wc (n := 16 + pa.toNat) (sp := pb.toNat) (per := pc.toNat) (pt := 0) (M := Mem.new (16 + pa.toNat + 1 + pb.toNat) limits) (line := 16) (d := lineOf (firstN (8 * pa)) 0)
 obtain ⟨w, rep, k', a1, a2, a3, a4, a5, a6, a7, a8, a9⟩ := hw _ hlv (by simp [Mem.new])
 have h16 := hlv.sp16
 have e := a1 (by simp [Mem.new]) (by simp [Mem.new]; omega)
 have e0 : (Mem.new (16 + pa.toNat + 1 + pb.toNat) limits).writes = 0 := rfl
 have eF : (formN pa pb pc limits).1 = (tput (16 + pa.toNat) pb.toNat pc.toNat (Mem.new (16 + pa.toNat + 1 + pb.toNat) limits) 0 16 (lineOf (firstN (8 * pa)) 0)).1 := rfl
 rw [eF, e, e0]
 refine ⟨by omega, by omega, fun hl => ?_⟩
 subst hl
 have := (a8 NL.new).1
 omega
theorem qdW {a b : Int} {w : Nat} (h : b = a + w) (hw : (w : Int) ≤ 1000000) : qk3 .i64 (b - a) = (w : Int) := by
 rw [h, show a + (w : Int) - a = (w : Int) by omega, qe (by omega) (by omega)]
theorem qjq {x5 : Sl} {l : List OpR} {H0 : AH} {G : Nat → Prop} {t p c k : Nat} {L : Pl} {T : TS} (hr : Abs.Rows H0 x5 5 opRV l) (hok : ∀ d ∈ l, opROK H0 d) (hl : l.length ≤ 80) (hk0 : qa H0 H) (hsl : ∀ d ∈ l, d.sl.n ≤ 500) (hpb : 0 ≤ pb ∧ pb ≤ 16)
  (hT : TwAt G H t p c L pa pb pc pd T 0) (hW : TW pa pb pc pd T 15 0) (lo : ∀ x, G x → H0.size ≤ x) (hlv : LV T.s.M (16 + pa.toNat + 1) pb.toNat k) (hw0 : 0 ≤ T.s.M.writes) (hw1 : T.s.M.writes ≤ 100)
  (aw : ∀ H', qf.j1 (fun r _ => r = true) H') :
  loopT (qf.l6 x5 (fun r _ => r = true) (some ⟨t, 0, none⟩)) ((false, (((pb.toNat - k : Nat)) : Int), (0 : Int)) : Bool × Int × Int) H := by
 refine qI (t := ((false, (((pb.toNat - k : Nat)) : Int), (0 : Int)) : Bool × Int × Int)) (I := fun (t' : Bool × Int × Int) H' => ∃ (i : Nat) (G : Nat → Prop) (L : Pl) (T : TS) (cost : Int) (left k : Nat), t' = (false, (left : Int), (i : Int)) ∧ i ≤ l.length ∧ qa H0 H' ∧ TwAt G H' t p c L pa pb pc pd T cost ∧ TW pa pb pc pd T (15 + 40 * i) (14 * i) ∧ (∀ x, G x → H0.size ≤ x) ∧ LV T.s.M (16 + pa.toNat + 1) pb.toNat k ∧ pb.toNat - k ≤ left ∧ left ≤ 16 ∧ 0 ≤ T.s.M.writes ∧ T.s.M.writes ≤ 100 + 300 * i) (m := fun (t' : Bool × Int × Int) _ => Int.toNat ((l.length : Int) - t'.2.2)) ?_
  ⟨0, G, L, T, 0, _, k, rfl, by omega, hk0, hT, hW, lo, hlv, qlc _, by omega, hw0, by omega⟩
 clear hT hW lo hlv hw0 hw1 hk0
 rintro ⟨q1, q2, q3⟩ H8 ⟨i, G, L, T, cost, left, k, e1, hi, hk8, hT, hW, lo, hlv, hlk, hl16, hw0, hw1⟩ it hit
 injection e1 with e1 e2
 injection e2 with e2 e3
 subst e1 e2 e3
 unfold qf.l6
 rw [hr.1]
 simp only
 by_cases hlt : (i : Int) < (l.length : Int)
 rotate_left 1
 ·rw [decide_eq_false hlt, qc]
  exact aw _
 rw [decide_eq_true hlt, qh]
 have hi' : i < l.length := by omega
 obtain ⟨b, o, ha, hb, hcells⟩ := qbv (hr.keep hk8) (by omega)
 refine ⟨by omega, ?_⟩
 rw [ha, qd, qk9, qr (hcells i _ (List.getElem?_eq_getElem hi')).1]
 have hd := hok _ (List.getElem_mem hi')
 have hdn := hsl _ (List.getElem_mem hi')
 generalize l[i] = d at *
 have hdl : d.sl.n = d.bs.length := hd.rows.1
 refine qb8 (n := 5) rfl rfl rfl ?_
 have hO : OpAt (H8.push ⟨opRV d, .rw, 0⟩) H8.size d.K d.off d.n d.c d.sl := OpAt.new
 have hkp : qa H8 (H8.push ⟨opRV d, .rw, 0⟩) := (qa.refl H8).push _
 have hzp : (H8.push ⟨opRV d, .rw, 0⟩).size = H8.size + 1 := by simp [qj]
 generalize H8.push ⟨opRV d, .rw, 0⟩ = H9 at *
 have hT9 := hT.keeps hkp
 have hk9 := hk8.trans hkp
 refine qdP.s hT9 (qR.s hT9.m ?_)
 rw [qr hO.row]
 refine qhg.s (K := d.K) (off := d.off) (n := d.n) (mask := d.c) (x := d.sl) (bs := d.bs) hT9 hW (by omega) (by omega) hd.off hd.n (hd.rows.keep hk9) hd.u8 ?_
 obtain ⟨w, rep, kk, k', hC⟩ := tw_wc (K := d.K) (off := d.off) (n := d.n) (mask := d.c) (bs := d.bs) hW hd.off hd.u8 (by omega) (by omega)
 have hW' := hW.does (K := d.K) (off := d.off) (n := d.n) (mask := d.c) (bs := d.bs) hd.off hd.n hd.u8 (by omega) (by omega)
 have hkk := hlv.uniq hC.lv
 subst hkk
 have hlp := qcT d.K d.n d.bs.length
 have hr17 := hC.r17
 have hwb : w ≤ 190 := by
  by_cases k8 : d.K = 8
  ·have := hC.st k8; omega
  ·rcases hC.op k8 with h | ⟨_, _, ⟨_, _, h⟩ | ⟨_, h⟩⟩ <;> omega
 have hwr : (twDoes pa pb pc pd T d.K d.off d.n d.c d.bs).1.s.M.writes = T.s.M.writes + w := hC.wr hw0 (by omega)
 have htc : twCost pa pb pc pd T d.K d.off d.n d.c d.bs = (w : Int) := by unfold twCost; exact qdW hwr (by omega)
 rw [htc]
 generalize twDoes pa pb pc pd T d.K d.off d.n d.c d.bs = R at *
 intro G' H62 L' x62 hu hT62 hO62 hn62
 have hz62 := hu.1.1
 have nO : ¬ G H8.size := fun hh => by have := hT.gl _ hh; omega
 refine qb8 (n := 3) rfl rfl rfl ?_
 have hA : AnAt (H62.push ⟨anV R.2.1 R.2.2.1 x62, .rw, 0⟩) H62.size R.2.1 R.2.2.1 x62 := AnAt.new
 have hk63 : qa H62 (H62.push ⟨anV R.2.1 R.2.2.1 x62, .rw, 0⟩) := (qa.refl H62).push _
 generalize H62.push ⟨anV R.2.1 R.2.2.1 x62, .rw, 0⟩ = H63 at *
 have hT63 := hT62.keeps hk63
 have hO63 : OpAt H63 H8.size d.K d.off d.n d.c d.sl := (hO.keep (hu.1.2 _ (by omega) nO)).keep (hk63.2 _ (by omega))
 have hkall : qa H0 H63 := (hu.1.base hk9 lo).trans hk63
 refine qdP.s hT63 (qR.s hT63.m (qi5.s hT63 ?_))
 rw [qdW hwr (by omega), show ((w : Int) != (w : Int)) = false by simp, qc, decide_eq_false (show ¬ (w : Int) < 0 by omega)]
 -- the next round
 have go : ∀ (left' : Nat), pb.toNat - k' ≤ left' → left' ≤ 16 → ∀ H', H' = H63 → it (false, (left' : Int), qk3 .i64 ((i : Int) + 1)) H' := by
  rintro left' h1 h2 H' rfl
  rw [qe (n := (i : Int) + 1) (by omega) (by omega)]
  refine hit _ _ ⟨i + 1, G', L', R.1, _, left', k', by simp, by omega, hkall, hT63, ?_, fun x hx => ?_, hC.lv', h1, h2, by omega, by omega⟩ (by simp only; omega)
  ·have q1 : 15 + 40 * (i + 1) = 15 + 40 * i + 40 := by omega
   have q2 : (14 : Int) * ((i + 1 : Nat) : Int) = 14 * (i : Int) + 14 := by omega
   rw [q1, q2]; exact hW'
  ·rcases hu.2 x hx with hx | hx
   ·exact lo x hx
   ·have := hk9.1; omega
 have hle := hC.le
 unfold qf.j5
 rw [qc]
 refine qdP.s hT63 (qP.s hT63.m ?_)
 cases hup : R.1.s.M.down with
 | true =>
  rw [qh]
  unfold qf.j4
  rw [qh]
  exact go left (by omega) hl16 _ rfl
 | false =>
  rw [qc]
  refine qez.s hT63 ?_
  cases hon : R.1.on with
  | false =>
   rw [if_neg (by simp), Option.isNone_none]
   unfold qf.j4
   rw [qh]
   exact go left (by omega) hl16 _ rfl
  | true =>
   rw [if_pos rfl, qlj]
   unfold qf.j4
   rw [qc]
   refine qez.s hT63 ?_
   rw [hon, if_pos rfl]
   obtain ⟨hA63, _⟩ := hT63.hp hon
   refine qgX.s hA63 (qgW.s (HAt.ga hA63).tn ?_)
   rw [qh3 hC.lv' hup]
   have hrep := hC.up hup
   have go' := go (pb.toNat - k') (qlc _) (by omega) H63 rfl
   rw [hO63.c0, qi]
   by_cases k8 : d.K = 8
   ·rw [show (d.K == 8) = true by simpa using k8, qh]
    refine qaf.s ?_
    have := hC.st k8
    rw [show recP 16 = 256 from rfl, qdW hwr (by omega), decide_eq_false (show ¬ (w : Int) > 256 by omega), qc]
    exact go'
   rw [show (d.K == 8) = false by simpa using k8, qc, qi]
   have zero : (d.K = 7 ∨ d.K = 3 ∨ d.K = 6) → qf.j3 (fun r _ => r = true) (false, (left : Int), (i : Int)) it H8.size T.s.M.writes H62.size R.1.s.M.writes H63 (((pb.toNat - k' : Nat)) : Int) true := by
    intro hK
    have hw00 : w = 0 := by
     rcases hC.op k8 with h | ⟨_, _, ⟨h, _⟩ | ⟨h, _⟩⟩
     ·exact h
     ·omega
     ·omega
    unfold qf.j3
    rw [qh, qdW hwr (by omega), hw00, show (((0 : Nat) : Int) != 0) = false from rfl, qc]
    exact go'
   by_cases k7 : d.K = 7
   ·rw [show (d.K == 7) = true by simpa using k7, qh]; exact zero (.inl k7)
   rw [show (d.K == 7) = false by simpa using k7, qc, qi]
   by_cases k3 : d.K = 3
   ·rw [show (d.K == 3) = true by simpa using k3, qh]; exact zero (.inr (.inl k3))
   rw [show (d.K == 3) = false by simpa using k3, qc, qi]
   by_cases k6 : d.K = 6
   ·rw [show (d.K == 6) = true by simpa using k6]; exact zero (.inr (.inr k6))
   rw [show (d.K == 6) = false by simpa using k6]
   unfold qf.j3
   rw [qc, qr hO63.row]
   have hmm : (if (16 : Int) < (if qk3 .i64 ((left : Int) - (((pb.toNat - k' : Nat)) : Int)) > (0 : Int) then qk3 .i64 ((left : Int) - (((pb.toNat - k' : Nat)) : Int)) else (0 : Int)) then (16 : Int) else (if qk3 .i64 ((left : Int) - (((pb.toNat - k' : Nat)) : Int)) > (0 : Int) then qk3 .i64 ((left : Int) - (((pb.toNat - k' : Nat)) : Int)) else (0 : Int))) = (((left - (pb.toNat - k') : Nat)) : Int) := by
    have hlek : (((pb.toNat - k' : Nat)) : Int) ≤ (left : Int) := by omega
    rw [qe (by omega) (by omega)]
    split
    ·split at * <;> omega
    ·split <;> omega
   rw [hmm]
   have hrl : rep ≤ left - (pb.toNat - k') := by have := hlv.kle; have := hC.lv'.kle; omega
   refine cost_Op.s ?_
   rw [hdl, qdW hwr (by omega)]
   -- it costs no more
   have hcost : R.2.1 ≠ 1 → (w : Int) ≤ costP d.K d.n d.bs.length (((left - (pb.toNat - k') : Nat)) : Int) := by
    intro hne
    have h0 := (qcV (K := d.K) (b := d.n) (sl := ⟨none, d.bs.length, 0⟩)).1
    simp only at h0
    unfold costP
    rw [if_pos (by omega)]
    rcases hC.op k8 with h | ⟨_, _, ⟨h1, h2, h3⟩ | ⟨h1, h3⟩⟩
    ·rw [h]; split
     ·omega
     ·split <;> omega
    ·rw [if_neg (by omega), if_neg h2]; omega
    ·rw [if_pos h1]; omega
   have hc0 : 0 ≤ costP d.K d.n d.bs.length (((left - (pb.toNat - k') : Nat)) : Int) := by
    have h0 := (qcV (K := d.K) (b := d.n) (sl := ⟨none, d.bs.length, 0⟩)).1
    simp only at h0
    unfold costP
    rw [if_pos (by omega)]
    split
    ·omega
    ·split <;> omega
   have hw1' : R.2.1 = 1 → w = 0 := fun h1 => by
    rcases hC.op k8 with h | ⟨h, _⟩
    ·exact h
    ·exact absurd h1 h
   have hle' : ¬ (w : Int) > costP d.K d.n d.bs.length (((left - (pb.toNat - k') : Nat)) : Int) := by
    by_cases h1 : R.2.1 = 1
    ·have := hw1' h1; omega
    ·have := hcost h1; omega
   rw [decide_eq_false hle', qc, hA.c0, qi]
   by_cases h1 : R.2.1 = 1
   ·rw [show (R.2.1 == 1) = true by simpa using h1, qh, hw1' h1, show (((0 : Nat) : Int) != 0) = false from rfl]
    unfold qf.j2
    rw [qc]
    exact go'
   ·rw [show (R.2.1 == 1) = false by simpa using h1, qc]
    unfold qf.j2
    rw [qc]
    exact go'
theorem qf.t {x0 x1 x2 x3 : Int} {x4 x5 : Sl} {limits : List Int} {l : List OpR} (_ : (Lit.int .i64 x0).wf = true) (_ : (Lit.int .i64 x1).wf = true) (_ : (Lit.int .i64 x2).wf = true) (_ : (Lit.int .i64 x3).wf = true)
  (hr1 : Abs.Rows H x4 1 iV limits) (_ : ∀ v ∈ limits, isI v) (_ : limits.length ≤ maxLen) (hr : Abs.Rows H x5 5 opRV l) (hok : ∀ d ∈ l, opROK H d) (_ : l.length ≤ maxLen) : qf (pl x0 x1 x2 x3) x4 x5 H (fun r _ => r = true) := by
 refine qf.link ?_
 unfold qf.b
 rw [qs]
 have hk1 : qa H (H.push ⟨pl x0 x1 x2 x3, .rw, 0⟩) := (qa.refl H).push _
 have g1 : (H.push ⟨pl x0 x1 x2 x3, .rw, 0⟩).get H.size = ⟨pl x0 x1 x2 x3, .rw, 0⟩ := by rw [qo, if_pos rfl]
 generalize H.push ⟨pl x0 x1 x2 x3, .rw, 0⟩ = H1 at *
 refine qu.s (l := l) (hr.keep hk1) ?_ ?_
 rotate_left 1
 ·intro v hv
  rw [decide_eq_true hv, qh]
  exact qcH rfl
 intro hsl hl80 _
 rw [show (decide ((0 : Int) > 0)) = false from rfl, qc, qdu g1 0, qdu g1 1, qdu g1 2, qdu g1 3]
 refine ⟨x0, rfl, x1, rfl, x2, rfl, x3, rfl, ?_⟩
 refine qaP.s fun pa pb pc pd r1 r2 r3 r4 => ?_
 have hmay := qi1 r1 r2 r3 r4
 refine qbQ.s (hr1.keep hk1) (fun h => by rw [hmay] at h; cases h) ?_ ?_
 ·intro _ he H33 hk33
  have hl : limits ≠ [] := fun hl => by subst hl; rw [qfq hmay] at he; exact absurd he (by decide)
  have : 0 < limits.length := List.length_pos_iff.2 hl
  rw [Option.isNone_none, qh, show ((3 : Int) != 1) = true from rfl, qh, hr1.1, decide_eq_true (by omega), qh]
  exact qcH rfl
 intro _ he G H33 t p c L hk33 lo hT hW
 rw [qlj, qc]
 refine qez.s hT ?_
 obtain ⟨hP, hup, hcut, hns, _, _⟩ := qf0 hmay he
 obtain ⟨w0, w1, _⟩ := qkY hmay he
 obtain ⟨k, hlv⟩ := hP.ps.lv
 have hon : (twStart pa pb pc pd limits).on = true := rfl
 rw [hon, if_pos rfl]
 obtain ⟨hA, _⟩ := hT.hp hon
 refine qgX.s hA (qgW.s (HAt.ga hA).tn ?_)
 rw [qh3 hlv hup]
 have ok1 : ∀ d ∈ l, opROK H1 d := fun d hd => ⟨(hok d hd).off, (hok d hd).n, (hok d hd).rows.keep hk1, (hok d hd).u8⟩
 exact qjq (H0 := H1) (hr.keep hk1) ok1 hl80 hk33 hsl r2 hT hW lo hlv w0 w1 fun H' => by unfold qf.j1; exact qcH rfl
end
end Go.Proofs.YtdcbkjgoaknmkaaGreat
