import Derived.Test.YtgechnnadjonaabT3
set_option linter.all false
set_option linter.all false
namespace Go.Proofs.Ytgechnnadjonaab
open Go Go.Abs

theorem div_succ {P per : Nat} (h : 1 ≤ per) : (P + 1) / per = P / per + (if P % per + 1 = per then 1 else 0) ∧ (P + 1) % per = (if P % per + 1 = per then 0 else P % per + 1) := by
  have h0 := Nat.div_add_mod P per
  have hm := Nat.mod_lt P (show per > 0 by omega)
  by_cases hp : P % per + 1 = per
  · rw [if_pos hp, if_pos hp]
    have e : P + 1 = per * (P / per + 1) := by rw [Nat.mul_add]; omega
    rw [e, Nat.mul_div_cancel_left _ (by omega), Nat.mul_mod_right]
    exact ⟨rfl, rfl⟩
  · rw [if_neg hp, if_neg hp]
    have e : P + 1 = (P % per + 1) + per * (P / per) := by omega
    have e1 : ((P % per + 1) + per * (P / per)) / per = P / per := by
      rw [Nat.add_mul_div_left _ _ (by omega), Nat.div_eq_of_lt (by omega)]; omega
    have e2 : ((P % per + 1) + per * (P / per)) % per = P % per + 1 := by
      rw [Nat.add_mul_mod_self_left, Nat.mod_eq_of_lt (by omega)]
    rw [← e] at e1 e2
    exact ⟨by omega, e2⟩

/-- Lines that go round, and what they should hold. -/
structure K9 (H0 H : AH) (t x p c n sp period puts o : Nat) (M : Mem) (ws : List (List Int)) (k : Nat) : Prop where
  keeps : Keeps H0 H
  tn : TAt H t x p c n sp period puts M
  w : WantAt H o ws
  wl : ws.length = n
  low : H0.size ≤ t ∧ H0.size ≤ p ∧ H0.size ≤ c ∧ H0.size ≤ o
  op : o ≠ t ∧ o ≠ p ∧ o ≠ c ∧ o ≠ x
  lv : LV M (n + 1) sp k
  cut : M.cut = -1
  up : M.down = false
  view : ∀ s, s < n → M.tview n sp s = ws.getD s []

section
variable {H0 H H' : AH} {t x p c n sp period puts puts' o k : Nat} {M M' : Mem} {ws : List (List Int)}
theorem K9.push (h : K9 H0 H t x p c n sp period puts o M ws k) (ob : AObj) : K9 H0 (H.push ob) t x p c n sp period puts o M ws k :=
  ⟨h.keeps.push _, h.tn.push _, h.w.push _, h.wl, h.low, h.op, h.lv, h.cut, h.up, h.view⟩
theorem K9.left (h : K9 H0 H t x p c n sp period puts o M ws k) : lleft M sp = sp - k := by unfold lleft; rw [if_neg (by simp [h.up]), h.lv.left]
theorem K9.get (h : K9 H0 H t x p c n sp period puts o M ws k) {i : Nat} (hi : i < n) : tget n sp M i = (ws.getD i [], 0) := by
  unfold tget
  rw [if_pos ⟨by omega, by omega⟩, if_neg (by simp [h.up]), Int.toNat_natCast, h.view i hi]
theorem tput_out {line : Int} {d : List Int} (h : ¬ (0 ≤ line ∧ line < n)) : tput n sp period M puts line d = (M, puts, 1) := by unfold tput; rw [if_neg h]
theorem K9.worn (h : K9 H0 H t x p c n sp period puts o M ws k) {line may : Nat} {d : List Int} {e : Int} (hT : TAt H' t x p c n sp period puts' M') (f : Frt H H' t p c) (hs : line < n) (hP : TPut n sp M (some line) d k may M' e) (he : e ≠ 0) :
    e = 3 ∧ K9 H0 H' t x p c n sp period puts' o M' ws sp := by
  obtain ⟨⟨k', hk', hlv, he3⟩, h2, h3, h4, h5, h6, h7, h8⟩ := hP
  have hlo := h.low
  rcases h7 with ⟨e0, _⟩ | ⟨e1, hd, hv⟩ | ⟨_, _, hc, _⟩
  · exact absurd e0 he
  · have : k' = sp := he3 e1
    subst this
    refine ⟨e1, f.keeps h.keeps hlo.1 hlo.2.1 hlo.2.2.1, hT, h.w.keep (f.get o h.w.lt h.op.1 h.op.2.1 h.op.2.2.1) f.size, h.wl, h.low, h.op, hlv, h8 h.cut, hd, fun s hs' => ?_⟩
    by_cases hss : s = line
    · subst hss; rw [hv s rfl]; exact h.view s hs'
    · rw [h2 s hs' (by simp; omega)]; exact h.view s hs'
  · exact absurd h.cut hc
theorem K9.same (h : K9 H0 H t x p c n sp period puts o M ws k) (hT : TAt H' t x p c n sp period puts M) (f : Frt H H' t p c) : K9 H0 H' t x p c n sp period puts o M ws k :=
  ⟨f.keeps h.keeps h.low.1 h.low.2.1 h.low.2.2.1, hT, h.w.keep (f.get o h.w.lt h.op.1 h.op.2.1 h.op.2.2.1) f.size, h.wl, h.low, h.op, h.lv, h.cut, h.up, h.view⟩
/-- The array of one's own is written. -/
theorem K9.want (h : K9 H0 H t x p c n sp period puts o M ws k) {H' : AH} {ws' : List (List Int)} (hW : WantAt H' o ws') (hw : ws'.length = n) (hg : ∀ b, b ≠ o → H'.get b = H.get b) (hs : H'.size = H.size) (hv : ∀ s, s < n → M.tview n sp s = ws'.getD s []) : K9 H0 H' t x p c n sp period puts o M ws' k := by
  have hk0 := h.keeps
  have hl := h.tn.l
  refine ⟨⟨by rw [hs]; exact hk0.1, fun b hb => by rw [hg b (by have := h.low.2.2.2; omega)]; exact hk0.2 b hb⟩, ?_, hW, hw, h.low, h.op, h.lv, h.cut, h.up, hv⟩
  exact ⟨by rw [hg t (Ne.symm h.op.1)]; exact h.tn.ht, by rw [hs]; exact h.tn.lt, h.tn.tp, h.tn.tc, h.tn.tx, ⟨by rw [hg x (Ne.symm h.op.2.2.2), hl.hx], by rw [hs]; exact hl.lx, hl.xp, hl.xc, hl.m.keep (by rw [hs]; exact Nat.le_refl _) (hg p (Ne.symm h.op.2.1)) (hg c (Ne.symm h.op.2.2.1)), hl.len, hl.n1, hl.sp16⟩, h.tn.n1, h.tn.per, h.tn.pl, h.tn.mv⟩
/-- A Put that was told as right, once it is noted. -/
theorem K9.right (h : K9 H0 H t x p c n sp period puts o M ws k) {line may : Nat} {d : List Int} {e : Int} (hT : TAt H' t x p c n sp period puts' M') (f : Frt H H' t p c) (hd' : isLine d) (hs : line < n) (hP : TPut n sp M (some line) d k may M' e) (he : e = 0) :
    AH.canPut H' (Addr.add ⟨o, 0, none⟩ (line * 8)) (lineV d).length ∧ ∃ k', k ≤ k' ∧ K9 H0 (AH.put H' (Addr.add ⟨o, 0, none⟩ (line * 8)) (lineV d)) t x p c n sp period puts' o M' (ws.set line d) k' ∧ ∀ b, b ≠ o → (AH.put H' (Addr.add ⟨o, 0, none⟩ (line * 8)) (lineV d)).get b = H'.get b := by
  obtain ⟨⟨k', hk', hlv, he3⟩, h2, h3, h4, h5, h6, h7, h8⟩ := hP
  have hw := h.w.keep (H' := H') (f.get o h.w.lt h.op.1 h.op.2.1 h.op.2.2.1) f.size
  obtain ⟨w1, w2, w3⟩ := hw.put (i := line) (by rw [h.wl]; exact hs) hd'
  refine ⟨w1, k', hk', ?_, w3⟩
  rcases h7 with ⟨e0, hd, hv⟩ | ⟨e1, _⟩ | ⟨e1, _⟩
  · have hk0 := f.keeps h.keeps h.low.1 h.low.2.1 h.low.2.2.1
    have hl := hT.l
    refine ⟨⟨hk0.1, fun b hb => by rw [w3 b (by have := h.low.2.2.2; omega)]; exact hk0.2 b hb⟩, ?_, w2, by simp [h.wl], h.low, h.op, hlv, h8 h.cut, hd, fun s hs' => ?_⟩
    · exact ⟨by rw [w3 t (Ne.symm h.op.1)]; exact hT.ht, hT.lt, hT.tp, hT.tc, hT.tx, ⟨by rw [w3 x (Ne.symm h.op.2.2.2), hl.hx], hl.lx, hl.xp, hl.xc, hl.m.keep (Nat.le_refl _) (w3 p (Ne.symm h.op.2.1)) (w3 c (Ne.symm h.op.2.2.1)), hl.len, hl.n1, hl.sp16⟩, hT.n1, hT.per, hT.pl, hT.mv⟩
    · by_cases hss : s = line
      · subst hss; rw [hv s rfl, List.getD_eq_getElem?_getD, List.getElem?_set_self (by rw [h.wl]; exact hs')]; rfl
      · rw [h2 s hs' (by simp; omega), h.view s hs', List.getD_eq_getElem?_getD, List.getD_eq_getElem?_getD, List.getElem?_set_ne (by omega)]
  · omega
  · omega
theorem K9.any (h : K9 H0 H t x p c n sp period puts o M ws k) {line : Nat} {d : List Int} (hl : line < n) (hd : d.length = 8) :
    TPut n sp M (some line) d k (if puts + 1 = period then 1 else 0) (tput n sp period M puts line d).1 (tput n sp period M puts line d).2.2 ∧ (tput n sp period M puts line d).2.1 = (if puts + 1 = period then 0 else puts + 1) :=
  tput_any h.lv h.tn.n1 h.tn.l.m.ok h.tn.mv h.up hl hd
end

section
variable {H : AH}

theorem turn_New.any {p c : Nat} {M : Mem} {n sp period : Int} {k : Option Addr → AH → Prop} (hm : MemAt H p c M) (hsr : isI sp)
    (h : ∀ pp H', Keeps H H' → pp.isNone = !decide (GoodTurn M n sp period) → k pp H') : turn_New (some ⟨p, 0, none⟩) n sp period H k :=
  turn_New.s hm hsr (fun hb => h _ _ (Keeps.refl _) (by simp [hb])) (fun hg H' t x _ hk _ _ => h _ _ hk (by simp [hg]))

end
end Go.Proofs.Ytgechnnadjonaab
