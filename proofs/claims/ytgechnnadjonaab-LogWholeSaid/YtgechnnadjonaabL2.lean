import Derived.Test.YtgechnnadjonaabL1
set_option linter.all false
set_option linter.all false
namespace Go.Proofs.Ytgechnnadjonaab
open Go Go.Abs

section
variable {M M' : Mem} {n sp k s slot : Nat} {d : List Int}

theorem regs_out {i : Nat} {v : Int} (hi : i < 16) (hM : M'.regs = M.regs.set (3 + i) v) : ∀ r, (r < 3 ∨ 19 ≤ r) → M'.regs.getD r 0 = M.regs.getD r 0 := by
  intro r hr
  rw [hM]
  simp only [List.getD_eq_getElem?_getD]
  rw [List.getElem?_set_ne (by omega)]

theorem cl_of_cs (h : M'.cs = M.cs) (i : Nat) : M'.cl i = M.cl i := by unfold Mem.cl; rw [h]

/-- A spare line that is nobody's is not seen. -/
theorem view_spare {i : Nat} {e : Int} {l : List Int} (hP : PutAny M (n + i) l M' e) (hz : ∀ s, s < n → M.whose i ≠ (s : Int) + 1) (hs : s < n) : M'.view n sp s = M.view n sp s := by
  refine view_same hP.regs ?_
  rw [hP.other]
  intro h
  rcases place_cases M n s sp with h1 | ⟨j, h1, h2, h3⟩
  · omega
  · have : j = i := by omega
    subst this
    exact hz s hs h3

theorem LV.take (h : LV M n sp k) (hr : M.regs.length = 35) (hk : k < sp) {v : Int} (hv : 1 ≤ v ∧ v ≤ (n : Int) + 1) (hM : M'.regs = M.regs.set (3 + k) v) (hl : M'.cs.length = M.cs.length) : LV M' n sp (k + 1) := by
  have hsp := h.sp16
  have hw := fun j => whose_set (M' := M') (M := M) (j := j) hr (show k < 16 by omega) hM
  refine ⟨by rw [hl]; exact h.len, h.n1, h.sp16, by omega, fun i hi => ?_, fun i hi hi' => ?_⟩
  · rw [hw i]
    by_cases hik : i = k
    · rw [if_pos hik]; exact hv
    · rw [if_neg hik]; exact h.used i (by omega)
  · rw [hw i, if_neg (by omega)]; exact h.free i (by omega) hi'

/-- The table's word for a spare line turned: who is not the old one or the new one is where it was. -/
theorem view_turn (h : LV M n sp k) (hr : M.regs.length = 35) (hk : k < sp) {v : Int} (hM : M'.regs = M.regs.set (3 + k) v) (hcs : M'.cs = M.cs) (hs : s < n) (hv : v ≠ (s : Int) + 1) : M'.view n sp s = M.view n sp s := by
  have hsp := h.sp16
  unfold Mem.view
  rw [cl_of_cs hcs, place_congr (M' := M') (M := M)]
  intro j hj
  rw [whose_set hr (by omega) hM]
  by_cases hjk : j = k
  · rw [if_pos hjk]
    subst hjk
    have := h.free j (Nat.le_refl _) hj
    constructor
    · intro e; exact absurd e hv
    · intro e; omega
  · rw [if_neg hjk]

theorem view_taken (h : LV M n sp k) (hr : M.regs.length = 35) (hk : k < sp) (hM : M'.regs = M.regs.set (3 + k) ((slot : Int) + 1)) (hcs : M'.cs = M.cs) : M'.view n sp slot = (M.cl (n + k)).line := by
  have hsp := h.sp16
  have hw := fun j => whose_set (M' := M') (M := M) (j := j) hr (show k < 16 by omega) hM
  unfold Mem.view
  rw [cl_of_cs hcs, place_top (i := k) hk (by rw [hw k, if_pos rfl])]
  intro j h1 h2
  rw [hw j, if_neg (by omega), h.free j (by omega) h2]
  omega

theorem lgo_any : ∀ (j : Nat) (M : Mem), j ≤ sp → LV M n sp (sp - j) → M.regs.length = 35 → M.down = false → -1 ≤ M.cut → slot < n → d.length = 8 →
    LPut n sp M slot d (sp - j) (lgo n sp slot d j M).1 (lgo n sp slot d j M).2 := by
  intro j
  induction j with
  | zero =>
    intro M _ h hr hd hc hs hl
    exact ⟨⟨sp, by omega, h, fun _ => rfl⟩, fun s _ _ => rfl, fun r _ => rfl, rfl, hr, .inr (.inl ⟨rfl, hd, rfl⟩), id, hc⟩
  | succ j ih =>
    intro M hj h hr hd hc hs hl
    have hsp := h.sp16
    have hlen := h.len
    have hk : sp - (j + 1) < sp := by omega
    have hz := h.free _ (Nat.le_refl _) hk
    have hP := Mem.put_any (M := M) (i := n + (sp - (j + 1))) (l := d) hd (by omega) hl hc
    have hzz : ∀ s, s < n → M.whose (sp - (j + 1)) ≠ (s : Int) + 1 := fun s _ => by omega
    have hkeq : sp - j = sp - (j + 1) + 1 := by omega
    unfold lgo
    simp only
    generalize hR : M.put ((n + (sp - (j + 1)) : Nat) : Int) d = R at *
    generalize sp - (j + 1) = k at *
    have h1 : LV R.1 n sp k := h.same hP.regs hP.len
    have hr1 : R.1.regs.length = 35 := by rw [hP.regs]; exact hr
    have hv1 : ∀ s, s < n → R.1.view n sp s = M.view n sp s := fun s hs => view_spare hP hzz hs
    have hregs1 : ∀ r, R.1.regs.getD r 0 = M.regs.getD r 0 := fun r => by rw [hP.regs]
    have set : ∀ v, R.1.down = false → SetAny R.1 (3 + k) v (R.1.set ((3 + k : Nat) : Int) v).1 (R.1.set ((3 + k : Nat) : Int) v).2 := fun v hd1 => Mem.set_any hd1 (by omega) hP.cutge
    rcases hP.res with ⟨e, hd1, _, hline⟩ | ⟨e, hd1, _, _⟩ | ⟨e, hd1, hcut, _⟩
    · rw [if_pos e]
      have hS := set ((slot : Int) + 1) hd1
      generalize R.1.set ((3 + k : Nat) : Int) ((slot : Int) + 1) = Q at *
      have hcl : Q.1.cs.length = R.1.cs.length := by rw [hS.cs]
      have hother : ∀ s, s < n → s ≠ slot → (Q.1.regs = R.1.regs ∨ Q.1.regs = R.1.regs.set (3 + k) ((slot : Int) + 1)) → Q.1.view n sp s = M.view n sp s := by
        intro s hs hne hor
        rw [← hv1 s hs]
        rcases hor with hor | hor
        · exact view_same hor (by rw [cl_of_cs hS.cs])
        · exact view_turn h1 hr1 hk hor hS.cs hs (by omega)
      have hregs : ∀ r, (r < 3 ∨ 19 ≤ r) → (Q.1.regs = R.1.regs ∨ Q.1.regs = R.1.regs.set (3 + k) ((slot : Int) + 1)) → Q.1.regs.getD r 0 = M.regs.getD r 0 := by
        intro r hr hor
        rw [← hregs1 r]
        rcases hor with hor | hor
        · rw [hor]
        · exact regs_out (by omega) hor r hr
      rcases hS.res with ⟨e', hd', hq⟩ | ⟨e', hd', hcut, hq⟩
      · refine ⟨⟨k + 1, by omega, h1.take hr1 hk (by omega) hq hcl, by omega⟩, fun s hs hne => hother s hs hne (.inr hq), fun r hr => hregs r hr (.inr hq), hS.mask.trans hP.mask, by rw [hq]; simpa using hr1, .inl ⟨e', hd', ?_⟩, fun hc => hS.cut (hP.cut hc), hS.cutge⟩
        rw [view_taken h1 hr1 hk hq hS.cs, hline]
      · refine ⟨?_, fun s hs hne => hother s hs hne hq, fun r hr => hregs r hr hq, hS.mask.trans hP.mask, ?_, .inr (.inr ⟨e', hd', fun hc => hcut (hP.cut hc), ?_⟩), fun hc => hS.cut (hP.cut hc), hS.cutge⟩
        · rcases hq with hq | hq
          · exact ⟨k, Nat.le_refl _, h1.same hq hcl, by omega⟩
          · exact ⟨k + 1, by omega, h1.take hr1 hk (by omega) hq hcl, by omega⟩
        · rcases hq with hq | hq
          · rw [hq]; exact hr1
          · rw [hq]; simpa using hr1
        · rcases hq with hq | hq
          · left
            rw [← hv1 slot hs]
            exact view_same hq (by rw [cl_of_cs hS.cs])
          · right; left
            rw [view_taken h1 hr1 hk hq hS.cs, hline]
    · rw [if_neg (by omega), if_pos e]
      have hS := set ((n : Int) + 1) hd1
      generalize R.1.set ((3 + k : Nat) : Int) ((n : Int) + 1) = Q at *
      have hcl : Q.1.cs.length = R.1.cs.length := by rw [hS.cs]
      have hother : ∀ s, s < n → (Q.1.regs = R.1.regs ∨ Q.1.regs = R.1.regs.set (3 + k) ((n : Int) + 1)) → Q.1.view n sp s = M.view n sp s := by
        intro s hs hor
        rw [← hv1 s hs]
        rcases hor with hor | hor
        · exact view_same hor (by rw [cl_of_cs hS.cs])
        · exact view_turn h1 hr1 hk hor hS.cs hs (by omega)
      have hregs : ∀ r, (r < 3 ∨ 19 ≤ r) → (Q.1.regs = R.1.regs ∨ Q.1.regs = R.1.regs.set (3 + k) ((n : Int) + 1)) → Q.1.regs.getD r 0 = M.regs.getD r 0 := by
        intro r hr hor
        rw [← hregs1 r]
        rcases hor with hor | hor
        · rw [hor]
        · exact regs_out (by omega) hor r hr
      rcases hS.res with ⟨e', hd', hq⟩ | ⟨e', hd', hcut, hq⟩
      · rw [if_pos e']
        have h2 := h1.take hr1 hk (by have := h.n1; omega) hq hcl
        rw [← hkeq] at h2
        have hI := ih Q.1 (by omega) h2 (by rw [hq]; simpa using hr1) hd' hS.cutge hs hl
        generalize lgo n sp slot d j Q.1 = Z at *
        obtain ⟨⟨k', hk', hlv, he⟩, i2, i3, i4, i5, i6, i7, i8⟩ := hI
        refine ⟨⟨k', by omega, hlv, he⟩, fun s hs hne => (i2 s hs hne).trans (hother s hs (.inr hq)), fun r hr => (i3 r hr).trans (hregs r hr (.inr hq)), i4.trans (hS.mask.trans hP.mask), i5, ?_, fun hc => i7 (hS.cut (hP.cut hc)), i8⟩
        have hvs := hother slot hs (.inr hq)
        rw [hvs] at i6
        rcases i6 with i6 | i6 | ⟨a, b, c, i6⟩
        · exact .inl i6
        · exact .inr (.inl i6)
        · refine .inr (.inr ⟨a, b, fun hc => c (hS.cut (hP.cut hc)), ?_⟩)
          rw [hS.mask, hP.mask] at i6
          exact i6
      · rw [if_neg (by omega)]
        refine ⟨?_, fun s hs _ => hother s hs hq, fun r hr => hregs r hr hq, hS.mask.trans hP.mask, ?_, .inr (.inr ⟨e', hd', fun hc => hcut (hP.cut hc), .inl (hother slot hs hq)⟩), fun hc => hS.cut (hP.cut hc), hS.cutge⟩
        · rcases hq with hq | hq
          · exact ⟨k, Nat.le_refl _, h1.same hq hcl, by omega⟩
          · exact ⟨k + 1, by omega, h1.take hr1 hk (by have := h.n1; omega) hq hcl, by omega⟩
        · rcases hq with hq | hq
          · rw [hq]; exact hr1
          · rw [hq]; simpa using hr1
    · rw [if_neg (by omega), if_neg (by omega)]
      exact ⟨⟨k, Nat.le_refl _, h1, by omega⟩, fun s hs _ => hv1 s hs, fun r _ => hregs1 r, hP.mask, hr1, .inr (.inr ⟨e, hd1, hcut, .inl (hv1 slot hs)⟩), hP.cut, hP.cutge⟩

/-- A PUT OF A SLOT. -/
theorem lput_any (h : LV M n sp k) (hr : M.regs.length = 35) (hd : M.down = false) (hc : -1 ≤ M.cut) (hs : slot < n) (hl : d.length = 8) :
    LPut n sp M slot d k (lput n sp M slot d).1 (lput n sp M slot d).2 := by
  have hlen := h.len
  have hpl := place_lt (M := M) (sp := sp) hs
  unfold lput
  rw [if_pos ⟨by omega, by omega⟩, if_neg (by simp [hd]), Int.toNat_natCast]
  simp only
  have hP := Mem.put_any (M := M) (i := M.place n slot sp) (l := d) hd (by omega) hl hc
  rw [h.next]
  generalize M.put ((M.place n slot sp : Nat) : Int) d = R at *
  have h1 : LV R.1 n sp k := h.same hP.regs hP.len
  have hr1 : R.1.regs.length = 35 := by rw [hP.regs]; exact hr
  have hother : ∀ s, s < n → s ≠ slot → R.1.view n sp s = M.view n sp s := by
    intro s hs' hne
    refine view_same hP.regs ?_
    rw [hP.other _ fun e => hne (place_inj hs' hs e)]
  have hplace : R.1.place n slot sp = M.place n slot sp := place_congr fun j _ => by simp only [Mem.whose, hP.regs]
  have hslot : R.1.view n sp slot = (R.1.cl (M.place n slot sp)).line := by unfold Mem.view; rw [hplace]
  have hold : M.view n sp slot = (M.cl (M.place n slot sp)).line := rfl
  rcases hP.res with ⟨e, hd1, _, hline⟩ | ⟨e, hd1, _, hsame⟩ | ⟨e, hd1, hcut, hline⟩
  · rw [if_neg (by omega)]
    exact ⟨⟨k, Nat.le_refl _, h1, by omega⟩, hother, fun r _ => by rw [hP.regs], hP.mask, hr1, .inl ⟨e, hd1, by rw [hslot, hline]⟩, hP.cut, hP.cutge⟩
  · rw [if_pos e]
    have hkle := h.kle
    have hI := lgo_any (n := n) (sp := sp) (slot := slot) (d := d) (sp - k) R.1 (by omega) (by rw [show sp - (sp - k) = k by omega]; exact h1) hr1 hd1 hP.cutge hs hl
    rw [show sp - (sp - k) = k by omega] at hI
    generalize lgo n sp slot d (sp - k) R.1 = Z at *
    obtain ⟨i1, i2, i3, i4, i5, i6, i7, i8⟩ := hI
    have hvs : R.1.view n sp slot = M.view n sp slot := by rw [hslot, hsame, hold]
    refine ⟨i1, fun s hs' hne => (i2 s hs' hne).trans (hother s hs' hne), fun r hr => (i3 r hr).trans (by rw [hP.regs]), i4.trans hP.mask, i5, ?_, fun hc => i7 (hP.cut hc), i8⟩
    rw [hvs, hP.mask] at i6
    rcases i6 with i6 | i6 | ⟨a, b, c, i6⟩
    · exact .inl i6
    · exact .inr (.inl i6)
    · exact .inr (.inr ⟨a, b, fun hc => c (hP.cut hc), i6⟩)
  · rw [if_neg (by omega)]
    refine ⟨⟨k, Nat.le_refl _, h1, by omega⟩, hother, fun r _ => by rw [hP.regs], hP.mask, hr1, .inr (.inr ⟨e, hd1, hcut, ?_⟩), hP.cut, hP.cutge⟩
    rw [hslot, hold]
    rcases hline with hline | hline
    · exact .inl hline
    · exact .inr (.inr hline)
end
end Go.Proofs.Ytgechnnadjonaab
