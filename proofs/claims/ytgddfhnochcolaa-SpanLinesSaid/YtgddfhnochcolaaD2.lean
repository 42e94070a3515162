import Derived.Test.YtgddfhnochcolaaD1
import Derived.Test.YtgddfhnochcolaaI10
set_option linter.all false
set_option linter.all false
namespace Go.Proofs.Ytgddfhnochcolaa
open Go Go.Abs

theorem applyE_app (ws : List Int) (a b : List (Int × Int)) : applyE ws (a ++ b) = applyE (applyE ws a) b := List.foldl_append ..
theorem putE_getD {ws : List Int} {i : Nat} {v : Int} (w : Nat) (hi : i < ws.length) : (putE ws ((i : Int), v)).getD w 0 = if w = i then v else ws.getD w 0 := by
  unfold putE
  rw [if_pos ⟨by simp only; omega, by simp only; omega⟩]
  simp only [Int.toNat_natCast, List.getD_eq_getElem?_getD]
  by_cases h : w = i
  · subst h; rw [if_pos rfl, List.getElem?_set_self hi]; rfl
  · rw [if_neg h, List.getElem?_set_ne (by omega)]
theorem applyE_carveTo {ws : List Int} {p : Nat} {tk : Int} : ∀ {j : Nat}, 1 ≤ j → p + j ≤ ws.length → ∀ w, (applyE ws (carveTo (p : Int) tk j)).getD w 0 = if w = p then wordN tk true else if p < w ∧ w < p + j then 0 else ws.getD w 0 := by
  intro j
  induction j with
  | zero => intro h; omega
  | succ j ih =>
    intro _ hp w
    by_cases hj : j = 0
    · subst hj
      have e : applyE ws (carveTo (p : Int) tk (0 + 1)) = putE ws ((p : Int), wordN tk true) := rfl
      rw [e, putE_getD w (by omega)]
      by_cases hw : w = p
      · rw [if_pos hw, if_pos hw]
      · rw [if_neg hw, if_neg hw, if_neg (by omega)]
    · rw [carveTo_succ _ _ (by omega), applyE_app]
      have e : ∀ v : List Int, applyE v [((p : Int) + (j : Int), (0 : Int))] = putE v (((p + j : Nat) : Int), 0) := fun v => by
        show putE v _ = _
        rw [show (p : Int) + (j : Int) = ((p + j : Nat) : Int) by omega]
      rw [e, putE_getD w (by rw [applyE_length]; omega), ih (by omega) (by omega) w]
      by_cases hw : w = p + j
      · rw [if_pos hw, if_neg (by omega), if_pos (by omega)]
      · rw [if_neg hw]
        by_cases h1 : w = p
        · rw [if_pos h1, if_pos h1]
        · rw [if_neg h1, if_neg h1]
          by_cases h2 : p < w ∧ w < p + j
          · rw [if_pos h2, if_pos (by omega)]
          · rw [if_neg h2, if_neg (by omega)]
theorem takesN_range {sz need : Int} (hn : 2 ≤ need ∧ need ≤ sz) : 2 ≤ takesN sz need ∧ takesN sz need ≤ sz ∧ need ≤ takesN sz need ∧ (takesN sz need = sz ∨ takesN sz need + 2 ≤ sz) := by
  unfold takesN
  rw [if_pos hn]
  split <;> omega
theorem carve_getD {ws : List Int} {b : Bk} {need : Int} {p : Nat} (hp : b.1 = (p : Int)) (hn : 2 ≤ need ∧ need ≤ b.2.1) (hfit : b.1 + b.2.1 ≤ ws.length) (w : Nat) :
    (applyE ws (carveE b need)).getD w 0 = if w = p then wordN (takesN b.2.1 need) true else if p < w ∧ w < p + (takesN b.2.1 need).toNat then 0 else
      if w = p + (takesN b.2.1 need).toNat ∧ takesN b.2.1 need < b.2.1 then wordN (b.2.1 - takesN b.2.1 need) false else ws.getD w 0 := by
  obtain ⟨t1, t2, _, _⟩ := takesN_range hn
  unfold carveE
  rw [applyE_app, hp]
  generalize takesN b.2.1 need = tk at *
  have hto := applyE_carveTo (ws := ws) (p := p) (tk := tk) (j := tk.toNat) (by omega) (by omega)
  by_cases hlt : tk < b.2.1
  · rw [if_pos hlt]
    have e : ∀ v : List Int, applyE v [((p : Int) + tk, wordN (b.2.1 - tk) false)] = putE v (((p + tk.toNat : Nat) : Int), wordN (b.2.1 - tk) false) := fun v => by
      show putE v _ = _
      rw [show (p : Int) + tk = ((p + tk.toNat : Nat) : Int) by omega]
    rw [e, putE_getD w (by rw [applyE_length]; omega), hto]
    by_cases h1 : w = p + tk.toNat
    · rw [if_pos h1, if_neg (by omega), if_neg (by omega), if_pos ⟨h1, hlt⟩]
    · rw [if_neg h1]
      by_cases h2 : w = p
      · rw [if_pos h2, if_pos h2]
      · rw [if_neg h2, if_neg h2]
        split
        · rfl
        · rw [if_neg (by omega)]
  · rw [if_neg hlt]
    show (applyE ws _).getD w 0 = _
    rw [hto]
    by_cases h2 : w = p
    · rw [if_pos h2, if_pos h2]
    · rw [if_neg h2, if_neg h2]
      split
      · rfl
      · rw [if_neg (by omega)]
theorem bytesOf_congr {ws ws' : List Int} {a n : Nat} (h : ∀ w, a / 8 ≤ w → w * 8 < a + n → ws'.getD w 0 = ws.getD w 0) : bytesOf ws' a n = bytesOf ws a n := by
  unfold bytesOf
  refine List.map_congr_left fun j hj => ?_
  rw [List.mem_range] at hj
  unfold byteAt
  rw [h ((a + j) / 8) (by omega) (by omega)]
theorem bytesOf_zero {ws : List Int} {a n : Nat} (h : ∀ w, a / 8 ≤ w → w * 8 < a + n → ws.getD w 0 = 0) : bytesOf ws a n = List.replicate n 0 := by
  unfold bytesOf
  apply List.ext_getElem?
  intro i
  by_cases hi : i < n
  · rw [List.getElem?_map, List.getElem?_range hi, List.getElem?_replicate, if_pos hi, Option.map_some]
    unfold byteAt
    rw [h ((a + i) / 8) (by omega) (by omega)]
    simp [getB]
  · rw [List.getElem?_eq_none (by simp; omega), List.getElem?_eq_none (by simp; omega)]
theorem bytesOf_len (ws : List Int) (a n : Nat) : (bytesOf ws a n).length = n := by simp [bytesOf]

/-- Words that are extents. -/
structure MR (words : Int) (ext : List Ex) (ws : List Int) : Prop where
  len : (ws.length : Int) = words
  mw : mayW words
  u : words64 ws
  ok : ExOK words 0 ext
  hd : ∀ b ∈ blkX words ext, ws.getD b.1.toNat 0 = hdr b
  by8 : ∀ x ∈ ext, x.2.2 = bytesOf ws ((x.1.toNat + 1) * 8) ((x.2.1.toNat - 1) * 8)

section
variable {words : Int} {ext : List Ex} {ws : List Int}
theorem MR.may (h : MR words ext ws) : MayB (blkX words ext) words := exOK_may h.mw h.ok
theorem MR.blocks (h : MR words ext ws) : blocksN ws = some (blkX words ext) := (blocksN_iff h.u).2 ⟨by rw [h.len]; exact h.may, h.hd⟩
theorem MR.range (h : MR words ext ws) : 8 ≤ words ∧ words ≤ 512 := ⟨h.mw.1, h.mw.2.1⟩
theorem MR.mem (h : MR words ext ws) {x : Ex} (hx : x ∈ ext) : 0 ≤ x.1 ∧ x.1 + x.2.1 ≤ words ∧ 2 ≤ x.2.1 := by
  have h1 := ex_mem h.ok.1 x hx
  have h2 := (exPre_end h.ok.1).2 (by have := h.range; omega)
  omega
theorem MR.blen (h : MR words ext ws) {x : Ex} (hx : x ∈ ext) : x.2.2.length = (x.2.1.toNat - 1) * 8 := by rw [h.by8 x hx, bytesOf_len]
theorem mayS_of (h : MR words ext ws) {b : Bk} (hb : b ∈ blkX words ext) : mayS b.2.1 := by
  have := h.may.mem hb
  unfold mayS; omega

theorem MR.first (hw : mayW words) : MR words [] (firstN words) := by
  have hw' := hw
  unfold mayW at hw'
  have hl : (firstN words).length = words.toNat := by unfold firstN; rw [if_pos hw]; simp; omega
  refine ⟨by omega, hw, firstN_u _, ⟨trivial, .inr (by simp only [endX]; omega)⟩, ?_, fun x hx => (by cases hx)⟩
  intro b hb
  have e0 : blkX words [] = [((0 : Int), words - 0, false)] := by
    show gapB 0 words = _
    unfold gapB
    rw [if_pos (by omega)]
  rw [e0] at hb
  simp only [List.mem_cons, List.not_mem_nil, or_false] at hb
  subst hb
  unfold firstN
  rw [if_pos hw]
  simp only [Int.toNat_zero, List.getD_cons_zero, Int.sub_zero]
  exact wordN_hdr (b := (0, words, false)) (by unfold mayS; simp only; omega)

/-- A block is taken. -/
theorem MR.alloc (h : MR words ext ws) {i : Nat} {b : Bk} {need : Int} (hb : (blkX words ext)[i]? = some b) (hu : b.2.2 = false) (hn : 2 ≤ need ∧ need ≤ b.2.1) :
    ∃ e1 e2, ext = e1 ++ e2 ∧ (∀ x ∈ e1, x.1 < b.1) ∧ (∀ x ∈ e2, b.1 < x.1) ∧ MR words (e1 ++ (b.1, takesN b.2.1 need, List.replicate (((takesN b.2.1 need).toNat - 1) * 8) 0) :: e2) (applyE ws (carveE b need)) := by
  obtain ⟨e1, e2, he, hi, hbe, hlt⟩ := free_split hb hu
  have hmb := h.may.mem (List.mem_of_getElem? hb)
  have hok := h.ok
  rw [he] at hok
  obtain ⟨hp1, hok2⟩ := exOK_app.1 hok
  have hst := exOK_startle hok2
  have hs2 := exOK_start hok2
  obtain ⟨t1, t2, t3, t4⟩ := takesN_range hn
  obtain ⟨p, hp⟩ := Int.eq_ofNat_of_zero_le hmb.1
  have hb1 : b.1 = endX 0 e1 := by rw [hbe]
  have hb2 : b.2.1 = startX words e2 - endX 0 e1 := by rw [hbe]
  have hget := carve_getD (ws := ws) (b := b) (need := need) (p := p) hp hn (by rw [h.len]; omega)
  have hcu := (carveE_mem (b := b) hn).1
  have hm1 := fun x hx => ex_mem hp1 x hx
  have hge2 : ∀ x ∈ e2, startX words e2 ≤ x.1 := by
    intro x hx
    have hmem := tail_mem (words := words) (e := e2) (p := endX 0 e1) hok2 (x.1, x.2.1, true) (by
      cases e2 with
      | nil => cases hx
      | cons y r =>
        have h3 := (exOK_head hok2).2.2.2
        rw [List.mem_cons] at hx
        simp only [tailB, List.mem_cons, List.mem_append]
        rcases hx with hx | hx
        · left; rw [hx]
        · right
          obtain ⟨a1, a2, ha⟩ := List.append_of_mem hx
          have := List.mem_of_getElem? (ex_used (words := words) (e1 := a1) (e2 := a2) (x := x))
          left
          rw [ha, bg_app]
          simp only [bg, List.mem_append, List.mem_cons]
          exact .inr (.inr (.inl trivial)))
    exact hmem
  have hsplit := fun x (hx : x ∈ e1) => (by have := hm1 x hx; omega : x.1 < b.1)
  refine ⟨e1, e2, he, hsplit, fun x hx => by have := hge2 x hx; omega, ?_⟩
  generalize htk : takesN b.2.1 need = tk at *
  have hokn : ExOK words 0 (e1 ++ (b.1, tk, List.replicate ((tk.toNat - 1) * 8) 0) :: e2) := by
    refine exOK_app.2 ⟨hp1, exOK_cons (.inl hb1.symm) t1 (by simp only; omega) (exOK_from hok2 (by simp only; omega))⟩
  refine ⟨by rw [applyE_length]; exact h.len, h.mw, applyE_u _ _ h.u fun e he => (hcu e he).2.2, hokn, ?_, ?_⟩
  · intro b' hb'
    rw [blkX_split] at hb'
    simp only [List.mem_append] at hb'
    have hold : b' ∈ blkX words ext → (b'.1 + b'.2.1 ≤ b.1 ∨ startX words e2 ≤ b'.1) → (applyE ws (carveE b need)).getD b'.1.toNat 0 = hdr b' := by
      intro hm hout
      have hmb' := h.may.mem hm
      rw [hget, if_neg (by omega), if_neg (by omega), if_neg (by omega)]
      exact h.hd b' hm
    rcases hb' with hb' | hb' | hb'
    · have := bg_mem hp1 b' hb'
      exact hold (by rw [he, blkX_split]; simp [hb']) (.inl (by omega))
    · simp only [startX] at hb'
      unfold gapB at hb'
      rw [if_neg (by omega)] at hb'
      cases hb'
    · simp only [tailB, List.mem_cons] at hb'
      rcases hb' with rfl | hb'
      · simp only
        rw [hget, hp, Int.toNat_natCast, if_pos rfl]
        exact wordN_hdr (b := ((p : Int), tk, true)) (by unfold mayS; simp only; omega)
      · rw [blk_from] at hb'
        simp only [List.mem_append] at hb'
        rcases hb' with hb' | hb'
        · unfold gapB at hb'
          split at hb'
          · rename_i hg
            simp only [List.mem_cons, List.not_mem_nil, or_false] at hb'
            subst hb'
            simp only
            rw [hget, if_neg (by omega), if_neg (by omega), if_pos (by omega)]
            have e : startX words e2 - (b.1 + tk) = b.2.1 - tk := by omega
            rw [e]
            exact wordN_hdr (b := (b.1 + tk, b.2.1 - tk, false)) (by unfold mayS; simp only; omega)
          · cases hb'
        · have := tail_mem hok2 b' hb'
          exact hold (by rw [he, blkX_split]; simp [hb']) (.inr this)
  · intro x hx
    rw [List.mem_append, List.mem_cons] at hx
    rcases hx with hx | rfl | hx
    · have hxm := hm1 x hx
      have hx0 := h.mem (x := x) (by rw [he]; simp [hx])
      rw [h.by8 x (by rw [he]; simp [hx])]
      symm
      refine bytesOf_congr fun w h1 h2 => ?_
      rw [hget, if_neg (by omega), if_neg (by omega), if_neg (by omega)]
    · simp only
      rw [hp, Int.toNat_natCast]
      symm
      refine bytesOf_zero fun w h1 h2 => ?_
      rw [hget, if_neg (by omega), if_pos (by omega)]
    · have hxm := hge2 x hx
      have hx0 := h.mem (x := x) (by rw [he]; simp [hx])
      rw [h.by8 x (by rw [he]; simp [hx])]
      symm
      refine bytesOf_congr fun w h1 h2 => ?_
      rw [hget, if_neg (by omega), if_neg (by omega), if_neg (by omega)]

theorem bg_last : ∀ {e : List Ex} {p : Int}, 0 < (bg p e).length → (bkAt (bg p e) ((bg p e).length - 1)).2.2 = true := by
  intro e
  induction e with
  | nil => intro p h; simp [bg] at h
  | cons x r ih =>
    intro p _
    by_cases hr : (bg (x.1 + x.2.1) r).length = 0
    · simp only [bg, List.length_append, List.length_cons, hr]
      unfold bkAt
      rw [List.getD_eq_getElem?_getD, List.getElem?_append_right (by omega)]
      simp
    · have := ih (p := x.1 + x.2.1) (by omega)
      simp only [bg, List.length_append, List.length_cons]
      unfold bkAt at this ⊢
      rw [List.getD_eq_getElem?_getD] at this ⊢
      rw [List.getElem?_append_right (by omega), show (gapB p x.1).length + ((bg (x.1 + x.2.1) r).length + 1) - 1 - (gapB p x.1).length = ((bg (x.1 + x.2.1) r).length - 1) + 1 by omega, List.getElem?_cons_succ]
      exact this

/-- What is one, where a block is given back. -/
theorem merged_at {e1 e2 : List Ex} {x : Ex} (hok : ExOK words 0 (e1 ++ x :: e2)) {i : Nat} (hi : i = (bg 0 e1).length + (gapB (endX 0 e1) x.1).length) :
    (bkAt (blkX words (e1 ++ x :: e2)) (mFrom (blkX words (e1 ++ x :: e2)) i)).1 = endX 0 e1 ∧
    sumTo (blkX words (e1 ++ x :: e2)) (mFrom (blkX words (e1 ++ x :: e2)) i) (mTo (blkX words (e1 ++ x :: e2)) i - mFrom (blkX words (e1 ++ x :: e2)) i) = startX words e2 - endX 0 e1 := by
  obtain ⟨hp1, hok2⟩ := exOK_app.1 hok
  obtain ⟨h1, h2, h3, h4⟩ := exOK_head hok2
  have hs := exOK_start h4
  have hL : blkX words (e1 ++ x :: e2) = bg 0 e1 ++ (gapB (endX 0 e1) x.1 ++ ((x.1, x.2.1, true) :: (gapB (x.1 + x.2.1) (startX words e2) ++ tailB words e2))) := by
    rw [blkX_split]
    show bg 0 e1 ++ (gapB (endX 0 e1) x.1 ++ ((x.1, x.2.1, true) :: (bg (x.1 + x.2.1) e2 ++ gapB (endX (x.1 + x.2.1) e2) words))) = _
    rw [blk_from]
  have at0 : ∀ j, bkAt (blkX words (e1 ++ x :: e2)) ((bg 0 e1).length + j) = bkAt (gapB (endX 0 e1) x.1 ++ ((x.1, x.2.1, true) :: (gapB (x.1 + x.2.1) (startX words e2) ++ tailB words e2))) j := by
    intro j
    rw [hL]
    unfold bkAt
    rw [List.getD_eq_getElem?_getD, List.getElem?_append_right (by omega), Nat.add_sub_cancel_left, ← List.getD_eq_getElem?_getD]
  have hlen : (blkX words (e1 ++ x :: e2)).length = (bg 0 e1).length + ((gapB (endX 0 e1) x.1).length + (1 + ((gapB (x.1 + x.2.1) (startX words e2)).length + (tailB words e2).length))) := by
    rw [hL]; simp; omega
  have tl : (bkAt (tailB words e2) 0).2.2 = false → (tailB words e2).length = 0 := by
    cases e2 with
    | nil => intro _; rfl
    | cons y r => intro h; simp [tailB, bkAt] at h
  have last : 0 < (bg 0 e1).length → (bkAt (blkX words (e1 ++ x :: e2)) ((bg 0 e1).length - 1)).2.2 = true := by
    intro h
    have := bg_last h
    rw [hL]
    unfold bkAt at this ⊢
    rw [List.getD_eq_getElem?_getD] at this ⊢
    rw [List.getElem?_append_left (by omega)]
    exact this
  generalize blkX words (e1 ++ x :: e2) = L at *
  by_cases g1 : endX 0 e1 < x.1
  · have gl : gapB (endX 0 e1) x.1 = [(endX 0 e1, x.1 - endX 0 e1, false)] := by unfold gapB; rw [if_pos g1]
    rw [gl] at at0 hlen hi
    simp only [List.length_cons, List.length_nil] at hi hlen
    have a0 := at0 0
    have a1 := at0 1
    have a2 := at0 2
    simp only [List.cons_append, List.nil_append] at a0 a1 a2
    have b0 : bkAt L ((bg 0 e1).length + 0) = (endX 0 e1, x.1 - endX 0 e1, false) := a0
    have b1 : bkAt L ((bg 0 e1).length + 1) = (x.1, x.2.1, true) := a1
    have hf : mFrom L i = (bg 0 e1).length := by
      unfold mFrom
      rw [if_pos ⟨by omega, by rw [show i - 1 = (bg 0 e1).length + 0 by omega, b0]⟩]; omega
    by_cases g2 : x.1 + x.2.1 < startX words e2
    · have gl2 : gapB (x.1 + x.2.1) (startX words e2) = [(x.1 + x.2.1, startX words e2 - (x.1 + x.2.1), false)] := by unfold gapB; rw [if_pos g2]
      rw [gl2] at a2 hlen
      have b2 : bkAt L ((bg 0 e1).length + 2) = (x.1 + x.2.1, startX words e2 - (x.1 + x.2.1), false) := a2
      simp only [List.length_cons, List.length_nil] at hlen
      have ht : mTo L i = i + 2 := by
        unfold mTo
        rw [if_pos ⟨by omega, by rw [show i + 1 = (bg 0 e1).length + 2 by omega, b2]⟩]
      rw [hf, ht, show i + 2 - (bg 0 e1).length = 3 by omega]
      refine ⟨by rw [show (bg 0 e1).length = (bg 0 e1).length + 0 by omega, b0], ?_⟩
      simp only [sumTo, b0, b1, b2]; omega
    · have gl2 : gapB (x.1 + x.2.1) (startX words e2) = [] := by unfold gapB; rw [if_neg g2]
      rw [gl2] at a2 hlen
      have b2 : bkAt L ((bg 0 e1).length + 2) = bkAt (tailB words e2) 0 := a2
      simp only [List.length_nil] at hlen
      have ht : mTo L i = i + 1 := by
        unfold mTo
        rw [if_neg]
        intro ⟨c1, c2⟩
        rw [show i + 1 = (bg 0 e1).length + 2 by omega, b2] at c2
        have := tl c2; omega
      rw [hf, ht, show i + 1 - (bg 0 e1).length = 2 by omega]
      refine ⟨by rw [show (bg 0 e1).length = (bg 0 e1).length + 0 by omega, b0], ?_⟩
      simp only [sumTo, b0, b1]; omega
  · have gl : gapB (endX 0 e1) x.1 = [] := by unfold gapB; rw [if_neg g1]
    rw [gl] at at0 hlen hi
    simp only [List.length_nil] at hi hlen
    have a0 := at0 0
    have a1 := at0 1
    simp only [List.nil_append] at a0 a1
    have b0 : bkAt L ((bg 0 e1).length + 0) = (x.1, x.2.1, true) := a0
    have hf : mFrom L i = (bg 0 e1).length := by
      unfold mFrom
      rw [if_neg]
      · omega
      · intro ⟨c1, c2⟩
        rw [show i - 1 = (bg 0 e1).length - 1 by omega, last (by omega)] at c2
        cases c2
    by_cases g2 : x.1 + x.2.1 < startX words e2
    · have gl2 : gapB (x.1 + x.2.1) (startX words e2) = [(x.1 + x.2.1, startX words e2 - (x.1 + x.2.1), false)] := by unfold gapB; rw [if_pos g2]
      rw [gl2] at a1 hlen
      have b1 : bkAt L ((bg 0 e1).length + 1) = (x.1 + x.2.1, startX words e2 - (x.1 + x.2.1), false) := a1
      simp only [List.length_cons, List.length_nil] at hlen
      have ht : mTo L i = i + 2 := by
        unfold mTo
        rw [if_pos ⟨by omega, by rw [show i + 1 = (bg 0 e1).length + 1 by omega, b1]⟩]
      rw [hf, ht, show i + 2 - (bg 0 e1).length = 2 by omega]
      refine ⟨by rw [show (bg 0 e1).length = (bg 0 e1).length + 0 by omega, b0]; simp only; omega, ?_⟩
      simp only [sumTo, b0, b1]; omega
    · have gl2 : gapB (x.1 + x.2.1) (startX words e2) = [] := by unfold gapB; rw [if_neg g2]
      rw [gl2] at a1 hlen
      have b1 : bkAt L ((bg 0 e1).length + 1) = bkAt (tailB words e2) 0 := a1
      simp only [List.length_nil] at hlen
      have ht : mTo L i = i + 1 := by
        unfold mTo
        rw [if_neg]
        intro ⟨c1, c2⟩
        rw [show i + 1 = (bg 0 e1).length + 1 by omega, b1] at c2
        have := tl c2; omega
      rw [hf, ht, show i + 1 - (bg 0 e1).length = 1 by omega]
      refine ⟨by rw [show (bg 0 e1).length = (bg 0 e1).length + 0 by omega, b0]; simp only; omega, ?_⟩
      simp only [sumTo, b0]; omega

/-- A block is given back. -/
theorem MR.free {e1 e2 : List Ex} {x : Ex} (h : MR words (e1 ++ x :: e2) ws) : MR words (e1 ++ e2) (applyE ws [(endX 0 e1, wordN (startX words e2 - endX 0 e1) false)]) := by
  have hok := h.ok
  obtain ⟨hp1, hok2⟩ := exOK_app.1 hok
  obtain ⟨h1, h2, h3, h4⟩ := exOK_head hok2
  have hs := exOK_start h4
  have hst := exOK_startle h4
  have hge := (exPre_end hp1).1
  have hrange := h.range
  obtain ⟨p, hp⟩ := Int.eq_ofNat_of_zero_le hge
  have hget : ∀ w, (applyE ws [(endX 0 e1, wordN (startX words e2 - endX 0 e1) false)]).getD w 0 = if w = p then wordN (startX words e2 - endX 0 e1) false else ws.getD w 0 := by
    intro w
    have hlen := h.len
    rw [hp]
    exact putE_getD w (by omega)
  have hmS : mayS (startX words e2 - endX 0 e1) := by unfold mayS; omega
  refine ⟨by rw [applyE_length]; exact h.len, h.mw, applyE_u _ _ h.u fun e he => ?_, exOK_app.2 ⟨hp1, exOK_from h4 (by omega)⟩, ?_, ?_⟩
  · simp only [List.mem_cons, List.not_mem_nil, or_false] at he
    subst he; exact wordN_u _ _
  · intro b hb
    rw [blkX_split] at hb
    simp only [List.mem_append] at hb
    rcases hb with hb | hb | hb
    · have hm := bg_mem hp1 b hb
      rw [hget, if_neg (by omega)]
      exact h.hd b (by rw [blkX_split]; simp [hb])
    · unfold gapB at hb
      split at hb
      · simp only [List.mem_cons, List.not_mem_nil, or_false] at hb
        subst hb
        simp only
        rw [hget, hp, Int.toNat_natCast, if_pos rfl, ← hp]
        exact wordN_hdr (b := (endX 0 e1, startX words e2 - endX 0 e1, false)) hmS
      · cases hb
    · have hm := tail_mem h4 b hb
      rw [hget, if_neg (by omega)]
      refine h.hd b ?_
      rw [blkX_split]
      simp only [tailB, List.mem_append, List.mem_cons]
      right; right; right
      have : b ∈ bg (x.1 + x.2.1) e2 ++ gapB (endX (x.1 + x.2.1) e2) words := by
        rw [blk_from]; simp [hb]
      simpa using this
  · intro y hy
    have hym : y ∈ e1 ++ x :: e2 := by simp at hy ⊢; rcases hy with h | h <;> simp [h]
    rw [h.by8 y hym]
    have hy0 := h.mem hym
    symm
    refine bytesOf_congr fun w w1 w2 => ?_
    rw [hget, if_neg]
    intro hw
    rw [List.mem_append] at hy
    rcases hy with hy | hy
    · have := ex_mem hp1 y hy; omega
    · have := ex_mem h4.1 y hy; omega

/-- Bytes of a block are written. -/
def putL (l : List Int) (k : Nat) (bs : List Int) : List Int := l.take k ++ bs ++ l.drop (k + bs.length)
theorem putL_len {l bs : List Int} {k : Nat} (h : k + bs.length ≤ l.length) : (putL l k bs).length = l.length := by unfold putL; simp; omega
theorem putL_get {l bs : List Int} {k i : Nat} (h : k + bs.length ≤ l.length) : (putL l k bs)[i]? = if k ≤ i ∧ i < k + bs.length then bs[i - k]? else l[i]? := by
  unfold putL
  by_cases h1 : i < k
  · rw [if_neg (by omega), List.append_assoc, List.getElem?_append_left (by simp; omega), List.getElem?_take_of_lt h1]
  · by_cases h2 : i < k + bs.length
    · rw [if_pos ⟨by omega, h2⟩, List.append_assoc, List.getElem?_append_right (by simp; omega), List.getElem?_append_left (by simp; omega)]
      congr 1; simp; omega
    · rw [if_neg (by omega), List.getElem?_append_right (by simp; omega), List.getElem?_drop]
      congr 1; simp; omega
theorem MR.write {e1 e2 : List Ex} {x : Ex} {off : Nat} {bs : List Int} (h : MR words (e1 ++ x :: e2) ws) (h8 : bytes8 bs) (h1 : (x.1.toNat + 1) * 8 ≤ off) (h2 : off + bs.length ≤ (x.1.toNat + x.2.1.toNat) * 8) :
    MR words (e1 ++ (x.1, x.2.1, putL x.2.2 (off - (x.1.toNat + 1) * 8) bs) :: e2) (putBs ws off bs) := by
  have hx := h.mem (x := x) (by simp)
  have hlen := h.len
  have hfit : off + bs.length ≤ ws.length * 8 := by omega
  have hbx : ∀ e : List Ex, bg 0 (e1 ++ (x.1, x.2.1, putL x.2.2 (off - (x.1.toNat + 1) * 8) bs) :: e2) = bg 0 (e1 ++ x :: e2) := fun _ => by rw [bg_app, bg_app]; rfl
  have hex : endX 0 (e1 ++ (x.1, x.2.1, putL x.2.2 (off - (x.1.toNat + 1) * 8) bs) :: e2) = endX 0 (e1 ++ x :: e2) := by rw [endX_app, endX_app]; rfl
  have hbl : blkX words (e1 ++ (x.1, x.2.1, putL x.2.2 (off - (x.1.toNat + 1) * 8) bs) :: e2) = blkX words (e1 ++ x :: e2) := by unfold blkX; rw [hbx [], hex]
  have hok := h.ok
  obtain ⟨hp1, hok2⟩ := exOK_app.1 hok
  obtain ⟨o1, o2, o3, o4⟩ := exOK_head hok2
  have hok' : ExOK words 0 (e1 ++ (x.1, x.2.1, putL x.2.2 (off - (x.1.toNat + 1) * 8) bs) :: e2) := exOK_app.2 ⟨hp1, exOK_cons o1 o2 o3 o4⟩
  -- words out of the block are as they were
  have hfar : ∀ w, (w ≤ x.1.toNat ∨ x.1.toNat + x.2.1.toNat ≤ w) → (putBs ws off bs).getD w 0 = ws.getD w 0 := fun w hw => putBs_far _ _ _ _ (by omega) hfit
  have hbyte := fun p (hp : p / 8 < ws.length) => byteAt_putBs bs ws off p h.u h8 hfit hp
  refine ⟨by rw [putBs_length]; exact h.len, h.mw, words64_putBs _ _ _ h.u, hok', ?_, ?_⟩
  · rw [hbl]
    intro b hb
    rw [hfar b.1.toNat ?_]
    · exact h.hd b hb
    · have hm := h.may.mem hb
      rw [blkX_split] at hb
      simp only [List.mem_append, startX, tailB, List.mem_cons] at hb
      rcases hb with hb | hb | rfl | hb
      · have := bg_mem hp1 b hb; omega
      · unfold gapB at hb
        split at hb
        · simp only [List.mem_cons, List.not_mem_nil, or_false] at hb; subst hb; simp only; omega
        · cases hb
      · simp only; omega
      · have : b ∈ gapB (x.1 + x.2.1) (startX words e2) ++ tailB words e2 := by rw [← blk_from]; simpa using hb
        rw [List.mem_append] at this
        rcases this with hb | hb
        · unfold gapB at hb
          split at hb
          · simp only [List.mem_cons, List.not_mem_nil, or_false] at hb; subst hb; simp only; omega
          · cases hb
        · have := tail_mem o4 b hb
          have := exOK_start o4; omega
  · intro y hy
    rw [List.mem_append, List.mem_cons] at hy
    have other : y ∈ e1 ++ x :: e2 → (y.1 + y.2.1 ≤ x.1 ∨ x.1 + x.2.1 ≤ y.1) → y.2.2 = bytesOf (putBs ws off bs) ((y.1.toNat + 1) * 8) ((y.2.1.toNat - 1) * 8) := by
      intro hy ho
      have hy0 := h.mem hy
      rw [h.by8 y hy]
      symm
      exact bytesOf_congr fun w w1 w2 => hfar w (by omega)
    rcases hy with hy | rfl | hy
    · refine other (by simp [hy]) (.inl ?_)
      have := ex_mem hp1 y hy; omega
    · simp only
      have hb8 := h.by8 x (by simp)
      have hbl' := h.blen (x := x) (by simp)
      apply List.ext_getElem?
      intro i
      rw [putL_get (by omega)]
      by_cases hi : i < (x.2.1.toNat - 1) * 8
      · unfold bytesOf
        rw [List.getElem?_map, List.getElem?_range hi, Option.map_some, hbyte _ (by omega)]
        by_cases hin : off - (x.1.toNat + 1) * 8 ≤ i ∧ i < off - (x.1.toNat + 1) * 8 + bs.length
        · rw [if_pos hin, if_pos (by omega)]
          rw [show (x.1.toNat + 1) * 8 + i - off = i - (off - (x.1.toNat + 1) * 8) by omega]
          rw [List.getD_eq_getElem?_getD, List.getElem?_eq_getElem (by omega)]; rfl
        · rw [if_neg hin, if_neg (by omega), hb8]
          unfold bytesOf
          rw [List.getElem?_map, List.getElem?_range hi]; rfl
      · rw [if_neg (by omega), List.getElem?_eq_none (by omega), List.getElem?_eq_none (by rw [bytesOf_len]; omega)]
    · refine other (by simp [hy]) (.inr ?_)
      have := ex_mem o4.1 y hy; omega
end
end Go.Proofs.Ytgddfhnochcolaa
