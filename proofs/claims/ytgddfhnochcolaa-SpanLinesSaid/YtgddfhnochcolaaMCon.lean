import Derived.Test.YtgddfhnochcolaaAbsTwo
import Derived.Test.YtgddfhnochcolaaG4
import Derived.Test.YtgddfhnochcolaaEnc
import Derived.Test.YtgddfhnochcolaaMIns
set_option linter.all false
set_option linter.all false
namespace Go.Proofs.Ytgddfhnochcolaa
open Go Go.Abs

/-! The contracts of slices.Delete and slices.Insert at extents. -/
theorem lr_tk {φ : Emb} {xs ys : List Value} (h : LRel φ xs ys) (n : Nat) : LRel φ (xs.take n) (ys.take n) := by
  refine ⟨by simp [h.1], fun i x y hx hy => ?_⟩
  rw [List.getElem?_take] at hx hy
  split at hx
  · rw [if_pos (by assumption)] at hy
    exact h.2 i x y hx hy
  · cases hx
theorem lr_dp {φ : Emb} {xs ys : List Value} (h : LRel φ xs ys) (n : Nat) : LRel φ (xs.drop n) (ys.drop n) := by
  refine ⟨by simp [h.1], fun i x y hx hy => ?_⟩
  rw [List.getElem?_drop] at hx hy
  exact h.2 _ x y hx hy

theorem sc_cell {w : World} (c o : Nat) (vs : List Value) (h : ∀ j, j < vs.length → (w.cell? ⟨c, o + j, none⟩).isSome = true) (j : Nat) :
    (w.setCells c o vs).cell? ⟨c, j, none⟩ = if o ≤ j ∧ j < o + vs.length then vs[j - o]? else w.cell? ⟨c, j, none⟩ := by
  by_cases hin : o ≤ j ∧ j < o + vs.length
  · rw [if_pos hin]
    have := cell_setCells_in (w := w) c vs o (fun j hj => Option.isSome_iff_exists.1 (h j hj)) (j - o) (by omega)
    rw [show o + (j - o) = j by omega] at this
    rw [this, List.getElem?_eq_getElem]
  · rw [if_neg hin, World.cell?_setCells_out c vs o w ⟨c, j, none⟩ (fun _ _ => by show j < o ∨ o + vs.length ≤ j; omega)]

theorem redo {W w w2 : World} {φ : Emb} {H : AH} (R : Rel W φ H w) {b : Nat} {B : Blk} (hb : φ b = some B) (hm : (H.get b).md = .rw) (cells2 : List Value)
    (hw2 : ∀ H', Rel W φ H' w → (∀ x X, φ x = some X → X.c = B.c → (H'.get x).md = .dead) → Rel W φ H' w2)
    (hroom2 : ∀ i, i < B.m → ∃ v, w2.cell? ⟨B.c, i, none⟩ = some v)
    (hv : ∀ i v, cells2[i]? = some v → ∃ v', w2.cell? ⟨B.c, i, none⟩ = some v' ∧ VRel φ v v') :
    Hist φ H (φ.add H.size B) ((H.kill b).push ⟨cells2, .rw, B.sz⟩) ∧ Rel W (φ.add H.size B) ((H.kill b).push ⟨cells2, .rw, B.sz⟩) w2 := by
  have hfresh : φ H.size = none := R.fresh
  obtain ⟨hW, hroom, hes⟩ := R.room b B hb hm
  have hkill : (H.kill b).size = H.size := rfl
  have hdead : ∀ x X, φ x = some X → X.c = B.c → (((H.kill b).push ⟨cells2, .rw, B.sz⟩).get x).md = .dead := by
    intro x X hx hc
    have hxs : x ≠ H.size := fun e => by rw [e, hfresh] at hx; cases hx
    simp only [AH.push, hkill, hxs, if_false]
    by_cases hxb : x = b
    · subst hxb; simp [AH.kill, AH.upd]
    · rcases R.own b B hb hm x X hx hc with h0 | h0
      · exact absurd h0 hxb
      · simp [AH.kill, AH.upd, hxb, h0]
  have R1 : Rel W φ ((H.kill b).push ⟨cells2, .rw, B.sz⟩) w := (R.kill b).push _
  have R2 := hw2 _ R1 hdead
  have hget : ((H.kill b).push ⟨cells2, .rw, B.sz⟩).get H.size = ⟨cells2, .rw, B.sz⟩ := by simp [AH.push, hkill]
  refine ⟨⟨Emb.le_add hfresh, by simp [AH.push, hkill], fun x hx hn => ?_, fun x hx hn => ?_⟩, R2.over (b := H.size) (b' := b) (B := B) hfresh (by simp [AH.push, hkill]) hb hdead hW hroom2 (by rw [hget]) (by rw [hget]) (by rw [hget]; exact hv)⟩
  · have : x ≠ H.size := by omega
    simp [Emb.add, this, hn]
  · have h1 : x ≠ H.size := by omega
    have h2 : x ≠ b := fun e => by rw [e, hb] at hn; cases hn
    simp [AH.push, hkill, h1, AH.kill, AH.upd, h2]

theorem shape_of {w : World} {a : Addr} {v : Value} (h : w.cell? a = some v) : ∃ t k, w.shape? a.block = some (t, k) ∧ k ≠ 0 := by
  unfold World.cell? at h
  unfold World.shape?
  split at h
  · rename_i c e r hh
    split at h
    · cases h
    · refine ⟨e, c.size, rfl, fun h0 => ?_⟩
      rw [Array.getElem?_eq_none (by omega)] at h
      cases h
  · cases h

theorem argl2 {φ : Emb} {x y : Value} {args' : Array Value} (hl : LRel φ [x, y] args'.toList) : ∃ a b, args' = #[a, b] ∧ VRel φ x a ∧ VRel φ y b := by
  obtain ⟨a, b, rfl⟩ : ∃ a b, args' = #[a, b] := by
    have h2 := hl.1
    rcases args' with ⟨l'⟩
    match l', h2 with
    | [a, b], _ => exact ⟨a, b, rfl⟩
  exact ⟨a, b, rfl, hl.2 0 _ _ rfl rfl, hl.2 1 _ _ rfl rfl⟩
theorem argl3 {φ : Emb} {x y z : Value} {args' : Array Value} (hl : LRel φ [x, y, z] args'.toList) : ∃ a b c, args' = #[a, b, c] ∧ VRel φ x a ∧ VRel φ y b ∧ VRel φ z c := by
  obtain ⟨a, b, c, rfl⟩ : ∃ a b c, args' = #[a, b, c] := by
    have h2 := hl.1
    rcases args' with ⟨l'⟩
    match l', h2 with
    | [a, b, c], _ => exact ⟨a, b, c, rfl⟩
  exact ⟨a, b, c, rfl, hl.2 0 _ _ rfl rfl, hl.2 1 _ _ rfl rfl, hl.2 2 _ _ rfl rfl⟩
theorem vrel_i {φ : Emb} {k : IntKind} {n : Int} {v : Value} (h : VRel φ (.int k n) v) : v = .int k n := by cases h; rfl

section
variable {α : Type} {f : α → List Value} {H : AH} {B : Nat} {q : Sl} {l : List α}

theorem fm_take (hf : ∀ x, (f x).length = 3) (l : List α) (i : Nat) : (l.flatMap f).take (i * 3) = (l.take i).flatMap f := by
  induction l generalizing i with
  | nil => simp
  | cons a l ih =>
    cases i with
    | zero => simp
    | succ i =>
      rw [List.take_succ_cons, List.flatMap_cons, List.flatMap_cons, List.take_append, hf, List.take_of_length_le (by rw [hf]; omega), show (i + 1) * 3 - 3 = i * 3 by omega, ih]
theorem fm_drop (hf : ∀ x, (f x).length = 3) (l : List α) (i : Nat) : (l.flatMap f).drop (i * 3) = (l.drop i).flatMap f := by
  induction l generalizing i with
  | nil => simp
  | cons a l ih =>
    cases i with
    | zero => simp
    | succ i =>
      rw [List.drop_succ_cons, List.flatMap_cons, List.drop_append, hf, List.drop_of_length_le (by rw [hf]; omega), show (i + 1) * 3 - 3 = i * 3 by omega, ih, List.nil_append]

theorem one_cells {φ : Emb} {xs ys : List Value} (h : LRel φ xs ys) (hc : xs.all cellOK = true) : ∀ v ∈ ys, v.oneCell' = true := by
  intro v hv
  obtain ⟨j, hj⟩ := List.getElem?_of_mem hv
  have hlt : j < xs.length := by rw [h.1]; exact (List.getElem?_eq_some_iff.1 hj).1
  exact (h.2 j _ v (List.getElem?_eq_getElem hlt) hj).oneCell (List.all_eq_true.1 hc _ (List.getElem_mem hlt))

theorem slices_Delete_extent.s {i : Nat} {k : Sl → AH → Prop} (hf : ∀ x, (f x).length = 3) (hc : ∀ x, (f x).all cellOK = true) (hO : Own B H q 3 f l) (hi : i < l.length) (hlim : l.length ≤ 1000000000)
    (h : ∀ s' H', Own H.size H' s' 3 f (l.eraseIdx i) → H.size ≤ H'.size → (∀ b, b < H.size → (∀ a, q.a = some a → b ≠ a.block) → H'.get b = H.get b) → k s' H') : slices_Delete_extent q i ((i : Int) + 1) H k := by
  unfold slices_Delete_extent
  refine ⟨by kernel_rfl, fun W w φ args' hl R => ?_⟩
  obtain ⟨a0, a1, a2, rfl, h0, h1, h2⟩ := argl3 hl
  have h1 := vrel_i h1
  have h2 := vrel_i h2
  subst h1 h2
  rcases hO with ⟨_, rfl⟩ | ⟨b, rfl, hB, hbH, hg⟩
  · simp at hi
  simp only [Sl.val] at h0
  generalize hxv : Value.slice (some ⟨b, 0, none⟩) l.length 1 = xv at h0
  cases h0 with
  | sl0 => cases hxv
  | sle a0 a' k' => simp at hxv
  | @sl b' Bk o _ _ k' hb hn hk =>
    injection hxv with x1 x2 x3
    injection x1 with x1
    injection x1 with x1 x4
    subst x1 x2 x3 x4
    have hm : (H.get b).md = .rw := by rw [hg]
    obtain ⟨hW, hroom, hes⟩ := R.room b Bk hb hm
    have hsz : Bk.sz = 3 := by
      rcases hes with h0 | h0
      · rw [hg] at h0; simp at h0
      · rw [← h0, hg]
    have hk' : k' * 3 ≤ Bk.m := by rcases hk with h0 | h0
                                   · omega
                                   · rw [hsz] at h0; omega
    obtain ⟨cs, hrel, hcell⟩ := R.cells hb (by simp [hm])
    have hgc : (H.get b).cells = l.flatMap f := by rw [hg]
    rw [hgc] at hrel
    have hcl : cs.length = l.length * 3 := by rw [← hrel.1, flat_len hf]
    have hall : (l.flatMap f).all cellOK = true := by simp [List.all_flatMap, hc]
    have h1c := one_cells hrel hall
    have hcs : ∀ j u, cs[j]? = some u → w.cell? ⟨Bk.c, j, none⟩ = some u := fun j u hj => by
      have := hcell j u hj
      rwa [Addr.add_lit, Nat.zero_add] at this
    have hsome : ∀ j, j < Bk.m → (w.cell? ⟨Bk.c, j, none⟩).isSome = true := fun j hj => Option.isSome_iff_exists.2 (hroom j hj)
    refine (del_any Bk.c l.length k' i cs w hi hn hlim hcl hcs (fun j => R.unfrozen hb hW j) h1c).mono fun e w' he => ?_
    obtain ⟨rfl, rfl⟩ := he
    have hcd : (cs.drop ((i + 1) * 3)).length = (l.length - (i + 1)) * 3 := by rw [List.length_drop, hcl]; omega
    have hzl : zex.length = 3 := rfl
    have e1 : ∀ j, (w.drew.setCells Bk.c (i * 3) (cs.drop ((i + 1) * 3))).cell? ⟨Bk.c, j, none⟩ = if i * 3 ≤ j ∧ j < i * 3 + (cs.drop ((i + 1) * 3)).length then (cs.drop ((i + 1) * 3))[j - i * 3]? else w.drew.cell? ⟨Bk.c, j, none⟩ :=
      fun j => sc_cell (w := w.drew) Bk.c (i * 3) (cs.drop ((i + 1) * 3)) (fun t ht => hsome (i * 3 + t) (by rw [hcd] at ht; omega)) j
    have e2 := fun j => sc_cell (w := w.drew.setCells Bk.c (i * 3) (cs.drop ((i + 1) * 3))) Bk.c ((l.length - 1) * 3) zex (fun t ht => isSome_set _ _ _ (hsome ((l.length - 1) * 3 + t) (by rw [hzl] at ht; omega))) j
    obtain ⟨hh, hR⟩ := redo R hb hm ((l.eraseIdx i).flatMap f) (w2 := (w.drew.setCells Bk.c (i * 3) (cs.drop ((i + 1) * 3))).setCells Bk.c ((l.length - 1) * 3) zex)
      (fun H' R' hd => Rel.scribble hW hd _ _ (Rel.scribble hW hd _ _ R'.drew))
      (fun j hj => Option.isSome_iff_exists.1 (isSome_set _ _ _ (isSome_set _ _ _ (hsome j hj))))
      (fun j v hj => by
        have hE : (l.eraseIdx i).flatMap f = (l.flatMap f).take (i * 3) ++ (l.flatMap f).drop ((i + 1) * 3) := by
          rw [fm_take hf, fm_drop hf, ← List.flatMap_append, List.eraseIdx_eq_take_drop_succ]
        have hrel2 := (lr_tk hrel (i * 3)).append (lr_dp hrel ((i + 1) * 3))
        rw [← hE] at hrel2
        have hlt : j < (cs.take (i * 3) ++ cs.drop ((i + 1) * 3)).length := by rw [← hrel2.1]; exact (List.getElem?_eq_some_iff.1 hj).1
        have htl : (cs.take (i * 3)).length = i * 3 := by rw [List.length_take, hcl]; omega
        refine ⟨(cs.take (i * 3) ++ cs.drop ((i + 1) * 3))[j], ?_, hrel2.2 j v _ hj (List.getElem?_eq_getElem hlt)⟩
        rw [← List.getElem?_eq_getElem hlt]
        rw [List.length_append, htl, hcd] at hlt
        rw [e2, if_neg (by omega), e1, hcd]
        by_cases h5 : j < i * 3
        · rw [if_neg (by omega), List.getElem?_append_left (by omega), List.getElem?_take, if_pos h5]
          show w.cell? _ = _
          have : j < cs.length := by omega
          rw [List.getElem?_eq_getElem this]
          exact hcs j _ (List.getElem?_eq_getElem this)
        · rw [if_pos (by omega), List.getElem?_append_right (by omega), htl])
    have hlen : (l.eraseIdx i).length = l.length - 1 := List.length_eraseIdx_of_lt hi
    refine ⟨.ret (Sl.val ⟨newAt H.size, l.length - 1, 1⟩), _, _, hh, .sl 0 _ 1 k' (Emb.add_self _ _ _) (show l.length - 1 ≤ k' by omega) (.inr (by rw [hsz]; omega)), hR, ⟨_, rfl, h _ _ (.inr ⟨H.size, ?_, ?_, ?_, ?_⟩) ?_ ?_⟩⟩
    · rw [hlen]; rfl
    · omega
    · simp [push_size, kill_size]
    · rw [hsz]; simp [push_get, kill_size]
    · simp [push_size, kill_size]
    · intro b' hb' hne
      have hne' : b' ≠ b := hne _ rfl
      rw [push_get_ne (by simp only [kill_size]; omega), kill_get_ne hne']
  | _ => cases hxv

theorem ins_list {xs vs : List Value} {n i : Nat} (hi : i ≤ n) (hx : xs.length = n * 3) (hv : vs.length = 3) (j : Nat) :
    (xs.take (i * 3) ++ vs ++ xs.drop (i * 3))[j]? = if j < i * 3 then xs[j]? else if j < i * 3 + 3 then vs[j - i * 3]? else xs[j - 3]? := by
  have htl : (xs.take (i * 3)).length = i * 3 := by rw [List.length_take, hx]; omega
  by_cases h1 : j < i * 3
  · rw [if_pos h1, List.append_assoc, List.getElem?_append_left (by omega), List.getElem?_take, if_pos h1]
  · rw [if_neg h1]
    by_cases h2 : j < i * 3 + 3
    · rw [if_pos h2, List.getElem?_append_left (by rw [List.length_append]; omega), List.getElem?_append_right (by omega), htl]
    · rw [if_neg h2, List.getElem?_append_right (by rw [List.length_append]; omega), List.length_append, htl, hv, List.getElem?_drop]
      congr 1; omega

theorem append_fresh {α : Type} {H : AH} {B : Nat} {s t : Sl} {z : Nat} {f : α → List Value} {l r : List α} {k : Sl → AH → Prop} (hf : ∀ x, (f x).length = z) (hc : ∀ x, (f x).all cellOK = true)
    (hO : Own B H s z f l) (hR : Abs.Rows H t z f r) (hr : r ≠ []) (hlim : l.length + r.length ≤ limS z)
    (h : ∀ s' H', Own H.size H' s' z f (l ++ r) → H.size ≤ H'.size → (∀ b, b < H.size → (∀ a, s.a = some a → b ≠ a.block) → H'.get b = H.get b) → k s' H') :
    appendC z H s t k := by
  have hrow := rows_flat hf hc hR
  have hs : s.n = l.length := own_len hO
  refine ⟨by rw [hs, hR.1]; exact hlim, ?_⟩
  have h0 : t.n ≠ 0 := fun h0 => hr (List.length_eq_zero_iff.1 (by rw [← hR.1]; exact h0))
  rw [if_neg h0]
  refine ⟨_, hrow, ?_⟩
  have ht := hR.1
  rcases hO with ⟨rfl, rfl⟩ | ⟨b, rfl, hb1, hb2, hg⟩
  · refine h _ _ (.inr ⟨H.size, ?_, Nat.le_refl _, ?_, ?_⟩) (by simp [push_size]) ?_
    · simp [newAt, ht]
    · simp [push_size]
    · simp [push_get]
    · intro b hb _; exact push_get_ne (by omega)
  · refine ⟨⟨rfl, rfl, rfl, by rw [hg], by rw [hg, flat_len hf], by rw [hg]⟩, ?_⟩
    refine h _ _ (.inr ⟨H.size, ?_, Nat.le_refl _, ?_, ?_⟩) (by simp [push_size, kill_size]) ?_
    · simp [newAt, ht]
    · simp [push_size, kill_size]
    · simp only [push_get, kill_size, if_true]
      rw [hg]
      simp
    · intro b' hb' hne
      have hne' : b' ≠ b := hne _ rfl
      rw [push_get_ne (by simp only [kill_size]; omega), kill_get_ne hne']

theorem slices_Insert_extent.s {x : α} {o i : Nat} {k : Sl → AH → Prop} (hf : ∀ x, (f x).length = 3) (hc : ∀ x, (f x).all cellOK = true) (hO : Own B H q 3 f l) (hi : i ≤ l.length) (hlim : l.length ≤ 1000000000)
    (ho : o < H.size) (hBs : B ≤ H.size) (hgo : H.get o = ⟨f x, .rw, 3⟩) (hne : ∀ a, q.a = some a → a.block ≠ o)
    (h : ∀ s' H', Own H.size H' s' 3 f (l.take i ++ x :: l.drop i) → H.size ≤ H'.size → (∀ b, b < H.size → (∀ a, q.a = some a → b ≠ a.block) → H'.get b = H.get b) → k s' H') : slices_Insert_extent q i ⟨some ⟨o, 0, none⟩, 1, 1⟩ H k := by
  unfold slices_Insert_extent
  refine ⟨by kernel_rfl, fun W w φ args' hl R => ?_⟩
  obtain ⟨a0, a1, a2, rfl, h0, h1, h2⟩ := argl3 hl
  have h1 := vrel_i h1
  subst h1
  have hrow : AH.rowS? H ⟨some ⟨o, 0, none⟩, 1, 1⟩ 3 = some (f x) := by
    simp only [AH.rowS?, Nat.one_mul]
    rw [if_neg (by simp)]
    simp only [AH.row?, hgo, Option.isSome_none, Bool.false_eq_true, if_false, Nat.zero_add, List.drop_zero]
    rw [if_neg (by simp), List.take_of_length_le (by rw [hf]; omega), if_pos ⟨by rw [hf]; omega, hc x⟩]
  have hrows : Abs.Rows H ⟨some ⟨o, 0, none⟩, 1, 1⟩ 3 f [x] := by
    refine ⟨rfl, fun j y hj => ⟨_, rfl, rfl, ho, ?_⟩⟩
    cases j with
    | zero =>
      simp only [List.getElem?_cons_zero, Option.some.injEq] at hj
      subst hj
      simp only [AH.row?, hgo, Option.isSome_none, Bool.false_eq_true, if_false, Nat.zero_add, List.drop_zero, Nat.zero_mul]
      rw [if_neg (by simp), List.take_of_length_le (by rw [hf]; omega), if_pos ⟨by rw [hf]; omega, hc x⟩]
    | succ j => simp at hj
  obtain ⟨vb, vB, vo, vc, vs, hva, hvb, rfl, hvl, hvr, hvcell, hv1⟩ := R.rowS hrow (by simp) h2
  injection hva with hva
  injection hva with e1 e2
  subst e1 e2
  have hvl3 : vs.length = 3 := by rw [← hvr.1, hf]
  have hwork : ∀ a0 : Value, (∃ xa xc, a0 = .slice xa l.length xc ∧ l.length ≤ xc) → VRel φ q.val a0 → i = l.length →
      Calls Try.prog 63 #[a0, .int .i64 i, .slice (some ⟨vB.c, 0, none⟩) 1 vc] w fun e w' => ∃ le φ' H', Hist φ H φ' H' ∧ EndRel φ' le e ∧ Rel W φ' H' w' ∧ in1 .sl le noPan (fun r0 => k r0 H') := by
    rintro a0 ⟨xa, xc, hx', hxc⟩ hv0 hil
    have hap : appendC (T 103).size H q ⟨some ⟨o, 0, none⟩, 1, 1⟩ k := by
      refine append_fresh hf hc hO hrows (by simp) (Nat.le_trans (by show l.length + 1 ≤ 4294967296; omega) (limS_le 3)) ?_
      intro s' H' hO' hs' hfr'
      refine h s' H' ?_ hs' hfr'
      rw [hil, List.take_length, List.drop_length]
      exact hO'
    obtain ⟨v', w', s', φ', H', hrun, hh, hv', hR', hk'⟩ := append_sound hT Try.underlying91 (by decide) (by decide) (by kernel_rfl) (by decide) hap R hv0 h2 91
    rw [hil]
    refine (ins_end a0 _ v' l.length _ vc xa xc hx' rfl hxc w w' hrun).mono fun e w2 he => ?_
    obtain ⟨rfl, rfl⟩ := he
    exact ⟨.ret s'.val, φ', H', hh, hv', hR', ⟨_, rfl, hk'⟩⟩
  rcases hO with ⟨rfl, rfl⟩ | ⟨b, rfl, hB, hbH, hg⟩
  · have hi0 : i = 0 := by simpa using hi
    subst hi0
    refine hwork a0 ?_ h0 rfl
    simp only [Sl.val] at h0
    generalize hxv : Value.slice none 0 0 = xv at h0
    cases h0 <;> first | exact ⟨_, _, rfl, Nat.le_refl _⟩ | cases hxv
  simp only [Sl.val] at h0
  have h00 := h0
  generalize hxv : Value.slice (some ⟨b, 0, none⟩) l.length 1 = xv at h0
  cases h0 with
  | sl0 => cases hxv
  | sle a0 a' k' => simp at hxv
  | @sl b' Bk ofs _ _ k' hb hn hk =>
    injection hxv with x1 x2 x3
    injection x1 with x1
    injection x1 with x1 x4
    subst x1 x2 x3 x4
    by_cases hil : i = l.length
    · exact hwork _ ⟨_, _, rfl, hn⟩ h00 hil
    have hil' : i < l.length := by omega
    have hm : (H.get b).md = .rw := by rw [hg]
    obtain ⟨hW, hroom, hes⟩ := R.room b Bk hb hm
    have hmo : (H.get o).md = .rw := by rw [hgo]
    obtain ⟨hWv, _, _⟩ := R.room o vB hvb hmo
    have hvne : vB.c ≠ Bk.c := by
      intro hcc
      rcases R.own b Bk hb hm o vB hvb hcc with h0 | h0
      · exact hne _ rfl h0.symm
      · rw [hgo] at h0; simp at h0
    have hsz : Bk.sz = 3 := by
      rcases hes with h0 | h0
      · rw [hg] at h0; simp at h0
      · rw [← h0, hg]
    have hk' : k' * 3 ≤ Bk.m := by rcases hk with h0 | h0
                                   · omega
                                   · rw [hsz] at h0; omega
    obtain ⟨cs, hrel, hcell⟩ := R.cells hb (by simp [hm])
    have hgc : (H.get b).cells = l.flatMap f := by rw [hg]
    rw [hgc] at hrel
    have hcl : cs.length = l.length * 3 := by rw [← hrel.1, flat_len hf]
    have hall : (l.flatMap f).all cellOK = true := by simp [List.all_flatMap, hc]
    have h1c := one_cells hrel hall
    have hcs : ∀ j u, cs[j]? = some u → w.cell? ⟨Bk.c, j, none⟩ = some u := fun j u hj => by
      have := hcell j u hj
      rwa [Addr.add_lit, Nat.zero_add] at this
    have hvs : ∀ j u, vs[j]? = some u → w.cell? ⟨vB.c, 0 + j, none⟩ = some u := fun j u hj => by
      have := hvcell j u hj
      rwa [Addr.add_lit] at this
    have hsome : ∀ j, j < Bk.m → (w.cell? ⟨Bk.c, j, none⟩).isSome = true := fun j hj => Option.isSome_iff_exists.2 (hroom j hj)
    have hdl : (cs.drop (i * 3)).length = (l.length - i) * 3 := by rw [List.length_drop, hcl]; omega
    -- the row as it is to be
    have hE : (l.take i ++ x :: l.drop i).flatMap f = (l.flatMap f).take (i * 3) ++ f x ++ (l.flatMap f).drop (i * 3) := by
      rw [fm_take hf, fm_drop hf, List.flatMap_append, List.flatMap_cons, List.append_assoc]
    have hrel2 : LRel φ ((l.take i ++ x :: l.drop i).flatMap f) (cs.take (i * 3) ++ vs ++ cs.drop (i * 3)) := by
      rw [hE]
      exact ((lr_tk hrel (i * 3)).append hvr).append (lr_dp hrel (i * 3))
    have hll : (l.take i ++ x :: l.drop i).length = l.length + 1 := by rw [List.length_append, List.length_cons, List.length_take, List.length_drop]; omega
    have hto : ∀ {w2 : World} {c : Nat}, (∀ j, j < (l.length + 1) * 3 → w2.cell? ⟨c, j, none⟩ = (cs.take (i * 3) ++ vs ++ cs.drop (i * 3))[j]?) → ∀ j v, ((l.take i ++ x :: l.drop i).flatMap f)[j]? = some v → ∃ v', w2.cell? ⟨c, j, none⟩ = some v' ∧ VRel φ v v' := by
      intro w2 c hw j v hj
      have hlt : j < ((l.take i ++ x :: l.drop i).flatMap f).length := (List.getElem?_eq_some_iff.1 hj).1
      have hlt2 := hlt
      rw [flat_len hf, hll] at hlt2
      rw [hrel2.1] at hlt
      exact ⟨_, by rw [hw j hlt2]; exact List.getElem?_eq_getElem hlt, hrel2.2 j v _ hj (List.getElem?_eq_getElem hlt)⟩
    by_cases hroom1 : l.length + 1 ≤ k'
    · obtain ⟨v0, hv0⟩ := hroom 0 (by omega)
      obtain ⟨tB, kB, hsb, hkB⟩ := shape_of hv0
      obtain ⟨tA, kA, hsa, _⟩ := shape_of (hvs 0 _ (List.getElem?_eq_getElem (by omega)))
      refine (ins_room Bk.c l.length k' i vB.c 0 vc cs vs w hil' hroom1 hlim hvne hcl hvl3 hcs (fun j hj => hsome j (by omega)) (fun j => R.unfrozen hb hW j) (fun j => R.unfrozen hvb hWv j) hvs h1c hv1 tA tB kA kB hsa hsb hkB).mono fun e w' he => ?_
      obtain ⟨rfl, rfl⟩ := he
      have e1 := fun j => sc_cell (w := w.drew) Bk.c ((i + 1) * 3) (cs.drop (i * 3)) (fun t ht => hsome ((i + 1) * 3 + t) (by rw [hdl] at ht; omega)) j
      have e2 := fun j => sc_cell (w := w.drew.setCells Bk.c ((i + 1) * 3) (cs.drop (i * 3))) Bk.c (i * 3) vs (fun t ht => isSome_set _ _ _ (hsome (i * 3 + t) (by omega))) j
      obtain ⟨hh, hR⟩ := redo R hb hm ((l.take i ++ x :: l.drop i).flatMap f) (w2 := (w.drew.setCells Bk.c ((i + 1) * 3) (cs.drop (i * 3))).setCells Bk.c (i * 3) vs)
        (fun H' R' hd => Rel.scribble hW hd _ _ (Rel.scribble hW hd _ _ R'.drew))
        (fun j hj => Option.isSome_iff_exists.1 (isSome_set _ _ _ (isSome_set _ _ _ (hsome j hj))))
        (hto fun j hj => by
          rw [e2, e1, ins_list (n := l.length) hi hcl hvl3, hdl, hvl3]
          by_cases h1 : j < i * 3
          · rw [if_neg (by omega), if_neg (by omega), if_pos h1]
            show w.cell? _ = _
            have : j < cs.length := by omega
            rw [List.getElem?_eq_getElem this]
            exact hcs j _ (List.getElem?_eq_getElem this)
          · rw [if_neg h1]
            by_cases h2 : j < i * 3 + 3
            · rw [if_pos (by omega), if_pos h2]
            · rw [if_neg (by omega), if_neg h2, if_pos (by omega), List.getElem?_drop]
              congr 1; omega)
      refine ⟨.ret (Sl.val ⟨newAt H.size, l.length + 1, 1⟩), _, _, hh, .sl 0 _ 1 k' (Emb.add_self _ _ _) hroom1 (.inr (by rw [hsz]; omega)), hR, ⟨_, rfl, h _ _ (.inr ⟨H.size, ?_, ?_, ?_, ?_⟩) ?_ ?_⟩⟩
      · rw [hll]; rfl
      · omega
      · simp [push_size, kill_size]
      · rw [hsz]; simp [push_get, kill_size]
      · simp [push_size, kill_size]
      · intro b' hb' hne
        have hne' : b' ≠ b := hne _ rfl
        rw [push_get_ne (by simp only [kill_size]; omega), kill_get_ne hne']
    · have hroom2 : k' < l.length + 1 := by omega
      refine (ins_grow Bk.c l.length k' i vB.c 0 vc cs vs w hil' hn hroom2 (by omega) hcl hvl3 hcs hvs h1c hv1).mono fun e w' he => ?_
      obtain ⟨rfl, rfl⟩ := he
      have hG := grownCap_ge w (l.length + 1) k' 103
      generalize hgc : grownCap w (l.length + 1) k' 103 = G at hG ⊢
      obtain ⟨ROW, hROW⟩ : ∃ ROW : Array Value, ROW = (cs.take (i * 3)).toArray ++ Builtin.zeroCells zexA (l.length + 1 - i) ++ Builtin.zeroCells zexA (G - (l.length + 1)) := ⟨_, rfl⟩
      have hRs : ROW.size = G * 3 := by
        rw [hROW]
        simp [Builtin.zeroCells, zexA_size, hcl]
        omega
      have hRt : ∀ j, j < i * 3 → ROW[j]? = cs[j]? := fun j hj => by
        rw [hROW, Array.append_assoc, Array.getElem?_append_left (by simp [hcl]; omega)]
        simp [List.getElem?_take, hj]
      rw [← hROW]
      clear hROW
      have R1 := R.push ⟨[], .rw, 3⟩
      have hfresh := R.fresh
      have hlay : Rel W (φ.add H.size ⟨w.heap.size, ROW.size, 3⟩) (H.push ⟨[], .rw, 3⟩) (w.alloc (.cells ROW 103)) :=
        alloc_lay R1 (b := H.size) (by simp [AH.push]) hfresh 103 (cells := []) (esz := 3) (by simp [AH.push]) (by simp) (fun j v hj => by simp at hj)
      have hcellN : ∀ j, (w.alloc (.cells ROW 103)).cell? ⟨w.heap.size, j, none⟩ = ROW[j]? := fun j => World.cell?_alloc_at (w := w) ROW _ w.heap.size j rfl
      have hsomeN : ∀ j, j < G * 3 → ((w.alloc (.cells ROW 103)).cell? ⟨w.heap.size, j, none⟩).isSome = true := fun j hj => by
        rw [hcellN, Array.getElem?_eq_getElem (by omega)]; rfl
      have hb1 : (φ.add H.size ⟨w.heap.size, ROW.size, 3⟩) H.size = some ⟨w.heap.size, ROW.size, 3⟩ := Emb.add_self _ _ _
      have hm1 : ((H.push ⟨[], .rw, 3⟩).get H.size).md = .rw := by simp [AH.push]
      have hWN : W.heap.size ≤ w.heap.size := R.size
      have e1 := fun j => sc_cell (w := (w.alloc (.cells ROW 103)).drew) w.heap.size (i * 3) vs (fun t ht => hsomeN (i * 3 + t) (by omega)) j
      have e2 := fun j => sc_cell (w := ((w.alloc (.cells ROW 103)).drew.setCells w.heap.size (i * 3) vs).drew) w.heap.size ((i + 1) * 3) (cs.drop (i * 3)) (fun t ht => isSome_set (w := (w.alloc (.cells ROW 103)).drew) _ _ _ (hsomeN ((i + 1) * 3 + t) (by rw [hdl] at ht; omega))) j
      have hle : φ.le (φ.add H.size ⟨w.heap.size, ROW.size, 3⟩) := Emb.le_add hfresh
      obtain ⟨hh, hR⟩ := redo hlay hb1 hm1 ((l.take i ++ x :: l.drop i).flatMap f) (w2 := (((w.alloc (.cells ROW 103)).drew.setCells w.heap.size (i * 3) vs).drew).setCells w.heap.size ((i + 1) * 3) (cs.drop (i * 3)))
        (fun H' R' hd => Rel.scribble hWN hd _ _ (Rel.scribble hWN hd _ _ R'.drew).drew)
        (fun j hj => Option.isSome_iff_exists.1 (isSome_set _ _ _ (isSome_set (w := (w.alloc (.cells ROW 103)).drew) _ _ _ (hsomeN j (by rw [← hRs]; exact hj)))))
        (fun j v hj => by
          obtain ⟨v', hv1, hv2⟩ := hto (w2 := (((w.alloc (.cells ROW 103)).drew.setCells w.heap.size (i * 3) vs).drew).setCells w.heap.size ((i + 1) * 3) (cs.drop (i * 3))) (c := w.heap.size) (fun j hj => by
            rw [e2, ins_list (n := l.length) hi hcl hvl3, hdl]
            have e1' : (((w.alloc (.cells ROW 103)).drew.setCells w.heap.size (i * 3) vs).drew).cell? ⟨w.heap.size, j, none⟩ = _ := e1 j
            rw [e1', hvl3]
            by_cases h1 : j < i * 3
            · rw [if_neg (by omega), if_neg (by omega), if_pos h1]
              exact (hcellN j).trans (hRt j h1)
            · rw [if_neg h1]
              by_cases h2 : j < i * 3 + 3
              · rw [if_neg (by omega), if_pos (by omega), if_pos h2]
              · rw [if_pos (by omega), if_neg h2, List.getElem?_drop]
                congr 1; omega) j v hj
          exact ⟨v', hv1, hv2.mono hle⟩)
      have hh0 : Hist φ H (φ.add H.size ⟨w.heap.size, ROW.size, 3⟩) (H.push ⟨[], .rw, 3⟩) := by
        refine ⟨hle, by simp [AH.push], fun b hb hn => ?_, fun b hb _ => ?_⟩
        · have : b ≠ H.size := by omega
          simp [Emb.add, this, hn]
        · have : b ≠ H.size := by omega
          simp [AH.push, this]
      refine ⟨.ret (Sl.val ⟨newAt (H.push ⟨[], .rw, 3⟩).size, l.length + 1, 1⟩), _, _, hh0.trans hh, .sl 0 _ 1 G (Emb.add_self _ _ _) hG (.inr (by rw [hRs]; simp)), hR, ⟨_, rfl, h _ _ (.inr ⟨H.size + 1, ?_, ?_, ?_, ?_⟩) ?_ ?_⟩⟩
      · rw [hll]; rfl
      · omega
      · simp [push_size, kill_size]
      · simp [push_get, kill_size, push_size]
      · simp [push_size, kill_size]; omega
      · intro b' hb' hne
        rw [push_get_ne (by simp only [kill_size, push_size]; omega), kill_get_ne (by omega), push_get_ne (by omega)]
  | _ => cases hxv
end
end Go.Proofs.Ytgddfhnochcolaa
