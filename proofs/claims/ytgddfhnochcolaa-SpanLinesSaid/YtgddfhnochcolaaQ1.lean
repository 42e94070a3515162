import Derived.Test.YtgddfhnochcolaaAbsTwo
import Derived.Test.YtgddfhnochcolaaShl
import Derived.Test.YtgddfhnochcolaaMCon
import Derived.Test.YtgddfhnochcolaaI9
set_option linter.all false
set_option linter.all false
namespace Go.Proofs.Ytgddfhnochcolaa
open Go Go.Abs

/-! ### slices.Sort and slices.Compact at []int, off the shelf's contracts -/
def placeA (d : Array Int) : Nat → List Int → Array Int
  | _, [] => d
  | o, v :: vs => placeA (d.setIfInBounds o v) (o + 1) vs
theorem placeA_size : ∀ (vs : List Int) (d : Array Int) (o : Nat), (placeA d o vs).size = d.size := by
  intro vs
  induction vs with
  | nil => intro d o; rfl
  | cons v r ih => intro d o; simp [placeA, ih]
theorem placeA_get : ∀ (vs : List Int) (d : Array Int) (o k : Nat), o + vs.length ≤ d.size → (placeA d o vs)[k]? = if o ≤ k ∧ k < o + vs.length then vs[k - o]? else d[k]? := by
  intro vs
  induction vs with
  | nil => intro d o k _; rw [if_neg (by simp)]; rfl
  | cons v r ih =>
    intro d o k h
    simp only [List.length_cons] at h
    rw [placeA, ih _ _ _ (by simp; omega)]
    by_cases h1 : o + 1 ≤ k ∧ k < o + 1 + r.length
    · rw [if_pos h1, if_pos (by simp; omega), show k - o = (k - (o + 1)) + 1 by omega, List.getElem?_cons_succ]
    · rw [if_neg h1]
      by_cases h2 : k = o
      · subst h2
        rw [if_pos (by simp), Array.getElem?_setIfInBounds, if_pos rfl, if_pos (by omega)]; simp
      · rw [if_neg (by simp; omega), Array.getElem?_setIfInBounds, if_neg (fun h => h2 h.symm)]
theorem putRow_place (w : World) (b : Nat) : ∀ (vs : List Int) (d : Array Int) (o : Nat), o + vs.length ≤ d.size → (Sort.putRow (Value.int .i64) w b 0 d).setCells b o (vs.map (Value.int .i64)) = Sort.putRow (Value.int .i64) w b 0 (placeA d o vs) := by
  intro vs
  induction vs with
  | nil => intro d o _; rfl
  | cons v r ih =>
    intro d o h
    simp only [List.length_cons] at h
    have h1 := Sort.putRow_set (Value.int .i64) w b 0 d o v (by omega)
    rw [Nat.zero_add] at h1
    rw [List.map_cons, World.setCells, h1, ih _ _ (by simp; omega)]
    rfl
theorem putRow_sets {w : World} {b : Nat} {d0 : Array Int} (h : Sort.Holds (Value.int .i64) w b 0 d0) {zs : List Int} (hz : zs.length = d0.size) : Sort.putRow (Value.int .i64) w b 0 zs.toArray = w.setCells b 0 (zs.map (Value.int .i64)) := by
  have h1 := putRow_place w b zs d0 0 (by omega)
  rw [Sort.putRow_self _ _ _ _ _ h] at h1
  rw [h1]
  congr 1
  apply Array.ext_getElem?
  intro k
  rw [placeA_get _ _ _ _ (by omega)]
  by_cases hk : k < zs.length
  · rw [if_pos (by omega)]; simp
  · rw [if_neg (by omega), Array.getElem?_eq_none (xs := d0) (by omega), Array.getElem?_eq_none (by simp; omega)]

section
variable {H : AH} {B : Nat} {q : Sl} {l : List Int}
theorem iV_map (l : List Int) : l.flatMap iV = l.map (Value.int .i64) := by
  induction l with
  | nil => rfl
  | cons a r ih => rw [List.flatMap_cons, ih]; rfl
theorem vrel_ints {φ : Emb} {xs : List Int} {ys : List Value} (h : LRel φ (xs.map (Value.int .i64)) ys) : ys = xs.map (Value.int .i64) := by
  apply List.ext_getElem?
  intro i
  by_cases hi : i < xs.length
  · have hy : i < ys.length := by rw [← h.1]; simpa using hi
    have h1 : (xs.map (Value.int .i64))[i]? = some (Value.int .i64 xs[i]) := by rw [List.getElem?_map, List.getElem?_eq_getElem hi]; rfl
    have := vrel_i (h.2 i _ _ h1 (List.getElem?_eq_getElem hy))
    rw [h1, List.getElem?_eq_getElem hy, this]
  · rw [List.getElem?_eq_none (by rw [← h.1]; simp; omega), List.getElem?_eq_none (by simp; omega)]

def sortL (l : List Int) : List Int := l.mergeSort fun x y => decide (x ≤ y)
theorem sortL_len (l : List Int) : (sortL l).length = l.length := List.length_mergeSort _

theorem ahead_rel {W w : World} {φ : Emb} {H : AH} (R : Rel W φ H w) (n : Nat) : Rel W φ H (Sort.ahead w n) :=
  { below := R.below, size := R.size, tape := R.tape, os := R.os, output := R.output, froz := R.froz, dom := R.dom, cell := R.cell, room := R.room, own := R.own, out := R.out }

theorem own_world {α : Type} {f : α → List Value} {b : Nat} {l : List α} (hb : H.get b = ⟨l.flatMap f, .rw, 1⟩) : (H.get b).md = .rw := by rw [hb]

theorem slices_Sort_intint.s {k : AH → Prop} (hO : Own B H q 1 iV l) (hl : l.length ≤ 1000000000)
    (h : ∀ H', Own B H' q 1 iV (sortL l) → H.size ≤ H'.size → (∀ b, b < H.size → (∀ a, q.a = some a → b ≠ a.block) → H'.get b = H.get b) → k H') : slices_Sort_intint q H k := by
  unfold slices_Sort_intint
  refine ⟨by kernel_rfl, fun W w φ args' hlr R => ?_⟩
  obtain ⟨a0, rfl, h0⟩ : ∃ a, args' = #[a] ∧ VRel φ q.val a := by
    obtain ⟨a, rfl⟩ : ∃ a, args' = #[a] := by
      have h2 := hlr.1
      rcases args' with ⟨l'⟩
      match l', h2 with
      | [a], _ => exact ⟨a, rfl⟩
    exact ⟨a, rfl, hlr.2 0 _ _ rfl rfl⟩
  rcases hO with ⟨rfl, rfl⟩ | ⟨b, rfl, hB, hbH, hg⟩
  · simp only [Sl.val] at h0
    generalize hxv : Value.slice none 0 0 = xv at h0
    have hd : ∃ p c, a0 = .slice p 0 c := by cases h0 <;> first | exact ⟨_, _, rfl⟩ | cases hxv
    obtain ⟨p, c, rfl⟩ := hd
    refine (Any.slices_Sort_int_none laysSort p c w).mono fun e w' he => ?_
    obtain ⟨rfl, rfl⟩ := he
    exact ⟨.ret (.tuple #[]), φ, H, Hist.refl _ _, .undef _, R, h H (.inl ⟨rfl, by simp [sortL]⟩) (Nat.le_refl _) (fun _ _ _ => rfl)⟩
  simp only [Sl.val] at h0
  generalize hxv : Value.slice (some ⟨b, 0, none⟩) l.length 1 = xv at h0
  cases h0 with
  | sl0 => cases hxv
  | sle a0 a' k' => simp at hxv
  | @sl b' Bk o _ _ k' hb hn hk =>
    injection hxv with x1 x2 x3
    injection x1 with x1
    injection x1 with x1 x4
    subst x1 x2 x3 x4
    have hm := own_world hg
    obtain ⟨hW, hroom, hes⟩ := R.room b Bk hb hm
    obtain ⟨cs, hrel, hcell⟩ := R.cells hb (by simp [hm])
    rw [hg] at hrel
    simp only [iV_map] at hrel
    have hcs := vrel_ints hrel
    subst hcs
    have hH : Sort.Holds (Value.int .i64) w Bk.c 0 l.toArray := by
      intro j hj
      have hj' : j < l.length := by simpa using hj
      refine ⟨?_, R.unfrozen hb hW _⟩
      have h1 := hcell j (Value.int .i64 l[j]) (by rw [List.getElem?_map, List.getElem?_eq_getElem hj']; rfl)
      rw [Addr.add_lit] at h1
      rw [h1]
      simp [hj']
    refine (Any.slices_Sort_int laysSort Bk.c 0 k' l w hH (R.dom b Bk hb).2 (by omega)).mono fun e w' he => ?_
    obtain ⟨rfl, n, os, rfl⟩ := he
    have hsets := putRow_sets (w := Sort.ahead w n) (d0 := l.toArray) (zs := sortL l) hH (by rw [sortL_len]; simp)
    have hput := Rel.put (P := Try.prog) (ahead_rel R n) (b := b) (o := 0) hb (vs := (sortL l).map (Value.int .i64)) (vs' := (sortL l).map (Value.int .i64)) ⟨rfl, hm, by simp [hg, iV_map, sortL_len]⟩ ⟨rfl, fun i x y hx hy => by
      rw [hx] at hy; injection hy with hy; subst hy
      rw [List.getElem?_map, Option.map_eq_some_iff] at hx
      obtain ⟨z, _, rfl⟩ := hx
      exact .int _ _⟩ (fun v hv => by rw [List.mem_map] at hv; obtain ⟨z, _, rfl⟩ := hv; rfl)
    have hR := (hput.1).grow os
    rw [← hsets] at hR
    have hgp : (H.put ⟨b, 0, none⟩ ((sortL l).map (Value.int .i64))).get b = ⟨(sortL l).flatMap iV, .rw, 1⟩ := by
      simp only [AH.put, upd_get, if_true, hg, AObj.mk.injEq, and_true]
      rw [iV_map, iV_map]
      apply List.ext_getElem?
      intro i
      rw [setMany_get _ _ _ _ (by simp [sortL_len])]
      by_cases hi : i < (sortL l).length
      · rw [if_pos (by simp; omega)]; rfl
      · rw [if_neg (by simp; omega), List.getElem?_eq_none (by simp; rw [← sortL_len l]; omega), List.getElem?_eq_none (by simp; omega)]
    refine ⟨.ret (.tuple #[]), φ, H.put ⟨b, 0, none⟩ ((sortL l).map (Value.int .i64)), ⟨Emb.le_refl φ, Nat.le_refl _, fun _ _ h => h, fun x hx hn => ?_⟩, .undef _, hR, h _ (.inr ⟨b, ?_, hB, hbH, hgp⟩) (Nat.le_refl _) (fun x hx hne => ?_)⟩
    · have : x ≠ b := fun he => by rw [he, hb] at hn; cases hn
      simp [AH.put, upd_get, this]
    · rw [sortL_len]
    · have : x ≠ b := hne _ rfl
      simp [AH.put, upd_get, this]
  | _ => cases hxv

/-! ### Compact -/
theorem keeps_dec (d : Array Int) (j : Nat) : Lib.keeps d j = true ↔ j = 0 ∨ d[j]! ≠ d[j - 1]! := by unfold Lib.keeps; rw [decide_eq_true_eq]
theorem compactUpTo_len (d : Array Int) : ∀ m, (Lib.compactUpTo d m).length ≤ m := by
  intro m
  induction m with
  | zero => exact Nat.le_refl _
  | succ m ih =>
    rw [Lib.compactUpTo_succ, List.length_append]
    split
    · simp only [List.length_cons, List.length_nil]; omega
    · simp only [List.length_nil]; omega
theorem compact_len (l : List Int) : (Lib.compact l).length ≤ l.length := compactUpTo_len _ _
/-- Of what is sorted: each once. -/
theorem compactUpTo_sorted {d : Array Int} (hs : ∀ i j, i < j → j < d.size → d[i]! ≤ d[j]!) : ∀ m, m ≤ d.size → (Lib.compactUpTo d m).Pairwise (· < ·) ∧ (∀ x, x ∈ Lib.compactUpTo d m ↔ ∃ i, i < m ∧ d[i]! = x) := by
  intro m
  induction m with
  | zero => intro _; exact ⟨List.Pairwise.nil, fun x => ⟨fun h => (by cases h), fun ⟨i, h, _⟩ => (by omega)⟩⟩
  | succ m ih =>
    intro hm
    obtain ⟨h1, h2⟩ := ih (by omega)
    rw [Lib.compactUpTo_succ]
    by_cases hk : Lib.keeps d m = true
    · rw [if_pos hk]
      rw [keeps_dec] at hk
      refine ⟨?_, fun x => ?_⟩
      · rw [List.pairwise_append]
        refine ⟨h1, List.pairwise_singleton _ _, fun a ha b hb => ?_⟩
        rw [List.mem_singleton] at hb
        subst hb
        obtain ⟨i, hi, rfl⟩ := (h2 a).1 ha
        rcases hk with rfl | hk
        · omega
        · have e1 : d[i]! ≤ d[m - 1]! := by
            by_cases hi1 : i = m - 1
            · rw [hi1]; exact Int.le_refl _
            · exact hs i (m - 1) (by omega) (by omega)
          have e2 := hs (m - 1) m (by omega) (by omega)
          omega
      · rw [List.mem_append, List.mem_singleton, h2]
        constructor
        · rintro (⟨i, hi, e⟩ | rfl)
          · exact ⟨i, by omega, e⟩
          · exact ⟨m, by omega, rfl⟩
        · rintro ⟨i, hi, e⟩
          by_cases him : i = m
          · subst him; exact .inr e.symm
          · exact .inl ⟨i, by omega, e⟩
    · rw [if_neg hk, List.append_nil]
      have hk' : ¬ (m = 0 ∨ d[m]! ≠ d[m - 1]!) := fun hh => hk ((keeps_dec d m).2 hh)
      refine ⟨h1, fun x => ?_⟩
      rw [h2]
      constructor
      · rintro ⟨i, hi, e⟩; exact ⟨i, by omega, e⟩
      · rintro ⟨i, hi, e⟩
        by_cases him : i = m
        · subst him
          have : d[i]! = d[i - 1]! := by
            by_cases he : d[i]! = d[i - 1]!
            · exact he
            · exact absurd (.inr he) hk'
          exact ⟨i - 1, by omega, by rw [← this, e]⟩
        · exact ⟨i, by omega, e⟩
theorem sortL_sorted (l : List Int) : (sortL l).Pairwise (· ≤ ·) := by
  have := List.pairwise_mergeSort (le := fun (x y : Int) => decide (x ≤ y)) (fun a b c h1 h2 => by simp at *; omega) (fun a b => by simp; omega) l
  unfold sortL
  exact this.imp (fun h => by simpa using h)
theorem sortL_mem {l : List Int} {x : Int} : x ∈ sortL l ↔ x ∈ l := List.mem_mergeSort
theorem compact_sorted (l : List Int) : (Lib.compact (sortL l)).Pairwise (· < ·) ∧ ∀ x, x ∈ Lib.compact (sortL l) ↔ x ∈ l := by
  have hs := sortL_sorted l
  have hd : ∀ i j, i < j → j < (sortL l).toArray.size → (sortL l).toArray[i]! ≤ (sortL l).toArray[j]! := by
    intro i j hij hj
    have hj' : j < (sortL l).length := by simpa using hj
    have := List.pairwise_iff_getElem.1 hs i j (by omega) hj' hij
    simpa [hj', show i < (sortL l).length by omega] using this
  obtain ⟨h1, h2⟩ := compactUpTo_sorted hd (sortL l).length (by simp)
  refine ⟨h1, fun x => ?_⟩
  show x ∈ Lib.compactUpTo _ _ ↔ _
  rw [h2, ← sortL_mem (l := l), List.mem_iff_getElem]
  constructor
  · rintro ⟨i, hi, e⟩
    exact ⟨i, hi, by simpa [hi] using e⟩
  · rintro ⟨i, hi, e⟩
    exact ⟨i, hi, by simpa [hi] using e⟩
theorem strict_eq : ∀ {l1 l2 : List Int}, l1.Pairwise (· < ·) → l2.Pairwise (· < ·) → (∀ x, x ∈ l1 ↔ x ∈ l2) → l1 = l2 := by
  intro l1
  induction l1 with
  | nil =>
    intro l2 _ _ h
    cases l2 with
    | nil => rfl
    | cons b s => have := (h b).2 (by simp); cases this
  | cons a r ih =>
    intro l2 h1 h2 h
    cases l2 with
    | nil => have := (h a).1 (by simp); cases this
    | cons b s =>
      rw [List.pairwise_cons] at h1 h2
      have hab : a = b := by
        have ha := (h a).1 (by simp)
        have hb := (h b).2 (by simp)
        rw [List.mem_cons] at ha hb
        rcases ha with ha | ha
        · exact ha
        · rcases hb with hb | hb
          · exact hb.symm
          · have := h2.1 a ha; have := h1.1 b hb; omega
      subst hab
      rw [ih h1.2 h2.2 fun x => ?_]
      constructor
      · intro hx
        have := (h x).1 (by simp [hx])
        rw [List.mem_cons] at this
        rcases this with rfl | this
        · have := h1.1 x hx; omega
        · exact this
      · intro hx
        have := (h x).2 (by simp [hx])
        rw [List.mem_cons] at this
        rcases this with rfl | this
        · have := h2.1 x hx; omega
        · exact this

theorem slices_Compact_intint.s {k : Sl → AH → Prop} (hO : Own B H q 1 iV l) (hl : l.length ≤ 1000000000)
    (h : ∀ s' H', Own H.size H' s' 1 iV (Lib.compact l) → H.size ≤ H'.size → (∀ b, b < H.size → (∀ a, q.a = some a → b ≠ a.block) → H'.get b = H.get b) → k s' H') : slices_Compact_intint q H k := by
  unfold slices_Compact_intint
  refine ⟨by kernel_rfl, fun W w φ args' hlr R => ?_⟩
  obtain ⟨a0, rfl, h0⟩ : ∃ a, args' = #[a] ∧ VRel φ q.val a := by
    obtain ⟨a, rfl⟩ : ∃ a, args' = #[a] := by
      have h2 := hlr.1
      rcases args' with ⟨l'⟩
      match l', h2 with
      | [a], _ => exact ⟨a, rfl⟩
    exact ⟨a, rfl, hlr.2 0 _ _ rfl rfl⟩
  rcases hO with ⟨rfl, rfl⟩ | ⟨b, rfl, hB, hbH, hg⟩
  · simp only [Sl.val] at h0
    have h00 := h0
    generalize hxv : Value.slice none 0 0 = xv at h0
    have hd : ∃ p c, a0 = .slice p 0 c := by cases h0 <;> first | exact ⟨_, _, rfl⟩ | cases hxv
    obtain ⟨p, c, rfl⟩ := hd
    refine (Any.slices_Compact_int_empty laysCompact p c w).mono fun e w' he => ?_
    obtain ⟨rfl, rfl⟩ := he
    exact ⟨.ret (.slice none 0 0), φ, H, Hist.refl _ _, h00, R, ⟨⟨none, 0, 0⟩, rfl, h _ H (.inl ⟨rfl, rfl⟩) (Nat.le_refl _) (fun _ _ _ => rfl)⟩⟩
  simp only [Sl.val] at h0
  generalize hxv : Value.slice (some ⟨b, 0, none⟩) l.length 1 = xv at h0
  cases h0 with
  | sl0 => cases hxv
  | sle a0 a' k' => simp at hxv
  | @sl b' Bk o _ _ k' hb hn hk =>
    injection hxv with x1 x2 x3
    injection x1 with x1
    injection x1 with x1 x4
    subst x1 x2 x3 x4
    have hm := own_world hg
    obtain ⟨hW, hroom, hes⟩ := R.room b Bk hb hm
    have hsz : Bk.sz = 1 := by
      rcases hes with h0 | h0
      · rw [hg] at h0; simp at h0
      · rw [← h0, hg]
    have hk' : k' ≤ Bk.m := by rcases hk with h0 | h0
                               · omega
                               · rw [hsz] at h0; omega
    obtain ⟨cs, hrel, hcell⟩ := R.cells hb (by simp [hm])
    rw [hg] at hrel
    simp only [iV_map] at hrel
    have hcs := vrel_ints hrel
    subst hcs
    have hH : Sort.Holds (Value.int .i64) w Bk.c 0 l.toArray := by
      intro j hj
      have hj' : j < l.length := by simpa using hj
      refine ⟨?_, R.unfrozen hb hW _⟩
      have h1 := hcell j (Value.int .i64 l[j]) (by rw [List.getElem?_map, List.getElem?_eq_getElem hj']; rfl)
      rw [Addr.add_lit] at h1
      rw [h1]
      simp [hj']
    refine (Any.slices_Compact_int laysCompact Bk.c 0 k' l w hH (by omega) hn).mono fun e w' he => ?_
    obtain ⟨rfl, n, rfl⟩ := he
    have hcl := compact_len l
    have hzl : (Lib.compact l ++ List.replicate (l.length - (Lib.compact l).length) 0).length = l.length := by rw [List.length_append, List.length_replicate]; omega
    have hsets := putRow_sets (w := Sort.ahead w n) (d0 := l.toArray) (zs := Lib.compact l ++ List.replicate (l.length - (Lib.compact l).length) 0) hH (by rw [hzl]; simp)
    rw [hsets]
    have hsome : ∀ j, j < Bk.m → ((Sort.ahead w n).cell? ⟨Bk.c, j, none⟩).isSome = true := fun j hj => Option.isSome_iff_exists.2 (hroom j hj)
    have e1 := fun j => sc_cell (w := Sort.ahead w n) Bk.c 0 ((Lib.compact l ++ List.replicate (l.length - (Lib.compact l).length) 0).map (Value.int .i64)) (fun t ht => hsome (0 + t) (by rw [List.length_map, hzl] at ht; omega)) j
    obtain ⟨hh, hR⟩ := redo R hb hm ((Lib.compact l).flatMap iV) (w2 := (Sort.ahead w n).setCells Bk.c 0 ((Lib.compact l ++ List.replicate (l.length - (Lib.compact l).length) 0).map (Value.int .i64)))
      (fun H' R' hd => Rel.scribble hW hd _ _ (ahead_rel R' n))
      (fun j hj => Option.isSome_iff_exists.1 (isSome_set _ _ _ (hsome j hj)))
      (fun j v hj => by
        rw [iV_map] at hj
        have hlt : j < (Lib.compact l).length := by have := (List.getElem?_eq_some_iff.1 hj).1; simpa using this
        rw [e1, if_pos (by rw [List.length_map, hzl]; omega), Nat.sub_zero, List.map_append, List.getElem?_append_left (by simpa using hlt)]
        refine ⟨v, hj, ?_⟩
        rw [List.getElem?_map, Option.map_eq_some_iff] at hj
        obtain ⟨z, _, rfl⟩ := hj
        exact .int _ _)
    refine ⟨.ret (Sl.val ⟨newAt H.size, (Lib.compact l).length, 1⟩), _, _, hh, .sl 0 _ 1 k' (Emb.add_self _ _ _) (show (Lib.compact l).length ≤ k' by omega) (.inr (by rw [hsz]; omega)), hR, ⟨_, rfl, h _ _ (.inr ⟨H.size, rfl, Nat.le_refl _, ?_, ?_⟩) ?_ ?_⟩⟩
    · simp [push_size, kill_size]
    · rw [hsz]; simp [push_get, kill_size]
    · simp [push_size, kill_size]
    · intro b' hb' hne
      have hne' : b' ≠ b := hne _ rfl
      rw [push_get_ne (by simp only [kill_size]; omega), kill_get_ne hne']
  | _ => cases hxv
end
end Go.Proofs.Ytgddfhnochcolaa
