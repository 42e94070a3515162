import Derived.Test.YtgddfhnochcolaaE1
import Derived.Test.YtgddfhnochcolaaD2
set_option linter.all false
set_option linter.all false
namespace Go.Proofs.Ytgddfhnochcolaa
open Go Go.Abs

/-! ## The model's memory -/
def exV (x : Ex × Nat) : List Value := [.int .i64 x.1.1, .int .i64 x.1.2.1, .slice (some ⟨x.2, 0, none⟩) x.1.2.2.length 1]
theorem exV_len (x : Ex × Nat) : (exV x).length = 3 := rfl
theorem exV_ok (x : Ex × Nat) : (exV x).all cellOK = true := rfl

/-- What is not of F stays. -/
def Kp (F : Nat → Prop) (H H' : AH) : Prop := H.size ≤ H'.size ∧ ∀ b, b < H.size → ¬ F b → H'.get b = H.get b
/-- F' is of F and of what is new. -/
def Up (F : Nat → Prop) (H : AH) (F' : Nat → Prop) (H' : AH) : Prop := Kp F H H' ∧ ∀ b, F' b → F b ∨ (H.size ≤ b ∧ b < H'.size)
def Dj (F G : Nat → Prop) : Prop := ∀ b, F b → G b → False
def Lt (F : Nat → Prop) (H : AH) : Prop := ∀ b, F b → b < H.size
theorem Keeps.kp {F : Nat → Prop} {H H' : AH} (h : Keeps H H') : Kp F H H' := ⟨h.1, fun b hb _ => h.2 b hb⟩
theorem Kp.refl {F : Nat → Prop} (H : AH) : Kp F H H := ⟨Nat.le_refl _, fun _ _ _ => rfl⟩
theorem Up.refl {F : Nat → Prop} (H : AH) : Up F H F H := ⟨Kp.refl H, fun _ h => .inl h⟩
theorem Up.trans {F F' F'' : Nat → Prop} {H H' H'' : AH} (h : Up F H F' H') (h' : Up F' H' F'' H'') : Up F H F'' H'' := by
  refine ⟨⟨Nat.le_trans h.1.1 h'.1.1, fun b hb hn => ?_⟩, fun b hb => ?_⟩
  · have h1 := h.1.1
    rw [h'.1.2 b (by omega) (fun hh => (h.2 b hh).elim hn (fun hh => by omega)), h.1.2 b hb hn]
  · have h1 := h.1.1
    have h2 := h'.1.1
    rcases h'.2 b hb with h0 | h0
    · rcases h.2 b h0 with h0 | h0
      · exact .inl h0
      · exact .inr (by omega)
    · exact .inr (by omega)
theorem Up.keeps {F F' : Nat → Prop} {H H' H'' : AH} (h : Up F H F' H') (hk : Keeps H' H'') : Up F H F' H'' := by
  have h1 := h.1.1
  have h2 := hk.1
  refine ⟨⟨by omega, fun b hb hn => by rw [hk.2 b (by omega), h.1.2 b hb hn]⟩, fun b hb => ?_⟩
  rcases h.2 b hb with h0 | h0
  · exact .inl h0
  · exact .inr (by omega)
theorem Up.of_keeps {F F' : Nat → Prop} {H H' H'' : AH} (hk : Keeps H H') (h : Up F H' F' H'') : Up F H F' H'' := by
  have h1 := h.1.1
  have h2 := hk.1
  refine ⟨⟨by omega, fun b hb hn => by rw [h.1.2 b (by omega) hn, hk.2 b hb]⟩, fun b hb => ?_⟩
  rcases h.2 b hb with h0 | h0
  · exact .inl h0
  · exact .inr (by omega)
theorem Up.get {F F' G : Nat → Prop} {H H' : AH} (h : Up F H F' H') (hd : Dj F G) (hl : Lt G H) {b : Nat} (hb : G b) : H'.get b = H.get b := h.1.2 b (hl b hb) (fun hh => hd b hh hb)
theorem Up.dj {F F' G : Nat → Prop} {H H' : AH} (h : Up F H F' H') (hd : Dj F G) (hl : Lt G H) : Dj F' G := fun b hb hg => by
  rcases h.2 b hb with h0 | h0
  · exact hd b h0 hg
  · have := hl b hg; omega
theorem Up.lt {F F' G : Nat → Prop} {H H' : AH} (h : Up F H F' H') (hl : Lt G H) : Lt G H' := fun b hb => by have := hl b hb; have := h.1.1; omega

structure MdAt (F : Nat → Prop) (H : AH) (p : Nat) (words : Int) (s : Sl) (E : List (Ex × Nat)) (root : Int) : Prop where
  obj : H.get p = ⟨[.int .i64 words, s.val, .int .i64 root], .rw, 0⟩
  own : Own 0 H s 3 exV E
  bys : ∀ x ∈ E, H.get x.2 = ⟨x.1.2.2.flatMap bU, .rw, 1⟩
  fp : F p
  fs : ∀ a, s.a = some a → F a.block
  fx : ∀ x ∈ E, F x.2
  lt : Lt F H
  np : ∀ a, s.a = some a → a.block ≠ p
  nx : ∀ x ∈ E, x.2 ≠ p ∧ ∀ a, s.a = some a → a.block ≠ x.2
  nd : (E.map (·.2)).Nodup

def MW (F : Nat → Prop) (H : AH) (p : Nat) (ws : List Int) (root : Int) : Prop := ∃ s E, MdAt F H p ws.length s E root ∧ MR ws.length (E.map (·.1)) ws

section
variable {F : Nat → Prop} {H : AH} {p : Nat} {words root : Int} {s : Sl} {E : List (Ex × Nat)}
theorem MdAt.rows (h : MdAt F H p words s E root) : Abs.Rows H s 3 exV E := h.own.rows exV_len exV_ok
theorem MdAt.c0 (h : MdAt F H p words s E root) : AH.cell? H (Addr.add ⟨p, 0, none⟩ 0) = some (.int .i64 words) := by simp [addr_add, AH.cell?, h.obj]
theorem MdAt.c1 (h : MdAt F H p words s E root) : AH.cell? H (Addr.add ⟨p, 0, none⟩ 1) = some (.slice s.a s.n s.k) := by simp [addr_add, AH.cell?, h.obj, Sl.val]
theorem MdAt.c2 (h : MdAt F H p words s E root) : AH.cell? H (Addr.add ⟨p, 0, none⟩ 2) = some (.int .i64 root) := by simp [addr_add, AH.cell?, h.obj]
theorem MdAt.congr {H' : AH} (h : MdAt F H p words s E root) (hs : H.size ≤ H'.size) (hg : ∀ b, F b → H'.get b = H.get b) : MdAt F H' p words s E root := by
  refine ⟨by rw [hg p h.fp]; exact h.obj, ?_, fun x hx => by rw [hg _ (h.fx x hx)]; exact h.bys x hx, h.fp, h.fs, h.fx, fun b hb => by have := h.lt b hb; omega, h.np, h.nx, h.nd⟩
  rcases h.own with h0 | ⟨b, h1, h2, h3, h4⟩
  · exact .inl h0
  · refine .inr ⟨b, h1, h2, by omega, ?_⟩
    rw [hg b (h.fs ⟨b, 0, none⟩ (by rw [h1]))]; exact h4
theorem MW.congr {H' : AH} {ws : List Int} (h : MW F H p ws root) (hs : H.size ≤ H'.size) (hg : ∀ b, F b → H'.get b = H.get b) : MW F H' p ws root := by
  obtain ⟨s, E, h1, h2⟩ := h
  exact ⟨s, E, h1.congr hs hg, h2⟩
theorem MW.lt {ws : List Int} (h : MW F H p ws root) : Lt F H := by obtain ⟨s, E, h1, h2⟩ := h; exact h1.lt
theorem MW.keeps {H' : AH} {ws : List Int} (h : MW F H p ws root) (hk : Keeps H H') : MW F H' p ws root := h.congr hk.1 fun b hb => hk.2 b (h.lt b hb)
theorem MdAt.keeps {H' : AH} (h : MdAt F H p words s E root) (hk : Keeps H H') : MdAt F H' p words s E root := h.congr hk.1 fun b hb => hk.2 b (h.lt b hb)
theorem MW.up {F1 F1' : Nat → Prop} {H' : AH} {ws : List Int} (h : MW F H p ws root) (hu : Up F1 H F1' H') (hd : Dj F1 F) : MW F H' p ws root := h.congr hu.1.1 fun b hb => hu.get hd h.lt hb

/-! ### pure: what a model answers -/
def blkL (ws : List Int) : List Bk := (blocksN ws).getD []
def fitO (ws : List Int) (n : Int) : List Int := (fitsL (blkL ws) (needN n)).map fun i => offN (bkAt (blkL ws) i).1

theorem MW.blk {ws : List Int} (h : MR words (E.map (·.1)) ws) : blkL ws = blkX words (E.map (·.1)) := by unfold blkL; rw [h.blocks]; rfl

end
section
variable {H : AH}
theorem model_extent_off.s {x : Ex × Nat} {k : Int → AH → Prop} (hx : 0 ≤ x.1.1 ∧ x.1.1 ≤ 100000) (h : k ((x.1.1 + 1) * 8) H) : model_extent_off (exV x) H k := by
  refine gcI (j := .i64) ((x.1.1 + 1) * 8) (model_extent_off.link ?_) h
  unfold model_extent_off.b
  rw [newC_eq]
  have hc : AH.cell? (H.push ⟨exV x, .rw, 0⟩) (Addr.add ⟨H.size, 0, none⟩ 0) = some (.int .i64 x.1.1) := by simp [addr_add, AH.cell?, push_get, exV]
  rw [hc, elI_some, wrap_i64 (n := x.1.1 + 1) (by omega) (by omega), wrap_i64 (by omega) (by omega)]
  exact ⟨(Keeps.refl H).push _, rfl⟩

/-! ### Blocks -/
def toW (x : Ex × Nat) : Int × Int × Sl := (x.1.1, x.1.2.1, ⟨some ⟨x.2, 0, none⟩, x.1.2.2.length, 1⟩)
def exW (x : Int × Int × Sl) : List Value := [.int .i64 x.1, .int .i64 x.2.1, x.2.2.val]
theorem rows_map {α β : Type} {H : AH} {s : Sl} {z : Nat} {f : α → List Value} {g : β → List Value} {l : List α} (m : α → β) (hm : ∀ x, f x = g (m x)) (h : Abs.Rows H s z f l) : Abs.Rows H s z g (l.map m) := by
  refine ⟨by rw [List.length_map]; exact h.1, fun i x hi => ?_⟩
  rw [List.getElem?_map, Option.map_eq_some_iff] at hi
  obtain ⟨y, hy, rfl⟩ := hi
  obtain ⟨a, h1, h2, h3, h4⟩ := h.2 i y hy
  exact ⟨a, h1, h2, h3, by rw [h4, hm]⟩

def bStep (o : List Bk) (p : Int) (x : Int × Int) : List Bk := (o ++ gapB p x.1) ++ (if 0 < x.2 then [(x.1, x.2, true)] else [])
theorem model_Blocks_loop {x0 : Sl} {W : List (Int × Int × Sl)} {words : Int} {e : List Ex} {H : AH} {k : Sl → AH → Prop} (hr : Abs.Rows H x0 3 exW W) (hw : mayW words) (hok : ExOK words 0 e)
    (hW : W.map (fun x => (x.1, x.2.1)) = e.map (fun x => (x.1, x.2.1)) ++ [(words, 0)])
    (h : ∀ s H', Keeps H H' → Own H.size H' s 3 bkV (blkX words e) → k s H') : loopT (model_Model_Blocks.l3 k x0) ((⟨none, 0, 0⟩, 0, 0) : Sl × Int × Int) H := by
  have hw' := hw
  unfold mayW at hw'
  have hWl : W.length = e.length + 1 := by have := congrArg List.length hW; simpa using this
  have hel : (e.length : Int) ≤ 512 := by
    have := (exOK_may hw hok).len
    have h2 : e.length ≤ (blkX words e).length := by
      have : ∀ (e : List Ex) (p : Int), e.length ≤ (bg p e).length := by
        intro e
        induction e with
        | nil => intro p; exact Nat.zero_le _
        | cons x r ih => intro p; have := ih (x.1 + x.2.1); simp only [bg, List.length_cons, List.length_append]; omega
      have := this e 0
      unfold blkX
      rw [List.length_append]; omega
    omega
  have hlen := (exOK_may hw hok).len
  refine loopT_inv (t := ((⟨none, 0, 0⟩, (0 : Int), (0 : Int)) : Sl × Int × Int)) (I := fun (t : Sl × Int × Int) H' => ∃ (i : Nat) (o : List Bk), t.2.2 = (i : Int) ∧ i ≤ e.length + 1 ∧ Keeps H H' ∧ Own H.size H' t.1 3 bkV o ∧ o.length ≤ 1000 ∧ (i ≤ e.length → o = bg 0 (e.take i) ∧ t.2.1 = endX 0 (e.take i)) ∧ (i = e.length + 1 → o = blkX words e)) (m := fun (t : Sl × Int × Int) _ => Int.toNat ((e.length : Int) + 1 - t.2.2)) ?_ ⟨0, [], rfl, by omega, Keeps.refl H, .inl ⟨rfl, rfl⟩, by simp, fun _ => ⟨rfl, rfl⟩, fun h => by omega⟩
  intro t H1 hI it hit
  obtain ⟨s, at', t2⟩ := t
  obtain ⟨i, o, e1, hi, hk, hO, hol, hA, hB⟩ := hI
  simp only at e1 hO hA
  subst e1
  unfold model_Model_Blocks.l3
  simp only [bcase_eq, decide_eq_true_eq, hr.1, hWl]
  by_cases hlt : (i : Int) < ((e.length + 1 : Nat) : Int)
  rotate_left 1
  · rw [if_neg hlt]
    have : i = e.length + 1 := by omega
    rw [hB this] at hO
    exact h _ _ hk hO
  rw [if_pos hlt]
  have hi' : i < W.length := by omega
  obtain ⟨b, ofs, ha, hb, hcells⟩ := rows_cells (hr.keep hk) (by omega)
  refine ⟨by omega, ?_⟩
  obtain ⟨hrow, _⟩ := hcells i W[i] (List.getElem?_eq_getElem hi')
  rw [ha, onPtr_mk, Int.toNat_natCast, ldA_some hrow]
  obtain ⟨ho, hat⟩ := hA (by omega)
  -- the extent at hand
  have hx : (W[i].1, W[i].2.1) = ((e.map (fun x => (x.1, x.2.1)) ++ [(words, (0 : Int))])[i]'(by simp; omega)) := by
    have : (W.map (fun x => (x.1, x.2.1)))[i]? = some (W[i].1, W[i].2.1) := by rw [List.getElem?_map, List.getElem?_eq_getElem hi']; rfl
    rw [hW, List.getElem?_eq_getElem (by simp; omega)] at this
    injection this with this
    exact this.symm
  generalize W[i] = q at *
  refine new_row (n := 3) rfl (by rfl) (by rfl) ?_
  have hq0 : AH.cell? (H1.push ⟨exW q, .rw, 0⟩) (Addr.add ⟨H1.size, 0, none⟩ 0) = some (.int .i64 q.1) := by simp [addr_add, AH.cell?, push_get, exW]
  have hq1 : AH.cell? (H1.push ⟨exW q, .rw, 0⟩) (Addr.add ⟨H1.size, 0, none⟩ 1) = some (.int .i64 q.2.1) := by simp [addr_add, AH.cell?, push_get, exW]
  have hqz : ((H1.push ⟨exW q, .rw, 0⟩).get H1.size).esz = 0 := by simp [push_get]
  have hk2 : Keeps H (H1.push ⟨exW q, .rw, 0⟩) := hk.push _
  have hO2 : Own H.size (H1.push ⟨exW q, .rw, 0⟩) s 3 bkV o := hO.keep (by simp [push_size]) (fun b _ hb => push_get_ne (by omega))
  have hsz : H1.size < (H1.push ⟨exW q, .rw, 0⟩).size := by simp [push_size]
  have hh1 := hk.1
  generalize H1.push ⟨exW q, .rw, 0⟩ = H2 at *
  -- bounds and what is to be
  have hmain : (0 ≤ at' ∧ at' ≤ q.1 ∧ q.1 ≤ 512 ∧ 0 ≤ q.2.1 ∧ q.2.1 ≤ 512) ∧ (∀ o', o' = (o ++ gapB at' q.1) ++ (if 0 < q.2.1 then [(q.1, q.2.1, true)] else []) → (i + 1 ≤ e.length → o' = bg 0 (e.take (i + 1)) ∧ q.1 + q.2.1 = endX 0 (e.take (i + 1))) ∧ (i + 1 = e.length + 1 → o' = blkX words e)) := by
    by_cases hie : i < e.length
    · rw [List.getElem_append_left (by simpa using hie), List.getElem_map] at hx
      have hx1 : q.1 = e[i].1 := congrArg Prod.fst hx
      have hx2 : q.2.1 = e[i].2.1 := congrArg Prod.snd hx
      have hsp : e.take (i + 1) = e.take i ++ [e[i]] := by rw [List.take_succ, List.getElem?_eq_getElem hie]; rfl
      have hp : ExPre words 0 (e.take (i + 1)) := by
        have := hok.1
        rw [← List.take_append_drop (i + 1) e] at this
        exact (exPre_app.1 this).1
      rw [hsp] at hp
      obtain ⟨hp1, hp2⟩ := exPre_app.1 hp
      obtain ⟨g1, g2, g3, _⟩ := hp2
      have := (exPre_end hp1).1
      refine ⟨by omega, fun o' ho' => ⟨fun _ => ?_, fun h => by omega⟩⟩
      rw [hsp, bg_app, endX_app, ho', ho, hx1, hx2, hat, if_pos (by omega)]
      simp [bg, endX]
    · have hie : i = e.length := by omega
      subst hie
      rw [List.getElem_append_right (by simp)] at hx
      simp only [List.length_map, Nat.sub_self, List.getElem_cons_zero] at hx
      have hx1 : q.1 = words := congrArg Prod.fst hx
      have hx2 : q.2.1 = 0 := congrArg Prod.snd hx
      rw [List.take_length] at ho hat
      have := (exPre_end hok.1)
      have h2 := this.2 (by omega)
      refine ⟨by omega, fun o' ho' => ⟨fun h => by omega, fun _ => ?_⟩⟩
      rw [ho', ho, hx1, hx2, hat, if_neg (by omega), List.append_nil]
      rfl
  obtain ⟨⟨r1, r2, r3, r4, r5⟩, hnext⟩ := hmain
  have hw1 : IntKind.wrap .i64 ((i : Int) + 1) = ((i + 1 : Nat) : Int) := by rw [wrap_i64 (by omega) (by omega)]; omega
  -- j1
  have j1 : ∀ s' H', Keeps H H' → H2.size ≤ H'.size → Own H.size H' s' 3 bkV ((o ++ gapB at' q.1) ++ (if 0 < q.2.1 then [(q.1, q.2.1, true)] else [])) → H'.get H1.size = H2.get H1.size → model_Model_Blocks.j1 (s, at', (i : Int)) it H1.size s' H' := by
    intro s' H' hk' hs' hO' hg
    unfold model_Model_Blocks.j1
    have e0 : AH.cell? H' (Addr.add ⟨H1.size, 0, none⟩ 0) = AH.cell? H2 (Addr.add ⟨H1.size, 0, none⟩ 0) := by rw [addr_add]; simp only [AH.cell?, hg]
    have e1 : AH.cell? H' (Addr.add ⟨H1.size, 0, none⟩ 1) = AH.cell? H2 (Addr.add ⟨H1.size, 0, none⟩ 1) := by rw [addr_add]; simp only [AH.cell?, hg]
    rw [e0, hq0, elI_some, e1, hq1, elI_some, wrap_i64 (n := q.1 + q.2.1) (by omega) (by omega)]
    show it (s', q.1 + q.2.1, IntKind.wrap .i64 ((i : Int) + 1)) H'
    rw [hw1]
    refine hit _ _ ⟨i + 1, _, rfl, by omega, hk', hO', ?_, fun hle => ?_, fun hle => ?_⟩ (by simp only; omega)
    · rcases Nat.lt_or_ge i e.length with hie | hie
      · rw [((hnext _ rfl).1 (by omega)).1]
        have h2 : (bg 0 (e.take (i + 1))).length ≤ (blkX words e).length := by
          unfold blkX
          rw [List.length_append]
          have : bg 0 e = bg 0 (e.take (i + 1)) ++ bg (endX 0 (e.take (i + 1))) (e.drop (i + 1)) := by rw [← bg_app, List.take_append_drop]
          rw [this, List.length_append]; omega
        omega
      · rw [(hnext _ rfl).2 (by omega)]; omega
    · exact (hnext _ rfl).1 (by omega)
    · exact (hnext _ rfl).2 (by omega)
  have j2 : ∀ s' H', Keeps H H' → H2.size ≤ H'.size → Own H.size H' s' 3 bkV (o ++ gapB at' q.1) → H'.get H1.size = H2.get H1.size → (∀ a, s'.a = some a → a.block ≠ H1.size) → model_Model_Blocks.j2 (s, at', (i : Int)) it H1.size s' H' := by
    intro s' H' hk' hs' hO' hg hne
    unfold model_Model_Blocks.j2
    have e0 : AH.cell? H' (Addr.add ⟨H1.size, 0, none⟩ 0) = AH.cell? H2 (Addr.add ⟨H1.size, 0, none⟩ 0) := by rw [addr_add]; simp only [AH.cell?, hg]
    have e1 : AH.cell? H' (Addr.add ⟨H1.size, 0, none⟩ 1) = AH.cell? H2 (Addr.add ⟨H1.size, 0, none⟩ 1) := by rw [addr_add]; simp only [AH.cell?, hg]
    rw [e1, hq1, elI_some]
    simp only [bcase_eq, decide_eq_true_eq]
    by_cases hz : q.2.1 > 0
    · rw [if_pos hz, e0, hq0, elI_some, elI_some]
      refine ⟨rfl, ?_⟩
      rw [newC_eq]
      have hgl : (o ++ gapB at' q.1).length ≤ 1001 := by
        rw [List.length_append]
        have : (gapB at' q.1).length ≤ 1 := by unfold gapB; split <;> simp
        omega
      refine append_own (H0 := H) (B := H.size) (f := bkV) (x := (q.1, q.2.1, true)) bkV_len (bkV_ok _) hO' (Nat.le_refl _) hk'.1 hk' (by simp only [lim]; omega) ?_
      intro s'' H'' hO'' hK' hs'' hfr
      refine j1 s'' H'' hK' (by omega) ?_ ?_
      · rw [if_pos (show 0 < q.2.1 from hz)]; exact hO''
      · rw [hfr H1.size (by omega) (fun a ha he => hne a ha he.symm)]; exact hg
    · rw [if_neg hz]
      refine j1 s' H' hk' hs' ?_ hg
      rw [if_neg (show ¬ 0 < q.2.1 from hz), List.append_nil]; exact hO'
  have hsne : ∀ a, s.a = some a → a.block ≠ H1.size := by
    intro a ha he
    rcases hO with ⟨h0, _⟩ | ⟨b', h0, _, hb', _⟩
    · rw [h0] at ha; cases ha
    · rw [h0] at ha
      injection ha with ha
      rw [← ha] at he
      simp only at he; omega
  rw [hq0, elI_some]
  by_cases hg : at' < q.1
  · rw [if_pos hg, elI_some]
    refine ⟨rfl, ?_⟩
    rw [newC_eq, wrap_i64 (n := q.1 - at') (by omega) (by omega)]
    refine append_own (H0 := H) (B := H.size) (f := bkV) (x := (at', q.1 - at', false)) bkV_len (bkV_ok _) hO2 (Nat.le_refl _) hk2.1 hk2 (by simp only [lim]; omega) ?_
    intro s' H' hO' hK' hs' hfr
    refine j2 s' H' hK' hs' ?_ ?_ ?_
    · unfold gapB; rw [if_pos hg]; exact hO'
    · exact hfr H1.size hsz (fun a ha he => hsne a ha he.symm)
    · intro a ha he
      rcases hO' with ⟨h0, _⟩ | ⟨b', h0, _, hb', hbg⟩
      · rw [h0] at ha; cases ha
      · rw [h0] at ha
        injection ha with ha
        rw [← ha] at he
        simp only at he
        subst he
        have h5 := hfr H1.size hsz (fun a ha he => hsne a ha he.symm)
        rw [hbg] at h5
        rw [← h5] at hqz
        simp at hqz
  · rw [if_neg hg]
    refine j2 s H2 hk2 (Nat.le_refl _) ?_ rfl hsne
    unfold gapB
    rw [if_neg hg, List.append_nil]; exact hO2
end
end Go.Proofs.Ytgddfhnochcolaa
