import Derived.Test.YtgddfhnochcolaaE14
set_option linter.all false
set_option linter.all false
namespace Go.Proofs.Ytgddfhnochcolaa
open Go Go.Abs

/-! ## The judge -/
def ansl (cd m : Int) (sl : Sl) : List Value := [.int .i64 cd, .int .i64 m, sl.val]
def AnAt (H : AH) (o : Nat) (cd m : Int) (sl : Sl) : Prop := ∃ e, H.get o = ⟨ansl cd m sl, .rw, e⟩
section
variable {H : AH} {o : Nat} {cd m : Int} {sl : Sl}
theorem AnAt.c0 (h : AnAt H o cd m sl) : AH.cell? H (Addr.add ⟨o, 0, none⟩ 0) = some (.int .i64 cd) := by obtain ⟨e, h⟩ := h; simp [addr_add, AH.cell?, h, ansl]
theorem AnAt.c1 (h : AnAt H o cd m sl) : AH.cell? H (Addr.add ⟨o, 0, none⟩ 1) = some (.int .i64 m) := by obtain ⟨e, h⟩ := h; simp [addr_add, AH.cell?, h, ansl]
theorem AnAt.c2 (h : AnAt H o cd m sl) : AH.cell? H (Addr.add ⟨o, 0, none⟩ 2) = some (.slice sl.a sl.n sl.k) := by obtain ⟨e, h⟩ := h; simp [addr_add, AH.cell?, h, ansl, Sl.val]
theorem AnAt.row (h : AnAt H o cd m sl) : AH.row? H ⟨o, 0, none⟩ 3 = some (ansl cd m sl) := by
  obtain ⟨e, h⟩ := h
  simp only [AH.row?, h, Option.isSome_none, Bool.false_eq_true, if_false]
  rw [if_neg (by simp)]
  rfl
theorem AnAt.keep {H' : AH} (h : AnAt H o cd m sl) (hg : H'.get o = H.get o) : AnAt H' o cd m sl := by obtain ⟨e, h⟩ := h; exact ⟨e, hg.trans h⟩
theorem AnAt.new {e : Nat} : AnAt (H.push ⟨ansl cd m sl, .rw, e⟩) H.size cd m sl := ⟨e, by rw [push_get, if_pos rfl]⟩
end
theorem opc4 {H : AH} {o : Nat} {K a b c : Int} {sl : Sl} (h : OpAt H o K a b c sl) : AH.cell? H (Addr.add ⟨o, 0, none⟩ 4) = some (.slice sl.a sl.n sl.k) := h.c4

theorem str_same {l1 l2 : List Int} (h1 : bytes8 l1) (h2 : bytes8 l2) : ((l1.map fun v => UInt8.ofNat v.toNat) == (l2.map fun v => UInt8.ofNat v.toNat)) = decide (l1 = l2) := by
  by_cases he : l1 = l2
  · subst he; simp
  · rw [decide_eq_false he]
    have : (l1.map fun v => UInt8.ofNat v.toNat) ≠ (l2.map fun v => UInt8.ofNat v.toNat) := by
      intro hh
      apply he
      clear he
      induction l1 generalizing l2 with
      | nil =>
        cases l2 with
        | nil => rfl
        | cons b r => simp at hh
      | cons a r ih =>
        cases l2 with
        | nil => simp at hh
        | cons b s =>
          simp only [List.map_cons, List.cons.injEq] at hh
          have ha := h1 a (by simp)
          have hb := h2 b (by simp)
          have h9 := congrArg UInt8.toNat hh.1
          simp only [UInt8.toNat_ofNat'] at h9
          rw [ih (fun v hv => h1 v (by simp [hv])) (fun v hv => h2 v (by simp [hv])) hh.2]
          congr 1
          omega
    simpa using this

section
variable {H : AH}
theorem rowsB_str {s : Sl} {l : List Int} {k : List UInt8 → Prop} (hr : Abs.Rows H s 1 bU l) (h8 : bytes8 l) (hk : k (l.map fun v => UInt8.ofNat v.toNat)) : strC H s k := by
  have hm : (l.map fun v => UInt8.ofNat v.toNat).map byteV = l.flatMap bU := by
    clear hk hr
    induction l with
    | nil => rfl
    | cons a l ih =>
      have ha := h8 a (by simp)
      have := ih (fun v hv => h8 v (by simp [hv]))
      simp only [List.map_cons, List.flatMap_cons, bU, List.singleton_append] at this ⊢
      rw [this]
      congr 1
      simp only [byteV, UInt8.toNat_ofNat']
      congr 1
      omega
  exact ⟨_, by rw [hm]; exact rows_flat (fun _ => rfl) (fun _ => rfl) hr, hk⟩

theorem bytes_Equal.s {s1 s2 : Sl} {l1 l2 : List Int} {k : Bool → AH → Prop} (h1 : Abs.Rows H s1 1 bU l1) (h2 : Abs.Rows H s2 1 bU l2) (h81 : bytes8 l1) (h82 : bytes8 l2) (h : k (decide (l1 = l2)) H) : bytes_Equal s1 s2 H k := by
  refine bytes_Equal.link ?_
  unfold bytes_Equal.b
  refine rowsB_str h1 h81 ?_
  refine rowsB_str h2 h82 ?_
  rw [← str_same h81 h82] at h
  simpa using h

theorem judge_same.s {cd m cd2 m2 : Int} {s1 s2 : Sl} {l1 l2 : List Int} {k : Bool → AH → Prop} (h1 : Abs.Rows H s1 1 bU l1) (h2 : Abs.Rows H s2 1 bU l2) (h81 : bytes8 l1) (h82 : bytes8 l2)
    (h : k (decide (cd = cd2 ∧ m = m2 ∧ l1 = l2)) H) : judge_same (ansl cd m s1) (ansl cd2 m2 s2) H k := by
  refine gcB _ (judge_same.link ?_) h
  unfold judge_same.b
  rw [newC_eq, newC_eq]
  have hk := ((Keeps.refl H).push ⟨ansl cd m s1, .rw, 0⟩).push ⟨ansl cd2 m2 s2, .rw, 0⟩
  have hA : AnAt ((H.push ⟨ansl cd m s1, .rw, 0⟩).push ⟨ansl cd2 m2 s2, .rw, 0⟩) H.size cd m s1 := (AnAt.new (H := H) (e := 0)).keep (push_get_ne (by simp [push_size]))
  have hB : AnAt ((H.push ⟨ansl cd m s1, .rw, 0⟩).push ⟨ansl cd2 m2 s2, .rw, 0⟩) (H.push ⟨ansl cd m s1, .rw, 0⟩).size cd2 m2 s2 := AnAt.new
  generalize (H.push ⟨ansl cd m s1, .rw, 0⟩).size = o2 at *
  generalize (H.push ⟨ansl cd m s1, .rw, 0⟩).push ⟨ansl cd2 m2 s2, .rw, 0⟩ = H2 at *
  rw [hA.c0, elI_some, hB.c0, elI_some, bcase_eq]
  by_cases e0 : cd = cd2
  rotate_left 1
  · rw [if_neg (by simpa using e0)]
    exact ⟨hk, by rw [decide_eq_false]; exact fun hh => e0 hh.1⟩
  rw [if_pos (by simpa using e0), hA.c1, elI_some, hB.c1, elI_some, bcase_eq]
  by_cases e1 : m = m2
  rotate_left 1
  · rw [if_neg (by simpa using e1)]
    exact ⟨hk, by rw [decide_eq_false]; exact fun hh => e1 hh.2.1⟩
  rw [if_pos (by simpa using e1), hA.c2, elL_some, hB.c2, elL_some]
  refine bytes_Equal.s (h1.keep hk) (h2.keep hk) h81 h82 ?_
  refine ⟨hk, ?_⟩
  by_cases e2 : l1 = l2
  · rw [decide_eq_true e2, decide_eq_true ⟨e0, e1, e2⟩]
  · rw [decide_eq_false e2, decide_eq_false (fun hh => e2 hh.2.2)]

theorem darningref4_SameAns.s {cd m cd2 m2 : Int} {s1 s2 : Sl} {l1 l2 : List Int} {k : Bool → AH → Prop} (h1 : Abs.Rows H s1 1 bU l1) (h2 : Abs.Rows H s2 1 bU l2) (h81 : bytes8 l1) (h82 : bytes8 l2)
    (h : k (decide (cd = cd2 ∧ m = m2 ∧ l1 = l2)) H) : darningref4_SameAns (ansl cd m s1) (ansl cd2 m2 s2) H k := by
  refine gcB _ (darningref4_SameAns.link ?_) h
  unfold darningref4_SameAns.b
  rw [newC_eq, newC_eq]
  have hk := ((Keeps.refl H).push ⟨ansl cd m s1, .rw, 0⟩).push ⟨ansl cd2 m2 s2, .rw, 0⟩
  have hA : AnAt ((H.push ⟨ansl cd m s1, .rw, 0⟩).push ⟨ansl cd2 m2 s2, .rw, 0⟩) H.size cd m s1 := (AnAt.new (H := H) (e := 0)).keep (push_get_ne (by simp [push_size]))
  have hB : AnAt ((H.push ⟨ansl cd m s1, .rw, 0⟩).push ⟨ansl cd2 m2 s2, .rw, 0⟩) (H.push ⟨ansl cd m s1, .rw, 0⟩).size cd2 m2 s2 := AnAt.new
  generalize (H.push ⟨ansl cd m s1, .rw, 0⟩).size = o2 at *
  generalize (H.push ⟨ansl cd m s1, .rw, 0⟩).push ⟨ansl cd2 m2 s2, .rw, 0⟩ = H2 at *
  rw [hA.c0, elI_some, hB.c0, elI_some, bcase_eq]
  by_cases e0 : cd = cd2
  rotate_left 1
  · rw [if_neg (by simpa using e0)]
    exact ⟨hk, by rw [decide_eq_false]; exact fun hh => e0 hh.1⟩
  rw [if_pos (by simpa using e0), hA.c1, elI_some, hB.c1, elI_some, bcase_eq]
  by_cases e1 : m = m2
  rotate_left 1
  · rw [if_neg (by simpa using e1)]
    exact ⟨hk, by rw [decide_eq_false]; exact fun hh => e1 hh.2.1⟩
  rw [if_pos (by simpa using e1), hA.c2, elL_some]
  refine rowsB_str (h1.keep hk) h81 ?_
  rw [hB.c2, elL_some]
  refine rowsB_str (h2.keep hk) h82 ?_
  refine ⟨hk, ?_⟩
  have hss := str_same h81 h82
  have : (ByteArray.toList ⟨(l1.map fun v => UInt8.ofNat v.toNat).toArray⟩ == ByteArray.toList ⟨(l2.map fun v => UInt8.ofNat v.toNat).toArray⟩) = decide (l1 = l2) := by rw [← hss]; simp
  rw [this]
  by_cases e2 : l1 = l2
  · rw [decide_eq_true e2, decide_eq_true ⟨e0, e1, e2⟩]
  · rw [decide_eq_false e2, decide_eq_false (fun hh => e2 hh.2.2)]
end

/-! ### what the judge says -/
def doP (ws : List Int) (root K off : Int) (bs : List Int) : Int × List Int × Int :=
  if K = 2 then ((aFree ws root off).1, (aFree ws root off).2, root) else if K = 4 then ((aWrite ws off bs).1, (aWrite ws off bs).2, root) else ((aRoot ws root off).1, ws, (aRoot ws root off).2)
def seeP (ws : List Int) (root : Int) (worn : Bool) (K off n : Int) (bs : List Int) (cd m : Int) (av : List Int) : Bool × List Int × Int × Bool :=
  if K = 1 then
    if needN n = 0 then (decide (cd = 1 ∧ m = 0 ∧ av = []), ws, root, worn)
    else if cd = 3 then (decide (m = 0 ∧ av = []), ws, root, worn || decide (m = 0 ∧ av = []))
    else if worn = true then (false, ws, root, worn)
    else if cd = 4 then (decide ((m = 0 ∧ av = []) ∧ (fitO ws n).length = 0), ws, root, worn)
    else if cd ≠ 0 ∨ av ≠ [] then (false, ws, root, worn)
    else ((aAlloc ws n m).1, (aAlloc ws n m).2, root, worn)
  else if K = 2 ∨ K = 4 ∨ K = 5 then
    if ¬ (m = 0 ∧ av = []) then (false, ws, root, worn)
    else if (doP ws root K off bs).1 = 0 ∧ ¬ (K = 4 ∧ bs = []) ∧ (worn = true ∨ cd = 3) then (decide (cd = 3), ws, root, worn || decide (cd = 3))
    else if cd ≠ (doP ws root K off bs).1 then (false, ws, root, worn)
    else (true, (doP ws root K off bs).2.1, (doP ws root K off bs).2.2, worn)
  else if K = 3 then (decide (cd = (aRead ws off n).2 ∧ m = 0 ∧ av = (aRead ws off n).1), ws, root, worn)
  else if K = 6 then (decide (cd = 0 ∧ m = root ∧ av = []), ws, root, worn)
  else (decide (cd = 1 ∧ m = 0 ∧ av = []), ws, root, worn)

theorem seeP_eq (ws : List Int) (root : Int) (worn : Bool) (K off n : Int) (bs : List Int) (cd m : Int) (av : List Int) : seeP ws root worn K off n bs cd m av =
  (  if K = 1 then
    if needN n = 0 then (decide (cd = 1 ∧ m = 0 ∧ av = []), ws, root, worn)
    else if cd = 3 then (decide (m = 0 ∧ av = []), ws, root, worn || decide (m = 0 ∧ av = []))
    else if worn = true then (false, ws, root, worn)
    else if cd = 4 then (decide ((m = 0 ∧ av = []) ∧ (fitO ws n).length = 0), ws, root, worn)
    else if cd ≠ 0 ∨ av ≠ [] then (false, ws, root, worn)
    else ((aAlloc ws n m).1, (aAlloc ws n m).2, root, worn)
  else if K = 2 ∨ K = 4 ∨ K = 5 then
    if ¬ (m = 0 ∧ av = []) then (false, ws, root, worn)
    else if (doP ws root K off bs).1 = 0 ∧ ¬ (K = 4 ∧ bs = []) ∧ (worn = true ∨ cd = 3) then (decide (cd = 3), ws, root, worn || decide (cd = 3))
    else if cd ≠ (doP ws root K off bs).1 then (false, ws, root, worn)
    else (true, (doP ws root K off bs).2.1, (doP ws root K off bs).2.2, worn)
  else if K = 3 then (decide (cd = (aRead ws off n).2 ∧ m = 0 ∧ av = (aRead ws off n).1), ws, root, worn)
  else if K = 6 then (decide (cd = 0 ∧ m = root ∧ av = []), ws, root, worn)
  else (decide (cd = 1 ∧ m = 0 ∧ av = []), ws, root, worn)) := rfl

theorem doP_fail {ws : List Int} {root K off : Int} {bs : List Int} (h : (doP ws root K off bs).1 ≠ 0) : (doP ws root K off bs).2 = (ws, root) := by
  revert h
  unfold doP aFree aWrite aRoot
  split
  · split
    · intro _; rfl
    · split
      · intro _; rfl
      · intro h; exact absurd rfl h
  · split
    · split
      · intro h; exact absurd rfl h
      · intro _; rfl
    · split
      · intro _; rfl
      · intro h; exact absurd rfl h

/-! ### the judge's memory -/
structure JWs (F : Nat → Prop) (H : AH) (j : Nat) (ws : List Int) (root : Int) (worn : Bool) (p : Nat) (G : Nat → Prop) : Prop where
  obj : H.get j = ⟨[.pointer (some ⟨p, 0, none⟩), .bool worn], .rw, 0⟩
  m : MW G H p ws root
  fj : F j
  fg : ∀ b, G b → F b
  nj : ¬ G j
  lt : Lt F H
def JW (F : Nat → Prop) (H : AH) (j : Nat) (ws : List Int) (root : Int) (worn : Bool) : Prop := ∃ p G, JWs F H j ws root worn p G
section
variable {F : Nat → Prop} {H : AH} {j : Nat} {ws : List Int} {root : Int} {worn : Bool} {p : Nat} {G : Nat → Prop}
theorem JWs.c0 (h : JWs F H j ws root worn p G) : AH.cell? H (Addr.add ⟨j, 0, none⟩ 0) = some (.pointer (some ⟨p, 0, none⟩)) := by simp [addr_add, AH.cell?, h.obj]
theorem JWs.c1 (h : JWs F H j ws root worn p G) : AH.cell? H (Addr.add ⟨j, 0, none⟩ 1) = some (.bool worn) := by simp [addr_add, AH.cell?, h.obj]
theorem JWs.congr {H' : AH} (h : JWs F H j ws root worn p G) (hs : H.size ≤ H'.size) (hg : ∀ b, F b → H'.get b = H.get b) : JWs F H' j ws root worn p G :=
  ⟨by rw [hg j h.fj]; exact h.obj, h.m.congr hs (fun b hb => hg b (h.fg b hb)), h.fj, h.fg, h.nj, fun b hb => by have := h.lt b hb; omega⟩
theorem JWs.keeps {H' : AH} (h : JWs F H j ws root worn p G) (hk : Keeps H H') : JWs F H' j ws root worn p G := h.congr hk.1 fun b hb => hk.2 b (h.lt b hb)
theorem JW.lt (h : JW F H j ws root worn) : Lt F H := by obtain ⟨p, G, h⟩ := h; exact h.lt
theorem JW.keeps {H' : AH} (h : JW F H j ws root worn) (hk : Keeps H H') : JW F H' j ws root worn := by obtain ⟨p, G, h⟩ := h; exact ⟨p, G, h.keeps hk⟩
theorem JW.up {F1 F1' : Nat → Prop} {H' : AH} (h : JW F H j ws root worn) (hu : Up F1 H F1' H') (hd : Dj F1 F) : JW F H' j ws root worn := by
  obtain ⟨p, G, h0⟩ := h
  exact ⟨p, G, h0.congr hu.1.1 fun b hb => hu.get hd h0.lt hb⟩
theorem JW.ok (h : JW F H j ws root worn) : Ok ws := by obtain ⟨p, G, h⟩ := h; exact h.m.ok

theorem JWs.put_worn {w2 : Bool} (h : JWs F H j ws root worn p G) : H.canPut (Addr.add ⟨j, 0, none⟩ 1) 1 ∧ JW F (H.put (Addr.add ⟨j, 0, none⟩ 1) [.bool w2]) j ws root w2 ∧ Up F H F (H.put (Addr.add ⟨j, 0, none⟩ 1) [.bool w2]) := by
  rw [addr_add]
  have hg : ∀ b, b ≠ j → (H.put ⟨j, 0 + 1, none⟩ [.bool w2]).get b = H.get b := fun b hb => by simp [AH.put, upd_get, hb]
  refine ⟨⟨rfl, by simp [h.obj], by simp [h.obj]⟩, ⟨p, G, by simp [AH.put, upd_get, h.obj, setMany], h.m.congr (Nat.le_refl _) (fun b hb => hg b (fun he => h.nj (he ▸ hb))), h.fj, h.fg, h.nj, h.lt⟩, ⟨Nat.le_refl _, fun b _ hn => hg b (fun he => hn (he ▸ h.fj))⟩, fun b hb => .inl hb⟩
/-- Another model is put. -/
theorem JWs.put_ptr {H1 : AH} {p2 : Nat} {G2 : Nat → Prop} {ws2 : List Int} {root2 : Int} (h : JWs F H j ws root worn p G) (hk : Keeps H H1) (hm : MW G2 H1 p2 ws2 root2) (hge : ∀ b, G2 b → H.size ≤ b) :
    H1.canPut (Addr.add ⟨j, 0, none⟩ 0) 1 ∧ ∀ F' H', F' = (fun b => F b ∨ (H.size ≤ b ∧ b < H1.size)) → H' = H1.put (Addr.add ⟨j, 0, none⟩ 0) [.pointer (some ⟨p2, 0, none⟩)] → JW F' H' j ws2 root2 worn ∧ Up F H F' H' := by
  have hj := h.lt j h.fj
  have hobj : H1.get j = ⟨[.pointer (some ⟨p, 0, none⟩), .bool worn], .rw, 0⟩ := by rw [hk.2 j hj]; exact h.obj
  rw [addr_add]
  have hg : ∀ b, b ≠ j → (H1.put ⟨j, 0 + 0, none⟩ [.pointer (some ⟨p2, 0, none⟩)]).get b = H1.get b := fun b hb => by simp [AH.put, upd_get, hb]
  refine ⟨⟨rfl, by simp [hobj], by simp [hobj]⟩, ?_⟩
  rintro F' H' rfl rfl
  refine ⟨⟨p2, G2, by simp [AH.put, upd_get, hobj, setMany], hm.congr (Nat.le_refl _) (fun b hb => hg b (fun he => by have := hge b hb; omega)), .inl h.fj, fun b hb => .inr ⟨hge b hb, hm.lt b hb⟩, fun hb => by have := hge j hb; omega, fun b hb => ?_⟩, ⟨hk.1, fun b hb hn => by rw [hg b (fun he => hn (he ▸ h.fj)), hk.2 b hb]⟩, fun b hb => hb⟩
  rcases hb with hb | hb
  · have := h.lt b hb; have := hk.1; show b < H1.size; omega
  · exact hb.2
/-- The model itself has moved on. -/
theorem JWs.step {H1 : AH} {G2 : Nat → Prop} {ws2 : List Int} {root2 : Int} (h : JWs F H j ws root worn p G) (hu : Up G H G2 H1) (hm : MW G2 H1 p ws2 root2) :
    ∃ F', JW F' H1 j ws2 root2 worn ∧ Up F H F' H1 := by
  have hj := h.lt j h.fj
  refine ⟨fun b => F b ∨ (H.size ≤ b ∧ b < H1.size), ⟨p, G2, by rw [hu.1.2 j hj h.nj]; exact h.obj, hm, .inl h.fj, fun b hb => ?_, fun hb => ?_, fun b hb => ?_⟩, ⟨hu.1.1, fun b hb hn => hu.1.2 b hb (fun hh => hn (h.fg b hh))⟩, fun b hb => hb⟩
  · rcases hu.2 b hb with h0 | h0
    · exact .inl (h.fg b h0)
    · exact .inr h0
  · rcases hu.2 j hb with h0 | h0
    · exact h.nj h0
    · omega
  · rcases hb with hb | hb
    · have := h.lt b hb; have := hu.1.1; omega
    · exact hb.2
end
end Go.Proofs.Ytgddfhnochcolaa
