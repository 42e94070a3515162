/- Lemmas for the law: an abstract machine, and what the functions do on it. No condition. -/
import Derived.Test.YtemeclnpdpkfdaaGreatGT8
set_option linter.all false
open Go.Value renaming int → qlk, bool → qlW
open Go.IntKind renaming wrap → qll, bits → qmn
open Go.Addr renaming add → qlm
open List renaming getElem?_eq_getElem → qln, getD_eq_getElem?_getD → qlo, replicate → qlq, getElem?_eq_none → qlt, getElem?_eq_some_iff → qlv, mem_of_getElem? → qlx, length → qly, getElem?_map → qlz, getElem_mem → qlB, mem_append → qlD, length_cons → qlE, mem_cons → qlL, ext_getElem? → qlM, getElem?_append_right → qlN, getElem?_range → qlP, getElem?_set_ne → qlQ, length_set → qlT, getElem?_append_left → qlX, length_eq_zero_iff → qlZ, mem_map → ql2, cons_append → ql3, all_eq_true → ql4, length_append → ql5, getElem?_set_self → ql6, flatMap_cons → ql7, nil_append → ql8, take_of_length_le → ql9, range → qma, getElem?_cons_succ → qmb, getElem?_take → qmd, getElem?_drop → qme, take_length → qmh, map_cons → qmj, mem_range → qml, range_succ → qmq, length_nil → qmv, mem_or_eq_of_mem_set → qmw, take_succ → qmB, flatMap_append → qmC, drop_zero → qmE, drop_length → qmI, append_assoc → qmL, map_append → qmQ
open Int renaming toNat_natCast → qlp, toNat → qlr, eq_ofNat_of_zero_le → qlI, tdiv_eq_ediv_of_nonneg → qlY, tmod_eq_emod_of_nonneg → qmt
open Nat renaming le_refl → qlu, zero_add → qlJ, zero_le → qmp, mul_le_mul_right → qmy
open Bool renaming false_eq_true → qlw, not_true → qlA, not_false → qlK
open Go.Abs renaming Rows → qlC
open Option renaming isSome_none → qlF, isNone_some → qlG, map_some → qlO, getD_some → qlV, toList_some → qmz, bind_some → qmH
open BitVec renaming ofInt → qmc
open Option.some renaming injEq → qmu
namespace Go.Proofs.YtemeclnpdpkfdaaGreat
open Go Go.Abs
def putB (ws : List Int) (i : Nat) (c : Int) : List Int := ws.set (i / 8) (setB (ws.getD (i / 8) 0) (i % 8) c)
def putBs : List Int → Nat → List Int → List Int
 | ws, _, [] => ws
 | ws, i, c :: r => putBs (putB ws i c) (i + 1) r
def eU (x : Int × Int) : List Value := [.int .i64 x.1, .int .u64 x.2]
def editsOf (cur : List Int) (q m : Nat) : List (Int × Int) := (qma m).map fun j => (((q + j : Nat) : Int), cur.getD (q + j) 0)
def touched (off k : Nat) : Nat := if k = 0 then 0 else (off + k - 1) / 8 - off / 8 + 1
def qbB (bs : List Int) : Prop := ∀ v ∈ bs, 0 ≤ v ∧ v ≤ 255
theorem qd4 (ws : List Int) (i : Nat) (c : Int) : (putB ws i c).length = ws.length := by simp [putB]
theorem qcK : ∀ (bs ws : List Int) (i : Nat), (putBs ws i bs).length = ws.length := by
 intro bs
 induction bs with
 | nil => intro ws i; rfl
 | cons c r ih => intro ws i; simp [putBs, ih, qd4]
theorem qgR : ∀ (bs ws : List Int) (i : Nat) (c : Int), putBs ws i (bs ++ [c]) = putB (putBs ws i bs) (i + bs.length) c := by
 intro bs
 induction bs with
 | nil => intro ws i c; rfl
 | cons b r ih => intro ws i c; simp only [ql3, putBs, ih, qlE]; congr 1; omega
theorem qfA (ws : List Int) (i : Nat) (c : Int) (w : Nat) (h : i / 8 < ws.length) : (putB ws i c).getD w 0 = if w = i / 8 then setB (ws.getD (i / 8) 0) (i % 8) c else ws.getD w 0 := by
 unfold putB
 simp only [qlo]
 by_cases hw : w = i / 8
 ·subst hw; simp [h]
 ·rw [if_neg hw, qlQ (by omega)]
theorem qeO : ∀ (bs ws : List Int) (i w : Nat), (i + bs.length ≤ w * 8 ∨ w < i / 8) → i + bs.length ≤ ws.length * 8 → (putBs ws i bs).getD w 0 = ws.getD w 0 := by
 intro bs
 induction bs with
 | nil => intro ws i w _ _; rfl
 | cons c r ih =>
  intro ws i w h hl
  simp only [qlE] at h hl
  simp only [putBs]
  rw [ih _ _ _ (by omega) (by rw [qd4]; omega), qfA _ _ _ _ (by omega), if_neg (by omega)]
section
variable {off : Nat} {H : AH} {x0 x2 : Sl}
theorem qbm (cur : List Int) (q m : Nat) : (editsOf cur q m).length = m := by simp [editsOf]
theorem qde {cur : List Int} {q m i : Nat} (h : i < m) : (editsOf cur q m)[i]? = some (((q + i : Nat) : Int), cur.getD (q + i) 0) := by
 simp [editsOf, h]
theorem qfI {ws : List Int} (h : qaE ws) (i : Nat) (c : Int) : qaE (putB ws i c) := by
 intro v hv
 unfold putB at hv
 rcases qmw hv with hv | rfl
 ·exact h v hv
 ·exact qjs _ _ _
theorem qfY {cur : List Int} {q m i : Nat} {c : Int} (hm : 1 ≤ m) (hi : i / 8 = q + m - 1) (hl : i / 8 < cur.length) :
  (editsOf cur q m).set (m - 1) (((i / 8 : Nat) : Int), setB (cur.getD (i / 8) 0) (i % 8) c) = editsOf (putB cur i c) q m := by
 apply qlM
 intro j
 by_cases hj : j < m
 ·rw [qde hj, qfA _ _ _ _ hl]
  by_cases hjm : j = m - 1
  ·subst hjm
   rw [ql6 (by rw [qbm]; omega), if_pos (by omega), show q + (m - 1) = i / 8 from by omega]
  ·rw [qlQ (by omega), qde hj, if_neg (by omega)]
 ·rw [qlt (by rw [qlT, qbm]; omega), qlt (by rw [qbm]; omega)]
theorem qhM {it : Sl × Int → AH → Prop} {H0 H1 : AH} {s : Sl} {cur : List Int} {k m : Nat} {c : Int} {t : Sl × Int} (ht : t.2 = (k : Int)) (hK : qc H0 H1) (hO : Own H0.size H1 s 2 eU (editsOf cur (off / 8) m)) (hm : 1 ≤ m) (hm' : m ≤ 1000)
  (hi : (off + k) / 8 = off / 8 + m - 1) (hl : (off + k) / 8 < cur.length) (hc : 0 ≤ c ∧ c ≤ 255) (hoff : off + k ≤ 100000000)
  (hit : ∀ H', qc H0 H' → Own H0.size H' s 2 eU (editsOf (putB cur (off + k) c) (off / 8) m) → it (s, (k : Int) + 1) H') : qaH.j1 (off : Int) t it c s H1 := by
 unfold qaH.j1
 have hlen : s.n = m := by
  rcases hO with ⟨rfl, h⟩ | ⟨b, rfl, _, _, _⟩
  ·have := qbm cur (off / 8) m
   rw [h] at this; simpa using this
  ·simp [qbm]
 rw [hlen, ht, qg (n := (m : Int) - 1) (by omega) (by omega), qg (n := (off : Int) + (k : Int)) (by omega) (by omega)]
 have hidx : ((m : Int) - 1).toNat = m - 1 := by omega
 have hget := qde (cur := cur) (q := off / 8) (show m - 1 < m from by omega)
 have hq : off / 8 + (m - 1) = (off + k) / 8 := by omega
 rw [hq] at hget
 obtain ⟨b, ha, hb1, hb2, hcell⟩ := hO.cell (fun _ => rfl) hget (j := 1) (by omega)
 refine ⟨⟨by omega, by omega⟩, ?_⟩
 rw [ha, qd, hidx, qk, qk, qlJ, hcell]
 have hmod : ((off : Int) + (k : Int)).tmod 8 = (((off + k) % 8 : Nat) : Int) := by rw [qmt (by omega)]; omega
 rw [hmod]
 show elI .u64 (some (qlk .u64 (cur.getD ((off + k) / 8) 0))) _
 rw [qe, qg (n := (((off + k) % 8 : Nat) : Int) * 8) (by omega) (by omega), Int.mul_comm _ 8, qiq hc (by omega)]
 refine ⟨by decide, by omega, by decide, by omega, ?_⟩
 obtain ⟨b', ha', _, _, hcan, hO', hsame⟩ := hO.put (y := ((((off + k) / 8 : Nat) : Int), setB (cur.getD ((off + k) / 8) 0) ((off + k) % 8) c)) (fun _ => rfl) hget (j := 1) (by omega) (v := .int .u64 (setB (cur.getD ((off + k) / 8) 0) ((off + k) % 8) c)) rfl
 rw [ha] at ha'
 injection ha' with ha'
 injection ha' with ha'
 subst ha'
 refine ⟨hcan, ?_⟩
 rw [qg (n := (k : Int) + 1) (by omega) (by omega)]
 rw [qfY hm hi hl] at hO'
 exact hit _ (hK.put hb1 _) hO'
theorem own_n {α : Type} {B : Nat} {H : AH} {s : Sl} {z : Nat} {f : α → List Value} {l : List α} (h : Own B H s z f l) : s.n = l.length := by
 rcases h with ⟨rfl, rfl⟩ | ⟨b, rfl, _, _, _⟩ <;> rfl
theorem qh5 {it : Sl × Int → AH → Prop} {H0 H1 : AH} {s : Sl} {ws cur : List Int} {k m : Nat} {c : Int} {t : Sl × Int} (ht : t = (s, (k : Int))) (hw : qlC H1 x0 1 wU ws) (hcl : cur.length = ws.length) (hcw : cur.getD ((off + k) / 8) 0 = ws.getD ((off + k) / 8) 0)
  (hK : qc H0 H1) (hO : Own H0.size H1 s 2 eU (editsOf cur (off / 8) m)) (hm' : m ≤ 900)
  (hi : (off + k) / 8 = off / 8 + m) (hl : (off + k) / 8 < cur.length) (hc : 0 ≤ c ∧ c ≤ 255) (hoff : off + k ≤ 100000000) (hwl : ws.length ≤ 1000000)
  (hit : ∀ s' H', qc H0 H' → Own H0.size H' s' 2 eU (editsOf (putB cur (off + k) c) (off / 8) (m + 1)) → it (s', (k : Int) + 1) H') : qaH.j2 x0 (off : Int) t it H1 c true := by
 subst ht
 unfold qaH.j2
 rw [qf]
 simp only
 rw [qg (n := (off : Int) + (k : Int)) (by omega) (by omega), qlY (by omega), qg (n := ((off : Int) + (k : Int)) / 8) (by omega) (by omega), hw.1]
 refine ⟨by decide, by decide, ⟨by omega, by omega⟩, ?_⟩
 have hidx : (((off : Int) + (k : Int)) / 8).toNat = (off + k) / 8 := by omega
 have hlt : (off + k) / 8 < ws.length := by omega
 obtain ⟨b, o, ha, hb, hcell⟩ := qbG (g := fun v => qlk .u64 v) hw hlt
 rw [ha, qd, hidx, hcell, qe]
 refine ⟨rfl, ?_⟩
 rw [qv]
 have hx : [qlk .i64 (((off : Int) + (k : Int)) / 8), qlk .u64 ws[(off + k) / 8]] = eU ((((off + k) / 8 : Nat) : Int), cur.getD ((off + k) / 8) 0) := by
  rw [hcw]
  simp only [eU, qlo, qln hlt, qlV]
  congr 1
 rw [hx]
 refine qbh (H0 := H0) (B := H0.size) (f := eU) (x := ((((off + k) / 8 : Nat) : Int), cur.getD ((off + k) / 8) 0)) (l := editsOf cur (off / 8) m) (fun _ => rfl) rfl hO (qlu _) hK.1 hK (by rw [qbm]; simp only [lim]; omega) ?_
 intro s' H' hO' hK' _ _
 have hl' : editsOf cur (off / 8) m ++ [((((off + k) / 8 : Nat) : Int), cur.getD ((off + k) / 8) 0)] = editsOf cur (off / 8) (m + 1) := by
  simp only [editsOf, qmq, qmQ, qmj, List.map_nil, hi]
 rw [hl'] at hO'
 exact qhM rfl hK' hO' (by omega) (by omega) (by omega) hl hc hoff (fun H'' hK'' hO'' => hit s' H'' hK'' hO'')
theorem qaH.s {ws bs : List Int} {k : Sl → Bool → AH → Prop} {offI : Int} (hw : qlC H x0 1 wU ws) (h64 : qaE ws) (hwl : ws.length ≤ 1000000) (hb : qlC H x2 1 bU bs) (h8 : qbB bs) (ho : -9223372036854775808 ≤ offI ∧ offI ≤ 9223372036854775807)
  (h1 : inside ws.length offI bs.length → ∀ s H', qc H H' → Own H.size H' s 2 eU (editsOf (putBs ws offI.toNat bs) (offI.toNat / 8) (touched offI.toNat bs.length)) → k s true H')
  (h0 : ¬ inside ws.length offI bs.length → k ⟨none, 0, 0⟩ false H) : qaH x0 offI x2 H k := by
 refine qaH.link ?_
 unfold qaH.b
 rw [hb.1]
 refine qce.s (by rw [hw.1]; omega) ho ?_
 rw [hw.1]
 by_cases hin : inside ws.length offI bs.length
 ·rw [show decide (inside ws.length offI bs.length) = true from by simpa using hin, qlA, qa]
  have hin' := hin
  unfold inside at hin
  obtain ⟨off, rfl⟩ := qlI hin.1
  simp only [qlp] at h1
  refine qE (t := ((⟨none, 0, 0⟩, (0 : Int)) : Sl × Int)) (H := H) (I := fun (t : Sl × Int) H' => ∃ j : Nat, t.2 = (j : Int) ∧ j ≤ bs.length ∧ qc H H' ∧ Own H.size H' t.1 2 eU (editsOf (putBs ws off (bs.take j)) (off / 8) (touched off j))) (m := fun (t : Sl × Int) _ => qlr ((bs.length : Int) - t.2)) ?_ ?_
  ·intro t H1 hI it hit
   obtain ⟨s, i⟩ := t
   obtain ⟨j, hi, hj, hK, hO⟩ := hI
   simp only at hi hO
   subst hi
   have hR := hw.keep hK
   have hB := hb.keep hK
   unfold qaH.l3
   simp only
   rw [hb.1]
   by_cases hlt : j < bs.length
   ·rw [show decide ((j : Int) < (bs.length : Int)) = true from by simpa using hlt, qf]
    obtain ⟨b, o, ha, hbb, hcell⟩ := qbG (g := fun v => qlk .u8 v) hB hlt
    refine ⟨⟨by omega, by omega⟩, ?_⟩
    rw [ha, qd, qlp, hcell, qe]
    have hc := h8 _ (qlB hlt)
    have hcl : (putBs ws off (bs.take j)).length = ws.length := qcK _ _ _
    have hstep : putB (putBs ws off (bs.take j)) (off + j) bs[j] = putBs ws off (bs.take (j + 1)) := by
     rw [qmB, qln hlt, qmz, qgR, List.length_take, Nat.min_eq_left (by omega)]
    have hnext : ∀ s' H', qc H H' → Own H.size H' s' 2 eU (editsOf (putB (putBs ws off (bs.take j)) (off + j) bs[j]) (off / 8) (touched off (j + 1))) → it (s', (j : Int) + 1) H' := by
     intro s' H' hK' hO'
     rw [hstep] at hO'
     exact hit _ _ ⟨j + 1, by simp, by omega, hK', hO'⟩ (by simp only; omega)
    rw [own_n hO, qbm]
    have hlw : (off + j) / 8 < (putBs ws off (bs.take j)).length := by rw [hcl]; omega
    by_cases hj0 : j = 0
    ·subst hj0
     rw [show (((touched off 0 : Nat) : Int) == 0) = true from rfl, qf]
     refine qh5 (m := 0) (cur := putBs ws off (bs.take 0)) rfl hR hcl rfl hK hO (by omega) (by omega) hlw hc (by omega) hwl ?_
     intro s' H' hK' hO'
     have : touched off (0 + 1) = 0 + 1 := by simp [touched]
     exact hnext s' H' hK' (by rw [this]; exact hO')
    ·have htm : touched off j = (off + j - 1) / 8 - off / 8 + 1 := by simp [touched, hj0]
     have htn : touched off (j + 1) = (off + j) / 8 - off / 8 + 1 := by simp [touched]
     have hle : touched off j ≤ 60 := by omega
     rw [show (((touched off j : Nat) : Int) == 0) = false from by simp; omega, qa, qg (n := ((touched off j : Nat) : Int) - 1) (by omega) (by omega)]
     refine ⟨⟨by omega, by omega⟩, ?_⟩
     have hget := qde (cur := putBs ws off (bs.take j)) (q := off / 8) (show touched off j - 1 < touched off j from by omega)
     obtain ⟨b', ha', _, _, hcell'⟩ := hO.cell (fun _ => rfl) hget (j := 0) (by omega)
     have hidx : (((touched off j : Nat) : Int) - 1).toNat = touched off j - 1 := by omega
     rw [ha', qd, hidx, qk, qk, qlJ, hcell']
     show elI .i64 (some (qlk .i64 ((off / 8 + (touched off j - 1) : Nat) : Int))) _
     rw [qe, qg (n := (off : Int) + (j : Int)) (by omega) (by omega), qlY (by omega), qg (n := ((off : Int) + (j : Int)) / 8) (by omega) (by omega)]
     refine ⟨by decide, ?_⟩
     by_cases hsame : (off + j) / 8 = off / 8 + touched off j - 1
     ·rw [show ((((off / 8 + (touched off j - 1) : Nat) : Int)) != ((off : Int) + (j : Int)) / 8) = false from by simp; omega]
      unfold qaH.j2
      rw [qa]
      refine qhM (m := touched off j) (cur := putBs ws off (bs.take j)) rfl hK hO (by omega) (by omega) hsame hlw hc (by omega) ?_
      intro H' hK' hO'
      exact hnext s H' hK' (by rw [show touched off (j + 1) = touched off j from by omega]; exact hO')
     ·rw [show ((((off / 8 + (touched off j - 1) : Nat) : Int)) != ((off : Int) + (j : Int)) / 8) = true from by simp; omega]
      refine qh5 (m := touched off j) (cur := putBs ws off (bs.take j)) rfl hR hcl ?_ hK hO (by omega) (by omega) hlw hc (by omega) hwl ?_
      ·exact qeO _ _ _ _ (.inl (by rw [List.length_take]; omega)) (by rw [List.length_take]; omega)
      ·intro s' H' hK' hO'
       exact hnext s' H' hK' (by rw [show touched off (j + 1) = touched off j + 1 from by omega]; exact hO')
   ·rw [show decide ((j : Int) < (bs.length : Int)) = false from by simpa using hlt, qa]
    have hjn : j = bs.length := by omega
    subst hjn
    rw [qmh] at hO
    exact h1 hin' _ _ hK hO
  ·exact ⟨0, rfl, by omega, qc.refl H, .inl ⟨rfl, rfl⟩⟩
 ·rw [show decide (inside ws.length offI bs.length) = false from by simpa using hin, qlK, qf]
  exact h0 hin
end
section
variable {H : AH}
theorem own_str {B : Nat} {s : Sl} {l : List Int} {k : List UInt8 → Prop} (h : Own B H s 1 bU l) (h8 : qbB l) (hk : k (l.map fun v => UInt8.ofNat v.toNat)) : strC H s k := by
 have hm : (l.map fun v => UInt8.ofNat v.toNat).map byteV = l.flatMap bU := by
  clear hk h
  induction l with
  | nil => rfl
  | cons a l ih =>
   have ha := h8 a (by simp)
   have := ih (fun v hv => h8 v (by simp [hv]))
   simp only [qmj, ql7, bU, List.singleton_append] at this ⊢
   rw [this]
   congr 1
   simp only [byteV, UInt8.toNat_ofNat']
   congr 1
   omega
 refine ⟨_, ?_, hk⟩
 rw [hm]
 rcases h with ⟨rfl, rfl⟩ | ⟨b, rfl, _, _, hg⟩
 ·rfl
 ·simp only [AH.rowS?]
  by_cases h0 : l.length = 0
  ·rw [if_pos h0]
   have : l = [] := List.length_eq_zero_iff.1 h0
   subst this; rfl
  ·rw [if_neg h0]
   simp only [Nat.mul_one, AH.row?, hg, qlF, qlw, if_false, qmE, qlJ]
   have hall : (l.flatMap bU).all qq = true := by simp [List.all_flatMap, bU, qq]
   have hlen : (l.flatMap bU).length = l.length := by rw [qd1 (z := 1) (fun _ => rfl)]; omega
   rw [if_neg (by simp), show l.length = (l.flatMap bU).length from hlen.symm, qmh, if_pos ⟨qlu _, hall⟩]
end
theorem qf7 {α : Type} (g : α → Value) (l : List α) : (l.flatMap fun x => [g x]) = l.map g := by
 induction l with
 | nil => rfl
 | cons a l ih => simp [ih]
theorem qgt {α : Type} {H : AH} {s : Sl} {g : α → Value} {l : List α} (hg : ∀ x, qq (g x) = true) (h : qlC H s 1 (fun x => [g x]) l) : AH.rowS? H s 1 = some (l.map g) := by
 simp only [AH.rowS?]
 by_cases h0 : s.n = 0
 ·rw [if_pos h0]
  have : l = [] := List.length_eq_zero_iff.1 (by rw [← h.1]; exact h0)
  subst this; rfl
 ·rw [if_neg h0]
  have hpos : 0 < l.length := by rw [← h.1]; omega
  obtain ⟨b, o, ha, hb, hr0⟩ := h.at hpos
  rw [ha]
  simp only [Nat.mul_one]
  have hcell : ∀ i (hi : i < l.length), AH.cell? H ⟨b, o + i, none⟩ = some (g l[i]) := by
   intro i hi
   obtain ⟨b', o', ha', _, hr⟩ := qbG h hi
   rw [ha] at ha'
   injection ha' with ha'
   injection ha' with e1 e2 _
   subst e1 e2
   rw [qk, Nat.mul_one] at hr
   exact hr
  have hm : (H.get b).md ≠ .dead := by
   intro hm
   have := hcell 0 hpos
   simp [AH.cell?, hm] at this
  have hc : ∀ i (hi : i < l.length), (H.get b).cells[o + i]? = some (g l[i]) := by
   intro i hi
   have := hcell i hi
   simpa [AH.cell?, hm] using this
  have hlen : o + s.n ≤ (H.get b).cells.length := by
   have h1 := hc (l.length - 1) (by omega)
   have := (List.getElem?_eq_some_iff.1 h1).1
   have := h.1
   omega
  have htake : ((H.get b).cells.drop o).take s.n = l.map g := by
   apply qlM
   intro i
   by_cases hi : i < s.n
   ·have hi' : i < l.length := by rw [← h.1]; exact hi
    rw [qmd, if_pos hi, qme, hc i hi', qlz, qln hi', qlO]
   ·rw [qlt (by simp; omega), qlt (by rw [List.length_map, ← h.1]; omega)]
  simp only [AH.row?, qlF, qlw, if_false]
  rw [if_neg hm, htake, if_pos ⟨hlen, by simp [hg]⟩]
theorem qaC.s {H : AH} {sl : Sl} {ws : List Int} {k : Sl → AH → Prop} (hw : qlC H sl 1 wU ws) (hwl : ws.length ≤ 1000000)
  (h : ∀ s H', qc H H' → Own H.size H' s 1 wU ws ∨ (ws = [] ∧ s.n = 0) → k s H') : qaC sl H k := by
 refine qaC.link ?_
 unfold qaC.b
 cases ha : sl.a with
 | none =>
  rw [Option.isNone_none, qf]
  refine h _ _ (qc.refl H) (.inr ⟨?_, rfl⟩)
  cases ws with
  | nil => rfl
  | cons x r =>
   obtain ⟨a, h1, _⟩ := hw.2 0 x rfl
   rw [ha] at h1; cases h1
 | some a =>
  rw [qlG, qa, qv]
  refine ⟨le_limS (by have := hw.1; simp only [lim]; omega) _, ?_⟩
  by_cases h0 : sl.n = 0
  ·rw [if_pos h0]
   refine h _ _ ((qc.refl H).push _) (.inr ⟨List.length_eq_zero_iff.1 (by rw [← hw.1]; exact h0), rfl⟩)
  ·rw [if_neg h0]
   have hr := qgt (g := fun v => qlk .u64 v) (fun _ => rfl) (hw.keep ((qc.refl H).push ⟨[], .rw, 1⟩))
   refine ⟨_, hr, ⟨rfl, rfl, rfl, by simp [qs], by simp [qs], by simp [qs]⟩, ?_⟩
   refine h _ _ ((((qc.refl H).push _).kill (b := H.size) (qlu _)).push _) (.inl (.inr ⟨H.size + 1, ?_, by omega, by simp [qm, qbA], ?_⟩))
   ·simp [newAt, qm, hw.1]
   ·simp only [qs, qbA, qm, if_true]
    simp only [ql8, AObj.mk.injEq, and_true]
    exact (qf7 (fun v => qlk .u64 v) ws).symm
def putE (ws : List Int) (x : Int × Int) : List Int := if 0 ≤ x.1 ∧ x.1 < ws.length then ws.set x.1.toNat x.2 else ws
def applyE (ws : List Int) (l : List (Int × Int)) : List Int := l.foldl putE ws
theorem qiP (ws : List Int) (x : Int × Int) : (putE ws x).length = ws.length := by unfold putE; split <;> simp
theorem qaz (l : List (Int × Int)) : ∀ ws, (applyE ws l).length = ws.length := by
 induction l with
 | nil => intro ws; rfl
 | cons x r ih => intro ws; simp only [applyE, List.foldl_cons]; exact (ih _).trans (qiP _ _)
theorem ed_put {H : AH} (x y : Int × Int) : AH.put (H.push ⟨eU x, .rw, 0⟩) ⟨H.size, 0, none⟩ (eU y) = H.push ⟨eU y, .rw, 0⟩ := qdr _ _ _ _ _
theorem ed_can {H : AH} (x : Int × Int) : AH.canPut (H.push ⟨eU x, .rw, 0⟩) ⟨H.size, 0, none⟩ 2 := qcF.2 (by simp [eU])
theorem ed_0 {H : AH} (x : Int × Int) : AH.cell? (H.push ⟨eU x, .rw, 0⟩) (qlm ⟨H.size, 0, none⟩ 0) = some (.int .i64 x.1) := qdX _ _ _ _
theorem ed_1 {H : AH} (x : Int × Int) : AH.cell? (H.push ⟨eU x, .rw, 0⟩) (qlm ⟨H.size, 0, none⟩ 1) = some (.int .u64 x.2) := qdX _ _ _ _
theorem ed_nil : ([(qlk .i64 (0 : Int)), (qlk .u64 (0 : Int))] : List Value) = eU (0, 0) := rfl
theorem qbi.s {H : AH} {x0 x1 : Sl} {ws : List Int} {l : List (Int × Int)} {k : Sl → AH → Prop} (hw : qlC H x0 1 wU ws) (hwl : ws.length ≤ 1000000) (hl : qlC H x1 2 eU l) (hll : l.length ≤ 1000000)
  (h : ∀ s H', qc H H' → Own H.size H' s 1 wU (applyE ws l) ∨ (ws = [] ∧ s.n = 0) → k s H') : qbi x0 x1 H k := by
 refine qbi.link ?_
 unfold qbi.b
 refine qaC.s hw hwl ?_
 intro s9 H9 hK9 hO9
 refine qE (t := (0 : Int)) (H := H9) (I := fun (t : Int) H' => ∃ j : Nat, t = (j : Int) ∧ j ≤ l.length ∧ qc H H' ∧ (Own H.size H' s9 1 wU (applyE ws (l.take j)) ∨ (ws = [] ∧ s9.n = 0))) (m := fun (t : Int) _ => qlr ((l.length : Int) - t)) ?_ ⟨0, rfl, by omega, hK9, hO9⟩
 intro t H1 hI it hit
 obtain ⟨j, rfl, hj, hK, hO⟩ := hI
 have hR := hl.keep hK
 unfold qbi.l2
 rw [hl.1]
 by_cases hlt : j < l.length
 ·rw [show decide ((j : Int) < (l.length : Int)) = true from by simpa using hlt, qf]
  obtain ⟨b, o, ha, hb, hrow⟩ := hR.at hlt
  refine ⟨⟨by omega, by omega⟩, ?_⟩
  rw [ha, qd, qlp, qp hrow]
  generalize hx : l[j] = x at *
  have htk : applyE ws (l.take (j + 1)) = putE (applyE ws (l.take j)) x := by
   rw [qmB, qln hlt, hx, qmz]
   simp [applyE, List.foldl_append]
  have hn : s9.n = ws.length := by
   rcases hO with hO | ⟨rfl, h0⟩
   ·rw [own_n hO, qaz]
   ·rw [h0]; rfl
  simp only [qv, qbu, ed_nil, ed_put, ed_can, ed_0, ed_1, qe, show (eU x).length = 2 from rfl, show (eU x).all qq = true from rfl, true_and]
  have hnext : ∀ H', qc H H' → (Own H.size H' s9 1 wU (putE (applyE ws (l.take j)) x) ∨ (ws = [] ∧ s9.n = 0)) → it ((j : Int) + 1) H' := by
   intro H' hK' hO'
   rw [← htk] at hO'
   exact hit _ _ ⟨j + 1, by simp, by omega, hK', hO'⟩ (by omega)
  have hO1 : Own H.size (H1.push ⟨eU x, .rw, 0⟩) s9 1 wU (applyE ws (l.take j)) ∨ (ws = [] ∧ s9.n = 0) :=
   hO.imp (fun hO => hO.keep (by simp [qm]) (fun b _ hb => qO (by omega))) id
  unfold qbi.j1
  simp only [ed_0, ed_1, qe]
  rw [qg (n := (j : Int) + 1) (by omega) (by omega), hn]
  by_cases h0 : x.1 ≥ 0
  ·rw [show decide (x.1 ≥ 0) = true from by simpa using h0, qf]
   by_cases h1 : x.1 < (ws.length : Int)
   ·rw [show decide (x.1 < (ws.length : Int)) = true from by simpa using h1, qf]
    refine ⟨⟨h0, h1⟩, ?_⟩
    rcases hO1 with hO1 | ⟨rfl, _⟩
    ·have hlw : x.1.toNat < (applyE ws (l.take j)).length := by rw [qaz]; omega
     obtain ⟨b', ha', hb1, hb2, hcan, hO', _⟩ := hO1.put (y := x.2) (fun _ => rfl) (qln hlw) (j := 0) (by omega) (v := .int .u64 x.2) rfl
     rw [ha', qd, qk, qlJ]
     refine ⟨hcan, ?_⟩
     refine hnext _ ((hK.push _).put hb1 _) (.inl ?_)
     have hp : putE (applyE ws (l.take j)) x = (applyE ws (l.take j)).set x.1.toNat x.2 := by
      unfold putE; rw [if_pos ⟨h0, by rw [qaz]; exact h1⟩]
     rw [hp]; exact hO'
    ·simp at h1; omega
   ·rw [show decide (x.1 < (ws.length : Int)) = false from by simpa using h1, qa]
    refine hnext _ (hK.push _) (hO1.imp (fun hO => ?_) id)
    have hp : putE (applyE ws (l.take j)) x = applyE ws (l.take j) := by unfold putE; rw [if_neg (by rw [qaz]; omega)]
    rw [hp]; exact hO
  ·rw [show decide (x.1 ≥ 0) = false from by simpa using h0, qa, qa]
   refine hnext _ (hK.push _) (hO1.imp (fun hO => ?_) id)
   have hp : putE (applyE ws (l.take j)) x = applyE ws (l.take j) := by unfold putE; rw [if_neg (by omega)]
   rw [hp]; exact hO
 ·rw [show decide ((j : Int) < (l.length : Int)) = false from by simpa using hlt, qa]
  have : j = l.length := by omega
  subst this
  rw [qmh] at hO
  exact h _ _ hK hO
theorem qi8 {ws : List Int} (h64 : qaE ws) {i p : Nat} {c : Int} (hi : i / 8 < ws.length) (hp : p / 8 < ws.length) (hc : 0 ≤ c ∧ c ≤ 255) : byteAt (putB ws i c) p = if p = i then c else byteAt ws p := by
 unfold byteAt
 rw [qfA _ _ _ _ hi]
 by_cases hw : p / 8 = i / 8
 ·rw [if_pos hw]
  by_cases hpi : p = i
  ·subst hpi; rw [if_pos rfl, qgZ (by omega) hc]
  ·rw [if_neg hpi, ← hw]
   have hv : 0 ≤ ws.getD (p / 8) 0 ∧ ws.getD (p / 8) 0 ≤ 18446744073709551615 := by
    rw [qlo, qln hp, qlV]
    exact h64 _ (qlB hp)
   exact qgy hv (by omega) (by omega) (by omega) hc
 ·rw [if_neg hw, if_neg (by intro h; exact hw (by rw [h]))]
theorem qee : ∀ (bs ws : List Int) (i : Nat), qaE ws → qaE (putBs ws i bs) := by
 intro bs
 induction bs with
 | nil => intro ws i h; exact h
 | cons c r ih => intro ws i h; exact ih _ _ (qfI h i c)
theorem qif : ∀ (bs ws : List Int) (i p : Nat), qaE ws → qbB bs → i + bs.length ≤ ws.length * 8 → p / 8 < ws.length →
  byteAt (putBs ws i bs) p = if i ≤ p ∧ p < i + bs.length then bs.getD (p - i) 0 else byteAt ws p := by
 intro bs
 induction bs with
 | nil => intro ws i p _ _ _ _; rw [if_neg (by simp)]; rfl
 | cons c r ih =>
  intro ws i p h64 h8 hl hp
  simp only [qlE] at hl
  simp only [putBs]
  rw [ih _ _ _ (qfI h64 i c) (fun v hv => h8 v (by simp [hv])) (by rw [qd4]; omega) (by rw [qd4]; exact hp), qi8 h64 (by omega) hp (h8 c (by simp))]
  simp only [qlE]
  by_cases h1 : i + 1 ≤ p ∧ p < i + 1 + r.length
  ·rw [if_pos h1, if_pos (by omega)]
   obtain ⟨d, hd⟩ : ∃ d, p - i = d + 1 := ⟨p - i - 1, by omega⟩
   rw [hd, List.getD_cons_succ]
   congr 1; omega
  ·rw [if_neg h1]
   by_cases h2 : p = i
   ·subst h2; rw [if_pos rfl, if_pos (by omega)]; simp
   ·rw [if_neg h2, if_neg (by omega)]
theorem qki {a b : List Int} (hl : a.length = b.length) (h : ∀ w, w < a.length → a.getD w 0 = b.getD w 0) : a = b := by
 apply qlM
 intro w
 by_cases hw : w < a.length
 ·have := h w hw
  simp only [qlo, qln hw, qln (show w < b.length by omega), qlV] at this
  rw [qln hw, qln (show w < b.length by omega), this]
 ·rw [qlt (by omega), qlt (by omega)]
theorem qhZ (cur : List Int) (q m : Nat) : editsOf cur q (m + 1) = editsOf cur q m ++ [(((q + m : Nat) : Int), cur.getD (q + m) 0)] := by
 simp only [editsOf, qmq, qmQ, qmj, List.map_nil]
theorem qi1 {ws cur : List Int} {q : Nat} : ∀ (m w : Nat), q + m ≤ ws.length → (applyE ws (editsOf cur q m)).getD w 0 = if q ≤ w ∧ w < q + m then cur.getD w 0 else ws.getD w 0 := by
 intro m
 induction m with
 | zero => intro w _; rw [if_neg (by omega)]; rfl
 | succ m ih =>
  intro w hm
  rw [qhZ]
  have : applyE ws (editsOf cur q m ++ [(((q + m : Nat) : Int), cur.getD (q + m) 0)]) = putE (applyE ws (editsOf cur q m)) (((q + m : Nat) : Int), cur.getD (q + m) 0) := by simp [applyE, List.foldl_append]
  rw [this]
  unfold putE
  rw [if_pos ⟨by simp only; omega, by simp only [qaz]; omega⟩]
  simp only [qlp]
  by_cases hw : w = q + m
  ·subst hw
   rw [if_pos (by omega), qlo, ql6 (by rw [qaz]; omega), qlV]
  ·have h2 : ((applyE ws (editsOf cur q m)).set (q + m) (cur.getD (q + m) 0)).getD w 0 = (applyE ws (editsOf cur q m)).getD w 0 := by
    simp only [qlo]
    rw [qlQ (by omega)]
   rw [h2, ih w (by omega)]
   by_cases h3 : q ≤ w ∧ w < q + m
   ·rw [if_pos h3, if_pos (by omega)]
   ·rw [if_neg h3, if_neg (by omega)]
theorem qio {ws bs : List Int} {off : Nat} (hl : off + bs.length ≤ ws.length * 8) : applyE ws (editsOf (putBs ws off bs) (off / 8) (touched off bs.length)) = putBs ws off bs := by
 have hm : off / 8 + touched off bs.length ≤ ws.length ∨ bs = [] := by
  cases bs with
  | nil => exact .inr rfl
  | cons c r => left; simp only [qlE, touched] at hl ⊢; rw [if_neg (by omega)]; omega
 rcases hm with hm | rfl
 ·refine qki (by rw [qaz, qcK]) fun w _ => ?_
  rw [qi1 _ _ hm]
  split
  ·rfl
  ·rename_i hw
   by_cases h0 : bs.length = 0
   ·have : bs = [] := List.length_eq_zero_iff.1 h0
    subst this; rfl
   ·have : touched off bs.length = (off + bs.length - 1) / 8 - off / 8 + 1 := by simp [touched, h0]
    exact (qeO _ _ _ _ (by omega) hl).symm
 ·rfl
abbrev Bk : Type := Int × Int × Bool
def bkV (b : Bk) : List Value := [.int .i64 b.1, .int .i64 b.2.1, .bool b.2.2]
theorem bkV_len (b : Bk) : (bkV b).length = 3 := rfl
theorem bkV_ok (b : Bk) : (bkV b).all qq = true := rfl
def needN (n : Int) : Int := if 1 ≤ n ∧ n ≤ 448 then 1 + (n + 7) / 8 else 0
def takesN (size need : Int) : Int := if 2 ≤ need ∧ need ≤ size then (if size - need < 2 then size else need) else 0
def mayS (n : Int) : Prop := 2 ≤ n ∧ n ≤ 512
instance (n : Int) : Decidable (mayS n) := by unfold mayS; infer_instance
def wordN (n : Int) (u : Bool) : Int := if mayS n then 2 * n + (if u then 1 else 0) else 0
def offN (pt : Int) : Int := if 0 ≤ pt ∧ pt ≤ 512 then (pt + 1) * 8 else 0
def mayW (n : Int) : Prop := 8 ≤ n ∧ n ≤ 512 ∧ n % 8 = 0
instance (n : Int) : Decidable (mayW n) := by unfold mayW; infer_instance
theorem shr1 {v : Int} (h : 0 ≤ v) : shrI .u64 v 1 = v / 2 := by
 unfold shrI
 rw [Int.fdiv_eq_ediv_of_nonneg _ (by decide)]
 rfl
theorem and1w {v : Int} (h : isU v) : andI .u64 v 1 = v % 2 := by
 unfold isU at h
 obtain ⟨n, rfl⟩ := qlI h.1
 have hn : n < 2 ^ 64 := by omega
 unfold andI
 have e : (qmc (qmn .u64) (n : Int) &&& qmc (qmn .u64) 1).toNat = n % 2 := by
  rw [BitVec.toNat_and]
  have e1 : (qmc (qmn .u64) (n : Int)).toNat = n := by
   show (qmc 64 (n : Int)).toNat = n
   rw [BitVec.toNat_ofInt]
   omega
  have e2 : (qmc (qmn .u64) 1).toNat = 1 := rfl
  rw [e1, e2, Nat.and_one_is_mod]
 rw [e, qbI (by omega) (by omega)]
 omega
theorem shl1 {n : Int} (h : mayS n) : shlI .u64 (qll .u64 n) 1 = 2 * n := by
 unfold mayS at h
 unfold shlI
 rw [qbI (n := n) (by omega) (by omega)]
 have : (2 : Int) ^ (min (qlr 1) (qmn .u64)) = 2 := rfl
 rw [this, qbI (by omega) (by omega)]; omega
theorem or1 {n : Int} (h : mayS n) : orI .u64 (2 * n) 1 = 2 * n + 1 := by
 unfold mayS at h
 obtain ⟨m, rfl⟩ := qlI (show 0 ≤ n by omega)
 have hm : m < 513 := by omega
 have key : ∀ m : Fin 513, orI .u64 (2 * ((m.val : Nat) : Int)) 1 = 2 * ((m.val : Nat) : Int) + 1 := by decide +kernel
 exact key ⟨m, hm⟩
section
variable {H : AH}
theorem qZ.s {n : Int} {k : Int → AH → Prop} (hn : isI n) (h : k (needN n) H) : qZ n H k := by
 unfold isI at hn
 refine qZ.link ?_
 unfold qZ.b qZ.j1
 unfold needN at h
 simp only [qi, decide_eq_true_eq]
 by_cases h1 : n < 1
 ·rw [if_pos h1]; rw [if_neg (by omega)] at h; exact h
 rw [if_neg h1]
 by_cases h2 : n > 448
 ·rw [if_pos h2]; rw [if_neg (by omega)] at h; exact h
 rw [if_neg h2]
 rw [if_pos (by omega)] at h
 refine ⟨by decide, ?_⟩
 rw [qg (n := n + 7) (by omega) (by omega), qlY (by omega), qg (n := (n + 7) / 8) (by omega) (by omega), qg (by omega) (by omega)]
 exact h
theorem qaU.s {n : Int} {k : Bool → AH → Prop} (h : k (decide (mayS n)) H) : qaU n H k := by
 refine qaU.link ?_
 unfold qaU.b
 simp only [qi, decide_eq_true_eq]
 by_cases h1 : n ≥ 2
 ·rw [if_pos h1]
  by_cases h2 : n ≤ 512
  ·rw [decide_eq_true h2]; rw [decide_eq_true (show mayS n from ⟨h1, h2⟩)] at h; exact h
  ·rw [decide_eq_false h2]; rw [decide_eq_false (fun hh : mayS n => h2 hh.2)] at h; exact h
 ·rw [if_neg h1]; rw [decide_eq_false (fun hh : mayS n => h1 hh.1)] at h; exact h
theorem qau.s {n : Int} {k : Bool → AH → Prop} (h : k (decide (mayW n)) H) : qau n H k := by
 refine qau.link ?_
 unfold qau.b
 simp only [qi, decide_eq_true_eq]
 by_cases h1 : n ≥ 8
 ·rw [if_pos h1]
  by_cases h2 : n ≤ 512
  ·rw [if_pos h2]
   refine ⟨by decide, ?_⟩
   rw [qmt (by omega)]
   have e : (n % 8 == 0) = decide (mayW n) := by
    by_cases h3 : n % 8 = 0
    ·rw [decide_eq_true (show mayW n from ⟨h1, h2, h3⟩)]; simpa using h3
    ·rw [decide_eq_false (fun hh : mayW n => h3 hh.2.2)]; simpa using h3
   rw [e]; exact h
  ·rw [if_neg h2]; rw [decide_eq_false (fun hh : mayW n => h2 hh.2.1)] at h; exact h
 ·rw [if_neg h1]; rw [decide_eq_false (fun hh : mayW n => h1 hh.1)] at h; exact h
theorem qao.s {a b : Int} {k : Int → AH → Prop} (ha : 0 ≤ a ∧ a ≤ 1000) (hb : 0 ≤ b ∧ b ≤ 1000) (h : k (takesN a b) H) : qao a b H k := by
 refine qao.link ?_
 unfold qao.b qao.j1
 unfold takesN at h
 simp only [qi, decide_eq_true_eq]
 by_cases h1 : b < 2
 ·rw [if_pos h1]; rw [if_neg (by omega)] at h; exact h
 rw [if_neg h1]
 by_cases h2 : b > a
 ·rw [if_pos h2]; rw [if_neg (by omega)] at h; exact h
 rw [if_neg h2]
 rw [if_pos (by omega)] at h
 rw [qg (n := a - b) (by omega) (by omega)]
 by_cases h3 : a - b < 2
 ·rw [if_pos h3]; rw [if_pos h3] at h; exact h
 ·rw [if_neg h3]; rw [if_neg h3] at h; exact h
theorem qaG.s {n : Int} {u : Bool} {k : Int → AH → Prop} (h : k (wordN n u) H) : qaG n u H k := by
 refine qaG.link ?_
 unfold qaG.b
 refine qaU.s ?_
 unfold wordN at h
 by_cases h1 : mayS n
 ·rw [decide_eq_true h1, qlA, qa]
  rw [if_pos h1] at h
  refine ⟨by decide, ?_⟩
  rw [shl1 h1, or1 h1]
  cases u with
  | true => rw [qf]; exact h
  | false =>
   rw [qa]
   rw [if_neg (by simp), Int.add_zero] at h
   exact h
 ·rw [decide_eq_false h1, qlK, qf]
  rw [if_neg h1] at h
  exact h
theorem qar.s {v : Int} {k : Int → Bool → Bool → AH → Prop} (hv : isU v) (h1 : mayS (v / 2) → k (v / 2) (v % 2 == 1) true H) (h0 : ¬ mayS (v / 2) → k 0 false false H) : qar v H k := by
 have hv' := hv
 unfold isU at hv'
 refine qar.link ?_
 unfold qar.b qar.j1
 rw [shr1 hv'.1, and1w hv]
 simp only [qi, decide_eq_true_eq]
 refine ⟨by decide, ?_⟩
 by_cases a1 : v / 2 < 2
 ·rw [if_pos a1]; exact h0 (fun hh => by unfold mayS at hh; omega)
 rw [if_neg a1]
 refine ⟨by decide, ?_⟩
 by_cases a2 : v / 2 > 512
 ·rw [if_pos a2]; exact h0 (fun hh => by unfold mayS at hh; omega)
 rw [if_neg a2, qg (n := v / 2) (by omega) (by omega)]
 exact ⟨by decide, h1 ⟨by omega, by omega⟩⟩
def BkAt (H : AH) (o : Nat) (b : Bk) : Prop := ∃ e, H.get o = ⟨bkV b, .rw, e⟩
theorem BkAt.c0 {o : Nat} {b : Bk} (h : BkAt H o b) : AH.cell? H (qlm ⟨o, 0, none⟩ 0) = some (.int .i64 b.1) := by obtain ⟨e, h⟩ := h; simp [qk, AH.cell?, h, bkV]
theorem BkAt.c1 {o : Nat} {b : Bk} (h : BkAt H o b) : AH.cell? H (qlm ⟨o, 0, none⟩ 1) = some (.int .i64 b.2.1) := by obtain ⟨e, h⟩ := h; simp [qk, AH.cell?, h, bkV]
theorem BkAt.c2 {o : Nat} {b : Bk} (h : BkAt H o b) : AH.cell? H (qlm ⟨o, 0, none⟩ 2) = some (.bool b.2.2) := by obtain ⟨e, h⟩ := h; simp [qk, AH.cell?, h, bkV]
theorem BkAt.row {o : Nat} {b : Bk} (h : BkAt H o b) : AH.row? H ⟨o, 0, none⟩ 3 = some (bkV b) := by
 obtain ⟨e, h⟩ := h
 simp only [AH.row?, h, qlF, qlw, if_false, qmE]
 rw [if_neg (by simp), ql9 (by rw [bkV_len]; omega), if_pos ⟨by rw [bkV_len]; omega, bkV_ok _⟩]
theorem BkAt.keep {H' : AH} {o : Nat} {b : Bk} (h : BkAt H o b) (hg : H'.get o = H.get o) : BkAt H' o b := by obtain ⟨e, h⟩ := h; exact ⟨e, hg.trans h⟩
theorem BkAt.new {b : Bk} {e : Nat} : BkAt (H.push ⟨bkV b, .rw, e⟩) H.size b := ⟨e, by rw [qs, if_pos rfl]⟩
theorem qY.s {b : Bk} {k : Int → AH → Prop} (h : k (offN b.1) H) : qY (bkV b) H k := by
 refine gcI (j := .i64) (offN b.1) (qY.link ?_) h
 unfold qY.b qY.j1
 rw [qv]
 have hk := (qc.refl H).push ⟨bkV b, .rw, 0⟩
 have hB : BkAt (H.push ⟨bkV b, .rw, 0⟩) H.size b := BkAt.new
 generalize H.push ⟨bkV b, .rw, 0⟩ = H1 at *
 simp only [hB.c0, qe]
 unfold offN
 by_cases h1 : b.1 < 0
 ·rw [decide_eq_true h1, qf, qf, if_neg (by omega)]; exact ⟨hk, rfl⟩
 rw [decide_eq_false h1, qa]
 by_cases h2 : b.1 > 512
 ·rw [decide_eq_true h2, qf, if_neg (by omega)]; exact ⟨hk, rfl⟩
 rw [decide_eq_false h2, qa, if_pos (by omega), qg (n := b.1 + 1) (by omega) (by omega), qg (by omega) (by omega)]
 exact ⟨hk, rfl⟩
theorem qam {α : Type} {s : Sl} {z : Nat} {f : α → List Value} {l : List α} (h : qlC H s z f l) (hp : 0 < l.length) :
  ∃ b o, s.a = some ⟨b, o, none⟩ ∧ b < H.size ∧ ∀ i x, l[i]? = some x → AH.row? H (qlm ⟨b, o, none⟩ (i * z)) z = some (f x) ∧ ∀ j v, (f x)[j]? = some v → AH.cell? H (qlm (qlm ⟨b, o, none⟩ (i * z)) j) = some v := by
 obtain ⟨b, o, h1, h2, _⟩ := h.at hp
 refine ⟨b, o, h1, h2, fun i x hx => ?_⟩
 obtain ⟨a, e1, e2, e3, e4⟩ := h.2 i x hx
 rw [h1] at e1
 injection e1 with e1
 subst e1
 rw [qk]
 refine ⟨e4, fun j v hv => ?_⟩
 rw [qk]
 exact (AH.row?_cell e4).2.2.2.2 j v hv
theorem qbC {cs vs : List Value} {e n : Nat} {K : Nat → AH → Prop} (hc : cs.length = n) (hv : vs.length = n) (ho : vs.all qq = true)
  (hK : K H.size (H.push ⟨vs, .rw, e⟩)) : newC H ⟨cs, .rw, e⟩ fun o H1 => (vs.length = n ∧ vs.all qq = true) ∧ stC H1 ⟨o, 0, none⟩ vs fun Hs => K o Hs := by
 rw [qv]
 refine ⟨⟨hv, ho⟩, ?_⟩
 rw [qbu]
 have e1 : AH.put (H.push ⟨cs, .rw, e⟩) ⟨H.size, 0, none⟩ vs = H.push ⟨vs, .rw, e⟩ := by
  rw [qdr]
  congr 2
  apply qlM
  intro t
  rw [qcl _ _ _ _ (by omega)]
  by_cases ht : t < vs.length
  ·rw [if_pos (by omega)]; rfl
  ·rw [if_neg (by omega), qlt (by omega), qlt (by omega)]
 rw [e1]
 exact ⟨qcF.2 (by omega), hK⟩
end
def chainB (words : Int) : Int → Bool → List Bk → Prop
 | pt, _, [] => pt = words
 | pt, pu, b :: r => b.1 = pt ∧ mayS b.2.1 ∧ b.2.1 ≤ words - pt ∧ (pu = true ∨ b.2.2 = true) ∧ chainB words (pt + b.2.1) b.2.2 r
instance chainB.dec {words : Int} : ∀ (l : List Bk) (pt : Int) (pu : Bool), Decidable (chainB words pt pu l)
 | [], pt, pu => by unfold chainB; infer_instance
 | b :: r, pt, pu => by
  unfold chainB
  have := chainB.dec (words := words) r (pt + b.2.1) b.2.2
  infer_instance
def MayB (l : List Bk) (words : Int) : Prop := mayW words ∧ chainB words 0 true l
instance {l : List Bk} {words : Int} : Decidable (MayB l words) := by unfold MayB; infer_instance
def puAt (l : List Bk) : Nat → Bool
 | 0 => true
 | i + 1 => (l.getD i (0, 0, false)).2.2
theorem qdi {α : Type} {l : List α} {i : Nat} (hi : i < l.length) : l.drop i = l[i] :: l.drop (i + 1) := by
 rw [List.drop_eq_getElem_cons hi]
section
variable {H : AH}
theorem qr.s {x0 : Sl} {words : Int} {l : List Bk} {k : Bool → AH → Prop} (hr : qlC H x0 3 bkV l) (hl : l.length ≤ 100000) (hok : ∀ b ∈ l, 0 ≤ b.2.1 ∧ b.2.1 ≤ 100000) (hw : 0 ≤ words ∧ words ≤ 100000) (h : k (decide (MayB l words)) H) : qr x0 words H k := by
 refine gcB (decide (MayB l words)) (qr.link ?_) h
 unfold qr.b
 refine qau.s ?_
 by_cases hm : mayW words
 rotate_left 1
 ·rw [decide_eq_false hm, qlK, qf]
  exact ⟨qc.refl H, (decide_eq_false (fun hh : MayB l words => hm hh.1)).symm⟩
 rw [decide_eq_true hm, qlA, qa]
 refine qE (t := ((false, (0 : Int), (0 : Int)) : Bool × Int × Int)) (I := fun (t : Bool × Int × Int) H' => ∃ i : Nat, t.2.2 = (i : Int) ∧ i ≤ l.length ∧ qc H H' ∧ 0 ≤ t.2.1 ∧ t.2.1 ≤ words ∧ (MayB l words ↔ chainB words t.2.1 (puAt l i) (l.drop i))) (m := fun (t : Bool × Int × Int) _ => qlr ((l.length : Int) - t.2.2)) ?_ ⟨0, rfl, by omega, qc.refl H, by simp only; omega, by simp only; omega, ⟨fun hh => hh.2, fun hh => ⟨hm, hh⟩⟩⟩
 intro t H1 hI it hit
 obtain ⟨t1, pt, t3⟩ := t
 obtain ⟨i, e1, hi, hk, hp0, hp1, hiff⟩ := hI
 simp only at e1 hp0 hp1 hiff
 subst e1
 unfold qr.l2
 simp only [qi, decide_eq_true_eq, hr.1]
 by_cases hlt : (i : Int) < (l.length : Int)
 ·rw [if_pos hlt]
  have hi' : i < l.length := by omega
  obtain ⟨b, o, ha, hb, hcells⟩ := qam (hr.keep hk) (by omega)
  refine ⟨by omega, ?_⟩
  obtain ⟨hrow, _⟩ := hcells i l[i] (qln hi')
  have hq := hok _ (qlB hi')
  rw [ha, qd, qlp, qp hrow]
  rw [qdi hi'] at hiff
  have hpu : puAt l (i + 1) = l[i].2.2 := by simp [puAt, qlo, hi']
  generalize hqq : l[i] = q at *
  refine qbC (n := 3) rfl (bkV_len q) (bkV_ok q) ?_
  have hB : BkAt (H1.push ⟨bkV q, .rw, 0⟩) H1.size q := BkAt.new
  have hk2 : qc H (H1.push ⟨bkV q, .rw, 0⟩) := hk.push _
  have hc2 : ∀ j x, l[j]? = some x → AH.cell? (H1.push ⟨bkV q, .rw, 0⟩) (qlm (qlm ⟨b, o, none⟩ (j * 3)) 2) = some (.bool x.2.2) := fun j x hx => by
   have := (hcells j x hx).2 2 (.bool x.2.2) rfl
   rw [qk, qk] at this ⊢
   rw [AH.cell?, qO (by show b ≠ H1.size; omega)]
   exact this
  generalize H1.push ⟨bkV q, .rw, 0⟩ = H2 at *
  have no : ¬ chainB words pt (puAt l i) (q :: l.drop (i + 1)) → qr.j1 (fun r H' => qc H H' ∧ r = decide (MayB l words)) (t1, pt, (i : Int)) it H1.size true H2 := by
   intro hn
   unfold qr.j1
   rw [qf]
   exact ⟨hk2, (decide_eq_false (fun hh => hn (hiff.1 hh))).symm⟩
  simp only [hB.c0, qe]
  by_cases c1 : q.1 = pt
  rotate_left 1
  ·rw [if_pos (by simpa using c1)]; exact no (fun hh => c1 hh.1)
  rw [if_neg (by simpa using c1)]
  simp only [hB.c1, qe]
  refine qaU.s ?_
  by_cases c2 : mayS q.2.1
  rotate_left 1
  ·rw [decide_eq_false c2, if_pos (by simp)]; exact no (fun hh => c2 hh.2.1)
  rw [decide_eq_true c2, if_neg (by simp), hB.c1, qe, qg (n := words - pt) (by omega) (by omega)]
  by_cases c3 : q.2.1 > words - pt
  ·rw [if_pos c3]; exact no (fun hh => by have := hh.2.2.1; omega)
  rw [if_neg c3]
  have fin : ∀ x, (x = true ↔ ¬ (puAt l i = true ∨ q.2.2 = true)) → qr.j1 (fun r H' => qc H H' ∧ r = decide (MayB l words)) (t1, pt, (i : Int)) it H1.size x H2 := by
   intro x hx
   cases x with
   | true => exact no (fun hh => (hx.1 rfl) hh.2.2.2.1)
   | false =>
    have hor : puAt l i = true ∨ q.2.2 = true := by
     by_cases hh : puAt l i = true ∨ q.2.2 = true
     ·exact hh
     ·exact absurd (hx.2 hh) (by simp)
    unfold qr.j1
    rw [qa, hB.c1, qe, qg (n := pt + q.2.1) (by omega) (by omega), qg (n := (i : Int) + 1) (by omega) (by omega)]
    refine hit _ _ ⟨i + 1, by simp, by omega, hk2, by simp only; omega, by simp only; omega, ?_⟩ (by simp only; omega)
    simp only
    rw [hpu, hiff]
    exact ⟨fun hh => hh.2.2.2.2, fun hh => ⟨c1, c2, by omega, hor, hh⟩⟩
  by_cases c4 : (i : Int) > 0
  ·rw [if_pos c4, hB.c2, qaW]
   by_cases c5 : q.2.2 = true
   ·rw [c5, if_neg (by simp)]
    exact fin false (by simp [c5])
   ·have c5' : q.2.2 = false := by simpa using c5
    rw [c5', if_pos (by simp), qg (n := (i : Int) - 1) (by omega) (by omega)]
    refine ⟨by omega, ?_⟩
    obtain ⟨i', rfl⟩ : ∃ i', i = i' + 1 := ⟨i - 1, by omega⟩
    have e : (((i' + 1 : Nat) : Int) - 1).toNat = i' := by omega
    rw [qd, e, hc2 i' l[i'] (qln (by omega)), qaW]
    have hpu' : puAt l (i' + 1) = l[i'].2.2 := by simp [puAt, qlo, show i' < l.length by omega]
    refine fin _ ?_
    rw [hpu', c5']
    simp
  ·rw [if_neg c4]
   have : i = 0 := by omega
   subst this
   exact fin false (by simp [puAt])
 ·rw [if_neg hlt]
  have : i = l.length := by omega
  subst this
  refine ⟨hk, ?_⟩
  rw [qmI] at hiff
  by_cases hpw : pt = words
  ·rw [decide_eq_true (hiff.2 hpw)]; simpa using hpw
  ·rw [decide_eq_false (fun hh => hpw (hiff.1 hh))]; simpa using hpw
def blkFrom (ws : List Int) (pt : Nat) : Option (List Bk) :=
 if h : pt < ws.length then
  if h2 : mayS (ws.getD pt 0 / 2) then (blkFrom ws (pt + (ws.getD pt 0 / 2).toNat)).map (((pt : Int), ws.getD pt 0 / 2, (ws.getD pt 0 % 2 == 1)) :: ·) else none
 else some []
termination_by ws.length - pt
decreasing_by unfold mayS at h2; omega
theorem qc4 (ws : List Int) (pt : Nat) : blkFrom ws pt = if h : pt < ws.length then
  if h2 : mayS (ws.getD pt 0 / 2) then (blkFrom ws (pt + (ws.getD pt 0 / 2).toNat)).map (((pt : Int), ws.getD pt 0 / 2, (ws.getD pt 0 % 2 == 1)) :: ·) else none
 else some [] := by rw [blkFrom]
def blocksN (ws : List Int) : Option (List Bk) := (blkFrom ws 0).bind fun l => if MayB l ws.length then some l else none
theorem qbl {ws : List Int} {l : List Bk} (h : blocksN ws = some l) : MayB l ws.length := by
 unfold blocksN at h
 rw [Option.bind_eq_some_iff] at h
 obtain ⟨l', _, h2⟩ := h
 split at h2
 ·injection h2 with h2; subst h2; assumption
 ·cases h2
theorem qH.s {x0 : Sl} {ws : List Int} {k : Sl → Bool → AH → Prop} (hr : qlC H x0 1 wU ws) (h64 : qaE ws) (hl : ws.length ≤ 1000)
  (h1 : ∀ l, blocksN ws = some l → ∀ s H', qc H H' → Own H.size H' s 3 bkV l → k s true H') (h0 : blocksN ws = none → ∀ H', qc H H' → k ⟨none, 0, 0⟩ false H') : qH x0 H k := by
 refine qH.link ?_
 unfold qH.b
 refine qE (t := ((⟨none, 0, 0⟩, false, ⟨none, 0, 0⟩, (0 : Int)) : Sl × Bool × Sl × Int)) (I := fun (t : Sl × Bool × Sl × Int) H' => ∃ (pt : Nat) (acc : List Bk), t.2.2.2 = (pt : Int) ∧ pt ≤ ws.length + 512 ∧ 2 * acc.length ≤ pt ∧ qc H H' ∧ Own H.size H' t.2.2.1 3 bkV acc ∧ (∀ b ∈ acc, 0 ≤ b.2.1 ∧ b.2.1 ≤ 100000) ∧ blkFrom ws 0 = (blkFrom ws pt).map (acc ++ ·)) (m := fun (t : Sl × Bool × Sl × Int) _ => qlr ((ws.length : Int) - t.2.2.2)) ?_
  ⟨0, [], rfl, by omega, by simp, qc.refl H, .inl ⟨rfl, rfl⟩, by simp, by simp⟩
 intro t H1 hI it hit
 obtain ⟨u1, u2, u3, u4⟩ := t
 obtain ⟨pt, acc, e1, hp, ha, hk, hO, hok, hb⟩ := hI
 simp only at e1 hO
 subst e1
 unfold qH.l2
 simp only [qi, decide_eq_true_eq, hr.1]
 by_cases hlt : (pt : Int) < (ws.length : Int)
 ·rw [if_pos hlt]
  have hlt' : pt < ws.length := by omega
  obtain ⟨b1, o1, ha1, _, hc1⟩ := qbG (g := fun v => qlk .u64 v) (hr.keep hk) (i := pt) hlt'
  refine ⟨by omega, ?_⟩
  rw [ha1, qd, qlp, hc1, qe]
  have hg : ws.getD pt 0 = ws[pt] := by rw [qlo, qln hlt']; rfl
  have hv : isU ws[pt] := h64 _ (qlB hlt')
  rw [qc4 ws pt, dif_pos hlt', hg] at hb
  generalize ws[pt] = v at *
  refine qar.s hv ?_ ?_
  ·intro hm
   rw [dif_pos hm] at hb
   have hm' := hm
   unfold mayS at hm'
   rw [if_neg (by simp)]
   refine ⟨rfl, ?_⟩
   rw [qv]
   have hbk : [qlk .i64 (pt : Int), qlk .i64 (v / 2), qlW (v % 2 == 1)] = bkV ((pt : Int), v / 2, (v % 2 == 1)) := rfl
   rw [hbk]
   refine qbh (H0 := H) (B := H.size) (f := bkV) (x := ((pt : Int), v / 2, (v % 2 == 1))) (l := acc) bkV_len (bkV_ok _) hO (qlu _) hk.1 hk (by simp only [lim]; omega) ?_
   intro s' H' hO' hK' _ _
   have e2 : (pt : Int) + v / 2 = ((pt + (v / 2).toNat : Nat) : Int) := by omega
   rw [qg (n := (pt : Int) + v / 2) (by omega) (by omega), e2]
   refine hit _ _ ⟨pt + (v / 2).toNat, acc ++ [((pt : Int), v / 2, (v % 2 == 1))], rfl, by omega, by simp; omega, hK', hO', ?_, ?_⟩ (by simp only; omega)
   ·intro b hb'
    rw [qlD] at hb'
    rcases hb' with hb' | hb'
    ·exact hok b hb'
    ·simp at hb'; subst hb'; simp only; omega
   ·rw [hb, Option.map_map]
    congr 1
    funext r
    simp
  ·intro hm
   rw [dif_neg hm] at hb
   rw [if_pos (by simp)]
   refine h0 ?_ _ hk
   unfold blocksN
   rw [hb]; rfl
 ·rw [if_neg hlt]
  have hb' : blkFrom ws 0 = some acc := by
   rw [hb, qc4 ws pt, dif_neg (by omega)]
   simp
  unfold qH.j1
  rw [hr.1]
  refine qr.s (hO.rows bkV_len bkV_ok) (by omega) hok (by omega) ?_
  by_cases hm : MayB acc (ws.length : Int)
  ·rw [decide_eq_true hm, qlA, qa]
   refine h1 acc ?_ _ _ hk hO
   unfold blocksN
   rw [hb', qmH, if_pos hm]
  ·rw [decide_eq_false hm, qlK, qf]
   refine h0 ?_ _ hk
   unfold blocksN
   rw [hb', qmH, if_neg hm]
theorem chainB.le {words : Int} : ∀ {l : List Bk} {pt : Int} {pu : Bool}, chainB words pt pu l → pt + 2 * l.length ≤ words := by
 intro l
 induction l with
 | nil => intro pt pu h; simp only [chainB] at h; simp; omega
 | cons b r ih =>
  intro pt pu h
  have := ih h.2.2.2.2
  have := h.2.1
  unfold mayS at this
  simp only [qlE]; omega
theorem chainB.mem {words : Int} : ∀ {l : List Bk} {pt : Int} {pu : Bool}, chainB words pt pu l → ∀ b ∈ l, pt ≤ b.1 ∧ b.1 + b.2.1 ≤ words ∧ mayS b.2.1 := by
 intro l
 induction l with
 | nil => intro pt pu h b hb; cases hb
 | cons a r ih =>
  intro pt pu h b hb
  have hs := h.2.1
  unfold mayS at hs
  rw [qlL] at hb
  rcases hb with rfl | hb
  ·have := h.2.2.1; have := h.1; exact ⟨by omega, by omega, h.2.1⟩
  ·have := ih h.2.2.2.2 b hb; exact ⟨by omega, this.2⟩
theorem MayB.len {l : List Bk} {words : Int} (h : MayB l words) : 2 * (l.length : Int) ≤ words ∧ words ≤ 512 := by
 have := h.2.le; have := h.1.2.1; omega
theorem MayB.mem {l : List Bk} {words : Int} (h : MayB l words) {b : Bk} (hb : b ∈ l) : 0 ≤ b.1 ∧ b.1 + b.2.1 ≤ words ∧ 2 ≤ b.2.1 ∧ b.2.1 ≤ 512 := by
 have := h.2.mem b hb; have h2 := this.2.2; unfold mayS at h2; omega
theorem qV.s {x0 : Sl} {words : Int} {l : List Bk} {k : Int → AH → Prop} (hr : qlC H x0 3 bkV l) (hB : MayB l words) (h : k words H) : qV x0 H k := by
 have hlen := hB.len
 refine gcI (j := .i64) words (qV.link ?_) h
 unfold qV.b
 refine qE (t := (((0 : Int), (0 : Int), (0 : Int)) : Int × Int × Int)) (I := fun (t : Int × Int × Int) H' => ∃ i : Nat, ∃ pu, t.2.2 = (i : Int) ∧ i ≤ l.length ∧ qc H H' ∧ 0 ≤ t.2.1 ∧ t.2.1 ≤ words ∧ chainB words t.2.1 pu (l.drop i)) (m := fun (t : Int × Int × Int) _ => qlr ((l.length : Int) - t.2.2)) ?_ ⟨0, true, rfl, by omega, qc.refl H, by simp, by simp only; omega, hB.2⟩
 intro t H1 hI it hit
 obtain ⟨t1, pt, t3⟩ := t
 obtain ⟨i, pu, e1, hi, hk, hp0, hp1, hch⟩ := hI
 simp only at e1 hp0 hp1 hch
 subst e1
 unfold qV.l2
 simp only [qi, decide_eq_true_eq, hr.1]
 by_cases hlt : (i : Int) < (l.length : Int)
 ·rw [if_pos hlt]
  have hi' : i < l.length := by omega
  obtain ⟨b, o, ha, hb, hcells⟩ := qam (hr.keep hk) (by omega)
  refine ⟨by omega, ?_⟩
  obtain ⟨hrow, _⟩ := hcells i l[i] (qln hi')
  rw [ha, qd, qlp, qp hrow]
  rw [qdi hi'] at hch
  generalize l[i] = q at *
  refine qbC (n := 3) rfl (bkV_len q) (bkV_ok q) ?_
  have hB : BkAt (H1.push ⟨bkV q, .rw, 0⟩) H1.size q := BkAt.new
  have hk2 : qc H (H1.push ⟨bkV q, .rw, 0⟩) := hk.push _
  generalize H1.push ⟨bkV q, .rw, 0⟩ = H2 at *
  have hs := hch.2.1
  unfold mayS at hs
  have hle := hch.2.2.1
  simp only [hB.c1, qe]
  rw [if_neg (by omega)]
  unfold qV.j1
  rw [decide_eq_false (show ¬ q.2.1 > 1000 by omega), qa, hB.c1, qe, qg (n := pt + q.2.1) (by omega) (by omega), qg (n := (i : Int) + 1) (by omega) (by omega)]
  exact hit _ _ ⟨i + 1, q.2.2, by simp, by omega, hk2, by simp only; omega, by simp only; omega, hch.2.2.2.2⟩ (by simp only; omega)
 ·rw [if_neg hlt]
  have : i = l.length := by omega
  subst this
  rw [qmI] at hch
  exact ⟨hk, hch⟩
end
def nV (i : Nat) : List Value := [.int .i64 (i : Int)]
def bkAt (l : List Bk) (i : Nat) : Bk := l.getD i (0, 0, false)
def fitStep (l : List Bk) (need : Int) (out : List Nat) (i : Nat) : List Nat :=
 if (bkAt l i).2.2 = true ∨ (bkAt l i).2.1 < need then out else
 let out1 := if 0 < out.length ∧ (bkAt l (out.getD 0 0)).2.1 > (bkAt l i).2.1 then [] else out
 if out1.length = 0 ∨ (bkAt l (out1.getD 0 0)).2.1 = (bkAt l i).2.1 then out1 ++ [i] else out1
def fitsTo (l : List Bk) (need : Int) (j : Nat) : List Nat := (qma j).foldl (fitStep l need) []
def fitsL (l : List Bk) (need : Int) : List Nat := if need < 2 then [] else fitsTo l need l.length
theorem qd7 (l : List Bk) (need : Int) (j : Nat) : fitsTo l need (j + 1) = fitStep l need (fitsTo l need j) j := by
 unfold fitsTo; rw [qmq, List.foldl_append]; rfl
theorem qiK {l : List Bk} {need : Int} {out : List Nat} {i j : Nat} (h : j ∈ fitStep l need out i) : j ∈ out ∨ (j = i ∧ (bkAt l i).2.2 = false ∧ need ≤ (bkAt l i).2.1) := by
 unfold fitStep at h
 split at h
 ·exact .inl h
 ·rename_i h1
  simp only at h
  have h3 : (bkAt l i).2.2 = false ∧ need ≤ (bkAt l i).2.1 := by
   constructor
   ·cases hh : (bkAt l i).2.2
    ·rfl
    ·exact absurd (.inl hh) h1
   ·exact Int.not_lt.1 fun hh => h1 (.inr hh)
  have hsub : ∀ x, x ∈ (if 0 < out.length ∧ (bkAt l (out.getD 0 0)).2.1 > (bkAt l i).2.1 then [] else out) → x ∈ out := by
   intro x hx
   split at hx
   ·cases hx
   ·exact hx
  generalize (if 0 < out.length ∧ (bkAt l (out.getD 0 0)).2.1 > (bkAt l i).2.1 then [] else out) = o1 at h hsub
  split at h
  ·rw [qlD] at h
   rcases h with h | h
   ·exact .inl (hsub _ h)
   ·simp at h; exact .inr ⟨h, h3⟩
  ·exact .inl (hsub _ h)
theorem qdt {l : List Bk} {need : Int} : ∀ {j i : Nat}, i ∈ fitsTo l need j → i < j ∧ (bkAt l i).2.2 = false ∧ need ≤ (bkAt l i).2.1 := by
 intro j
 induction j with
 | zero => intro i h; cases h
 | succ j ih =>
  intro i h
  rw [qd7] at h
  rcases qiK h with h | ⟨rfl, h⟩
  ·have := ih h; exact ⟨by omega, this.2⟩
  ·exact ⟨by omega, h⟩
theorem qdS {l : List Bk} {need : Int} : ∀ {j : Nat}, (fitsTo l need j).length ≤ j := by
 intro j
 induction j with
 | zero => exact qlu _
 | succ j ih =>
  rw [qd7]
  unfold fitStep
  split
  ·omega
  ·simp only
   have hx : (if 0 < (fitsTo l need j).length ∧ (bkAt l ((fitsTo l need j).getD 0 0)).2.1 > (bkAt l j).2.1 then [] else fitsTo l need j).length ≤ j := by
    split
    ·exact qmp _
    ·exact ih
   generalize (if 0 < (fitsTo l need j).length ∧ (bkAt l ((fitsTo l need j).getD 0 0)).2.1 > (bkAt l j).2.1 then [] else fitsTo l need j) = o1 at *
   split
   ·rw [ql5]; simp only [qlE, qmv]; omega
   ·omega
theorem qas {l : List Bk} {i : Nat} (hi : i < l.length) : l[i]? = some (bkAt l i) := by
 unfold bkAt; rw [qlo, qln hi]; rfl
def countN (pt : Int) (cs : List Int) : Int := if pt < 0 ∨ (cs.length : Int) ≤ pt / 32 then 0 else cs.getD (pt / 32).toNat 0
def chStep (l : List Bk) (cs : List Int) (best : Int) (i : Nat) : Int :=
 if best < 0 ∨ countN (bkAt l i).1 cs < countN (bkAt l best.toNat).1 cs ∨ (countN (bkAt l i).1 cs = countN (bkAt l best.toNat).1 cs ∧ (bkAt l i).1 < (bkAt l best.toNat).1) then (i : Int) else best
def chooseN (l : List Bk) (need : Int) (cs : List Int) : Int := (fitsL l need).foldl (chStep l cs) (-1)
theorem qei {l : List Bk} {cs : List Int} : ∀ {f : List Nat} {b : Int}, f.foldl (chStep l cs) b = b ∨ ∃ i ∈ f, f.foldl (chStep l cs) b = (i : Int) := by
 intro f
 induction f with
 | nil => intro b; exact .inl rfl
 | cons a r ih =>
  intro b
  simp only [List.foldl_cons]
  rcases ih (b := chStep l cs b a) with h | ⟨i, hi, h⟩
  ·rw [h]
   unfold chStep
   split
   ·exact .inr ⟨a, by simp, rfl⟩
   ·exact .inl rfl
  ·exact .inr ⟨i, by simp [hi], h⟩
theorem qd3 {l : List Bk} {need : Int} {cs : List Int} : chooseN l need cs = -1 ∨ ∃ i : Nat, chooseN l need cs = (i : Int) ∧ i < l.length ∧ (bkAt l i).2.2 = false ∧ need ≤ (bkAt l i).2.1 ∧ 2 ≤ need := by
 unfold chooseN
 rcases qei (l := l) (cs := cs) (f := fitsL l need) (b := -1) with h | ⟨i, hi, h⟩
 ·exact .inl h
 ·unfold fitsL at hi
  split at hi
  ·cases hi
  ·obtain ⟨h1, h2, h3⟩ := qdt hi
   exact .inr ⟨i, h, h1, h2, h3, by omega⟩
section
variable {H : AH}
theorem qx.s {x0 : Sl} {need : Int} {l : List Bk} {k : Sl → AH → Prop} (hr : qlC H x0 3 bkV l) (hl : l.length ≤ 100000)
  (h : ∀ s H', qc H H' → Own H.size H' s 1 nV (fitsL l need) → k s H') : qx x0 need H k := by
 refine qx.link ?_
 unfold qx.b
 simp only [qi, decide_eq_true_eq]
 by_cases hn : need < 2
 ·rw [if_pos hn]
  exact h _ _ (qc.refl H) (by unfold fitsL; rw [if_pos hn]; exact .inl ⟨rfl, rfl⟩)
 rw [if_neg hn]
 refine qE (t := ((⟨none, 0, 0⟩, (0 : Int)) : Sl × Int)) (I := fun (t : Sl × Int) H' => ∃ i : Nat, t.2 = (i : Int) ∧ i ≤ l.length ∧ qc H H' ∧ Own H.size H' t.1 1 nV (fitsTo l need i)) (m := fun (t : Sl × Int) _ => qlr ((l.length : Int) - t.2)) ?_ ⟨0, rfl, by omega, qc.refl H, .inl ⟨rfl, rfl⟩⟩
 intro t H1 hI it hit
 obtain ⟨s, t2⟩ := t
 obtain ⟨i, e1, hi, hk, hO⟩ := hI
 simp only at e1 hO
 subst e1
 unfold qx.l5
 simp only [qi, decide_eq_true_eq, hr.1]
 by_cases hlt : (i : Int) < (l.length : Int)
 ·rw [if_pos hlt]
  have hi' : i < l.length := by omega
  obtain ⟨b, o, ha, hb, hcells⟩ := qam (hr.keep hk) (by omega)
  refine ⟨by omega, ?_⟩
  have hgi := qas hi'
  obtain ⟨hrow, _⟩ := hcells i _ hgi
  rw [ha, qd, qlp, qp hrow]
  have hstep := qd7 l need i
  unfold fitStep at hstep
  simp only at hstep
  have hmem : ∀ j, j ∈ fitsTo l need i → j < l.length := fun j hj => by have := (qdt hj).1; omega
  have hlen := qdS (l := l) (need := need) (j := i)
  generalize hq : bkAt l i = q at *
  generalize fitsTo l need i = out at *
  refine qbC (n := 3) rfl (bkV_len q) (bkV_ok q) ?_
  have hB : BkAt (H1.push ⟨bkV q, .rw, 0⟩) H1.size q := BkAt.new
  have hk2 : qc H (H1.push ⟨bkV q, .rw, 0⟩) := hk.push _
  have hO2 : Own H.size (H1.push ⟨bkV q, .rw, 0⟩) s 1 nV out := hO.keep (by simp [qm]) (fun b _ hb => qO (by omega))
  have hcs : ∀ j x, l[j]? = some x → AH.cell? (H1.push ⟨bkV q, .rw, 0⟩) (qlm (qlm ⟨b, o, none⟩ (j * 3)) 1) = some (.int .i64 x.2.1) := fun j x hx => by
   have := (hcells j x hx).2 1 (.int .i64 x.2.1) rfl
   rw [qk, qk] at this ⊢
   rw [AH.cell?, qO (by show b ≠ H1.size; omega)]
   exact this
  generalize H1.push ⟨bkV q, .rw, 0⟩ = H2 at *
  have hwi : qll .i64 ((i : Int) + 1) = ((i + 1 : Nat) : Int) := by rw [qg (by omega) (by omega)]; omega
  have next : ∀ s' H', qc H H' → Own H.size H' s' 1 nV (fitsTo l need (i + 1)) → it (s', ((i + 1 : Nat) : Int)) H' := fun s' H' a b => hit _ _ ⟨i + 1, rfl, by omega, a, b⟩ (by simp only; omega)
  have oN : ∀ {s' : Sl} {o' : List Nat}, Own H.size H2 s' 1 nV o' → s'.n = o'.length := fun h => own_n h
  have j2 : ∀ (s' : Sl) (o' : List Nat), Own H.size H2 s' 1 nV o' → (∀ j, j ∈ o' → j < l.length) → o'.length ≤ i → fitsTo l need (i + 1) = (if o'.length = 0 ∨ (bkAt l (o'.getD 0 0)).2.1 = q.2.1 then o' ++ [i] else o') → qx.j2 x0 (s, (i : Int)) it H1.size H2 s' := by
   intro s' o' hO' hm' hl' hst
   have j1 : ∀ x : Bool, (x = true ↔ (o'.length = 0 ∨ (bkAt l (o'.getD 0 0)).2.1 = q.2.1)) → qx.j1 (s, (i : Int)) it H2 s' x := by
    intro x hx
    unfold qx.j1
    rw [hwi, qi]
    by_cases hx' : x = true
    ·rw [if_pos hx', qv]
     rw [if_pos (hx.1 hx')] at hst
     refine qbh (H0 := H) (B := H.size) (f := nV) (x := i) (l := o') (fun _ => rfl) rfl hO' (qlu _) hk2.1 hk2 (by simp only [lim]; omega) ?_
     intro s'' H' hO'' hK' _ _
     rw [← hst] at hO''
     exact next _ _ hK' hO''
    ·rw [if_neg hx']
     rw [if_neg (fun hh => hx' (hx.2 hh))] at hst
     refine next _ _ hk2 ?_
     rw [hst]; exact hO'
   unfold qx.j2
   simp only [qi, oN hO']
   by_cases h0 : o'.length = 0
   ·rw [if_pos (by simpa using h0)]
    exact j1 true (by simp [h0])
   ·rw [if_neg (by simpa using h0)]
    have hg0 : o'[0]? = some (o'.getD 0 0) := by rw [qlo, qln (by omega)]; rfl
    have hmem0 := hm' (o'.getD 0 0) (qlx hg0)
    obtain ⟨b0, ha0, _, _, hc0⟩ := hO'.cell (fun _ => rfl) hg0 (j := 0) (by omega)
    refine ⟨by omega, ?_⟩
    rw [ha0, qd, qk, show AH.cell? H2 ⟨b0, 0 + qlr 0 * 1, none⟩ = some (.int .i64 ((o'.getD 0 0 : Nat) : Int)) from hc0, qe, hr.1]
    refine ⟨by omega, ?_⟩
    rw [ha, qd, qlp, hcs _ _ (qas hmem0), qe, hB.c1, qe]
    refine j1 _ ?_
    simp [h0]
  have j4 : ∀ x : Bool, (x = true ↔ (q.2.2 = true ∨ q.2.1 < need)) → qx.j4 x0 (s, (i : Int)) it H1.size H2 x := by
   intro x hx
   unfold qx.j4
   rw [hwi]
   simp only [qi, decide_eq_true_eq]
   by_cases hx' : x = true
   ·rw [if_pos hx']
    rw [if_pos (hx.1 hx')] at hstep
    exact next _ _ hk2 (by rw [hstep]; exact hO2)
   ·rw [if_neg hx']
    rw [if_neg (fun hh => hx' (hx.2 hh))] at hstep
    have j3 : ∀ y : Bool, (y = true ↔ (0 < out.length ∧ (bkAt l (out.getD 0 0)).2.1 > q.2.1)) → qx.j3 x0 (s, (i : Int)) it H1.size H2 y := by
     intro y hy
     unfold qx.j3
     rw [qi]
     by_cases hy' : y = true
     ·rw [if_pos hy']
      rw [if_pos (hy.1 hy')] at hstep
      exact j2 _ [] (.inl ⟨rfl, rfl⟩) (fun j hj => by cases hj) (qmp _) hstep
     ·rw [if_neg hy']
      rw [if_neg (fun hh => hy' (hy.2 hh))] at hstep
      exact j2 _ out hO2 hmem hlen hstep
    rw [oN hO2]
    by_cases h0 : (out.length : Int) > 0
    ·rw [if_pos h0]
     have hg0 : out[0]? = some (out.getD 0 0) := by rw [qlo, qln (by omega)]; rfl
     have hmem0 := hmem (out.getD 0 0) (qlx hg0)
     obtain ⟨b0, ha0, _, _, hc0⟩ := hO2.cell (fun _ => rfl) hg0 (j := 0) (by omega)
     refine ⟨by omega, ?_⟩
     rw [ha0, qd, qk, show AH.cell? H2 ⟨b0, 0 + qlr 0 * 1, none⟩ = some (.int .i64 ((out.getD 0 0 : Nat) : Int)) from hc0, qe, hr.1]
     refine ⟨by omega, ?_⟩
     rw [ha, qd, qlp, hcs _ _ (qas hmem0), qe, hB.c1, qe]
     refine j3 _ ?_
     rw [decide_eq_true_eq]
     exact ⟨fun hh => ⟨by omega, hh⟩, fun hh => hh.2⟩
    ·rw [if_neg h0]
     refine j3 false ?_
     constructor
     ·intro hh; cases hh
     ·intro hh; omega
  simp only [hB.c2, qaW]
  by_cases hu : q.2.2 = true
  ·rw [if_pos hu]; exact j4 true (by simp [hu])
  ·rw [if_neg hu, hB.c1, qe]
   refine j4 _ ?_
   rw [decide_eq_true_eq]
   exact ⟨fun hh => .inr hh, fun hh => hh.resolve_left hu⟩
 ·rw [if_neg hlt]
  have : i = l.length := by omega
  subst this
  exact h _ _ hk (by unfold fitsL; rw [if_neg hn]; exact hO)
theorem qR.s {pt : Int} {x1 : Sl} {cs : List Int} {k : Int → AH → Prop} (hr : qlC H x1 1 iV cs) (hp : pt ≤ 100000) (h : k (countN pt cs) H) : qR pt x1 H k := by
 refine qR.link ?_
 unfold qR.b qR.j1
 unfold countN at h
 simp only [qi, decide_eq_true_eq, hr.1]
 by_cases h1 : pt < 0
 ·rw [if_pos h1, qf]; rw [if_pos (.inl h1)] at h; exact h
 rw [if_neg h1, qlY (by omega), qg (n := pt / 32) (by omega) (by omega)]
 refine ⟨by decide, ?_⟩
 by_cases h2 : pt / 32 ≥ (cs.length : Int)
 ·rw [if_pos h2]; rw [if_pos (.inr h2)] at h; exact h
 ·rw [if_neg h2]
  rw [if_neg (by omega)] at h
  obtain ⟨b, o, ha, _, hc⟩ := qbG (g := fun v => qlk .i64 v) hr (i := (pt / 32).toNat) (by omega)
  refine ⟨by decide, by omega, ?_⟩
  rw [ha, qd, hc, qe]
  rw [qlo, qln (show (pt / 32).toNat < cs.length by omega), qlV] at h
  exact h
theorem qQ.s {x0 x2 : Sl} {need : Int} {l : List Bk} {cs : List Int} {k : Int → AH → Prop} (hr : qlC H x0 3 bkV l) (hl : l.length ≤ 1000) (hok : ∀ b ∈ l, 0 ≤ b.1 ∧ b.1 ≤ 100000) (hcs : qlC H x2 1 iV cs)
  (h : k (chooseN l need cs) H) : qQ x0 need x2 H k := by
 refine gcI (j := .i64) (chooseN l need cs) (qQ.link ?_) h
 unfold qQ.b
 refine qx.s hr (by omega) ?_
 intro s12 H12 hk12 hO12
 have hr2 := hr.keep hk12
 have hcs2 := hcs.keep hk12
 have hRf := hO12.rows (fun _ => rfl) (fun _ => rfl)
 have hmem : ∀ j, j ∈ fitsL l need → j < l.length := fun j hj => by
  unfold fitsL at hj
  split at hj
  ·cases hj
  ·exact (qdt hj).1
 have hlen : (fitsL l need).length ≤ l.length := by
  unfold fitsL
  split
  ·exact qmp _
  ·exact qdS
 unfold chooseN
 generalize fitsL l need = f at *
 refine qE (t := (((-1 : Int), (0 : Int)) : Int × Int)) (I := fun (t : Int × Int) H' => ∃ i : Nat, t.2 = (i : Int) ∧ i ≤ f.length ∧ H' = H12 ∧ t.1 = (f.take i).foldl (chStep l cs) (-1)) (m := fun (t : Int × Int) _ => qlr ((f.length : Int) - t.2)) ?_ ⟨0, rfl, by omega, rfl, rfl⟩
 intro t H1 hI it hit
 obtain ⟨best, t2⟩ := t
 obtain ⟨i, e1, hi, rfl, e2⟩ := hI
 simp only at e1 e2
 subst e1
 unfold qQ.l2
 simp only [qi, decide_eq_true_eq, hRf.1]
 by_cases hlt : (i : Int) < (f.length : Int)
 ·rw [if_pos hlt]
  have hi' : i < f.length := by omega
  obtain ⟨b0, o0, ha0, _, hc0⟩ := qbG (g := fun v : Nat => qlk .i64 (v : Int)) hRf (i := i) hi'
  refine ⟨by omega, ?_⟩
  rw [ha0, qd, qlp, hc0, qe]
  have hfi := hmem _ (qlB hi')
  have htk : (f.take (i + 1)).foldl (chStep l cs) (-1) = chStep l cs best f[i] := by
   rw [qmB, qln hi', qmz, List.foldl_append, e2]; rfl
  have hbest : best = -1 ∨ ∃ b : Nat, best = (b : Int) ∧ b < l.length := by
   rw [e2]
   rcases qei (l := l) (cs := cs) (f := f.take i) (b := -1) with h | ⟨j, hj, h⟩
   ·exact .inl h
   ·exact .inr ⟨j, h, hmem j (List.mem_of_mem_take hj)⟩
  generalize f[i] = y at *
  have hwi : qll .i64 ((i : Int) + 1) = ((i + 1 : Nat) : Int) := by rw [qg (by omega) (by omega)]; omega
  have j1 : ∀ x : Bool, (x = true ↔ (best < 0 ∨ countN (bkAt l y).1 cs < countN (bkAt l best.toNat).1 cs ∨ (countN (bkAt l y).1 cs = countN (bkAt l best.toNat).1 cs ∧ (bkAt l y).1 < (bkAt l best.toNat).1))) → qQ.j1 (best, (i : Int)) it (y : Int) x H1 := by
   intro x hx
   unfold qQ.j1
   rw [hwi, qi]
   unfold chStep at htk
   by_cases hx' : x = true
   ·rw [if_pos hx']
    rw [if_pos (hx.1 hx')] at htk
    exact hit _ _ ⟨i + 1, rfl, by omega, rfl, htk.symm⟩ (by simp only; omega)
   ·rw [if_neg hx']
    rw [if_neg (fun hh => hx' (hx.2 hh))] at htk
    exact hit _ _ ⟨i + 1, rfl, by omega, rfl, htk.symm⟩ (by simp only; omega)
  rcases hbest with hb | ⟨bb, hb, hbl⟩
  ·rw [if_pos (by omega)]
   exact j1 true ⟨fun _ => .inl (by omega), fun _ => rfl⟩
  ·rw [if_neg (by omega), hr.1]
   subst hb
   rw [qlp] at j1
   obtain ⟨b, o, ha, hbz, hcells⟩ := qam hr2 (by omega)
   have hgy := qas hfi
   have hgb := qas hbl
   have cy : AH.cell? H1 (qlm (qlm ⟨b, o, none⟩ (y * 3)) 0) = some (.int .i64 (bkAt l y).1) := (hcells y _ hgy).2 0 _ rfl
   have cb : AH.cell? H1 (qlm (qlm ⟨b, o, none⟩ (bb * 3)) 0) = some (.int .i64 (bkAt l bb).1) := (hcells bb _ hgb).2 0 _ rfl
   have oy := (hok _ (qlx hgy)).2
   have ob := (hok _ (qlx hgb)).2
   generalize bkAt l y = qy at *
   generalize bkAt l bb = qb at *
   have rg : (0 ≤ (y : Int) ∧ (y : Int) < (l.length : Int)) ∧ (0 ≤ (bb : Int) ∧ (bb : Int) < (l.length : Int)) := by omega
   refine ⟨rg.1, ?_⟩
   simp only [ha, qd, qlp, cy, cb, qe]
   refine ⟨rg.2, ?_⟩
   refine qR.s hcs2 oy ⟨cb, ?_⟩
   refine qR.s hcs2 ob ?_
   by_cases c1 : countN qy.1 cs < countN qb.1 cs
   ·rw [if_pos c1]
    exact j1 true ⟨fun _ => .inr (.inl c1), fun _ => rfl⟩
   ·rw [if_neg c1]
    simp only [cy, cb, qe]
    refine ⟨rg.1, rg.2, ?_⟩
    refine qR.s hcs2 oy ⟨cb, ?_⟩
    refine qR.s hcs2 ob ?_
    by_cases c2 : countN qy.1 cs = countN qb.1 cs
    ·rw [if_pos (by simpa using c2)]
     simp only [cy, cb, qe]
     refine ⟨rg.1, rg.2, j1 _ ?_⟩
     rw [decide_eq_true_eq]
     exact ⟨fun hh => .inr (.inr ⟨c2, hh⟩), fun hh => by
      rcases hh with hh | hh | hh
      ·omega
      ·exact absurd hh c1
      ·exact hh.2⟩
    ·rw [if_neg (by simpa using c2)]
     refine j1 false ⟨fun hh => (by cases hh), fun hh => ?_⟩
     rcases hh with hh | hh | hh
     ·omega
     ·exact absurd hh c1
     ·exact absurd hh.1 c2
 ·rw [if_neg hlt]
  have : i = f.length := by omega
  subst this
  rw [qmh] at e2
  exact ⟨hk12, e2⟩
end
def isN (off : Int) : List Bk → Nat → Int
 | [], _ => -1
 | b :: r, i => if b.2.2 = true ∧ offN b.1 = off then (i : Int) else isN off r (i + 1)
theorem qdF (off : Int) : ∀ (l : List Bk) (i : Nat), isN off l i = -1 ∨ ∃ j : Nat, isN off l i = ((i + j : Nat) : Int) ∧ j < l.length ∧ (bkAt l j).2.2 = true ∧ offN (bkAt l j).1 = off := by
 intro l
 induction l with
 | nil => intro i; exact .inl rfl
 | cons b r ih =>
  intro i
  unfold isN
  split
  ·rename_i h; exact .inr ⟨0, rfl, by simp, h.1, h.2⟩
  ·rcases ih (i + 1) with h | ⟨j, h1, h2, h3⟩
   ·exact .inl h
   ·exact .inr ⟨j + 1, by rw [h1]; congr 1; omega, by simpa using h2, h3⟩
def inB (off n : Int) (b : Bk) : Prop := b.2.2 = true ∧ offN b.1 ≤ off ∧ off ≤ (b.1 + b.2.1) * 8 ∧ n ≤ (b.1 + b.2.1) * 8 - off
def withinN (l : List Bk) (off n : Int) : Prop := 0 ≤ n ∧ n ≤ 448 ∧ ∃ b ∈ l, inB off n b
theorem qjz (pt : Int) : 0 ≤ offN pt ∧ offN pt ≤ 4104 := by unfold offN; split <;> omega
section
variable {H : AH}
theorem qaS.s {x0 : Sl} {off : Int} {l : List Bk} {k : Int → AH → Prop} (hr : qlC H x0 3 bkV l) (hl : l.length ≤ 1000) (h : k (isN off l 0) H) : qaS x0 off H k := by
 refine gcI (j := .i64) (isN off l 0) (qaS.link ?_) h
 unfold qaS.b
 refine qE (t := (((0 : Int), (0 : Int)) : Int × Int)) (I := fun (t : Int × Int) H' => ∃ i : Nat, t.2 = (i : Int) ∧ i ≤ l.length ∧ qc H H' ∧ isN off l 0 = isN off (l.drop i) i) (m := fun (t : Int × Int) _ => qlr ((l.length : Int) - t.2)) ?_ ⟨0, rfl, by omega, qc.refl H, rfl⟩
 intro t H1 hI it hit
 obtain ⟨t1, t2⟩ := t
 obtain ⟨i, e1, hi, hk, he⟩ := hI
 simp only at e1
 subst e1
 unfold qaS.l1
 simp only [qi, decide_eq_true_eq, hr.1]
 by_cases hlt : (i : Int) < (l.length : Int)
 ·rw [if_pos hlt]
  have hi' : i < l.length := by omega
  obtain ⟨b, o, ha, hb, hcells⟩ := qam (hr.keep hk) (by omega)
  refine ⟨by omega, ?_⟩
  obtain ⟨hrow, _⟩ := hcells i l[i] (qln hi')
  rw [ha, qd, qlp, qp hrow]
  rw [qdi hi'] at he
  simp only [isN] at he
  generalize l[i] = q at *
  refine qbC (n := 3) rfl (bkV_len q) (bkV_ok q) ?_
  have hB : BkAt (H1.push ⟨bkV q, .rw, 0⟩) H1.size q := BkAt.new
  have hk2 : qc H (H1.push ⟨bkV q, .rw, 0⟩) := hk.push _
  generalize H1.push ⟨bkV q, .rw, 0⟩ = H2 at *
  simp only [hB.c2, qaW]
  rw [qp hB.row, qg (n := (i : Int) + 1) (by omega) (by omega)]
  have next : ¬ (q.2.2 = true ∧ offN q.1 = off) → it (t1, (i : Int) + 1) H2 := fun hn => by
   rw [if_neg hn] at he
   exact hit _ _ ⟨i + 1, by simp, by omega, hk2, he⟩ (by simp only; omega)
  by_cases hu : q.2.2 = true
  ·rw [if_pos hu]
   refine qY.s ?_
   by_cases ho : offN q.1 = off
   ·rw [if_pos (by simpa using ho)]
    rw [if_pos ⟨hu, ho⟩] at he
    exact ⟨hk2, he.symm⟩
   ·rw [if_neg (by simpa using ho)]
    exact next (fun hh => ho hh.2)
  ·rw [if_neg hu]; exact next (fun hh => hu hh.1)
 ·rw [if_neg hlt]
  have : i = l.length := by omega
  subst this
  rw [qmI] at he
  exact ⟨hk, he.symm⟩
theorem qP.s {x0 : Sl} {off n : Int} {l : List Bk} {k : Bool → AH → Prop} (hr : qlC H x0 3 bkV l) (hl : l.length ≤ 1000) (hok : ∀ b ∈ l, 0 ≤ b.1 ∧ b.1 ≤ 100000 ∧ 0 ≤ b.2.1 ∧ b.2.1 ≤ 100000)
  (h1 : withinN l off n → k true H) (h0 : ¬ withinN l off n → k false H) : qP x0 off n H k := by
 have main : ∀ v : Bool, (v = true ↔ withinN l off n) → qP x0 off n H k := by
  intro v hv
  refine gcB v (qP.link ?_) (by cases v; exact h0 (fun hh => by have := hv.2 hh; cases this); exact h1 (hv.1 rfl))
  unfold qP.b qP.j2
  simp only [qi, decide_eq_true_eq]
  have hf : ¬ withinN l off n → v = false := fun hh => by cases v; rfl; exact absurd (hv.1 rfl) hh
  by_cases c1 : n < 0
  ·rw [if_pos c1, qf]; exact ⟨qc.refl H, (hf (fun hh => by have := hh.1; omega)).symm⟩
  rw [if_neg c1]
  by_cases c2 : n > 448
  ·rw [if_pos c2]; exact ⟨qc.refl H, (hf (fun hh => by have := hh.2.1; omega)).symm⟩
  rw [if_neg c2]
  refine qE (t := ((false, (0 : Int)) : Bool × Int)) (I := fun (t : Bool × Int) H' => ∃ i : Nat, t.2 = (i : Int) ∧ i ≤ l.length ∧ qc H H' ∧ ∀ j, j < i → ¬ inB off n (bkAt l j)) (m := fun (t : Bool × Int) _ => qlr ((l.length : Int) - t.2)) ?_ ⟨0, rfl, by omega, qc.refl H, fun j hj => by omega⟩
  intro t H1 hI it hit
  obtain ⟨t1, t2⟩ := t
  obtain ⟨i, e1, hi, hk, he⟩ := hI
  simp only at e1
  subst e1
  unfold qP.l1
  simp only [qi, decide_eq_true_eq, hr.1]
  by_cases hlt : (i : Int) < (l.length : Int)
  ·rw [if_pos hlt]
   have hi' : i < l.length := by omega
   obtain ⟨b, o, ha, hb, hcells⟩ := qam (hr.keep hk) (by omega)
   refine ⟨by omega, ?_⟩
   have hgi := qas hi'
   obtain ⟨hrow, _⟩ := hcells i _ hgi
   have hq := hok _ (qlx hgi)
   have hmem := qlx hgi
   rw [ha, qd, qlp, qp hrow]
   generalize hqq : bkAt l i = q at *
   refine qbC (n := 3) rfl (bkV_len q) (bkV_ok q) ?_
   have hB : BkAt (H1.push ⟨bkV q, .rw, 0⟩) H1.size q := BkAt.new
   have hk2 : qc H (H1.push ⟨bkV q, .rw, 0⟩) := hk.push _
   generalize H1.push ⟨bkV q, .rw, 0⟩ = H2 at *
   simp only [hB.c0, hB.c1, hB.c2, qaW, qe]
   rw [qp hB.row, qg (n := (i : Int) + 1) (by omega) (by omega), qg (n := q.1 + q.2.1) (by omega) (by omega), qg (n := (q.1 + q.2.1) * 8) (by omega) (by omega)]
   have next : ¬ inB off n q → it (t1, (i : Int) + 1) H2 := fun hn => by
    refine hit _ _ ⟨i + 1, by simp, by omega, hk2, fun j hj => ?_⟩ (by simp only; omega)
    by_cases hji : j = i
    ·subst hji; rw [hqq]; exact hn
    ·exact he j (by omega)
   by_cases hu : q.2.2 = true
   ·rw [if_pos hu]
    refine qY.s ?_
    have hor := qjz q.1
    by_cases c3 : off ≥ offN q.1
    ·rw [if_pos c3]
     by_cases c4 : off ≤ (q.1 + q.2.1) * 8
     ·rw [if_pos c4, qg (n := (q.1 + q.2.1) * 8 - off) (by omega) (by omega)]
      by_cases c5 : n ≤ (q.1 + q.2.1) * 8 - off
      ·rw [if_pos c5]
       exact ⟨hk2, (hv.2 ⟨by omega, by omega, q, hmem, hu, c3, c4, c5⟩).symm⟩
      ·rw [if_neg c5]; exact next (fun hh => c5 hh.2.2.2)
     ·rw [if_neg c4]; exact next (fun hh => c4 hh.2.2.1)
    ·rw [if_neg c3]; exact next (fun hh => c3 hh.2.1)
   ·rw [if_neg hu]; exact next (fun hh => hu hh.1)
  ·rw [if_neg hlt]
   have : i = l.length := by omega
   subst this
   refine ⟨hk, (hf ?_).symm⟩
   rintro ⟨_, _, b, hb, hin⟩
   obtain ⟨j, hj, e⟩ := List.getElem_of_mem hb
   have hg := qas hj
   rw [qln hj] at hg
   injection hg with hg
   exact he j hj (by rw [← hg, e]; exact hin)
 by_cases hw : withinN l off n
 ·exact main true ⟨fun _ => hw, fun _ => rfl⟩
 ·exact main false ⟨fun hh => (by cases hh), fun hh => absurd hh hw⟩
end
def carveTo (pt tk : Int) (j : Nat) : List (Int × Int) := (pt, wordN tk true) :: (qma (j - 1)).map fun (t : Nat) => (pt + ((t : Int) + 1), (0 : Int))
def carveE (b : Bk) (need : Int) : List (Int × Int) :=
 carveTo b.1 (takesN b.2.1 need) (takesN b.2.1 need).toNat ++ (if takesN b.2.1 need < b.2.1 then [(b.1 + takesN b.2.1 need, wordN (b.2.1 - takesN b.2.1 need) false)] else [])
theorem qeA (pt tk : Int) {j : Nat} (hj : 1 ≤ j) : carveTo pt tk (j + 1) = carveTo pt tk j ++ [(pt + (j : Int), 0)] := by
 unfold carveTo
 obtain ⟨i, rfl⟩ : ∃ i, j = i + 1 := ⟨j - 1, by omega⟩
 simp only [Nat.add_sub_cancel, qmq, qmQ, qmj, List.map_nil, ql3]
 congr 2
theorem eU_len (x : Int × Int) : (eU x).length = 2 := rfl
theorem eU_ok (x : Int × Int) : (eU x).all qq = true := rfl
section
variable {H : AH}
theorem qcd {H' : AH} {b : Nat} {a : Nat} {i j : Nat} (hk : qc H H') (hb : b < H.size) (v : Option Value) (h : AH.cell? H (qlm (qlm ⟨b, a, none⟩ i) j) = v) : AH.cell? H' (qlm (qlm ⟨b, a, none⟩ i) j) = v := by
 rw [qk, qk] at h ⊢
 rw [← h]
 simp only [AH.cell?, hk.2 b hb]
theorem qhV {α : Type} {o z : Nat} {f : α → List Value} {x : α} (hf : ∀ x, (f x).length = z) (hc : ∀ x, (f x).all qq = true) (hb : o < H.size) (hg : H.get o = ⟨f x, .rw, z⟩) : qlC H ⟨some ⟨o, 0, none⟩, 1, 1⟩ z f [x] :=
 Own.rows (B := 0) (.inr ⟨o, rfl, qmp _, hb, by rw [hg]; simp⟩) hf hc
theorem qK.s {x0 : Sl} {need words : Int} {l : List Bk} {i : Nat} {k : Sl → Bool → AH → Prop} (hr : qlC H x0 3 bkV l) (hB : MayB l words) (hi : i < l.length) (hu : (bkAt l i).2.2 = false) (hn : 2 ≤ need ∧ need ≤ (bkAt l i).2.1)
  (h : ∀ s H', qc H H' → k s true H') : qK x0 (i : Int) need H k := by
 have hlen := hB.len
 have hgi := qas hi
 have hm := hB.mem (qlx hgi)
 refine qK.link ?_
 unfold qK.b
 refine qV.s hr hB ?_
 refine qr.s hr (by omega) (fun b hb => by have := hB.mem hb; omega) (by have := hB.1; unfold mayW at this; omega) ?_
 rw [decide_eq_true hB, qlA, qa]
 obtain ⟨b, o, ha, hb, hcells⟩ := qam hr (by omega)
 obtain ⟨hrow, hcell⟩ := hcells i _ hgi
 have c0 := hcell 0 _ rfl
 have c1 := hcell 1 _ rfl
 have c2 := hcell 2 _ rfl
 generalize bkAt l i = q at *
 have hti : qlr (i : Int) = i := qlp i
 have htk : takesN q.2.1 need ≠ 0 ∧ 2 ≤ takesN q.2.1 need ∧ takesN q.2.1 need ≤ q.2.1 := by
  unfold takesN; rw [if_pos ⟨hn.1, hn.2⟩]; split <;> omega
 simp only [qi, decide_eq_true_eq, hr.1, ha, qd, hti, c1, c2, qaW, qe]
 rw [if_neg (by omega), if_neg (by omega)]
 refine ⟨by omega, ?_⟩
 rw [hu, if_neg (by simp)]
 refine ⟨by omega, ?_⟩
 refine qao.s (by omega) (by omega) ?_
 unfold qK.j2
 rw [show (takesN q.2.1 need == 0) = false by simp [htk.1], qa, hr.1]
 refine ⟨by omega, ?_⟩
 simp only [ha, qd, hti, c1, qe, qi, decide_eq_true_eq]
 refine qao.s (by omega) (by omega) ?_
 refine ⟨by omega, by omega, ?_⟩
 generalize takesN q.2.1 need = tk at *
 rw [c0, qe]
 refine ⟨rfl, ?_⟩
 rw [qv]
 have e1 : [qlk .i64 q.1, qlk .i64 tk, qlW true] = bkV (q.1, tk, true) := rfl
 rw [e1]
 have hk1 : qc H (H.push ⟨bkV (q.1, tk, true), .rw, 3⟩) := (qc.refl H).push _
 have g1 : (H.push ⟨bkV (q.1, tk, true), .rw, 3⟩).get H.size = ⟨bkV (q.1, tk, true), .rw, 3⟩ := by rw [qs, if_pos rfl]
 have s1 : H.size < (H.push ⟨bkV (q.1, tk, true), .rw, 3⟩).size := by simp [qm]
 generalize H.push ⟨bkV (q.1, tk, true), .rw, 3⟩ = H1 at *
 have l1 : l.length ≤ 256 := by omega
 have rt := qem (hr.keep hk1) (k := i) (by omega)
 rw [ha] at rt
 refine qct (H0 := H1) (B := H1.size) (l := []) bkV_len bkV_ok (.inl ⟨rfl, rfl⟩) rt (qlu _) (qlu _) (qc.refl H1) (by simp [lim]; omega) ?_
 intro s52 H52 hO52 hk52 _ _
 refine ⟨qcd (hk1.trans hk52) hb _ c0, ?_⟩
 have r60 : qlC H52 ⟨some ⟨H.size, 0, none⟩, 1, 1⟩ 3 bkV [(q.1, tk, true)] := qhV bkV_len bkV_ok (by have := hk52.1; omega) (by rw [hk52.2 _ s1, g1])
 refine qct (H0 := H1) (B := H1.size) bkV_len bkV_ok hO52 r60 (qlu _) hk52.1 hk52 (by simp [lim]; omega) ?_
 intro s61 H61 hO61 hk61 _ _
 refine ⟨by omega, ?_⟩
 have hk61' := hk1.trans hk61
 rw [qcd hk61' hb _ c1, qe]
 have hwi : qll .i64 ((i : Int) + 1) = ((i + 1 : Nat) : Int) := by rw [qg (by omega) (by omega)]; omega
 have j1 : ∀ (s : Sl) (acc : List Bk) (Hj : AH), Own H1.size Hj s 3 bkV acc → qc H1 Hj → acc.length ≤ 1000 → qK.j1 x0 (i : Int) k s Hj := by
  intro s acc Hj hO hkj hl
  unfold qK.j1
  rw [hwi, qlp, hr.1]
  refine ⟨by omega, ?_⟩
  have rd := qen (hr.keep (hk1.trans hkj)) (k := i + 1) (by omega)
  rw [hr.1] at rd
  refine qct (H0 := H1) (B := H1.size) bkV_len bkV_ok hO rd (qlu _) hkj.1 hkj (by simp [lim]; omega) ?_
  intro s' H' _ hk' _ _
  exact h _ _ (hk1.trans hk')
 by_cases hc : tk < q.2.1
 ·rw [if_pos hc]
  refine ⟨by omega, ?_⟩
  rw [qcd hk61' hb _ c0, qe]
  refine ⟨by omega, ?_⟩
  rw [qe]
  refine ⟨rfl, ?_⟩
  rw [qv]
  have e2 : [qlk .i64 (qll .i64 (q.1 + tk)), qlk .i64 (qll .i64 (q.2.1 - tk)), qlW false] = bkV (qll .i64 (q.1 + tk), qll .i64 (q.2.1 - tk), false) := rfl
  rw [e2]
  refine qbh (H0 := H1) (B := H1.size) bkV_len (bkV_ok _) hO61 (qlu _) hk61.1 hk61 (by simp [lim]; omega) ?_
  intro s86 H86 hO86 hk86 _ _
  exact j1 _ _ _ hO86 hk86 (by simp; omega)
 ·rw [if_neg hc]
  exact j1 _ _ _ hO61 hk61 (by simp; omega)
theorem qI.s {x0 : Sl} {need words : Int} {l : List Bk} {i : Nat} {k : Sl → AH → Prop} (hr : qlC H x0 3 bkV l) (hB : MayB l words) (hi : i < l.length) (hu : (bkAt l i).2.2 = false) (hn : 2 ≤ need ∧ need ≤ (bkAt l i).2.1)
  (h : ∀ s H', qc H H' → Own H.size H' s 2 eU (carveE (bkAt l i) need) → k s H') : qI x0 (i : Int) need H k := by
 have hlen := hB.len
 have hgi := qas hi
 have hm := hB.mem (qlx hgi)
 refine qI.link ?_
 unfold qI.b
 refine qK.s hr hB hi hu hn ?_
 intro s16 H16 hk16
 rw [qlA, qa, hr.1]
 obtain ⟨b, o, ha, hb, hcells⟩ := qam hr (by omega)
 obtain ⟨hrow, hcell⟩ := hcells i _ hgi
 have c0 := hcell 0 _ rfl
 have c1 := hcell 1 _ rfl
 unfold carveE at h
 generalize bkAt l i = q at *
 have hti : qlr (i : Int) = i := qlp i
 have htk : 2 ≤ takesN q.2.1 need ∧ takesN q.2.1 need ≤ q.2.1 := by
  unfold takesN; rw [if_pos ⟨hn.1, hn.2⟩]; split <;> omega
 refine ⟨by omega, ?_⟩
 simp only [ha, qd, hti]
 rw [qcd hk16 hb _ c1, qe]
 refine qao.s (by omega) (by omega) ?_
 generalize takesN q.2.1 need = tk at *
 refine ⟨by omega, ?_⟩
 rw [qcd hk16 hb _ c0, qe]
 refine qaG.s ⟨qcd hk16 hb _ c0, rfl, ?_⟩
 rw [qv]
 have e1 : [qlk .i64 q.1, qlk .u64 (wordN tk true)] = eU (q.1, wordN tk true) := rfl
 rw [e1]
 have hkp := hk16.1
 have hO0 : Own H.size (H16.push ⟨eU (q.1, wordN tk true), .rw, 2⟩) ⟨some ⟨H16.size, 0, none⟩, 1, 1⟩ 2 eU (carveTo q.1 tk 1) := .inr ⟨H16.size, rfl, hkp, by simp [qm], by rw [qs, if_pos rfl]; rfl⟩
 refine qE (t := ((⟨some ⟨H16.size, 0, none⟩, 1, 1⟩, (1 : Int)) : Sl × Int)) (I := fun (t : Sl × Int) H' => ∃ j : Nat, t.2 = (j : Int) ∧ 1 ≤ j ∧ (j : Int) ≤ tk ∧ qc H H' ∧ Own H.size H' t.1 2 eU (carveTo q.1 tk j)) (m := fun (t : Sl × Int) _ => qlr (tk - t.2)) ?_ ⟨1, rfl, by omega, by omega, hk16.push _, hO0⟩
 intro t H1 hI it hit
 obtain ⟨s, t2⟩ := t
 obtain ⟨j, e2, hj, hjt, hk, hO⟩ := hI
 simp only at e2 hO
 subst e2
 unfold qI.l2
 simp only [qi, decide_eq_true_eq, hr.1, ha, qd, hti]
 have hcl : (carveTo q.1 tk j).length = j := by unfold carveTo; simp; omega
 by_cases hlt : (j : Int) < tk
 ·rw [if_pos hlt]
  refine ⟨by omega, ?_⟩
  rw [qcd hk hb _ c0, qe]
  refine ⟨rfl, ?_⟩
  rw [qv, qg (n := q.1 + (j : Int)) (by omega) (by omega), qg (n := (j : Int) + 1) (by omega) (by omega)]
  have e3 : [qlk .i64 (q.1 + (j : Int)), qlk .u64 0] = eU (q.1 + (j : Int), 0) := rfl
  rw [e3]
  refine qbh (H0 := H) (B := H.size) eU_len (eU_ok _) hO (qlu _) hk.1 hk (by rw [hcl]; simp only [lim]; omega) ?_
  intro s' H' hO' hk' _ _
  rw [← qeA _ _ hj] at hO'
  exact hit _ _ ⟨j + 1, by simp, by omega, by omega, hk', hO'⟩ (by simp only; omega)
 ·rw [if_neg hlt]
  have htj : tk.toNat = j := by omega
  rw [htj] at h
  unfold qI.j1
  simp only [qi, decide_eq_true_eq, hr.1, ha, qd, hti]
  refine ⟨by omega, ?_⟩
  rw [qcd hk hb _ c1, qe]
  by_cases hc : tk < q.2.1
  ·rw [if_pos hc] at h ⊢
   refine ⟨by omega, ?_⟩
   rw [qcd hk hb _ c0, qe]
   refine ⟨by omega, ?_⟩
   rw [qe, qg (n := q.2.1 - tk) (by omega) (by omega)]
   refine qaG.s ⟨qcd hk hb _ c0, rfl, ?_⟩
   rw [qv, qg (n := q.1 + tk) (by omega) (by omega)]
   have e3 : [qlk .i64 (q.1 + tk), qlk .u64 (wordN (q.2.1 - tk) false)] = eU (q.1 + tk, wordN (q.2.1 - tk) false) := rfl
   rw [e3]
   refine qbh (H0 := H) (B := H.size) eU_len (eU_ok _) hO (qlu _) hk.1 hk (by rw [hcl]; simp only [lim]; omega) ?_
   intro s' H' hO' hk' _ _
   exact h _ _ hk' hO'
  ·rw [if_neg hc] at h ⊢
   rw [List.append_nil] at h
   exact h _ _ hk hO
end
section
variable {H : AH} {x0 x2 : Sl} {off : Nat}
theorem qa2.s {m : Nat} {o n : Int} {k : Bool → AH → Prop} (hm : m ≤ 1000000) (ho : -9223372036854775808 ≤ o ∧ o ≤ 9223372036854775807) (hn : -9223372036854775808 ≤ n ∧ n ≤ 9223372036854775807) (h : k (decide (inside m o n)) H) : qa2 (m : Int) o n H k := by
 have main : ∀ v : Bool, (v = true ↔ inside m o n) → k v H := fun v hv => by
  have : v = decide (inside m o n) := by
   by_cases hi : inside m o n
   ·rw [decide_eq_true hi]; exact hv.2 hi
   ·rw [decide_eq_false hi]; cases v; rfl; exact absurd (hv.1 rfl) hi
  rw [this]; exact h
 clear h
 unfold inside at main
 refine qa2.link ?_
 unfold qa2.b
 simp only [qi, decide_eq_true_eq]
 by_cases c1 : o ≥ 0
 rotate_left 1
 ·rw [if_neg c1]; exact main false ⟨fun hh => (by cases hh), fun hh => by omega⟩
 rw [if_pos c1]
 by_cases c2 : n ≥ 0
 rotate_left 1
 ·rw [if_neg c2]; exact main false ⟨fun hh => (by cases hh), fun hh => by omega⟩
 rw [if_pos c2]
 by_cases c3 : n ≤ 448
 rotate_left 1
 ·rw [if_neg c3]; exact main false ⟨fun hh => (by cases hh), fun hh => by omega⟩
 rw [if_pos c3, qg (n := 8 * (m : Int)) (by omega) (by omega)]
 by_cases c4 : o ≤ 8 * (m : Int)
 rotate_left 1
 ·rw [if_neg c4]; exact main false ⟨fun hh => (by cases hh), fun hh => by omega⟩
 rw [if_pos c4, qg (n := 8 * (m : Int) - o) (by omega) (by omega)]
 refine main _ ?_
 rw [decide_eq_true_eq]
 constructor
 ·intro hh; omega
 ·intro hh; omega
theorem qhh {it : Sl × Int → AH → Prop} {H0 H1 : AH} {s : Sl} {cur : List Int} {k m : Nat} {c : Int} {t : Sl × Int} (ht : t.2 = (k : Int)) (hK : qc H0 H1) (hO : Own H0.size H1 s 2 eU (editsOf cur (off / 8) m)) (hm : 1 ≤ m) (hm' : m ≤ 1000)
  (hi : (off + k) / 8 = off / 8 + m - 1) (hl : (off + k) / 8 < cur.length) (hc : 0 ≤ c ∧ c ≤ 255) (hoff : off + k ≤ 100000000)
  (hit : ∀ H', qc H0 H' → Own H0.size H' s 2 eU (editsOf (putB cur (off + k) c) (off / 8) m) → it (s, (k : Int) + 1) H') : qz.j1 (off : Int) t it c s H1 := by
 unfold qz.j1
 have hlen : s.n = m := by
  rcases hO with ⟨rfl, h⟩ | ⟨b, rfl, _, _, _⟩
  ·have := qbm cur (off / 8) m
   rw [h] at this; simpa using this
  ·simp [qbm]
 rw [hlen, ht, qg (n := (m : Int) - 1) (by omega) (by omega), qg (n := (off : Int) + (k : Int)) (by omega) (by omega)]
 have hidx : ((m : Int) - 1).toNat = m - 1 := by omega
 have hget := qde (cur := cur) (q := off / 8) (show m - 1 < m from by omega)
 have hq : off / 8 + (m - 1) = (off + k) / 8 := by omega
 rw [hq] at hget
 obtain ⟨b, ha, hb1, hb2, hcell⟩ := hO.cell (fun _ => rfl) hget (j := 1) (by omega)
 refine ⟨⟨by omega, by omega⟩, ?_⟩
 rw [ha, qd, hidx, qk, qk, qlJ, hcell]
 have hmod : ((off : Int) + (k : Int)).tmod 8 = (((off + k) % 8 : Nat) : Int) := by rw [qmt (by omega)]; omega
 rw [hmod]
 show elI .u64 (some (qlk .u64 (cur.getD ((off + k) / 8) 0))) _
 rw [qe, qg (n := (((off + k) % 8 : Nat) : Int) * 8) (by omega) (by omega), qbI (n := (((off + k) % 8 : Nat) : Int) * 8) (by omega) (by omega), Int.mul_comm _ 8, qiq hc (by omega)]
 refine ⟨by omega, by omega, ?_⟩
 obtain ⟨b', ha', _, _, hcan, hO', hsame⟩ := hO.put (y := ((((off + k) / 8 : Nat) : Int), setB (cur.getD ((off + k) / 8) 0) ((off + k) % 8) c)) (fun _ => rfl) hget (j := 1) (by omega) (v := .int .u64 (setB (cur.getD ((off + k) / 8) 0) ((off + k) % 8) c)) rfl
 rw [ha] at ha'
 injection ha' with ha'
 injection ha' with ha'
 subst ha'
 refine ⟨hcan, ?_⟩
 rw [qg (n := (k : Int) + 1) (by omega) (by omega)]
 rw [qfY hm hi hl] at hO'
 exact hit _ (hK.put hb1 _) hO'
theorem qhA {it : Sl × Int → AH → Prop} {H0 H1 : AH} {s : Sl} {ws cur : List Int} {k m : Nat} {c : Int} {t : Sl × Int} (ht : t = (s, (k : Int))) (hw : qlC H1 x0 1 wU ws) (hcl : cur.length = ws.length) (hcw : cur.getD ((off + k) / 8) 0 = ws.getD ((off + k) / 8) 0)
  (hK : qc H0 H1) (hO : Own H0.size H1 s 2 eU (editsOf cur (off / 8) m)) (hm' : m ≤ 900)
  (hi : (off + k) / 8 = off / 8 + m) (hl : (off + k) / 8 < cur.length) (hc : 0 ≤ c ∧ c ≤ 255) (hoff : off + k ≤ 100000000) (hwl : ws.length ≤ 1000000)
  (hit : ∀ s' H', qc H0 H' → Own H0.size H' s' 2 eU (editsOf (putB cur (off + k) c) (off / 8) (m + 1)) → it (s', (k : Int) + 1) H') : qz.j2 x0 (off : Int) t it H1 c true := by
 subst ht
 unfold qz.j2
 rw [qf]
 simp only
 rw [qg (n := (off : Int) + (k : Int)) (by omega) (by omega), qlY (by omega), qg (n := ((off : Int) + (k : Int)) / 8) (by omega) (by omega), hw.1]
 refine ⟨⟨by omega, by omega⟩, ?_⟩
 have hidx : (((off : Int) + (k : Int)) / 8).toNat = (off + k) / 8 := by omega
 have hlt : (off + k) / 8 < ws.length := by omega
 obtain ⟨b, o, ha, hb, hcell⟩ := qbG (g := fun v => qlk .u64 v) hw hlt
 rw [ha, qd, hidx, hcell, qe]
 refine ⟨rfl, ?_⟩
 rw [qv]
 have hx : [qlk .i64 (((off : Int) + (k : Int)) / 8), qlk .u64 ws[(off + k) / 8]] = eU ((((off + k) / 8 : Nat) : Int), cur.getD ((off + k) / 8) 0) := by
  rw [hcw]
  simp only [eU, qlo, qln hlt, qlV]
  congr 1
 rw [hx]
 refine qbh (H0 := H0) (B := H0.size) (f := eU) (x := ((((off + k) / 8 : Nat) : Int), cur.getD ((off + k) / 8) 0)) (l := editsOf cur (off / 8) m) (fun _ => rfl) rfl hO (qlu _) hK.1 hK (by rw [qbm]; simp only [lim]; omega) ?_
 intro s' H' hO' hK' _ _
 have hl' : editsOf cur (off / 8) m ++ [((((off + k) / 8 : Nat) : Int), cur.getD ((off + k) / 8) 0)] = editsOf cur (off / 8) (m + 1) := by
  simp only [editsOf, qmq, qmQ, qmj, List.map_nil, hi]
 rw [hl'] at hO'
 exact qhh rfl hK' hO' (by omega) (by omega) (by omega) hl hc hoff (fun H'' hK'' hO'' => hit s' H'' hK'' hO'')
theorem qz.s {ws bs : List Int} {k : Sl → Bool → AH → Prop} {offI : Int} (hw : qlC H x0 1 wU ws) (h64 : qaE ws) (hwl : ws.length ≤ 1000000) (hb : qlC H x2 1 bU bs) (hbl : bs.length ≤ 1000000000000) (h8 : qbB bs) (ho : -9223372036854775808 ≤ offI ∧ offI ≤ 9223372036854775807)
  (h1 : inside ws.length offI bs.length → ∀ s H', qc H H' → Own H.size H' s 2 eU (editsOf (putBs ws offI.toNat bs) (offI.toNat / 8) (touched offI.toNat bs.length)) → k s true H')
  (h0 : ¬ inside ws.length offI bs.length → k ⟨none, 0, 0⟩ false H) : qz x0 offI x2 H k := by
 refine qz.link ?_
 unfold qz.b
 rw [hb.1]
 rw [hw.1]
 refine qa2.s (by omega) ho (by omega) ?_
 by_cases hin : inside ws.length offI bs.length
 ·rw [show decide (inside ws.length offI bs.length) = true from by simpa using hin, qlA, qa]
  have hin' := hin
  unfold inside at hin
  obtain ⟨off, rfl⟩ := qlI hin.1
  simp only [qlp] at h1
  refine qE (t := ((⟨none, 0, 0⟩, (0 : Int)) : Sl × Int)) (H := H) (I := fun (t : Sl × Int) H' => ∃ j : Nat, t.2 = (j : Int) ∧ j ≤ bs.length ∧ qc H H' ∧ Own H.size H' t.1 2 eU (editsOf (putBs ws off (bs.take j)) (off / 8) (touched off j))) (m := fun (t : Sl × Int) _ => qlr ((bs.length : Int) - t.2)) ?_ ?_
  ·intro t H1 hI it hit
   obtain ⟨s, i⟩ := t
   obtain ⟨j, hi, hj, hK, hO⟩ := hI
   simp only at hi hO
   subst hi
   have hR := hw.keep hK
   have hB := hb.keep hK
   unfold qz.l3
   simp only
   rw [hb.1]
   by_cases hlt : j < bs.length
   ·rw [show decide ((j : Int) < (bs.length : Int)) = true from by simpa using hlt, qf]
    obtain ⟨b, o, ha, hbb, hcell⟩ := qbG (g := fun v => qlk .u8 v) hB hlt
    refine ⟨⟨by omega, by omega⟩, ?_⟩
    rw [ha, qd, qlp, hcell, qe]
    refine ⟨by decide, by decide, ?_⟩
    have hc := h8 _ (qlB hlt)
    have hcl : (putBs ws off (bs.take j)).length = ws.length := qcK _ _ _
    have hstep : putB (putBs ws off (bs.take j)) (off + j) bs[j] = putBs ws off (bs.take (j + 1)) := by
     rw [qmB, qln hlt, qmz, qgR, List.length_take, Nat.min_eq_left (by omega)]
    have hnext : ∀ s' H', qc H H' → Own H.size H' s' 2 eU (editsOf (putB (putBs ws off (bs.take j)) (off + j) bs[j]) (off / 8) (touched off (j + 1))) → it (s', (j : Int) + 1) H' := by
     intro s' H' hK' hO'
     rw [hstep] at hO'
     exact hit _ _ ⟨j + 1, by simp, by omega, hK', hO'⟩ (by simp only; omega)
    rw [own_n hO, qbm]
    have hlw : (off + j) / 8 < (putBs ws off (bs.take j)).length := by rw [hcl]; omega
    by_cases hj0 : j = 0
    ·subst hj0
     rw [show (((touched off 0 : Nat) : Int) == 0) = true from rfl, qf]
     refine qhA (m := 0) (cur := putBs ws off (bs.take 0)) rfl hR hcl rfl hK hO (by omega) (by omega) hlw hc (by omega) hwl ?_
     intro s' H' hK' hO'
     have : touched off (0 + 1) = 0 + 1 := by simp [touched]
     exact hnext s' H' hK' (by rw [this]; exact hO')
    ·have htm : touched off j = (off + j - 1) / 8 - off / 8 + 1 := by simp [touched, hj0]
     have htn : touched off (j + 1) = (off + j) / 8 - off / 8 + 1 := by simp [touched]
     have hle : touched off j ≤ 60 := by omega
     rw [show (((touched off j : Nat) : Int) == 0) = false from by simp; omega, qa, qg (n := ((touched off j : Nat) : Int) - 1) (by omega) (by omega)]
     refine ⟨⟨by omega, by omega⟩, ?_⟩
     have hget := qde (cur := putBs ws off (bs.take j)) (q := off / 8) (show touched off j - 1 < touched off j from by omega)
     obtain ⟨b', ha', _, _, hcell'⟩ := hO.cell (fun _ => rfl) hget (j := 0) (by omega)
     have hidx : (((touched off j : Nat) : Int) - 1).toNat = touched off j - 1 := by omega
     rw [ha', qd, hidx, qk, qk, qlJ, hcell']
     show elI .i64 (some (qlk .i64 ((off / 8 + (touched off j - 1) : Nat) : Int))) _
     rw [qe, qg (n := (off : Int) + (j : Int)) (by omega) (by omega), qlY (by omega), qg (n := ((off : Int) + (j : Int)) / 8) (by omega) (by omega)]
     by_cases hsame : (off + j) / 8 = off / 8 + touched off j - 1
     ·rw [show ((((off / 8 + (touched off j - 1) : Nat) : Int)) != ((off : Int) + (j : Int)) / 8) = false from by simp; omega]
      unfold qz.j2
      rw [qa]
      refine qhh (m := touched off j) (cur := putBs ws off (bs.take j)) rfl hK hO (by omega) (by omega) hsame hlw hc (by omega) ?_
      intro H' hK' hO'
      exact hnext s H' hK' (by rw [show touched off (j + 1) = touched off j from by omega]; exact hO')
     ·rw [show ((((off / 8 + (touched off j - 1) : Nat) : Int)) != ((off : Int) + (j : Int)) / 8) = true from by simp; omega]
      refine qhA (m := touched off j) (cur := putBs ws off (bs.take j)) rfl hR hcl ?_ hK hO (by omega) (by omega) hlw hc (by omega) hwl ?_
      ·exact qeO _ _ _ _ (.inl (by rw [List.length_take]; omega)) (by rw [List.length_take]; omega)
      ·intro s' H' hK' hO'
       exact hnext s' H' hK' (by rw [show touched off (j + 1) = touched off j + 1 from by omega]; exact hO')
   ·rw [show decide ((j : Int) < (bs.length : Int)) = false from by simpa using hlt, qa]
    have hjn : j = bs.length := by omega
    subst hjn
    rw [qmh] at hO
    exact h1 hin' _ _ hK hO
  ·exact ⟨0, rfl, by omega, qc.refl H, .inl ⟨rfl, rfl⟩⟩
 ·rw [show decide (inside ws.length offI bs.length) = false from by simpa using hin, qlK, qf]
  exact h0 hin
end
def mFrom (l : List Bk) (i : Nat) : Nat := if 0 < i ∧ (bkAt l (i - 1)).2.2 = false then i - 1 else i
def mTo (l : List Bk) (i : Nat) : Nat := if i + 1 < l.length ∧ (bkAt l (i + 1)).2.2 = false then i + 2 else i + 1
def sumTo (l : List Bk) (a : Nat) : Nat → Int
 | 0 => 0
 | j + 1 => sumTo l a j + (bkAt l (a + j)).2.1
def mergedN (l : List Bk) (i : Nat) : List Bk := l.take (mFrom l i) ++ [((bkAt l (mFrom l i)).1, sumTo l (mFrom l i) (mTo l i - mFrom l i), false)] ++ l.drop (mTo l i)
theorem qiI {l : List Bk} {i : Nat} (hi : i < l.length) : (mergedN l i)[mFrom l i]? = some ((bkAt l (mFrom l i)).1, sumTo l (mFrom l i) (mTo l i - mFrom l i), false) := by
 have hf : mFrom l i ≤ i := by unfold mFrom; split <;> omega
 unfold mergedN
 rw [qmL, qlN (by simp; omega)]
 simp
 rw [Nat.min_eq_left (by omega), Nat.sub_self]
 rfl
theorem qbT {α : Type} {B B' : Nat} {H : AH} {s : Sl} {z : Nat} {f : α → List Value} {l : List α} (h : Own B H s z f l) (hb : B' ≤ B) : Own B' H s z f l :=
 h.imp id fun ⟨b, e, h1, h2, h3⟩ => ⟨b, e, Nat.le_trans hb h1, h2, h3⟩
section
variable {H : AH}
theorem qn.s0 {x0 : Sl} {words : Int} {l : List Bk} {k : Sl → Int → Bool → AH → Prop} (hr : qlC H x0 3 bkV l) (hB : MayB l words) (h : k ⟨none, 0, 0⟩ 0 false H) : qn x0 (-1) H k := by
 have hlen := hB.len
 refine qn.link ?_
 unfold qn.b
 refine qV.s hr hB ?_
 refine qr.s hr (by omega) (fun b hb => by have := hB.mem hb; omega) (by have := hB.1; unfold mayW at this; omega) ?_
 rw [decide_eq_true hB, qlA, qa, decide_eq_true (show (-1 : Int) < 0 by omega), qf]
 unfold qn.j7
 rw [qf]
 exact h
theorem qn.s {x0 : Sl} {words : Int} {l : List Bk} {i : Nat} {k : Sl → Int → Bool → AH → Prop} (hr : qlC H x0 3 bkV l) (hB : MayB l words) (hi : i < l.length) (hu : (bkAt l i).2.2 = true)
  (h : ∀ s H', qc H H' → Own H.size H' s 3 bkV (mergedN l i) → k s (mFrom l i : Nat) true H') : qn x0 (i : Int) H k := by
 have hlen := hB.len
 have hgi := qas hi
 refine qn.link ?_
 unfold qn.b
 refine qV.s hr hB ?_
 refine qr.s hr (by omega) (fun b hb => by have := hB.mem hb; omega) (by have := hB.1; unfold mayW at this; omega) ?_
 rw [decide_eq_true hB, qlA, qa]
 obtain ⟨b, o, ha, hb, hcells⟩ := qam hr (by omega)
 have hcell : ∀ j, j < l.length → ∀ t v, (bkV (bkAt l j))[t]? = some v → AH.cell? H (qlm (qlm ⟨b, o, none⟩ (j * 3)) t) = some v := fun j hj => (hcells j _ (qas hj)).2
 have hti : qlr (i : Int) = i := qlp i
 have hsz : ∀ j, j < l.length → 0 ≤ (bkAt l j).2.1 ∧ (bkAt l j).2.1 ≤ 512 := fun j hj => by have := hB.mem (qlx (qas hj)); omega
 simp only [qi, decide_eq_true_eq, hr.1, ha, qd, hti, hcell i hi 2 _ rfl, qaW]
 rw [if_neg (by omega), if_neg (by omega)]
 refine ⟨by omega, ?_⟩
 rw [hu]
 unfold qn.j7
 rw [qlA, qa]
 have hw1 : qll .i64 ((i : Int) + 1) = ((i + 1 : Nat) : Int) := by rw [qg (by omega) (by omega)]; omega
 have hw2 : qll .i64 (((i + 1 : Nat) : Int) + 1) = ((i + 2 : Nat) : Int) := by rw [qg (by omega) (by omega)]; omega
 -- from the places on
 have j3 : ∀ F T : Nat, F < T → T ≤ l.length → T - F ≤ 3 → (∀ s H', qc H H' → Own H.size H' s 3 bkV (l.take F ++ [((bkAt l F).1, sumTo l F (T - F), false)] ++ l.drop T) → k s (F : Int) true H') → qn.j3 x0 k H (F : Int) (T : Int) := by
  intro F T hFT hT h3 hk
  unfold qn.j3
  rw [hr.1]
  refine ⟨by omega, ?_⟩
  have hsum : ∀ j, j ≤ T - F → 0 ≤ sumTo l F j ∧ sumTo l F j ≤ 512 * j := by
   intro j
   induction j with
   | zero => intro _; simp [sumTo]
   | succ j ih =>
    intro hj
    have h1 := ih (by omega)
    have h2 := hsz (F + j) (by omega)
    simp only [sumTo]; omega
  refine qE (t := (((0 : Int), (0 : Int)) : Int × Int)) (I := fun (t : Int × Int) H' => ∃ j : Nat, t.2 = (j : Int) ∧ j ≤ T - F ∧ qc H H' ∧ t.1 = sumTo l F j) (m := fun (t : Int × Int) _ => qlr (((T - F : Nat) : Int) - t.2)) ?_ ⟨0, rfl, by omega, qc.refl H, rfl⟩
  intro t H1 hI it hit
  obtain ⟨t1, t2⟩ := t
  obtain ⟨j, e1, hj, hkk, e2⟩ := hI
  simp only at e1 e2
  subst e1 e2
  unfold qn.l2
  simp only [qi, decide_eq_true_eq, qlp, ha, qlO, qd]
  by_cases hlt : (j : Int) < ((T - F : Nat) : Int)
  ·rw [if_pos hlt]
   refine ⟨by omega, ?_⟩
   have hFj : F + j < l.length := by omega
   have hrow : AH.row? H1 (qlm (qlm ⟨b, o, none⟩ (F * 3)) (j * 3)) 3 = some (bkV (bkAt l (F + j))) := by
    have := (hcells (F + j) _ (qas hFj)).1
    rw [qk] at this
    rw [qk, qk, show o + F * 3 + j * 3 = o + (F + j) * 3 by omega, ← this]
    simp only [AH.row?, hkk.2 b hb]
   rw [qp hrow]
   have hq := hsz _ hFj
   have hs1 := hsum j hj
   have hsS : sumTo l F (j + 1) = sumTo l F j + (bkAt l (F + j)).2.1 := rfl
   generalize bkAt l (F + j) = q at *
   refine qbC (n := 3) rfl (bkV_len q) (bkV_ok q) ?_
   have hBk : BkAt (H1.push ⟨bkV q, .rw, 0⟩) H1.size q := BkAt.new
   have hk2 : qc H (H1.push ⟨bkV q, .rw, 0⟩) := hkk.push _
   generalize H1.push ⟨bkV q, .rw, 0⟩ = H2 at *
   rw [hBk.c1, qe, qg (n := sumTo l F j + q.2.1) (by omega) (by omega), qg (n := (j : Int) + 1) (by omega) (by omega)]
   exact hit _ _ ⟨j + 1, by simp, by omega, hk2, hsS.symm⟩ (by simp only; omega)
  ·rw [if_neg hlt]
   have : j = T - F := by omega
   subst this
   have hFl : F < l.length := by omega
   unfold qn.j1
   simp only [hr.1, ha, qd, qlO, qlp]
   refine ⟨by omega, by omega, ?_⟩
   have c0 := qcd hkk hb _ (hcell F hFl 0 _ rfl)
   rw [c0, qe]
   refine ⟨rfl, ?_⟩
   generalize hqF : bkAt l F = qF at *
   generalize sumTo l F (T - F) = sm at *
   rw [qv]
   have e1 : [qlk .i64 qF.1, qlk .i64 sm, qlW false] = bkV (qF.1, sm, false) := rfl
   rw [e1]
   have hk1 : qc H (H1.push ⟨bkV (qF.1, sm, false), .rw, 3⟩) := hkk.push _
   have g1 : (H1.push ⟨bkV (qF.1, sm, false), .rw, 3⟩).get H1.size = ⟨bkV (qF.1, sm, false), .rw, 3⟩ := by rw [qs, if_pos rfl]
   have s1 : H1.size < (H1.push ⟨bkV (qF.1, sm, false), .rw, 3⟩).size := by simp [qm]
   generalize H1.push ⟨bkV (qF.1, sm, false), .rw, 3⟩ = H2 at *
   have rt := qem (hr.keep hk1) (k := F) (by omega)
   rw [ha] at rt
   refine qct (H0 := H2) (B := H2.size) (l := []) bkV_len bkV_ok (.inl ⟨rfl, rfl⟩) rt (qlu _) (qlu _) (qc.refl H2) (by simp [lim]; omega) ?_
   intro s83 H83 hO83 hk83 _ _
   refine ⟨qcd (hk1.trans hk83) hb _ (hqF ▸ hcell F hFl 0 _ rfl), ?_⟩
   have r60 : qlC H83 ⟨some ⟨H1.size, 0, none⟩, 1, 1⟩ 3 bkV [(qF.1, sm, false)] := qhV bkV_len bkV_ok (by have := hk83.1; omega) (by rw [hk83.2 _ s1, g1])
   refine qct (H0 := H2) (B := H2.size) bkV_len bkV_ok hO83 r60 (qlu _) hk83.1 hk83 (by simp [lim]; omega) ?_
   intro s92 H92 hO92 hk92 _ _
   refine ⟨by omega, ?_⟩
   have rd := qen (hr.keep (hk1.trans hk92)) (k := T) hT
   rw [hr.1, ha, qlO] at rd
   refine qct (H0 := H2) (B := H2.size) bkV_len bkV_ok hO92 rd (qlu _) hk92.1 hk92 (by simp [lim]; omega) ?_
   intro s97 H97 hO97 hk97 _ _
   rw [ql8] at hO97
   refine hk _ _ (hk1.trans hk97) (qbT hO97 (by have := hk1.1; omega))
 have hF : mFrom l i ≤ i := by unfold mFrom; split <;> omega
 have hF2 : i ≤ mFrom l i + 1 := by unfold mFrom; split <;> omega
 have hT : i < mTo l i ∧ mTo l i ≤ i + 2 ∧ mTo l i ≤ l.length := by unfold mTo; split <;> omega
 have fin := j3 (mFrom l i) (mTo l i) (by omega) hT.2.2 (by omega) h
 have j5 : qn.j5 x0 (i : Int) k H (mFrom l i : Nat) := by
  unfold qn.j5
  simp only [qi, decide_eq_true_eq, hr.1, ha, qd, hw1, qlp]
  have j4 : ∀ x : Bool, (x = true ↔ (i + 1 < l.length ∧ (bkAt l (i + 1)).2.2 = false)) → qn.j4 x0 (i : Int) k H (mFrom l i : Nat) x := by
   intro x hx
   unfold qn.j4
   rw [hw1, hw2, qi]
   unfold mTo at fin
   by_cases hx' : x = true
   ·rw [if_pos hx']; rw [if_pos (hx.1 hx')] at fin; exact fin
   ·rw [if_neg hx']; rw [if_neg (fun hh => hx' (hx.2 hh))] at fin; exact fin
  by_cases hc : ((i + 1 : Nat) : Int) < (l.length : Int)
  ·rw [if_pos hc]
   refine ⟨by omega, ?_⟩
   rw [hcell (i + 1) (by omega) 2 _ rfl, qaW]
   refine j4 _ ?_
   simp
   omega
  ·rw [if_neg hc]
   exact j4 false ⟨fun hh => (by cases hh), fun hh => by omega⟩
 have j6 : ∀ x : Bool, (x = true ↔ (0 < i ∧ (bkAt l (i - 1)).2.2 = false)) → qn.j6 x0 (i : Int) k H x := by
  intro x hx
  unfold qn.j6
  rw [qi]
  unfold mFrom at j5
  by_cases hx' : x = true
  ·rw [if_pos hx']
   have := hx.1 hx'
   rw [if_pos this] at j5
   rw [qg (n := (i : Int) - 1) (by omega) (by omega), show (i : Int) - 1 = ((i - 1 : Nat) : Int) by omega]
   exact j5
  ·rw [if_neg hx']
   rw [if_neg (fun hh => hx' (hx.2 hh))] at j5
   exact j5
 simp only [qi, decide_eq_true_eq, hr.1, ha, qd]
 by_cases hc : (i : Int) > 0
 ·rw [if_pos hc, qg (n := (i : Int) - 1) (by omega) (by omega), show (i : Int) - 1 = ((i - 1 : Nat) : Int) by omega, qlp]
  refine ⟨by omega, ?_⟩
  rw [hcell (i - 1) (by omega) 2 _ rfl, qaW]
  refine j6 _ ?_
  simp
  omega
 ·rw [if_neg hc]
  exact j6 false ⟨fun hh => (by cases hh), fun hh => by omega⟩
end
theorem qkr {α : Type} {H : AH} {z : Nat} {f : α → List Value} : qlC H ⟨none, 0, 0⟩ z f [] := ⟨rfl, fun i x h => by simp at h⟩
instance {off n : Int} {b : Bk} : Decidable (inB off n b) := by unfold inB; infer_instance
instance {l : List Bk} {off n : Int} : Decidable (withinN l off n) := by unfold withinN; infer_instance
def imgAlloc (ws : List Int) (n : Int) (cs : List Int) : List (Int × Int) × Int × Int :=
 if needN n = 0 then ([], 0, 1) else
 match blocksN ws with
 | none => ([], 0, 6)
 | some l => if chooseN l (needN n) cs < 0 then ([], 0, 4) else (carveE (bkAt l (chooseN l (needN n) cs).toNat) (needN n), offN (bkAt l (chooseN l (needN n) cs).toNat).1, 0)
def imgFree (ws : List Int) (off : Int) : List (Int × Int) × Int :=
 match blocksN ws with
 | none => ([], 6)
 | some l => if isN off l 0 < 0 then ([], 1) else
  ([((bkAt l (mFrom l (isN off l 0).toNat)).1, wordN (sumTo l (mFrom l (isN off l 0).toNat) (mTo l (isN off l 0).toNat - mFrom l (isN off l 0).toNat)) false)], 0)
def imgWrite (ws : List Int) (off : Int) (bs : List Int) : List (Int × Int) × Int :=
 match blocksN ws with
 | none => ([], 6)
 | some l => if withinN l off bs.length then (editsOf (putBs ws off.toNat bs) (off.toNat / 8) (touched off.toNat bs.length), 0) else ([], 1)
theorem qcN {ws : List Int} {l : List Bk} {off n : Int} (hB : MayB l ws.length) (h : withinN l off n) : inside ws.length off n := by
 obtain ⟨h1, h2, b, hb, hi⟩ := h
 have hm := hB.mem hb
 have hl := hB.len
 obtain ⟨_, h3, h4, h5⟩ := hi
 have : offN b.1 = (b.1 + 1) * 8 := by unfold offN; rw [if_pos (by omega)]
 unfold inside
 omega
section
variable {H : AH}
theorem qan.s {x0 x2 : Sl} {n : Int} {ws cs : List Int} {k : Sl → Int → Int → AH → Prop} (hr : qlC H x0 1 wU ws) (h64 : qaE ws) (hl : ws.length ≤ 1000) (hn : isI n) (hcs : qlC H x2 1 iV cs)
  (h : ∀ s H', qc H H' → Own H.size H' s 2 eU (imgAlloc ws n cs).1 → k s (imgAlloc ws n cs).2.1 (imgAlloc ws n cs).2.2 H') : qan x0 n x2 H k := by
 refine qan.link ?_
 unfold qan.b
 unfold imgAlloc at h
 refine qZ.s hn ?_
 rw [qi]
 by_cases h0 : needN n = 0
 ·rw [if_pos (by simpa using h0)]
  rw [if_pos h0] at h
  exact h _ _ (qc.refl H) (.inl ⟨rfl, rfl⟩)
 rw [if_neg (by simpa using h0)]
 rw [if_neg h0] at h
 refine qH.s hr h64 hl ?_ ?_
 rotate_left 1
 ·intro hb H' hk
  rw [hb] at h
  rw [qlK, qf]
  exact h _ _ hk (.inl ⟨rfl, rfl⟩)
 intro l hb s17 H17 hk17 hO17
 rw [hb] at h
 rw [qlA, qa]
 simp only at h
 have hB := qbl hb
 have hlen := hB.len
 have hR := hO17.rows bkV_len bkV_ok
 refine qZ.s hn ?_
 refine qQ.s hR (by omega) (fun b hb => by have := hB.mem hb; omega) (hcs.keep hk17) ?_
 simp only [qi, decide_eq_true_eq]
 rcases qd3 (l := l) (need := needN n) (cs := cs) with hc | ⟨i, hc, hi, hu, hn1, hn2⟩
 ·rw [if_pos (by omega)]
  rw [if_pos (by omega)] at h
  exact h _ _ hk17 (.inl ⟨rfl, rfl⟩)
 rw [if_neg (by omega)]
 rw [if_neg (by omega)] at h
 rw [hc, qlp] at h ⊢
 rw [hR.1]
 refine ⟨by omega, ?_⟩
 obtain ⟨b, o, ha, hbz, hcells⟩ := qam hR (by omega)
 have hrow := (hcells i _ (qas hi)).1
 rw [ha, qd, qp hrow]
 refine qZ.s hn ⟨hrow, ?_⟩
 refine qI.s hR hB hi hu ⟨hn2, hn1⟩ ?_
 intro s33 H33 hk33 hO33
 refine ⟨?_, ?_⟩
 ·rw [qk] at hrow ⊢
  rw [← hrow]
  simp only [AH.row?, hk33.2 b hbz]
 refine qY.s ?_
 exact h _ _ (hk17.trans hk33) (qbT hO33 hk17.1)
theorem qaF.s {x0 : Sl} {off : Int} {ws : List Int} {k : Sl → Int → AH → Prop} (hr : qlC H x0 1 wU ws) (h64 : qaE ws) (hl : ws.length ≤ 1000)
  (h : ∀ s H', qc H H' → Own H.size H' s 2 eU (imgFree ws off).1 → k s (imgFree ws off).2 H') : qaF x0 off H k := by
 refine qaF.link ?_
 unfold qaF.b
 unfold imgFree at h
 refine qH.s hr h64 hl ?_ ?_
 rotate_left 1
 ·intro hb H' hk
  rw [hb] at h
  rw [qlK, qf]
  exact h _ _ hk (.inl ⟨rfl, rfl⟩)
 intro l hb s12 H12 hk12 hO12
 rw [hb] at h
 rw [qlA, qa]
 simp only at h
 have hB := qbl hb
 have hlen := hB.len
 have hR := hO12.rows bkV_len bkV_ok
 refine qaS.s hR (by omega) ?_
 rcases qdF off l 0 with hc | ⟨i, hc, hi, hu, ho⟩
 ·rw [hc]
  rw [hc, if_pos (by omega)] at h
  refine qn.s0 hR hB ?_
  rw [qlK, qf]
  exact h _ _ hk12 (.inl ⟨rfl, rfl⟩)
 rw [qlJ] at hc
 rw [hc]
 rw [hc, if_neg (by omega), qlp] at h
 refine qn.s hR hB hi hu ?_
 intro s22 H22 hk22 hO22
 have hg := qiI hi
 rw [qlA, qa]
 have hR22 := hO22.rows bkV_len bkV_ok
 have hlt := (List.getElem?_eq_some_iff.1 hg).1
 obtain ⟨b, o, ha, hbz, hcells⟩ := qam hR22 (by omega)
 have c0 := (hcells _ _ hg).2 0 _ rfl
 have c1 := (hcells _ _ hg).2 1 _ rfl
 simp only at c0 c1
 rw [hR22.1]
 generalize mFrom l i = F at *
 generalize hsm : sumTo l F (mTo l i - F) = sm at *
 refine ⟨by omega, ?_⟩
 rw [ha, qd, qlp, c0, qe]
 refine ⟨by omega, ?_⟩
 rw [qd, c1, qe]
 refine qaG.s ⟨c0, rfl, ?_⟩
 rw [qv]
 have hk := hk12.trans hk22
 exact h _ _ (hk.push _) (.inr ⟨H22.size, rfl, hk.1, by simp [qm], by rw [qs, if_pos rfl]; rfl⟩)
theorem qaV.s {x0 x2 : Sl} {off : Int} {ws bs : List Int} {k : Sl → Int → AH → Prop} (hr : qlC H x0 1 wU ws) (h64 : qaE ws) (hl : ws.length ≤ 1000) (hoff : isI off) (hb : qlC H x2 1 bU bs) (h8 : qbB bs) (hbl : bs.length ≤ 1000000000000)
  (h : ∀ s H', qc H H' → Own H.size H' s 2 eU (imgWrite ws off bs).1 → k s (imgWrite ws off bs).2 H') : qaV x0 off x2 H k := by
 refine qaV.link ?_
 unfold qaV.b
 unfold imgWrite at h
 refine qH.s hr h64 hl ?_ ?_
 rotate_left 1
 ·intro hb' H' hk
  rw [hb'] at h
  rw [qlK, qf]
  exact h _ _ hk (.inl ⟨rfl, rfl⟩)
 intro l hbk s14 H14 hk14 hO14
 rw [hbk] at h
 rw [qlA, qa]
 simp only at h
 have hB := qbl hbk
 have hlen := hB.len
 have hR := hO14.rows bkV_len bkV_ok
 rw [hb.1]
 refine qP.s hR (by omega) (fun b hb => by have := hB.mem hb; omega) ?_ ?_
 ·intro hw
  rw [qlA, qa]
  rw [if_pos hw] at h
  have hin := qcN hB hw
  refine qz.s (hr.keep hk14) h64 (by omega) (hb.keep hk14) hbl h8 hoff ?_ (fun hn => absurd hin hn)
  intro _ s29 H29 hk29 hO29
  exact h _ _ (hk14.trans hk29) (qbT hO29 hk14.1)
 ·intro hw
  rw [qlK, qf]
  rw [if_neg hw] at h
  exact h _ _ hk14 (.inl ⟨rfl, rfl⟩)
theorem qM.s {x0 x1 : Sl} {ws : List Int} {l : List (Int × Int)} {k : Sl → AH → Prop} (hw : qlC H x0 1 wU ws) (hwl : ws.length ≤ 1000000) (hl : qlC H x1 2 eU l) (hll : l.length ≤ 1000000)
  (h : ∀ s H', qc H H' → Own H.size H' s 1 wU (applyE ws l) → k s H') : qM x0 x1 H k := by
 refine qM.link ?_
 unfold qM.b
 refine qct (H0 := H) (B := H.size) (l := []) (f := wU) (fun _ => rfl) (fun _ => rfl) (.inl ⟨rfl, rfl⟩) hw (qlu _) (qlu _) (qc.refl H) (by simp [lim]; omega) ?_
 intro s9 H9 hO9 hK9 _ _
 rw [ql8] at hO9
 refine qE (t := (0 : Int)) (H := H9) (I := fun (t : Int) H' => ∃ j : Nat, t = (j : Int) ∧ j ≤ l.length ∧ qc H H' ∧ Own H.size H' s9 1 wU (applyE ws (l.take j))) (m := fun (t : Int) _ => qlr ((l.length : Int) - t)) ?_ ⟨0, rfl, by omega, hK9, hO9⟩
 intro t H1 hI it hit
 obtain ⟨j, rfl, hj, hK, hO⟩ := hI
 have hR := hl.keep hK
 unfold qM.l2
 rw [hl.1]
 by_cases hlt : j < l.length
 ·rw [show decide ((j : Int) < (l.length : Int)) = true from by simpa using hlt, qf]
  obtain ⟨b, o, ha, hb, hrow⟩ := hR.at hlt
  refine ⟨⟨by omega, by omega⟩, ?_⟩
  rw [ha, qd, qlp, qp hrow]
  generalize hx : l[j] = x at *
  have htk : applyE ws (l.take (j + 1)) = putE (applyE ws (l.take j)) x := by
   rw [qmB, qln hlt, hx, qmz]
   simp [applyE, List.foldl_append]
  have hn : s9.n = ws.length := by rw [own_n hO, qaz]
  simp only [qv, qbu, ed_nil, ed_put, ed_can, ed_0, ed_1, qe, show (eU x).length = 2 from rfl, show (eU x).all qq = true from rfl, true_and]
  have hnext : ∀ H', qc H H' → Own H.size H' s9 1 wU (putE (applyE ws (l.take j)) x) → it ((j : Int) + 1) H' := by
   intro H' hK' hO'
   rw [← htk] at hO'
   exact hit _ _ ⟨j + 1, by simp, by omega, hK', hO'⟩ (by omega)
  have hO1 : Own H.size (H1.push ⟨eU x, .rw, 0⟩) s9 1 wU (applyE ws (l.take j)) := hO.keep (by simp [qm]) (fun b _ hb => qO (by omega))
  unfold qM.j1
  simp only [ed_0, ed_1, qe]
  rw [qg (n := (j : Int) + 1) (by omega) (by omega), hn]
  by_cases h0 : x.1 ≥ 0
  ·rw [show decide (x.1 ≥ 0) = true from by simpa using h0, qf]
   by_cases h1 : x.1 < (ws.length : Int)
   ·rw [show decide (x.1 < (ws.length : Int)) = true from by simpa using h1, qf]
    refine ⟨⟨h0, h1⟩, ?_⟩
    have hlw : x.1.toNat < (applyE ws (l.take j)).length := by rw [qaz]; omega
    obtain ⟨b', ha', hb1, hb2, hcan, hO', _⟩ := hO1.put (y := x.2) (fun _ => rfl) (qln hlw) (j := 0) (by omega) (v := .int .u64 x.2) rfl
    rw [ha', qd, qk, qlJ]
    refine ⟨hcan, ?_⟩
    refine hnext _ ((hK.push _).put hb1 _) ?_
    have hp : putE (applyE ws (l.take j)) x = (applyE ws (l.take j)).set x.1.toNat x.2 := by
     unfold putE; rw [if_pos ⟨h0, by rw [qaz]; exact h1⟩]
    rw [hp]; exact hO'
   ·rw [show decide (x.1 < (ws.length : Int)) = false from by simpa using h1, qa]
    refine hnext _ (hK.push _) ?_
    have hp : putE (applyE ws (l.take j)) x = applyE ws (l.take j) := by unfold putE; rw [if_neg (by rw [qaz]; omega)]
    rw [hp]; exact hO1
  ·rw [show decide (x.1 ≥ 0) = false from by simpa using h0, qa, qa]
   refine hnext _ (hK.push _) ?_
   have hp : putE (applyE ws (l.take j)) x = applyE ws (l.take j) := by unfold putE; rw [if_neg (by omega)]
   rw [hp]; exact hO1
 ·rw [show decide ((j : Int) < (l.length : Int)) = false from by simpa using hlt, qa]
  have : j = l.length := by omega
  subst this
  rw [qmh] at hO
  exact h _ _ hK hO
def firstN (n : Int) : List Int := if mayW n then wordN n false :: qlq (n.toNat - 1) 0 else []
theorem wordN_u (n : Int) (u : Bool) : isU (wordN n u) := by
 unfold wordN isU
 split
 ·rename_i h; unfold mayS at h; split <;> omega
 ·omega
theorem qeq (n : Int) : qaE (firstN n) := by
 intro v hv
 unfold firstN at hv
 split at hv
 ·rw [qlL] at hv
  rcases hv with rfl | hv
  ·exact wordN_u _ _
  ·rw [List.eq_of_mem_replicate hv]; omega
 ·cases hv
theorem qbs.s {n : Int} {k : Sl → AH → Prop} (h : ∀ s H', qc H H' → Own H.size H' s 1 wU (firstN n) → k s H') : qbs n H k := by
 refine qbs.link ?_
 unfold qbs.b
 unfold firstN at h
 refine qau.s ?_
 by_cases hm : mayW n
 rotate_left 1
 ·rw [decide_eq_false hm, qlK, qf]
  rw [if_neg hm] at h
  exact h _ _ (qc.refl H) (.inl ⟨rfl, rfl⟩)
 rw [decide_eq_true hm, qlA, qa]
 rw [if_pos hm] at h
 unfold mayW at hm
 refine ⟨by simp only [lim]; omega, ?_⟩
 rw [qv]
 obtain ⟨m, hm1⟩ : ∃ m : Nat, n.toNat = m + 1 := ⟨n.toNat - 1, by omega⟩
 rw [hm1] at h ⊢
 rw [Nat.add_sub_cancel] at h
 refine qaG.s ?_
 refine ⟨by omega, ?_⟩
 have hz : zerosOf (m + 1) [qlk .u64 0] = (qlq (m + 1) (0 : Int)).flatMap wU := by
  unfold zerosOf
  rw [List.flatMap_def, List.map_replicate]; rfl
 rw [hz]
 have hO : Own H.size (H.push ⟨(qlq (m + 1) (0 : Int)).flatMap wU, .rw, 1⟩) ⟨some ⟨H.size, 0, none⟩, m + 1, 1⟩ 1 wU (qlq (m + 1) 0) :=
  .inr ⟨H.size, by simp, qlu _, by simp [qm], by rw [qs, if_pos rfl]⟩
 have hk := (qc.refl H).push ⟨(qlq (m + 1) (0 : Int)).flatMap wU, .rw, 1⟩
 generalize H.push ⟨(qlq (m + 1) (0 : Int)).flatMap wU, .rw, 1⟩ = H1 at *
 obtain ⟨b', ha', hb1, hb2, hcan, hO', _⟩ := hO.put (i := 0) (x := 0) (y := wordN n false) (fun _ => rfl) (by simp) (j := 0) (by omega) (v := .int .u64 (wordN n false)) rfl
 simp only [qmu, Addr.mk.injEq, true_and, and_true] at ha'
 subst ha'
 rw [qk]
 refine ⟨hcan, ?_⟩
 exact h _ _ (hk.put hb1 _) hO'
end
def insS (n : Int) : List Int → List Int
 | [] => [n]
 | a :: r => if a < n then a :: insS n r else if a = n then a :: r else n :: a :: r
def posN (n : Int) : List Int → Nat
 | [] => 0
 | a :: r => if a < n then posN n r + 1 else 0
def eStep (out : List Int) (e : Int × Int) : List Int := if e.1 < 0 then out else insS (e.1 / 8) out
def eLines (l : List (Int × Int)) : List Int := l.foldl eStep []
theorem posN_le (n : Int) : ∀ l : List Int, posN n l ≤ l.length := by
 intro l
 induction l with
 | nil => exact qlu _
 | cons a r ih => simp only [posN, qlE]; split <;> omega
theorem insS_eq (n : Int) : ∀ out : List Int, insS n out = if posN n out = out.length ∨ out.getD (posN n out) 0 ≠ n then out.take (posN n out) ++ [n] ++ out.drop (posN n out) else out := by
 intro out
 induction out with
 | nil => simp [insS, posN]
 | cons a r ih =>
  by_cases h1 : a < n
  ·have e : posN n (a :: r) = posN n r + 1 := by simp only [posN]; rw [if_pos h1]
   have e2 : insS n (a :: r) = a :: insS n r := by simp only [insS]; rw [if_pos h1]
   simp only [e, e2, ih, qlE, List.getD_cons_succ, List.take_succ_cons, List.drop_succ_cons, Nat.add_right_cancel_iff]
   split <;> rfl
  ·have e : posN n (a :: r) = 0 := by simp only [posN]; rw [if_neg h1]
   have e2 : insS n (a :: r) = if a = n then a :: r else n :: a :: r := by simp only [insS]; rw [if_neg h1]
   simp only [e, e2]
   by_cases h2 : a = n
   ·subst h2; rw [if_pos rfl, if_neg (by simp)]
   ·rw [if_neg h2, if_pos (.inr (by simpa using h2))]; rfl
theorem qgv (n : Int) : ∀ out : List Int, ∀ x, x ∈ insS n out ↔ x = n ∨ x ∈ out := by
 intro out
 induction out with
 | nil => intro x; simp [insS]
 | cons a r ih =>
  intro x
  simp only [insS]
  split
  ·rw [qlL, ih, qlL]
   constructor
   ·rintro (h | h | h)
    ·exact .inr (.inl h)
    ·exact .inl h
    ·exact .inr (.inr h)
   ·rintro (h | h | h)
    ·exact .inr (.inl h)
    ·exact .inl h
    ·exact .inr (.inr h)
  ·split
   ·rename_i h2; subst h2; simp
   ·simp
theorem qi5 (n : Int) : ∀ out : List Int, out.Pairwise (· < ·) → (insS n out).Pairwise (· < ·) := by
 intro out
 induction out with
 | nil => intro _; simp [insS]
 | cons a r ih =>
  intro h
  rw [List.pairwise_cons] at h
  simp only [insS]
  split
  ·rename_i h1
   rw [List.pairwise_cons]
   refine ⟨fun x hx => ?_, ih h.2⟩
   rw [qgv] at hx
   rcases hx with rfl | hx
   ·exact h1
   ·exact h.1 x hx
  ·rename_i h1
   split
   ·rw [List.pairwise_cons]; exact h
   ·rename_i h2
    rw [List.pairwise_cons, List.pairwise_cons]
    refine ⟨fun x hx => ?_, h⟩
    rw [qlL] at hx
    rcases hx with rfl | hx
    ·omega
    ·have := h.1 x hx; omega
theorem qkN (n : Int) (out : List Int) : (insS n out).length ≤ out.length + 1 := by
 rw [insS_eq]
 have := posN_le n out
 split
 ·simp; omega
 ·omega
theorem eFold (l : List (Int × Int)) : ∀ out : List Int, out.Pairwise (· < ·) → (l.foldl eStep out).Pairwise (· < ·) ∧ (∀ x, x ∈ l.foldl eStep out → x ∈ out ∨ ∃ e ∈ l, 0 ≤ e.1 ∧ x = e.1 / 8) ∧ (l.foldl eStep out).length ≤ out.length + l.length := by
 induction l with
 | nil => intro out h; exact ⟨h, fun x hx => .inl hx, by simp⟩
 | cons e r ih =>
  intro out h
  simp only [List.foldl_cons]
  have hs : (eStep out e).Pairwise (· < ·) := by
   unfold eStep; split
   ·exact h
   ·exact qi5 _ _ h
  obtain ⟨h1, h2, h3⟩ := ih _ hs
  refine ⟨h1, fun x hx => ?_, ?_⟩
  ·rcases h2 x hx with h | ⟨e', he', h⟩
   ·unfold eStep at h
    split at h
    ·exact .inl h
    ·rename_i hn
     rw [qgv] at h
     rcases h with h | h
     ·exact .inr ⟨e, by simp, by omega, h⟩
     ·exact .inl h
   ·exact .inr ⟨e', by simp [he'], h⟩
  ·have : (eStep out e).length ≤ out.length + 1 := by
    unfold eStep; split
    ·omega
    ·exact qkN _ _
   simp only [qlE]; omega
theorem qjo {hi : Int} : ∀ {l : List Int} {lo : Int}, l.Pairwise (· < ·) → (∀ x ∈ l, lo ≤ x ∧ x ≤ hi) → lo ≤ hi + 1 → (l.length : Int) ≤ hi - lo + 1 := by
 intro l
 induction l with
 | nil => intro lo _ _ h; simp; omega
 | cons a r ih =>
  intro lo hs hb h
  rw [List.pairwise_cons] at hs
  have ha := hb a (by simp)
  have := ih (lo := a + 1) hs.2 (fun x hx => ⟨by have := hs.1 x hx; omega, (hb x (by simp [hx])).2⟩) (by omega)
  simp only [qlE]; omega
theorem qel {l : List (Int × Int)} {lo hi : Int} (h : ∀ e ∈ l, lo ≤ e.1 ∧ e.1 ≤ hi) (hlh : lo ≤ hi) : ((eLines l).length : Int) ≤ hi / 8 - lo / 8 + 1 := by
 obtain ⟨h1, h2, _⟩ := eFold l [] List.Pairwise.nil
 refine qjo h1 (fun x hx => ?_) (by omega)
 rcases h2 x hx with hx | ⟨e, he, _, rfl⟩
 ·cases hx
 ·have := h e he; omega
theorem qeZ {b : Bk} {need : Int} (hn : 2 ≤ need ∧ need ≤ b.2.1) : (∀ e ∈ carveE b need, b.1 ≤ e.1 ∧ e.1 ≤ b.1 + need ∧ isU e.2) ∧ ((carveE b need).length : Int) ≤ need + 3 := by
 have htk : takesN b.2.1 need = (if b.2.1 - need < 2 then b.2.1 else need) := by unfold takesN; rw [if_pos hn]
 have ht : 2 ≤ takesN b.2.1 need ∧ takesN b.2.1 need ≤ need + 1 ∧ (takesN b.2.1 need < b.2.1 → takesN b.2.1 need = need) := by
  rw [htk]; split <;> omega
 unfold carveE carveTo
 generalize takesN b.2.1 need = tk at *
 refine ⟨fun e he => ?_, ?_⟩
 ·rw [ql3, qlL, qlD] at he
  rcases he with rfl | he | he
  ·exact ⟨by simp only; omega, by simp only; omega, wordN_u _ _⟩
  ·rw [ql2] at he
   obtain ⟨t, ht1, rfl⟩ := he
   rw [qml] at ht1
   refine ⟨by simp only; omega, by simp only; omega, by unfold isU; omega⟩
  ·split at he
   ·rename_i hlt
    have := ht.2.2 hlt
    simp at he
    subst he
    exact ⟨by simp only; omega, by simp only; omega, wordN_u _ _⟩
   ·cases he
 ·split <;> simp <;> omega
structure EdOK (E : List (Int × Int)) (most : Int) : Prop where
 mem : ∀ e ∈ E, 0 ≤ e.1 ∧ e.1 ≤ 5000 ∧ isU e.2
 len : E.length ≤ 5000
 most : ((eLines E).length : Int) ≤ most
theorem EdOK.nil {m : Int} (h : 0 ≤ m) : EdOK [] m := ⟨fun e he => (by cases he), (by simp), (by simpa [eLines] using h)⟩
theorem qf6 {ws : List Int} {n : Int} {cs : List Int} : EdOK (imgAlloc ws n cs).1 (linesP 1 n 0) := by
 have h0 : 0 ≤ linesP 1 n 0 := qfN (sl := ⟨none, 0, 0⟩).1
 unfold imgAlloc
 split
 ·exact EdOK.nil h0
 ·rename_i hn0
  split
  ·exact EdOK.nil h0
  ·rename_i l hb
   have hB := qbl hb
   have hlen := hB.len
   split
   ·exact EdOK.nil h0
   ·rename_i hc
    rcases qd3 (l := l) (need := needN n) (cs := cs) with h | ⟨i, h, hi, hu, hn1, hn2⟩
    ·omega
    ·rw [h, qlp]
     have hm := hB.mem (qlx (qas hi))
     generalize bkAt l i = b at *
     obtain ⟨h1, h2⟩ := qeZ ⟨hn2, hn1⟩
     have hneed : 1 ≤ n ∧ n ≤ 448 ∧ needN n = 1 + (n + 7) / 8 := by
      unfold needN at hn0 ⊢
      split at hn0
      ·rename_i hh; rw [if_pos hh]; exact ⟨hh.1, hh.2, rfl⟩
      ·exact absurd rfl hn0
     show EdOK (carveE b (needN n)) (linesP 1 n 0)
     refine ⟨fun e he => ?_, by omega, ?_⟩
     ·have := h1 e he; exact ⟨by omega, by omega, this.2.2⟩
     ·have := qel (lo := b.1) (hi := b.1 + needN n) (fun e he => ⟨(h1 e he).1, (h1 e he).2.1⟩) (by omega)
      unfold linesP
      rw [if_pos rfl, if_pos ⟨by omega, by omega⟩]
      omega
theorem qgH {ws : List Int} {off : Int} : EdOK (imgFree ws off).1 (linesP 2 0 0) := by
 unfold imgFree
 split
 ·exact EdOK.nil (by decide)
 ·rename_i l hb
  have hB := qbl hb
  have hlen := hB.len
  split
  ·exact EdOK.nil (by decide)
  ·rename_i hc
   rcases qdF off l 0 with h | ⟨i, h, hi, hu, ho⟩
   ·omega
   ·rw [qlJ] at h
    rw [h, qlp]
    have hF : mFrom l i < l.length := by unfold mFrom; split <;> omega
    have hm := hB.mem (qlx (qas hF))
    simp only
    refine ⟨fun e he => ?_, by simp, ?_⟩
    ·simp at he
     subst he
     exact ⟨by simp only; omega, by simp only; omega, wordN_u _ _⟩
    ·have := qel (l := [((bkAt l (mFrom l i)).1, wordN (sumTo l (mFrom l i) (mTo l i - mFrom l i)) false)]) (lo := (bkAt l (mFrom l i)).1) (hi := (bkAt l (mFrom l i)).1) (fun e he => by simp at he; subst he; exact ⟨by simp, by simp⟩) (by omega)
     have e1 : linesP 2 0 0 = 1 := by decide
     rw [e1]; omega
theorem qf2 {ws : List Int} (h64 : qaE ws) {off : Int} {bs : List Int} : EdOK (imgWrite ws off bs).1 (linesP 4 0 bs.length) := by
 have h0 : 0 ≤ linesP 4 0 bs.length := qfN (sl := ⟨none, bs.length, 0⟩).1
 unfold imgWrite
 split
 ·exact EdOK.nil h0
 ·rename_i l hb
  have hB := qbl hb
  have hlen := hB.len
  split
  ·rename_i hw
   have hin := qcN hB hw
   unfold inside at hin
   obtain ⟨o, rfl⟩ := qlI hin.1
   rw [qlp]
   have hcur := qee bs ws o h64
   have hcl := qcK bs ws o
   by_cases hz : bs.length = 0
   ·have ht : touched o bs.length = 0 := by rw [hz]; rfl
    rw [ht]
    exact EdOK.nil h0
   have ht : touched o bs.length = (o + bs.length - 1) / 8 - o / 8 + 1 := by unfold touched; rw [if_neg hz]
   have hmem : ∀ e ∈ editsOf (putBs ws o bs) (o / 8) (touched o bs.length), ((o / 8 : Nat) : Int) ≤ e.1 ∧ e.1 ≤ (((o + bs.length - 1) / 8 : Nat) : Int) ∧ isU e.2 := by
    intro e he
    unfold editsOf at he
    rw [ql2] at he
    obtain ⟨j, hj, rfl⟩ := he
    rw [qml] at hj
    refine ⟨by simp only; omega, by simp only; omega, ?_⟩
    have hlt : o / 8 + j < (putBs ws o bs).length := by omega
    simp only
    rw [qlo, qln hlt, qlV]
    exact hcur _ (qlB hlt)
   simp only
   refine ⟨fun e he => ?_, by rw [qbm]; omega, ?_⟩
   ·have := hmem e he; exact ⟨by omega, by omega, this.2.2⟩
   ·have := qel (lo := ((o / 8 : Nat) : Int)) (hi := (((o + bs.length - 1) / 8 : Nat) : Int)) (fun e he => ⟨(hmem e he).1, (hmem e he).2.1⟩) (by omega)
    unfold linesP
    rw [if_neg (by omega), if_pos rfl, if_pos (by omega)]
    omega
  ·exact EdOK.nil h0
theorem qgw : ∀ (l : List (Int × Int)) (ws : List Int), qaE ws → (∀ e ∈ l, isU e.2) → qaE (applyE ws l) := by
 intro l
 induction l with
 | nil => intro ws h _; exact h
 | cons e r ih =>
  intro ws h he
  simp only [applyE, List.foldl_cons]
  refine ih _ ?_ fun e' he' => he e' (by simp [he'])
  unfold putE
  split
  ·intro v hv
   rcases qmw hv with hv | rfl
   ·exact h v hv
   ·exact he e (by simp)
  ·exact h
def OpAt (H : AH) (o : Nat) (K a b c : Int) (sl : Sl) : Prop := ∃ e, H.get o = ⟨opl K a b c sl, .rw, e⟩
section
variable {H : AH} {o : Nat} {K a b c : Int} {sl : Sl}
theorem OpAt.c0 (h : OpAt H o K a b c sl) : AH.cell? H (qlm ⟨o, 0, none⟩ 0) = some (.int .i64 K) := by obtain ⟨e, h⟩ := h; simp [qk, AH.cell?, h, opl]
theorem OpAt.c1 (h : OpAt H o K a b c sl) : AH.cell? H (qlm ⟨o, 0, none⟩ 1) = some (.int .i64 a) := by obtain ⟨e, h⟩ := h; simp [qk, AH.cell?, h, opl]
theorem OpAt.c2 (h : OpAt H o K a b c sl) : AH.cell? H (qlm ⟨o, 0, none⟩ 2) = some (.int .i64 b) := by obtain ⟨e, h⟩ := h; simp [qk, AH.cell?, h, opl]
theorem OpAt.c4 (h : OpAt H o K a b c sl) : AH.cell? H (qlm ⟨o, 0, none⟩ 4) = some sl.val := by obtain ⟨e, h⟩ := h; simp [qk, AH.cell?, h, opl]
theorem OpAt.row (h : OpAt H o K a b c sl) : AH.row? H ⟨o, 0, none⟩ 5 = some (opl K a b c sl) := by
 obtain ⟨e, h⟩ := h
 simp only [AH.row?, h, qlF, qlw, if_false, qmE]
 rw [if_neg (by simp), ql9 (by rw [op_len]; omega), if_pos ⟨by rw [op_len]; omega, op_ok⟩]
theorem OpAt.keep {H' : AH} (h : OpAt H o K a b c sl) (hg : H'.get o = H.get o) : OpAt H' o K a b c sl := by obtain ⟨e, h⟩ := h; exact ⟨e, hg.trans h⟩
theorem OpAt.new {e : Nat} : OpAt (H.push ⟨opl K a b c sl, .rw, e⟩) H.size K a b c sl := ⟨e, by rw [qs, if_pos rfl]⟩
end
section
variable {H : AH}
theorem qcf.s {n : Int} {k : Int → AH → Prop} (hn : isI n) (h : k (needN n) H) : qcf n H k := by
 unfold isI at hn
 refine qcf.link ?_
 unfold qcf.b qcf.j1
 unfold needN at h
 simp only [qi, decide_eq_true_eq]
 by_cases h1 : n < 1
 ·rw [if_pos h1]; rw [if_neg (by omega)] at h; exact h
 rw [if_neg h1]
 by_cases h2 : n > 448
 ·rw [if_pos h2]; rw [if_neg (by omega)] at h; exact h
 rw [if_neg h2]
 rw [if_pos (by omega)] at h
 refine ⟨by decide, ?_⟩
 rw [qg (n := n + 7) (by omega) (by omega), qlY (by omega), qg (n := (n + 7) / 8) (by omega) (by omega), qg (by omega) (by omega)]
 rw [show (n + 7) / 8 + 1 = 1 + (n + 7) / 8 by omega]
 exact h
theorem qbF.s {n : Int} {k : Bool → AH → Prop} (h : k (decide (mayS n)) H) : qbF n H k := by
 refine qbF.link ?_
 unfold qbF.b
 simp only [qi, decide_eq_true_eq]
 by_cases h1 : n ≥ 2
 ·rw [if_pos h1]
  by_cases h2 : n ≤ 512
  ·rw [decide_eq_true h2]; rw [decide_eq_true (show mayS n from ⟨h1, h2⟩)] at h; exact h
  ·rw [decide_eq_false h2]; rw [decide_eq_false (fun hh : mayS n => h2 hh.2)] at h; exact h
 ·rw [if_neg h1]; rw [decide_eq_false (fun hh : mayS n => h1 hh.1)] at h; exact h
theorem qbx.s {n : Int} {k : Bool → AH → Prop} (h : k (decide (mayW n)) H) : qbx n H k := by
 refine qbx.link ?_
 unfold qbx.b
 simp only [qi, decide_eq_true_eq]
 by_cases h1 : n ≥ 8
 ·rw [if_pos h1]
  by_cases h2 : n ≤ 512
  ·rw [if_pos h2]
   refine ⟨by decide, ?_⟩
   rw [qmt (by omega)]
   have e : (n % 8 == 0) = decide (mayW n) := by
    by_cases h3 : n % 8 = 0
    ·rw [decide_eq_true (show mayW n from ⟨h1, h2, h3⟩)]; simpa using h3
    ·rw [decide_eq_false (fun hh : mayW n => h3 hh.2.2)]; simpa using h3
   rw [e]; exact h
  ·rw [if_neg h2]; rw [decide_eq_false (fun hh : mayW n => h2 hh.2.1)] at h; exact h
 ·rw [if_neg h1]; rw [decide_eq_false (fun hh : mayW n => h1 hh.1)] at h; exact h
theorem qcg.s {a b : Int} {k : Int → AH → Prop} (ha : 0 ≤ a ∧ a ≤ 1000) (hb : 0 ≤ b ∧ b ≤ 1000) (h : k (takesN a b) H) : qcg a b H k := by
 refine qcg.link ?_
 unfold qcg.b qcg.j1
 unfold takesN at h
 simp only [qi, decide_eq_true_eq]
 by_cases h1 : b < 2
 ·rw [if_pos h1]; rw [if_neg (by omega)] at h; exact h
 rw [if_neg h1]
 by_cases h2 : b > a
 ·rw [if_pos h2]; rw [if_neg (by omega)] at h; exact h
 rw [if_neg h2]
 rw [if_pos (by omega)] at h
 rw [qg (n := a - b) (by omega) (by omega)]
 by_cases h3 : a - b < 2
 ·rw [if_pos h3]; rw [if_pos h3] at h; exact h
 ·rw [if_neg h3]; rw [if_neg h3] at h; exact h
theorem qb4.s {n : Int} {u : Bool} {k : Int → AH → Prop} (h : k (wordN n u) H) : qb4 n u H k := by
 refine qb4.link ?_
 unfold qb4.b
 refine qbF.s ?_
 unfold wordN at h
 by_cases h1 : mayS n
 ·rw [decide_eq_true h1, qlA, qa]
  rw [if_pos h1] at h
  refine ⟨by decide, ?_⟩
  rw [shl1 h1, or1 h1]
  cases u with
  | true => rw [qf]; exact h
  | false =>
   rw [qa]
   rw [if_neg (by simp), Int.add_zero] at h
   exact h
 ·rw [decide_eq_false h1, qlK, qf]
  rw [if_neg h1] at h
  exact h
theorem qcs.s {n : Int} {k : Sl → AH → Prop} (h : ∀ s H', qc H H' → Own H.size H' s 1 wU (firstN n) → k s H') : qcs n H k := by
 refine qcs.link ?_
 unfold qcs.b
 unfold firstN at h
 refine qbx.s ?_
 by_cases hm : mayW n
 rotate_left 1
 ·rw [decide_eq_false hm, qlK, qf]
  rw [if_neg hm] at h
  exact h _ _ (qc.refl H) (.inl ⟨rfl, rfl⟩)
 rw [decide_eq_true hm, qlA, qa]
 rw [if_pos hm] at h
 unfold mayW at hm
 refine ⟨by simp only [lim]; omega, ?_⟩
 rw [qv]
 obtain ⟨m, hm1⟩ : ∃ m : Nat, n.toNat = m + 1 := ⟨n.toNat - 1, by omega⟩
 rw [hm1] at h ⊢
 rw [Nat.add_sub_cancel] at h
 refine qb4.s ?_
 refine ⟨by omega, ?_⟩
 have hz : zerosOf (m + 1) [qlk .u64 0] = (qlq (m + 1) (0 : Int)).flatMap wU := by
  unfold zerosOf
  rw [List.flatMap_def, List.map_replicate]; rfl
 rw [hz]
 have hO : Own H.size (H.push ⟨(qlq (m + 1) (0 : Int)).flatMap wU, .rw, 1⟩) ⟨some ⟨H.size, 0, none⟩, m + 1, 1⟩ 1 wU (qlq (m + 1) 0) :=
  .inr ⟨H.size, by simp, qlu _, by simp [qm], by rw [qs, if_pos rfl]⟩
 have hk := (qc.refl H).push ⟨(qlq (m + 1) (0 : Int)).flatMap wU, .rw, 1⟩
 generalize H.push ⟨(qlq (m + 1) (0 : Int)).flatMap wU, .rw, 1⟩ = H1 at *
 obtain ⟨b', ha', hb1, hb2, hcan, hO', _⟩ := hO.put (i := 0) (x := 0) (y := wordN n false) (fun _ => rfl) (by simp) (j := 0) (by omega) (v := .int .u64 (wordN n false)) rfl
 simp only [qmu, Addr.mk.injEq, true_and, and_true] at ha'
 subst ha'
 rw [qk]
 refine ⟨hcan, ?_⟩
 exact h _ _ (hk.put hb1 _) hO'
theorem qbE.s {b : Bk} {k : Int → AH → Prop} (h : k (offN b.1) H) : qbE (bkV b) H k := by
 refine gcI (j := .i64) (offN b.1) (qbE.link ?_) h
 unfold qbE.b qbE.j1
 rw [qv]
 have hk := (qc.refl H).push ⟨bkV b, .rw, 0⟩
 have hB : BkAt (H.push ⟨bkV b, .rw, 0⟩) H.size b := BkAt.new
 generalize H.push ⟨bkV b, .rw, 0⟩ = H1 at *
 simp only [hB.c0, qe]
 unfold offN
 by_cases h1 : b.1 < 0
 ·rw [decide_eq_true h1, qf, qf, if_neg (by omega)]; exact ⟨hk, rfl⟩
 rw [decide_eq_false h1, qa]
 by_cases h2 : b.1 > 512
 ·rw [decide_eq_true h2, qf, if_neg (by omega)]; exact ⟨hk, rfl⟩
 rw [decide_eq_false h2, qa, if_pos (by omega), qg (n := b.1 + 1) (by omega) (by omega), qg (by omega) (by omega)]
 exact ⟨hk, rfl⟩
def fitG (l : List Bk) (need : Int) (j : Nat) : List Nat := if need < 2 then [] else fitsTo l need j
theorem qkv (l : List Bk) (need : Int) (i : Nat) : fitG l need (i + 1) = if need < 2 ∨ (bkAt l i).2.2 = true ∨ (bkAt l i).2.1 < need then fitG l need i else
 let out1 := if 0 < (fitG l need i).length ∧ (bkAt l ((fitG l need i).getD 0 0)).2.1 > (bkAt l i).2.1 then [] else fitG l need i
 if out1.length = 0 ∨ (bkAt l (out1.getD 0 0)).2.1 = (bkAt l i).2.1 then out1 ++ [i] else out1 := by
 unfold fitG
 by_cases h : need < 2
 ·simp [h]
 ·simp only [h, if_false, false_or]
  rw [qd7]; rfl
theorem qkJ {l : List Bk} {need : Int} {i j : Nat} (h : i ∈ fitG l need j) : i < j := by
 unfold fitG at h
 split at h
 ·cases h
 ·exact (qdt h).1
theorem qkY {l : List Bk} {need : Int} {j : Nat} : (fitG l need j).length ≤ j := by
 unfold fitG
 split
 ·exact qmp _
 ·exact qdS
theorem qaw.s {x0 : Sl} {need : Int} {l : List Bk} {k : Sl → AH → Prop} (hr : qlC H x0 3 bkV l) (hl : l.length ≤ 100000)
  (h : ∀ s H', qc H H' → Own H.size H' s 1 nV (fitsL l need) → k s H') : qaw x0 need H k := by
 refine qaw.link ?_
 unfold qaw.b
 refine qE (t := ((⟨none, 0, 0⟩, (0 : Int)) : Sl × Int)) (I := fun (t : Sl × Int) H' => ∃ i : Nat, t.2 = (i : Int) ∧ i ≤ l.length ∧ qc H H' ∧ Own H.size H' t.1 1 nV (fitG l need i)) (m := fun (t : Sl × Int) _ => qlr ((l.length : Int) - t.2)) ?_ ⟨0, rfl, by omega, qc.refl H, .inl ⟨rfl, by unfold fitG fitsTo; split <;> rfl⟩⟩
 intro t H1 hI it hit
 obtain ⟨s, t2⟩ := t
 obtain ⟨i, e1, hi, hk, hO⟩ := hI
 simp only at e1 hO
 subst e1
 unfold qaw.l5
 simp only [qi, decide_eq_true_eq, hr.1]
 by_cases hlt : (i : Int) < (l.length : Int)
 ·rw [if_pos hlt]
  have hi' : i < l.length := by omega
  obtain ⟨b, o, ha, hb, hcells⟩ := qam (hr.keep hk) (by omega)
  refine ⟨by omega, ?_⟩
  have hgi := qas hi'
  obtain ⟨hrow, _⟩ := hcells i _ hgi
  rw [ha, qd, qlp, qp hrow]
  have hstep := qkv l need i
  unfold fitStep at hstep
  simp only at hstep
  have hmem : ∀ j, j ∈ fitG l need i → j < l.length := fun j hj => by have := qkJ hj; omega
  have hlen := qkY (l := l) (need := need) (j := i)
  generalize hq : bkAt l i = q at *
  generalize fitG l need i = out at *
  refine qbC (n := 3) rfl (bkV_len q) (bkV_ok q) ?_
  have hB : BkAt (H1.push ⟨bkV q, .rw, 0⟩) H1.size q := BkAt.new
  have hk2 : qc H (H1.push ⟨bkV q, .rw, 0⟩) := hk.push _
  have hO2 : Own H.size (H1.push ⟨bkV q, .rw, 0⟩) s 1 nV out := hO.keep (by simp [qm]) (fun b _ hb => qO (by omega))
  have hcs : ∀ j x, l[j]? = some x → AH.cell? (H1.push ⟨bkV q, .rw, 0⟩) (qlm (qlm ⟨b, o, none⟩ (j * 3)) 1) = some (.int .i64 x.2.1) := fun j x hx => by
   have := (hcells j x hx).2 1 (.int .i64 x.2.1) rfl
   rw [qk, qk] at this ⊢
   rw [AH.cell?, qO (by show b ≠ H1.size; omega)]
   exact this
  generalize H1.push ⟨bkV q, .rw, 0⟩ = H2 at *
  have hwi : qll .i64 ((i : Int) + 1) = ((i + 1 : Nat) : Int) := by rw [qg (by omega) (by omega)]; omega
  have next : ∀ s' H', qc H H' → Own H.size H' s' 1 nV (fitG l need (i + 1)) → it (s', ((i + 1 : Nat) : Int)) H' := fun s' H' a b => hit _ _ ⟨i + 1, rfl, by omega, a, b⟩ (by simp only; omega)
  have oN : ∀ {s' : Sl} {o' : List Nat}, Own H.size H2 s' 1 nV o' → s'.n = o'.length := fun h => own_n h
  have j2 : ∀ (s' : Sl) (o' : List Nat), Own H.size H2 s' 1 nV o' → (∀ j, j ∈ o' → j < l.length) → o'.length ≤ i → fitG l need (i + 1) = (if o'.length = 0 ∨ (bkAt l (o'.getD 0 0)).2.1 = q.2.1 then o' ++ [i] else o') → qaw.j2 x0 (s, (i : Int)) it H1.size H2 s' := by
   intro s' o' hO' hm' hl' hst
   have j1 : ∀ x : Bool, (x = true ↔ (o'.length = 0 ∨ (bkAt l (o'.getD 0 0)).2.1 = q.2.1)) → qaw.j1 (s, (i : Int)) it H2 s' x := by
    intro x hx
    unfold qaw.j1
    rw [hwi, qi]
    by_cases hx' : x = true
    ·rw [if_pos hx', qv]
     rw [if_pos (hx.1 hx')] at hst
     refine qbh (H0 := H) (B := H.size) (f := nV) (x := i) (l := o') (fun _ => rfl) rfl hO' (qlu _) hk2.1 hk2 (by simp only [lim]; omega) ?_
     intro s'' H' hO'' hK' _ _
     rw [← hst] at hO''
     exact next _ _ hK' hO''
    ·rw [if_neg hx']
     rw [if_neg (fun hh => hx' (hx.2 hh))] at hst
     refine next _ _ hk2 ?_
     rw [hst]; exact hO'
   unfold qaw.j2
   simp only [qi, oN hO']
   by_cases h0 : o'.length = 0
   ·rw [if_pos (by simpa using h0)]
    exact j1 true (by simp [h0])
   ·rw [if_neg (by simpa using h0), hB.c1, qe]
    have hg0 : o'[0]? = some (o'.getD 0 0) := by rw [qlo, qln (by omega)]; rfl
    have hmem0 := hm' (o'.getD 0 0) (qlx hg0)
    obtain ⟨b0, ha0, _, _, hc0⟩ := hO'.cell (fun _ => rfl) hg0 (j := 0) (by omega)
    refine ⟨by omega, ?_⟩
    rw [ha0, qd, qk, show AH.cell? H2 ⟨b0, 0 + qlr 0 * 1, none⟩ = some (.int .i64 ((o'.getD 0 0 : Nat) : Int)) from hc0, qe, hr.1]
    refine ⟨by omega, ?_⟩
    rw [ha, qd, qlp, hcs _ _ (qas hmem0), qe]
    refine j1 _ ?_
    simp only [h0, false_or, beq_iff_eq]; exact eq_comm
  have j4 : ∀ x : Bool, (x = true ↔ (need < 2 ∨ q.2.2 = true ∨ q.2.1 < need)) → qaw.j4 x0 (s, (i : Int)) it H1.size H2 x := by
   intro x hx
   unfold qaw.j4
   rw [hwi]
   simp only [qi, decide_eq_true_eq]
   by_cases hx' : x = true
   ·rw [if_pos hx']
    rw [if_pos (hx.1 hx')] at hstep
    exact next _ _ hk2 (by rw [hstep]; exact hO2)
   ·rw [if_neg hx']
    rw [if_neg (fun hh => hx' (hx.2 hh))] at hstep
    have j3 : ∀ y : Bool, (y = true ↔ (0 < out.length ∧ (bkAt l (out.getD 0 0)).2.1 > q.2.1)) → qaw.j3 x0 (s, (i : Int)) it H1.size H2 y := by
     intro y hy
     unfold qaw.j3
     rw [qi]
     by_cases hy' : y = true
     ·rw [if_pos hy']
      rw [if_pos (hy.1 hy')] at hstep
      exact j2 _ [] (.inl ⟨rfl, rfl⟩) (fun j hj => by cases hj) (qmp _) hstep
     ·rw [if_neg hy']
      rw [if_neg (fun hh => hy' (hy.2 hh))] at hstep
      exact j2 _ out hO2 hmem hlen hstep
    rw [oN hO2]
    by_cases h0 : (out.length : Int) > 0
    ·rw [if_pos h0, hB.c1, qe]
     have hg0 : out[0]? = some (out.getD 0 0) := by rw [qlo, qln (by omega)]; rfl
     have hmem0 := hmem (out.getD 0 0) (qlx hg0)
     obtain ⟨b0, ha0, _, _, hc0⟩ := hO2.cell (fun _ => rfl) hg0 (j := 0) (by omega)
     refine ⟨by omega, ?_⟩
     rw [ha0, qd, qk, show AH.cell? H2 ⟨b0, 0 + qlr 0 * 1, none⟩ = some (.int .i64 ((out.getD 0 0 : Nat) : Int)) from hc0, qe, hr.1]
     refine ⟨by omega, ?_⟩
     rw [ha, qd, qlp, hcs _ _ (qas hmem0), qe]
     refine j3 _ ?_
     rw [decide_eq_true_eq]
     exact ⟨fun hh => ⟨by omega, hh⟩, fun hh => hh.2⟩
    ·rw [if_neg h0]
     refine j3 false ?_
     constructor
     ·intro hh; cases hh
     ·intro hh; omega
  by_cases hn : need < 2
  ·rw [if_pos hn]; exact j4 true (by simp [hn])
  rw [if_neg hn]
  simp only [hB.c2, qaW]
  by_cases hu : q.2.2 = true
  ·rw [if_pos hu]; exact j4 true (by simp [hu])
  ·rw [if_neg hu, hB.c1, qe]
   refine j4 _ ?_
   rw [decide_eq_true_eq]
   exact ⟨fun hh => .inr (.inr hh), fun hh => (hh.resolve_left hn).resolve_left hu⟩
 ·rw [if_neg hlt]
  have : i = l.length := by omega
  subst this
  exact h _ _ hk hO
theorem qbM.s {v : Int} {k : Int → Bool → Bool → AH → Prop} (hv : isU v) (h1 : mayS (v / 2) → k (v / 2) (v % 2 == 1) true H) (h0 : ¬ mayS (v / 2) → k 0 false false H) : qbM v H k := by
 have hv' := hv
 unfold isU at hv'
 refine qbM.link ?_
 unfold qbM.b qbM.j1
 rw [shr1 hv'.1, and1w hv]
 simp only [qi, decide_eq_true_eq]
 refine ⟨by decide, ?_⟩
 by_cases a2 : v / 2 > 512
 ·rw [if_pos a2]; exact h0 (fun hh => by unfold mayS at hh; omega)
 rw [if_neg a2]
 refine ⟨by decide, ?_⟩
 rw [qg (n := v / 2) (by omega) (by omega)]
 refine qbF.s ?_
 by_cases a1 : mayS (v / 2)
 ·rw [decide_eq_true a1, if_neg (by simp)]; exact ⟨by decide, h1 a1⟩
 ·rw [decide_eq_false a1, if_pos (by simp)]; exact h0 a1
theorem qax.s {x0 : Sl} {words : Int} {l : List Bk} {k : Bool → AH → Prop} (hr : qlC H x0 3 bkV l) (hl : l.length ≤ 100000) (hok : ∀ b ∈ l, 0 ≤ b.2.1 ∧ b.2.1 ≤ 100000) (hw : 0 ≤ words ∧ words ≤ 100000) (h : k (decide (MayB l words)) H) : qax x0 words H k := by
 refine gcB (decide (MayB l words)) (qax.link ?_) h
 unfold qax.b
 refine qbx.s ?_
 by_cases hm : mayW words
 rotate_left 1
 ·rw [decide_eq_false hm, qlK, qf]
  exact ⟨qc.refl H, (decide_eq_false (fun hh : MayB l words => hm hh.1)).symm⟩
 rw [decide_eq_true hm, qlA, qa]
 refine qE (t := ((false, (0 : Int), false, (0 : Int)) : Bool × Int × Bool × Int)) (I := fun (t : Bool × Int × Bool × Int) H' => ∃ i : Nat, t.2.2.2 = (i : Int) ∧ t.2.2.1 = !puAt l i ∧ i ≤ l.length ∧ qc H H' ∧ 0 ≤ t.2.1 ∧ t.2.1 ≤ words ∧ (MayB l words ↔ chainB words t.2.1 (puAt l i) (l.drop i))) (m := fun (t : Bool × Int × Bool × Int) _ => qlr ((l.length : Int) - t.2.2.2)) ?_ ⟨0, rfl, rfl, by omega, qc.refl H, by simp only; omega, by simp only; omega, ⟨fun hh => hh.2, fun hh => ⟨hm, hh⟩⟩⟩
 intro t H1 hI it hit
 obtain ⟨t1, pt, t4, t3⟩ := t
 obtain ⟨i, e1, e4, hi, hk, hp0, hp1, hiff⟩ := hI
 simp only at e1 e4 hp0 hp1 hiff
 subst e1 e4
 unfold qax.l2
 simp only [qi, decide_eq_true_eq, hr.1]
 by_cases hlt : (i : Int) < (l.length : Int)
 ·rw [if_pos hlt]
  have hi' : i < l.length := by omega
  obtain ⟨b, o, ha, hb, hcells⟩ := qam (hr.keep hk) (by omega)
  refine ⟨by omega, ?_⟩
  obtain ⟨hrow, _⟩ := hcells i l[i] (qln hi')
  have hq := hok _ (qlB hi')
  rw [ha, qd, qlp, qp hrow]
  rw [qdi hi'] at hiff
  have hpu : puAt l (i + 1) = l[i].2.2 := by simp [puAt, qlo, hi']
  generalize hqq : l[i] = q at *
  refine qbC (n := 3) rfl (bkV_len q) (bkV_ok q) ?_
  have hB : BkAt (H1.push ⟨bkV q, .rw, 0⟩) H1.size q := BkAt.new
  have hk2 : qc H (H1.push ⟨bkV q, .rw, 0⟩) := hk.push _
  have hc2 : ∀ j x, l[j]? = some x → AH.cell? (H1.push ⟨bkV q, .rw, 0⟩) (qlm (qlm ⟨b, o, none⟩ (j * 3)) 2) = some (.bool x.2.2) := fun j x hx => by
   have := (hcells j x hx).2 2 (.bool x.2.2) rfl
   rw [qk, qk] at this ⊢
   rw [AH.cell?, qO (by show b ≠ H1.size; omega)]
   exact this
  generalize H1.push ⟨bkV q, .rw, 0⟩ = H2 at *
  have no : ¬ chainB words pt (puAt l i) (q :: l.drop (i + 1)) → qax.j1 (fun r H' => qc H H' ∧ r = decide (MayB l words)) (t1, pt, (!puAt l i), (i : Int)) it H1.size true H2 := by
   intro hn
   unfold qax.j1
   rw [qf]
   exact ⟨hk2, (decide_eq_false (fun hh => hn (hiff.1 hh))).symm⟩
  simp only [hB.c0, qe]
  by_cases c1 : q.1 = pt
  rotate_left 1
  ·rw [if_pos (by simpa using c1)]; exact no (fun hh => c1 hh.1)
  rw [if_neg (by simpa using c1)]
  simp only [hB.c1, qe]
  refine qbF.s ?_
  by_cases c2 : mayS q.2.1
  rotate_left 1
  ·rw [decide_eq_false c2, if_pos (by simp)]; exact no (fun hh => c2 hh.2.1)
  rw [decide_eq_true c2, if_neg (by simp)]
  have fin : q.2.1 ≤ words - pt → (puAt l i = true ∨ q.2.2 = true) → qax.j1 (fun r H' => qc H H' ∧ r = decide (MayB l words)) (t1, pt, (!puAt l i), (i : Int)) it H1.size false H2 := by
   intro c3 hor
   unfold qax.j1
   rw [qa, hB.c1, qe, qg (n := pt + q.2.1) (by omega) (by omega), qg (n := (i : Int) + 1) (by omega) (by omega), hB.c2, qaW]
   refine hit _ _ ⟨i + 1, by simp, by simp only; rw [hpu], by omega, hk2, by simp only; omega, by simp only; omega, ?_⟩ (by simp only; omega)
   simp only
   rw [hpu, hiff]
   exact ⟨fun hh => hh.2.2.2.2, fun hh => ⟨c1, c2, by omega, hor, hh⟩⟩
  have rest : (puAt l i = true ∨ q.2.2 = true) → qax.j1 (fun r H' => qc H H' ∧ r = decide (MayB l words)) (t1, pt, (!puAt l i), (i : Int)) it H1.size (decide (q.2.1 > qll .i64 (words - pt))) H2 := by
   intro hor
   rw [qg (n := words - pt) (by omega) (by omega)]
   by_cases c3 : q.2.1 > words - pt
   ·rw [decide_eq_true c3]; exact no (fun hh => by have := hh.2.2.1; omega)
   ·rw [decide_eq_false c3]; exact fin (by omega) hor
  by_cases c4 : puAt l i = true
  ·rw [if_neg (by simp [c4])]
   rw [hB.c1, qe]; exact rest (.inl c4)
  ·rw [if_pos (by simpa using c4)]
   rw [hB.c2, qaW]
   by_cases c5 : q.2.2 = true
   ·rw [if_neg (by simp [c5]), hB.c1, qe]; exact rest (.inr c5)
   ·rw [if_pos (by simpa using c5)]
    exact no (fun hh => by have := hh.2.2.2.1; simp_all)
 ·rw [if_neg hlt]
  have : i = l.length := by omega
  subst this
  refine ⟨hk, ?_⟩
  rw [qmI] at hiff
  by_cases hpw : pt = words
  ·rw [decide_eq_true (hiff.2 hpw)]; simpa using hpw
  ·rw [decide_eq_false (fun hh => hpw (hiff.1 hh))]; simpa using hpw
theorem qab.s {x0 : Sl} {ws : List Int} {k : Sl → Bool → AH → Prop} (hr : qlC H x0 1 wU ws) (h64 : qaE ws) (hl : ws.length ≤ 1000)
  (h1 : ∀ l, blocksN ws = some l → ∀ s H', qc H H' → Own H.size H' s 3 bkV l → k s true H') (h0 : blocksN ws = none → ∀ H', qc H H' → k ⟨none, 0, 0⟩ false H') : qab x0 H k := by
 refine qab.link ?_
 unfold qab.b
 refine qE (t := ((⟨none, 0, 0⟩, false, ⟨none, 0, 0⟩, (0 : Int)) : Sl × Bool × Sl × Int)) (I := fun (t : Sl × Bool × Sl × Int) H' => ∃ (pt : Nat) (acc : List Bk), t.2.2.2 = (pt : Int) ∧ pt ≤ ws.length + 512 ∧ 2 * acc.length ≤ pt ∧ qc H H' ∧ Own H.size H' t.2.2.1 3 bkV acc ∧ (∀ b ∈ acc, 0 ≤ b.2.1 ∧ b.2.1 ≤ 100000) ∧ blkFrom ws 0 = (blkFrom ws pt).map (acc ++ ·)) (m := fun (t : Sl × Bool × Sl × Int) _ => qlr ((ws.length : Int) - t.2.2.2)) ?_
  ⟨0, [], rfl, by omega, by simp, qc.refl H, .inl ⟨rfl, rfl⟩, by simp, by simp⟩
 intro t H1 hI it hit
 obtain ⟨u1, u2, u3, u4⟩ := t
 obtain ⟨pt, acc, e1, hp, ha, hk, hO, hok, hb⟩ := hI
 simp only at e1 hO
 subst e1
 unfold qab.l2
 simp only [qi, decide_eq_true_eq, hr.1]
 by_cases hlt : (pt : Int) < (ws.length : Int)
 ·rw [if_pos hlt]
  have hlt' : pt < ws.length := by omega
  obtain ⟨b1, o1, ha1, _, hc1⟩ := qbG (g := fun v => qlk .u64 v) (hr.keep hk) (i := pt) hlt'
  refine ⟨by omega, ?_⟩
  rw [ha1, qd, qlp, hc1, qe]
  have hg : ws.getD pt 0 = ws[pt] := by rw [qlo, qln hlt']; rfl
  have hv : isU ws[pt] := h64 _ (qlB hlt')
  rw [qc4 ws pt, dif_pos hlt', hg] at hb
  generalize ws[pt] = v at *
  refine qbM.s hv ?_ ?_
  ·intro hm
   rw [dif_pos hm] at hb
   have hm' := hm
   unfold mayS at hm'
   rw [if_neg (by simp)]
   refine ⟨rfl, ?_⟩
   rw [qv]
   have hbk : [qlk .i64 (pt : Int), qlk .i64 (v / 2), qlW (v % 2 == 1)] = bkV ((pt : Int), v / 2, (v % 2 == 1)) := rfl
   rw [hbk]
   refine qbh (H0 := H) (B := H.size) (f := bkV) (x := ((pt : Int), v / 2, (v % 2 == 1))) (l := acc) bkV_len (bkV_ok _) hO (qlu _) hk.1 hk (by simp only [lim]; omega) ?_
   intro s' H' hO' hK' _ _
   have e2 : (pt : Int) + v / 2 = ((pt + (v / 2).toNat : Nat) : Int) := by omega
   rw [qg (n := (pt : Int) + v / 2) (by omega) (by omega), e2]
   refine hit _ _ ⟨pt + (v / 2).toNat, acc ++ [((pt : Int), v / 2, (v % 2 == 1))], rfl, by omega, by simp; omega, hK', hO', ?_, ?_⟩ (by simp only; omega)
   ·intro b hb'
    rw [qlD] at hb'
    rcases hb' with hb' | hb'
    ·exact hok b hb'
    ·simp at hb'; subst hb'; simp only; omega
   ·rw [hb, Option.map_map]
    congr 1
    funext r
    simp
  ·intro hm
   rw [dif_neg hm] at hb
   rw [if_pos (by simp)]
   refine h0 ?_ _ hk
   unfold blocksN
   rw [hb]; rfl
 ·rw [if_neg hlt]
  have hb' : blkFrom ws 0 = some acc := by
   rw [hb, qc4 ws pt, dif_neg (by omega)]
   simp
  unfold qab.j1
  rw [hr.1]
  refine qax.s (hO.rows bkV_len bkV_ok) (by omega) hok (by omega) ?_
  by_cases hm : MayB acc (ws.length : Int)
  ·rw [decide_eq_true hm, qlA, qa]
   refine h1 acc ?_ _ _ hk hO
   unfold blocksN
   rw [hb', qmH, if_pos hm]
  ·rw [decide_eq_false hm, qlK, qf]
   refine h0 ?_ _ hk
   unfold blocksN
   rw [hb', qmH, if_neg hm]
end
section
variable {H : AH}
theorem qbZ.s {b : Bk} {x1 : Sl} {cs : List Int} {k : Int → AH → Prop} (hr : qlC H x1 1 iV cs) (hp : b.1 ≤ 100000) (h : k (countN b.1 cs) H) : qbZ (bkV b) x1 H k := by
 refine gcI (j := .i64) (countN b.1 cs) (qbZ.link ?_) h
 unfold qbZ.b qbZ.j1
 rw [qv]
 have hk := (qc.refl H).push ⟨bkV b, .rw, 0⟩
 have hB : BkAt (H.push ⟨bkV b, .rw, 0⟩) H.size b := BkAt.new
 have hr' := hr.keep hk
 generalize H.push ⟨bkV b, .rw, 0⟩ = H1 at *
 simp only [hB.c0, qe]
 unfold countN
 simp only [qi, decide_eq_true_eq, hr.1]
 generalize b.1 = pt at *
 by_cases h1 : pt < 0
 ·rw [if_pos h1, if_pos (.inl h1)]; exact ⟨hk, rfl⟩
 rw [if_neg h1, qlY (by omega), qg (n := pt / 32) (by omega) (by omega)]
 refine ⟨by decide, ?_⟩
 by_cases h2 : pt / 32 ≥ (cs.length : Int)
 ·rw [if_pos h2, if_pos (.inr h2)]; exact ⟨hk, rfl⟩
 ·rw [if_neg h2, if_neg (by omega)]
  obtain ⟨b, o, ha, _, hc⟩ := qbG (g := fun v => qlk .i64 v) hr' (i := (pt / 32).toNat) (by omega)
  refine ⟨by decide, by omega, ?_⟩
  rw [ha, qd, hc, qe]
  rw [qlo, qln (show (pt / 32).toNat < cs.length by omega), qlV]
  exact ⟨hk, rfl⟩
theorem qa7.s {x0 x2 : Sl} {need : Int} {l : List Bk} {cs : List Int} {k : Int → AH → Prop} (hr : qlC H x0 3 bkV l) (hl : l.length ≤ 1000) (hok : ∀ b ∈ l, 0 ≤ b.1 ∧ b.1 ≤ 100000) (hcs : qlC H x2 1 iV cs)
  (h : k (chooseN l need cs) H) : qa7 x0 need x2 H k := by
 refine gcI (j := .i64) (chooseN l need cs) (qa7.link ?_) h
 unfold qa7.b
 refine qaw.s hr (by omega) ?_
 intro s12 H12 hk12 hO12
 have hr2 := hr.keep hk12
 have hcs2 := hcs.keep hk12
 have hRf := hO12.rows (fun _ => rfl) (fun _ => rfl)
 have hmem : ∀ j, j ∈ fitsL l need → j < l.length := fun j hj => by
  unfold fitsL at hj
  split at hj
  ·cases hj
  ·exact (qdt hj).1
 have hlen : (fitsL l need).length ≤ l.length := by
  unfold fitsL
  split
  ·exact qmp _
  ·exact qdS
 unfold chooseN
 generalize fitsL l need = f at *
 refine qE (t := (((-1 : Int), (0 : Int)) : Int × Int)) (I := fun (t : Int × Int) H' => ∃ i : Nat, t.2 = (i : Int) ∧ i ≤ f.length ∧ H' = H12 ∧ t.1 = (f.take i).foldl (chStep l cs) (-1)) (m := fun (t : Int × Int) _ => qlr ((f.length : Int) - t.2)) ?_ ⟨0, rfl, by omega, rfl, rfl⟩
 intro t H1 hI it hit
 obtain ⟨best, t2⟩ := t
 obtain ⟨i, e1, hi, rfl, e2⟩ := hI
 simp only at e1 e2
 subst e1
 unfold qa7.l2
 simp only [qi, decide_eq_true_eq, hRf.1]
 by_cases hlt : (i : Int) < (f.length : Int)
 ·rw [if_pos hlt]
  have hi' : i < f.length := by omega
  obtain ⟨b0, o0, ha0, _, hc0⟩ := qbG (g := fun v : Nat => qlk .i64 (v : Int)) hRf (i := i) hi'
  refine ⟨by omega, ?_⟩
  rw [ha0, qd, qlp, hc0, qe]
  have hfi := hmem _ (qlB hi')
  have htk : (f.take (i + 1)).foldl (chStep l cs) (-1) = chStep l cs best f[i] := by
   rw [qmB, qln hi', qmz, List.foldl_append, e2]; rfl
  have hbest : best = -1 ∨ ∃ b : Nat, best = (b : Int) ∧ b < l.length := by
   rw [e2]
   rcases qei (l := l) (cs := cs) (f := f.take i) (b := -1) with h | ⟨j, hj, h⟩
   ·exact .inl h
   ·exact .inr ⟨j, h, hmem j (List.mem_of_mem_take hj)⟩
  generalize f[i] = y at *
  have hwi : qll .i64 ((i : Int) + 1) = ((i + 1 : Nat) : Int) := by rw [qg (by omega) (by omega)]; omega
  rw [hwi]
  unfold chStep at htk
  have yes : (best < 0 ∨ countN (bkAt l y).1 cs < countN (bkAt l best.toNat).1 cs ∨ (countN (bkAt l y).1 cs = countN (bkAt l best.toNat).1 cs ∧ (bkAt l y).1 < (bkAt l best.toNat).1)) → it ((y : Int), ((i + 1 : Nat) : Int)) H1 := fun hx => by
   rw [if_pos hx] at htk
   exact hit _ _ ⟨i + 1, rfl, by omega, rfl, htk.symm⟩ (by simp only; omega)
  have j1 : ∀ x : Bool, (x = true ↔ (best < 0 ∨ countN (bkAt l y).1 cs < countN (bkAt l best.toNat).1 cs ∨ (countN (bkAt l y).1 cs = countN (bkAt l best.toNat).1 cs ∧ (bkAt l y).1 < (bkAt l best.toNat).1))) → qa7.j1 (best, (i : Int)) it (y : Int) H1 x := by
   intro x hx
   unfold qa7.j1
   rw [hwi, qi]
   by_cases hx' : x = true
   ·rw [if_pos hx']; exact yes (hx.1 hx')
   ·rw [if_neg hx']
    rw [if_neg (fun hh => hx' (hx.2 hh))] at htk
    exact hit _ _ ⟨i + 1, rfl, by omega, rfl, htk.symm⟩ (by simp only; omega)
  rcases hbest with hb | ⟨bb, hb, hbl⟩
  ·rw [if_pos (by omega)]
   exact yes (.inl (by omega))
  ·rw [if_neg (by omega), hr.1]
   subst hb
   rw [qlp] at j1
   obtain ⟨b, o, ha, hbz, hcells⟩ := qam hr2 (by omega)
   have hgy := qas hfi
   have hgb := qas hbl
   have ry := (hcells y _ hgy).1
   have rb := (hcells bb _ hgb).1
   have cy : AH.cell? H1 (qlm (qlm ⟨b, o, none⟩ (y * 3)) 0) = some (.int .i64 (bkAt l y).1) := (hcells y _ hgy).2 0 _ rfl
   have cb : AH.cell? H1 (qlm (qlm ⟨b, o, none⟩ (bb * 3)) 0) = some (.int .i64 (bkAt l bb).1) := (hcells bb _ hgb).2 0 _ rfl
   have oy := (hok _ (qlx hgy)).2
   have ob := (hok _ (qlx hgb)).2
   generalize bkAt l y = qy at *
   generalize bkAt l bb = qb at *
   have rg : (0 ≤ (y : Int) ∧ (y : Int) < (l.length : Int)) ∧ (0 ≤ (bb : Int) ∧ (bb : Int) < (l.length : Int)) := by omega
   refine ⟨rg.1, ?_⟩
   simp only [ha, qd, qlp]
   rw [qp ry]
   refine ⟨rg.2, ?_⟩
   rw [qp rb]
   refine qbZ.s hcs2 oy ⟨rb, ?_⟩
   refine qbZ.s hcs2 ob ?_
   by_cases c1 : countN qy.1 cs < countN qb.1 cs
   ·rw [if_pos c1]
    exact j1 true ⟨fun _ => .inr (.inl c1), fun _ => rfl⟩
   ·rw [if_neg c1]
    by_cases c2 : countN qy.1 cs = countN qb.1 cs
    ·rw [if_pos (by simpa using c2)]
     simp only [cy, cb, qe]
     refine ⟨rg.1, rg.2, j1 _ ?_⟩
     rw [decide_eq_true_eq]
     exact ⟨fun hh => .inr (.inr ⟨c2, hh⟩), fun hh => by rcases hh with hh | hh | hh; omega; exact absurd hh c1; exact hh.2⟩
    ·rw [if_neg (by simpa using c2)]
     exact j1 false ⟨fun hh => (by cases hh), fun hh => by rcases hh with hh | hh | hh; omega; exact absurd hh c1; exact absurd hh.1 c2⟩
 ·rw [if_neg hlt]
  have : i = f.length := by omega
  subst this
  rw [qmh] at e2
  exact ⟨hk12, e2⟩
theorem qbU.s {q : Bk} {a : Addr} {off : Int} {k : Bool → AH → Prop} (ha : AH.cell? H a = some (.int .i64 off)) (hab : a.1 < H.size) (h : k (decide (q.2.2 = true ∧ offN q.1 = off)) H) : qbU (bkV q) (some a) H k := by
 refine gcB (decide (q.2.2 = true ∧ offN q.1 = off)) (qbU.link ?_) h
 unfold qbU.b
 rw [qv]
 have hk := (qc.refl H).push ⟨bkV q, .rw, 0⟩
 have hB : BkAt (H.push ⟨bkV q, .rw, 0⟩) H.size q := BkAt.new
 have ha' : AH.cell? (H.push ⟨bkV q, .rw, 0⟩) a = some (.int .i64 off) := by
  rw [AH.cell?, qO (by omega)]; exact ha
 generalize H.push ⟨bkV q, .rw, 0⟩ = H1 at *
 simp only [hB.c2, qaW, qi]
 by_cases hu : q.2.2 = true
 ·rw [if_pos hu, qp hB.row]
  rw [qd, ha', qe]
  refine qbE.s ⟨ha', hk, ?_⟩
  simp only [hu, true_and]
  by_cases h1 : offN q.1 = off <;> simp [h1]
 ·rw [if_neg hu]
  exact ⟨hk, (decide_eq_false (fun hh => hu hh.1)).symm⟩
end
def isUsed (ws : List Int) (off : Int) : Bool := match blocksN ws with | some l => decide (0 ≤ isN off l 0) | none => false
def imgRead (ws : List Int) (off n : Int) : List Int × Int :=
 match blocksN ws with
 | none => ([], 6)
 | some l => if withinN l off n then (bytesOf ws off.toNat n.toNat, 0) else ([], 1)
def imgHolds (ws : List Int) (off n : Int) : Int :=
 match blocksN ws with
 | none => 6
 | some l => if withinN l off n then 0 else 1
section
variable {H : AH}
theorem qeW.s {x0 : Sl} {a : Addr} {off : Int} {l : List Bk} {k : Int → AH → Prop} (hr : qlC H x0 3 bkV l) (hl : l.length ≤ 1000) (ha : AH.cell? H a = some (.int .i64 off)) (hab : a.1 < H.size)
  (h : k (isN off l 0) H) : qC x0 (some a) H k := by
 refine gcI (j := .i64) (isN off l 0) (qC.link ?_) h
 unfold qC.b
 refine qE (t := (((0 : Int), (0 : Int)) : Int × Int)) (I := fun (t : Int × Int) H' => ∃ i : Nat, t.2 = (i : Int) ∧ i ≤ l.length ∧ H' = H ∧ isN off l 0 = isN off (l.drop i) i) (m := fun (t : Int × Int) _ => qlr ((l.length : Int) - t.2)) ?_ ⟨0, rfl, by omega, rfl, rfl⟩
 intro t H1 hI it hit
 obtain ⟨t1, t2⟩ := t
 obtain ⟨i, e1, hi, rfl, he⟩ := hI
 simp only at e1
 subst e1
 unfold qC.l1
 simp only [qi, decide_eq_true_eq, hr.1]
 by_cases hlt : (i : Int) < (l.length : Int)
 ·rw [if_pos hlt]
  have hi' : i < l.length := by omega
  obtain ⟨b, o, ha', hb, hcells⟩ := qam hr (by omega)
  refine ⟨by omega, ?_⟩
  obtain ⟨hrow, _⟩ := hcells i l[i] (qln hi')
  rw [ha', qd, qlp, qp hrow]
  rw [qdi hi'] at he
  simp only [isN] at he
  generalize l[i] = q at *
  refine qbU.s ha hab ?_
  rw [qg (n := (i : Int) + 1) (by omega) (by omega)]
  by_cases hq : q.2.2 = true ∧ offN q.1 = off
  ·rw [if_pos (by simpa using hq)]
   rw [if_pos hq] at he
   exact ⟨qc.refl _, he.symm⟩
  ·rw [if_neg (by simpa using hq)]
   rw [if_neg hq] at he
   exact hit _ _ ⟨i + 1, by simp, by omega, rfl, he⟩ (by simp only; omega)
 ·rw [if_neg hlt]
  have : i = l.length := by omega
  subst this
  rw [qmI] at he
  exact ⟨qc.refl _, he.symm⟩
theorem qcm.s {x0 : Sl} {off : Int} {ws : List Int} {k : Sl → Int → AH → Prop} (hr : qlC H x0 1 wU ws) (h64 : qaE ws) (hl : ws.length ≤ 1000)
  (h1 : ∀ l, blocksN ws = some l → ∀ s H', qc H H' → Own H.size H' s 3 bkV l → k s (isN off l 0) H') (h0 : blocksN ws = none → ∀ H', qc H H' → k ⟨none, 0, 0⟩ (-1) H') : qcm x0 off H k := by
 refine qcm.link ?_
 unfold qcm.b
 rw [qv]
 have hk := (qc.refl H).push ⟨[(qlk .i64 off)], .rw, 0⟩
 have hc : AH.cell? (H.push ⟨[(qlk .i64 off)], .rw, 0⟩) ⟨H.size, 0, none⟩ = some (.int .i64 off) := by simp [AH.cell?, qs]
 have hs : H.size < (H.push ⟨[(qlk .i64 off)], .rw, 0⟩).size := by simp [qm]
 generalize H.push ⟨[(qlk .i64 off)], .rw, 0⟩ = H1 at *
 have keep : ∀ {H'}, qc H1 H' → AH.cell? H' ⟨H.size, 0, none⟩ = some (.int .i64 off) ∧ H.size < H'.size := fun hk' => by
  refine ⟨?_, by have := hk'.1; omega⟩
  rw [← hc]; simp only [AH.cell?, hk'.2 _ hs]
 refine qab.s (hr.keep hk) h64 hl ?_ ?_
 ·intro l hb s H' hk' hO
  have hB := qbl hb
  have hlen := hB.len
  refine qeW.s (hO.rows bkV_len bkV_ok) (by omega) (keep hk').1 (keep hk').2 ?_
  exact h1 l hb _ _ (hk.trans hk') (qbT hO hk.1)
 ·intro hb H' hk'
  refine qeW.s (l := []) qkr (by simp) (keep hk').1 (keep hk').2 ?_
  exact h0 hb _ (hk.trans hk')
theorem qcB.s {x0 : Sl} {off : Int} {ws : List Int} {k : Bool → AH → Prop} (hr : qlC H x0 1 wU ws) (h64 : qaE ws) (hl : ws.length ≤ 1000)
  (h : k (isUsed ws off) H) : qcB x0 off H k := by
 refine gcB (isUsed ws off) (qcB.link ?_) h
 unfold qcB.b isUsed
 refine qcm.s hr h64 hl ?_ ?_
 ·intro l hb s H' hk _
  rw [hb]; exact ⟨hk, rfl⟩
 ·intro hb H' hk
  rw [hb]; exact ⟨hk, rfl⟩
theorem qbH.s {q : Bk} {a1 a2 : Addr} {off n : Int} {k : Bool → AH → Prop} (ha1 : AH.cell? H a1 = some (.int .i64 off)) (hb1 : a1.1 < H.size) (ha2 : AH.cell? H a2 = some (.int .i64 n)) (hb2 : a2.1 < H.size)
  (hn : 0 ≤ n ∧ n ≤ 448) (hq : 0 ≤ q.1 ∧ q.1 ≤ 100000 ∧ 0 ≤ q.2.1 ∧ q.2.1 ≤ 100000) (h : k (decide (inB off n q)) H) : qbH (bkV q) (some a1) (some a2) H k := by
 refine gcB (decide (inB off n q)) (qbH.link ?_) h
 unfold qbH.b
 rw [qv]
 have hk := (qc.refl H).push ⟨bkV q, .rw, 0⟩
 have hB : BkAt (H.push ⟨bkV q, .rw, 0⟩) H.size q := BkAt.new
 have ha1' : AH.cell? (H.push ⟨bkV q, .rw, 0⟩) a1 = some (.int .i64 off) := by rw [AH.cell?, qO (by omega)]; exact ha1
 have ha2' : AH.cell? (H.push ⟨bkV q, .rw, 0⟩) a2 = some (.int .i64 n) := by rw [AH.cell?, qO (by omega)]; exact ha2
 generalize H.push ⟨bkV q, .rw, 0⟩ = H1 at *
 simp only [hB.c2, qaW, qi, decide_eq_true_eq]
 by_cases hu : q.2.2 = true
 ·rw [if_pos hu, qd, ha1', qe, qp hB.row]
  refine qbE.s ⟨ha1', ?_⟩
  by_cases c1 : off ≥ offN q.1
  ·rw [if_pos c1, qd, ha1', qe, hB.c0, qe, hB.c1, qe, qd, ha2', qe]
   refine ⟨hk, ?_⟩
   rw [qg (n := q.1 + q.2.1) (by omega) (by omega), qg (n := (q.1 + q.2.1) * 8) (by omega) (by omega), qg (n := (q.1 + q.2.1) * 8 - n) (by omega) (by omega)]
   congr 1
   apply propext
   constructor
   ·intro hh; exact ⟨hu, c1, by omega, by omega⟩
   ·intro hh; have := hh.2.2.2; omega
  ·rw [if_neg c1]
   exact ⟨hk, (decide_eq_false (fun hh => c1 hh.2.1)).symm⟩
 ·rw [if_neg hu]
  exact ⟨hk, (decide_eq_false (fun hh => hu hh.1)).symm⟩
theorem qfE.s {x0 : Sl} {a1 a2 : Addr} {off n : Int} {l : List Bk} {k : Bool → AH → Prop} (hr : qlC H x0 3 bkV l) (hl : l.length ≤ 1000) (ha1 : AH.cell? H a1 = some (.int .i64 off)) (hb1 : a1.1 < H.size) (ha2 : AH.cell? H a2 = some (.int .i64 n)) (hb2 : a2.1 < H.size)
  (hn : 0 ≤ n ∧ n ≤ 448) (hok : ∀ b ∈ l, 0 ≤ b.1 ∧ b.1 ≤ 100000 ∧ 0 ≤ b.2.1 ∧ b.2.1 ≤ 100000) (h : k (decide (withinN l off n)) H) : qX x0 (some a1) (some a2) H k := by
 refine qX.link ?_
 unfold qX.b
 have main : ∀ v : Int, (0 ≤ v ↔ withinN l off n) → (∀ k' : Int → AH → Prop, k' v H → qw x0 (some a1) (some a2) H k') → qw x0 (some a1) (some a2) H fun n7 H7 => k (decide ((n7 : Int) ≥ (0 : Int))) H7 := by
  intro v hv hk
  refine hk _ ?_
  rw [show decide (v ≥ 0) = decide (withinN l off n) by congr 1; exact propext hv]
  exact h
 -- the first place
 have key : ∃ v : Int, (0 ≤ v ↔ withinN l off n) ∧ (∀ k' : Int → AH → Prop, k' v H → qw x0 (some a1) (some a2) H k') := by
  let fst : List Bk → Nat → Int := fun l => l.rec (fun _ => -1) (fun q _ ih i => if inB off n q then (i : Int) else ih (i + 1))
  have f0 : ∀ i, fst [] i = -1 := fun _ => rfl
  have f1 : ∀ q r i, fst (q :: r) i = if inB off n q then (i : Int) else fst r (i + 1) := fun _ _ _ => rfl
  refine ⟨fst l 0, ?_, ?_⟩
  ·have : ∀ (r : List Bk) i, 0 ≤ fst r i ↔ ∃ b ∈ r, inB off n b := by
    intro r
    induction r with
    | nil => intro i; rw [f0 i]; simp
    | cons q r ih =>
     intro i
     rw [f1]
     by_cases hq : inB off n q
     ·rw [if_pos hq]; simp [hq]
     ·rw [if_neg hq, ih]; simp [hq]
   rw [this l 0]
   exact ⟨fun hh => ⟨hn.1, hn.2, hh⟩, fun hh => hh.2.2⟩
  ·intro k' hk'
   refine gcI (j := .i64) (fst l 0) (qw.link ?_) hk'
   unfold qw.b
   refine qE (t := (((0 : Int), (0 : Int)) : Int × Int)) (I := fun (t : Int × Int) H' => ∃ i : Nat, t.2 = (i : Int) ∧ i ≤ l.length ∧ H' = H ∧ fst l 0 = fst (l.drop i) i) (m := fun (t : Int × Int) _ => qlr ((l.length : Int) - t.2)) ?_ ⟨0, rfl, by omega, rfl, rfl⟩
   intro t H1 hI it hit
   obtain ⟨t1, t2⟩ := t
   obtain ⟨i, e1, hi, rfl, he⟩ := hI
   simp only at e1
   subst e1
   unfold qw.l1
   simp only [qi, decide_eq_true_eq, hr.1]
   by_cases hlt : (i : Int) < (l.length : Int)
   ·rw [if_pos hlt]
    have hi' : i < l.length := by omega
    obtain ⟨b, o, ha', hb, hcells⟩ := qam hr (by omega)
    refine ⟨by omega, ?_⟩
    obtain ⟨hrow, _⟩ := hcells i l[i] (qln hi')
    rw [ha', qd, qlp, qp hrow]
    rw [qdi hi', f1] at he
    have hqq := hok _ (qlB hi')
    generalize l[i] = q at *
    refine qbH.s ha1 hb1 ha2 hb2 hn hqq ?_
    rw [qg (n := (i : Int) + 1) (by omega) (by omega)]
    by_cases hq : inB off n q
    ·rw [if_pos (by simpa using hq)]
     rw [if_pos hq] at he
     exact ⟨qc.refl _, he.symm⟩
    ·rw [if_neg (by simpa using hq)]
     rw [if_neg hq] at he
     exact hit _ _ ⟨i + 1, by simp, by omega, rfl, he⟩ (by simp only; omega)
   ·rw [if_neg hlt]
    have : i = l.length := by omega
    subst this
    rw [qmI] at he
    exact ⟨qc.refl _, he.symm⟩
 obtain ⟨v, hv, hk⟩ := key
 exact main v hv hk
theorem qbO.s {x0 : Sl} {off n : Int} {ws : List Int} {l : List Bk} {k : Bool → AH → Prop} (hr : qlC H x0 1 wU ws) (h64 : qaE ws) (hl : ws.length ≤ 1000) (hbl : blocksN ws = some l)
  (h : k (decide (withinN l off n)) H) : qbO x0 off n H k := by
 refine gcB (decide (withinN l off n)) (qbO.link ?_) h
 unfold qbO.b
 rw [qv, qv]
 have hk := ((qc.refl H).push ⟨[(qlk .i64 off)], .rw, 0⟩).push ⟨[(qlk .i64 n)], .rw, 0⟩
 rw [qm]
 have hc1 : AH.cell? ((H.push ⟨[(qlk .i64 off)], .rw, 0⟩).push ⟨[(qlk .i64 n)], .rw, 0⟩) ⟨H.size, 0, none⟩ = some (.int .i64 off) := by simp [AH.cell?, qs, qm]
 have hc2 : AH.cell? ((H.push ⟨[(qlk .i64 off)], .rw, 0⟩).push ⟨[(qlk .i64 n)], .rw, 0⟩) ⟨H.size + 1, 0, none⟩ = some (.int .i64 n) := by simp [AH.cell?, qs, qm]
 have hs : H.size + 1 < ((H.push ⟨[(qlk .i64 off)], .rw, 0⟩).push ⟨[(qlk .i64 n)], .rw, 0⟩).size := by simp [qm]
 generalize (H.push ⟨[(qlk .i64 off)], .rw, 0⟩).push ⟨[(qlk .i64 n)], .rw, 0⟩ = H1 at *
 simp only [hc2, qe, qi, decide_eq_true_eq]
 unfold qbO.j1
 by_cases c1 : n < 0
 ·rw [if_pos c1, qf]; exact ⟨hk, (decide_eq_false (fun hh => by have := hh.1; omega)).symm⟩
 rw [if_neg c1]
 by_cases c2 : n > 448
 ·rw [decide_eq_true c2, qf]; exact ⟨hk, (decide_eq_false (fun hh => by have := hh.2.1; omega)).symm⟩
 rw [decide_eq_false c2, qa]
 refine qab.s (hr.keep hk) h64 hl ?_ (fun hb => by rw [hbl] at hb; cases hb)
 intro l' hb s H' hk' hO
 obtain rfl := Option.some.inj (hbl.symm.trans hb)
 have hB := qbl hbl
 have hlen := hB.len
 have cc : ∀ b v, b < H1.size → AH.cell? H1 ⟨b, 0, none⟩ = some v → AH.cell? H' ⟨b, 0, none⟩ = some v := fun b v hb hv => by rw [← hv]; simp only [AH.cell?, hk'.2 _ hb]
 refine qfE.s (hO.rows bkV_len bkV_ok) (by omega) (cc _ _ (by omega) hc1) (by have := hk'.1; show H.size < _; omega) (cc _ _ (by omega) hc2) (by have := hk'.1; show H.size + 1 < _; omega) (by omega) (fun b hb => by have := hB.mem hb; omega) ?_
 exact ⟨hk.trans hk', rfl⟩
theorem qcb.s {x0 : Sl} {off n : Int} {ws : List Int} {k : Int → AH → Prop} (hr : qlC H x0 1 wU ws) (h64 : qaE ws) (hl : ws.length ≤ 1000)
  (h : k (imgHolds ws off n) H) : qcb x0 off n H k := by
 refine gcI (j := .i64) (imgHolds ws off n) (qcb.link ?_) h
 unfold qcb.b imgHolds
 refine qab.s hr h64 hl ?_ ?_
 ·intro l hb s H' hk _
  rw [hb, qlA, qa]
  refine qbO.s (hr.keep hk) h64 hl hb ?_
  simp only
  by_cases hw : withinN l off n
  ·rw [decide_eq_true hw, qlA, qa, if_pos hw]; exact ⟨hk, rfl⟩
  ·rw [decide_eq_false hw, qlK, qf, if_neg hw]; exact ⟨hk, rfl⟩
 ·intro hb H' hk
  rw [hb, qlK, qf]; exact ⟨hk, rfl⟩
theorem qcD.s {x0 : Sl} {off n : Int} {ws : List Int} {k : Sl → Int → AH → Prop} (hr : qlC H x0 1 wU ws) (h64 : qaE ws) (hl : ws.length ≤ 1000) (ho : isI off)
  (h : ∀ s H', qc H H' → Own H.size H' s 1 bU (imgRead ws off n).1 → k s (imgRead ws off n).2 H') : qcD x0 off n H k := by
 unfold isI at ho
 refine qcD.link ?_
 unfold qcD.b
 refine qcb.s hr h64 hl ?_
 unfold imgRead at h
 unfold imgHolds
 cases hb : blocksN ws with
 | none =>
  rw [hb] at h
  exact h _ _ (qc.refl H) (.inl ⟨rfl, rfl⟩)
 | some l =>
  rw [hb] at h
  simp only at h ⊢
  by_cases hw : withinN l off n
  ·rw [if_pos hw] at h ⊢
   refine qb9.s hr h64 (by omega) (by omega) ?_ (fun hn => absurd (qcN (qbl hb) hw) hn)
   intro _ s H' hk hO
   exact h _ _ hk hO
  ·rw [if_neg hw] at h ⊢
   exact h _ _ (qc.refl H) (.inl ⟨rfl, rfl⟩)
theorem qcu.s {x0 x2 : Sl} {off : Int} {ws bs : List Int} {k : Sl → Int → AH → Prop} (hr : qlC H x0 1 wU ws) (h64 : qaE ws) (hl : ws.length ≤ 1000) (ho : isI off) (hb : qlC H x2 1 bU bs) (h8 : qbB bs)
  (h : ∀ s H', qc H H' → Own H.size H' s 2 eU (imgWrite ws off bs).1 → k s (imgWrite ws off bs).2 H') : qcu x0 off x2 H k := by
 unfold isI at ho
 refine qcu.link ?_
 unfold qcu.b
 rw [hb.1]
 refine qcb.s hr h64 hl ?_
 unfold imgWrite at h
 unfold imgHolds
 cases hbk : blocksN ws with
 | none =>
  rw [hbk] at h
  exact h _ _ (qc.refl H) (.inl ⟨rfl, rfl⟩)
 | some l =>
  rw [hbk] at h
  simp only at h ⊢
  by_cases hw : withinN l off bs.length
  ·rw [if_pos hw] at h ⊢
   refine qaH.s hr h64 (by omega) hb h8 (by omega) ?_ (fun hn => absurd (qcN (qbl hbk) hw) hn)
   intro _ s H' hk hO
   exact h _ _ hk hO
  ·rw [if_neg hw] at h ⊢
   exact h _ _ (qc.refl H) (.inl ⟨rfl, rfl⟩)
end
theorem qjp (b : Bk) (r : List Bk) : ∀ j, sumTo (b :: r) 0 (j + 1) = b.2.1 + sumTo r 0 j := by
 intro j
 induction j with
 | zero => simp [sumTo, bkAt]
 | succ j ih =>
  rw [sumTo, ih]
  simp only [sumTo, qlJ]
  have : bkAt (b :: r) (j + 1) = bkAt r j := rfl
  rw [this]; omega
theorem chainB.sum {words : Int} : ∀ {l : List Bk} {pt : Int} {pu : Bool}, chainB words pt pu l → ∀ j, j ≤ l.length → 0 ≤ sumTo l 0 j ∧ pt + sumTo l 0 j ≤ words ∧ (j = l.length → pt + sumTo l 0 j = words) := by
 intro l
 induction l with
 | nil => intro pt pu h j hj; simp only [chainB] at h; simp at hj; subst hj; simp [sumTo]; omega
 | cons b r ih =>
  intro pt pu h j hj
  have hs := h.2.1
  unfold mayS at hs
  cases j with
  | zero => have := ih h.2.2.2.2 0 (by omega); simp [sumTo] at this ⊢; omega
  | succ j =>
   have := ih h.2.2.2.2 j (by simpa using hj)
   rw [qjp]
   refine ⟨by omega, by omega, fun hh => ?_⟩
   have := this.2.2 (by simpa using hh)
   omega
theorem MayB.sum {l : List Bk} {words : Int} (h : MayB l words) {j : Nat} (hj : j ≤ l.length) : 0 ≤ sumTo l 0 j ∧ sumTo l 0 j ≤ 512 := by
 have := h.2.sum j hj
 have := h.len
 omega
theorem qj2 (l : List Bk) (F : Nat) : ∀ j, sumTo l 0 (F + j) = sumTo l 0 F + sumTo l F j := by
 intro j
 induction j with
 | zero => simp [sumTo]
 | succ j ih => rw [← Nat.add_assoc]; simp only [sumTo]; rw [ih, qlJ]; omega
theorem qjG (l : List Bk) {F n : Nat} (h : F + n ≤ l.length) : ∀ j, j ≤ n → sumTo ((l.drop F).take n) 0 j = sumTo l F j := by
 intro j
 induction j with
 | zero => intro _; rfl
 | succ j ih =>
  intro hj
  simp only [sumTo, qlJ]
  rw [ih (by omega)]
  congr 2
  unfold bkAt
  rw [qlo, qlo, qmd, if_pos (by omega), qme]
def takenL (b : Bk) (need : Int) : List Bk := (b.1, takesN b.2.1 need, true) :: (if takesN b.2.1 need < b.2.1 then [(b.1 + takesN b.2.1 need, b.2.1 - takesN b.2.1 need, false)] else [])
def preE (b : Bk) (j : Nat) : List (Int × Int) := if b.2.2 = true then carveTo b.1 b.2.1 j else [(b.1, wordN b.2.1 false)]
def eOf (b : Bk) : List (Int × Int) := preE b b.2.1.toNat
theorem qid (b : Bk) (need : Int) : carveE b need = (takenL b need).flatMap eOf := by
 unfold carveE takenL
 rw [ql7]
 congr 1
 by_cases h : takesN b.2.1 need < b.2.1
 ·rw [if_pos h, if_pos h]; rfl
 ·rw [if_neg h, if_neg h]; rfl
section
variable {H : AH}
theorem qaQ.s {x0 : Sl} {l : List Bk} {k : Int → AH → Prop} (hr : qlC H x0 3 bkV l) (hl : l.length ≤ 1000) (hm : ∀ b ∈ l, mayS b.2.1) (hs : ∀ j, j ≤ l.length → 0 ≤ sumTo l 0 j ∧ sumTo l 0 j ≤ 512)
  (h : k (sumTo l 0 l.length) H) : qaQ x0 H k := by
 refine gcI (j := .i64) (sumTo l 0 l.length) (qaQ.link ?_) h
 unfold qaQ.b
 refine qE (t := (((0 : Int), (0 : Int), (0 : Int)) : Int × Int × Int)) (I := fun (t : Int × Int × Int) H' => ∃ i : Nat, t.2.2 = (i : Int) ∧ i ≤ l.length ∧ qc H H' ∧ t.2.1 = sumTo l 0 i) (m := fun (t : Int × Int × Int) _ => qlr ((l.length : Int) - t.2.2)) ?_ ⟨0, rfl, by omega, qc.refl H, rfl⟩
 intro t H1 hI it hit
 obtain ⟨t1, pt, t3⟩ := t
 obtain ⟨i, e1, hi, hk, e2⟩ := hI
 simp only at e1 e2
 subst e1 e2
 unfold qaQ.l2
 simp only [qi, decide_eq_true_eq, hr.1]
 by_cases hlt : (i : Int) < (l.length : Int)
 ·rw [if_pos hlt]
  have hi' : i < l.length := by omega
  obtain ⟨b, o, ha, hb, hcells⟩ := qam (hr.keep hk) (by omega)
  refine ⟨by omega, ?_⟩
  have hgi := qas hi'
  obtain ⟨hrow, _⟩ := hcells i _ hgi
  rw [ha, qd, qlp, qp hrow]
  have hmq := hm _ (qlx hgi)
  have hs0 := hs i (by omega)
  have hs1 := hs (i + 1) (by omega)
  have hS : sumTo l 0 (i + 1) = sumTo l 0 i + (bkAt l i).2.1 := by simp only [sumTo, qlJ]
  generalize bkAt l i = q at *
  refine qbC (n := 3) rfl (bkV_len q) (bkV_ok q) ?_
  have hB : BkAt (H1.push ⟨bkV q, .rw, 0⟩) H1.size q := BkAt.new
  have hk2 : qc H (H1.push ⟨bkV q, .rw, 0⟩) := hk.push _
  generalize H1.push ⟨bkV q, .rw, 0⟩ = H2 at *
  simp only [hB.c1, qe]
  refine qbF.s ?_
  rw [decide_eq_true hmq, if_neg (by simp)]
  unfold qaQ.j1
  rw [decide_eq_false (show ¬ sumTo l 0 i > 512 by omega), qa, hB.c1, qe, qg (n := sumTo l 0 i + q.2.1) (by omega) (by omega), qg (n := (i : Int) + 1) (by omega) (by omega)]
  exact hit _ _ ⟨i + 1, by simp, by omega, hk2, hS.symm⟩ (by simp only; omega)
 ·rw [if_neg hlt]
  have : i = l.length := by omega
  subst this
  exact ⟨hk, rfl⟩
theorem qa9.s {x0 : Sl} {l : List Bk} {k : Int → AH → Prop} (hr : qlC H x0 3 bkV l) (hl : l.length ≤ 1000) (hm : ∀ b ∈ l, mayS b.2.1) (hs : ∀ j, j ≤ l.length → 0 ≤ sumTo l 0 j ∧ sumTo l 0 j ≤ 512)
  (h : k (sumTo l 0 l.length) H) : qa9 x0 H k := by
 refine gcI (j := .i64) (sumTo l 0 l.length) (qa9.link ?_) h
 unfold qa9.b
 refine qE (t := (((0 : Int), (0 : Int), (0 : Int)) : Int × Int × Int)) (I := fun (t : Int × Int × Int) H' => ∃ i : Nat, t.2.2 = (i : Int) ∧ i ≤ l.length ∧ qc H H' ∧ t.2.1 = sumTo l 0 i) (m := fun (t : Int × Int × Int) _ => qlr ((l.length : Int) - t.2.2)) ?_ ⟨0, rfl, by omega, qc.refl H, rfl⟩
 intro t H1 hI it hit
 obtain ⟨t1, pt, t3⟩ := t
 obtain ⟨i, e1, hi, hk, e2⟩ := hI
 simp only at e1 e2
 subst e1 e2
 unfold qa9.l2
 simp only [qi, decide_eq_true_eq, hr.1]
 by_cases hlt : (i : Int) < (l.length : Int)
 ·rw [if_pos hlt]
  have hi' : i < l.length := by omega
  obtain ⟨b, o, ha, hb, hcells⟩ := qam (hr.keep hk) (by omega)
  refine ⟨by omega, ?_⟩
  have hgi := qas hi'
  obtain ⟨hrow, _⟩ := hcells i _ hgi
  rw [ha, qd, qlp, qp hrow]
  have hmq := hm _ (qlx hgi)
  have hs0 := hs i (by omega)
  have hs1 := hs (i + 1) (by omega)
  have hS : sumTo l 0 (i + 1) = sumTo l 0 i + (bkAt l i).2.1 := by simp only [sumTo, qlJ]
  generalize bkAt l i = q at *
  refine qbC (n := 3) rfl (bkV_len q) (bkV_ok q) ?_
  have hB : BkAt (H1.push ⟨bkV q, .rw, 0⟩) H1.size q := BkAt.new
  have hk2 : qc H (H1.push ⟨bkV q, .rw, 0⟩) := hk.push _
  generalize H1.push ⟨bkV q, .rw, 0⟩ = H2 at *
  simp only [hB.c1, qe]
  refine qbF.s ?_
  rw [decide_eq_true hmq, if_neg (by simp)]
  unfold qa9.j1
  rw [decide_eq_false (show ¬ sumTo l 0 i > 512 by omega), qa, hB.c1, qe, qg (n := sumTo l 0 i + q.2.1) (by omega) (by omega), qg (n := (i : Int) + 1) (by omega) (by omega)]
  exact hit _ _ ⟨i + 1, by simp, by omega, hk2, hS.symm⟩ (by simp only; omega)
 ·rw [if_neg hlt]
  have : i = l.length := by omega
  subst this
  exact ⟨hk, rfl⟩
theorem MayB.mays {l : List Bk} {words : Int} (hB : MayB l words) : ∀ b ∈ l, mayS b.2.1 := fun b hb => (hB.2.mem b hb).2.2
theorem MayB.tot {l : List Bk} {words : Int} (hB : MayB l words) : sumTo l 0 l.length = words := by
 have := (hB.2.sum l.length (qlu _)).2.2 rfl; omega
theorem qbt.s {x0 : Sl} {need words : Int} {l : List Bk} {i : Nat} {k : Sl → AH → Prop} (hr : qlC H x0 3 bkV l) (hB : MayB l words) (hi : i < l.length) (hu : (bkAt l i).2.2 = false) (hn : 2 ≤ need ∧ need ≤ (bkAt l i).2.1)
  (h : ∀ s H', qc H H' → Own H.size H' s 3 bkV (takenL (bkAt l i) need) → k s H') : qbt x0 (i : Int) need H k := by
 have hlen := hB.len
 have hgi := qas hi
 have hm := hB.mem (qlx hgi)
 refine qbt.link ?_
 unfold qbt.b
 refine qa9.s hr (by omega) hB.mays (fun j hj => hB.sum hj) ?_
 rw [hB.tot]
 refine qax.s hr (by omega) (fun b hb => by have := hB.mem hb; omega) (by have := hB.1; unfold mayW at this; omega) ?_
 rw [decide_eq_true hB, qlA, qa]
 obtain ⟨b, o, ha, hb, hcells⟩ := qam hr (by omega)
 obtain ⟨hrow, hcell⟩ := hcells i _ hgi
 have c2 := hcell 2 _ rfl
 generalize bkAt l i = q at *
 have hti : qlr (i : Int) = i := qlp i
 have htk : takesN q.2.1 need ≠ 0 ∧ 2 ≤ takesN q.2.1 need ∧ takesN q.2.1 need ≤ q.2.1 := by
  unfold takesN; rw [if_pos ⟨hn.1, hn.2⟩]; split <;> omega
 simp only [qi, decide_eq_true_eq, hr.1, ha, qd, hti, c2, qaW]
 rw [if_neg (by omega), if_neg (by omega)]
 refine ⟨by omega, ?_⟩
 unfold qbt.j1
 rw [hu, qa, hr.1]
 refine ⟨by omega, ?_⟩
 simp only [ha, qd, hti]
 rw [qp hrow]
 refine qbC (n := 3) rfl (bkV_len q) (bkV_ok q) ?_
 have hBk : BkAt (H.push ⟨bkV q, .rw, 0⟩) H.size q := BkAt.new
 have hk : qc H (H.push ⟨bkV q, .rw, 0⟩) := (qc.refl H).push _
 have hsz : H.size < (H.push ⟨bkV q, .rw, 0⟩).size := by simp [qm]
 generalize H.push ⟨bkV q, .rw, 0⟩ = H1 at *
 rw [hBk.c1, qe]
 refine qcg.s (by omega) (by omega) ?_
 unfold takenL at h
 generalize takesN q.2.1 need = tk at *
 rw [show (tk == 0) = false by simp [htk.1], qa, hBk.c0, qe]
 refine ⟨rfl, ?_⟩
 rw [qv]
 have e1 : [qlk .i64 q.1, qlk .i64 tk, qlW true] = bkV (q.1, tk, true) := rfl
 rw [e1]
 have hO : Own H1.size (H1.push ⟨bkV (q.1, tk, true), .rw, 3⟩) ⟨some ⟨H1.size, 0, none⟩, 1, 1⟩ 3 bkV [(q.1, tk, true)] := .inr ⟨H1.size, rfl, qlu _, by simp [qm], by rw [qs, if_pos rfl]; rfl⟩
 have hk2 : qc H1 (H1.push ⟨bkV (q.1, tk, true), .rw, 3⟩) := (qc.refl H1).push _
 have hB2 : BkAt (H1.push ⟨bkV (q.1, tk, true), .rw, 3⟩) H.size q := hBk.keep (hk2.2 _ hsz)
 generalize H1.push ⟨bkV (q.1, tk, true), .rw, 3⟩ = H2 at *
 simp only [hB2.c1, hB2.c0, qe, qi, decide_eq_true_eq]
 by_cases hc : tk < q.2.1
 ·rw [if_pos hc] at h ⊢
  refine ⟨rfl, ?_⟩
  rw [qv, qg (n := q.1 + tk) (by omega) (by omega), qg (n := q.2.1 - tk) (by omega) (by omega)]
  have e2 : [qlk .i64 (q.1 + tk), qlk .i64 (q.2.1 - tk), qlW false] = bkV (q.1 + tk, q.2.1 - tk, false) := rfl
  rw [e2]
  refine qbh (H0 := H1) (B := H1.size) bkV_len (bkV_ok _) hO (qlu _) hk2.1 hk2 (by simp [lim]) ?_
  intro s' H' hO' hk' _ _
  exact h _ _ (hk.trans hk') (qbT hO' hk.1)
 ·rw [if_neg hc] at h ⊢
  exact h _ _ (hk.trans hk2) (qbT hO hk.1)
end
section
variable {H : AH}
theorem qf8 (a b : Int) {j : Nat} (hj : 1 ≤ j) : (carveTo a b j).length = j := by unfold carveTo; simp; omega
theorem qaD.s {x0 : Sl} {need words : Int} {l : List Bk} {i : Nat} {k : Sl → AH → Prop} (hr : qlC H x0 3 bkV l) (hB : MayB l words) (hi : i < l.length) (hu : (bkAt l i).2.2 = false) (hn : 2 ≤ need ∧ need ≤ (bkAt l i).2.1)
  (h : ∀ s H', qc H H' → Own H.size H' s 2 eU (carveE (bkAt l i) need) → k s H') : qaD x0 (i : Int) need H k := by
 have hgi := qas hi
 have hm := hB.mem (qlx hgi)
 have hlen := hB.len
 refine qaD.link ?_
 unfold qaD.b
 refine qbt.s hr hB hi hu hn ?_
 intro s14 H14 hk14 hO14
 rw [qid] at h
 have hR := hO14.rows bkV_len bkV_ok
 generalize bkAt l i = q at *
 have htk : 2 ≤ takesN q.2.1 need ∧ takesN q.2.1 need ≤ q.2.1 := by
  unfold takesN; rw [if_pos ⟨hn.1, hn.2⟩]; split <;> omega
 have htok : ∀ b ∈ takenL q need, 0 ≤ b.1 ∧ b.1 ≤ 1000 ∧ 1 ≤ b.2.1 ∧ b.2.1 ≤ 512 := by
  intro b hb
  unfold takenL at hb
  rw [qlL] at hb
  rcases hb with rfl | hb
  ·simp only; omega
  ·split at hb
   ·simp at hb; subst hb; simp only; omega
   ·cases hb
 have htl : (takenL q need).length ≤ 2 := by unfold takenL; split <;> simp
 have eOl : ∀ b ∈ takenL q need, (eOf b).length ≤ 512 := by
  intro b hb
  have := htok b hb
  unfold eOf preE
  split
  ·rw [qf8 _ _ (by omega)]; omega
  ·simp
 generalize takenL q need = tl at *
 have accl : ∀ j, j ≤ tl.length → ((tl.take j).flatMap eOf).length ≤ 512 * j := by
  intro j
  induction j with
  | zero => intro _; simp
  | succ j ih =>
   intro hj
   have := ih (by omega)
   rw [qmB, qln (by omega), qmz, qmC, ql5]
   have := eOl _ (qlB (show j < tl.length by omega))
   simp only [ql7, List.flatMap_nil, List.append_nil]; omega
 refine qE (t := ((⟨none, 0, 0⟩, (0 : Int)) : Sl × Int)) (I := fun (t : Sl × Int) H' => ∃ j : Nat, t.2 = (j : Int) ∧ j ≤ tl.length ∧ qc H14 H' ∧ Own H14.size H' t.1 2 eU ((tl.take j).flatMap eOf)) (m := fun (t : Sl × Int) _ => qlr ((tl.length : Int) - t.2)) ?_ ⟨0, rfl, by omega, qc.refl _, .inl ⟨rfl, by simp⟩⟩
 intro t H1 hI it hit
 obtain ⟨s, t2⟩ := t
 obtain ⟨j, e1, hj, hk, hO⟩ := hI
 simp only at e1 hO
 subst e1
 unfold qaD.l3
 simp only [qi, decide_eq_true_eq, hR.1]
 by_cases hlt : (j : Int) < (tl.length : Int)
 ·rw [if_pos hlt]
  have hj' : j < tl.length := by omega
  obtain ⟨b, o, ha, hb, hcells⟩ := qam (hR.keep hk) (by omega)
  refine ⟨by omega, ?_⟩
  have hg := qln hj'
  obtain ⟨hrow, _⟩ := hcells j _ hg
  rw [ha, qd, qlp, qp hrow]
  have hq := htok _ (qlB hj')
  have hacc := accl j (by omega)
  have hnext : (tl.take (j + 1)).flatMap eOf = (tl.take j).flatMap eOf ++ eOf tl[j] := by
   rw [qmB, hg, qmz, qmC]; simp
  generalize tl[j] = c at *
  generalize (tl.take j).flatMap eOf = acc at *
  refine qbC (n := 3) rfl (bkV_len c) (bkV_ok c) ?_
  have hC : BkAt (H1.push ⟨bkV c, .rw, 0⟩) H1.size c := BkAt.new
  have hk2 : qc H14 (H1.push ⟨bkV c, .rw, 0⟩) := hk.push _
  have hkk : qc H1 (H1.push ⟨bkV c, .rw, 0⟩) := (qc.refl H1).push _
  have hsz : H1.size < (H1.push ⟨bkV c, .rw, 0⟩).size := by simp [qm]
  have hO2 : Own H14.size (H1.push ⟨bkV c, .rw, 0⟩) s 2 eU acc := hO.keep hkk.1 (fun b _ hb => hkk.2 _ hb)
  have hs1 : ∀ a, s.a = some a → a.block < H1.size := by
   intro a ha'
   rcases hO with ⟨rfl, _⟩ | ⟨b', rfl, _, h2, _⟩
   ·cases ha'
   ·simp at ha'; subst ha'; exact h2
  generalize hoo : H1.size = oc at *
  generalize H1.push ⟨bkV c, .rw, 0⟩ = H2 at *
  simp only [hC.c0, hC.c1, hC.c2, qe, qaW]
  refine qb4.s ⟨hC.c0, rfl, ?_⟩
  rw [qv]
  have e1 : [qlk .i64 c.1, qlk .u64 (wordN c.2.1 c.2.2)] = eU (c.1, wordN c.2.1 c.2.2) := rfl
  rw [e1]
  have hpre1 : preE c 1 = [(c.1, wordN c.2.1 c.2.2)] := by
   unfold preE
   by_cases hu : c.2.2 = true
   ·rw [if_pos hu, hu]; rfl
   ·rw [if_neg hu]
    have : c.2.2 = false := by simpa using hu
    rw [this]
  refine qbh (H0 := H14) (B := H14.size) eU_len (eU_ok _) hO2 (qlu _) hk2.1 hk2 (by simp only [lim]; omega) ?_
  intro s30 H30 hO30 hk30 hsz30 hold30
  rw [← hpre1] at hO30
  have hC30 : BkAt H30 oc c := hC.keep (hold30 _ hsz (fun a ha' => by have := hs1 a ha'; omega))
  have hwi : qll .i64 ((j : Int) + 1) = ((j + 1 : Nat) : Int) := by rw [qg (by omega) (by omega)]; omega
  have fin : ∀ s' H', qc H14 H' → Own H14.size H' s' 2 eU (acc ++ eOf c) → it (s', ((j + 1 : Nat) : Int)) H' := by
   intro s' H' hk' hO'
   rw [← hnext] at hO'
   exact hit _ _ ⟨j + 1, rfl, by omega, hk', hO'⟩ (by simp only; omega)
  refine qE (t := ((s30, (1 : Int)) : Sl × Int)) (I := fun (t : Sl × Int) H' => ∃ m : Nat, t.2 = (m : Int) ∧ 1 ≤ m ∧ (m : Int) ≤ c.2.1 ∧ qc H14 H' ∧ BkAt H' oc c ∧ Own H14.size H' t.1 2 eU (acc ++ preE c m) ∧ oc < H'.size ∧ (∀ a, t.1.a = some a → a.block ≠ oc)) (m := fun (t : Sl × Int) _ => qlr (c.2.1 - t.2)) ?_ ⟨1, rfl, by omega, by omega, hk30, hC30, hO30, by omega, ?_⟩
  rotate_left 1
  ·intro a ha' hab
   rcases hO30 with ⟨e, _⟩ | ⟨b', e, _, h2, h3⟩
   ·simp only at ha'; rw [e] at ha'; cases ha'
   ·simp only at ha'; rw [e] at ha'; simp at ha'; subst ha'
    simp only at hab; subst hab
    obtain ⟨e', he'⟩ := hC30
    rw [he'] at h3
    injection h3 with h3
    have := congrArg qly h3
    rw [bkV_len] at this
    simp only [qmC, ql5] at this
    have e4 : ∀ l : List (Int × Int), (l.flatMap eU).length = 2 * l.length := by
     intro l; induction l with
     | nil => rfl
     | cons a r ih => rw [ql7, ql5, ih, eU_len]; simp; omega
    rw [e4, e4] at this; omega
  intro t3 H3 hI3 it3 hit3
  obtain ⟨s3, m3⟩ := t3
  obtain ⟨m, e3, hm1, hm2, hk3, hC3, hO3, hsz3, hne3⟩ := hI3
  simp only at e3 hO3 hne3
  subst e3
  unfold qaD.l2
  simp only [hC3.c1, hC3.c2, qe, qaW, qi, decide_eq_true_eq]
  have hpl : (preE c m).length ≤ 512 := by
   unfold preE; split
   ·rw [qf8 _ _ hm1]; omega
   ·simp
  have stop : ((m : Int) = c.2.1 ∨ c.2.2 = false) → qaD.j1 (s, (j : Int)) it oc (s3, (m : Int)) it3 H3 false := by
   intro hh
   unfold qaD.j1
   rw [qa, hwi]
   refine fin _ _ hk3 ?_
   have : eOf c = preE c m := by
    unfold eOf
    rcases hh with hh | hh
    ·rw [← hh, qlp]
    ·unfold preE; rw [if_neg (by simp [hh]), if_neg (by simp [hh])]
   rw [this]; exact hO3
  by_cases hml : (m : Int) < c.2.1
  ·rw [if_pos hml]
   by_cases hu : c.2.2 = true
   ·rw [hu]
    unfold qaD.j1
    rw [qf, hC3.c0, qe]
    refine ⟨rfl, ?_⟩
    rw [qv, qg (n := c.1 + (m : Int)) (by omega) (by omega), qg (n := (m : Int) + 1) (by omega) (by omega)]
    have e4 : [qlk .i64 (c.1 + (m : Int)), qlk .u64 0] = eU (c.1 + (m : Int), 0) := rfl
    rw [e4]
    refine qbh (H0 := H14) (B := H14.size) eU_len (eU_ok _) hO3 (qlu _) hk3.1 hk3 (by rw [ql5]; simp only [lim]; omega) ?_
    intro s' H' hO' hk' hsz' hold'
    have hpre : preE c m ++ [(c.1 + (m : Int), 0)] = preE c (m + 1) := by
     unfold preE
     rw [if_pos hu, if_pos hu, qeA _ _ hm1]
    rw [qmL, hpre] at hO'
    have hC' : BkAt H' oc c := hC3.keep (hold' _ hsz3 (fun a ha' => fun hh => hne3 a ha' hh.symm))
    refine hit3 _ _ ⟨m + 1, by simp, by omega, by omega, hk', hC', hO', by omega, ?_⟩ (by simp only; omega)
    intro a ha' hab
    rcases hO' with ⟨e, _⟩ | ⟨b', e, _, h2, h3⟩
    ·simp only at ha'; rw [e] at ha'; cases ha'
    ·simp only at ha'; rw [e] at ha'; simp at ha'; subst ha'
     simp only at hab; subst hab
     obtain ⟨e', he'⟩ := hC'
     rw [he'] at h3
     injection h3 with h3
     have := congrArg qly h3
     rw [bkV_len] at this
     have e4 : ∀ l : List (Int × Int), (l.flatMap eU).length = 2 * l.length := by
      intro l; induction l with
      | nil => rfl
      | cons a r ih => rw [ql7, ql5, ih, eU_len]; simp; omega
     rw [e4] at this; omega
   ·have hu' : c.2.2 = false := by simpa using hu
    rw [hu']; exact stop (.inr hu')
  ·rw [if_neg hml]; exact stop (.inl (by omega))
 ·rw [if_neg hlt]
  have : j = tl.length := by omega
  subst this
  rw [qmh] at hO
  exact h _ _ (hk14.trans hk) (qbT hO hk14.1)
end
section
variable {H : AH}
theorem qJ.s0 {x0 : Sl} {words i : Int} {l : List Bk} {k : Int → Int → Bool → AH → Prop} (hr : qlC H x0 3 bkV l) (hB : MayB l words) (hi : i < 0) (h : k 0 0 false H) : qJ x0 i H k := by
 have hlen := hB.len
 refine qJ.link ?_
 unfold qJ.b
 refine qaQ.s hr (by omega) hB.mays (fun j hj => hB.sum hj) ?_
 rw [hB.tot]
 refine qax.s hr (by omega) (fun b hb => by have := hB.mem hb; omega) (by have := hB.1; unfold mayW at this; omega) ?_
 rw [decide_eq_true hB, qlA, qa, decide_eq_true hi, qf]
 unfold qJ.j4
 rw [qf]
 exact h
theorem qJ.s {x0 : Sl} {words : Int} {l : List Bk} {i : Nat} {k : Int → Int → Bool → AH → Prop} (hr : qlC H x0 3 bkV l) (hB : MayB l words) (hi : i < l.length) (hu : (bkAt l i).2.2 = true)
  (h : k (mFrom l i : Nat) (mTo l i : Nat) true H) : qJ x0 (i : Int) H k := by
 have hlen := hB.len
 have hgi := qas hi
 refine qJ.link ?_
 unfold qJ.b
 refine qaQ.s hr (by omega) hB.mays (fun j hj => hB.sum hj) ?_
 rw [hB.tot]
 refine qax.s hr (by omega) (fun b hb => by have := hB.mem hb; omega) (by have := hB.1; unfold mayW at this; omega) ?_
 rw [decide_eq_true hB, qlA, qa]
 obtain ⟨b, o, ha, hb, hcells⟩ := qam hr (by omega)
 have hcell : ∀ j, j < l.length → ∀ t v, (bkV (bkAt l j))[t]? = some v → AH.cell? H (qlm (qlm ⟨b, o, none⟩ (j * 3)) t) = some v := fun j hj => (hcells j _ (qas hj)).2
 have hti : qlr (i : Int) = i := qlp i
 simp only [qi, decide_eq_true_eq, hr.1, ha, qd, hti, hcell i hi 2 _ rfl, qaW]
 rw [if_neg (by omega), if_neg (by omega)]
 refine ⟨by omega, ?_⟩
 rw [hu]
 unfold qJ.j4
 rw [qlA, qa]
 have hw1 : qll .i64 ((i : Int) + 1) = ((i + 1 : Nat) : Int) := by rw [qg (by omega) (by omega)]; omega
 have hw2 : qll .i64 (((i + 1 : Nat) : Int) + 1) = ((i + 2 : Nat) : Int) := by rw [qg (by omega) (by omega)]; omega
 have j2 : qJ.j2 x0 (i : Int) k H (mFrom l i : Nat) := by
  unfold qJ.j2
  simp only [qi, decide_eq_true_eq, hr.1, ha, qd, hw1, qlp]
  have j1 : ∀ x : Bool, (x = true ↔ (i + 1 < l.length ∧ (bkAt l (i + 1)).2.2 = false)) → qJ.j1 (i : Int) k H (mFrom l i : Nat) x := by
   intro x hx
   unfold qJ.j1
   rw [hw1, hw2, qi]
   unfold mTo at h
   by_cases hx' : x = true
   ·rw [if_pos hx']; rw [if_pos (hx.1 hx')] at h; exact h
   ·rw [if_neg hx']; rw [if_neg (fun hh => hx' (hx.2 hh))] at h; exact h
  by_cases hc : ((i + 1 : Nat) : Int) < (l.length : Int)
  ·rw [if_pos hc]
   refine ⟨by omega, ?_⟩
   rw [hcell (i + 1) (by omega) 2 _ rfl, qaW]
   refine j1 _ ?_
   simp
   omega
  ·rw [if_neg hc]
   exact j1 false ⟨fun hh => (by cases hh), fun hh => by omega⟩
 have j3 : ∀ x : Bool, (x = true ↔ (0 < i ∧ (bkAt l (i - 1)).2.2 = false)) → qJ.j3 x0 (i : Int) k H x := by
  intro x hx
  unfold qJ.j3
  rw [qi]
  unfold mFrom at j2
  by_cases hx' : x = true
  ·rw [if_pos hx']
   have := hx.1 hx'
   rw [if_pos this] at j2
   rw [qg (n := (i : Int) - 1) (by omega) (by omega), show (i : Int) - 1 = ((i - 1 : Nat) : Int) by omega]
   exact j2
  ·rw [if_neg hx']
   rw [if_neg (fun hh => hx' (hx.2 hh))] at j2
   exact j2
 simp only [qi, decide_eq_true_eq, hr.1, ha, qd]
 by_cases hc : (i : Int) > 0
 ·rw [if_pos hc, qg (n := (i : Int) - 1) (by omega) (by omega), show (i : Int) - 1 = ((i - 1 : Nat) : Int) by omega, qlp]
  refine ⟨by omega, ?_⟩
  rw [hcell (i - 1) (by omega) 2 _ rfl, qaW]
  refine j3 _ ?_
  simp
  omega
 ·rw [if_neg hc]
  exact j3 false ⟨fun hh => (by cases hh), fun hh => by omega⟩
def mEdit (l : List Bk) (i : Nat) : Int × Int := ((bkAt l (mFrom l i)).1, wordN (sumTo l (mFrom l i) (mTo l i - mFrom l i)) false)
theorem qbz.s0 {x0 : Sl} {words i : Int} {l : List Bk} {k : List Value → Bool → AH → Prop} (hr : qlC H x0 3 bkV l) (hB : MayB l words) (hi : i < 0) (h : ∀ H', qc H H' → k (eU (0, 0)) false H') : qbz x0 i H k := by
 refine qbz.link ?_
 unfold qbz.b
 rw [qv]
 have hk : qc H (H.push ⟨[qlk .i64 0, qlk .u64 0], .rw, 0⟩) := (qc.refl H).push _
 refine qJ.s0 (hr.keep hk) hB hi ?_
 rw [qlK, qf]
 refine ⟨⟨rfl, rfl⟩, ?_⟩
 rw [qbu]
 refine ⟨qcF.2 (by simp), ?_⟩
 rw [qdr]
 have e1 : setMany [qlk .i64 0, qlk .u64 0] 0 [qlk .i64 0, qlk .u64 0] = eU (0, 0) := rfl
 rw [e1]
 rw [qp (cs := eU (0, 0)) (by simp [AH.row?, qs, eU, qq])]
 exact h _ ((qc.refl H).push _)
theorem qbz.s {x0 : Sl} {words : Int} {l : List Bk} {i : Nat} {k : List Value → Bool → AH → Prop} (hr : qlC H x0 3 bkV l) (hB : MayB l words) (hi : i < l.length) (hu : (bkAt l i).2.2 = true)
  (h : ∀ H', qc H H' → k (eU (mEdit l i)) true H') : qbz x0 (i : Int) H k := by
 have hlen := hB.len
 refine qbz.link ?_
 unfold qbz.b
 rw [qv]
 have hk : qc H (H.push ⟨[qlk .i64 0, qlk .u64 0], .rw, 0⟩) := (qc.refl H).push _
 have hr1 := hr.keep hk
 refine qJ.s hr1 hB hi hu ?_
 rw [qlA, qa, hr.1]
 have hF : mFrom l i ≤ i := by unfold mFrom; split <;> omega
 have hT : i < mTo l i ∧ mTo l i ≤ i + 2 ∧ mTo l i ≤ l.length := by unfold mTo; split <;> omega
 refine ⟨by omega, ?_⟩
 obtain ⟨b, o, ha, hb, hcells⟩ := qam hr1 (by omega)
 have c0 := (hcells (mFrom l i) _ (qas (by omega))).2 0 _ rfl
 rw [ha, qd, qlp, c0, qe]
 refine ⟨by omega, ?_⟩
 have hpart := qjG l (F := mFrom l i) (n := mTo l i - mFrom l i) (by omega)
 have hlp : ((l.drop (mFrom l i)).take (mTo l i - mFrom l i)).length = mTo l i - mFrom l i := by simp; omega
 have rp := qem (qen hr1 (k := mFrom l i) (by omega)) (k := mTo l i - mFrom l i) (by simp; omega)
 rw [ha] at rp
 simp only [qlO] at rp ⊢
 rw [show (qlr ((mTo l i : Nat) : Int) - mFrom l i) = mTo l i - mFrom l i by rw [qlp]]
 refine qaQ.s rp (by omega) (fun b hb => hB.mays b (List.mem_of_mem_drop (List.mem_of_mem_take hb))) ?_ ?_
 ·intro j hj
  rw [hlp] at hj
  rw [hpart j hj]
  have h1 := qj2 l (mFrom l i) j
  have h2 := hB.sum (j := mFrom l i + j) (by omega)
  have h3 := hB.sum (j := mFrom l i) (by omega)
  have h4 : ∀ j, j ≤ mTo l i - mFrom l i → 0 ≤ sumTo l (mFrom l i) j := by
   intro j
   induction j with
   | zero => intro _; simp [sumTo]
   | succ j ih =>
    intro hj
    have := ih (by omega)
    have := hB.mem (qlx (qas (l := l) (i := mFrom l i + j) (by omega)))
    simp only [sumTo]; omega
  have := h4 j hj
  omega
 rw [hlp, hpart _ (qlu _)]
 refine ⟨c0, ?_⟩
 refine qb4.s ⟨c0, ⟨rfl, rfl⟩, ?_⟩
 rw [qbu]
 refine ⟨qcF.2 (by simp), ?_⟩
 rw [qdr]
 have e1 : setMany [qlk .i64 0, qlk .u64 0] 0 [qlk .i64 (bkAt l (mFrom l i)).1, qlk .u64 (wordN (sumTo l (mFrom l i) (mTo l i - mFrom l i)) false)] = eU (mEdit l i) := rfl
 rw [e1]
 rw [qp (cs := eU (mEdit l i)) (by simp [AH.row?, qs, eU, qq])]
 exact h _ ((qc.refl H).push _)
theorem qcE.s {x0 : Sl} {off : Int} {ws : List Int} {k : Sl → Int → AH → Prop} (hr : qlC H x0 1 wU ws) (h64 : qaE ws) (hl : ws.length ≤ 1000)
  (h : ∀ s H', qc H H' → Own H.size H' s 2 eU (imgFree ws off).1 → k s (imgFree ws off).2 H') : qcE x0 off H k := by
 refine qcE.link ?_
 unfold qcE.b
 unfold imgFree at h
 refine qcm.s hr h64 hl ?_ ?_
 rotate_left 1
 ·intro hb H' hk
  rw [hb] at h
  rw [show ((((0 : Nat) : Int)) == (0 : Int)) = true from rfl, qf]
  exact h _ _ hk (.inl ⟨rfl, rfl⟩)
 intro l hb s12 H12 hk12 hO12
 rw [hb] at h
 simp only at h
 have hB := qbl hb
 have hlen := hB.len
 have hR := hO12.rows bkV_len bkV_ok
 have hlp : 0 < l.length := by
  cases l with
  | nil => have h1 := hB.1.1; have h2 := hB.2; simp only [chainB] at h2; omega
  | cons a r => simp
 rw [hR.1, show (((l.length : Nat) : Int) == (0 : Int)) = false by simpa using (show l.length ≠ 0 by omega), qa]
 have fin : ∀ (v : Int × Int) (H22 : AH), qc H12 H22 → ∀ bb : Bool, (bb = false → k ⟨none, 0, 0⟩ 1 (H22.push ⟨eU v, .rw, 0⟩)) → (bb = true → ∀ s H', qc H H' → Own H.size H' s 2 eU [v] → k s 0 H') →
   newC H22 ⟨[(qlk .i64 (0 : Int)), (qlk .u64 (0 : Int))], .rw, 0⟩ fun o8 H8 => (qly (eU v) = 2 ∧ List.all (eU v) qq = true) ∧ stC H8 ⟨o8, 0, none⟩ (eU v) fun Hs2 => bcase (!bb) (k ⟨none, 0, 0⟩ (1 : Int) Hs2) (ldA Hs2 ⟨o8, 0, none⟩ 2 fun c27 => (qly c27 = 2) ∧ newC Hs2 ⟨(setMany [(qlk .i64 (0 : Int)), (qlk .u64 (0 : Int))] 0 c27), .rw, 2⟩ fun o28 H28 => k ⟨(some ⟨o28, 0, none⟩), 1, 1⟩ (0 : Int) H28) := by
  intro v H22 hk22 bb hf ht
  refine qbC (n := 2) rfl (eU_len v) (eU_ok v) ?_
  cases bb with
  | false => exact hf rfl
  | true =>
   rw [qlA, qa, qp (cs := eU v) (by simp [AH.row?, qs, eU, qq])]
   refine ⟨rfl, ?_⟩
   rw [qv]
   have e1 : setMany [qlk .i64 0, qlk .u64 0] 0 (eU v) = eU v := rfl
   rw [e1]
   have hk2 := ((hk12.trans hk22).push ⟨eU v, .rw, 0⟩)
   exact ht rfl _ _ (hk2.push _) (.inr ⟨_, rfl, hk2.1, by simp [qm], by rw [qs, if_pos rfl]; simp⟩)
 rcases qdF off l 0 with hc | ⟨i, hc, hi, hu, ho⟩
 ·rw [hc] at h ⊢
  rw [if_pos (by omega)] at h
  refine qbz.s0 hR hB (by omega) ?_
  intro H22 hk22
  exact fin (0, 0) H22 hk22 false (fun _ => h _ _ ((hk12.trans hk22).push _) (.inl ⟨rfl, rfl⟩)) (fun hh => by cases hh)
 rw [qlJ] at hc
 rw [hc] at h ⊢
 rw [if_neg (by omega), qlp] at h
 refine qbz.s hR hB hi hu ?_
 intro H22 hk22
 exact fin (mEdit l i) H22 hk22 true (fun hh => by cases hh) (fun _ s H' a b => h s H' a b)
theorem qcc.s {x0 x2 : Sl} {n : Int} {ws cs : List Int} {k : Sl → Int → Int → AH → Prop} (hr : qlC H x0 1 wU ws) (h64 : qaE ws) (hl : ws.length ≤ 1000) (hn : isI n) (hcs : qlC H x2 1 iV cs)
  (h : ∀ s H', qc H H' → Own H.size H' s 2 eU (imgAlloc ws n cs).1 → k s (imgAlloc ws n cs).2.1 (imgAlloc ws n cs).2.2 H') : qcc x0 n x2 H k := by
 refine qcc.link ?_
 unfold qcc.b
 unfold imgAlloc at h
 refine qcf.s hn ?_
 rw [qi]
 by_cases h0 : needN n = 0
 ·rw [if_pos (by simpa using h0)]
  rw [if_pos h0] at h
  exact h _ _ (qc.refl H) (.inl ⟨rfl, rfl⟩)
 rw [if_neg (by simpa using h0)]
 rw [if_neg h0] at h
 refine qab.s hr h64 hl ?_ ?_
 rotate_left 1
 ·intro hb H' hk
  rw [hb] at h
  rw [qlK, qf]
  exact h _ _ hk (.inl ⟨rfl, rfl⟩)
 intro l hb s17 H17 hk17 hO17
 rw [hb] at h
 rw [qlA, qa]
 simp only at h
 have hB := qbl hb
 have hlen := hB.len
 have hR := hO17.rows bkV_len bkV_ok
 refine qa7.s hR (by omega) (fun b hb => by have := hB.mem hb; omega) (hcs.keep hk17) ?_
 simp only [qi, decide_eq_true_eq]
 rcases qd3 (l := l) (need := needN n) (cs := cs) with hc | ⟨i, hc, hi, hu, hn1, hn2⟩
 ·rw [if_pos (by omega)]
  rw [if_pos (by omega)] at h
  exact h _ _ hk17 (.inl ⟨rfl, rfl⟩)
 rw [if_neg (by omega)]
 rw [if_neg (by omega)] at h
 rw [hc, qlp] at h ⊢
 rw [hR.1]
 refine ⟨by omega, ?_⟩
 obtain ⟨b, o, ha, hbz, hcells⟩ := qam hR (by omega)
 have hrow := (hcells i _ (qas hi)).1
 rw [ha, qd, qp hrow]
 refine qaD.s hR hB hi hu ⟨hn2, hn1⟩ ?_
 intro s33 H33 hk33 hO33
 refine ⟨?_, ?_⟩
 ·rw [qk] at hrow ⊢
  rw [← hrow]
  simp only [AH.row?, hk33.2 b hbz]
 refine qbE.s ?_
 exact h _ _ (hk17.trans hk33) (qbT hO33 hk17.1)
end
def inc (n : Int) : Int := qll .i64 (n + 1)
def u64V (n : Int) : Value := .int .u64 n
def i64V (n : Int) : Value := .int .i64 n
def mbit (mask : Int) (i : Nat) : Bool := decide (mask / 2 ^ i % 2 = 1)
def mixL (old now : List Int) (mask : Int) : List Int := (qma 8).map fun i => if mbit mask i then now.getD i 0 else old.getD i 0
structure Cl where
 line : List Int
 wear : Int
 limit : Int
structure Mem where
 cs : List Cl
 regs : List Int
 writes : Int
 cut : Int
 mask : Int
 down : Bool
def isLine (l : List Int) : Prop := l.length = 8 ∧ ∀ v ∈ l, isU v
structure Mem.ok (M : Mem) : Prop where
 lines : ∀ c ∈ M.cs, isLine c.line
 regs : M.regs.length = 35
 regU : ∀ v ∈ M.regs, isU v
 len : M.cs.length ≤ 200
 cut : -1 ≤ M.cut ∧ M.cut ≤ 9223372036854775807
def Mem.has (M : Mem) (i : Int) : Prop := 0 ≤ i ∧ i < M.cs.length
instance (M : Mem) (i : Int) : Decidable (M.has i) := by unfold Mem.has; infer_instance
def Mem.wr (M : Mem) : Mem :=
 if M.cut = 0 then { M with writes := inc M.writes, down := true }
 else if 0 < M.cut then { M with writes := inc M.writes, cut := M.cut - 1 }
 else { M with writes := inc M.writes }
def Mem.wmask (M : Mem) : Int := if M.cut = 0 then M.mask else -1
def Mem.told (M : Mem) (worn : Bool) : Int := if M.down then 2 else if worn then 3 else 0
def Cl.worn (c : Cl) : Bool := decide (0 ≤ c.limit) && decide (c.limit ≤ c.wear)
def Mem.cl (M : Mem) (i : Nat) : Cl := M.cs.getD i ⟨[], 0, 0⟩
def Mem.setc (M : Mem) (i : Nat) (c : Cl) : Mem := { M with cs := M.cs.set i c }
def Mem.put (M : Mem) (i : Int) (l : List Int) : Mem × Int :=
 if M.has i then
  if M.down then (M, 2) else
  let c := M.cl i.toNat
  if c.worn then (M.wr, M.wr.told true)
  else (M.wr.setc i.toNat ⟨mixL c.line l M.wmask, inc c.wear, c.limit⟩, M.wr.told false)
 else (M, 1)
def Mem.get (M : Mem) (i : Int) : List Int × Int :=
 if M.has i then if M.down then (qlq 8 0, 2) else ((M.cl i.toNat).line, 0) else (qlq 8 0, 1)
def regIn (i : Int) : Prop := 0 ≤ i ∧ i < 35
instance (i : Int) : Decidable (regIn i) := by unfold regIn; infer_instance
def Mem.reg (M : Mem) (i : Int) : Int × Int :=
 if regIn i then if M.down then (0, 2) else (M.regs.getD i.toNat 0, 0) else (0, 1)
def Mem.set (M : Mem) (i v : Int) : Mem × Int :=
 if regIn i then
  if M.down then (M, 2) else
  ((if mbit M.wmask 0 then { M.wr with regs := M.regs.set i.toNat v } else M.wr), M.wr.told false)
 else (M, 1)
def Mem.setCut (M : Mem) (n mask : Int) : Mem := { M with cut := max n (-1), mask := mask }
def Mem.power (M : Mem) : Mem := { M with cut := -1, down := false }
def Mem.new (n : Nat) (limits : List Int) : Mem :=
 { cs := (qma n).map fun i => ⟨qlq 8 0, 0, limits.getD i (-1)⟩, regs := qlq 35 0, writes := 0, cut := -1, mask := 0, down := false }
def lineV (l : List Int) : List Value := l.map u64V
def clV (c : Cl) : List Value := lineV c.line ++ [i64V c.wear, i64V c.limit]
def memObj (c : Nat) (M : Mem) : AObj :=
 ⟨[.slice (some ⟨c, 0, none⟩) M.cs.length 1] ++ lineV M.regs ++ [i64V M.writes, i64V M.cut, i64V M.mask, .bool M.down], .rw, 0⟩
def celObj (M : Mem) : AObj := ⟨M.cs.flatMap clV, .rw, 10⟩
structure qB (H : AH) (p c : Nat) (M : Mem) : Prop where
 hp : H.get p = memObj c M
 hc : H.get c = celObj M
 ne : c ≠ p
 lp : p < H.size
 lc : c < H.size
 ok : M.ok
def setM (H : AH) (p c : Nat) (M : Mem) : AH := (H.upd c (celObj M)).upd p (memObj c M)
section
variable {H : AH} {p c : Nat} {M M' : Mem}
theorem qcM (b : Nat) : (setM H p c M).get b = if b = p then memObj c M else if b = c then celObj M else H.get b := rfl
theorem qc7 {b : Nat} (h : b ≠ p) (h' : b ≠ c) : (setM H p c M).get b = H.get b := by rw [qcM, if_neg h, if_neg h']
theorem qB.set (h : qB H p c M) (hok : M'.ok) : qB (setM H p c M') p c M' :=
 ⟨by rw [qcM, if_pos rfl], by rw [qcM, if_neg h.ne, if_pos rfl], h.ne, h.lp, h.lc, hok⟩
theorem qB.same (h : qB H p c M) : setM H p c M = H := by
 refine AH.ext' rfl fun b => ?_
 rw [qcM]
 split
 ·rename_i e; rw [e, h.hp]
 ·split
  ·rename_i e; rw [e, h.hc]
  ·rfl
theorem qcJ : setM (setM H p c M) p c M' = setM H p c M' := by
 refine AH.ext' rfl fun b => ?_
 simp only [qcM]
 split
 ·rfl
 ·split <;> rfl
theorem qB.keep {H' : AH} (h : qB H p c M) (hs : H.size ≤ H'.size) (h1 : H'.get p = H.get p) (h2 : H'.get c = H.get c) : qB H' p c M :=
 ⟨by rw [h1, h.hp], by rw [h2, h.hc], h.ne, by have := h.lp; omega, by have := h.lc; omega, h.ok⟩
theorem qB.keeps {H' : AH} (h : qB H p c M) (hk : qc H H') : qB H' p c M := h.keep hk.1 (hk.2 _ h.lp) (hk.2 _ h.lc)
theorem qB.push (h : qB H p c M) (o : AObj) : qB (H.push o) p c M := h.keeps ((qc.refl H).push o)
theorem qgm (l : List Int) : (lineV l).all flatC = true := by simp [lineV, u64V, flatC]
theorem qij {n : Nat} {v : Value} (h : flatC v = true) : lowV n v = true := by
 unfold lowV
 split
 ·simp [flatC] at h
 ·rename_i b o m k
  unfold flatC at h
  split at h <;> first | (rename_i heq; cases heq; done) | cases h
 ·exact h
theorem qB.at {H' : AH} (h : qB H p c M) (hk : ∀ b, b < H.size → H'.get b = (setM H p c M').get b) : At H H' (setM H p c M') := by
 refine ⟨rfl, hk, fun b hb => ?_, fun b hb => ?_⟩
 ·rw [qc7 (by have := h.lp; omega) (by have := h.lc; omega)]
 ·rw [qcM]
  split
  ·right
   simp only [memObj, List.all_append, Bool.and_eq_true]
   refine ⟨⟨by simp [lowV, h.lc], ?_⟩, by simp [lowV, flatC, i64V]⟩
   exact List.all_eq_true.2 fun v hv => qij (List.all_eq_true.1 (qgm _) v hv)
  ·split
   ·right
    refine List.all_eq_true.2 fun v hv => qij ?_
    simp only [celObj, List.mem_flatMap, clV] at hv
    obtain ⟨x, _, hv⟩ := hv
    rcases List.mem_append.1 hv with hv | hv
    ·exact List.all_eq_true.1 (qgm _) v hv
    ·simp at hv; rcases hv with rfl | rfl <;> rfl
   ·exact .inl rfl
theorem qj9 : (memObj c M).md = .rw := rfl
theorem qB.cell (h : qB H p c M) (i : Nat) : AH.cell? H ⟨p, i, none⟩ = (memObj c M).cells[i]? := by
 simp only [AH.cell?, h.hp, qlF, qlw, if_false]
 rw [if_neg (by simp [qj9])]
theorem qB.c0 (h : qB H p c M) : AH.cell? H (qlm ⟨p, 0, none⟩ 0) = some (.slice (some ⟨c, 0, none⟩) M.cs.length 1) := by
 rw [qk, h.cell]
 exact rfl
theorem qB.cr (h : qB H p c M) {i : Nat} (hi : i < 35) : AH.cell? H ⟨p, 1 + i, none⟩ = some (.int .u64 (M.regs.getD i 0)) := by
 rw [h.cell]
 have hl : i < M.regs.length := by rw [h.ok.regs]; exact hi
 simp only [memObj, lineV, List.singleton_append]
 rw [Nat.add_comm, ql3, qmb, qlX (by simpa using hl), qlz, qln hl, qlO, qlo, qln hl]
 rfl
theorem qe3 (hr : M.regs.length = 35) (i : Nat) : (memObj c M).cells[36 + i]? = [i64V M.writes, i64V M.cut, i64V M.mask, .bool M.down][i]? := by
 simp only [memObj, lineV]
 rw [qlN (by simp [hr] <;> omega)]
 congr 1
 simp [hr]
theorem qB.c36 (h : qB H p c M) : AH.cell? H (qlm ⟨p, 0, none⟩ 36) = some (.int .i64 M.writes) := by
 rw [qk, h.cell]; exact qe3 h.ok.regs 0
theorem qB.c37 (h : qB H p c M) : AH.cell? H (qlm ⟨p, 0, none⟩ 37) = some (.int .i64 M.cut) := by
 rw [qk, h.cell]; exact qe3 h.ok.regs 1
theorem qB.c38 (h : qB H p c M) : AH.cell? H (qlm ⟨p, 0, none⟩ 38) = some (.int .i64 M.mask) := by
 rw [qk, h.cell]; exact qe3 h.ok.regs 2
theorem qB.c39 (h : qB H p c M) : AH.cell? H (qlm ⟨p, 0, none⟩ 39) = some (.bool M.down) := by
 rw [qk, h.cell]; exact qe3 h.ok.regs 3
theorem mem_len (hr : M.regs.length = 35) : (memObj c M).cells.length = 40 := by simp [memObj, lineV, hr]
theorem qB.can (h : qB H p c M) {i : Nat} (hi : i < 40) : AH.canPut H (qlm ⟨p, 0, none⟩ i) 1 := by
 rw [qk]
 exact ⟨rfl, congrArg AObj.md h.hp, by rw [h.hp, mem_len h.ok.regs] <;> simp <;> omega⟩
theorem qd8 (hr : M.regs.length = 35) (i : Nat) (v : Value) (hi : i < 4) :
  (memObj c M).cells.set (36 + i) v = [.slice (some ⟨c, 0, none⟩) M.cs.length 1] ++ lineV M.regs ++ [i64V M.writes, i64V M.cut, i64V M.mask, .bool M.down].set i v := by
 simp only [memObj]
 rw [List.set_append_right _ _ (by simp [lineV, hr] <;> omega)]
 congr 2
 simp [lineV, hr]
theorem qB.upd (h : qB H p c M) {i : Nat} {v : Value} (hM : (memObj c M).cells.set i v = (memObj c M').cells) (hcs : celObj M' = celObj M) :
  AH.put H (qlm ⟨p, 0, none⟩ i) [v] = setM H p c M' := by
 rw [qk]
 refine AH.ext' rfl fun b => ?_
 simp only [AH.put, qT, qcM, setMany, qlJ]
 split
 ·rw [h.hp, hM]; rfl
 ·split
  ·rename_i e; rw [e, h.hc, hcs]
  ·rfl
theorem qB.p36 (h : qB H p c M) (v : Int) : AH.put H (qlm ⟨p, 0, none⟩ 36) [.int .i64 v] = setM H p c { M with writes := v } :=
 h.upd (by rw [qd8 (i := 0) h.ok.regs _ (by omega)]; rfl) rfl
theorem qB.p37 (h : qB H p c M) (v : Int) : AH.put H (qlm ⟨p, 0, none⟩ 37) [.int .i64 v] = setM H p c { M with cut := v } :=
 h.upd (by rw [qd8 (i := 1) h.ok.regs _ (by omega)]; rfl) rfl
theorem qB.p38 (h : qB H p c M) (v : Int) : AH.put H (qlm ⟨p, 0, none⟩ 38) [.int .i64 v] = setM H p c { M with mask := v } :=
 h.upd (by rw [qd8 (i := 2) h.ok.regs _ (by omega)]; rfl) rfl
theorem qB.p39 (h : qB H p c M) (v : Bool) : AH.put H (qlm ⟨p, 0, none⟩ 39) [.bool v] = setM H p c { M with down := v } :=
 h.upd (by rw [qd8 (i := 3) h.ok.regs _ (by omega)]; rfl) rfl
theorem qB.pr (h : qB H p c M) {i : Nat} (hi : i < 35) (v : Int) : AH.put H (qlm ⟨p, 0, none⟩ (1 + i)) [.int .u64 v] = setM H p c { M with regs := M.regs.set i v } := by
 refine h.upd ?_ rfl
 have hl : i < M.regs.length := by rw [h.ok.regs]; exact hi
 simp only [memObj, lineV, List.singleton_append, ql3]
 rw [Nat.add_comm, List.set_cons_succ, List.set_append_left _ _ (by simpa using hl), List.map_set]
 rfl
end
section
variable {H : AH} {p c : Nat} {M : Mem} {i : Int}
theorem stC_to {H H' : AH} {a : Addr} {vs : List Value} {k : AH → Prop} (h1 : H.canPut a vs.length) (h2 : H.put a vs = H') (h3 : k H') : stC H a vs k := ⟨h1, by rw [h2]; exact h3⟩
theorem qgo {b i n : Nat} (h : b ≠ p) (h' : b ≠ c) : AH.row? (setM H p c M) ⟨b, i, none⟩ n = AH.row? H ⟨b, i, none⟩ n := by
 simp only [AH.row?, qc7 h h']
theorem cl_get (hi : M.has i) : M.cs[i.toNat]? = some (M.cl i.toNat) := by
 unfold Mem.has at hi
 have hl : i.toNat < M.cs.length := by omega
 unfold Mem.cl
 rw [qlo, qln hl, qlV]
theorem cl_mem (hi : M.has i) : M.cl i.toNat ∈ M.cs := qlx (cl_get hi)
theorem clV_len {x : Cl} (h : isLine x.line) : (clV x).length = 10 := by simp [clV, lineV, h.1]
theorem qeI {α : Type} {f : α → List Value} {z : Nat} : ∀ {l : List α}, (∀ x ∈ l, (f x).length = z) → (l.flatMap f).length = l.length * z := by
 intro l
 induction l with
 | nil => intro _; simp
 | cons a l ih => intro h; simp [ih (fun x hx => h x (by simp [hx])), h a (by simp), Nat.succ_mul, Nat.add_comm]
theorem qfL {α : Type} {f : α → List Value} {z : Nat} : ∀ {l : List α} (_ : ∀ x ∈ l, (f x).length = z) (i : Nat) (x : α), l[i]? = some x → ((l.flatMap f).drop (i * z)).take z = f x := by
 intro l
 induction l with
 | nil => intro _ i x h; simp at h
 | cons a l ih =>
  intro hf i x h
  cases i with
  | zero =>
   simp only [List.getElem?_cons_zero, qmu] at h
   subst h
   simp only [Nat.zero_mul, qmE, ql7]
   rw [List.take_append_of_le_length (by rw [hf a (by simp)]; exact qlu _), ← hf a (by simp), qmh]
  | succ i =>
   simp only [qmb] at h
   rw [← ih (fun x hx => hf x (by simp [hx])) i x h, ql7, Nat.succ_mul, Nat.add_comm, ← List.drop_drop]
   congr 2
   rw [← hf a (by simp), List.drop_left]
theorem qiv {α : Type} {f : α → List Value} {z : Nat} {j : Nat} {vs : List Value} (hj : j + vs.length ≤ z) : ∀ {l : List α} (_ : ∀ x ∈ l, (f x).length = z) (i : Nat) (x y : α), l[i]? = some x → f y = setMany (f x) j vs →
  setMany (l.flatMap f) (i * z + j) vs = (l.set i y).flatMap f := by
 intro l hf i x y hx hy
 apply qlM
 intro t
 have hlen := qeI hf
 have hlt : i < l.length := (List.getElem?_eq_some_iff.1 hx).1
 have hle : i * z + z ≤ l.length * z := by
  calc i * z + z = (i + 1) * z := by rw [Nat.succ_mul]
   _ ≤ l.length * z := qmy _ hlt
 have hfy : (f y).length = z := by rw [hy, qdZ, hf x (qlx hx)]
 have hf' : ∀ x ∈ l.set i y, (f x).length = z := by
  intro x' hx'
  rcases qmw hx' with h | rfl
  ·exact hf _ h
  ·exact hfy
 rw [qcl _ _ _ _ (by omega)]
 have cellOf : ∀ {l : List α}, (∀ x ∈ l, (f x).length = z) → ∀ q r x, l[q]? = some x → r < z → (l.flatMap f)[q * z + r]? = (f x)[r]? := by
  intro l hl q r x hq hr
  have := qfL hl q x hq
  rw [← this, qmd, if_pos hr, qme]
 by_cases hz : z = 0
 ·subst hz
  have e1 : (l.flatMap f).length = 0 := by rw [hlen]; omega
  have e2 : ((l.set i y).flatMap f).length = 0 := by rw [qeI hf']; omega
  rw [qlt (by omega : ((l.set i y).flatMap f).length ≤ t), qlt (by omega : (l.flatMap f).length ≤ t)]
  rw [if_neg (by omega)]
 ·have ht : t = t / z * z + t % z := by rw [Nat.mul_comm]; exact (Nat.div_add_mod t z).symm
  have hr : t % z < z := Nat.mod_lt _ (by omega)
  generalize t / z = q at ht
  generalize t % z = r at ht hr
  subst ht
  by_cases hq : q < l.length
  ·by_cases hqi : q = i
   ·subst hqi
    rw [cellOf hf' q r y (by rw [ql6 hlt]) hr, hy, qcl _ _ _ _ (by rw [hf x (qlx hx)]; exact hj)]
    by_cases h1 : j ≤ r ∧ r < j + vs.length
    ·rw [if_pos h1, if_pos (by omega)]; congr 1; omega
    ·rw [if_neg h1, if_neg (by omega), cellOf hf q r x hx hr]
   ·have hne : ¬ (i * z + j ≤ q * z + r ∧ q * z + r < i * z + j + vs.length) := by
     intro ⟨h1, h2⟩
     rcases Nat.lt_or_gt_of_ne hqi with h | h
     ·have : (q + 1) * z ≤ i * z := qmy _ h
      rw [Nat.succ_mul] at this; omega
     ·have : (i + 1) * z ≤ q * z := qmy _ h
      rw [Nat.succ_mul] at this; omega
    rw [if_neg hne, cellOf hf q r l[q] (qln hq) hr, cellOf hf' q r l[q] (by rw [qlQ (by omega), qln hq]) hr]
  ·have : l.length * z ≤ q * z := qmy _ (by omega)
   rw [if_neg (by omega), qlt (by omega), qlt (by rw [qeI hf', qlT]; omega)]
theorem qB.cell_c (h : qB H p c M) (hi : M.has i) {j : Nat} (hj : j < 10) : AH.cell? H (qlm (qlm ⟨c, 0, none⟩ (i.toNat * 10)) j) = (clV (M.cl i.toNat))[j]? := by
 rw [qk, qk, qlJ]
 simp only [AH.cell?, h.hc, qlF, qlw, if_false, celObj]
 rw [if_neg (by simp)]
 rw [← qfL (fun x hx => clV_len (h.ok.lines x hx)) i.toNat _ (cl_get hi), qmd, if_pos hj, qme]
theorem qB.c8 (h : qB H p c M) (hi : M.has i) : AH.cell? H (qlm (qlm ⟨c, 0, none⟩ (i.toNat * 10)) 8) = some (.int .i64 (M.cl i.toNat).wear) := by
 rw [h.cell_c hi (by omega)]
 simp only [clV]
 rw [qlN (by simp [lineV, (h.ok.lines _ (cl_mem hi)).1])]
 simp [lineV, (h.ok.lines _ (cl_mem hi)).1, i64V]
theorem qB.c9 (h : qB H p c M) (hi : M.has i) : AH.cell? H (qlm (qlm ⟨c, 0, none⟩ (i.toNat * 10)) 9) = some (.int .i64 (M.cl i.toNat).limit) := by
 rw [h.cell_c hi (by omega)]
 simp only [clV]
 rw [qlN (by simp [lineV, (h.ok.lines _ (cl_mem hi)).1])]
 simp [lineV, (h.ok.lines _ (cl_mem hi)).1, i64V]
theorem qB.cl_le (h : qB H p c M) (hi : M.has i) : i.toNat * 10 + 10 ≤ (celObj M).cells.length := by
 simp only [celObj]
 rw [qeI (fun x hx => clV_len (h.ok.lines x hx))]
 unfold Mem.has at hi
 omega
theorem qaY (l : List Int) : (lineV l).all qq = true := by simp [lineV, u64V, qq]
theorem qB.row_c (h : qB H p c M) (hi : M.has i) : AH.row? H (qlm (qlm ⟨c, 0, none⟩ (i.toNat * 10)) 0) 8 = some (lineV (M.cl i.toNat).line) := by
 rw [qk, qk, qlJ, Nat.add_zero]
 have hr := qfL (fun x hx => clV_len (h.ok.lines x hx)) i.toNat _ (cl_get hi)
 have hl := (h.ok.lines _ (cl_mem hi)).1
 have h8 : (((celObj M).cells.drop (i.toNat * 10)).take 8) = lineV (M.cl i.toNat).line := by
  have : (((celObj M).cells.drop (i.toNat * 10)).take 8) = ((((celObj M).cells.drop (i.toNat * 10)).take 10).take 8) := by rw [List.take_take]; rfl
  rw [this]
  simp only [celObj] at hr ⊢
  rw [hr, clV, List.take_append_of_le_length (by simp [lineV, hl]), ql9 (by simp [lineV, hl])]
 have hle := h.cl_le hi
 simp only [AH.row?, h.hc, qlF, qlw, if_false]
 rw [if_neg (by simp [celObj]), h8, if_pos ⟨by omega, qaY _⟩]
theorem qB.can_c (h : qB H p c M) (hi : M.has i) {j n : Nat} (hj : j + n ≤ 10) : AH.canPut H (qlm (qlm ⟨c, 0, none⟩ (i.toNat * 10)) j) n := by
 rw [qk, qk, qlJ]
 have hle := h.cl_le hi
 exact ⟨rfl, congrArg AObj.md h.hc, by rw [h.hc]; simp only; omega⟩
theorem qB.put_c (h : qB H p c M) (hi : M.has i) {j : Nat} {vs : List Value} {x : Cl} (hj : j + vs.length ≤ 10) (hx : clV x = setMany (clV (M.cl i.toNat)) j vs) :
  AH.put H (qlm (qlm ⟨c, 0, none⟩ (i.toNat * 10)) j) vs = setM H p c (M.setc i.toNat x) := by
 rw [qk, qk, qlJ]
 have hs := qiv hj (fun x hx => clV_len (h.ok.lines x hx)) i.toNat _ x (cl_get hi) hx
 refine AH.ext' rfl fun b => ?_
 simp only [AH.put, qT, qcM]
 have hm : memObj c (M.setc i.toNat x) = memObj c M := by simp [memObj, Mem.setc]
 by_cases hbc : b = c
 ·subst hbc
  rw [if_pos rfl, if_neg h.ne, if_pos rfl, h.hc]
  simp only [celObj, hs]
  rfl
 ·rw [if_neg hbc]
  by_cases hbp : b = p
  ·subst hbp; rw [if_pos rfl, hm, h.hp]
  ·rw [if_neg hbp, if_neg hbc]
theorem qkH {x : Cl} {l : List Int} (hx : isLine x.line) (hl : isLine l) : clV { x with line := l } = setMany (clV x) 0 (lineV l) := by
 apply qlM
 intro t
 rw [qcl _ _ _ _ (by rw [clV_len hx]; simp [lineV, hl.1])]
 simp only [clV]
 by_cases h : t < 8
 ·rw [if_pos (by simp [lineV, hl.1]; omega), qlX (by simp [lineV, hl.1]; omega)]; rfl
 ·rw [if_neg (by simp [lineV, hl.1]; omega), qlN (by simp [lineV, hl.1]; omega), qlN (by simp [lineV, hx.1]; omega)]
  simp [lineV, hl.1, hx.1]
theorem qkP {x : Cl} {v : Int} (hx : isLine x.line) : clV { x with wear := v } = setMany (clV x) 8 [.int .i64 v] := by
 simp only [setMany, clV]
 rw [List.set_append_right _ _ (by simp [lineV, hx.1])]
 simp [lineV, hx.1, i64V]
end
theorem Mem.wr_ok {M : Mem} (h : M.ok) : M.wr.ok := by
 have := h.cut
 unfold Mem.wr
 split
 ·exact ⟨h.lines, h.regs, h.regU, h.len, h.cut⟩
 ·split
  ·exact ⟨h.lines, h.regs, h.regU, h.len, by simp only; omega⟩
  ·exact ⟨h.lines, h.regs, h.regU, h.len, h.cut⟩
theorem Mem.wr_cs {M : Mem} : M.wr.cs = M.cs := by
 unfold Mem.wr; split
 ·rfl
 ·split <;> rfl
theorem Mem.wr_regs {M : Mem} : M.wr.regs = M.regs := by
 unfold Mem.wr; split
 ·rfl
 ·split <;> rfl
theorem Mem.wr_has {M : Mem} {i : Int} : M.wr.has i ↔ M.has i := by unfold Mem.has; rw [Mem.wr_cs]
theorem Mem.wr_cl {M : Mem} {i : Nat} : M.wr.cl i = M.cl i := by unfold Mem.cl; rw [Mem.wr_cs]
theorem Mem.setc_has {M : Mem} {i : Int} {j : Nat} {x : Cl} : (M.setc j x).has i ↔ M.has i := by simp [Mem.has, Mem.setc]
theorem Mem.setc_ok {M : Mem} (h : M.ok) {i : Nat} {x : Cl} (hx : isLine x.line) : (M.setc i x).ok := by
 refine ⟨?_, h.regs, h.regU, by simpa [Mem.setc] using h.len, h.cut⟩
 intro y hy
 rcases qmw hy with h' | rfl
 ·exact h.lines y h'
 ·exact hx
theorem Mem.setc_setc {M : Mem} {i : Nat} {x y : Cl} : (M.setc i x).setc i y = M.setc i y := by simp [Mem.setc, List.set_set]
theorem Mem.setc_cl {M : Mem} {i : Int} {x : Cl} (hi : M.has i) : (M.setc i.toNat x).cl i.toNat = x := by
 unfold Mem.has at hi
 have : i.toNat < M.cs.length := by omega
 simp [Mem.cl, Mem.setc, qlo, this]
theorem qfP {old now : List Int} {mask : Int} (h : isLine old) (h' : isLine now) : isLine (mixL old now mask) := by
 refine ⟨by simp [mixL], fun v hv => ?_⟩
 simp only [mixL, ql2, qml] at hv
 obtain ⟨i, hi, rfl⟩ := hv
 split
 ·rw [qlo, qln (by rw [h'.1]; exact hi)]
  exact h'.2 _ (qlB _)
 ·rw [qlo, qln (by rw [h.1]; exact hi)]
  exact h.2 _ (qlB _)
theorem qbq : isLine (qlq 8 0) := ⟨rfl, fun v hv => by rw [List.eq_of_mem_replicate hv]; unfold isU; omega⟩
theorem and1 (x : Int) : andI .i64 x 1 = x % 2 := by
 have h0 : andI .i64 x 1 = qll .i64 ((qmc 64 x &&& qmc 64 1).toNat : Int) := rfl
 have h1 : (qmc 64 x &&& qmc 64 1) = BitVec.ofNat 64 ((x % 2).toNat) := by
  apply BitVec.eq_of_getLsbD_eq
  intro i hi
  have e1 : (qmc 64 1) = 1#64 := rfl
  rw [BitVec.getLsbD_and, e1]
  have hx : (qmc 64 x).toNat = (x % 18446744073709551616).toNat := by simp [BitVec.toNat_ofInt]
  rcases Nat.eq_zero_or_pos i with rfl | hpos
  ·simp only [BitVec.getLsbD_one, BitVec.getLsbD_ofNat]
   simp only [BitVec.getLsbD, hx, Nat.testBit_zero]
   have : (x % 18446744073709551616).toNat % 2 = (x % 2).toNat % 2 := by omega
   simp [this]
  ·have : (BitVec.getLsbD 1#64 i) = false := by simp [BitVec.getLsbD_one]; omega
   rw [this, Bool.and_false, BitVec.getLsbD_ofNat]
   have h2 : (x % 2).toNat < 2 ^ i := by
    have : 2 ≤ 2 ^ i := by calc 2 = 2 ^ 1 := rfl
     _ ≤ 2 ^ i := Nat.pow_le_pow_right (by omega) hpos
    omega
   rw [Nat.testBit_lt_two_pow h2, Bool.and_false]
 rw [h0, h1]
 rw [BitVec.toNat_ofNat]
 rw [Nat.mod_eq_of_lt (by omega)]
 have : ((x % 2).toNat : Int) = x % 2 := by omega
 rw [this, qg (by omega) (by omega)]
theorem shr_bit (x : Int) (i : Nat) (h : i ≤ 64) : shrI .i64 x (i : Int) = x / 2 ^ i := by
 unfold shrI
 rw [show min ((i : Int).toNat) (qmn .i64) = i from by simp [qmn]; omega]
 rw [Int.fdiv_eq_ediv_of_nonneg _ (Int.pow_nonneg (by omega))]
theorem mbit_eq (x : Int) (i : Nat) (h : i ≤ 64) : (andI .i64 (shrI .i64 x (i : Int)) 1 == 1) = mbit x i := by
 rw [and1, shr_bit _ _ h, mbit]
 by_cases hh : x / 2 ^ i % 2 = 1
 ·simp [hh]
 ·simp [hh]
theorem mbit0 (x : Int) : (andI .i64 x 1 == 1) = mbit x 0 := by
 rw [and1, mbit]
 by_cases hh : x % 2 = 1 <;> simp [hh]
theorem qii (i : Nat) (h : i < 64) : mbit (-1) i = true := by
 unfold mbit
 have hpos : (0 : Int) < 2 ^ i := Int.pow_pos (by omega)
 have : (-1 : Int) / 2 ^ i = -1 := by
  rw [Int.neg_one_ediv]
  rw [Int.sign_eq_one_of_pos hpos]
 simp [this]
theorem qkT {old now : List Int} (h : now.length = 8) : mixL old now (-1) = now := by
 apply qlM
 intro i
 by_cases hi : i < 8
 ·simp only [mixL, qlz, qlP hi, qlO]
  rw [qii i (by omega), if_pos rfl, qlo, qln (by omega), qlV]
 ·rw [qlt (by simp [mixL]; omega), qlt (by omega)]
section
variable {H : AH} {p c : Nat} {M : Mem} {i : Int}
theorem qay.s {k : Int → AH → Prop} (hm : qB H p c M) (h : k M.cs.length H) : qay (some ⟨p, 0, none⟩) H k := by
 refine qay.link ?_
 simp only [qay.b, qlG, qd, hm.c0, qat, qi, qlw, if_false]
 exact h
theorem qby.s {k : Bool → AH → Prop} (hm : qB H p c M) (h : k (decide (M.has i)) H) : qby (some ⟨p, 0, none⟩) i H k := by
 refine qby.link ?_
 simp only [qby.b, qi, decide_eq_true_eq, ge_iff_le]
 by_cases h0 : 0 ≤ i
 ·rw [if_pos h0]
  refine qay.s hm ?_
  rw [show decide (i < (M.cs.length : Int)) = decide (M.has i) from decide_eq_decide.2 (by unfold Mem.has; omega)]
  exact h
 ·rw [if_neg h0]
  rw [show decide (M.has i) = false from decide_eq_false (by unfold Mem.has; omega)] at h
  exact h
theorem qa6.s {k : Bool → AH → Prop} {a : Addr} (h : k (decide (regIn i)) H) : qa6 (some a) i H k := by
 refine qa6.link ?_
 simp only [qa6.b, qi, qlG, qlK, if_true, decide_eq_true_eq, ge_iff_le]
 by_cases h0 : 0 ≤ i
 ·rw [if_pos h0, show decide (i < 35) = decide (regIn i) from decide_eq_decide.2 (by unfold regIn; omega)]; exact h
 ·rw [if_neg h0]; rw [show decide (regIn i) = false from decide_eq_false (by unfold regIn; omega)] at h; exact h
theorem qbe.s {k : Int → AH → Prop} (hm : qB H p c M) (h : k M.wmask (setM H p c M.wr)) : qbe (some ⟨p, 0, none⟩) H k := by
 refine qbe.link ?_
 have h1 : qB (setM H p c { M with writes := inc M.writes }) p c { M with writes := inc M.writes } := hm.set ⟨hm.ok.lines, hm.ok.regs, hm.ok.regU, hm.ok.len, hm.ok.cut⟩
 have h2 : qB (setM H p c { M with writes := inc M.writes, down := true }) p c { M with writes := inc M.writes, down := true } := hm.set ⟨hm.ok.lines, hm.ok.regs, hm.ok.regU, hm.ok.len, hm.ok.cut⟩
 have hc := hm.ok.cut
 have hw : qll .i64 (M.writes + 1) = inc M.writes := rfl
 simp only [qbe.b, qd, hm.c36, qe, qbu, hm.can (i := 36) (by omega), hw, qlE, qmv, true_and, hm.p36, h1.c37, qi, beq_iff_eq, h1.can (i := 39) (by omega), h1.p39, h2.c38, decide_eq_true_eq, gt_iff_lt, h1.can (i := 37) (by omega), h1.p37, qcJ]
 unfold Mem.wmask Mem.wr at h
 by_cases h0 : M.cut = 0
 ·rw [if_pos h0] at h ⊢
  rw [if_pos h0] at h
  exact h
 ·rw [if_neg h0] at h ⊢
  rw [if_neg h0] at h
  by_cases h3 : 0 < M.cut
  ·rw [if_pos h3] at h ⊢
   rw [qg (by omega) (by omega)]
   exact h
  ·rw [if_neg h3] at h ⊢
   exact h
theorem qa4.s {k : Int → AH → Prop} {w : Bool} (hm : qB H p c M) (h : k (M.told w) H) : qa4 (some ⟨p, 0, none⟩) w H k := by
 refine qa4.link ?_
 simp only [qa4.b, qd, hm.c39, qaW, qi]
 unfold Mem.told at h
 split <;> simp_all
 split <;> simp_all
theorem qaI.s {k : Bool → AH → Prop} (hm : qB H p c M) (h : k M.down H) : qaI (some ⟨p, 0, none⟩) H k := by
 refine qaI.link ?_
 simp only [qaI.b, qlG, qlK, if_true, qd, hm.c39, qaW, qi]
 exact h
theorem Mem.setCut_ok (h : M.ok) {n mask : Int} (hn : n ≤ 9223372036854775807) : (M.setCut n mask).ok :=
 ⟨h.lines, h.regs, h.regU, h.len, by simp only [Mem.setCut]; omega⟩
theorem qa5.s {k : AH → Prop} {n mask : Int} (hm : qB H p c M) (hn : n ≤ 9223372036854775807) (h : k (setM H p c (M.setCut n mask))) : qa5 (some ⟨p, 0, none⟩) n mask H k := by
 refine qa5.link ?_
 have e : (if (-1 : Int) > n then (-1 : Int) else n) = max n (-1) := by split <;> omega
 have h1 : qB (setM H p c { M with cut := max n (-1) }) p c { M with cut := max n (-1) } := hm.set ⟨hm.ok.lines, hm.ok.regs, hm.ok.regU, hm.ok.len, by simp only; omega⟩
 simp only [qa5.b, qlG, qlK, if_true, qi, qd, e, qbu, hm.can (i := 37) (by omega), qlE, qmv, true_and, hm.p37, h1.can (i := 38) (by omega), h1.p38, qcJ]
 exact h
theorem Mem.power_ok (h : M.ok) : M.power.ok := ⟨h.lines, h.regs, h.regU, h.len, by simp only [Mem.power]; omega⟩
theorem qaN.s {k : AH → Prop} (hm : qB H p c M) (h : k (setM H p c M.power)) : qaN (some ⟨p, 0, none⟩) H k := by
 refine qaN.link ?_
 have h1 : qB (setM H p c { M with cut := -1 }) p c { M with cut := -1 } := hm.set ⟨hm.ok.lines, hm.ok.regs, hm.ok.regU, hm.ok.len, by simp only; omega⟩
 simp only [qaN.b, qlG, qlK, if_true, qi, qd, qbu, hm.can (i := 37) (by omega), qlE, qmv, true_and, hm.p37, h1.can (i := 39) (by omega), h1.p39, qcJ]
 exact h
theorem qS.s {k : Int → Int → AH → Prop} (hm : qB H p c M) (h : k (M.reg i).1 (M.reg i).2 H) : qS (some ⟨p, 0, none⟩) i H k := by
 refine qS.link ?_
 unfold qS.b
 refine qa6.s ?_
 unfold Mem.reg at h
 by_cases hi : regIn i
 ·have hi' := hi
  unfold regIn at hi'
  rw [if_pos hi] at h
  simp only [hi, decide_true, qlA, qi, qlw, if_false, qd, hm.c39, qaW]
  by_cases hd : M.down
  ·rw [if_pos hd] at h ⊢; exact h
  ·rw [if_neg hd] at h ⊢
   refine ⟨by omega, ?_⟩
   rw [qk, qk, qlJ, Nat.mul_one, hm.cr (by omega), qe]
   exact h
 ·rw [if_neg hi] at h
  simp only [hi, decide_false, qlK, qi, if_true]
  exact h
theorem Mem.set_ok (h : M.ok) {v : Int} (hv : isU v) : (M.set i v).1.ok := by
 unfold Mem.set
 split
 ·split
  ·exact h
  ·have hw := Mem.wr_ok h
   simp only
   split
   ·refine ⟨hw.lines, by simp [h.regs], fun x hx => ?_, hw.len, hw.cut⟩
    rcases qmw hx with h' | rfl
    ·exact h.regU x h'
    ·exact hv
   ·exact hw
 ·exact h
theorem qN.s {k : Int → AH → Prop} {v : Int} (hm : qB H p c M) (hv : isU v) (h : k (M.set i v).2 (setM H p c (M.set i v).1)) : qN (some ⟨p, 0, none⟩) i v H k := by
 refine qN.link ?_
 unfold qN.b
 refine qa6.s ?_
 have hok := Mem.set_ok (i := i) hm.ok hv
 unfold Mem.set at h hok
 by_cases hi : regIn i
 ·have hi' := hi
  unfold regIn at hi'
  rw [if_pos hi] at h hok
  simp only [hi, decide_true, qlA, qi, qlw, if_false, qd, hm.c39, qaW]
  by_cases hd : M.down
  ·rw [if_pos hd] at h ⊢; rw [hm.same] at h; exact h
  ·rw [if_neg hd] at h ⊢
   rw [if_neg hd] at hok
   refine qbe.s hm ?_
   have h1 := hm.set (Mem.wr_ok hm.ok)
   rw [mbit0]
   by_cases hb : mbit M.wmask 0 = true
   ·rw [if_pos hb]
    rw [if_pos hb] at h hok
    refine ⟨by omega, ?_⟩
    rw [qk, qlJ, Nat.mul_one]
    rw [qbu]
    have hreg : M.wr.regs = M.regs := Mem.wr_regs
    have e1 : qlm ⟨p, 1, none⟩ i.toNat = qlm ⟨p, 0, none⟩ (1 + i.toNat) := by rw [qk, qk, qlJ]
    rw [e1]
    refine ⟨h1.can (by omega), ?_⟩
    rw [h1.pr (by omega), qcJ, hreg]
    unfold qN.j1
    refine qa4.s (hm.set hok) ?_
    exact h
   ·rw [if_neg hb]
    rw [if_neg hb] at h hok
    unfold qN.j1
    refine qa4.s h1 ?_
    exact h
 ·rw [if_neg hi] at h
  rw [hm.same] at h
  simp only [hi, decide_false, qlK, qi, if_true]
  exact h
end
theorem qkb {l : List Int} (h : l.length = 8) {j : Nat} (hj : j < 8) : (lineV l)[j]? = some (.int .u64 (l.getD j 0)) := by
 have hl : j < l.length := by omega
 simp only [lineV, qlz, qln hl, qlO, qlo, qlV]
 rfl
theorem qt {l : List Int} (h : l.length = 8) : (lineV l).length = 8 := by simp [lineV, h]
theorem zeroV : [(qlk .u64 (0 : Int)), (qlk .u64 (0 : Int)), (qlk .u64 (0 : Int)), (qlk .u64 (0 : Int)), (qlk .u64 (0 : Int)), (qlk .u64 (0 : Int)), (qlk .u64 (0 : Int)), (qlk .u64 (0 : Int))] = lineV (qlq 8 0) := rfl
theorem qds (l : List Int) : flatV (K.agg.inj (lineV l)) = true := by simp only [K.inj, flatV, List.toList_toArray]; exact qgm l
def mixTo (old now : List Int) (mask : Int) (j : Nat) : List Int := (qma 8).map fun i => if i < j ∧ mbit mask i = true then now.getD i 0 else old.getD i 0
theorem qed (old now : List Int) (mask : Int) (j : Nat) : (mixTo old now mask j).length = 8 := by simp [mixTo]
theorem mixTo_0 {old : List Int} (now : List Int) (mask : Int) (h : old.length = 8) : mixTo old now mask 0 = old := by
 apply qlM
 intro i
 by_cases hi : i < 8
 ·simp only [mixTo, qlz, qlP hi, qlO, Nat.not_lt_zero, false_and, if_false]
  rw [qlo, qln (by omega), qlV]
 ·rw [qlt (by simp [mixTo]; omega), qlt (by omega)]
theorem mixTo_8 (old now : List Int) (mask : Int) : mixTo old now mask 8 = mixL old now mask := by
 unfold mixTo mixL
 refine List.map_congr_left fun i hi => ?_
 have : i < 8 := by simpa using hi
 simp [this]
theorem qjH (old now : List Int) (mask : Int) {j : Nat} (hj : j < 8) : mixTo old now mask (j + 1) = if mbit mask j then (mixTo old now mask j).set j (now.getD j 0) else mixTo old now mask j := by
 apply qlM
 intro i
 by_cases hi : i < 8
 ·split
  ·rename_i hb
   by_cases hij : i = j
   ·subst hij
    rw [ql6 (by rw [qed]; exact hi)]
    simp [mixTo, hi, hb]
   ·rw [qlQ (by omega)]
    simp only [mixTo, qlz, qlP hi, qlO]
    have : (i < j + 1 ∧ mbit mask i = true) ↔ (i < j ∧ mbit mask i = true) := by constructor <;> intro ⟨h1, h2⟩ <;> exact ⟨by omega, h2⟩
    simp only [this]
  ·rename_i hb
   simp only [mixTo, qlz, qlP hi, qlO]
   have : (i < j + 1 ∧ mbit mask i = true) ↔ (i < j ∧ mbit mask i = true) := by
    constructor <;> intro ⟨h1, h2⟩
    ·refine ⟨?_, h2⟩
     rcases Nat.lt_or_ge i j with h | h
     ·exact h
     ·have : i = j := by omega
      subst this; exact absurd h2 hb
    ·exact ⟨by omega, h2⟩
   simp only [this]
 ·rw [qlt (by rw [qed]; omega)]
  symm
  split
  ·rw [qlt (by rw [qlT, qed]; omega)]
  ·rw [qlt (by rw [qed]; omega)]
theorem qjY (l : List Int) (j : Nat) (v : Int) : (lineV l).set j (.int .u64 v) = lineV (l.set j v) := by simp [lineV, List.map_set, u64V]
section
variable {H : AH} {p c : Nat} {M : Mem} {i : Int}
theorem qb0.s {old now : List Int} {mask : Int} {k : List Value → AH → Prop} (ho : isLine old) (hn : isLine now) (h : k (lineV (mixL old now mask)) H) : qb0 (lineV old) (lineV now) mask H k := by
 refine qc1 (κ := .agg) (by simp) (qds _) (qb0.link ?_) h
 unfold qb0.b
 simp only [qv, qgC, qj7, List.singleton_append, ql3, ql8, qc2, qlE, qmv, qlJ, Nat.reduceAdd, zeroV]
 rw [qp (qgn H _ 1 8 _ rfl (by simp) (qt hn.1) (qaY _))]
 refine qE (t := (0 : Int)) (I := fun (t : Int) H' => ∃ j : Nat, t = (j : Int) ∧ j ≤ 8 ∧ H' = H.more [⟨lineV (mixTo old now mask j), .rw, 0⟩, ⟨lineV now, .rw, 0⟩, ⟨lineV (qlq 8 0), .rw, 0⟩]) (m := fun (t : Int) _ => qlr (8 - t)) ?_ ⟨0, rfl, by omega, by rw [mixTo_0 _ _ ho.1]⟩
 intro t H1 hI it hit
 obtain ⟨j, rfl, hj, rfl⟩ := hI
 unfold qb0.l2
 simp only [qi, decide_eq_true_eq]
 by_cases hlt : (j : Int) < 8
 ·rw [if_pos hlt]
  refine ⟨by omega, ?_⟩
  rw [qlp, Nat.mul_one, qkb hn.1 (by omega), qe]
  refine ⟨by omega, ?_⟩
  rw [mbit_eq _ _ (by omega), qg (n := (j : Int) + 1) (by omega) (by omega)]
  have hs := qjH old now mask (j := j) (by omega)
  by_cases hb : mbit mask j = true
  ·rw [if_pos hb] at hs ⊢
   refine ⟨by omega, ?_⟩
   rw [qk, qlJ]
   refine ⟨qf4 H _ 0 j 1 _ rfl rfl (by rw [qt (qed _ _ _ _)]; omega), ?_⟩
   have hp := qiF H [⟨lineV (mixTo old now mask j), .rw, 0⟩, ⟨lineV now, .rw, 0⟩, ⟨lineV (qlq 8 0), .rw, 0⟩] 0 j [.int .u64 (now.getD j 0)] _ rfl
   simp only [Nat.add_zero, setMany, qjY, List.set_cons_zero] at hp
   rw [hp]
   exact hit _ _ ⟨j + 1, by omega, by omega, by rw [hs]⟩ (by omega)
  ·rw [if_neg hb] at hs ⊢
   exact hit _ _ ⟨j + 1, by omega, by omega, by rw [hs]⟩ (by omega)
 ·rw [if_neg hlt]
  have : j = 8 := by omega
  subst this
  unfold qb0.j1
  rw [mixTo_8]
  have hmx := (qfP (mask := mask) ho hn).1
  have hr := qgn H [⟨lineV (mixL old now mask), .rw, 0⟩, ⟨lineV now, .rw, 0⟩, ⟨lineV (qlq 8 0), .rw, 0⟩] 0 8 _ rfl (by simp) (qt hmx) (qaY _)
  rw [Nat.add_zero] at hr
  rw [qp hr]
  refine ⟨⟨qt hmx, qaY _⟩, ?_⟩
  have hp := qiF H [⟨lineV (mixL old now mask), .rw, 0⟩, ⟨lineV now, .rw, 0⟩, ⟨lineV (qlq 8 0), .rw, 0⟩] 2 0 (lineV (mixL old now mask)) _ rfl
  refine ⟨qf4 H _ 2 0 _ _ rfl rfl (by rw [qt hmx, qt rfl]; omega), ?_⟩
  rw [hp]
  have hset : setMany (lineV (qlq 8 0)) 0 (lineV (mixL old now mask)) = lineV (mixL old now mask) := by
   apply qlM
   intro t
   rw [qcl _ _ _ _ (by rw [qt hmx, qt rfl]; omega), qt hmx]
   by_cases ht : t < 8
   ·rw [if_pos (by omega)]; rfl
   ·rw [if_neg (by omega), qlt (by rw [qt rfl]; omega), qlt (by rw [qt hmx]; omega)]
  simp only [List.set_cons_succ, List.set_cons_zero, hset]
  rw [qp (qgn H _ 2 8 _ rfl (by simp) (qt hmx) (qaY _))]
  exact ⟨At.of_keeps (qc.more _ _), rfl⟩
theorem Mem.put_ok {l : List Int} (h : M.ok) (hl : isLine l) : (M.put i l).1.ok := by
 unfold Mem.put
 split
 ·rename_i hi
  split
  ·exact h
  ·simp only
   split
   ·exact Mem.wr_ok h
   ·exact Mem.setc_ok (Mem.wr_ok h) (qfP (h.lines _ (cl_mem hi)) hl)
 ·exact h
theorem qdJ {H : AH} {b : Nat} {l l' : List Int} {e : Nat} (h : l.length = 8) (h' : l'.length = 8) (hg : H.get b = ⟨lineV l, .rw, e⟩) : AH.put H ⟨b, 0, none⟩ (lineV l') = H.upd b ⟨lineV l', .rw, e⟩ := by
 have hset : setMany (lineV l) 0 (lineV l') = lineV l' := by
  apply qlM
  intro t
  rw [qcl _ _ _ _ (by rw [qt h, qt h']; omega), qt h']
  by_cases ht : t < 8
  ·rw [if_pos (by omega)]; rfl
  ·rw [if_neg (by omega), qlt (by rw [qt h]; omega), qlt (by rw [qt h']; omega)]
 simp only [AH.put, hg, hset]
theorem qak.s {l : List Int} {k : Int → AH → Prop} (hm : qB H p c M) (hl : isLine l) (h : k (M.put i l).2 (setM H p c (M.put i l).1)) : qak (some ⟨p, 0, none⟩) i (lineV l) H k := by
 have key : ∀ {M' : Mem} {r : Int}, M'.ok → At H (setM (H.push ⟨lineV l, .rw, 0⟩) p c M') (setM H p c M') := by
  intro M' r hok
  refine hm.at fun b hb => ?_
  simp only [qcM, qs]
  rw [if_neg (show b ≠ H.size by omega)]
 refine qc1 (κ := .int .i64) (by simp) rfl (qak.link ?_) h
 unfold qak.b
 have hm1 := hm.push ⟨lineV l, .rw, 0⟩
 rw [qv]
 refine qby.s hm1 ?_
 have hok := Mem.put_ok (i := i) hm.ok hl
 have hkey := key (r := 0) hok
 unfold Mem.put at hok hkey ⊢
 by_cases hi : M.has i
 ·have hi' := hi
  unfold Mem.has at hi'
  rw [if_pos hi] at hok hkey ⊢
  simp only [hi, decide_true, qlA, qi, qlw, if_false, qd, hm1.c39, qaW]
  by_cases hd : M.down
  ·rw [if_pos hd] at hok hkey ⊢
   rw [if_pos hd]
   refine ⟨?_, rfl⟩
   rw [hm1.same] at hkey
   exact hkey
  ·rw [if_neg hd] at hok hkey ⊢
   rw [if_neg hd]
   refine qbe.s hm1 ?_
   have hmw := hm1.set (Mem.wr_ok hm.ok)
   have hiw : M.wr.has i := Mem.wr_has.2 hi
   simp only [hmw.c0, qat, qd, hmw.c9 hiw, hmw.c8 hiw, qe, Mem.wr_cs, Mem.wr_cl, hi', and_self, true_and, ge_iff_le, decide_eq_true_eq]
   have hold := hm.ok.lines _ (cl_mem hi)
   have tail : ∀ w, w = (M.cl i.toNat).worn → qak.j2 (some ⟨p, 0, none⟩) i (fun r0 H' => At H H' (setM H p c (if (M.cl i.toNat).worn = true then (M.wr, M.wr.told true) else (M.wr.setc i.toNat ⟨mixL (M.cl i.toNat).line l M.wmask, inc (M.cl i.toNat).wear, (M.cl i.toNat).limit⟩, M.wr.told false)).1) ∧ r0 = (if (M.cl i.toNat).worn = true then (M.wr, M.wr.told true) else (M.wr.setc i.toNat ⟨mixL (M.cl i.toNat).line l M.wmask, inc (M.cl i.toNat).wear, (M.cl i.toNat).limit⟩, M.wr.told false)).2) H.size (setM (H.push ⟨lineV l, .rw, 0⟩) p c M.wr) M.wmask ⟨c, 0, none⟩ w := by
    intro w hw
    subst hw
    unfold qak.j2 qak.j1
    by_cases hw : (M.cl i.toNat).worn = true
    ·rw [if_pos hw] at hkey hok ⊢
     rw [hw, qlA, qa]
     refine qa4.s hmw ?_
     exact ⟨hkey, rfl⟩
    ·rw [if_neg hw] at hkey hok ⊢
     rw [show (M.cl i.toNat).worn = false from by simpa using hw, qlK, qf]
     rw [qp (hmw.row_c hiw), Mem.wr_cl]
     have hlp := hm.lp
     have hlc := hm.lc
     have hrow : AH.row? (setM (H.push ⟨lineV l, .rw, 0⟩) p c M.wr) ⟨H.size, 0, none⟩ 8 = some (lineV l) := by
      rw [qgo (by omega) (by omega)]
      exact row_new (qt hl.1) (qaY _)
     rw [qp hrow]
     refine qb0.s hold hl ?_
     have hmx := qfP (mask := M.wmask) hold hl
     refine ⟨⟨qt hmx.1, qaY _⟩, hmw.can_c hiw (by rw [qt hmx.1]; omega), ?_⟩
     rw [hmw.put_c hiw (x := ⟨mixL (M.cl i.toNat).line l M.wmask, (M.cl i.toNat).wear, (M.cl i.toNat).limit⟩) (by rw [qt hmx.1]; omega) (by rw [Mem.wr_cl]; exact qkH (x := M.cl i.toNat) hold hmx), qcJ]
     have hm3 := hm1.set (Mem.setc_ok (i := i.toNat) (x := ⟨mixL (M.cl i.toNat).line l M.wmask, (M.cl i.toNat).wear, (M.cl i.toNat).limit⟩) (Mem.wr_ok hm.ok) hmx)
     have hi3 : (M.wr.setc i.toNat ⟨mixL (M.cl i.toNat).line l M.wmask, (M.cl i.toNat).wear, (M.cl i.toNat).limit⟩).has i := Mem.setc_has.2 hiw
     simp only [hm3.c8 hi3, qe, Mem.setc_cl hiw]
     refine ⟨hm3.can_c hi3 (by simp), ?_⟩
     rw [hm3.put_c hi3 (x := { line := mixL (M.cl i.toNat).line l M.wmask, wear := inc (M.cl i.toNat).wear, limit := (M.cl i.toNat).limit }) (by simp) ?_, qcJ, Mem.setc_setc]
     ·refine qa4.s (hm1.set hok) ?_
      exact ⟨hkey, rfl⟩
     ·rw [Mem.setc_cl hiw]
      exact qkP (x := { line := mixL (M.cl i.toNat).line l M.wmask, wear := (M.cl i.toNat).wear, limit := (M.cl i.toNat).limit }) hmx
   by_cases hlim : 0 ≤ (M.cl i.toNat).limit
   ·rw [if_pos hlim]
    exact tail _ (by simp [Cl.worn, hlim])
   ·rw [if_neg hlim]
    exact tail _ (by simp [Cl.worn, hlim])
 ·rw [if_neg hi] at hok hkey ⊢
  simp only [hi, decide_false, qlK, qi, if_true]
  rw [hm1.same] at hkey
  exact ⟨hkey, trivial⟩
theorem qbY.s {k : List Value → Int → AH → Prop} (hm : qB H p c M) (h : k (lineV (M.get i).1) (M.get i).2 H) : qbY (some ⟨p, 0, none⟩) i H k := by
 refine canon2 (κ := .agg) (μ := .int .i64) (by simp) (by simp) (qds _) rfl (qbY.link ?_) h
 unfold qbY.b
 rw [qv, zeroV]
 have hm1 := hm.push ⟨lineV (qlq 8 0), .rw, 0⟩
 have hz : (H.push ⟨lineV (qlq 8 0), .rw, 0⟩).get H.size = ⟨lineV (qlq 8 0), .rw, 0⟩ := by simp [qs]
 have hc8 : ∀ l : List Int, isLine l → AH.canPut (H.push ⟨lineV (qlq 8 0), .rw, 0⟩) ⟨H.size, 0, none⟩ (lineV l).length := by
  intro l hl; rw [qt hl.1]; exact qcF.2 (by rw [qt rfl]; omega)
 have fin : ∀ (l : List Int), isLine l → ∀ (Q : List Value → AH → Prop), (∀ H', qc H H' → Q (lineV l) H') →
   ldA (AH.put (H.push ⟨lineV (qlq 8 0), .rw, 0⟩) ⟨H.size, 0, none⟩ (lineV l)) ⟨H.size, 0, none⟩ 8 fun r0 => Q r0 (AH.put (H.push ⟨lineV (qlq 8 0), .rw, 0⟩) ⟨H.size, 0, none⟩ (lineV l)) := by
  intro l hl Q hQ
  rw [qdJ rfl hl.1 hz]
  have e : (H.push ⟨lineV (qlq 8 0), .rw, 0⟩).upd H.size ⟨lineV l, .rw, 0⟩ = H.push ⟨lineV l, .rw, 0⟩ := by
   refine AH.ext' rfl fun b => ?_
   simp only [qT, qs]; split <;> rfl
  rw [e]
  rw [qp (row_new (qt hl.1) (qaY _))]
  exact hQ _ ((qc.refl H).push _)
 refine qby.s hm1 ?_
 unfold Mem.get
 by_cases hi : M.has i
 ·have hi' := hi
  unfold Mem.has at hi'
  rw [if_pos hi]
  simp only [hi, decide_true, qlA, qi, qlw, if_false, qd, hm1.c39, qaW, hm1.c0, qat, hi', and_self, true_and, qp (hm1.row_c hi)]
  by_cases hd : M.down
  ·rw [if_pos hd, if_pos hd]
   refine ⟨⟨qt rfl, qaY _⟩, hc8 _ qbq, ?_⟩
   exact fin _ qbq (fun r0 H' => At H H' H ∧ r0 = _ ∧ _) (fun H' hk => ⟨At.of_keeps hk, rfl, rfl⟩)
  ·rw [if_neg hd, if_neg hd]
   have hl := hm.ok.lines _ (cl_mem hi)
   refine ⟨⟨qt hl.1, qaY _⟩, hc8 _ hl, ?_⟩
   exact fin _ hl (fun r0 H' => At H H' H ∧ r0 = _ ∧ _) (fun H' hk => ⟨At.of_keeps hk, rfl, rfl⟩)
 ·rw [if_neg hi]
  simp only [hi, decide_false, qlK, qi, if_true]
  refine ⟨⟨qt rfl, qaY _⟩, hc8 _ qbq, ?_⟩
  exact fin _ qbq (fun r0 H' => At H H' H ∧ r0 = _ ∧ _) (fun H' hk => ⟨At.of_keeps hk, rfl, trivial⟩)
end
structure Frm (H H' : AH) (p c : Nat) : Prop where
 size : H'.size = H.size
 get : ∀ b, b ≠ p → b ≠ c → H'.get b = H.get b
theorem Frm.cell {H H' : AH} {p c b i : Nat} (h : Frm H H' p c) (h1 : b ≠ p) (h2 : b ≠ c) : AH.cell? H' ⟨b, i, none⟩ = AH.cell? H ⟨b, i, none⟩ := by
 simp only [AH.cell?, h.get b h1 h2]
theorem Frm.set (H : AH) (p c : Nat) (M : Mem) : Frm H (setM H p c M) p c := ⟨rfl, fun b h1 h2 => qc7 h1 h2⟩
theorem Frm.trans {H H' H2 : AH} {p c : Nat} (h : Frm H H' p c) (h' : Frm H' H2 p c) : Frm H H2 p c := ⟨h'.size.trans h.size, fun b h1 h2 => (h'.get b h1 h2).trans (h.get b h1 h2)⟩
section
variable {H : AH} {p c : Nat} {M M' : Mem} {i r : Int}
theorem qN.g {v : Int} {k : Int → AH → Prop} (hm : qB H p c M) (hv : isU v) (e : M.set i v = (M', r)) (h : ∀ H', qB H' p c M' → Frm H H' p c → k r H') : qN (some ⟨p, 0, none⟩) i v H k := by
 refine qN.s hm hv ?_
 have ok := Mem.set_ok (i := i) hm.ok hv
 rw [e] at ok ⊢
 exact h _ (hm.set ok) (Frm.set _ _ _ _)
theorem qa5.g {n mask : Int} {k : AH → Prop} (hm : qB H p c M) (hn : n ≤ 9223372036854775807) (h : ∀ H', qB H' p c (M.setCut n mask) → Frm H H' p c → k H') : qa5 (some ⟨p, 0, none⟩) n mask H k :=
 qa5.s hm hn (h _ (hm.set (Mem.setCut_ok hm.ok hn)) (Frm.set _ _ _ _))
theorem qaN.g {k : AH → Prop} (hm : qB H p c M) (h : ∀ H', qB H' p c M.power → Frm H H' p c → k H') : qaN (some ⟨p, 0, none⟩) H k :=
 qaN.s hm (h _ (hm.set (Mem.power_ok hm.ok)) (Frm.set _ _ _ _))
end
theorem new_st {H : AH} {cs cs' : List Value} {n z : Nat} {K : Nat → AH → Prop} (hn : cs.length = n) (hl : cs'.length = n) (ha : cs'.all qq = true) (h : K H.size (H.push ⟨cs', .rw, z⟩)) :
  newC H ⟨cs, .rw, z⟩ fun o H1 => (cs'.length = n ∧ List.all cs' qq = true) ∧ stC H1 ⟨o, 0, none⟩ cs' fun Hs => K o Hs := by
 refine ⟨⟨hl, ha⟩, qcF.2 (by omega), ?_⟩
 rw [qdr]
 have : setMany cs 0 cs' = cs' := by
  apply qlM
  intro t
  rw [qcl _ _ _ _ (by omega)]
  by_cases ht : t < n
  ·rw [if_pos (by omega)]; rfl
  ·rw [if_neg (by omega), qlt (by omega), qlt (by omega)]
 rw [this]
 exact h
theorem qfa {H : AH} {l : List Int} {e : Nat} (h : isLine l) : AH.row? (H.push ⟨lineV l, .rw, e⟩) ⟨H.size, 0, none⟩ 8 = some (lineV l) := row_new (qt h.1) (qaY _)
theorem rows1 {α : Type} {H : AH} {s : Sl} {g : α → Value} {l : List α} (h : qlC H s 1 (fun x => [g x]) l) {i : Nat} (hi : i < l.length) :
  ∃ b o, s.a = some ⟨b, o, none⟩ ∧ b < H.size ∧ AH.cell? H (qlm ⟨b, o, none⟩ (i * 1)) = some (g (l[i])) := by
 obtain ⟨b, o, h1, h2, h3⟩ := h.at hi
 refine ⟨b, o, h1, h2, ?_⟩
 rw [qk] at h3 ⊢
 have := (AH.row?_cell h3).2.2.2.2 0 _ rfl
 simpa using this
theorem qfe {H H' : AH} {p c : Nat} {M : Mem} (h : qc H H') (hp : H.size ≤ p) (hc : H.size ≤ c) : qc H (setM H' p c M) :=
 ⟨h.1, fun b hb => by rw [qc7 (by omega) (by omega)]; exact h.2 b hb⟩
theorem Mem.new_ok {n : Nat} {limits : List Int} (h : n ≤ 200) : (Mem.new n limits).ok := by
 refine ⟨?_, rfl, ?_, by simpa [Mem.new] using h, by simp [Mem.new]⟩
 ·intro c hc
  simp only [Mem.new, ql2, qml] at hc
  obtain ⟨i, _, rfl⟩ := hc
  exact qbq
 ·intro v hv
  rw [List.eq_of_mem_replicate hv]; unfold isU; omega
def Mem.newTo (n : Nat) (limits : List Int) (j : Nat) : Mem :=
 { Mem.new n limits with cs := (qma n).map fun i => ⟨qlq 8 0, 0, if i < j then limits.getD i (-1) else 0⟩ }
theorem Mem.newTo_ok {n j : Nat} {limits : List Int} (h : n ≤ 200) : (Mem.newTo n limits j).ok := by
 refine ⟨?_, rfl, (Mem.new_ok (limits := limits) h).regU, by simpa [Mem.newTo] using h, by simp [Mem.newTo, Mem.new]⟩
 intro c hc
 simp only [Mem.newTo, ql2, qml] at hc
 obtain ⟨i, _, rfl⟩ := hc
 exact qbq
theorem Mem.newTo_n (n : Nat) (limits : List Int) : Mem.newTo n limits n = Mem.new n limits := by
 simp only [Mem.newTo, Mem.new, Mem.mk.injEq, and_true]
 refine List.map_congr_left fun i hi => ?_
 rw [if_pos (by simpa using hi)]
theorem Mem.newTo_cl {n j : Nat} {limits : List Int} {i : Nat} (hi : i < n) : (Mem.newTo n limits j).cl i = ⟨qlq 8 0, 0, if i < j then limits.getD i (-1) else 0⟩ := by
 simp [Mem.cl, Mem.newTo, qlo, hi]
theorem Mem.newTo_succ {n j : Nat} {limits : List Int} (hj : j < n) : (Mem.newTo n limits j).setc j ⟨qlq 8 0, 0, limits.getD j (-1)⟩ = Mem.newTo n limits (j + 1) := by
 simp only [Mem.newTo, Mem.setc, Mem.mk.injEq, and_true, true_and]
 apply qlM
 intro i
 by_cases hi : i < n
 ·by_cases hij : i = j
  ·subst hij; rw [ql6 (by simpa using hi)]; simp [hi]
  ·rw [qlQ (by omega)]
   simp only [qlz, qlP hi, qlO]
   by_cases h : i < j
   ·rw [if_pos h, if_pos (by omega)]
   ·rw [if_neg h, if_neg (by omega)]
 ·rw [qlt (by simp; omega), qlt (by simp; omega)]
theorem qhj {x : Cl} {v : Int} (hx : isLine x.line) : clV { x with limit := v } = setMany (clV x) 9 [.int .i64 v] := by
 simp only [setMany, clV]
 rw [List.set_append_right _ _ (by simp [lineV, hx.1])]
 simp [lineV, hx.1, i64V]
theorem nvm_New.s {H : AH} {n : Int} {x1 : Sl} {limits : List Int} {k : Option Addr → AH → Prop} (hr : qlC H x1 1 iV limits)
  (h1 : 1 ≤ n ∧ n ≤ 200 → ∀ H', qB H' (H.size + 1) H.size (Mem.new n.toNat limits) → qc H H' → H'.size = H.size + 2 → k (some ⟨H.size + 1, 0, none⟩) H') (h0 : ¬ (1 ≤ n ∧ n ≤ 200) → k none H) : nvm_New n x1 H k := by
 refine nvm_New.link ?_
 unfold nvm_New.b nvm_New.j2
 simp only [qi, decide_eq_true_eq]
 by_cases hn1 : n < 1
 ·rw [if_pos hn1]; exact h0 (by omega)
 ·rw [if_neg hn1]
  by_cases hn2 : n > 200
  ·rw [if_pos hn2]; exact h0 (by omega)
  ·rw [if_neg hn2]
   refine ⟨by simp only [lim]; omega, ?_⟩
   simp only [qv, qm]
   have hz : (⟨zerosOf n.toNat [(qlk .u64 (0 : Int)), (qlk .u64 (0 : Int)), (qlk .u64 (0 : Int)), (qlk .u64 (0 : Int)), (qlk .u64 (0 : Int)), (qlk .u64 (0 : Int)), (qlk .u64 (0 : Int)), (qlk .u64 (0 : Int)), (qlk .i64 (0 : Int)), (qlk .i64 (0 : Int))], .rw, 10⟩ : AObj) = celObj (Mem.newTo n.toNat limits 0) := by
    simp only [celObj, Mem.newTo, AObj.mk.injEq, and_true]
    unfold zerosOf
    rw [List.flatMap_map]
    simp only [Nat.not_lt_zero, if_false]
    have : (qma n.toNat).flatMap (fun (_ : Nat) => clV ⟨qlq 8 0, 0, 0⟩) = (qlq n.toNat (clV ⟨qlq 8 0, 0, 0⟩)).flatten := by
     rw [List.flatMap_def]
     congr 1
     apply qlM
     intro i
     by_cases hi : i < n.toNat
     ·simp [hi]
     ·rw [qlt (by simp; omega), qlt (by simp; omega)]
    rw [this]
    rfl
   rw [hz]
   generalize hX : (H.push (celObj (Mem.newTo n.toNat limits 0))).push _ = H1
   have hm1 : qB H1 (H.size + 1) H.size (Mem.newTo n.toNat limits 0) := by
    subst hX
    refine ⟨?_, ?_, by omega, by simp [qm], by simp [qm]; omega, Mem.newTo_ok (by omega)⟩
    ·rw [qs, qm, if_pos rfl]
     simp only [memObj, Mem.newTo, Mem.new, List.length_map, List.length_range]
     rfl
    ·rw [qs, qm, if_neg (by omega), qs, if_pos rfl]
   have hs1 : H1.size = H.size + 2 := by subst hX; simp [qm]
   have hk1 : qc H H1 := by subst hX; exact ((qc.refl H).push _).push _
   rw [hm1.c0, qat]
   refine qE (t := (0 : Int)) (I := fun (t : Int) H' => ∃ j : Nat, t = (j : Int) ∧ j ≤ n.toNat ∧ H' = setM H1 (H.size + 1) H.size (Mem.newTo n.toNat limits j)) (m := fun (t : Int) _ => qlr (n - t)) ?_ ⟨0, rfl, by omega, hm1.same.symm⟩
   intro t H2 hI it hit
   obtain ⟨j, rfl, hj, rfl⟩ := hI
   have hmj := hm1.set (Mem.newTo_ok (n := n.toNat) (limits := limits) (j := j) (by omega))
   have hlen : ∀ j, ((Mem.newTo n.toNat limits j).cs.length : Int) = n := by intro j; simp [Mem.newTo]; omega
   have hR := hr.keep (qfe (M := Mem.newTo n.toNat limits j) (p := H.size + 1) (c := H.size) hk1 (by omega) (by omega))
   unfold nvm_New.l1
   simp only [qi, decide_eq_true_eq, hlen, hmj.c0, qat, qd]
   by_cases hlt : (j : Int) < n
   ·rw [if_pos hlt]
    have hi : (Mem.newTo n.toNat limits j).has j := ⟨by omega, by rw [hlen]; exact hlt⟩
    have hcl := Mem.newTo_cl (n := n.toNat) (limits := limits) (j := j) (i := j) (by omega)
    refine ⟨by omega, stC_to (hmj.can_c hi (by simp)) ((hmj.put_c hi (x := ⟨qlq 8 0, 0, -1⟩) (by simp) (by rw [qlp, hcl]; exact qhj (x := ⟨qlq 8 0, 0, _⟩) qbq)).trans qcJ) ?_⟩
    simp only [qlp]
    have hm2 := hm1.set (Mem.setc_ok (i := j) (x := ⟨qlq 8 0, 0, -1⟩) (Mem.newTo_ok (n := n.toNat) (limits := limits) (j := j) (by omega)) qbq)
    have hi2 : ((Mem.newTo n.toNat limits j).setc j ⟨qlq 8 0, 0, -1⟩).has j := Mem.setc_has.2 hi
    have hlen2 : (((Mem.newTo n.toNat limits j).setc j ⟨qlq 8 0, 0, -1⟩).cs.length : Int) = n := by simp [Mem.setc, Mem.newTo]; omega
    rw [hr.1, qg (n := (j : Int) + 1) (by omega) (by omega)]
    by_cases hlim : (j : Int) < (limits.length : Int)
    ·rw [if_pos hlim]
     have hR2 := hr.keep (qfe (M := (Mem.newTo n.toNat limits j).setc j ⟨qlq 8 0, 0, -1⟩) (p := H.size + 1) (c := H.size) hk1 (by omega) (by omega))
     obtain ⟨b, o, ha, _, hcell⟩ := rows1 (g := fun v => qlk .i64 v) hR2 (i := j) (by omega)
     rw [hm2.c0, qat]
     refine ⟨by omega, ?_⟩
     rw [ha, qd, hcell, qe]
     have hcl2 : ((Mem.newTo n.toNat limits j).setc j ⟨qlq 8 0, 0, -1⟩).cl j = ⟨qlq 8 0, 0, -1⟩ := Mem.setc_cl (i := (j : Int)) hi
     have hp := hm2.put_c (i := (j : Int)) hi2 (x := ⟨qlq 8 0, 0, limits[j]⟩) (j := 9) (vs := [.int .i64 limits[j]]) (by simp) (by rw [qlp, hcl2]; exact qhj (x := ⟨qlq 8 0, 0, -1⟩) qbq)
     rw [qlp] at hp
     refine ⟨⟨by omega, by rw [hlen2]; exact hlt⟩, stC_to (hm2.can_c (i := j) hi2 (by simp)) (hp.trans qcJ) ?_⟩
     rw [Mem.setc_setc]
     refine hit _ _ ⟨j + 1, by omega, by omega, ?_⟩ (by omega)
     rw [← Mem.newTo_succ (by omega), qlo, qln (by omega), qlV]
    ·rw [if_neg hlim]
     refine hit _ _ ⟨j + 1, by omega, by omega, ?_⟩ (by omega)
     rw [← Mem.newTo_succ (by omega), qlo, qlt (by omega), Option.getD_none]
   ·rw [if_neg hlt]
    have : j = n.toNat := by omega
    subst this
    rw [Mem.newTo_n]
    exact h1 (by omega) _ (hm1.set (Mem.new_ok (by omega))) (qfe hk1 (by omega) (by omega)) hs1
theorem qi6 : ∀ {n : Nat} {a b : List Int}, a.length = n → b.length = n → eqCells (qlq n (K.int .u64)) (lineV a) (lineV b) = some (a == b) := by
 intro n
 induction n with
 | zero => intro a b ha hb; simp at ha hb; subst ha hb; rfl
 | succ n ih =>
  intro a b ha hb
  obtain _ | ⟨x, a⟩ := a
  ·simp at ha
  obtain _ | ⟨y, b⟩ := b
  ·simp at hb
  have := ih (a := a) (b := b) (by simpa using ha) (by simpa using hb)
  simp only [lineV, u64V, List.replicate_succ, qmj, eqCells, and_self, if_true] at this ⊢
  rw [this]
  rfl
theorem eq_line {a b : List Int} {k : Bool → Prop} (ha : isLine a) (hb : isLine b) : elO (eqCells (qlq 8 (K.int .u64)) (lineV a) (lineV b)) k ↔ k (a == b) := by
 rw [qi6 ha.1 hb.1, qk8]
theorem qev {α : Type} {H : AH} {z : Nat} {f : α → List Value} : qlC H ⟨none, 0, 0⟩ z f [] := ⟨rfl, fun i x h => by simp at h⟩
theorem qgj {H : AH} {l : List Int} {K : Nat → AH → Prop} (hl : isLine l) (h : K H.size (H.push ⟨lineV l, .rw, 0⟩)) :
  newC H ⟨lineV (qlq 8 0), .rw, 0⟩ fun o H1 => ((lineV l).length = 8 ∧ List.all (lineV l) qq = true) ∧ stC H1 ⟨o, 0, none⟩ (lineV l) fun Hs => K o Hs :=
 new_st (qt rfl) (qt hl.1) (qaY _) h
theorem umod {m : Int} (hm : 0 < m) (z : Int) : 0 ≤ Int.tmod (qll .u64 z) m ∧ Int.tmod (qll .u64 z) m < m := by
 have h0 : 0 ≤ qll .u64 z := by
  simp only [qll, qmn, IntKind.signed, Bool.false_and, Int.reducePow, qlw, if_false]; omega
 rw [qmt h0]
 exact ⟨Int.emod_nonneg _ (by omega), Int.emod_lt_of_pos _ (by omega)⟩
section
variable {H : AH}
theorem Mem.new_cl {n i : Nat} {limits : List Int} (hi : i < n) : (Mem.new n limits).cl i = ⟨qlq 8 0, 0, limits.getD i (-1)⟩ := by
 rw [← Mem.newTo_n, Mem.newTo_cl hi, if_pos hi]
theorem Mem.setc_cl' {M : Mem} {i j : Nat} {x : Cl} (h : i < M.cs.length) : (M.setc i x).cl j = if j = i then x else M.cl j := by
 simp only [Mem.cl, Mem.setc, qlo]
 by_cases hij : j = i
 ·subst hij; simp [h]
 ·rw [if_neg hij, qlQ (by omega)]
end
section
variable {H : AH}
theorem Mem.put_len {M : Mem} {i : Int} {l : List Int} : (M.put i l).1.cs.length = M.cs.length := by
 unfold Mem.put
 split
 ·split
  ·rfl
  ·simp only; split
   ·rw [Mem.wr_cs]
   ·simp [Mem.setc, Mem.wr_cs]
 ·rfl
theorem Mem.set_len {M : Mem} {i v : Int} : (M.set i v).1.cs.length = M.cs.length := by
 unfold Mem.set
 split
 ·split
  ·rfl
  ·simp only; split <;> simp [Mem.wr_cs]
 ·rfl
end
theorem Mem.wr_mask {M : Mem} : M.wr.mask = M.mask := by
 unfold Mem.wr; split
 ·rfl
 ·split <;> rfl
structure PutAny (M : Mem) (i : Nat) (l : List Int) (M' : Mem) (e : Int) : Prop where
 regs : M'.regs = M.regs
 len : M'.cs.length = M.cs.length
 mask : M'.mask = M.mask
 other : ∀ j, j ≠ i → M'.cl j = M.cl j
 limit : (M'.cl i).limit = (M.cl i).limit
 res : (e = 0 ∧ M'.down = false ∧ (M.cl i).worn = false ∧ (M'.cl i).line = l) ∨
  (e = 3 ∧ M'.down = false ∧ (M.cl i).worn = true ∧ M'.cl i = M.cl i) ∨
  (e = 2 ∧ M'.down = true ∧ M.cut ≠ -1 ∧ ((M'.cl i).line = (M.cl i).line ∨ (M'.cl i).line = mixL (M.cl i).line l M.mask))
 cut : M.cut = -1 → M'.cut = -1
 cutge : -1 ≤ M'.cut
theorem Mem.wr_cutge {M : Mem} (h : -1 ≤ M.cut) : -1 ≤ M.wr.cut := by
 unfold Mem.wr; split
 ·exact h
 ·split
  ·simp only; omega
  ·exact h
theorem Mem.put_any {M : Mem} {i : Nat} {l : List Int} (hd : M.down = false) (hi : i < M.cs.length) (hl : l.length = 8) (hc : -1 ≤ M.cut) : PutAny M i l (M.put i l).1 (M.put i l).2 := by
 have hhas : M.has i := ⟨by omega, by omega⟩
 unfold Mem.put
 rw [if_pos hhas, if_neg (by simp [hd]), qlp]
 have hi' : i < M.wr.cs.length := by rw [Mem.wr_cs]; exact hi
 have hwr : (M.cut = 0 ∧ M.wr.down = true ∧ M.wmask = M.mask) ∨ (M.cut ≠ 0 ∧ M.wr.down = false ∧ M.wmask = -1) := by
  unfold Mem.wr Mem.wmask
  by_cases h0 : M.cut = 0
  ·left; rw [if_pos h0, if_pos h0]; exact ⟨h0, rfl, rfl⟩
  ·right; rw [if_neg h0, if_neg h0]; refine ⟨h0, ?_, rfl⟩
   split <;> exact hd
 have hcut : M.cut = -1 → M.wr.cut = -1 := by
  intro h; unfold Mem.wr; rw [if_neg (by omega), if_neg (by omega)]; exact h
 have hmask : M.wr.mask = M.mask := by exact Mem.wr_mask
 simp only
 by_cases hw : (M.cl i).worn = true
 ·rw [if_pos hw]
  refine ⟨Mem.wr_regs, by rw [Mem.wr_cs], hmask, fun j _ => Mem.wr_cl, by rw [Mem.wr_cl], ?_, hcut, Mem.wr_cutge hc⟩
  rcases hwr with ⟨h0, h1, h2⟩ | ⟨h0, h1, h2⟩
  ·exact .inr (.inr ⟨by simp [Mem.told, h1], h1, by omega, .inl (by rw [Mem.wr_cl])⟩)
  ·exact .inr (.inl ⟨by simp [Mem.told, h1], h1, hw, Mem.wr_cl⟩)
 ·rw [if_neg hw]
  refine ⟨Mem.wr_regs, by simp [Mem.setc, Mem.wr_cs], hmask, fun j hj => by rw [Mem.setc_cl' hi', if_neg hj, Mem.wr_cl], by rw [Mem.setc_cl' hi', if_pos rfl], ?_, hcut, Mem.wr_cutge hc⟩
  rcases hwr with ⟨h0, h1, h2⟩ | ⟨h0, h1, h2⟩
  ·refine .inr (.inr ⟨by simp [Mem.told, h1], h1, by omega, .inr ?_⟩)
   rw [Mem.setc_cl' hi', if_pos rfl, h2]
  ·refine .inl ⟨by simp [Mem.told, h1], h1, by simpa using hw, ?_⟩
   rw [Mem.setc_cl' hi', if_pos rfl, h2, qkT hl]
structure SetAny (M : Mem) (i : Nat) (v : Int) (M' : Mem) (e : Int) : Prop where
 cs : M'.cs = M.cs
 mask : M'.mask = M.mask
 res : (e = 0 ∧ M'.down = false ∧ M'.regs = M.regs.set i v) ∨ (e = 2 ∧ M'.down = true ∧ M.cut ≠ -1 ∧ (M'.regs = M.regs ∨ M'.regs = M.regs.set i v))
 cut : M.cut = -1 → M'.cut = -1
 cutge : -1 ≤ M'.cut
theorem Mem.set_any {M : Mem} {i : Nat} {v : Int} (hd : M.down = false) (hi : i < 35) (hc : -1 ≤ M.cut) : SetAny M i v (M.set i v).1 (M.set i v).2 := by
 unfold Mem.set
 rw [if_pos ⟨by omega, by omega⟩, if_neg (by simp [hd]), qlp]
 have hmask : M.wr.mask = M.mask := by exact Mem.wr_mask
 by_cases h0 : M.cut = 0
 ·have h1 : M.wr.down = true := by unfold Mem.wr; rw [if_pos h0]
  by_cases hb : mbit M.wmask 0 = true
  ·rw [if_pos hb]
   exact ⟨Mem.wr_cs, hmask, .inr ⟨by simp [Mem.told, h1], h1, by omega, .inr rfl⟩, by omega, Mem.wr_cutge hc⟩
  ·rw [if_neg hb]
   exact ⟨Mem.wr_cs, hmask, .inr ⟨by simp [Mem.told, h1], h1, by omega, .inl Mem.wr_regs⟩, by omega, Mem.wr_cutge hc⟩
 ·have h1 : M.wr.down = false := by unfold Mem.wr; rw [if_neg h0]; split <;> exact hd
  have h2 : M.wmask = -1 := by unfold Mem.wmask; rw [if_neg h0]
  rw [h2, qii 0 (by omega), if_pos rfl]
  refine ⟨Mem.wr_cs, hmask, .inl ⟨by simp [Mem.told, h1], h1, rfl⟩, fun h => ?_, Mem.wr_cutge hc⟩
  simp only [Mem.wr]; rw [if_neg h0, if_neg (by omega)]; exact h
def Mem.whose (M : Mem) (i : Nat) : Int := M.regs.getD (3 + i) 0
def Mem.place (M : Mem) (n s : Nat) : Nat → Nat
 | 0 => s
 | j + 1 => if M.whose j = (s : Int) + 1 then n + j else M.place n s j
def Mem.view (M : Mem) (n sp s : Nat) : List Int := (M.cl (M.place n s sp)).line
structure LV (M : Mem) (n sp k : Nat) : Prop where
 len : M.cs.length = n + sp
 n1 : 1 ≤ n
 sp16 : sp ≤ 16
 kle : k ≤ sp
 used : ∀ i, i < k → 1 ≤ M.whose i ∧ M.whose i ≤ (n : Int) + 1
 free : ∀ i, k ≤ i → i < sp → M.whose i = 0
def Mem.next (M : Mem) (sp : Nat) : Nat → Nat
 | 0 => sp
 | j + 1 => if M.whose (sp - (j + 1)) = 0 then sp - (j + 1) else M.next sp j
def lgo (n sp slot : Nat) (d : List Int) : Nat → Mem → Mem × Int
 | 0, M => (M, 3)
 | j + 1, M =>
  let r := M.put ((n + (sp - (j + 1)) : Nat) : Int) d
  if r.2 = 0 then r.1.set ((3 + (sp - (j + 1)) : Nat) : Int) ((slot : Int) + 1)
  else if r.2 = 3 then
   let q := r.1.set ((3 + (sp - (j + 1)) : Nat) : Int) ((n : Int) + 1)
   if q.2 = 0 then lgo n sp slot d j q.1 else q
  else r
def lput (n sp : Nat) (M : Mem) (slot : Int) (d : List Int) : Mem × Int :=
 if 0 ≤ slot ∧ slot < n then
  if M.down then (M, 2) else
  let r := M.put ((M.place n slot.toNat sp : Nat) : Int) d
  if r.2 = 3 then lgo n sp slot.toNat d (sp - M.next sp sp) r.1 else r
 else (M, 1)
def lget (n sp : Nat) (M : Mem) (slot : Int) : List Int × Int :=
 if 0 ≤ slot ∧ slot < n then if M.down then (qlq 8 0, 2) else (M.view n sp slot.toNat, 0) else (qlq 8 0, 1)
section
variable {M M' : Mem} {n sp k s : Nat}
theorem qdx (M : Mem) (n s sp : Nat) : M.place n s sp = s ∨ ∃ j, j < sp ∧ M.place n s sp = n + j ∧ M.whose j = (s : Int) + 1 := by
 induction sp with
 | zero => exact .inl rfl
 | succ j ih =>
  simp only [Mem.place]
  by_cases h : M.whose j = (s : Int) + 1
  ·rw [if_pos h]; exact .inr ⟨j, by omega, rfl, h⟩
  ·rw [if_neg h]
   rcases ih with ih | ⟨i, h1, h2, h3⟩
   ·exact .inl ih
   ·exact .inr ⟨i, by omega, h2, h3⟩
theorem qet (hs : s < n) : M.place n s sp < n + sp := by
 rcases qdx M n s sp with h | ⟨j, h1, h2, _⟩ <;> omega
theorem qkh {s' : Nat} (hs : s < n) (hs' : s' < n) (h : M.place n s sp = M.place n s' sp) : s = s' := by
 rcases qdx M n s sp with h1 | ⟨j, h1, h2, h3⟩ <;> rcases qdx M n s' sp with h4 | ⟨i, h4, h5, h6⟩
 ·omega
 ·omega
 ·omega
 ·have : i = j := by omega
  subst this
  omega
theorem qdd (h : ∀ j, j < sp → (M'.whose j = (s : Int) + 1 ↔ M.whose j = (s : Int) + 1)) : M'.place n s sp = M.place n s sp := by
 induction sp with
 | zero => rfl
 | succ j ih =>
  simp only [Mem.place]
  have := h j (by omega)
  by_cases hj : M.whose j = (s : Int) + 1
  ·rw [if_pos hj, if_pos (this.2 hj)]
  ·rw [if_neg hj, if_neg (fun hh => hj (this.1 hh)), ih fun i hi => h i (by omega)]
theorem qjR {i : Nat} (hi : i < sp) (h : M.whose i = (s : Int) + 1) (hz : ∀ j, i < j → j < sp → M.whose j ≠ (s : Int) + 1) : M.place n s sp = n + i := by
 induction sp with
 | zero => omega
 | succ j ih =>
  simp only [Mem.place]
  by_cases hj : i = j
  ·subst hj; rw [if_pos h]
  ·rw [if_neg (hz j (by omega) (by omega))]
   exact ih (by omega) fun q h1 h2 => hz q h1 (by omega)
theorem LV.next (h : LV M n sp k) : M.next sp sp = k := by
 have key : ∀ j, j ≤ sp → sp - k ≤ j → M.next sp j = k := by
  intro j
  induction j with
  | zero => intro _ h2; simp only [Mem.next]; have := h.kle; omega
  | succ j ih =>
   intro h1 h2
   simp only [Mem.next]
   by_cases hz : M.whose (sp - (j + 1)) = 0
   ·rw [if_pos hz]
    by_cases hlt : sp - (j + 1) < k
    ·have := h.used _ hlt; omega
    ·omega
   ·rw [if_neg hz]
    refine ih (by omega) ?_
    have : sp - (j + 1) < k := by
     rcases Nat.lt_or_ge (sp - (j + 1)) k with hh | hh
     ·exact hh
     ·exact absurd (h.free _ hh (by omega)) hz
    omega
 exact key sp (qlu _) (by omega)
theorem LV.same (h : LV M n sp k) (hr : M'.regs = M.regs) (hl : M'.cs.length = M.cs.length) : LV M' n sp k :=
 ⟨by rw [hl]; exact h.len, h.n1, h.sp16, h.kle, fun i hi => by simp only [Mem.whose, hr]; exact h.used i hi, fun i hi hi' => by simp only [Mem.whose, hr]; exact h.free i hi hi'⟩
theorem qfU (hr : M.regs.length = 35) {i j : Nat} {v : Int} (hi : i < 16) (hM : M'.regs = M.regs.set (3 + i) v) : M'.whose j = if j = i then v else M.whose j := by
 unfold Mem.whose
 rw [hM]
 simp only [qlo]
 by_cases hij : j = i
 ·subst hij; rw [ql6 (by omega), if_pos rfl]; rfl
 ·rw [qlQ (by omega), if_neg hij]
theorem qdk (hr : M'.regs = M.regs) (hl : (M'.cl (M.place n s sp)).line = (M.cl (M.place n s sp)).line) : M'.view n sp s = M.view n sp s := by
 unfold Mem.view
 rw [qdd (M' := M') (M := M) fun j _ => by simp only [Mem.whose, hr]]
 exact hl
structure LPut (n sp : Nat) (M : Mem) (slot : Nat) (d : List Int) (k : Nat) (M' : Mem) (e : Int) : Prop where
 lv : ∃ k', k ≤ k' ∧ LV M' n sp k' ∧ (e = 3 → k' = sp)
 other : ∀ s, s < n → s ≠ slot → M'.view n sp s = M.view n sp s
 regs : ∀ r, (r < 3 ∨ 19 ≤ r) → M'.regs.getD r 0 = M.regs.getD r 0
 mask : M'.mask = M.mask
 rlen : M'.regs.length = 35
 res : (e = 0 ∧ M'.down = false ∧ M'.view n sp slot = d) ∨ (e = 3 ∧ M'.down = false ∧ M'.view n sp slot = M.view n sp slot) ∨
  (e = 2 ∧ M'.down = true ∧ M.cut ≠ -1 ∧ (M'.view n sp slot = M.view n sp slot ∨ M'.view n sp slot = d ∨ M'.view n sp slot = mixL (M.view n sp slot) d M.mask))
 cut : M.cut = -1 → M'.cut = -1
 cutge : -1 ≤ M'.cut
end
section
variable {M M' : Mem} {n sp k s slot : Nat} {d : List Int}
theorem qh2 {i : Nat} {v : Int} (hi : i < 16) (hM : M'.regs = M.regs.set (3 + i) v) : ∀ r, (r < 3 ∨ 19 ≤ r) → M'.regs.getD r 0 = M.regs.getD r 0 := by
 intro r hr
 rw [hM]
 simp only [qlo]
 rw [qlQ (by omega)]
theorem qd0 (h : M'.cs = M.cs) (i : Nat) : M'.cl i = M.cl i := by unfold Mem.cl; rw [h]
theorem qjq {i : Nat} {e : Int} {l : List Int} (hP : PutAny M (n + i) l M' e) (hz : ∀ s, s < n → M.whose i ≠ (s : Int) + 1) (hs : s < n) : M'.view n sp s = M.view n sp s := by
 refine qdk hP.regs ?_
 rw [hP.other]
 intro h
 rcases qdx M n s sp with h1 | ⟨j, h1, h2, h3⟩
 ·omega
 ·have : j = i := by omega
  subst this
  exact hz s hs h3
theorem LV.take (h : LV M n sp k) (hr : M.regs.length = 35) (hk : k < sp) {v : Int} (hv : 1 ≤ v ∧ v ≤ (n : Int) + 1) (hM : M'.regs = M.regs.set (3 + k) v) (hl : M'.cs.length = M.cs.length) : LV M' n sp (k + 1) := by
 have hsp := h.sp16
 have hw := fun j => qfU (M' := M') (M := M) (j := j) hr (show k < 16 by omega) hM
 refine ⟨by rw [hl]; exact h.len, h.n1, h.sp16, by omega, fun i hi => ?_, fun i hi hi' => ?_⟩
 ·rw [hw i]
  by_cases hik : i = k
  ·rw [if_pos hik]; exact hv
  ·rw [if_neg hik]; exact h.used i (by omega)
 ·rw [hw i, if_neg (by omega)]; exact h.free i (by omega) hi'
theorem qhp (h : LV M n sp k) (hr : M.regs.length = 35) (hk : k < sp) {v : Int} (hM : M'.regs = M.regs.set (3 + k) v) (hcs : M'.cs = M.cs) (hs : s < n) (hv : v ≠ (s : Int) + 1) : M'.view n sp s = M.view n sp s := by
 have hsp := h.sp16
 unfold Mem.view
 rw [qd0 hcs, qdd (M' := M') (M := M)]
 intro j hj
 rw [qfU hr (by omega) hM]
 by_cases hjk : j = k
 ·rw [if_pos hjk]
  subst hjk
  have := h.free j (qlu _) hj
  constructor
  ·intro e; exact absurd e hv
  ·intro e; omega
 ·rw [if_neg hjk]
theorem qgW (h : LV M n sp k) (hr : M.regs.length = 35) (hk : k < sp) (hM : M'.regs = M.regs.set (3 + k) ((slot : Int) + 1)) (hcs : M'.cs = M.cs) : M'.view n sp slot = (M.cl (n + k)).line := by
 have hsp := h.sp16
 have hw := fun j => qfU (M' := M') (M := M) (j := j) hr (show k < 16 by omega) hM
 unfold Mem.view
 rw [qd0 hcs, qjR (i := k) hk (by rw [hw k, if_pos rfl])]
 intro j h1 h2
 rw [hw j, if_neg (by omega), h.free j (by omega) h2]
 omega
theorem lgo_any : ∀ (j : Nat) (M : Mem), j ≤ sp → LV M n sp (sp - j) → M.regs.length = 35 → M.down = false → -1 ≤ M.cut → slot < n → d.length = 8 →
  LPut n sp M slot d (sp - j) (lgo n sp slot d j M).1 (lgo n sp slot d j M).2 := by
 intro j
 induction j with
 | zero =>
  intro M _ h hr hd hc hs hl
  exact ⟨⟨sp, by omega, h, fun _ => rfl⟩, fun s _ _ => rfl, fun r _ => rfl, rfl, hr, .inr (.inl ⟨rfl, hd, rfl⟩), id, hc⟩
 | succ j ih =>
  intro M hj h hr hd hc hs hl
  have hsp := h.sp16
  have hlen := h.len
  have hk : sp - (j + 1) < sp := by omega
  have hz := h.free _ (qlu _) hk
  have hP := Mem.put_any (M := M) (i := n + (sp - (j + 1))) (l := d) hd (by omega) hl hc
  have hzz : ∀ s, s < n → M.whose (sp - (j + 1)) ≠ (s : Int) + 1 := fun s _ => by omega
  have hkeq : sp - j = sp - (j + 1) + 1 := by omega
  unfold lgo
  simp only
  generalize hR : M.put ((n + (sp - (j + 1)) : Nat) : Int) d = R at *
  generalize sp - (j + 1) = k at *
  have h1 : LV R.1 n sp k := h.same hP.regs hP.len
  have hr1 : R.1.regs.length = 35 := by rw [hP.regs]; exact hr
  have hv1 : ∀ s, s < n → R.1.view n sp s = M.view n sp s := fun s hs => qjq hP hzz hs
  have hregs1 : ∀ r, R.1.regs.getD r 0 = M.regs.getD r 0 := fun r => by rw [hP.regs]
  have set : ∀ v, R.1.down = false → SetAny R.1 (3 + k) v (R.1.set ((3 + k : Nat) : Int) v).1 (R.1.set ((3 + k : Nat) : Int) v).2 := fun v hd1 => Mem.set_any hd1 (by omega) hP.cutge
  rcases hP.res with ⟨e, hd1, _, hline⟩ | ⟨e, hd1, _, _⟩ | ⟨e, hd1, hcut, _⟩
  ·rw [if_pos e]
   have hS := set ((slot : Int) + 1) hd1
   generalize R.1.set ((3 + k : Nat) : Int) ((slot : Int) + 1) = Q at *
   have hcl : Q.1.cs.length = R.1.cs.length := by rw [hS.cs]
   have hother : ∀ s, s < n → s ≠ slot → (Q.1.regs = R.1.regs ∨ Q.1.regs = R.1.regs.set (3 + k) ((slot : Int) + 1)) → Q.1.view n sp s = M.view n sp s := by
    intro s hs hne hor
    rw [← hv1 s hs]
    rcases hor with hor | hor
    ·exact qdk hor (by rw [qd0 hS.cs])
    ·exact qhp h1 hr1 hk hor hS.cs hs (by omega)
   have hregs : ∀ r, (r < 3 ∨ 19 ≤ r) → (Q.1.regs = R.1.regs ∨ Q.1.regs = R.1.regs.set (3 + k) ((slot : Int) + 1)) → Q.1.regs.getD r 0 = M.regs.getD r 0 := by
    intro r hr hor
    rw [← hregs1 r]
    rcases hor with hor | hor
    ·rw [hor]
    ·exact qh2 (by omega) hor r hr
   rcases hS.res with ⟨e', hd', hq⟩ | ⟨e', hd', hcut, hq⟩
   ·refine ⟨⟨k + 1, by omega, h1.take hr1 hk (by omega) hq hcl, by omega⟩, fun s hs hne => hother s hs hne (.inr hq), fun r hr => hregs r hr (.inr hq), hS.mask.trans hP.mask, by rw [hq]; simpa using hr1, .inl ⟨e', hd', ?_⟩, fun hc => hS.cut (hP.cut hc), hS.cutge⟩
    rw [qgW h1 hr1 hk hq hS.cs, hline]
   ·refine ⟨?_, fun s hs hne => hother s hs hne hq, fun r hr => hregs r hr hq, hS.mask.trans hP.mask, ?_, .inr (.inr ⟨e', hd', fun hc => hcut (hP.cut hc), ?_⟩), fun hc => hS.cut (hP.cut hc), hS.cutge⟩
    ·rcases hq with hq | hq
     ·exact ⟨k, qlu _, h1.same hq hcl, by omega⟩
     ·exact ⟨k + 1, by omega, h1.take hr1 hk (by omega) hq hcl, by omega⟩
    ·rcases hq with hq | hq
     ·rw [hq]; exact hr1
     ·rw [hq]; simpa using hr1
    ·rcases hq with hq | hq
     ·left
      rw [← hv1 slot hs]
      exact qdk hq (by rw [qd0 hS.cs])
     ·right; left
      rw [qgW h1 hr1 hk hq hS.cs, hline]
  ·rw [if_neg (by omega), if_pos e]
   have hS := set ((n : Int) + 1) hd1
   generalize R.1.set ((3 + k : Nat) : Int) ((n : Int) + 1) = Q at *
   have hcl : Q.1.cs.length = R.1.cs.length := by rw [hS.cs]
   have hother : ∀ s, s < n → (Q.1.regs = R.1.regs ∨ Q.1.regs = R.1.regs.set (3 + k) ((n : Int) + 1)) → Q.1.view n sp s = M.view n sp s := by
    intro s hs hor
    rw [← hv1 s hs]
    rcases hor with hor | hor
    ·exact qdk hor (by rw [qd0 hS.cs])
    ·exact qhp h1 hr1 hk hor hS.cs hs (by omega)
   have hregs : ∀ r, (r < 3 ∨ 19 ≤ r) → (Q.1.regs = R.1.regs ∨ Q.1.regs = R.1.regs.set (3 + k) ((n : Int) + 1)) → Q.1.regs.getD r 0 = M.regs.getD r 0 := by
    intro r hr hor
    rw [← hregs1 r]
    rcases hor with hor | hor
    ·rw [hor]
    ·exact qh2 (by omega) hor r hr
   rcases hS.res with ⟨e', hd', hq⟩ | ⟨e', hd', hcut, hq⟩
   ·rw [if_pos e']
    have h2 := h1.take hr1 hk (by have := h.n1; omega) hq hcl
    rw [← hkeq] at h2
    have hI := ih Q.1 (by omega) h2 (by rw [hq]; simpa using hr1) hd' hS.cutge hs hl
    generalize lgo n sp slot d j Q.1 = Z at *
    obtain ⟨⟨k', hk', hlv, he⟩, i2, i3, i4, i5, i6, i7, i8⟩ := hI
    refine ⟨⟨k', by omega, hlv, he⟩, fun s hs hne => (i2 s hs hne).trans (hother s hs (.inr hq)), fun r hr => (i3 r hr).trans (hregs r hr (.inr hq)), i4.trans (hS.mask.trans hP.mask), i5, ?_, fun hc => i7 (hS.cut (hP.cut hc)), i8⟩
    have hvs := hother slot hs (.inr hq)
    rw [hvs] at i6
    rcases i6 with i6 | i6 | ⟨a, b, c, i6⟩
    ·exact .inl i6
    ·exact .inr (.inl i6)
    ·refine .inr (.inr ⟨a, b, fun hc => c (hS.cut (hP.cut hc)), ?_⟩)
     rw [hS.mask, hP.mask] at i6
     exact i6
   ·rw [if_neg (by omega)]
    refine ⟨?_, fun s hs _ => hother s hs hq, fun r hr => hregs r hr hq, hS.mask.trans hP.mask, ?_, .inr (.inr ⟨e', hd', fun hc => hcut (hP.cut hc), .inl (hother slot hs hq)⟩), fun hc => hS.cut (hP.cut hc), hS.cutge⟩
    ·rcases hq with hq | hq
     ·exact ⟨k, qlu _, h1.same hq hcl, by omega⟩
     ·exact ⟨k + 1, by omega, h1.take hr1 hk (by have := h.n1; omega) hq hcl, by omega⟩
    ·rcases hq with hq | hq
     ·rw [hq]; exact hr1
     ·rw [hq]; simpa using hr1
  ·rw [if_neg (by omega), if_neg (by omega)]
   exact ⟨⟨k, qlu _, h1, by omega⟩, fun s hs _ => hv1 s hs, fun r _ => hregs1 r, hP.mask, hr1, .inr (.inr ⟨e, hd1, hcut, .inl (hv1 slot hs)⟩), hP.cut, hP.cutge⟩
theorem qin (h : LV M n sp k) (hr : M.regs.length = 35) (hd : M.down = false) (hc : -1 ≤ M.cut) (hs : slot < n) (hl : d.length = 8) :
  LPut n sp M slot d k (lput n sp M slot d).1 (lput n sp M slot d).2 := by
 have hlen := h.len
 have hpl := qet (M := M) (sp := sp) hs
 unfold lput
 rw [if_pos ⟨by omega, by omega⟩, if_neg (by simp [hd]), qlp]
 simp only
 have hP := Mem.put_any (M := M) (i := M.place n slot sp) (l := d) hd (by omega) hl hc
 rw [h.next]
 generalize M.put ((M.place n slot sp : Nat) : Int) d = R at *
 have h1 : LV R.1 n sp k := h.same hP.regs hP.len
 have hr1 : R.1.regs.length = 35 := by rw [hP.regs]; exact hr
 have hother : ∀ s, s < n → s ≠ slot → R.1.view n sp s = M.view n sp s := by
  intro s hs' hne
  refine qdk hP.regs ?_
  rw [hP.other _ fun e => hne (qkh hs' hs e)]
 have hplace : R.1.place n slot sp = M.place n slot sp := qdd fun j _ => by simp only [Mem.whose, hP.regs]
 have hslot : R.1.view n sp slot = (R.1.cl (M.place n slot sp)).line := by unfold Mem.view; rw [hplace]
 have hold : M.view n sp slot = (M.cl (M.place n slot sp)).line := rfl
 rcases hP.res with ⟨e, hd1, _, hline⟩ | ⟨e, hd1, _, hsame⟩ | ⟨e, hd1, hcut, hline⟩
 ·rw [if_neg (by omega)]
  exact ⟨⟨k, qlu _, h1, by omega⟩, hother, fun r _ => by rw [hP.regs], hP.mask, hr1, .inl ⟨e, hd1, by rw [hslot, hline]⟩, hP.cut, hP.cutge⟩
 ·rw [if_pos e]
  have hkle := h.kle
  have hI := lgo_any (n := n) (sp := sp) (slot := slot) (d := d) (sp - k) R.1 (by omega) (by rw [show sp - (sp - k) = k by omega]; exact h1) hr1 hd1 hP.cutge hs hl
  rw [show sp - (sp - k) = k by omega] at hI
  generalize lgo n sp slot d (sp - k) R.1 = Z at *
  obtain ⟨i1, i2, i3, i4, i5, i6, i7, i8⟩ := hI
  have hvs : R.1.view n sp slot = M.view n sp slot := by rw [hslot, hsame, hold]
  refine ⟨i1, fun s hs' hne => (i2 s hs' hne).trans (hother s hs' hne), fun r hr => (i3 r hr).trans (by rw [hP.regs]), i4.trans hP.mask, i5, ?_, fun hc => i7 (hP.cut hc), i8⟩
  rw [hvs, hP.mask] at i6
  rcases i6 with i6 | i6 | ⟨a, b, c, i6⟩
  ·exact .inl i6
  ·exact .inr (.inl i6)
  ·exact .inr (.inr ⟨a, b, fun hc => c (hP.cut hc), i6⟩)
 ·rw [if_neg (by omega)]
  refine ⟨⟨k, qlu _, h1, by omega⟩, hother, fun r _ => by rw [hP.regs], hP.mask, hr1, .inr (.inr ⟨e, hd1, hcut, ?_⟩), hP.cut, hP.cutge⟩
  rw [hslot, hold]
  rcases hline with hline | hline
  ·exact .inl hline
  ·exact .inr (.inr hline)
end
end Go.Proofs.YtemeclnpdpkfdaaGreat
