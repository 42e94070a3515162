import Derived.Test.YtgddfhnochcolaaE12
set_option linter.all false
set_option linter.all false
namespace Go.Proofs.Ytgddfhnochcolaa
open Go Go.Abs

section
variable {H : AH}
theorem strC_bytes {o n : Nat} {l : List Int} {k : List UInt8 → Prop} (hg : H.get o = ⟨l.flatMap bU, .rw, 1⟩) (ho : o < H.size) (hn : n = l.length) (h8 : bytes8 l) (hk : k (l.map fun v => UInt8.ofNat v.toNat)) : strC H ⟨some ⟨o, 0, none⟩, n, 1⟩ k := by
  subst hn
  exact own_str (B := 0) (.inr ⟨o, rfl, Nat.zero_le _, ho, hg⟩) h8 hk
theorem zeros8 (n : Nat) : bytes8 (List.replicate n (0 : Int)) := fun v hv => by rw [List.eq_of_mem_replicate hv]; omega
theorem putL_8 {l bs : List Int} {k : Nat} (h1 : bytes8 l) (h2 : bytes8 bs) : bytes8 (putL l k bs) := by
  intro v hv
  unfold putL at hv
  rw [List.mem_append, List.mem_append] at hv
  rcases hv with (hv | hv) | hv
  · exact h1 v (List.mem_of_mem_take hv)
  · exact h2 v hv
  · exact h1 v (List.mem_of_mem_drop hv)
theorem bytesOf_ext {words : Int} {e : List Ex} {ws : List Int} {x : Ex} (h : MR words e ws) (hx : x ∈ e) : bytesOf ws ((x.1.toNat + 1) * 8) ((x.2.1.toNat - 1) * 8) = x.2.2 := (h.by8 x hx).symm

theorem darninglaw20_ModelBytes.t {x0 x1 : Int} {x2 : Sl} {bs : List Int} (h0 : (Lit.int .i64 x0).wf = true) (h1 : (Lit.int .i64 x1).wf = true) (hr : Abs.Rows H x2 1 bU bs) (h8 : ∀ v ∈ bs, isB v) (_ : bs.length ≤ maxLen) : darninglaw20_ModelBytes x0 x1 x2 H (fun r _ => r = true) := by
  have aw : ∀ H', darninglaw20_awake H' fun b _ => b = true := fun H' => darninglaw20_awake.s fun _ => rfl
  refine darninglaw20_ModelBytes.link ?_
  unfold darninglaw20_ModelBytes.b
  refine ⟨by decide, ?_⟩
  rw [hr.1]
  by_cases hbig : ((bs.length : Nat) : Int) > 100
  · rw [decide_eq_true hbig, bcase_true]; exact aw _
  rw [decide_eq_false hbig, bcase_false]
  have m64 : mayW 64 := by unfold mayW; omega
  refine model_New.s (fun h => absurd m64 h) ?_
  intro _ F p H24 hk24 hu24 hM24
  rw [bcase_eq, if_neg (by simp)]
  obtain ⟨r, hr1, hr2, hrr⟩ := umod' (x := x0) (m := 200) (by omega)
  unfold darninglaw20_ModelBytes.j2
  rw [hrr, wrap_i64 (n := 1 + r) (by omega) (by omega)]
  have hneed : needN (1 + r) = 1 + (1 + r + 7) / 8 := by unfold needN; rw [if_pos (by omega)]
  obtain ⟨hfo, tk, htk, ha1, hR1⟩ := alloc_first (n := 1 + r) (words := 64) m64 (by omega) (by omega)
  have htk2 : tk = needN (1 + r) := by
    rw [← htk]
    unfold takesN
    rw [if_pos (by omega), if_neg (by omega)]
  refine model_Model_Alloc.s hM24 (by unfold isI; omega) (by unfold isI; omega) ?_
  intro G H30 hu30 hM30
  rw [ha1, Bool.not_true, bcase_false]
  generalize (aAlloc (firstN 64) (1 + r) 8).2 = ws1 at *
  refine darningref4_Need.s (by unfold isI; omega) ?_
  rw [← htk2]
  generalize needN (1 + r) = nd at *
  subst htk2
  have htk : 2 ≤ tk ∧ tk ≤ 26 := by omega
  rw [wrap_i64 (n := tk - 1) (by omega) (by omega), wrap_i64 (n := (tk - 1) * 8) (by omega) (by omega), wrap_i64 (n := (tk - 1) * 8 + 1) (by omega) (by omega), wrap_u64 (n := (tk - 1) * 8 + 1) (by omega) (by omega)]
  refine ⟨by omega, ?_⟩
  obtain ⟨q, hq1, hq2, hq⟩ := umod' (x := x1) (m := (tk - 1) * 8 + 1) (by omega)
  rw [hq, hr.1, wrap_i64 (n := 8 + q) (by omega) (by omega), wrap_i64 (n := q + ((bs.length : Nat) : Int)) (by omega) (by omega)]
  have hxm : ((0 : Int), tk, List.replicate ((tk.toNat - 1) * 8) (0 : Int)) ∈ [((0 : Int), tk, List.replicate ((tk.toNat - 1) * 8) (0 : Int))] := by simp
  have hK30 : Keeps H H30 := by
    refine ⟨by have := hk24.1; have := hu30.1.1; omega, fun b hb => ?_⟩
    have := hk24.1
    rw [hu30.1.2 b (by omega) (fun hh => by rcases hu24.2 b hh with h | h; exact h; omega), hk24.2 b hb]
  refine model_Model_Write.s hM30 (by unfold isI; omega) (hr.keep hK30) h8 (by omega) ?_
  intro G' H48 hu48 hM48
  have hK48 : Keeps H H48 := by
    refine ⟨by have := hK30.1; have := hu48.1.1; omega, fun b hb => ?_⟩
    have := hk24.1
    have := hu30.1.1
    rw [hu48.1.2 b (by omega) (fun hh => by
      rcases hu30.2 b hh with h | h
      · rcases hu24.2 b h with h | h
        · exact h
        · omega
      · omega), hK30.2 b hb]
  -- what is there now
  have fin : ∀ (e : List Ex) (ws2 : List Int) (lst : List Int) (cd : Int) (Hj : AH) (o : Nat) (s61 : Sl), MR 64 e ws2 → MW G' Hj p ws2 0 → e = [((0 : Int), tk, lst)] → lst.length = (tk.toNat - 1) * 8 → bytes8 lst → Hj.get o = ⟨lst.flatMap bU, .rw, 1⟩ → o < Hj.size → Own 0 Hj s61 1 bU lst →
      darninglaw20_ModelBytes.j1 (fun r _ => r = true) (some ⟨p, 0, none⟩) tk s61 0 o Hj := by
    intro e ws2 lst cd Hj o s61 hR hM he hl h8l hg ho hO
    subst he
    unfold darninglaw20_ModelBytes.j1
    rw [wrap_i64 (n := tk - 1) (by omega) (by omega), wrap_i64 (n := (tk - 1) * 8) (by omega) (by omega), wrap_i64 (n := (tk - 1) * 8 + 9) (by omega) (by omega)]
    refine model_Model_Read.s hM (by unfold isI; omega) (by unfold isI; omega) ?_
    intro s77 H77 hk77 hO77
    rw [hR.rd0 (fun ⟨_, _, x, hx, _, hh⟩ => by simp at hx; subst hx; simp only at hh; omega)] at hO77 ⊢
    rw [bcase_eq, if_pos (by simp)]
    refine own_str (hO.keep hk77.1 (fun b _ hb => hk77.2 b hb)) h8l ?_
    refine strC_bytes (l := lst) (by rw [hk77.2 o ho, hg]) (by have := hk77.1; omega) (by omega) h8l ?_
    rw [beq_self_eq_true, bcase_true, bcase_eq, if_pos (by simp)]
    exact aw _
  by_cases hin : q + (bs.length : Int) ≤ (tk - 1) * 8
  · have hw := hR1.wr (off := 8 + q) (bs := bs) ⟨by omega, by omega, _, hxm, by simp only; omega, by simp only; omega⟩
    have hR2 := hR1.write (e1 := []) (e2 := []) (off := (8 + q).toNat) (bs := bs) h8 (by simp only; omega) (by simp only; omega)
    rw [hw] at hM48 ⊢
    simp only at hM48
    generalize putBs ws1 (8 + q).toNat bs = ws2 at *
    rw [decide_eq_true hin]
    rw [bcase_eq, if_neg (by simp)]
    refine model_Model_Read.s hM48 (by unfold isI; omega) (by unfold isI; omega) ?_
    intro s61 H61 hk61 hO61
    have hqn : (8 + q).toNat - ((0 : Int).toNat + 1) * 8 = q.toNat := by
      show (8 + q).toNat - 8 = q.toNat
      omega
    simp only [List.nil_append, hqn] at hR2
    have hll : (putL (List.replicate ((tk.toNat - 1) * 8) (0 : Int)) q.toNat bs).length = (tk.toNat - 1) * 8 := by rw [putL_len (by simp; omega)]; simp
    rw [hR2.rd ⟨by omega, by omega, _, by simp; rfl, by simp only; omega, by simp only; omega⟩] at hO61 ⊢
    simp only at hO61
    have hby := bytesOf_ext hR2 (x := (0, tk, putL (List.replicate ((tk.toNat - 1) * 8) (0 : Int)) q.toNat bs)) (by simp)
    simp only at hby
    rw [show (8 : Int).toNat = ((0 : Int).toNat + 1) * 8 from rfl, show ((tk - 1) * 8).toNat = (tk.toNat - 1) * 8 by omega, hby] at hO61
    refine ⟨by simp only [lim]; omega, ?_⟩
    rw [newC_eq, zeros_bU]
    have hk65 := (Keeps.refl H61).push ⟨(List.replicate ((tk - 1) * 8).toNat (0 : Int)).flatMap bU, .rw, 1⟩
    have hg65 : (H61.push ⟨(List.replicate ((tk - 1) * 8).toNat (0 : Int)).flatMap bU, .rw, 1⟩).get H61.size = ⟨(List.replicate ((tk - 1) * 8).toNat (0 : Int)).flatMap bU, .rw, 1⟩ := by rw [push_get, if_pos rfl]
    have hz65 : H61.size < (H61.push ⟨(List.replicate ((tk - 1) * 8).toNat (0 : Int)).flatMap bU, .rw, 1⟩).size := by simp [push_size]
    generalize H61.push ⟨(List.replicate ((tk - 1) * 8).toNat (0 : Int)).flatMap bU, .rw, 1⟩ = H65 at *
    rw [show ((tk - 1) * 8).toNat = (tk.toNat - 1) * 8 by omega] at hg65
    rw [bcase_eq, if_pos (by simp)]
    refine ⟨by omega, ?_⟩
    have hrx := (hr.keep hK48).keep (hk61.trans hk65)
    have h8p : bytes8 (putL (List.replicate ((tk.toNat - 1) * 8) (0 : Int)) q.toNat bs) := putL_8 (zeros8 _) h8
    unfold copyC
    have hmin : Nat.min x2.n (((tk - 1) * 8).toNat - q.toNat) = bs.length := by rw [hr.1]; simp only [Nat.min_def]; split <;> omega
    simp only [hmin]
    by_cases hb0 : bs.length = 0
    · rw [if_pos hb0]
      have hbn : bs = [] := List.length_eq_zero_iff.1 hb0
      subst hbn
      have hpz : putL (List.replicate ((tk.toNat - 1) * 8) (0 : Int)) q.toNat [] = List.replicate ((tk.toNat - 1) * 8) 0 := by
        unfold putL
        rw [List.length_nil, Nat.add_zero, List.append_nil, List.take_append_drop]
      exact fin _ ws2 _ 0 H65 H61.size s61 hR2 ((hM48.keeps hk61).keeps hk65) rfl hll h8p (by rw [hg65, hpz]) hz65 (own_base (hO61.keep hk65.1 (fun b _ hb => hk65.2 b hb)) (Nat.zero_le _))
    rw [if_neg hb0]
    have hrow := rows_flat (f := bU) (z := 1) (fun _ => rfl) (fun _ => rfl) (s := ⟨x2.a, bs.length, x2.k⟩) (l := bs) ⟨rfl, hrx.2⟩
    refine ⟨_, hrow, ?_⟩
    rw [Option.map_some, onPtr_mk, addr_add, Nat.zero_add, Nat.mul_one]
    have hfl : ∀ l : List Int, (l.flatMap bU).length = l.length := fun l => by rw [flat_bU, List.length_map]
    refine ⟨⟨rfl, by simp [hg65], by simp only [hg65, hfl]; simp; omega⟩, ?_⟩
    have hgp : (H65.put ⟨H61.size, q.toNat, none⟩ (bs.flatMap bU)).get H61.size = ⟨(putL (List.replicate ((tk.toNat - 1) * 8) (0 : Int)) q.toNat bs).flatMap bU, .rw, 1⟩ := by
      simp only [AH.put, upd_get, if_true, hg65]
      rw [setMany_bytes (by simp; omega)]
    have hkp : Keeps H61 (H65.put ⟨H61.size, q.toNat, none⟩ (bs.flatMap bU)) := hk65.put (Nat.le_refl _) _
    have hzp : H61.size < (H65.put ⟨H61.size, q.toNat, none⟩ (bs.flatMap bU)).size := hz65
    generalize H65.put ⟨H61.size, q.toNat, none⟩ (bs.flatMap bU) = H72 at *
    exact fin _ ws2 _ 0 H72 H61.size s61 hR2 ((hM48.keeps hk61).keeps hkp) rfl hll h8p hgp hzp (own_base (hO61.keep hkp.1 (fun b _ hb => hkp.2 b hb)) (Nat.zero_le _))
  · have hw := hR1.wr0 (off := 8 + q) (bs := bs) (fun ⟨_, _, x, hx, hh, hh2⟩ => by simp at hx; subst hx; simp only at hh2; omega)
    rw [hw] at hM48 ⊢
    simp only at hM48
    rw [decide_eq_false hin]
    rw [bcase_eq, if_neg (by simp)]
    refine model_Model_Read.s hM48 (by unfold isI; omega) (by unfold isI; omega) ?_
    intro s61 H61 hk61 hO61
    rw [hR1.rd ⟨by omega, by omega, _, hxm, by simp only; omega, by simp only; omega⟩] at hO61 ⊢
    simp only at hO61
    have hby := bytesOf_ext hR1 hxm
    simp only at hby
    rw [show (8 : Int).toNat = ((0 : Int).toNat + 1) * 8 from rfl, show ((tk - 1) * 8).toNat = (tk.toNat - 1) * 8 by omega, hby] at hO61
    refine ⟨by simp only [lim]; omega, ?_⟩
    rw [newC_eq, zeros_bU, show ((tk - 1) * 8).toNat = (tk.toNat - 1) * 8 by omega, bcase_eq, if_neg (by simp)]
    have hk65 := (Keeps.refl H61).push ⟨(List.replicate ((tk.toNat - 1) * 8) (0 : Int)).flatMap bU, .rw, 1⟩
    exact fin _ ws1 _ 0 _ H61.size s61 hR1 ((hM48.keeps hk61).keeps hk65) rfl (by simp) (zeros8 _) (by rw [push_get, if_pos rfl]) (by simp [push_size]) (own_base (hO61.keep hk65.1 (fun b _ hb => hk65.2 b hb)) (Nat.zero_le _))
end
end Go.Proofs.Ytgddfhnochcolaa
