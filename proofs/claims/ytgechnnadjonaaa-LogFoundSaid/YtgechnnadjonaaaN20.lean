import Derived.Test.YtgechnnadjonaaaN19
set_option linter.all false
set_option linter.all false
namespace Go.Proofs.Ytgechnnadjonaaa
open Go Go.Abs

theorem row_flat {α : Type} {cells : List Value} {z : Nat} {f : α → List Value} : ∀ {l : List α} {o : Nat}, (∀ i x, l[i]? = some x → (cells.drop (o + i * z)).take z = f x ∧ (f x).length = z) → (cells.drop o).take (l.length * z) = l.flatMap f := by
  intro l
  induction l with
  | nil => intro o _; simp
  | cons a r ih =>
    intro o h
    have h0 := h 0 a rfl
    rw [Nat.zero_mul, Nat.add_zero] at h0
    have hr := ih (o := o + z) fun i x hx => by
      have := h (i + 1) x (by simpa using hx)
      rw [show o + z + i * z = o + (i + 1) * z by rw [Nat.add_mul]; omega]
      exact this
    simp only [List.length_cons, List.flatMap_cons]
    rw [Nat.add_mul, Nat.one_mul, Nat.add_comm, List.take_add, h0.1, List.drop_drop, hr]

/-- Puts that lie in a list of the call's own, in one row. -/
theorem own_row {B : Nat} {H : AH} {s : Sl} {l : List (Int × List Int)} (hO : Own B H s 9 putV l) (hok : ∀ q ∈ l, putOK q) : AH.rowS? H s 9 = some (l.flatMap putV) := by
  have hl : ∀ q ∈ l, (putV q).length = 9 := fun q hq => putV_len (hok q hq)
  rcases hO with ⟨rfl, rfl⟩ | ⟨b, rfl, h1, h2, h3⟩
  · rfl
  · simp only [AH.rowS?]
    by_cases h0 : l.length = 0
    · rw [if_pos h0, List.length_eq_zero_iff.1 h0]; rfl
    · rw [if_neg h0]
      have hlen : (l.flatMap putV).length = l.length * 9 := flat_len' hl
      simp only [AH.row?, h3, Option.isSome_none, Bool.false_eq_true, if_false, Nat.zero_add, List.drop_zero]
      rw [if_neg (by simp), ← hlen, List.take_length, if_pos ⟨Nat.le_refl _, by simp [List.all_flatMap, putV_ok]⟩]
/-- A list of puts is laid behind one of the call's own. -/
theorem append_puts {H0 H : AH} {B B' : Nat} {s t : Sl} {l r : List (Int × List Int)} {k : Sl → AH → Prop} (hl : ∀ q ∈ l, putOK q) (hr : ∀ q ∈ r, putOK q)
    (hO : Own B H s 9 putV l) (hR : Own B' H t 9 putV r) (hB : H0.size ≤ B) (hBH : B ≤ H.size) (hK : Keeps H0 H) (hlim : l.length + r.length ≤ lim)
    (h : ∀ s' H', Own B H' s' 9 putV (l ++ r) → Keeps H0 H' → H.size ≤ H'.size → (∀ b, b < H.size → (∀ a, s.a = some a → b ≠ a.block) → H'.get b = H.get b) → k s' H') :
    appendC 9 H s t k := by
  have hrow := own_row hR hr
  have hge := hK.1
  have hs : s.n = l.length := own_nn hO
  have ht : t.n = r.length := own_nn hR
  refine ⟨by rw [hs, ht]; exact hlim, ?_⟩
  by_cases h0 : t.n = 0
  · rw [if_pos h0]
    have : r = [] := List.length_eq_zero_iff.1 (by rw [← ht]; exact h0)
    subst this
    refine h _ _ (by rw [List.append_nil]; exact hO) hK (Nat.le_refl _) fun _ _ _ => rfl
  rw [if_neg h0]
  refine ⟨_, hrow, ?_⟩
  rcases hO with ⟨rfl, rfl⟩ | ⟨b, rfl, hb1, hb2, hg⟩
  · refine h _ _ (.inr ⟨H.size, ?_, ?_, ?_, ?_⟩) (hK.push _) (by simp [push_size]) ?_
    · simp [newAt, ht]
    · omega
    · simp [push_size]
    · simp [push_get]
    · intro b hb _; exact push_get_ne (by omega)
  · refine ⟨⟨rfl, rfl, rfl, by rw [hg], by rw [hg]; exact flat_len' fun q hq => putV_len (hl q hq), by rw [hg]⟩, ?_⟩
    refine h _ _ (.inr ⟨H.size, ?_, ?_, ?_, ?_⟩) ((hK.kill (b := b) (Nat.le_trans hB hb1)).push _) (by simp [push_size, kill_size]) ?_
    · simp [newAt, ht]
    · omega
    · simp [push_size, kill_size]
    · simp only [push_get, kill_size, if_true]
      rw [hg]
      simp
    · intro b' hb' hne
      have hne' : b' ≠ b := hne _ rfl
      rw [push_get_ne (by simp only [kill_size]; omega), kill_get_ne hne']

def mostL (d : List Int) (m : Nat) : List (Int × List Int) := (List.range m).map fun (i : Nat) => (35 - (i : Int), d)
theorem mostL_len {d : List Int} {m : Nat} : (mostL d m).length = m := by simp [mostL]
theorem mostL_ok {d : List Int} (hd : isLine d) {m : Nat} (hm : m ≤ 20) : ∀ q ∈ mostL d m, putOK q := by
  intro q hq
  unfold mostL at hq
  rw [List.mem_map] at hq
  obtain ⟨i, hi, rfl⟩ := hq
  rw [List.mem_range] at hi
  exact ⟨by unfold isI; simp only; omega, hd⟩
theorem mostL_succ {d : List Int} {m : Nat} : mostL d (m + 1) = mostL d m ++ [(35 - (m : Int), d)] := by
  unfold mostL; rw [List.range_succ, List.map_append]; rfl
theorem mostL_ln {d : List Int} {m i : Nat} {r : List (Int × List Int)} (hi : i < m) : lnAt (mostL d m ++ r) i = 35 - (i : Int) := by
  unfold lnAt mostL
  rw [List.getD_eq_getElem?_getD, List.getElem?_append_left (by simpa using hi), List.getElem?_map, List.getElem?_range hi]; rfl
theorem mostL_may {d : List Int} {m : Nat} (hm : m ≤ 20) : MayL 36 (mostL d m) ↔ 1 ≤ m ∧ m ≤ 14 := by
  unfold MayL MayZ
  rw [mostL_len]
  refine ⟨fun h => ⟨h.2.1, h.2.2.1⟩, fun h => ⟨by omega, h.1, h.2, fun i hi => ?_⟩⟩
  have e : ∀ j, j < m → lnAt (mostL d m) j = 35 - (j : Int) := fun j hj => by have := mostL_ln (d := d) (r := []) hj; rwa [List.append_nil] at this
  rw [e i hi]
  exact ⟨by omega, by omega, fun j hj => by rw [e j (by omega)]; omega⟩
theorem mostL_low {d d' : List Int} {m : Nat} : ¬ MayL 36 (mostL d m ++ [(((m % 16 : Nat) : Int), d')]) := by
  intro h
  have hl : (mostL d m ++ [(((m % 16 : Nat) : Int), d')]).length = m + 1 := by simp [mostL_len]
  have := h.2.2.2 m (by omega)
  have e : lnAt (mostL d m ++ [(((m % 16 : Nat) : Int), d')]) m = ((m % 16 : Nat) : Int) := by
    unfold lnAt
    rw [List.getD_eq_getElem?_getD, List.getElem?_append_right (by simp [mostL_len])]; simp [mostL_len]
  rw [e] at this
  omega
theorem mostL_twice {d d' : List Int} {m : Nat} (hm : 0 < m) : ¬ MayL 36 (mostL d m ++ [((35 : Int), d')]) := by
  intro h
  have hl : (mostL d m ++ [((35 : Int), d')]).length = m + 1 := by simp [mostL_len]
  have := (h.2.2.2 m (by omega)).2.2 0 hm
  have e : lnAt (mostL d m ++ [((35 : Int), d')]) m = 35 := by
    unfold lnAt
    rw [List.getD_eq_getElem?_getD, List.getElem?_append_right (by simp [mostL_len])]; simp [mostL_len]
  rw [e, mostL_ln hm] at this
  exact this rfl

section
variable {H : AH}
theorem darninglaw12_LogMost.t {x0 : Int} {d : List Int} (_ : (Lit.int .i64 x0).wf = true) (hd : isLine d) : darninglaw12_LogMost x0 (lineV d) H (fun r _ => r = true) := by
  refine darninglaw12_LogMost.link ?_
  unfold darninglaw12_LogMost.b
  rw [newC_eq]
  have hr0 := line_new (H := H) (e := 0) hd
  have hs0 : H.size < (H.push ⟨lineV d, .rw, 0⟩).size := by simp [push_size]
  have hg0 : (H.push ⟨lineV d, .rw, 0⟩).get H.size = ⟨lineV d, .rw, 0⟩ := by rw [push_get, if_pos rfl]
  generalize hH0 : H.push ⟨lineV d, .rw, 0⟩ = H0 at *
  generalize H.size = o3 at *
  refine ⟨by decide, ?_⟩
  refine darninglaw12_made.s (nn := 20) (sp := 0) (per := 9) (limits := []) rows_nil ⟨by omega, by omega⟩ (by omega) ⟨by omega, by omega⟩ ?_
  intro H1 g t x hG hk hg ht hx
  rw [Option.isNone_some, bcase_false]
  have hrow : ∀ H', Keeps H1 H' → AH.row? H' ⟨o3, 0, none⟩ 8 = some (lineV d) := fun H' hk' => by rw [keeps_row (hk.trans hk') hs0, hr0]
  have hx0 := umod (m := 20) (by omega) x0
  obtain ⟨m, hm⟩ := Int.eq_ofNat_of_zero_le hx0.1
  have hW : IntKind.wrap .i64 (Int.tmod (IntKind.wrap .u64 x0) 20) = (m : Int) := by rw [hm, wrap_i64 (by omega) (by omega)]
  have hm20 : m < 20 := by omega
  refine loopT_inv (t := ((⟨none, 0, 0⟩, (0 : Int)) : Sl × Int)) (I := fun (t' : Sl × Int) H' => ∃ i : Nat, t'.2 = (i : Int) ∧ i ≤ m ∧ Keeps H1 H' ∧ Own H1.size H' t'.1 9 putV (mostL d i)) (m := fun (t' : Sl × Int) _ => Int.toNat ((m : Int) - t'.2)) ?_ ⟨0, rfl, by omega, Keeps.refl _, .inl ⟨rfl, rfl⟩⟩
  intro t' H2 hI it hit
  obtain ⟨s, u2⟩ := t'
  obtain ⟨i, e1, hi, hk2, hO⟩ := hI
  simp only at e1 hO
  subst e1
  unfold darninglaw12_LogMost.l4
  simp only [hW]
  by_cases hlt : (i : Int) < (m : Int)
  · rw [decide_eq_true hlt, bcase_true, ldA_some (hrow H2 hk2), wrap_i64 (n := 35 - (i : Int)) (by omega) (by omega)]
    have hsm : setMany [(Value.int .i64 (35 - (i : Int))), .int .u64 0, .int .u64 0, .int .u64 0, .int .u64 0, .int .u64 0, .int .u64 0, .int .u64 0, .int .u64 0] 1 (lineV d) = putV (35 - (i : Int), d) := by
      have h8 := hd.1
      match d, h8 with
      | [a0, a1, a2, a3, a4, a5, a6, a7], _ => rfl
    have hcl : putOK (35 - (i : Int), d) := ⟨by unfold isI; simp only; omega, hd⟩
    rw [hsm, putV_over hd]
    refine ⟨lineV_len hd.1, putV_len hcl, ?_⟩
    rw [newC_eq]
    refine append_put (fun q hq => putV_len (mostL_ok hd (by omega) q hq)) (putV_len hcl) (putV_ok _) hO (Nat.le_refl _) hk2.1 hk2 (by rw [mostL_len]; simp only [lim]; omega) ?_
    intro s' H' hO' hK'
    rw [wrap_i64 (n := (i : Int) + 1) (by omega) (by omega)]
    refine hit _ _ ⟨i + 1, by simp, by omega, hK', by rw [mostL_succ]; exact hO'⟩ (by simp only; omega)
  rw [decide_eq_false hlt, bcase_false]
  have : i = m := by omega
  subst this
  have hokm := mostL_ok hd (m := i) (by omega)
  have hml := mostL_len (d := d) (m := i)
  have hmay := mostL_may (d := d) (m := i) (by omega)
  -- what follows, in whatever case
  have tail : ∀ x9 : Bool, x9 = decide (1 ≤ i ∧ i ≤ 14) → darninglaw12_LogMost.j2 x0 (fun r _ => r = true) o3 (some ⟨g, 0, none⟩) (s, (i : Int)) H2 x9 := by
    intro x9 hx9
    unfold darninglaw12_LogMost.j2
    simp only [hW]
    rw [newC_eq]
    have hOe : Own H2.size (H2.push ⟨[], .rw, 9⟩) ⟨some ⟨H2.size, 0, none⟩, 0, 1⟩ 9 putV [] := .inr ⟨H2.size, rfl, Nat.le_refl _, by simp [push_size], by rw [push_get, if_pos rfl]; rfl⟩
    have hO3 : Own H1.size (H2.push ⟨[], .rw, 9⟩) s 9 putV (mostL d i) := hO.keep (by simp [push_size]) (fun b _ hb => push_get_ne (by omega))
    refine append_puts (H0 := H2) (by intro q hq; cases hq) hokm hOe hO3 (Nat.le_refl _) (by simp [push_size]) ((Keeps.refl H2).push _) (by rw [hml]; simp [lim]; omega) ?_
    intro s44 H44 hO44 hk44 hz44 _
    rw [List.nil_append] at hO44
    refine ⟨by decide, rfl, ?_⟩
    rw [newC_eq]
    have e16 : Int.tmod (i : Int) 16 = ((i % 16 : Nat) : Int) := by rw [show (16 : Int) = ((16 : Nat) : Int) from rfl, tmod_nat]
    have eL : ∀ v : Int, [Value.int .i64 v, .int .u64 0, .int .u64 0, .int .u64 0, .int .u64 0, .int .u64 0, .int .u64 0, .int .u64 0, .int .u64 0] = putV (v, List.replicate 8 0) := fun v => rfl
    have okv : ∀ v : Int, 0 ≤ v → v ≤ 100 → putOK (v, List.replicate 8 0) := fun v h1 h2 => ⟨by unfold isI; simp only; omega, zero_line⟩
    rw [e16, eL]
    have hk2s := hk44.1
    refine append_put (H0 := H2) (fun q hq => putV_len (hokm q hq)) (putV_len (okv _ (by omega) (by omega))) (putV_ok _) hO44 (Nat.le_refl _) hk44.1 hk44 (by rw [hml]; simp only [lim]; omega) ?_
    intro s49 H49 hO49 hk49
    rw [newC_eq]
    have hOe2 : Own H49.size (H49.push ⟨[], .rw, 9⟩) ⟨some ⟨H49.size, 0, none⟩, 0, 1⟩ 9 putV [] := .inr ⟨H49.size, rfl, Nat.le_refl _, by simp [push_size], by rw [push_get, if_pos rfl]; rfl⟩
    have hk49s := hk49.1
    have hR2 := (own_rows_put hO hokm).keep (hk49)
    have hO49s : Own H1.size (H49.push ⟨[], .rw, 9⟩) s 9 putV (mostL d i) := (hO.keep hk49.1 (fun b _ hb => hk49.2 b hb)).keep (by simp [push_size]) (fun b _ hb => push_get_ne (by omega))
    have hO49' : Own H2.size (H49.push ⟨[], .rw, 9⟩) s49 9 putV (mostL d i ++ [(((i % 16 : Nat) : Int), List.replicate 8 0)]) := hO49.keep (by simp [push_size]) (fun b _ hb => push_get_ne (by omega))
    refine append_puts (H0 := H49) (B := H49.size) (by intro q hq; cases hq) hokm hOe2 hO49s (Nat.le_refl _) (by simp [push_size]) ((Keeps.refl H49).push _) (by rw [hml]; simp [lim]; omega) ?_
    intro s52 H52 hO52 hk52 _ _
    rw [List.nil_append] at hO52
    refine ⟨rfl, ?_⟩
    rw [newC_eq, eL]
    refine append_put (H0 := H49) (fun q hq => putV_len (hokm q hq)) (putV_len (okv _ (by omega) (by omega))) (putV_ok _) hO52 (Nat.le_refl _) hk52.1 hk52 (by rw [hml]; simp only [lim]; omega) ?_
    intro s55 H55 hO55 hk55
    have hk255 : Keeps H2 H55 := hk49.trans hk55
    have hR := (own_rows_put hO hokm).keep hk255
    refine log_May.s (n := 36) hR hokm (by rw [hml]; omega) ?_
    have hd9 : decide (MayL 36 (mostL d i)) = x9 := by
      rw [hx9]
      by_cases hc : 1 ≤ i ∧ i ≤ 14
      · rw [decide_eq_true hc, decide_eq_true (hmay.2 hc)]
      · rw [decide_eq_false hc, decide_eq_false (fun h => hc (hmay.1 h))]
    rw [hd9, beq_self_eq_true, Bool.not_true, bcase_false]
    have hokl : ∀ q ∈ mostL d i ++ [(((i % 16 : Nat) : Int), List.replicate 8 0)], putOK q := fun q hq => by
      rw [List.mem_append] at hq
      rcases hq with hq | hq
      · exact hokm q hq
      · simp only [List.mem_cons, List.not_mem_nil, or_false] at hq; subst hq; exact okv _ (by omega) (by omega)
    have hokt : ∀ q ∈ mostL d i ++ [((35 : Int), List.replicate 8 0)], putOK q := fun q hq => by
      rw [List.mem_append] at hq
      rcases hq with hq | hq
      · exact hokm q hq
      · simp only [List.mem_cons, List.not_mem_nil, or_false] at hq; subst hq; exact okv _ (by omega) (by omega)
    have hk4955 := hk55
    refine log_May.s (n := 36) ((own_rows_put hO49 hokl).keep hk55) hokl (by simp [hml]; omega) ?_
    rw [decide_eq_false mostL_low, bcase_false]
    -- the commit
    have hk155 := hk2.trans hk255
    have hG5 := hG.keeps hk155
    have hps : PSt (16 + 20) 0 9 (Mem.new (16 + 20 + 1 + 0) []) 0 0 (16 + 20 + 1 + 0) := hG5.pst (LV.zero (by simp [Mem.new]) (by omega) (by omega) fun i hi => by omega) (by rw [mv_new]; omega)
    have hS0 : Sd (16 + 20) 0 (Mem.new (16 + 20 + 1 + 0) []) (List.replicate 20 (List.replicate 8 (0 : Int))) := sd_new (by omega) (by omega)
    have lt := hG.tn.lt
    have lp := hG.tn.l.m.lp
    have lc := hG.tn.l.m.lc
    have hks := hk.1
    have hk2s' := hk2.1
    have com : log_Log_Commit (some ⟨g, 0, none⟩) s H55 fun n75 H75 => darninglaw12_LogMost.j1 (fun r _ => r = true) o3 (some ⟨g, 0, none⟩) x9 (!(((n75 : Int) == 0) == x9)) H75 := by
      obtain ⟨c1, c2⟩ := com_any (l := mostL d i) hps (by omega) rfl (by omega) hokm (by simp) hS0
      have hone := fun hm => com_nl (l := mostL d i) hps NL.new (by omega) rfl rfl (by omega) hokm hm rfl
      have hnot : ¬ MayL ((16 + 20 : Nat) : Int) (mostL d i) → comN (16 + 20) 0 9 (mostL d i) (Mem.new (16 + 20 + 1 + 0) []) 0 = (Mem.new (16 + 20 + 1 + 0) [], 0, 1) := fun hm => by unfold comN; rw [if_pos hm]
      have hcu : (Mem.new (16 + 20 + 1 + 0) []).cut = -1 := rfl
      have hup0 : (Mem.new (16 + 20 + 1 + 0) []).down = false := rfl
      refine log_Commit.s hG5 hps (by omega) hR hokm (by rw [hml]; omega) ?_ ?_
      · intro _ b hb
        rcases hO with ⟨rfl, _⟩ | ⟨b', rfl, hb1, _⟩
        · simp at hb
        · simp at hb; subst hb; omega
      intro H7 hG7 f7 _
      have hrow7 : AH.row? H7 ⟨o3, 0, none⟩ 8 = some (lineV d) := by
        have hle := hk155.1
        rw [← hrow H55 hk155]
        simp only [AH.row?]
        rw [f7.get o3 (by omega) (by omega) (by omega) (by omega)]
      have ecast : (36 : Int) = ((16 + 20 : Nat) : Int) := rfl
      have hres : ((comN (16 + 20) 0 9 (mostL d i) (Mem.new (16 + 20 + 1 + 0) []) 0).2.2 = 0 ↔ 1 ≤ i ∧ i ≤ 14) ∧ (comN (16 + 20) 0 9 (mostL d i) (Mem.new (16 + 20 + 1 + 0) []) 0).1.down = false ∧
          ∃ v, getN (16 + 20) 0 (comN (16 + 20) 0 9 (mostL d i) (Mem.new (16 + 20 + 1 + 0) []) 0).1 35 = (v, 0) ∧ isLine v ∧ (1 ≤ i ∧ i ≤ 14 → v = d) := by
        by_cases hc : 1 ≤ i ∧ i ≤ 14
        · have hm := hmay.2 hc
          rw [ecast] at hm
          obtain ⟨n1, n2⟩ := hone hm
          have hSD : Sd (16 + 20) 0 (comN (16 + 20) 0 9 (mostL d i) (Mem.new (16 + 20 + 1 + 0) []) 0).1 (upd (List.replicate 20 (List.replicate 8 (0 : Int))) (mostL d i)) ∧ (comN (16 + 20) 0 9 (mostL d i) (Mem.new (16 + 20 + 1 + 0) []) 0).1.down = false := by
            rcases c1 with ⟨_, ⟨a, _⟩ | ⟨a, _⟩⟩ | ⟨_, _, a, ⟨_, b⟩ | ⟨b, _⟩⟩
            · exact absurd n1 a
            · omega
            · exact ⟨a, b⟩
            · omega
          refine ⟨⟨fun _ => hc, fun _ => n1⟩, hSD.2, ?_⟩
          have := sd_get (nn := 20) rfl (by omega) hSD.2 hSD.1 (i := 19) (by omega)
          refine ⟨_, this, ?_, fun _ => ?_⟩
          all_goals
            have hin : (35 - ((0 : Nat) : Int), d) ∈ mostL d i := by
              unfold mostL
              rw [List.mem_map]
              exact ⟨0, List.mem_range.2 (by omega), rfl⟩
            have hv := upd_in (i := 19) (ws := List.replicate 20 (List.replicate 8 (0 : Int))) (fun q h => (may_range hm h).1) (may_nodup hm) hin (by simp) (by simp)
            rw [hv]
          · exact hd
        · have hm : ¬ MayL ((16 + 20 : Nat) : Int) (mostL d i) := fun h => hc (hmay.1 h)
          rw [hnot hm]
          refine ⟨⟨fun h => absurd h (by simp), fun h => absurd h hc⟩, rfl, _, sd_get (nn := 20) rfl (by omega) hup0 hS0 (i := 19) (by omega), ?_, fun h => absurd h hc⟩
          exact zero_line
      clear hone hnot c1 c2
      generalize comN (16 + 20) 0 9 (mostL d i) (Mem.new (16 + 20 + 1 + 0) []) 0 = R at *
      obtain ⟨r1, r2, v, r3, r4, r5⟩ := hres
      have hb : ((R.2.2 : Int) == 0) = x9 := by
        rw [hx9]
        by_cases hc : 1 ≤ i ∧ i ≤ 14
        · rw [decide_eq_true hc, r1.2 hc]; rfl
        · rw [decide_eq_false hc]
          have := fun h => hc (r1.1 h)
          simpa using this
      rw [hb, beq_self_eq_true, Bool.not_true]
      unfold darninglaw12_LogMost.j1
      rw [bcase_false]
      refine log_Get.s hG7 (by unfold isI; omega) ?_
      rw [r3, zeroV]
      refine new_line r4 ?_
      have fin : ∀ H', nvm_New (40 : Int) ⟨none, 0, 0⟩ H' fun p97 H97 => turn_New p97 (39 : Int) 0 (9 : Int) H97 fun p98 H98 => bcase (!(Option.isNone p98)) (darninglaw12_awake H98 fun b102 H102 => b102 = true) (false = true) := by
        intro H'
        refine nvm_New.s (limits := []) rows_nil ?_ (fun h => absurd (by omega) h)
        intro _ H3 hm3 hk3 _
        have hLV : LV (Mem.new (Int.toNat 40) []) (39 + 1) 0 0 := LV.zero rfl (by omega) (by omega) fun i hi => by omega
        refine turn_New.s hm3 (by unfold isI; omega) (fun hh => absurd ⟨by omega, by omega, by omega, by omega, by omega, rfl, rfl, hLV.may, by rw [mv_new]; omega⟩ hh) ?_
        intro _ H4 t x hT _ _ _
        rw [Option.isNone_some, Bool.not_false, bcase_true]
        exact darninglaw12_awake.s rfl
      rw [show ((0 : Int) == 0) = true from rfl, bcase_true]
      cases hx : x9 with
      | false => rw [Bool.not_false, bcase_true]; exact fin _
      | true =>
        rw [Bool.not_true, bcase_false, ldA_some (line_new r4), ldA_some (by rw [row_push (by have := f7.size; have := hk155.1; omega)]; exact hrow7)]
        have hv : v = d := r5 (by
          rw [hx] at hx9
          exact of_decide_eq_true hx9.symm)
        rw [hv, eq_line hd hd, beq_self_eq_true, bcase_true]
        exact fin _
    by_cases hpos : (i : Int) > 0
    · rw [decide_eq_true hpos, bcase_true]
      refine log_May.s (n := 36) (own_rows_put hO55 hokt) hokt (by simp [hml]; omega) ?_
      rw [decide_eq_false (mostL_twice (by omega)), bcase_false]
      exact com
    · rw [decide_eq_false hpos, bcase_false]
      exact com
  unfold darninglaw12_LogMost.j3
  rw [hW]
  by_cases h1 : (i : Int) ≥ 1
  · rw [decide_eq_true h1, bcase_true]
    refine tail _ ?_
    by_cases h2 : (i : Int) ≤ 14
    · rw [decide_eq_true h2, decide_eq_true ⟨by omega, by omega⟩]
    · rw [decide_eq_false h2, decide_eq_false (fun h => h2 (by omega))]
  · rw [decide_eq_false h1, bcase_false]
    exact tail _ (decide_eq_false (fun h => h1 (by omega))).symm
end
end Go.Proofs.Ytgechnnadjonaaa
