import Derived.Test.YtgechnnadjonaaaN7
set_option linter.all false
set_option linter.all false
namespace Go.Proofs.Ytgechnnadjonaaa
open Go Go.Abs

section
variable {H : AH}
theorem log_New.le {m : Option Addr} {t x p c n sp per puts : Nat} {M : Mem} {k : Option Addr → AH → Prop} (hT : TAt H t x p c n sp per puts M) (hn : n ≤ 16) (h : k none H) : log_New m (some ⟨t, 0, none⟩) H k := by
  refine canon1 (κ := .ptr) (v := none) (by simp) rfl (log_New.link ?_) h
  unfold log_New.b log_New.j1
  cases m with
  | none => rw [Option.isNone_none, bcase_true, bcase_true]; exact ⟨At.of_keeps (Keeps.refl H), rfl⟩
  | some a =>
    rw [Option.isNone_some, Option.isNone_some, bcase_false, bcase_false]
    refine turn_Lines.s hT ?_
    rw [decide_eq_true (by omega), bcase_true]
    exact ⟨At.of_keeps (Keeps.refl H), rfl⟩

theorem darninglaw12_LogNil.t {x0 : Int} {x1 : Sl} {l : List (Int × List Int)} (_ : (Lit.int .i64 x0).wf = true) (hr : Abs.Rows H x1 9 putV l) (hok : ∀ q ∈ l, putOK q) (_ : l.length ≤ maxLen) : darninglaw12_LogNil x0 x1 H (fun r _ => r = true) := by
  refine darninglaw12_LogNil.link ?_
  unfold darninglaw12_LogNil.b
  simp only [bcase_eq, decide_eq_true_eq, hr.1]
  by_cases c1 : (l.length : Int) > 60
  · rw [if_pos c1]; exact darninglaw12_awake.s rfl
  rw [if_neg c1]
  refine log_Get.nil ?_
  rw [zeroV]
  refine new_line zero_line ?_
  have hrow := line_new (H := H) (e := 0) zero_line
  have hk1 : Keeps H (H.push ⟨lineV (List.replicate 8 0), .rw, 0⟩) := (Keeps.refl H).push _
  have hs1 : H.size < (H.push ⟨lineV (List.replicate 8 0), .rw, 0⟩).size := by simp [push_size]
  generalize H.push ⟨lineV (List.replicate 8 0), .rw, 0⟩ = H1 at *
  refine nvm_New.s (limits := []) rows_nil ?_ (fun h => absurd (by omega) h)
  intro _ H2 hm hk _
  have hr2 := hr.keep (hk1.trans hk)
  rw [ldA_some (by rw [keeps_row hk hs1, hrow]), eq_line zero_line zero_line, beq_self_eq_true, if_pos rfl, if_pos (by simp)]
  refine log_Commit.nil ?_
  rw [if_pos (by simp)]
  refine log_Recover.nil ?_
  rw [if_pos (by simp)]
  refine log_Pending.nil ?_
  rw [if_pos (by simp)]
  refine log_May.s hr2 hok (by omega) ?_
  refine darningref4_MayHomes.s hr2 hok (by omega) ?_
  rw [beq_self_eq_true, if_pos rfl]
  refine log_New.nil (.inr rfl) ?_
  rw [Option.isNone_none, if_pos rfl]
  refine nvm_New.s (limits := []) rows_nil ?_ (fun h => absurd (by omega) h)
  intro _ H3 hm3 hk3 _
  have hLV : LV (Mem.new (Int.toNat 17) []) (16 + 1) 0 0 := LV.zero rfl (by omega) (by omega) fun i hi => by omega
  refine turn_New.s hm3 (by unfold isI; omega) (fun hh => absurd ⟨by omega, by omega, by omega, by omega, by omega, rfl, rfl, hLV.may, by rw [mv_new]; omega⟩ hh) ?_
  intro _ H4 t x hT _ _ _
  refine log_New.le hT (by decide) ?_
  rw [Option.isNone_none, if_pos rfl]
  exact darninglaw12_awake.s rfl
end
end Go.Proofs.Ytgechnnadjonaaa
