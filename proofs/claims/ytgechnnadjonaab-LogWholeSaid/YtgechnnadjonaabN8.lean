import Derived.Test.YtgechnnadjonaabN7
set_option linter.all false
set_option linter.all false
namespace Go.Proofs.Ytgechnnadjonaab
open Go Go.Abs

section
variable {H : AH}
theorem log_New.le {m : Option Addr} {t x p c n sp per puts : Nat} {M : Mem} {k : Option Addr → AH → Prop} (hT : TAt H t x p c n sp per puts M) (hn : n ≤ 16) (h : k none H) : log_New m (some ⟨t, 0, none⟩) H k := by
  refine canon1 (κ := .ptr) (v := none) (by simp) rfl (log_New.link ?_) h
  unfold log_New.b log_New.j1
  cases m with
  | none => rw [Option.isNone_none, bcase_true, bcase_true]; exact ⟨At.of_keeps (Keeps.refl H), rfl⟩
  | some a =>
    rw [Option.isNone_some, Option.isNone_some, bcase_false, bcase_false]
    refine turn_Lines.s hT ?_
    rw [decide_eq_true (by omega), bcase_true]
    exact ⟨At.of_keeps (Keeps.refl H), rfl⟩

end
end Go.Proofs.Ytgechnnadjonaab
