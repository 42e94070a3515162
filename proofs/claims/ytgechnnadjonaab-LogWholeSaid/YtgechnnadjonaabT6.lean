import Derived.Test.YtgechnnadjonaabT5
set_option linter.all false
set_option linter.all false
namespace Go.Proofs.Ytgechnnadjonaab
open Go Go.Abs

theorem tview_power (M : Mem) (n sp s : Nat) : M.power.tview n sp s = M.tview n sp s := view_power M _ _ _
theorem tview_setCut (M : Mem) (n sp s : Nat) (a b : Int) : (M.setCut a b).tview n sp s = M.tview n sp s := view_setCut M _ _ _ a b

section
variable {H : AH}

end
end Go.Proofs.Ytgechnnadjonaab
