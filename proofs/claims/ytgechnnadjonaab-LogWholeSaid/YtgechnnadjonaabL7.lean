import Derived.Test.YtgechnnadjonaabL6
set_option linter.all false
set_option linter.all false
namespace Go.Proofs.Ytgechnnadjonaab
open Go Go.Abs

theorem view_power (M : Mem) (n sp s : Nat) : M.power.view n sp s = M.view n sp s := view_same rfl rfl
theorem view_setCut (M : Mem) (n sp s : Nat) (a b : Int) : (M.setCut a b).view n sp s = M.view n sp s := view_same rfl rfl

theorem could_new {old now : List Int} : could old now now := fun i _ => .inr rfl
theorem could_old {old now : List Int} : could old now old := fun i _ => .inl rfl

section
variable {H : AH}

end
end Go.Proofs.Ytgechnnadjonaab
