import Derived.Test.YtgechnnadjonaabN20
set_option linter.all false
set_option linter.all false
namespace Go.Proofs.Ytgechnnadjonaab
open Go Go.Abs

section
variable {H : AH}
end
end Go.Proofs.Ytgechnnadjonaab
