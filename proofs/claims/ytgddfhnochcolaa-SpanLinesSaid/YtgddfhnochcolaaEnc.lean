import Derived.Test.YtgddfhnochcolaaAbsTwo
set_option linter.all false
namespace Go.Proofs.Ytgddfhnochcolaa
open Go Go.Abs
def isU (n : Int) : Prop := 0 ≤ n ∧ n ≤ 18446744073709551615
def isI (n : Int) : Prop := -9223372036854775808 ≤ n ∧ n ≤ 9223372036854775807
def isB (n : Int) : Prop := 0 ≤ n ∧ n ≤ 255
def isT (_ : Bool) : Prop := True
def iV (v : Int) : List Value := [.int .i64 v]
def wU (v : Int) : List Value := [.int .u64 v]
def bU (v : Int) : List Value := [.int .u8 v]
def bV (v : Bool) : List Value := [.bool v]
end Go.Proofs.Ytgddfhnochcolaa
