/- Words that the short hands name. -/
import Derived.Test.YtjgbikhnnkigpaaT6
import Derived.Test.YtjgbikhnnkigpaaT13
import Derived.Test.YtjgbikhnnkigpaaNb
set_option linter.unusedSimpArgs false
set_option linter.unusedVariables false
namespace Go.Fw
open Go
def natAV : AV := .junk
def limbs (n : Nat) : List Nat := digits 4294967296 n
end Go.Fw
