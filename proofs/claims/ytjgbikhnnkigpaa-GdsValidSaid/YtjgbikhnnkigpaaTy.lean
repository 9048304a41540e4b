/- This seat's types, under the common name. -/
import Derived.Test.YtjgbikhnnkigpaaFw3
import Derived.Test.YtjgbikhnnkigpaaTy1
set_option linter.unusedSimpArgs false
set_option linter.unusedVariables false
