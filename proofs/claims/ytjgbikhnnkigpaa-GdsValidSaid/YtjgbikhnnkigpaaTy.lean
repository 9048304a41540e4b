/- This seat's types, under the common name. -/
import Derived.Test.YtjgbikhnnkigpaaFw3
import Derived.Test.YtjgbikhnnkigpaaTy1
