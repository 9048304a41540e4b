/- This seat's types, under the common name. -/
import Derived.Test.YtjgbikhnnkigpaaFwZ2
import Derived.Test.YtjgbikhnnkigpaaTy1
