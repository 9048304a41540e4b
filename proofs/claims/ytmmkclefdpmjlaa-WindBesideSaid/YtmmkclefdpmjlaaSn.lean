/- Plain: least, most, near. -/
import Derived.Test.YtmmkclefdpmjlaaR8b
set_option linter.unusedSimpArgs false
set_option linter.unusedVariables false
namespace Go.Fw
theorem cmpQ_eq (a b : Rat) : cmpZ (a.num * b.den) (b.num * a.den) = if a < b then -1 else if b < a then 1 else 0 := by
  unfold cmpZ
  by_cases h1 : a < b
  · rw [if_pos h1, if_pos ((Rat.lt_iff a b).1 h1)]
  · rw [if_neg h1, if_neg (fun h => h1 ((Rat.lt_iff a b).2 h))]
    by_cases h2 : b < a
    · rw [if_pos h2, if_pos ((Rat.lt_iff b a).1 h2)]
    · rw [if_neg h2, if_neg (fun h => h2 ((Rat.lt_iff b a).2 h))]
end Go.Fw
