/- Plain: points whose numbers are small, and what Clip makes of them. -/
import Derived.Test.YtbabekaohfcjbaaU1
import Derived.Test.YtbabekaohfcjbaaHb
import Derived.Test.YtbabekaohfcjbaaSn
import Derived.Test.YtbabekaohfcjbaaR13
set_option linter.unusedSimpArgs false
set_option linter.unusedVariables false
namespace Go.Fw
open Go Go.Proofs

theorem clipF_len (s b : FSg) : (clipF s b).length ≤ 2 := by
  unfold clipF
  simp only [List.length_append]
  by_cases h1 : cross b.A.v b.B.v s.A.v * cross b.A.v b.B.v s.B.v < 0
  · by_cases h2 : 0 ≤ cross b.A.v b.B.v s.A.v
    · by_cases h3 : 0 ≤ cross b.A.v b.B.v s.B.v
      · have := Rat.mul_nonneg h2 h3; grind
      · rw [if_neg (c := 0 ≤ cross b.A.v b.B.v s.B.v ∧ _) (fun k => h3 k.1), if_pos h1, if_pos h2]
        simp
    · rw [if_neg h2]
      split <;> split <;> simp
  · rw [if_neg h1]
    split <;> split <;> simp
/-- Its numbers are small. -/
def HP (p : FP) : Prop := HB p.x.q 72 12 ∧ HB p.y.q 72 12
def HS (s : FSg) : Prop := HP s.A ∧ HP s.B
theorem HP.sz {p : FP} (h : HP p) : szV p ≤ 8 := by
  have h1 := h.1.sz
  have h2 := h.2.sz
  unfold szV
  omega
theorem HS.sz {s : FSg} (h : HS s) : szS s ≤ 16 := by
  have h1 := h.1.sz
  have h2 := h.2.sz
  unfold szS
  omega
theorem HP.cross {a b c : FP} (ha : HP a) (hb : HP b) (hc : HP c) : HB (cross a.v b.v c.v) 219 96 := by
  have h1 := hb.1.sub ha.1 84 (by omega) (by omega)
  have h2 := hc.2.sub ha.2 84 (by omega) (by omega)
  have h3 := hb.2.sub ha.2 84 (by omega) (by omega)
  have h4 := hc.1.sub ha.1 84 (by omega) (by omega)
  exact (h1.mul h2).sub (h3.mul h4) 218 (by omega) (by omega)
theorem HS.at {s b : FSg} (hs : HS s) (hb : HS b) : szV (s.at (Go.Fw.cross b.A.v b.B.v s.A.v / (Go.Fw.cross b.A.v b.B.v s.A.v - Go.Fw.cross b.A.v b.B.v s.B.v))) ≤ 62 := by
  have u := HP.cross hb.1 hb.2 hs.1
  have v := HP.cross hb.1 hb.2 hs.2
  have l := u.div (u.sub v 315 (by omega) (by omega))
  have x1 := (hs.2.1.sub hs.1.1 84 (by omega) (by omega)).mul l
  have x2 := hs.1.1.add x1 509 (by omega) (by omega)
  have y1 := (hs.2.2.sub hs.1.2 84 (by omega) (by omega)).mul l
  have y2 := hs.1.2.add y1 509 (by omega) (by omega)
  have z1 := x2.sz
  have z2 := y2.sz
  have e1 : szV (s.at (Go.Fw.cross b.A.v b.B.v s.A.v / (Go.Fw.cross b.A.v b.B.v s.A.v - Go.Fw.cross b.A.v b.B.v s.B.v))) = szQ (s.A.x.q + (s.B.x.q - s.A.x.q) * (Go.Fw.cross b.A.v b.B.v s.A.v / (Go.Fw.cross b.A.v b.B.v s.A.v - Go.Fw.cross b.A.v b.B.v s.B.v))) + szQ (s.A.y.q + (s.B.y.q - s.A.y.q) * (Go.Fw.cross b.A.v b.B.v s.A.v / (Go.Fw.cross b.A.v b.B.v s.A.v - Go.Fw.cross b.A.v b.B.v s.B.v))) := rfl
  rw [e1]
  omega
theorem clipF_sz {s b : FSg} (hs : HS s) (hb : HS b) : ∀ p ∈ clipF s b, szV p ≤ 62 := by
  intro p hp
  have h1 := hs.1.sz
  have h2 := hs.2.sz
  have h3 := HS.at hs hb
  unfold clipF at hp
  simp only [List.mem_append] at hp
  rcases hp with hp | hp | hp
  · split at hp
    · rw [List.mem_singleton.1 hp]; omega
    · cases hp
  · split at hp
    · rw [List.mem_singleton.1 hp]; exact h3
    · cases hp
  · split at hp
    · rw [List.mem_singleton.1 hp]; omega
    · cases hp

theorem sideOf_eq (a b c : FP) : sideOf a b c = if cross a.v b.v c.v < 0 then -1 else if 0 < cross a.v b.v c.v then 1 else 0 := by
  unfold sideOf
  simp only
  rw [cmpQ_eq]
  unfold cross FP.v
  simp only
  generalize (b.x.q - a.x.q) * (c.y.q - a.y.q) = x
  generalize (b.y.q - a.y.q) * (c.x.q - a.x.q) = y
  by_cases h1 : x < y
  · rw [if_pos h1, if_pos (by grind)]
  · rw [if_neg h1, if_neg (show ¬ x - y < 0 by grind)]
    by_cases h2 : y < x
    · rw [if_pos h2, if_pos (by grind)]
    · rw [if_neg h2, if_neg (by grind)]
theorem sideOf_nn (a b c : FP) : 0 ≤ sideOf a b c ↔ 0 ≤ cross a.v b.v c.v := by
  rw [sideOf_eq]
  by_cases h1 : cross a.v b.v c.v < 0
  · rw [if_pos h1]; constructor
    · intro h; cases h
    · intro h; grind
  · rw [if_neg h1]
    have h3 : 0 ≤ cross a.v b.v c.v := by grind
    split <;> simp [h3]
theorem sideOf_np (a b c : FP) : sideOf a b c ≤ 0 ↔ 0 ≤ - cross a.v b.v c.v := by
  rw [sideOf_eq]
  by_cases h1 : cross a.v b.v c.v < 0
  · rw [if_pos h1]
    have h3 : 0 ≤ - cross a.v b.v c.v := by grind
    simp [h3]
  · rw [if_neg h1]
    by_cases h2 : 0 < cross a.v b.v c.v
    · rw [if_pos h2]; constructor
      · intro h; cases h
      · intro h; grind
    · rw [if_neg h2]
      have h3 : 0 ≤ - cross a.v b.v c.v := by grind
      simp [h3]
end Go.Fw
