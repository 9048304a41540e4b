import Derived.Test.YtehmofcajiefiaaGreatLs
import Derived.Test.YtehmofcajiefiaaGreatU1b
import Derived.Test.YtehmofcajiefiaaGreatU5
import Derived.Test.YtehmofcajiefiaaGreatR1b
import Derived.Test.YtehmofcajiefiaaGreatX1b
import Derived.Test.YtehmofcajiefiaaGreatDq
import Derived.Test.YtehmofcajiefiaaGreatV1b
set_option linter.unusedSimpArgs false
set_option linter.unusedVariables false
namespace Go.Fw
open Go Go.Proofs
def mostD (s t : Sg) : Rat := max (max (sqD s.A t.A) (sqD s.A t.B)) (max (sqD s.B t.A) (sqD s.B t.B))
theorem least_unique {s t : Sg} {x : Rat} (h1 : ∀ p q, s.on p → t.on q → x ≤ sqD p q) (h2 : ∃ p q, s.on p ∧ t.on q ∧ sqD p q = x) : leastD s t = x := by
  obtain ⟨p, q, a1, a2, a3⟩ := leastD_att s t
  obtain ⟨u, v, b1, b2, b3⟩ := h2
  have k1 := h1 p q a1 a2
  have k2 := leastD_le s t u v b1 b2
  grind
structure Sca (φ : V2 → V2) (c : Rat) : Prop where
  nn : 0 ≤ c
  sq : ∀ p q, sqD (φ p) (φ q) = c * sqD p q
  pt : ∀ (s : Sg) l, φ (s.pt l) = (s.map φ).pt l
variable {φ : V2 → V2} {c : Rat}
theorem Sca.on (h : Sca φ c) (s : Sg) (x : V2) : (s.map φ).on x ↔ ∃ p, s.on p ∧ x = φ p := by
  rw [on_iff]
  constructor
  · rintro ⟨l, h0, h1, rfl⟩
    exact ⟨s.pt l, (on_iff s _).2 ⟨l, h0, h1, rfl⟩, (h.pt s l).symm⟩
  · rintro ⟨p, hp, rfl⟩
    obtain ⟨l, h0, h1, rfl⟩ := (on_iff s p).1 hp
    exact ⟨l, h0, h1, h.pt s l⟩
theorem Sca.least (h : Sca φ c) (s t : Sg) : leastD (s.map φ) (t.map φ) = c * leastD s t := by
  refine least_unique (fun p q hp hq => ?_) ?_
  · obtain ⟨p', hp', rfl⟩ := (h.on s p).1 hp
    obtain ⟨q', hq', rfl⟩ := (h.on t q).1 hq
    rw [h.sq]
    have h1 := leastD_le s t p' q' hp' hq'
    have := Rat.mul_nonneg (a := c) (b := sqD p' q' - leastD s t) h.nn (by grind)
    grind
  · obtain ⟨p, q, a1, a2, a3⟩ := leastD_att s t
    exact ⟨φ p, φ q, (h.on s _).2 ⟨p, a1, rfl⟩, (h.on t _).2 ⟨q, a2, rfl⟩, by rw [h.sq, a3]⟩
theorem mul_max {c : Rat} (hc : 0 ≤ c) (x y : Rat) : max (c * x) (c * y) = c * max x y := by
  by_cases h : x ≤ y
  · have := Rat.mul_nonneg (a := c) (b := y - x) hc (by grind)
    have e1 : max x y = y := by grind
    rw [e1]
    grind
  · have := Rat.mul_nonneg (a := c) (b := x - y) hc (by grind)
    have e1 : max x y = x := by grind
    rw [e1]
    grind
theorem Sca.most (h : Sca φ c) (s t : Sg) : mostD (s.map φ) (t.map φ) = c * mostD s t := by
  unfold mostD Sg.map
  simp only [h.sq]
  rw [mul_max h.nn, mul_max h.nn, mul_max h.nn]
theorem mostD_comm (s t : Sg) : mostD t s = mostD s t := by
  unfold mostD
  rw [sqD_comm t.A, sqD_comm t.A, sqD_comm t.B, sqD_comm t.B]
  grind
theorem mostD_turn (s t : Sg) : mostD s.turn t = mostD s t := by
  unfold mostD Sg.turn
  grind
theorem sca_move (v : V2) : Sca (fun p => ⟨p.x + v.x, p.y + v.y⟩) 1 :=
  ⟨by grind, fun p q => by unfold sqD; grind, fun s l => V2.ext' (by simp only [Sg.pt, Sg.map]; grind) (by simp only [Sg.pt, Sg.map]; grind)⟩
theorem sca_quarter : Sca (fun p => ⟨-p.y, p.x⟩) 1 :=
  ⟨by grind, fun p q => by unfold sqD; grind, fun s l => V2.ext' (by simp only [Sg.pt, Sg.map]; grind) (by simp only [Sg.pt, Sg.map])⟩
theorem sca_mirror : Sca (fun p => ⟨-p.x, p.y⟩) 1 :=
  ⟨by grind, fun p q => by unfold sqD; grind, fun s l => V2.ext' (by simp only [Sg.pt, Sg.map]; grind) (by simp only [Sg.pt, Sg.map])⟩
theorem sca_great (m : Rat) : Sca (fun p => ⟨p.x * m, p.y * m⟩) (m * m) :=
  ⟨sq_nn m, fun p q => by unfold sqD; grind, fun s l => V2.ext' (by simp only [Sg.pt, Sg.map]; grind) (by simp only [Sg.pt, Sg.map]; grind)⟩
theorem sq_pt_le (s : Sg) (p x : V2) (hx : s.on x) : sqD x p ≤ max (sqD s.A p) (sqD s.B p) := by
  obtain ⟨l, h0, h1, rfl⟩ := (on_iff s x).1 hx
  have e0 := sq_pt s p l
  have e1 := sq_pt s p 1
  rw [pt_one] at e1
  have hN := sqD_nn s.A s.B
  have k1 := Rat.mul_nonneg (Rat.mul_nonneg h0 (by grind : 0 ≤ 1 - l)) hN
  generalize sqD (s.pt l) p = F at *
  generalize sqD s.A p = P at *
  generalize sqD s.B p = Q at *
  generalize sqD s.A s.B = N at *
  generalize dot s.A s.B p = D at *
  have e : F = (1 - l) * P + l * Q - l * (1 - l) * N := by grind
  by_cases h : P ≤ Q
  · have k2 := Rat.mul_nonneg (a := 1 - l) (b := Q - P) (by grind) (by grind)
    have : F ≤ Q := by grind
    grind
  · have k2 := Rat.mul_nonneg (a := l) (b := P - Q) h0 (by grind)
    have : F ≤ P := by grind
    grind
theorem le_mostD (s t : Sg) (p q : V2) (hp : s.on p) (hq : t.on q) : sqD p q ≤ mostD s t := by
  have h1 := sq_pt_le s q p hp
  have h2 := sq_pt_le t s.A q hq
  have h3 := sq_pt_le t s.B q hq
  rw [sqD_comm q, sqD_comm t.A, sqD_comm t.B] at h2 h3
  unfold mostD
  grind
theorem leastD_to (s t : Sg) (q : V2) (hq : t.on q) : leastD s t ≤ toD s q := by
  obtain ⟨p, h1, h2⟩ := toD_att s q
  rw [← h2]
  exact leastD_le s t p q h1 hq
theorem near_closer {s t : Sg} {p q : V2} {d : Int} (hd : 0 < d) (hp : s.on p) (hq : t.on q) (hpq : p ≠ q) (h : sqD p q < (d : Rat) * (d : Rat)) : closerD s t d := by
  refine ⟨hd, ?_⟩
  by_cases h0 : leastD s t = 0
  · rw [if_pos h0]
    by_cases hP : s.A = s.B
    · by_cases hQ : t.A = t.B
      · exfalso
        obtain ⟨p', q', a1, a2, a3⟩ := leastD_att s t
        rw [h0] at a3
        have := sqD_zero a3
        rw [on_degen hP a1, on_degen hQ a2, ← on_degen hP hp, ← on_degen hQ hq] at this
        exact hpq this
      · exact .inr hQ
    · exact .inl hP
  · rw [if_neg h0]
    have := leastD_le s t p q hp hq
    grind
def mostF (s t : FSg) : FQ := mostOf [.of (sqP s.A t.A), .of (sqP s.A t.B), .of (sqP s.B t.A), .of (sqP s.B t.B)]
theorem mostF_q (s t : FSg) : (mostF s t).q = mostD s.v t.v := by
  have h1 := le_mostOf [.of (sqP s.A t.A), .of (sqP s.A t.B), .of (sqP s.B t.A), .of (sqP s.B t.B)] (.of (sqP s.A t.A)) (by simp)
  have h2 := le_mostOf [.of (sqP s.A t.A), .of (sqP s.A t.B), .of (sqP s.B t.A), .of (sqP s.B t.B)] (.of (sqP s.A t.B)) (by simp)
  have h3 := le_mostOf [.of (sqP s.A t.A), .of (sqP s.A t.B), .of (sqP s.B t.A), .of (sqP s.B t.B)] (.of (sqP s.B t.A)) (by simp)
  have h4 := le_mostOf [.of (sqP s.A t.A), .of (sqP s.A t.B), .of (sqP s.B t.A), .of (sqP s.B t.B)] (.of (sqP s.B t.B)) (by simp)
  have h5 := mostOf_mem [.of (sqP s.A t.A), .of (sqP s.A t.B), .of (sqP s.B t.A), .of (sqP s.B t.B)] (by simp)
  have e1 : sqP s.A t.A = sqD s.v.A t.v.A := rfl
  have e2 : sqP s.A t.B = sqD s.v.A t.v.B := rfl
  have e3 : sqP s.B t.A = sqD s.v.B t.v.A := rfl
  have e4 : sqP s.B t.B = sqD s.v.B t.v.B := rfl
  unfold mostF mostD
  rw [← e1, ← e2, ← e3, ← e4]
  generalize mostOf [.of (sqP s.A t.A), .of (sqP s.A t.B), .of (sqP s.B t.A), .of (sqP s.B t.B)] = m at *
  simp only [List.mem_cons, List.not_mem_nil, or_false] at h5
  simp only [FQ.of] at h1 h2 h3 h4
  have h6 : m.q = sqP s.A t.A ∨ m.q = sqP s.A t.B ∨ m.q = sqP s.B t.A ∨ m.q = sqP s.B t.B := by
    rcases h5 with h | h | h | h <;> rw [h] <;> simp [FQ.of]
  generalize sqP s.A t.A = a at *
  generalize sqP s.A t.B = b at *
  generalize sqP s.B t.A = c at *
  generalize sqP s.B t.B = d at *
  generalize m.q = x at *
  rcases h6 with rfl | rfl | rfl | rfl <;> grind
end Go.Fw
-- VALS: zAV, zC, ratAV, ratC, ptAV, ptC, sgAV, sgC
namespace Go.Fw
open Go Go.Proofs Go.IntWalk
set_option linter.unusedSimpArgs false
set_option maxRecDepth 100000
set_option maxHeartbeats 20000000
theorem ratsC_snoc (l : List FQ) (x : FQ) : ratsC (l ++ [x]) = ratsC l ++ ratC x := by simp [ratsC]
theorem ratsC_refs' (l : List FQ) : refsL (ratsC l) = [] := by
  induction l with
  | nil => rfl
  | cons x t ih => show refsL (ratC x ++ ratsC t) = []; rw [refsL_append, ih]; rfl
theorem sz_most (s t : FSg) : szQ (mostF s t).q ≤ 16 * (szS s + szS t) + 9 := by
  have h5 := mostOf_mem [.of (sqP s.A t.A), .of (sqP s.A t.B), .of (sqP s.B t.A), .of (sqP s.B t.B)] (by simp)
  have z1 := sz_sqP s.A t.A
  have z2 := sz_sqP s.A t.B
  have z3 := sz_sqP s.B t.A
  have z4 := sz_sqP s.B t.B
  unfold mostF szS
  simp only [List.mem_cons, List.not_mem_nil, or_false] at h5
  rcases h5 with h | h | h | h <;> rw [h] <;> simp only [FQ.of] <;> omega
open List (map_take map_drop)
attribute [local push_cast] optK_some optK_none optK_ite optK_map optK_bind gOn stepK isMem evPure evMem evBin evUn evConv evLen evBuiltin evMinMax evSlice evBuild evAppend evIndex evIndexAddr evField evFieldAddr intBin strBin appDest AS.val AS.mem AS.elems AS.put AS.put' AS.eff AV.cells? AV.isCell AV.refs all_isByte take_byteV drop_byteV strOf_map bndOk bnd partAV ptrAdd killBox catA inOrder fillA setAt ofVal resB upd byteV List.head?_take List.head?_drop List.getElem?_map mkS_env mkS_box mkS_used entry_env entry_box entry_used lk stepD lookIds Oper.looksAt Op.operands Call.operands St.ids refsL renL_append ren renL renBox Box.refs iV i64V boolV dV_getElem dV_app dV_cons toNat_add2 toNat_add1
attribute [local simp ↓] numC_refs numC_isCell numC_cells numC_resB numC_resD numC_ren numC_closeC numC_isOwn
theorem reachMost_ok (s t : FSg) (h : szS s + szS t ≤ 800) : Eval Tryz.prog 18 [sgAV s, sgAV t] (.ret (ratAV (mostF s t))) := by
  refine Eval.intro Tryz.func18 rfl Tryz.call18 _ _ (Nat.le_of_ble_eq_true rfl) (by simp [-map_take,-map_drop, AV.refs, refsL, natAV, zAV, zC, ratAV, ratC, ptAV, ptC, sgAV, sgC, push_cast]) fun hs0 => ?_
  unfold szS at h
  have z1 := sz_sqP s.A t.A
  have z2 := sz_sqP s.A t.B
  have z3 := sz_sqP s.B t.A
  have z4 := sz_sqP s.B t.B
  have e1 := square_ok s.A t.A (by omega)
  have e2 := square_ok s.A t.B (by omega)
  have e3 := square_ok s.B t.A (by omega)
  have e4 := square_ok s.B t.B (by omega)
  have em := most_ok false [.of (sqP s.A t.A), .of (sqP s.A t.B), .of (sqP s.B t.A), .of (sqP s.B t.B)] (fun x hx => by
    simp only [List.mem_cons, List.not_mem_nil, or_false] at hx
    rcases hx with h | h | h | h <;> rw [h] <;> simp only [FQ.of] <;> omega) (by simp [-map_take,-map_drop]) (by simp [-map_take,-map_drop])
  unfold mostF
  obtain ⟨a, ha⟩ : ∃ a, a = FQ.of (sqP s.A t.A) := ⟨_, rfl⟩
  obtain ⟨b, hb⟩ : ∃ a, a = FQ.of (sqP s.A t.B) := ⟨_, rfl⟩
  obtain ⟨c, hc⟩ : ∃ a, a = FQ.of (sqP s.B t.A) := ⟨_, rfl⟩
  obtain ⟨d, hd⟩ : ∃ a, a = FQ.of (sqP s.B t.B) := ⟨_, rfl⟩
  rw [← ha] at e1
  rw [← hb] at e2
  rw [← hc] at e3
  rw [← hd] at e4
  rw [← ha, ← hb, ← hc, ← hd] at em ⊢
  clear ha hb hc hd z1 z2 z3 z4 h
  obtain ⟨m, hm⟩ : ∃ m, m = mostOf [a, b, c, d] := ⟨_, rfl⟩
  rw [← hm] at em ⊢
  clear hm
  obtain ⟨A, B⟩ := s
  obtain ⟨C, D⟩ := t
  simp only at e1 e2 e3 e4
  have r0 : ratsC [] = [] := rfl
  have r1 : ratsC [a] = ratC a := by simp [-map_take,-map_drop, ratsC]
  have r2 : ratsC [a, b] = ratC a ++ ratC b := by simp [-map_take,-map_drop, ratsC]
  have r3 : ratsC [a, b, c] = ratC a ++ (ratC b ++ ratC c) := by simp [-map_take,-map_drop, ratsC]
  have r4 : ratsC [a, b, c, d] = ratC a ++ (ratC b ++ (ratC c ++ ratC d)) := by simp [-map_take,-map_drop, ratsC]
  repeat' (first
    | with_reducible first | apply thenW_n | apply W_seq
    | with_reducible refine W_rg ?_
    | (rw [vcn]; (try simp [-map_take,-map_drop, push_cast, sgAV, sgC, ptAV, ptC, ratAV, ratC, zAV, zC]))
    | fail)
  refine W_nil 5 500 30 4 (by simp [-map_take,-map_drop, upd, mkS_env, entry_env, lk]) (by simp [-map_take,-map_drop, mkS_used, entry_used]) ?_
  repeat' (first
    | with_reducible apply W_block
    | fail)
  refine W_loopW (X := Nat) (fun i => [(3, .bp 3 0), (4, .bp 4 0), (5, .bs 500 4 0 (2 * i)), (14, .agg (ptC A ++ ptC B)), (15, i64V i)]) (fun i => [(3, .mut 34 (ptC C ++ ptC D)), (4, .mut 30 [.v (.slice none 0 0), .v (.bool false), .v (.slice none 0 0), .v (.bool false)]), (500, .mut 30 (ratsC ([a, b, c, d].take (2 * i))))])
    (fun i => 2 - i) (fun i => i ≤ 2) 0 id (by omega) ⟨?_, ?_, ?_, ?_, ?_, ?_⟩ fun i hi => ?_
  all_goals first | (with_reducible refine W_id ?_) | (simp [-map_take,-map_drop, push_cast, dV_take, dV_drop, ptC, ratC, zC, r0, r1, r2, r3, r4]; done)
  rcases (by omega : i = 0 ∨ i = 1 ∨ i = 2) with h | h | h
  · subst h
    repeat' (first
      | with_reducible first | apply thenW_n | apply W_seq | apply W_block | apply W_skip
      | with_reducible refine W_rg ?_
      | (rw [vcn]; (try simp [-map_take,-map_drop, push_cast, sgAV, sgC, ptAV, ptC, ratAV, ratC, zAV, zC, r0, r1, r2, r3, r4]))
      | (with_reducible refine W_condW ?_; (try simp [-map_take,-map_drop, AS.val, upd, resB, mkS_env, mkS_box, lk, entry_env, condW_true, condW_false, sgAV, sgC, ptAV, ptC, ratAV, ratC, zAV, zC, r0, r1, r2, r3, r4]))
      | fail)
    refine W_loopW (X := Nat) (fun j => [(3, .bp 3 0), (4, .bp 4 0), (5, .bs 500 4 0 (0 + j)), (7, .bp 7 0), (14, .agg (ptC A ++ ptC B)), (15, i64V 0), (22, .agg (ptC C ++ ptC D)), (23, i64V j)])
      (fun j => [(3, .mut 34 (ptC C ++ ptC D)), (4, .mut 30 [.v (.slice none 0 0), .v (.bool false), .v (.slice none 0 0), .v (.bool false)]), (7, .mut 32 (ptC A)), (500, .mut 30 (ratsC ([a, b, c, d].take (0 + j))))]) (fun j => 2 - j) (fun j => j ≤ 2) 0 id (by omega) ⟨?_, ?_, ?_, ?_, ?_, ?_⟩ fun j hj => ?_
    all_goals first | (with_reducible refine W_id ?_) | (simp [-map_take,-map_drop, push_cast, dV_take, dV_drop, ptC, ratC, zC, r0, r1, r2, r3, r4]; done)
    rcases (by omega : j = 0 ∨ j = 1 ∨ j = 2) with h | h | h
    · subst h
      repeat' (first
        | with_reducible first | apply thenW_n | apply W_seq | apply W_block | apply W_skip
        | with_reducible refine W_rg ?_
        | (rw [vcn]; (try simp [-map_take,-map_drop, push_cast, sgAV, sgC, ptAV, ptC, ratAV, ratC, zAV, zC, r0, r1, r2, r3, r4]))
        | (with_reducible refine W_condW ?_; (try simp [-map_take,-map_drop, AS.val, upd, resB, mkS_env, mkS_box, lk, entry_env, condW_true, condW_false, sgAV, sgC, ptAV, ptC, ratAV, ratC, zAV, zC, r0, r1, r2, r3, r4]))
        | fail)
      refine CallG_of (e1) rfl rfl rfl ?_
      try dsimp only
      repeat' (first
        | with_reducible first | apply thenW_n | apply blockW_n
        | with_reducible refine W_rg ?_
        | (rw [vcn]; (try simp [-map_take,-map_drop, push_cast, sgAV, sgC, ptAV, ptC, ratAV, ratC, zAV, zC, r0, r1, r2, r3, r4]); try simp (disch := omega) only [i64_in, u64_in, shr64i])
        | fail)
      refine loopW_n 1 (fun i => if i = 500 then 31 else i) (by simp [-map_take,-map_drop]) (by omega) ⟨?_, ?_, ?_, ?_, ?_, ?_⟩
      all_goals first | (simp [-map_take,-map_drop, push_cast, dV_take, dV_drop, ptC, ratC, zC, r0, r1, r2, r3, r4]; done) | (simp [-map_take,-map_drop, push_cast, dV_take, dV_drop, ptC, ratC, zC, r0, r1, r2, r3, r4]; omega)
    · subst h
      repeat' (first
        | with_reducible first | apply thenW_n | apply W_seq | apply W_block | apply W_skip
        | with_reducible refine W_rg ?_
        | (rw [vcn]; (try simp [-map_take,-map_drop, push_cast, sgAV, sgC, ptAV, ptC, ratAV, ratC, zAV, zC, r0, r1, r2, r3, r4]))
        | (with_reducible refine W_condW ?_; (try simp [-map_take,-map_drop, AS.val, upd, resB, mkS_env, mkS_box, lk, entry_env, condW_true, condW_false, sgAV, sgC, ptAV, ptC, ratAV, ratC, zAV, zC, r0, r1, r2, r3, r4]))
        | fail)
      refine CallG_of (e2) rfl rfl rfl ?_
      try dsimp only
      repeat' (first
        | with_reducible first | apply thenW_n | apply blockW_n
        | with_reducible refine W_rg ?_
        | (rw [vcn]; (try simp [-map_take,-map_drop, push_cast, sgAV, sgC, ptAV, ptC, ratAV, ratC, zAV, zC, r0, r1, r2, r3, r4]); try simp (disch := omega) only [i64_in, u64_in, shr64i])
        | fail)
      refine loopW_n 2 (fun i => if i = 500 then 31 else i) (by simp [-map_take,-map_drop]) (by omega) ⟨?_, ?_, ?_, ?_, ?_, ?_⟩
      all_goals first | (simp [-map_take,-map_drop, push_cast, dV_take, dV_drop, ptC, ratC, zC, r0, r1, r2, r3, r4]; done) | (simp [-map_take,-map_drop, push_cast, dV_take, dV_drop, ptC, ratC, zC, r0, r1, r2, r3, r4]; omega)
    · subst h
      repeat' (first
        | with_reducible first | apply thenW_n | apply thenW_exit | apply blockW_n | apply blockW_same | apply loopW_exit | apply W_seq | apply W_exit
        | with_reducible refine W_rg ?_
        | (rw [vcn]; (try simp [-map_take,-map_drop, push_cast, sgAV, sgC, ptAV, ptC, ratAV, ratC, zAV, zC, r0, r1, r2, r3, r4]); try simp (disch := omega) only [i64_in, u64_in, shr64i])
        | (with_reducible refine W_condW ?_; (try simp [-map_take,-map_drop, AS.val, upd, resB, mkS_env, mkS_box, lk, entry_env, condW_true, condW_false, sgAV, sgC, ptAV, ptC, ratAV, ratC, zAV, zC, r0, r1, r2, r3, r4]))
        | fail)
      refine loopW_n 1 id (by simp [-map_take,-map_drop]) (by omega) ⟨?_, ?_, ?_, ?_, ?_, ?_⟩
      all_goals first | (simp [-map_take,-map_drop, push_cast, dV_take, dV_drop, ptC, ratC, zC, r0, r1, r2, r3, r4]; done)
  · subst h
    repeat' (first
      | with_reducible first | apply thenW_n | apply W_seq | apply W_block | apply W_skip
      | with_reducible refine W_rg ?_
      | (rw [vcn]; (try simp [-map_take,-map_drop, push_cast, sgAV, sgC, ptAV, ptC, ratAV, ratC, zAV, zC, r0, r1, r2, r3, r4]))
      | (with_reducible refine W_condW ?_; (try simp [-map_take,-map_drop, AS.val, upd, resB, mkS_env, mkS_box, lk, entry_env, condW_true, condW_false, sgAV, sgC, ptAV, ptC, ratAV, ratC, zAV, zC, r0, r1, r2, r3, r4]))
      | fail)
    refine W_loopW (X := Nat) (fun j => [(3, .bp 3 0), (4, .bp 4 0), (5, .bs 500 4 0 (2 + j)), (7, .bp 7 0), (14, .agg (ptC A ++ ptC B)), (15, i64V 1), (22, .agg (ptC C ++ ptC D)), (23, i64V j)])
      (fun j => [(3, .mut 34 (ptC C ++ ptC D)), (4, .mut 30 [.v (.slice none 0 0), .v (.bool false), .v (.slice none 0 0), .v (.bool false)]), (7, .mut 32 (ptC B)), (500, .mut 30 (ratsC ([a, b, c, d].take (2 + j))))]) (fun j => 2 - j) (fun j => j ≤ 2) 0 id (by omega) ⟨?_, ?_, ?_, ?_, ?_, ?_⟩ fun j hj => ?_
    all_goals first | (with_reducible refine W_id ?_) | (simp [-map_take,-map_drop, push_cast, dV_take, dV_drop, ptC, ratC, zC, r0, r1, r2, r3, r4]; done)
    rcases (by omega : j = 0 ∨ j = 1 ∨ j = 2) with h | h | h
    · subst h
      repeat' (first
        | with_reducible first | apply thenW_n | apply W_seq | apply W_block | apply W_skip
        | with_reducible refine W_rg ?_
        | (rw [vcn]; (try simp [-map_take,-map_drop, push_cast, sgAV, sgC, ptAV, ptC, ratAV, ratC, zAV, zC, r0, r1, r2, r3, r4]))
        | (with_reducible refine W_condW ?_; (try simp [-map_take,-map_drop, AS.val, upd, resB, mkS_env, mkS_box, lk, entry_env, condW_true, condW_false, sgAV, sgC, ptAV, ptC, ratAV, ratC, zAV, zC, r0, r1, r2, r3, r4]))
        | fail)
      refine CallG_of (e3) rfl rfl rfl ?_
      try dsimp only
      repeat' (first
        | with_reducible first | apply thenW_n | apply blockW_n
        | with_reducible refine W_rg ?_
        | (rw [vcn]; (try simp [-map_take,-map_drop, push_cast, sgAV, sgC, ptAV, ptC, ratAV, ratC, zAV, zC, r0, r1, r2, r3, r4]); try simp (disch := omega) only [i64_in, u64_in, shr64i])
        | fail)
      refine loopW_n 1 (fun i => if i = 500 then 31 else i) (by simp [-map_take,-map_drop]) (by omega) ⟨?_, ?_, ?_, ?_, ?_, ?_⟩
      all_goals first | (simp [-map_take,-map_drop, push_cast, dV_take, dV_drop, ptC, ratC, zC, r0, r1, r2, r3, r4]; done) | (simp [-map_take,-map_drop, push_cast, dV_take, dV_drop, ptC, ratC, zC, r0, r1, r2, r3, r4]; omega)
    · subst h
      repeat' (first
        | with_reducible first | apply thenW_n | apply W_seq | apply W_block | apply W_skip
        | with_reducible refine W_rg ?_
        | (rw [vcn]; (try simp [-map_take,-map_drop, push_cast, sgAV, sgC, ptAV, ptC, ratAV, ratC, zAV, zC, r0, r1, r2, r3, r4]))
        | (with_reducible refine W_condW ?_; (try simp [-map_take,-map_drop, AS.val, upd, resB, mkS_env, mkS_box, lk, entry_env, condW_true, condW_false, sgAV, sgC, ptAV, ptC, ratAV, ratC, zAV, zC, r0, r1, r2, r3, r4]))
        | fail)
      refine CallG_of (e4) rfl rfl rfl ?_
      try dsimp only
      repeat' (first
        | with_reducible first | apply thenW_n | apply blockW_n
        | with_reducible refine W_rg ?_
        | (rw [vcn]; (try simp [-map_take,-map_drop, push_cast, sgAV, sgC, ptAV, ptC, ratAV, ratC, zAV, zC, r0, r1, r2, r3, r4]); try simp (disch := omega) only [i64_in, u64_in, shr64i])
        | fail)
      refine loopW_n 2 (fun i => if i = 500 then 31 else i) (by simp [-map_take,-map_drop]) (by omega) ⟨?_, ?_, ?_, ?_, ?_, ?_⟩
      all_goals first | (simp [-map_take,-map_drop, push_cast, dV_take, dV_drop, ptC, ratC, zC, r0, r1, r2, r3, r4]; done) | (simp [-map_take,-map_drop, push_cast, dV_take, dV_drop, ptC, ratC, zC, r0, r1, r2, r3, r4]; omega)
    · subst h
      repeat' (first
        | with_reducible first | apply thenW_n | apply thenW_exit | apply blockW_n | apply blockW_same | apply loopW_exit | apply W_seq | apply W_exit
        | with_reducible refine W_rg ?_
        | (rw [vcn]; (try simp [-map_take,-map_drop, push_cast, sgAV, sgC, ptAV, ptC, ratAV, ratC, zAV, zC, r0, r1, r2, r3, r4]); try simp (disch := omega) only [i64_in, u64_in, shr64i])
        | (with_reducible refine W_condW ?_; (try simp [-map_take,-map_drop, AS.val, upd, resB, mkS_env, mkS_box, lk, entry_env, condW_true, condW_false, sgAV, sgC, ptAV, ptC, ratAV, ratC, zAV, zC, r0, r1, r2, r3, r4]))
        | fail)
      refine loopW_n 2 id (by simp [-map_take,-map_drop]) (by omega) ⟨?_, ?_, ?_, ?_, ?_, ?_⟩
      all_goals first | (simp [-map_take,-map_drop, push_cast, dV_take, dV_drop, ptC, ratC, zC, r0, r1, r2, r3, r4]; done)
  · subst h
    repeat' (first
      | with_reducible first | apply thenW_n | apply thenW_exit | apply blockW_same | apply loopW_exit | apply W_seq | apply W_exit
      | with_reducible refine W_rg ?_
      | (rw [vcn]; (try simp [-map_take,-map_drop, push_cast, sgAV, sgC, ptAV, ptC, ratAV, ratC, zAV, zC]))
      | (with_reducible refine W_condW ?_; (try simp [-map_take,-map_drop, AS.val, upd, resB, mkS_env, mkS_box, lk, entry_env, condW_true, condW_false, sgAV, sgC, ptAV, ptC, ratAV, ratC, zAV, zC]))
      | fail)
    refine CallG_frz _ _ rfl ?_ (em) ?_ (by simp [-map_take,-map_drop, AV.refs, refsL, push_cast]) rfl ?_
    · first | (simp [-map_take,-map_drop, refsL, AV.refs, frzS, resDL, resD, resB, upd, mkS_env, mkS_box, entry_env, entry_box, lk, push_cast, ratsC_refs', sgAV, sgC, ptAV, ptC, ratAV, ratC, zAV, zC, r0, r1, r2, r3, r4]; done) | (simp [-map_take,-map_drop, refsL, AV.refs, frzS, resDL, resD, resB, upd, mkS_env, mkS_box, entry_env, entry_box, lk, push_cast, ratsC_refs', sgAV, sgC, ptAV, ptC, ratAV, ratC, zAV, zC, r0, r1, r2, r3, r4]; rw [List.take_of_length_le (by simp [-map_take,-map_drop])]; done) | (simp [-map_take,-map_drop, refsL, AV.refs, frzS, resDL, resD, resB, upd, mkS_env, mkS_box, entry_env, entry_box, lk, push_cast, ratsC_refs', sgAV, sgC, ptAV, ptC, ratAV, ratC, zAV, zC, r0, r1, r2, r3, r4]; fail_if_success done)
    · simp [-map_take,-map_drop, refsL, AV.refs, frzOk, upd, mkS_env, mkS_box, entry_env, entry_box, lk, push_cast, ratsC_refs']
    try dsimp only
    try simp only [refsL, AV.refs, frzS, List.append_nil, upd, mkS_box, entry_box, lk, if_true, if_false]
    repeat' (first
      | with_reducible first | apply thenW_n | apply W_ret
      | (rw [vcn]; (try simp [-map_take,-map_drop, push_cast, sgAV, sgC, ptAV, ptC, ratAV, ratC, zAV, zC]))
      | fail)
    simp [-map_take,-map_drop, post, resAV, resAll, resOne, closeV, closeC, closeL, resD, resDL, push_cast, sgAV, sgC, ptAV, ptC, ratAV, ratC, zAV, zC]
end Go.Fw
-- VALS: zAV, zC, ratAV, ratC, ptAV, ptC, sgAV, sgC, d3AV, d3sAV, d3C, dAV, dC, dotAV
namespace Go.Fw
open Go Go.Proofs Go.IntWalk
set_option linter.unusedSimpArgs false
set_option maxRecDepth 100000
set_option maxHeartbeats 20000000
theorem known12_1 : ratText (leastF (gridsF 0 0 4 0) (gridsF 1 2 9 9)).q = [52] := by decide +kernel
theorem known12_2 : ratText (mostF (gridsF 0 0 4 0) (gridsF 1 2 9 9)).q = [49, 54, 50] := by decide +kernel
theorem known12_3 : closerB (gridsF 0 0 4 0) (gridsF 4 0 4 9) 1 = true := by decide +kernel
theorem known12_4 : closerB (gridsF 0 0 0 0) (gridsF 0 0 0 0) 1 = false := by decide +kernel
def d3sAV (a b : Int × Int × Int) : AV := .agg (d3C a.1 a.2.1 (underI a.2.2) ++ d3C b.1 b.2.1 (underI b.2.2))
theorem sz_grids {a b c d : Int} (ha : inI a) (hb : inI b) (hc : inI c) (hd : inI d) : szS (gridsF a b c d) ≤ 16 := by
  have h1 := (HD.grid ha hb).sz
  have h2 := (HD.grid hc hd).sz
  show szV (gridF a b) + szV (gridF c d) ≤ 16
  omega
theorem sz_dots {a b : Int × Int × Int} (ha : inD a) (hb : inD b) : szS (dotsF a b) ≤ 16 := by
  have h1 := (HD.dot ha).sz
  have h2 := (HD.dot hb).sz
  show szV (dotF a.1 a.2.1 a.2.2) + szV (dotF b.1 b.2.1 b.2.2) ≤ 16
  omega
open List (map_take map_drop)
attribute [local push_cast] optK_some optK_none optK_ite optK_map optK_bind gOn stepK isMem evPure evMem evBin evUn evConv evLen evBuiltin evMinMax evSlice evBuild evAppend evIndex evIndexAddr evField evFieldAddr intBin strBin appDest AS.val AS.mem AS.elems AS.put AS.put' AS.eff AV.cells? AV.isCell AV.refs all_isByte take_byteV drop_byteV strOf_map bndOk bnd partAV ptrAdd killBox catA inOrder fillA setAt ofVal resB upd byteV List.head?_take List.head?_drop List.getElem?_map mkS_env mkS_box mkS_used entry_env entry_box entry_used lk stepD lookIds Oper.looksAt Op.operands Call.operands St.ids refsL renL_append ren renL renBox Box.refs iV i64V boolV dV_getElem dV_app dV_cons toNat_add2 toNat_add1
attribute [local simp ↓] numC_refs numC_isCell numC_cells numC_resB numC_resD numC_ren numC_closeC numC_isOwn
theorem grid12_ok (a b c d : Int) (ha : inI a) (hb : inI b) (hc : inI c) (hd : inI d) : Eval Tryz.prog 29 [i64V a, i64V b, i64V c, i64V d] (.ret (sgAV (gridsF a b c d))) := by
  refine Eval.intro Tryz.func29 rfl Tryz.call29 _ _ (Nat.le_of_ble_eq_true rfl) (by simp [-map_take,-map_drop, AV.refs, refsL, natAV, zAV, zC, ratAV, ratC, ptAV, ptC, sgAV, sgC, d3AV, d3sAV, d3C, dAV, dC, dotAV, push_cast]) fun hs0 => ?_
  have e1 := grid_ok a b ha hb
  have e2 := grid_ok c d hc hd
  unfold gridsF gridF
  obtain ⟨p, hp⟩ : ∃ p : FP, p = ⟨.of a, .of b⟩ := ⟨_, rfl⟩
  obtain ⟨q, hq⟩ : ∃ p : FP, p = ⟨.of c, .of d⟩ := ⟨_, rfl⟩
  rw [← hp] at e1 ⊢
  rw [← hq] at e2 ⊢
  clear hp hq
  repeat' (first
    | with_reducible first | apply thenW_n | apply W_seq
    | with_reducible refine W_rg ?_
    | (rw [vcn]; (try simp [-map_take,-map_drop, push_cast]))
    | fail)
  refine CallG_of (e1) rfl rfl rfl ?_
  try dsimp only
  repeat' (first
    | (rw [vcn]; (try simp [-map_take,-map_drop, push_cast, ptAV, ptC, ratAV, ratC, zAV, zC]))
    | fail)
  refine CallG_of (e2) rfl rfl rfl ?_
  try dsimp only
  repeat' (first
    | with_reducible first | apply thenW_n | apply W_ret
    | (rw [vcn]; (try simp [-map_take,-map_drop, push_cast, sgAV, sgC, ptAV, ptC, ratAV, ratC, zAV, zC]))
    | fail)
  simp [-map_take,-map_drop, post, resAV, resAll, resOne, closeV, closeC, closeL, resD, resDL, push_cast, sgAV, sgC, ptAV, ptC, ratAV, ratC, zAV, zC]
theorem seg12_ok (a b : Int × Int × Int) (ha : inD a) (hb : inD b) : Eval Tryz.prog 7 [dotAV a, dotAV b] (.ret (.tup [sgAV (dotsF a b), d3sAV a b])) := by
  refine Eval.intro Tryz.func7 rfl Tryz.call7 _ _ (Nat.le_of_ble_eq_true rfl) (by simp [-map_take,-map_drop, AV.refs, refsL, natAV, zAV, zC, ratAV, ratC, ptAV, ptC, sgAV, sgC, d3AV, d3sAV, d3C, dAV, dC, dotAV, push_cast]) fun hs0 => ?_
  have e1 := l11At_ok a.1 a.2.1 a.2.2 ha.1 ha.2
  have e2 := l11At_ok b.1 b.2.1 b.2.2 hb.1 hb.2
  have e3 := at11_ok a.1 a.2.1 a.2.2 ha.1 ha.2
  have e4 := at11_ok b.1 b.2.1 b.2.2 hb.1 hb.2
  unfold dotsF dotAV d3sAV
  obtain ⟨p, hp⟩ : ∃ p, p = dotF a.1 a.2.1 a.2.2 := ⟨_, rfl⟩
  obtain ⟨q, hq⟩ : ∃ p, p = dotF b.1 b.2.1 b.2.2 := ⟨_, rfl⟩
  rw [← hp] at e1 ⊢
  rw [← hq] at e2 ⊢
  obtain ⟨u, hu⟩ : ∃ u, u = underI a.2.2 := ⟨_, rfl⟩
  obtain ⟨v, hv⟩ : ∃ u, u = underI b.2.2 := ⟨_, rfl⟩
  rw [← hu] at e3 ⊢
  rw [← hv] at e4 ⊢
  clear hp hq hu hv
  repeat' (first
    | with_reducible first | apply thenW_n | apply W_seq
    | with_reducible refine W_rg ?_
    | (rw [vcn]; (try simp [-map_take,-map_drop, push_cast]))
    | with_reducible refine W_drawn mixed (by decide) (by kernel_rfl) ?_
    | (rw [vcnD]; (try simp [-map_take,-map_drop, push_cast]))
    | fail)
  refine callD_of (e1) rfl rfl rfl ?_
  try dsimp only
  repeat' (first
    | (rw [vcnD]; (try simp [-map_take,-map_drop, push_cast, ptAV, ptC, ratAV, ratC, zAV, zC]))
    | fail)
  refine callD_of (e2) rfl rfl rfl ?_
  try dsimp only
  repeat' (first
    | (rw [vcnD]; (try simp [-map_take,-map_drop, push_cast, ptAV, ptC, ratAV, ratC, zAV, zC]))
    | fail)
  refine callD_of (e3) rfl rfl rfl ?_
  try dsimp only
  repeat' (first
    | (rw [vcnD]; (try simp [-map_take,-map_drop, push_cast, ptAV, ptC, ratAV, ratC, zAV, zC, d3AV, d3C, dC]))
    | fail)
  refine callD_of (e4) rfl rfl rfl ?_
  try dsimp only
  repeat' (first
    | with_reducible first | apply thenW_n | apply W_ret
    | (rw [vcnD]; (try simp [-map_take,-map_drop, push_cast, sgAV, sgC, ptAV, ptC, ratAV, ratC, zAV, zC, d3AV, d3C, dC]))
    | refine And.intro (by first | omega | kernel_rfl) ?_
    | fail)
  simp [-map_take,-map_drop, post, resAV, resAll, resOne, closeV, closeC, closeL, resD, resDL, push_cast, sgAV, sgC, ptAV, ptC, ratAV, ratC, zAV, zC, d3AV, d3C, dC]
theorem known12_ok : Eval Tryz.prog 10 [] (.ret (.v (.bool true))) := by
  refine Eval.intro Tryz.func10 rfl Tryz.call10 _ _ (Nat.le_of_ble_eq_true rfl) (by simp [-map_take,-map_drop, AV.refs, refsL, natAV, zAV, zC, ratAV, ratC, ptAV, ptC, sgAV, sgC, d3AV, d3sAV, d3C, dAV, dC, dotAV, push_cast]) fun hs0 => ?_
  have g1 := grid12_ok 0 0 4 0 (by unfold inI; omega) (by unfold inI; omega) (by unfold inI; omega) (by unfold inI; omega)
  have g2 := grid12_ok 1 2 9 9 (by unfold inI; omega) (by unfold inI; omega) (by unfold inI; omega) (by unfold inI; omega)
  have g3 := grid12_ok 4 0 4 9 (by unfold inI; omega) (by unfold inI; omega) (by unfold inI; omega) (by unfold inI; omega)
  have g4 := grid12_ok 0 0 0 0 (by unfold inI; omega) (by unfold inI; omega) (by unfold inI; omega) (by unfold inI; omega)
  have h1 : szS (gridsF 0 0 4 0) ≤ 16 := sz_grids (by unfold inI; omega) (by unfold inI; omega) (by unfold inI; omega) (by unfold inI; omega)
  have h2 : szS (gridsF 1 2 9 9) ≤ 16 := sz_grids (by unfold inI; omega) (by unfold inI; omega) (by unfold inI; omega) (by unfold inI; omega)
  have h3 : szS (gridsF 4 0 4 9) ≤ 16 := sz_grids (by unfold inI; omega) (by unfold inI; omega) (by unfold inI; omega) (by unfold inI; omega)
  have h4 : szS (gridsF 0 0 0 0) ≤ 16 := sz_grids (by unfold inI; omega) (by unfold inI; omega) (by unfold inI; omega) (by unfold inI; omega)
  have z1 := sz_least (gridsF 0 0 4 0) (gridsF 1 2 9 9)
  have z2 := sz_most (gridsF 0 0 4 0) (gridsF 1 2 9 9)
  have f1 := reachLeast_ok (gridsF 0 0 4 0) (gridsF 1 2 9 9) (by omega)
  have f2 := reachMost_ok (gridsF 0 0 4 0) (gridsF 1 2 9 9) (by omega)
  have f3 := closer_ok (gridsF 0 0 4 0) (gridsF 4 0 4 9) 1 (by unfold inI; omega) (by omega)
  have f4 := closer_ok (gridsF 0 0 0 0) (gridsF 0 0 0 0) 1 (by unfold inI; omega) (by omega)
  have t1 := fracText_ok (leastF (gridsF 0 0 4 0) (gridsF 1 2 9 9)) (by omega)
  have t2 := fracText_ok (mostF (gridsF 0 0 4 0) (gridsF 1 2 9 9)) (by omega)
  rw [known12_1] at t1
  rw [known12_2] at t2
  rw [known12_3] at f3
  rw [known12_4] at f4
  obtain ⟨L, hL⟩ : ∃ L, L = leastF (gridsF 0 0 4 0) (gridsF 1 2 9 9) := ⟨_, rfl⟩
  obtain ⟨M, hM⟩ : ∃ L, L = mostF (gridsF 0 0 4 0) (gridsF 1 2 9 9) := ⟨_, rfl⟩
  rw [← hL] at f1 t1
  rw [← hM] at f2 t2
  obtain ⟨e, he⟩ : ∃ e, e = gridsF 0 0 4 0 := ⟨_, rfl⟩
  obtain ⟨f, hf⟩ : ∃ e, e = gridsF 1 2 9 9 := ⟨_, rfl⟩
  obtain ⟨g, hg⟩ : ∃ e, e = gridsF 4 0 4 9 := ⟨_, rfl⟩
  obtain ⟨h, hh⟩ : ∃ e, e = gridsF 0 0 0 0 := ⟨_, rfl⟩
  rw [← he] at g1 f1 f2 f3
  rw [← hf] at g2 f1 f2
  rw [← hg] at g3 f3
  rw [← hh] at g4 f4
  have b1 : (bytesD [52]).data.toList = [52] := by rw [bytesD_list]; rfl
  have b2 : (bytesD [49, 54, 50]).data.toList = [49, 54, 50] := by rw [bytesD_list]; rfl
  clear he hf hg hh h1 h2 h3 h4 hL hM z1 z2
  repeat' (first
    | with_reducible first | apply thenW_n | apply W_seq
    | with_reducible refine W_rg ?_
    | (rw [vcn]; (try simp [-map_take,-map_drop, push_cast]))
    | fail)
  refine CallG_of (g1) rfl rfl rfl ?_
  try dsimp only
  repeat' (first
    | (rw [vcn]; (try simp [-map_take,-map_drop, push_cast, sgAV, sgC, ptAV, ptC, ratAV, ratC, zAV, zC]))
    | fail)
  refine CallG_of (g2) rfl rfl rfl ?_
  try dsimp only
  repeat' (first
    | (rw [vcn]; (try simp [-map_take,-map_drop, push_cast, sgAV, sgC, ptAV, ptC, ratAV, ratC, zAV, zC]))
    | fail)
  refine CallG_of (f1) rfl rfl rfl ?_
  try dsimp only
  repeat' (first
    | (rw [vcn]; (try simp [-map_take,-map_drop, push_cast, sgAV, sgC, ptAV, ptC, ratAV, ratC, zAV, zC]))
    | fail)
  refine CallG_of (t1) rfl rfl rfl ?_
  try dsimp only
  repeat' (first
    | (rw [vcn]; (try simp [-map_take,-map_drop, push_cast, sgAV, sgC, ptAV, ptC, ratAV, ratC, zAV, zC, strD, b1]))
    | fail)
  refine CallG_of (g1) rfl rfl rfl ?_
  try dsimp only
  repeat' (first
    | (rw [vcn]; (try simp [-map_take,-map_drop, push_cast, sgAV, sgC, ptAV, ptC, ratAV, ratC, zAV, zC, strD, b1]))
    | fail)
  refine CallG_of (g2) rfl rfl rfl ?_
  try dsimp only
  repeat' (first
    | (rw [vcn]; (try simp [-map_take,-map_drop, push_cast, sgAV, sgC, ptAV, ptC, ratAV, ratC, zAV, zC, strD, b1]))
    | fail)
  refine CallG_of (f2) rfl rfl rfl ?_
  try dsimp only
  repeat' (first
    | (rw [vcn]; (try simp [-map_take,-map_drop, push_cast, sgAV, sgC, ptAV, ptC, ratAV, ratC, zAV, zC, strD, b1]))
    | fail)
  refine CallG_of (t2) rfl rfl rfl ?_
  try dsimp only
  repeat' (first
    | (rw [vcn]; (try simp [-map_take,-map_drop, push_cast, sgAV, sgC, ptAV, ptC, ratAV, ratC, zAV, zC, strD, b1, b2]))
    | fail)
  refine CallG_of (g1) rfl rfl rfl ?_
  try dsimp only
  repeat' (first
    | (rw [vcn]; (try simp [-map_take,-map_drop, push_cast, sgAV, sgC, ptAV, ptC, ratAV, ratC, zAV, zC, strD, b1, b2]))
    | fail)
  refine CallG_of (g3) rfl rfl rfl ?_
  try dsimp only
  repeat' (first
    | (rw [vcn]; (try simp [-map_take,-map_drop, push_cast, sgAV, sgC, ptAV, ptC, ratAV, ratC, zAV, zC, strD, b1, b2]))
    | fail)
  refine CallG_of (f3) rfl rfl rfl ?_
  try dsimp only
  repeat' (first
    | (rw [vcn]; (try simp [-map_take,-map_drop, push_cast, sgAV, sgC, ptAV, ptC, ratAV, ratC, zAV, zC, strD, b1, b2]))
    | fail)
  refine CallG_of (g4) rfl rfl rfl ?_
  try dsimp only
  repeat' (first
    | (rw [vcn]; (try simp [-map_take,-map_drop, push_cast, sgAV, sgC, ptAV, ptC, ratAV, ratC, zAV, zC, strD, b1, b2]))
    | fail)
  refine CallG_of (g4) rfl rfl rfl ?_
  try dsimp only
  repeat' (first
    | (rw [vcn]; (try simp [-map_take,-map_drop, push_cast, sgAV, sgC, ptAV, ptC, ratAV, ratC, zAV, zC, strD, b1, b2]))
    | fail)
  refine CallG_of (f4) rfl rfl rfl ?_
  try dsimp only
  repeat' (first
    | with_reducible first | apply thenW_n | apply W_ret
    | (rw [vcn]; (try simp [-map_take,-map_drop, push_cast, strD, b1, b2]))
    | fail)
  simp [-map_take,-map_drop, post, resAV, resAll, resOne, closeV, closeC, closeL, resD, resDL, push_cast]
end Go.Fw
