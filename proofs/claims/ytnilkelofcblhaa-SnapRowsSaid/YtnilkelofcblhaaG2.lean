/- The document's points on the grid (18): Near, Whole, Box. -/
import Derived.Test.YtnilkelofcblhaaG1
import Derived.Test.YtnilkelofcblhaaW3
set_option linter.unusedSimpArgs false
set_option linter.unusedVariables false
-- VALS: rAV, rC, dAV, dC, d3AV, d3C, ratD, RD.av, DP.av, ptI, dpC
namespace Go.Fw
open Go Go.Proofs Go.IntWalk
set_option linter.unusedSimpArgs false
set_option maxRecDepth 100000
set_option maxHeartbeats 20000000

theorem nearR_sz {a : RD} (hd : 0 < a.d) : szD (nearR a) ≤ szD a.n + 8 := by
  have h1 := (sz_quot a.n a.d hd).1
  have h2 := szD_add (a.n / a.d) 1
  have h3 : szD 1 ≤ 5 := szD_small (by unfold inI; omega)
  unfold nearR
  split <;> omega
def nearX (p : DP) : Int := nearR ⟨p.x, p.w⟩
def nearY (p : DP) : Int := nearR ⟨p.y, p.w⟩
def near18B (p : DP) : Bool := decide (inR (nearX p)) && decide (inR (nearY p))
def whole18B (p : DP) : Bool := ((p.x % p.w).sign == 0) && ((p.y % p.w).sign == 0)
/-- A point's floors and ceilings. -/
def mk4 (p : DP) : List Int := [p.x / p.w, p.y / p.w, -((-p.x) / p.w), -((-p.y) / p.w)]
def bstep (i k : Nat) (m v : Int) : Int := if i = 0 ∨ (k < 2 ∧ m < v) ∨ (1 < k ∧ v < m) then m else v
def stepB (i : Nat) (n : List Int) (p : DP) : List Int := [bstep i 0 (intR ((mk4 p).getD 0 0)) (n.getD 0 0), bstep i 1 (intR ((mk4 p).getD 1 0)) (n.getD 1 0), bstep i 2 (intR ((mk4 p).getD 2 0)) (n.getD 2 0), bstep i 3 (intR ((mk4 p).getD 3 0)) (n.getD 3 0)]
def boxN (l : List DP) : Nat → List Int
  | 0 => [0, 0, 0, 0]
  | i + 1 => match l[i]? with
    | some p => stepB i (boxN l i) p
    | none => boxN l i
def okP (p : DP) : Bool := (mk4 p).all fun z => decide (inR z)
theorem boxN_four (l : List DP) : ∀ i, ∃ a b c d, boxN l i = [a, b, c, d] := by
  intro i
  induction i with
  | zero => exact ⟨0, 0, 0, 0, rfl⟩
  | succ i ih =>
    show ∃ a b c d, (match l[i]? with | some p => stepB i (boxN l i) p | none => boxN l i) = [a, b, c, d]
    cases l[i]? with
    | none => exact ih
    | some p => exact ⟨_, _, _, _, rfl⟩
theorem boxN_succ (l : List DP) (i : Nat) (h : i < l.length) : boxN l (i + 1) = stepB i (boxN l i) l[i] := by
  show (match l[i]? with | some p => stepB i (boxN l i) p | none => boxN l i) = _
  rw [List.getElem?_eq_getElem h]
theorem four_cases {k : Nat} (h : k < 4) : k = 0 ∨ k = 1 ∨ k = 2 ∨ k = 3 := by omega
/-- Of a list the first ones of another one. -/
def mix (A B : List Int) (k : Nat) : List Int := A.take k ++ B.drop k
theorem mix_set {a b c d e f g h : Int} {k : Nat} (hk : k < 4) : (mix [a, b, c, d] [e, f, g, h] k).set k ([a, b, c, d].getD k 0) = mix [a, b, c, d] [e, f, g, h] (k + 1) := by
  rcases four_cases hk with rfl | rfl | rfl | rfl <;> rfl
theorem mix_same {a b c d e f g h : Int} {k : Nat} (hk : k < 4) (he : [a, b, c, d].getD k 0 = [e, f, g, h].getD k 0) : mix [a, b, c, d] [e, f, g, h] (k + 1) = mix [a, b, c, d] [e, f, g, h] k := by
  rcases four_cases hk with rfl | rfl | rfl | rfl
  · show [a, f, g, h] = [e, f, g, h]; rw [show a = e from he]
  · show [a, b, g, h] = [a, f, g, h]; rw [show b = f from he]
  · show [a, b, c, h] = [a, b, g, h]; rw [show c = g from he]
  · show [a, b, c, d] = [a, b, c, h]; rw [show d = h from he]
theorem mix_at {a b c d e f g h : Int} {k : Nat} (hk : k < 4) : ∃ t, ((mix [a, b, c, d] [e, f, g, h] k).map i64V).drop k = i64V ([e, f, g, h].getD k 0) :: t := by
  rcases four_cases hk with rfl | rfl | rfl | rfl <;> exact ⟨_, rfl⟩
theorem mix_put {a b c d e f g h m : Int} {k : Nat} (hk : k < 4) : ((mix [a, b, c, d] [e, f, g, h] k).map i64V).take k ++ i64V m :: ((mix [a, b, c, d] [e, f, g, h] k).map i64V).drop (k + 1) = ((mix [a, b, c, d] [e, f, g, h] k).set k m).map i64V := by
  rcases four_cases hk with rfl | rfl | rfl | rfl <;> rfl
theorem mix_len {a b c d e f g h : Int} {k : Nat} (hk : k ≤ 4) : (mix [a, b, c, d] [e, f, g, h] k).length = 4 := by
  unfold mix
  rw [List.length_append, List.length_take, List.length_drop]
  show min k 4 + (4 - k) = 4
  omega
theorem now_at (p : DP) {k : Nat} (hk : k < 4) : ∃ t, (dC (p.x / p.w) ++ (dC (p.y / p.w) ++ (dC (-((-p.x) / p.w)) ++ dC (-((-p.y) / p.w))))).drop (k * 2) = dC ((mk4 p).getD k 0) ++ t := by
  rcases four_cases hk with rfl | rfl | rfl | rfl <;> exact ⟨_, rfl⟩
theorem stepB_at (i : Nat) (e f g h : Int) (p : DP) {k : Nat} (hk : k < 4) : (stepB i [e, f, g, h] p).getD k 0 = bstep i k (intR ((mk4 p).getD k 0)) ([e, f, g, h].getD k 0) := by
  rcases four_cases hk with rfl | rfl | rfl | rfl <;> rfl
theorem take_ok (p : DP) {k : Nat} (hk : k < 4) : ((mk4 p).take (k + 1)).all (fun z => decide (inR z)) = (((mk4 p).take k).all (fun z => decide (inR z)) && decide (inR ((mk4 p).getD k 0))) := by
  rcases four_cases hk with rfl | rfl | rfl | rfl <;> simp [mk4, List.all_cons, Bool.and_assoc]
theorem i64V_refs (l : List Int) : refsL (l.map i64V) = [] := by
  induction l with
  | nil => rfl
  | cons x t ih => rw [List.map_cons, refsL_cons, ih]; rfl

open List (map_take map_drop)
attribute [local push_cast] optK_some optK_none optK_ite optK_map optK_bind gOn stepK isMem evPure evMem evBin evUn evConv evLen evBuiltin evMinMax evSlice evBuild evAppend evIndex evIndexAddr evField evFieldAddr intBin strBin appDest AS.val AS.mem AS.elems AS.put AS.put' AS.eff AV.cells? AV.isCell AV.refs all_isByte take_byteV drop_byteV strOf_map bndOk bnd partAV ptrAdd killBox catA inOrder fillA setAt ofVal resB upd byteV List.head?_take List.head?_drop List.getElem?_map mkS_env mkS_box mkS_used entry_env entry_box entry_used lk stepD lookIds Oper.looksAt Op.operands Call.operands St.ids refsL renL_append ren renL renBox Box.refs iV i64V boolV dV_getElem dV_app dV_cons toNat_add2 toNat_add1
attribute [local simp ↓] numC_refs numC_isCell numC_cells numC_resB numC_resD numC_ren numC_closeC numC_isOwn
theorem near18_ok (p : DP) (hw : 0 < p.w) (h : szP3 p ≤ 10000) : Eval Try.prog 6 [p.av] (.ret (.tup [.agg [i64V (intR (nearX p)), i64V (intR (nearY p))], boolV (near18B p)])) := by
  have hsz : szD p.x + szD p.y + szD p.w ≤ 10000 := h
  have e1 := near03_ok ⟨p.x, p.w⟩ hw (by show szD p.x + szD p.w ≤ _; omega)
  have e2 := near03_ok ⟨p.y, p.w⟩ hw (by show szD p.y + szD p.w ≤ _; omega)
  have z1 := nearR_sz (a := ⟨p.x, p.w⟩) hw
  have z2 := nearR_sz (a := ⟨p.y, p.w⟩) hw
  dsimp only at z1 z2
  have e3 := int08_ok (nearX p) (by unfold nearX; omega)
  have e4 := int08_ok (nearY p) (by unfold nearY; omega)
  have f1 : nearR ⟨p.x, p.w⟩ = nearX p := rfl
  have f2 : nearR ⟨p.y, p.w⟩ = nearY p := rfl
  rw [f1] at e1
  rw [f2] at e2
  unfold near18B
  clear z1 z2 f1 f2
  obtain ⟨i1, nm_⟩ : ∃ nm0_, nm0_ = intR (nearX p) := ⟨_, rfl⟩
  simp only [← nm_] at e3 ⊢
  clear nm_
  obtain ⟨i2, nm_⟩ : ∃ nm0_, nm0_ = intR (nearY p) := ⟨_, rfl⟩
  simp only [← nm_] at e4 ⊢
  clear nm_
  obtain ⟨b1, nm_⟩ : ∃ nm0_, nm0_ = decide (inR (nearX p)) := ⟨_, rfl⟩
  simp only [← nm_] at e3 ⊢
  clear nm_
  obtain ⟨b2, nm_⟩ : ∃ nm0_, nm0_ = decide (inR (nearY p)) := ⟨_, rfl⟩
  simp only [← nm_] at e4 ⊢
  clear nm_
  obtain ⟨x, nm_⟩ : ∃ nm0_, nm0_ = nearX p := ⟨_, rfl⟩
  simp only [← nm_] at e1 e3
  clear nm_
  obtain ⟨y, nm_⟩ : ∃ nm0_, nm0_ = nearY p := ⟨_, rfl⟩
  simp only [← nm_] at e2 e4
  clear nm_
  cases b1 with
  | false =>
    rw [Bool.false_and]
    refine Eval.intro Try.func6 rfl Try.call6 _ _ (Nat.le_of_ble_eq_true rfl) (by simp [-map_take,-map_drop, AV.refs, refsL, natAV, rAV, rC, dAV, dC, d3AV, d3C, ratD, RD.av, DP.av, ptI, dpC, push_cast]) fun hs0 => ?_
    repeat' (first
      | with_reducible first | apply thenW_n | apply W_seq
      | with_reducible refine W_region (by first | decide | (with_unfolding_all rfl)) ?_
      | (rw [vcn]; (try simp [-map_take,-map_drop, push_cast, DP.av, d3AV, d3C, RD.av, ratD, dC, rC, numC, ← tens.eq_1, dAV, ptI]))
      | fail)
    refine CallG_of (e1) rfl rfl rfl ?_
    try dsimp only
    repeat' (first
      | (rw [vcn]; (try simp [-map_take,-map_drop, push_cast, DP.av, d3AV, d3C, RD.av, ratD, dC, rC, numC, ← tens.eq_1, dAV, ptI]))
      | fail)
    refine CallG_of (e3) rfl rfl rfl ?_
    try dsimp only
    repeat' (first
      | with_reducible first | apply thenW_n | apply W_seq
      | with_reducible refine W_region (by first | decide | (with_unfolding_all rfl)) ?_
      | (rw [vcn]; (try simp [-map_take,-map_drop, push_cast, DP.av, d3AV, d3C, RD.av, ratD, dC, rC, numC, ← tens.eq_1, dAV, ptI]))
      | fail)
    refine CallG_of (e2) rfl rfl rfl ?_
    try dsimp only
    repeat' (first
      | (rw [vcn]; (try simp [-map_take,-map_drop, push_cast, DP.av, d3AV, d3C, RD.av, ratD, dC, rC, numC, ← tens.eq_1, dAV, ptI]))
      | fail)
    refine CallG_of (e4) rfl rfl rfl ?_
    try dsimp only
    repeat' (first
      | with_reducible first | apply thenW_n | apply W_seq | apply W_ret
      | with_reducible refine W_region (by first | decide | (with_unfolding_all rfl)) ?_
      | (rw [vcn]; (try simp [-map_take,-map_drop, push_cast, DP.av, d3AV, d3C, RD.av, ratD, dC, rC, numC, ← tens.eq_1, dAV, ptI]))
      | fail)
    simp [-map_take,-map_drop, post, resAV, resAll, resOne, closeV, closeC, closeL, resD, resDL, push_cast, DP.av, d3AV, d3C, RD.av, ratD, dC, rC, numC, ← tens.eq_1, dAV, ptI]
  | true =>
    rw [Bool.true_and]
    refine Eval.intro Try.func6 rfl Try.call6 _ _ (Nat.le_of_ble_eq_true rfl) (by simp [-map_take,-map_drop, AV.refs, refsL, natAV, rAV, rC, dAV, dC, d3AV, d3C, ratD, RD.av, DP.av, ptI, dpC, push_cast]) fun hs0 => ?_
    repeat' (first
      | with_reducible first | apply thenW_n | apply W_seq
      | with_reducible refine W_region (by first | decide | (with_unfolding_all rfl)) ?_
      | (rw [vcn]; (try simp [-map_take,-map_drop, push_cast, DP.av, d3AV, d3C, RD.av, ratD, dC, rC, numC, ← tens.eq_1, dAV, ptI]))
      | fail)
    refine CallG_of (e1) rfl rfl rfl ?_
    try dsimp only
    repeat' (first
      | (rw [vcn]; (try simp [-map_take,-map_drop, push_cast, DP.av, d3AV, d3C, RD.av, ratD, dC, rC, numC, ← tens.eq_1, dAV, ptI]))
      | fail)
    refine CallG_of (e3) rfl rfl rfl ?_
    try dsimp only
    repeat' (first
      | with_reducible first | apply thenW_n | apply W_seq
      | with_reducible refine W_region (by first | decide | (with_unfolding_all rfl)) ?_
      | (rw [vcn]; (try simp [-map_take,-map_drop, push_cast, DP.av, d3AV, d3C, RD.av, ratD, dC, rC, numC, ← tens.eq_1, dAV, ptI]))
      | fail)
    refine CallG_of (e2) rfl rfl rfl ?_
    try dsimp only
    repeat' (first
      | (rw [vcn]; (try simp [-map_take,-map_drop, push_cast, DP.av, d3AV, d3C, RD.av, ratD, dC, rC, numC, ← tens.eq_1, dAV, ptI]))
      | fail)
    refine CallG_of (e4) rfl rfl rfl ?_
    try dsimp only
    repeat' (first
      | with_reducible first | apply thenW_n | apply W_seq | apply W_ret
      | with_reducible refine W_region (by first | decide | (with_unfolding_all rfl)) ?_
      | (rw [vcn]; (try simp [-map_take,-map_drop, push_cast, DP.av, d3AV, d3C, RD.av, ratD, dC, rC, numC, ← tens.eq_1, dAV, ptI]))
      | fail)
    simp [-map_take,-map_drop, post, resAV, resAll, resOne, closeV, closeC, closeL, resD, resDL, push_cast, DP.av, d3AV, d3C, RD.av, ratD, dC, rC, numC, ← tens.eq_1, dAV, ptI]

theorem whole18_ok (p : DP) (hw : 0 < p.w) (h : szP3 p ≤ 10000) : Eval Try.prog 7 [p.av] (.ret (boolV (whole18B p))) := by
  have hsz : szD p.x + szD p.y + szD p.w ≤ 10000 := h
  have e1 := floor02_ok p.x p.w hw (by omega)
  have e2 := floor02_ok p.y p.w hw (by omega)
  unfold whole18B
  obtain ⟨q1, nm_⟩ : ∃ nm0_, nm0_ = p.x / p.w := ⟨_, rfl⟩
  simp only [← nm_] at e1
  clear nm_
  obtain ⟨q2, nm_⟩ : ∃ nm0_, nm0_ = p.y / p.w := ⟨_, rfl⟩
  simp only [← nm_] at e2
  clear nm_
  obtain ⟨r1, nm_⟩ : ∃ nm0_, nm0_ = p.x % p.w := ⟨_, rfl⟩
  simp only [← nm_] at e1 ⊢
  clear nm_
  obtain ⟨r2, nm_⟩ : ∃ nm0_, nm0_ = p.y % p.w := ⟨_, rfl⟩
  simp only [← nm_] at e2 ⊢
  clear nm_
  by_cases c1 : r1.sign = 0
  · have g1 : (r1.sign = 0) = True := eq_true c1
    have g2 : (r1.sign == 0) = true := beq_iff_eq.2 c1
    rw [g2, Bool.true_and]
    refine Eval.intro Try.func7 rfl Try.call7 _ _ (Nat.le_of_ble_eq_true rfl) (by simp [-map_take,-map_drop, AV.refs, refsL, natAV, rAV, rC, dAV, dC, d3AV, d3C, ratD, RD.av, DP.av, ptI, dpC, push_cast]) fun hs0 => ?_
    repeat' (first
      | with_reducible first | apply thenW_n | apply W_seq
      | with_reducible refine W_region (by first | decide | (with_unfolding_all rfl)) ?_
      | (rw [vcn]; (try simp [-map_take,-map_drop, push_cast, DP.av, d3AV, d3C, RD.av, ratD, dC, rC, numC, ← tens.eq_1, dAV, ptI, g1, g2]))
      | fail)
    refine CallG_of (e1) rfl rfl rfl ?_
    try dsimp only
    repeat' (first
      | with_reducible first | apply thenW_n | apply W_seq
      | with_reducible refine W_region (by first | decide | (with_unfolding_all rfl)) ?_
      | (rw [vcn]; (try simp [-map_take,-map_drop, push_cast, DP.av, d3AV, d3C, RD.av, ratD, dC, rC, numC, ← tens.eq_1, dAV, ptI, g1, g2]))
      | fail)
    refine CallG_of (e2) rfl rfl rfl ?_
    try dsimp only
    repeat' (first
      | with_reducible first | apply thenW_n | apply W_seq | apply W_ret
      | with_reducible refine W_region (by first | decide | (with_unfolding_all rfl)) ?_
      | (rw [vcn]; (try simp [-map_take,-map_drop, push_cast, DP.av, d3AV, d3C, RD.av, ratD, dC, rC, numC, ← tens.eq_1, dAV, ptI, g1, g2]))
      | fail)
    simp [-map_take,-map_drop, post, resAV, resAll, resOne, closeV, closeC, closeL, resD, resDL, push_cast, DP.av, d3AV, d3C, RD.av, ratD, dC, rC, numC, ← tens.eq_1, dAV, ptI]
  · have g1 : (r1.sign = 0) = False := eq_false c1
    have g2 : (r1.sign == 0) = false := beq_eq_false_iff_ne.2 c1
    rw [g2, Bool.false_and]
    refine Eval.intro Try.func7 rfl Try.call7 _ _ (Nat.le_of_ble_eq_true rfl) (by simp [-map_take,-map_drop, AV.refs, refsL, natAV, rAV, rC, dAV, dC, d3AV, d3C, ratD, RD.av, DP.av, ptI, dpC, push_cast]) fun hs0 => ?_
    repeat' (first
      | with_reducible first | apply thenW_n | apply W_seq
      | with_reducible refine W_region (by first | decide | (with_unfolding_all rfl)) ?_
      | (rw [vcn]; (try simp [-map_take,-map_drop, push_cast, DP.av, d3AV, d3C, RD.av, ratD, dC, rC, numC, ← tens.eq_1, dAV, ptI, g1, g2]))
      | fail)
    refine CallG_of (e1) rfl rfl rfl ?_
    try dsimp only
    repeat' (first
      | with_reducible first | apply thenW_n | apply W_seq
      | with_reducible refine W_region (by first | decide | (with_unfolding_all rfl)) ?_
      | (rw [vcn]; (try simp [-map_take,-map_drop, push_cast, DP.av, d3AV, d3C, RD.av, ratD, dC, rC, numC, ← tens.eq_1, dAV, ptI, g1, g2]))
      | fail)
    refine CallG_of (e2) rfl rfl rfl ?_
    try dsimp only
    repeat' (first
      | with_reducible first | apply thenW_n | apply W_seq | apply W_ret
      | with_reducible refine W_region (by first | decide | (with_unfolding_all rfl)) ?_
      | (rw [vcn]; (try simp [-map_take,-map_drop, push_cast, DP.av, d3AV, d3C, RD.av, ratD, dC, rC, numC, ← tens.eq_1, dAV, ptI, g1, g2]))
      | fail)
    simp [-map_take,-map_drop, post, resAV, resAll, resOne, closeV, closeC, closeL, resD, resDL, push_cast, DP.av, d3AV, d3C, RD.av, ratD, dC, rC, numC, ← tens.eq_1, dAV, ptI]

theorem box18_ok (f : Bool) (l : List DP) (hw : ∀ p ∈ l, 0 < p.w) (hs : ∀ p ∈ l, szP3 p ≤ 10000) (hl : l.length ≤ 100000) {a b c d : Int} (hN : boxN l l.length = [a, b, c, d]) :
    Eval Try.prog 13 [.slc f 6 l.length (dpsC l)] (.ret (.tup [.agg [i64V a, i64V b], .agg [i64V c, i64V d], boolV (l.all okP)])) := by
  obtain ⟨n, hn⟩ : ∃ n, n = l.length := ⟨_, rfl⟩
  obtain ⟨L, hL⟩ : ∃ x, x = dpsC l := ⟨_, rfl⟩
  have hLr : refsL L = [] := by rw [hL]; exact dpsC_refs _
  have hLn : ∀ ρ, renL ρ L = L := fun ρ => renL_id ρ _ hLr
  have hLl : L.length = n * 6 := by rw [hL, hn, dpsC_len]
  have hat : ∀ i (h : i < l.length), ∃ t, L.drop (i * 6) = dpC l[i] ++ t := by rw [hL]; exact dpsC_at l
  rw [← hn] at hl hN ⊢
  rw [← hL]
  clear hL
  refine Eval.intro Try.func13 rfl Try.call13 _ _ (Nat.le_of_ble_eq_true rfl) (by simp [-map_take,-map_drop, AV.refs, refsL, hLr]) fun hs0 => ?_
  repeat' (first
    | with_reducible first | apply thenW_n | apply W_seq | apply W_block
    | with_reducible refine W_region (by first | decide | (with_unfolding_all rfl)) ?_
    | (rw [vcn]; (try simp [-map_take,-map_drop, push_cast]))
    | fail)
  refine W_loopW (X := Nat) (fun i => [(0, .slc f 6 n L), (2, .bp 2 0), (3, .bp 3 0), (5, .bp 5 0), (6, boolV ((l.take i).all okP)), (7, i64V i)])
    (fun i => [(2, .mut 39 [i64V 0, i64V 0]), (3, .mut 39 [i64V 0, i64V 0]), (5, .mut 88 ((boxN l i).map i64V))]) (fun i => n - i) (fun i => i ≤ n) 0 id (Nat.zero_le _) ⟨?_, ?_, ?_, ?_, ?_, ?_⟩ fun i hi => ?_
  all_goals first | (with_reducible refine W_id ?_) | (simp [-map_take,-map_drop, push_cast, dV_take, dV_drop, hLr, hLn, boxN, i64V_refs]; done)
  obtain ⟨e, f', g, h, hB⟩ := boxN_four l i
  by_cases hlt : ¬ i < n
  · have y1 : (i < n) = False := eq_false hlt
    have y2 : ((i : Int) < n) = False := eq_false (by omega)
    have hin : i = n := by omega
    subst hin
    rw [hN] at hB ⊢
    rw [List.take_of_length_le (by omega)]
    obtain ⟨ok, nm_⟩ : ∃ nm0_, nm0_ = l.all okP := ⟨_, rfl⟩
    simp only [← nm_] at ⊢
    clear nm_
    repeat' (first
      | with_reducible first | apply thenW_n | apply thenW_exit | apply blockW_same | apply loopW_exit | apply W_seq | apply W_ret | apply W_exit
      | with_reducible refine W_region (by first | decide | (with_unfolding_all rfl)) ?_
      | (rw [vcn]; (try simp [-map_take,-map_drop, push_cast, y1, y2]))
      | with_reducible refine W_drawn mixed (by decide) (by kernel_rfl) ?_
      | (rw [vcnD]; (try simp [-map_take,-map_drop, push_cast, y1, y2]))
      | (with_reducible refine W_condW ?_; (try simp [-map_take,-map_drop, AS.val, upd, resB, mkS_env, mkS_box, lk, entry_env, condW_true, condW_false, y1, y2]))
      | refine And.intro (by first | omega | kernel_rfl) ?_
      | fail)
    simp [-map_take,-map_drop, post, resAV, resAll, resOne, closeV, closeC, closeL, resD, resDL, push_cast, DP.av, d3AV, d3C, RD.av, ratD, dC, rC, numC, ← tens.eq_1, dAV, ptI]
  have hlt : i < n := by omega
  have y1 : (i < n) = True := eq_true hlt
  have y2 : ((i : Int) < n) = True := eq_true (by omega)
  have w1 : IntKind.i64.wrap ((i : Int) + 1) = ((i + 1 : Nat) : Int) := by rw [i64_in _ (by omega)]; omega
  have hil : i < l.length := by omega
  obtain ⟨t1, ht1⟩ := hat i hil
  have hNx := boxN_succ l i hil
  have hwp := hw _ (List.getElem_mem hil)
  have hsp := hs _ (List.getElem_mem hil)
  have hok : (l.take (i + 1)).all okP = ((l.take i).all okP && okP l[i]) := by
    rw [List.take_succ_eq_append_getElem hil, List.all_append]; simp [-map_take,-map_drop]
  obtain ⟨p, hp⟩ : ∃ p, p = l[i] := ⟨_, rfl⟩
  rw [← hp] at ht1 hNx hwp hsp hok
  rw [hB] at hNx ⊢
  have hsz : szD p.x + szD p.y + szD p.w ≤ 10000 := hsp
  have m1 := sz_quot p.x p.w hwp
  have m2 := sz_quot p.y p.w hwp
  have m3 := sz_quot (-p.x) p.w hwp
  have m4 := sz_quot (-p.y) p.w hwp
  rw [szD_neg'] at m3 m4
  have e1 := floor02_ok p.x p.w hwp (by omega)
  have e2 := floor02_ok p.y p.w hwp (by omega)
  have e3 := neg02_ok p.x
  have e4 := floor02_ok (-p.x) p.w hwp (by rw [szD_neg']; omega)
  have e5 := neg02_ok p.y
  have e6 := floor02_ok (-p.y) p.w hwp (by rw [szD_neg']; omega)
  have e7 := neg02_ok ((-p.x) / p.w)
  have e8 := neg02_ok ((-p.y) / p.w)
  have hszk : ∀ k, k < 4 → szD ((mk4 p).getD k 0) ≤ 1000000 := fun k hk => by
    rcases four_cases hk with rfl | rfl | rfl | rfl
    · show szD (p.x / p.w) ≤ _; omega
    · show szD (p.y / p.w) ≤ _; omega
    · show szD (-((-p.x) / p.w)) ≤ _; rw [szD_neg']; omega
    · show szD (-((-p.y) / p.w)) ≤ _; rw [szD_neg']; omega
  have hnow := fun k (hk : k < 4) => now_at p hk
  have htk := fun k (hk : k < 4) => take_ok p hk
  have hsb := fun k (hk : k < 4) => stepB_at i e f' g h p hk
  have hokp : okP p = ((mk4 p).take 4).all (fun z => decide (inR z)) := rfl
  have ht0 : ((mk4 p).take 0).all (fun z => decide (inR z)) = true := rfl
  obtain ⟨A0, A1, A2, A3, hA⟩ : ∃ A0 A1 A2 A3, stepB i [e, f', g, h] p = [A0, A1, A2, A3] := ⟨_, _, _, _, rfl⟩
  rw [hA] at hNx
  simp only [hA] at hsb
  clear hA
  obtain ⟨NW, hNW⟩ : ∃ NW, NW = dC (p.x / p.w) ++ (dC (p.y / p.w) ++ (dC (-((-p.x) / p.w)) ++ dC (-((-p.y) / p.w)))) := ⟨_, rfl⟩
  simp only [← hNW] at hnow
  have hNWr : refsL NW = [] := by rw [hNW]; rfl
  have hNWn : ∀ ρ, renL ρ NW = NW := fun ρ => renL_id ρ _ hNWr
  have hNWl : NW.length = 8 := by rw [hNW]; rfl
  obtain ⟨M4, hM4⟩ : ∃ M4, M4 = mk4 p := ⟨_, rfl⟩
  simp only [← hM4] at hszk hnow htk hsb hokp ht0
  clear hM4
  obtain ⟨d1, nm_⟩ : ∃ nm0_, nm0_ = p.x / p.w := ⟨_, rfl⟩
  simp only [← nm_] at e1 hNW
  clear nm_
  obtain ⟨d2, nm_⟩ : ∃ nm0_, nm0_ = p.y / p.w := ⟨_, rfl⟩
  simp only [← nm_] at e2 hNW
  clear nm_
  obtain ⟨u1, nm_⟩ : ∃ nm0_, nm0_ = -((-p.x) / p.w) := ⟨_, rfl⟩
  simp only [← nm_] at e7 hNW
  clear nm_
  obtain ⟨u2, nm_⟩ : ∃ nm0_, nm0_ = -((-p.y) / p.w) := ⟨_, rfl⟩
  simp only [← nm_] at e8 hNW
  clear nm_
  obtain ⟨v1, nm_⟩ : ∃ nm0_, nm0_ = (-p.x) / p.w := ⟨_, rfl⟩
  simp only [← nm_] at e4 e7
  clear nm_
  obtain ⟨v2, nm_⟩ : ∃ nm0_, nm0_ = (-p.y) / p.w := ⟨_, rfl⟩
  simp only [← nm_] at e6 e8
  clear nm_
  obtain ⟨o1, nm_⟩ : ∃ nm0_, nm0_ = p.x % p.w := ⟨_, rfl⟩
  simp only [← nm_] at e1
  clear nm_
  obtain ⟨o2, nm_⟩ : ∃ nm0_, nm0_ = p.y % p.w := ⟨_, rfl⟩
  simp only [← nm_] at e2
  clear nm_
  obtain ⟨o3, nm_⟩ : ∃ nm0_, nm0_ = (-p.x) % p.w := ⟨_, rfl⟩
  simp only [← nm_] at e4
  clear nm_
  obtain ⟨o4, nm_⟩ : ∃ nm0_, nm0_ = (-p.y) % p.w := ⟨_, rfl⟩
  simp only [← nm_] at e6
  clear nm_
  obtain ⟨n1, nm_⟩ : ∃ nm0_, nm0_ = -p.x := ⟨_, rfl⟩
  simp only [← nm_] at e3 e4
  clear nm_
  obtain ⟨n2, nm_⟩ : ∃ nm0_, nm0_ = -p.y := ⟨_, rfl⟩
  simp only [← nm_] at e5 e6
  clear nm_
  obtain ⟨al, nm_⟩ : ∃ nm0_, nm0_ = (l.take i).all okP := ⟨_, rfl⟩
  simp only [← nm_] at hok ⊢
  clear nm_
  have hfin : (((mix [A0, A1, A2, A3] [e, f', g, h] 4).map i64V)) = [A0, A1, A2, A3].map i64V := rfl
  have hini : (((mix [A0, A1, A2, A3] [e, f', g, h] 0).map i64V)) = [e, f', g, h].map i64V := rfl
  clear hat hw hs m1 m2 m3 m4 hN
  repeat' (first
    | with_reducible first | apply thenW_n | apply W_seq | apply W_block | apply W_skip
    | with_reducible refine W_region (by first | decide | (with_unfolding_all rfl)) ?_
    | (rw [vcn]; (try simp [-map_take,-map_drop, push_cast, y1, y2, ht1, hLl, hlt, dpC, DP.av, d3AV, d3C, RD.av, ratD, dC, rC, numC, ← tens.eq_1, dAV, ptI]))
    | (with_reducible refine W_condW ?_; (try simp [-map_take,-map_drop, AS.val, upd, resB, mkS_env, mkS_box, lk, entry_env, condW_true, condW_false, y1, y2, ht1, hLl, hlt, dpC, DP.av, d3AV, d3C, RD.av, ratD, dC, rC, numC, ← tens.eq_1, dAV, ptI]))
    | fail)
  refine CallG_of (e1) rfl rfl rfl ?_
  try dsimp only
  repeat' (first
    | with_reducible first | apply thenW_n | apply W_seq
    | with_reducible refine W_region (by first | decide | (with_unfolding_all rfl)) ?_
    | (rw [vcn]; (try simp [-map_take,-map_drop, push_cast, DP.av, d3AV, d3C, RD.av, ratD, dC, rC, numC, ← tens.eq_1, dAV, ptI]))
    | fail)
  refine CallG_of (e2) rfl rfl rfl ?_
  try dsimp only
  repeat' (first
    | with_reducible first | apply thenW_n | apply W_seq
    | (rw [vcn]; (try simp [-map_take,-map_drop, push_cast, DP.av, d3AV, d3C, RD.av, ratD, dC, rC, numC, ← tens.eq_1, dAV, ptI]))
    | with_reducible refine W_drawn mixed (by decide) (by kernel_rfl) ?_
    | (rw [vcnD]; (try simp [-map_take,-map_drop, push_cast, DP.av, d3AV, d3C, RD.av, ratD, dC, rC, numC, ← tens.eq_1, dAV, ptI]))
    | fail)
  refine callD_of (e3) rfl rfl rfl ?_
  try dsimp only
  repeat' (first
    | (rw [vcnD]; (try simp [-map_take,-map_drop, push_cast, DP.av, d3AV, d3C, RD.av, ratD, dC, rC, numC, ← tens.eq_1, dAV, ptI]))
    | fail)
  refine callD_of (e4) rfl rfl rfl ?_
  try dsimp only
  repeat' (first
    | with_reducible first | apply thenW_n | apply W_seq
    | with_reducible refine W_drawn mixed (by decide) (by kernel_rfl) ?_
    | (rw [vcnD]; (try simp [-map_take,-map_drop, push_cast, DP.av, d3AV, d3C, RD.av, ratD, dC, rC, numC, ← tens.eq_1, dAV, ptI]))
    | refine And.intro (by first | omega | kernel_rfl) ?_
    | fail)
  refine callD_of (e5) rfl rfl rfl ?_
  try dsimp only
  repeat' (first
    | (rw [vcnD]; (try simp [-map_take,-map_drop, push_cast, DP.av, d3AV, d3C, RD.av, ratD, dC, rC, numC, ← tens.eq_1, dAV, ptI]))
    | fail)
  refine callD_of (e6) rfl rfl rfl ?_
  try dsimp only
  repeat' (first
    | with_reducible first | apply thenW_n | apply W_seq
    | with_reducible refine W_drawn mixed (by decide) (by kernel_rfl) ?_
    | (rw [vcnD]; (try simp [-map_take,-map_drop, push_cast, DP.av, d3AV, d3C, RD.av, ratD, dC, rC, numC, ← tens.eq_1, dAV, ptI]))
    | refine And.intro (by first | omega | kernel_rfl) ?_
    | fail)
  refine callD_of (e7) rfl rfl rfl ?_
  try dsimp only
  repeat' (first
    | (rw [vcnD]; (try simp [-map_take,-map_drop, push_cast, DP.av, d3AV, d3C, RD.av, ratD, dC, rC, numC, ← tens.eq_1, dAV, ptI]))
    | fail)
  refine callD_of (e8) rfl rfl rfl ?_
  try dsimp only
  repeat' (first
    | with_reducible first | apply thenW_n | apply W_seq | apply W_block
    | with_reducible refine W_region (by first | decide | (with_unfolding_all rfl)) ?_
    | (rw [vcn]; (try simp [-map_take,-map_drop, push_cast, DP.av, d3AV, d3C, RD.av, ratD, dC, rC, numC, ← tens.eq_1, dAV, ptI]))
    | (rw [vcnD]; (try simp [-map_take,-map_drop, push_cast, DP.av, d3AV, d3C, RD.av, ratD, dC, rC, numC, ← tens.eq_1, dAV, ptI]))
    | refine And.intro (by first | omega | kernel_rfl) ?_
    | fail)
  refine W_loopW (X := Nat) (fun k => [(0, .slc f 6 n L), (2, .bp 2 0), (3, .bp 3 0), (5, .bp 5 0), (6, boolV (al && (M4.take k).all (fun z => decide (inR z)))), (7, i64V i), (17, .bp 17 0), (18, i64V k)])
    (fun k => [(2, .mut 39 [i64V 0, i64V 0]), (3, .mut 39 [i64V 0, i64V 0]), (5, .mut 88 ((mix [A0, A1, A2, A3] [e, f', g, h] k).map i64V)), (17, .mut 90 NW)]) (fun k => 4 - k) (fun k => k ≤ 4) 0 id (Nat.zero_le _) ⟨?_, ?_, ?_, ?_, ?_, ?_⟩ fun k hk => ?_
  all_goals first | (with_reducible refine W_id ?_) | (simp [-map_take,-map_drop, push_cast, dV_take, dV_drop, hLr, hLn, hNWr, hNWn, hini, ht0, hNW, Bool.and_true, DP.av, d3AV, d3C, RD.av, ratD, dC, rC, numC, ← tens.eq_1, dAV, ptI]; done)
  by_cases hk4 : ¬ k < 4
  · have x1 : (k < 4) = False := eq_false hk4
    have x2 : ((k : Int) < 4) = False := eq_false (by omega)
    have hk' : k = 4 := by omega
    subst hk'
    rw [hfin, ← hokp, ← hok]
    repeat' (first
      | with_reducible first | apply thenW_n | apply thenW_exit | apply blockW_n | apply blockW_same | apply loopW_exit | apply W_seq | apply W_exit
      | with_reducible refine W_region (by first | decide | (with_unfolding_all rfl)) ?_
      | (rw [vcn]; (try simp [-map_take,-map_drop, push_cast, x1, x2, w1]))
      | (with_reducible refine W_condW ?_; (try simp [-map_take,-map_drop, AS.val, upd, resB, mkS_env, mkS_box, lk, entry_env, condW_true, condW_false, x1, x2, w1]))
      | fail)
    refine loopW_n (i + 1) id (by omega) (by omega) ⟨?_, ?_, ?_, ?_, ?_, ?_⟩
    all_goals first | (simp [-map_take,-map_drop, push_cast, dV_take, dV_drop, hLr, hLn, hNWr, hNWn, hNx]; done)
  have hk4 : k < 4 := by omega
  have x1 : (k < 4) = True := eq_true hk4
  have x2 : ((k : Int) < 4) = True := eq_true (by omega)
  have w2 : IntKind.i64.wrap ((k : Int) + 1) = ((k + 1 : Nat) : Int) := by rw [i64_in _ (by omega)]; omega
  obtain ⟨t2, ht2⟩ := hnow k hk4
  obtain ⟨t3, ht3⟩ := mix_at (a := A0) (b := A1) (c := A2) (d := A3) (e := e) (f := f') (g := g) (h := h) hk4
  have e9 := int08_ok _ (hszk k hk4)
  have htk := htk k hk4
  have hsb := hsb k hk4
  have hset := mix_set (a := A0) (b := A1) (c := A2) (d := A3) (e := e) (f := f') (g := g) (h := h) hk4
  have hput := mix_put (a := A0) (b := A1) (c := A2) (d := A3) (e := e) (f := f') (g := g) (h := h) (m := [A0, A1, A2, A3].getD k 0) hk4
  rw [hset] at hput
  have hsame := mix_same (a := A0) (b := A1) (c := A2) (d := A3) (e := e) (f := f') (g := g) (h := h) hk4
  have hmlen := mix_len (a := A0) (b := A1) (c := A2) (d := A3) (e := e) (f := f') (g := g) (h := h) (k := k) (by omega)
  have tl2 := congrArg List.length ht2
  rw [List.length_drop, hNWl, List.length_append] at tl2
  obtain ⟨z, nm_⟩ : ∃ nm0_, nm0_ = M4.getD k 0 := ⟨_, rfl⟩
  simp only [← nm_] at ht2 e9 htk hsb
  clear nm_
  obtain ⟨m, nm_⟩ : ∃ nm0_, nm0_ = intR z := ⟨_, rfl⟩
  simp only [← nm_] at e9 hsb
  clear nm_
  obtain ⟨ok, nm_⟩ : ∃ nm0_, nm0_ = decide (inR z) := ⟨_, rfl⟩
  simp only [← nm_] at e9 htk
  clear nm_
  obtain ⟨v, nm_⟩ : ∃ nm0_, nm0_ = [e, f', g, h].getD k 0 := ⟨_, rfl⟩
  simp only [← nm_] at ht3 hsb hsame
  clear nm_
  obtain ⟨Ak, nm_⟩ : ∃ nm0_, nm0_ = [A0, A1, A2, A3].getD k 0 := ⟨_, rfl⟩
  simp only [← nm_] at hsb hput hsame
  clear nm_
  have hbk : (al && ((M4.take k).all (fun z => decide (inR z)) && ok)) = ((al && (M4.take k).all (fun z => decide (inR z))) && ok) := (Bool.and_assoc ..).symm
  rw [← htk] at hbk
  obtain ⟨bk, nm_⟩ : ∃ nm0_, nm0_ = (al && (M4.take k).all (fun z => decide (inR z))) := ⟨_, rfl⟩
  simp only [← nm_] at hbk ⊢
  clear nm_
  obtain ⟨N, hNN⟩ : ∃ N, N = (mix [A0, A1, A2, A3] [e, f', g, h] k).map i64V := ⟨_, rfl⟩
  have hNl : N.length = 4 := by rw [hNN, List.length_map]; exact hmlen
  have hNr : refsL N = [] := by rw [hNN]; exact i64V_refs _
  have hNn : ∀ ρ, renL ρ N = N := fun ρ => renL_id ρ _ hNr
  simp only [← hNN] at ht3 hput
  rw [← hNN]
  have hz2 : dC z = [i64V z.sign, rC z.natAbs] := rfl
  unfold bstep at hsb
  have hput' : N.take k ++ .v (.int .i64 Ak) :: N.drop (k + 1) = (mix [A0, A1, A2, A3] [e, f', g, h] (k + 1)).map i64V := hput
  have hNn1 : ∀ ρ, renL ρ ((mix [A0, A1, A2, A3] [e, f', g, h] (k + 1)).map i64V) = (mix [A0, A1, A2, A3] [e, f', g, h] (k + 1)).map i64V := fun ρ => renL_id ρ _ (i64V_refs _)
  have hNN1 : (mix [A0, A1, A2, A3] [e, f', g, h] k).map i64V = N := hNN.symm
  by_cases ci : i = 0
  · have i1 := ci
    have i2 : ((i : Int) == 0) = true := beq_iff_eq.2 (by omega)
    have i3 : ((i : Int) = 0) = True := eq_true (by omega)
    have hAk : Ak = m := by rw [hsb, if_pos (.inl ci)]
    subst hAk
    cases bk with
    | true =>
      repeat' (first
        | with_reducible first | apply thenW_n | apply W_seq | apply W_block | apply W_skip
        | with_reducible refine W_region (by first | decide | (with_unfolding_all rfl)) ?_
        | (rw [vcn]; (try simp [-map_take,-map_drop, push_cast, x1, x2, ht2, hNWl, hk4, DP.av, d3AV, d3C, RD.av, ratD, dC, rC, numC, ← tens.eq_1, dAV, ptI]))
        | (with_reducible refine W_condW ?_; (try simp [-map_take,-map_drop, AS.val, upd, resB, mkS_env, mkS_box, lk, entry_env, condW_true, condW_false, x1, x2, ht2, hNWl, hk4, DP.av, d3AV, d3C, RD.av, ratD, dC, rC, numC, ← tens.eq_1, dAV, ptI]))
        | fail)
      refine CallG_of (e9) rfl rfl rfl ?_
      try dsimp only
      repeat' (first
        | with_reducible first | apply thenW_n | apply blockW_n | apply W_seq
        | with_reducible refine W_region (by first | decide | (with_unfolding_all rfl)) ?_
        | (rw [vcn]; (try simp [-map_take,-map_drop, push_cast, i1, i2, i3, ht3, hNl, hk4, w2, DP.av, d3AV, d3C, RD.av, ratD, dC, rC, numC, ← tens.eq_1, dAV, ptI]))
        | (with_reducible refine W_condW ?_; (try simp [-map_take,-map_drop, AS.val, upd, resB, mkS_env, mkS_box, lk, entry_env, condW_true, condW_false, i1, i2, i3, ht3, hNl, hk4, w2, DP.av, d3AV, d3C, RD.av, ratD, dC, rC, numC, ← tens.eq_1, dAV, ptI]))
        | refine And.intro (by first | omega | kernel_rfl) ?_
        | fail)
      refine loopW_n (k + 1) id (by omega) (by omega) ⟨?_, ?_, ?_, ?_, ?_, ?_⟩
      all_goals first | (simp [-map_take,-map_drop, push_cast, dV_take, dV_drop, hLr, hLn, hNWr, hNWn, hNr, hNn, hput', hNn1, hbk, i64V_refs, DP.av, d3AV, d3C, RD.av, ratD, dC, rC, numC, ← tens.eq_1, dAV, ptI]; done)
    | false =>
      repeat' (first
        | with_reducible first | apply thenW_n | apply W_seq | apply W_block | apply W_skip
        | with_reducible refine W_region (by first | decide | (with_unfolding_all rfl)) ?_
        | (rw [vcn]; (try simp [-map_take,-map_drop, push_cast, x1, x2, ht2, hNWl, hk4, DP.av, d3AV, d3C, RD.av, ratD, dC, rC, numC, ← tens.eq_1, dAV, ptI]))
        | (with_reducible refine W_condW ?_; (try simp [-map_take,-map_drop, AS.val, upd, resB, mkS_env, mkS_box, lk, entry_env, condW_true, condW_false, x1, x2, ht2, hNWl, hk4, DP.av, d3AV, d3C, RD.av, ratD, dC, rC, numC, ← tens.eq_1, dAV, ptI]))
        | fail)
      refine CallG_of (e9) rfl rfl rfl ?_
      try dsimp only
      repeat' (first
        | with_reducible first | apply thenW_n | apply blockW_n | apply W_seq
        | with_reducible refine W_region (by first | decide | (with_unfolding_all rfl)) ?_
        | (rw [vcn]; (try simp [-map_take,-map_drop, push_cast, i1, i2, i3, ht3, hNl, hk4, w2, DP.av, d3AV, d3C, RD.av, ratD, dC, rC, numC, ← tens.eq_1, dAV, ptI]))
        | (with_reducible refine W_condW ?_; (try simp [-map_take,-map_drop, AS.val, upd, resB, mkS_env, mkS_box, lk, entry_env, condW_true, condW_false, i1, i2, i3, ht3, hNl, hk4, w2, DP.av, d3AV, d3C, RD.av, ratD, dC, rC, numC, ← tens.eq_1, dAV, ptI]))
        | refine And.intro (by first | omega | kernel_rfl) ?_
        | fail)
      refine loopW_n (k + 1) id (by omega) (by omega) ⟨?_, ?_, ?_, ?_, ?_, ?_⟩
      all_goals first | (simp [-map_take,-map_drop, push_cast, dV_take, dV_drop, hLr, hLn, hNWr, hNWn, hNr, hNn, hput', hNn1, hbk, i64V_refs, DP.av, d3AV, d3C, RD.av, ratD, dC, rC, numC, ← tens.eq_1, dAV, ptI]; done)
  have i1 : (i = 0) = False := eq_false ci
  have i2 : ((i : Int) == 0) = false := beq_eq_false_iff_ne.2 (by omega)
  have i3 : ((i : Int) = 0) = False := eq_false (by omega)
  by_cases ck : k < 2
  · have k1 : (k < 2) = True := eq_true ck
    have k2 : ((k : Int) < 2) = True := eq_true (by omega)
    have k3 : (1 < k) = False := eq_false (by omega)
    have k4 : ((1 : Int) < (k : Int)) = False := eq_false (by omega)
    by_cases cm : m < v
    · have c1 : (m < v) = True := eq_true cm
      have hAk : Ak = m := by rw [hsb, if_pos (.inr (.inl ⟨ck, cm⟩))]
      subst hAk
      cases bk with
      | true =>
        repeat' (first
          | with_reducible first | apply thenW_n | apply W_seq | apply W_block | apply W_skip
          | with_reducible refine W_region (by first | decide | (with_unfolding_all rfl)) ?_
          | (rw [vcn]; (try simp [-map_take,-map_drop, push_cast, x1, x2, ht2, hNWl, hk4, DP.av, d3AV, d3C, RD.av, ratD, dC, rC, numC, ← tens.eq_1, dAV, ptI]))
          | (with_reducible refine W_condW ?_; (try simp [-map_take,-map_drop, AS.val, upd, resB, mkS_env, mkS_box, lk, entry_env, condW_true, condW_false, x1, x2, ht2, hNWl, hk4, DP.av, d3AV, d3C, RD.av, ratD, dC, rC, numC, ← tens.eq_1, dAV, ptI]))
          | fail)
        refine CallG_of (e9) rfl rfl rfl ?_
        try dsimp only
        repeat' (first
          | with_reducible first | apply thenW_n | apply blockW_n | apply W_seq
          | with_reducible refine W_region (by first | decide | (with_unfolding_all rfl)) ?_
          | (rw [vcn]; (try simp [-map_take,-map_drop, push_cast, i1, i2, i3, k1, k2, k3, k4, c1, ht3, hNl, hk4, w2, DP.av, d3AV, d3C, RD.av, ratD, dC, rC, numC, ← tens.eq_1, dAV, ptI]))
          | (with_reducible refine W_condW ?_; (try simp [-map_take,-map_drop, AS.val, upd, resB, mkS_env, mkS_box, lk, entry_env, condW_true, condW_false, i1, i2, i3, k1, k2, k3, k4, c1, ht3, hNl, hk4, w2, DP.av, d3AV, d3C, RD.av, ratD, dC, rC, numC, ← tens.eq_1, dAV, ptI]))
          | refine And.intro (by first | omega | kernel_rfl) ?_
          | fail)
        refine loopW_n (k + 1) id (by omega) (by omega) ⟨?_, ?_, ?_, ?_, ?_, ?_⟩
        all_goals first | (simp [-map_take,-map_drop, push_cast, dV_take, dV_drop, hLr, hLn, hNWr, hNWn, hNr, hNn, hput', hNn1, hbk, i64V_refs, DP.av, d3AV, d3C, RD.av, ratD, dC, rC, numC, ← tens.eq_1, dAV, ptI]; done)
      | false =>
        repeat' (first
          | with_reducible first | apply thenW_n | apply W_seq | apply W_block | apply W_skip
          | with_reducible refine W_region (by first | decide | (with_unfolding_all rfl)) ?_
          | (rw [vcn]; (try simp [-map_take,-map_drop, push_cast, x1, x2, ht2, hNWl, hk4, DP.av, d3AV, d3C, RD.av, ratD, dC, rC, numC, ← tens.eq_1, dAV, ptI]))
          | (with_reducible refine W_condW ?_; (try simp [-map_take,-map_drop, AS.val, upd, resB, mkS_env, mkS_box, lk, entry_env, condW_true, condW_false, x1, x2, ht2, hNWl, hk4, DP.av, d3AV, d3C, RD.av, ratD, dC, rC, numC, ← tens.eq_1, dAV, ptI]))
          | fail)
        refine CallG_of (e9) rfl rfl rfl ?_
        try dsimp only
        repeat' (first
          | with_reducible first | apply thenW_n | apply blockW_n | apply W_seq
          | with_reducible refine W_region (by first | decide | (with_unfolding_all rfl)) ?_
          | (rw [vcn]; (try simp [-map_take,-map_drop, push_cast, i1, i2, i3, k1, k2, k3, k4, c1, ht3, hNl, hk4, w2, DP.av, d3AV, d3C, RD.av, ratD, dC, rC, numC, ← tens.eq_1, dAV, ptI]))
          | (with_reducible refine W_condW ?_; (try simp [-map_take,-map_drop, AS.val, upd, resB, mkS_env, mkS_box, lk, entry_env, condW_true, condW_false, i1, i2, i3, k1, k2, k3, k4, c1, ht3, hNl, hk4, w2, DP.av, d3AV, d3C, RD.av, ratD, dC, rC, numC, ← tens.eq_1, dAV, ptI]))
          | refine And.intro (by first | omega | kernel_rfl) ?_
          | fail)
        refine loopW_n (k + 1) id (by omega) (by omega) ⟨?_, ?_, ?_, ?_, ?_, ?_⟩
        all_goals first | (simp [-map_take,-map_drop, push_cast, dV_take, dV_drop, hLr, hLn, hNWr, hNWn, hNr, hNn, hput', hNn1, hbk, i64V_refs, DP.av, d3AV, d3C, RD.av, ratD, dC, rC, numC, ← tens.eq_1, dAV, ptI]; done)
    · have c1 : (m < v) = False := eq_false cm
      have hAk : Ak = v := by rw [hsb, if_neg (by omega)]
      have hsm := hsame hAk
      cases bk with
      | true =>
        repeat' (first
          | with_reducible first | apply thenW_n | apply W_seq | apply W_block | apply W_skip
          | with_reducible refine W_region (by first | decide | (with_unfolding_all rfl)) ?_
          | (rw [vcn]; (try simp [-map_take,-map_drop, push_cast, x1, x2, ht2, hNWl, hk4, DP.av, d3AV, d3C, RD.av, ratD, dC, rC, numC, ← tens.eq_1, dAV, ptI]))
          | (with_reducible refine W_condW ?_; (try simp [-map_take,-map_drop, AS.val, upd, resB, mkS_env, mkS_box, lk, entry_env, condW_true, condW_false, x1, x2, ht2, hNWl, hk4, DP.av, d3AV, d3C, RD.av, ratD, dC, rC, numC, ← tens.eq_1, dAV, ptI]))
          | fail)
        refine CallG_of (e9) rfl rfl rfl ?_
        try dsimp only
        repeat' (first
          | with_reducible first | apply thenW_n | apply blockW_n | apply W_seq | apply W_skip
          | with_reducible refine W_region (by first | decide | (with_unfolding_all rfl)) ?_
          | (rw [vcn]; (try simp [-map_take,-map_drop, push_cast, i1, i2, i3, k1, k2, k3, k4, c1, ht3, hNl, hk4, w2, DP.av, d3AV, d3C, RD.av, ratD, dC, rC, numC, ← tens.eq_1, dAV, ptI]))
          | (with_reducible refine W_condW ?_; (try simp [-map_take,-map_drop, AS.val, upd, resB, mkS_env, mkS_box, lk, entry_env, condW_true, condW_false, i1, i2, i3, k1, k2, k3, k4, c1, ht3, hNl, hk4, w2, DP.av, d3AV, d3C, RD.av, ratD, dC, rC, numC, ← tens.eq_1, dAV, ptI]))
          | refine And.intro (by first | omega | kernel_rfl) ?_
          | fail)
        refine loopW_n (k + 1) id (by omega) (by omega) ⟨?_, ?_, ?_, ?_, ?_, ?_⟩
        all_goals first | (simp [-map_take,-map_drop, push_cast, dV_take, dV_drop, hLr, hLn, hNWr, hNWn, hNr, hNn, hsm, hNN1, hNn1, hbk, i64V_refs, DP.av, d3AV, d3C, RD.av, ratD, dC, rC, numC, ← tens.eq_1, dAV, ptI]; done)
      | false =>
        repeat' (first
          | with_reducible first | apply thenW_n | apply W_seq | apply W_block | apply W_skip
          | with_reducible refine W_region (by first | decide | (with_unfolding_all rfl)) ?_
          | (rw [vcn]; (try simp [-map_take,-map_drop, push_cast, x1, x2, ht2, hNWl, hk4, DP.av, d3AV, d3C, RD.av, ratD, dC, rC, numC, ← tens.eq_1, dAV, ptI]))
          | (with_reducible refine W_condW ?_; (try simp [-map_take,-map_drop, AS.val, upd, resB, mkS_env, mkS_box, lk, entry_env, condW_true, condW_false, x1, x2, ht2, hNWl, hk4, DP.av, d3AV, d3C, RD.av, ratD, dC, rC, numC, ← tens.eq_1, dAV, ptI]))
          | fail)
        refine CallG_of (e9) rfl rfl rfl ?_
        try dsimp only
        repeat' (first
          | with_reducible first | apply thenW_n | apply blockW_n | apply W_seq | apply W_skip
          | with_reducible refine W_region (by first | decide | (with_unfolding_all rfl)) ?_
          | (rw [vcn]; (try simp [-map_take,-map_drop, push_cast, i1, i2, i3, k1, k2, k3, k4, c1, ht3, hNl, hk4, w2, DP.av, d3AV, d3C, RD.av, ratD, dC, rC, numC, ← tens.eq_1, dAV, ptI]))
          | (with_reducible refine W_condW ?_; (try simp [-map_take,-map_drop, AS.val, upd, resB, mkS_env, mkS_box, lk, entry_env, condW_true, condW_false, i1, i2, i3, k1, k2, k3, k4, c1, ht3, hNl, hk4, w2, DP.av, d3AV, d3C, RD.av, ratD, dC, rC, numC, ← tens.eq_1, dAV, ptI]))
          | refine And.intro (by first | omega | kernel_rfl) ?_
          | fail)
        refine loopW_n (k + 1) id (by omega) (by omega) ⟨?_, ?_, ?_, ?_, ?_, ?_⟩
        all_goals first | (simp [-map_take,-map_drop, push_cast, dV_take, dV_drop, hLr, hLn, hNWr, hNWn, hNr, hNn, hsm, hNN1, hNn1, hbk, i64V_refs, DP.av, d3AV, d3C, RD.av, ratD, dC, rC, numC, ← tens.eq_1, dAV, ptI]; done)
  · have k1 : (k < 2) = False := eq_false ck
    have k2 : ((k : Int) < 2) = False := eq_false (by omega)
    have k3 : (1 < k) = True := eq_true (by omega)
    have k4 : ((1 : Int) < (k : Int)) = True := eq_true (by omega)
    by_cases cm : v < m
    · have c1 : (v < m) = True := eq_true cm
      have hAk : Ak = m := by rw [hsb, if_pos (.inr (.inr ⟨by omega, cm⟩))]
      subst hAk
      cases bk with
      | true =>
        repeat' (first
          | with_reducible first | apply thenW_n | apply W_seq | apply W_block | apply W_skip
          | with_reducible refine W_region (by first | decide | (with_unfolding_all rfl)) ?_
          | (rw [vcn]; (try simp [-map_take,-map_drop, push_cast, x1, x2, ht2, hNWl, hk4, DP.av, d3AV, d3C, RD.av, ratD, dC, rC, numC, ← tens.eq_1, dAV, ptI]))
          | (with_reducible refine W_condW ?_; (try simp [-map_take,-map_drop, AS.val, upd, resB, mkS_env, mkS_box, lk, entry_env, condW_true, condW_false, x1, x2, ht2, hNWl, hk4, DP.av, d3AV, d3C, RD.av, ratD, dC, rC, numC, ← tens.eq_1, dAV, ptI]))
          | fail)
        refine CallG_of (e9) rfl rfl rfl ?_
        try dsimp only
        repeat' (first
          | with_reducible first | apply thenW_n | apply blockW_n | apply W_seq
          | with_reducible refine W_region (by first | decide | (with_unfolding_all rfl)) ?_
          | (rw [vcn]; (try simp [-map_take,-map_drop, push_cast, i1, i2, i3, k1, k2, k3, k4, c1, ht3, hNl, hk4, w2, DP.av, d3AV, d3C, RD.av, ratD, dC, rC, numC, ← tens.eq_1, dAV, ptI]))
          | (with_reducible refine W_condW ?_; (try simp [-map_take,-map_drop, AS.val, upd, resB, mkS_env, mkS_box, lk, entry_env, condW_true, condW_false, i1, i2, i3, k1, k2, k3, k4, c1, ht3, hNl, hk4, w2, DP.av, d3AV, d3C, RD.av, ratD, dC, rC, numC, ← tens.eq_1, dAV, ptI]))
          | refine And.intro (by first | omega | kernel_rfl) ?_
          | fail)
        refine loopW_n (k + 1) id (by omega) (by omega) ⟨?_, ?_, ?_, ?_, ?_, ?_⟩
        all_goals first | (simp [-map_take,-map_drop, push_cast, dV_take, dV_drop, hLr, hLn, hNWr, hNWn, hNr, hNn, hput', hNn1, hbk, i64V_refs, DP.av, d3AV, d3C, RD.av, ratD, dC, rC, numC, ← tens.eq_1, dAV, ptI]; done)
      | false =>
        repeat' (first
          | with_reducible first | apply thenW_n | apply W_seq | apply W_block | apply W_skip
          | with_reducible refine W_region (by first | decide | (with_unfolding_all rfl)) ?_
          | (rw [vcn]; (try simp [-map_take,-map_drop, push_cast, x1, x2, ht2, hNWl, hk4, DP.av, d3AV, d3C, RD.av, ratD, dC, rC, numC, ← tens.eq_1, dAV, ptI]))
          | (with_reducible refine W_condW ?_; (try simp [-map_take,-map_drop, AS.val, upd, resB, mkS_env, mkS_box, lk, entry_env, condW_true, condW_false, x1, x2, ht2, hNWl, hk4, DP.av, d3AV, d3C, RD.av, ratD, dC, rC, numC, ← tens.eq_1, dAV, ptI]))
          | fail)
        refine CallG_of (e9) rfl rfl rfl ?_
        try dsimp only
        repeat' (first
          | with_reducible first | apply thenW_n | apply blockW_n | apply W_seq
          | with_reducible refine W_region (by first | decide | (with_unfolding_all rfl)) ?_
          | (rw [vcn]; (try simp [-map_take,-map_drop, push_cast, i1, i2, i3, k1, k2, k3, k4, c1, ht3, hNl, hk4, w2, DP.av, d3AV, d3C, RD.av, ratD, dC, rC, numC, ← tens.eq_1, dAV, ptI]))
          | (with_reducible refine W_condW ?_; (try simp [-map_take,-map_drop, AS.val, upd, resB, mkS_env, mkS_box, lk, entry_env, condW_true, condW_false, i1, i2, i3, k1, k2, k3, k4, c1, ht3, hNl, hk4, w2, DP.av, d3AV, d3C, RD.av, ratD, dC, rC, numC, ← tens.eq_1, dAV, ptI]))
          | refine And.intro (by first | omega | kernel_rfl) ?_
          | fail)
        refine loopW_n (k + 1) id (by omega) (by omega) ⟨?_, ?_, ?_, ?_, ?_, ?_⟩
        all_goals first | (simp [-map_take,-map_drop, push_cast, dV_take, dV_drop, hLr, hLn, hNWr, hNWn, hNr, hNn, hput', hNn1, hbk, i64V_refs, DP.av, d3AV, d3C, RD.av, ratD, dC, rC, numC, ← tens.eq_1, dAV, ptI]; done)
    · have c1 : (v < m) = False := eq_false cm
      have hAk : Ak = v := by rw [hsb, if_neg (by omega)]
      have hsm := hsame hAk
      cases bk with
      | true =>
        repeat' (first
          | with_reducible first | apply thenW_n | apply W_seq | apply W_block | apply W_skip
          | with_reducible refine W_region (by first | decide | (with_unfolding_all rfl)) ?_
          | (rw [vcn]; (try simp [-map_take,-map_drop, push_cast, x1, x2, ht2, hNWl, hk4, DP.av, d3AV, d3C, RD.av, ratD, dC, rC, numC, ← tens.eq_1, dAV, ptI]))
          | (with_reducible refine W_condW ?_; (try simp [-map_take,-map_drop, AS.val, upd, resB, mkS_env, mkS_box, lk, entry_env, condW_true, condW_false, x1, x2, ht2, hNWl, hk4, DP.av, d3AV, d3C, RD.av, ratD, dC, rC, numC, ← tens.eq_1, dAV, ptI]))
          | fail)
        refine CallG_of (e9) rfl rfl rfl ?_
        try dsimp only
        repeat' (first
          | with_reducible first | apply thenW_n | apply blockW_n | apply W_seq | apply W_skip
          | with_reducible refine W_region (by first | decide | (with_unfolding_all rfl)) ?_
          | (rw [vcn]; (try simp [-map_take,-map_drop, push_cast, i1, i2, i3, k1, k2, k3, k4, c1, ht3, hNl, hk4, w2, DP.av, d3AV, d3C, RD.av, ratD, dC, rC, numC, ← tens.eq_1, dAV, ptI]))
          | (with_reducible refine W_condW ?_; (try simp [-map_take,-map_drop, AS.val, upd, resB, mkS_env, mkS_box, lk, entry_env, condW_true, condW_false, i1, i2, i3, k1, k2, k3, k4, c1, ht3, hNl, hk4, w2, DP.av, d3AV, d3C, RD.av, ratD, dC, rC, numC, ← tens.eq_1, dAV, ptI]))
          | refine And.intro (by first | omega | kernel_rfl) ?_
          | fail)
        refine loopW_n (k + 1) id (by omega) (by omega) ⟨?_, ?_, ?_, ?_, ?_, ?_⟩
        all_goals first | (simp [-map_take,-map_drop, push_cast, dV_take, dV_drop, hLr, hLn, hNWr, hNWn, hNr, hNn, hsm, hNN1, hNn1, hbk, i64V_refs, DP.av, d3AV, d3C, RD.av, ratD, dC, rC, numC, ← tens.eq_1, dAV, ptI]; done)
      | false =>
        repeat' (first
          | with_reducible first | apply thenW_n | apply W_seq | apply W_block | apply W_skip
          | with_reducible refine W_region (by first | decide | (with_unfolding_all rfl)) ?_
          | (rw [vcn]; (try simp [-map_take,-map_drop, push_cast, x1, x2, ht2, hNWl, hk4, DP.av, d3AV, d3C, RD.av, ratD, dC, rC, numC, ← tens.eq_1, dAV, ptI]))
          | (with_reducible refine W_condW ?_; (try simp [-map_take,-map_drop, AS.val, upd, resB, mkS_env, mkS_box, lk, entry_env, condW_true, condW_false, x1, x2, ht2, hNWl, hk4, DP.av, d3AV, d3C, RD.av, ratD, dC, rC, numC, ← tens.eq_1, dAV, ptI]))
          | fail)
        refine CallG_of (e9) rfl rfl rfl ?_
        try dsimp only
        repeat' (first
          | with_reducible first | apply thenW_n | apply blockW_n | apply W_seq | apply W_skip
          | with_reducible refine W_region (by first | decide | (with_unfolding_all rfl)) ?_
          | (rw [vcn]; (try simp [-map_take,-map_drop, push_cast, i1, i2, i3, k1, k2, k3, k4, c1, ht3, hNl, hk4, w2, DP.av, d3AV, d3C, RD.av, ratD, dC, rC, numC, ← tens.eq_1, dAV, ptI]))
          | (with_reducible refine W_condW ?_; (try simp [-map_take,-map_drop, AS.val, upd, resB, mkS_env, mkS_box, lk, entry_env, condW_true, condW_false, i1, i2, i3, k1, k2, k3, k4, c1, ht3, hNl, hk4, w2, DP.av, d3AV, d3C, RD.av, ratD, dC, rC, numC, ← tens.eq_1, dAV, ptI]))
          | refine And.intro (by first | omega | kernel_rfl) ?_
          | fail)
        refine loopW_n (k + 1) id (by omega) (by omega) ⟨?_, ?_, ?_, ?_, ?_, ?_⟩
        all_goals first | (simp [-map_take,-map_drop, push_cast, dV_take, dV_drop, hLr, hLn, hNWr, hNWn, hNr, hNn, hsm, hNN1, hNn1, hbk, i64V_refs, DP.av, d3AV, d3C, RD.av, ratD, dC, rC, numC, ← tens.eq_1, dAV, ptI]; done)
end Go.Fw
