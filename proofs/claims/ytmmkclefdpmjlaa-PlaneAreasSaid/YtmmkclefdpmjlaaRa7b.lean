import Derived.Test.YtmmkclefdpmjlaaRa4b
import Derived.Test.YtmmkclefdpmjlaaW1b
import Derived.Test.YtmmkclefdpmjlaaY1
import Derived.Test.YtmmkclefdpmjlaaW3
import Derived.Test.YtmmkclefdpmjlaaNd
set_option linter.unusedSimpArgs false
set_option linter.unusedVariables false
namespace Go.Fw
open Go
def shX (l : List FP) (i j : Nat) : Rat := (l.getD i nilF).x.q * (l.getD j nilF).y.q - (l.getD i nilF).y.q * (l.getD j nilF).x.q
def shS (l : List FP) : Nat → Rat
  | 0 => 0
  | k + 1 => shS l k + shX l k (k + 1)
def fanT (l : List FP) : Nat → Rat
  | 0 => 0
  | k + 1 => fanT l k + cross (l.getD 0 nilF).v (l.getD (k + 1) nilF).v (l.getD (k + 2) nilF).v
theorem fan_sh (l : List FP) : ∀ k, fanT l k = shS l (k + 1) + shX l (k + 1) 0
  | 0 => by
    show (0 : Rat) = 0 + shX l 0 1 + shX l 1 0
    unfold shX
    grind
  | k + 1 => by
    show fanT l k + cross _ _ _ = shS l (k + 1) + shX l (k + 1) (k + 2) + shX l (k + 2) 0
    rw [fan_sh l k]
    unfold shX cross FP.v
    grind
theorem areaS_sh (l : List FP) : ∀ k, k < l.length → areaS l (List.range k) = shS l k
  | 0, _ => rfl
  | k + 1, h => by
    rw [List.range_succ, areaS_snoc, areaS_sh l k (by omega), Nat.mod_eq_of_lt h]
    show _ = shS l k + shX l k (k + 1)
    unfold shX
    grind
theorem areaS_fan (l : List FP) : areaS l (List.range l.length) = fanT l (l.length - 2) := by
  obtain ⟨n, hn⟩ : ∃ n, n = l.length := ⟨_, rfl⟩
  rw [← hn]
  match n, hn with
  | 0, _ => rfl
  | 1, hn =>
    show areaS l ([] ++ [0]) = 0
    rw [areaS_snoc, ← hn]
    show (0 : Rat) + _ * _ - _ * _ = 0
    grind
  | k + 2, hn =>
    rw [List.range_succ, areaS_snoc, areaS_sh l (k + 1) (by omega), ← hn, Nat.mod_self]
    show _ = fanT l k
    rw [fan_sh]
    unfold shX
    grind
end Go.Fw
-- VALS: d3AV, d3C, dAV, dC, rAV, rC, DP.av, dpC, ratD, RD.av
namespace Go.Fw
open Go Go.Proofs Go.IntWalk
set_option linter.unusedSimpArgs false
set_option maxRecDepth 100000
set_option maxHeartbeats 20000000
def RB (r : RD) (n d : Nat) : Prop := r.n.natAbs < 2 ^ n ∧ r.d.natAbs < 2 ^ d
theorem tens_bits {x n : Nat} (h : x < 2 ^ n) : (tens x).length ≤ n / 13 + 1 := by
  refine tens_len (Nat.lt_of_lt_of_le h ?_)
  have e : (2 : Nat) ^ n ≤ 2 ^ (13 * (n / 13 + 1)) := Nat.pow_le_pow_right (by omega) (by omega)
  refine Nat.le_trans e ?_
  rw [Nat.pow_mul]
  exact Nat.pow_le_pow_left (by decide) _
theorem RB.sz {r : RD} {n d : Nat} (h : RB r n d) : szR r ≤ n / 13 + d / 13 + 2 := by
  have h1 := tens_bits h.1
  have h2 := tens_bits h.2
  unfold szR szD
  omega
theorem RB.mono {r : RD} {n d n' d' : Nat} (h : RB r n d) (hn : n ≤ n') (hd : d ≤ d') : RB r n' d' :=
  ⟨Nat.lt_of_lt_of_le h.1 (Nat.pow_le_pow_right (by omega) hn), Nat.lt_of_lt_of_le h.2 (Nat.pow_le_pow_right (by omega) hd)⟩
theorem bits_mul {a b : Int} {n m : Nat} (ha : a.natAbs < 2 ^ n) (hb : b.natAbs < 2 ^ m) : (a * b).natAbs < 2 ^ (n + m) := by
  rw [Int.natAbs_mul, Nat.pow_add]; exact Nat.mul_lt_mul'' ha hb
theorem bits_add {a b : Int} {n m k : Nat} (ha : a.natAbs < 2 ^ n) (hb : b.natAbs < 2 ^ m) (hn : n ≤ k) (hm : m ≤ k) : (a + b).natAbs < 2 ^ (k + 1) := by
  have h1 := Nat.lt_of_lt_of_le ha (Nat.pow_le_pow_right (by omega) hn)
  have h2 := Nat.lt_of_lt_of_le hb (Nat.pow_le_pow_right (by omega) hm)
  have h3 := Int.natAbs_add_le a b
  rw [Nat.pow_succ]
  omega
theorem bits_sub {a b : Int} {n m k : Nat} (ha : a.natAbs < 2 ^ n) (hb : b.natAbs < 2 ^ m) (hn : n ≤ k) (hm : m ≤ k) : (a - b).natAbs < 2 ^ (k + 1) := by
  rw [Int.sub_eq_add_neg]
  exact bits_add ha (by rw [Int.natAbs_neg]; exact hb) hn hm
theorem RB.add {a b : RD} {n1 d1 n2 d2 : Nat} (ha : RB a n1 d1) (hb : RB b n2 d2) (n : Nat) (h1 : n1 + d2 ≤ n) (h2 : n2 + d1 ≤ n) : RB (addD a b) (n + 1) (d1 + d2) := by
  unfold addD
  split
  · exact ⟨bits_add ha.1 hb.1 (by omega) (by omega), Nat.lt_of_lt_of_le ha.2 (Nat.pow_le_pow_right (by omega) (by omega))⟩
  · exact ⟨bits_add (bits_mul ha.1 hb.2) (bits_mul hb.1 ha.2) (by omega) (by omega), bits_mul ha.2 hb.2⟩
def DB (p : DP) : Prop := p.x.natAbs < 2 ^ 64 ∧ p.y.natAbs < 2 ^ 64 ∧ p.w.natAbs < 2 ^ 6 ∧ 0 < p.w
theorem cross_bits {a b c : DP} (ha : DB a) (hb : DB b) (hc : DB c) : RB ⟨crossN a b c, denW a b c⟩ 143 24 := by
  have less : ∀ {x1 x2 w1 w2 : Int}, x1.natAbs < 2 ^ 64 → x2.natAbs < 2 ^ 64 → w1.natAbs < 2 ^ 6 → w2.natAbs < 2 ^ 6 → (x2 * w1 - x1 * w2).natAbs < 2 ^ 71 := fun h1 h2 h3 h4 => bits_sub (k := 70) (bits_mul h2 h3) (bits_mul h1 h4) (by omega) (by omega)
  refine ⟨bits_sub (k := 142) (bits_mul (less ha.1 hb.1 ha.2.2.1 hb.2.2.1) (less ha.2.1 hc.2.1 ha.2.2.1 hc.2.2.1)) (bits_mul (less ha.2.1 hb.2.1 ha.2.2.1 hb.2.2.1) (less ha.1 hc.1 ha.2.2.1 hc.2.2.1)) (by omega) (by omega), ?_⟩
  exact bits_mul (bits_mul ha.2.2.1 ha.2.2.1) (bits_mul hb.2.2.1 hc.2.2.1)
def nilD : DP := ⟨0, 0, 1⟩
def fanD (l : List DP) : Nat → RD
  | 0 => ofD 0
  | k + 1 => addD (fanD l k) ⟨crossN (l.getD 0 nilD) (l.getD (k + 1) nilD) (l.getD (k + 2) nilD), denW (l.getD 0 nilD) (l.getD (k + 1) nilD) (l.getD (k + 2) nilD)⟩
theorem DB.at {l : List DP} (h : ∀ p ∈ l, DB p) (i : Nat) : DB (l.getD i nilD) := by
  rw [List.getD_eq_getElem?_getD]
  by_cases hi : i < l.length
  · rw [List.getElem?_eq_getElem hi]; exact h _ (List.getElem_mem hi)
  · rw [List.getElem?_eq_none (by omega)]
    exact ⟨by decide, by decide, by decide, by decide⟩
theorem fanD_bits {l : List DP} (h : ∀ p ∈ l, DB p) : ∀ k, RB (fanD l k) (150 + 25 * k) (1 + 24 * k)
  | 0 => ⟨by show (0 : Int).natAbs < 2 ^ 150; decide, by show (1 : Int).natAbs < 2 ^ 1; decide⟩
  | k + 1 => by
    have h1 := (fanD_bits h k).add (cross_bits (DB.at h 0) (DB.at h (k + 1)) (DB.at h (k + 2))) (174 + 25 * k) (by omega) (by omega)
    exact h1.mono (by omega) (by omega)
theorem fanD_q {l : List DP} {m : List FP} (h : ∀ p ∈ l, DB p) (hv : ∀ i, (l.getD i nilD).v = (m.getD i nilF).v) : ∀ k, (fanD l k).q = fanT m k ∧ 0 < (fanD l k).d
  | 0 => ⟨by show Rat.divInt 0 1 = 0; exact Rat.zero_divInt _, by show (0 : Int) < 1; decide⟩
  | k + 1 => by
    obtain ⟨h1, h2⟩ := fanD_q h hv k
    have w0 := (DB.at h 0).2.2.2
    have w1 := (DB.at h (k + 1)).2.2.2
    have w2 := (DB.at h (k + 2)).2.2.2
    have hd := denW_pos w0 w1 w2
    obtain ⟨h3, h4⟩ := addD_q (a := fanD l k) (b := ⟨crossN (l.getD 0 nilD) (l.getD (k + 1) nilD) (l.getD (k + 2) nilD), denW (l.getD 0 nilD) (l.getD (k + 1) nilD) (l.getD (k + 2) nilD)⟩) h2 hd
    refine ⟨?_, h4⟩
    show (addD _ _).q = fanT m k + cross _ _ _
    rw [h3, h1, q_of hd (crossN_v w0 w1 w2), hv, hv, hv]
end Go.Fw
-- VALS: d3AV, d3C, dAV, dC, rAV, rC, DP.av, dpC, ratD, RD.av
namespace Go.Fw
open Go Go.Proofs Go.IntWalk
set_option linter.unusedSimpArgs false
set_option maxRecDepth 100000
set_option maxHeartbeats 20000000
def rdC (r : RD) : List AV := dC r.n ++ dC r.d
def zeroD : List AV := [.v (.int .i64 0), .v (.slice none 0 0), .v (.int .i64 0), .v (.slice none 0 0)]
open List (map_take map_drop)
attribute [local push_cast] optK_some optK_none optK_ite optK_map optK_bind gOn stepK isMem evPure evMem evBin evUn evConv evLen evBuiltin evMinMax evSlice evBuild evAppend evIndex evIndexAddr evField evFieldAddr intBin strBin appDest AS.val AS.mem AS.elems AS.put AS.put' AS.eff AV.cells? AV.isCell AV.refs all_isByte take_byteV drop_byteV strOf_map bndOk bnd partAV ptrAdd killBox catA inOrder fillA setAt ofVal resB upd byteV List.head?_take List.head?_drop List.getElem?_map mkS_env mkS_box mkS_used entry_env entry_box entry_used lk stepD lookIds Oper.looksAt Op.operands Call.operands St.ids refsL renL_append ren renL renBox Box.refs iV i64V boolV dV_getElem dV_app dV_cons toNat_add2 toNat_add1
attribute [local simp ↓] numC_refs numC_isCell numC_cells numC_resB numC_resD numC_ren numC_closeC numC_isOwn
theorem frac03_ok (a b : Int) (ha : inI a) (hb : inI b) : Eval Try.prog 54 [i64V a, i64V b] (.ret (RD.mk a b).av) := by
  have e1 := of02_ok a ha
  have e2 := of02_ok b hb
  refine Eval.intro Try.func54 rfl Try.call54 _ _ (Nat.le_of_ble_eq_true rfl) (by simp [-map_take,-map_drop, AV.refs, refsL, natAV, d3AV, d3C, dAV, dC, rAV, rC, DP.av, dpC, ratD, RD.av, push_cast]) fun hs0 => ?_
  repeat' (first
    | with_reducible first | apply thenW_n | apply W_seq
    | with_reducible refine W_rg ?_
    | (rw [vcn]; (try simp [-map_take,-map_drop, push_cast, RD.av, ratD, dC, rC, numC, ← tens.eq_1, dAV]))
    | fail)
  refine CallG_of (e1) rfl rfl rfl ?_
  try dsimp only
  repeat' (first
    | (rw [vcn]; (try simp [-map_take,-map_drop, push_cast, RD.av, ratD, dC, rC, numC, ← tens.eq_1, dAV]))
    | fail)
  refine CallG_of (e2) rfl rfl rfl ?_
  try dsimp only
  repeat' (first
    | with_reducible first | apply thenW_n | apply W_ret
    | (rw [vcn]; (try simp [-map_take,-map_drop, push_cast, RD.av, ratD, dC, rC, numC, ← tens.eq_1, dAV]))
    | fail)
  simp [-map_take,-map_drop, post, resAV, resAll, resOne, closeV, closeC, closeL, resD, resDL, push_cast, RD.av, ratD, dC, rC, numC, ← tens.eq_1, dAV]
theorem area11_ok (f : Bool) (l : List DP) (hl : l.length ≤ 1000) (h : ∀ p ∈ l, DB p) : Eval Try.prog 16 [.slc f 6 l.length (dpsC l)] (.ret (mulD (fanD l (l.length - 2)) ⟨1, 2⟩).av) := by
  refine Eval.intro Try.func16 rfl Try.call16 _ _ (Nat.le_of_ble_eq_true rfl) (by simp [-map_take,-map_drop, AV.refs, refsL, natAV, d3AV, d3C, dAV, dC, rAV, rC, DP.av, dpC, ratD, RD.av, push_cast]) fun hs0 => ?_
  obtain ⟨n, hn⟩ : ∃ n, n = l.length := ⟨_, rfl⟩
  obtain ⟨L, hL⟩ : ∃ x, x = dpsC l := ⟨_, rfl⟩
  have hLr : refsL L = [] := by rw [hL]; exact dpsC_refs _
  have hLl : L.length = n * 6 := by rw [hL, hn, dpsC_len]
  have hat : ∀ i, i < n → ∃ t, L.drop (i * 6) = dpC (l.getD i nilD) ++ t := fun i hi => by
    rw [hL, List.getD_eq_getElem?_getD, List.getElem?_eq_getElem (by omega)]
    exact dpsC_at l i (by omega)
  rw [← hn] at hl ⊢
  rw [← hL]
  clear hL hs0
  have o1 := of03_ok 0 (by unfold inI; omega)
  have hF0 : fanD l 0 = ofD 0 := rfl
  have f1 := frac03_ok 1 2 (by unfold inI; omega) (by unfold inI; omega)
  have hb := fanD_bits h
  obtain ⟨Z, hZ⟩ : ∃ Z, Z = ofD 0 := ⟨_, rfl⟩
  rw [← hZ] at o1 hF0
  clear hZ
  repeat' (first
    | with_reducible first | apply thenW_n | apply W_seq
    | with_reducible refine W_rg ?_
    | (rw [vcn]; (try simp [-map_take,-map_drop, push_cast]))
    | fail)
  refine CallG_of (o1) rfl rfl rfl ?_
  try dsimp only
  repeat' (first
    | with_reducible first | apply thenW_n | apply W_seq | apply W_block
    | with_reducible refine W_rg ?_
    | (rw [vcn]; (try simp [-map_take,-map_drop, push_cast, RD.av, ratD, dC, rC, numC, ← tens.eq_1, dAV]))
    | fail)
  refine W_loopW (X := Nat) (fun k => [(0, .slc f 6 n L), (2, .bp 2 0), (3, .bp 3 0), (4, i64V ((k + 1 : Nat) : Int))]) (fun k => [(2, .mut 50 zeroD), (3, .mut 50 (rdC (fanD l k)))]) (fun k => n - k) (fun k => k = 0 ∨ k + 2 ≤ n) 0 id (.inl rfl) ⟨?_, ?_, ?_, ?_, ?_, ?_⟩ fun k hk => ?_
  all_goals first | (with_reducible refine W_id ?_) | (simp [-map_take,-map_drop, push_cast, dV_take, dV_drop, hLr, zeroD, rdC, hF0, RD.av, ratD, dC, rC, numC, ← tens.eq_1, dAV]; done)
  by_cases c1 : ¬ k + 2 < n
  · have y1 : (k + 2 < n) = False := eq_false c1
    have y2 : ((k : Int) + 1 + 1 < (n : Int)) = False := eq_false (by omega)
    have y3 : ((k : Int) + 2 < (n : Int)) = False := eq_false (by omega)
    have y4 : (k + 1 + 1 < n) = False := eq_false (by omega)
    have hkn : n - 2 = k := by omega
    have hz := (hb k).sz
    have m1 := mul03_ok (fanD l k) ⟨1, 2⟩ (by
      have : szR ⟨1, 2⟩ ≤ 4 := by decide +kernel
      omega)
    rw [hkn]
    obtain ⟨S, hS⟩ : ∃ S, S = fanD l k := ⟨_, rfl⟩
    rw [← hS] at m1 ⊢
    obtain ⟨H, hH⟩ : ∃ H : RD, H = ⟨1, 2⟩ := ⟨_, rfl⟩
    rw [← hH] at m1 f1 ⊢
    obtain ⟨O, hO⟩ : ∃ O : RD, O = mulD S H := ⟨_, rfl⟩
    rw [← hO] at m1 ⊢
    clear hS hH hO hz hb hat
    repeat' (first
      | with_reducible first | apply thenW_n | apply thenW_exit | apply blockW_same | apply loopW_exit | apply W_seq | apply W_exit
      | with_reducible refine W_rg ?_
      | (rw [vcn]; (try simp [-map_take,-map_drop, push_cast, y1, y2, y3, y4, rdC, RD.av, ratD, dC, rC, numC, ← tens.eq_1, dAV]); try simp (disch := omega) only [i64_in, u64_in, shr64i])
      | with_reducible refine W_drawn mixed (by decide) (by kernel_rfl) ?_
      | (rw [vcnD]; (try simp [-map_take,-map_drop, push_cast, y1, y2, y3, y4, rdC, RD.av, ratD, dC, rC, numC, ← tens.eq_1, dAV]); try simp (disch := omega) only [i64_in, u64_in, shr64i])
      | (with_reducible refine W_condW ?_; (try simp [-map_take,-map_drop, AS.val, upd, resB, mkS_env, mkS_box, lk, entry_env, condW_true, condW_false, y1, y2, y3, y4, rdC, RD.av, ratD, dC, rC, numC, ← tens.eq_1, dAV]))
      | fail)
    refine callD_of (f1) rfl rfl rfl ?_
    try dsimp only
    repeat' (first
      | (rw [vcnD]; (try simp [-map_take,-map_drop, push_cast, rdC, zeroD, RD.av, ratD, dC, rC, numC, ← tens.eq_1, dAV]))
      | fail)
    refine callD_of (m1) rfl rfl rfl ?_
    try dsimp only
    repeat' (first
      | with_reducible first | apply thenW_n | apply W_ret
      | (rw [vcnD]; (try simp [-map_take,-map_drop, push_cast, rdC, zeroD, RD.av, ratD, dC, rC, numC, ← tens.eq_1, dAV]))
      | refine And.intro (by first | omega | kernel_rfl) ?_
      | fail)
    simp [-map_take,-map_drop, post, resAV, resAll, resOne, closeV, closeC, closeL, resD, resDL, push_cast, RD.av, ratD, dC, rC, numC, ← tens.eq_1, dAV]
  have c1 : k + 2 < n := by omega
  have y1 : (k + 2 < n) = True := eq_true c1
  have y2 : ((k : Int) + 1 + 1 < (n : Int)) = True := eq_true (by omega)
  have y3 : ((k : Int) + 2 < (n : Int)) = True := eq_true (by omega)
  have y4 : (k + 1 + 1 < n) = True := eq_true (by omega)
  obtain ⟨t0, h0⟩ := hat 0 (by omega)
  obtain ⟨t1, h1⟩ := hat (k + 1) (by omega)
  obtain ⟨t2, h2⟩ := hat (k + 2) (by omega)
  have d0 := DB.at h 0
  have d1 := DB.at h (k + 1)
  have d2 := DB.at h (k + 2)
  have hcb := cross_bits d0 d1 d2
  have hz := (hb k).sz
  have hcz := hcb.sz
  have sz : ∀ p, DB p → szP3 p ≤ 20 := fun p hp => by
    have k1 := tens_bits hp.1
    have k2 := tens_bits hp.2.1
    have k3 := tens_bits hp.2.2.1
    unfold szP3 szD
    omega
  have z0 := sz _ d0
  have z1 := sz _ d1
  have z2 := sz _ d2
  have e1 := cross11_ok (l.getD 0 nilD) (l.getD (k + 1) nilD) (l.getD (k + 2) nilD) (by omega)
  have e2 := add03_ok (fanD l k) ⟨crossN (l.getD 0 nilD) (l.getD (k + 1) nilD) (l.getD (k + 2) nilD), denW (l.getD 0 nilD) (l.getD (k + 1) nilD) (l.getD (k + 2) nilD)⟩ (by omega)
  have hs1 : addD (fanD l k) ⟨crossN (l.getD 0 nilD) (l.getD (k + 1) nilD) (l.getD (k + 2) nilD), denW (l.getD 0 nilD) (l.getD (k + 1) nilD) (l.getD (k + 2) nilD)⟩ = fanD l (k + 1) := rfl
  rw [hs1] at e2
  have e1 : Eval Try.prog 52 [(l.getD 0 nilD).av, (l.getD (k + 1) nilD).av, (l.getD (k + 2) nilD).av] (.ret (RD.av ⟨crossN (l.getD 0 nilD) (l.getD (k + 1) nilD) (l.getD (k + 2) nilD), denW (l.getD 0 nilD) (l.getD (k + 1) nilD) (l.getD (k + 2) nilD)⟩)) := e1
  obtain ⟨S, hS⟩ : ∃ S, S = fanD l k := ⟨_, rfl⟩
  obtain ⟨S', hS'⟩ : ∃ S, S = fanD l (k + 1) := ⟨_, rfl⟩
  obtain ⟨K, hK⟩ : ∃ K : RD, K = ⟨crossN (l.getD 0 nilD) (l.getD (k + 1) nilD) (l.getD (k + 2) nilD), denW (l.getD 0 nilD) (l.getD (k + 1) nilD) (l.getD (k + 2) nilD)⟩ := ⟨_, rfl⟩
  rw [← hK] at e1 e2
  rw [← hS, ← hS'] at e2
  rw [← hS]
  have eS' : fanD l (k + 1) = S' := hS'.symm
  obtain ⟨p0, hp0⟩ : ∃ p, p = l.getD 0 nilD := ⟨_, rfl⟩
  obtain ⟨p1, hp1⟩ : ∃ p, p = l.getD (k + 1) nilD := ⟨_, rfl⟩
  obtain ⟨p2, hp2⟩ : ∃ p, p = l.getD (k + 2) nilD := ⟨_, rfl⟩
  rw [← hp0] at h0 e1
  rw [← hp1] at h1 e1
  rw [← hp2] at h2 e1
  clear hS hS' hK hp0 hp1 hp2 hs1 sz z0 z1 z2 hz hcz hcb d0 d1 d2 hb hat h f1 o1
  rw [Nat.zero_mul, List.drop_zero] at h0
  have h0' : L.take 6 = dpC p0 := by rw [h0]; exact List.take_left' rfl
  have hT : ((k : Int) + 1 + 1).toNat = k + 2 := by omega
  have hT0 : (0 ≤ (k : Int) + 1 + 1) = True := eq_true (by omega)
  have hL6 : 6 ≤ n * 6 := by omega
  clear h0
  repeat' (first
    | with_reducible first | apply thenW_n | apply W_seq | apply W_block | apply W_skip
    | with_reducible refine W_rg ?_
    | (rw [vcn]; (try simp [-map_take,-map_drop, push_cast, y1, y2, y3, y4, hT, hT0, hL6, h0', h1, h2, hLl, c1, rdC, DP.av, d3AV, d3C, dpC, RD.av, ratD, dC, rC, numC, ← tens.eq_1, dAV]); try simp (disch := omega) only [i64_in, u64_in, shr64i])
    | with_reducible refine W_drawn mixed (by decide) (by kernel_rfl) ?_
    | (rw [vcnD]; (try simp [-map_take,-map_drop, push_cast, y1, y2, y3, y4, hT, hT0, hL6, h0', h1, h2, hLl, c1, rdC, DP.av, d3AV, d3C, dpC, RD.av, ratD, dC, rC, numC, ← tens.eq_1, dAV]); try simp (disch := omega) only [i64_in, u64_in, shr64i])
    | (with_reducible refine W_condW ?_; (try simp [-map_take,-map_drop, AS.val, upd, resB, mkS_env, mkS_box, lk, entry_env, condW_true, condW_false, y1, y2, y3, y4, hT, hT0, hL6, h0', h1, h2, hLl, c1, rdC, DP.av, d3AV, d3C, dpC, RD.av, ratD, dC, rC, numC, ← tens.eq_1, dAV]))
    | refine And.intro (by first | omega | kernel_rfl) ?_
    | fail)
  refine callD_of (e1) rfl rfl rfl ?_
  try dsimp only
  repeat' (first
    | (rw [vcnD]; (try simp [-map_take,-map_drop, push_cast, hT, hT0, hL6, h0', h1, h2, hLl, c1, rdC, DP.av, d3AV, d3C, dpC, RD.av, ratD, dC, rC, numC, ← tens.eq_1, dAV]))
    | fail)
  refine callD_of (e2) rfl rfl rfl ?_
  try dsimp only
  repeat' (first
    | with_reducible first | apply thenW_n | apply blockW_n
    | with_reducible refine W_rg ?_
    | (rw [vcn]; (try simp [-map_take,-map_drop, push_cast, rdC, DP.av, d3AV, d3C, dpC, RD.av, ratD, dC, rC, numC, ← tens.eq_1, dAV]); try simp (disch := omega) only [i64_in, u64_in, shr64i])
    | (rw [vcnD]; (try simp [-map_take,-map_drop, push_cast, rdC, DP.av, d3AV, d3C, dpC, RD.av, ratD, dC, rC, numC, ← tens.eq_1, dAV]); try simp (disch := omega) only [i64_in, u64_in, shr64i])
    | refine And.intro (by first | omega | kernel_rfl) ?_
    | fail)
  refine loopW_n (k + 1) id (by omega) (by omega) ⟨?_, ?_, ?_, ?_, ?_, ?_⟩
  all_goals first | (simp [-map_take,-map_drop, push_cast, dV_take, dV_drop, hLr, eS', zeroD, rdC, RD.av, ratD, dC, rC, numC, ← tens.eq_1, dAV]; done)
end Go.Fw
