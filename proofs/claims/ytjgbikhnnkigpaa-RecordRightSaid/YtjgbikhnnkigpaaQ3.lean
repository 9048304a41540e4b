/- record.Right is the document's. -/
import Derived.Test.YtjgbikhnnkigpaaQ2
import Derived.Test.YtjgbikhnnkigpaaT12
import Derived.Test.YtjgbikhnnkigpaaT14
set_option linter.unusedSimpArgs false
set_option linter.unusedVariables false
-- VALS: recAV, shapeAV
namespace Go.Fw
open Go Go.Proofs Go.IntWalk
set_option linter.unusedSimpArgs false
set_option maxRecDepth 100000
set_option maxHeartbeats 1500000
attribute [local push_cast] optK_some optK_none optK_ite optK_map optK_bind gOn stepK isMem evPure evMem evBin evUn evConv evLen evBuiltin evMinMax evSlice evBuild evAppend evIndex evIndexAddr evField evFieldAddr intBin strBin appDest AS.val AS.mem AS.elems AS.put AS.put' AS.eff AV.cells? AV.isCell AV.refs all_isByte take_byteV drop_byteV strOf_map bndOk bnd partAV ptrAdd killBox catA inOrder fillA setAt ofVal resB upd byteV List.head?_take List.head?_drop List.getElem?_map mkS_env mkS_box mkS_used entry_env entry_box entry_used lk stepD lookIds Oper.looksAt Op.operands Call.operands St.ids refsL renL_append dV_take dV_drop ren renL renBox Box.refs iV i64V boolV dV_getElem dV_app dV_cons toNat_add2 toNat_add1

/-- Is a record one of its kind, by the kind's shape? -/
def rightB (k d : UInt8) (b : List UInt8) (sd : UInt8) (p lo hi : Nat) (ok : Bool) : Bool :=
  ok && decide (sd = d) && decide (b.length % (max p 1) = 0) && decide (lo ≤ b.length / max p 1) && decide (b.length / max p 1 ≤ hi) &&
    (if k ∈ [2, 25, 44, 55, 58] then decide (firstIn (textOf b) 0 < 0) else if k ∈ [6, 18] then (textOf b).all letterB else true)

theorem per_ok (k : UInt8) (p lo hi : Nat) : Eval Try.prog 51 [.agg [byteV k, i64V p, i64V lo, i64V hi]] (.ret (i64V ((max p 1 : Nat) : Int))) := by
  have e := eval51 k p lo hi
  rw [show (if (p : Int) < 1 then (1 : Int) else p) = ((max p 1 : Nat) : Int) from by split <;> omega] at e
  exact e

theorem right_ok (k d : UInt8) (b : List UInt8) (hb : b.length ≤ 1000000) (sd : UInt8) (p lo hi : Nat) (ok : Bool) (h50 : Eval Try.prog 50 [byteV k] (.ret (shapeAV sd p lo hi ok))) :
    Eval Try.prog 17 [recAV k d b] (.ret (.v (.bool (rightB k d b sd p lo hi ok)))) := by
  refine Eval.intro Try.func17 rfl Try.call17 _ _ (Nat.le_of_ble_eq_true rfl) (by simp [AV.refs, refsL, natAV, recAV, shapeAV, push_cast, -List.map_take, -List.map_drop]) fun hs0 => ?_
  have hper := per_ok sd p lo hi
  obtain ⟨q, hq⟩ : ∃ q : Nat, q = max p 1 := ⟨_, rfl⟩
  obtain ⟨X, hX⟩ : ∃ X, X = (if k ∈ [2, 25, 44, 55, 58] then decide (firstIn (textOf b) 0 < 0) else if k ∈ [6, 18] then (textOf b).all letterB else true) := ⟨_, rfl⟩
  have hrb : rightB k d b sd p lo hi ok = (ok && decide (sd = d) && decide (b.length % q = 0) && decide (lo ≤ b.length / q) && decide (b.length / q ≤ hi) && X) := by rw [hq, hX]; rfl
  rw [hrb]
  rw [← hq] at hper
  have hq1 : 1 ≤ q := by omega
  have hq0 : (q = 0) = False := by simp; omega
  clear hq hrb
  have hdv : ((b.length : Int).tdiv (q : Int)) = ((b.length / q : Nat) : Int) := by rw [Int.ofNat_tdiv]
  have hmd : ((b.length : Int).tmod (q : Int)) = ((b.length % q : Nat) : Int) := by rw [Int.ofNat_tmod]
  obtain ⟨n, hn⟩ : ∃ n, n = b.length / q := ⟨_, rfl⟩
  obtain ⟨m, hm⟩ : ∃ m, m = b.length % q := ⟨_, rfl⟩
  have hle : n ≤ 1000000 := by rw [hn]; exact Nat.le_trans (Nat.div_le_self _ _) hb
  have hml : m ≤ 1000000 := by rw [hm]; exact Nat.le_trans (Nat.mod_le _ _) hb
  rw [← hn] at hdv
  rw [← hm] at hmd
  simp only [← hn, ← hm]
  clear hn hm
  repeat' (first
    | with_reducible first | refine thenW_n ?_ | refine thenW_ret ?_ | refine thenW_exit ?_ | refine thenW_panic ?_ | refine blockW_n ?_ | refine blockW_same ?_ | refine blockW_ret ?_ | refine blockW_panic ?_ | refine loopW_ret ?_ | refine loopW_exit ?_ | refine loopW_panic ?_ | refine joinW_ret ?_ | refine joinW_exit ?_ | refine joinW_panic ?_ | refine W_seq ?_ | refine W_block ?_ | refine W_skip ?_ | refine W_ret ?_ | refine W_exit ?_ | refine W_label ?_
    | with_reducible refine blockW_other (by decide) ?_
    | with_reducible refine W_region (by first | decide | (with_unfolding_all rfl)) ?_
    | (rw [vcn]; (try simp [push_cast, -List.map_take, -List.map_drop, recAV, shapeAV]); try simp (disch := omega) only [i64_in, u64_in, shr64i])
    | with_reducible refine W_drawn mixed (by decide) (by kernel_rfl) ?_
    | (rw [vcnD]; (try simp [push_cast, -List.map_take, -List.map_drop, recAV, shapeAV]); try simp (disch := omega) only [i64_in, u64_in, shr64i])
    | (with_reducible refine W_condW ?_; (try simp [AS.val, upd, resB, mkS_env, mkS_box, lk, entry_env, condW_true, condW_false, recAV, shapeAV]))
    | with_reducible refine optK_dV (by first | omega | (simp; omega)) ?_
    | with_reducible refine optK_dVh (by omega) ?_
    | refine And.intro (by first | omega | kernel_rfl) ?_
    | (with_reducible refine condW_b (fun hc => ?_) (fun hc => ?_) <;> (try simp [Int.ofNat_inj] at hc) <;> try contradiction)
    | fail)
  first | refine CallG_of (h50) (by first | rfl | (simp [natAV, numC, ← limbs.eq_1, push_cast, -List.map_take, -List.map_drop, recAV, shapeAV]; done)) (by simp [natAV, recAV, shapeAV, AV.refs, refsL, push_cast, -List.map_take, -List.map_drop]) rfl ?_ | refine callD_of (h50) (by first | rfl | (simp [natAV, numC, ← limbs.eq_1, push_cast, -List.map_take, -List.map_drop, recAV, shapeAV]; done)) (by simp [natAV, recAV, shapeAV, AV.refs, refsL, push_cast, -List.map_take, -List.map_drop]) rfl ?_
  try dsimp only
  repeat' (first
    | with_reducible first | refine thenW_n ?_ | refine thenW_ret ?_ | refine thenW_exit ?_ | refine thenW_panic ?_ | refine blockW_n ?_ | refine blockW_same ?_ | refine blockW_ret ?_ | refine blockW_panic ?_ | refine loopW_ret ?_ | refine loopW_exit ?_ | refine loopW_panic ?_ | refine joinW_ret ?_ | refine joinW_exit ?_ | refine joinW_panic ?_ | refine W_seq ?_ | refine W_block ?_ | refine W_skip ?_ | refine W_ret ?_ | refine W_exit ?_ | refine W_label ?_
    | with_reducible refine blockW_other (by decide) ?_
    | with_reducible refine W_region (by first | decide | (with_unfolding_all rfl)) ?_
    | (rw [vcn]; (try simp [push_cast, -List.map_take, -List.map_drop, recAV, shapeAV]); try simp (disch := omega) only [i64_in, u64_in, shr64i])
    | with_reducible refine W_drawn mixed (by decide) (by kernel_rfl) ?_
    | (rw [vcnD]; (try simp [push_cast, -List.map_take, -List.map_drop, recAV, shapeAV]); try simp (disch := omega) only [i64_in, u64_in, shr64i])
    | (with_reducible refine W_condW ?_; (try simp [AS.val, upd, resB, mkS_env, mkS_box, lk, entry_env, condW_true, condW_false, recAV, shapeAV]))
    | with_reducible refine optK_dV (by first | omega | (simp; omega)) ?_
    | with_reducible refine optK_dVh (by omega) ?_
    | refine And.intro (by first | omega | kernel_rfl) ?_
    | (with_reducible refine condW_b (fun hc => ?_) (fun hc => ?_) <;> (try simp [Int.ofNat_inj] at hc) <;> try contradiction)
    | fail)
  first | refine CallG_of (hper) (by first | rfl | (simp [natAV, numC, ← limbs.eq_1, push_cast, -List.map_take, -List.map_drop, recAV, shapeAV]; done)) (by simp [natAV, recAV, shapeAV, AV.refs, refsL, push_cast, -List.map_take, -List.map_drop]) rfl ?_ | refine callD_of (hper) (by first | rfl | (simp [natAV, numC, ← limbs.eq_1, push_cast, -List.map_take, -List.map_drop, recAV, shapeAV]; done)) (by simp [natAV, recAV, shapeAV, AV.refs, refsL, push_cast, -List.map_take, -List.map_drop]) rfl ?_
  try dsimp only
  cases ok with
  | false =>
    repeat' (first
      | with_reducible first | refine thenW_n ?_ | refine thenW_ret ?_ | refine thenW_exit ?_ | refine thenW_panic ?_ | refine blockW_n ?_ | refine blockW_same ?_ | refine blockW_ret ?_ | refine blockW_panic ?_ | refine loopW_ret ?_ | refine loopW_exit ?_ | refine loopW_panic ?_ | refine joinW_ret ?_ | refine joinW_exit ?_ | refine joinW_panic ?_ | refine W_seq ?_ | refine W_block ?_ | refine W_skip ?_ | refine W_ret ?_ | refine W_exit ?_ | refine W_label ?_
      | with_reducible refine blockW_other (by decide) ?_
      | with_reducible refine W_region (by first | decide | (with_unfolding_all rfl)) ?_
      | (rw [vcn]; (try simp [push_cast, -List.map_take, -List.map_drop, recAV, shapeAV, hq0, hdv, hmd]); try simp (disch := omega) only [i64_in, u64_in, shr64i])
      | with_reducible refine W_drawn mixed (by decide) (by kernel_rfl) ?_
      | (rw [vcnD]; (try simp [push_cast, -List.map_take, -List.map_drop, recAV, shapeAV, hq0, hdv, hmd]); try simp (disch := omega) only [i64_in, u64_in, shr64i])
      | (with_reducible refine W_condW ?_; (try simp [AS.val, upd, resB, mkS_env, mkS_box, lk, entry_env, condW_true, condW_false, recAV, shapeAV, hq0, hdv, hmd]))
      | with_reducible refine optK_dV (by first | omega | (simp; omega)) ?_
      | with_reducible refine optK_dVh (by omega) ?_
      | refine And.intro (by first | omega | kernel_rfl) ?_
      | (with_reducible refine condW_b (fun hc => ?_) (fun hc => ?_) <;> (try simp [Int.ofNat_inj] at hc) <;> try contradiction)
      | fail)
    simp [post, resAV, resAll, resOne, closeV, closeC, closeL, resD, resDL, push_cast, -List.map_take, -List.map_drop, recAV]
  | true =>
  by_cases hsd : ¬ sd = d
  · have g0 : (sd = d) = False := by simp [hsd]
    have g1 : ((sd.toNat : Int) == (d.toNat : Int)) = false := by rw [byte_beq]; simpa using hsd
    have g2 : ((sd.toNat : Int) = (d.toNat : Int)) = False := by simp; exact fun e => hsd (UInt8.toNat_inj.1 (by omega))
    repeat' (first
      | with_reducible first | refine thenW_n ?_ | refine thenW_ret ?_ | refine thenW_exit ?_ | refine thenW_panic ?_ | refine blockW_n ?_ | refine blockW_same ?_ | refine blockW_ret ?_ | refine blockW_panic ?_ | refine loopW_ret ?_ | refine loopW_exit ?_ | refine loopW_panic ?_ | refine joinW_ret ?_ | refine joinW_exit ?_ | refine joinW_panic ?_ | refine W_seq ?_ | refine W_block ?_ | refine W_skip ?_ | refine W_ret ?_ | refine W_exit ?_ | refine W_label ?_
      | with_reducible refine blockW_other (by decide) ?_
      | with_reducible refine W_region (by first | decide | (with_unfolding_all rfl)) ?_
      | (rw [vcn]; (try simp [push_cast, -List.map_take, -List.map_drop, recAV, shapeAV, hq0, hdv, hmd, g0, g1, g2]); try simp (disch := omega) only [i64_in, u64_in, shr64i])
      | with_reducible refine W_drawn mixed (by decide) (by kernel_rfl) ?_
      | (rw [vcnD]; (try simp [push_cast, -List.map_take, -List.map_drop, recAV, shapeAV, hq0, hdv, hmd, g0, g1, g2]); try simp (disch := omega) only [i64_in, u64_in, shr64i])
      | (with_reducible refine W_condW ?_; (try simp [AS.val, upd, resB, mkS_env, mkS_box, lk, entry_env, condW_true, condW_false, recAV, shapeAV, hq0, hdv, hmd, g0, g1, g2]))
      | with_reducible refine optK_dV (by first | omega | (simp; omega)) ?_
      | with_reducible refine optK_dVh (by omega) ?_
      | refine And.intro (by first | omega | kernel_rfl) ?_
      | (with_reducible refine condW_b (fun hc => ?_) (fun hc => ?_) <;> (try simp [Int.ofNat_inj] at hc) <;> try contradiction)
      | fail)
    simp [post, resAV, resAll, resOne, closeV, closeC, closeL, resD, resDL, push_cast, -List.map_take, -List.map_drop, recAV, hsd]
  have hsd : sd = d := Classical.byContradiction hsd
  subst hsd
  by_cases hm : ¬ m = 0
  · have g2 : (m = 0) = False := by simp [hm]
    repeat' (first
      | with_reducible first | refine thenW_n ?_ | refine thenW_ret ?_ | refine thenW_exit ?_ | refine thenW_panic ?_ | refine blockW_n ?_ | refine blockW_same ?_ | refine blockW_ret ?_ | refine blockW_panic ?_ | refine loopW_ret ?_ | refine loopW_exit ?_ | refine loopW_panic ?_ | refine joinW_ret ?_ | refine joinW_exit ?_ | refine joinW_panic ?_ | refine W_seq ?_ | refine W_block ?_ | refine W_skip ?_ | refine W_ret ?_ | refine W_exit ?_ | refine W_label ?_
      | with_reducible refine blockW_other (by decide) ?_
      | with_reducible refine W_region (by first | decide | (with_unfolding_all rfl)) ?_
      | (rw [vcn]; (try simp [push_cast, -List.map_take, -List.map_drop, recAV, shapeAV, hq0, hdv, hmd, g2]); try simp (disch := omega) only [i64_in, u64_in, shr64i])
      | with_reducible refine W_drawn mixed (by decide) (by kernel_rfl) ?_
      | (rw [vcnD]; (try simp [push_cast, -List.map_take, -List.map_drop, recAV, shapeAV, hq0, hdv, hmd, g2]); try simp (disch := omega) only [i64_in, u64_in, shr64i])
      | (with_reducible refine W_condW ?_; (try simp [AS.val, upd, resB, mkS_env, mkS_box, lk, entry_env, condW_true, condW_false, recAV, shapeAV, hq0, hdv, hmd, g2]))
      | with_reducible refine optK_dV (by first | omega | (simp; omega)) ?_
      | with_reducible refine optK_dVh (by omega) ?_
      | refine And.intro (by first | omega | kernel_rfl) ?_
      | (with_reducible refine condW_b (fun hc => ?_) (fun hc => ?_) <;> (try simp [Int.ofNat_inj] at hc) <;> try contradiction)
      | fail)
    first | refine CallG_of (hper) (by first | rfl | (simp [natAV, numC, ← limbs.eq_1, push_cast, -List.map_take, -List.map_drop, recAV, shapeAV]; done)) (by simp [natAV, recAV, shapeAV, AV.refs, refsL, push_cast, -List.map_take, -List.map_drop]) rfl ?_ | refine callD_of (hper) (by first | rfl | (simp [natAV, numC, ← limbs.eq_1, push_cast, -List.map_take, -List.map_drop, recAV, shapeAV]; done)) (by simp [natAV, recAV, shapeAV, AV.refs, refsL, push_cast, -List.map_take, -List.map_drop]) rfl ?_
    try dsimp only
    repeat' (first
      | with_reducible first | refine thenW_n ?_ | refine thenW_ret ?_ | refine thenW_exit ?_ | refine thenW_panic ?_ | refine blockW_n ?_ | refine blockW_same ?_ | refine blockW_ret ?_ | refine blockW_panic ?_ | refine loopW_ret ?_ | refine loopW_exit ?_ | refine loopW_panic ?_ | refine joinW_ret ?_ | refine joinW_exit ?_ | refine joinW_panic ?_ | refine W_seq ?_ | refine W_block ?_ | refine W_skip ?_ | refine W_ret ?_ | refine W_exit ?_ | refine W_label ?_
      | with_reducible refine blockW_other (by decide) ?_
      | with_reducible refine W_region (by first | decide | (with_unfolding_all rfl)) ?_
      | (rw [vcn]; (try simp [push_cast, -List.map_take, -List.map_drop, recAV, shapeAV, hq0, hdv, hmd, g2]); try simp (disch := omega) only [i64_in, u64_in, shr64i])
      | with_reducible refine W_drawn mixed (by decide) (by kernel_rfl) ?_
      | (rw [vcnD]; (try simp [push_cast, -List.map_take, -List.map_drop, recAV, shapeAV, hq0, hdv, hmd, g2]); try simp (disch := omega) only [i64_in, u64_in, shr64i])
      | (with_reducible refine W_condW ?_; (try simp [AS.val, upd, resB, mkS_env, mkS_box, lk, entry_env, condW_true, condW_false, recAV, shapeAV, hq0, hdv, hmd, g2]))
      | with_reducible refine optK_dV (by first | omega | (simp; omega)) ?_
      | with_reducible refine optK_dVh (by omega) ?_
      | refine And.intro (by first | omega | kernel_rfl) ?_
      | (with_reducible refine condW_b (fun hc => ?_) (fun hc => ?_) <;> (try simp [Int.ofNat_inj] at hc) <;> try contradiction)
      | fail)
    simp [post, resAV, resAll, resOne, closeV, closeC, closeL, resD, resDL, push_cast, -List.map_take, -List.map_drop, recAV, hm]
  have hm : m = 0 := by omega
  subst hm
  repeat' (first
    | with_reducible first | refine thenW_n ?_ | refine thenW_ret ?_ | refine thenW_exit ?_ | refine thenW_panic ?_ | refine blockW_n ?_ | refine blockW_same ?_ | refine blockW_ret ?_ | refine blockW_panic ?_ | refine loopW_ret ?_ | refine loopW_exit ?_ | refine loopW_panic ?_ | refine joinW_ret ?_ | refine joinW_exit ?_ | refine joinW_panic ?_ | refine W_seq ?_ | refine W_block ?_ | refine W_skip ?_ | refine W_ret ?_ | refine W_exit ?_ | refine W_label ?_
    | with_reducible refine blockW_other (by decide) ?_
    | with_reducible refine W_region (by first | decide | (with_unfolding_all rfl)) ?_
    | (rw [vcn]; (try simp [push_cast, -List.map_take, -List.map_drop, recAV, shapeAV, hq0, hdv, hmd]); try simp (disch := omega) only [i64_in, u64_in, shr64i])
    | with_reducible refine W_drawn mixed (by decide) (by kernel_rfl) ?_
    | (rw [vcnD]; (try simp [push_cast, -List.map_take, -List.map_drop, recAV, shapeAV, hq0, hdv, hmd]); try simp (disch := omega) only [i64_in, u64_in, shr64i])
    | (with_reducible refine W_condW ?_; (try simp [AS.val, upd, resB, mkS_env, mkS_box, lk, entry_env, condW_true, condW_false, recAV, shapeAV, hq0, hdv, hmd]))
    | with_reducible refine optK_dV (by first | omega | (simp; omega)) ?_
    | with_reducible refine optK_dVh (by omega) ?_
    | refine And.intro (by first | omega | kernel_rfl) ?_
    | (with_reducible refine condW_b (fun hc => ?_) (fun hc => ?_) <;> (try simp [Int.ofNat_inj] at hc) <;> try contradiction)
    | fail)
  first | refine CallG_of (hper) (by first | rfl | (simp [natAV, numC, ← limbs.eq_1, push_cast, -List.map_take, -List.map_drop, recAV, shapeAV]; done)) (by simp [natAV, recAV, shapeAV, AV.refs, refsL, push_cast, -List.map_take, -List.map_drop]) rfl ?_ | refine callD_of (hper) (by first | rfl | (simp [natAV, numC, ← limbs.eq_1, push_cast, -List.map_take, -List.map_drop, recAV, shapeAV]; done)) (by simp [natAV, recAV, shapeAV, AV.refs, refsL, push_cast, -List.map_take, -List.map_drop]) rfl ?_
  try dsimp only
  by_cases hlo : ¬ lo ≤ n
  · have g3 : (n < lo) = True := by simp; omega
    repeat' (first
      | with_reducible first | refine thenW_n ?_ | refine thenW_ret ?_ | refine thenW_exit ?_ | refine thenW_panic ?_ | refine blockW_n ?_ | refine blockW_same ?_ | refine blockW_ret ?_ | refine blockW_panic ?_ | refine loopW_ret ?_ | refine loopW_exit ?_ | refine loopW_panic ?_ | refine joinW_ret ?_ | refine joinW_exit ?_ | refine joinW_panic ?_ | refine W_seq ?_ | refine W_block ?_ | refine W_skip ?_ | refine W_ret ?_ | refine W_exit ?_ | refine W_label ?_
      | with_reducible refine blockW_other (by decide) ?_
      | with_reducible refine W_region (by first | decide | (with_unfolding_all rfl)) ?_
      | (rw [vcn]; (try simp [push_cast, -List.map_take, -List.map_drop, recAV, shapeAV, hq0, hdv, hmd, g3]); try simp (disch := omega) only [i64_in, u64_in, shr64i])
      | with_reducible refine W_drawn mixed (by decide) (by kernel_rfl) ?_
      | (rw [vcnD]; (try simp [push_cast, -List.map_take, -List.map_drop, recAV, shapeAV, hq0, hdv, hmd, g3]); try simp (disch := omega) only [i64_in, u64_in, shr64i])
      | (with_reducible refine W_condW ?_; (try simp [AS.val, upd, resB, mkS_env, mkS_box, lk, entry_env, condW_true, condW_false, recAV, shapeAV, hq0, hdv, hmd, g3]))
      | with_reducible refine optK_dV (by first | omega | (simp; omega)) ?_
      | with_reducible refine optK_dVh (by omega) ?_
      | refine And.intro (by first | omega | kernel_rfl) ?_
      | (with_reducible refine condW_b (fun hc => ?_) (fun hc => ?_) <;> (try simp [Int.ofNat_inj] at hc) <;> try contradiction)
      | fail)
    simp [post, resAV, resAll, resOne, closeV, closeC, closeL, resD, resDL, push_cast, -List.map_take, -List.map_drop, recAV, hlo]
  have g3 : (n < lo) = False := by simp; omega
  have hlo : lo ≤ n := by omega
  by_cases hhi : ¬ n ≤ hi
  · have g4 : (hi < n) = True := by simp; omega
    repeat' (first
      | with_reducible first | refine thenW_n ?_ | refine thenW_ret ?_ | refine thenW_exit ?_ | refine thenW_panic ?_ | refine blockW_n ?_ | refine blockW_same ?_ | refine blockW_ret ?_ | refine blockW_panic ?_ | refine loopW_ret ?_ | refine loopW_exit ?_ | refine loopW_panic ?_ | refine joinW_ret ?_ | refine joinW_exit ?_ | refine joinW_panic ?_ | refine W_seq ?_ | refine W_block ?_ | refine W_skip ?_ | refine W_ret ?_ | refine W_exit ?_ | refine W_label ?_
      | with_reducible refine blockW_other (by decide) ?_
      | with_reducible refine W_region (by first | decide | (with_unfolding_all rfl)) ?_
      | (rw [vcn]; (try simp [push_cast, -List.map_take, -List.map_drop, recAV, shapeAV, hq0, hdv, hmd, g3, g4]); try simp (disch := omega) only [i64_in, u64_in, shr64i])
      | with_reducible refine W_drawn mixed (by decide) (by kernel_rfl) ?_
      | (rw [vcnD]; (try simp [push_cast, -List.map_take, -List.map_drop, recAV, shapeAV, hq0, hdv, hmd, g3, g4]); try simp (disch := omega) only [i64_in, u64_in, shr64i])
      | (with_reducible refine W_condW ?_; (try simp [AS.val, upd, resB, mkS_env, mkS_box, lk, entry_env, condW_true, condW_false, recAV, shapeAV, hq0, hdv, hmd, g3, g4]))
      | with_reducible refine optK_dV (by first | omega | (simp; omega)) ?_
      | with_reducible refine optK_dVh (by omega) ?_
      | refine And.intro (by first | omega | kernel_rfl) ?_
      | (with_reducible refine condW_b (fun hc => ?_) (fun hc => ?_) <;> (try simp [Int.ofNat_inj] at hc) <;> try contradiction)
      | fail)
    simp [post, resAV, resAll, resOne, closeV, closeC, closeL, resD, resDL, push_cast, -List.map_take, -List.map_drop, recAV, hhi]
  have g4 : (hi < n) = False := by simp; omega
  have hhi : n ≤ hi := by omega
  have hT1 : (textOf b).length ≤ 1000000 := by
    unfold textOf
    split
    · rw [List.length_take]; omega
    · exact hb
  have et := eval23 false b b.length rfl
  obtain ⟨T, hT⟩ : ∃ T, T = textOf b := ⟨_, rfl⟩
  rw [← hT] at hX hT1 et
  clear hT
  obtain ⟨n1, hn1⟩ : ∃ n1, n1 = T.length := ⟨_, rfl⟩
  have hsz : ({ data := T.toArray } : ByteArray).size = n1 := by rw [hn1]; rfl
  rw [← hn1] at hT1
  by_cases hk1 : k ∈ [2, 25, 44, 55, 58]
  · rw [if_pos hk1] at hX
    simp only [List.mem_cons, List.not_mem_nil, or_false] at hk1
    have ei := eval52 false T n1 hn1.symm 0
    rcases hk1 with h | h | h | h | h
    all_goals
      subst h
      repeat' (first
        | with_reducible first | refine thenW_n ?_ | refine thenW_ret ?_ | refine thenW_exit ?_ | refine thenW_panic ?_ | refine blockW_n ?_ | refine blockW_same ?_ | refine blockW_ret ?_ | refine blockW_panic ?_ | refine loopW_ret ?_ | refine loopW_exit ?_ | refine loopW_panic ?_ | refine joinW_ret ?_ | refine joinW_exit ?_ | refine joinW_panic ?_ | refine W_seq ?_ | refine W_block ?_ | refine W_skip ?_ | refine W_ret ?_ | refine W_exit ?_ | refine W_label ?_
        | with_reducible refine blockW_other (by decide) ?_
        | with_reducible refine W_region (by first | decide | (with_unfolding_all rfl)) ?_
        | (rw [vcn]; (try simp [push_cast, -List.map_take, -List.map_drop, recAV, shapeAV, hq0, hdv, hmd, g3, g4]); try simp (disch := omega) only [i64_in, u64_in, shr64i])
        | with_reducible refine W_drawn mixed (by decide) (by kernel_rfl) ?_
        | (rw [vcnD]; (try simp [push_cast, -List.map_take, -List.map_drop, recAV, shapeAV, hq0, hdv, hmd, g3, g4]); try simp (disch := omega) only [i64_in, u64_in, shr64i])
        | (with_reducible refine W_condW ?_; (try simp [AS.val, upd, resB, mkS_env, mkS_box, lk, entry_env, condW_true, condW_false, recAV, shapeAV, hq0, hdv, hmd, g3, g4]))
        | with_reducible refine optK_dV (by first | omega | (simp; omega)) ?_
        | with_reducible refine optK_dVh (by omega) ?_
        | refine And.intro (by first | omega | kernel_rfl) ?_
        | (with_reducible refine condW_b (fun hc => ?_) (fun hc => ?_) <;> (try simp [Int.ofNat_inj] at hc) <;> try contradiction)
        | fail)
      first | refine CallG_of (et) (by first | rfl | (simp [natAV, numC, ← limbs.eq_1, push_cast, -List.map_take, -List.map_drop, recAV]; done)) (by simp [natAV, recAV, shapeAV, AV.refs, refsL, push_cast, -List.map_take, -List.map_drop]) rfl ?_ | refine callD_of (et) (by first | rfl | (simp [natAV, numC, ← limbs.eq_1, push_cast, -List.map_take, -List.map_drop, recAV]; done)) (by simp [natAV, recAV, shapeAV, AV.refs, refsL, push_cast, -List.map_take, -List.map_drop]) rfl ?_
      try dsimp only
      repeat' (first
        | with_reducible first | refine thenW_n ?_ | refine thenW_ret ?_ | refine thenW_exit ?_ | refine thenW_panic ?_ | refine blockW_n ?_ | refine blockW_same ?_ | refine blockW_ret ?_ | refine blockW_panic ?_ | refine loopW_ret ?_ | refine loopW_exit ?_ | refine loopW_panic ?_ | refine joinW_ret ?_ | refine joinW_exit ?_ | refine joinW_panic ?_ | refine W_seq ?_ | refine W_block ?_ | refine W_skip ?_ | refine W_ret ?_ | refine W_exit ?_ | refine W_label ?_
        | with_reducible refine blockW_other (by decide) ?_
        | with_reducible refine W_region (by first | decide | (with_unfolding_all rfl)) ?_
        | (rw [vcn]; (try simp [push_cast, -List.map_take, -List.map_drop, recAV, shapeAV, hsz]); try simp (disch := omega) only [i64_in, u64_in, shr64i])
        | with_reducible refine W_drawn mixed (by decide) (by kernel_rfl) ?_
        | (rw [vcnD]; (try simp [push_cast, -List.map_take, -List.map_drop, recAV, shapeAV, hsz]); try simp (disch := omega) only [i64_in, u64_in, shr64i])
        | (with_reducible refine W_condW ?_; (try simp [AS.val, upd, resB, mkS_env, mkS_box, lk, entry_env, condW_true, condW_false, recAV, shapeAV, hsz]))
        | with_reducible refine optK_dV (by first | omega | (simp; omega)) ?_
        | with_reducible refine optK_dVh (by omega) ?_
        | refine And.intro (by first | omega | kernel_rfl) ?_
        | (with_reducible refine condW_b (fun hc => ?_) (fun hc => ?_) <;> (try simp [Int.ofNat_inj] at hc) <;> try contradiction)
        | fail)
      refine CallG_frz _ _ rfl ?_ (ei) ?_ (by simp [AV.refs, refsL, push_cast, -List.map_take, -List.map_drop]) rfl ?_
      · first | (simp [refsL, AV.refs, frzS, resDL, resD, resB, upd, mkS_env, mkS_box, entry_env, entry_box, lk, push_cast, -List.map_take, -List.map_drop, hn1]; done) | (simp [refsL, AV.refs, frzS, resDL, resD, resB, upd, mkS_env, mkS_box, entry_env, entry_box, lk, push_cast, -List.map_take, -List.map_drop, hn1]; rw [List.take_of_length_le (by simp)]; done) | (simp [refsL, AV.refs, frzS, resDL, resD, resB, upd, mkS_env, mkS_box, entry_env, entry_box, lk, push_cast, -List.map_take, -List.map_drop, hn1]; fail_if_success done)
      · simp [refsL, AV.refs, frzOk, upd, mkS_env, mkS_box, entry_env, entry_box, lk, push_cast, -List.map_take, -List.map_drop]
      try dsimp only
      try simp only [refsL, AV.refs, frzS, List.append_nil, upd, mkS_box, entry_box, lk, if_true, if_false]
      repeat' (first
        | with_reducible first | refine thenW_n ?_ | refine thenW_ret ?_ | refine thenW_exit ?_ | refine thenW_panic ?_ | refine blockW_n ?_ | refine blockW_same ?_ | refine blockW_ret ?_ | refine blockW_panic ?_ | refine loopW_ret ?_ | refine loopW_exit ?_ | refine loopW_panic ?_ | refine joinW_ret ?_ | refine joinW_exit ?_ | refine joinW_panic ?_ | refine W_seq ?_ | refine W_block ?_ | refine W_skip ?_ | refine W_ret ?_ | refine W_exit ?_ | refine W_label ?_
        | with_reducible refine blockW_other (by decide) ?_
        | with_reducible refine W_region (by first | decide | (with_unfolding_all rfl)) ?_
        | (rw [vcn]; (try simp [push_cast, -List.map_take, -List.map_drop, recAV, shapeAV, hsz]); try simp (disch := omega) only [i64_in, u64_in, shr64i])
        | with_reducible refine W_drawn mixed (by decide) (by kernel_rfl) ?_
        | (rw [vcnD]; (try simp [push_cast, -List.map_take, -List.map_drop, recAV, shapeAV, hsz]); try simp (disch := omega) only [i64_in, u64_in, shr64i])
        | (with_reducible refine W_condW ?_; (try simp [AS.val, upd, resB, mkS_env, mkS_box, lk, entry_env, condW_true, condW_false, recAV, shapeAV, hsz]))
        | with_reducible refine optK_dV (by first | omega | (simp; omega)) ?_
        | with_reducible refine optK_dVh (by omega) ?_
        | refine And.intro (by first | omega | kernel_rfl) ?_
        | (with_reducible refine condW_b (fun hc => ?_) (fun hc => ?_) <;> (try simp [Int.ofNat_inj] at hc) <;> try contradiction)
        | fail)
      simp [post, resAV, resAll, resOne, closeV, closeC, closeL, resD, resDL, push_cast, -List.map_take, -List.map_drop, recAV, hX, hlo, hhi]
  rw [if_neg hk1] at hX
  by_cases hk2 : k ∈ [6, 18]
  · rw [if_pos hk2] at hX
    simp only [List.mem_cons, List.not_mem_nil, or_false] at hk2
    rcases hk2 with h | h
    all_goals
      subst h
      repeat' (first
        | with_reducible first | refine thenW_n ?_ | refine thenW_ret ?_ | refine thenW_exit ?_ | refine thenW_panic ?_ | refine blockW_n ?_ | refine blockW_same ?_ | refine blockW_ret ?_ | refine blockW_panic ?_ | refine loopW_ret ?_ | refine loopW_exit ?_ | refine loopW_panic ?_ | refine joinW_ret ?_ | refine joinW_exit ?_ | refine joinW_panic ?_ | refine W_seq ?_ | refine W_block ?_ | refine W_skip ?_ | refine W_ret ?_ | refine W_exit ?_ | refine W_label ?_
        | with_reducible refine blockW_other (by decide) ?_
        | with_reducible refine W_region (by first | decide | (with_unfolding_all rfl)) ?_
        | (rw [vcn]; (try simp [push_cast, -List.map_take, -List.map_drop, recAV, shapeAV, hq0, hdv, hmd, g3, g4]); try simp (disch := omega) only [i64_in, u64_in, shr64i])
        | with_reducible refine W_drawn mixed (by decide) (by kernel_rfl) ?_
        | (rw [vcnD]; (try simp [push_cast, -List.map_take, -List.map_drop, recAV, shapeAV, hq0, hdv, hmd, g3, g4]); try simp (disch := omega) only [i64_in, u64_in, shr64i])
        | (with_reducible refine W_condW ?_; (try simp [AS.val, upd, resB, mkS_env, mkS_box, lk, entry_env, condW_true, condW_false, recAV, shapeAV, hq0, hdv, hmd, g3, g4]))
        | with_reducible refine optK_dV (by first | omega | (simp; omega)) ?_
        | with_reducible refine optK_dVh (by omega) ?_
        | refine And.intro (by first | omega | kernel_rfl) ?_
        | (with_reducible refine condW_b (fun hc => ?_) (fun hc => ?_) <;> (try simp [Int.ofNat_inj] at hc) <;> try contradiction)
        | fail)
      first | refine CallG_of (et) (by first | rfl | (simp [natAV, numC, ← limbs.eq_1, push_cast, -List.map_take, -List.map_drop, recAV]; done)) (by simp [natAV, recAV, shapeAV, AV.refs, refsL, push_cast, -List.map_take, -List.map_drop]) rfl ?_ | refine callD_of (et) (by first | rfl | (simp [natAV, numC, ← limbs.eq_1, push_cast, -List.map_take, -List.map_drop, recAV]; done)) (by simp [natAV, recAV, shapeAV, AV.refs, refsL, push_cast, -List.map_take, -List.map_drop]) rfl ?_
      try dsimp only
      repeat' (first
        | with_reducible first | refine thenW_n ?_ | refine thenW_ret ?_ | refine thenW_exit ?_ | refine thenW_panic ?_ | refine blockW_n ?_ | refine blockW_same ?_ | refine blockW_ret ?_ | refine blockW_panic ?_ | refine loopW_ret ?_ | refine loopW_exit ?_ | refine loopW_panic ?_ | refine joinW_ret ?_ | refine joinW_exit ?_ | refine joinW_panic ?_ | refine W_seq ?_ | refine W_block ?_ | refine W_skip ?_ | refine W_ret ?_ | refine W_exit ?_ | refine W_label ?_
        | with_reducible refine blockW_other (by decide) ?_
        | with_reducible refine W_region (by first | decide | (with_unfolding_all rfl)) ?_
        | (rw [vcn]; (try simp [push_cast, -List.map_take, -List.map_drop, recAV, shapeAV, hsz]); try simp (disch := omega) only [i64_in, u64_in, shr64i])
        | with_reducible refine W_drawn mixed (by decide) (by kernel_rfl) ?_
        | (rw [vcnD]; (try simp [push_cast, -List.map_take, -List.map_drop, recAV, shapeAV, hsz]); try simp (disch := omega) only [i64_in, u64_in, shr64i])
        | (with_reducible refine W_condW ?_; (try simp [AS.val, upd, resB, mkS_env, mkS_box, lk, entry_env, condW_true, condW_false, recAV, shapeAV, hsz]))
        | with_reducible refine optK_dV (by first | omega | (simp; omega)) ?_
        | with_reducible refine optK_dVh (by omega) ?_
        | refine And.intro (by first | omega | kernel_rfl) ?_
        | (with_reducible refine condW_b (fun hc => ?_) (fun hc => ?_) <;> (try simp [Int.ofNat_inj] at hc) <;> try contradiction)
        | fail)
      have hlm : (T.map byteV).length = n1 := by rw [List.length_map, hn1]
      refine W_loopW (X := Nat) (fun i => [(70, .bs 70 1 0 n1), (71, i64V n1), (72, i64V i)]) (fun _ => [(70, .mut 5 (T.map byteV))]) (fun i => n1 - i) (fun i => i ≤ n1 ∧ (T.take i).all letterB = true) 0 id ⟨Nat.zero_le _, by simp⟩ ⟨?_, ?_, ?_, ?_, ?_, ?_⟩ fun i hx => ?_
      all_goals first | (with_reducible refine W_id ?_) | (simp [push_cast, -List.map_take, -List.map_drop, hsz]; done) | (simp [push_cast, -List.map_take, -List.map_drop, hsz]; omega) | (intro i hi; simp; omega) | (intro i hi; dsimp only; (repeat' split) <;> omega) | (simp [push_cast, -List.map_take, -List.map_drop, hsz]; fail_if_success done)
      obtain ⟨hi, hI⟩ := hx
      by_cases hlt : ¬ i < n1
      · have g5 : (i < n1) = False := by simp; omega
        rw [List.take_of_length_le (by omega)] at hI
        rw [hI] at hX
        repeat' (first
          | with_reducible first | refine thenW_n ?_ | refine thenW_ret ?_ | refine thenW_exit ?_ | refine thenW_panic ?_ | refine blockW_n ?_ | refine blockW_same ?_ | refine blockW_ret ?_ | refine blockW_panic ?_ | refine loopW_ret ?_ | refine loopW_exit ?_ | refine loopW_panic ?_ | refine joinW_ret ?_ | refine joinW_exit ?_ | refine joinW_panic ?_ | refine W_seq ?_ | refine W_block ?_ | refine W_skip ?_ | refine W_ret ?_ | refine W_exit ?_ | refine W_label ?_
          | with_reducible refine blockW_other (by decide) ?_
          | with_reducible refine W_region (by first | decide | (with_unfolding_all rfl)) ?_
          | (rw [vcn]; (try simp [push_cast, -List.map_take, -List.map_drop, g5]); try simp (disch := omega) only [i64_in, u64_in, shr64i])
          | with_reducible refine W_drawn mixed (by decide) (by kernel_rfl) ?_
          | (rw [vcnD]; (try simp [push_cast, -List.map_take, -List.map_drop, g5]); try simp (disch := omega) only [i64_in, u64_in, shr64i])
          | (with_reducible refine W_condW ?_; (try simp [AS.val, upd, resB, mkS_env, mkS_box, lk, entry_env, condW_true, condW_false, g5]))
          | with_reducible refine optK_dV (by first | omega | (simp; omega)) ?_
          | with_reducible refine optK_dVh (by omega) ?_
          | refine And.intro (by first | omega | kernel_rfl) ?_
          | (with_reducible refine condW_b (fun hc => ?_) (fun hc => ?_) <;> (try simp [Int.ofNat_inj] at hc) <;> try contradiction)
          | fail)
        simp [post, resAV, resAll, resOne, closeV, closeC, closeL, resD, resDL, push_cast, -List.map_take, -List.map_drop, recAV, hX, hlo, hhi]
      have hlt : i < n1 := by omega
      have g5 : (i < n1) = True := by simp; omega
      have hg := byteL_get T i (by omega)
      have htk : (T.take (i + 1)).all letterB = letterB T[i] := by
        rw [List.take_succ_eq_append_getElem (by omega), List.all_append, hI]; simp
      have hnx : letterB T[i] = false → X = false := by
        intro h
        rw [hX, Bool.eq_false_iff]
        intro ha
        rw [List.all_eq_true.1 ha _ (List.getElem_mem (by omega))] at h
        cases h
      have hn2 : i < T.length := by omega
      obtain ⟨c, hc⟩ : ∃ c, c = T[i] := ⟨_, rfl⟩
      have hg2 : ∀ h : i < T.length, T[i] = c := fun _ => hc.symm
      rw [← hc] at hg htk hnx
      repeat' (first
        | with_reducible first | refine thenW_n ?_ | refine thenW_ret ?_ | refine thenW_exit ?_ | refine thenW_panic ?_ | refine blockW_n ?_ | refine blockW_same ?_ | refine blockW_ret ?_ | refine blockW_panic ?_ | refine loopW_ret ?_ | refine loopW_exit ?_ | refine loopW_panic ?_ | refine joinW_ret ?_ | refine joinW_exit ?_ | refine joinW_panic ?_ | refine W_seq ?_ | refine W_block ?_ | refine W_skip ?_ | refine W_ret ?_ | refine W_exit ?_ | refine W_label ?_
        | with_reducible refine blockW_other (by decide) ?_
        | with_reducible refine W_region (by first | decide | (with_unfolding_all rfl)) ?_
        | (rw [vcn]; (try simp [push_cast, -List.map_take, -List.map_drop, g5, hg, hg2, hlm, hlt, hn2, ← hn1]); try simp (disch := omega) only [i64_in, u64_in, shr64i])
        | with_reducible refine W_drawn mixed (by decide) (by kernel_rfl) ?_
        | (rw [vcnD]; (try simp [push_cast, -List.map_take, -List.map_drop, g5, hg, hg2, hlm, hlt, hn2, ← hn1]); try simp (disch := omega) only [i64_in, u64_in, shr64i])
        | (with_reducible refine W_condW ?_; (try simp [AS.val, upd, resB, mkS_env, mkS_box, lk, entry_env, condW_true, condW_false, g5, hg, hg2, hlm, hlt, hn2, ← hn1]))
        | with_reducible refine optK_dV (by first | omega | (simp; omega)) ?_
        | with_reducible refine optK_dVh (by omega) ?_
        | refine And.intro (by first | omega | kernel_rfl) ?_
        | (with_reducible refine condW_b (fun hc => ?_) (fun hc => ?_) <;> (try simp [Int.ofNat_inj] at hc) <;> try contradiction)
        | fail)
      first | refine CallG_of (eval53 c) (by first | rfl | (simp [natAV, numC, ← limbs.eq_1, push_cast, -List.map_take, -List.map_drop]; done)) (by simp [natAV, recAV, shapeAV, AV.refs, refsL, push_cast, -List.map_take, -List.map_drop]) rfl ?_ | refine callD_of (eval53 c) (by first | rfl | (simp [natAV, numC, ← limbs.eq_1, push_cast, -List.map_take, -List.map_drop]; done)) (by simp [natAV, recAV, shapeAV, AV.refs, refsL, push_cast, -List.map_take, -List.map_drop]) rfl ?_
      try dsimp only
      cases hb : letterB c with
      | false =>
        have := hnx hb
        repeat' (first
          | with_reducible first | refine thenW_n ?_ | refine thenW_ret ?_ | refine thenW_exit ?_ | refine thenW_panic ?_ | refine blockW_n ?_ | refine blockW_same ?_ | refine blockW_ret ?_ | refine blockW_panic ?_ | refine loopW_ret ?_ | refine loopW_exit ?_ | refine loopW_panic ?_ | refine joinW_ret ?_ | refine joinW_exit ?_ | refine joinW_panic ?_ | refine W_seq ?_ | refine W_block ?_ | refine W_skip ?_ | refine W_ret ?_ | refine W_exit ?_ | refine W_label ?_
          | with_reducible refine blockW_other (by decide) ?_
          | with_reducible refine W_region (by first | decide | (with_unfolding_all rfl)) ?_
          | (rw [vcn]; (try simp [push_cast, -List.map_take, -List.map_drop, g5, hb]); try simp (disch := omega) only [i64_in, u64_in, shr64i])
          | with_reducible refine W_drawn mixed (by decide) (by kernel_rfl) ?_
          | (rw [vcnD]; (try simp [push_cast, -List.map_take, -List.map_drop, g5, hb]); try simp (disch := omega) only [i64_in, u64_in, shr64i])
          | (with_reducible refine W_condW ?_; (try simp [AS.val, upd, resB, mkS_env, mkS_box, lk, entry_env, condW_true, condW_false, g5, hb]))
          | with_reducible refine optK_dV (by first | omega | (simp; omega)) ?_
          | with_reducible refine optK_dVh (by omega) ?_
          | refine And.intro (by first | omega | kernel_rfl) ?_
          | (with_reducible refine condW_b (fun hc => ?_) (fun hc => ?_) <;> (try simp [Int.ofNat_inj] at hc) <;> try contradiction)
          | fail)
        simp [post, resAV, resAll, resOne, closeV, closeC, closeL, resD, resDL, push_cast, -List.map_take, -List.map_drop, recAV, this]
      | true =>
        repeat' (first
          | with_reducible first | refine thenW_n ?_ | refine thenW_ret ?_ | refine thenW_exit ?_ | refine thenW_panic ?_ | refine blockW_n ?_ | refine blockW_same ?_ | refine blockW_ret ?_ | refine blockW_panic ?_ | refine loopW_ret ?_ | refine loopW_exit ?_ | refine loopW_panic ?_ | refine joinW_ret ?_ | refine joinW_exit ?_ | refine joinW_panic ?_ | refine W_seq ?_ | refine W_block ?_ | refine W_skip ?_ | refine W_ret ?_ | refine W_exit ?_ | refine W_label ?_
          | with_reducible refine blockW_other (by decide) ?_
          | with_reducible refine W_region (by first | decide | (with_unfolding_all rfl)) ?_
          | (rw [vcn]; (try simp [push_cast, -List.map_take, -List.map_drop, g5, hb]); try simp (disch := omega) only [i64_in, u64_in, shr64i])
          | with_reducible refine W_drawn mixed (by decide) (by kernel_rfl) ?_
          | (rw [vcnD]; (try simp [push_cast, -List.map_take, -List.map_drop, g5, hb]); try simp (disch := omega) only [i64_in, u64_in, shr64i])
          | (with_reducible refine W_condW ?_; (try simp [AS.val, upd, resB, mkS_env, mkS_box, lk, entry_env, condW_true, condW_false, g5, hb]))
          | with_reducible refine optK_dV (by first | omega | (simp; omega)) ?_
          | with_reducible refine optK_dVh (by omega) ?_
          | refine And.intro (by first | omega | kernel_rfl) ?_
          | (with_reducible refine condW_b (fun hc => ?_) (fun hc => ?_) <;> (try simp [Int.ofNat_inj] at hc) <;> try contradiction)
          | fail)
        refine loopW_n (i + 1) id (by omega) ⟨by omega, List.all_eq_true.1 (by rw [htk, hb])⟩ ⟨?_, ?_, ?_, ?_, ?_, ?_⟩
        all_goals first | (with_reducible refine W_id ?_) | (simp [push_cast, -List.map_take, -List.map_drop]; done) | (simp [push_cast, -List.map_take, -List.map_drop]; omega) | (intro i hi; simp; omega) | (intro i hi; dsimp only; (repeat' split) <;> omega) | (simp [push_cast, -List.map_take, -List.map_drop]; fail_if_success done)
  rw [if_neg hk2] at hX
  simp only [List.mem_cons, List.not_mem_nil, or_false, not_or] at hk1 hk2
  have ne : ∀ c : UInt8, k ≠ c → ((k.toNat : Int) == (c.toNat : Int)) = false := fun c h => by rw [byte_beq]; simpa using h
  have e1 : ((k.toNat : Int) == 2) = false := ne 2 hk1.1
  have e2 : ((k.toNat : Int) == 25) = false := ne 25 hk1.2.1
  have e3 : ((k.toNat : Int) == 44) = false := ne 44 hk1.2.2.1
  have e4 : ((k.toNat : Int) == 55) = false := ne 55 hk1.2.2.2.1
  have e5 : ((k.toNat : Int) == 58) = false := ne 58 hk1.2.2.2.2
  have e6 : ((k.toNat : Int) == 6) = false := ne 6 hk2.1
  have e7 : ((k.toNat : Int) == 18) = false := ne 18 hk2.2
  repeat' (first
    | with_reducible first | refine thenW_n ?_ | refine thenW_ret ?_ | refine thenW_exit ?_ | refine thenW_panic ?_ | refine blockW_n ?_ | refine blockW_same ?_ | refine blockW_ret ?_ | refine blockW_panic ?_ | refine loopW_ret ?_ | refine loopW_exit ?_ | refine loopW_panic ?_ | refine joinW_ret ?_ | refine joinW_exit ?_ | refine joinW_panic ?_ | refine W_seq ?_ | refine W_block ?_ | refine W_skip ?_ | refine W_ret ?_ | refine W_exit ?_ | refine W_label ?_
    | with_reducible refine blockW_other (by decide) ?_
    | with_reducible refine W_region (by first | decide | (with_unfolding_all rfl)) ?_
    | (rw [vcn]; (try simp [push_cast, -List.map_take, -List.map_drop, recAV, shapeAV, hq0, hdv, hmd, g3, g4, e1, e2, e3, e4, e5, e6, e7]); try simp (disch := omega) only [i64_in, u64_in, shr64i])
    | with_reducible refine W_drawn mixed (by decide) (by kernel_rfl) ?_
    | (rw [vcnD]; (try simp [push_cast, -List.map_take, -List.map_drop, recAV, shapeAV, hq0, hdv, hmd, g3, g4, e1, e2, e3, e4, e5, e6, e7]); try simp (disch := omega) only [i64_in, u64_in, shr64i])
    | (with_reducible refine W_condW ?_; (try simp [AS.val, upd, resB, mkS_env, mkS_box, lk, entry_env, condW_true, condW_false, recAV, shapeAV, hq0, hdv, hmd, g3, g4, e1, e2, e3, e4, e5, e6, e7]))
    | with_reducible refine optK_dV (by first | omega | (simp; omega)) ?_
    | with_reducible refine optK_dVh (by omega) ?_
    | refine And.intro (by first | omega | kernel_rfl) ?_
    | (with_reducible refine condW_b (fun hc => ?_) (fun hc => ?_) <;> (try simp [Int.ofNat_inj] at hc) <;> try contradiction)
    | fail)
  simp [post, resAV, resAll, resOne, closeV, closeC, closeL, resD, resDL, push_cast, -List.map_take, -List.map_drop, recAV, hX, hlo, hhi]
end Go.Fw
