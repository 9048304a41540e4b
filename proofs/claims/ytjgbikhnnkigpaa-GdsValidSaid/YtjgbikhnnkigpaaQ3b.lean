import Derived.Test.YtjgbikhnnkigpaaQ0b
import Derived.Test.YtjgbikhnnkigpaaT12
import Derived.Test.YtjgbikhnnkigpaaT13b
set_option linter.unusedSimpArgs false
set_option linter.unusedVariables false
-- VALS: recAV, shapeAV
namespace Go.Fw
open Go Go.Proofs Go.IntWalk
set_option linter.unusedSimpArgs false
set_option maxRecDepth 100000
set_option maxHeartbeats 1500000
open List (map_take map_drop)
attribute [local push_cast] optK_some optK_none optK_ite optK_map optK_bind gOn stepK isMem evPure evMem evBin evUn evConv evLen evBuiltin evMinMax evSlice evBuild evAppend evIndex evIndexAddr evField evFieldAddr intBin strBin appDest AS.val AS.mem AS.elems AS.put AS.put' AS.eff AV.cells? AV.isCell AV.refs all_isByte take_byteV drop_byteV strOf_map bndOk bnd partAV ptrAdd killBox catA inOrder fillA setAt ofVal resB upd byteV List.head?_take List.head?_drop List.getElem?_map mkS_env mkS_box mkS_used entry_env entry_box entry_used lk stepD lookIds Oper.looksAt Op.operands Call.operands St.ids refsL renL_append dV_take dV_drop ren renL renBox Box.refs iV i64V boolV dV_getElem dV_app dV_cons toNat_add2 toNat_add1
def rightB (k d : UInt8) (b : List UInt8) (sd : UInt8) (p lo hi : Nat) (ok : Bool) : Bool :=
  ok && decide (sd = d) && decide (b.length % (max p 1) = 0) && decide (lo ≤ b.length / max p 1) && decide (b.length / max p 1 ≤ hi) &&
    (if k ∈ [2, 25, 44, 55, 58] then decide (firstIn (textOf b) 0 < 0) else if k ∈ [6, 18] then (textOf b).all letterB else true)
theorem per_ok (k : UInt8) (p lo hi : Nat) : Eval Try.prog 51 [.agg [byteV k, i64V p, i64V lo, i64V hi]] (.ret (i64V ((max p 1 : Nat) : Int))) := by
  have e := eval51 k p lo hi
  rw [show (if (p : Int) < 1 then (1 : Int) else p) = ((max p 1 : Nat) : Int) from by split <;> omega] at e
  exact e
theorem right_ok (k d : UInt8) (b : List UInt8) (hb : b.length ≤ 9223372036854775807) (sd : UInt8) (p lo hi : Nat) (ok : Bool) (hpq : hi * max p 1 ≤ 1000000) (h50 : Eval Try.prog 50 [byteV k] (.ret (shapeAV sd p lo hi ok))) :
    Eval Try.prog 17 [recAV k d b] (.ret (.v (.bool (rightB k d b sd p lo hi ok)))) := by
  refine Eval.intro Try.func17 rfl Try.call17 _ _ (Nat.le_of_ble_eq_true rfl) (by simp [-map_take,-map_drop, natAV, recAV, shapeAV, push_cast]) fun hs0 => ?_
  have hper := per_ok sd p lo hi
  obtain ⟨q, hq⟩ : ∃ q : Nat, q = max p 1 := ⟨_, rfl⟩
  obtain ⟨X, hX⟩ : ∃ X, X = (if k ∈ [2, 25, 44, 55, 58] then decide (firstIn (textOf b) 0 < 0) else if k ∈ [6, 18] then (textOf b).all letterB else true) := ⟨_, rfl⟩
  have hrb : rightB k d b sd p lo hi ok = (ok && decide (sd = d) && decide (b.length % q = 0) && decide (lo ≤ b.length / q) && decide (b.length / q ≤ hi) && X) := by rw [hq, hX]; rfl
  rw [hrb]
  rw [← hq] at hper hpq
  have hq1 : 1 ≤ q := by omega
  have hq0 : (q = 0) = False := by simp [-map_take,-map_drop]; omega
  clear hq hrb
  have hdv : ((b.length : Int).tdiv (q : Int)) = ((b.length / q : Nat) : Int) := by rw [Int.ofNat_tdiv]
  have hmd : ((b.length : Int).tmod (q : Int)) = ((b.length % q : Nat) : Int) := by rw [Int.ofNat_tmod]
  obtain ⟨n, hn⟩ : ∃ n, n = b.length / q := ⟨_, rfl⟩
  obtain ⟨m, hm⟩ : ∃ m, m = b.length % q := ⟨_, rfl⟩
  have hle : n ≤ 9223372036854775807 := by rw [hn]; exact Nat.le_trans (Nat.div_le_self _ _) hb
  have hml : m ≤ 9223372036854775807 := by rw [hm]; exact Nat.le_trans (Nat.mod_le _ _) hb
  rw [← hn] at hdv
  rw [← hm] at hmd
  simp only [← hn, ← hm]
  have hbq : b.length = q * n + m := by rw [hn, hm]; exact (Nat.div_add_mod _ _).symm
  clear hn hm
  repeat' (first
    | with_reducible first | apply thenW_n | apply W_seq
    | with_reducible refine W_region (by first | decide | (with_unfolding_all rfl)) ?_
    | (rw [vcn]; (try simp [-map_take,-map_drop, push_cast, recAV, shapeAV]))
    | fail)
  refine CallG_of (h50) rfl rfl rfl ?_
  try dsimp only
  repeat' (first
    | with_reducible first | apply thenW_n | apply W_seq
    | (rw [vcn]; (try simp [-map_take,-map_drop, push_cast, recAV, shapeAV]))
    | with_reducible refine W_drawn mixed (by decide) (by kernel_rfl) ?_
    | (rw [vcnD]; (try simp [-map_take,-map_drop, push_cast, recAV, shapeAV]))
    | fail)
  refine callD_of (hper) rfl rfl rfl ?_
  try dsimp only
  cases ok with
  | false =>
    repeat' (first
      | with_reducible first | apply thenW_n | apply thenW_ret | apply W_seq | apply W_ret
      | with_reducible refine W_region (by first | decide | (with_unfolding_all rfl)) ?_
      | (rw [vcn]; (try simp [-map_take,-map_drop, push_cast, recAV, shapeAV, hq0, hdv, hmd]); try simp (disch := omega) only [i64_in, u64_in, shr64i])
      | with_reducible refine W_drawn mixed (by decide) (by kernel_rfl) ?_
      | (rw [vcnD]; (try simp [-map_take,-map_drop, push_cast, recAV, shapeAV, hq0, hdv, hmd]); try simp (disch := omega) only [i64_in, u64_in, shr64i])
      | (with_reducible refine W_condW ?_; (try simp [-map_take,-map_drop, AS.val, upd, resB, mkS_env, mkS_box, lk, entry_env, condW_true, condW_false, recAV, shapeAV, hq0, hdv, hmd]))
      | refine And.intro (by first | omega | kernel_rfl) ?_
      | fail)
    simp [-map_take,-map_drop, post, resAV, resAll, resOne, closeV, closeC, closeL, resD, resDL, push_cast, recAV]
  | true =>
  by_cases hsd : ¬ sd = d
  · have g0 : (sd = d) = False := by simp [-map_take,-map_drop, hsd]
    have g1 : ((sd.toNat : Int) == (d.toNat : Int)) = false := by rw [byte_beq]; simpa [-map_take,-map_drop] using hsd
    have g2 : ((sd.toNat : Int) = (d.toNat : Int)) = False := by simp [-map_take,-map_drop]; exact fun e => hsd (UInt8.toNat_inj.1 (by omega))
    repeat' (first
      | with_reducible first | apply thenW_n | apply thenW_ret | apply W_seq | apply W_ret
      | with_reducible refine W_region (by first | decide | (with_unfolding_all rfl)) ?_
      | (rw [vcn]; (try simp [-map_take,-map_drop, push_cast, recAV, shapeAV, hq0, hdv, hmd, g0, g1, g2]); try simp (disch := omega) only [i64_in, u64_in, shr64i])
      | with_reducible refine W_drawn mixed (by decide) (by kernel_rfl) ?_
      | (rw [vcnD]; (try simp [-map_take,-map_drop, push_cast, recAV, shapeAV, hq0, hdv, hmd, g0, g1, g2]); try simp (disch := omega) only [i64_in, u64_in, shr64i])
      | (with_reducible refine W_condW ?_; (try simp [-map_take,-map_drop, AS.val, upd, resB, mkS_env, mkS_box, lk, entry_env, condW_true, condW_false, recAV, shapeAV, hq0, hdv, hmd, g0, g1, g2]))
      | refine And.intro (by first | omega | kernel_rfl) ?_
      | fail)
    simp [-map_take,-map_drop, post, resAV, resAll, resOne, closeV, closeC, closeL, resD, resDL, push_cast, recAV, hsd]
  have hsd : sd = d := Classical.byContradiction hsd
  subst hsd
  by_cases hm : ¬ m = 0
  · have g2 : (m = 0) = False := by simp [-map_take,-map_drop, hm]
    repeat' (first
      | with_reducible first | apply thenW_n | apply W_seq
      | with_reducible refine W_drawn mixed (by decide) (by kernel_rfl) ?_
      | (rw [vcnD]; (try simp [-map_take,-map_drop, push_cast, recAV, shapeAV, hq0, hdv, hmd, g2]); try simp (disch := omega) only [i64_in, u64_in, shr64i])
      | refine And.intro (by first | omega | kernel_rfl) ?_
      | fail)
    refine callD_of (hper) rfl rfl rfl ?_
    try dsimp only
    repeat' (first
      | with_reducible first | apply thenW_n | apply thenW_ret | apply W_seq | apply W_ret
      | with_reducible refine W_region (by first | decide | (with_unfolding_all rfl)) ?_
      | (rw [vcn]; (try simp [-map_take,-map_drop, push_cast, recAV, shapeAV, hq0, hdv, hmd, g2]))
      | (rw [vcnD]; (try simp [-map_take,-map_drop, push_cast, recAV, shapeAV, hq0, hdv, hmd, g2]))
      | (with_reducible refine W_condW ?_; (try simp [-map_take,-map_drop, AS.val, upd, resB, mkS_env, mkS_box, lk, entry_env, condW_true, condW_false, recAV, shapeAV, hq0, hdv, hmd, g2]))
      | refine And.intro (by first | omega | kernel_rfl) ?_
      | fail)
    simp [-map_take,-map_drop, post, resAV, resAll, resOne, closeV, closeC, closeL, resD, resDL, push_cast, recAV, hm]
  have hm : m = 0 := by omega
  subst hm
  repeat' (first
    | with_reducible first | apply thenW_n | apply W_seq
    | with_reducible refine W_drawn mixed (by decide) (by kernel_rfl) ?_
    | (rw [vcnD]; (try simp [-map_take,-map_drop, push_cast, recAV, shapeAV, hq0, hdv, hmd]); try simp (disch := omega) only [i64_in, u64_in, shr64i])
    | refine And.intro (by first | omega | kernel_rfl) ?_
    | fail)
  refine callD_of (hper) rfl rfl rfl ?_
  try dsimp only
  by_cases hlo : ¬ lo ≤ n
  · have g3 : (n < lo) = True := by simp [-map_take,-map_drop]; omega
    repeat' (first
      | with_reducible first | apply thenW_n | apply thenW_ret | apply W_seq | apply W_ret
      | with_reducible refine W_region (by first | decide | (with_unfolding_all rfl)) ?_
      | (rw [vcn]; (try simp [-map_take,-map_drop, push_cast, recAV, shapeAV, hq0, hdv, hmd, g3]))
      | (rw [vcnD]; (try simp [-map_take,-map_drop, push_cast, recAV, shapeAV, hq0, hdv, hmd, g3]))
      | (with_reducible refine W_condW ?_; (try simp [-map_take,-map_drop, AS.val, upd, resB, mkS_env, mkS_box, lk, entry_env, condW_true, condW_false, recAV, shapeAV, hq0, hdv, hmd, g3]))
      | refine And.intro (by first | omega | kernel_rfl) ?_
      | fail)
    simp [-map_take,-map_drop, post, resAV, resAll, resOne, closeV, closeC, closeL, resD, resDL, push_cast, recAV, hlo]
  have g3 : (n < lo) = False := by simp [-map_take,-map_drop]; omega
  have hlo : lo ≤ n := by omega
  by_cases hhi : ¬ n ≤ hi
  · have g4 : (hi < n) = True := by simp [-map_take,-map_drop]; omega
    repeat' (first
      | with_reducible first | apply thenW_n | apply thenW_ret | apply W_seq | apply W_ret
      | with_reducible refine W_region (by first | decide | (with_unfolding_all rfl)) ?_
      | (rw [vcn]; (try simp [-map_take,-map_drop, push_cast, recAV, shapeAV, hq0, hdv, hmd, g3, g4]))
      | (rw [vcnD]; (try simp [-map_take,-map_drop, push_cast, recAV, shapeAV, hq0, hdv, hmd, g3, g4]))
      | (with_reducible refine W_condW ?_; (try simp [-map_take,-map_drop, AS.val, upd, resB, mkS_env, mkS_box, lk, entry_env, condW_true, condW_false, recAV, shapeAV, hq0, hdv, hmd, g3, g4]))
      | refine And.intro (by first | omega | kernel_rfl) ?_
      | fail)
    simp [-map_take,-map_drop, post, resAV, resAll, resOne, closeV, closeC, closeL, resD, resDL, push_cast, recAV, hhi]
  have g4 : (hi < n) = False := by simp [-map_take,-map_drop]; omega
  have hhi : n ≤ hi := by omega
  have hb : b.length ≤ 1000000 := by
    rw [hbq, Nat.add_zero, Nat.mul_comm]
    exact Nat.le_trans (Nat.mul_le_mul_right q hhi) hpq
  clear hbq
  have hT1 : (textOf b).length ≤ 1000000 := by
    unfold textOf
    split
    · rw [List.length_take]; omega
    · exact hb
  have et := eval23 false b b.length rfl
  obtain ⟨T, hT⟩ : ∃ T, T = textOf b := ⟨_, rfl⟩
  rw [← hT] at hX hT1 et
  clear hT
  obtain ⟨n1, hn1⟩ : ∃ n1, n1 = T.length := ⟨_, rfl⟩
  have hsz : ({ data := T.toArray } : ByteArray).size = n1 := by rw [hn1]; rfl
  rw [← hn1] at hT1
  by_cases hk1 : k ∈ [2, 25, 44, 55, 58]
  · rw [if_pos hk1] at hX
    simp only [List.mem_cons, List.not_mem_nil, or_false] at hk1
    have ei := eval52 false T n1 hn1.symm 0
    rcases hk1 with h | h | h | h | h
    all_goals
      subst h
      repeat' (first
        | with_reducible first | apply thenW_n | apply W_seq | apply W_block | apply W_skip
        | with_reducible refine W_region (by first | decide | (with_unfolding_all rfl)) ?_
        | (rw [vcn]; (try simp [-map_take,-map_drop, push_cast, recAV, shapeAV, hq0, hdv, hmd, g3, g4]))
        | (rw [vcnD]; (try simp [-map_take,-map_drop, push_cast, recAV, shapeAV, hq0, hdv, hmd, g3, g4]))
        | (with_reducible refine W_condW ?_; (try simp [-map_take,-map_drop, AS.val, upd, resB, mkS_env, mkS_box, lk, entry_env, condW_true, condW_false, recAV, shapeAV, hq0, hdv, hmd, g3, g4]))
        | refine And.intro (by first | omega | kernel_rfl) ?_
        | fail)
      refine CallG_of (et) rfl rfl rfl ?_
      try dsimp only
      repeat' (first
        | (rw [vcn]; (try simp [-map_take,-map_drop, push_cast, recAV, shapeAV, hsz]))
        | refine And.intro (by first | omega | kernel_rfl) ?_
        | fail)
      refine CallG_frz _ _ rfl ?_ (ei) ?_ (by simp [-map_take,-map_drop, push_cast]) rfl ?_
      · first | (simp [-map_take,-map_drop, frzS, resDL, resD, push_cast, hn1]; done) | (simp [-map_take,-map_drop, frzS, resDL, resD, push_cast, hn1]; rw [List.take_of_length_le (by simp [-map_take,-map_drop])]; done) | (simp [-map_take,-map_drop, frzS, resDL, resD, push_cast, hn1]; fail_if_success done)
      · simp [-map_take,-map_drop, frzOk, push_cast]
      try dsimp only
      try simp only [refsL, AV.refs, frzS, List.append_nil, upd, mkS_box, entry_box, lk, if_true, if_false]
      repeat' (first
        | with_reducible first | apply thenW_n | apply thenW_ret | apply blockW_ret | apply W_ret
        | (rw [vcn]; (try simp [-map_take,-map_drop, push_cast, recAV, shapeAV, hsz]))
        | fail)
      simp [-map_take,-map_drop, post, resAV, resAll, resOne, closeV, closeC, closeL, resD, resDL, push_cast, recAV, hX, hlo, hhi]
  rw [if_neg hk1] at hX
  by_cases hk2 : k ∈ [6, 18]
  · rw [if_pos hk2] at hX
    simp only [List.mem_cons, List.not_mem_nil, or_false] at hk2
    rcases hk2 with h | h
    all_goals
      subst h
      repeat' (first
        | with_reducible first | apply thenW_n | apply W_seq | apply W_block | apply W_skip
        | with_reducible refine W_region (by first | decide | (with_unfolding_all rfl)) ?_
        | (rw [vcn]; (try simp [-map_take,-map_drop, push_cast, recAV, shapeAV, hq0, hdv, hmd, g3, g4]))
        | (rw [vcnD]; (try simp [-map_take,-map_drop, push_cast, recAV, shapeAV, hq0, hdv, hmd, g3, g4]))
        | (with_reducible refine W_condW ?_; (try simp [-map_take,-map_drop, AS.val, upd, resB, mkS_env, mkS_box, lk, entry_env, condW_true, condW_false, recAV, shapeAV, hq0, hdv, hmd, g3, g4]))
        | refine And.intro (by first | omega | kernel_rfl) ?_
        | fail)
      refine CallG_of (et) rfl rfl rfl ?_
      try dsimp only
      repeat' (first
        | with_reducible first | apply thenW_n | apply W_block
        | (rw [vcn]; (try simp [-map_take,-map_drop, push_cast, recAV, shapeAV, hsz]))
        | refine And.intro (by first | omega | kernel_rfl) ?_
        | fail)
      have hlm : (T.map byteV).length = n1 := by rw [List.length_map, hn1]
      refine W_loopW (X := Nat) (fun i => [(70, .bs 70 1 0 n1), (71, i64V n1), (72, i64V i)]) (fun _ => [(70, .mut 5 (T.map byteV))]) (fun i => n1 - i) (fun i => i ≤ n1 ∧ (T.take i).all letterB = true) 0 id ⟨Nat.zero_le _, by simp [-map_take,-map_drop]⟩ ⟨?_, ?_, ?_, ?_, ?_, ?_⟩ fun i hx => ?_
      all_goals first | (with_reducible refine W_id ?_) | (simp [-map_take,-map_drop, push_cast, hsz]; done)
      obtain ⟨hi, hI⟩ := hx
      by_cases hlt : ¬ i < n1
      · have g5 : (i < n1) = False := by simp [-map_take,-map_drop]; omega
        rw [List.take_of_length_le (by omega)] at hI
        rw [hI] at hX
        repeat' (first
          | with_reducible first | apply thenW_n | apply thenW_exit | apply blockW_n | apply blockW_same | apply loopW_exit | apply W_seq | apply W_ret | apply W_exit
          | with_reducible refine W_region (by first | decide | (with_unfolding_all rfl)) ?_
          | (rw [vcn]; (try simp [-map_take,-map_drop, push_cast, g5]))
          | (with_reducible refine W_condW ?_; (try simp [-map_take,-map_drop, AS.val, upd, resB, mkS_env, mkS_box, lk, entry_env, condW_true, condW_false, g5]))
          | fail)
        simp [-map_take,-map_drop, post, resAV, resAll, resOne, closeV, closeC, closeL, resD, resDL, push_cast, recAV, hX, hlo, hhi]
      have hlt : i < n1 := by omega
      have g5 : (i < n1) = True := by simp [-map_take,-map_drop]; omega
      have hg := byteL_get T i (by omega)
      have htk : (T.take (i + 1)).all letterB = letterB T[i] := by
        rw [List.take_succ_eq_append_getElem (by omega), List.all_append, hI]; simp [-map_take,-map_drop]
      have hnx : letterB T[i] = false → X = false := by
        intro h
        rw [hX, Bool.eq_false_iff]
        intro ha
        rw [List.all_eq_true.1 ha _ (List.getElem_mem (by omega))] at h
        cases h
      have hn2 : i < T.length := by omega
      obtain ⟨c, hc⟩ : ∃ c, c = T[i] := ⟨_, rfl⟩
      have hg2 : ∀ h : i < T.length, T[i] = c := fun _ => hc.symm
      rw [← hc] at hg htk hnx
      repeat' (first
        | with_reducible first | apply thenW_n | apply W_seq | apply W_block | apply W_skip
        | with_reducible refine W_region (by first | decide | (with_unfolding_all rfl)) ?_
        | (rw [vcn]; (try simp [-map_take,-map_drop, push_cast, g5, hg, hg2, hlm, hlt, hn2, ← hn1]))
        | (with_reducible refine W_condW ?_; (try simp [-map_take,-map_drop, AS.val, upd, resB, mkS_env, mkS_box, lk, entry_env, condW_true, condW_false, g5, hg, hg2, hlm, hlt, hn2, ← hn1]))
        | fail)
      refine CallG_of (eval53 c) rfl rfl rfl ?_
      try dsimp only
      cases hb : letterB c with
      | false =>
        have := hnx hb
        repeat' (first
          | with_reducible first | apply thenW_n | apply thenW_ret | apply blockW_ret | apply loopW_ret | apply W_seq | apply W_ret
          | with_reducible refine W_region (by first | decide | (with_unfolding_all rfl)) ?_
          | (rw [vcn]; (try simp [-map_take,-map_drop, push_cast, g5, hb]))
          | (with_reducible refine W_condW ?_; (try simp [-map_take,-map_drop, AS.val, upd, resB, mkS_env, mkS_box, lk, entry_env, condW_true, condW_false, g5, hb]))
          | fail)
        simp [-map_take,-map_drop, post, resAV, resAll, resOne, closeV, closeC, closeL, resD, resDL, push_cast, recAV, this]
      | true =>
        repeat' (first
          | with_reducible first | apply thenW_n | apply blockW_n | apply W_skip
          | with_reducible refine W_region (by first | decide | (with_unfolding_all rfl)) ?_
          | (rw [vcn]; (try simp [-map_take,-map_drop, push_cast, g5, hb]); try simp (disch := omega) only [i64_in, u64_in, shr64i])
          | (with_reducible refine W_condW ?_; (try simp [-map_take,-map_drop, AS.val, upd, resB, mkS_env, mkS_box, lk, entry_env, condW_true, condW_false, g5, hb]))
          | fail)
        refine loopW_n (i + 1) id (by omega) ⟨by omega, List.all_eq_true.1 (by rw [htk, hb])⟩ ⟨?_, ?_, ?_, ?_, ?_, ?_⟩
        all_goals first | (simp [-map_take,-map_drop, push_cast]; done)
  rw [if_neg hk2] at hX
  simp only [List.mem_cons, List.not_mem_nil, or_false, not_or] at hk1 hk2
  have ne : ∀ c : UInt8, k ≠ c → ((k.toNat : Int) == (c.toNat : Int)) = false := fun c h => by rw [byte_beq]; simpa [-map_take,-map_drop] using h
  have e1 : ((k.toNat : Int) == 2) = false := ne 2 hk1.1
  have e2 : ((k.toNat : Int) == 25) = false := ne 25 hk1.2.1
  have e3 : ((k.toNat : Int) == 44) = false := ne 44 hk1.2.2.1
  have e4 : ((k.toNat : Int) == 55) = false := ne 55 hk1.2.2.2.1
  have e5 : ((k.toNat : Int) == 58) = false := ne 58 hk1.2.2.2.2
  have e6 : ((k.toNat : Int) == 6) = false := ne 6 hk2.1
  have e7 : ((k.toNat : Int) == 18) = false := ne 18 hk2.2
  repeat' (first
    | with_reducible first | apply thenW_n | apply blockW_n | apply W_seq | apply W_block | apply W_skip | apply W_ret
    | with_reducible refine W_region (by first | decide | (with_unfolding_all rfl)) ?_
    | (rw [vcn]; (try simp [-map_take,-map_drop, push_cast, recAV, shapeAV, hq0, hdv, hmd, g3, g4, e1, e2, e3, e4, e5, e6, e7]))
    | (rw [vcnD]; (try simp [-map_take,-map_drop, push_cast, recAV, shapeAV, hq0, hdv, hmd, g3, g4, e1, e2, e3, e4, e5, e6, e7]))
    | (with_reducible refine W_condW ?_; (try simp [-map_take,-map_drop, AS.val, upd, resB, mkS_env, mkS_box, lk, entry_env, condW_true, condW_false, recAV, shapeAV, hq0, hdv, hmd, g3, g4, e1, e2, e3, e4, e5, e6, e7]))
    | refine And.intro (by first | omega | kernel_rfl) ?_
    | fail)
  simp [-map_take,-map_drop, post, resAV, resAll, resOne, closeV, closeC, closeL, resD, resDL, push_cast, recAV, hX, hlo, hhi]
end Go.Fw
set_option linter.unusedVariables false
set_option linter.unusedSimpArgs false
namespace Go.Fw
open Go Go.Proofs Go.IntWalk
set_option linter.unusedSimpArgs false
set_option maxRecDepth 100000
set_option maxHeartbeats 2000000
theorem firstIn_neg (l : List UInt8) (c : UInt8) : decide (firstIn l c < 0) = l.all (fun x => x != c) := by
  have e : firstIn l c = match (List.range l.length).find? (fun i => (ByteArray.mk l.toArray)[i]! == c) with
    | some i => (i : Int)
    | none => -1 := by
    unfold firstIn firstIdx
    rfl
  have hget : ∀ i, (h : i < l.length) → (ByteArray.mk l.toArray)[i]! = l[i] := by
    intro i h
    have hs : i < (ByteArray.mk l.toArray).size := h
    rw [getElem!_pos _ i hs]
    rfl
  rw [e]
  cases hf : (List.range l.length).find? (fun i => (ByteArray.mk l.toArray)[i]! == c) with
  | some i =>
    have h1 := List.find?_some hf
    have h2 := List.mem_of_find?_eq_some hf
    rw [List.mem_range] at h2
    rw [hget i h2] at h1
    symm
    simp only
    rw [show decide ((i : Int) < 0) = false from by simp, Bool.eq_false_iff]
    intro h
    have := List.all_eq_true.1 h l[i] (List.getElem_mem h2)
    simp only [bne, h1] at this
    cases this
  | none =>
    rw [List.find?_eq_none] at hf
    simp only
    rw [show decide ((-1 : Int) < 0) = true from rfl]
    symm
    rw [List.all_eq_true]
    intro x hx
    obtain ⟨i, hi, rfl⟩ := List.mem_iff_getElem.1 hx
    have := hf i (List.mem_range.2 hi)
    rw [hget i hi] at this
    simpa [bne] using this
theorem textOf_all (b : List UInt8) (P : UInt8 → Bool) (h0 : 0 < b.length) (hP : P 0 = false) :
    (textOf b).all P = (List.range b.length).all (fun i => (decide (i + 1 = b.length) && b.getD i 0 == 0) || P (b.getD i 0)) := by
  have hget : ∀ i, (h : i < b.length) → b.getD i 0 = b[i] := fun i h => by simp [List.getD, List.getElem?_eq_getElem h]
  rw [Bool.eq_iff_iff, List.all_eq_true, List.all_eq_true]
  by_cases hz : b[b.length - 1]? = some 0
  · have ht : textOf b = b.take (b.length - 1) := by unfold textOf; rw [if_pos ⟨h0, hz⟩]
    rw [ht]
    constructor
    · intro h i hi
      rw [List.mem_range] at hi
      rw [hget i hi]
      by_cases hl : i + 1 = b.length
      · have : b[i] = 0 := by
          have e : i = b.length - 1 := by omega
          rw [← e, List.getElem?_eq_getElem hi] at hz
          exact Option.some.inj hz
        simp [hl, this]
      · have hm : b[i] ∈ b.take (b.length - 1) := by
          rw [List.mem_iff_getElem]
          exact ⟨i, by rw [List.length_take]; omega, by rw [List.getElem_take]⟩
        simp [h _ hm]
    · intro h x hx
      rw [List.mem_iff_getElem] at hx
      obtain ⟨i, hi, rfl⟩ := hx
      rw [List.length_take] at hi
      rw [List.getElem_take]
      have := h i (List.mem_range.2 (by omega))
      rw [hget i (by omega)] at this
      simpa [show ¬ i + 1 = b.length by omega] using this
  · have ht : textOf b = b := by unfold textOf; rw [if_neg (fun h => hz h.2)]
    rw [ht]
    constructor
    · intro h i hi
      rw [List.mem_range] at hi
      rw [hget i hi]
      simp [h _ (List.getElem_mem hi)]
    · intro h x hx
      rw [List.mem_iff_getElem] at hx
      obtain ⟨i, hi, rfl⟩ := hx
      have := h i (List.mem_range.2 hi)
      rw [hget i hi] at this
      rcases Bool.or_eq_true _ _ |>.mp this with h1 | h1
      · exfalso
        simp only [Bool.and_eq_true, decide_eq_true_eq, beq_iff_eq] at h1
        apply hz
        rw [show b.length - 1 = i by omega, List.getElem?_eq_getElem hi, h1.2]
      · exact h1
theorem letterB_zero : letterB 0 = false := by decide
theorem text_false (b : List UInt8) (h0 : 0 < b.length) : decide (firstIn (textOf b) 0 < 0) = (List.range b.length).all (okAt b false) := by
  rw [firstIn_neg, textOf_all b (fun x => x != 0) h0 (by decide)]
  congr 1
  funext i
  simp [okAt]
theorem text_true (b : List UInt8) (h0 : 0 < b.length) : (textOf b).all letterB = (List.range b.length).all (okAt b true) := by
  rw [textOf_all b letterB h0 letterB_zero]
  congr 1
  funext i
  simp only [okAt]
  congr 1
  by_cases h : b.getD i 0 = 0
  · rw [h]; decide
  · rw [show (b.getD i 0 != 0) = true from by rw [bne, beq_eq_false_iff_ne.2 h]; rfl]; rfl
theorem byte_dec (s d : UInt8) : decide (s = d) = decide (d.toNat = s.toNat) := by
  rw [Bool.eq_iff_iff]
  simp only [decide_eq_true_eq]
  exact ⟨fun h => by rw [h], fun h => (UInt8.toNat_inj.1 h).symm⟩
theorem textB_eq (b : List UInt8) (most : Nat) (names : Bool) (X : Bool) (lo hi : Nat) (hm : most = hi * 2) (hx : 0 < b.length → X = (List.range b.length).all (okAt b names)) :
    (decide (b.length % 2 = 0) && (decide (1 ≤ b.length / 2) && (decide (b.length / 2 ≤ hi) && X))) = textB b most names := by
  unfold textB
  by_cases h0 : 0 < b.length
  · rw [hx h0]
    by_cases h1 : b.length % 2 = 0
    · have e1 : (1 ≤ b.length / 2) := by omega
      have e2 : (b.length / 2 ≤ hi) ↔ (b.length ≤ most) := by omega
      simp only [h0, h1, e1, e2, decide_true, Bool.true_and]
    · simp [h1]
  · have : ¬ 1 ≤ b.length / 2 := by omega
    simp [h0, this]
end Go.Fw
namespace Go.Fw
open Go Go.Proofs Go.IntWalk
set_option linter.unusedSimpArgs false
set_option maxRecDepth 100000
set_option maxHeartbeats 2000000
theorem re_0 (d : UInt8) (b : List UInt8) : rightB 0 d b 2 2 1 1 true = refR 0 d b := by
  have hd := byte_dec 2 d
  have hs : (2 : UInt8).toNat = 2 := rfl
  rw [hs] at hd
  simp only [rightB, hd]
  rw [Bool.eq_iff_iff]
  simp [refR, inB]
  try omega
theorem re_13 (d : UInt8) (b : List UInt8) : rightB 13 d b 2 2 1 1 true = refR 13 d b := by
  have hd := byte_dec 2 d
  have hs : (2 : UInt8).toNat = 2 := rfl
  rw [hs] at hd
  simp only [rightB, hd]
  rw [Bool.eq_iff_iff]
  simp [refR, inB]
  try omega
theorem re_14 (d : UInt8) (b : List UInt8) : rightB 14 d b 2 2 1 1 true = refR 14 d b := by
  have hd := byte_dec 2 d
  have hs : (2 : UInt8).toNat = 2 := rfl
  rw [hs] at hd
  simp only [rightB, hd]
  rw [Bool.eq_iff_iff]
  simp [refR, inB]
  try omega
theorem re_22 (d : UInt8) (b : List UInt8) : rightB 22 d b 2 2 1 1 true = refR 22 d b := by
  have hd := byte_dec 2 d
  have hs : (2 : UInt8).toNat = 2 := rfl
  rw [hs] at hd
  simp only [rightB, hd]
  rw [Bool.eq_iff_iff]
  simp [refR, inB]
  try omega
theorem re_33 (d : UInt8) (b : List UInt8) : rightB 33 d b 2 2 1 1 true = refR 33 d b := by
  have hd := byte_dec 2 d
  have hs : (2 : UInt8).toNat = 2 := rfl
  rw [hs] at hd
  simp only [rightB, hd]
  rw [Bool.eq_iff_iff]
  simp [refR, inB]
  try omega
theorem re_34 (d : UInt8) (b : List UInt8) : rightB 34 d b 2 2 1 1 true = refR 34 d b := by
  have hd := byte_dec 2 d
  have hs : (2 : UInt8).toNat = 2 := rfl
  rw [hs] at hd
  simp only [rightB, hd]
  rw [Bool.eq_iff_iff]
  simp [refR, inB]
  try omega
theorem re_42 (d : UInt8) (b : List UInt8) : rightB 42 d b 2 2 1 1 true = refR 42 d b := by
  have hd := byte_dec 2 d
  have hs : (2 : UInt8).toNat = 2 := rfl
  rw [hs] at hd
  simp only [rightB, hd]
  rw [Bool.eq_iff_iff]
  simp [refR, inB]
  try omega
theorem re_43 (d : UInt8) (b : List UInt8) : rightB 43 d b 2 2 1 1 true = refR 43 d b := by
  have hd := byte_dec 2 d
  have hs : (2 : UInt8).toNat = 2 := rfl
  rw [hs] at hd
  simp only [rightB, hd]
  rw [Bool.eq_iff_iff]
  simp [refR, inB]
  try omega
theorem re_46 (d : UInt8) (b : List UInt8) : rightB 46 d b 2 2 1 1 true = refR 46 d b := by
  have hd := byte_dec 2 d
  have hs : (2 : UInt8).toNat = 2 := rfl
  rw [hs] at hd
  simp only [rightB, hd]
  rw [Bool.eq_iff_iff]
  simp [refR, inB]
  try omega
theorem re_54 (d : UInt8) (b : List UInt8) : rightB 54 d b 2 2 1 1 true = refR 54 d b := by
  have hd := byte_dec 2 d
  have hs : (2 : UInt8).toNat = 2 := rfl
  rw [hs] at hd
  simp only [rightB, hd]
  rw [Bool.eq_iff_iff]
  simp [refR, inB]
  try omega
theorem re_57 (d : UInt8) (b : List UInt8) : rightB 57 d b 2 2 1 1 true = refR 57 d b := by
  have hd := byte_dec 2 d
  have hs : (2 : UInt8).toNat = 2 := rfl
  rw [hs] at hd
  simp only [rightB, hd]
  rw [Bool.eq_iff_iff]
  simp [refR, inB]
  try omega
theorem re_1 (d : UInt8) (b : List UInt8) : rightB 1 d b 2 24 1 1 true = refR 1 d b := by
  have hd := byte_dec 2 d
  have hs : (2 : UInt8).toNat = 2 := rfl
  rw [hs] at hd
  simp only [rightB, hd]
  rw [Bool.eq_iff_iff]
  simp [refR, inB]
  try omega
theorem re_5 (d : UInt8) (b : List UInt8) : rightB 5 d b 2 24 1 1 true = refR 5 d b := by
  have hd := byte_dec 2 d
  have hs : (2 : UInt8).toNat = 2 := rfl
  rw [hs] at hd
  simp only [rightB, hd]
  rw [Bool.eq_iff_iff]
  simp [refR, inB]
  try omega
theorem re_19 (d : UInt8) (b : List UInt8) : rightB 19 d b 2 4 1 1 true = refR 19 d b := by
  have hd := byte_dec 2 d
  have hs : (2 : UInt8).toNat = 2 := rfl
  rw [hs] at hd
  simp only [rightB, hd]
  rw [Bool.eq_iff_iff]
  simp [refR, inB]
  try omega
theorem re_59 (d : UInt8) (b : List UInt8) : rightB 59 d b 2 6 1 32 true = refR 59 d b := by
  have hd := byte_dec 2 d
  have hs : (2 : UInt8).toNat = 2 := rfl
  rw [hs] at hd
  simp only [rightB, hd]
  rw [Bool.eq_iff_iff]
  simp [refR, inB]
  try omega
theorem re_4 (d : UInt8) (b : List UInt8) : rightB 4 d b 0 1 0 0 true = refR 4 d b := by
  have hd := byte_dec 0 d
  have hs : (0 : UInt8).toNat = 0 := rfl
  rw [hs] at hd
  simp only [rightB, hd]
  rw [Bool.eq_iff_iff]
  simp [refR, inB]
  try omega
theorem re_7 (d : UInt8) (b : List UInt8) : rightB 7 d b 0 1 0 0 true = refR 7 d b := by
  have hd := byte_dec 0 d
  have hs : (0 : UInt8).toNat = 0 := rfl
  rw [hs] at hd
  simp only [rightB, hd]
  rw [Bool.eq_iff_iff]
  simp [refR, inB]
  try omega
theorem re_8 (d : UInt8) (b : List UInt8) : rightB 8 d b 0 1 0 0 true = refR 8 d b := by
  have hd := byte_dec 0 d
  have hs : (0 : UInt8).toNat = 0 := rfl
  rw [hs] at hd
  simp only [rightB, hd]
  rw [Bool.eq_iff_iff]
  simp [refR, inB]
  try omega
theorem re_9 (d : UInt8) (b : List UInt8) : rightB 9 d b 0 1 0 0 true = refR 9 d b := by
  have hd := byte_dec 0 d
  have hs : (0 : UInt8).toNat = 0 := rfl
  rw [hs] at hd
  simp only [rightB, hd]
  rw [Bool.eq_iff_iff]
  simp [refR, inB]
  try omega
theorem re_10 (d : UInt8) (b : List UInt8) : rightB 10 d b 0 1 0 0 true = refR 10 d b := by
  have hd := byte_dec 0 d
  have hs : (0 : UInt8).toNat = 0 := rfl
  rw [hs] at hd
  simp only [rightB, hd]
  rw [Bool.eq_iff_iff]
  simp [refR, inB]
  try omega
theorem re_11 (d : UInt8) (b : List UInt8) : rightB 11 d b 0 1 0 0 true = refR 11 d b := by
  have hd := byte_dec 0 d
  have hs : (0 : UInt8).toNat = 0 := rfl
  rw [hs] at hd
  simp only [rightB, hd]
  rw [Bool.eq_iff_iff]
  simp [refR, inB]
  try omega
theorem re_12 (d : UInt8) (b : List UInt8) : rightB 12 d b 0 1 0 0 true = refR 12 d b := by
  have hd := byte_dec 0 d
  have hs : (0 : UInt8).toNat = 0 := rfl
  rw [hs] at hd
  simp only [rightB, hd]
  rw [Bool.eq_iff_iff]
  simp [refR, inB]
  try omega
theorem re_17 (d : UInt8) (b : List UInt8) : rightB 17 d b 0 1 0 0 true = refR 17 d b := by
  have hd := byte_dec 0 d
  have hs : (0 : UInt8).toNat = 0 := rfl
  rw [hs] at hd
  simp only [rightB, hd]
  rw [Bool.eq_iff_iff]
  simp [refR, inB]
  try omega
theorem re_21 (d : UInt8) (b : List UInt8) : rightB 21 d b 0 1 0 0 true = refR 21 d b := by
  have hd := byte_dec 0 d
  have hs : (0 : UInt8).toNat = 0 := rfl
  rw [hs] at hd
  simp only [rightB, hd]
  rw [Bool.eq_iff_iff]
  simp [refR, inB]
  try omega
theorem re_45 (d : UInt8) (b : List UInt8) : rightB 45 d b 0 1 0 0 true = refR 45 d b := by
  have hd := byte_dec 0 d
  have hs : (0 : UInt8).toNat = 0 := rfl
  rw [hs] at hd
  simp only [rightB, hd]
  rw [Bool.eq_iff_iff]
  simp [refR, inB]
  try omega
theorem re_56 (d : UInt8) (b : List UInt8) : rightB 56 d b 0 1 0 0 true = refR 56 d b := by
  have hd := byte_dec 0 d
  have hs : (0 : UInt8).toNat = 0 := rfl
  rw [hs] at hd
  simp only [rightB, hd]
  rw [Bool.eq_iff_iff]
  simp [refR, inB]
  try omega
theorem re_15 (d : UInt8) (b : List UInt8) : rightB 15 d b 3 4 1 1 true = refR 15 d b := by
  have hd := byte_dec 3 d
  have hs : (3 : UInt8).toNat = 3 := rfl
  rw [hs] at hd
  simp only [rightB, hd]
  rw [Bool.eq_iff_iff]
  simp [refR, inB]
  try omega
theorem re_47 (d : UInt8) (b : List UInt8) : rightB 47 d b 3 4 1 1 true = refR 47 d b := by
  have hd := byte_dec 3 d
  have hs : (3 : UInt8).toNat = 3 := rfl
  rw [hs] at hd
  simp only [rightB, hd]
  rw [Bool.eq_iff_iff]
  simp [refR, inB]
  try omega
theorem re_48 (d : UInt8) (b : List UInt8) : rightB 48 d b 3 4 1 1 true = refR 48 d b := by
  have hd := byte_dec 3 d
  have hs : (3 : UInt8).toNat = 3 := rfl
  rw [hs] at hd
  simp only [rightB, hd]
  rw [Bool.eq_iff_iff]
  simp [refR, inB]
  try omega
theorem re_49 (d : UInt8) (b : List UInt8) : rightB 49 d b 3 4 1 1 true = refR 49 d b := by
  have hd := byte_dec 3 d
  have hs : (3 : UInt8).toNat = 3 := rfl
  rw [hs] at hd
  simp only [rightB, hd]
  rw [Bool.eq_iff_iff]
  simp [refR, inB]
  try omega
theorem re_16 (d : UInt8) (b : List UInt8) : rightB 16 d b 3 8 1 8191 true = refR 16 d b := by
  have hd := byte_dec 3 d
  have hs : (3 : UInt8).toNat = 3 := rfl
  rw [hs] at hd
  simp only [rightB, hd]
  rw [Bool.eq_iff_iff]
  simp [refR, inB]
  try omega
theorem re_27 (d : UInt8) (b : List UInt8) : rightB 27 d b 5 8 1 1 true = refR 27 d b := by
  have hd := byte_dec 5 d
  have hs : (5 : UInt8).toNat = 5 := rfl
  rw [hs] at hd
  simp only [rightB, hd]
  rw [Bool.eq_iff_iff]
  simp [refR, inB]
  try omega
theorem re_28 (d : UInt8) (b : List UInt8) : rightB 28 d b 5 8 1 1 true = refR 28 d b := by
  have hd := byte_dec 5 d
  have hs : (5 : UInt8).toNat = 5 := rfl
  rw [hs] at hd
  simp only [rightB, hd]
  rw [Bool.eq_iff_iff]
  simp [refR, inB]
  try omega
theorem re_3 (d : UInt8) (b : List UInt8) : rightB 3 d b 5 16 1 1 true = refR 3 d b := by
  have hd := byte_dec 5 d
  have hs : (5 : UInt8).toNat = 5 := rfl
  rw [hs] at hd
  simp only [rightB, hd]
  rw [Bool.eq_iff_iff]
  simp [refR, inB]
  try omega
theorem re_23 (d : UInt8) (b : List UInt8) : rightB 23 d b 1 2 1 1 true = refR 23 d b := by
  have hd := byte_dec 1 d
  have hs : (1 : UInt8).toNat = 1 := rfl
  rw [hs] at hd
  simp only [rightB, hd]
  rw [Bool.eq_iff_iff]
  simp [refR, inB]
  try omega
theorem re_26 (d : UInt8) (b : List UInt8) : rightB 26 d b 1 2 1 1 true = refR 26 d b := by
  have hd := byte_dec 1 d
  have hs : (1 : UInt8).toNat = 1 := rfl
  rw [hs] at hd
  simp only [rightB, hd]
  rw [Bool.eq_iff_iff]
  simp [refR, inB]
  try omega
theorem re_38 (d : UInt8) (b : List UInt8) : rightB 38 d b 1 2 1 1 true = refR 38 d b := by
  have hd := byte_dec 1 d
  have hs : (1 : UInt8).toNat = 1 := rfl
  rw [hs] at hd
  simp only [rightB, hd]
  rw [Bool.eq_iff_iff]
  simp [refR, inB]
  try omega
theorem re_52 (d : UInt8) (b : List UInt8) : rightB 52 d b 1 2 1 1 true = refR 52 d b := by
  have hd := byte_dec 1 d
  have hs : (1 : UInt8).toNat = 1 := rfl
  rw [hs] at hd
  simp only [rightB, hd]
  rw [Bool.eq_iff_iff]
  simp [refR, inB]
  try omega
theorem re_2 (d : UInt8) (b : List UInt8) : rightB 2 d b 6 2 1 256 true = refR 2 d b := by
  have hd := byte_dec 6 d
  have hs : (6 : UInt8).toNat = 6 := rfl
  rw [hs] at hd
  have ht := textB_eq b 512 false _ 1 256 rfl (text_false b)
  simp [rightB, refR, inB, hd, -decide_eq_decide]
  try simp at ht
  rw [← ht]
  cases decide (d.toNat = 6) <;> simp [Bool.and_assoc]
theorem re_25 (d : UInt8) (b : List UInt8) : rightB 25 d b 6 2 1 256 true = refR 25 d b := by
  have hd := byte_dec 6 d
  have hs : (6 : UInt8).toNat = 6 := rfl
  rw [hs] at hd
  have ht := textB_eq b 512 false _ 1 256 rfl (text_false b)
  simp [rightB, refR, inB, hd, -decide_eq_decide]
  try simp at ht
  rw [← ht]
  cases decide (d.toNat = 6) <;> simp [Bool.and_assoc]
theorem re_44 (d : UInt8) (b : List UInt8) : rightB 44 d b 6 2 1 256 true = refR 44 d b := by
  have hd := byte_dec 6 d
  have hs : (6 : UInt8).toNat = 6 := rfl
  rw [hs] at hd
  have ht := textB_eq b 512 false _ 1 256 rfl (text_false b)
  simp [rightB, refR, inB, hd, -decide_eq_decide]
  try simp at ht
  rw [← ht]
  cases decide (d.toNat = 6) <;> simp [Bool.and_assoc]
theorem re_55 (d : UInt8) (b : List UInt8) : rightB 55 d b 6 2 1 256 true = refR 55 d b := by
  have hd := byte_dec 6 d
  have hs : (6 : UInt8).toNat = 6 := rfl
  rw [hs] at hd
  have ht := textB_eq b 512 false _ 1 256 rfl (text_false b)
  simp [rightB, refR, inB, hd, -decide_eq_decide]
  try simp at ht
  rw [← ht]
  cases decide (d.toNat = 6) <;> simp [Bool.and_assoc]
theorem re_58 (d : UInt8) (b : List UInt8) : rightB 58 d b 6 2 1 256 true = refR 58 d b := by
  have hd := byte_dec 6 d
  have hs : (6 : UInt8).toNat = 6 := rfl
  rw [hs] at hd
  have ht := textB_eq b 512 false _ 1 256 rfl (text_false b)
  simp [rightB, refR, inB, hd, -decide_eq_decide]
  try simp at ht
  rw [← ht]
  cases decide (d.toNat = 6) <;> simp [Bool.and_assoc]
theorem re_6 (d : UInt8) (b : List UInt8) : rightB 6 d b 6 2 1 16 true = refR 6 d b := by
  have hd := byte_dec 6 d
  have hs : (6 : UInt8).toNat = 6 := rfl
  rw [hs] at hd
  have ht := textB_eq b 32 true _ 1 16 rfl (text_true b)
  simp [rightB, refR, inB, hd, -decide_eq_decide]
  try simp at ht
  rw [← ht]
  cases decide (d.toNat = 6) <;> simp [Bool.and_assoc]
theorem re_18 (d : UInt8) (b : List UInt8) : rightB 18 d b 6 2 1 16 true = refR 18 d b := by
  have hd := byte_dec 6 d
  have hs : (6 : UInt8).toNat = 6 := rfl
  rw [hs] at hd
  have ht := textB_eq b 32 true _ 1 16 rfl (text_true b)
  simp [rightB, refR, inB, hd, -decide_eq_decide]
  try simp at ht
  rw [← ht]
  cases decide (d.toNat = 6) <;> simp [Bool.and_assoc]
theorem re_35 (d : UInt8) (b : List UInt8) : rightB 35 d b 6 44 1 1 true = refR 35 d b := by
  have hd := byte_dec 6 d
  have hs : (6 : UInt8).toNat = 6 := rfl
  rw [hs] at hd
  simp only [rightB, hd]
  rw [Bool.eq_iff_iff]
  simp [refR, inB]
  try omega
theorem re_32 (d : UInt8) (b : List UInt8) : rightB 32 d b 6 176 1 1 true = refR 32 d b := by
  have hd := byte_dec 6 d
  have hs : (6 : UInt8).toNat = 6 := rfl
  rw [hs] at hd
  simp only [rightB, hd]
  rw [Bool.eq_iff_iff]
  simp [refR, inB]
  try omega
theorem re_31 (d : UInt8) (b : List UInt8) : rightB 31 d b 6 44 1 17 true = refR 31 d b := by
  have hd := byte_dec 6 d
  have hs : (6 : UInt8).toNat = 6 := rfl
  rw [hs] at hd
  simp only [rightB, hd]
  rw [Bool.eq_iff_iff]
  simp [refR, inB]
  try omega
theorem re_other (k d : UInt8) (b : List UInt8) (h : k ∉ kinds) : rightB k d b 0 0 0 0 false = refR k d b := by
  have hk := h
  simp only [kinds, List.mem_cons, List.not_mem_nil, or_false, not_or] at hk
  have ne : ∀ c : UInt8, k ≠ c → ((k.toNat : Int) == (c.toNat : Int)) = false := fun c h => by rw [byte_beq]; simpa using h
  have s0 : inB [0, 13, 14, 22, 33, 34, 42, 43, 46, 54, 57] k = false := by simp [inB, hk]
  have s1 : inB [1, 5] k = false := by simp [inB, hk]
  have s2 : ((k.toNat : Int) == 19) = false := ne 19 (fun e => h (by rw [e]; decide))
  have s3 : ((k.toNat : Int) == 59) = false := ne 59 (fun e => h (by rw [e]; decide))
  have s4 : inB [4, 7, 8, 9, 10, 11, 12, 17, 21, 45, 56] k = false := by simp [inB, hk]
  have s5 : inB [15, 47, 48, 49] k = false := by simp [inB, hk]
  have s6 : ((k.toNat : Int) == 16) = false := ne 16 (fun e => h (by rw [e]; decide))
  have s7 : inB [27, 28] k = false := by simp [inB, hk]
  have s8 : ((k.toNat : Int) == 3) = false := ne 3 (fun e => h (by rw [e]; decide))
  have s9 : inB [23, 26, 38, 52] k = false := by simp [inB, hk]
  have s10 : inB [2, 25, 44, 55, 58] k = false := by simp [inB, hk]
  have s11 : inB [6, 18] k = false := by simp [inB, hk]
  have s12 : ((k.toNat : Int) == 35) = false := ne 35 (fun e => h (by rw [e]; decide))
  have s13 : ((k.toNat : Int) == 32) = false := ne 32 (fun e => h (by rw [e]; decide))
  have s14 : ((k.toNat : Int) == 31) = false := ne 31 (fun e => h (by rw [e]; decide))
  simp [rightB, refR, s0, s1, s2, s3, s4, s5, s6, s7, s8, s9, s10, s11, s12, s13, s14]
theorem rightE (k d : UInt8) (b : List UInt8) (hb : b.length ≤ 9223372036854775807) : Eval Try.prog 17 [recAV k d b] (.ret (.v (.bool (refR k d b)))) := by
  by_cases h : k ∈ kinds
  · simp only [kinds, List.mem_cons, List.not_mem_nil, or_false] at h
    rcases h with rfl | rfl | rfl | rfl | rfl | rfl | rfl | rfl | rfl | rfl | rfl | rfl | rfl | rfl | rfl | rfl | rfl | rfl | rfl | rfl | rfl | rfl | rfl | rfl | rfl | rfl | rfl | rfl | rfl | rfl | rfl | rfl | rfl | rfl | rfl | rfl | rfl | rfl | rfl | rfl | rfl | rfl | rfl | rfl | rfl | rfl | rfl | rfl
    · rw [← re_0]; exact right_ok 0 d b hb 2 2 1 1 true (by decide) of_0
    · rw [← re_13]; exact right_ok 13 d b hb 2 2 1 1 true (by decide) of_13
    · rw [← re_14]; exact right_ok 14 d b hb 2 2 1 1 true (by decide) of_14
    · rw [← re_22]; exact right_ok 22 d b hb 2 2 1 1 true (by decide) of_22
    · rw [← re_33]; exact right_ok 33 d b hb 2 2 1 1 true (by decide) of_33
    · rw [← re_34]; exact right_ok 34 d b hb 2 2 1 1 true (by decide) of_34
    · rw [← re_42]; exact right_ok 42 d b hb 2 2 1 1 true (by decide) of_42
    · rw [← re_43]; exact right_ok 43 d b hb 2 2 1 1 true (by decide) of_43
    · rw [← re_46]; exact right_ok 46 d b hb 2 2 1 1 true (by decide) of_46
    · rw [← re_54]; exact right_ok 54 d b hb 2 2 1 1 true (by decide) of_54
    · rw [← re_57]; exact right_ok 57 d b hb 2 2 1 1 true (by decide) of_57
    · rw [← re_1]; exact right_ok 1 d b hb 2 24 1 1 true (by decide) of_1
    · rw [← re_5]; exact right_ok 5 d b hb 2 24 1 1 true (by decide) of_5
    · rw [← re_19]; exact right_ok 19 d b hb 2 4 1 1 true (by decide) of_19
    · rw [← re_59]; exact right_ok 59 d b hb 2 6 1 32 true (by decide) of_59
    · rw [← re_4]; exact right_ok 4 d b hb 0 1 0 0 true (by decide) of_4
    · rw [← re_7]; exact right_ok 7 d b hb 0 1 0 0 true (by decide) of_7
    · rw [← re_8]; exact right_ok 8 d b hb 0 1 0 0 true (by decide) of_8
    · rw [← re_9]; exact right_ok 9 d b hb 0 1 0 0 true (by decide) of_9
    · rw [← re_10]; exact right_ok 10 d b hb 0 1 0 0 true (by decide) of_10
    · rw [← re_11]; exact right_ok 11 d b hb 0 1 0 0 true (by decide) of_11
    · rw [← re_12]; exact right_ok 12 d b hb 0 1 0 0 true (by decide) of_12
    · rw [← re_17]; exact right_ok 17 d b hb 0 1 0 0 true (by decide) of_17
    · rw [← re_21]; exact right_ok 21 d b hb 0 1 0 0 true (by decide) of_21
    · rw [← re_45]; exact right_ok 45 d b hb 0 1 0 0 true (by decide) of_45
    · rw [← re_56]; exact right_ok 56 d b hb 0 1 0 0 true (by decide) of_56
    · rw [← re_15]; exact right_ok 15 d b hb 3 4 1 1 true (by decide) of_15
    · rw [← re_47]; exact right_ok 47 d b hb 3 4 1 1 true (by decide) of_47
    · rw [← re_48]; exact right_ok 48 d b hb 3 4 1 1 true (by decide) of_48
    · rw [← re_49]; exact right_ok 49 d b hb 3 4 1 1 true (by decide) of_49
    · rw [← re_16]; exact right_ok 16 d b hb 3 8 1 8191 true (by decide) of_16
    · rw [← re_27]; exact right_ok 27 d b hb 5 8 1 1 true (by decide) of_27
    · rw [← re_28]; exact right_ok 28 d b hb 5 8 1 1 true (by decide) of_28
    · rw [← re_3]; exact right_ok 3 d b hb 5 16 1 1 true (by decide) of_3
    · rw [← re_23]; exact right_ok 23 d b hb 1 2 1 1 true (by decide) of_23
    · rw [← re_26]; exact right_ok 26 d b hb 1 2 1 1 true (by decide) of_26
    · rw [← re_38]; exact right_ok 38 d b hb 1 2 1 1 true (by decide) of_38
    · rw [← re_52]; exact right_ok 52 d b hb 1 2 1 1 true (by decide) of_52
    · rw [← re_2]; exact right_ok 2 d b hb 6 2 1 256 true (by decide) of_2
    · rw [← re_25]; exact right_ok 25 d b hb 6 2 1 256 true (by decide) of_25
    · rw [← re_44]; exact right_ok 44 d b hb 6 2 1 256 true (by decide) of_44
    · rw [← re_55]; exact right_ok 55 d b hb 6 2 1 256 true (by decide) of_55
    · rw [← re_58]; exact right_ok 58 d b hb 6 2 1 256 true (by decide) of_58
    · rw [← re_6]; exact right_ok 6 d b hb 6 2 1 16 true (by decide) of_6
    · rw [← re_18]; exact right_ok 18 d b hb 6 2 1 16 true (by decide) of_18
    · rw [← re_35]; exact right_ok 35 d b hb 6 44 1 1 true (by decide) of_35
    · rw [← re_32]; exact right_ok 32 d b hb 6 176 1 1 true (by decide) of_32
    · rw [← re_31]; exact right_ok 31 d b hb 6 44 1 17 true (by decide) of_31
  · rw [← re_other k d b h]; exact right_ok k d b hb 0 0 0 0 false (by decide) (of_other k h)
end Go.Fw
