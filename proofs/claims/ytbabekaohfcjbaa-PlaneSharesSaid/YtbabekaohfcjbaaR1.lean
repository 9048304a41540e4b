/- frac: lowest, Make, Of, Whole, Den. -/
import Derived.Test.YtbabekaohfcjbaaZ3
set_option linter.unusedSimpArgs false
set_option linter.unusedVariables false
-- VALS: zAV, zC, ratAV, ratC
namespace Go.Fw
open Go Go.Proofs Go.IntWalk

/-- A number of the program's: a rational one; whether its denominator is left out (only 0's is). -/
structure FQ where
  q : Rat
  z : Bool
  h : z = true → q = 0
def FQ.of (q : Rat) : FQ := ⟨q, false, fun h => by cases h⟩
def ratC (r : FQ) : List AV := zC r.q.num ++ zC (if r.z then 0 else (r.q.den : Int))
def ratAV (r : FQ) : AV := .agg (ratC r)
def szQ (q : Rat) : Nat := (limbs q.num.natAbs).length + (limbs q.den).length

theorem limbs_mul (a b : Nat) : (limbs (a * b)).length ≤ (limbs a).length + (limbs b).length := by
  have h1 := val_lt (show 0 < B32 by decide) _ (limbs_lt a)
  have h2 := val_lt (show 0 < B32 by decide) _ (limbs_lt b)
  rw [val_limbs] at h1 h2
  refine digits_length_le B32_gt _ _ ?_
  rw [Nat.pow_add]
  exact Nat.mul_lt_mul'' h1 h2

theorem divInt_parts (n d : Int) (hd : d ≠ 0) :
    (Rat.divInt n d).num = (if d < 0 then -(n / (Nat.gcd n.natAbs d.natAbs : Int)) else n / (Nat.gcd n.natAbs d.natAbs : Int)) ∧
    ((Rat.divInt n d).den : Int) = (if d < 0 then -(d / (Nat.gcd n.natAbs d.natAbs : Int)) else d / (Nat.gcd n.natAbs d.natAbs : Int)) := by
  have hg : Int.gcd d n = Nat.gcd n.natAbs d.natAbs := by rw [Int.gcd_eq_natAbs_gcd_natAbs, Nat.gcd_comm]
  have hgn : (Nat.gcd n.natAbs d.natAbs : Int) ∣ n := by
    exact Int.dvd_natAbs.1 (Int.natCast_dvd_natCast.2 (Nat.gcd_dvd_left n.natAbs d.natAbs))
  have hgd : (Nat.gcd n.natAbs d.natAbs : Int) ∣ d := Int.dvd_natAbs.1 (Int.natCast_dvd_natCast.2 (Nat.gcd_dvd_right n.natAbs d.natAbs))
  rw [Rat.num_divInt, Rat.den_divInt, if_neg hd, hg]
  constructor
  · split
    · rename_i h0
      rw [Int.sign_eq_neg_one_of_neg h0, ← Int.neg_ediv_of_dvd hgn]; congr 1; omega
    · rename_i h0
      rw [Int.sign_eq_one_of_pos (by omega), Int.one_mul]
  · rw [Int.natCast_ediv]
    split
    · rename_i h0
      rw [← Int.neg_ediv_of_dvd hgd]; congr 1; omega
    · rename_i h0
      congr 1; omega

theorem ratC_of (n d : Int) (hd : d ≠ 0) : zC (if d < 0 then -(n / (Nat.gcd n.natAbs d.natAbs : Int)) else n / (Nat.gcd n.natAbs d.natAbs : Int)) ++ zC (if d < 0 then -(d / (Nat.gcd n.natAbs d.natAbs : Int)) else d / (Nat.gcd n.natAbs d.natAbs : Int)) = ratC (.of (Rat.divInt n d)) := by
  obtain ⟨h1, h2⟩ := divInt_parts n d hd
  rw [← h1, ← h2]
  rfl

set_option linter.unusedSimpArgs false
set_option maxRecDepth 100000
set_option maxHeartbeats 4000000
open List (map_take map_drop)
attribute [local push_cast] optK_some optK_none optK_ite optK_map optK_bind gOn stepK isMem evPure evMem evBin evUn evConv evLen evBuiltin evMinMax evSlice evBuild evAppend evIndex evIndexAddr evField evFieldAddr intBin strBin appDest AS.val AS.mem AS.elems AS.put AS.put' AS.eff AV.cells? AV.isCell AV.refs all_isByte take_byteV drop_byteV strOf_map bndOk bnd partAV ptrAdd killBox catA inOrder fillA setAt ofVal resB upd byteV List.head?_take List.head?_drop List.getElem?_map mkS_env mkS_box mkS_used entry_env entry_box entry_used lk stepD lookIds Oper.looksAt Op.operands Call.operands St.ids refsL renL_append ren renL renBox Box.refs iV i64V boolV dV_getElem dV_app dV_cons toNat_add2 toNat_add1
attribute [local simp ↓] numC_refs numC_isCell numC_cells numC_resB numC_resD numC_ren numC_closeC numC_isOwn
theorem lowest_ok (n d : Int) (hd : d ≠ 0) (h : (limbs n.natAbs).length + (limbs d.natAbs).length ≤ 1000000) : Eval Try.prog 49 [zAV n, zAV d] (.ret (ratAV (.of (Rat.divInt n d)))) := by
  refine Eval.intro Try.func49 rfl Try.call49 _ _ (Nat.le_of_ble_eq_true rfl) (by simp [-map_take,-map_drop, AV.refs, refsL, natAV, zAV, zC, ratAV, ratC, push_cast]) fun hs0 => ?_
  obtain ⟨g, hg⟩ : ∃ g, g = Nat.gcd n.natAbs d.natAbs := ⟨_, rfl⟩
  have hr := ratC_of n d hd
  rw [← hg] at hr
  have hg0 : 0 < g := by rw [hg]; exact Nat.gcd_pos_of_pos_right _ (by omega)
  have hgle : g ≤ d.natAbs := by rw [hg]; exact Nat.gcd_le_right _ (by omega)
  have hgl := limbs_le hgle
  have eg := natGcd_ok n.natAbs d.natAbs (by omega) (by omega)
  rw [← hg] at eg
  have e1 := natOf_ok 1 (by decide)
  have ec := natCmp_ok g 1
  have hgI : (g : Int) ≠ 0 := by omega
  have hdg : d / (g : Int) ≠ 0 := by
    intro h0
    have hdv : (g : Int) ∣ d := by rw [hg]; exact Int.dvd_natAbs.1 (Int.natCast_dvd_natCast.2 (Nat.gcd_dvd_right n.natAbs d.natAbs))
    have := Int.ediv_mul_cancel hdv
    rw [h0] at this
    omega
  have hdneg : d / (g : Int) < 0 ↔ d < 0 := by
    constructor
    · intro h0
      rcases (by omega : d < 0 ∨ 0 ≤ d) with h1 | h1
      · exact h1
      · have := Int.ediv_nonneg h1 (show (0 : Int) ≤ g by omega)
        omega
    · intro h0
      exact Int.ediv_neg_of_neg_of_pos h0 (by omega)
  have hnl : (limbs (n / (g : Int)).natAbs).length ≤ (limbs n.natAbs).length := limbs_le (Int.natAbs_ediv_le_natAbs n g)
  have hdl : (limbs (d / (g : Int)).natAbs).length ≤ (limbs d.natAbs).length := limbs_le (Int.natAbs_ediv_le_natAbs d g)
  have es := sign_ok (d / (g : Int)) (by omega)
  have en1 := neg_ok (n / (g : Int)) (by omega)
  have en2 := neg_ok (d / (g : Int)) (by omega)
  have ef1 := floorZ_ok n g hgI (by rw [Int.natAbs_natCast]; omega)
  have ef2 := floorZ_ok d g hgI (by rw [Int.natAbs_natCast]; omega)
  by_cases h1 : g = 1
  · subst h1
    have hc1 : cmpN 1 1 = 0 := by decide
    rw [hc1] at ec
    have q1 : n / ((1 : Nat) : Int) = n := Int.ediv_one n
    have q2 : d / ((1 : Nat) : Int) = d := Int.ediv_one d
    rw [q1] at hr en1
    rw [q2] at hr en2 es
    repeat' (first
      | with_reducible first | apply thenW_n | apply W_seq
      | with_reducible refine W_region (by first | decide | (with_unfolding_all rfl)) ?_
      | (rw [vcn]; (try simp [-map_take,-map_drop, push_cast, zAV, zC]))
      | with_reducible refine W_drawn mixed (by decide) (by kernel_rfl) ?_
      | (rw [vcnD]; (try simp [-map_take,-map_drop, push_cast, zAV, zC]))
      | fail)
    refine callD_of (abs_ok n) rfl rfl rfl ?_
    try dsimp only
    repeat' (first
      | (rw [vcnD]; (try simp [-map_take,-map_drop, push_cast, zAV, zC]))
      | fail)
    refine callD_of (abs_ok d) rfl rfl rfl ?_
    try dsimp only
    repeat' (first
      | (rw [vcnD]; (try simp [-map_take,-map_drop, push_cast, natAV]))
      | fail)
    refine callD_of (eg) rfl rfl rfl ?_
    try dsimp only
    repeat' (first
      | with_reducible first | apply thenW_n | apply W_seq
      | with_reducible refine W_region (by first | decide | (with_unfolding_all rfl)) ?_
      | (rw [vcn]; (try simp [-map_take,-map_drop, push_cast, natAV]))
      | (rw [vcnD]; (try simp [-map_take,-map_drop, push_cast, natAV]))
      | refine And.intro (by first | omega | kernel_rfl) ?_
      | fail)
    refine CallG_of (e1) rfl rfl rfl ?_
    try dsimp only
    repeat' (first
      | with_reducible first | apply thenW_n | apply W_seq
      | with_reducible refine W_region (by first | decide | (with_unfolding_all rfl)) ?_
      | (rw [vcn]; (try simp [-map_take,-map_drop, push_cast, natAV]))
      | fail)
    refine CallG_of (ec) rfl rfl rfl ?_
    try dsimp only
    repeat' (first
      | with_reducible first | apply thenW_n | apply W_seq | apply W_skip
      | with_reducible refine W_region (by first | decide | (with_unfolding_all rfl)) ?_
      | (rw [vcn]; (try simp [-map_take,-map_drop, push_cast, zAV, zC]))
      | (with_reducible refine W_condW ?_; (try simp [-map_take,-map_drop, AS.val, upd, resB, mkS_env, mkS_box, lk, entry_env, condW_true, condW_false, zAV, zC]))
      | fail)
    refine CallG_of (es) rfl rfl rfl ?_
    try dsimp only
    by_cases h0 : d < 0
    · rw [Int.sign_eq_neg_one_of_neg h0]
      rw [if_pos h0, if_pos h0] at hr
      repeat' (first
        | with_reducible apply thenW_n
        | (rw [vcn]; (try simp [-map_take,-map_drop, push_cast, zAV, zC]))
        | with_reducible refine W_drawn mixed (by decide) (by kernel_rfl) ?_
        | (rw [vcnD]; (try simp [-map_take,-map_drop, push_cast, zAV, zC]))
        | (with_reducible refine W_condW ?_; (try simp [-map_take,-map_drop, AS.val, upd, resB, mkS_env, mkS_box, lk, entry_env, condW_true, condW_false, zAV, zC]))
        | fail)
      refine callD_of (en1) rfl rfl rfl ?_
      try dsimp only
      repeat' (first
        | (rw [vcnD]; (try simp [-map_take,-map_drop, push_cast, zAV, zC]))
        | fail)
      refine callD_of (en2) rfl rfl rfl ?_
      try dsimp only
      repeat' (first
        | with_reducible first | apply thenW_n | apply W_seq | apply W_ret
        | with_reducible refine W_region (by first | decide | (with_unfolding_all rfl)) ?_
        | (rw [vcn]; (try simp [-map_take,-map_drop, push_cast, zAV, zC]))
        | (rw [vcnD]; (try simp [-map_take,-map_drop, push_cast, zAV, zC]))
        | refine And.intro (by first | omega | kernel_rfl) ?_
        | fail)
      simp [-map_take,-map_drop, post, resAV, resAll, resOne, closeV, closeC, closeL, resD, resDL, push_cast, zAV, zC, ratAV, ← hr]
    · rw [Int.sign_eq_one_of_pos (by omega)]
      rw [if_neg h0, if_neg h0] at hr
      repeat' (first
        | with_reducible first | apply thenW_n | apply W_seq | apply W_skip | apply W_ret
        | with_reducible refine W_region (by first | decide | (with_unfolding_all rfl)) ?_
        | (rw [vcn]; (try simp [-map_take,-map_drop, push_cast, zAV, zC]))
        | (with_reducible refine W_condW ?_; (try simp [-map_take,-map_drop, AS.val, upd, resB, mkS_env, mkS_box, lk, entry_env, condW_true, condW_false, zAV, zC]))
        | fail)
      simp [-map_take,-map_drop, post, resAV, resAll, resOne, closeV, closeC, closeL, resD, resDL, push_cast, zAV, zC, ratAV, ← hr]
  · have hc1 : cmpN g 1 ≠ 0 := by simp only [cmpN]; split <;> (try split) <;> omega
    obtain ⟨k, hk⟩ : ∃ k, k = cmpN g 1 := ⟨_, rfl⟩
    rw [← hk] at ec hc1
    have hkk : (k = (0 : Int)) = False := by simpa [-map_take,-map_drop] using hc1
    repeat' (first
      | with_reducible first | apply thenW_n | apply W_seq
      | with_reducible refine W_region (by first | decide | (with_unfolding_all rfl)) ?_
      | (rw [vcn]; (try simp [-map_take,-map_drop, push_cast, zAV, zC]))
      | with_reducible refine W_drawn mixed (by decide) (by kernel_rfl) ?_
      | (rw [vcnD]; (try simp [-map_take,-map_drop, push_cast, zAV, zC]))
      | fail)
    refine callD_of (abs_ok n) rfl rfl rfl ?_
    try dsimp only
    repeat' (first
      | (rw [vcnD]; (try simp [-map_take,-map_drop, push_cast, zAV, zC]))
      | fail)
    refine callD_of (abs_ok d) rfl rfl rfl ?_
    try dsimp only
    repeat' (first
      | (rw [vcnD]; (try simp [-map_take,-map_drop, push_cast, natAV]))
      | fail)
    refine callD_of (eg) rfl rfl rfl ?_
    try dsimp only
    repeat' (first
      | with_reducible first | apply thenW_n | apply W_seq
      | with_reducible refine W_region (by first | decide | (with_unfolding_all rfl)) ?_
      | (rw [vcn]; (try simp [-map_take,-map_drop, push_cast, natAV]))
      | (rw [vcnD]; (try simp [-map_take,-map_drop, push_cast, natAV]))
      | refine And.intro (by first | omega | kernel_rfl) ?_
      | fail)
    refine CallG_of (e1) rfl rfl rfl ?_
    try dsimp only
    repeat' (first
      | with_reducible first | apply thenW_n | apply W_seq
      | with_reducible refine W_region (by first | decide | (with_unfolding_all rfl)) ?_
      | (rw [vcn]; (try simp [-map_take,-map_drop, push_cast, natAV]))
      | fail)
    refine CallG_of (ec) rfl rfl rfl ?_
    try dsimp only
    repeat' (first
      | with_reducible first | apply thenW_n | apply W_seq
      | (rw [vcn]; (try simp [-map_take,-map_drop, push_cast, natAV, hkk]))
      | with_reducible refine W_drawn mixed (by decide) (by kernel_rfl) ?_
      | (rw [vcnD]; (try simp [-map_take,-map_drop, push_cast, natAV, hkk]))
      | (with_reducible refine W_condW ?_; (try simp [-map_take,-map_drop, AS.val, upd, resB, mkS_env, mkS_box, lk, entry_env, condW_true, condW_false, natAV, hkk]))
      | ((with_reducible refine condW_b (fun hc => ?_) (fun hc => ?_) <;> (try simp [-map_take,-map_drop, Int.ofNat_inj] at hc) <;> (try contradiction)))
      | fail)
    · refine callD_of (big_ok g (by omega)) rfl rfl rfl ?_
      try dsimp only
      repeat' (first
        | (rw [vcnD]; (try simp [-map_take,-map_drop, push_cast, natAV]))
        | fail)
      refine callD_of (ef1) rfl rfl rfl ?_
      try dsimp only
      repeat' (first
        | with_reducible apply thenW_n
        | with_reducible refine W_drawn mixed (by decide) (by kernel_rfl) ?_
        | (rw [vcnD]; (try simp [-map_take,-map_drop, push_cast, zAV, zC]))
        | refine And.intro (by first | omega | kernel_rfl) ?_
        | fail)
      refine callD_of (big_ok g (by omega)) rfl rfl rfl ?_
      try dsimp only
      repeat' (first
        | (rw [vcnD]; (try simp [-map_take,-map_drop, push_cast, natAV]))
        | fail)
      refine callD_of (ef2) rfl rfl rfl ?_
      try dsimp only
      repeat' (first
        | with_reducible first | apply thenW_n | apply W_seq
        | with_reducible refine W_region (by first | decide | (with_unfolding_all rfl)) ?_
        | (rw [vcn]; (try simp [-map_take,-map_drop, push_cast, zAV, zC]))
        | (rw [vcnD]; (try simp [-map_take,-map_drop, push_cast, zAV, zC]))
        | refine And.intro (by first | omega | kernel_rfl) ?_
        | fail)
      refine CallG_of (es) rfl rfl rfl ?_
      try dsimp only
      by_cases h0 : d < 0
      · rw [Int.sign_eq_neg_one_of_neg (hdneg.2 h0)]
        rw [if_pos h0, if_pos h0] at hr
        repeat' (first
          | with_reducible apply thenW_n
          | (rw [vcn]; (try simp [-map_take,-map_drop, push_cast, zAV, zC]))
          | with_reducible refine W_drawn mixed (by decide) (by kernel_rfl) ?_
          | (rw [vcnD]; (try simp [-map_take,-map_drop, push_cast, zAV, zC]))
          | (with_reducible refine W_condW ?_; (try simp [-map_take,-map_drop, AS.val, upd, resB, mkS_env, mkS_box, lk, entry_env, condW_true, condW_false, zAV, zC]))
          | fail)
        refine callD_of (en1) rfl rfl rfl ?_
        try dsimp only
        repeat' (first
          | (rw [vcnD]; (try simp [-map_take,-map_drop, push_cast, zAV, zC]))
          | fail)
        refine callD_of (en2) rfl rfl rfl ?_
        try dsimp only
        repeat' (first
          | with_reducible first | apply thenW_n | apply W_seq | apply W_ret
          | with_reducible refine W_region (by first | decide | (with_unfolding_all rfl)) ?_
          | (rw [vcn]; (try simp [-map_take,-map_drop, push_cast, zAV, zC]))
          | (rw [vcnD]; (try simp [-map_take,-map_drop, push_cast, zAV, zC]))
          | refine And.intro (by first | omega | kernel_rfl) ?_
          | fail)
        simp [-map_take,-map_drop, post, resAV, resAll, resOne, closeV, closeC, closeL, resD, resDL, push_cast, zAV, zC, ratAV, ← hr]
      · rw [Int.sign_eq_one_of_pos (by have := mt hdneg.1 h0; omega)]
        rw [if_neg h0, if_neg h0] at hr
        repeat' (first
          | with_reducible first | apply thenW_n | apply W_seq | apply W_skip | apply W_ret
          | with_reducible refine W_region (by first | decide | (with_unfolding_all rfl)) ?_
          | (rw [vcn]; (try simp [-map_take,-map_drop, push_cast, zAV, zC]))
          | (with_reducible refine W_condW ?_; (try simp [-map_take,-map_drop, AS.val, upd, resB, mkS_env, mkS_box, lk, entry_env, condW_true, condW_false, zAV, zC]))
          | fail)
        simp [-map_take,-map_drop, post, resAV, resAll, resOne, closeV, closeC, closeL, resD, resDL, push_cast, zAV, zC, ratAV, ← hr]
end Go.Fw
