import Derived.Test.YtmmkclefdpmjlaaZ2b
set_option linter.unusedSimpArgs false
set_option linter.unusedVariables false
-- VALS: zAV, zC, ratAV, ratC
namespace Go.Fw
open Go Go.Proofs Go.IntWalk
structure FQ where
  q : Rat
  z : Bool
  h : z = true → q = 0
def FQ.of (q : Rat) : FQ := ⟨q, false, fun h => by cases h⟩
def ratC (r : FQ) : List AV := zC r.q.num ++ zC (if r.z then 0 else (r.q.den : Int))
def ratAV (r : FQ) : AV := .agg (ratC r)
def szQ (q : Rat) : Nat := (limbs q.num.natAbs).length + (limbs q.den).length
theorem limbs_mul (a b : Nat) : (limbs (a * b)).length ≤ (limbs a).length + (limbs b).length := by
  have h1 := val_lt (show 0 < B32 by decide) _ (limbs_lt a)
  have h2 := val_lt (show 0 < B32 by decide) _ (limbs_lt b)
  rw [val_limbs] at h1 h2
  refine digits_length_le B32_gt _ _ ?_
  rw [Nat.pow_add]
  exact Nat.mul_lt_mul'' h1 h2
theorem divInt_parts (n d : Int) (hd : d ≠ 0) :
    (Rat.divInt n d).num = (if d < 0 then -(n / (Nat.gcd n.natAbs d.natAbs : Int)) else n / (Nat.gcd n.natAbs d.natAbs : Int)) ∧
    ((Rat.divInt n d).den : Int) = (if d < 0 then -(d / (Nat.gcd n.natAbs d.natAbs : Int)) else d / (Nat.gcd n.natAbs d.natAbs : Int)) := by
  have hg : Int.gcd d n = Nat.gcd n.natAbs d.natAbs := by rw [Int.gcd_eq_natAbs_gcd_natAbs, Nat.gcd_comm]
  have hgn : (Nat.gcd n.natAbs d.natAbs : Int) ∣ n := by
    exact Int.dvd_natAbs.1 (Int.natCast_dvd_natCast.2 (Nat.gcd_dvd_left n.natAbs d.natAbs))
  have hgd : (Nat.gcd n.natAbs d.natAbs : Int) ∣ d := Int.dvd_natAbs.1 (Int.natCast_dvd_natCast.2 (Nat.gcd_dvd_right n.natAbs d.natAbs))
  rw [Rat.num_divInt, Rat.den_divInt, if_neg hd, hg]
  constructor
  · split
    · rename_i h0
      rw [Int.sign_eq_neg_one_of_neg h0, ← Int.neg_ediv_of_dvd hgn]; congr 1; omega
    · rename_i h0
      rw [Int.sign_eq_one_of_pos (by omega), Int.one_mul]
  · rw [Int.natCast_ediv]
    split
    · rename_i h0
      rw [← Int.neg_ediv_of_dvd hgd]; congr 1; omega
    · rename_i h0
      congr 1; omega
theorem ratC_of (n d : Int) (hd : d ≠ 0) : zC (if d < 0 then -(n / (Nat.gcd n.natAbs d.natAbs : Int)) else n / (Nat.gcd n.natAbs d.natAbs : Int)) ++ zC (if d < 0 then -(d / (Nat.gcd n.natAbs d.natAbs : Int)) else d / (Nat.gcd n.natAbs d.natAbs : Int)) = ratC (.of (Rat.divInt n d)) := by
  obtain ⟨h1, h2⟩ := divInt_parts n d hd
  rw [← h1, ← h2]
  rfl
set_option linter.unusedSimpArgs false
set_option maxRecDepth 100000
set_option maxHeartbeats 4000000
open List (map_take map_drop)
attribute [local push_cast] optK_some optK_none optK_ite optK_map optK_bind gOn stepK isMem evPure evMem evBin evUn evConv evLen evBuiltin evMinMax evSlice evBuild evAppend evIndex evIndexAddr evField evFieldAddr intBin strBin appDest AS.val AS.mem AS.elems AS.put AS.put' AS.eff AV.cells? AV.isCell AV.refs all_isByte take_byteV drop_byteV strOf_map bndOk bnd partAV ptrAdd killBox catA inOrder fillA setAt ofVal resB upd byteV List.head?_take List.head?_drop List.getElem?_map mkS_env mkS_box mkS_used entry_env entry_box entry_used lk stepD lookIds Oper.looksAt Op.operands Call.operands St.ids refsL renL_append ren renL renBox Box.refs iV i64V boolV dV_getElem dV_app dV_cons toNat_add2 toNat_add1
attribute [local simp ↓] numC_refs numC_isCell numC_cells numC_resB numC_resD numC_ren numC_closeC numC_isOwn
theorem lowest_ok (n d : Int) (hd : d ≠ 0) (h : (limbs n.natAbs).length + (limbs d.natAbs).length ≤ 1000000) : Eval Try.prog 58 [zAV n, zAV d] (.ret (ratAV (.of (Rat.divInt n d)))) := by
  refine Eval.intro Try.func58 rfl Try.call58 _ _ (Nat.le_of_ble_eq_true rfl) (by simp [-map_take,-map_drop, AV.refs, refsL, natAV, zAV, zC, ratAV, ratC, push_cast]) fun hs0 => ?_
  obtain ⟨g, hg⟩ : ∃ g, g = Nat.gcd n.natAbs d.natAbs := ⟨_, rfl⟩
  have hr := ratC_of n d hd
  rw [← hg] at hr
  have hg0 : 0 < g := by rw [hg]; exact Nat.gcd_pos_of_pos_right _ (by omega)
  have hgle : g ≤ d.natAbs := by rw [hg]; exact Nat.gcd_le_right _ (by omega)
  have hgl := limbs_le hgle
  have eg := natGcd_ok n.natAbs d.natAbs (by omega) (by omega)
  rw [← hg] at eg
  have e1 := natOf_ok 1 (by decide)
  have ec := natCmp_ok g 1
  have hgI : (g : Int) ≠ 0 := by omega
  have hdg : d / (g : Int) ≠ 0 := by
    intro h0
    have hdv : (g : Int) ∣ d := by rw [hg]; exact Int.dvd_natAbs.1 (Int.natCast_dvd_natCast.2 (Nat.gcd_dvd_right n.natAbs d.natAbs))
    have := Int.ediv_mul_cancel hdv
    rw [h0] at this
    omega
  have hdneg : d / (g : Int) < 0 ↔ d < 0 := by
    constructor
    · intro h0
      rcases (by omega : d < 0 ∨ 0 ≤ d) with h1 | h1
      · exact h1
      · have := Int.ediv_nonneg h1 (show (0 : Int) ≤ g by omega)
        omega
    · intro h0
      exact Int.ediv_neg_of_neg_of_pos h0 (by omega)
  have hnl : (limbs (n / (g : Int)).natAbs).length ≤ (limbs n.natAbs).length := limbs_le (Int.natAbs_ediv_le_natAbs n g)
  have hdl : (limbs (d / (g : Int)).natAbs).length ≤ (limbs d.natAbs).length := limbs_le (Int.natAbs_ediv_le_natAbs d g)
  have es := sign_ok (d / (g : Int)) (by omega)
  have en1 := neg_ok (n / (g : Int)) (by omega)
  have en2 := neg_ok (d / (g : Int)) (by omega)
  have ef1 := floorZ_ok n g hgI (by rw [Int.natAbs_natCast]; omega)
  have ef2 := floorZ_ok d g hgI (by rw [Int.natAbs_natCast]; omega)
  by_cases h1 : g = 1
  · subst h1
    have hc1 : cmpN 1 1 = 0 := by decide
    rw [hc1] at ec
    have q1 : n / ((1 : Nat) : Int) = n := Int.ediv_one n
    have q2 : d / ((1 : Nat) : Int) = d := Int.ediv_one d
    rw [q1] at hr en1
    rw [q2] at hr en2 es
    repeat' (first
      | with_reducible first | apply thenW_n | apply W_seq
      | with_reducible refine W_rg ?_
      | (rw [vcn]; (try simp [-map_take,-map_drop, push_cast, zAV, zC]))
      | with_reducible refine W_drawn mixed (by decide) (by kernel_rfl) ?_
      | (rw [vcnD]; (try simp [-map_take,-map_drop, push_cast, zAV, zC]))
      | fail)
    refine callD_of (abs_ok n) rfl rfl rfl ?_
    try dsimp only
    repeat' (first
      | (rw [vcnD]; (try simp [-map_take,-map_drop, push_cast, zAV, zC]))
      | fail)
    refine callD_of (abs_ok d) rfl rfl rfl ?_
    try dsimp only
    repeat' (first
      | (rw [vcnD]; (try simp [-map_take,-map_drop, push_cast, natAV]))
      | fail)
    refine callD_of (eg) rfl rfl rfl ?_
    try dsimp only
    repeat' (first
      | with_reducible first | apply thenW_n | apply W_seq
      | with_reducible refine W_rg ?_
      | (rw [vcn]; (try simp [-map_take,-map_drop, push_cast, natAV]))
      | (rw [vcnD]; (try simp [-map_take,-map_drop, push_cast, natAV]))
      | refine And.intro (by first | omega | kernel_rfl) ?_
      | fail)
    refine CallG_of (e1) rfl rfl rfl ?_
    try dsimp only
    repeat' (first
      | with_reducible first | apply thenW_n | apply W_seq
      | with_reducible refine W_rg ?_
      | (rw [vcn]; (try simp [-map_take,-map_drop, push_cast, natAV]))
      | fail)
    refine CallG_of (ec) rfl rfl rfl ?_
    try dsimp only
    repeat' (first
      | with_reducible first | apply thenW_n | apply W_seq | apply W_skip
      | with_reducible refine W_rg ?_
      | (rw [vcn]; (try simp [-map_take,-map_drop, push_cast, zAV, zC]))
      | (with_reducible refine W_condW ?_; (try simp [-map_take,-map_drop, AS.val, upd, resB, mkS_env, mkS_box, lk, entry_env, condW_true, condW_false, zAV, zC]))
      | fail)
    refine CallG_of (es) rfl rfl rfl ?_
    try dsimp only
    by_cases h0 : d < 0
    · rw [Int.sign_eq_neg_one_of_neg h0]
      rw [if_pos h0, if_pos h0] at hr
      repeat' (first
        | with_reducible apply thenW_n
        | (rw [vcn]; (try simp [-map_take,-map_drop, push_cast, zAV, zC]))
        | with_reducible refine W_drawn mixed (by decide) (by kernel_rfl) ?_
        | (rw [vcnD]; (try simp [-map_take,-map_drop, push_cast, zAV, zC]))
        | (with_reducible refine W_condW ?_; (try simp [-map_take,-map_drop, AS.val, upd, resB, mkS_env, mkS_box, lk, entry_env, condW_true, condW_false, zAV, zC]))
        | fail)
      refine callD_of (en1) rfl rfl rfl ?_
      try dsimp only
      repeat' (first
        | (rw [vcnD]; (try simp [-map_take,-map_drop, push_cast, zAV, zC]))
        | fail)
      refine callD_of (en2) rfl rfl rfl ?_
      try dsimp only
      repeat' (first
        | with_reducible first | apply thenW_n | apply W_seq | apply W_ret
        | with_reducible refine W_rg ?_
        | (rw [vcn]; (try simp [-map_take,-map_drop, push_cast, zAV, zC]))
        | (rw [vcnD]; (try simp [-map_take,-map_drop, push_cast, zAV, zC]))
        | refine And.intro (by first | omega | kernel_rfl) ?_
        | fail)
      simp [-map_take,-map_drop, post, resAV, resAll, resOne, closeV, closeC, closeL, resD, resDL, push_cast, zAV, zC, ratAV, ← hr]
    · rw [Int.sign_eq_one_of_pos (by omega)]
      rw [if_neg h0, if_neg h0] at hr
      repeat' (first
        | with_reducible first | apply thenW_n | apply W_seq | apply W_skip | apply W_ret
        | with_reducible refine W_rg ?_
        | (rw [vcn]; (try simp [-map_take,-map_drop, push_cast, zAV, zC]))
        | (with_reducible refine W_condW ?_; (try simp [-map_take,-map_drop, AS.val, upd, resB, mkS_env, mkS_box, lk, entry_env, condW_true, condW_false, zAV, zC]))
        | fail)
      simp [-map_take,-map_drop, post, resAV, resAll, resOne, closeV, closeC, closeL, resD, resDL, push_cast, zAV, zC, ratAV, ← hr]
  · have hc1 : cmpN g 1 ≠ 0 := by simp only [cmpN]; split <;> (try split) <;> omega
    obtain ⟨k, hk⟩ : ∃ k, k = cmpN g 1 := ⟨_, rfl⟩
    rw [← hk] at ec hc1
    have hkk : (k = (0 : Int)) = False := by simpa [-map_take,-map_drop] using hc1
    repeat' (first
      | with_reducible first | apply thenW_n | apply W_seq
      | with_reducible refine W_rg ?_
      | (rw [vcn]; (try simp [-map_take,-map_drop, push_cast, zAV, zC]))
      | with_reducible refine W_drawn mixed (by decide) (by kernel_rfl) ?_
      | (rw [vcnD]; (try simp [-map_take,-map_drop, push_cast, zAV, zC]))
      | fail)
    refine callD_of (abs_ok n) rfl rfl rfl ?_
    try dsimp only
    repeat' (first
      | (rw [vcnD]; (try simp [-map_take,-map_drop, push_cast, zAV, zC]))
      | fail)
    refine callD_of (abs_ok d) rfl rfl rfl ?_
    try dsimp only
    repeat' (first
      | (rw [vcnD]; (try simp [-map_take,-map_drop, push_cast, natAV]))
      | fail)
    refine callD_of (eg) rfl rfl rfl ?_
    try dsimp only
    repeat' (first
      | with_reducible first | apply thenW_n | apply W_seq
      | with_reducible refine W_rg ?_
      | (rw [vcn]; (try simp [-map_take,-map_drop, push_cast, natAV]))
      | (rw [vcnD]; (try simp [-map_take,-map_drop, push_cast, natAV]))
      | refine And.intro (by first | omega | kernel_rfl) ?_
      | fail)
    refine CallG_of (e1) rfl rfl rfl ?_
    try dsimp only
    repeat' (first
      | with_reducible first | apply thenW_n | apply W_seq
      | with_reducible refine W_rg ?_
      | (rw [vcn]; (try simp [-map_take,-map_drop, push_cast, natAV]))
      | fail)
    refine CallG_of (ec) rfl rfl rfl ?_
    try dsimp only
    repeat' (first
      | with_reducible first | apply thenW_n | apply W_seq
      | (rw [vcn]; (try simp [-map_take,-map_drop, push_cast, natAV, hkk]))
      | with_reducible refine W_drawn mixed (by decide) (by kernel_rfl) ?_
      | (rw [vcnD]; (try simp [-map_take,-map_drop, push_cast, natAV, hkk]))
      | (with_reducible refine W_condW ?_; (try simp [-map_take,-map_drop, AS.val, upd, resB, mkS_env, mkS_box, lk, entry_env, condW_true, condW_false, natAV, hkk]))
      | ((with_reducible refine condW_b (fun hc => ?_) (fun hc => ?_) <;> (try simp [-map_take,-map_drop, Int.ofNat_inj] at hc) <;> (try contradiction)))
      | fail)
    · refine callD_of (big_ok g (by omega)) rfl rfl rfl ?_
      try dsimp only
      repeat' (first
        | (rw [vcnD]; (try simp [-map_take,-map_drop, push_cast, natAV]))
        | fail)
      refine callD_of (ef1) rfl rfl rfl ?_
      try dsimp only
      repeat' (first
        | with_reducible apply thenW_n
        | with_reducible refine W_drawn mixed (by decide) (by kernel_rfl) ?_
        | (rw [vcnD]; (try simp [-map_take,-map_drop, push_cast, zAV, zC]))
        | refine And.intro (by first | omega | kernel_rfl) ?_
        | fail)
      refine callD_of (big_ok g (by omega)) rfl rfl rfl ?_
      try dsimp only
      repeat' (first
        | (rw [vcnD]; (try simp [-map_take,-map_drop, push_cast, natAV]))
        | fail)
      refine callD_of (ef2) rfl rfl rfl ?_
      try dsimp only
      repeat' (first
        | with_reducible first | apply thenW_n | apply W_seq
        | with_reducible refine W_rg ?_
        | (rw [vcn]; (try simp [-map_take,-map_drop, push_cast, zAV, zC]))
        | (rw [vcnD]; (try simp [-map_take,-map_drop, push_cast, zAV, zC]))
        | refine And.intro (by first | omega | kernel_rfl) ?_
        | fail)
      refine CallG_of (es) rfl rfl rfl ?_
      try dsimp only
      by_cases h0 : d < 0
      · rw [Int.sign_eq_neg_one_of_neg (hdneg.2 h0)]
        rw [if_pos h0, if_pos h0] at hr
        repeat' (first
          | with_reducible apply thenW_n
          | (rw [vcn]; (try simp [-map_take,-map_drop, push_cast, zAV, zC]))
          | with_reducible refine W_drawn mixed (by decide) (by kernel_rfl) ?_
          | (rw [vcnD]; (try simp [-map_take,-map_drop, push_cast, zAV, zC]))
          | (with_reducible refine W_condW ?_; (try simp [-map_take,-map_drop, AS.val, upd, resB, mkS_env, mkS_box, lk, entry_env, condW_true, condW_false, zAV, zC]))
          | fail)
        refine callD_of (en1) rfl rfl rfl ?_
        try dsimp only
        repeat' (first
          | (rw [vcnD]; (try simp [-map_take,-map_drop, push_cast, zAV, zC]))
          | fail)
        refine callD_of (en2) rfl rfl rfl ?_
        try dsimp only
        repeat' (first
          | with_reducible first | apply thenW_n | apply W_seq | apply W_ret
          | with_reducible refine W_rg ?_
          | (rw [vcn]; (try simp [-map_take,-map_drop, push_cast, zAV, zC]))
          | (rw [vcnD]; (try simp [-map_take,-map_drop, push_cast, zAV, zC]))
          | refine And.intro (by first | omega | kernel_rfl) ?_
          | fail)
        simp [-map_take,-map_drop, post, resAV, resAll, resOne, closeV, closeC, closeL, resD, resDL, push_cast, zAV, zC, ratAV, ← hr]
      · rw [Int.sign_eq_one_of_pos (by have := mt hdneg.1 h0; omega)]
        rw [if_neg h0, if_neg h0] at hr
        repeat' (first
          | with_reducible first | apply thenW_n | apply W_seq | apply W_skip | apply W_ret
          | with_reducible refine W_rg ?_
          | (rw [vcn]; (try simp [-map_take,-map_drop, push_cast, zAV, zC]))
          | (with_reducible refine W_condW ?_; (try simp [-map_take,-map_drop, AS.val, upd, resB, mkS_env, mkS_box, lk, entry_env, condW_true, condW_false, zAV, zC]))
          | fail)
        simp [-map_take,-map_drop, post, resAV, resAll, resOne, closeV, closeC, closeL, resD, resDL, push_cast, zAV, zC, ratAV, ← hr]
end Go.Fw
-- VALS: zAV, zC, ratAV, ratC
namespace Go.Fw
open Go Go.Proofs Go.IntWalk
set_option linter.unusedSimpArgs false
set_option maxRecDepth 100000
set_option maxHeartbeats 4000000
open List (map_take map_drop)
attribute [local push_cast] optK_some optK_none optK_ite optK_map optK_bind gOn stepK isMem evPure evMem evBin evUn evConv evLen evBuiltin evMinMax evSlice evBuild evAppend evIndex evIndexAddr evField evFieldAddr intBin strBin appDest AS.val AS.mem AS.elems AS.put AS.put' AS.eff AV.cells? AV.isCell AV.refs all_isByte take_byteV drop_byteV strOf_map bndOk bnd partAV ptrAdd killBox catA inOrder fillA setAt ofVal resB upd byteV List.head?_take List.head?_drop List.getElem?_map mkS_env mkS_box mkS_used entry_env entry_box entry_used lk stepD lookIds Oper.looksAt Op.operands Call.operands St.ids refsL renL_append ren renL renBox Box.refs iV i64V boolV dV_getElem dV_app dV_cons toNat_add2 toNat_add1
attribute [local simp ↓] numC_refs numC_isCell numC_cells numC_resB numC_resD numC_ren numC_closeC numC_isOwn
theorem make_ok (n d : Int) (hd : d ≠ 0) (h : (limbs n.natAbs).length + (limbs d.natAbs).length ≤ 1000000) : Eval Try.prog 73 [zAV n, zAV d] (.ret (.tup [ratAV (.of (Rat.divInt n d)), i64V 0])) := by
  refine Eval.intro Try.func73 rfl Try.call73 _ _ (Nat.le_of_ble_eq_true rfl) (by simp [-map_take,-map_drop, AV.refs, refsL, natAV, zAV, zC, ratAV, ratC, push_cast]) fun hs0 => ?_
  have es := sign_ok d (by omega)
  have el := lowest_ok n d hd h
  obtain ⟨k, hk⟩ : ∃ k, k = d.sign := ⟨_, rfl⟩
  have hk0 : (k = (0 : Int)) = False := by
    rw [hk]; simp only [Int.sign_eq_zero_iff_zero, hd]
  rw [← hk] at es
  repeat' (first
    | with_reducible first | apply thenW_n | apply W_seq
    | with_reducible refine W_rg ?_
    | (rw [vcn]; (try simp [-map_take,-map_drop, push_cast, zAV, zC]))
    | fail)
  refine CallG_of (es) rfl rfl rfl ?_
  try dsimp only
  repeat' (first
    | with_reducible first | apply thenW_n | apply thenW_ret | apply W_seq | apply W_skip | apply W_ret
    | with_reducible refine W_rg ?_
    | (rw [vcn]; (try simp [-map_take,-map_drop, push_cast, zAV, zC, hk0]))
    | (with_reducible refine W_condW ?_; (try simp [-map_take,-map_drop, AS.val, upd, resB, mkS_env, mkS_box, lk, entry_env, condW_true, condW_false, zAV, zC, hk0]))
    | ((with_reducible refine condW_b (fun hc => ?_) (fun hc => ?_) <;> (try simp [-map_take,-map_drop, Int.ofNat_inj] at hc) <;> (try contradiction)))
    | fail)
  · exact absurd hc (by simp [-map_take,-map_drop, hk0])
  · refine CallG_of (el) rfl rfl rfl ?_
    try dsimp only
    repeat' (first
      | with_reducible first | apply thenW_n | apply W_ret
      | (rw [vcn]; (try simp [-map_take,-map_drop, push_cast, ratAV, ratC, zAV, zC]))
      | fail)
    simp [-map_take,-map_drop, post, resAV, resAll, resOne, closeV, closeC, closeL, resD, resDL, push_cast, ratAV, ratC, zAV, zC]
theorem whole_ok (n : Int) (h : (limbs n.natAbs).length ≤ 1000000) : Eval Try.prog 72 [zAV n] (.ret (ratAV (.of n))) := by
  refine Eval.intro Try.func72 rfl Try.call72 _ _ (Nat.le_of_ble_eq_true rfl) (by simp [-map_take,-map_drop, AV.refs, refsL, natAV, zAV, zC, ratAV, ratC, push_cast]) fun hs0 => ?_
  have e1 := ofZ_ok 1 (by omega)
  have hr : zC n ++ zC 1 = ratC (.of n) := rfl
  repeat' (first
    | with_reducible first | apply thenW_n | apply W_seq
    | with_reducible refine W_rg ?_
    | (rw [vcn]; (try simp [-map_take,-map_drop, push_cast, zAV, zC]))
    | with_reducible refine W_drawn mixed (by decide) (by kernel_rfl) ?_
    | (rw [vcnD]; (try simp [-map_take,-map_drop, push_cast, zAV, zC]))
    | fail)
  refine callD_of (e1) rfl rfl rfl ?_
  try dsimp only
  repeat' (first
    | with_reducible first | apply thenW_n | apply W_ret
    | (rw [vcnD]; (try simp [-map_take,-map_drop, push_cast, zAV, zC]))
    | refine And.intro (by first | omega | kernel_rfl) ?_
    | fail)
  simp [-map_take,-map_drop, post, resAV, resAll, resOne, closeV, closeC, closeL, resD, resDL, push_cast, zAV, zC, ratAV, ← hr]
theorem ofF_ok (n d : Int) (hd : d ≠ 0) (hn : -9223372036854775808 ≤ n ∧ n ≤ 9223372036854775807) (hdd : -9223372036854775808 ≤ d ∧ d ≤ 9223372036854775807) : Eval Try.prog 33 [i64V n, i64V d] (.ret (.tup [ratAV (.of (Rat.divInt n d)), i64V 0])) := by
  refine Eval.intro Try.func33 rfl Try.call33 _ _ (Nat.le_of_ble_eq_true rfl) (by simp [-map_take,-map_drop, AV.refs, refsL, natAV, zAV, zC, ratAV, ratC, push_cast]) fun hs0 => ?_
  have h1 := limbs_small (n := n.natAbs) (by omega)
  have h2 := limbs_small (n := d.natAbs) (by omega)
  have em := make_ok n d hd (by omega)
  repeat' (first
    | with_reducible first | apply thenW_n | apply W_seq
    | with_reducible refine W_rg ?_
    | (rw [vcn]; (try simp [-map_take,-map_drop, push_cast]))
    | fail)
  refine CallG_of (ofZ_ok n hn) rfl rfl rfl ?_
  try dsimp only
  repeat' (first
    | (rw [vcn]; (try simp [-map_take,-map_drop, push_cast]))
    | fail)
  refine CallG_of (ofZ_ok d hdd) rfl rfl rfl ?_
  try dsimp only
  repeat' (first
    | (rw [vcn]; (try simp [-map_take,-map_drop, push_cast]))
    | fail)
  refine CallG_of (em) rfl rfl rfl ?_
  try dsimp only
  repeat' (first
    | with_reducible first | apply thenW_n | apply W_ret
    | (rw [vcn]; (try simp [-map_take,-map_drop, push_cast, ratAV, ratC, zAV, zC]))
    | fail)
  simp [-map_take,-map_drop, post, resAV, resAll, resOne, closeV, closeC, closeL, resD, resDL, push_cast, ratAV, ratC, zAV, zC]
def FQ.zero : FQ := ⟨0, true, fun _ => rfl⟩
theorem den_ok (r : FQ) (h : szQ r.q ≤ 1000000) : Eval Try.prog 43 [ratAV r] (.ret (zAV r.q.den)) := by
  refine Eval.intro Try.func43 rfl Try.call43 _ _ (Nat.le_of_ble_eq_true rfl) (by simp [-map_take,-map_drop, AV.refs, refsL, natAV, zAV, zC, ratAV, ratC, push_cast]) fun hs0 => ?_
  obtain ⟨q, z, hz⟩ := r
  simp only [szQ] at h
  have hd1 := limbs_small (n := 1) (by omega)
  cases z
  · have hp := q.den_pos
    have es := sign_ok (q.den : Int) (by rw [Int.natAbs_natCast]; omega)
    rw [Int.sign_eq_one_of_pos (by omega)] at es
    repeat' (first
      | with_reducible first | apply thenW_n | apply W_seq
      | with_reducible refine W_rg ?_
      | (rw [vcn]; (try simp [-map_take,-map_drop, push_cast, ratAV, ratC, zAV, zC]))
      | fail)
    refine CallG_of (es) rfl rfl rfl ?_
    try dsimp only
    repeat' (first
      | with_reducible first | apply thenW_n | apply W_seq | apply W_skip | apply W_ret
      | with_reducible refine W_rg ?_
      | (rw [vcn]; (try simp [-map_take,-map_drop, push_cast, ratAV, ratC, zAV, zC]))
      | (with_reducible refine W_condW ?_; (try simp [-map_take,-map_drop, AS.val, upd, resB, mkS_env, mkS_box, lk, entry_env, condW_true, condW_false, ratAV, ratC, zAV, zC]))
      | fail)
    simp [-map_take,-map_drop, post, resAV, resAll, resOne, closeV, closeC, closeL, resD, resDL, push_cast, zAV, zC]
  · have h0 : q = 0 := hz rfl
    subst h0
    have hd0 := limbs_small (n := 0) (by omega)
    have es := sign_ok 0 (by simp [-map_take,-map_drop]; omega)
    have e1 := ofZ_ok 1 (by omega)
    repeat' (first
      | with_reducible first | apply thenW_n | apply W_seq
      | with_reducible refine W_rg ?_
      | (rw [vcn]; (try simp [-map_take,-map_drop, push_cast, ratAV, ratC, zAV, zC]))
      | fail)
    refine CallG_of (es) rfl rfl rfl ?_
    try dsimp only
    repeat' (first
      | with_reducible first | apply thenW_n | apply W_seq
      | with_reducible refine W_rg ?_
      | (rw [vcn]; (try simp [-map_take,-map_drop, push_cast, ratAV, ratC, zAV, zC]))
      | (with_reducible refine W_condW ?_; (try simp [-map_take,-map_drop, AS.val, upd, resB, mkS_env, mkS_box, lk, entry_env, condW_true, condW_false, ratAV, ratC, zAV, zC]))
      | fail)
    refine CallG_of (e1) rfl rfl rfl ?_
    try dsimp only
    repeat' (first
      | with_reducible first | apply thenW_n | apply thenW_ret | apply W_ret
      | (rw [vcn]; (try simp [-map_take,-map_drop, push_cast, ratAV, ratC, zAV, zC]))
      | fail)
    simp [-map_take,-map_drop, post, resAV, resAll, resOne, closeV, closeC, closeL, resD, resDL, push_cast, zAV, zC]
def FQ.neg (r : FQ) : FQ := ⟨-r.q, r.z, fun h => by rw [r.h h]; rfl⟩
theorem negR_ok (r : FQ) (h : szQ r.q ≤ 1000000) : Eval Try.prog 19 [ratAV r] (.ret (ratAV r.neg)) := by
  refine Eval.intro Try.func19 rfl Try.call19 _ _ (Nat.le_of_ble_eq_true rfl) (by simp [-map_take,-map_drop, AV.refs, refsL, natAV, zAV, zC, ratAV, ratC, push_cast]) fun hs0 => ?_
  simp only [szQ] at h
  obtain ⟨q, z, hz⟩ := r
  have h2 : (limbs q.num.natAbs).length + (limbs q.den).length ≤ 1000000 := h
  have es := neg_ok q.num (by omega)
  cases z
  · repeat' (first
      | with_reducible first | apply thenW_n | apply W_seq
      | with_reducible refine W_rg ?_
      | (rw [vcn]; (try simp [-map_take,-map_drop, push_cast, ratAV, ratC, zAV, zC]))
      | with_reducible refine W_drawn mixed (by decide) (by kernel_rfl) ?_
      | (rw [vcnD]; (try simp [-map_take,-map_drop, push_cast, ratAV, ratC, zAV, zC]))
      | fail)
    refine callD_of (es) rfl rfl rfl ?_
    try dsimp only
    repeat' (first
      | with_reducible first | apply thenW_n | apply W_ret
      | (rw [vcnD]; (try simp [-map_take,-map_drop, push_cast, ratAV, ratC, zAV, zC]))
      | refine And.intro (by first | omega | kernel_rfl) ?_
      | fail)
    simp [-map_take,-map_drop, post, resAV, resAll, resOne, closeV, closeC, closeL, resD, resDL, push_cast, zAV, zC, ratAV, ratC, natC, FQ.neg, Rat.neg_num, Rat.neg_den]
  · repeat' (first
      | with_reducible first | apply thenW_n | apply W_seq
      | with_reducible refine W_rg ?_
      | (rw [vcn]; (try simp [-map_take,-map_drop, push_cast, ratAV, ratC, zAV, zC]))
      | with_reducible refine W_drawn mixed (by decide) (by kernel_rfl) ?_
      | (rw [vcnD]; (try simp [-map_take,-map_drop, push_cast, ratAV, ratC, zAV, zC]))
      | fail)
    refine callD_of (es) rfl rfl rfl ?_
    try dsimp only
    repeat' (first
      | with_reducible first | apply thenW_n | apply W_ret
      | (rw [vcnD]; (try simp [-map_take,-map_drop, push_cast, ratAV, ratC, zAV, zC]))
      | refine And.intro (by first | omega | kernel_rfl) ?_
      | fail)
    simp [-map_take,-map_drop, post, resAV, resAll, resOne, closeV, closeC, closeL, resD, resDL, push_cast, zAV, zC, ratAV, ratC, natC, FQ.neg, Rat.neg_num, Rat.neg_den]
end Go.Fw
-- VALS: zAV, zC, ratAV, ratC
namespace Go.Fw
open Go Go.Proofs Go.IntWalk
set_option linter.unusedSimpArgs false
set_option maxRecDepth 100000
set_option maxHeartbeats 4000000
theorem sz_divInt (n d : Int) (hd : d ≠ 0) : szQ (Rat.divInt n d) ≤ (limbs n.natAbs).length + (limbs d.natAbs).length := by
  obtain ⟨h1, h2⟩ := divInt_parts n d hd
  have g1 : (Rat.divInt n d).num.natAbs ≤ n.natAbs := by
    rw [h1]; split
    · rw [Int.natAbs_neg]; exact Int.natAbs_ediv_le_natAbs _ _
    · exact Int.natAbs_ediv_le_natAbs _ _
  have g2 : (Rat.divInt n d).den ≤ d.natAbs := by
    have : (Rat.divInt n d).den = ((Rat.divInt n d).den : Int).natAbs := by omega
    rw [this, h2]; split
    · rw [Int.natAbs_neg]; exact Int.natAbs_ediv_le_natAbs _ _
    · exact Int.natAbs_ediv_le_natAbs _ _
  have := limbs_le g1
  have := limbs_le g2
  unfold szQ; omega
theorem mulQ_eq (a b : Rat) : Rat.divInt (a.num * b.num) (a.den * b.den) = a * b := by
  rw [Rat.mul_def', ← Rat.divInt_ofNat, Int.natCast_mul]
theorem addQ_eq (a b : Rat) : Rat.divInt (a.num * b.den + b.num * a.den) (a.den * b.den) = a + b := by
  rw [Rat.add_def', ← Rat.divInt_ofNat, Int.natCast_mul]
theorem den_mul_ne (a b : Rat) : ((a.den : Int) * (b.den : Int)) ≠ 0 := by
  have := a.den_pos
  have := b.den_pos
  exact Int.mul_ne_zero (by omega) (by omega)
theorem limbs_mulI (a b : Int) : (limbs (a * b).natAbs).length ≤ (limbs a.natAbs).length + (limbs b.natAbs).length := by
  rw [Int.natAbs_mul]; exact limbs_mul _ _
theorem limbs_addI (a b : Int) : (limbs (a + b).natAbs).length ≤ (limbs a.natAbs).length + (limbs b.natAbs).length + 1 := by
  exact Nat.le_trans (limbs_le (Int.natAbs_add_le a b)) (limbs_add _ _)
theorem szQ_mul (a b : Rat) : szQ (a * b) ≤ szQ a + szQ b := by
  rw [← mulQ_eq]
  have h1 := sz_divInt (a.num * b.num) (a.den * b.den) (den_mul_ne a b)
  have h2 := limbs_mulI a.num b.num
  have h3 := limbs_mulI a.den b.den
  rw [Int.natAbs_natCast, Int.natAbs_natCast] at h3
  unfold szQ at *; omega
theorem szQ_add (a b : Rat) : szQ (a + b) ≤ 2 * (szQ a + szQ b) + 1 := by
  rw [← addQ_eq]
  have h1 := sz_divInt (a.num * b.den + b.num * a.den) (a.den * b.den) (den_mul_ne a b)
  have h2 := limbs_mulI a.num b.den
  have h3 := limbs_mulI b.num a.den
  have h4 := limbs_mulI a.den b.den
  have h5 := limbs_addI (a.num * b.den) (b.num * a.den)
  simp only [Int.natAbs_natCast] at h2 h3 h4
  unfold szQ at *; omega
theorem szQ_neg (a : Rat) : szQ (-a) = szQ a := by simp [szQ]
end Go.Fw
-- VALS: zAV, zC, ratAV, ratC
namespace Go.Fw
open Go Go.Proofs Go.IntWalk
set_option linter.unusedSimpArgs false
set_option maxRecDepth 100000
set_option maxHeartbeats 4000000
open List (map_take map_drop)
attribute [local push_cast] optK_some optK_none optK_ite optK_map optK_bind gOn stepK isMem evPure evMem evBin evUn evConv evLen evBuiltin evMinMax evSlice evBuild evAppend evIndex evIndexAddr evField evFieldAddr intBin strBin appDest AS.val AS.mem AS.elems AS.put AS.put' AS.eff AV.cells? AV.isCell AV.refs all_isByte take_byteV drop_byteV strOf_map bndOk bnd partAV ptrAdd killBox catA inOrder fillA setAt ofVal resB upd byteV List.head?_take List.head?_drop List.getElem?_map mkS_env mkS_box mkS_used entry_env entry_box entry_used lk stepD lookIds Oper.looksAt Op.operands Call.operands St.ids refsL renL_append ren renL renBox Box.refs iV i64V boolV dV_getElem dV_app dV_cons toNat_add2 toNat_add1
attribute [local simp ↓] numC_refs numC_isCell numC_cells numC_resB numC_resD numC_ren numC_closeC numC_isOwn
theorem mulR_ok (a b : FQ) (h : szQ a.q + szQ b.q ≤ 400000) : Eval Try.prog 41 [ratAV a, ratAV b] (.ret (ratAV (.of (a.q * b.q)))) := by
  refine Eval.intro Try.func41 rfl Try.call41 _ _ (Nat.le_of_ble_eq_true rfl) (by simp [-map_take,-map_drop, AV.refs, refsL, natAV, zAV, zC, ratAV, ratC, push_cast]) fun hs0 => ?_
  have hu : (limbs a.q.num.natAbs).length + (limbs a.q.den).length + ((limbs b.q.num.natAbs).length + (limbs b.q.den).length) ≤ 400000 := h
  have ea := den_ok a (by omega)
  have eb := den_ok b (by omega)
  have h1 := limbs_mulI a.q.num b.q.num
  have h2 := limbs_mulI a.q.den b.q.den
  simp only [Int.natAbs_natCast] at h2
  have em := mulZ_ok a.q.num b.q.num (by omega)
  have ed := mulZ_ok a.q.den b.q.den (by simp only [Int.natAbs_natCast]; omega)
  have el := lowest_ok (a.q.num * b.q.num) (a.q.den * b.q.den) (den_mul_ne _ _) (by omega)
  rw [mulQ_eq] at el
  repeat' (first
    | with_reducible first | apply thenW_n | apply W_seq
    | with_reducible refine W_rg ?_
    | (rw [vcn]; (try simp [-map_take,-map_drop, push_cast, ratAV, ratC, zAV, zC]))
    | with_reducible refine W_drawn mixed (by decide) (by kernel_rfl) ?_
    | (rw [vcnD]; (try simp [-map_take,-map_drop, push_cast, ratAV, ratC, zAV, zC]))
    | fail)
  refine callD_of (em) rfl rfl rfl ?_
  try dsimp only
  repeat' (first
    | (rw [vcnD]; (try simp [-map_take,-map_drop, push_cast, ratAV, ratC, zAV, zC]))
    | fail)
  refine callD_of (ea) rfl rfl rfl ?_
  try dsimp only
  repeat' (first
    | (rw [vcnD]; (try simp [-map_take,-map_drop, push_cast, ratAV, ratC]))
    | fail)
  refine callD_of (eb) rfl rfl rfl ?_
  try dsimp only
  repeat' (first
    | (rw [vcnD]; (try simp [-map_take,-map_drop, push_cast, ratAV, ratC]))
    | fail)
  refine callD_of (ed) rfl rfl rfl ?_
  try dsimp only
  repeat' (first
    | (rw [vcnD]; (try simp [-map_take,-map_drop, push_cast, ratAV, ratC]))
    | fail)
  refine callD_of (el) rfl rfl rfl ?_
  try dsimp only
  repeat' (first
    | with_reducible first | apply thenW_n | apply W_ret
    | (rw [vcnD]; (try simp [-map_take,-map_drop, push_cast, ratAV, ratC, zAV, zC]))
    | refine And.intro (by first | omega | kernel_rfl) ?_
    | fail)
  simp [-map_take,-map_drop, post, resAV, resAll, resOne, closeV, closeC, closeL, resD, resDL, push_cast, ratAV, ratC, zAV, zC]
theorem addR_ok (a b : FQ) (h : szQ a.q + szQ b.q ≤ 200000) : Eval Try.prog 20 [ratAV a, ratAV b] (.ret (ratAV (.of (a.q + b.q)))) := by
  refine Eval.intro Try.func20 rfl Try.call20 _ _ (Nat.le_of_ble_eq_true rfl) (by simp [-map_take,-map_drop, AV.refs, refsL, natAV, zAV, zC, ratAV, ratC, push_cast]) fun hs0 => ?_
  have hu : (limbs a.q.num.natAbs).length + (limbs a.q.den).length + ((limbs b.q.num.natAbs).length + (limbs b.q.den).length) ≤ 200000 := h
  have ea := den_ok a (by omega)
  have eb := den_ok b (by omega)
  have h1 := limbs_mulI a.q.num b.q.den
  have h2 := limbs_mulI b.q.num a.q.den
  have h3 := limbs_mulI a.q.den b.q.den
  have h4 := limbs_addI (a.q.num * b.q.den) (b.q.num * a.q.den)
  simp only [Int.natAbs_natCast] at h1 h2 h3
  have em := mulZ_ok a.q.num b.q.den (by simp only [Int.natAbs_natCast]; omega)
  have en := mulZ_ok b.q.num a.q.den (by simp only [Int.natAbs_natCast]; omega)
  have ed := mulZ_ok a.q.den b.q.den (by simp only [Int.natAbs_natCast]; omega)
  have es := addZ_ok (a.q.num * b.q.den) (b.q.num * a.q.den) (by omega)
  have el := lowest_ok (a.q.num * b.q.den + b.q.num * a.q.den) (a.q.den * b.q.den) (den_mul_ne _ _) (by omega)
  rw [addQ_eq] at el
  repeat' (first
    | with_reducible first | apply thenW_n | apply W_seq
    | with_reducible refine W_rg ?_
    | (rw [vcn]; (try simp [-map_take,-map_drop, push_cast, ratAV, ratC, zAV, zC]))
    | with_reducible refine W_drawn mixed (by decide) (by kernel_rfl) ?_
    | (rw [vcnD]; (try simp [-map_take,-map_drop, push_cast, ratAV, ratC, zAV, zC]))
    | fail)
  refine callD_of (eb) rfl rfl rfl ?_
  try dsimp only
  repeat' (first
    | (rw [vcnD]; (try simp [-map_take,-map_drop, push_cast, ratAV, ratC]))
    | fail)
  refine callD_of (em) rfl rfl rfl ?_
  try dsimp only
  repeat' (first
    | (rw [vcnD]; (try simp [-map_take,-map_drop, push_cast, ratAV, ratC]))
    | fail)
  refine callD_of (ea) rfl rfl rfl ?_
  try dsimp only
  repeat' (first
    | (rw [vcnD]; (try simp [-map_take,-map_drop, push_cast, ratAV, ratC]))
    | fail)
  refine callD_of (en) rfl rfl rfl ?_
  try dsimp only
  repeat' (first
    | (rw [vcnD]; (try simp [-map_take,-map_drop, push_cast, ratAV, ratC]))
    | fail)
  refine callD_of (es) rfl rfl rfl ?_
  try dsimp only
  repeat' (first
    | (rw [vcnD]; (try simp [-map_take,-map_drop, push_cast, ratAV, ratC]))
    | fail)
  refine callD_of (ea) rfl rfl rfl ?_
  try dsimp only
  repeat' (first
    | (rw [vcnD]; (try simp [-map_take,-map_drop, push_cast, ratAV, ratC]))
    | fail)
  refine callD_of (eb) rfl rfl rfl ?_
  try dsimp only
  repeat' (first
    | (rw [vcnD]; (try simp [-map_take,-map_drop, push_cast, ratAV, ratC]))
    | fail)
  refine callD_of (ed) rfl rfl rfl ?_
  try dsimp only
  repeat' (first
    | (rw [vcnD]; (try simp [-map_take,-map_drop, push_cast, ratAV, ratC]))
    | fail)
  refine callD_of (el) rfl rfl rfl ?_
  try dsimp only
  repeat' (first
    | with_reducible first | apply thenW_n | apply W_ret
    | (rw [vcnD]; (try simp [-map_take,-map_drop, push_cast, ratAV, ratC, zAV, zC]))
    | refine And.intro (by first | omega | kernel_rfl) ?_
    | fail)
  simp [-map_take,-map_drop, post, resAV, resAll, resOne, closeV, closeC, closeL, resD, resDL, push_cast, ratAV, ratC, zAV, zC]
theorem subR_ok (a b : FQ) (h : szQ a.q + szQ b.q ≤ 200000) : Eval Try.prog 42 [ratAV a, ratAV b] (.ret (ratAV (.of (a.q - b.q)))) := by
  refine Eval.intro Try.func42 rfl Try.call42 _ _ (Nat.le_of_ble_eq_true rfl) (by simp [-map_take,-map_drop, AV.refs, refsL, natAV, zAV, zC, ratAV, ratC, push_cast]) fun hs0 => ?_
  have en := negR_ok b (by omega)
  have hs : szQ b.neg.q = szQ b.q := szQ_neg b.q
  have ea := addR_ok a b.neg (by omega)
  have hq : a.q + b.neg.q = a.q - b.q := (Rat.sub_eq_add_neg _ _).symm
  rw [hq] at ea
  repeat' (first
    | with_reducible first | apply thenW_n | apply W_seq
    | with_reducible refine W_rg ?_
    | (rw [vcn]; (try simp [-map_take,-map_drop, push_cast, ratAV, ratC, zAV, zC]))
    | with_reducible refine W_drawn mixed (by decide) (by kernel_rfl) ?_
    | (rw [vcnD]; (try simp [-map_take,-map_drop, push_cast, ratAV, ratC, zAV, zC]))
    | fail)
  refine callD_of (en) rfl rfl rfl ?_
  try dsimp only
  repeat' (first
    | (rw [vcnD]; (try simp [-map_take,-map_drop, push_cast, ratAV, ratC, zAV, zC]))
    | fail)
  refine callD_of (ea) rfl rfl rfl ?_
  try dsimp only
  repeat' (first
    | with_reducible first | apply thenW_n | apply W_ret
    | (rw [vcnD]; (try simp [-map_take,-map_drop, push_cast, ratAV, ratC, zAV, zC]))
    | refine And.intro (by first | omega | kernel_rfl) ?_
    | fail)
  simp [-map_take,-map_drop, post, resAV, resAll, resOne, closeV, closeC, closeL, resD, resDL, push_cast, ratAV, ratC, zAV, zC]
theorem cmpR_ok (a b : FQ) (h : szQ a.q + szQ b.q ≤ 200000) : Eval Try.prog 18 [ratAV a, ratAV b] (.ret (i64V (cmpZ (a.q.num * b.q.den) (b.q.num * a.q.den)))) := by
  refine Eval.intro Try.func18 rfl Try.call18 _ _ (Nat.le_of_ble_eq_true rfl) (by simp [-map_take,-map_drop, AV.refs, refsL, natAV, zAV, zC, ratAV, ratC, push_cast]) fun hs0 => ?_
  have hu : (limbs a.q.num.natAbs).length + (limbs a.q.den).length + ((limbs b.q.num.natAbs).length + (limbs b.q.den).length) ≤ 200000 := h
  have ea := den_ok a (by omega)
  have eb := den_ok b (by omega)
  have em := mulZ_ok a.q.num b.q.den (by simp only [Int.natAbs_natCast]; omega)
  have en := mulZ_ok b.q.num a.q.den (by simp only [Int.natAbs_natCast]; omega)
  have ec := cmpZ_ok (a.q.num * b.q.den) (b.q.num * a.q.den)
  repeat' (first
    | with_reducible first | apply thenW_n | apply W_seq
    | with_reducible refine W_rg ?_
    | (rw [vcn]; (try simp [-map_take,-map_drop, push_cast, ratAV, ratC, zAV, zC]))
    | with_reducible refine W_drawn mixed (by decide) (by kernel_rfl) ?_
    | (rw [vcnD]; (try simp [-map_take,-map_drop, push_cast, ratAV, ratC, zAV, zC]))
    | fail)
  refine callD_of (eb) rfl rfl rfl ?_
  try dsimp only
  repeat' (first
    | (rw [vcnD]; (try simp [-map_take,-map_drop, push_cast, ratAV, ratC]))
    | fail)
  refine callD_of (em) rfl rfl rfl ?_
  try dsimp only
  repeat' (first
    | (rw [vcnD]; (try simp [-map_take,-map_drop, push_cast, ratAV, ratC]))
    | fail)
  refine callD_of (ea) rfl rfl rfl ?_
  try dsimp only
  repeat' (first
    | (rw [vcnD]; (try simp [-map_take,-map_drop, push_cast, ratAV, ratC]))
    | fail)
  refine callD_of (en) rfl rfl rfl ?_
  try dsimp only
  repeat' (first
    | (rw [vcnD]; (try simp [-map_take,-map_drop, push_cast, ratAV, ratC]))
    | fail)
  refine callD_of (ec) rfl rfl rfl ?_
  try dsimp only
  repeat' (first
    | with_reducible first | apply thenW_n | apply W_ret
    | (rw [vcnD]; (try simp [-map_take,-map_drop, push_cast, ratAV, ratC, zAV, zC]))
    | refine And.intro (by first | omega | kernel_rfl) ?_
    | fail)
  simp [-map_take,-map_drop, post, resAV, resAll, resOne, closeV, closeC, closeL, resD, resDL, push_cast, ratAV, ratC, zAV, zC]
end Go.Fw
-- VALS: zAV, zC, ratAV, ratC
namespace Go.Fw
open Go Go.Proofs Go.IntWalk
set_option linter.unusedSimpArgs false
set_option maxRecDepth 100000
set_option maxHeartbeats 4000000
open List (map_take map_drop)
attribute [local push_cast] optK_some optK_none optK_ite optK_map optK_bind gOn stepK isMem evPure evMem evBin evUn evConv evLen evBuiltin evMinMax evSlice evBuild evAppend evIndex evIndexAddr evField evFieldAddr intBin strBin appDest AS.val AS.mem AS.elems AS.put AS.put' AS.eff AV.cells? AV.isCell AV.refs all_isByte take_byteV drop_byteV strOf_map bndOk bnd partAV ptrAdd killBox catA inOrder fillA setAt ofVal resB upd byteV List.head?_take List.head?_drop List.getElem?_map mkS_env mkS_box mkS_used entry_env entry_box entry_used lk stepD lookIds Oper.looksAt Op.operands Call.operands St.ids refsL renL_append ren renL renBox Box.refs iV i64V boolV dV_getElem dV_app dV_cons toNat_add2 toNat_add1
attribute [local simp ↓] numC_refs numC_isCell numC_cells numC_resB numC_resD numC_ren numC_closeC numC_isOwn
def nearQ (q : Rat) : Int :=
  if (q.num * 2 + q.den) % (q.den * 2) = 0 ∧ (q.num * 2 + q.den) / (q.den * 2) % 2 ≠ 0 then (q.num * 2 + q.den) / (q.den * 2) - 1 else (q.num * 2 + q.den) / (q.den * 2)
end Go.Fw
-- VALS: zAV, zC, ratAV, ratC
namespace Go.Fw
open Go Go.Proofs Go.IntWalk
set_option linter.unusedSimpArgs false
set_option maxRecDepth 100000
set_option maxHeartbeats 4000000
def ratsC (l : List FQ) : List AV := l.flatMap ratC
def lessQ (a b : Rat) : Prop := cmpZ (a.num * b.den) (b.num * a.den) < 0
instance (a b : Rat) : Decidable (lessQ a b) := by unfold lessQ; infer_instance
def leastOf (l : List FQ) : FQ := match l with
  | [] => FQ.zero
  | x :: t => t.foldl (fun o x => if lessQ x.q o.q then x else o) x
open List (map_take map_drop)
attribute [local push_cast] optK_some optK_none optK_ite optK_map optK_bind gOn stepK isMem evPure evMem evBin evUn evConv evLen evBuiltin evMinMax evSlice evBuild evAppend evIndex evIndexAddr evField evFieldAddr intBin strBin appDest AS.val AS.mem AS.elems AS.put AS.put' AS.eff AV.cells? AV.isCell AV.refs all_isByte take_byteV drop_byteV strOf_map bndOk bnd partAV ptrAdd killBox catA inOrder fillA setAt ofVal resB upd byteV List.head?_take List.head?_drop List.getElem?_map mkS_env mkS_box mkS_used entry_env entry_box entry_used lk stepD lookIds Oper.looksAt Op.operands Call.operands St.ids refsL renL_append ren renL renBox Box.refs iV i64V boolV dV_getElem dV_app dV_cons toNat_add2 toNat_add1
attribute [local simp ↓] numC_refs numC_isCell numC_cells numC_resB numC_resD numC_ren numC_closeC numC_isOwn
def moreQ (a b : Rat) : Prop := cmpZ (a.num * b.den) (b.num * a.den) > 0
instance (a b : Rat) : Decidable (moreQ a b) := by unfold moreQ; infer_instance
def mostOf (l : List FQ) : FQ := match l with
  | [] => FQ.zero
  | x :: t => t.foldl (fun o x => if moreQ x.q o.q then x else o) x
end Go.Fw
