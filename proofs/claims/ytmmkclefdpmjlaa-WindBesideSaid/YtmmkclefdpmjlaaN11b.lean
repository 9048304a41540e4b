import Derived.Test.YtmmkclefdpmjlaaN8b
import Derived.Test.YtmmkclefdpmjlaaPa
import Derived.Test.YtmmkclefdpmjlaaN5
import Derived.Test.YtmmkclefdpmjlaaN3
set_option linter.unusedSimpArgs false
set_option linter.unusedVariables false
namespace Go.Fw
open Go Go.Proofs Go.IntWalk
def divEnv (s n m L top next : Nat) (d : List Nat) (i : Nat) : List (Nat × AV) :=
  [(4, .bp 4 0), (5, .bp 5 0), (9, i64V s), (14, .slc true 1 n (dV .u32 d)), (15, .bs 500 1 0 L), (16, i64V n), (17, .bs 501 1 0 m), (18, iV .u64 top), (19, iV .u64 next), (20, i64V ((i : Int) - 1))]
def divBox (rest q : List Nat) : List (Nat × Box) :=
  [(4, .mut 27 [.v (.slice none 0 0)]), (5, .mut 27 [.v (.slice none 0 0)]), (500, .mut 148 (dV .u32 rest)), (501, .mut 148 (dV .u32 q))]
def divEnv2 (s n m L top next : Nat) (d : List Nat) (j g : Nat) : List (Nat × AV) :=
  [(4, .bp 4 0), (5, .bp 5 0), (9, i64V s), (14, .slc true 1 n (dV .u32 d)), (15, .bs 500 1 0 L), (16, i64V n), (17, .bs 501 1 0 m), (18, iV .u64 top), (19, iV .u64 next), (20, i64V j), (22, iV .u64 g)]
set_option linter.unusedSimpArgs false
set_option maxRecDepth 100000
set_option maxHeartbeats 8000000
open List (map_take map_drop)
attribute [local push_cast] optK_some optK_none optK_ite optK_map optK_bind gOn stepK isMem evPure evMem evBin evUn evConv evLen evBuiltin evMinMax evSlice evBuild evAppend evIndex evIndexAddr evField evFieldAddr intBin strBin appDest AS.val AS.mem AS.elems AS.put AS.put' AS.eff AV.cells? AV.isCell AV.refs all_isByte take_byteV drop_byteV strOf_map bndOk bnd partAV ptrAdd killBox catA inOrder fillA setAt ofVal resB upd byteV List.head?_take List.head?_drop List.getElem?_map mkS_env mkS_box mkS_used entry_env entry_box entry_used lk stepD lookIds Oper.looksAt Op.operands Call.operands St.ids refsL renL_append ren renL renBox Box.refs iV i64V boolV dV_getElem dV_app dV_cons toNat_add2 toNat_add1
attribute [local simp ↓] numC_refs numC_isCell numC_cells numC_resB numC_resD numC_ren numC_closeC numC_isOwn
theorem natDiv_big (a b : Nat) (h : b ≤ a) (hb : 2 ≤ (limbs b).length) (hs : (limbs a).length ≤ 10000000) : Eval Try.prog 116 [natAV a, natAV b] (.ret (.tup [natAV (a / b), natAV (a % b), i64V 0])) := by
  have hb0 : 0 < b := by
    rcases Nat.eq_zero_or_pos b with h0 | h0
    · subst h0; simp [-map_take,-map_drop, limbs, digits_zero] at hb
    · exact h0
  obtain ⟨lb, hlb⟩ : ∃ lb, lb = (limbs b).length := ⟨_, rfl⟩
  obtain ⟨t0, ht0⟩ : ∃ t0, t0 = dg (limbs b) (lb - 1) := ⟨_, rfl⟩
  have ht32 : t0 < 4294967296 := by rw [ht0]; exact dg_lt (by decide) (limbs_lt b) _
  have ht1 : 0 < t0 := by
    have ht : (limbs b)[(limbs b).length - 1]? ≠ some 0 := digits_top B32_gt b hb0
    rcases Nat.eq_zero_or_pos t0 with h0 | h0
    · exfalso; apply ht
      have hl : (limbs b).length - 1 < (limbs b).length := by omega
      rw [ht0, hlb, dg_eq hl] at h0
      rw [List.getElem?_eq_getElem hl]
      exact congrArg some h0
    · exact h0
  obtain ⟨s, hsd⟩ : ∃ s, s = 32 - lenB t0 := ⟨_, rfl⟩
  have hs32 : s < 32 := by have := lenB_pos ht1; omega
  have elz := lz32_ok t0 ht32
  rw [← hsd] at elz
  have ecm := natCmp_ok a b
  have hcm : ¬ cmpN a b < 0 := by rw [cmpN_neg]; omega
  obtain ⟨U, hU⟩ : ∃ U, U = a * 2 ^ s := ⟨_, rfl⟩
  obtain ⟨V, hV⟩ : ∃ V, V = b * 2 ^ s := ⟨_, rfl⟩
  have hab := limbs_le h
  have eua := natUp_ok a s hs32 (by omega)
  have eub := natUp_ok b s hs32 (by omega)
  rw [← hU] at eua
  rw [← hV] at eub
  have hbV : b ≤ V := by rw [hV]; exact Nat.le_mul_of_pos_right _ (Nat.two_pow_pos s)
  have hVU : V ≤ U := by rw [hU, hV]; exact Nat.mul_le_mul_right _ h
  have hlUa : (limbs U).length ≤ (limbs a).length + 1 := by
    refine digits_length_le B32_gt _ _ ?_
    have h1 := val_lt (show 0 < B32 by decide) (limbs a) (limbs_lt a)
    rw [val_limbs] at h1
    rw [hU, Nat.pow_succ]
    exact Nat.lt_of_lt_of_le (Nat.mul_lt_mul_of_pos_right h1 (Nat.two_pow_pos s)) (Nat.mul_le_mul_left _ (show 2 ^ s ≤ 2 ^ 32 from Nat.pow_le_pow_right (by decide) (by omega)))
  have hn2 : 2 ≤ (limbs V).length := Nat.le_trans hb (limbs_le hbV)
  have hnU : (limbs V).length ≤ (limbs U).length := limbs_le hVU
  obtain ⟨n, hn⟩ : ∃ n, n = (limbs V).length := ⟨_, rfl⟩
  obtain ⟨u, hu⟩ : ∃ u, u = (limbs U).length := ⟨_, rfl⟩
  rw [← hn] at hn2 hnU
  rw [← hu] at hnU hlUa
  obtain ⟨d, hd⟩ : ∃ d, d = limbs V := ⟨_, rfl⟩
  obtain ⟨r, hr⟩ : ∃ r, r = limbs U := ⟨_, rfl⟩
  have hdn : d.length = n := by rw [hd, hn]
  have hru : r.length = u := by rw [hr, hu]
  have ecl := clone32_ok true r u hru (by omega) (by omega)
  refine Eval.intro Try.func116 rfl Try.call116 _ _ (Nat.le_of_ble_eq_true rfl) (by simp [-map_take,-map_drop, AV.refs, refsL, natAV, push_cast]) fun hs0 => ?_
  have hl0 : ¬ lb = 0 := by omega
  have hl1 : ¬ (lb : Int) = 1 := by omega
  have hlbn : ¬ limbs b = [] := fun e => by rw [e] at hlb; simp [-map_take,-map_drop] at hlb; omega
  have hbl1 : (limbs b).length = lb := hlb.symm
  have hidx : (lb : Int) - 1 = ((lb - 1 : Nat) : Int) := by omega
  repeat' (first
    | with_reducible first | apply thenW_n | apply W_seq | apply W_block
    | with_reducible refine W_rg ?_
    | (rw [vcn]; (try simp [-map_take,-map_drop, push_cast, natAV, numC, ← limbs.eq_1, hbl1, hl0, hl1, hlbn]))
    | (with_reducible refine W_condW ?_; (try simp [-map_take,-map_drop, AS.val, upd, resB, mkS_env, mkS_box, lk, entry_env, condW_true, condW_false, natAV, numC, ← limbs.eq_1, hbl1, hl0, hl1, hlbn]))
    | ((with_reducible refine condW_b (fun hc => ?_) (fun hc => ?_) <;> (try simp [-map_take,-map_drop, Int.ofNat_inj] at hc) <;> (try contradiction)))
    | fail)
  refine CallG_of (ecm) (by simp [-map_take,-map_drop, natAV, numC, ← limbs.eq_1, push_cast, hbl1]) rfl rfl ?_
  try dsimp only
  repeat' (first
    | with_reducible first | apply thenW_n | apply blockW_n | apply W_seq | apply W_skip
    | with_reducible refine W_rg ?_
    | (rw [vcn]; (try simp [-map_take,-map_drop, push_cast, natAV, numC, ← limbs.eq_1, hcm, hbl1, hl1, hidx, ← ht0]); try simp (disch := omega) only [i64_in, u64_in, shr64i])
    | (with_reducible refine W_condW ?_; (try simp [-map_take,-map_drop, AS.val, upd, resB, mkS_env, mkS_box, lk, entry_env, condW_true, condW_false, natAV, numC, ← limbs.eq_1, hcm, hbl1, hl1, hidx, ← ht0]))
    | (with_reducible refine optK_dV (by first | omega | (simp [-map_take,-map_drop]; omega)) ?_)
    | refine And.intro (by first | omega | kernel_rfl) ?_
    | ((with_reducible refine condW_b (fun hc => ?_) (fun hc => ?_) <;> (try simp [-map_take,-map_drop, Int.ofNat_inj] at hc) <;> (try contradiction)))
    | fail)
  refine CallG_of (elz) rfl rfl rfl ?_
  try dsimp only
  repeat' (first
    | with_reducible first | apply thenW_n | apply W_seq
    | with_reducible refine W_rg ?_
    | (rw [vcn]; (try simp [-map_take,-map_drop, push_cast]))
    | fail)
  refine CallG_of (eua) rfl rfl rfl ?_
  try dsimp only
  repeat' (first
    | with_reducible first | apply thenW_n | apply W_seq
    | with_reducible refine W_rg ?_
    | (rw [vcn]; (try simp [-map_take,-map_drop, push_cast, natAV, numC, ← limbs.eq_1]))
    | fail)
  refine CallG_of (eub) (by simp [-map_take,-map_drop, natAV, numC, ← limbs.eq_1, push_cast, hbl1]) rfl rfl ?_
  try dsimp only
  repeat' (first
    | with_reducible first | apply thenW_n | apply W_seq
    | with_reducible refine W_rg ?_
    | (rw [vcn]; (try simp [-map_take,-map_drop, push_cast, natAV, numC, ← limbs.eq_1, ← hd, ← hr, hru, hdn]))
    | fail)
  refine CallG_ofOwn 900 (ecl) (by first | rfl | (simp [-map_take,-map_drop, natAV, numC, ← limbs.eq_1, push_cast]; done)) (by simp [-map_take,-map_drop, natAV, AV.refs, refsL, push_cast]) (by simp [-map_take,-map_drop, mkS_used, entry_used]) ?_
  try dsimp only
  have hsub : IntKind.i64.wrap ((u : Int) + 1 - (n : Int)) = ((u + 1 - n : Nat) : Int) := by rw [i64_in _ (by omega)]; omega
  have hs1 : IntKind.i64.wrap ((n : Int) - 1) = ((n - 1 : Nat) : Int) := by rw [i64_in _ (by omega)]; omega
  have hs2 : IntKind.i64.wrap ((n : Int) - 2) = ((n - 2 : Nat) : Int) := by rw [i64_in _ (by omega)]; omega
  obtain ⟨top, htop⟩ : ∃ top, top = dg d (n - 1) := ⟨_, rfl⟩
  obtain ⟨next, hnext⟩ : ∃ next, next = dg d (n - 2) := ⟨_, rfl⟩
  have hdl : ∀ z ∈ d, z < B32 := by rw [hd]; exact limbs_lt V
  have hrl : ∀ z ∈ r, z < B32 := by rw [hr]; exact limbs_lt U
  have hdV : val B32 d = V := by rw [hd]; exact val_limbs V
  have hrU : val B32 r = U := by rw [hr]; exact val_limbs U
  have htop32 : top < 4294967296 := by rw [htop]; exact dg_lt (by decide) hdl _
  have hnext32 : next < 4294967296 := by rw [hnext]; exact dg_lt (by decide) hdl _
  have hV0 : 0 < V := Nat.lt_of_lt_of_le hb0 hbV
  have htop0 : 0 < top := by
    have ht : (limbs V)[(limbs V).length - 1]? ≠ some 0 := digits_top B32_gt V hV0
    rcases Nat.eq_zero_or_pos top with h0 | h0
    · exfalso; apply ht
      have hl : d.length - 1 < d.length := by omega
      rw [htop, ← hdn, dg_eq hl] at h0
      rw [← hd, List.getElem?_eq_getElem hl]
      exact congrArg some h0
    · exact h0
  repeat' (first
    | with_reducible first | apply thenW_n | apply W_seq | apply W_block
    | with_reducible refine W_rg ?_
    | (rw [vcn]; (try simp [-map_take,-map_drop, push_cast, natAV, numC, ← limbs.eq_1, ← hd, ← hr, hru, hdn, hsub, hs1, hs2, ← htop, ← hnext]); try simp (disch := omega) only [i64_in, u64_in, shr64i])
    | with_reducible refine W_drawn mixed (by decide) (by kernel_rfl) ?_
    | (rw [vcnD]; (try simp [-map_take,-map_drop, push_cast, natAV, numC, ← limbs.eq_1, ← hd, ← hr, hru, hdn, hsub, hs1, hs2, ← htop, ← hnext]); try simp (disch := omega) only [i64_in, u64_in, shr64i])
    | (with_reducible refine optK_dV (by first | omega | (simp [-map_take,-map_drop]; omega)) ?_)
    | refine And.intro (by first | omega | kernel_rfl) ?_
    | fail)
  obtain ⟨m, hm⟩ : ∃ m, m = u + 1 - n := ⟨_, rfl⟩
  rw [← hm] at hsub
  have hUm : U < V * B32 ^ m := by
    have h1 := val_lt (show 0 < B32 by decide) r hrl
    rw [hrU, hru] at h1
    have h2 := le_val_digits B32_gt V hV0
    have h3 : (digits B32 V).length = n := hn.symm
    rw [h3] at h2
    have h4 : B32 ^ u = B32 ^ (n - 1) * B32 ^ m := by rw [← Nat.pow_add]; congr 1; omega
    rw [h4] at h1
    exact Nat.lt_of_lt_of_le h1 (Nat.mul_le_mul_right _ h2)
  have hw0 : val B32 (List.replicate m 0) = 0 := val_replicate _ _
  refine W_loopW (X := Nat × List Nat × List Nat) (fun x => divEnv s n m (u + 1) top next d x.1) (fun x => divBox x.2.1 x.2.2) (fun x => x.1)
    (fun x => x.1 ≤ m ∧ x.2.1.length = u + 1 ∧ (∀ z ∈ x.2.1, z < B32) ∧ x.2.2.length = m ∧ (∀ z ∈ x.2.2, z < B32) ∧ val B32 x.2.1 + V * (B32 ^ x.1 * val B32 (x.2.2.drop x.1)) = U ∧ val B32 x.2.1 < V * B32 ^ x.1)
    (m, r ++ [0], List.replicate m 0) (fun i => if i = 500 then 94 else if i = 501 then 101 else i) ⟨Nat.le_refl _, by simp [-map_take,-map_drop, hru], mem_append_lt hrl (by decide), by simp [-map_take,-map_drop], by intro z hz; rw [List.eq_of_mem_replicate hz]; decide, ?_, ?_⟩ ⟨?_, ?_, ?_, ?_, ?_, ?_⟩ fun x hx => ?_
  · simp only
    rw [val_append, hrU, List.drop_of_length_le (by simp [-map_take,-map_drop])]
    simp [-map_take,-map_drop, val]
  · simp only
    rw [val_append, hrU]
    simpa [-map_take,-map_drop, val] using hUm
  all_goals first | (with_reducible refine W_id ?_) | (simp [-map_take,-map_drop, push_cast, dV_take, dV_drop, divEnv, divBox, dV_replicate, hru, ← hm]; done) | (intro i hi; dsimp only; (repeat' split) <;> omega)
  obtain ⟨i, rest, q⟩ := x
  obtain ⟨hi, hrlen, hrd, hqlen, hqd, hA, hB⟩ := hx
  simp only at hi hrlen hrd hqlen hqd hA hB
  rcases Nat.eq_zero_or_pos i with h0 | h0
  · subst h0
    simp only [Nat.pow_zero, Nat.one_mul, Nat.mul_one, List.drop_zero] at hA hB
    have hqv : val B32 q = a / b := by
      have h1 : U / V = val B32 q := by rw [← hA, Nat.add_mul_div_left _ _ hV0, Nat.div_eq_of_lt hB]; omega
      rw [← h1, hU, hV, Nat.mul_div_mul_right _ _ (Nat.two_pow_pos s)]
    have hrv : val B32 rest / 2 ^ s = a % b := by
      have h1 : U % V = val B32 rest := by rw [← hA, Nat.add_mul_mod_self_left, Nat.mod_eq_of_lt hB]
      rw [← h1, hU, hV, Nat.mul_mod_mul_right, Nat.mul_div_cancel _ (Nat.two_pow_pos s)]
    have ec1 := cut_ok false rest hrd (u + 1) hrlen
    have ec2 := cut_ok false q hqd m hqlen
    rw [hqv] at ec2
    have hlr : (limbs (val B32 rest)).length ≤ 20000000 := by
      refine Nat.le_trans (digits_length_le B32_gt _ (u + 1) ?_) (by omega)
      rw [← hrlen]; exact val_lt (by decide) rest hrd
    have edn := natDown_ok (val B32 rest) s hs32 hlr
    rw [hrv] at edn
    refine W_frz 500 (e := 148) (l := dV .u32 rest) (by simp [-map_take,-map_drop, mkS_box, divBox, lk]) (by simp [-map_take,-map_drop]) (W_frz 501 (e := 148) (l := dV .u32 q) (by simp [-map_take,-map_drop, upd, mkS_box, divBox, lk]) (by simp [-map_take,-map_drop]) ?_)
    have htk1 : List.take (u + 1) (dV .u32 rest) = dV .u32 rest := List.take_of_length_le (by simp [-map_take,-map_drop, hrlen])
    have htk2 : List.take m (dV .u32 q) = dV .u32 q := List.take_of_length_le (by simp [-map_take,-map_drop, hqlen])
    repeat' (first
      | with_reducible first | apply thenW_n | apply thenW_exit | apply blockW_same | apply loopW_exit | apply W_seq | apply W_exit
      | with_reducible refine W_rg ?_
      | (rw [vcn]; (try simp [-map_take,-map_drop, push_cast, divEnv, divBox, hrlen, hqlen, htk1, htk2]))
      | (with_reducible refine W_condW ?_; (try simp [-map_take,-map_drop, AS.val, upd, resB, mkS_env, mkS_box, lk, entry_env, condW_true, condW_false, divEnv, divBox, hrlen, hqlen, htk1, htk2]))
      | fail)
    refine CallG_of (ec1) rfl rfl rfl ?_
    try dsimp only
    repeat' (first
      | (rw [vcn]; (try simp [-map_take,-map_drop, push_cast]))
      | fail)
    refine CallG_of (edn) rfl rfl rfl ?_
    try dsimp only
    repeat' (first
      | with_reducible first | apply thenW_n | apply W_seq
      | (rw [vcn]; (try simp [-map_take,-map_drop, push_cast, natAV, numC, ← limbs.eq_1, divEnv, divBox, hrlen, hqlen, htk1, htk2]))
      | with_reducible refine W_drawn mixed (by decide) (by kernel_rfl) ?_
      | (rw [vcnD]; (try simp [-map_take,-map_drop, push_cast, natAV, numC, ← limbs.eq_1, divEnv, divBox, hrlen, hqlen, htk1, htk2]))
      | fail)
    refine callD_of (ec2) rfl rfl rfl ?_
    try dsimp only
    repeat' (first
      | with_reducible first | apply thenW_n | apply W_ret
      | (rw [vcnD]; (try simp [-map_take,-map_drop, push_cast, natAV, numC, ← limbs.eq_1, divEnv, divBox, hrlen, hqlen, htk1, htk2]))
      | refine And.intro (by first | omega | kernel_rfl) ?_
      | fail)
    simp [-map_take,-map_drop, post, resAV, resAll, resOne, closeV, closeC, closeL, resD, resDL, push_cast, natAV, numC, ← limbs.eq_1]
  · obtain ⟨j, rfl⟩ : ∃ j, i = j + 1 := ⟨i - 1, by omega⟩
    have hj : ((j + 1 : Nat) : Int) - 1 = (j : Int) := by omega
    have hjj : (j : Int) + 1 - 1 = (j : Int) := by omega
    obtain ⟨R, lo, rl, vl, hR0, hlo, hRV, hrlb, hvlb, hR3, hV3, hr0t, hzero⟩ := three (B := B32) B32_gt hn2 hdl hrd hdn hdV (by omega) hB (by rw [← htop]; exact htop0)
    obtain ⟨r0, hr0⟩ : ∃ r0, r0 = dg rest (j + n) := ⟨_, rfl⟩
    obtain ⟨r1, hr1⟩ : ∃ r1, r1 = dg rest (j + n - 1) := ⟨_, rfl⟩
    obtain ⟨r2, hr2⟩ : ∃ r2, r2 = dg rest (j + n - 2) := ⟨_, rfl⟩
    have h032 : r0 < 4294967296 := by rw [hr0]; exact dg_lt (by decide) hrd _
    have h132 : r1 < 4294967296 := by rw [hr1]; exact dg_lt (by decide) hrd _
    have h232 : r2 < 4294967296 := by rw [hr2]; exact dg_lt (by decide) hrd _
    rw [← hr0, ← hr1, ← hr2] at hR3
    rw [← hr0, ← htop] at hr0t
    rw [← htop, ← hnext] at hV3
    have hjn1 : (j : Int) + (n : Int) - 1 = ((j + n - 1 : Nat) : Int) := by omega
    have hjn2 : (j : Int) + (n : Int) - 2 = ((j + n - 2 : Nat) : Int) := by omega
    have hor := or_shl r0 r1 h032 h132
    obtain ⟨two, htwo⟩ : ∃ two, two = r0 * 4294967296 + r1 := ⟨_, rfl⟩
    rw [← htwo] at hor
    have hR3' : R = (two * B32 + r2) * B32 ^ (n - 2) + rl := by rw [hR3, htwo]
    have htop1 : ¬ top = 0 := by omega
    obtain ⟨g0, hg0⟩ : ∃ g0, g0 = two / top := ⟨_, rfl⟩
    obtain ⟨l0, hl0d⟩ : ∃ l0, l0 = two % top := ⟨_, rfl⟩
    have hq0 : (two : Int).tdiv (top : Int) = (g0 : Int) := by rw [hg0]; exact (Int.ofNat_tdiv ..).symm
    have hm0 : (two : Int).tmod (top : Int) = (l0 : Int) := by rw [hl0d]; exact (Int.ofNat_tmod ..).symm
    have hq1 : (two : Int) / (top : Int) = (g0 : Int) := by rw [hg0]; simp [-map_take,-map_drop]
    have hm1 : (two : Int) % (top : Int) = (l0 : Int) := by rw [hl0d]; simp [-map_take,-map_drop]
    have hl0t : l0 < top := by rw [hl0d]; exact Nat.mod_lt _ htop0
    have hgl : g0 * top + l0 = two := by rw [hg0, hl0d, Nat.mul_comm]; exact Nat.div_add_mod two top
    have hPpos : 0 < B32 ^ (n - 2) := Nat.pow_pos (by decide)
    have hge0 : R / V ≤ g0 := by
      rw [hR3', hV3, hg0]
      exact kd_init htop0 h232 hrlb hPpos (by decide)
    have htwoB : two ≤ top * 4294967296 + 4294967295 := by have := Nat.mul_le_mul_right 4294967296 hr0t; omega
    have hg0b : g0 ≤ 8589934591 := by
      have h1 : g0 ≤ two / 1 := by rw [hg0]; exact Nat.div_le_div_left htop0 (by decide)
      have h2 : g0 * top ≤ two := by omega
      rcases Nat.lt_or_ge 8589934591 g0 with h3 | h3
      · exfalso
        have h4 : 8589934592 * top ≤ g0 * top := Nat.mul_le_mul_right _ h3
        omega
      · exact h3
    have hqB : R / V < 4294967296 := by rw [Nat.div_lt_iff_lt_mul hV0, Nat.mul_comm]; exact hRV
    repeat' (first
      | with_reducible first | apply thenW_n | apply W_seq | apply W_skip
      | with_reducible refine W_rg ?_
      | (rw [vcn]; (try simp [-map_take,-map_drop, push_cast, divEnv, divBox, hj, hjj, hjn1, hjn2, ← hr0, ← hr1, hor, hq0, hm0, hq1, hm1, htop1]))
      | (with_reducible refine W_condW ?_; (try simp [-map_take,-map_drop, AS.val, upd, resB, mkS_env, mkS_box, lk, entry_env, condW_true, condW_false, divEnv, divBox, hj, hjj, hjn1, hjn2, ← hr0, ← hr1, hor, hq0, hm0, hq1, hm1, htop1]))
      | fail)
    refine W_block ?_
    repeat' (first
      | with_reducible first | apply thenW_n | apply W_seq
      | with_reducible refine W_drawn mixed (by decide) (by kernel_rfl) ?_
      | (rw [vcnD]; (try simp [-map_take,-map_drop, push_cast, divEnv, divBox, hj, hjj, hjn1, hjn2, ← hr0, ← hr1, hor, hq0, hm0, hq1, hm1, htop1]); try simp (disch := omega) only [i64_in, u64_in, shr64i])
      | (with_reducible refine optK_dV (by first | omega | (simp [-map_take,-map_drop]; omega)) ?_)
      | refine And.intro (by first | omega | kernel_rfl) ?_
      | fail)
    refine W_joinQ (X := Nat) (fun g => divEnv2 s n m (u + 1) top next d j g) (fun _ => divBox rest q) (fun g => g < 4294967296 ∧ (g = R / V ∨ (g = R / V + 1 ∧ R < g * V))) ?_ fun g hg => ?_
    · -- the guess
      have fin : ∀ g left, g * top + left = two → R / V ≤ g → g < 4294967296 → g * next ≤ left * B32 + r2 → g = R / V ∨ (g = R / V + 1 ∧ R < g * V) := by
        intro g left h1 h2 h3 h4
        have h5 := kd_exit (B := B32) (P := B32 ^ (n - 2)) (vl := vl) (rl := rl) hvlb hPpos (by decide) htop0 (Nat.le_of_lt h3) h1 h4
        rw [← hV3, ← hR3'] at h5
        exact kd_digit hV0 h2 h5
      refine W_block ?_
      refine W_loopW (X := Nat × Nat) (fun x => divEnv2 s n m (u + 1) top next d j x.1 ++ [(23, iV .u64 x.2)]) (fun _ => divBox rest q) (fun x => x.1)
        (fun x => x.1 * top + x.2 = two ∧ R / V ≤ x.1 ∧ x.1 ≤ 8589934591 ∧ x.2 < 4294967296) (g0, l0) id ⟨hgl, hge0, hg0b, by simp only; omega⟩ ⟨?_, ?_, ?_, ?_, ?_, ?_⟩ fun x hx => ?_
      all_goals first | (with_reducible refine W_id ?_) | (simp [-map_take,-map_drop, push_cast, dV_take, dV_drop, divEnv2, divBox]; done)
      obtain ⟨g, left⟩ := x
      obtain ⟨hgt, hge, hgb, hleft⟩ := hx
      simp only at hgt hge hgb hleft
      -- one less
      have hless : R / V < g → (g - 1) * top + (left + top) = two ∧ R / V ≤ g - 1 := by
        intro h1
        have h2 : g * top = (g - 1) * top + top := by
          have hg1 : 0 < g := Nat.lt_of_le_of_lt (Nat.zero_le _) h1
          have hg2 : g = g - 1 + 1 := (Nat.succ_pred_eq_of_pos hg1).symm
          rw [hg2, Nat.add_sub_cancel, Nat.add_mul, Nat.one_mul]
        refine ⟨by omega, ?_⟩
        generalize R / V = k at h1
        omega
      have hbrk : R / V < g → 4294967296 ≤ left + top → g - 1 < 4294967296 ∧ (g - 1 = R / V ∨ (g - 1 = R / V + 1 ∧ R < (g - 1) * V)) := by
        intro h1 h2
        obtain ⟨h3, h4⟩ := hless h1
        have h5 : g - 1 < 4294967296 := by
          rcases Nat.lt_or_ge (g - 1) 4294967296 with h6 | h6
          · exact h6
          · exfalso
            have h7 : 4294967296 * top ≤ (g - 1) * top := Nat.mul_le_mul_right _ h6
            omega
        exact ⟨h5, fin (g - 1) (left + top) h3 h4 h5 (kd_break (B := B32) hnext32 (Nat.le_of_lt h5) h2)⟩
      have hsl := or_shl left r2 hleft h232
      have hg1 : IntKind.u64.wrap ((g : Int) - 1) = ((g - 1 : Nat) : Int) ∨ g = 0 := by
        rcases Nat.eq_zero_or_pos g with h1 | h1
        · exact .inr h1
        · left; rw [u64_in _ (by omega)]; omega
      have cont : R / V < g → ∀ (Q' : Prop), (IntKind.u64.wrap ((g : Int) - 1) = ((g - 1 : Nat) : Int) → Q') → Q' := by
        intro h1 Q' h2
        rcases hg1 with h3 | h3
        · exact h2 h3
        · subst h3; exact absurd h1 (Nat.not_lt_zero _)
      by_cases hgB : 4294967296 ≤ g
      · have hgBi : (4294967296 : Int) ≤ (g : Int) := by omega
        have hlt : R / V < g := Nat.lt_of_lt_of_le hqB hgB
        refine cont hlt _ fun hg1 => ?_
        repeat' (first
          | with_reducible first | apply thenW_n | apply blockW_n | apply blockW_same | apply loopW_exit | apply W_seq | apply W_block | apply W_skip | apply W_exit
          | with_reducible refine blockW_other (by decide) ?_
          | with_reducible refine W_rg ?_
          | (rw [vcn]; (try simp [-map_take,-map_drop, push_cast, divEnv2, divBox, hjn1, hjn2, ← hr2, hgBi, hg1]); try simp (disch := omega) only [i64_in, u64_in, shr64i])
          | (with_reducible refine W_condW ?_; (try simp [-map_take,-map_drop, AS.val, upd, resB, mkS_env, mkS_box, lk, entry_env, condW_true, condW_false, divEnv2, divBox, hjn1, hjn2, ← hr2, hgBi, hg1]))
          | ((with_reducible refine condW_b (fun hc => ?_) (fun hc => ?_) <;> (try simp [-map_take,-map_drop, Int.ofNat_inj] at hc) <;> (try contradiction)))
          | fail)
        · obtain ⟨k1, k2⟩ := hbrk hlt (by omega)
          with_reducible refine joinW_n (g - 1) id ?_ ?_
          · exact ⟨k1, k2⟩
          · refine ⟨?_, ?_, ?_, ?_, ?_, ?_⟩
            all_goals first | (simp [-map_take,-map_drop, push_cast, dV_take, dV_drop, divEnv2, divBox]; done)
        · obtain ⟨k1, k2⟩ := hless hlt
          refine loopW_n (g - 1, left + top) id (by simp [-map_take,-map_drop]; omega) ⟨k1, k2, by simp only; omega, by simp only; omega⟩ ⟨?_, ?_, ?_, ?_, ?_, ?_⟩
          all_goals first | (simp [-map_take,-map_drop, push_cast, dV_take, dV_drop, divEnv2, divBox]; done)
      · have hgBi : ¬ (4294967296 : Int) ≤ (g : Int) := by omega
        have hgn := mul_lt_big (x := g) (y := next) (by omega) hnext32
        obtain ⟨p, hp⟩ : ∃ p, p = g * next := ⟨_, rfl⟩
        rw [← hp] at hgn
        have hpI : (g : Int) * (next : Int) = (p : Int) := by rw [hp]; simp [-map_take,-map_drop]
        obtain ⟨w, hw⟩ : ∃ w, w = left * 4294967296 + r2 := ⟨_, rfl⟩
        rw [← hw] at hsl
        have hgrt : w < p → R / V < g := by
          intro h1
          have h2 := kd_great (B := B32) (P := B32 ^ (n - 2)) (vl := vl) (next := next) hrlb hgt (by show left * 4294967296 + r2 < g * next; rw [← hw, ← hp]; exact h1)
          rw [← hV3, ← hR3'] at h2
          rw [Nat.div_lt_iff_lt_mul hV0]; exact h2
        repeat' (first
          | with_reducible first | apply thenW_n | apply thenW_exit | apply blockW_same | apply loopW_exit | apply W_seq | apply W_skip | apply W_exit
          | with_reducible refine W_rg ?_
          | (rw [vcn]; (try simp [-map_take,-map_drop, push_cast, divEnv2, divBox, hjn1, hjn2, ← hr2, hgBi, hpI, hsl]); try simp (disch := omega) only [i64_in, u64_in, shr64i])
          | (with_reducible refine W_condW ?_; (try simp [-map_take,-map_drop, AS.val, upd, resB, mkS_env, mkS_box, lk, entry_env, condW_true, condW_false, divEnv2, divBox, hjn1, hjn2, ← hr2, hgBi, hpI, hsl]))
          | (with_reducible refine optK_dV (by first | omega | (simp [-map_take,-map_drop]; omega)) ?_)
          | refine And.intro (by first | omega | kernel_rfl) ?_
          | ((with_reducible refine condW_b (fun hc => ?_) (fun hc => ?_) <;> (try simp [-map_take,-map_drop, Int.ofNat_inj] at hc) <;> (try contradiction)))
          | fail)
        · have hwp : w < p := by omega
          have hlt := hgrt hwp
          refine cont hlt _ fun hg1 => ?_
          repeat' (first
            | with_reducible first | apply thenW_n | apply blockW_n | apply blockW_same | apply loopW_exit | apply W_seq | apply W_block | apply W_skip | apply W_exit
            | with_reducible refine blockW_other (by decide) ?_
            | with_reducible refine W_rg ?_
            | (rw [vcn]; (try simp [-map_take,-map_drop, push_cast, divEnv2, divBox, hg1]); try simp (disch := omega) only [i64_in, u64_in, shr64i])
            | (with_reducible refine W_condW ?_; (try simp [-map_take,-map_drop, AS.val, upd, resB, mkS_env, mkS_box, lk, entry_env, condW_true, condW_false, divEnv2, divBox, hg1]))
            | ((with_reducible refine condW_b (fun hc => ?_) (fun hc => ?_) <;> (try simp [-map_take,-map_drop, Int.ofNat_inj] at hc) <;> (try contradiction)))
            | fail)
          · obtain ⟨k1, k2⟩ := hbrk hlt (by omega)
            refine joinW_n (g - 1) id ⟨k1, k2⟩ ⟨?_, ?_, ?_, ?_, ?_, ?_⟩
            all_goals first | (simp [-map_take,-map_drop, push_cast, dV_take, dV_drop, divEnv2, divBox]; done)
          · obtain ⟨k1, k2⟩ := hless hlt
            have hgp : 0 < g := Nat.lt_of_le_of_lt (Nat.zero_le _) hlt
            refine loopW_n (g - 1, left + top) id (by simp [-map_take,-map_drop]; omega) ⟨k1, k2, by simp only; omega, by simp only; omega⟩ ⟨?_, ?_, ?_, ?_, ?_, ?_⟩
            all_goals first | (simp [-map_take,-map_drop, push_cast, dV_take, dV_drop, divEnv2, divBox]; done)
        · have hwp : ¬ w < p := by omega
          refine joinW_n g id ⟨by omega, fin g left hgt hge (by omega) (by show g * next ≤ left * 4294967296 + r2; omega)⟩ ⟨?_, ?_, ?_, ?_, ?_, ?_⟩
          all_goals first | (simp [-map_take,-map_drop, push_cast, dV_take, dV_drop, divEnv2, divBox]; done)
    · obtain ⟨hg32, hgR⟩ := hg
      have hVn : V < B32 ^ n := by rw [← hdV, ← hdn]; exact val_lt (by decide) d hdl
      have hBj : 0 < B32 ^ j := Nat.pow_pos (by decide)
      repeat' (first
        | with_reducible first | apply thenW_n | apply W_seq | apply W_block
        | with_reducible refine W_rg ?_
        | (rw [vcn]; (try simp [-map_take,-map_drop, push_cast, divEnv2, divBox]))
        | fail)
      -- the guess times the divisor is taken off
      refine W_loopW (X := Nat × Nat × Nat × List Nat) (fun x => divEnv2 s n m (u + 1) top next d j g ++ [(24, iV .i64 x.2.2.1), (25, iV .u64 x.2.1), (170, i64V n), (171, i64V x.1)]) (fun x => divBox x.2.2.2 q) (fun x => n - x.1)
        (fun x => x.1 ≤ n ∧ x.2.2.2.length = u + 1 ∧ (∀ z ∈ x.2.2.2, z < B32) ∧ x.2.1 < 4294967296 ∧ x.2.2.1 ≤ 1 ∧ val B32 x.2.2.2 + B32 ^ j * (g * val B32 (d.take x.1)) = val B32 rest + B32 ^ (j + x.1) * (x.2.1 + x.2.2.1) ∧ ∀ p, j + x.1 ≤ p → dg x.2.2.2 p = dg rest p)
        (0, 0, 0, rest) id ⟨Nat.zero_le _, hrlen, hrd, by simp [-map_take,-map_drop], by simp [-map_take,-map_drop], by simp [-map_take,-map_drop, val], fun _ _ => rfl⟩ ⟨?_, ?_, ?_, ?_, ?_, ?_⟩ fun x hx => ?_
      all_goals first | (with_reducible refine W_id ?_) | (simp [-map_take,-map_drop, push_cast, dV_take, dV_drop, divEnv2, divBox]; done)
      obtain ⟨k, c, bw, re⟩ := x
      obtain ⟨hk, hrel, hred, hc32, hbw, hJ, hup⟩ := hx
      simp only at hk hrel hred hc32 hbw hJ hup
      obtain ⟨y, hyd⟩ : ∃ y, y = dg d k := ⟨_, rfl⟩
      have hy32 : y < 4294967296 := by rw [hyd]; exact dg_lt (by decide) hdl _
      obtain ⟨old, hold⟩ : ∃ old, old = dg re (j + k) := ⟨_, rfl⟩
      have hold32 : old < 4294967296 := by rw [hold]; exact dg_lt (by decide) hred _
      obtain ⟨od, hod⟩ : ∃ od, od = dg re (j + n) := ⟨_, rfl⟩
      have hod32 : od < 4294967296 := by rw [hod]; exact dg_lt (by decide) hred _
      have hgy := mul_lt_big hg32 hy32
      obtain ⟨p, hp⟩ : ∃ p, p = g * y := ⟨_, rfl⟩
      rw [← hp] at hgy
      have hpI : (g : Int) * (y : Int) = (p : Int) := by rw [hp]; simp [-map_take,-map_drop]
      have hstep : ∀ xn b', k < n → xn < 4294967296 → xn + (c + p) % 4294967296 + bw = old + 4294967296 * b' → b' ≤ 1 →
          val B32 (re.set (j + k) xn) + B32 ^ j * (g * val B32 (d.take (k + 1))) = val B32 rest + B32 ^ (j + (k + 1)) * ((c + p) / 4294967296 + b') := by
        intro xn b' h0 h1 h2 h3
        have hv := val_set B32 re (j + k) xn (by omega)
        rw [← hold] at hv
        have := ms_step (B := B32) (p := j + k) (dk := y) rfl hv hJ (by rw [← hp]; exact h2)
        rw [val_take_succ, ← hyd, this, ← hp]
        rfl
      have hups : ∀ xn, k < n → ∀ p, j + (k + 1) ≤ p → dg (re.set (j + k) xn) p = dg rest p := by
        intro xn h0 p hp
        rw [dg_set _ _ _ _ (by omega), if_neg (by omega)]; exact hup p (by omega)
      -- what is known where all is taken off
      have hend : k = n → val B32 re = val B32 (re.take (j + n)) + B32 ^ (j + n) * od ∧ val B32 (re.take (j + n)) < B32 ^ (j + n) ∧
          val B32 (re.take (j + n)) + B32 ^ (j + n) * od + B32 ^ j * (g * V) = val B32 rest + B32 ^ (j + n) * (c + bw) := by
        intro h0
        subst h0
        have h1 := val_low (B := B32) re (j + k) (fun p hp => by rw [hup p (by omega)]; exact hzero p hp)
        rw [← hod] at h1
        refine ⟨h1, take_lt (by decide) hred _, ?_⟩
        rw [← h1]
        have h2 : d.take k = d := List.take_of_length_le (by omega)
        rw [h2, hdV] at hJ
        exact hJ
      have hXV : V * B32 ^ j ≤ B32 ^ (j + n) := by
        rw [Nat.pow_add, Nat.mul_comm (B32 ^ j)]
        exact Nat.mul_le_mul_right _ (Nat.le_of_lt hVn)
      have hjm : j < q.length := by omega
      have hdrop : ∀ gg, (q.set j gg).drop j = gg :: q.drop (j + 1) := by
        intro gg
        rw [List.drop_eq_getElem_cons (by simpa [-map_take,-map_drop] using hjm)]
        simp [-map_take,-map_drop, List.drop_set]
      have hfinal : ∀ gg rr, gg = R / V → val B32 rr + B32 ^ j * (gg * V) = val B32 rest → val B32 rr + V * (B32 ^ j * val B32 ((q.set j gg).drop j)) = U := by
        intro gg rr h1 h2
        rw [hdrop, val, ← hA, ← h2, Nat.mul_add, Nat.mul_add, Nat.pow_succ]
        simp only [Nat.mul_assoc, Nat.mul_comm, Nat.mul_left_comm, Nat.add_assoc]
      repeat' (first
        | with_reducible first | apply thenW_n | apply thenW_exit | apply blockW_n | apply blockW_same | apply loopW_exit | apply W_seq | apply W_block | apply W_skip | apply W_exit
        | with_reducible refine W_rg ?_
        | (rw [vcn]; (try simp [-map_take,-map_drop, push_cast, divEnv2, divBox, ← hyd, ← hold, ← hod, hpI, IntKind.wrap_u32]); try simp (disch := omega) only [i64_in, u64_in, shr64i])
        | (with_reducible refine W_condW ?_; (try simp [-map_take,-map_drop, AS.val, upd, resB, mkS_env, mkS_box, lk, entry_env, condW_true, condW_false, divEnv2, divBox, ← hyd, ← hold, ← hod, hpI, IntKind.wrap_u32]))
        | (with_reducible refine optK_dV (by first | omega | (simp [-map_take,-map_drop]; omega)) ?_)
        | refine And.intro (by first | omega | kernel_rfl) ?_
        | ((with_reducible refine condW_b (fun hc => ?_) (fun hc => ?_) <;> (try simp [-map_take,-map_drop, Int.ofNat_inj] at hc) <;> (try contradiction)))
        | fail)
      · obtain ⟨xn, hxn⟩ : ∃ xn, xn = old + 4294967296 - (c + p) % 4294967296 - bw := ⟨_, rfl⟩
        have hset := dV_set' .u32 re (j + k) xn (by omega)
        have hxI : ((old : Int) - ((c : Int) + (p : Int)) % 4294967296 - (bw : Int) + 4294967296) % 4294967296 = (xn : Int) := by omega
        refine loopW_n (k + 1, (c + p) / 4294967296, 1, re.set (j + k) xn) id (by simp [-map_take,-map_drop]; omega) ⟨by simp [-map_take,-map_drop]; omega, by simp [-map_take,-map_drop, hrel], mem_set_lt hred (by show xn < 4294967296; omega), by simp only; omega, by simp [-map_take,-map_drop], hstep xn 1 (by omega) (by omega) (by omega) (by omega), hups xn (by omega)⟩ ⟨?_, ?_, ?_, ?_, ?_, ?_⟩
        all_goals first | (simp [-map_take,-map_drop, push_cast, dV_take, dV_drop, divEnv2, divBox, hset, hxI]; done) | (simp [-map_take,-map_drop, push_cast, dV_take, dV_drop, divEnv2, divBox, hset, hxI]; omega)
      · obtain ⟨xn, hxn⟩ : ∃ xn, xn = old - (c + p) % 4294967296 - bw := ⟨_, rfl⟩
        have hset := dV_set' .u32 re (j + k) xn (by omega)
        have hxI : ((old : Int) - ((c : Int) + (p : Int)) % 4294967296 - (bw : Int)) % 4294967296 = (xn : Int) := by omega
        refine loopW_n (k + 1, (c + p) / 4294967296, 0, re.set (j + k) xn) id (by simp [-map_take,-map_drop]; omega) ⟨by simp [-map_take,-map_drop]; omega, by simp [-map_take,-map_drop, hrel], mem_set_lt hred (by show xn < 4294967296; omega), by simp only; omega, by simp [-map_take,-map_drop], hstep xn 0 (by omega) (by omega) (by omega) (by omega), hups xn (by omega)⟩ ⟨?_, ?_, ?_, ?_, ?_, ?_⟩
        all_goals first | (simp [-map_take,-map_drop, push_cast, dV_take, dV_drop, divEnv2, divBox, hset, hxI]; done)
      · -- one too great
        have hkn : k = n := by omega
        obtain ⟨he1, he2, he3⟩ := hend hkn
        have hneg : od < c + bw := by omega
        have hgg := fin_n hR0 hgR he2 he3 hneg
        have hg1 : 1 ≤ g := by rw [hgg]; exact Nat.le_add_left ..
        have hgI : IntKind.u64.wrap ((g : Int) - 1) = ((g - 1 : Nat) : Int) := by rw [u64_in _ (by omega)]; omega
        obtain ⟨v, hv⟩ : ∃ v, v = (od + 4294967296 - c - bw) % 4294967296 := ⟨_, rfl⟩
        have hv32 : v < 4294967296 := by rw [hv]; exact Nat.mod_lt _ (by decide)
        have hvI : ((od : Int) - (c : Int) - (bw : Int)) % 4294967296 = (v : Int) := by omega
        have hset0 := dV_set' .u32 re (j + n) v (by omega)
        have hvs := val_set B32 re (j + n) v (by omega)
        rw [← hod] at hvs
        obtain ⟨re2, hre2⟩ : ∃ re2, re2 = re.set (j + n) v := ⟨_, rfl⟩
        rw [← hre2] at hset0 hvs
        have hre2l : re2.length = u + 1 := by rw [hre2]; simp [-map_take,-map_drop, hrel]
        have hre2d : ∀ z ∈ re2, z < B32 := by rw [hre2]; exact mem_set_lt hred hv32
        have hre2v : dg re2 (j + n) = v := by rw [hre2, dg_set _ _ _ _ (by omega), if_pos rfl]
        have hre2z : ∀ p, j + n < p → dg re2 p = 0 := by
          intro p hp
          rw [hre2, dg_set _ _ _ _ (by omega), if_neg (by omega), hup p (by omega)]; exact hzero p hp
        repeat' (first
          | with_reducible first | apply thenW_n | apply thenW_ret | apply thenW_exit | apply thenW_panic | apply blockW_n | apply blockW_same | apply blockW_ret | apply blockW_panic | apply loopW_ret | apply loopW_exit | apply loopW_panic | apply joinW_ret | apply joinW_exit | apply joinW_panic | apply W_seq | apply W_block | apply W_skip | apply W_ret | apply W_exit | apply W_label
          | with_reducible refine blockW_other (by decide) ?_
          | with_reducible refine W_rg ?_
          | (rw [vcn]; (try simp [-map_take,-map_drop, push_cast, divEnv2, divBox, hgI]); try simp (disch := omega) only [i64_in, u64_in, shr64i])
          | with_reducible refine W_drawn mixed (by decide) (by kernel_rfl) ?_
          | (rw [vcnD]; (try simp [-map_take,-map_drop, push_cast, divEnv2, divBox, hgI]); try simp (disch := omega) only [i64_in, u64_in, shr64i])
          | (with_reducible refine W_condW ?_; (try simp [-map_take,-map_drop, AS.val, upd, resB, mkS_env, mkS_box, lk, entry_env, condW_true, condW_false, divEnv2, divBox, hgI]))
          | (with_reducible refine optK_dV (by first | omega | (simp [-map_take,-map_drop]; omega)) ?_)
          | with_reducible refine optK_dVh (by omega) ?_
          | refine And.intro (by first | omega | kernel_rfl) ?_
          | ((with_reducible refine condW_b (fun hc => ?_) (fun hc => ?_) <;> (try simp [-map_take,-map_drop, Int.ofNat_inj] at hc) <;> (try contradiction)))
          | fail)
        refine W_loopW (X := Nat × Nat × List Nat) (fun x => divEnv2 s n m (u + 1) top next d j (g - 1) ++ [(29, iV .u64 x.2.1), (233, i64V n), (234, i64V x.1)]) (fun x => divBox x.2.2 q) (fun x => n - x.1)
          (fun x => x.1 ≤ n ∧ x.2.2.length = u + 1 ∧ (∀ z ∈ x.2.2, z < B32) ∧ x.2.1 ≤ 1 ∧ val B32 x.2.2 + B32 ^ (j + x.1) * x.2.1 = val B32 re2 + B32 ^ j * val B32 (d.take x.1) ∧ ∀ p, j + x.1 ≤ p → dg x.2.2 p = dg re2 p)
          (0, 0, re2) id ⟨Nat.zero_le _, hre2l, hre2d, by simp [-map_take,-map_drop], by simp [-map_take,-map_drop, val], fun _ _ => rfl⟩ ⟨?_, ?_, ?_, ?_, ?_, ?_⟩ fun x hx => ?_
        all_goals first | (with_reducible refine W_id ?_) | (simp [-map_take,-map_drop, push_cast, dV_take, dV_drop, divEnv2, divBox, hset0, hvI]; done) | (simp [-map_take,-map_drop, push_cast, dV_take, dV_drop, divEnv2, divBox, hset0, hvI]; omega)
        obtain ⟨kk, sm, r3⟩ := x
        obtain ⟨hkk, hr3l, hr3d, hsm, hK, hup3⟩ := hx
        simp only at hkk hr3l hr3d hsm hK hup3
        obtain ⟨y3, hy3⟩ : ∃ y3, y3 = dg d kk := ⟨_, rfl⟩
        have hy332 : y3 < 4294967296 := by rw [hy3]; exact dg_lt (by decide) hdl _
        obtain ⟨o3, ho3⟩ : ∃ o3, o3 = dg r3 (j + kk) := ⟨_, rfl⟩
        have ho332 : o3 < 4294967296 := by rw [ho3]; exact dg_lt (by decide) hr3d _
        obtain ⟨v3, hv3⟩ : ∃ v3, v3 = dg r3 (j + n) := ⟨_, rfl⟩
        have hv332 : v3 < 4294967296 := by rw [hv3]; exact dg_lt (by decide) hr3d _
        repeat' (first
          | with_reducible first | apply thenW_n | apply thenW_exit | apply blockW_n | apply blockW_same | apply loopW_exit | apply W_seq | apply W_block | apply W_skip | apply W_exit
          | with_reducible refine W_rg ?_
          | (rw [vcn]; (try simp [-map_take,-map_drop, push_cast, divEnv2, divBox, ← hy3, ← ho3, ← hv3, IntKind.wrap_u32]); try simp (disch := omega) only [i64_in, u64_in, shr64i])
          | with_reducible refine W_drawn mixed (by decide) (by kernel_rfl) ?_
          | (rw [vcnD]; (try simp [-map_take,-map_drop, push_cast, divEnv2, divBox, ← hy3, ← ho3, ← hv3, IntKind.wrap_u32]); try simp (disch := omega) only [i64_in, u64_in, shr64i])
          | (with_reducible refine W_condW ?_; (try simp [-map_take,-map_drop, AS.val, upd, resB, mkS_env, mkS_box, lk, entry_env, condW_true, condW_false, divEnv2, divBox, ← hy3, ← ho3, ← hv3, IntKind.wrap_u32]))
          | (with_reducible refine optK_dV (by first | omega | (simp [-map_take,-map_drop]; omega)) ?_)
          | refine And.intro (by first | omega | kernel_rfl) ?_
          | ((with_reducible refine condW_b (fun hc => ?_) (fun hc => ?_) <;> (try simp [-map_take,-map_drop, Int.ofNat_inj] at hc) <;> (try contradiction)))
          | fail)
        · have hset := dV_set' .u32 r3 (j + kk) ((sm + (o3 + y3)) % 4294967296) (by omega)
          have hv4 := val_set B32 r3 (j + kk) ((sm + (o3 + y3)) % B32) (by omega)
          rw [← ho3] at hv4
          have hst := ab_step (B := B32) (p := j + kk) (dk := y3) rfl hv4 hK
          refine loopW_n (kk + 1, (sm + (o3 + y3)) / 4294967296, r3.set (j + kk) ((sm + (o3 + y3)) % 4294967296)) id (by simp [-map_take,-map_drop]; omega) ⟨by simp [-map_take,-map_drop]; omega, by simp [-map_take,-map_drop, hr3l], mem_set_lt hr3d (Nat.mod_lt _ (by decide)), by simp only; omega, ?_, ?_⟩ ⟨?_, ?_, ?_, ?_, ?_, ?_⟩
          · simp only
            rw [val_take_succ, ← hy3]
            exact hst
          · intro p hp
            simp only at hp ⊢
            rw [dg_set _ _ _ _ (by omega), if_neg (by omega)]; exact hup3 p (by omega)
          all_goals first | (simp [-map_take,-map_drop, push_cast, dV_take, dV_drop, divEnv2, divBox, hset]; done)
        · have hkkn : kk = n := by omega
          rw [hkkn] at hK hup3
          have hvv : v3 = v := by rw [hv3, hup3 _ (Nat.le_refl _), hre2v]
          have hlow : val B32 r3 = val B32 (r3.take (j + n)) + B32 ^ (j + n) * v := by
            rw [val_low (B := B32) r3 (j + n) (fun p hp => by rw [hup3 p (by omega)]; exact hre2z p hp), ← hv3, hvv]
          have hdt : d.take n = d := List.take_of_length_le (by omega)
          rw [hdt, hdV] at hK
          have h2 : val B32 (r3.take (j + n)) + B32 ^ (j + n) * sm = val B32 (re.take (j + n)) + B32 ^ j * V := by
            generalize B32 ^ (j + n) * v = A at hlow hvs
            generalize B32 ^ (j + n) * od = C at he1 hvs
            generalize B32 ^ (j + n) * sm = D at hK ⊢
            generalize B32 ^ j * V = E at hK ⊢
            omega
          obtain ⟨_, f2, f3, f4, f5, f6⟩ := fin_b hV0 hBj hXV hR0 hlo hgR he2 (take_lt (by decide) hr3d _) he3 hneg h2 hsm
          have hvB : v = 4294967295 := by omega
          have hset := dV_set' .u32 r3 (j + n) 0 (by omega)
          have hv4 := val_set B32 r3 (j + n) 0 (by omega)
          rw [← hv3, hvv] at hv4
          have hv5 : val B32 (r3.set (j + n) 0) = val B32 (r3.take (j + n)) := by
            generalize B32 ^ (j + n) * v = A at hlow hv4
            omega
          have hsetq := dV_set' .u32 q j (g - 1) (by omega)
          have hgJ : ((g - 1 : Nat) : Int) % 4294967296 = ((g - 1 : Nat) : Int) := by omega
          have hvz : ((v3 : Int) + (sm : Int)) % 4294967296 = 0 := by omega
          have hvz2 : ((v3 : Int) + (sm : Int) % 4294967296) % 4294967296 = 0 := by omega
          refine loopW_n (j, r3.set (j + n) 0, q.set j (g - 1)) id (by simp [-map_take,-map_drop]) ⟨by simp [-map_take,-map_drop]; omega, by simp [-map_take,-map_drop, hr3l], mem_set_lt hr3d (by decide), by simp [-map_take,-map_drop, hqlen], mem_set_lt hqd (by show g - 1 < 4294967296; omega), hfinal (g - 1) _ f2 (by rw [hv5]; exact f5), by simp only; rw [hv5]; exact f6⟩ ⟨?_, ?_, ?_, ?_, ?_, ?_⟩
          all_goals first | (simp [-map_take,-map_drop, push_cast, dV_take, dV_drop, divEnv, divEnv2, divBox, hset, hsetq, hgJ, hvz, hvz2]; done)
      · -- it was the digit
        obtain ⟨he1, he2, he3⟩ := hend (by omega)
        obtain ⟨xn, hxn⟩ : ∃ xn, xn = od - c - bw := ⟨_, rfl⟩
        have hxI : ((od : Int) - (c : Int) - (bw : Int)) % 4294967296 = (xn : Int) := by omega
        have hset := dV_set' .u32 re (j + n) xn (by omega)
        have hsetq := dV_set' .u32 q j g (by omega)
        have hv := val_set B32 re (j + n) xn (by omega)
        rw [← hod] at hv
        have hxx : xn + (c + bw) = od := by omega
        have h5 : val B32 (re.set (j + n) xn) + B32 ^ j * (g * V) = val B32 rest := by
          have h6 : B32 ^ (j + n) * od = B32 ^ (j + n) * xn + B32 ^ (j + n) * (c + bw) := by rw [← hxx, Nat.mul_add]
          omega
        obtain ⟨h7, h8⟩ := fin_a hV0 hBj hR0 hlo hgR h5
        have hgI : (g : Int) % 4294967296 = (g : Int) := by omega
        refine loopW_n (j, re.set (j + n) xn, q.set j g) id (by simp [-map_take,-map_drop]) ⟨by simp [-map_take,-map_drop]; omega, by simp [-map_take,-map_drop, hrel], mem_set_lt hred (by show xn < 4294967296; omega), by simp [-map_take,-map_drop, hqlen], mem_set_lt hqd hg32, hfinal g _ h7 h5, h8⟩ ⟨?_, ?_, ?_, ?_, ?_, ?_⟩
        all_goals first | (simp [-map_take,-map_drop, push_cast, dV_take, dV_drop, divEnv, divEnv2, divBox, hset, hsetq, hxI, hgI]; done)
end Go.Fw
namespace Go.Fw
open Go Go.Proofs Go.IntWalk
theorem natDiv_ok (a b : Nat) (hb : 0 < b) (hs : (limbs a).length ≤ 10000000) : Eval Try.prog 116 [natAV a, natAV b] (.ret (.tup [natAV (a / b), natAV (a % b), i64V 0])) := by
  rcases Nat.lt_or_ge a b with h | h
  · have := natDiv_lt a b h
    rw [Nat.div_eq_of_lt h, Nat.mod_eq_of_lt h]
    exact this
  · have h1 := limbs_pos hb
    rcases Nat.lt_or_ge (limbs b).length 2 with h2 | h2
    · exact natDiv_one a b h (by omega) (by omega)
    · exact natDiv_big a b h h2 hs
set_option linter.unusedSimpArgs false
set_option maxRecDepth 100000
set_option maxHeartbeats 2000000
open List (map_take map_drop)
attribute [local push_cast] optK_some optK_none optK_ite optK_map optK_bind gOn stepK isMem evPure evMem evBin evUn evConv evLen evBuiltin evMinMax evSlice evBuild evAppend evIndex evIndexAddr evField evFieldAddr intBin strBin appDest AS.val AS.mem AS.elems AS.put AS.put' AS.eff AV.cells? AV.isCell AV.refs all_isByte take_byteV drop_byteV strOf_map bndOk bnd partAV ptrAdd killBox catA inOrder fillA setAt ofVal resB upd byteV List.head?_take List.head?_drop List.getElem?_map mkS_env mkS_box mkS_used entry_env entry_box entry_used lk stepD lookIds Oper.looksAt Op.operands Call.operands St.ids refsL renL_append ren renL renBox Box.refs iV i64V boolV dV_getElem dV_app dV_cons toNat_add2 toNat_add1
attribute [local simp ↓] numC_refs numC_isCell numC_cells numC_resB numC_resD numC_ren numC_closeC numC_isOwn
theorem natGcd_ok (a b : Nat) (ha : (limbs a).length ≤ 10000000) (hb : (limbs b).length ≤ 10000000) : Eval Try.prog 94 [natAV a, natAV b] (.ret (natAV (Nat.gcd a b))) := by
  refine Eval.intro Try.func94 rfl Try.call94 _ _ (Nat.le_of_ble_eq_true rfl) (by simp [-map_take,-map_drop, AV.refs, refsL, natAV, push_cast]) fun hs0 => ?_
  repeat' (first
    | with_reducible first | apply thenW_n | apply W_seq | apply W_block
    | with_reducible refine W_rg ?_
    | (rw [vcn]; (try simp [-map_take,-map_drop, push_cast, natAV]))
    | fail)
  refine W_loopW (X := Nat × Nat) (fun x => [(2, .bp 2 0), (3, .bp 3 0), (4, .bp 4 0)]) (fun x => [(2, .mut 27 [natC x.1]), (3, .mut 27 [natC x.2]), (4, .mut 27 [.v (.slice none 0 0)])])
    (fun x => x.2) (fun x => Nat.gcd x.1 x.2 = Nat.gcd a b ∧ (limbs x.1).length ≤ 10000000 ∧ (limbs x.2).length ≤ 10000000) (a, b) id ⟨rfl, ha, hb⟩ ⟨?_, ?_, ?_, ?_, ?_, ?_⟩ fun x hx => ?_
  all_goals first | (with_reducible refine W_id ?_) | (simp [-map_take,-map_drop, push_cast, dV_take, dV_drop]; done)
  obtain ⟨x, y⟩ := x
  obtain ⟨hg, hx, hy⟩ := hx
  simp only at hg hx hy
  rcases Nat.eq_zero_or_pos y with h0 | h0
  · subst h0
    have e : limbs 0 = [] := rfl
    rw [Nat.gcd_zero_right] at hg
    rw [← hg]
    repeat' (first
      | with_reducible first | apply thenW_n | apply thenW_exit | apply blockW_same | apply loopW_exit | apply W_seq | apply W_ret | apply W_exit
      | with_reducible refine W_rg ?_
      | (rw [vcn]; (try simp [-map_take,-map_drop, push_cast, numC, ← limbs.eq_1, e]))
      | (with_reducible refine W_condW ?_; (try simp [-map_take,-map_drop, AS.val, upd, resB, mkS_env, mkS_box, lk, entry_env, condW_true, condW_false, numC, ← limbs.eq_1, e]))
      | fail)
    simp [-map_take,-map_drop, post, resAV, resAll, resOne, closeV, closeC, closeL, resD, resDL, push_cast, natAV, numC, ← limbs.eq_1]
  · have hy1 := limbs_pos h0
    have ed := natDiv_ok x y h0 hx
    have hlt := Nat.mod_lt x h0
    repeat' (first
      | with_reducible first | apply thenW_n | apply W_seq | apply W_block | apply W_skip
      | with_reducible refine W_rg ?_
      | (rw [vcn]; (try simp [-map_take,-map_drop, push_cast, numC, ← limbs.eq_1, hy1]))
      | (with_reducible refine W_condW ?_; (try simp [-map_take,-map_drop, AS.val, upd, resB, mkS_env, mkS_box, lk, entry_env, condW_true, condW_false, numC, ← limbs.eq_1, hy1]))
      | fail)
    refine CallG_of (ed) rfl rfl rfl ?_
    try dsimp only
    repeat' (first
      | with_reducible first | apply thenW_n | apply blockW_n
      | (rw [vcn]; (try simp [-map_take,-map_drop, push_cast, natAV, numC, ← limbs.eq_1]))
      | with_reducible refine W_drawn mixed (by decide) (by kernel_rfl) ?_
      | (rw [vcnD]; (try simp [-map_take,-map_drop, push_cast, natAV, numC, ← limbs.eq_1]))
      | refine And.intro (by first | omega | kernel_rfl) ?_
      | fail)
    refine loopW_n (y, x % y) id (by simpa [-map_take,-map_drop] using hlt) ⟨?_, hy, Nat.le_trans (limbs_le (Nat.le_of_lt hlt)) hy⟩ ⟨?_, ?_, ?_, ?_, ?_, ?_⟩
    · simp only
      rw [← hg, Nat.gcd_comm y, ← Nat.gcd_rec, Nat.gcd_comm]
    all_goals first | (simp [-map_take,-map_drop, push_cast, dV_take, dV_drop, numC, ← limbs.eq_1]; done)
theorem natSub_ok (a b : Nat) (hb : b ≤ a) (hs : (limbs a).length ≤ 20000000) : Eval Try.prog 98 [natAV a, natAV b] (.ret (.tup [natAV (a - b), i64V 0])) := by
  refine Eval.intro Try.func98 rfl Try.call98 _ _ (Nat.le_of_ble_eq_true rfl) (by simp [-map_take,-map_drop, AV.refs, refsL, natAV, push_cast]) fun hs0 => ?_
  have hc : ¬ cmpN a b < 0 := by rw [cmpN_neg]; omega
  repeat' (first
    | with_reducible first | apply thenW_n | apply W_seq
    | with_reducible refine W_rg ?_
    | (rw [vcn]; (try simp [-map_take,-map_drop, push_cast, natAV]))
    | fail)
  refine CallG_of (natCmp_ok a b) rfl rfl rfl ?_
  try dsimp only
  repeat' (first
    | with_reducible first | apply thenW_n | apply W_seq | apply W_skip
    | with_reducible refine W_rg ?_
    | (rw [vcn]; (try simp [-map_take,-map_drop, push_cast, natAV, hc]))
    | (with_reducible refine W_condW ?_; (try simp [-map_take,-map_drop, AS.val, upd, resB, mkS_env, mkS_box, lk, entry_env, condW_true, condW_false, natAV, hc]))
    | fail)
  refine CallG_of (natLess_ok a b hb hs) rfl rfl rfl ?_
  try dsimp only
  repeat' (first
    | with_reducible first | apply thenW_n | apply W_ret
    | (rw [vcn]; (try simp [-map_take,-map_drop, push_cast, natAV]))
    | fail)
  simp [-map_take,-map_drop, post, resAV, resAll, resOne, closeV, closeC, closeL, resD, resDL, push_cast, natAV]
theorem natSub_neg (a b : Nat) (hb : a < b) : Eval Try.prog 98 [natAV a, natAV b] (.ret (.tup [natAV 0, i64V 4])) := by
  refine Eval.outT (l := [.agg [.v (.slice none 0 0)], i64V 4]) ?_ ⟨Sub.agg ⟨numC_sub true .u32 B32, trivial⟩, Sub.refl _, trivial⟩ (by simp [-map_take,-map_drop, AV.isOwn, i64V]) (by simp [-map_take,-map_drop, AV.isOwn, natAV, i64V])
  refine Eval.intro Try.func98 rfl Try.call98 _ _ (Nat.le_of_ble_eq_true rfl) (by simp [-map_take,-map_drop, AV.refs, refsL, natAV, push_cast]) fun hs0 => ?_
  have hc : cmpN a b < 0 := by rw [cmpN_neg]; omega
  repeat' (first
    | with_reducible first | apply thenW_n | apply W_seq
    | with_reducible refine W_rg ?_
    | (rw [vcn]; (try simp [-map_take,-map_drop, push_cast, natAV]))
    | fail)
  refine CallG_of (natCmp_ok a b) rfl rfl rfl ?_
  try dsimp only
  repeat' (first
    | with_reducible first | apply thenW_n | apply thenW_ret | apply W_seq | apply W_ret
    | with_reducible refine W_rg ?_
    | (rw [vcn]; (try simp [-map_take,-map_drop, push_cast, natAV, hc]))
    | (with_reducible refine W_condW ?_; (try simp [-map_take,-map_drop, AS.val, upd, resB, mkS_env, mkS_box, lk, entry_env, condW_true, condW_false, natAV, hc]))
    | fail)
  simp [-map_take,-map_drop, post, resAV, resAll, resOne, closeV, closeC, closeL, resD, resDL, push_cast, natAV]
end Go.Fw
