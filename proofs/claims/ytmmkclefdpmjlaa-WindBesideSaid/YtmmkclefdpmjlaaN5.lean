/- nat: Mul. -/
import Derived.Test.YtmmkclefdpmjlaaN1
set_option linter.unusedSimpArgs false
set_option linter.unusedVariables false
namespace Go.Fw
open Go Go.Proofs Go.IntWalk
theorem mul_step {B p vo vo' o c t A z : Nat} (hs : vo' + B ^ p * o = vo + B ^ p * (t % B)) (hI : vo + B ^ p * c = A) (ht : t = c + z + o) :
    vo' + B ^ (p + 1) * (t / B) = A + B ^ p * z := by
  have h1 : B ^ p * (t % B) + B ^ (p + 1) * (t / B) = B ^ p * t := by rw [Nat.pow_succ, Nat.mul_assoc, ← Nat.mul_add, Nat.mod_add_div]
  have h2 : B ^ p * t = B ^ p * c + B ^ p * z + B ^ p * o := by rw [ht, Nat.mul_add, Nat.mul_add]
  omega
theorem mul_lt_big {x y : Nat} (hx : x < 4294967296) (hy : y < 4294967296) : x * y ≤ 18446744065119617025 := by
  have := Nat.mul_le_mul (show x ≤ 4294967295 by omega) (show y ≤ 4294967295 by omega)
  omega
set_option linter.unusedSimpArgs false
set_option maxRecDepth 100000
set_option maxHeartbeats 4000000
open List (map_take map_drop)
attribute [local push_cast] optK_some optK_none optK_ite optK_map optK_bind gOn stepK isMem evPure evMem evBin evUn evConv evLen evBuiltin evMinMax evSlice evBuild evAppend evIndex evIndexAddr evField evFieldAddr intBin strBin appDest AS.val AS.mem AS.elems AS.put AS.put' AS.eff AV.cells? AV.isCell AV.refs all_isByte take_byteV drop_byteV strOf_map bndOk bnd partAV ptrAdd killBox catA inOrder fillA setAt ofVal resB upd byteV List.head?_take List.head?_drop List.getElem?_map mkS_env mkS_box mkS_used entry_env entry_box entry_used lk stepD lookIds Oper.looksAt Op.operands Call.operands St.ids refsL renL_append ren renL renBox Box.refs iV i64V boolV dV_getElem dV_app dV_cons toNat_add2 toNat_add1
attribute [local simp ↓] numC_refs numC_isCell numC_cells numC_resB numC_resD numC_ren numC_closeC numC_isOwn
theorem natMul_ok (a b : Nat) (h : (limbs a).length + (limbs b).length ≤ 20000000) : Eval Try.prog 92 [natAV a, natAV b] (.ret (natAV (a * b))) := by
  refine Eval.intro Try.func92 rfl Try.call92 _ _ (Nat.le_of_ble_eq_true rfl) (by simp [-map_take,-map_drop, AV.refs, refsL, natAV, push_cast]) fun hs0 => ?_
  obtain ⟨la, hla⟩ : ∃ la, la = (limbs a).length := ⟨_, rfl⟩
  obtain ⟨lb, hlb⟩ : ∃ lb, lb = (limbs b).length := ⟨_, rfl⟩
  rw [← hla, ← hlb] at h
  repeat' (first
    | with_reducible first | apply thenW_n | apply W_seq | apply W_block
    | with_reducible refine W_rg ?_
    | (rw [vcn]; (try simp [-map_take,-map_drop, push_cast, natAV, numC, ← limbs.eq_1, ← hla, ← hlb]); try simp (disch := omega) only [i64_in, u64_in, shr64i])
    | refine And.intro (by first | omega | kernel_rfl) ?_
    | fail)
  refine W_loopW (X := Nat × List Nat) (fun x => [(2, .bp 2 0), (3, .bp 3 0), (4, .bp 4 0), (5, .bs 500 1 0 (la + lb)), (20, natC a), (21, i64V la), (22, i64V x.1)])
    (fun x => [(2, .mut 27 [natC a]), (3, .mut 27 [natC b]), (4, .mut 27 [.v (.slice none 0 0)]), (500, .mut 148 (dV .u32 x.2))])
    (fun x => la - x.1) (fun x => x.1 ≤ la ∧ x.2.length = la + lb ∧ (∀ d ∈ x.2, d < B32) ∧ val B32 x.2 = val B32 ((limbs a).take x.1) * b ∧ ∀ j, x.1 + lb ≤ j → dg x.2 j = 0)
    (0, List.replicate (la + lb) 0) (fun i => if i = 500 then 18 else i) ⟨by simp [-map_take,-map_drop], by simp [-map_take,-map_drop], by intro d hd; rw [List.eq_of_mem_replicate hd]; decide, by simp [-map_take,-map_drop, val, val_replicate], fun j _ => by
      unfold dg; rw [List.getD_eq_getElem?_getD, List.getElem?_replicate]; split <;> rfl⟩ ⟨?_, ?_, ?_, ?_, ?_, ?_⟩ fun x hx => ?_
  all_goals first | (with_reducible refine W_id ?_) | (simp [-map_take,-map_drop, push_cast, dV_take, dV_drop, numC, ← limbs.eq_1, ← hla, ← hlb, dV_replicate]; done) | (simp [-map_take,-map_drop, push_cast, dV_take, dV_drop, numC, ← limbs.eq_1, ← hla, ← hlb, dV_replicate]; omega)
  obtain ⟨i, o⟩ := x
  obtain ⟨hi, hl, ho, hI, hz⟩ := hx
  simp only at hi hl ho hI hz
  obtain ⟨x, hxd⟩ : ∃ x, x = dg (limbs a) i := ⟨_, rfl⟩
  have hx32 : x < 4294967296 := by rw [hxd]; exact dg_lt (by decide) (limbs_lt a) i
  repeat' (first
    | with_reducible first | apply thenW_n | apply thenW_exit | apply blockW_same | apply loopW_exit | apply W_seq | apply W_block | apply W_skip | apply W_exit
    | with_reducible refine W_rg ?_
    | (rw [vcn]; (try simp [-map_take,-map_drop, push_cast, numC, ← limbs.eq_1, ← hla, ← hlb, ← hxd]))
    | (with_reducible refine W_condW ?_; (try simp [-map_take,-map_drop, AS.val, upd, resB, mkS_env, mkS_box, lk, entry_env, condW_true, condW_false, numC, ← limbs.eq_1, ← hla, ← hlb, ← hxd]))
    | (with_reducible refine optK_dV (by first | omega | (simp [-map_take,-map_drop]; omega)) ?_)
    | refine And.intro (by first | omega | kernel_rfl) ?_
    | ((with_reducible refine condW_b (fun hc => ?_) (fun hc => ?_) <;> (try simp [-map_take,-map_drop, Int.ofNat_inj] at hc) <;> (try contradiction)))
    | fail)
  · refine W_loopW (X := Nat × Nat × List Nat) (fun y => [(2, .bp 2 0), (3, .bp 3 0), (4, .bp 4 0), (5, .bs 500 1 0 (la + lb)), (6, i64V i), (7, iV .u32 x), (8, iV .u64 y.2.1), (20, natC a), (21, i64V la), (22, i64V i), (28, natC b), (29, i64V lb), (30, i64V y.1)])
      (fun y => [(2, .mut 27 [natC a]), (3, .mut 27 [natC b]), (4, .mut 27 [.v (.slice none 0 0)]), (500, .mut 148 (dV .u32 y.2.2))])
      (fun y => lb - y.1) (fun y => y.1 ≤ lb ∧ y.2.2.length = la + lb ∧ (∀ d ∈ y.2.2, d < B32) ∧ y.2.1 < 4294967296 ∧ val B32 y.2.2 + B32 ^ (i + y.1) * y.2.1 = val B32 ((limbs a).take i) * b + B32 ^ i * (x * val B32 ((limbs b).take y.1)) ∧ ∀ j, i + lb ≤ j → dg y.2.2 j = 0)
      (0, 0, o) id ⟨by simp [-map_take,-map_drop], hl, ho, by simp [-map_take,-map_drop], by simp [-map_take,-map_drop, val, hI], hz⟩ ⟨?_, ?_, ?_, ?_, ?_, ?_⟩ fun y hy => ?_
    all_goals first | (with_reducible refine W_id ?_) | (simp [-map_take,-map_drop, push_cast, dV_take, dV_drop, numC, ← limbs.eq_1, ← hla, ← hlb]; done)
    obtain ⟨k, c, q⟩ := y
    obtain ⟨hk, hql, hqd, hcb, hJ, hqz⟩ := hy
    simp only at hk hql hqd hcb hJ hqz
    obtain ⟨y, hyd⟩ : ∃ y, y = dg (limbs b) k := ⟨_, rfl⟩
    have hy32 : y < 4294967296 := by rw [hyd]; exact dg_lt (by decide) (limbs_lt b) k
    have hxy := mul_lt_big hx32 hy32
    have hxyI : (x : Int) * (y : Int) ≤ 18446744065119617025 := by rw [← Int.natCast_mul]; omega
    have hxyJ : 0 ≤ (x : Int) * (y : Int) := by rw [← Int.natCast_mul]; omega
    obtain ⟨w, hwd⟩ : ∃ w, w = dg q (i + k) := ⟨_, rfl⟩
    have hw32 : w < 4294967296 := by rw [hwd]; exact dg_lt (by decide) hqd _
    repeat' (first
      | with_reducible first | apply thenW_n | apply thenW_exit | apply blockW_n | apply blockW_same | apply loopW_exit | apply W_seq | apply W_block | apply W_skip | apply W_exit
      | with_reducible refine W_rg ?_
      | (rw [vcn]; (try simp [-map_take,-map_drop, push_cast, numC, ← limbs.eq_1, ← hla, ← hlb, ← hyd, ← hwd, IntKind.wrap_u32]); try simp (disch := omega) only [i64_in, u64_in, shr64i])
      | (with_reducible refine W_condW ?_; (try simp [-map_take,-map_drop, AS.val, upd, resB, mkS_env, mkS_box, lk, entry_env, condW_true, condW_false, numC, ← limbs.eq_1, ← hla, ← hlb, ← hyd, ← hwd, IntKind.wrap_u32]))
      | (with_reducible refine optK_dV (by first | omega | (simp [-map_take,-map_drop]; omega)) ?_)
      | refine And.intro (by first | omega | kernel_rfl) ?_
      | ((with_reducible refine condW_b (fun hc => ?_) (fun hc => ?_) <;> (try simp [-map_take,-map_drop, Int.ofNat_inj] at hc) <;> (try contradiction)))
      | fail)
    · have hset := dV_set' .u32 q (i + k) ((c + (x * y + w)) % 4294967296) (by omega)
      have hv := val_set B32 q (i + k) ((c + (x * y + w)) % B32) (by omega)
      have hst := mul_step (B := B32) (z := x * y) (t := c + (x * y + w)) hv hJ (by rw [← hwd]; omega)
      refine loopW_n (k + 1, (c + (x * y + w)) / 4294967296, q.set (i + k) ((c + (x * y + w)) % 4294967296)) id (by simp [-map_take,-map_drop]; omega) ⟨by simp [-map_take,-map_drop]; omega, by simp [-map_take,-map_drop, hql], mem_set_lt hqd (Nat.mod_lt _ (by decide)), by simp only; omega, ?_, fun j hj => by
        simp only at hj ⊢
        rw [dg_set _ _ _ _ (by omega), if_neg (by omega)]; exact hqz j hj⟩ ⟨?_, ?_, ?_, ?_, ?_, ?_⟩
      · simp only
        rw [val_take_succ, ← hyd, show i + (k + 1) = i + k + 1 from rfl]
        refine hst.trans ?_
        rw [Nat.mul_add, Nat.mul_add, Nat.add_assoc]
        congr 2
        rw [Nat.pow_add, Nat.mul_assoc, Nat.mul_left_comm (B32 ^ k)]
      all_goals first | (simp [-map_take,-map_drop, push_cast, dV_take, dV_drop, numC, ← limbs.eq_1, ← hla, ← hlb, hset]; done)
    · have hkl : k = lb := by omega
      have hmod : (c : Int) % 4294967296 = c := by omega
      have hset := dV_set' .u32 q (i + lb) c (by omega)
      have hv := val_set B32 q (i + lb) c (by omega)
      rw [hqz _ (Nat.le_refl _), Nat.mul_zero, Nat.add_zero] at hv
      refine loopW_n (i + 1, q.set (i + lb) c) id (by simp [-map_take,-map_drop]; omega) ⟨by simp [-map_take,-map_drop]; omega, by simp [-map_take,-map_drop, hql], mem_set_lt hqd hcb, ?_, fun j hj => by
        simp only at hj ⊢
        rw [dg_set _ _ _ _ (by omega), if_neg (by omega)]; exact hqz j (by omega)⟩ ⟨?_, ?_, ?_, ?_, ?_, ?_⟩
      · simp only
        rw [hv, val_take_succ, ← hxd, Nat.add_mul]
        rw [hkl, List.take_of_length_le (l := limbs b) (by omega), val_limbs] at hJ
        rw [hJ, Nat.mul_assoc]
      all_goals first | (simp [-map_take,-map_drop, push_cast, dV_take, dV_drop, numC, ← limbs.eq_1, ← hla, ← hlb, hset, hmod]; done)
  · have e := cut_ok false o ho (la + lb) hl
    have ev : val B32 o = a * b := by
      rw [hI, List.take_of_length_le (by omega), val_limbs]
    rw [ev] at e
    have hle : la + lb ≤ o.length := by omega
    refine CallG_frz _ _ rfl ?_ (e) ?_ (by simp [-map_take,-map_drop, AV.refs, refsL, push_cast]) rfl ?_
    · first | (simp [-map_take,-map_drop, refsL, AV.refs, frzS, resDL, resD, resB, upd, mkS_env, mkS_box, entry_env, entry_box, lk, push_cast, hl, List.take_of_length_le]; done) | (simp [-map_take,-map_drop, refsL, AV.refs, frzS, resDL, resD, resB, upd, mkS_env, mkS_box, entry_env, entry_box, lk, push_cast, hl, List.take_of_length_le]; rw [List.take_of_length_le (by simp [-map_take,-map_drop])]; done) | (simp [-map_take,-map_drop, refsL, AV.refs, frzS, resDL, resD, resB, upd, mkS_env, mkS_box, entry_env, entry_box, lk, push_cast, hl, List.take_of_length_le]; fail_if_success done)
    · simp [-map_take,-map_drop, refsL, AV.refs, frzOk, upd, mkS_env, mkS_box, entry_env, entry_box, lk, push_cast]
    try dsimp only
    try simp only [refsL, AV.refs, frzS, List.append_nil, upd, mkS_box, entry_box, lk, if_true, if_false]
    repeat' (first
      | with_reducible first | apply thenW_n | apply W_ret
      | (rw [vcn]; (try simp [-map_take,-map_drop, push_cast, natAV, numC, ← limbs.eq_1]))
      | fail)
    simp [-map_take,-map_drop, post, resAV, resAll, resOne, closeV, closeC, closeL, resD, resDL, push_cast, natAV, numC, ← limbs.eq_1]
end Go.Fw
