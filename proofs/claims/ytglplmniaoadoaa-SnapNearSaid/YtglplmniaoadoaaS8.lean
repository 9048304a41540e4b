/- The law SnapNear comes to true: the walk. -/
import Derived.Test.YtglplmniaoadoaaS7
-- VALS: zAV, zC, ratAV, ratC, ptAV, ptC, sgAV, sgC, D3.av
namespace Go.Fw
open Go Go.Proofs Go.IntWalk
set_option linter.unusedSimpArgs false
set_option maxRecDepth 100000
set_option maxHeartbeats 4000000

theorem hund (n : Int) : ∃ k : Nat, (IntKind.u64.wrap n).tmod 101 = (k : Int) ∧ k ≤ 100 := by
  rw [IntKind.wrap_u64, Int.tmod_eq_emod_of_nonneg (by omega)]
  exact ⟨(n % 18446744073709551616 % 101).toNat, by omega, by omega⟩
theorem zeroP_sub : SubL [.v (.slice none 0 0), .v (.bool false), .v (.slice none 0 0), .v (.bool false), .v (.slice none 0 0), .v (.bool false), .v (.slice none 0 0), .v (.bool false)] (ptC FP.zero) :=
  SubL.cons (numC_sub _ _ _) (SubL.cons (Sub.refl _) (SubL.cons (numC_sub _ _ _) (SubL.cons (Sub.refl _) (SubL.cons (numC_sub _ _ _) (SubL.cons (Sub.refl _) (SubL.cons (numC_sub _ _ _) (SubL.cons (Sub.refl _) SubL.nil)))))))

attribute [local push_cast] optK_some optK_none optK_ite optK_map optK_bind gOn stepK isMem evPure evMem evBin evUn evConv evLen evBuiltin evMinMax evSlice evBuild evAppend evIndex evIndexAddr evField evFieldAddr intBin strBin appDest AS.val AS.mem AS.elems AS.put AS.put' AS.eff AV.cells? AV.isCell AV.refs all_isByte take_byteV drop_byteV strOf_map bndOk bnd partAV ptrAdd killBox catA inOrder fillA setAt ofVal resB upd byteV List.head?_take List.head?_drop List.getElem?_map mkS_env mkS_box mkS_used entry_env entry_box entry_used lk stepD lookIds Oper.looksAt Op.operands Call.operands St.ids refsL renL_append ren renL renBox Box.refs iV i64V boolV dV_getElem dV_app dV_cons toNat_add2 toNat_add1
attribute [local simp ↓] numC_refs numC_isCell numC_cells numC_resB numC_resD numC_ren numC_closeC numC_isOwn
theorem lawNear_ok (a b c : D3) (u v : Int) (ha : a.ok) (hb : b.ok) (hc : c.ok) : Eval Try.prog 4 [a.av, b.av, c.av, i64V u, i64V v] (.ret (.v (.bool true))) := by
  refine Eval.intro Try.func4 rfl Try.call4 _ _ (Nat.le_of_ble_eq_true rfl) (by simp [AV.refs, refsL, natAV, zAV, zC, ratAV, ratC, ptAV, ptC, sgAV, sgC, D3.av, push_cast, -List.map_take, -List.map_drop]) fun hs0 => ?_
  have a1 := l11At_ok a.x a.y a.d ha.1 ha.2
  have a2 := l11At_ok b.x b.y b.d hb.1 hb.2
  have a3 := l11At_ok c.x c.y c.d hc.1 hc.2
  have s1 : szV (dotF a.x a.y a.d) ≤ 20 := dot_sz ha.1 ha.2
  have s2 : szV (dotF b.x b.y b.d) ≤ 20 := dot_sz hb.1 hb.2
  have s3 : szV (dotF c.x c.y c.d) ≤ 20 := dot_sz hc.1 hc.2
  obtain ⟨p1, h1⟩ : ∃ p, p = dotF a.x a.y a.d := ⟨_, rfl⟩
  obtain ⟨p2, h2⟩ : ∃ p, p = dotF b.x b.y b.d := ⟨_, rfl⟩
  obtain ⟨p3, h3⟩ : ∃ p, p = dotF c.x c.y c.d := ⟨_, rfl⟩
  rw [← h1] at a1 s1
  rw [← h2] at a2 s2
  rw [← h3] at a3 s3
  clear h1 h2 h3 ha hb hc hs0
  have r1 := snapRows_ok false [[p1, p2, p3]] (by intro r hr p hp; simp at hr; subst hr; simp at hp; rcases hp with rfl | rfl | rfl <;> omega) (by simp) (by intro r hr; simp at hr; subst hr; simp)
  by_cases hok : ¬ rowsOk [[p1, p2, p3]] = true
  · rw [rowsAV, if_neg hok] at r1
    repeat' (first
      | with_reducible first | apply thenW_n | apply thenW_ret | apply thenW_exit | apply thenW_panic | apply blockW_n | apply blockW_same | apply blockW_ret | apply blockW_panic | apply loopW_ret | apply loopW_exit | apply loopW_panic | apply joinW_ret | apply joinW_exit | apply joinW_panic | apply W_seq | apply W_block | apply W_skip | apply W_ret | apply W_exit | apply W_label
      | with_reducible refine blockW_other (by decide) ?_
      | with_reducible refine W_region (by first | decide | (with_unfolding_all rfl)) ?_
      | (rw [vcn]; (try simp [push_cast, -List.map_take, -List.map_drop, D3.av]); try simp (disch := omega) only [i64_in, u64_in, shr64i])
      | with_reducible refine W_drawn mixed (by decide) (by kernel_rfl) ?_
      | (rw [vcnD]; (try simp [push_cast, -List.map_take, -List.map_drop, D3.av]); try simp (disch := omega) only [i64_in, u64_in, shr64i])
      | (with_reducible refine W_condW ?_; (try simp [AS.val, upd, resB, mkS_env, mkS_box, lk, entry_env, condW_true, condW_false, D3.av]))
      | with_reducible refine optK_dV (by first | omega | (simp; omega)) ?_
      | with_reducible refine optK_dVh (by omega) ?_
      | refine And.intro (by first | omega | kernel_rfl) ?_
      | (with_reducible refine condW_b (fun hc => ?_) (fun hc => ?_) <;> (try simp [Int.ofNat_inj] at hc) <;> try contradiction)
      | fail)
    first | refine CallG_of (a1) (by first | rfl | (simp [natAV, numC, ← limbs.eq_1, push_cast, -List.map_take, -List.map_drop]; done)) (by simp [natAV, zAV, zC, ratAV, ratC, ptAV, ptC, sgAV, sgC, D3.av, AV.refs, refsL, push_cast, -List.map_take, -List.map_drop]) rfl ?_ | refine callD_of (a1) (by first | rfl | (simp [natAV, numC, ← limbs.eq_1, push_cast, -List.map_take, -List.map_drop]; done)) (by simp [natAV, zAV, zC, ratAV, ratC, ptAV, ptC, sgAV, sgC, D3.av, AV.refs, refsL, push_cast, -List.map_take, -List.map_drop]) rfl ?_
    try dsimp only
    repeat' (first
      | with_reducible first | apply thenW_n | apply thenW_ret | apply thenW_exit | apply thenW_panic | apply blockW_n | apply blockW_same | apply blockW_ret | apply blockW_panic | apply loopW_ret | apply loopW_exit | apply loopW_panic | apply joinW_ret | apply joinW_exit | apply joinW_panic | apply W_seq | apply W_block | apply W_skip | apply W_ret | apply W_exit | apply W_label
      | with_reducible refine blockW_other (by decide) ?_
      | with_reducible refine W_region (by first | decide | (with_unfolding_all rfl)) ?_
      | (rw [vcn]; (try simp [push_cast, -List.map_take, -List.map_drop, ptAV, ptC, ratC, zC]); try simp (disch := omega) only [i64_in, u64_in, shr64i])
      | with_reducible refine W_drawn mixed (by decide) (by kernel_rfl) ?_
      | (rw [vcnD]; (try simp [push_cast, -List.map_take, -List.map_drop, ptAV, ptC, ratC, zC]); try simp (disch := omega) only [i64_in, u64_in, shr64i])
      | (with_reducible refine W_condW ?_; (try simp [AS.val, upd, resB, mkS_env, mkS_box, lk, entry_env, condW_true, condW_false, ptAV, ptC, ratC, zC]))
      | with_reducible refine optK_dV (by first | omega | (simp; omega)) ?_
      | with_reducible refine optK_dVh (by omega) ?_
      | refine And.intro (by first | omega | kernel_rfl) ?_
      | (with_reducible refine condW_b (fun hc => ?_) (fun hc => ?_) <;> (try simp [Int.ofNat_inj] at hc) <;> try contradiction)
      | fail)
    first | refine CallG_of (a2) (by first | rfl | (simp [natAV, numC, ← limbs.eq_1, push_cast, -List.map_take, -List.map_drop]; done)) (by simp [natAV, zAV, zC, ratAV, ratC, ptAV, ptC, sgAV, sgC, D3.av, AV.refs, refsL, push_cast, -List.map_take, -List.map_drop]) rfl ?_ | refine callD_of (a2) (by first | rfl | (simp [natAV, numC, ← limbs.eq_1, push_cast, -List.map_take, -List.map_drop]; done)) (by simp [natAV, zAV, zC, ratAV, ratC, ptAV, ptC, sgAV, sgC, D3.av, AV.refs, refsL, push_cast, -List.map_take, -List.map_drop]) rfl ?_
    try dsimp only
    repeat' (first
      | with_reducible first | apply thenW_n | apply thenW_ret | apply thenW_exit | apply thenW_panic | apply blockW_n | apply blockW_same | apply blockW_ret | apply blockW_panic | apply loopW_ret | apply loopW_exit | apply loopW_panic | apply joinW_ret | apply joinW_exit | apply joinW_panic | apply W_seq | apply W_block | apply W_skip | apply W_ret | apply W_exit | apply W_label
      | with_reducible refine blockW_other (by decide) ?_
      | with_reducible refine W_region (by first | decide | (with_unfolding_all rfl)) ?_
      | (rw [vcn]; (try simp [push_cast, -List.map_take, -List.map_drop, ptAV, ptC, ratC, zC]); try simp (disch := omega) only [i64_in, u64_in, shr64i])
      | with_reducible refine W_drawn mixed (by decide) (by kernel_rfl) ?_
      | (rw [vcnD]; (try simp [push_cast, -List.map_take, -List.map_drop, ptAV, ptC, ratC, zC]); try simp (disch := omega) only [i64_in, u64_in, shr64i])
      | (with_reducible refine W_condW ?_; (try simp [AS.val, upd, resB, mkS_env, mkS_box, lk, entry_env, condW_true, condW_false, ptAV, ptC, ratC, zC]))
      | with_reducible refine optK_dV (by first | omega | (simp; omega)) ?_
      | with_reducible refine optK_dVh (by omega) ?_
      | refine And.intro (by first | omega | kernel_rfl) ?_
      | (with_reducible refine condW_b (fun hc => ?_) (fun hc => ?_) <;> (try simp [Int.ofNat_inj] at hc) <;> try contradiction)
      | fail)
    first | refine CallG_of (a3) (by first | rfl | (simp [natAV, numC, ← limbs.eq_1, push_cast, -List.map_take, -List.map_drop]; done)) (by simp [natAV, zAV, zC, ratAV, ratC, ptAV, ptC, sgAV, sgC, D3.av, AV.refs, refsL, push_cast, -List.map_take, -List.map_drop]) rfl ?_ | refine callD_of (a3) (by first | rfl | (simp [natAV, numC, ← limbs.eq_1, push_cast, -List.map_take, -List.map_drop]; done)) (by simp [natAV, zAV, zC, ratAV, ratC, ptAV, ptC, sgAV, sgC, D3.av, AV.refs, refsL, push_cast, -List.map_take, -List.map_drop]) rfl ?_
    try dsimp only
    repeat' (first
      | with_reducible first | apply thenW_n | apply thenW_ret | apply thenW_exit | apply thenW_panic | apply blockW_n | apply blockW_same | apply blockW_ret | apply blockW_panic | apply loopW_ret | apply loopW_exit | apply loopW_panic | apply joinW_ret | apply joinW_exit | apply joinW_panic | apply W_seq | apply W_block | apply W_skip | apply W_ret | apply W_exit | apply W_label
      | with_reducible refine blockW_other (by decide) ?_
      | with_reducible refine W_region (by first | decide | (with_unfolding_all rfl)) ?_
      | (rw [vcn]; (try simp [push_cast, -List.map_take, -List.map_drop, ptAV, ptC, ratC, zC]); try simp (disch := omega) only [i64_in, u64_in, shr64i])
      | with_reducible refine W_drawn mixed (by decide) (by kernel_rfl) ?_
      | (rw [vcnD]; (try simp [push_cast, -List.map_take, -List.map_drop, ptAV, ptC, ratC, zC]); try simp (disch := omega) only [i64_in, u64_in, shr64i])
      | (with_reducible refine W_condW ?_; (try simp [AS.val, upd, resB, mkS_env, mkS_box, lk, entry_env, condW_true, condW_false, ptAV, ptC, ratC, zC]))
      | with_reducible refine optK_dV (by first | omega | (simp; omega)) ?_
      | with_reducible refine optK_dVh (by omega) ?_
      | refine And.intro (by first | omega | kernel_rfl) ?_
      | (with_reducible refine condW_b (fun hc => ?_) (fun hc => ?_) <;> (try simp [Int.ofNat_inj] at hc) <;> try contradiction)
      | fail)
    refine CallG_later (later_frz1 29 rfl (by simp [refsL, AV.refs, ↓numC_refs])) ?_
    refine CallG_later (later_res 32 rfl [.slc false 8 3 (ptsC [p1, p2, p3])] (by simp [resDL, resD, resB, upd, ptsC, ptC, ratC, zC])) ?_
    refine CallG_frz _ _ rfl ?_ (r1) ?_ (by simp [AV.refs, refsL, push_cast, -List.map_take, -List.map_drop]) rfl ?_
    · first | (simp [refsL, AV.refs, frzS, resDL, resD, resB, upd, mkS_env, mkS_box, entry_env, entry_box, lk, push_cast, -List.map_take, -List.map_drop, rowC]; done) | (simp [refsL, AV.refs, frzS, resDL, resD, resB, upd, mkS_env, mkS_box, entry_env, entry_box, lk, push_cast, -List.map_take, -List.map_drop, rowC]; rw [List.take_of_length_le (by simp)]; done) | (simp [refsL, AV.refs, frzS, resDL, resD, resB, upd, mkS_env, mkS_box, entry_env, entry_box, lk, push_cast, -List.map_take, -List.map_drop, rowC]; fail_if_success done)
    · simp [refsL, AV.refs, frzOk, upd, mkS_env, mkS_box, entry_env, entry_box, lk, push_cast, -List.map_take, -List.map_drop]
    try dsimp only
    try simp only [refsL, AV.refs, frzS, List.append_nil, upd, mkS_box, entry_box, lk, if_true, if_false]
    repeat' (first
      | with_reducible first | apply thenW_n | apply thenW_ret | apply thenW_exit | apply thenW_panic | apply blockW_n | apply blockW_same | apply blockW_ret | apply blockW_panic | apply loopW_ret | apply loopW_exit | apply loopW_panic | apply joinW_ret | apply joinW_exit | apply joinW_panic | apply W_seq | apply W_block | apply W_skip | apply W_ret | apply W_exit | apply W_label
      | with_reducible refine blockW_other (by decide) ?_
      | with_reducible refine W_region (by first | decide | (with_unfolding_all rfl)) ?_
      | (rw [vcn]; (try simp [push_cast, -List.map_take, -List.map_drop]); try simp (disch := omega) only [i64_in, u64_in, shr64i])
      | with_reducible refine W_drawn mixed (by decide) (by kernel_rfl) ?_
      | (rw [vcnD]; (try simp [push_cast, -List.map_take, -List.map_drop]); try simp (disch := omega) only [i64_in, u64_in, shr64i])
      | (with_reducible refine W_condW ?_; (try simp [AS.val, upd, resB, mkS_env, mkS_box, lk, entry_env, condW_true, condW_false]))
      | with_reducible refine optK_dV (by first | omega | (simp; omega)) ?_
      | with_reducible refine optK_dVh (by omega) ?_
      | refine And.intro (by first | omega | kernel_rfl) ?_
      | (with_reducible refine condW_b (fun hc => ?_) (fun hc => ?_) <;> (try simp [Int.ofNat_inj] at hc) <;> try contradiction)
      | fail)
    first | refine CallG_of (known18_ok) (by first | rfl | (simp [natAV, numC, ← limbs.eq_1, push_cast, -List.map_take, -List.map_drop]; done)) (by simp [natAV, zAV, zC, ratAV, ratC, ptAV, ptC, sgAV, sgC, D3.av, AV.refs, refsL, push_cast, -List.map_take, -List.map_drop]) rfl ?_ | refine callD_of (known18_ok) (by first | rfl | (simp [natAV, numC, ← limbs.eq_1, push_cast, -List.map_take, -List.map_drop]; done)) (by simp [natAV, zAV, zC, ratAV, ratC, ptAV, ptC, sgAV, sgC, D3.av, AV.refs, refsL, push_cast, -List.map_take, -List.map_drop]) rfl ?_
    try dsimp only
    repeat' (first
      | with_reducible first | apply thenW_n | apply thenW_ret | apply thenW_exit | apply thenW_panic | apply blockW_n | apply blockW_same | apply blockW_ret | apply blockW_panic | apply loopW_ret | apply loopW_exit | apply loopW_panic | apply joinW_ret | apply joinW_exit | apply joinW_panic | apply W_seq | apply W_block | apply W_skip | apply W_ret | apply W_exit | apply W_label
      | with_reducible refine blockW_other (by decide) ?_
      | with_reducible refine W_region (by first | decide | (with_unfolding_all rfl)) ?_
      | (rw [vcn]; (try simp [push_cast, -List.map_take, -List.map_drop]); try simp (disch := omega) only [i64_in, u64_in, shr64i])
      | with_reducible refine W_drawn mixed (by decide) (by kernel_rfl) ?_
      | (rw [vcnD]; (try simp [push_cast, -List.map_take, -List.map_drop]); try simp (disch := omega) only [i64_in, u64_in, shr64i])
      | (with_reducible refine W_condW ?_; (try simp [AS.val, upd, resB, mkS_env, mkS_box, lk, entry_env, condW_true, condW_false]))
      | with_reducible refine optK_dV (by first | omega | (simp; omega)) ?_
      | with_reducible refine optK_dVh (by omega) ?_
      | refine And.intro (by first | omega | kernel_rfl) ?_
      | (with_reducible refine condW_b (fun hc => ?_) (fun hc => ?_) <;> (try simp [Int.ofNat_inj] at hc) <;> try contradiction)
      | fail)
    first | refine CallG_of (known18_ok) (by first | rfl | (simp [natAV, numC, ← limbs.eq_1, push_cast, -List.map_take, -List.map_drop]; done)) (by simp [natAV, zAV, zC, ratAV, ratC, ptAV, ptC, sgAV, sgC, D3.av, AV.refs, refsL, push_cast, -List.map_take, -List.map_drop]) rfl ?_ | refine callD_of (known18_ok) (by first | rfl | (simp [natAV, numC, ← limbs.eq_1, push_cast, -List.map_take, -List.map_drop]; done)) (by simp [natAV, zAV, zC, ratAV, ratC, ptAV, ptC, sgAV, sgC, D3.av, AV.refs, refsL, push_cast, -List.map_take, -List.map_drop]) rfl ?_
    try dsimp only
    repeat' (first
      | with_reducible first | apply thenW_n | apply thenW_ret | apply thenW_exit | apply thenW_panic | apply blockW_n | apply blockW_same | apply blockW_ret | apply blockW_panic | apply loopW_ret | apply loopW_exit | apply loopW_panic | apply joinW_ret | apply joinW_exit | apply joinW_panic | apply W_seq | apply W_block | apply W_skip | apply W_ret | apply W_exit | apply W_label
      | with_reducible refine blockW_other (by decide) ?_
      | with_reducible refine W_region (by first | decide | (with_unfolding_all rfl)) ?_
      | (rw [vcn]; (try simp [push_cast, -List.map_take, -List.map_drop]); try simp (disch := omega) only [i64_in, u64_in, shr64i])
      | with_reducible refine W_drawn mixed (by decide) (by kernel_rfl) ?_
      | (rw [vcnD]; (try simp [push_cast, -List.map_take, -List.map_drop]); try simp (disch := omega) only [i64_in, u64_in, shr64i])
      | (with_reducible refine W_condW ?_; (try simp [AS.val, upd, resB, mkS_env, mkS_box, lk, entry_env, condW_true, condW_false]))
      | with_reducible refine optK_dV (by first | omega | (simp; omega)) ?_
      | with_reducible refine optK_dVh (by omega) ?_
      | refine And.intro (by first | omega | kernel_rfl) ?_
      | (with_reducible refine condW_b (fun hc => ?_) (fun hc => ?_) <;> (try simp [Int.ofNat_inj] at hc) <;> try contradiction)
      | fail)
    simp [post, resAV, resAll, resOne, closeV, closeC, closeL, resD, resDL, push_cast, -List.map_take, -List.map_drop]
  have hok : rowsOk [[p1, p2, p3]] = true := by simpa using hok
  rw [rowsAV, if_pos hok] at r1
  have ho : outC [[p1, p2, p3]] = [.slc false 2 3 (ptsN [p1, p2, p3])] := rfl
  rw [ho] at r1
  obtain ⟨R, hR⟩ : ∃ R, R = ptsC [p1, p2, p3] := ⟨_, rfl⟩
  obtain ⟨G, hG⟩ : ∃ G, G = ptsN [p1, p2, p3] := ⟨_, rfl⟩
  rw [← hG] at r1
  have hRr : refsL R = [] := by rw [hR]; exact ptsC_refs _
  have hGr : refsL G = [] := by rw [hG]; exact ptsN_refs _
  obtain ⟨x, hx, hx2⟩ := hund u
  obtain ⟨y, hy, hy2⟩ := hund v
  have hxw : IntKind.i64.wrap (x : Int) = x := by rw [i64_in _ (by omega)]
  have hyw : IntKind.i64.wrap (y : Int) = y := by rw [i64_in _ (by omega)]
  have hxy : IntKind.i64.wrap ((x : Int) + y) = x + y := by rw [i64_in _ (by omega)]
  repeat' (first
    | with_reducible first | apply thenW_n | apply thenW_ret | apply thenW_exit | apply thenW_panic | apply blockW_n | apply blockW_same | apply blockW_ret | apply blockW_panic | apply loopW_ret | apply loopW_exit | apply loopW_panic | apply joinW_ret | apply joinW_exit | apply joinW_panic | apply W_seq | apply W_block | apply W_skip | apply W_ret | apply W_exit | apply W_label
    | with_reducible refine blockW_other (by decide) ?_
    | with_reducible refine W_region (by first | decide | (with_unfolding_all rfl)) ?_
    | (rw [vcn]; (try simp [push_cast, -List.map_take, -List.map_drop, D3.av]); try simp (disch := omega) only [i64_in, u64_in, shr64i])
    | with_reducible refine W_drawn mixed (by decide) (by kernel_rfl) ?_
    | (rw [vcnD]; (try simp [push_cast, -List.map_take, -List.map_drop, D3.av]); try simp (disch := omega) only [i64_in, u64_in, shr64i])
    | (with_reducible refine W_condW ?_; (try simp [AS.val, upd, resB, mkS_env, mkS_box, lk, entry_env, condW_true, condW_false, D3.av]))
    | with_reducible refine optK_dV (by first | omega | (simp; omega)) ?_
    | with_reducible refine optK_dVh (by omega) ?_
    | refine And.intro (by first | omega | kernel_rfl) ?_
    | (with_reducible refine condW_b (fun hc => ?_) (fun hc => ?_) <;> (try simp [Int.ofNat_inj] at hc) <;> try contradiction)
    | fail)
  first | refine CallG_of (a1) (by first | rfl | (simp [natAV, numC, ← limbs.eq_1, push_cast, -List.map_take, -List.map_drop]; done)) (by simp [natAV, zAV, zC, ratAV, ratC, ptAV, ptC, sgAV, sgC, D3.av, AV.refs, refsL, push_cast, -List.map_take, -List.map_drop]) rfl ?_ | refine callD_of (a1) (by first | rfl | (simp [natAV, numC, ← limbs.eq_1, push_cast, -List.map_take, -List.map_drop]; done)) (by simp [natAV, zAV, zC, ratAV, ratC, ptAV, ptC, sgAV, sgC, D3.av, AV.refs, refsL, push_cast, -List.map_take, -List.map_drop]) rfl ?_
  try dsimp only
  repeat' (first
    | with_reducible first | apply thenW_n | apply thenW_ret | apply thenW_exit | apply thenW_panic | apply blockW_n | apply blockW_same | apply blockW_ret | apply blockW_panic | apply loopW_ret | apply loopW_exit | apply loopW_panic | apply joinW_ret | apply joinW_exit | apply joinW_panic | apply W_seq | apply W_block | apply W_skip | apply W_ret | apply W_exit | apply W_label
    | with_reducible refine blockW_other (by decide) ?_
    | with_reducible refine W_region (by first | decide | (with_unfolding_all rfl)) ?_
    | (rw [vcn]; (try simp [push_cast, -List.map_take, -List.map_drop, ptAV, ptC, ratC, zC]); try simp (disch := omega) only [i64_in, u64_in, shr64i])
    | with_reducible refine W_drawn mixed (by decide) (by kernel_rfl) ?_
    | (rw [vcnD]; (try simp [push_cast, -List.map_take, -List.map_drop, ptAV, ptC, ratC, zC]); try simp (disch := omega) only [i64_in, u64_in, shr64i])
    | (with_reducible refine W_condW ?_; (try simp [AS.val, upd, resB, mkS_env, mkS_box, lk, entry_env, condW_true, condW_false, ptAV, ptC, ratC, zC]))
    | with_reducible refine optK_dV (by first | omega | (simp; omega)) ?_
    | with_reducible refine optK_dVh (by omega) ?_
    | refine And.intro (by first | omega | kernel_rfl) ?_
    | (with_reducible refine condW_b (fun hc => ?_) (fun hc => ?_) <;> (try simp [Int.ofNat_inj] at hc) <;> try contradiction)
    | fail)
  first | refine CallG_of (a2) (by first | rfl | (simp [natAV, numC, ← limbs.eq_1, push_cast, -List.map_take, -List.map_drop]; done)) (by simp [natAV, zAV, zC, ratAV, ratC, ptAV, ptC, sgAV, sgC, D3.av, AV.refs, refsL, push_cast, -List.map_take, -List.map_drop]) rfl ?_ | refine callD_of (a2) (by first | rfl | (simp [natAV, numC, ← limbs.eq_1, push_cast, -List.map_take, -List.map_drop]; done)) (by simp [natAV, zAV, zC, ratAV, ratC, ptAV, ptC, sgAV, sgC, D3.av, AV.refs, refsL, push_cast, -List.map_take, -List.map_drop]) rfl ?_
  try dsimp only
  repeat' (first
    | with_reducible first | apply thenW_n | apply thenW_ret | apply thenW_exit | apply thenW_panic | apply blockW_n | apply blockW_same | apply blockW_ret | apply blockW_panic | apply loopW_ret | apply loopW_exit | apply loopW_panic | apply joinW_ret | apply joinW_exit | apply joinW_panic | apply W_seq | apply W_block | apply W_skip | apply W_ret | apply W_exit | apply W_label
    | with_reducible refine blockW_other (by decide) ?_
    | with_reducible refine W_region (by first | decide | (with_unfolding_all rfl)) ?_
    | (rw [vcn]; (try simp [push_cast, -List.map_take, -List.map_drop, ptAV, ptC, ratC, zC]); try simp (disch := omega) only [i64_in, u64_in, shr64i])
    | with_reducible refine W_drawn mixed (by decide) (by kernel_rfl) ?_
    | (rw [vcnD]; (try simp [push_cast, -List.map_take, -List.map_drop, ptAV, ptC, ratC, zC]); try simp (disch := omega) only [i64_in, u64_in, shr64i])
    | (with_reducible refine W_condW ?_; (try simp [AS.val, upd, resB, mkS_env, mkS_box, lk, entry_env, condW_true, condW_false, ptAV, ptC, ratC, zC]))
    | with_reducible refine optK_dV (by first | omega | (simp; omega)) ?_
    | with_reducible refine optK_dVh (by omega) ?_
    | refine And.intro (by first | omega | kernel_rfl) ?_
    | (with_reducible refine condW_b (fun hc => ?_) (fun hc => ?_) <;> (try simp [Int.ofNat_inj] at hc) <;> try contradiction)
    | fail)
  first | refine CallG_of (a3) (by first | rfl | (simp [natAV, numC, ← limbs.eq_1, push_cast, -List.map_take, -List.map_drop]; done)) (by simp [natAV, zAV, zC, ratAV, ratC, ptAV, ptC, sgAV, sgC, D3.av, AV.refs, refsL, push_cast, -List.map_take, -List.map_drop]) rfl ?_ | refine callD_of (a3) (by first | rfl | (simp [natAV, numC, ← limbs.eq_1, push_cast, -List.map_take, -List.map_drop]; done)) (by simp [natAV, zAV, zC, ratAV, ratC, ptAV, ptC, sgAV, sgC, D3.av, AV.refs, refsL, push_cast, -List.map_take, -List.map_drop]) rfl ?_
  try dsimp only
  repeat' (first
    | with_reducible first | apply thenW_n | apply thenW_ret | apply thenW_exit | apply thenW_panic | apply blockW_n | apply blockW_same | apply blockW_ret | apply blockW_panic | apply loopW_ret | apply loopW_exit | apply loopW_panic | apply joinW_ret | apply joinW_exit | apply joinW_panic | apply W_seq | apply W_block | apply W_skip | apply W_ret | apply W_exit | apply W_label
    | with_reducible refine blockW_other (by decide) ?_
    | with_reducible refine W_region (by first | decide | (with_unfolding_all rfl)) ?_
    | (rw [vcn]; (try simp [push_cast, -List.map_take, -List.map_drop, ptAV, ptC, ratC, zC]); try simp (disch := omega) only [i64_in, u64_in, shr64i])
    | with_reducible refine W_drawn mixed (by decide) (by kernel_rfl) ?_
    | (rw [vcnD]; (try simp [push_cast, -List.map_take, -List.map_drop, ptAV, ptC, ratC, zC]); try simp (disch := omega) only [i64_in, u64_in, shr64i])
    | (with_reducible refine W_condW ?_; (try simp [AS.val, upd, resB, mkS_env, mkS_box, lk, entry_env, condW_true, condW_false, ptAV, ptC, ratC, zC]))
    | with_reducible refine optK_dV (by first | omega | (simp; omega)) ?_
    | with_reducible refine optK_dVh (by omega) ?_
    | refine And.intro (by first | omega | kernel_rfl) ?_
    | (with_reducible refine condW_b (fun hc => ?_) (fun hc => ?_) <;> (try simp [Int.ofNat_inj] at hc) <;> try contradiction)
    | fail)
  refine CallG_later (later_res 29 rfl R (by rw [hR]; simp [resDL, resD, resB, upd, ptsC, ptC, ratC, zC, ↓numC_resD, ↓numC_resB])) ?_
  refine CallG_later (later_frz1 29 rfl hRr) ?_
  have hRl : R.length = 24 := by rw [hR]; rfl
  have hRt : R.take 24 = R := List.take_of_length_le (by omega)
  refine CallG_later (later_res 32 rfl [.slc false 8 3 R] (by simp [resDL, resD, resB, upd, hRl, hRt])) ?_
  have hrc : rowC [p1, p2, p3] = .slc false 8 3 R := by rw [hR]; rfl
  refine CallG_frz _ _ rfl ?_ (r1) ?_ (by simp [AV.refs, refsL, push_cast, -List.map_take, -List.map_drop]) rfl ?_
  · first | (simp [refsL, AV.refs, frzS, resDL, resD, resB, upd, mkS_env, mkS_box, entry_env, entry_box, lk, push_cast, -List.map_take, -List.map_drop, hrc]; done) | (simp [refsL, AV.refs, frzS, resDL, resD, resB, upd, mkS_env, mkS_box, entry_env, entry_box, lk, push_cast, -List.map_take, -List.map_drop, hrc]; rw [List.take_of_length_le (by simp)]; done) | (simp [refsL, AV.refs, frzS, resDL, resD, resB, upd, mkS_env, mkS_box, entry_env, entry_box, lk, push_cast, -List.map_take, -List.map_drop, hrc]; fail_if_success done)
  · simp [refsL, AV.refs, frzOk, upd, mkS_env, mkS_box, entry_env, entry_box, lk, push_cast, -List.map_take, -List.map_drop]
  try dsimp only
  try simp only [refsL, AV.refs, frzS, List.append_nil, upd, mkS_box, entry_box, lk, if_true, if_false]
  repeat' (first
    | with_reducible first | apply thenW_n | apply thenW_ret | apply thenW_exit | apply thenW_panic | apply blockW_n | apply blockW_same | apply blockW_ret | apply blockW_panic | apply loopW_ret | apply loopW_exit | apply loopW_panic | apply joinW_ret | apply joinW_exit | apply joinW_panic | apply W_seq | apply W_block | apply W_skip | apply W_ret | apply W_exit | apply W_label
    | with_reducible refine blockW_other (by decide) ?_
    | with_reducible refine W_region (by first | decide | (with_unfolding_all rfl)) ?_
    | (rw [vcn]; (try simp [push_cast, -List.map_take, -List.map_drop, hx, hy, hxw, hyw, hxy, hRl, hRt]); try simp (disch := omega) only [i64_in, u64_in, shr64i])
    | with_reducible refine W_drawn mixed (by decide) (by kernel_rfl) ?_
    | (rw [vcnD]; (try simp [push_cast, -List.map_take, -List.map_drop, hx, hy, hxw, hyw, hxy, hRl, hRt]); try simp (disch := omega) only [i64_in, u64_in, shr64i])
    | (with_reducible refine W_condW ?_; (try simp [AS.val, upd, resB, mkS_env, mkS_box, lk, entry_env, condW_true, condW_false, hx, hy, hxw, hyw, hxy, hRl, hRt]))
    | with_reducible refine optK_dV (by first | omega | (simp; omega)) ?_
    | with_reducible refine optK_dVh (by omega) ?_
    | refine And.intro (by first | omega | kernel_rfl) ?_
    | (with_reducible refine condW_b (fun hc => ?_) (fun hc => ?_) <;> (try simp [Int.ofNat_inj] at hc) <;> try contradiction)
    | fail)
  first | refine CallG_of (known18_ok) (by first | rfl | (simp [natAV, numC, ← limbs.eq_1, push_cast, -List.map_take, -List.map_drop]; done)) (by simp [natAV, zAV, zC, ratAV, ratC, ptAV, ptC, sgAV, sgC, D3.av, AV.refs, refsL, push_cast, -List.map_take, -List.map_drop]) rfl ?_ | refine callD_of (known18_ok) (by first | rfl | (simp [natAV, numC, ← limbs.eq_1, push_cast, -List.map_take, -List.map_drop]; done)) (by simp [natAV, zAV, zC, ratAV, ratC, ptAV, ptC, sgAV, sgC, D3.av, AV.refs, refsL, push_cast, -List.map_take, -List.map_drop]) rfl ?_
  try dsimp only
  repeat' (first
    | with_reducible first | apply thenW_n | apply thenW_ret | apply thenW_exit | apply thenW_panic | apply blockW_n | apply blockW_same | apply blockW_ret | apply blockW_panic | apply loopW_ret | apply loopW_exit | apply loopW_panic | apply joinW_ret | apply joinW_exit | apply joinW_panic | apply W_seq | apply W_block | apply W_skip | apply W_ret | apply W_exit | apply W_label
    | with_reducible refine blockW_other (by decide) ?_
    | with_reducible refine W_region (by first | decide | (with_unfolding_all rfl)) ?_
    | (rw [vcn]; (try simp [push_cast, -List.map_take, -List.map_drop, hx, hy, hxw, hyw, hxy, hRl, hRt]); try simp (disch := omega) only [i64_in, u64_in, shr64i])
    | with_reducible refine W_drawn mixed (by decide) (by kernel_rfl) ?_
    | (rw [vcnD]; (try simp [push_cast, -List.map_take, -List.map_drop, hx, hy, hxw, hyw, hxy, hRl, hRt]); try simp (disch := omega) only [i64_in, u64_in, shr64i])
    | (with_reducible refine W_condW ?_; (try simp [AS.val, upd, resB, mkS_env, mkS_box, lk, entry_env, condW_true, condW_false, hx, hy, hxw, hyw, hxy, hRl, hRt]); with_reducible refine W_id ?_)
    | with_reducible refine optK_dV (by first | omega | (simp; omega)) ?_
    | with_reducible refine optK_dVh (by omega) ?_
    | refine And.intro (by first | omega | kernel_rfl) ?_
    | fail)
  have hGl : G.length = 6 := by rw [hG]; rfl
  refine W_joinQ (X := Nat × Nat) (fun k => [(3, i64V k.1), (4, i64V k.2), (11, .slc false 8 3 R), (12, .slc false 1 1 [.slc false 2 3 G])]) (fun _ => []) (fun k => k.1 + k.2 ≤ 100) ?_ fun k hk => ?_
  · by_cases hgt : 100 < x + y
    · have g1 : ((100 : Int) < (x : Int) + y) = True := eq_true (by omega)
      have w1 : IntKind.i64.wrap (100 - (x : Int)) = ((100 - x : Nat) : Int) := by rw [i64_in _ (by omega)]; omega
      have w2 : IntKind.i64.wrap (100 - (y : Int)) = ((100 - y : Nat) : Int) := by rw [i64_in _ (by omega)]; omega
      repeat' (first
        | with_reducible first | apply thenW_n | apply thenW_ret | apply thenW_exit | apply thenW_panic | apply blockW_n | apply blockW_same | apply blockW_ret | apply blockW_panic | apply loopW_ret | apply loopW_exit | apply loopW_panic | apply joinW_ret | apply joinW_exit | apply joinW_panic | apply W_seq | apply W_block | apply W_skip | apply W_ret | apply W_exit | apply W_label
        | with_reducible refine blockW_other (by decide) ?_
        | with_reducible refine W_region (by first | decide | (with_unfolding_all rfl)) ?_
        | (rw [vcn]; (try simp [push_cast, -List.map_take, -List.map_drop, g1, w1, w2]); try simp (disch := omega) only [i64_in, u64_in, shr64i])
        | with_reducible refine W_drawn mixed (by decide) (by kernel_rfl) ?_
        | (rw [vcnD]; (try simp [push_cast, -List.map_take, -List.map_drop, g1, w1, w2]); try simp (disch := omega) only [i64_in, u64_in, shr64i])
        | (with_reducible refine W_condW ?_; (try simp [AS.val, upd, resB, mkS_env, mkS_box, lk, entry_env, condW_true, condW_false, g1, w1, w2]))
        | with_reducible refine optK_dV (by first | omega | (simp; omega)) ?_
        | with_reducible refine optK_dVh (by omega) ?_
        | refine And.intro (by first | omega | kernel_rfl) ?_
        | (with_reducible refine condW_b (fun hc => ?_) (fun hc => ?_) <;> (try simp [Int.ofNat_inj] at hc) <;> try contradiction)
        | fail)
      refine joinW_n (100 - x, 100 - y) id (by simp only; omega) ⟨?_, ?_, ?_, ?_, ?_, ?_⟩
      all_goals first | (with_reducible refine W_id ?_) | (simp [push_cast, -List.map_take, -List.map_drop, dV_take, dV_drop, hRr, hRl, hRt, hGr]; done) | (simp [push_cast, -List.map_take, -List.map_drop, dV_take, dV_drop, hRr, hRl, hRt, hGr]; omega) | (intro i hi; simp; omega) | (intro i hi; dsimp only; (repeat' split) <;> omega) | (simp [push_cast, -List.map_take, -List.map_drop, dV_take, dV_drop, hRr, hRl, hRt, hGr]; fail_if_success done)
    · have g1 : ((100 : Int) < (x : Int) + y) = False := eq_false (by omega)
      repeat' (first
        | with_reducible first | apply thenW_n | apply thenW_ret | apply thenW_exit | apply thenW_panic | apply blockW_n | apply blockW_same | apply blockW_ret | apply blockW_panic | apply loopW_ret | apply loopW_exit | apply loopW_panic | apply joinW_ret | apply joinW_exit | apply joinW_panic | apply W_seq | apply W_block | apply W_skip | apply W_ret | apply W_exit | apply W_label
        | with_reducible refine blockW_other (by decide) ?_
        | with_reducible refine W_region (by first | decide | (with_unfolding_all rfl)) ?_
        | (rw [vcn]; (try simp [push_cast, -List.map_take, -List.map_drop, g1]); try simp (disch := omega) only [i64_in, u64_in, shr64i])
        | with_reducible refine W_drawn mixed (by decide) (by kernel_rfl) ?_
        | (rw [vcnD]; (try simp [push_cast, -List.map_take, -List.map_drop, g1]); try simp (disch := omega) only [i64_in, u64_in, shr64i])
        | (with_reducible refine W_condW ?_; (try simp [AS.val, upd, resB, mkS_env, mkS_box, lk, entry_env, condW_true, condW_false, g1]))
        | with_reducible refine optK_dV (by first | omega | (simp; omega)) ?_
        | with_reducible refine optK_dVh (by omega) ?_
        | refine And.intro (by first | omega | kernel_rfl) ?_
        | (with_reducible refine condW_b (fun hc => ?_) (fun hc => ?_) <;> (try simp [Int.ofNat_inj] at hc) <;> try contradiction)
        | fail)
      refine joinW_n (x, y) id (by simp only; omega) ⟨?_, ?_, ?_, ?_, ?_, ?_⟩
      all_goals first | (with_reducible refine W_id ?_) | (simp [push_cast, -List.map_take, -List.map_drop, dV_take, dV_drop, hRr, hRl, hRt, hGr]; done) | (simp [push_cast, -List.map_take, -List.map_drop, dV_take, dV_drop, hRr, hRl, hRt, hGr]; omega) | (intro i hi; simp; omega) | (intro i hi; dsimp only; (repeat' split) <;> omega) | (simp [push_cast, -List.map_take, -List.map_drop, dV_take, dV_drop, hRr, hRl, hRt, hGr]; fail_if_success done)
  obtain ⟨k0, k1⟩ := k
  simp only at hk
  obtain ⟨k2, hk2⟩ : ∃ k2, k2 = 100 - k0 - k1 := ⟨_, rfl⟩
  obtain ⟨ws, hws⟩ : ∃ ws : Nat → Int, ws = fun i => if i = 0 then (k0 : Int) else if i = 1 then (k1 : Int) else if i = 2 then (k2 : Int) else 0 := ⟨_, rfl⟩
  obtain ⟨f, hf⟩ : ∃ f : Nat → FP, f = fun i => if i = 0 then p1 else if i = 1 then p2 else if i = 2 then p3 else FP.zero := ⟨_, rfl⟩
  obtain ⟨g, hg⟩ : ∃ g : Nat → FP, g = fun i => if i < 3 then ⟨.of (nearQ (f i).x.q : Rat), .of (nearQ (f i).y.q : Rat)⟩ else f i := ⟨_, rfl⟩
  obtain ⟨w, hw⟩ : ∃ w : Nat → Rat, w = fun i => Rat.divInt (ws i) 100 := ⟨_, rfl⟩
  have hzero : szV FP.zero ≤ 20 := by have h : szV FP.zero = 2 := by kernel_rfl
                                      omega
  have hfs : ∀ i, szV (f i) ≤ 20 := by
    intro i
    rw [hf]
    simp only
    split
    · exact s1
    · split
      · exact s2
      · split
        · exact s3
        · exact hzero
  have hwsr : ∀ i, 0 ≤ ws i ∧ ws i ≤ 100 := by
    intro i
    rw [hws]
    simp only
    split
    · omega
    · split
      · omega
      · split <;> omega
  have hwsz : ∀ i, szQ (w i) ≤ 4 := by
    intro i
    rw [hw]
    have h1 := sz_divInt (ws i) 100 (by omega)
    have h2 := limbs_small (n := (ws i).natAbs) (by have := hwsr i; omega)
    have h3 := limbs_small (n := (100 : Int).natAbs) (by omega)
    simp only
    omega
  have hmem : ∀ i, i < 3 → nearP (f i) = some (nearQ (f i).x.q, nearQ (f i).y.q) ∧ inC (nearQ (f i).x.q) ∧ inC (nearQ (f i).y.q) := by
    have key : ∀ p ∈ [p1, p2, p3], nearP p = some (nearQ p.x.q, nearQ p.y.q) ∧ inC (nearQ p.x.q) ∧ inC (nearQ p.y.q) := by
      intro p hp
      have h1 := List.all_eq_true.1 (List.all_eq_true.1 hok _ (List.mem_singleton.2 rfl)) p hp
      unfold nearP gridZ at *
      split at h1
      · rename_i h; rw [if_pos h]; exact ⟨rfl, h⟩
      · cases h1
    intro i hi
    refine key _ ?_
    rw [hf]
    rcases (by omega : i = 0 ∨ i = 1 ∨ i = 2) with rfl | rfl | rfl <;> simp
  have hgs : ∀ i, szV (g i) ≤ 20 := by
    intro i
    rw [hg]
    simp only
    split
    · rename_i hi
      obtain ⟨_, h1, h2⟩ := hmem i hi
      unfold inC at h1 h2
      have l1 := limbs_small (n := (nearQ (f i).x.q).natAbs) (by omega)
      have l2 := limbs_small (n := (nearQ (f i).y.q).natAbs) (by omega)
      have l3 := limbs_small (n := 1) (by omega)
      show ((limbs (nearQ (f i).x.q).natAbs).length + (limbs 1).length) + ((limbs (nearQ (f i).y.q).natAbs).length + (limbs 1).length) ≤ 20
      omega
    · exact hfs i
  have hplain := snap_near p1 p2 p3 k0 k1 k2 (by omega) (by omega) (by omega) (by omega) f g w (by rw [hf]; rfl) (by rw [hf]; rfl) (by rw [hf]; rfl) (fun i hi => by rw [hg]; simp only; rw [if_pos hi])
    (fun i hi => by rw [hg]; simp only; rw [if_neg (by omega)]) (by rw [hw, hws]; rfl) (by rw [hw, hws]; rfl) (by rw [hw, hws]; rfl) (fun i hi => by
      rw [hw, hws]
      simp only
      rw [if_neg (by omega), if_neg (by omega), if_neg (by omega), Rat.zero_divInt])
  have hRat : ∀ i, i < 3 → ∃ t, R.drop (i * 8) = ptC (f i) ++ t := by
    intro i hi
    rw [hR, hf]
    rcases (by omega : i = 0 ∨ i = 1 ∨ i = 2) with rfl | rfl | rfl <;> exact ⟨_, rfl⟩
  have hGat : ∀ i, i < 3 → ∃ t, G.drop (i * 2) = ptI (nearQ (f i).x.q, nearQ (f i).y.q) ++ t := by
    intro i hi
    have h := (hmem i hi).1
    have hv : nearV (f i) = (nearQ (f i).x.q, nearQ (f i).y.q) := by unfold nearV; rw [h]; rfl
    rw [← hv, hG, hf]
    rcases (by omega : i = 0 ∨ i = 1 ∨ i = 2) with rfl | rfl | rfl <;> exact ⟨_, rfl⟩
  obtain ⟨Wl, hWl⟩ : ∃ Wl : List AV, Wl = [i64V k0, i64V k1, i64V k2] := ⟨_, rfl⟩
  have hWat : ∀ i, i < 3 → ∃ t, Wl.drop i = i64V (ws i) :: t := by
    intro i hi
    rw [hWl, hws]
    rcases (by omega : i = 0 ∨ i = 1 ∨ i = 2) with rfl | rfl | rfl <;> exact ⟨_, rfl⟩
  have hWr : refsL Wl = [] := by rw [hWl]; rfl
  have hWn : ∀ (ρ : Nat → Nat), renL ρ Wl = Wl := fun ρ => renL_id ρ _ hWr
  have hWlen : Wl.length = 3 := by rw [hWl]; rfl
  have w1 : IntKind.i64.wrap (100 - (k0 : Int)) = 100 - (k0 : Int) := by rw [i64_in _ (by omega)]
  have w2 : IntKind.i64.wrap (100 - (k0 : Int) - k1) = ((k2 : Nat) : Int) := by rw [i64_in _ (by omega)]; omega
  have hWl2 : [AV.v (.int .i64 (k0 : Int)), AV.v (.int .i64 (k1 : Int)), AV.v (.int .i64 (k2 : Int))] = Wl := by rw [hWl]; rfl
  have hPr : ∀ p, refsL (ptC p) = [] := fun _ => rfl
  have hPn : ∀ (ρ : Nat → Nat) p, renL ρ (ptC p) = ptC p := fun ρ p => renL_id ρ _ (hPr p)
  repeat' (first
    | with_reducible first | apply thenW_n | apply thenW_ret | apply thenW_exit | apply thenW_panic | apply blockW_n | apply blockW_same | apply blockW_ret | apply blockW_panic | apply loopW_ret | apply loopW_exit | apply loopW_panic | apply joinW_ret | apply joinW_exit | apply joinW_panic | apply W_seq | apply W_block | apply W_skip | apply W_ret | apply W_exit | apply W_label
    | with_reducible refine blockW_other (by decide) ?_
    | with_reducible refine W_region (by first | decide | (with_unfolding_all rfl)) ?_
    | (rw [vcn]; (try simp [push_cast, -List.map_take, -List.map_drop, w1, w2]); try simp (disch := omega) only [i64_in, u64_in, shr64i])
    | with_reducible refine W_drawn mixed (by decide) (by kernel_rfl) ?_
    | (rw [vcnD]; (try simp [push_cast, -List.map_take, -List.map_drop, w1, w2]); try simp (disch := omega) only [i64_in, u64_in, shr64i])
    | (with_reducible refine W_condW ?_; (try simp [AS.val, upd, resB, mkS_env, mkS_box, lk, entry_env, condW_true, condW_false, w1, w2]))
    | with_reducible refine optK_dV (by first | omega | (simp; omega)) ?_
    | with_reducible refine optK_dVh (by omega) ?_
    | refine And.intro (by first | omega | kernel_rfl) ?_
    | (with_reducible refine condW_b (fun hc => ?_) (fun hc => ?_) <;> (try simp [Int.ofNat_inj] at hc) <;> try contradiction)
    | fail)
  refine W_subBox 14 (e := 33) (l' := ptC FP.zero) rfl zeroP_sub ?_
  refine W_subBox 15 (e := 33) (l' := ptC FP.zero) rfl zeroP_sub ?_
  refine W_loopW (X := Nat) (fun i => [(11, .slc false 8 3 R), (12, .slc false 1 1 [.slc false 2 3 G]), (14, .bp 14 0), (15, .bp 15 0), (16, .bp 16 0), (17, i64V i)]) (fun i => [(14, .mut 33 (ptC (accP f w i))), (15, .mut 33 (ptC (accP g w i))), (16, .mut 62 Wl)]) (fun i => 3 - i)
    (fun i => i ≤ 3) 0 id (by omega) ⟨?_, ?_, ?_, ?_, ?_, ?_⟩ fun i hi => ?_
  all_goals first | (with_reducible refine W_id ?_) | (simp [push_cast, -List.map_take, -List.map_drop, dV_take, dV_drop, hRr, hRl, hRt, hGr, hWl2, hWr, hWn, accP, hPr, hPn]; done) | (simp [push_cast, -List.map_take, -List.map_drop, dV_take, dV_drop, hRr, hRl, hRt, hGr, hWl2, hWr, hWn, accP, hPr, hPn]; omega) | (intro i hi; simp; omega) | (intro i hi; dsimp only; (repeat' split) <;> omega) | (simp [push_cast, -List.map_take, -List.map_drop, dV_take, dV_drop, hRr, hRl, hRt, hGr, hWl2, hWr, hWn, accP, hPr, hPn]; fail_if_success done)
  by_cases hlt : ¬ i < 3
  · have g1 : (i < 3) = False := eq_false hlt
    have g2 : ((i : Int) < 3) = False := eq_false (by omega)
    have hi3 : i = 3 := by omega
    subst hi3
    have z1 := acc_sz f w hfs hwsz 3
    have z2 := acc_sz g w hgs hwsz 3
    have e1 := ofF_ok 1 2 (by omega) (by omega) (by omega)
    have e2 := square_ok (accP f w 3) (accP g w 3) (by omega)
    obtain ⟨p, hp⟩ : ∃ p, p = accP f w 3 := ⟨_, rfl⟩
    obtain ⟨q, hq⟩ : ∃ q, q = accP g w 3 := ⟨_, rfl⟩
    rw [← hp, ← hq] at e2 hplain
    rw [← hp] at z1
    rw [← hq] at z2
    simp only [← hp, ← hq]
    have z3 : szQ (sqP p q) ≤ 10000 := by
      unfold sqP
      unfold szV at z1 z2
      have := szQ_add ((q.x.q - p.x.q) * (q.x.q - p.x.q)) ((q.y.q - p.y.q) * (q.y.q - p.y.q))
      have := szQ_mul (q.x.q - p.x.q) (q.x.q - p.x.q)
      have := szQ_mul (q.y.q - p.y.q) (q.y.q - p.y.q)
      have := szQ_sub q.x.q p.x.q
      have := szQ_sub q.y.q p.y.q
      omega
    have z4 : szQ (Rat.divInt 1 2) ≤ 10 := by
      have h1 := sz_divInt 1 2 (by omega)
      have h2 := limbs_small (n := (1 : Int).natAbs) (by omega)
      have h3 := limbs_small (n := (2 : Int).natAbs) (by omega)
      omega
    have e3 := cmpR_ok (.of (sqP p q)) (.of (Rat.divInt 1 2)) (by simp only [FQ.of]; omega)
    have hle : ¬ Rat.divInt 1 2 < sqP p q := by
      have : Rat.divInt 1 2 = (1 : Rat) / 2 := by rw [Rat.divInt_eq_div]; rfl
      rw [this]
      grind
    have hc : cmpZ ((FQ.of (sqP p q)).q.num * (FQ.of (Rat.divInt 1 2)).q.den) ((FQ.of (Rat.divInt 1 2)).q.num * (FQ.of (sqP p q)).q.den) ≤ 0 := by
      rw [cmpQ_eq]
      split
      · omega
      · rw [if_neg (show ¬ (FQ.of (Rat.divInt 1 2)).q < (FQ.of (sqP p q)).q from hle)]; omega
    obtain ⟨k, hk3⟩ : ∃ k, k = cmpZ ((FQ.of (sqP p q)).q.num * (FQ.of (Rat.divInt 1 2)).q.den) ((FQ.of (Rat.divInt 1 2)).q.num * (FQ.of (sqP p q)).q.den) := ⟨_, rfl⟩
    rw [← hk3] at e3 hc
    have g3 : (k ≤ 0) = True := eq_true hc
    obtain ⟨m, hm⟩ : ∃ m, m = FQ.of (sqP p q) := ⟨_, rfl⟩
    obtain ⟨h, hh⟩ : ∃ h, h = FQ.of (Rat.divInt 1 2) := ⟨_, rfl⟩
    rw [← hm] at e2 e3
    rw [← hh] at e1 e3
    clear hk3 hp hq hm hh hplain
    repeat' (first
      | with_reducible first | apply thenW_n | apply thenW_ret | apply thenW_exit | apply thenW_panic | apply blockW_n | apply blockW_same | apply blockW_ret | apply blockW_panic | apply loopW_ret | apply loopW_exit | apply loopW_panic | apply joinW_ret | apply joinW_exit | apply joinW_panic | apply W_seq | apply W_block | apply W_skip | apply W_ret | apply W_exit | apply W_label
      | with_reducible refine blockW_other (by decide) ?_
      | with_reducible refine W_region (by first | decide | (with_unfolding_all rfl)) ?_
      | (rw [vcn]; (try simp [push_cast, -List.map_take, -List.map_drop, g1, g2]); try simp (disch := omega) only [i64_in, u64_in, shr64i])
      | with_reducible refine W_drawn mixed (by decide) (by kernel_rfl) ?_
      | (rw [vcnD]; (try simp [push_cast, -List.map_take, -List.map_drop, g1, g2]); try simp (disch := omega) only [i64_in, u64_in, shr64i])
      | (with_reducible refine W_condW ?_; (try simp [AS.val, upd, resB, mkS_env, mkS_box, lk, entry_env, condW_true, condW_false, g1, g2]))
      | with_reducible refine optK_dV (by first | omega | (simp; omega)) ?_
      | with_reducible refine optK_dVh (by omega) ?_
      | refine And.intro (by first | omega | kernel_rfl) ?_
      | (with_reducible refine condW_b (fun hc => ?_) (fun hc => ?_) <;> (try simp [Int.ofNat_inj] at hc) <;> try contradiction)
      | fail)
    first | refine CallG_of (e1) (by first | rfl | (simp [natAV, numC, ← limbs.eq_1, push_cast, -List.map_take, -List.map_drop]; done)) (by simp [natAV, zAV, zC, ratAV, ratC, ptAV, ptC, sgAV, sgC, D3.av, AV.refs, refsL, push_cast, -List.map_take, -List.map_drop]) rfl ?_ | refine callD_of (e1) (by first | rfl | (simp [natAV, numC, ← limbs.eq_1, push_cast, -List.map_take, -List.map_drop]; done)) (by simp [natAV, zAV, zC, ratAV, ratC, ptAV, ptC, sgAV, sgC, D3.av, AV.refs, refsL, push_cast, -List.map_take, -List.map_drop]) rfl ?_
    try dsimp only
    repeat' (first
      | with_reducible first | apply thenW_n | apply thenW_ret | apply thenW_exit | apply thenW_panic | apply blockW_n | apply blockW_same | apply blockW_ret | apply blockW_panic | apply loopW_ret | apply loopW_exit | apply loopW_panic | apply joinW_ret | apply joinW_exit | apply joinW_panic | apply W_seq | apply W_block | apply W_skip | apply W_ret | apply W_exit | apply W_label
      | with_reducible refine blockW_other (by decide) ?_
      | with_reducible refine W_region (by first | decide | (with_unfolding_all rfl)) ?_
      | (rw [vcn]; (try simp [push_cast, -List.map_take, -List.map_drop, ptC, ratAV, ratC, zC]); try simp (disch := omega) only [i64_in, u64_in, shr64i])
      | with_reducible refine W_drawn mixed (by decide) (by kernel_rfl) ?_
      | (rw [vcnD]; (try simp [push_cast, -List.map_take, -List.map_drop, ptC, ratAV, ratC, zC]); try simp (disch := omega) only [i64_in, u64_in, shr64i])
      | (with_reducible refine W_condW ?_; (try simp [AS.val, upd, resB, mkS_env, mkS_box, lk, entry_env, condW_true, condW_false, ptC, ratAV, ratC, zC]))
      | with_reducible refine optK_dV (by first | omega | (simp; omega)) ?_
      | with_reducible refine optK_dVh (by omega) ?_
      | refine And.intro (by first | omega | kernel_rfl) ?_
      | (with_reducible refine condW_b (fun hc => ?_) (fun hc => ?_) <;> (try simp [Int.ofNat_inj] at hc) <;> try contradiction)
      | fail)
    first | refine CallG_of (e2) (by first | rfl | (simp [natAV, numC, ← limbs.eq_1, push_cast, -List.map_take, -List.map_drop, ptAV, ptC, ratC, zC]; done)) (by simp [natAV, zAV, zC, ratAV, ratC, ptAV, ptC, sgAV, sgC, D3.av, AV.refs, refsL, push_cast, -List.map_take, -List.map_drop]) rfl ?_ | refine callD_of (e2) (by first | rfl | (simp [natAV, numC, ← limbs.eq_1, push_cast, -List.map_take, -List.map_drop, ptAV, ptC, ratC, zC]; done)) (by simp [natAV, zAV, zC, ratAV, ratC, ptAV, ptC, sgAV, sgC, D3.av, AV.refs, refsL, push_cast, -List.map_take, -List.map_drop]) rfl ?_
    try dsimp only
    repeat' (first
      | with_reducible first | apply thenW_n | apply thenW_ret | apply thenW_exit | apply thenW_panic | apply blockW_n | apply blockW_same | apply blockW_ret | apply blockW_panic | apply loopW_ret | apply loopW_exit | apply loopW_panic | apply joinW_ret | apply joinW_exit | apply joinW_panic | apply W_seq | apply W_block | apply W_skip | apply W_ret | apply W_exit | apply W_label
      | with_reducible refine blockW_other (by decide) ?_
      | with_reducible refine W_region (by first | decide | (with_unfolding_all rfl)) ?_
      | (rw [vcn]; (try simp [push_cast, -List.map_take, -List.map_drop, ratAV, ratC, zC]); try simp (disch := omega) only [i64_in, u64_in, shr64i])
      | with_reducible refine W_drawn mixed (by decide) (by kernel_rfl) ?_
      | (rw [vcnD]; (try simp [push_cast, -List.map_take, -List.map_drop, ratAV, ratC, zC]); try simp (disch := omega) only [i64_in, u64_in, shr64i])
      | (with_reducible refine W_condW ?_; (try simp [AS.val, upd, resB, mkS_env, mkS_box, lk, entry_env, condW_true, condW_false, ratAV, ratC, zC]))
      | with_reducible refine optK_dV (by first | omega | (simp; omega)) ?_
      | with_reducible refine optK_dVh (by omega) ?_
      | refine And.intro (by first | omega | kernel_rfl) ?_
      | (with_reducible refine condW_b (fun hc => ?_) (fun hc => ?_) <;> (try simp [Int.ofNat_inj] at hc) <;> try contradiction)
      | fail)
    first | refine CallG_of (e3) (by first | rfl | (simp [natAV, numC, ← limbs.eq_1, push_cast, -List.map_take, -List.map_drop, ratAV, ratC, zAV, zC]; done)) (by simp [natAV, zAV, zC, ratAV, ratC, ptAV, ptC, sgAV, sgC, D3.av, AV.refs, refsL, push_cast, -List.map_take, -List.map_drop]) rfl ?_ | refine callD_of (e3) (by first | rfl | (simp [natAV, numC, ← limbs.eq_1, push_cast, -List.map_take, -List.map_drop, ratAV, ratC, zAV, zC]; done)) (by simp [natAV, zAV, zC, ratAV, ratC, ptAV, ptC, sgAV, sgC, D3.av, AV.refs, refsL, push_cast, -List.map_take, -List.map_drop]) rfl ?_
    try dsimp only
    repeat' (first
      | with_reducible first | apply thenW_n | apply thenW_ret | apply thenW_exit | apply thenW_panic | apply blockW_n | apply blockW_same | apply blockW_ret | apply blockW_panic | apply loopW_ret | apply loopW_exit | apply loopW_panic | apply joinW_ret | apply joinW_exit | apply joinW_panic | apply W_seq | apply W_block | apply W_skip | apply W_ret | apply W_exit | apply W_label
      | with_reducible refine blockW_other (by decide) ?_
      | with_reducible refine W_region (by first | decide | (with_unfolding_all rfl)) ?_
      | (rw [vcn]; (try simp [push_cast, -List.map_take, -List.map_drop, g3]); try simp (disch := omega) only [i64_in, u64_in, shr64i])
      | with_reducible refine W_drawn mixed (by decide) (by kernel_rfl) ?_
      | (rw [vcnD]; (try simp [push_cast, -List.map_take, -List.map_drop, g3]); try simp (disch := omega) only [i64_in, u64_in, shr64i])
      | (with_reducible refine W_condW ?_; (try simp [AS.val, upd, resB, mkS_env, mkS_box, lk, entry_env, condW_true, condW_false, g3]))
      | with_reducible refine optK_dV (by first | omega | (simp; omega)) ?_
      | with_reducible refine optK_dVh (by omega) ?_
      | refine And.intro (by first | omega | kernel_rfl) ?_
      | (with_reducible refine condW_b (fun hc => ?_) (fun hc => ?_) <;> (try simp [Int.ofNat_inj] at hc) <;> try contradiction)
      | fail)
    simp [post, resAV, resAll, resOne, closeV, closeC, closeL, resD, resDL, push_cast, -List.map_take, -List.map_drop, g3]
  have hlt : i < 3 := by omega
  have g1 : (i < 3) = True := eq_true hlt
  have g2 : ((i : Int) < 3) = True := eq_true (by omega)
  obtain ⟨t1, ht1⟩ := hWat i hlt
  obtain ⟨t2, ht2⟩ := hRat i hlt
  obtain ⟨t3, ht3⟩ := hGat i hlt
  have hA : accP f w (i + 1) = ⟨.of ((accP f w i).x.q + (f i).x.q * w i), .of ((accP f w i).y.q + (f i).y.q * w i)⟩ := rfl
  have hB : accP g w (i + 1) = ⟨.of ((accP g w i).x.q + (g i).x.q * w i), .of ((accP g w i).y.q + (g i).y.q * w i)⟩ := rfl
  have hgi : g i = ⟨.of (nearQ (f i).x.q : Rat), .of (nearQ (f i).y.q : Rat)⟩ := by rw [hg]; simp only; rw [if_pos hlt]
  have z1 := acc_sz f w hfs hwsz i
  have z2 := acc_sz g w hgs hwsz i
  have z3 : 2 ^ i ≤ 2 ^ 3 := Nat.pow_le_pow_right (by omega) hi
  have z4 := hfs i
  have z5 := hgs i
  have z6 := hwsz i
  have c1 := ofF_ok (ws i) 100 (by omega) (by have := hwsr i; omega) (by omega)
  have c2 := grid_ok (nearQ (f i).x.q) (nearQ (f i).y.q) (by have := (hmem i hlt).2.1; unfold inC at this; omega) (by have := (hmem i hlt).2.2; unfold inC at this; omega)
  rw [← hgi] at c2
  have hwi : Rat.divInt (ws i) 100 = w i := by rw [hw]
  rw [hwi] at c1
  unfold szV at z1 z2 z4 z5
  obtain ⟨W, hW⟩ : ∃ W, W = FQ.of (w i) := ⟨_, rfl⟩
  have hWq : w i = W.q := by rw [hW]; rfl
  rw [← hW] at c1
  rw [hWq] at hA hB z6
  obtain ⟨P, hP⟩ : ∃ P, P = f i := ⟨_, rfl⟩
  obtain ⟨Q, hQ⟩ : ∃ Q, Q = g i := ⟨_, rfl⟩
  obtain ⟨A, hA2⟩ : ∃ A, A = accP f w i := ⟨_, rfl⟩
  obtain ⟨B, hB2⟩ : ∃ B, B = accP g w i := ⟨_, rfl⟩
  obtain ⟨qx, hqx⟩ : ∃ q, q = nearQ (f i).x.q := ⟨_, rfl⟩
  obtain ⟨qy, hqy⟩ : ∃ q, q = nearQ (f i).y.q := ⟨_, rfl⟩
  obtain ⟨wv, hwv⟩ : ∃ v, v = ws i := ⟨_, rfl⟩
  rw [← hwv] at c1 ht1
  rw [← hqx, ← hqy] at c2 ht3
  rw [← hP] at hA z4 ht2
  rw [← hQ] at hB z5 c2
  rw [← hA2] at hA z1
  rw [← hB2] at hB z2
  simp only [← hA2, ← hB2]
  have q1 := szQ_mul P.x.q W.q
  have q2 := szQ_mul P.y.q W.q
  have q3 := szQ_mul Q.x.q W.q
  have q4 := szQ_mul Q.y.q W.q
  have m1 := mulR_ok P.x W (by omega)
  have m2 := mulR_ok P.y W (by omega)
  have m3 := mulR_ok Q.x W (by omega)
  have m4 := mulR_ok Q.y W (by omega)
  have n1 := addR_ok A.x (.of (P.x.q * W.q)) (by simp only [FQ.of]; omega)
  have n2 := addR_ok A.y (.of (P.y.q * W.q)) (by simp only [FQ.of]; omega)
  have n3 := addR_ok B.x (.of (Q.x.q * W.q)) (by simp only [FQ.of]; omega)
  have n4 := addR_ok B.y (.of (Q.y.q * W.q)) (by simp only [FQ.of]; omega)
  have o1 : A.x.q + (FQ.of (P.x.q * W.q)).q = A.x.q + P.x.q * W.q := rfl
  have o2 : A.y.q + (FQ.of (P.y.q * W.q)).q = A.y.q + P.y.q * W.q := rfl
  have o3 : B.x.q + (FQ.of (Q.x.q * W.q)).q = B.x.q + Q.x.q * W.q := rfl
  have o4 : B.y.q + (FQ.of (Q.y.q * W.q)).q = B.y.q + Q.y.q * W.q := rfl
  rw [o1] at n1
  rw [o2] at n2
  rw [o3] at n3
  rw [o4] at n4
  obtain ⟨r1x, hr1⟩ : ∃ r, r = FQ.of (P.x.q * W.q) := ⟨_, rfl⟩
  obtain ⟨r2x, hr2⟩ : ∃ r, r = FQ.of (P.y.q * W.q) := ⟨_, rfl⟩
  obtain ⟨r3x, hr3⟩ : ∃ r, r = FQ.of (Q.x.q * W.q) := ⟨_, rfl⟩
  obtain ⟨r4x, hr4⟩ : ∃ r, r = FQ.of (Q.y.q * W.q) := ⟨_, rfl⟩
  obtain ⟨s1x, hs1⟩ : ∃ r, r = FQ.of (A.x.q + P.x.q * W.q) := ⟨_, rfl⟩
  obtain ⟨s2x, hs2⟩ : ∃ r, r = FQ.of (A.y.q + P.y.q * W.q) := ⟨_, rfl⟩
  obtain ⟨s3x, hs3⟩ : ∃ r, r = FQ.of (B.x.q + Q.x.q * W.q) := ⟨_, rfl⟩
  obtain ⟨s4x, hs4⟩ : ∃ r, r = FQ.of (B.y.q + Q.y.q * W.q) := ⟨_, rfl⟩
  rw [← hr1] at m1 n1
  rw [← hr2] at m2 n2
  rw [← hr3] at m3 n3
  rw [← hr4] at m4 n4
  rw [← hs1, ← hs2] at hA
  rw [← hs3, ← hs4] at hB
  rw [← hs1] at n1
  rw [← hs2] at n2
  rw [← hs3] at n3
  rw [← hs4] at n4
  have tl1 := congrArg List.length ht1
  have tl2 := congrArg List.length ht2
  have tl3 := congrArg List.length ht3
  rw [List.length_drop, hWlen, List.length_cons] at tl1
  rw [List.length_drop, hRl, List.length_append, ptC_len] at tl2
  rw [List.length_drop, hGl, List.length_append] at tl3
  obtain ⟨Px, Py⟩ := P
  obtain ⟨Qx, Qy⟩ := Q
  obtain ⟨Ax, Ay⟩ := A
  obtain ⟨Bx, By⟩ := B
  simp only at m1 m2 m3 m4 n1 n2 n3 n4
  clear hr1 hr2 hr3 hr4 hs1 hs2 hs3 hs4 hP hQ hA2 hB2 hqx hqy hwv hgi hwi hW hWq o1 o2 o3 o4 q1 q2 q3 q4 hplain hmem hRat hGat hWat hf hg hw hws hok ho hR hG hWl hWl2 hrc r1
  repeat' (first
    | with_reducible first | apply thenW_n | apply thenW_ret | apply thenW_exit | apply thenW_panic | apply blockW_n | apply blockW_same | apply blockW_ret | apply blockW_panic | apply loopW_ret | apply loopW_exit | apply loopW_panic | apply joinW_ret | apply joinW_exit | apply joinW_panic | apply W_seq | apply W_block | apply W_skip | apply W_ret | apply W_exit | apply W_label
    | with_reducible refine blockW_other (by decide) ?_
    | with_reducible refine W_region (by first | decide | (with_unfolding_all rfl)) ?_
    | (rw [vcn]; (try simp [push_cast, -List.map_take, -List.map_drop, g1, g2, ht1, hWlen, hlt]); try simp (disch := omega) only [i64_in, u64_in, shr64i])
    | with_reducible refine W_drawn mixed (by decide) (by kernel_rfl) ?_
    | (rw [vcnD]; (try simp [push_cast, -List.map_take, -List.map_drop, g1, g2, ht1, hWlen, hlt]); try simp (disch := omega) only [i64_in, u64_in, shr64i])
    | (with_reducible refine W_condW ?_; (try simp [AS.val, upd, resB, mkS_env, mkS_box, lk, entry_env, condW_true, condW_false, g1, g2, ht1, hWlen, hlt]))
    | with_reducible refine optK_dV (by first | omega | (simp; omega)) ?_
    | with_reducible refine optK_dVh (by omega) ?_
    | refine And.intro (by first | omega | kernel_rfl) ?_
    | (with_reducible refine condW_b (fun hc => ?_) (fun hc => ?_) <;> (try simp [Int.ofNat_inj] at hc) <;> try contradiction)
    | fail)
  first | refine CallG_of (c1) (by first | rfl | (simp [natAV, numC, ← limbs.eq_1, push_cast, -List.map_take, -List.map_drop]; done)) (by simp [natAV, zAV, zC, ratAV, ratC, ptAV, ptC, sgAV, sgC, D3.av, AV.refs, refsL, push_cast, -List.map_take, -List.map_drop]) rfl ?_ | refine callD_of (c1) (by first | rfl | (simp [natAV, numC, ← limbs.eq_1, push_cast, -List.map_take, -List.map_drop]; done)) (by simp [natAV, zAV, zC, ratAV, ratC, ptAV, ptC, sgAV, sgC, D3.av, AV.refs, refsL, push_cast, -List.map_take, -List.map_drop]) rfl ?_
  try dsimp only
  repeat' (first
    | with_reducible first | apply thenW_n | apply thenW_ret | apply thenW_exit | apply thenW_panic | apply blockW_n | apply blockW_same | apply blockW_ret | apply blockW_panic | apply loopW_ret | apply loopW_exit | apply loopW_panic | apply joinW_ret | apply joinW_exit | apply joinW_panic | apply W_seq | apply W_block | apply W_skip | apply W_ret | apply W_exit | apply W_label
    | with_reducible refine blockW_other (by decide) ?_
    | with_reducible refine W_region (by first | decide | (with_unfolding_all rfl)) ?_
    | (rw [vcn]; (try simp [push_cast, -List.map_take, -List.map_drop, ratAV, ratC, zC, ht3, hGl, hlt, ptI, g1]); try simp (disch := omega) only [i64_in, u64_in, shr64i])
    | with_reducible refine W_drawn mixed (by decide) (by kernel_rfl) ?_
    | (rw [vcnD]; (try simp [push_cast, -List.map_take, -List.map_drop, ratAV, ratC, zC, ht3, hGl, hlt, ptI, g1]); try simp (disch := omega) only [i64_in, u64_in, shr64i])
    | (with_reducible refine W_condW ?_; (try simp [AS.val, upd, resB, mkS_env, mkS_box, lk, entry_env, condW_true, condW_false, ratAV, ratC, zC, ht3, hGl, hlt, ptI, g1]))
    | with_reducible refine optK_dV (by first | omega | (simp; omega)) ?_
    | with_reducible refine optK_dVh (by omega) ?_
    | refine And.intro (by first | omega | kernel_rfl) ?_
    | (with_reducible refine condW_b (fun hc => ?_) (fun hc => ?_) <;> (try simp [Int.ofNat_inj] at hc) <;> try contradiction)
    | fail)
  first | refine CallG_of (c2) (by first | rfl | (simp [natAV, numC, ← limbs.eq_1, push_cast, -List.map_take, -List.map_drop]; done)) (by simp [natAV, zAV, zC, ratAV, ratC, ptAV, ptC, sgAV, sgC, D3.av, AV.refs, refsL, push_cast, -List.map_take, -List.map_drop]) rfl ?_ | refine callD_of (c2) (by first | rfl | (simp [natAV, numC, ← limbs.eq_1, push_cast, -List.map_take, -List.map_drop]; done)) (by simp [natAV, zAV, zC, ratAV, ratC, ptAV, ptC, sgAV, sgC, D3.av, AV.refs, refsL, push_cast, -List.map_take, -List.map_drop]) rfl ?_
  try dsimp only
  repeat' (first
    | with_reducible first | apply thenW_n | apply thenW_ret | apply thenW_exit | apply thenW_panic | apply blockW_n | apply blockW_same | apply blockW_ret | apply blockW_panic | apply loopW_ret | apply loopW_exit | apply loopW_panic | apply joinW_ret | apply joinW_exit | apply joinW_panic | apply W_seq | apply W_block | apply W_skip | apply W_ret | apply W_exit | apply W_label
    | with_reducible refine blockW_other (by decide) ?_
    | with_reducible refine W_region (by first | decide | (with_unfolding_all rfl)) ?_
    | (rw [vcn]; (try simp [push_cast, -List.map_take, -List.map_drop, ptAV, ptC, ratC, zC, ht2, hRl, hlt, g1]); try simp (disch := omega) only [i64_in, u64_in, shr64i])
    | with_reducible refine W_drawn mixed (by decide) (by kernel_rfl) ?_
    | (rw [vcnD]; (try simp [push_cast, -List.map_take, -List.map_drop, ptAV, ptC, ratC, zC, ht2, hRl, hlt, g1]); try simp (disch := omega) only [i64_in, u64_in, shr64i])
    | (with_reducible refine W_condW ?_; (try simp [AS.val, upd, resB, mkS_env, mkS_box, lk, entry_env, condW_true, condW_false, ptAV, ptC, ratC, zC, ht2, hRl, hlt, g1]))
    | with_reducible refine optK_dV (by first | omega | (simp; omega)) ?_
    | with_reducible refine optK_dVh (by omega) ?_
    | refine And.intro (by first | omega | kernel_rfl) ?_
    | (with_reducible refine condW_b (fun hc => ?_) (fun hc => ?_) <;> (try simp [Int.ofNat_inj] at hc) <;> try contradiction)
    | fail)
  first | refine CallG_of (m1) (by first | rfl | (simp [natAV, numC, ← limbs.eq_1, push_cast, -List.map_take, -List.map_drop, ratAV, ratC, zAV, zC]; done)) (by simp [natAV, zAV, zC, ratAV, ratC, ptAV, ptC, sgAV, sgC, D3.av, AV.refs, refsL, push_cast, -List.map_take, -List.map_drop]) rfl ?_ | refine callD_of (m1) (by first | rfl | (simp [natAV, numC, ← limbs.eq_1, push_cast, -List.map_take, -List.map_drop, ratAV, ratC, zAV, zC]; done)) (by simp [natAV, zAV, zC, ratAV, ratC, ptAV, ptC, sgAV, sgC, D3.av, AV.refs, refsL, push_cast, -List.map_take, -List.map_drop]) rfl ?_
  try dsimp only
  repeat' (first
    | with_reducible first | apply thenW_n | apply thenW_ret | apply thenW_exit | apply thenW_panic | apply blockW_n | apply blockW_same | apply blockW_ret | apply blockW_panic | apply loopW_ret | apply loopW_exit | apply loopW_panic | apply joinW_ret | apply joinW_exit | apply joinW_panic | apply W_seq | apply W_block | apply W_skip | apply W_ret | apply W_exit | apply W_label
    | with_reducible refine blockW_other (by decide) ?_
    | with_reducible refine W_region (by first | decide | (with_unfolding_all rfl)) ?_
    | (rw [vcn]; (try simp [push_cast, -List.map_take, -List.map_drop, ratAV, ratC, zC, ht2, hRl, hlt, g1, ptC]); try simp (disch := omega) only [i64_in, u64_in, shr64i])
    | with_reducible refine W_drawn mixed (by decide) (by kernel_rfl) ?_
    | (rw [vcnD]; (try simp [push_cast, -List.map_take, -List.map_drop, ratAV, ratC, zC, ht2, hRl, hlt, g1, ptC]); try simp (disch := omega) only [i64_in, u64_in, shr64i])
    | (with_reducible refine W_condW ?_; (try simp [AS.val, upd, resB, mkS_env, mkS_box, lk, entry_env, condW_true, condW_false, ratAV, ratC, zC, ht2, hRl, hlt, g1, ptC]))
    | with_reducible refine optK_dV (by first | omega | (simp; omega)) ?_
    | with_reducible refine optK_dVh (by omega) ?_
    | refine And.intro (by first | omega | kernel_rfl) ?_
    | (with_reducible refine condW_b (fun hc => ?_) (fun hc => ?_) <;> (try simp [Int.ofNat_inj] at hc) <;> try contradiction)
    | fail)
  first | refine CallG_of (n1) (by first | rfl | (simp [natAV, numC, ← limbs.eq_1, push_cast, -List.map_take, -List.map_drop, ratAV, ratC, zAV, zC]; done)) (by simp [natAV, zAV, zC, ratAV, ratC, ptAV, ptC, sgAV, sgC, D3.av, AV.refs, refsL, push_cast, -List.map_take, -List.map_drop]) rfl ?_ | refine callD_of (n1) (by first | rfl | (simp [natAV, numC, ← limbs.eq_1, push_cast, -List.map_take, -List.map_drop, ratAV, ratC, zAV, zC]; done)) (by simp [natAV, zAV, zC, ratAV, ratC, ptAV, ptC, sgAV, sgC, D3.av, AV.refs, refsL, push_cast, -List.map_take, -List.map_drop]) rfl ?_
  try dsimp only
  repeat' (first
    | with_reducible first | apply thenW_n | apply thenW_ret | apply thenW_exit | apply thenW_panic | apply blockW_n | apply blockW_same | apply blockW_ret | apply blockW_panic | apply loopW_ret | apply loopW_exit | apply loopW_panic | apply joinW_ret | apply joinW_exit | apply joinW_panic | apply W_seq | apply W_block | apply W_skip | apply W_ret | apply W_exit | apply W_label
    | with_reducible refine blockW_other (by decide) ?_
    | with_reducible refine W_region (by first | decide | (with_unfolding_all rfl)) ?_
    | (rw [vcn]; (try simp [push_cast, -List.map_take, -List.map_drop, ratAV, ratC, zC, ht2, hRl, hlt, g1, ptC]); try simp (disch := omega) only [i64_in, u64_in, shr64i])
    | with_reducible refine W_drawn mixed (by decide) (by kernel_rfl) ?_
    | (rw [vcnD]; (try simp [push_cast, -List.map_take, -List.map_drop, ratAV, ratC, zC, ht2, hRl, hlt, g1, ptC]); try simp (disch := omega) only [i64_in, u64_in, shr64i])
    | (with_reducible refine W_condW ?_; (try simp [AS.val, upd, resB, mkS_env, mkS_box, lk, entry_env, condW_true, condW_false, ratAV, ratC, zC, ht2, hRl, hlt, g1, ptC]))
    | with_reducible refine optK_dV (by first | omega | (simp; omega)) ?_
    | with_reducible refine optK_dVh (by omega) ?_
    | refine And.intro (by first | omega | kernel_rfl) ?_
    | (with_reducible refine condW_b (fun hc => ?_) (fun hc => ?_) <;> (try simp [Int.ofNat_inj] at hc) <;> try contradiction)
    | fail)
  first | refine CallG_of (m2) (by first | rfl | (simp [natAV, numC, ← limbs.eq_1, push_cast, -List.map_take, -List.map_drop, ratAV, ratC, zAV, zC]; done)) (by simp [natAV, zAV, zC, ratAV, ratC, ptAV, ptC, sgAV, sgC, D3.av, AV.refs, refsL, push_cast, -List.map_take, -List.map_drop]) rfl ?_ | refine callD_of (m2) (by first | rfl | (simp [natAV, numC, ← limbs.eq_1, push_cast, -List.map_take, -List.map_drop, ratAV, ratC, zAV, zC]; done)) (by simp [natAV, zAV, zC, ratAV, ratC, ptAV, ptC, sgAV, sgC, D3.av, AV.refs, refsL, push_cast, -List.map_take, -List.map_drop]) rfl ?_
  try dsimp only
  repeat' (first
    | with_reducible first | apply thenW_n | apply thenW_ret | apply thenW_exit | apply thenW_panic | apply blockW_n | apply blockW_same | apply blockW_ret | apply blockW_panic | apply loopW_ret | apply loopW_exit | apply loopW_panic | apply joinW_ret | apply joinW_exit | apply joinW_panic | apply W_seq | apply W_block | apply W_skip | apply W_ret | apply W_exit | apply W_label
    | with_reducible refine blockW_other (by decide) ?_
    | with_reducible refine W_region (by first | decide | (with_unfolding_all rfl)) ?_
    | (rw [vcn]; (try simp [push_cast, -List.map_take, -List.map_drop, ratAV, ratC, zC, ht2, hRl, hlt, g1, ptC]); try simp (disch := omega) only [i64_in, u64_in, shr64i])
    | with_reducible refine W_drawn mixed (by decide) (by kernel_rfl) ?_
    | (rw [vcnD]; (try simp [push_cast, -List.map_take, -List.map_drop, ratAV, ratC, zC, ht2, hRl, hlt, g1, ptC]); try simp (disch := omega) only [i64_in, u64_in, shr64i])
    | (with_reducible refine W_condW ?_; (try simp [AS.val, upd, resB, mkS_env, mkS_box, lk, entry_env, condW_true, condW_false, ratAV, ratC, zC, ht2, hRl, hlt, g1, ptC]))
    | with_reducible refine optK_dV (by first | omega | (simp; omega)) ?_
    | with_reducible refine optK_dVh (by omega) ?_
    | refine And.intro (by first | omega | kernel_rfl) ?_
    | (with_reducible refine condW_b (fun hc => ?_) (fun hc => ?_) <;> (try simp [Int.ofNat_inj] at hc) <;> try contradiction)
    | fail)
  first | refine CallG_of (n2) (by first | rfl | (simp [natAV, numC, ← limbs.eq_1, push_cast, -List.map_take, -List.map_drop, ratAV, ratC, zAV, zC]; done)) (by simp [natAV, zAV, zC, ratAV, ratC, ptAV, ptC, sgAV, sgC, D3.av, AV.refs, refsL, push_cast, -List.map_take, -List.map_drop]) rfl ?_ | refine callD_of (n2) (by first | rfl | (simp [natAV, numC, ← limbs.eq_1, push_cast, -List.map_take, -List.map_drop, ratAV, ratC, zAV, zC]; done)) (by simp [natAV, zAV, zC, ratAV, ratC, ptAV, ptC, sgAV, sgC, D3.av, AV.refs, refsL, push_cast, -List.map_take, -List.map_drop]) rfl ?_
  try dsimp only
  repeat' (first
    | with_reducible first | apply thenW_n | apply thenW_ret | apply thenW_exit | apply thenW_panic | apply blockW_n | apply blockW_same | apply blockW_ret | apply blockW_panic | apply loopW_ret | apply loopW_exit | apply loopW_panic | apply joinW_ret | apply joinW_exit | apply joinW_panic | apply W_seq | apply W_block | apply W_skip | apply W_ret | apply W_exit | apply W_label
    | with_reducible refine blockW_other (by decide) ?_
    | with_reducible refine W_region (by first | decide | (with_unfolding_all rfl)) ?_
    | (rw [vcn]; (try simp [push_cast, -List.map_take, -List.map_drop, ratAV, ratC, zC, ht2, hRl, hlt, g1, ptC]); try simp (disch := omega) only [i64_in, u64_in, shr64i])
    | with_reducible refine W_drawn mixed (by decide) (by kernel_rfl) ?_
    | (rw [vcnD]; (try simp [push_cast, -List.map_take, -List.map_drop, ratAV, ratC, zC, ht2, hRl, hlt, g1, ptC]); try simp (disch := omega) only [i64_in, u64_in, shr64i])
    | (with_reducible refine W_condW ?_; (try simp [AS.val, upd, resB, mkS_env, mkS_box, lk, entry_env, condW_true, condW_false, ratAV, ratC, zC, ht2, hRl, hlt, g1, ptC]))
    | with_reducible refine optK_dV (by first | omega | (simp; omega)) ?_
    | with_reducible refine optK_dVh (by omega) ?_
    | refine And.intro (by first | omega | kernel_rfl) ?_
    | (with_reducible refine condW_b (fun hc => ?_) (fun hc => ?_) <;> (try simp [Int.ofNat_inj] at hc) <;> try contradiction)
    | fail)
  first | refine CallG_of (m3) (by first | rfl | (simp [natAV, numC, ← limbs.eq_1, push_cast, -List.map_take, -List.map_drop, ratAV, ratC, zAV, zC]; done)) (by simp [natAV, zAV, zC, ratAV, ratC, ptAV, ptC, sgAV, sgC, D3.av, AV.refs, refsL, push_cast, -List.map_take, -List.map_drop]) rfl ?_ | refine callD_of (m3) (by first | rfl | (simp [natAV, numC, ← limbs.eq_1, push_cast, -List.map_take, -List.map_drop, ratAV, ratC, zAV, zC]; done)) (by simp [natAV, zAV, zC, ratAV, ratC, ptAV, ptC, sgAV, sgC, D3.av, AV.refs, refsL, push_cast, -List.map_take, -List.map_drop]) rfl ?_
  try dsimp only
  repeat' (first
    | with_reducible first | apply thenW_n | apply thenW_ret | apply thenW_exit | apply thenW_panic | apply blockW_n | apply blockW_same | apply blockW_ret | apply blockW_panic | apply loopW_ret | apply loopW_exit | apply loopW_panic | apply joinW_ret | apply joinW_exit | apply joinW_panic | apply W_seq | apply W_block | apply W_skip | apply W_ret | apply W_exit | apply W_label
    | with_reducible refine blockW_other (by decide) ?_
    | with_reducible refine W_region (by first | decide | (with_unfolding_all rfl)) ?_
    | (rw [vcn]; (try simp [push_cast, -List.map_take, -List.map_drop, ratAV, ratC, zC, ptC]); try simp (disch := omega) only [i64_in, u64_in, shr64i])
    | with_reducible refine W_drawn mixed (by decide) (by kernel_rfl) ?_
    | (rw [vcnD]; (try simp [push_cast, -List.map_take, -List.map_drop, ratAV, ratC, zC, ptC]); try simp (disch := omega) only [i64_in, u64_in, shr64i])
    | (with_reducible refine W_condW ?_; (try simp [AS.val, upd, resB, mkS_env, mkS_box, lk, entry_env, condW_true, condW_false, ratAV, ratC, zC, ptC]))
    | with_reducible refine optK_dV (by first | omega | (simp; omega)) ?_
    | with_reducible refine optK_dVh (by omega) ?_
    | refine And.intro (by first | omega | kernel_rfl) ?_
    | (with_reducible refine condW_b (fun hc => ?_) (fun hc => ?_) <;> (try simp [Int.ofNat_inj] at hc) <;> try contradiction)
    | fail)
  first | refine CallG_of (n3) (by first | rfl | (simp [natAV, numC, ← limbs.eq_1, push_cast, -List.map_take, -List.map_drop, ratAV, ratC, zAV, zC]; done)) (by simp [natAV, zAV, zC, ratAV, ratC, ptAV, ptC, sgAV, sgC, D3.av, AV.refs, refsL, push_cast, -List.map_take, -List.map_drop]) rfl ?_ | refine callD_of (n3) (by first | rfl | (simp [natAV, numC, ← limbs.eq_1, push_cast, -List.map_take, -List.map_drop, ratAV, ratC, zAV, zC]; done)) (by simp [natAV, zAV, zC, ratAV, ratC, ptAV, ptC, sgAV, sgC, D3.av, AV.refs, refsL, push_cast, -List.map_take, -List.map_drop]) rfl ?_
  try dsimp only
  repeat' (first
    | with_reducible first | apply thenW_n | apply thenW_ret | apply thenW_exit | apply thenW_panic | apply blockW_n | apply blockW_same | apply blockW_ret | apply blockW_panic | apply loopW_ret | apply loopW_exit | apply loopW_panic | apply joinW_ret | apply joinW_exit | apply joinW_panic | apply W_seq | apply W_block | apply W_skip | apply W_ret | apply W_exit | apply W_label
    | with_reducible refine blockW_other (by decide) ?_
    | with_reducible refine W_region (by first | decide | (with_unfolding_all rfl)) ?_
    | (rw [vcn]; (try simp [push_cast, -List.map_take, -List.map_drop, ratAV, ratC, zC, ptC]); try simp (disch := omega) only [i64_in, u64_in, shr64i])
    | with_reducible refine W_drawn mixed (by decide) (by kernel_rfl) ?_
    | (rw [vcnD]; (try simp [push_cast, -List.map_take, -List.map_drop, ratAV, ratC, zC, ptC]); try simp (disch := omega) only [i64_in, u64_in, shr64i])
    | (with_reducible refine W_condW ?_; (try simp [AS.val, upd, resB, mkS_env, mkS_box, lk, entry_env, condW_true, condW_false, ratAV, ratC, zC, ptC]))
    | with_reducible refine optK_dV (by first | omega | (simp; omega)) ?_
    | with_reducible refine optK_dVh (by omega) ?_
    | refine And.intro (by first | omega | kernel_rfl) ?_
    | (with_reducible refine condW_b (fun hc => ?_) (fun hc => ?_) <;> (try simp [Int.ofNat_inj] at hc) <;> try contradiction)
    | fail)
  first | refine CallG_of (m4) (by first | rfl | (simp [natAV, numC, ← limbs.eq_1, push_cast, -List.map_take, -List.map_drop, ratAV, ratC, zAV, zC]; done)) (by simp [natAV, zAV, zC, ratAV, ratC, ptAV, ptC, sgAV, sgC, D3.av, AV.refs, refsL, push_cast, -List.map_take, -List.map_drop]) rfl ?_ | refine callD_of (m4) (by first | rfl | (simp [natAV, numC, ← limbs.eq_1, push_cast, -List.map_take, -List.map_drop, ratAV, ratC, zAV, zC]; done)) (by simp [natAV, zAV, zC, ratAV, ratC, ptAV, ptC, sgAV, sgC, D3.av, AV.refs, refsL, push_cast, -List.map_take, -List.map_drop]) rfl ?_
  try dsimp only
  repeat' (first
    | with_reducible first | apply thenW_n | apply thenW_ret | apply thenW_exit | apply thenW_panic | apply blockW_n | apply blockW_same | apply blockW_ret | apply blockW_panic | apply loopW_ret | apply loopW_exit | apply loopW_panic | apply joinW_ret | apply joinW_exit | apply joinW_panic | apply W_seq | apply W_block | apply W_skip | apply W_ret | apply W_exit | apply W_label
    | with_reducible refine blockW_other (by decide) ?_
    | with_reducible refine W_region (by first | decide | (with_unfolding_all rfl)) ?_
    | (rw [vcn]; (try simp [push_cast, -List.map_take, -List.map_drop, ratAV, ratC, zC, ptC]); try simp (disch := omega) only [i64_in, u64_in, shr64i])
    | with_reducible refine W_drawn mixed (by decide) (by kernel_rfl) ?_
    | (rw [vcnD]; (try simp [push_cast, -List.map_take, -List.map_drop, ratAV, ratC, zC, ptC]); try simp (disch := omega) only [i64_in, u64_in, shr64i])
    | (with_reducible refine W_condW ?_; (try simp [AS.val, upd, resB, mkS_env, mkS_box, lk, entry_env, condW_true, condW_false, ratAV, ratC, zC, ptC]))
    | with_reducible refine optK_dV (by first | omega | (simp; omega)) ?_
    | with_reducible refine optK_dVh (by omega) ?_
    | refine And.intro (by first | omega | kernel_rfl) ?_
    | (with_reducible refine condW_b (fun hc => ?_) (fun hc => ?_) <;> (try simp [Int.ofNat_inj] at hc) <;> try contradiction)
    | fail)
  first | refine CallG_of (n4) (by first | rfl | (simp [natAV, numC, ← limbs.eq_1, push_cast, -List.map_take, -List.map_drop, ratAV, ratC, zAV, zC]; done)) (by simp [natAV, zAV, zC, ratAV, ratC, ptAV, ptC, sgAV, sgC, D3.av, AV.refs, refsL, push_cast, -List.map_take, -List.map_drop]) rfl ?_ | refine callD_of (n4) (by first | rfl | (simp [natAV, numC, ← limbs.eq_1, push_cast, -List.map_take, -List.map_drop, ratAV, ratC, zAV, zC]; done)) (by simp [natAV, zAV, zC, ratAV, ratC, ptAV, ptC, sgAV, sgC, D3.av, AV.refs, refsL, push_cast, -List.map_take, -List.map_drop]) rfl ?_
  try dsimp only
  repeat' (first
    | with_reducible first | apply thenW_n | apply thenW_ret | apply thenW_exit | apply thenW_panic | apply blockW_n | apply blockW_same | apply blockW_ret | apply blockW_panic | apply loopW_ret | apply loopW_exit | apply loopW_panic | apply joinW_ret | apply joinW_exit | apply joinW_panic | apply W_seq | apply W_block | apply W_skip | apply W_ret | apply W_exit | apply W_label
    | with_reducible refine blockW_other (by decide) ?_
    | with_reducible refine W_region (by first | decide | (with_unfolding_all rfl)) ?_
    | (rw [vcn]; (try simp [push_cast, -List.map_take, -List.map_drop, ratAV, ratC, zC, ptC]); try simp (disch := omega) only [i64_in, u64_in, shr64i])
    | with_reducible refine W_drawn mixed (by decide) (by kernel_rfl) ?_
    | (rw [vcnD]; (try simp [push_cast, -List.map_take, -List.map_drop, ratAV, ratC, zC, ptC]); try simp (disch := omega) only [i64_in, u64_in, shr64i])
    | (with_reducible refine W_condW ?_; (try simp [AS.val, upd, resB, mkS_env, mkS_box, lk, entry_env, condW_true, condW_false, ratAV, ratC, zC, ptC]))
    | with_reducible refine optK_dV (by first | omega | (simp; omega)) ?_
    | with_reducible refine optK_dVh (by omega) ?_
    | refine And.intro (by first | omega | kernel_rfl) ?_
    | (with_reducible refine condW_b (fun hc => ?_) (fun hc => ?_) <;> (try simp [Int.ofNat_inj] at hc) <;> try contradiction)
    | fail)
  refine loopW_n (i + 1) id (by omega) (by omega) ⟨?_, ?_, ?_, ?_, ?_, ?_⟩
  all_goals first | (with_reducible refine W_id ?_) | (simp [push_cast, -List.map_take, -List.map_drop, dV_take, dV_drop, hRr, hRl, hRt, hGr, hWr, hWn, hA, hB, ptC, ratC, zC]; done) | (simp [push_cast, -List.map_take, -List.map_drop, dV_take, dV_drop, hRr, hRl, hRt, hGr, hWr, hWn, hA, hB, ptC, ratC, zC]; omega) | (intro i hi; simp; omega) | (intro i hi; dsimp only; (repeat' split) <;> omega) | (simp [push_cast, -List.map_take, -List.map_drop, dV_take, dV_drop, hRr, hRl, hRt, hGr, hWr, hWn, hA, hB, ptC, ratC, zC]; fail_if_success done)
end Go.Fw
