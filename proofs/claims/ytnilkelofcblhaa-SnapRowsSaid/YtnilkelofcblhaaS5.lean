/- law18.known. -/
import Derived.Test.YtnilkelofcblhaaS4
set_option linter.unusedSimpArgs false
set_option linter.unusedVariables false
-- VALS: zAV, zC, ratAV, ratC, ptAV, ptC, sgAV, sgC
namespace Go.Fw
open Go Go.Proofs Go.IntWalk
set_option linter.unusedSimpArgs false
set_option maxRecDepth 100000
set_option maxHeartbeats 4000000

theorem known18_rows : rowsAV [[dotF 1 3 1, dotF 5 (-1) 1, dotF 1 2 2]] = .tup [.slc false 1 1 [.slc false 2 3 [i64V 0, i64V 2, i64V 2, i64V 0, i64V 0, i64V 1]], i64V 0] := by
  have h1 : nearP (dotF 1 3 1) = some (0, 2) := by decide +kernel
  have h2 : nearP (dotF 5 (-1) 1) = some (2, 0) := by decide +kernel
  have h3 : nearP (dotF 1 2 2) = some (0, 1) := by decide +kernel
  unfold rowsAV
  rw [if_pos (by simp [rowsOk, h1, h2, h3])]
  simp [outC, rowI, ptsI, ptI, nearV, h1, h2, h3]
theorem known18_box : boxAV [⟨dotF 1 2 1, dotF 9 (-1) 2⟩] = .tup [.agg [i64V 0, i64V (-1)], .agg [i64V 3, i64V 1], i64V 0] := by
  have h1 : lowG [⟨dotF 1 2 1, dotF 9 (-1) 2⟩] = some (0, -1) := by decide +kernel
  have h2 : highG [⟨dotF 1 2 1, dotF 9 (-1) 2⟩] = some (3, 1) := by decide +kernel
  unfold boxAV
  rw [if_neg (by simp), h1, h2]
  rfl
theorem dot_sz {x y d : Int} (hx : inI x) (hy : inI y) : szV (dotF x y d) ≤ 20 := by
  have hu := underI_pos d
  unfold inI at hx hy
  have h1 := sz_divInt x (underI d) (by omega)
  have h2 := sz_divInt y (underI d) (by omega)
  have h3 := limbs_small (n := x.natAbs) (by omega)
  have h4 := limbs_small (n := y.natAbs) (by omega)
  have h5 := limbs_small (n := (underI d).natAbs) (by omega)
  show szQ (Rat.divInt x (underI d)) + szQ (Rat.divInt y (underI d)) ≤ 20
  omega

/-- Two points of the grid, compared. -/
theorem eqPt (a b c d : Int) : aggEq Try.prog 39 [.v (.int .i64 a), .v (.int .i64 b)] [.v (.int .i64 c), .v (.int .i64 d)] = some (a == c && b == d) := by
  have h1 : Try.prog.eqGuardType Try.prog.depth 39 = false := by kernel_rfl
  have h2 : Try.prog.stoodInHeld 39 = false := by kernel_rfl
  have h3 : aggP Try.prog 3 = some false := by kernel_rfl
  unfold aggEq
  rw [h1, h2, Try.underlying39]
  simp [eqFieldsA, eqAt, Try.underlying3, h3]

open List (map_take map_drop)
attribute [local push_cast] optK_some optK_none optK_ite optK_map optK_bind gOn stepK isMem evPure evMem evBin evUn evConv evLen evBuiltin evMinMax evSlice evBuild evAppend evIndex evIndexAddr evField evFieldAddr intBin strBin appDest AS.val AS.mem AS.elems AS.put AS.put' AS.eff AV.cells? AV.isCell AV.refs all_isByte take_byteV drop_byteV strOf_map bndOk bnd partAV ptrAdd killBox catA inOrder fillA setAt ofVal resB upd byteV List.head?_take List.head?_drop List.getElem?_map mkS_env mkS_box mkS_used entry_env entry_box entry_used lk stepD lookIds Oper.looksAt Op.operands Call.operands St.ids refsL renL_append ren renL renBox Box.refs iV i64V boolV dV_getElem dV_app dV_cons toNat_add2 toNat_add1
attribute [local simp ↓] numC_refs numC_isCell numC_cells numC_resB numC_resD numC_ren numC_closeC numC_isOwn
theorem known18_ok : Eval Try.prog 10 [] (.ret (.v (.bool true))) := by
  refine Eval.intro Try.func10 rfl Try.call10 _ _ (Nat.le_of_ble_eq_true rfl) (by simp [-map_take,-map_drop, AV.refs, refsL, natAV, zAV, zC, ratAV, ratC, ptAV, ptC, sgAV, sgC, push_cast]) fun hs0 => ?_
  have a1 := l11At_ok 1 3 1 (by unfold inI; omega) (by unfold inI; omega)
  have a2 := l11At_ok 5 (-1) 1 (by unfold inI; omega) (by unfold inI; omega)
  have a3 := l11At_ok 1 2 2 (by unfold inI; omega) (by unfold inI; omega)
  have a4 := l11At_ok 1 2 1 (by unfold inI; omega) (by unfold inI; omega)
  have a5 := l11At_ok 9 (-1) 2 (by unfold inI; omega) (by unfold inI; omega)
  have s1 : szV (dotF 1 3 1) ≤ 20 := dot_sz (by unfold inI; omega) (by unfold inI; omega)
  have s2 : szV (dotF 5 (-1) 1) ≤ 20 := dot_sz (by unfold inI; omega) (by unfold inI; omega)
  have s3 : szV (dotF 1 2 2) ≤ 20 := dot_sz (by unfold inI; omega) (by unfold inI; omega)
  have s4 : szV (dotF 1 2 1) ≤ 20 := dot_sz (by unfold inI; omega) (by unfold inI; omega)
  have s5 : szV (dotF 9 (-1) 2) ≤ 20 := dot_sz (by unfold inI; omega) (by unfold inI; omega)
  have hrows := known18_rows
  have hbox := known18_box
  have r1 := snapRows_ok false [[dotF 1 3 1, dotF 5 (-1) 1, dotF 1 2 2]] (by intro r hr p hp; simp [-map_take,-map_drop] at hr; subst hr; simp [-map_take,-map_drop] at hp; rcases hp with rfl | rfl | rfl <;> omega) (by simp [-map_take,-map_drop]) (by intro r hr; simp [-map_take,-map_drop] at hr; subst hr; simp [-map_take,-map_drop])
  have r2 := snapBox_ok false [⟨dotF 1 2 1, dotF 9 (-1) 2⟩] (by intro s hs; simp [-map_take,-map_drop] at hs; subst hs; simp only; omega) (by simp [-map_take,-map_drop])
  rw [hrows] at r1
  rw [hbox] at r2
  obtain ⟨p1, h1⟩ : ∃ p, p = dotF 1 3 1 := ⟨_, rfl⟩
  obtain ⟨p2, h2⟩ : ∃ p, p = dotF 5 (-1) 1 := ⟨_, rfl⟩
  obtain ⟨p3, h3⟩ : ∃ p, p = dotF 1 2 2 := ⟨_, rfl⟩
  obtain ⟨p4, h4⟩ : ∃ p, p = dotF 1 2 1 := ⟨_, rfl⟩
  obtain ⟨p5, h5⟩ : ∃ p, p = dotF 9 (-1) 2 := ⟨_, rfl⟩
  rw [← h1] at a1 r1
  rw [← h2] at a2 r1
  rw [← h3] at a3 r1
  rw [← h4] at a4 r2
  rw [← h5] at a5 r2
  clear h1 h2 h3 h4 h5 s1 s2 s3 s4 s5 hrows hbox
  repeat' (first
    | with_reducible first | apply thenW_n | apply W_seq
    | with_reducible refine W_region (by first | decide | (with_unfolding_all rfl)) ?_
    | (rw [vcn]; (try simp [-map_take,-map_drop, push_cast]))
    | fail)
  refine CallG_of (a1) rfl rfl rfl ?_
  try dsimp only
  repeat' (first
    | (rw [vcn]; (try simp [-map_take,-map_drop, push_cast, ptAV, ptC, ratC, zC]))
    | fail)
  refine CallG_of (a2) rfl rfl rfl ?_
  try dsimp only
  repeat' (first
    | (rw [vcn]; (try simp [-map_take,-map_drop, push_cast, ptAV, ptC, ratC, zC]))
    | fail)
  refine CallG_of (a3) rfl rfl rfl ?_
  try dsimp only
  repeat' (first
    | (rw [vcn]; (try simp [-map_take,-map_drop, push_cast, ptAV, ptC, ratC, zC]))
    | fail)
  refine CallG_later (later_frz1 13 rfl (by simp [-map_take,-map_drop, refsL, AV.refs, ↓numC_refs])) ?_
  refine CallG_later (later_res 14 rfl [.slc false 8 3 (ptsC [p1, p2, p3])] (by simp [-map_take,-map_drop, resDL, resD, resB, upd, rowC, ptsC, ptC, ratC, zC])) ?_
  try dsimp only
  refine CallG_frz _ _ rfl ?_ (r1) ?_ (by simp [-map_take,-map_drop, AV.refs, refsL, push_cast]) rfl ?_
  · first | (simp [-map_take,-map_drop, refsL, AV.refs, frzS, resDL, resD, resB, upd, mkS_env, mkS_box, entry_env, entry_box, lk, push_cast, rowC]; done) | (simp [-map_take,-map_drop, refsL, AV.refs, frzS, resDL, resD, resB, upd, mkS_env, mkS_box, entry_env, entry_box, lk, push_cast, rowC]; rw [List.take_of_length_le (by simp [-map_take,-map_drop])]; done) | (simp [-map_take,-map_drop, refsL, AV.refs, frzS, resDL, resD, resB, upd, mkS_env, mkS_box, entry_env, entry_box, lk, push_cast, rowC]; fail_if_success done)
  · simp [-map_take,-map_drop, refsL, AV.refs, frzOk, upd, mkS_env, mkS_box, entry_env, entry_box, lk, push_cast]
  try dsimp only
  try simp only [refsL, AV.refs, frzS, List.append_nil, upd, mkS_box, entry_box, lk, if_true, if_false]
  repeat' (first
    | with_reducible first | apply thenW_n | apply W_seq
    | with_reducible refine W_region (by first | decide | (with_unfolding_all rfl)) ?_
    | (rw [vcn]; (try simp [-map_take,-map_drop, push_cast, eqPt]))
    | fail)
  refine CallG_of (a4) rfl rfl rfl ?_
  try dsimp only
  repeat' (first
    | (rw [vcn]; (try simp [-map_take,-map_drop, push_cast, ptAV, ptC, ratC, zC]))
    | fail)
  refine CallG_of (a5) rfl rfl rfl ?_
  try dsimp only
  repeat' (first
    | (rw [vcn]; (try simp [-map_take,-map_drop, push_cast, ptAV, ptC, ratC, zC]))
    | fail)
  refine CallG_frz _ _ rfl ?_ (r2) ?_ (by simp [-map_take,-map_drop, AV.refs, refsL, push_cast]) rfl ?_
  · first | (simp [-map_take,-map_drop, refsL, AV.refs, frzS, resDL, resD, resB, upd, mkS_env, mkS_box, entry_env, entry_box, lk, push_cast, sgsC, sgC, ptC, ratC, zC]; done) | (simp [-map_take,-map_drop, refsL, AV.refs, frzS, resDL, resD, resB, upd, mkS_env, mkS_box, entry_env, entry_box, lk, push_cast, sgsC, sgC, ptC, ratC, zC]; rw [List.take_of_length_le (by simp [-map_take,-map_drop])]; done) | (simp [-map_take,-map_drop, refsL, AV.refs, frzS, resDL, resD, resB, upd, mkS_env, mkS_box, entry_env, entry_box, lk, push_cast, sgsC, sgC, ptC, ratC, zC]; fail_if_success done)
  · simp [-map_take,-map_drop, refsL, AV.refs, frzOk, upd, mkS_env, mkS_box, entry_env, entry_box, lk, push_cast]
  try dsimp only
  try simp only [refsL, AV.refs, frzS, List.append_nil, upd, mkS_box, entry_box, lk, if_true, if_false]
  repeat' (first
    | with_reducible first | apply thenW_n | apply W_seq | apply W_ret
    | with_reducible refine W_region (by first | decide | (with_unfolding_all rfl)) ?_
    | (rw [vcn]; (try simp [-map_take,-map_drop, push_cast, eqPt]))
    | fail)
  simp [-map_take,-map_drop, post, resAV, resAll, resOne, closeV, closeC, closeL, resD, resDL, push_cast]
end Go.Fw
