/- law19: turn, grid, seg, known. -/
import Derived.Test.YtehmofcajiefiaaGreatU7
import Derived.Test.YtehmofcajiefiaaGreatV1b
import Derived.Test.YtehmofcajiefiaaGreatDt
set_option linter.unusedSimpArgs false
set_option linter.unusedVariables false
-- VALS: zAV, zC, ratAV, ratC, ptAV, ptC, sgAV, sgC, d3AV, d3C, dAV, dC, dotAV
namespace Go.Fw
open Go Go.Proofs Go.IntWalk
set_option linter.unusedSimpArgs false
set_option maxRecDepth 100000
set_option maxHeartbeats 20000000
theorem FSg.tn_v (s : FSg) : s.tn.v = s.v.turn := rfl
theorem HP.dot {x y d : Int} (hx : inI x) (hy : inI y) : HP (dotF x y d) := by
  have hu := underI_pos d
  unfold inI at hx hy
  exact ⟨(HB.divInt (n := 64) (d := 6) (by omega) (by omega) (by omega)).mono (by omega) (by omega), (HB.divInt (n := 64) (d := 6) (by omega) (by omega) (by omega)).mono (by omega) (by omega)⟩
theorem HS.dots {a b : Int × Int × Int} (ha : inD a) (hb : inD b) : HS (dotsF a b) := ⟨HP.dot ha.1 ha.2, HP.dot hb.1 hb.2⟩
theorem HP.grid {x y : Int} (hx : inI x) (hy : inI y) : HP (gridF x y) := by
  unfold inI at hx hy
  exact ⟨(HB.int (n := 64) (by omega)).mono (by omega) (by omega), (HB.int (n := 64) (by omega)).mono (by omega) (by omega)⟩
theorem HS.tn {s : FSg} (h : HS s) : HS s.tn := ⟨h.2, h.1⟩
theorem HS.grids {a b c d : Int} (ha : inI a) (hb : inI b) (hc : inI c) (hd : inI d) : HS (gridsF a b c d) := ⟨HP.grid ha hb, HP.grid hc hd⟩
theorem known19_1 : fitsB 1 (gridsF 0 0 9 0) (gridsF 9 3 0 3) 4 = true := by decide +kernel
theorem known19_2 : fitsB 1 (gridsF 0 0 9 0) (gridsF 9 3 0 3) 3 = false := by decide +kernel
theorem known19_3 : fitsB 2 (gridsF 0 0 9 0) (gridsF 9 3 0 3) 4 = false := by decide +kernel
theorem known19_4 : fitsB 2 (gridsF 0 0 9 0).tn (gridsF 9 3 0 3).tn 4 = true := by decide +kernel
theorem known19_5 : fitsB 2 (gridsF 0 (-9) 0 0) (gridsF 3 9 3 4) 6 = true := by decide +kernel
theorem known19_6 : fitsB 2 (gridsF 0 (-9) 0 0) (gridsF 3 9 3 4) 5 = false := by decide +kernel
open List (map_take map_drop)
attribute [local push_cast] optK_some optK_none optK_ite optK_map optK_bind gOn stepK isMem evPure evMem evBin evUn evConv evLen evBuiltin evMinMax evSlice evBuild evAppend evIndex evIndexAddr evField evFieldAddr intBin strBin appDest AS.val AS.mem AS.elems AS.put AS.put' AS.eff AV.cells? AV.isCell AV.refs all_isByte take_byteV drop_byteV strOf_map bndOk bnd partAV ptrAdd killBox catA inOrder fillA setAt ofVal resB upd byteV List.head?_take List.head?_drop List.getElem?_map mkS_env mkS_box mkS_used entry_env entry_box entry_used lk stepD lookIds Oper.looksAt Op.operands Call.operands St.ids refsL renL_append ren renL renBox Box.refs iV i64V boolV dV_getElem dV_app dV_cons toNat_add2 toNat_add1
attribute [local simp ↓] numC_refs numC_isCell numC_cells numC_resB numC_resD numC_ren numC_closeC numC_isOwn
theorem turn19_ok (s : FSg) : Eval Tryz.prog 58 [sgAV s] (.ret (sgAV s.tn)) := by
  obtain ⟨A, B⟩ := s
  have e : FSg.tn ⟨A, B⟩ = ⟨B, A⟩ := rfl
  rw [e]
  refine Eval.intro Tryz.func58 rfl Tryz.call58 _ _ (Nat.le_of_ble_eq_true rfl) (by simp [-map_take,-map_drop, AV.refs, refsL, natAV, zAV, zC, ratAV, ratC, ptAV, ptC, sgAV, sgC, d3AV, d3C, dAV, dC, dotAV, push_cast]) fun hs0 => ?_
  repeat' (first
    | with_reducible first | apply thenW_n | apply W_seq | apply W_ret
    | with_reducible refine W_rg ?_
    | (rw [vcn]; (try simp [-map_take,-map_drop, push_cast, sgAV, sgC, ptAV, ptC, ratAV, ratC, zAV, zC]))
    | fail)
  simp [-map_take,-map_drop, post, resAV, resAll, resOne, closeV, closeC, closeL, resD, resDL, push_cast, sgAV, sgC, ptAV, ptC, ratAV, ratC, zAV, zC]
theorem grid19_ok (a b c d : Int) (ha : inI a) (hb : inI b) (hc : inI c) (hd : inI d) : Eval Tryz.prog 57 [i64V a, i64V b, i64V c, i64V d] (.ret (sgAV (gridsF a b c d))) := by
  refine Eval.intro Tryz.func57 rfl Tryz.call57 _ _ (Nat.le_of_ble_eq_true rfl) (by simp [-map_take,-map_drop, AV.refs, refsL, natAV, zAV, zC, ratAV, ratC, ptAV, ptC, sgAV, sgC, d3AV, d3C, dAV, dC, dotAV, push_cast]) fun hs0 => ?_
  have e1 := grid_ok a b ha hb
  have e2 := grid_ok c d hc hd
  unfold gridsF gridF
  obtain ⟨p, hp⟩ : ∃ p : FP, p = ⟨.of a, .of b⟩ := ⟨_, rfl⟩
  obtain ⟨q, hq⟩ : ∃ p : FP, p = ⟨.of c, .of d⟩ := ⟨_, rfl⟩
  rw [← hp] at e1 ⊢
  rw [← hq] at e2 ⊢
  clear hp hq
  repeat' (first
    | with_reducible first | apply thenW_n | apply W_seq
    | with_reducible refine W_rg ?_
    | (rw [vcn]; (try simp [-map_take,-map_drop, push_cast]))
    | fail)
  refine CallG_of (e1) rfl rfl rfl ?_
  try dsimp only
  repeat' (first
    | (rw [vcn]; (try simp [-map_take,-map_drop, push_cast, ptAV, ptC, ratAV, ratC, zAV, zC]))
    | fail)
  refine CallG_of (e2) rfl rfl rfl ?_
  try dsimp only
  repeat' (first
    | with_reducible first | apply thenW_n | apply W_ret
    | (rw [vcn]; (try simp [-map_take,-map_drop, push_cast, sgAV, sgC, ptAV, ptC, ratAV, ratC, zAV, zC]))
    | fail)
  simp [-map_take,-map_drop, post, resAV, resAll, resOne, closeV, closeC, closeL, resD, resDL, push_cast, sgAV, sgC, ptAV, ptC, ratAV, ratC, zAV, zC]
def d3sAV (a b : Int × Int × Int) : AV := .agg (d3C a.1 a.2.1 (underI a.2.2) ++ d3C b.1 b.2.1 (underI b.2.2))
theorem seg19_ok (a b : Int × Int × Int) (ha : inD a) (hb : inD b) : Eval Tryz.prog 22 [dotAV a, dotAV b] (.ret (.tup [sgAV (dotsF a b), d3sAV a b])) := by
  refine Eval.intro Tryz.func22 rfl Tryz.call22 _ _ (Nat.le_of_ble_eq_true rfl) (by simp [-map_take,-map_drop, AV.refs, refsL, natAV, zAV, zC, ratAV, ratC, ptAV, ptC, sgAV, sgC, d3AV, d3C, dAV, dC, dotAV, push_cast]) fun hs0 => ?_
  have e1 := l11At_ok a.1 a.2.1 a.2.2 ha.1 ha.2
  have e2 := l11At_ok b.1 b.2.1 b.2.2 hb.1 hb.2
  have e3 := at11_ok a.1 a.2.1 a.2.2 ha.1 ha.2
  have e4 := at11_ok b.1 b.2.1 b.2.2 hb.1 hb.2
  unfold dotsF dotAV d3sAV
  obtain ⟨p, hp⟩ : ∃ p, p = dotF a.1 a.2.1 a.2.2 := ⟨_, rfl⟩
  obtain ⟨q, hq⟩ : ∃ p, p = dotF b.1 b.2.1 b.2.2 := ⟨_, rfl⟩
  rw [← hp] at e1 ⊢
  rw [← hq] at e2 ⊢
  obtain ⟨u, hu⟩ : ∃ u, u = underI a.2.2 := ⟨_, rfl⟩
  obtain ⟨v, hv⟩ : ∃ u, u = underI b.2.2 := ⟨_, rfl⟩
  rw [← hu] at e3 ⊢
  rw [← hv] at e4 ⊢
  clear hp hq hu hv
  repeat' (first
    | with_reducible first | apply thenW_n | apply W_seq
    | with_reducible refine W_rg ?_
    | (rw [vcn]; (try simp [-map_take,-map_drop, push_cast]))
    | with_reducible refine W_drawn mixed (by decide) (by kernel_rfl) ?_
    | (rw [vcnD]; (try simp [-map_take,-map_drop, push_cast]))
    | fail)
  refine callD_of (e1) rfl rfl rfl ?_
  try dsimp only
  repeat' (first
    | (rw [vcnD]; (try simp [-map_take,-map_drop, push_cast, ptAV, ptC, ratAV, ratC, zAV, zC]))
    | fail)
  refine callD_of (e2) rfl rfl rfl ?_
  try dsimp only
  repeat' (first
    | (rw [vcnD]; (try simp [-map_take,-map_drop, push_cast, ptAV, ptC, ratAV, ratC, zAV, zC]))
    | fail)
  refine callD_of (e3) rfl rfl rfl ?_
  try dsimp only
  repeat' (first
    | (rw [vcnD]; (try simp [-map_take,-map_drop, push_cast, ptAV, ptC, ratAV, ratC, zAV, zC, d3AV, d3C, dC]))
    | fail)
  refine callD_of (e4) rfl rfl rfl ?_
  try dsimp only
  repeat' (first
    | with_reducible first | apply thenW_n | apply W_ret
    | (rw [vcnD]; (try simp [-map_take,-map_drop, push_cast, sgAV, sgC, ptAV, ptC, ratAV, ratC, zAV, zC, d3AV, d3C, dC]))
    | refine And.intro (by first | omega | kernel_rfl) ?_
    | fail)
  simp [-map_take,-map_drop, post, resAV, resAll, resOne, closeV, closeC, closeL, resD, resDL, push_cast, sgAV, sgC, ptAV, ptC, ratAV, ratC, zAV, zC, d3AV, d3C, dC]
theorem known19_ok : Eval Tryz.prog 23 [] (.ret (.v (.bool true))) := by
  refine Eval.intro Tryz.func23 rfl Tryz.call23 _ _ (Nat.le_of_ble_eq_true rfl) (by simp [-map_take,-map_drop, AV.refs, refsL, natAV, zAV, zC, ratAV, ratC, ptAV, ptC, sgAV, sgC, d3AV, d3C, dAV, dC, dotAV, push_cast]) fun hs0 => ?_
  have g1 := grid19_ok 0 0 9 0 (by unfold inI; omega) (by unfold inI; omega) (by unfold inI; omega) (by unfold inI; omega)
  have g2 := grid19_ok 9 3 0 3 (by unfold inI; omega) (by unfold inI; omega) (by unfold inI; omega) (by unfold inI; omega)
  have g3 := grid19_ok 0 (-9) 0 0 (by unfold inI; omega) (by unfold inI; omega) (by unfold inI; omega) (by unfold inI; omega)
  have g4 := grid19_ok 3 9 3 4 (by unfold inI; omega) (by unfold inI; omega) (by unfold inI; omega) (by unfold inI; omega)
  have h1 : HS (gridsF 0 0 9 0) := HS.grids (by unfold inI; omega) (by unfold inI; omega) (by unfold inI; omega) (by unfold inI; omega)
  have h2 : HS (gridsF 9 3 0 3) := HS.grids (by unfold inI; omega) (by unfold inI; omega) (by unfold inI; omega) (by unfold inI; omega)
  have h3 : HS (gridsF 0 (-9) 0 0) := HS.grids (by unfold inI; omega) (by unfold inI; omega) (by unfold inI; omega) (by unfold inI; omega)
  have h4 : HS (gridsF 3 9 3 4) := HS.grids (by unfold inI; omega) (by unfold inI; omega) (by unfold inI; omega) (by unfold inI; omega)
  have f1 := fits_ok 1 _ _ 4 (by unfold inI; omega) h1 h2
  have f2 := fits_ok 1 _ _ 3 (by unfold inI; omega) h1 h2
  have f3 := fits_ok 2 _ _ 4 (by unfold inI; omega) h1 h2
  have f4 := fits_ok 2 _ _ 4 (by unfold inI; omega) h1.tn h2.tn
  have f5 := fits_ok 2 _ _ 6 (by unfold inI; omega) h3 h4
  have f6 := fits_ok 2 _ _ 5 (by unfold inI; omega) h3 h4
  rw [known19_1] at f1
  rw [known19_2] at f2
  rw [known19_3] at f3
  rw [known19_4] at f4
  rw [known19_5] at f5
  rw [known19_6] at f6
  have t1 := turn19_ok (gridsF 0 0 9 0)
  have t2 := turn19_ok (gridsF 9 3 0 3)
  obtain ⟨e, he⟩ : ∃ e, e = gridsF 0 0 9 0 := ⟨_, rfl⟩
  obtain ⟨f, hf⟩ : ∃ e, e = gridsF 9 3 0 3 := ⟨_, rfl⟩
  obtain ⟨g, hg⟩ : ∃ e, e = gridsF 0 (-9) 0 0 := ⟨_, rfl⟩
  obtain ⟨h, hh⟩ : ∃ e, e = gridsF 3 9 3 4 := ⟨_, rfl⟩
  rw [← he] at g1 f1 f2 f3 f4 t1
  rw [← hf] at g2 f1 f2 f3 f4 t2
  rw [← hg] at g3 f5 f6
  rw [← hh] at g4 f5 f6
  obtain ⟨e', he'⟩ : ∃ s, s = e.tn := ⟨_, rfl⟩
  obtain ⟨f', hf'⟩ : ∃ s, s = f.tn := ⟨_, rfl⟩
  rw [← he'] at t1 f4
  rw [← hf'] at t2 f4
  clear he hf hg hh h1 h2 h3 h4 he' hf'
  repeat' (first
    | with_reducible first | apply thenW_n | apply W_seq
    | with_reducible refine W_rg ?_
    | (rw [vcn]; (try simp [-map_take,-map_drop, push_cast]))
    | fail)
  refine CallG_of (g1) rfl rfl rfl ?_
  try dsimp only
  repeat' (first
    | (rw [vcn]; (try simp [-map_take,-map_drop, push_cast, sgAV, sgC, ptAV, ptC, ratAV, ratC, zAV, zC]))
    | fail)
  refine CallG_of (g2) rfl rfl rfl ?_
  try dsimp only
  repeat' (first
    | with_reducible first | apply thenW_n | apply W_seq
    | with_reducible refine W_rg ?_
    | (rw [vcn]; (try simp [-map_take,-map_drop, push_cast, sgAV, sgC, ptAV, ptC, ratAV, ratC, zAV, zC]))
    | fail)
  refine CallG_of (g3) rfl rfl rfl ?_
  try dsimp only
  repeat' (first
    | (rw [vcn]; (try simp [-map_take,-map_drop, push_cast, sgAV, sgC, ptAV, ptC, ratAV, ratC, zAV, zC]))
    | fail)
  refine CallG_of (g4) rfl rfl rfl ?_
  try dsimp only
  repeat' (first
    | with_reducible first | apply thenW_n | apply W_seq
    | (rw [vcn]; (try simp [-map_take,-map_drop, push_cast, sgAV, sgC, ptAV, ptC, ratAV, ratC, zAV, zC]))
    | with_reducible refine W_drawn mixed (by decide) (by kernel_rfl) ?_
    | (rw [vcnD]; (try simp [-map_take,-map_drop, push_cast, sgAV, sgC, ptAV, ptC, ratAV, ratC, zAV, zC]))
    | fail)
  refine callD_of (f1) rfl rfl rfl ?_
  try dsimp only
  repeat' (first
    | (rw [vcnD]; (try simp [-map_take,-map_drop, push_cast, sgAV, sgC, ptAV, ptC, ratAV, ratC, zAV, zC]))
    | fail)
  refine callD_of (f2) rfl rfl rfl ?_
  try dsimp only
  repeat' (first
    | (rw [vcnD]; (try simp [-map_take,-map_drop, push_cast, sgAV, sgC, ptAV, ptC, ratAV, ratC, zAV, zC]))
    | fail)
  refine callD_of (f3) rfl rfl rfl ?_
  try dsimp only
  repeat' (first
    | (rw [vcnD]; (try simp [-map_take,-map_drop, push_cast, sgAV, sgC, ptAV, ptC, ratAV, ratC, zAV, zC]))
    | fail)
  refine callD_of (t1) rfl rfl rfl ?_
  try dsimp only
  repeat' (first
    | (rw [vcnD]; (try simp [-map_take,-map_drop, push_cast, sgAV, sgC, ptAV, ptC, ratAV, ratC, zAV, zC]))
    | fail)
  refine callD_of (t2) rfl rfl rfl ?_
  try dsimp only
  repeat' (first
    | (rw [vcnD]; (try simp [-map_take,-map_drop, push_cast, sgAV, sgC, ptAV, ptC, ratAV, ratC, zAV, zC]))
    | fail)
  refine callD_of (f4) rfl rfl rfl ?_
  try dsimp only
  repeat' (first
    | (rw [vcnD]; (try simp [-map_take,-map_drop, push_cast, sgAV, sgC, ptAV, ptC, ratAV, ratC, zAV, zC]))
    | fail)
  refine callD_of (f5) rfl rfl rfl ?_
  try dsimp only
  repeat' (first
    | (rw [vcnD]; (try simp [-map_take,-map_drop, push_cast, sgAV, sgC, ptAV, ptC, ratAV, ratC, zAV, zC]))
    | fail)
  refine callD_of (f6) rfl rfl rfl ?_
  try dsimp only
  repeat' (first
    | with_reducible first | apply thenW_n | apply W_ret
    | (rw [vcnD]; (try simp [-map_take,-map_drop, push_cast]))
    | refine And.intro (by first | omega | kernel_rfl) ?_
    | fail)
  simp [-map_take,-map_drop, post, resAV, resAll, resOne, closeV, closeC, closeL, resD, resDL, push_cast]
end Go.Fw
