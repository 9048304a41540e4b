/- snap.grid; a point by small numbers (L11.At). -/
import Derived.Test.YtmmkclefdpmjlaaR8b
import Derived.Test.YtmmkclefdpmjlaaNd
set_option linter.unusedSimpArgs false
set_option linter.unusedVariables false
-- VALS: zAV, zC, ratAV, ratC, ptAV, ptC
namespace Go.Fw
open Go Go.Proofs Go.IntWalk
set_option linter.unusedSimpArgs false
set_option maxRecDepth 100000
set_option maxHeartbeats 4000000
def inC (k : Int) : Prop := -2147483648 ≤ k ∧ k ≤ 2147483647
instance (k : Int) : Decidable (inC k) := by unfold inC; infer_instance
def gridZ (x y : Int) : Option (Int × Int) := if inC x ∧ inC y then some (x, y) else none
def ptI (p : Int × Int) : List AV := [i64V p.1, i64V p.2]
def gridAV (o : Option (Int × Int)) : AV := match o with
  | some p => .tup [.agg (ptI p), i64V 0]
  | none => .tup [.agg (ptI (0, 0)), i64V 26]
open List (map_take map_drop)
attribute [local push_cast] optK_some optK_none optK_ite optK_map optK_bind gOn stepK isMem evPure evMem evBin evUn evConv evLen evBuiltin evMinMax evSlice evBuild evAppend evIndex evIndexAddr evField evFieldAddr intBin strBin appDest AS.val AS.mem AS.elems AS.put AS.put' AS.eff AV.cells? AV.isCell AV.refs all_isByte take_byteV drop_byteV strOf_map bndOk bnd partAV ptrAdd killBox catA inOrder fillA setAt ofVal resB upd byteV List.head?_take List.head?_drop List.getElem?_map mkS_env mkS_box mkS_used entry_env entry_box entry_used lk stepD lookIds Oper.looksAt Op.operands Call.operands St.ids refsL renL_append ren renL renBox Box.refs iV i64V boolV dV_getElem dV_app dV_cons toNat_add2 toNat_add1
attribute [local simp ↓] numC_refs numC_isCell numC_cells numC_resB numC_resD numC_ren numC_closeC numC_isOwn
def underI (d : Int) : Int := 1 + (d % 18446744073709551616) % 60
theorem underI_pos (d : Int) : 1 ≤ underI d ∧ underI d ≤ 60 := by unfold underI; omega
theorem under_ok (x y d : Int) : Eval Try.prog 34 [.agg [i64V x, i64V y, i64V d]] (.ret (i64V (underI d))) := by
  refine Eval.intro Try.func34 rfl Try.call34 _ _ (Nat.le_of_ble_eq_true rfl) (by simp [-map_take,-map_drop, AV.refs, refsL, natAV, zAV, zC, ratAV, ratC, ptAV, ptC, push_cast]) fun hs0 => ?_
  have k1 : (IntKind.u64.wrap d).tmod 60 = (d % 18446744073709551616) % 60 := by rw [IntKind.wrap_u64, Int.tmod_eq_emod_of_nonneg (by omega)]
  have k2 : IntKind.i64.wrap ((d % 18446744073709551616) % 60) = (d % 18446744073709551616) % 60 := by rw [i64_in _ (by omega)]
  have k3 : IntKind.i64.wrap (1 + (d % 18446744073709551616) % 60) = 1 + (d % 18446744073709551616) % 60 := by rw [i64_in _ (by omega)]
  obtain ⟨r, hr⟩ : ∃ r, r = (d % 18446744073709551616) % 60 := ⟨_, rfl⟩
  have hu : underI d = 1 + r := by rw [hr]; rfl
  rw [hu]
  rw [← hr] at k1 k2 k3
  repeat' (first
    | with_reducible first | apply thenW_n | apply W_seq | apply W_ret
    | with_reducible refine W_rg ?_
    | (rw [vcn]; (try simp [-map_take,-map_drop, push_cast, k1, k2, k3]))
    | fail)
  simp [-map_take,-map_drop, post, resAV, resAll, resOne, closeV, closeC, closeL, resD, resDL, push_cast]
def dotF (x y d : Int) : FP := ⟨.of (Rat.divInt x (underI d)), .of (Rat.divInt y (underI d))⟩
def inI (n : Int) : Prop := -9223372036854775808 ≤ n ∧ n ≤ 9223372036854775807
theorem l11At_ok (x y d : Int) (hx : inI x) (hy : inI y) : Eval Try.prog 10 [.agg [i64V x, i64V y, i64V d]] (.ret (ptAV (dotF x y d))) := by
  refine Eval.intro Try.func10 rfl Try.call10 _ _ (Nat.le_of_ble_eq_true rfl) (by simp [-map_take,-map_drop, AV.refs, refsL, natAV, zAV, zC, ratAV, ratC, ptAV, ptC, push_cast]) fun hs0 => ?_
  have hu := underI_pos d
  have e1 := under_ok x y d
  have e2 := ofF_ok x (underI d) (by omega) hx (by omega)
  have e3 := ofF_ok y (underI d) (by omega) hy (by omega)
  unfold dotF
  obtain ⟨u, hu2⟩ : ∃ u, u = underI d := ⟨_, rfl⟩
  rw [← hu2] at e1 e2 e3 ⊢
  obtain ⟨a, ha⟩ : ∃ a, a = FQ.of (Rat.divInt x u) := ⟨_, rfl⟩
  obtain ⟨b, hb⟩ : ∃ b, b = FQ.of (Rat.divInt y u) := ⟨_, rfl⟩
  rw [← ha] at e2 ⊢
  rw [← hb] at e3 ⊢
  clear ha hb hu2 hu
  repeat' (first
    | with_reducible first | apply thenW_n | apply W_seq
    | with_reducible refine W_rg ?_
    | (rw [vcn]; (try simp [-map_take,-map_drop, push_cast]))
    | with_reducible refine W_drawn mixed (by decide) (by kernel_rfl) ?_
    | (rw [vcnD]; (try simp [-map_take,-map_drop, push_cast]))
    | fail)
  refine callD_of (e1) rfl rfl rfl ?_
  try dsimp only
  repeat' (first
    | (rw [vcnD]; (try simp [-map_take,-map_drop, push_cast]))
    | fail)
  refine callD_of (e2) rfl rfl rfl ?_
  try dsimp only
  repeat' (first
    | with_reducible first | apply thenW_n | apply W_seq
    | with_reducible refine W_drawn mixed (by decide) (by kernel_rfl) ?_
    | (rw [vcnD]; (try simp [-map_take,-map_drop, push_cast, ratAV, ratC, zC]))
    | refine And.intro (by first | omega | kernel_rfl) ?_
    | fail)
  refine callD_of (e1) rfl rfl rfl ?_
  try dsimp only
  repeat' (first
    | (rw [vcnD]; (try simp [-map_take,-map_drop, push_cast]))
    | fail)
  refine callD_of (e3) rfl rfl rfl ?_
  try dsimp only
  repeat' (first
    | with_reducible first | apply thenW_n | apply W_seq | apply W_ret
    | with_reducible refine W_rg ?_
    | (rw [vcn]; (try simp [-map_take,-map_drop, push_cast, ratAV, ratC, zC, ptAV, ptC]))
    | (rw [vcnD]; (try simp [-map_take,-map_drop, push_cast, ratAV, ratC, zC, ptAV, ptC]))
    | refine And.intro (by first | omega | kernel_rfl) ?_
    | fail)
  simp [-map_take,-map_drop, post, resAV, resAll, resOne, closeV, closeC, closeL, resD, resDL, push_cast, ptAV, ptC, ratAV, ratC, zAV, zC]
end Go.Fw
