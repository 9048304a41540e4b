/- The law WindAround comes to true: the walk. -/
import Derived.Test.YtmmkclefdpmjlaaRg4b
import Derived.Test.YtmmkclefdpmjlaaRp2b
import Derived.Test.YtmmkclefdpmjlaaPtb
import Derived.Test.YtmmkclefdpmjlaaW1b
set_option linter.unusedSimpArgs false
set_option linter.unusedVariables false
-- VALS: zAV, zC, ratAV, ratC, ptAV, ptC, sgAV, sgC, d3AV, d3C, dAV, dC, rAV, rC, DP.av, dpC, dotAV
namespace Go.Fw
open Go Go.Proofs Go.IntWalk
set_option linter.unusedSimpArgs false
set_option maxRecDepth 100000
set_option maxHeartbeats 20000000
def dtF13 (a : Int × Int × Int) : FP := dotF a.1 a.2.1 a.2.2
theorem vs_same (l : List (Int × Int)) : vsF (rowG l) = vsD (rowDg l) := by
  unfold vsF vsD rowG rowDg
  rw [List.map_map, List.map_map]
  refine List.map_congr_left fun p _ => ?_
  show (⟨(p.1 : Rat), (p.2 : Rat)⟩ : V2) = ⟨Rat.divInt p.1 1, Rat.divInt p.2 1⟩
  rw [V2.mk.injEq]
  exact ⟨by rw [← Rat.mkRat_one]; rfl, by rw [← Rat.mkRat_one]; rfl⟩
theorem DB.dot13 {a : Int × Int × Int} (h : inD a) : DB (dotD a) := by
  have h1 := h.1
  have h2 := h.2
  have h3 := underI_pos a.2.2
  unfold inI at h1 h2
  refine ⟨?_, ?_, ?_, dotD_w a⟩
  · show a.1.natAbs < 2 ^ 64; omega
  · show a.2.1.natAbs < 2 ^ 64; omega
  · show (underI a.2.2).natAbs < 2 ^ 6; omega
theorem rowDg_w (l : List (Int × Int)) : ∀ p ∈ rowDg l, 0 < p.w := by
  intro p hp
  obtain ⟨q, _, rfl⟩ := List.mem_map.1 hp
  exact (by decide : (0 : Int) < 1)
theorem rowDg_DB {l : List (Int × Int)} (hI : ∀ p ∈ l, inP p) : ∀ p ∈ rowDg l, DB p := by
  intro p hp
  obtain ⟨q, hq, rfl⟩ := List.mem_map.1 hp
  have h := hI q hq
  unfold inP inI at h
  refine ⟨?_, ?_, ?_, ?_⟩
  · show q.1.natAbs < 2 ^ 64; omega
  · show q.2.natAbs < 2 ^ 64; omega
  · show (1 : Int).natAbs < 2 ^ 6; decide
  · show (0 : Int) < 1; decide
open List (map_take map_drop)
attribute [local push_cast] optK_some optK_none optK_ite optK_map optK_bind gOn stepK isMem evPure evMem evBin evUn evConv evLen evBuiltin evMinMax evSlice evBuild evAppend evIndex evIndexAddr evField evFieldAddr intBin strBin appDest AS.val AS.mem AS.elems AS.put AS.put' AS.eff AV.cells? AV.isCell AV.refs all_isByte take_byteV drop_byteV strOf_map bndOk bnd partAV ptrAdd killBox catA inOrder fillA setAt ofVal resB upd byteV List.head?_take List.head?_drop List.getElem?_map mkS_env mkS_box mkS_used entry_env entry_box entry_used lk stepD lookIds Oper.looksAt Op.operands Call.operands St.ids refsL renL_append ren renL renBox Box.refs iV i64V boolV dV_getElem dV_app dV_cons toNat_add2 toNat_add1
attribute [local simp ↓] numC_refs numC_isCell numC_cells numC_resB numC_resD numC_ren numC_closeC numC_isOwn
end Go.Fw
