/- gds, the law's own: known, the chapter's examples. -/
import Derived.Test.YtjgbikhnnkigpaaGp21b
set_option linter.unusedSimpArgs false
set_option linter.unusedVariables false
-- VALS: recAV
namespace Go.Fw
open Go Go.Proofs Go.IntWalk
set_option linter.unusedSimpArgs false
set_option maxRecDepth 100000
set_option maxHeartbeats 4000000
open List (map_take map_drop)
attribute [local push_cast] optK_some optK_none optK_ite optK_map optK_bind gOn stepK isMem evPure evMem evBin evUn evConv evLen evBuiltin evMinMax evSlice evBuild evAppend evIndex evIndexAddr evField evFieldAddr intBin strBin appDest AS.val AS.mem AS.elems AS.put AS.put' AS.eff AV.cells? AV.isCell AV.refs all_isByte take_byteV drop_byteV strOf_map bndOk bnd partAV ptrAdd killBox catA inOrder fillA setAt ofVal resB upd byteV List.head?_take List.head?_drop List.getElem?_map mkS_env mkS_box mkS_used entry_env entry_box entry_used lk stepD lookIds Oper.looksAt Op.operands Call.operands St.ids refsL renL_append dV_take dV_drop ren renL renBox Box.refs iV i64V boolV dV_getElem dV_app dV_cons toNat_add2 toNat_add1
def bare3 : Lib := (bareL.1.take 3, [])
def bareB : List UInt8 := joinB (flatS bareL)
theorem bare_valid : validS bareL = true := by kernel_rfl
theorem bare3_valid : validS bare3 = false := by kernel_rfl
theorem bare_join : joinOk (flatS bareL) = true := by kernel_rfl
theorem bareB_len : bareB.length = 64 := by kernel_rfl
theorem bare_write : writeAV bareL = .tup [.slc false 1 64 (bareB.map byteV), i64V 0] := by
 rw [writeAV, if_pos bare_valid, if_neg (fun h => absurd h.2 (by rw [← bareB, bareB_len]; decide)), joinAV, if_pos bare_join, ← bareB, bareB_len]
theorem bare3_write : writeAV bare3 = .tup [nilV, i64V 3] := by
 rw [writeAV, bare3_valid]
 rfl
theorem bare_split : splitSpec bareB = .ok (flatS bareL, 64) := by kernel_rfl
theorem bare_parse : parseS (flatS bareL) = some bareL := by kernel_rfl
theorem bare_read : readAV bareB = .tup [libAV bareL, i64V 64, i64V 0] := by
 rw [readAV, readS, bare_split]
 simp only
 rw [bare_parse]
 rfl
theorem known_ok : Eval Try.prog 37 [] (.ret (.v (.bool true))) := by
 have e0 := bare_ok
 have e1 := write_ok bareL (by decide) (fun _ => by decide) (by decide)
 have e2 := read_ok false bareB (by rw [bareB_len]; decide)
 have e3 := write_ok bare3 (by decide) (fun _ => by decide) (by decide)
 have e4 := valid_ok bareL (by decide) (by decide)
 rw [bare_write] at e1
 rw [bare_read, bareB_len] at e2
 rw [bare3_write] at e3
 rw [bare_valid] at e4
 obtain ⟨H0, hH0⟩ : ∃ A, A = recsCells bareL.1 := ⟨_, rfl⟩
 obtain ⟨H3, hH3⟩ : ∃ A, A = recsCells bare3.1 := ⟨_, rfl⟩
 have hH : H0.take 9 = H3 := by rw [hH0, hH3]; rfl
 have hHl : H0.length = 12 := by rw [hH0]; rfl
 have hHr : refsL H0 = [] := by rw [hH0]; exact recsCells_refs _
 have hHr3 : refsL H3 = [] := by rw [hH3]; exact recsCells_refs _
 have hL : libAV bareL = .agg [.slc false 3 4 H0, .slc false 2 0 []] := by rw [hH0]; rfl
 have hL3 : libAV bare3 = .agg [.slc false 3 3 H3, .slc false 2 0 []] := by rw [hH3]; rfl
 obtain ⟨B, hB⟩ : ∃ A, A = bareB.map byteV := ⟨_, rfl⟩
 have hBr : refsL B = [] := by rw [hB]; exact refsL_bytes _
 rw [hL] at e0 e1 e2 e4
 rw [hL3] at e3
 rw [← hB] at e1 e2
 clear hL hL3 hH0 hH3 hB
 refine Eval.intro Try.func37 rfl Try.call37 _ _ (Nat.le_of_ble_eq_true rfl) (by simp [natAV, recAV, push_cast]) fun hs0 => ?_
 clear hs0
 repeat' (first
  | with_reducible first | apply thenW_n | apply W_seq
  | with_reducible refine W_rg ?_
  | (rw [vcn]; (try simp [push_cast]))
  | fail)
 refine CallG_of (e0) rfl rfl rfl ?_
 try dsimp only
 repeat' (first
  | with_reducible first | apply thenW_n | apply W_seq
  | with_reducible refine W_rg ?_
  | (rw [vcn]; (try simp [push_cast]))
  | fail)
 refine CallG_of (e1) rfl rfl rfl ?_
 try dsimp only
 repeat' (first
  | with_reducible first | apply thenW_n | apply W_seq
  | with_reducible refine W_rg ?_
  | (rw [vcn]; (try simp [push_cast]))
  | fail)
 refine CallG_of (e2) rfl rfl rfl ?_
 try dsimp only
 repeat' (first
  | with_reducible first | apply thenW_n | apply W_seq
  | with_reducible refine W_rg ?_
  | (rw [vcn]; (try simp [push_cast, hH, hHl]))
  | fail)
 refine CallG_of (e3) rfl rfl rfl ?_
 try dsimp only
 repeat' (first
  | with_reducible first | apply thenW_n | apply W_seq
  | with_reducible refine W_rg ?_
  | (rw [vcn]; (try simp [push_cast, nilV]))
  | fail)
 refine CallG_of (e4) rfl rfl rfl ?_
 try dsimp only
 repeat' (first
  | with_reducible first | apply thenW_n | apply W_ret
  | (rw [vcn]; (try simp [push_cast]))
  | fail)
 simp [post, resAV, resAll, resOne, closeV, closeC, closeL, resD, resDL, push_cast]
end Go.Fw
