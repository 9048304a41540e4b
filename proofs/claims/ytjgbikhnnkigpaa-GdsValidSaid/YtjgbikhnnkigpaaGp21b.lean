import Derived.Test.YtjgbikhnnkigpaaGp12b
set_option linter.unusedSimpArgs false
set_option linter.unusedVariables false
-- VALS: recAV
namespace Go.Fw
open Go Go.Proofs Go.IntWalk
set_option linter.unusedSimpArgs false
set_option maxRecDepth 100000
set_option maxHeartbeats 4000000
open List (map_take map_drop)
attribute [local push_cast] optK_some optK_none optK_ite optK_map optK_bind gOn stepK isMem evPure evMem evBin evUn evConv evLen evBuiltin evMinMax evSlice evBuild evAppend evIndex evIndexAddr evField evFieldAddr intBin strBin appDest AS.val AS.mem AS.elems AS.put AS.put' AS.eff AV.cells? AV.isCell AV.refs all_isByte take_byteV drop_byteV strOf_map bndOk bnd partAV ptrAdd killBox catA inOrder fillA setAt ofVal resB upd byteV List.head?_take List.head?_drop List.getElem?_map mkS_env mkS_box mkS_used entry_env entry_box entry_used lk stepD lookIds Oper.looksAt Op.operands Call.operands St.ids refsL renL_append dV_take dV_drop ren renL renBox Box.refs iV i64V boolV dV_getElem dV_app dV_cons toNat_add2 toNat_add1
theorem lawRec_ok (k d : UInt8) (n : Nat) (hn : n ≤ 1000) : Eval Try.prog 73 [byteV k, byteV d, i64V (n : Int)] (.ret (recAV k d (List.replicate n 0))) := by
 refine Eval.intro Try.func73 rfl Try.call73 _ _ (Nat.le_of_ble_eq_true rfl) (by simp [natAV, recAV, push_cast]) fun hs0 => ?_
 refine W_seq ?_
 refine W_joinQ (X := Unit) (fun _ => [(0, byteV k), (1, byteV d), (2, i64V (n : Int)), (6, .bp 6 0)]) (fun _ => [(6, .mut 24 [byteV 0, byteV 0, .v (.slice none 0 0)])]) (fun _ => True) ?_ fun _ _ => ?_
 ·
  repeat' (first
   | with_reducible refine W_rg ?_
   | (rw [vcn]; (try simp [push_cast]))
   | fail)
  refine joinW_n () id trivial ⟨?_, ?_, ?_, ?_, ?_, ?_⟩
  all_goals first | (simp [push_cast]; done)
 obtain ⟨Z, hZ⟩ : ∃ Z, Z = List.replicate n (AV.v (.int .u8 0)) := ⟨_, rfl⟩
 have hZ2 : Z = (List.replicate n (0 : UInt8)).map byteV := by rw [hZ, List.map_replicate]; rfl
 have hZr : refsL Z = [] := by rw [hZ2]; exact refsL_bytes _
 have hZn : ∀ ρ, renL ρ Z = Z := fun ρ => renL_id ρ _ hZr
 have hZl : Z.length = n := by rw [hZ]; simp
 refine W_seq ?_
 refine W_joinQ (X := Unit) (fun _ => [(6, .bp 6 0)]) (fun _ => [(6, .mut 24 [byteV k, byteV d, .bs 500 1 0 n]), (500, .mut 5 Z)]) (fun _ => True) ?_ fun _ _ => ?_
 ·
  repeat' (first
   | with_reducible refine W_rg ?_
   | (rw [vcn]; (try simp [push_cast]))
   | refine And.intro (by first | omega | kernel_rfl) ?_
   | fail)
  refine joinW_n () (fun i => if i = 500 then 10 else i) trivial ⟨?_, ?_, ?_, ?_, ?_, ?_⟩
  all_goals first | (simp [push_cast, hZr, hZn, ← hZ]; done) | (simp [push_cast, hZr, hZn, ← hZ]; omega)
 refine W_frz 500 (e := 5) (l := Z) (by simp [mkS_box, lk]) hZr ?_
 refine W_later (later_res 6 (e := 24) (l := [byteV k, byteV d, .bs 500 1 0 n]) (by simp [mkS_box, lk, upd]) [byteV k, byteV d, .slc false 1 n Z] ?_) ?_
 ·
  simp [resDL, resD, resB, upd, byteV, mkS_box, lk]
  rw [if_pos (by omega), List.take_of_length_le (by omega)]
 rw [hZ2]
 repeat' (first
  | with_reducible apply W_ret
  | fail)
 simp [post, resAV, resAll, resOne, closeV, closeC, closeL, resD, resDL, push_cast, recAV, List.length_replicate, List.map_replicate]
end Go.Fw
-- VALS: recAV
namespace Go.Fw
open Go Go.Proofs Go.IntWalk
set_option linter.unusedSimpArgs false
set_option maxRecDepth 100000
set_option maxHeartbeats 4000000
open List (map_take map_drop)
attribute [local push_cast] optK_some optK_none optK_ite optK_map optK_bind gOn stepK isMem evPure evMem evBin evUn evConv evLen evBuiltin evMinMax evSlice evBuild evAppend evIndex evIndexAddr evField evFieldAddr intBin strBin appDest AS.val AS.mem AS.elems AS.put AS.put' AS.eff AV.cells? AV.isCell AV.refs all_isByte take_byteV drop_byteV strOf_map bndOk bnd partAV ptrAdd killBox catA inOrder fillA setAt ofVal resB upd byteV List.head?_take List.head?_drop List.getElem?_map mkS_env mkS_box mkS_used entry_env entry_box entry_used lk stepD lookIds Oper.looksAt Op.operands Call.operands St.ids refsL renL_append dV_take dV_drop ren renL renBox Box.refs iV i64V boolV dV_getElem dV_app dV_cons toNat_add2 toNat_add1
def zR (n : Nat) : List UInt8 := List.replicate n 0
def bareL : Lib := ([(0, 2, zR 2), (1, 2, zR 24), (2, 6, [108, 98]), (3, 5, zR 16)], [])
theorem bare_ok : Eval Try.prog 61 [] (.ret (libAV bareL)) := by
 refine Eval.intro Try.func61 rfl Try.call61 _ _ (Nat.le_of_ble_eq_true rfl) (by simp [natAV, recAV, push_cast]) fun hs0 => ?_
 have c0 := lawRec_ok 0 2 2 (by decide)
 have c1 := lawRec_ok 1 2 24 (by decide)
 have c3 := lawRec_ok 3 5 16 (by decide)
 obtain ⟨Z0, hZ0⟩ : ∃ Z, Z = (List.replicate 2 (0 : UInt8)).map byteV := ⟨_, rfl⟩
 obtain ⟨Z1, hZ1⟩ : ∃ Z, Z = (List.replicate 24 (0 : UInt8)).map byteV := ⟨_, rfl⟩
 obtain ⟨Z3, hZ3⟩ : ∃ Z, Z = (List.replicate 16 (0 : UInt8)).map byteV := ⟨_, rfl⟩
 have r0 : recAV 0 2 (List.replicate 2 0) = .agg [byteV 0, byteV 2, .slc false 1 2 Z0] := by rw [hZ0]; rfl
 have r1 : recAV 1 2 (List.replicate 24 0) = .agg [byteV 1, byteV 2, .slc false 1 24 Z1] := by rw [hZ1]; rfl
 have r3 : recAV 3 5 (List.replicate 16 0) = .agg [byteV 3, byteV 5, .slc false 1 16 Z3] := by rw [hZ3]; rfl
 have hb : libAV bareL = .agg [.slc false 3 4 [byteV 0, byteV 2, .slc false 1 2 Z0, byteV 1, byteV 2, .slc false 1 24 Z1, byteV 2, byteV 6, .slc false 1 2 [byteV 108, byteV 98], byteV 3, byteV 5, .slc false 1 16 Z3], .slc false 2 0 []] := by
  rw [hZ0, hZ1, hZ3]
  rfl
 rw [r0] at c0
 rw [r1] at c1
 rw [r3] at c3
 have z0 : refsL Z0 = [] := by rw [hZ0]; exact refsL_bytes _
 have z1 : refsL Z1 = [] := by rw [hZ1]; exact refsL_bytes _
 have z3 : refsL Z3 = [] := by rw [hZ3]; exact refsL_bytes _
 clear r0 r1 r3 hZ0 hZ1 hZ3
 refine W_seq ?_
 refine W_joinQ (X := Unit) (fun _ => [(0, .bp 0 0)]) (fun _ => [(0, .mut 58 [.v (.slice none 0 0), .v (.slice none 0 0)])]) (fun _ => True) ?_ fun _ _ => ?_
 ·
  repeat' (first
   | with_reducible refine W_rg ?_
   | (rw [vcn]; (try simp [push_cast]))
   | fail)
  refine joinW_n () id trivial ⟨?_, ?_, ?_, ?_, ?_, ?_⟩
  all_goals first | (simp [push_cast]; done)
 refine W_seq ?_
 refine W_joinQ (X := Unit) (fun _ => [(0, .bp 0 0), (1, .bp 1 0)]) (fun _ => [(0, .mut 58 [.v (.slice none 0 0), .v (.slice none 0 0)]), (1, .mut 24 [byteV 2, byteV 6, .bs 500 1 0 2]), (500, .mut 5 [byteV 108, byteV 98])]) (fun _ => True) ?_ fun _ _ => ?_
 ·
  repeat' (first
   | with_reducible refine W_rg ?_
   | (rw [vcn]; (try simp [push_cast, nilV]))
   | fail)
  refine joinW_n () (fun i => if i = 500 then 2 else i) trivial ⟨?_, ?_, ?_, ?_, ?_, ?_⟩
  all_goals first | (simp [push_cast]; done) | (simp [push_cast]; omega)
 refine W_frz 500 (e := 5) (l := [byteV 108, byteV 98]) (by simp [mkS_box, lk]) (by simp [refsL, AV.refs, byteV]) ?_
 refine W_later (later_res 1 (e := 24) (l := [byteV 2, byteV 6, .bs 500 1 0 2]) (by simp [mkS_box, lk, upd]) [byteV 2, byteV 6, .slc false 1 2 [byteV 108, byteV 98]] ?_) ?_
 · simp [resDL, resD, resB, upd, byteV, mkS_box, lk]
 refine W_seq ?_
 refine W_joinQ (X := Unit) (fun _ => [(0, .bp 0 0)]) (fun _ => [(0, .mut 58 [.bs 501 3 0 4, .v (.slice none 0 0)]), (501, .mut 24 [byteV 0, byteV 2, .slc false 1 2 Z0, byteV 1, byteV 2, .slc false 1 24 Z1, byteV 2, byteV 6, .slc false 1 2 [byteV 108, byteV 98], byteV 3, byteV 5, .slc false 1 16 Z3])]) (fun _ => True) ?_ fun _ _ => ?_
 ·
  repeat' (first
   | with_reducible refine W_drawn mixed (by decide) (by kernel_rfl) ?_
   | (rw [vcnD]; (try simp [push_cast]))
   | fail)
  refine callD_of (c0) rfl rfl rfl ?_
  try dsimp only
  repeat' (first
   | (rw [vcnD]; (try simp [push_cast]))
   | fail)
  refine callD_of (c1) rfl rfl rfl ?_
  try dsimp only
  repeat' (first
   | (rw [vcnD]; (try simp [push_cast]))
   | fail)
  refine callD_of (c3) rfl rfl rfl ?_
  try dsimp only
  repeat' (first
   | (rw [vcnD]; (try simp [push_cast]))
   | refine And.intro (by first | omega | kernel_rfl) ?_
   | fail)
  have z0n : ∀ ρ, renL ρ Z0 = Z0 := fun ρ => renL_id ρ _ z0
  have z1n : ∀ ρ, renL ρ Z1 = Z1 := fun ρ => renL_id ρ _ z1
  have z3n : ∀ ρ, renL ρ Z3 = Z3 := fun ρ => renL_id ρ _ z3
  refine joinW_n () (fun i => if i = 501 then 9 else i) trivial ⟨?_, ?_, ?_, ?_, ?_, ?_⟩
  all_goals first | (simp [push_cast, z0, z1, z3, z0n, z1n, z3n]; done) | (simp [push_cast, z0, z1, z3, z0n, z1n, z3n]; omega)
 obtain ⟨R, hR⟩ : ∃ R, R = [byteV 0, byteV 2, .slc false 1 2 Z0, byteV 1, byteV 2, .slc false 1 24 Z1, byteV 2, byteV 6, .slc false 1 2 [byteV 108, byteV 98], byteV 3, byteV 5, .slc false 1 16 Z3] := ⟨_, rfl⟩
 have hRr : refsL R = [] := by rw [hR]; simp [refsL, AV.refs, byteV]
 have hRl : R.length = 12 := by rw [hR]; rfl
 rw [hb]
 simp only [← hR]
 refine W_frz 501 (e := 24) (l := R) (by simp [mkS_box, lk]) hRr ?_
 refine W_later (later_res 0 (e := 58) (l := [.bs 501 3 0 4, .v (.slice none 0 0)]) (by simp [mkS_box, lk, upd]) [.slc false 3 4 R, .v (.slice none 0 0)] ?_) ?_
 ·
  simp [resDL, resD, resB, upd, byteV, mkS_box, lk, hRl]
  rw [List.take_of_length_le (by omega)]
 refine W_subBox 0 (e := 58) (l' := [.slc false 3 4 R, .slc false 2 0 []]) (by simp [mkS_box, lk, upd]) (SubL.cons (Sub.refl _) (SubL.cons (Sub.nil false 2) SubL.nil)) ?_
 repeat' (first
  | with_reducible apply W_ret
  | fail)
 simp [post, resAV, resAll, resOne, closeV, closeC, closeL, resD, resDL, push_cast, hRr]
end Go.Fw
