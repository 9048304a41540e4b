/- gds: the law GdsBack. -/
import Derived.Test.YtjgbikhnnkigpaaGp38
import Derived.Test.YtjgbikhnnkigpaaGp36
set_option linter.unusedSimpArgs false
set_option linter.unusedVariables false
-- VALS: recAV
namespace Go.Fw
open Go Go.Proofs Go.IntWalk
set_option linter.unusedSimpArgs false
set_option maxRecDepth 100000
set_option maxHeartbeats 4000000
open List (map_take map_drop)
attribute [local push_cast] optK_some optK_none optK_ite optK_map optK_bind gOn stepK isMem evPure evMem evBin evUn evConv evLen evBuiltin evMinMax evSlice evBuild evAppend evIndex evIndexAddr evField evFieldAddr intBin strBin appDest AS.val AS.mem AS.elems AS.put AS.put' AS.eff AV.cells? AV.isCell AV.refs all_isByte take_byteV drop_byteV strOf_map bndOk bnd partAV ptrAdd killBox catA inOrder fillA setAt ofVal resB upd byteV List.head?_take List.head?_drop List.getElem?_map mkS_env mkS_box mkS_used entry_env entry_box entry_used lk stepD lookIds Oper.looksAt Op.operands Call.operands St.ids refsL renL_append dV_take dV_drop ren renL renBox Box.refs iV i64V boolV dV_getElem dV_app dV_cons toNat_add2 toNat_add1
theorem lawGdsBack_ok (f : Bool) (bs : List UInt8) : Eval Try.prog 11 [.slc f 1 bs.length (bs.map byteV)] (.ret (.v (.bool true))) := by
  refine Eval.intro Try.func11 rfl Try.call11 _ _ (Nat.le_of_ble_eq_true rfl) (by simp [-map_take,-map_drop, natAV, recAV, push_cast]) fun hs0 => ?_
  obtain ⟨A, hA⟩ : ∃ A, A = bs.map byteV := ⟨_, rfl⟩
  have hAr : refsL A = [] := by rw [hA]; exact refsL_bytes _
  have hAl : A.length = bs.length := by rw [hA]; simp [-map_take,-map_drop]
  obtain ⟨n, hn⟩ : ∃ n, n = bs.length := ⟨_, rfl⟩
  have hmax : bs.length ≤ 9223372036854775807 := hs0.1.1
  rw [← hn] at hmax hAl
  rw [← hA, ← hn]
  clear hs0
  refine W_seq ?_
  refine W_joinQ (X := Unit) (fun _ => [(0, .slc f 1 n A)]) (fun _ => []) (fun _ => True) ?_ fun _ _ => ?_
  · repeat' (first
      | with_reducible refine W_rg ?_
      | (rw [vcn]; (try simp [-map_take,-map_drop, push_cast]))
      | fail)
    refine joinW_n () id trivial ⟨?_, ?_, ?_, ?_, ?_, ?_⟩
    all_goals first | (simp [-map_take,-map_drop, push_cast, hAr]; done)
  refine W_seq ?_
  refine W_joinQ (X := Bool × List UInt8) (fun x => [(0, .slc x.1 1 x.2.length (x.2.map byteV))]) (fun _ => []) (fun x => x.2.length ≤ 400000) ?_ fun x hx => ?_
  · by_cases hbig : 400000 < n
    · have g1 : (400000 < n) = True := eq_true hbig
      have g1' : ((400000 : Int) < (n : Int)) = True := eq_true (by omega)
      have g2 : (400000 ≤ n) = True := eq_true (by omega)
      have htk : A.take 400000 = (bs.take 400000).map byteV := by rw [hA, List.map_take]
      have htl : (bs.take 400000).length = 400000 := by rw [List.length_take]; omega
      obtain ⟨ds, hds⟩ : ∃ ds, ds = bs.take 400000 := ⟨_, rfl⟩
      rw [← hds] at htk htl
      repeat' (first
        | with_reducible first | apply thenW_n | apply W_seq
        | with_reducible refine W_rg ?_
        | (rw [vcn]; (try simp [-map_take,-map_drop, push_cast, g1, g1', g2, htk]))
        | (with_reducible refine W_condW ?_; (try simp [-map_take,-map_drop, AS.val, upd, resB, mkS_env, mkS_box, lk, entry_env, condW_true, condW_false, g1, g1', g2, htk]))
        | fail)
      refine joinW_n (false, ds) id (by simp only; omega) ⟨?_, ?_, ?_, ?_, ?_, ?_⟩
      all_goals first | (simp [-map_take,-map_drop, push_cast, hAr, htl, refsL_bytes]; done)
    · have g1 : (400000 < n) = False := eq_false hbig
      have g1' : ((400000 : Int) < (n : Int)) = False := eq_false (by omega)
      repeat' (first
        | with_reducible first | apply thenW_n | apply W_seq | apply W_skip
        | with_reducible refine W_rg ?_
        | (rw [vcn]; (try simp [-map_take,-map_drop, push_cast, g1, g1']))
        | (with_reducible refine W_condW ?_; (try simp [-map_take,-map_drop, AS.val, upd, resB, mkS_env, mkS_box, lk, entry_env, condW_true, condW_false, g1, g1']))
        | fail)
      refine joinW_n (f, bs) id (by simp only; omega) ⟨?_, ?_, ?_, ?_, ?_, ?_⟩
      all_goals first | (simp [-map_take,-map_drop, push_cast, hAr, hA, hn, refsL_bytes]; done)
  obtain ⟨g, ds⟩ := x
  simp only at hx
  clear hA hAr hAl hn hmax
  have hp := read_ok g ds (by omega)
  have hk := known_ok
  rw [readAV] at hp
  obtain ⟨B, hB⟩ : ∃ A, A = ds.map byteV := ⟨_, rfl⟩
  have hBr : refsL B = [] := by rw [hB]; exact refsL_bytes _
  have hBb : B.all AV.isByte = true := by rw [hB]; exact all_isByte _
  have hBl : B.length = ds.length := by rw [hB]; simp [-map_take,-map_drop]
  have hBt : ∀ m, (ds.take m).map byteV = B.take m := fun m => by rw [hB, List.map_take]
  obtain ⟨m, hm⟩ : ∃ n, n = ds.length := ⟨_, rfl⟩
  simp only [← hB, ← hm] at hp hBl ⊢
  cases hr : readS ds with
  | none =>
    rw [hr] at hp
    simp only [nilV] at hp
    repeat' (first
      | with_reducible apply W_seq
      | with_reducible refine W_rg ?_
      | (rw [vcn]; (try simp [-map_take,-map_drop, push_cast]))
      | fail)
    refine CallG_of (hp) rfl rfl rfl ?_
    try dsimp only
    repeat' (first
      | with_reducible first | apply thenW_n | apply W_seq
      | with_reducible refine W_rg ?_
      | (rw [vcn]; (try simp [-map_take,-map_drop, push_cast]))
      | fail)
    refine CallG_of (hk) rfl rfl rfl ?_
    try dsimp only
    repeat' (first
      | with_reducible first | apply thenW_n | apply W_seq
      | with_reducible refine W_rg ?_
      | (rw [vcn]; (try simp [-map_take,-map_drop, push_cast]))
      | (with_reducible refine W_condW ?_; (try simp [-map_take,-map_drop, AS.val, upd, resB, mkS_env, mkS_box, lk, entry_env, condW_true, condW_false]))
      | fail)
    refine CallG_of (hk) rfl rfl rfl ?_
    try dsimp only
    repeat' (first
      | with_reducible first | apply thenW_n | apply thenW_ret | apply W_ret
      | (rw [vcn]; (try simp [-map_take,-map_drop, push_cast]))
      | fail)
    simp [-map_take,-map_drop, post, resAV, resAll, resOne, closeV, closeC, closeL, resD, resDL, push_cast]
  | some p =>
    obtain ⟨t, z⟩ := p
    obtain ⟨h1, h2, h3, h4, h5, h6⟩ := read_back hr
    rw [hr] at hp
    simp only at hp
    have hw := write_ok t (by omega) (fun _ => by rw [h4, List.length_take]; omega) (fun r hr => by have := h3 r hr; omega)
    have hv := valid_ok t (by omega) (fun r hr => by have := h3 r hr; omega)
    rw [h6, hBt] at hw
    rw [h5] at hv
    obtain ⟨T, hT⟩ : ∃ T, T = B.take z := ⟨_, rfl⟩
    have hTr : refsL T = [] := by rw [hT, ← hBt]; exact refsL_bytes _
    have hTb : T.all AV.isByte = true := by rw [hT, ← hBt]; exact all_isByte _
    have hTl : T.length = z := by rw [hT, List.length_take]; omega
    obtain ⟨H, cs⟩ := t
    obtain ⟨A2, hA2⟩ : ∃ A, A = recsCells H := ⟨_, rfl⟩
    obtain ⟨B2, hB2⟩ : ∃ A, A = cellsCells cs := ⟨_, rfl⟩
    have hA2r : refsL A2 = [] := by rw [hA2]; exact recsCells_refs _
    have hB2r : refsL B2 = [] := by rw [hB2]; exact cellsCells_refs _
    simp only [libAV, rowsAV, cellsAV, ← hA2, ← hB2] at hp hw hv
    rw [← hT] at hw
    rw [← hm] at h1
    have g1 : ((z : Int) ≤ (m : Int)) = True := eq_true (by omega)
    have g2 : (z ≤ m) = True := eq_true h1
    have hTk : B.take z = T := hT.symm
    repeat' (first
      | with_reducible apply W_seq
      | with_reducible refine W_rg ?_
      | (rw [vcn]; (try simp [-map_take,-map_drop, push_cast]))
      | fail)
    refine CallG_of (hp) rfl rfl rfl ?_
    try dsimp only
    repeat' (first
      | with_reducible first | apply thenW_n | apply W_seq
      | with_reducible refine W_rg ?_
      | (rw [vcn]; (try simp [-map_take,-map_drop, push_cast]))
      | fail)
    refine CallG_of (hk) rfl rfl rfl ?_
    try dsimp only
    repeat' (first
      | with_reducible first | apply thenW_n | apply W_seq | apply W_skip
      | with_reducible refine W_rg ?_
      | (rw [vcn]; (try simp [-map_take,-map_drop, push_cast]))
      | (with_reducible refine W_condW ?_; (try simp [-map_take,-map_drop, AS.val, upd, resB, mkS_env, mkS_box, lk, entry_env, condW_true, condW_false]))
      | fail)
    refine CallG_of (hw) rfl rfl rfl ?_
    try dsimp only
    repeat' (first
      | with_reducible first | apply thenW_n | apply W_seq
      | (rw [vcn]; (try simp [-map_take,-map_drop, push_cast]))
      | with_reducible refine W_drawn mixed (by decide) (by kernel_rfl) ?_
      | (rw [vcnD]; (try simp [-map_take,-map_drop, push_cast]))
      | fail)
    refine callD_of (hv) rfl rfl rfl ?_
    try dsimp only
    repeat' (first
      | with_reducible first | apply thenW_n | apply W_ret
      | (rw [vcnD]; (try simp [-map_take,-map_drop, push_cast, g1, g2, hBl, hBb, hTk, hTb, hTl]))
      | refine And.intro (by first | omega | kernel_rfl) ?_
      | fail)
    simp [-map_take,-map_drop, post, resAV, resAll, resOne, closeV, closeC, closeL, resD, resDL, push_cast]
end Go.Fw
