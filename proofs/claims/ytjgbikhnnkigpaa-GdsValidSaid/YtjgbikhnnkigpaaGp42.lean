/- gds: the law GdsValid. -/
import Derived.Test.YtjgbikhnnkigpaaGp41
import Derived.Test.YtjgbikhnnkigpaaGp35
import Derived.Test.YtjgbikhnnkigpaaGp23b
import Derived.Test.YtjgbikhnnkigpaaGp36
set_option linter.unusedSimpArgs false
set_option linter.unusedVariables false
-- VALS: recAV
namespace Go.Fw
open Go Go.Proofs Go.IntWalk
set_option linter.unusedSimpArgs false
set_option maxRecDepth 100000
set_option maxHeartbeats 4000000
open List (map_take map_drop)
attribute [local push_cast] optK_some optK_none optK_ite optK_map optK_bind gOn stepK isMem evPure evMem evBin evUn evConv evLen evBuiltin evMinMax evSlice evBuild evAppend evIndex evIndexAddr evField evFieldAddr intBin strBin appDest AS.val AS.mem AS.elems AS.put AS.put' AS.eff AV.cells? AV.isCell AV.refs all_isByte take_byteV drop_byteV strOf_map bndOk bnd partAV ptrAdd killBox catA inOrder fillA setAt ofVal resB upd byteV List.head?_take List.head?_drop List.getElem?_map mkS_env mkS_box mkS_used entry_env entry_box entry_used lk stepD lookIds Oper.looksAt Op.operands Call.operands St.ids refsL renL_append dV_take dV_drop ren renL renBox Box.refs iV i64V boolV dV_getElem dV_app dV_cons toNat_add2 toNat_add1
theorem lawValid_ok (t : Lib) (hfit : LibFit t) : Eval Try.prog 10 [libAV t] (.ret (.v (.bool true))) := by
 have hfw := few7_ok t hfit
 have hk := known_ok
 have hlaw := fun h => few_law (t := t) h
 have hff := fit_flat hfit
 have hW := fun h1 h2 => write_ok t h1 h2 (fun r hr => by have := hff r hr; omega)
 have hR := fun h1 h2 => refWrite_ok tree_ok t (validS t) (valid_iff t) h1 h2 hff
 have hV := fun h1 => valid_ok t h1 (fun r hr => by have := hff r hr; omega)
 have hU := fun h1 => refValid_ok tree_ok t (validS t) (valid_iff t) h1 hff
 have hjb := joinB_bsum (flatS t)
 rw [writeAV_eq] at hW
 obtain ⟨fw, hfwe⟩ : ∃ b, b = fewS t := ⟨_, rfl⟩
 rw [← hfwe] at hfw hlaw
 have hWR : fw = true → Eval Try.prog 40 [libAV t] (.ret (writeBAV (validS t) t)) ∧ Eval Try.prog 41 [libAV t] (.ret (writeBAV (validS t) t)) ∧ Eval Try.prog 42 [libAV t] (.ret (.v (.bool (validS t)))) ∧ Eval Try.prog 43 [libAV t] (.ret (.v (.bool (validS t)))) := fun h => by
  obtain ⟨h1, h2⟩ := hlaw h
  have h3 : joinOk (flatS t) = true → (joinB (flatS t)).length ≤ 100000000 := fun h => by have := hjb h; omega
  exact ⟨hW (by omega) h3, hR (by omega) h3, hV (by omega), hU (by omega)⟩
 have hwv : ∃ (e : Int) (r : AV), writeBAV (validS t) t = .tup [r, i64V e] ∧ (r = nilV ∨ ∃ b : List UInt8, r = .slc false 1 b.length (b.map byteV)) := by
  rw [writeBAV]
  split
  ·
   split
   · exact ⟨2, nilV, rfl, .inl rfl⟩
   ·
    rw [joinAV]
    split
    · exact ⟨0, _, rfl, .inr ⟨_, rfl⟩⟩
    · exact ⟨3, nilV, rfl, .inl rfl⟩
  · exact ⟨3, nilV, rfl, .inl rfl⟩
 obtain ⟨e, r, hwe, hr⟩ := hwv
 rw [hwe] at hWR
 obtain ⟨v, hv⟩ : ∃ b, b = validS t := ⟨_, rfl⟩
 rw [← hv] at hWR
 clear hW hR hV hU hjb hlaw hwe hv hfwe hff hfit
 obtain ⟨H, cs⟩ := t
 obtain ⟨A, hA⟩ : ∃ A, A = recsCells H := ⟨_, rfl⟩
 obtain ⟨B, hB⟩ : ∃ A, A = cellsCells cs := ⟨_, rfl⟩
 have hAr : refsL A = [] := by rw [hA]; exact recsCells_refs _
 have hBr : refsL B = [] := by rw [hB]; exact cellsCells_refs _
 simp only [libAV, rowsAV, cellsAV, ← hA, ← hB] at hfw hWR ⊢
 clear hA hB
 refine Eval.intro Try.func10 rfl Try.call10 _ _ (Nat.le_of_ble_eq_true rfl) (by simp [natAV, recAV, push_cast]) fun hs0 => ?_
 clear hs0
 cases fw with
 | false =>
  repeat' (first
   | with_reducible first | apply thenW_n | apply W_seq
   | with_reducible refine W_rg ?_
   | (rw [vcn]; (try simp [push_cast]))
   | fail)
  refine CallG_of (hfw) rfl rfl rfl ?_
  try dsimp only
  repeat' (first
   | with_reducible first | apply thenW_n | apply W_seq
   | with_reducible refine W_rg ?_
   | (rw [vcn]; (try simp [push_cast]))
   | (with_reducible refine W_condW ?_; (try simp [AS.val, upd, resB, mkS_env, mkS_box, lk, entry_env, condW_true, condW_false]))
   | fail)
  refine CallG_of (hk) rfl rfl rfl ?_
  try dsimp only
  repeat' (first
   | with_reducible first | apply thenW_n | apply thenW_ret | apply W_ret
   | (rw [vcn]; (try simp [push_cast]))
   | fail)
  simp [post, resAV, resAll, resOne, closeV, closeC, closeL, resD, resDL, push_cast]
 | true =>
  obtain ⟨h1, h2, h3, h4⟩ := hWR rfl
  rcases hr with rfl | ⟨b, rfl⟩
  ·
   simp only [nilV] at h1 h2
   repeat' (first
    | with_reducible first | apply thenW_n | apply W_seq
    | with_reducible refine W_rg ?_
    | (rw [vcn]; (try simp [push_cast]))
    | fail)
   refine CallG_of (hfw) rfl rfl rfl ?_
   try dsimp only
   repeat' (first
    | with_reducible first | apply thenW_n | apply W_seq | apply W_skip
    | with_reducible refine W_rg ?_
    | (rw [vcn]; (try simp [push_cast]))
    | (with_reducible refine W_condW ?_; (try simp [AS.val, upd, resB, mkS_env, mkS_box, lk, entry_env, condW_true, condW_false]))
    | fail)
   refine CallG_of (h1) rfl rfl rfl ?_
   try dsimp only
   repeat' (first
    | with_reducible first | apply thenW_n | apply W_seq
    | with_reducible refine W_rg ?_
    | (rw [vcn]; (try simp [push_cast]))
    | fail)
   refine CallG_of (h2) rfl rfl rfl ?_
   try dsimp only
   repeat' (first
    | with_reducible first | apply thenW_n | apply W_seq
    | (rw [vcn]; (try simp [push_cast]))
    | with_reducible refine W_drawn mixed (by decide) (by kernel_rfl) ?_
    | (rw [vcnD]; (try simp [push_cast]))
    | fail)
   refine callD_of (hk) rfl rfl rfl ?_
   try dsimp only
   repeat' (first
    | (rw [vcnD]; (try simp [push_cast]))
    | fail)
   refine callD_of (h3) rfl rfl rfl ?_
   try dsimp only
   repeat' (first
    | (rw [vcnD]; (try simp [push_cast]))
    | fail)
   refine callD_of (h4) rfl rfl rfl ?_
   try dsimp only
   repeat' (first
    | with_reducible first | apply thenW_n | apply W_ret
    | (rw [vcnD]; (try simp [push_cast]))
    | refine And.intro (by first | omega | kernel_rfl) ?_
    | fail)
   simp [post, resAV, resAll, resOne, closeV, closeC, closeL, resD, resDL, push_cast]
  ·
   obtain ⟨D, hD⟩ : ∃ A, A = b.map byteV := ⟨_, rfl⟩
   have hDr : refsL D = [] := by rw [hD]; exact refsL_bytes _
   have hDb : D.all AV.isByte = true := by rw [hD]; exact all_isByte _
   have hDl : D.length = b.length := by rw [hD]; simp
   rw [← hD] at h1 h2
   repeat' (first
    | with_reducible first | apply thenW_n | apply W_seq
    | with_reducible refine W_rg ?_
    | (rw [vcn]; (try simp [push_cast]))
    | fail)
   refine CallG_of (hfw) rfl rfl rfl ?_
   try dsimp only
   repeat' (first
    | with_reducible first | apply thenW_n | apply W_seq | apply W_skip
    | with_reducible refine W_rg ?_
    | (rw [vcn]; (try simp [push_cast]))
    | (with_reducible refine W_condW ?_; (try simp [AS.val, upd, resB, mkS_env, mkS_box, lk, entry_env, condW_true, condW_false]))
    | fail)
   refine CallG_of (h1) rfl rfl rfl ?_
   try dsimp only
   repeat' (first
    | with_reducible first | apply thenW_n | apply W_seq
    | with_reducible refine W_rg ?_
    | (rw [vcn]; (try simp [push_cast]))
    | fail)
   refine CallG_of (h2) rfl rfl rfl ?_
   try dsimp only
   repeat' (first
    | with_reducible first | apply thenW_n | apply W_seq
    | (rw [vcn]; (try simp [push_cast]))
    | with_reducible refine W_drawn mixed (by decide) (by kernel_rfl) ?_
    | (rw [vcnD]; (try simp [push_cast]))
    | fail)
   refine callD_of (hk) rfl rfl rfl ?_
   try dsimp only
   repeat' (first
    | (rw [vcnD]; (try simp [push_cast]))
    | fail)
   refine callD_of (h3) rfl rfl rfl ?_
   try dsimp only
   repeat' (first
    | (rw [vcnD]; (try simp [push_cast]))
    | fail)
   refine callD_of (h4) rfl rfl rfl ?_
   try dsimp only
   repeat' (first
    | with_reducible first | apply thenW_n | apply W_ret
    | (rw [vcnD]; (try simp [push_cast, hDl, hDb]))
    | refine And.intro (by first | omega | kernel_rfl) ?_
    | fail)
   simp [post, resAV, resAll, resOne, closeV, closeC, closeL, resD, resDL, push_cast]
end Go.Fw
