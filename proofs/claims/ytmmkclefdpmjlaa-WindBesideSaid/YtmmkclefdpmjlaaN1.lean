/- nat: cut, Of. -/
import Derived.Test.YtmmkclefdpmjlaaNb
set_option linter.unusedSimpArgs false
set_option linter.unusedVariables false
namespace Go.Fw
open Go Go.Proofs Go.IntWalk
abbrev B32 : Nat := 4294967296
def limbs (n : Nat) : List Nat := digits B32 n
abbrev natC (n : Nat) : AV := numC true .u32 B32 n
def natAV (n : Nat) : AV := .agg [natC n]
theorem B32_gt : 1 < B32 := by decide
theorem limbs_lt (n : Nat) : ∀ d ∈ limbs n, d < B32 := digits_lt B32_gt n
theorem val_limbs (n : Nat) : val B32 (limbs n) = n := val_digits B32_gt n
set_option linter.unusedSimpArgs false
set_option maxRecDepth 100000
open List (map_take map_drop)
attribute [local push_cast] optK_some optK_none optK_ite optK_map optK_bind gOn stepK isMem evPure evMem evBin evUn evConv evLen evBuiltin evMinMax evSlice evBuild evAppend evIndex evIndexAddr evField evFieldAddr intBin strBin appDest AS.val AS.mem AS.elems AS.put AS.put' AS.eff AV.cells? AV.isCell AV.refs all_isByte take_byteV drop_byteV strOf_map bndOk bnd partAV ptrAdd killBox catA inOrder fillA setAt ofVal resB upd byteV List.head?_take List.head?_drop List.getElem?_map mkS_env mkS_box mkS_used entry_env entry_box entry_used lk stepD lookIds Oper.looksAt Op.operands Call.operands St.ids refsL renL_append ren renL renBox Box.refs iV i64V boolV dV_getElem dV_app dV_cons toNat_add2 toNat_add1
attribute [local simp ↓] numC_refs numC_isCell numC_cells numC_resB numC_resD numC_ren numC_closeC numC_isOwn
theorem cut_ok (f : Bool) (l : List Nat) (hl : ∀ d ∈ l, d < B32) (n : Nat) (hn : l.length = n) :
    Eval Try.prog 110 [.slc f 1 n (dV .u32 l)] (.ret (natAV (val B32 l))) := by
  refine Eval.intro Try.func110 rfl Try.call110 _ _ (Nat.le_of_ble_eq_true rfl) rfl fun hs0 => ?_
  have hs : n ≤ 9223372036854775807 := hs0.1.1
  repeat' (first
    | with_reducible first | apply thenW_n | apply W_seq | apply W_block
    | with_reducible refine W_rg ?_
    | (rw [vcn]; (try simp [-map_take,-map_drop, push_cast]))
    | fail)
  refine W_loopW (X := Nat) (fun i => [(0, .slc f 1 n (dV .u32 l)), (2, .bp 2 0), (3, i64V i)]) (fun _ => [(2, .mut 27 [.v (.slice none 0 0)])])
    (fun i => i) (fun i => i ≤ n ∧ ∀ j, i ≤ j → j < l.length → l[j]? = some 0) n id ⟨Nat.le_refl _, fun j h1 h2 => by omega⟩ ⟨?_, ?_, ?_, ?_, ?_, ?_⟩ fun i hi => ?_
  all_goals try (simp [-map_take,-map_drop, push_cast, dV_take, dV_drop]; done)
  obtain ⟨hi1, hi2⟩ := hi
  have fin : (i = 0 ∨ l[i - 1]? ≠ some 0) → limbs (val B32 l) = l.take i := by
    intro h
    rw [limbs, ← strip_digits B32_gt l hl]
    exact strip_take l i (by omega) hi2 h
  rcases Nat.eq_zero_or_pos i with h0 | h0
  · subst h0
    repeat' (first
      | with_reducible first | apply thenW_n | apply thenW_exit | apply blockW_same | apply loopW_exit | apply W_seq | apply W_ret | apply W_exit
      | with_reducible refine W_rg ?_
      | (rw [vcn]; (try simp [-map_take,-map_drop, push_cast]))
      | (with_reducible refine W_condW ?_; (try simp [-map_take,-map_drop, AS.val, upd, resB, mkS_env, mkS_box, lk, entry_env, condW_true, condW_false]); with_reducible refine W_id ?_)
      | fail)
    simp [-map_take,-map_drop, post, resAV, resAll, resOne, closeV, closeC, closeL, resD, resDL, push_cast, natAV, numC, ← limbs.eq_1, fin (.inl rfl)]
  · have hw : IntKind.i64.wrap ((i : Int) - 1) = ((i - 1 : Nat) : Int) := by rw [i64_in _ (by omega)]; omega
    have hg := dV_get .u32 (l := l) (i := i - 1) (by omega)
    repeat' (first
      | with_reducible first | apply thenW_n | apply thenW_exit | apply blockW_n | apply blockW_same | apply loopW_exit | apply W_seq | apply W_block | apply W_skip | apply W_ret | apply W_exit
      | with_reducible refine W_rg ?_
      | (rw [vcn]; (try simp [-map_take,-map_drop, push_cast, h0, hw, hg, hi1, dV_take]))
      | (with_reducible refine W_condW ?_; (try simp [-map_take,-map_drop, AS.val, upd, resB, mkS_env, mkS_box, lk, entry_env, condW_true, condW_false, h0, hw, hg, hi1, dV_take]))
      | refine And.intro (by first | omega | kernel_rfl) ?_
      | ((with_reducible refine condW_b (fun hc => ?_) (fun hc => ?_) <;> (try simp [-map_take,-map_drop, Int.ofNat_inj] at hc) <;> (try contradiction)))
      | fail)
    · refine loopW_n (i - 1) id (by omega) ⟨by omega, fun j h1 h2 => ?_⟩ ⟨?_, ?_, ?_, ?_, ?_, ?_⟩
      all_goals try (simp [-map_take,-map_drop, push_cast, dV_take, dV_drop]; done)
      · by_cases hj : j = i - 1
        · subst hj
          rw [List.getElem?_eq_getElem h2, ← dg_eq h2, hc]
        · exact hi2 j (by omega) h2
    · have hd : l[i - 1]? ≠ some 0 := by
        rw [List.getElem?_eq_getElem (by omega), ← dg_eq (by omega)]
        simpa [-map_take,-map_drop] using hc
      simp [-map_take,-map_drop, post, resAV, resAll, resOne, closeV, closeC, closeL, resD, resDL, push_cast, natAV, numC, ← limbs.eq_1, fin (.inr hd), hn, hi1]
theorem of_val (n : Nat) : val B32 [n % 4294967296, n / 4294967296 % 4294967296] = n % 18446744073709551616 := by
  show n % 4294967296 + 4294967296 * (n / 4294967296 % 4294967296 + 4294967296 * 0) = _; omega
theorem natOf_ok (n : Nat) (h : n < 18446744073709551616) : Eval Try.prog 84 [iV .u64 n] (.ret (natAV n)) := by
  refine Eval.intro Try.func84 rfl Try.call84 _ _ (Nat.le_of_ble_eq_true rfl) (by simp [-map_take,-map_drop, AV.refs, refsL, natAV, push_cast]) fun hs0 => ?_
  have e := cut_ok false [n % 4294967296, n / 4294967296 % 4294967296] (by intro d hd; simp [-map_take,-map_drop] at hd; show d < 4294967296; omega) 2 rfl
  rw [of_val, Nat.mod_eq_of_lt h] at e
  repeat' (first
    | with_reducible first | apply thenW_n | apply W_seq
    | with_reducible refine W_rg ?_
    | (rw [vcn]; (try simp [-map_take,-map_drop, push_cast, shr64, IntKind.wrap_u32]))
    | fail)
  refine CallG_frz _ _ rfl ?_ (e) ?_ (by simp [-map_take,-map_drop, AV.refs, refsL, push_cast]) rfl ?_
  · first | (simp [-map_take,-map_drop, refsL, AV.refs, frzS, resDL, resD, resB, upd, mkS_env, mkS_box, entry_env, entry_box, lk, push_cast]; done) | (simp [-map_take,-map_drop, refsL, AV.refs, frzS, resDL, resD, resB, upd, mkS_env, mkS_box, entry_env, entry_box, lk, push_cast]; rw [List.take_of_length_le (by simp [-map_take,-map_drop])]; done) | (simp [-map_take,-map_drop, refsL, AV.refs, frzS, resDL, resD, resB, upd, mkS_env, mkS_box, entry_env, entry_box, lk, push_cast]; fail_if_success done)
  · simp [-map_take,-map_drop, refsL, AV.refs, frzOk, upd, mkS_env, mkS_box, entry_env, entry_box, lk, push_cast]
  try dsimp only
  try simp only [refsL, AV.refs, frzS, List.append_nil, upd, mkS_box, entry_box, lk, if_true, if_false]
  repeat' (first
    | with_reducible first | apply thenW_n | apply W_ret
    | (rw [vcn]; (try simp [-map_take,-map_drop, push_cast, natAV]))
    | fail)
  simp [-map_take,-map_drop, post, resAV, resAll, resOne, closeV, closeC, closeL, resD, resDL, push_cast, natAV]
end Go.Fw
