import Derived.Test.YtmmkclefdpmjlaaS2
import Derived.Test.YtmmkclefdpmjlaaNd
import Derived.Test.YtmmkclefdpmjlaaN4
import Derived.Test.YtmmkclefdpmjlaaN3
import Derived.Test.YtmmkclefdpmjlaaZ1
import Derived.Test.YtmmkclefdpmjlaaN5
set_option linter.unusedSimpArgs false
set_option linter.unusedVariables false
-- VALS: rAV, rC, dAV, dC, d3AV, d3C
namespace Go.Fw
open Go Go.Proofs Go.IntWalk
set_option linter.unusedSimpArgs false
set_option maxRecDepth 100000
set_option maxHeartbeats 20000000
abbrev B4 : Nat := 10000
def tens (n : Nat) : List Nat := digits B4 n
abbrev rC (n : Nat) : AV := numC false .i64 B4 n
def rAV (n : Nat) : AV := .agg [rC n]
def dC (z : Int) : List AV := [i64V z.sign, rC z.natAbs]
def dAV (z : Int) : AV := .agg (dC z)
def d3C (x y w : Int) : List AV := dC x ++ (dC y ++ dC w)
def d3AV (x y w : Int) : AV := .agg (d3C x y w)
theorem B4_gt : 1 < B4 := by decide
theorem tens_lt (n : Nat) : ∀ d ∈ tens n, d < B4 := digits_lt B4_gt n
theorem val_tens (n : Nat) : val B4 (tens n) = n := val_digits B4_gt n
theorem tens_pos {n : Nat} (h : 0 < n) : tens n = n % B4 :: tens (n / B4) := digits_pos B4_gt h
theorem tens_zero : tens 0 = [] := rfl
theorem tens_len {n k : Nat} (h : n < B4 ^ k) : (tens n).length ≤ k := digits_length_le B4_gt n k h
theorem tens_nil {n : Nat} : tens n = [] ↔ n = 0 := digits_ne_nil B4_gt
open List (map_take map_drop)
attribute [local push_cast] optK_some optK_none optK_ite optK_map optK_bind gOn stepK isMem evPure evMem evBin evUn evConv evLen evBuiltin evMinMax evSlice evBuild evAppend evIndex evIndexAddr evField evFieldAddr intBin strBin appDest AS.val AS.mem AS.elems AS.put AS.put' AS.eff AV.cells? AV.isCell AV.refs all_isByte take_byteV drop_byteV strOf_map bndOk bnd partAV ptrAdd killBox catA inOrder fillA setAt ofVal resB upd byteV List.head?_take List.head?_drop List.getElem?_map mkS_env mkS_box mkS_used entry_env entry_box entry_used lk stepD lookIds Oper.looksAt Op.operands Call.operands St.ids refsL renL_append ren renL renBox Box.refs iV i64V boolV dV_getElem dV_app dV_cons toNat_add2 toNat_add1
attribute [local simp ↓] numC_refs numC_isCell numC_cells numC_resB numC_resD numC_ren numC_closeC numC_isOwn
theorem refOf_ok (n : Nat) (h : n < 18446744073709551616) : Eval Try.prog 76 [iV .u64 n] (.ret (rAV n)) := by
  refine Eval.intro Try.func76 rfl Try.call76 _ _ (Nat.le_of_ble_eq_true rfl) (by simp [-map_take,-map_drop, AV.refs, refsL, natAV, rAV, rC, dAV, dC, d3AV, d3C, push_cast]) fun hs0 => ?_
  obtain ⟨out, hout⟩ : ∃ o, o = rAV n := ⟨_, rfl⟩
  rw [← hout]
  repeat' (first
    | with_reducible first | apply thenW_n | apply W_seq
    | with_reducible refine W_rg ?_
    | (rw [vcn]; (try simp [-map_take,-map_drop, push_cast]))
    | fail)
  refine W_nil 3 500 3 1 (by simp [-map_take,-map_drop, upd, mkS_env, entry_env, lk]) (by simp [-map_take,-map_drop, mkS_used, entry_used]) ?_
  repeat' (first
    | with_reducible apply W_block
    | fail)
  refine W_loopW (X := Nat × List Nat) (fun x => [(0, iV .u64 x.1), (2, .bp 2 0), (3, .bs 500 1 0 x.2.length)]) (fun x => [(2, .mut 39 [.v (.slice none 0 0)]), (500, .mut 3 (dV .i64 x.2))])
    (fun x => x.1) (fun x => x.1 < 18446744073709551616 ∧ x.2 ++ tens x.1 = tens n) (n, []) id ⟨h, rfl⟩ ⟨?_, ?_, ?_, ?_, ?_, ?_⟩ fun x hx => ?_
  all_goals first | (with_reducible refine W_id ?_) | (simp [-map_take,-map_drop, push_cast, dV_take, dV_drop]; done)
  obtain ⟨y, o⟩ := x
  obtain ⟨hy, ho⟩ := hx
  simp only at hy ho
  rcases Nat.eq_zero_or_pos y with h0 | h0
  · subst h0
    rw [tens_zero, List.append_nil] at ho
    subst ho
    refine W_frz 500 (e := 3) (l := dV .i64 (tens n)) (by simp [-map_take,-map_drop, mkS_box, lk]) (refsL_dV _ _) ?_
    have htk : (dV .i64 (tens n)).take (tens n).length = dV .i64 (tens n) := List.take_of_length_le (by simp [-map_take,-map_drop])
    repeat' (first
      | with_reducible first | apply thenW_n | apply thenW_exit | apply blockW_same | apply loopW_exit | apply W_seq | apply W_ret | apply W_exit
      | with_reducible refine W_rg ?_
      | (rw [vcn]; (try simp [-map_take,-map_drop, push_cast]))
      | (with_reducible refine W_condW ?_; (try simp [-map_take,-map_drop, AS.val, upd, resB, mkS_env, mkS_box, lk, entry_env, condW_true, condW_false]))
      | fail)
    simp [-map_take,-map_drop, post, resAV, resAll, resOne, closeV, closeC, closeL, resD, resDL, push_cast, hout, htk, rAV, rC, numC, ← tens.eq_1]
  · have g1 : (0 < y) = True := eq_true h0
    have g2 : ((0 : Int) < (y : Int)) = True := eq_true (by omega)
    have hm : (y : Int).tmod 10000 = ((y % 10000 : Nat) : Int) := by rw [Int.tmod_eq_emod_of_nonneg (by omega)]; omega
    have hd : (y : Int).tdiv 10000 = ((y / 10000 : Nat) : Int) := by rw [Int.tdiv_eq_ediv_of_nonneg (by omega)]; omega
    have hw : IntKind.i64.wrap ((y % 10000 : Nat) : Int) = ((y % 10000 : Nat) : Int) := by rw [i64_in _ (by omega)]
    have hol : o.length ≤ 5 := by
      have h1 := congrArg List.length ho
      have h2 : (tens n).length ≤ 5 := tens_len (Nat.lt_of_lt_of_le h (by decide))
      rw [List.length_append] at h1
      omega
    repeat' (first
      | with_reducible first | apply thenW_n | apply blockW_n | apply W_seq | apply W_block | apply W_skip
      | with_reducible refine W_rg ?_
      | (rw [vcn]; (try simp [-map_take,-map_drop, push_cast, g1, g2, hm, hd, hw]); try simp (disch := omega) only [i64_in, u64_in, shr64i])
      | (with_reducible refine W_condW ?_; (try simp [-map_take,-map_drop, AS.val, upd, resB, mkS_env, mkS_box, lk, entry_env, condW_true, condW_false, g1, g2, hm, hd, hw]))
      | refine And.intro (by first | omega | kernel_rfl) ?_
      | fail)
    refine loopW_n (y / 10000, o ++ [y % 10000]) (fun i => if i = 500 then 11 else i) (by simp only; omega) ⟨by simp only; omega, by simp only; rw [List.append_assoc]; rw [← ho, tens_pos h0]; rfl⟩ ⟨?_, ?_, ?_, ?_, ?_, ?_⟩
    all_goals first | (simp [-map_take,-map_drop, push_cast, dV_take, dV_drop]; done) | (simp [-map_take,-map_drop, push_cast, dV_take, dV_drop]; omega)
theorem tens_drop_pos {n i : Nat} (h : i < (tens n).length) : 0 < val B4 ((tens n).drop i) := by
  rcases Nat.eq_zero_or_pos (val B4 ((tens n).drop i)) with h0 | h0
  · have h1 := val_split B4 (tens n) i (by omega)
    rw [h0, Nat.mul_zero, Nat.add_zero, val_tens] at h1
    have h2 := val_lt (B := B4) (by decide) ((tens n).take i) (fun d hd => tens_lt n d (List.mem_of_mem_take hd))
    rw [List.length_take, Nat.min_eq_left (by omega)] at h2
    have h3 := tens_len (n := n) (k := i) (by omega)
    omega
  · exact h0
theorem tens_drop_nil {n i : Nat} (h : (tens n).length ≤ i) : val B4 ((tens n).drop i) = 0 := by rw [List.drop_of_length_le h]; rfl
theorem tens_lt_pow (n : Nat) : n < B4 ^ (tens n).length := by
  have h := val_lt (B := B4) (by decide) (tens n) (tens_lt n)
  rwa [val_tens] at h
theorem tens_add_len (a b : Nat) : (tens (a + b)).length ≤ (tens a).length + (tens b).length + 1 := by
  refine tens_len ?_
  have h1 := tens_lt_pow a
  have h2 := tens_lt_pow b
  have h3 : B4 ^ (tens a).length ≤ B4 ^ ((tens a).length + (tens b).length) := Nat.pow_le_pow_right (by decide) (by omega)
  have h4 : B4 ^ (tens b).length ≤ B4 ^ ((tens a).length + (tens b).length) := Nat.pow_le_pow_right (by decide) (by omega)
  rw [Nat.pow_succ]
  have h5 : B4 ^ ((tens a).length + (tens b).length) * 2 ≤ B4 ^ ((tens a).length + (tens b).length) * B4 := Nat.mul_le_mul_left _ (by decide)
  omega
theorem add_rest (A B : List Nat) (i c : Nat) (hp : 0 < val B4 (A.drop i) + val B4 (B.drop i) + c) :
    tens (val B4 (A.drop i) + val B4 (B.drop i) + c) = (c + dg A i + dg B i) % 10000 :: tens (val B4 (A.drop (i + 1)) + val B4 (B.drop (i + 1)) + (c + dg A i + dg B i) / 10000) := by
  rw [tens_pos hp]
  have h1 := val_drop B4 A i
  have h2 := val_drop B4 B i
  have e : B4 = 10000 := rfl
  rw [e] at h1 h2 ⊢
  congr 1
  · omega
  · congr 1
    omega
theorem refAdd_ok (a b : Nat) (h : (tens a).length + (tens b).length ≤ 20000000) : Eval Try.prog 75 [rAV a, rAV b] (.ret (rAV (a + b))) := by
  refine Eval.intro Try.func75 rfl Try.call75 _ _ (Nat.le_of_ble_eq_true rfl) (by simp [-map_take,-map_drop, AV.refs, refsL, natAV, rAV, rC, dAV, dC, d3AV, d3C, push_cast]) fun hs0 => ?_
  obtain ⟨out, hout⟩ : ∃ o, o = rAV (a + b) := ⟨_, rfl⟩
  rw [← hout]
  repeat' (first
    | with_reducible apply W_seq
    | with_reducible refine W_rg ?_
    | (rw [vcn]; (try simp [-map_take,-map_drop, push_cast, rAV, rC, numC, ← tens.eq_1]))
    | fail)
  refine thenW_n ?_
  repeat' (first
    | with_reducible apply W_seq
    | with_reducible refine W_rg ?_
    | (rw [vcn]; (try simp [-map_take,-map_drop, push_cast]))
    | fail)
  refine thenW_n ?_
  refine W_nil 5 500 3 1 (by simp [-map_take,-map_drop, upd, mkS_env, entry_env, lk]) (by simp [-map_take,-map_drop, mkS_used, entry_used]) ?_
  repeat' (first
    | with_reducible first | apply thenW_n | apply W_seq | apply W_block
    | with_reducible refine W_rg ?_
    | (rw [vcn]; (try simp [-map_take,-map_drop, push_cast]))
    | fail)
  refine W_loopW (X := Nat × Nat × List Nat) (fun x => [(2, .bp 2 0), (3, .bp 3 0), (4, .bp 4 0), (5, .bs 500 1 0 x.2.2.length), (6, i64V x.2.1), (7, i64V x.1)])
    (fun x => [(2, .mut 39 [rC a]), (3, .mut 39 [rC b]), (4, .mut 39 [.v (.slice none 0 0)]), (500, .mut 3 (dV .i64 x.2.2))])
    (fun x => (tens (a + b)).length - x.1) (fun x => x.2.2.length = x.1 ∧ x.2.1 ≤ 1 ∧ x.2.2 ++ tens (val B4 ((tens a).drop x.1) + val B4 ((tens b).drop x.1) + x.2.1) = tens (a + b))
    (0, 0, []) id ⟨rfl, by simp [-map_take,-map_drop], by simp [-map_take,-map_drop, val_tens]⟩ ⟨?_, ?_, ?_, ?_, ?_, ?_⟩ fun x hx => ?_
  all_goals first | (with_reducible refine W_id ?_) | (simp [-map_take,-map_drop, push_cast, dV_take, dV_drop, rC, numC, ← tens.eq_1]; done)
  obtain ⟨i, c, o⟩ := x
  obtain ⟨hol, hc, ho⟩ := hx
  simp only at hol hc ho
  have hx : dg (tens a) i < 10000 := dg_lt (by decide) (tens_lt a) i
  have hy : dg (tens b) i < 10000 := dg_lt (by decide) (tens_lt b) i
  have hsl := tens_add_len a b
  have hoL := congrArg List.length ho
  rw [List.length_append] at hoL
  by_cases hend : (tens a).length ≤ i ∧ (tens b).length ≤ i ∧ c = 0
  · obtain ⟨e1, e2, e3⟩ := hend
    subst e3
    rw [tens_drop_nil e1, tens_drop_nil e2, Nat.add_zero, tens_zero, List.append_nil] at ho
    subst ho
    have g1 : (i < (tens a).length) = False := eq_false (by omega)
    have g2 : (i < (tens b).length) = False := eq_false (by omega)
    refine W_frz 500 (e := 3) (l := dV .i64 (tens (a + b))) (by simp [-map_take,-map_drop, mkS_box, lk]) (refsL_dV _ _) ?_
    have htk : (dV .i64 (tens (a + b))).take (tens (a + b)).length = dV .i64 (tens (a + b)) := List.take_of_length_le (by simp [-map_take,-map_drop])
    repeat' (first
      | with_reducible first | apply thenW_n | apply thenW_exit | apply blockW_same | apply loopW_exit | apply W_seq | apply W_ret | apply W_exit
      | with_reducible refine W_rg ?_
      | (rw [vcn]; (try simp [-map_take,-map_drop, push_cast, rC, numC, ← tens.eq_1, g1, g2]))
      | (with_reducible refine W_condW ?_; (try simp [-map_take,-map_drop, AS.val, upd, resB, mkS_env, mkS_box, lk, entry_env, condW_true, condW_false, rC, numC, ← tens.eq_1, g1, g2]))
      | fail)
    simp [-map_take,-map_drop, post, resAV, resAll, resOne, closeV, closeC, closeL, resD, resDL, push_cast, hout, htk, rAV, rC, numC, ← tens.eq_1]
  · have hp : 0 < val B4 ((tens a).drop i) + val B4 ((tens b).drop i) + c := by
      by_cases h1 : i < (tens a).length
      · have := tens_drop_pos h1; omega
      · by_cases h2 : i < (tens b).length
        · have := tens_drop_pos h2; omega
        · omega
    have hst := add_rest (tens a) (tens b) i c hp
    have hl1 : 0 < (tens (val B4 ((tens a).drop i) + val B4 ((tens b).drop i) + c)).length := by rw [hst]; simp [-map_take,-map_drop]
    have hI : (o ++ [(c + dg (tens a) i + dg (tens b) i) % 10000]) ++ tens (val B4 ((tens a).drop (i + 1)) + val B4 ((tens b).drop (i + 1)) + (c + dg (tens a) i + dg (tens b) i) / 10000) = tens (a + b) := by
      rw [List.append_assoc, ← ho, hst]; rfl
    have hm : ((c : Int) + (dg (tens a) i : Int) + (dg (tens b) i : Int)).tmod 10000 = (((c + dg (tens a) i + dg (tens b) i) % 10000 : Nat) : Int) := by rw [Int.tmod_eq_emod_of_nonneg (by omega)]; omega
    have hd : ((c : Int) + (dg (tens a) i : Int) + (dg (tens b) i : Int)).tdiv 10000 = (((c + dg (tens a) i + dg (tens b) i) / 10000 : Nat) : Int) := by rw [Int.tdiv_eq_ediv_of_nonneg (by omega)]; omega
    have hc2 : (c + dg (tens a) i + dg (tens b) i) / 10000 ≤ 1 := by omega
    obtain ⟨s, hs⟩ : ∃ s, s = (c + dg (tens a) i + dg (tens b) i) % 10000 := ⟨_, rfl⟩
    obtain ⟨c', hcc⟩ : ∃ s, s = (c + dg (tens a) i + dg (tens b) i) / 10000 := ⟨_, rfl⟩
    rw [← hs] at hI hm
    rw [← hcc] at hI hd hc2
    have hi1 : IntKind.i64.wrap ((i : Int) + 1) = ((i + 1 : Nat) : Int) := by rw [i64_in _ (by omega)]; omega
    by_cases h1 : i < (tens a).length
    · have g1 : (i < (tens a).length) = True := eq_true h1
      by_cases h2 : i < (tens b).length
      · have g2 : (i < (tens b).length) = True := eq_true h2
        repeat' (first
          | with_reducible first | apply thenW_n | apply blockW_n | apply W_seq | apply W_block | apply W_skip
          | with_reducible refine W_rg ?_
          | (rw [vcn]; (try simp [-map_take,-map_drop, push_cast, rC, numC, ← tens.eq_1, g1, g2, hm, hd, hi1]); try simp (disch := omega) only [i64_in, u64_in, shr64i])
          | (with_reducible refine W_condW ?_; (try simp [-map_take,-map_drop, AS.val, upd, resB, mkS_env, mkS_box, lk, entry_env, condW_true, condW_false, rC, numC, ← tens.eq_1, g1, g2, hm, hd, hi1]))
          | refine And.intro (by first | omega | kernel_rfl) ?_
          | fail)
        refine loopW_n (i + 1, c', o ++ [s]) (fun i => if i = 500 then 54 else i) (by simp only; omega) ⟨by simp [-map_take,-map_drop, hol], hc2, hI⟩ ⟨?_, ?_, ?_, ?_, ?_, ?_⟩
        all_goals first | (simp [-map_take,-map_drop, push_cast, dV_take, dV_drop, rC, numC, ← tens.eq_1, hol]; done) | (simp [-map_take,-map_drop, push_cast, dV_take, dV_drop, rC, numC, ← tens.eq_1, hol]; omega)
      · have g2 : (i < (tens b).length) = False := eq_false h2
        have e2 : dg (tens b) i = 0 := dg_ge (by omega)
        rw [e2, Int.ofNat_zero, Int.add_zero] at hm hd
        repeat' (first
          | with_reducible first | apply thenW_n | apply blockW_n | apply W_seq | apply W_block | apply W_skip
          | with_reducible refine W_rg ?_
          | (rw [vcn]; (try simp [-map_take,-map_drop, push_cast, rC, numC, ← tens.eq_1, g1, g2, hm, hd, hi1]); try simp (disch := omega) only [i64_in, u64_in, shr64i])
          | (with_reducible refine W_condW ?_; (try simp [-map_take,-map_drop, AS.val, upd, resB, mkS_env, mkS_box, lk, entry_env, condW_true, condW_false, rC, numC, ← tens.eq_1, g1, g2, hm, hd, hi1]))
          | refine And.intro (by first | omega | kernel_rfl) ?_
          | fail)
        refine loopW_n (i + 1, c', o ++ [s]) (fun i => if i = 500 then 54 else i) (by simp only; omega) ⟨by simp [-map_take,-map_drop, hol], hc2, hI⟩ ⟨?_, ?_, ?_, ?_, ?_, ?_⟩
        all_goals first | (simp [-map_take,-map_drop, push_cast, dV_take, dV_drop, rC, numC, ← tens.eq_1, hol]; done) | (simp [-map_take,-map_drop, push_cast, dV_take, dV_drop, rC, numC, ← tens.eq_1, hol]; omega)
    · have g1 : (i < (tens a).length) = False := eq_false h1
      have e1 : dg (tens a) i = 0 := dg_ge (by omega)
      rw [e1, Int.ofNat_zero, Int.add_zero] at hm hd
      by_cases h2 : i < (tens b).length
      · have g2 : (i < (tens b).length) = True := eq_true h2
        repeat' (first
          | with_reducible first | apply thenW_n | apply blockW_n | apply W_seq | apply W_block | apply W_skip
          | with_reducible refine W_rg ?_
          | (rw [vcn]; (try simp [-map_take,-map_drop, push_cast, rC, numC, ← tens.eq_1, g1, g2, hm, hd, hi1]); try simp (disch := omega) only [i64_in, u64_in, shr64i])
          | (with_reducible refine W_condW ?_; (try simp [-map_take,-map_drop, AS.val, upd, resB, mkS_env, mkS_box, lk, entry_env, condW_true, condW_false, rC, numC, ← tens.eq_1, g1, g2, hm, hd, hi1]))
          | refine And.intro (by first | omega | kernel_rfl) ?_
          | fail)
        refine loopW_n (i + 1, c', o ++ [s]) (fun i => if i = 500 then 54 else i) (by simp only; omega) ⟨by simp [-map_take,-map_drop, hol], hc2, hI⟩ ⟨?_, ?_, ?_, ?_, ?_, ?_⟩
        all_goals first | (simp [-map_take,-map_drop, push_cast, dV_take, dV_drop, rC, numC, ← tens.eq_1, hol]; done) | (simp [-map_take,-map_drop, push_cast, dV_take, dV_drop, rC, numC, ← tens.eq_1, hol]; omega)
      · have g2 : (i < (tens b).length) = False := eq_false h2
        have e2 : dg (tens b) i = 0 := dg_ge (by omega)
        rw [e2, Int.ofNat_zero, Int.add_zero] at hm hd
        have hc1 : c = 1 := by omega
        subst hc1
        repeat' (first
          | with_reducible first | apply thenW_n | apply blockW_n | apply W_seq | apply W_block | apply W_skip
          | with_reducible refine W_rg ?_
          | (rw [vcn]; (try simp [-map_take,-map_drop, push_cast, rC, numC, ← tens.eq_1, g1, g2, hm, hd, hi1]); try simp (disch := omega) only [i64_in, u64_in, shr64i])
          | (with_reducible refine W_condW ?_; (try simp [-map_take,-map_drop, AS.val, upd, resB, mkS_env, mkS_box, lk, entry_env, condW_true, condW_false, rC, numC, ← tens.eq_1, g1, g2, hm, hd, hi1]))
          | refine And.intro (by first | omega | kernel_rfl) ?_
          | fail)
        refine loopW_n (i + 1, c', o ++ [s]) (fun i => if i = 500 then 54 else i) (by simp only; omega) ⟨by simp [-map_take,-map_drop, hol], hc2, hI⟩ ⟨?_, ?_, ?_, ?_, ?_, ?_⟩
        all_goals first | (simp [-map_take,-map_drop, push_cast, dV_take, dV_drop, rC, numC, ← tens.eq_1, hol]; done) | (simp [-map_take,-map_drop, push_cast, dV_take, dV_drop, rC, numC, ← tens.eq_1, hol]; omega)
theorem made_zero (s : Int) : Eval Try.prog 74 [i64V s, rAV 0] (.ret (dAV 0)) := by
  refine Eval.out (r := .agg [i64V 0, .v (.slice none 0 0)]) ?_ (Sub.agg ⟨Sub.refl _, numC_sub _ _ _, trivial⟩) rfl rfl (fun _ h => by cases h) (fun _ h => by cases h)
  refine Eval.intro Try.func74 rfl Try.call74 _ _ (Nat.le_of_ble_eq_true rfl) (by simp [-map_take,-map_drop, AV.refs, refsL, natAV, rAV, rC, dAV, dC, d3AV, d3C, push_cast]) fun hs0 => ?_
  have e : tens 0 = [] := rfl
  repeat' (first
    | with_reducible first | apply thenW_n | apply thenW_ret | apply W_seq | apply W_ret
    | with_reducible refine W_rg ?_
    | (rw [vcn]; (try simp [-map_take,-map_drop, push_cast, rAV, rC, numC, ← tens.eq_1, e]))
    | (with_reducible refine W_condW ?_; (try simp [-map_take,-map_drop, AS.val, upd, resB, mkS_env, mkS_box, lk, entry_env, condW_true, condW_false, rAV, rC, numC, ← tens.eq_1, e]))
    | fail)
  simp [-map_take,-map_drop, post, resAV, resAll, resOne, closeV, closeC, closeL, resD, resDL, push_cast, dAV, dC, rC, numC, ← tens.eq_1, e]
theorem made_pos (s : Int) (n : Nat) (h : 0 < n) : Eval Try.prog 74 [i64V s, rAV n] (.ret (.agg [i64V s, rC n])) := by
  refine Eval.intro Try.func74 rfl Try.call74 _ _ (Nat.le_of_ble_eq_true rfl) (by simp [-map_take,-map_drop, AV.refs, refsL, natAV, rAV, rC, dAV, dC, d3AV, d3C, push_cast]) fun hs0 => ?_
  have e : ¬ tens n = [] := fun k => by have := tens_nil.1 k; omega
  repeat' (first
    | with_reducible first | apply thenW_n | apply W_seq | apply W_skip | apply W_ret
    | with_reducible refine W_rg ?_
    | (rw [vcn]; (try simp [-map_take,-map_drop, push_cast, rAV, rC, numC, ← tens.eq_1, e]))
    | (with_reducible refine W_condW ?_; (try simp [-map_take,-map_drop, AS.val, upd, resB, mkS_env, mkS_box, lk, entry_env, condW_true, condW_false, rAV, rC, numC, ← tens.eq_1, e]))
    | ((with_reducible refine condW_b (fun hc => ?_) (fun hc => ?_) <;> (try simp [-map_take,-map_drop, Int.ofNat_inj] at hc) <;> (try contradiction)))
    | fail)
  simp [-map_take,-map_drop, post, resAV, resAll, resOne, closeV, closeC, closeL, resD, resDL, push_cast, dAV, dC, rC, numC, ← tens.eq_1, e]
theorem made02_ok' (s : Int) (n : Nat) (z : Int) (h1 : n = z.natAbs) (h2 : n ≠ 0 → s = z.sign) : Eval Try.prog 74 [i64V s, rAV n] (.ret (dAV z)) := by
  by_cases h : z = 0
  · subst h; subst h1; exact made_zero _
  · subst h1
    have := h2 (by omega)
    subst this
    exact made_pos _ _ (by omega)
theorem of02_ok (z : Int) (hz : inI z) : Eval Try.prog 35 [i64V z] (.ret (dAV z)) := by
  refine Eval.intro Try.func35 rfl Try.call35 _ _ (Nat.le_of_ble_eq_true rfl) (by simp [-map_take,-map_drop, AV.refs, refsL, natAV, rAV, rC, dAV, dC, d3AV, d3C, push_cast]) fun hs0 => ?_
  unfold inI at hz
  by_cases h : z < 0
  · have g1 : (z < 0) = True := eq_true h
    have w1 : IntKind.i64.wrap (z + 1) = z + 1 := i64_in _ (by omega)
    have w2 : IntKind.i64.wrap (-(z + 1)) = ((z.natAbs - 1 : Nat) : Int) := by rw [i64_in _ (by omega)]; omega
    have w3 : IntKind.u64.wrap ((z.natAbs - 1 : Nat) : Int) = ((z.natAbs - 1 : Nat) : Int) := u64_in _ (by omega)
    have e1 := refOf_ok (z.natAbs - 1) (by omega)
    have e2 := refOf_ok 1 (by decide)
    have hs : (tens (z.natAbs - 1)).length ≤ 5 := tens_len (Nat.lt_of_lt_of_le (by omega : z.natAbs - 1 < 18446744073709551616) (by decide))
    have hs1 : (tens 1).length ≤ 5 := by decide
    have e3 := refAdd_ok (z.natAbs - 1) 1 (by omega)
    have o1 : z.natAbs - 1 + 1 = z.natAbs := by omega
    rw [o1] at e3
    have e4 := made02_ok' (-1) z.natAbs z rfl (fun _ => by rw [Int.sign_eq_neg_one_of_neg h])
    obtain ⟨m, hm⟩ : ∃ m, m = z.natAbs - 1 := ⟨_, rfl⟩
    rw [← hm] at w2 w3 e1 e3
    repeat' (first
      | with_reducible first | apply thenW_n | apply W_seq
      | with_reducible refine W_rg ?_
      | (rw [vcn]; (try simp [-map_take,-map_drop, push_cast, g1, w1, w2, w3]))
      | (with_reducible refine W_condW ?_; (try simp [-map_take,-map_drop, AS.val, upd, resB, mkS_env, mkS_box, lk, entry_env, condW_true, condW_false, g1, w1, w2, w3]))
      | fail)
    refine CallG_of (e1) rfl rfl rfl ?_
    try dsimp only
    repeat' (first
      | (rw [vcn]; (try simp [-map_take,-map_drop, push_cast]))
      | fail)
    refine CallG_of (e2) rfl rfl rfl ?_
    try dsimp only
    repeat' (first
      | (rw [vcn]; (try simp [-map_take,-map_drop, push_cast]))
      | fail)
    refine CallG_of (e3) rfl rfl rfl ?_
    try dsimp only
    repeat' (first
      | (rw [vcn]; (try simp [-map_take,-map_drop, push_cast]))
      | fail)
    refine CallG_of (e4) rfl rfl rfl ?_
    try dsimp only
    repeat' (first
      | with_reducible first | apply thenW_n | apply thenW_ret | apply W_ret
      | (rw [vcn]; (try simp [-map_take,-map_drop, push_cast, dAV, dC]))
      | fail)
    simp [-map_take,-map_drop, post, resAV, resAll, resOne, closeV, closeC, closeL, resD, resDL, push_cast, dAV, dC]
  · have g1 : (z < 0) = False := eq_false h
    obtain ⟨n, hn⟩ : ∃ n : Nat, z = n := ⟨z.toNat, by omega⟩
    subst hn
    have w1 : IntKind.u64.wrap (n : Int) = (n : Int) := u64_in _ (by omega)
    have e1 := refOf_ok n (by omega)
    have e4 := made02_ok' 1 n n rfl (fun h0 => by rw [Int.sign_eq_one_of_pos (by omega)])
    repeat' (first
      | with_reducible first | apply thenW_n | apply W_seq | apply W_skip
      | with_reducible refine W_rg ?_
      | (rw [vcn]; (try simp [-map_take,-map_drop, push_cast, g1, w1]))
      | (with_reducible refine W_condW ?_; (try simp [-map_take,-map_drop, AS.val, upd, resB, mkS_env, mkS_box, lk, entry_env, condW_true, condW_false, g1, w1]))
      | fail)
    refine CallG_of (e1) rfl rfl rfl ?_
    try dsimp only
    repeat' (first
      | (rw [vcn]; (try simp [-map_take,-map_drop, push_cast]))
      | fail)
    refine CallG_of (e4) rfl rfl rfl ?_
    try dsimp only
    repeat' (first
      | with_reducible first | apply thenW_n | apply W_ret
      | (rw [vcn]; (try simp [-map_take,-map_drop, push_cast, dAV, dC]))
      | fail)
    simp [-map_take,-map_drop, post, resAV, resAll, resOne, closeV, closeC, closeL, resD, resDL, push_cast, dAV, dC]
theorem at11_ok (x y d : Int) (hx : inI x) (hy : inI y) : Eval Try.prog 11 [.agg [i64V x, i64V y, i64V d]] (.ret (d3AV x y (underI d))) := by
  refine Eval.intro Try.func11 rfl Try.call11 _ _ (Nat.le_of_ble_eq_true rfl) (by simp [-map_take,-map_drop, AV.refs, refsL, natAV, rAV, rC, dAV, dC, d3AV, d3C, push_cast]) fun hs0 => ?_
  have e1 := of02_ok x hx
  have e2 := of02_ok y hy
  have hu : inI (underI d) := by unfold inI underI; omega
  have e3 := of02_ok _ hu
  have u1 := under_ok x y d
  obtain ⟨w, hw⟩ : ∃ w, w = underI d := ⟨_, rfl⟩
  rw [← hw] at e3 u1 ⊢
  repeat' (first
    | with_reducible first | apply thenW_n | apply W_seq
    | with_reducible refine W_rg ?_
    | (rw [vcn]; (try simp [-map_take,-map_drop, push_cast]))
    | with_reducible refine W_drawn mixed (by decide) (by kernel_rfl) ?_
    | (rw [vcnD]; (try simp [-map_take,-map_drop, push_cast]))
    | fail)
  refine callD_of (e1) rfl rfl rfl ?_
  try dsimp only
  repeat' (first
    | (rw [vcnD]; (try simp [-map_take,-map_drop, push_cast]))
    | fail)
  refine callD_of (e2) rfl rfl rfl ?_
  try dsimp only
  repeat' (first
    | (rw [vcnD]; (try simp [-map_take,-map_drop, push_cast]))
    | fail)
  refine callD_of (u1) rfl rfl rfl ?_
  try dsimp only
  repeat' (first
    | (rw [vcnD]; (try simp [-map_take,-map_drop, push_cast]))
    | fail)
  refine callD_of (e3) rfl rfl rfl ?_
  try dsimp only
  repeat' (first
    | with_reducible first | apply thenW_n | apply W_ret
    | (rw [vcnD]; (try simp [-map_take,-map_drop, push_cast, dAV, dC]))
    | refine And.intro (by first | omega | kernel_rfl) ?_
    | fail)
  simp [-map_take,-map_drop, post, resAV, resAll, resOne, closeV, closeC, closeL, resD, resDL, push_cast, d3AV, d3C, dAV, dC]
end Go.Fw
-- VALS: rAV, rC, dAV, dC, d3AV, d3C
namespace Go.Fw
open Go Go.Proofs Go.IntWalk
set_option linter.unusedSimpArgs false
set_option maxRecDepth 100000
set_option maxHeartbeats 20000000
open List (map_take map_drop)
attribute [local push_cast] optK_some optK_none optK_ite optK_map optK_bind gOn stepK isMem evPure evMem evBin evUn evConv evLen evBuiltin evMinMax evSlice evBuild evAppend evIndex evIndexAddr evField evFieldAddr intBin strBin appDest AS.val AS.mem AS.elems AS.put AS.put' AS.eff AV.cells? AV.isCell AV.refs all_isByte take_byteV drop_byteV strOf_map bndOk bnd partAV ptrAdd killBox catA inOrder fillA setAt ofVal resB upd byteV List.head?_take List.head?_drop List.getElem?_map mkS_env mkS_box mkS_used entry_env entry_box entry_used lk stepD lookIds Oper.looksAt Op.operands Call.operands St.ids refsL renL_append ren renL renBox Box.refs iV i64V boolV dV_getElem dV_app dV_cons toNat_add2 toNat_add1
attribute [local simp ↓] numC_refs numC_isCell numC_cells numC_resB numC_resD numC_ren numC_closeC numC_isOwn
theorem cut01_ok (f : Bool) (l : List Nat) (hl : ∀ d ∈ l, d < B4) (n : Nat) (hn : l.length = n) :
    Eval Try.prog 113 [.slc f 1 n (dV .i64 l)] (.ret (rAV (val B4 l))) := by
  refine Eval.intro Try.func113 rfl Try.call113 _ _ (Nat.le_of_ble_eq_true rfl) rfl fun hs0 => ?_
  have hs : n ≤ 9223372036854775807 := hs0.1.1
  repeat' (first
    | with_reducible first | apply thenW_n | apply W_seq | apply W_block
    | with_reducible refine W_rg ?_
    | (rw [vcn]; (try simp [-map_take,-map_drop, push_cast]))
    | fail)
  refine W_loopW (X := Nat) (fun i => [(0, .slc f 1 n (dV .i64 l)), (2, .bp 2 0), (3, i64V i)]) (fun _ => [(2, .mut 39 [.v (.slice none 0 0)])])
    (fun i => i) (fun i => i ≤ n ∧ ∀ j, i ≤ j → j < l.length → l[j]? = some 0) n id ⟨Nat.le_refl _, fun j h1 h2 => by omega⟩ ⟨?_, ?_, ?_, ?_, ?_, ?_⟩ fun i hi => ?_
  all_goals try (simp [-map_take,-map_drop, push_cast, dV_take, dV_drop]; done)
  obtain ⟨hi1, hi2⟩ := hi
  have fin : (i = 0 ∨ l[i - 1]? ≠ some 0) → tens (val B4 l) = l.take i := by
    intro h
    rw [tens, ← strip_digits B4_gt l hl]
    exact strip_take l i (by omega) hi2 h
  rcases Nat.eq_zero_or_pos i with h0 | h0
  · subst h0
    repeat' (first
      | with_reducible first | apply thenW_n | apply thenW_exit | apply blockW_same | apply loopW_exit | apply W_seq | apply W_ret | apply W_exit
      | with_reducible refine W_rg ?_
      | (rw [vcn]; (try simp [-map_take,-map_drop, push_cast]))
      | (with_reducible refine W_condW ?_; (try simp [-map_take,-map_drop, AS.val, upd, resB, mkS_env, mkS_box, lk, entry_env, condW_true, condW_false]); with_reducible refine W_id ?_)
      | fail)
    simp [-map_take,-map_drop, post, resAV, resAll, resOne, closeV, closeC, closeL, resD, resDL, push_cast, rAV, rC, numC, ← tens.eq_1, fin (.inl rfl)]
  · have hw : IntKind.i64.wrap ((i : Int) - 1) = ((i - 1 : Nat) : Int) := by rw [i64_in _ (by omega)]; omega
    have hg := dV_get .i64 (l := l) (i := i - 1) (by omega)
    repeat' (first
      | with_reducible first | apply thenW_n | apply thenW_exit | apply blockW_n | apply blockW_same | apply loopW_exit | apply W_seq | apply W_block | apply W_skip | apply W_ret | apply W_exit
      | with_reducible refine W_rg ?_
      | (rw [vcn]; (try simp [-map_take,-map_drop, push_cast, h0, hw, hg, hi1, dV_take]))
      | (with_reducible refine W_condW ?_; (try simp [-map_take,-map_drop, AS.val, upd, resB, mkS_env, mkS_box, lk, entry_env, condW_true, condW_false, h0, hw, hg, hi1, dV_take]))
      | refine And.intro (by first | omega | kernel_rfl) ?_
      | ((with_reducible refine condW_b (fun hc => ?_) (fun hc => ?_) <;> (try simp [-map_take,-map_drop, Int.ofNat_inj] at hc) <;> (try contradiction)))
      | fail)
    · refine loopW_n (i - 1) id (by omega) ⟨by omega, fun j h1 h2 => ?_⟩ ⟨?_, ?_, ?_, ?_, ?_, ?_⟩
      all_goals try (simp [-map_take,-map_drop, push_cast, dV_take, dV_drop]; done)
      · by_cases hj : j = i - 1
        · subst hj
          rw [List.getElem?_eq_getElem h2, ← dg_eq h2, hc]
        · exact hi2 j (by omega) h2
    · have hd : l[i - 1]? ≠ some 0 := by
        rw [List.getElem?_eq_getElem (by omega), ← dg_eq (by omega)]
        simpa [-map_take,-map_drop] using hc
      simp [-map_take,-map_drop, post, resAV, resAll, resOne, closeV, closeC, closeL, resD, resDL, push_cast, rAV, rC, numC, ← tens.eq_1, fin (.inr hd), hn, hi1]
theorem cmp01_ok (a b : Nat) : Eval Try.prog 89 [rAV a, rAV b] (.ret (i64V (cmpN a b))) := by
  refine Eval.intro Try.func89 rfl Try.call89 _ _ (Nat.le_of_ble_eq_true rfl) (by simp [-map_take,-map_drop, AV.refs, refsL, natAV, rAV, rC, dAV, dC, d3AV, d3C, push_cast]) fun hs0 => ?_
  have hsa : (tens a).length ≤ 9223372036854775807 := by have := hs0.1; simp [-map_take,-map_drop, rAV, rC, numC, AV.small, smallL] at this; exact this.1
  repeat' (first
    | with_reducible first | apply thenW_n | apply thenW_ret | apply W_seq | apply W_block | apply W_skip | apply W_ret
    | with_reducible refine W_rg ?_
    | (rw [vcn]; (try simp [-map_take,-map_drop, push_cast, rAV, rC, numC, ← tens.eq_1]); try simp (disch := omega) only [i64_in, u64_in, shr64i])
    | (with_reducible refine W_condW ?_; (try simp [-map_take,-map_drop, AS.val, upd, resB, mkS_env, mkS_box, lk, entry_env, condW_true, condW_false, rAV, rC, numC, ← tens.eq_1]))
    | ((with_reducible refine condW_b (fun hc => ?_) (fun hc => ?_) <;> (try simp [-map_take,-map_drop, Int.ofNat_inj] at hc) <;> (try contradiction)))
    | fail)
  · simp [-map_take,-map_drop, post, resAV, resAll, resOne, closeV, closeC, closeL, resD, resDL, push_cast, cmpN_lt (digits_length_mono B4_gt hc)]
  · have : (tens b).length < (tens a).length := by omega
    simp [-map_take,-map_drop, post, resAV, resAll, resOne, closeV, closeC, closeL, resD, resDL, push_cast, cmpN_gt (digits_length_mono B4_gt this)]
  have hc : (tens a).length = (tens b).length := by omega
  refine W_loopW (X := Nat) (fun i => [(2, .bp 2 0), (3, .bp 3 0), (5, i64V ((i : Int) - 1))])
    (fun x => [(2, .mut 39 [rC a]), (3, .mut 39 [rC b])])
    (fun i => i) (fun i => i ≤ (tens a).length ∧ (tens a).drop i = (tens b).drop i)
    (tens a).length id ⟨Nat.le_refl _, by rw [List.drop_length, hc, List.drop_length]⟩ ⟨?_, ?_, ?_, ?_, ?_, ?_⟩ fun i hi => ?_
  all_goals first | (with_reducible refine W_id ?_) | (simp [-map_take,-map_drop, push_cast, dV_take, dV_drop, rC, numC, ← tens.eq_1]; done)
  obtain ⟨hi1, hi2⟩ := hi
  rcases Nat.eq_zero_or_pos i with h0 | h0
  · subst h0
    have hab : a = b := val_inj B4_gt (by simpa [-map_take,-map_drop, tens] using hi2)
    repeat' (first
      | with_reducible first | apply thenW_n | apply thenW_exit | apply blockW_same | apply loopW_exit | apply W_seq | apply W_ret | apply W_exit
      | with_reducible refine W_rg ?_
      | (rw [vcn]; (try simp [-map_take,-map_drop, push_cast, rC, numC, ← tens.eq_1]))
      | (with_reducible refine W_condW ?_; (try simp [-map_take,-map_drop, AS.val, upd, resB, mkS_env, mkS_box, lk, entry_env, condW_true, condW_false, rC, numC, ← tens.eq_1]))
      | fail)
    simp [-map_take,-map_drop, post, resAV, resAll, resOne, closeV, closeC, closeL, resD, resDL, push_cast, cmpN_eq hab]
  · obtain ⟨j, rfl⟩ : ∃ j, i = j + 1 := ⟨i - 1, by omega⟩
    have hj : ((j + 1 : Nat) : Int) - 1 = (j : Int) := by omega
    have key := fun h => val_cmp_top (B := B4) (by decide) (tens_lt a) (tens_lt b) hc j (by omega) hi2 h
    have key2 := fun h => val_cmp_top (B := B4) (by decide) (tens_lt b) (tens_lt a) hc.symm j (by omega) hi2.symm h
    rw [val_tens, val_tens] at key key2
    repeat' (first
      | with_reducible first | apply thenW_n | apply thenW_ret | apply blockW_n | apply blockW_ret | apply loopW_ret | apply W_seq | apply W_block | apply W_skip | apply W_ret
      | with_reducible refine W_rg ?_
      | (rw [vcn]; (try simp [-map_take,-map_drop, push_cast, rC, numC, ← tens.eq_1, hj]); try simp (disch := omega) only [i64_in, u64_in, shr64i])
      | with_reducible refine W_drawn mixed (by decide) (by kernel_rfl) ?_
      | (rw [vcnD]; (try simp [-map_take,-map_drop, push_cast, rC, numC, ← tens.eq_1, hj]); try simp (disch := omega) only [i64_in, u64_in, shr64i])
      | (with_reducible refine W_condW ?_; (try simp [-map_take,-map_drop, AS.val, upd, resB, mkS_env, mkS_box, lk, entry_env, condW_true, condW_false, rC, numC, ← tens.eq_1, hj]))
      | (with_reducible refine optK_dV (by first | omega | (simp [-map_take,-map_drop]; omega)) ?_)
      | refine And.intro (by first | omega | kernel_rfl) ?_
      | ((with_reducible refine condW_b (fun hc => ?_) (fun hc => ?_) <;> (try simp [-map_take,-map_drop, Int.ofNat_inj] at hc) <;> (try contradiction)))
      | fail)
    · simp [-map_take,-map_drop, post, resAV, resAll, resOne, closeV, closeC, closeL, resD, resDL, push_cast, cmpN_lt (key hc)]
    · have hgt := key2 (by omega)
      simp [-map_take,-map_drop, post, resAV, resAll, resOne, closeV, closeC, closeL, resD, resDL, push_cast, cmpN_gt hgt]
    · refine loopW_n j id (by omega) ⟨by omega, ?_⟩ ⟨?_, ?_, ?_, ?_, ?_, ?_⟩
      · have hja : j < (tens a).length := by omega
        have hjb : j < (tens b).length := by omega
        have hc : dg (tens a) j = dg (tens b) j := by omega
        rw [List.drop_eq_getElem_cons hja, List.drop_eq_getElem_cons hjb, hi2, ← dg_eq, ← dg_eq, hc]
      all_goals first | (simp [-map_take,-map_drop, push_cast, dV_take, dV_drop, rC, numC, ← tens.eq_1]; done)
theorem less01_ok (a b : Nat) (hab : b ≤ a) (h : (tens a).length ≤ 20000000) : Eval Try.prog 106 [rAV a, rAV b] (.ret (rAV (a - b))) := by
  refine Eval.intro Try.func106 rfl Try.call106 _ _ (Nat.le_of_ble_eq_true rfl) (by simp [-map_take,-map_drop, AV.refs, refsL, natAV, rAV, rC, dAV, dC, d3AV, d3C, push_cast]) fun hs0 => ?_
  have hlen : (tens b).length ≤ (tens a).length := by
    rcases Nat.lt_or_ge (tens a).length (tens b).length with h1 | h1
    · have := digits_length_mono B4_gt h1; omega
    · exact h1
  repeat' (first
    | with_reducible apply W_seq
    | with_reducible refine W_rg ?_
    | (rw [vcn]; (try simp [-map_take,-map_drop, push_cast, rAV, rC, numC, ← tens.eq_1]))
    | fail)
  refine thenW_n ?_
  repeat' (first
    | with_reducible apply W_seq
    | with_reducible refine W_rg ?_
    | (rw [vcn]; (try simp [-map_take,-map_drop, push_cast]))
    | fail)
  refine thenW_n ?_
  refine W_nil 5 500 3 1 (by simp [-map_take,-map_drop, upd, mkS_env, entry_env, lk]) (by simp [-map_take,-map_drop, mkS_used, entry_used]) ?_
  repeat' (first
    | with_reducible first | apply thenW_n | apply W_seq | apply W_block
    | with_reducible refine W_rg ?_
    | (rw [vcn]; (try simp [-map_take,-map_drop, push_cast]))
    | fail)
  refine W_loopW (X := Nat × Nat × List Nat) (fun x => [(2, .bp 2 0), (3, .bp 3 0), (4, .bp 4 0), (5, .bs 500 1 0 x.2.2.length), (6, i64V x.2.1), (7, i64V x.1)])
    (fun x => [(2, .mut 39 [rC a]), (3, .mut 39 [rC b]), (4, .mut 39 [.v (.slice none 0 0)]), (500, .mut 3 (dV .i64 x.2.2))])
    (fun x => (tens a).length - x.1) (fun x => x.1 ≤ (tens a).length ∧ x.2.2.length = x.1 ∧ (∀ d ∈ x.2.2, d < B4) ∧ x.2.1 ≤ 1 ∧ val B4 ((tens a).take x.1) + B4 ^ x.1 * x.2.1 = val B4 x.2.2 + val B4 ((tens b).take x.1))
    (0, 0, []) id ⟨by simp [-map_take,-map_drop], rfl, by simp [-map_take,-map_drop], by simp [-map_take,-map_drop], by simp [-map_take,-map_drop, val]⟩ ⟨?_, ?_, ?_, ?_, ?_, ?_⟩ fun x hx => ?_
  all_goals first | (with_reducible refine W_id ?_) | (simp [-map_take,-map_drop, push_cast, dV_take, dV_drop, rC, numC, ← tens.eq_1]; done)
  obtain ⟨i, c, o⟩ := x
  obtain ⟨hi, hl, ho, hc1, hI⟩ := hx
  simp only at hi hl ho hc1 hI
  have hx32 : dg (tens a) i < 10000 := dg_lt (by decide) (tens_lt a) i
  have hy32 : dg (tens b) i < 10000 := dg_lt (by decide) (tens_lt b) i
  by_cases hin : i < (tens a).length
  · have hstep : ∀ d br', d + dg (tens b) i + c = dg (tens a) i + B4 * br' → val B4 ((tens a).take (i + 1)) + B4 ^ (i + 1) * br' = val B4 (o ++ [d]) + val B4 ((tens b).take (i + 1)) := by
      intro d br' hd
      rw [val_append, hl, val_take_succ, val_take_succ]
      simp only [val, Nat.mul_zero, Nat.add_zero]
      exact less_step hI hd
    have g1 : (i < (tens a).length) = True := eq_true hin
    have w1 : IntKind.i64.wrap ((i : Int) + 1) = ((i + 1 : Nat) : Int) := by rw [i64_in _ (by omega)]; omega
    by_cases hneg : (dg (tens a) i : Int) - c - dg (tens b) i < 0
    · obtain ⟨m, hm⟩ : ∃ m : Int, (dg (tens a) i : Int) - c - dg (tens b) i = m := ⟨_, rfl⟩
      have g3 : (m < 0) = True := eq_true (by omega)
      obtain ⟨d, hd⟩ : ∃ d : Nat, d + dg (tens b) i + c = dg (tens a) i + 10000 := ⟨dg (tens a) i + 10000 - c - dg (tens b) i, by omega⟩
      have w3 : IntKind.i64.wrap (m + 10000) = (d : Int) := by rw [i64_in _ (by omega)]; omega
      have w4 : IntKind.i64.wrap m = m := by rw [i64_in _ (by omega)]
      have hI2 := hstep d 1 (by show _ = _ + 10000 * 1; omega)
      by_cases hb : i < (tens b).length
      · have g2 : (i < (tens b).length) = True := eq_true hb
        repeat' (first
          | with_reducible first | apply thenW_n | apply blockW_n | apply W_seq | apply W_block | apply W_skip
          | with_reducible refine W_rg ?_
          | (rw [vcn]; (try simp [-map_take,-map_drop, push_cast, rC, numC, ← tens.eq_1, g1, g2, hm, g3, w1, w3, w4]); try simp (disch := omega) only [i64_in, u64_in, shr64i])
          | (with_reducible refine W_condW ?_; (try simp [-map_take,-map_drop, AS.val, upd, resB, mkS_env, mkS_box, lk, entry_env, condW_true, condW_false, rC, numC, ← tens.eq_1, g1, g2, hm, g3, w1, w3, w4]))
          | refine And.intro (by first | omega | kernel_rfl) ?_
          | fail)
        refine loopW_n (i + 1, 1, o ++ [d]) (fun i => if i = 500 then 42 else i) (by simp [-map_take,-map_drop]; omega) ⟨by simp [-map_take,-map_drop]; omega, by simp [-map_take,-map_drop, hl], mem_append_lt ho (by show d < 10000; omega), Nat.le_refl _, hI2⟩ ⟨?_, ?_, ?_, ?_, ?_, ?_⟩
        all_goals first | (simp [-map_take,-map_drop, push_cast, dV_take, dV_drop, rC, numC, ← tens.eq_1, hl]; done) | (simp [-map_take,-map_drop, push_cast, dV_take, dV_drop, rC, numC, ← tens.eq_1, hl]; omega)
      · have g2 : (i < (tens b).length) = False := eq_false hb
        have hy0 : dg (tens b) i = 0 := dg_ge (by omega)
        rw [hy0, Int.ofNat_zero, Int.sub_zero] at hm
        repeat' (first
          | with_reducible first | apply thenW_n | apply blockW_n | apply W_seq | apply W_block | apply W_skip
          | with_reducible refine W_rg ?_
          | (rw [vcn]; (try simp [-map_take,-map_drop, push_cast, rC, numC, ← tens.eq_1, g1, g2, hm, g3, w1, w3, w4]))
          | (with_reducible refine W_condW ?_; (try simp [-map_take,-map_drop, AS.val, upd, resB, mkS_env, mkS_box, lk, entry_env, condW_true, condW_false, rC, numC, ← tens.eq_1, g1, g2, hm, g3, w1, w3, w4]))
          | refine And.intro (by first | omega | kernel_rfl) ?_
          | fail)
        refine loopW_n (i + 1, 1, o ++ [d]) (fun i => if i = 500 then 42 else i) (by simp [-map_take,-map_drop]; omega) ⟨by simp [-map_take,-map_drop]; omega, by simp [-map_take,-map_drop, hl], mem_append_lt ho (by show d < 10000; omega), Nat.le_refl _, hI2⟩ ⟨?_, ?_, ?_, ?_, ?_, ?_⟩
        all_goals first | (simp [-map_take,-map_drop, push_cast, dV_take, dV_drop, rC, numC, ← tens.eq_1, hl]; done) | (simp [-map_take,-map_drop, push_cast, dV_take, dV_drop, rC, numC, ← tens.eq_1, hl]; omega)
    · have g3 : ((dg (tens a) i : Int) - c - dg (tens b) i < 0) = False := eq_false hneg
      obtain ⟨d, hd⟩ : ∃ d : Nat, d + dg (tens b) i + c = dg (tens a) i := ⟨dg (tens a) i - c - dg (tens b) i, by omega⟩
      have hd' : (dg (tens a) i : Int) - c - dg (tens b) i = (d : Int) := by omega
      have gd : ((d : Int) < 0) = False := eq_false (by omega)
      have hI2 := hstep d 0 (by show _ = _ + 10000 * 0; omega)
      by_cases hb : i < (tens b).length
      · have g2 : (i < (tens b).length) = True := eq_true hb
        repeat' (first
          | with_reducible first | apply thenW_n | apply blockW_n | apply W_seq | apply W_block | apply W_skip
          | with_reducible refine W_rg ?_
          | (rw [vcn]; (try simp [-map_take,-map_drop, push_cast, rC, numC, ← tens.eq_1, g1, g2, hd', gd, w1]); try simp (disch := omega) only [i64_in, u64_in, shr64i])
          | (with_reducible refine W_condW ?_; (try simp [-map_take,-map_drop, AS.val, upd, resB, mkS_env, mkS_box, lk, entry_env, condW_true, condW_false, rC, numC, ← tens.eq_1, g1, g2, hd', gd, w1]))
          | refine And.intro (by first | omega | kernel_rfl) ?_
          | fail)
        refine loopW_n (i + 1, 0, o ++ [d]) (fun i => if i = 500 then 42 else i) (by simp [-map_take,-map_drop]; omega) ⟨by simp [-map_take,-map_drop]; omega, by simp [-map_take,-map_drop, hl], mem_append_lt ho (by show d < 10000; omega), Nat.zero_le _, hI2⟩ ⟨?_, ?_, ?_, ?_, ?_, ?_⟩
        all_goals first | (simp [-map_take,-map_drop, push_cast, dV_take, dV_drop, rC, numC, ← tens.eq_1, hl]; done) | (simp [-map_take,-map_drop, push_cast, dV_take, dV_drop, rC, numC, ← tens.eq_1, hl]; omega)
      · have g2 : (i < (tens b).length) = False := eq_false hb
        have hy0 : dg (tens b) i = 0 := dg_ge (by omega)
        rw [hy0, Int.ofNat_zero, Int.sub_zero] at hd'
        repeat' (first
          | with_reducible first | apply thenW_n | apply blockW_n | apply W_seq | apply W_block | apply W_skip
          | with_reducible refine W_rg ?_
          | (rw [vcn]; (try simp [-map_take,-map_drop, push_cast, rC, numC, ← tens.eq_1, g1, g2, hd', gd, w1]); try simp (disch := omega) only [i64_in, u64_in, shr64i])
          | (with_reducible refine W_condW ?_; (try simp [-map_take,-map_drop, AS.val, upd, resB, mkS_env, mkS_box, lk, entry_env, condW_true, condW_false, rC, numC, ← tens.eq_1, g1, g2, hd', gd, w1]))
          | refine And.intro (by first | omega | kernel_rfl) ?_
          | fail)
        refine loopW_n (i + 1, 0, o ++ [d]) (fun i => if i = 500 then 42 else i) (by simp [-map_take,-map_drop]; omega) ⟨by simp [-map_take,-map_drop]; omega, by simp [-map_take,-map_drop, hl], mem_append_lt ho (by show d < 10000; omega), Nat.zero_le _, hI2⟩ ⟨?_, ?_, ?_, ?_, ?_, ?_⟩
        all_goals first | (simp [-map_take,-map_drop, push_cast, dV_take, dV_drop, rC, numC, ← tens.eq_1, hl]; done) | (simp [-map_take,-map_drop, push_cast, dV_take, dV_drop, rC, numC, ← tens.eq_1, hl]; omega)
  · have hin' : i = (tens a).length := by omega
    have g1 : (i < (tens a).length) = False := eq_false hin
    have e := cut01_ok false o ho o.length rfl
    have ev : val B4 o = a - b := by
      have h1 := val_lt (show 0 < B4 by decide) o ho
      rw [List.take_of_length_le (by omega), List.take_of_length_le (by omega), val_tens, val_tens] at hI
      rcases Nat.eq_zero_or_pos c with h0 | h0
      · subst h0; omega
      · have : c = 1 := by omega
        subst this
        rw [hl] at h1
        omega
    rw [ev] at e
    repeat' (first
      | with_reducible first | apply thenW_n | apply thenW_exit | apply blockW_same | apply loopW_exit | apply W_seq | apply W_exit
      | with_reducible refine W_rg ?_
      | (rw [vcn]; (try simp [-map_take,-map_drop, push_cast, rC, numC, ← tens.eq_1, g1]))
      | (with_reducible refine W_condW ?_; (try simp [-map_take,-map_drop, AS.val, upd, resB, mkS_env, mkS_box, lk, entry_env, condW_true, condW_false, rC, numC, ← tens.eq_1, g1]))
      | fail)
    refine CallG_frz _ _ rfl ?_ (e) ?_ (by simp [-map_take,-map_drop, AV.refs, refsL, push_cast]) rfl ?_
    · first | (simp [-map_take,-map_drop, refsL, AV.refs, frzS, resDL, resD, resB, upd, mkS_env, mkS_box, entry_env, entry_box, lk, push_cast]; done) | (simp [-map_take,-map_drop, refsL, AV.refs, frzS, resDL, resD, resB, upd, mkS_env, mkS_box, entry_env, entry_box, lk, push_cast]; rw [List.take_of_length_le (by simp [-map_take,-map_drop])]; done) | (simp [-map_take,-map_drop, refsL, AV.refs, frzS, resDL, resD, resB, upd, mkS_env, mkS_box, entry_env, entry_box, lk, push_cast]; fail_if_success done)
    · simp [-map_take,-map_drop, refsL, AV.refs, frzOk, upd, mkS_env, mkS_box, entry_env, entry_box, lk, push_cast]
    try dsimp only
    try simp only [refsL, AV.refs, frzS, List.append_nil, upd, mkS_box, entry_box, lk, if_true, if_false]
    repeat' (first
      | with_reducible first | apply thenW_n | apply W_ret
      | (rw [vcn]; (try simp [-map_take,-map_drop, push_cast, rAV, rC, numC, ← tens.eq_1]))
      | fail)
    simp [-map_take,-map_drop, post, resAV, resAll, resOne, closeV, closeC, closeL, resD, resDL, push_cast, rAV, rC, numC, ← tens.eq_1]
theorem neg02_ok (z : Int) : Eval Try.prog 124 [dAV z] (.ret (dAV (-z))) := by
  refine Eval.intro Try.func124 rfl Try.call124 _ _ (Nat.le_of_ble_eq_true rfl) (by simp [-map_take,-map_drop, AV.refs, refsL, natAV, rAV, rC, dAV, dC, d3AV, d3C, push_cast]) fun hs0 => ?_
  have e := made02_ok' (-z.sign) z.natAbs (-z) (by rw [Int.natAbs_neg]) (fun h => by rw [Int.sign_neg])
  have hw : IntKind.i64.wrap (-z.sign) = -z.sign := by
    have h1 : -1 ≤ z.sign ∧ z.sign ≤ 1 := by
      rcases Int.lt_trichotomy z 0 with h | h | h
      · rw [Int.sign_eq_neg_one_of_neg h]; omega
      · rw [h]; decide
      · rw [Int.sign_eq_one_of_pos h]; omega
    rw [i64_in _ (by omega)]
  repeat' (first
    | with_reducible first | apply thenW_n | apply W_seq
    | with_reducible refine W_rg ?_
    | (rw [vcn]; (try simp [-map_take,-map_drop, push_cast, dAV, dC, rC, numC, ← tens.eq_1, hw]))
    | fail)
  refine CallG_of (e) rfl rfl rfl ?_
  try dsimp only
  repeat' (first
    | with_reducible first | apply thenW_n | apply W_ret
    | (rw [vcn]; (try simp [-map_take,-map_drop, push_cast, dAV, dC, rC, numC, ← tens.eq_1]))
    | fail)
  simp [-map_take,-map_drop, post, resAV, resAll, resOne, closeV, closeC, closeL, resD, resDL, push_cast, dAV, dC, rC, numC, ← tens.eq_1]
end Go.Fw
-- VALS: rAV, rC, dAV, dC, d3AV, d3C
namespace Go.Fw
open Go Go.Proofs Go.IntWalk
set_option linter.unusedSimpArgs false
set_option maxRecDepth 100000
set_option maxHeartbeats 20000000
theorem sign_cases (z : Int) : (z < 0 ∧ z.sign = -1) ∨ (z = 0 ∧ z.sign = 0) ∨ (0 < z ∧ z.sign = 1) := by
  rcases Int.lt_trichotomy z 0 with h | h | h
  · exact .inl ⟨h, Int.sign_eq_neg_one_of_neg h⟩
  · exact .inr (.inl ⟨h, by rw [h]; rfl⟩)
  · exact .inr (.inr ⟨h, Int.sign_eq_one_of_pos h⟩)
theorem cmp_sign {a b : Int} (h : a.sign = b.sign) : a.sign * cmpN a.natAbs b.natAbs = cmpZ a b := by
  unfold cmpN cmpZ
  rcases sign_cases a with ⟨h1, h2⟩ | ⟨h1, h2⟩ | ⟨h1, h2⟩ <;> rcases sign_cases b with ⟨h3, h4⟩ | ⟨h3, h4⟩ | ⟨h3, h4⟩ <;> rw [h2] at h ⊢ <;> rw [h4] at h <;> first | (exact absurd h (by decide)) | skip
  · (repeat' split) <;> omega
  · subst h1 h3; rfl
  · (repeat' split) <;> omega
theorem cmp_lt_sign {a b : Int} (h : a.sign < b.sign) : cmpZ a b = -1 := by
  unfold cmpZ
  rw [if_pos]
  rcases sign_cases a with ⟨h1, h2⟩ | ⟨h1, h2⟩ | ⟨h1, h2⟩ <;> rcases sign_cases b with ⟨h3, h4⟩ | ⟨h3, h4⟩ | ⟨h3, h4⟩ <;> omega
theorem cmp_gt_sign {a b : Int} (h : b.sign < a.sign) : cmpZ a b = 1 := by
  unfold cmpZ
  rw [if_neg, if_pos]
  all_goals rcases sign_cases a with ⟨h1, h2⟩ | ⟨h1, h2⟩ | ⟨h1, h2⟩ <;> rcases sign_cases b with ⟨h3, h4⟩ | ⟨h3, h4⟩ | ⟨h3, h4⟩ <;> omega
theorem cmpZ_small (a b : Int) : -1 ≤ cmpZ a b ∧ cmpZ a b ≤ 1 := by unfold cmpZ; split <;> (try split) <;> omega
open List (map_take map_drop)
attribute [local push_cast] optK_some optK_none optK_ite optK_map optK_bind gOn stepK isMem evPure evMem evBin evUn evConv evLen evBuiltin evMinMax evSlice evBuild evAppend evIndex evIndexAddr evField evFieldAddr intBin strBin appDest AS.val AS.mem AS.elems AS.put AS.put' AS.eff AV.cells? AV.isCell AV.refs all_isByte take_byteV drop_byteV strOf_map bndOk bnd partAV ptrAdd killBox catA inOrder fillA setAt ofVal resB upd byteV List.head?_take List.head?_drop List.getElem?_map mkS_env mkS_box mkS_used entry_env entry_box entry_used lk stepD lookIds Oper.looksAt Op.operands Call.operands St.ids refsL renL_append ren renL renBox Box.refs iV i64V boolV dV_getElem dV_app dV_cons toNat_add2 toNat_add1
attribute [local simp ↓] numC_refs numC_isCell numC_cells numC_resB numC_resD numC_ren numC_closeC numC_isOwn
theorem cmp02_ok (a b : Int) : Eval Try.prog 49 [dAV a, dAV b] (.ret (i64V (cmpZ a b))) := by
  refine Eval.intro Try.func49 rfl Try.call49 _ _ (Nat.le_of_ble_eq_true rfl) (by simp [-map_take,-map_drop, AV.refs, refsL, natAV, rAV, rC, dAV, dC, d3AV, d3C, push_cast]) fun hs0 => ?_
  have e := cmp01_ok a.natAbs b.natAbs
  by_cases h1 : a.sign < b.sign
  · have g1 : (a.sign < b.sign) = True := eq_true h1
    repeat' (first
      | with_reducible first | apply thenW_n | apply thenW_ret | apply W_seq | apply W_ret
      | with_reducible refine W_rg ?_
      | (rw [vcn]; (try simp [-map_take,-map_drop, push_cast, dAV, dC, rC, numC, ← tens.eq_1, g1]))
      | (with_reducible refine W_condW ?_; (try simp [-map_take,-map_drop, AS.val, upd, resB, mkS_env, mkS_box, lk, entry_env, condW_true, condW_false, dAV, dC, rC, numC, ← tens.eq_1, g1]))
      | fail)
    simp [-map_take,-map_drop, post, resAV, resAll, resOne, closeV, closeC, closeL, resD, resDL, push_cast, cmp_lt_sign h1]
  · have g1 : (a.sign < b.sign) = False := eq_false h1
    by_cases h2 : b.sign < a.sign
    · have g2 : (b.sign < a.sign) = True := eq_true h2
      repeat' (first
        | with_reducible first | apply thenW_n | apply thenW_ret | apply W_seq | apply W_skip | apply W_ret
        | with_reducible refine W_rg ?_
        | (rw [vcn]; (try simp [-map_take,-map_drop, push_cast, dAV, dC, rC, numC, ← tens.eq_1, g1, g2]))
        | (with_reducible refine W_condW ?_; (try simp [-map_take,-map_drop, AS.val, upd, resB, mkS_env, mkS_box, lk, entry_env, condW_true, condW_false, dAV, dC, rC, numC, ← tens.eq_1, g1, g2]))
        | fail)
      simp [-map_take,-map_drop, post, resAV, resAll, resOne, closeV, closeC, closeL, resD, resDL, push_cast, cmp_gt_sign h2]
    · have g2 : (b.sign < a.sign) = False := eq_false h2
      have hs : a.sign = b.sign := by omega
      have hc := cmp_sign hs
      have hm := cmpZ_small a b
      obtain ⟨r, hr⟩ : ∃ r, r = cmpZ a b := ⟨_, rfl⟩
      rw [← hr] at hc hm ⊢
      obtain ⟨n, hn⟩ : ∃ n, n = cmpN a.natAbs b.natAbs := ⟨_, rfl⟩
      rw [← hn] at hc e
      have hw : IntKind.i64.wrap (a.sign * n) = r := by rw [hc, i64_in _ (by omega)]
      repeat' (first
        | with_reducible first | apply thenW_n | apply W_seq | apply W_skip
        | with_reducible refine W_rg ?_
        | (rw [vcn]; (try simp [-map_take,-map_drop, push_cast, dAV, dC, rC, numC, ← tens.eq_1, g1, g2]))
        | with_reducible refine W_drawn mixed (by decide) (by kernel_rfl) ?_
        | (rw [vcnD]; (try simp [-map_take,-map_drop, push_cast, dAV, dC, rC, numC, ← tens.eq_1, g1, g2]))
        | (with_reducible refine W_condW ?_; (try simp [-map_take,-map_drop, AS.val, upd, resB, mkS_env, mkS_box, lk, entry_env, condW_true, condW_false, dAV, dC, rC, numC, ← tens.eq_1, g1, g2]))
        | fail)
      refine callD_of (e) rfl rfl rfl ?_
      try dsimp only
      repeat' (first
        | with_reducible first | apply thenW_n | apply W_ret
        | (rw [vcnD]; (try simp [-map_take,-map_drop, push_cast, hw]))
        | refine And.intro (by first | omega | kernel_rfl) ?_
        | fail)
      simp [-map_take,-map_drop, post, resAV, resAll, resOne, closeV, closeC, closeL, resD, resDL, push_cast]
theorem add02_ok (a b : Int) (h : (tens a.natAbs).length + (tens b.natAbs).length ≤ 20000000) : Eval Try.prog 69 [dAV a, dAV b] (.ret (dAV (a + b))) := by
  by_cases ha : a = 0
  · subst ha
    refine Eval.intro Try.func69 rfl Try.call69 _ _ (Nat.le_of_ble_eq_true rfl) (by simp [-map_take,-map_drop, AV.refs, refsL, natAV, rAV, rC, dAV, dC, d3AV, d3C, push_cast]) fun hs0 => ?_
    have g1 : (Int.sign 0 = 0) = True := eq_true rfl
    rw [Int.zero_add]
    repeat' (first
      | with_reducible first | apply thenW_n | apply thenW_ret | apply W_seq | apply W_ret
      | with_reducible refine W_rg ?_
      | (rw [vcn]; (try simp [-map_take,-map_drop, push_cast, dAV, dC, rC, numC, ← tens.eq_1, g1]))
      | (with_reducible refine W_condW ?_; (try simp [-map_take,-map_drop, AS.val, upd, resB, mkS_env, mkS_box, lk, entry_env, condW_true, condW_false, dAV, dC, rC, numC, ← tens.eq_1, g1]))
      | fail)
    simp [-map_take,-map_drop, post, resAV, resAll, resOne, closeV, closeC, closeL, resD, resDL, push_cast, dAV, dC, rC, numC, ← tens.eq_1]
  have g1 : (a.sign = 0) = False := eq_false (by rcases sign_cases a with ⟨h1, h2⟩ | ⟨h1, h2⟩ | ⟨h1, h2⟩ <;> omega)
  by_cases hb : b = 0
  · subst hb
    refine Eval.intro Try.func69 rfl Try.call69 _ _ (Nat.le_of_ble_eq_true rfl) (by simp [-map_take,-map_drop, AV.refs, refsL, natAV, rAV, rC, dAV, dC, d3AV, d3C, push_cast]) fun hs0 => ?_
    have g2 : (Int.sign 0 = 0) = True := eq_true rfl
    rw [Int.add_zero]
    repeat' (first
      | with_reducible first | apply thenW_n | apply thenW_ret | apply W_seq | apply W_skip | apply W_ret
      | with_reducible refine W_rg ?_
      | (rw [vcn]; (try simp [-map_take,-map_drop, push_cast, dAV, dC, rC, numC, ← tens.eq_1, g1, g2]))
      | (with_reducible refine W_condW ?_; (try simp [-map_take,-map_drop, AS.val, upd, resB, mkS_env, mkS_box, lk, entry_env, condW_true, condW_false, dAV, dC, rC, numC, ← tens.eq_1, g1, g2]))
      | ((with_reducible refine condW_b (fun hc => ?_) (fun hc => ?_) <;> (try simp [-map_take,-map_drop, Int.ofNat_inj] at hc) <;> (try contradiction)))
      | fail)
    simp [-map_take,-map_drop, post, resAV, resAll, resOne, closeV, closeC, closeL, resD, resDL, push_cast, dAV, dC, rC, numC, ← tens.eq_1]
  have g2 : (b.sign = 0) = False := eq_false (by rcases sign_cases b with ⟨h1, h2⟩ | ⟨h1, h2⟩ | ⟨h1, h2⟩ <;> omega)
  by_cases hs : a.sign = b.sign
  · have g3 : (a.sign = b.sign) = True := eq_true hs
    have e1 := refAdd_ok a.natAbs b.natAbs h
    have e2 := made02_ok' a.sign (a.natAbs + b.natAbs) (a + b) (by rcases sign_cases a with ⟨h1, h2⟩ | ⟨h1, h2⟩ | ⟨h1, h2⟩ <;> rcases sign_cases b with ⟨h3, h4⟩ | ⟨h3, h4⟩ | ⟨h3, h4⟩ <;> omega) (fun _ => by
      rcases sign_cases a with ⟨h1, h2⟩ | ⟨h1, h2⟩ | ⟨h1, h2⟩ <;> rcases sign_cases b with ⟨h3, h4⟩ | ⟨h3, h4⟩ | ⟨h3, h4⟩ <;> rcases sign_cases (a + b) with ⟨h5, h6⟩ | ⟨h5, h6⟩ | ⟨h5, h6⟩ <;> omega)
    refine Eval.intro Try.func69 rfl Try.call69 _ _ (Nat.le_of_ble_eq_true rfl) (by simp [-map_take,-map_drop, AV.refs, refsL, natAV, rAV, rC, dAV, dC, d3AV, d3C, push_cast]) fun hs0 => ?_
    obtain ⟨n, hn⟩ : ∃ n, n = a.natAbs + b.natAbs := ⟨_, rfl⟩
    rw [← hn] at e1 e2
    repeat' (first
      | with_reducible first | apply thenW_n | apply W_seq | apply W_skip
      | with_reducible refine W_rg ?_
      | (rw [vcn]; (try simp [-map_take,-map_drop, push_cast, dAV, dC, rC, numC, ← tens.eq_1, g1, g2, g3]))
      | with_reducible refine W_drawn mixed (by decide) (by kernel_rfl) ?_
      | (rw [vcnD]; (try simp [-map_take,-map_drop, push_cast, dAV, dC, rC, numC, ← tens.eq_1, g1, g2, g3]))
      | (with_reducible refine W_condW ?_; (try simp [-map_take,-map_drop, AS.val, upd, resB, mkS_env, mkS_box, lk, entry_env, condW_true, condW_false, dAV, dC, rC, numC, ← tens.eq_1, g1, g2, g3]))
      | ((with_reducible refine condW_b (fun hc => ?_) (fun hc => ?_) <;> (try simp [-map_take,-map_drop, Int.ofNat_inj] at hc) <;> (try contradiction)))
      | fail)
    refine callD_of (e1) rfl rfl rfl ?_
    try dsimp only
    repeat' (first
      | (rw [vcnD]; (try simp [-map_take,-map_drop, push_cast, dAV, dC, rC, numC, ← tens.eq_1, g1, g2, g3]))
      | fail)
    refine callD_of (e2) rfl rfl rfl ?_
    try dsimp only
    repeat' (first
      | with_reducible first | apply thenW_n | apply thenW_ret | apply W_ret
      | (rw [vcnD]; (try simp [-map_take,-map_drop, push_cast, dAV, dC, rC, numC, ← tens.eq_1]))
      | refine And.intro (by first | omega | kernel_rfl) ?_
      | fail)
    simp [-map_take,-map_drop, post, resAV, resAll, resOne, closeV, closeC, closeL, resD, resDL, push_cast, dAV, dC, rC, numC, ← tens.eq_1]
  · have g3 : (a.sign = b.sign) = False := eq_false hs
    have e0 := cmp01_ok a.natAbs b.natAbs
    by_cases hc : b.natAbs ≤ a.natAbs
    · have hcn : 0 ≤ cmpN a.natAbs b.natAbs := by have := cmpN_neg a.natAbs b.natAbs; omega
      have e1 := less01_ok a.natAbs b.natAbs hc (by omega)
      have e2 := made02_ok' a.sign (a.natAbs - b.natAbs) (a + b) (by rcases sign_cases a with ⟨h1, h2⟩ | ⟨h1, h2⟩ | ⟨h1, h2⟩ <;> rcases sign_cases b with ⟨h3, h4⟩ | ⟨h3, h4⟩ | ⟨h3, h4⟩ <;> omega) (fun _ => by
        rcases sign_cases a with ⟨h1, h2⟩ | ⟨h1, h2⟩ | ⟨h1, h2⟩ <;> rcases sign_cases b with ⟨h3, h4⟩ | ⟨h3, h4⟩ | ⟨h3, h4⟩ <;> rcases sign_cases (a + b) with ⟨h5, h6⟩ | ⟨h5, h6⟩ | ⟨h5, h6⟩ <;> omega)
      refine Eval.intro Try.func69 rfl Try.call69 _ _ (Nat.le_of_ble_eq_true rfl) (by simp [-map_take,-map_drop, AV.refs, refsL, natAV, rAV, rC, dAV, dC, d3AV, d3C, push_cast]) fun hs0 => ?_
      obtain ⟨n, hn⟩ : ∃ n, n = a.natAbs - b.natAbs := ⟨_, rfl⟩
      rw [← hn] at e1 e2
      obtain ⟨c, hcd⟩ : ∃ n, n = cmpN a.natAbs b.natAbs := ⟨_, rfl⟩
      rw [← hcd] at e0 hcn
      have g4 : (0 ≤ c) = True := eq_true hcn
      repeat' (first
        | with_reducible first | apply thenW_n | apply W_seq | apply W_skip
        | with_reducible refine W_rg ?_
        | (rw [vcn]; (try simp [-map_take,-map_drop, push_cast, dAV, dC, rC, numC, ← tens.eq_1, g1, g2, g3]))
        | (with_reducible refine W_condW ?_; (try simp [-map_take,-map_drop, AS.val, upd, resB, mkS_env, mkS_box, lk, entry_env, condW_true, condW_false, dAV, dC, rC, numC, ← tens.eq_1, g1, g2, g3]))
        | ((with_reducible refine condW_b (fun hc => ?_) (fun hc => ?_) <;> (try simp [-map_take,-map_drop, Int.ofNat_inj] at hc) <;> (try contradiction)))
        | fail)
      refine CallG_of (e0) rfl rfl rfl ?_
      try dsimp only
      repeat' (first
        | with_reducible first | apply thenW_n | apply W_seq
        | (rw [vcn]; (try simp [-map_take,-map_drop, push_cast, dAV, dC, rC, numC, ← tens.eq_1, g1, g2, g3, g4]))
        | with_reducible refine W_drawn mixed (by decide) (by kernel_rfl) ?_
        | (rw [vcnD]; (try simp [-map_take,-map_drop, push_cast, dAV, dC, rC, numC, ← tens.eq_1, g1, g2, g3, g4]))
        | (with_reducible refine W_condW ?_; (try simp [-map_take,-map_drop, AS.val, upd, resB, mkS_env, mkS_box, lk, entry_env, condW_true, condW_false, dAV, dC, rC, numC, ← tens.eq_1, g1, g2, g3, g4]))
        | fail)
      refine callD_of (e1) rfl rfl rfl ?_
      try dsimp only
      repeat' (first
        | (rw [vcnD]; (try simp [-map_take,-map_drop, push_cast, dAV, dC, rC, numC, ← tens.eq_1]))
        | fail)
      refine callD_of (e2) rfl rfl rfl ?_
      try dsimp only
      repeat' (first
        | with_reducible first | apply thenW_n | apply thenW_ret | apply W_ret
        | (rw [vcnD]; (try simp [-map_take,-map_drop, push_cast, dAV, dC, rC, numC, ← tens.eq_1]))
        | refine And.intro (by first | omega | kernel_rfl) ?_
        | fail)
      simp [-map_take,-map_drop, post, resAV, resAll, resOne, closeV, closeC, closeL, resD, resDL, push_cast, dAV, dC, rC, numC, ← tens.eq_1]
    · have hcn : ¬ 0 ≤ cmpN a.natAbs b.natAbs := by have := cmpN_neg a.natAbs b.natAbs; omega
      have e1 := less01_ok b.natAbs a.natAbs (by omega) (by omega)
      have e2 := made02_ok' b.sign (b.natAbs - a.natAbs) (a + b) (by rcases sign_cases a with ⟨h1, h2⟩ | ⟨h1, h2⟩ | ⟨h1, h2⟩ <;> rcases sign_cases b with ⟨h3, h4⟩ | ⟨h3, h4⟩ | ⟨h3, h4⟩ <;> omega) (fun _ => by
        rcases sign_cases a with ⟨h1, h2⟩ | ⟨h1, h2⟩ | ⟨h1, h2⟩ <;> rcases sign_cases b with ⟨h3, h4⟩ | ⟨h3, h4⟩ | ⟨h3, h4⟩ <;> rcases sign_cases (a + b) with ⟨h5, h6⟩ | ⟨h5, h6⟩ | ⟨h5, h6⟩ <;> omega)
      refine Eval.intro Try.func69 rfl Try.call69 _ _ (Nat.le_of_ble_eq_true rfl) (by simp [-map_take,-map_drop, AV.refs, refsL, natAV, rAV, rC, dAV, dC, d3AV, d3C, push_cast]) fun hs0 => ?_
      obtain ⟨n, hn⟩ : ∃ n, n = b.natAbs - a.natAbs := ⟨_, rfl⟩
      rw [← hn] at e1 e2
      obtain ⟨c, hcd⟩ : ∃ n, n = cmpN a.natAbs b.natAbs := ⟨_, rfl⟩
      rw [← hcd] at e0 hcn
      have g4 : (0 ≤ c) = False := eq_false hcn
      repeat' (first
        | with_reducible first | apply thenW_n | apply W_seq | apply W_skip
        | with_reducible refine W_rg ?_
        | (rw [vcn]; (try simp [-map_take,-map_drop, push_cast, dAV, dC, rC, numC, ← tens.eq_1, g1, g2, g3]))
        | (with_reducible refine W_condW ?_; (try simp [-map_take,-map_drop, AS.val, upd, resB, mkS_env, mkS_box, lk, entry_env, condW_true, condW_false, dAV, dC, rC, numC, ← tens.eq_1, g1, g2, g3]))
        | ((with_reducible refine condW_b (fun hc => ?_) (fun hc => ?_) <;> (try simp [-map_take,-map_drop, Int.ofNat_inj] at hc) <;> (try contradiction)))
        | fail)
      refine CallG_of (e0) rfl rfl rfl ?_
      try dsimp only
      repeat' (first
        | with_reducible first | apply thenW_n | apply W_seq | apply W_skip
        | (rw [vcn]; (try simp [-map_take,-map_drop, push_cast, dAV, dC, rC, numC, ← tens.eq_1, g1, g2, g3, g4]))
        | with_reducible refine W_drawn mixed (by decide) (by kernel_rfl) ?_
        | (rw [vcnD]; (try simp [-map_take,-map_drop, push_cast, dAV, dC, rC, numC, ← tens.eq_1, g1, g2, g3, g4]))
        | (with_reducible refine W_condW ?_; (try simp [-map_take,-map_drop, AS.val, upd, resB, mkS_env, mkS_box, lk, entry_env, condW_true, condW_false, dAV, dC, rC, numC, ← tens.eq_1, g1, g2, g3, g4]))
        | fail)
      refine callD_of (e1) rfl rfl rfl ?_
      try dsimp only
      repeat' (first
        | (rw [vcnD]; (try simp [-map_take,-map_drop, push_cast, dAV, dC, rC, numC, ← tens.eq_1]))
        | fail)
      refine callD_of (e2) rfl rfl rfl ?_
      try dsimp only
      repeat' (first
        | with_reducible first | apply thenW_n | apply W_ret
        | (rw [vcnD]; (try simp [-map_take,-map_drop, push_cast, dAV, dC, rC, numC, ← tens.eq_1]))
        | refine And.intro (by first | omega | kernel_rfl) ?_
        | fail)
      simp [-map_take,-map_drop, post, resAV, resAll, resOne, closeV, closeC, closeL, resD, resDL, push_cast, dAV, dC, rC, numC, ← tens.eq_1]
theorem sub02_ok (a b : Int) (h : (tens a.natAbs).length + (tens b.natAbs).length ≤ 20000000) : Eval Try.prog 115 [dAV a, dAV b] (.ret (dAV (a - b))) := by
  refine Eval.intro Try.func115 rfl Try.call115 _ _ (Nat.le_of_ble_eq_true rfl) (by simp [-map_take,-map_drop, AV.refs, refsL, natAV, rAV, rC, dAV, dC, d3AV, d3C, push_cast]) fun hs0 => ?_
  have e1 := neg02_ok b
  have e2 := add02_ok a (-b) (by rw [Int.natAbs_neg]; exact h)
  rw [← Int.sub_eq_add_neg] at e2
  repeat' (first
    | with_reducible first | apply thenW_n | apply W_seq
    | with_reducible refine W_rg ?_
    | (rw [vcn]; (try simp [-map_take,-map_drop, push_cast, dAV, dC, rC, numC, ← tens.eq_1]))
    | with_reducible refine W_drawn mixed (by decide) (by kernel_rfl) ?_
    | (rw [vcnD]; (try simp [-map_take,-map_drop, push_cast, dAV, dC, rC, numC, ← tens.eq_1]))
    | fail)
  refine callD_of (e1) rfl rfl rfl ?_
  try dsimp only
  repeat' (first
    | (rw [vcnD]; (try simp [-map_take,-map_drop, push_cast, dAV, dC, rC, numC, ← tens.eq_1]))
    | fail)
  refine callD_of (e2) (by simp [-map_take,-map_drop, natAV, numC, ← limbs.eq_1, push_cast, dAV, dC, rC, numC, ← tens.eq_1]) rfl rfl ?_
  try dsimp only
  repeat' (first
    | with_reducible first | apply thenW_n | apply W_ret
    | (rw [vcnD]; (try simp [-map_take,-map_drop, push_cast, dAV, dC, rC, numC, ← tens.eq_1]))
    | refine And.intro (by first | omega | kernel_rfl) ?_
    | fail)
  simp [-map_take,-map_drop, post, resAV, resAll, resOne, closeV, closeC, closeL, resD, resDL, push_cast, dAV, dC, rC, numC, ← tens.eq_1]
end Go.Fw
-- VALS: rAV, rC, dAV, dC, d3AV, d3C
namespace Go.Fw
open Go Go.Proofs Go.IntWalk
set_option linter.unusedSimpArgs false
set_option maxRecDepth 100000
set_option maxHeartbeats 20000000
open List (map_take map_drop)
attribute [local push_cast] optK_some optK_none optK_ite optK_map optK_bind gOn stepK isMem evPure evMem evBin evUn evConv evLen evBuiltin evMinMax evSlice evBuild evAppend evIndex evIndexAddr evField evFieldAddr intBin strBin appDest AS.val AS.mem AS.elems AS.put AS.put' AS.eff AV.cells? AV.isCell AV.refs all_isByte take_byteV drop_byteV strOf_map bndOk bnd partAV ptrAdd killBox catA inOrder fillA setAt ofVal resB upd byteV List.head?_take List.head?_drop List.getElem?_map mkS_env mkS_box mkS_used entry_env entry_box entry_used lk stepD lookIds Oper.looksAt Op.operands Call.operands St.ids refsL renL_append ren renL renBox Box.refs iV i64V boolV dV_getElem dV_app dV_cons toNat_add2 toNat_add1
attribute [local simp ↓] numC_refs numC_isCell numC_cells numC_resB numC_resD numC_ren numC_closeC numC_isOwn
theorem mul01_ok (a b : Nat) (h : (tens a).length + (tens b).length ≤ 20000000) : Eval Try.prog 107 [rAV a, rAV b] (.ret (rAV (a * b))) := by
  refine Eval.intro Try.func107 rfl Try.call107 _ _ (Nat.le_of_ble_eq_true rfl) (by simp [-map_take,-map_drop, AV.refs, refsL, natAV, rAV, rC, dAV, dC, d3AV, d3C, push_cast]) fun hs0 => ?_
  obtain ⟨la, hla⟩ : ∃ la, la = (tens a).length := ⟨_, rfl⟩
  obtain ⟨lb, hlb⟩ : ∃ lb, lb = (tens b).length := ⟨_, rfl⟩
  rw [← hla, ← hlb] at h
  obtain ⟨n, hn⟩ : ∃ n, n = la + lb + 1 := ⟨_, rfl⟩
  have wn : IntKind.i64.wrap ((la : Int) + lb + 1) = (n : Int) := by rw [i64_in _ (by omega)]; omega
  repeat' (first
    | with_reducible first | apply thenW_n | apply W_seq | apply W_block
    | with_reducible refine W_rg ?_
    | (rw [vcn]; (try simp [-map_take,-map_drop, push_cast, rAV, rC, numC, ← tens.eq_1, ← hla, ← hlb, wn]); try simp (disch := omega) only [i64_in, u64_in, shr64i])
    | refine And.intro (by first | omega | kernel_rfl) ?_
    | fail)
  refine W_loopW (X := Nat × List Nat) (fun x => [(2, .bp 2 0), (3, .bp 3 0), (4, .bp 4 0), (5, .bs 500 1 0 n), (6, i64V x.1)])
    (fun x => [(2, .mut 39 [rC a]), (3, .mut 39 [rC b]), (4, .mut 39 [.v (.slice none 0 0)]), (500, .mut 3 (dV .i64 x.2))])
    (fun x => la - x.1) (fun x => x.1 ≤ la ∧ x.2.length = n ∧ (∀ d ∈ x.2, d < B4) ∧ val B4 x.2 = val B4 ((tens a).take x.1) * b ∧ ∀ j, x.1 + lb ≤ j → dg x.2 j = 0)
    (0, List.replicate n 0) (fun i => if i = 500 then 18 else i) ⟨by simp [-map_take,-map_drop], by simp [-map_take,-map_drop], by intro d hd; rw [List.eq_of_mem_replicate hd]; decide, by simp [-map_take,-map_drop, val, val_replicate], fun j _ => by
      unfold dg; rw [List.getD_eq_getElem?_getD, List.getElem?_replicate]; split <;> rfl⟩ ⟨?_, ?_, ?_, ?_, ?_, ?_⟩ fun x hx => ?_
  all_goals first | (with_reducible refine W_id ?_) | (simp [-map_take,-map_drop, push_cast, dV_take, dV_drop, rC, numC, ← tens.eq_1, ← hla, ← hlb, dV_replicate]; done) | (simp [-map_take,-map_drop, push_cast, dV_take, dV_drop, rC, numC, ← tens.eq_1, ← hla, ← hlb, dV_replicate]; omega)
  obtain ⟨i, o⟩ := x
  obtain ⟨hi, hl, ho, hI, hz⟩ := hx
  simp only at hi hl ho hI hz
  by_cases hin : i < la
  · have g1 : (i < la) = True := eq_true hin
    obtain ⟨x, hxd⟩ : ∃ x, x = dg (tens a) i := ⟨_, rfl⟩
    have hx32 : x < 10000 := by rw [hxd]; exact dg_lt (by decide) (tens_lt a) i
    repeat' (first
      | with_reducible first | apply thenW_n | apply W_seq | apply W_block | apply W_skip
      | with_reducible refine W_rg ?_
      | (rw [vcn]; (try simp [-map_take,-map_drop, push_cast, rC, numC, ← tens.eq_1, ← hla, ← hlb, g1]))
      | (with_reducible refine W_condW ?_; (try simp [-map_take,-map_drop, AS.val, upd, resB, mkS_env, mkS_box, lk, entry_env, condW_true, condW_false, rC, numC, ← tens.eq_1, ← hla, ← hlb, g1]))
      | fail)
    refine W_loopW (X := Nat × Nat × List Nat) (fun y => [(2, .bp 2 0), (3, .bp 3 0), (4, .bp 4 0), (5, .bs 500 1 0 n), (6, i64V i), (7, i64V y.2.1), (8, i64V y.1)])
      (fun y => [(2, .mut 39 [rC a]), (3, .mut 39 [rC b]), (4, .mut 39 [.v (.slice none 0 0)]), (500, .mut 3 (dV .i64 y.2.2))])
      (fun y => lb - y.1) (fun y => y.1 ≤ lb ∧ y.2.2.length = n ∧ (∀ d ∈ y.2.2, d < B4) ∧ y.2.1 < 10000 ∧ val B4 y.2.2 + B4 ^ (i + y.1) * y.2.1 = val B4 ((tens a).take i) * b + B4 ^ i * (x * val B4 ((tens b).take y.1)) ∧ ∀ j, i + lb ≤ j → dg y.2.2 j = 0)
      (0, 0, o) id ⟨by simp [-map_take,-map_drop], hl, ho, by simp [-map_take,-map_drop], by simp [-map_take,-map_drop, val, hI], hz⟩ ⟨?_, ?_, ?_, ?_, ?_, ?_⟩ fun y hy => ?_
    all_goals first | (with_reducible refine W_id ?_) | (simp [-map_take,-map_drop, push_cast, dV_take, dV_drop, rC, numC, ← tens.eq_1, ← hla, ← hlb]; done)
    obtain ⟨k, c, q⟩ := y
    obtain ⟨hk, hql, hqd, hcb, hJ, hqz⟩ := hy
    simp only at hk hql hqd hcb hJ hqz
    by_cases hkn : k < lb
    · have g2 : (k < lb) = True := eq_true hkn
      obtain ⟨y, hyd⟩ : ∃ y, y = dg (tens b) k := ⟨_, rfl⟩
      have hy32 : y < 10000 := by rw [hyd]; exact dg_lt (by decide) (tens_lt b) k
      have hxy : x * y ≤ 99980001 := by
        have := Nat.mul_le_mul (show x ≤ 9999 by omega) (show y ≤ 9999 by omega)
        omega
      obtain ⟨p, hp⟩ : ∃ p, p = x * y := ⟨_, rfl⟩
      have hpI : (x : Int) * (y : Int) = (p : Int) := by rw [← Int.natCast_mul, hp]
      rw [← hp] at hxy
      obtain ⟨w, hwd⟩ : ∃ w, w = dg q (i + k) := ⟨_, rfl⟩
      have hw32 : w < 10000 := by rw [hwd]; exact dg_lt (by decide) hqd _
      obtain ⟨t, ht⟩ : ∃ t, t = c + w + p := ⟨_, rfl⟩
      have htI : (c : Int) + w + p = (t : Int) := by omega
      have hm : (t : Int).tmod 10000 = ((t % 10000 : Nat) : Int) := by rw [Int.tmod_eq_emod_of_nonneg (by omega)]; omega
      have hd : (t : Int).tdiv 10000 = ((t / 10000 : Nat) : Int) := by rw [Int.tdiv_eq_ediv_of_nonneg (by omega)]; omega
      have w1 : IntKind.i64.wrap ((k : Int) + 1) = ((k + 1 : Nat) : Int) := by rw [i64_in _ (by omega)]; omega
      have hset := dV_set' .i64 q (i + k) (t % 10000) (by omega)
      have hv := val_set B4 q (i + k) (t % B4) (by omega)
      have hst := mul_step (B := B4) (z := x * y) (t := t) hv hJ (by rw [← hwd, ← hp]; omega)
      repeat' (first
        | with_reducible first | apply thenW_n | apply blockW_n | apply W_seq | apply W_block | apply W_skip
        | with_reducible refine W_rg ?_
        | (rw [vcn]; (try simp [-map_take,-map_drop, push_cast, rC, numC, ← tens.eq_1, ← hla, ← hlb, ← hxd, ← hyd, ← hwd, g1, g2, hpI, htI, hm, hd, w1]); try simp (disch := omega) only [i64_in, u64_in, shr64i])
        | with_reducible refine W_drawn mixed (by decide) (by kernel_rfl) ?_
        | (rw [vcnD]; (try simp [-map_take,-map_drop, push_cast, rC, numC, ← tens.eq_1, ← hla, ← hlb, ← hxd, ← hyd, ← hwd, g1, g2, hpI, htI, hm, hd, w1]); try simp (disch := omega) only [i64_in, u64_in, shr64i])
        | (with_reducible refine W_condW ?_; (try simp [-map_take,-map_drop, AS.val, upd, resB, mkS_env, mkS_box, lk, entry_env, condW_true, condW_false, rC, numC, ← tens.eq_1, ← hla, ← hlb, ← hxd, ← hyd, ← hwd, g1, g2, hpI, htI, hm, hd, w1]))
        | (with_reducible refine optK_dV (by first | omega | (simp [-map_take,-map_drop]; omega)) ?_)
        | refine And.intro (by first | omega | kernel_rfl) ?_
        | fail)
      refine loopW_n (k + 1, t / 10000, q.set (i + k) (t % 10000)) id (by simp [-map_take,-map_drop]; omega) ⟨by simp [-map_take,-map_drop]; omega, by simp [-map_take,-map_drop, hql], mem_set_lt hqd (Nat.mod_lt _ (by decide)), by simp only; omega, ?_, fun j hj => by
        simp only at hj ⊢
        rw [dg_set _ _ _ _ (by omega), if_neg (by omega)]; exact hqz j hj⟩ ⟨?_, ?_, ?_, ?_, ?_, ?_⟩
      · simp only
        rw [val_take_succ, ← hyd, show i + (k + 1) = i + k + 1 from rfl]
        refine hst.trans ?_
        rw [Nat.mul_add, Nat.mul_add, Nat.add_assoc]
        congr 2
        rw [Nat.pow_add, Nat.mul_assoc, Nat.mul_left_comm (B4 ^ k)]
      all_goals first | (simp [-map_take,-map_drop, push_cast, dV_take, dV_drop, rC, numC, ← tens.eq_1, ← hla, ← hlb, hset]; done)
    · have g2 : (k < lb) = False := eq_false hkn
      have hkl : k = lb := by omega
      subst hkl
      have hset := dV_set' .i64 q (i + k) c (by omega)
      have hv := val_set B4 q (i + k) c (by omega)
      rw [hqz _ (Nat.le_refl _), Nat.mul_zero, Nat.add_zero] at hv
      have w1 : IntKind.i64.wrap ((i : Int) + 1) = ((i + 1 : Nat) : Int) := by rw [i64_in _ (by omega)]; omega
      have hnext : val B4 (q.set (i + k) c) = val B4 ((tens a).take (i + 1)) * b := by
        rw [hv, val_take_succ, ← hxd, Nat.add_mul]
        rw [List.take_of_length_le (l := tens b) (by omega), val_tens] at hJ
        rw [hJ, Nat.mul_assoc]
      have hnz : ∀ j, i + 1 + k ≤ j → dg (q.set (i + k) c) j = 0 := fun j hj => by
        rw [dg_set _ _ _ _ (by omega), if_neg (by omega)]; exact hqz j (by omega)
      repeat' (first
        | with_reducible first | apply thenW_n | apply thenW_exit | apply blockW_same | apply loopW_exit | apply W_seq | apply W_block | apply W_exit
        | with_reducible refine W_rg ?_
        | (rw [vcn]; (try simp [-map_take,-map_drop, push_cast, rC, numC, ← tens.eq_1, ← hla, ← hlb, g1, g2]); try simp (disch := omega) only [i64_in, u64_in, shr64i])
        | (with_reducible refine W_condW ?_; (try simp [-map_take,-map_drop, AS.val, upd, resB, mkS_env, mkS_box, lk, entry_env, condW_true, condW_false, rC, numC, ← tens.eq_1, ← hla, ← hlb, g1, g2]))
        | fail)
      refine W_loopW (X := Nat × Nat × List Nat) (fun y => [(2, .bp 2 0), (3, .bp 3 0), (4, .bp 4 0), (5, .bs 500 1 0 n), (6, i64V i), (7, i64V y.2.1), (9, i64V ((i + k + y.1 : Nat) : Int))])
        (fun y => [(2, .mut 39 [rC a]), (3, .mut 39 [rC b]), (4, .mut 39 [.v (.slice none 0 0)]), (500, .mut 3 (dV .i64 y.2.2))])
        (fun y => 1 - y.1) (fun y => (y.1 = 0 ∧ y.2.1 = c ∧ y.2.2 = q) ∨ (y.1 = 1 ∧ y.2.1 = 0 ∧ y.2.2 = q.set (i + k) c)) (0, c, q) id (.inl ⟨rfl, rfl, rfl⟩) ⟨?_, ?_, ?_, ?_, ?_, ?_⟩ fun y hy => ?_
      all_goals first | (with_reducible refine W_id ?_) | (simp [-map_take,-map_drop, push_cast, dV_take, dV_drop, rC, numC, ← tens.eq_1, ← hla, ← hlb]; done)
      obtain ⟨r, c', q'⟩ := y
      have hq0 : dg q (i + k) = 0 := hqz _ (Nat.le_refl _)
      rcases hy with ⟨y1, y2, y3⟩ | ⟨y1, y2, y3⟩
      · simp only at y1 y2 y3
        subst y1 y2 y3
        by_cases hc0 : c' = 0
        · have g3 : (0 < c') = False := eq_false (by omega)
          have g3' : ((0 : Int) < (c' : Int)) = False := eq_false (by omega)
          have hnext' : val B4 q' = val B4 ((tens a).take (i + 1)) * b := by
            rw [← hnext, hv, hc0, Nat.mul_zero, Nat.add_zero]
          repeat' (first
            | with_reducible first | apply thenW_n | apply thenW_exit | apply blockW_n | apply blockW_same | apply loopW_exit | apply W_seq | apply W_exit
            | with_reducible refine W_rg ?_
            | (rw [vcn]; (try simp [-map_take,-map_drop, push_cast, rC, numC, ← tens.eq_1, ← hla, ← hlb, g3, g3', w1]))
            | (with_reducible refine W_condW ?_; (try simp [-map_take,-map_drop, AS.val, upd, resB, mkS_env, mkS_box, lk, entry_env, condW_true, condW_false, rC, numC, ← tens.eq_1, ← hla, ← hlb, g3, g3', w1]))
            | fail)
          refine loopW_n (i + 1, q') id (by simp [-map_take,-map_drop]; omega) ⟨by simp [-map_take,-map_drop]; omega, hql, hqd, hnext', fun j hj => hqz j (by simp only at hj; omega)⟩ ⟨?_, ?_, ?_, ?_, ?_, ?_⟩
          all_goals first | (simp [-map_take,-map_drop, push_cast, dV_take, dV_drop, rC, numC, ← tens.eq_1, ← hla, ← hlb]; done)
        · have g3 : (0 < c') = True := eq_true (by omega)
          have g3' : ((0 : Int) < (c' : Int)) = True := eq_true (by omega)
          have hm : (c' : Int).tmod 10000 = (c' : Int) := by rw [Int.tmod_eq_emod_of_nonneg (by omega)]; omega
          have hd : (c' : Int).tdiv 10000 = 0 := by rw [Int.tdiv_eq_ediv_of_nonneg (by omega)]; omega
          have w2 : IntKind.i64.wrap ((i : Int) + k + 1) = ((i + k + 1 : Nat) : Int) := by rw [i64_in _ (by omega)]; omega
          repeat' (first
            | with_reducible first | apply thenW_n | apply blockW_n | apply W_seq | apply W_block | apply W_skip
            | with_reducible refine W_rg ?_
            | (rw [vcn]; (try simp [-map_take,-map_drop, push_cast, rC, numC, ← tens.eq_1, ← hla, ← hlb, g3, g3', hq0, hm, hd, w2]); try simp (disch := omega) only [i64_in, u64_in, shr64i])
            | (with_reducible refine W_condW ?_; (try simp [-map_take,-map_drop, AS.val, upd, resB, mkS_env, mkS_box, lk, entry_env, condW_true, condW_false, rC, numC, ← tens.eq_1, ← hla, ← hlb, g3, g3', hq0, hm, hd, w2]))
            | (with_reducible refine optK_dV (by first | omega | (simp [-map_take,-map_drop]; omega)) ?_)
            | refine And.intro (by first | omega | kernel_rfl) ?_
            | fail)
          refine loopW_n (1, 0, q'.set (i + k) c') id (by simp [-map_take,-map_drop]) (.inr ⟨rfl, rfl, rfl⟩) ⟨?_, ?_, ?_, ?_, ?_, ?_⟩
          all_goals first | (simp [-map_take,-map_drop, push_cast, dV_take, dV_drop, rC, numC, ← tens.eq_1, ← hla, ← hlb, hset]; done)
      · simp only at y1 y2 y3
        subst y1 y2 y3
        repeat' (first
          | with_reducible first | apply thenW_n | apply thenW_exit | apply blockW_n | apply blockW_same | apply loopW_exit | apply W_seq | apply W_exit
          | with_reducible refine W_rg ?_
          | (rw [vcn]; (try simp [-map_take,-map_drop, push_cast, rC, numC, ← tens.eq_1, ← hla, ← hlb, w1]))
          | (with_reducible refine W_condW ?_; (try simp [-map_take,-map_drop, AS.val, upd, resB, mkS_env, mkS_box, lk, entry_env, condW_true, condW_false, rC, numC, ← tens.eq_1, ← hla, ← hlb, w1]))
          | fail)
        refine loopW_n (i + 1, q.set (i + k) c) id (by simp [-map_take,-map_drop]; omega) ⟨by simp [-map_take,-map_drop]; omega, by simp [-map_take,-map_drop, hql], mem_set_lt hqd hcb, hnext, hnz⟩ ⟨?_, ?_, ?_, ?_, ?_, ?_⟩
        all_goals first | (simp [-map_take,-map_drop, push_cast, dV_take, dV_drop, rC, numC, ← tens.eq_1, ← hla, ← hlb, hset]; done)
  · have hin' : i = la := by omega
    have g1 : (i < la) = False := eq_false hin
    have e := cut01_ok false o ho n hl
    have ev : val B4 o = a * b := by
      rw [hI, List.take_of_length_le (by omega), val_tens]
    rw [ev] at e
    have hle : n ≤ o.length := by omega
    repeat' (first
      | with_reducible first | apply thenW_n | apply thenW_exit | apply blockW_same | apply loopW_exit | apply W_seq | apply W_exit
      | with_reducible refine W_rg ?_
      | (rw [vcn]; (try simp [-map_take,-map_drop, push_cast, rC, numC, ← tens.eq_1, ← hla, ← hlb, g1]))
      | (with_reducible refine W_condW ?_; (try simp [-map_take,-map_drop, AS.val, upd, resB, mkS_env, mkS_box, lk, entry_env, condW_true, condW_false, rC, numC, ← tens.eq_1, ← hla, ← hlb, g1]))
      | fail)
    refine CallG_frz _ _ rfl ?_ (e) ?_ (by simp [-map_take,-map_drop, AV.refs, refsL, push_cast]) rfl ?_
    · first | (simp [-map_take,-map_drop, refsL, AV.refs, frzS, resDL, resD, resB, upd, mkS_env, mkS_box, entry_env, entry_box, lk, push_cast, hl, List.take_of_length_le]; done) | (simp [-map_take,-map_drop, refsL, AV.refs, frzS, resDL, resD, resB, upd, mkS_env, mkS_box, entry_env, entry_box, lk, push_cast, hl, List.take_of_length_le]; rw [List.take_of_length_le (by simp [-map_take,-map_drop])]; done) | (simp [-map_take,-map_drop, refsL, AV.refs, frzS, resDL, resD, resB, upd, mkS_env, mkS_box, entry_env, entry_box, lk, push_cast, hl, List.take_of_length_le]; fail_if_success done)
    · simp [-map_take,-map_drop, refsL, AV.refs, frzOk, upd, mkS_env, mkS_box, entry_env, entry_box, lk, push_cast]
    try dsimp only
    try simp only [refsL, AV.refs, frzS, List.append_nil, upd, mkS_box, entry_box, lk, if_true, if_false]
    repeat' (first
      | with_reducible first | apply thenW_n | apply W_ret
      | (rw [vcn]; (try simp [-map_take,-map_drop, push_cast, rAV, rC, numC, ← tens.eq_1]))
      | fail)
    simp [-map_take,-map_drop, post, resAV, resAll, resOne, closeV, closeC, closeL, resD, resDL, push_cast, rAV, rC, numC, ← tens.eq_1]
theorem mul02_ok (a b : Int) (h : (tens a.natAbs).length + (tens b.natAbs).length ≤ 20000000) : Eval Try.prog 70 [dAV a, dAV b] (.ret (dAV (a * b))) := by
  have e1 := mul01_ok a.natAbs b.natAbs h
  have e2 := made02_ok' (a.sign * b.sign) (a.natAbs * b.natAbs) (a * b) (by rw [Int.natAbs_mul]) (fun _ => by rw [Int.sign_mul])
  have hw : IntKind.i64.wrap (a.sign * b.sign) = a.sign * b.sign := by
    rcases sign_cases a with ⟨h1, h2⟩ | ⟨h1, h2⟩ | ⟨h1, h2⟩ <;> rcases sign_cases b with ⟨h3, h4⟩ | ⟨h3, h4⟩ | ⟨h3, h4⟩ <;> rw [h2, h4] <;> rfl
  refine Eval.intro Try.func70 rfl Try.call70 _ _ (Nat.le_of_ble_eq_true rfl) (by simp [-map_take,-map_drop, AV.refs, refsL, natAV, rAV, rC, dAV, dC, d3AV, d3C, push_cast]) fun hs0 => ?_
  obtain ⟨s, hs⟩ : ∃ s, s = a.sign * b.sign := ⟨_, rfl⟩
  rw [← hs] at e2 hw
  obtain ⟨n, hn⟩ : ∃ n, n = a.natAbs * b.natAbs := ⟨_, rfl⟩
  rw [← hn] at e1 e2
  repeat' (first
    | with_reducible first | apply thenW_n | apply W_seq
    | with_reducible refine W_rg ?_
    | (rw [vcn]; (try simp [-map_take,-map_drop, push_cast, dAV, dC, rC, numC, ← tens.eq_1, ← hs, hw]))
    | with_reducible refine W_drawn mixed (by decide) (by kernel_rfl) ?_
    | (rw [vcnD]; (try simp [-map_take,-map_drop, push_cast, dAV, dC, rC, numC, ← tens.eq_1, ← hs, hw]))
    | fail)
  refine callD_of (e1) rfl rfl rfl ?_
  try dsimp only
  repeat' (first
    | (rw [vcnD]; (try simp [-map_take,-map_drop, push_cast, dAV, dC, rC, numC, ← tens.eq_1, ← hs, hw]))
    | fail)
  refine callD_of (e2) rfl rfl rfl ?_
  try dsimp only
  repeat' (first
    | with_reducible first | apply thenW_n | apply W_ret
    | (rw [vcnD]; (try simp [-map_take,-map_drop, push_cast, dAV, dC, rC, numC, ← tens.eq_1]))
    | refine And.intro (by first | omega | kernel_rfl) ?_
    | fail)
  simp [-map_take,-map_drop, post, resAV, resAll, resOne, closeV, closeC, closeL, resD, resDL, push_cast, dAV, dC, rC, numC, ← tens.eq_1, hs]
theorem tens_mono {x y : Nat} (h : x ≤ y) : (tens x).length ≤ (tens y).length := Nat.le_of_not_lt fun k => by
  have := digits_length_mono B4_gt k
  omega
end Go.Fw
