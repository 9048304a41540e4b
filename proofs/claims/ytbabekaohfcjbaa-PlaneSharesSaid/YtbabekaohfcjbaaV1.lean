/- The document's numbers (01, 02): Of, Add, Made, Of; a point's (11). -/
import Derived.Test.YtbabekaohfcjbaaS2
import Derived.Test.YtbabekaohfcjbaaNd
set_option linter.unusedSimpArgs false
set_option linter.unusedVariables false
-- VALS: rAV, rC, dAV, dC, d3AV, d3C
namespace Go.Fw
open Go Go.Proofs Go.IntWalk
set_option linter.unusedSimpArgs false
set_option maxRecDepth 100000
set_option maxHeartbeats 20000000

abbrev B4 : Nat := 10000
def tens (n : Nat) : List Nat := digits B4 n
/-- The document's number, its sign and number, its point. -/
abbrev rC (n : Nat) : AV := numC false .i64 B4 n
def rAV (n : Nat) : AV := .agg [rC n]
def dC (z : Int) : List AV := [i64V z.sign, rC z.natAbs]
def dAV (z : Int) : AV := .agg (dC z)
def d3C (x y w : Int) : List AV := dC x ++ (dC y ++ dC w)
def d3AV (x y w : Int) : AV := .agg (d3C x y w)
theorem B4_gt : 1 < B4 := by decide
theorem tens_lt (n : Nat) : ∀ d ∈ tens n, d < B4 := digits_lt B4_gt n
theorem val_tens (n : Nat) : val B4 (tens n) = n := val_digits B4_gt n
theorem tens_pos {n : Nat} (h : 0 < n) : tens n = n % B4 :: tens (n / B4) := digits_pos B4_gt h
theorem tens_zero : tens 0 = [] := rfl
theorem tens_len {n k : Nat} (h : n < B4 ^ k) : (tens n).length ≤ k := digits_length_le B4_gt n k h
theorem tens_nil {n : Nat} : tens n = [] ↔ n = 0 := digits_ne_nil B4_gt

open List (map_take map_drop)
attribute [local push_cast] optK_some optK_none optK_ite optK_map optK_bind gOn stepK isMem evPure evMem evBin evUn evConv evLen evBuiltin evMinMax evSlice evBuild evAppend evIndex evIndexAddr evField evFieldAddr intBin strBin appDest AS.val AS.mem AS.elems AS.put AS.put' AS.eff AV.cells? AV.isCell AV.refs all_isByte take_byteV drop_byteV strOf_map bndOk bnd partAV ptrAdd killBox catA inOrder fillA setAt ofVal resB upd byteV List.head?_take List.head?_drop List.getElem?_map mkS_env mkS_box mkS_used entry_env entry_box entry_used lk stepD lookIds Oper.looksAt Op.operands Call.operands St.ids refsL renL_append ren renL renBox Box.refs iV i64V boolV dV_getElem dV_app dV_cons toNat_add2 toNat_add1
attribute [local simp ↓] numC_refs numC_isCell numC_cells numC_resB numC_resD numC_ren numC_closeC numC_isOwn
theorem refOf_ok (n : Nat) (h : n < 18446744073709551616) : Eval Try.prog 84 [iV .u64 n] (.ret (rAV n)) := by
  refine Eval.intro Try.func84 rfl Try.call84 _ _ (Nat.le_of_ble_eq_true rfl) (by simp [-map_take,-map_drop, AV.refs, refsL, natAV, rAV, rC, dAV, dC, d3AV, d3C, push_cast]) fun hs0 => ?_
  obtain ⟨out, hout⟩ : ∃ o, o = rAV n := ⟨_, rfl⟩
  rw [← hout]
  repeat' (first
    | with_reducible first | apply thenW_n | apply W_seq
    | with_reducible refine W_region (by first | decide | (with_unfolding_all rfl)) ?_
    | (rw [vcn]; (try simp [-map_take,-map_drop, push_cast]))
    | fail)
  refine W_nil 3 500 3 1 (by simp [-map_take,-map_drop, upd, mkS_env, entry_env, lk]) (by simp [-map_take,-map_drop, mkS_used, entry_used]) ?_
  repeat' (first
    | with_reducible apply W_block
    | fail)
  refine W_loopW (X := Nat × List Nat) (fun x => [(0, iV .u64 x.1), (2, .bp 2 0), (3, .bs 500 1 0 x.2.length)]) (fun x => [(2, .mut 37 [.v (.slice none 0 0)]), (500, .mut 3 (dV .i64 x.2))])
    (fun x => x.1) (fun x => x.1 < 18446744073709551616 ∧ x.2 ++ tens x.1 = tens n) (n, []) id ⟨h, rfl⟩ ⟨?_, ?_, ?_, ?_, ?_, ?_⟩ fun x hx => ?_
  all_goals first | (with_reducible refine W_id ?_) | (simp [-map_take,-map_drop, push_cast, dV_take, dV_drop]; done)
  obtain ⟨y, o⟩ := x
  obtain ⟨hy, ho⟩ := hx
  simp only at hy ho
  rcases Nat.eq_zero_or_pos y with h0 | h0
  · subst h0
    rw [tens_zero, List.append_nil] at ho
    subst ho
    refine W_frz 500 (e := 3) (l := dV .i64 (tens n)) (by simp [-map_take,-map_drop, mkS_box, lk]) (refsL_dV _ _) ?_
    have htk : (dV .i64 (tens n)).take (tens n).length = dV .i64 (tens n) := List.take_of_length_le (by simp [-map_take,-map_drop])
    repeat' (first
      | with_reducible first | apply thenW_n | apply thenW_exit | apply blockW_same | apply loopW_exit | apply W_seq | apply W_ret | apply W_exit
      | with_reducible refine W_region (by first | decide | (with_unfolding_all rfl)) ?_
      | (rw [vcn]; (try simp [-map_take,-map_drop, push_cast]))
      | (with_reducible refine W_condW ?_; (try simp [-map_take,-map_drop, AS.val, upd, resB, mkS_env, mkS_box, lk, entry_env, condW_true, condW_false]))
      | fail)
    simp [-map_take,-map_drop, post, resAV, resAll, resOne, closeV, closeC, closeL, resD, resDL, push_cast, hout, htk, rAV, rC, numC, ← tens.eq_1]
  · have g1 : (0 < y) = True := eq_true h0
    have g2 : ((0 : Int) < (y : Int)) = True := eq_true (by omega)
    have hm : (y : Int).tmod 10000 = ((y % 10000 : Nat) : Int) := by rw [Int.tmod_eq_emod_of_nonneg (by omega)]; omega
    have hd : (y : Int).tdiv 10000 = ((y / 10000 : Nat) : Int) := by rw [Int.tdiv_eq_ediv_of_nonneg (by omega)]; omega
    have hw : IntKind.i64.wrap ((y % 10000 : Nat) : Int) = ((y % 10000 : Nat) : Int) := by rw [i64_in _ (by omega)]
    have hol : o.length ≤ 5 := by
      have h1 := congrArg List.length ho
      have h2 : (tens n).length ≤ 5 := tens_len (Nat.lt_of_lt_of_le h (by decide))
      rw [List.length_append] at h1
      omega
    repeat' (first
      | with_reducible first | apply thenW_n | apply blockW_n | apply W_seq | apply W_block | apply W_skip
      | with_reducible refine W_region (by first | decide | (with_unfolding_all rfl)) ?_
      | (rw [vcn]; (try simp [-map_take,-map_drop, push_cast, g1, g2, hm, hd, hw]); try simp (disch := omega) only [i64_in, u64_in, shr64i])
      | (with_reducible refine W_condW ?_; (try simp [-map_take,-map_drop, AS.val, upd, resB, mkS_env, mkS_box, lk, entry_env, condW_true, condW_false, g1, g2, hm, hd, hw]))
      | refine And.intro (by first | omega | kernel_rfl) ?_
      | fail)
    refine loopW_n (y / 10000, o ++ [y % 10000]) (fun i => if i = 500 then 11 else i) (by simp only; omega) ⟨by simp only; omega, by simp only; rw [List.append_assoc]; rw [← ho, tens_pos h0]; rfl⟩ ⟨?_, ?_, ?_, ?_, ?_, ?_⟩
    all_goals first | (simp [-map_take,-map_drop, push_cast, dV_take, dV_drop]; done) | (simp [-map_take,-map_drop, push_cast, dV_take, dV_drop]; omega)

/-- A sum, digit by digit, is a number's row of digits. -/
theorem tens_ext {o : List Nat} {n : Nat} (hl : ∀ d ∈ o, d < B4) (hv : val B4 o = n) (ht : o = [] ∨ o[o.length - 1]? ≠ some 0) : tens n = o := by
  rw [← hv]; exact digits_val B4_gt hl ht
theorem tens_get_ge {n i : Nat} (h : (tens n).length ≤ i) : dg (tens n) i = 0 := dg_ge h

theorem tens_drop_pos {n i : Nat} (h : i < (tens n).length) : 0 < val B4 ((tens n).drop i) := by
  rcases Nat.eq_zero_or_pos (val B4 ((tens n).drop i)) with h0 | h0
  · have h1 := val_split B4 (tens n) i (by omega)
    rw [h0, Nat.mul_zero, Nat.add_zero, val_tens] at h1
    have h2 := val_lt (B := B4) (by decide) ((tens n).take i) (fun d hd => tens_lt n d (List.mem_of_mem_take hd))
    rw [List.length_take, Nat.min_eq_left (by omega)] at h2
    have h3 := tens_len (n := n) (k := i) (by omega)
    omega
  · exact h0
theorem tens_drop_nil {n i : Nat} (h : (tens n).length ≤ i) : val B4 ((tens n).drop i) = 0 := by rw [List.drop_of_length_le h]; rfl
theorem tens_lt_pow (n : Nat) : n < B4 ^ (tens n).length := by
  have h := val_lt (B := B4) (by decide) (tens n) (tens_lt n)
  rwa [val_tens] at h
theorem tens_add_len (a b : Nat) : (tens (a + b)).length ≤ (tens a).length + (tens b).length + 1 := by
  refine tens_len ?_
  have h1 := tens_lt_pow a
  have h2 := tens_lt_pow b
  have h3 : B4 ^ (tens a).length ≤ B4 ^ ((tens a).length + (tens b).length) := Nat.pow_le_pow_right (by decide) (by omega)
  have h4 : B4 ^ (tens b).length ≤ B4 ^ ((tens a).length + (tens b).length) := Nat.pow_le_pow_right (by decide) (by omega)
  rw [Nat.pow_succ]
  have h5 : B4 ^ ((tens a).length + (tens b).length) * 2 ≤ B4 ^ ((tens a).length + (tens b).length) * B4 := Nat.mul_le_mul_left _ (by decide)
  omega
theorem add_rest (A B : List Nat) (i c : Nat) (hp : 0 < val B4 (A.drop i) + val B4 (B.drop i) + c) :
    tens (val B4 (A.drop i) + val B4 (B.drop i) + c) = (c + dg A i + dg B i) % 10000 :: tens (val B4 (A.drop (i + 1)) + val B4 (B.drop (i + 1)) + (c + dg A i + dg B i) / 10000) := by
  rw [tens_pos hp]
  have h1 := val_drop B4 A i
  have h2 := val_drop B4 B i
  have e : B4 = 10000 := rfl
  rw [e] at h1 h2 ⊢
  congr 1
  · omega
  · congr 1
    omega

theorem refAdd_ok (a b : Nat) (h : (tens a).length + (tens b).length ≤ 20000000) : Eval Try.prog 83 [rAV a, rAV b] (.ret (rAV (a + b))) := by
  refine Eval.intro Try.func83 rfl Try.call83 _ _ (Nat.le_of_ble_eq_true rfl) (by simp [-map_take,-map_drop, AV.refs, refsL, natAV, rAV, rC, dAV, dC, d3AV, d3C, push_cast]) fun hs0 => ?_
  obtain ⟨out, hout⟩ : ∃ o, o = rAV (a + b) := ⟨_, rfl⟩
  rw [← hout]
  repeat' (first
    | with_reducible apply W_seq
    | with_reducible refine W_region (by first | decide | (with_unfolding_all rfl)) ?_
    | (rw [vcn]; (try simp [-map_take,-map_drop, push_cast, rAV, rC, numC, ← tens.eq_1]))
    | fail)
  refine thenW_n ?_
  repeat' (first
    | with_reducible apply W_seq
    | with_reducible refine W_region (by first | decide | (with_unfolding_all rfl)) ?_
    | (rw [vcn]; (try simp [-map_take,-map_drop, push_cast]))
    | fail)
  refine thenW_n ?_
  refine W_nil 5 500 3 1 (by simp [-map_take,-map_drop, upd, mkS_env, entry_env, lk]) (by simp [-map_take,-map_drop, mkS_used, entry_used]) ?_
  repeat' (first
    | with_reducible first | apply thenW_n | apply W_seq | apply W_block
    | with_reducible refine W_region (by first | decide | (with_unfolding_all rfl)) ?_
    | (rw [vcn]; (try simp [-map_take,-map_drop, push_cast]))
    | fail)
  refine W_loopW (X := Nat × Nat × List Nat) (fun x => [(2, .bp 2 0), (3, .bp 3 0), (4, .bp 4 0), (5, .bs 500 1 0 x.2.2.length), (6, i64V x.2.1), (7, i64V x.1)])
    (fun x => [(2, .mut 37 [rC a]), (3, .mut 37 [rC b]), (4, .mut 37 [.v (.slice none 0 0)]), (500, .mut 3 (dV .i64 x.2.2))])
    (fun x => (tens (a + b)).length - x.1) (fun x => x.2.2.length = x.1 ∧ x.2.1 ≤ 1 ∧ x.2.2 ++ tens (val B4 ((tens a).drop x.1) + val B4 ((tens b).drop x.1) + x.2.1) = tens (a + b))
    (0, 0, []) id ⟨rfl, by simp [-map_take,-map_drop], by simp [-map_take,-map_drop, val_tens]⟩ ⟨?_, ?_, ?_, ?_, ?_, ?_⟩ fun x hx => ?_
  all_goals first | (with_reducible refine W_id ?_) | (simp [-map_take,-map_drop, push_cast, dV_take, dV_drop, rC, numC, ← tens.eq_1]; done)
  obtain ⟨i, c, o⟩ := x
  obtain ⟨hol, hc, ho⟩ := hx
  simp only at hol hc ho
  have hx : dg (tens a) i < 10000 := dg_lt (by decide) (tens_lt a) i
  have hy : dg (tens b) i < 10000 := dg_lt (by decide) (tens_lt b) i
  have hsl := tens_add_len a b
  have hoL := congrArg List.length ho
  rw [List.length_append] at hoL
  by_cases hend : (tens a).length ≤ i ∧ (tens b).length ≤ i ∧ c = 0
  · obtain ⟨e1, e2, e3⟩ := hend
    subst e3
    rw [tens_drop_nil e1, tens_drop_nil e2, Nat.add_zero, tens_zero, List.append_nil] at ho
    subst ho
    have g1 : (i < (tens a).length) = False := eq_false (by omega)
    have g2 : (i < (tens b).length) = False := eq_false (by omega)
    refine W_frz 500 (e := 3) (l := dV .i64 (tens (a + b))) (by simp [-map_take,-map_drop, mkS_box, lk]) (refsL_dV _ _) ?_
    have htk : (dV .i64 (tens (a + b))).take (tens (a + b)).length = dV .i64 (tens (a + b)) := List.take_of_length_le (by simp [-map_take,-map_drop])
    repeat' (first
      | with_reducible first | apply thenW_n | apply thenW_exit | apply blockW_same | apply loopW_exit | apply W_seq | apply W_ret | apply W_exit
      | with_reducible refine W_region (by first | decide | (with_unfolding_all rfl)) ?_
      | (rw [vcn]; (try simp [-map_take,-map_drop, push_cast, rC, numC, ← tens.eq_1, g1, g2]))
      | (with_reducible refine W_condW ?_; (try simp [-map_take,-map_drop, AS.val, upd, resB, mkS_env, mkS_box, lk, entry_env, condW_true, condW_false, rC, numC, ← tens.eq_1, g1, g2]))
      | fail)
    simp [-map_take,-map_drop, post, resAV, resAll, resOne, closeV, closeC, closeL, resD, resDL, push_cast, hout, htk, rAV, rC, numC, ← tens.eq_1]
  · have hp : 0 < val B4 ((tens a).drop i) + val B4 ((tens b).drop i) + c := by
      by_cases h1 : i < (tens a).length
      · have := tens_drop_pos h1; omega
      · by_cases h2 : i < (tens b).length
        · have := tens_drop_pos h2; omega
        · omega
    have hst := add_rest (tens a) (tens b) i c hp
    have hl1 : 0 < (tens (val B4 ((tens a).drop i) + val B4 ((tens b).drop i) + c)).length := by rw [hst]; simp [-map_take,-map_drop]
    have hI : (o ++ [(c + dg (tens a) i + dg (tens b) i) % 10000]) ++ tens (val B4 ((tens a).drop (i + 1)) + val B4 ((tens b).drop (i + 1)) + (c + dg (tens a) i + dg (tens b) i) / 10000) = tens (a + b) := by
      rw [List.append_assoc, ← ho, hst]; rfl
    have hm : ((c : Int) + (dg (tens a) i : Int) + (dg (tens b) i : Int)).tmod 10000 = (((c + dg (tens a) i + dg (tens b) i) % 10000 : Nat) : Int) := by rw [Int.tmod_eq_emod_of_nonneg (by omega)]; omega
    have hd : ((c : Int) + (dg (tens a) i : Int) + (dg (tens b) i : Int)).tdiv 10000 = (((c + dg (tens a) i + dg (tens b) i) / 10000 : Nat) : Int) := by rw [Int.tdiv_eq_ediv_of_nonneg (by omega)]; omega
    have hc2 : (c + dg (tens a) i + dg (tens b) i) / 10000 ≤ 1 := by omega
    obtain ⟨s, hs⟩ : ∃ s, s = (c + dg (tens a) i + dg (tens b) i) % 10000 := ⟨_, rfl⟩
    obtain ⟨c', hcc⟩ : ∃ s, s = (c + dg (tens a) i + dg (tens b) i) / 10000 := ⟨_, rfl⟩
    rw [← hs] at hI hm
    rw [← hcc] at hI hd hc2
    have hi1 : IntKind.i64.wrap ((i : Int) + 1) = ((i + 1 : Nat) : Int) := by rw [i64_in _ (by omega)]; omega
    by_cases h1 : i < (tens a).length
    · have g1 : (i < (tens a).length) = True := eq_true h1
      by_cases h2 : i < (tens b).length
      · have g2 : (i < (tens b).length) = True := eq_true h2
        repeat' (first
          | with_reducible first | apply thenW_n | apply blockW_n | apply W_seq | apply W_block | apply W_skip
          | with_reducible refine W_region (by first | decide | (with_unfolding_all rfl)) ?_
          | (rw [vcn]; (try simp [-map_take,-map_drop, push_cast, rC, numC, ← tens.eq_1, g1, g2, hm, hd, hi1]); try simp (disch := omega) only [i64_in, u64_in, shr64i])
          | (with_reducible refine W_condW ?_; (try simp [-map_take,-map_drop, AS.val, upd, resB, mkS_env, mkS_box, lk, entry_env, condW_true, condW_false, rC, numC, ← tens.eq_1, g1, g2, hm, hd, hi1]))
          | refine And.intro (by first | omega | kernel_rfl) ?_
          | fail)
        refine loopW_n (i + 1, c', o ++ [s]) (fun i => if i = 500 then 54 else i) (by simp only; omega) ⟨by simp [-map_take,-map_drop, hol], hc2, hI⟩ ⟨?_, ?_, ?_, ?_, ?_, ?_⟩
        all_goals first | (simp [-map_take,-map_drop, push_cast, dV_take, dV_drop, rC, numC, ← tens.eq_1, hol]; done) | (simp [-map_take,-map_drop, push_cast, dV_take, dV_drop, rC, numC, ← tens.eq_1, hol]; omega)
      · have g2 : (i < (tens b).length) = False := eq_false h2
        have e2 : dg (tens b) i = 0 := dg_ge (by omega)
        rw [e2, Int.ofNat_zero, Int.add_zero] at hm hd
        repeat' (first
          | with_reducible first | apply thenW_n | apply blockW_n | apply W_seq | apply W_block | apply W_skip
          | with_reducible refine W_region (by first | decide | (with_unfolding_all rfl)) ?_
          | (rw [vcn]; (try simp [-map_take,-map_drop, push_cast, rC, numC, ← tens.eq_1, g1, g2, hm, hd, hi1]); try simp (disch := omega) only [i64_in, u64_in, shr64i])
          | (with_reducible refine W_condW ?_; (try simp [-map_take,-map_drop, AS.val, upd, resB, mkS_env, mkS_box, lk, entry_env, condW_true, condW_false, rC, numC, ← tens.eq_1, g1, g2, hm, hd, hi1]))
          | refine And.intro (by first | omega | kernel_rfl) ?_
          | fail)
        refine loopW_n (i + 1, c', o ++ [s]) (fun i => if i = 500 then 54 else i) (by simp only; omega) ⟨by simp [-map_take,-map_drop, hol], hc2, hI⟩ ⟨?_, ?_, ?_, ?_, ?_, ?_⟩
        all_goals first | (simp [-map_take,-map_drop, push_cast, dV_take, dV_drop, rC, numC, ← tens.eq_1, hol]; done) | (simp [-map_take,-map_drop, push_cast, dV_take, dV_drop, rC, numC, ← tens.eq_1, hol]; omega)
    · have g1 : (i < (tens a).length) = False := eq_false h1
      have e1 : dg (tens a) i = 0 := dg_ge (by omega)
      rw [e1, Int.ofNat_zero, Int.add_zero] at hm hd
      by_cases h2 : i < (tens b).length
      · have g2 : (i < (tens b).length) = True := eq_true h2
        repeat' (first
          | with_reducible first | apply thenW_n | apply blockW_n | apply W_seq | apply W_block | apply W_skip
          | with_reducible refine W_region (by first | decide | (with_unfolding_all rfl)) ?_
          | (rw [vcn]; (try simp [-map_take,-map_drop, push_cast, rC, numC, ← tens.eq_1, g1, g2, hm, hd, hi1]); try simp (disch := omega) only [i64_in, u64_in, shr64i])
          | (with_reducible refine W_condW ?_; (try simp [-map_take,-map_drop, AS.val, upd, resB, mkS_env, mkS_box, lk, entry_env, condW_true, condW_false, rC, numC, ← tens.eq_1, g1, g2, hm, hd, hi1]))
          | refine And.intro (by first | omega | kernel_rfl) ?_
          | fail)
        refine loopW_n (i + 1, c', o ++ [s]) (fun i => if i = 500 then 54 else i) (by simp only; omega) ⟨by simp [-map_take,-map_drop, hol], hc2, hI⟩ ⟨?_, ?_, ?_, ?_, ?_, ?_⟩
        all_goals first | (simp [-map_take,-map_drop, push_cast, dV_take, dV_drop, rC, numC, ← tens.eq_1, hol]; done) | (simp [-map_take,-map_drop, push_cast, dV_take, dV_drop, rC, numC, ← tens.eq_1, hol]; omega)
      · have g2 : (i < (tens b).length) = False := eq_false h2
        have e2 : dg (tens b) i = 0 := dg_ge (by omega)
        rw [e2, Int.ofNat_zero, Int.add_zero] at hm hd
        have hc1 : c = 1 := by omega
        subst hc1
        repeat' (first
          | with_reducible first | apply thenW_n | apply blockW_n | apply W_seq | apply W_block | apply W_skip
          | with_reducible refine W_region (by first | decide | (with_unfolding_all rfl)) ?_
          | (rw [vcn]; (try simp [-map_take,-map_drop, push_cast, rC, numC, ← tens.eq_1, g1, g2, hm, hd, hi1]); try simp (disch := omega) only [i64_in, u64_in, shr64i])
          | (with_reducible refine W_condW ?_; (try simp [-map_take,-map_drop, AS.val, upd, resB, mkS_env, mkS_box, lk, entry_env, condW_true, condW_false, rC, numC, ← tens.eq_1, g1, g2, hm, hd, hi1]))
          | refine And.intro (by first | omega | kernel_rfl) ?_
          | fail)
        refine loopW_n (i + 1, c', o ++ [s]) (fun i => if i = 500 then 54 else i) (by simp only; omega) ⟨by simp [-map_take,-map_drop, hol], hc2, hI⟩ ⟨?_, ?_, ?_, ?_, ?_, ?_⟩
        all_goals first | (simp [-map_take,-map_drop, push_cast, dV_take, dV_drop, rC, numC, ← tens.eq_1, hol]; done) | (simp [-map_take,-map_drop, push_cast, dV_take, dV_drop, rC, numC, ← tens.eq_1, hol]; omega)

theorem made_zero (s : Int) : Eval Try.prog 82 [i64V s, rAV 0] (.ret (dAV 0)) := by
  refine Eval.out (r := .agg [i64V 0, .v (.slice none 0 0)]) ?_ (Sub.agg ⟨Sub.refl _, numC_sub _ _ _, trivial⟩) rfl rfl (fun _ h => by cases h) (fun _ h => by cases h)
  refine Eval.intro Try.func82 rfl Try.call82 _ _ (Nat.le_of_ble_eq_true rfl) (by simp [-map_take,-map_drop, AV.refs, refsL, natAV, rAV, rC, dAV, dC, d3AV, d3C, push_cast]) fun hs0 => ?_
  have e : tens 0 = [] := rfl
  repeat' (first
    | with_reducible first | apply thenW_n | apply thenW_ret | apply W_seq | apply W_ret
    | with_reducible refine W_region (by first | decide | (with_unfolding_all rfl)) ?_
    | (rw [vcn]; (try simp [-map_take,-map_drop, push_cast, rAV, rC, numC, ← tens.eq_1, e]))
    | (with_reducible refine W_condW ?_; (try simp [-map_take,-map_drop, AS.val, upd, resB, mkS_env, mkS_box, lk, entry_env, condW_true, condW_false, rAV, rC, numC, ← tens.eq_1, e]))
    | fail)
  simp [-map_take,-map_drop, post, resAV, resAll, resOne, closeV, closeC, closeL, resD, resDL, push_cast, dAV, dC, rC, numC, ← tens.eq_1, e]
theorem made_pos (s : Int) (n : Nat) (h : 0 < n) : Eval Try.prog 82 [i64V s, rAV n] (.ret (.agg [i64V s, rC n])) := by
  refine Eval.intro Try.func82 rfl Try.call82 _ _ (Nat.le_of_ble_eq_true rfl) (by simp [-map_take,-map_drop, AV.refs, refsL, natAV, rAV, rC, dAV, dC, d3AV, d3C, push_cast]) fun hs0 => ?_
  have e : ¬ tens n = [] := fun k => by have := tens_nil.1 k; omega
  repeat' (first
    | with_reducible first | apply thenW_n | apply W_seq | apply W_skip | apply W_ret
    | with_reducible refine W_region (by first | decide | (with_unfolding_all rfl)) ?_
    | (rw [vcn]; (try simp [-map_take,-map_drop, push_cast, rAV, rC, numC, ← tens.eq_1, e]))
    | (with_reducible refine W_condW ?_; (try simp [-map_take,-map_drop, AS.val, upd, resB, mkS_env, mkS_box, lk, entry_env, condW_true, condW_false, rAV, rC, numC, ← tens.eq_1, e]))
    | ((with_reducible refine condW_b (fun hc => ?_) (fun hc => ?_) <;> (try simp [-map_take,-map_drop, Int.ofNat_inj] at hc) <;> (try contradiction)))
    | fail)
  simp [-map_take,-map_drop, post, resAV, resAll, resOne, closeV, closeC, closeL, resD, resDL, push_cast, dAV, dC, rC, numC, ← tens.eq_1, e]
theorem made02_ok (z : Int) : Eval Try.prog 82 [i64V z.sign, rAV z.natAbs] (.ret (dAV z)) := by
  by_cases h : z = 0
  · subst h; exact made_zero _
  · exact made_pos _ _ (by omega)
/-- With any sign, of what is not 0. -/
theorem made02_ok' (s : Int) (n : Nat) (z : Int) (h1 : n = z.natAbs) (h2 : n ≠ 0 → s = z.sign) : Eval Try.prog 82 [i64V s, rAV n] (.ret (dAV z)) := by
  by_cases h : z = 0
  · subst h; subst h1; exact made_zero _
  · subst h1
    have := h2 (by omega)
    subst this
    exact made_pos _ _ (by omega)

theorem of02_ok (z : Int) (hz : inI z) : Eval Try.prog 57 [i64V z] (.ret (dAV z)) := by
  refine Eval.intro Try.func57 rfl Try.call57 _ _ (Nat.le_of_ble_eq_true rfl) (by simp [-map_take,-map_drop, AV.refs, refsL, natAV, rAV, rC, dAV, dC, d3AV, d3C, push_cast]) fun hs0 => ?_
  unfold inI at hz
  by_cases h : z < 0
  · have g1 : (z < 0) = True := eq_true h
    have w1 : IntKind.i64.wrap (z + 1) = z + 1 := i64_in _ (by omega)
    have w2 : IntKind.i64.wrap (-(z + 1)) = ((z.natAbs - 1 : Nat) : Int) := by rw [i64_in _ (by omega)]; omega
    have w3 : IntKind.u64.wrap ((z.natAbs - 1 : Nat) : Int) = ((z.natAbs - 1 : Nat) : Int) := u64_in _ (by omega)
    have e1 := refOf_ok (z.natAbs - 1) (by omega)
    have e2 := refOf_ok 1 (by decide)
    have hs : (tens (z.natAbs - 1)).length ≤ 5 := tens_len (Nat.lt_of_lt_of_le (by omega : z.natAbs - 1 < 18446744073709551616) (by decide))
    have hs1 : (tens 1).length ≤ 5 := by decide
    have e3 := refAdd_ok (z.natAbs - 1) 1 (by omega)
    have o1 : z.natAbs - 1 + 1 = z.natAbs := by omega
    rw [o1] at e3
    have e4 := made02_ok' (-1) z.natAbs z rfl (fun _ => by rw [Int.sign_eq_neg_one_of_neg h])
    obtain ⟨m, hm⟩ : ∃ m, m = z.natAbs - 1 := ⟨_, rfl⟩
    rw [← hm] at w2 w3 e1 e3
    repeat' (first
      | with_reducible first | apply thenW_n | apply W_seq
      | with_reducible refine W_region (by first | decide | (with_unfolding_all rfl)) ?_
      | (rw [vcn]; (try simp [-map_take,-map_drop, push_cast, g1, w1, w2, w3]))
      | (with_reducible refine W_condW ?_; (try simp [-map_take,-map_drop, AS.val, upd, resB, mkS_env, mkS_box, lk, entry_env, condW_true, condW_false, g1, w1, w2, w3]))
      | fail)
    refine CallG_of (e1) rfl rfl rfl ?_
    try dsimp only
    repeat' (first
      | (rw [vcn]; (try simp [-map_take,-map_drop, push_cast]))
      | fail)
    refine CallG_of (e2) rfl rfl rfl ?_
    try dsimp only
    repeat' (first
      | (rw [vcn]; (try simp [-map_take,-map_drop, push_cast]))
      | fail)
    refine CallG_of (e3) rfl rfl rfl ?_
    try dsimp only
    repeat' (first
      | (rw [vcn]; (try simp [-map_take,-map_drop, push_cast]))
      | fail)
    refine CallG_of (e4) rfl rfl rfl ?_
    try dsimp only
    repeat' (first
      | with_reducible first | apply thenW_n | apply thenW_ret | apply W_ret
      | (rw [vcn]; (try simp [-map_take,-map_drop, push_cast, dAV, dC]))
      | fail)
    simp [-map_take,-map_drop, post, resAV, resAll, resOne, closeV, closeC, closeL, resD, resDL, push_cast, dAV, dC]
  · have g1 : (z < 0) = False := eq_false h
    obtain ⟨n, hn⟩ : ∃ n : Nat, z = n := ⟨z.toNat, by omega⟩
    subst hn
    have w1 : IntKind.u64.wrap (n : Int) = (n : Int) := u64_in _ (by omega)
    have e1 := refOf_ok n (by omega)
    have e4 := made02_ok' 1 n n rfl (fun h0 => by rw [Int.sign_eq_one_of_pos (by omega)])
    repeat' (first
      | with_reducible first | apply thenW_n | apply W_seq | apply W_skip
      | with_reducible refine W_region (by first | decide | (with_unfolding_all rfl)) ?_
      | (rw [vcn]; (try simp [-map_take,-map_drop, push_cast, g1, w1]))
      | (with_reducible refine W_condW ?_; (try simp [-map_take,-map_drop, AS.val, upd, resB, mkS_env, mkS_box, lk, entry_env, condW_true, condW_false, g1, w1]))
      | fail)
    refine CallG_of (e1) rfl rfl rfl ?_
    try dsimp only
    repeat' (first
      | (rw [vcn]; (try simp [-map_take,-map_drop, push_cast]))
      | fail)
    refine CallG_of (e4) rfl rfl rfl ?_
    try dsimp only
    repeat' (first
      | with_reducible first | apply thenW_n | apply W_ret
      | (rw [vcn]; (try simp [-map_take,-map_drop, push_cast, dAV, dC]))
      | fail)
    simp [-map_take,-map_drop, post, resAV, resAll, resOne, closeV, closeC, closeL, resD, resDL, push_cast, dAV, dC]

theorem at11_ok (x y d : Int) (hx : inI x) (hy : inI y) : Eval Try.prog 24 [.agg [i64V x, i64V y, i64V d]] (.ret (d3AV x y (underI d))) := by
  refine Eval.intro Try.func24 rfl Try.call24 _ _ (Nat.le_of_ble_eq_true rfl) (by simp [-map_take,-map_drop, AV.refs, refsL, natAV, rAV, rC, dAV, dC, d3AV, d3C, push_cast]) fun hs0 => ?_
  have e1 := of02_ok x hx
  have e2 := of02_ok y hy
  have hu : inI (underI d) := by unfold inI underI; omega
  have e3 := of02_ok _ hu
  have u1 := under_ok x y d
  obtain ⟨w, hw⟩ : ∃ w, w = underI d := ⟨_, rfl⟩
  rw [← hw] at e3 u1 ⊢
  repeat' (first
    | with_reducible first | apply thenW_n | apply W_seq
    | with_reducible refine W_region (by first | decide | (with_unfolding_all rfl)) ?_
    | (rw [vcn]; (try simp [-map_take,-map_drop, push_cast]))
    | with_reducible refine W_drawn mixed (by decide) (by kernel_rfl) ?_
    | (rw [vcnD]; (try simp [-map_take,-map_drop, push_cast]))
    | fail)
  refine callD_of (e1) rfl rfl rfl ?_
  try dsimp only
  repeat' (first
    | (rw [vcnD]; (try simp [-map_take,-map_drop, push_cast]))
    | fail)
  refine callD_of (e2) rfl rfl rfl ?_
  try dsimp only
  repeat' (first
    | (rw [vcnD]; (try simp [-map_take,-map_drop, push_cast]))
    | fail)
  refine callD_of (u1) rfl rfl rfl ?_
  try dsimp only
  repeat' (first
    | (rw [vcnD]; (try simp [-map_take,-map_drop, push_cast]))
    | fail)
  refine callD_of (e3) rfl rfl rfl ?_
  try dsimp only
  repeat' (first
    | with_reducible first | apply thenW_n | apply W_ret
    | (rw [vcnD]; (try simp [-map_take,-map_drop, push_cast, dAV, dC]))
    | refine And.intro (by first | omega | kernel_rfl) ?_
    | fail)
  simp [-map_take,-map_drop, post, resAV, resAll, resOne, closeV, closeC, closeL, resD, resDL, push_cast, d3AV, d3C, dAV, dC]
end Go.Fw
