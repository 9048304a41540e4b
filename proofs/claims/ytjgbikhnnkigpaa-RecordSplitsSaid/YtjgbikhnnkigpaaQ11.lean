/- Layer 6: whether two lists of records are the same. -/
import Derived.Test.YtjgbikhnnkigpaaQ9
set_option linter.unusedSimpArgs false
set_option linter.unusedVariables false
-- VALS: recAV
namespace Go.Fw
open Go Go.Proofs Go.IntWalk
set_option linter.unusedSimpArgs false
set_option maxRecDepth 100000
set_option maxHeartbeats 400000
open List (map_take map_drop)
attribute [local push_cast] optK_some optK_none optK_ite optK_map optK_bind gOn stepK isMem evPure evMem evBin evUn evConv evLen evBuiltin evMinMax evSlice evBuild evAppend evIndex evIndexAddr evField evFieldAddr intBin strBin appDest AS.val AS.mem AS.elems AS.put AS.put' AS.eff AV.cells? AV.isCell AV.refs all_isByte take_byteV drop_byteV strOf_map bndOk bnd partAV ptrAdd killBox catA inOrder fillA setAt ofVal resB upd byteV List.head?_take List.head?_drop List.getElem?_map mkS_env mkS_box mkS_used entry_env entry_box entry_used lk stepD lookIds Oper.looksAt Op.operands Call.operands St.ids refsL renL_append dV_take dV_drop ren renL renBox Box.refs iV i64V boolV dV_getElem dV_app dV_cons toNat_add2 toNat_add1
def sameR (r s : Rec) : Bool := r.1 == s.1 && r.2.1 == s.2.1 && r.2.2 == s.2.2
theorem sameR_iff (r s : Rec) : sameR r s = true ↔ r = s := by
  obtain ⟨a, b, c⟩ := r
  obtain ⟨a', b', c'⟩ := s
  simp [-map_take,-map_drop, sameR, and_assoc]
theorem same1_ok (k d k' d' : UInt8) (b b' : List UInt8) : Eval Try.prog 49 [recAV k d b, recAV k' d' b'] (.ret (.v (.bool (sameR (k, d, b) (k', d', b'))))) := by
  refine Eval.intro Try.func49 rfl Try.call49 _ _ (Nat.le_of_ble_eq_true rfl) (by simp [-map_take,-map_drop, AV.refs, refsL, natAV, recAV, push_cast]) fun hs0 => ?_
  have ne : ∀ x y : UInt8, ¬ x = y → ((x.toNat : Int) = (y.toNat : Int)) = False := fun x y h => eq_false fun h' => h (UInt8.toNat_inj.1 (by omega))
  by_cases h1 : ¬ k = k'
  · have g1 := ne _ _ h1
    have g2 : (k == k') = false := by simp [-map_take,-map_drop, h1]
    repeat' (first
      | with_reducible first | apply thenW_n | apply thenW_ret | apply thenW_exit | apply thenW_panic | apply blockW_n | apply blockW_same | apply blockW_ret | apply blockW_panic | apply loopW_ret | apply loopW_exit | apply loopW_panic | apply joinW_ret | apply joinW_exit | apply joinW_panic | apply W_seq | apply W_block | apply W_skip | apply W_ret | apply W_exit | apply W_label
      | with_reducible refine blockW_other (by decide) ?_
      | with_reducible refine W_rg ?_
      | (rw [vcn]; (try simp [-map_take,-map_drop, push_cast, recAV, g1]); try simp (disch := omega) only [i64_in, u64_in, shr64i])
      | with_reducible refine W_drawn mixed (by decide) (by kernel_rfl) ?_
      | (rw [vcnD]; (try simp [-map_take,-map_drop, push_cast, recAV, g1]); try simp (disch := omega) only [i64_in, u64_in, shr64i])
      | (with_reducible refine W_condW ?_; (try simp [-map_take,-map_drop, AS.val, upd, resB, mkS_env, mkS_box, lk, entry_env, condW_true, condW_false, recAV, g1]))
      | (with_reducible refine optK_dV (by first | omega | (simp [-map_take,-map_drop]; omega)) ?_)
      | with_reducible refine optK_dVh (by omega) ?_
      | refine And.intro (by first | omega | kernel_rfl) ?_
      | ((with_reducible refine condW_b (fun hc => ?_) (fun hc => ?_) <;> (try simp [-map_take,-map_drop, Int.ofNat_inj] at hc) <;> (try contradiction)))
      | fail)
    simp [-map_take,-map_drop, post, resAV, resAll, resOne, closeV, closeC, closeL, resD, resDL, push_cast, sameR, g1, g2]
  have h1 : k = k' := by simpa [-map_take,-map_drop] using h1
  subst h1
  by_cases h2 : ¬ d = d'
  · have g1 := ne _ _ h2
    have g2 : (d == d') = false := by simp [-map_take,-map_drop, h2]
    repeat' (first
      | with_reducible first | apply thenW_n | apply thenW_ret | apply thenW_exit | apply thenW_panic | apply blockW_n | apply blockW_same | apply blockW_ret | apply blockW_panic | apply loopW_ret | apply loopW_exit | apply loopW_panic | apply joinW_ret | apply joinW_exit | apply joinW_panic | apply W_seq | apply W_block | apply W_skip | apply W_ret | apply W_exit | apply W_label
      | with_reducible refine blockW_other (by decide) ?_
      | with_reducible refine W_rg ?_
      | (rw [vcn]; (try simp [-map_take,-map_drop, push_cast, recAV, g1]); try simp (disch := omega) only [i64_in, u64_in, shr64i])
      | with_reducible refine W_drawn mixed (by decide) (by kernel_rfl) ?_
      | (rw [vcnD]; (try simp [-map_take,-map_drop, push_cast, recAV, g1]); try simp (disch := omega) only [i64_in, u64_in, shr64i])
      | (with_reducible refine W_condW ?_; (try simp [-map_take,-map_drop, AS.val, upd, resB, mkS_env, mkS_box, lk, entry_env, condW_true, condW_false, recAV, g1]))
      | (with_reducible refine optK_dV (by first | omega | (simp [-map_take,-map_drop]; omega)) ?_)
      | with_reducible refine optK_dVh (by omega) ?_
      | refine And.intro (by first | omega | kernel_rfl) ?_
      | ((with_reducible refine condW_b (fun hc => ?_) (fun hc => ?_) <;> (try simp [-map_take,-map_drop, Int.ofNat_inj] at hc) <;> (try contradiction)))
      | fail)
    simp [-map_take,-map_drop, post, resAV, resAll, resOne, closeV, closeC, closeL, resD, resDL, push_cast, sameR, g1, g2]
  have h2 : d = d' := by simpa [-map_take,-map_drop] using h2
  subst h2
  by_cases h3 : ¬ b = b'
  · have g1 : (b = b') = False := by simp [-map_take,-map_drop, h3]
    have g2 : (b == b') = false := by simp [-map_take,-map_drop, h3]
    repeat' (first
      | with_reducible first | apply thenW_n | apply thenW_ret | apply thenW_exit | apply thenW_panic | apply blockW_n | apply blockW_same | apply blockW_ret | apply blockW_panic | apply loopW_ret | apply loopW_exit | apply loopW_panic | apply joinW_ret | apply joinW_exit | apply joinW_panic | apply W_seq | apply W_block | apply W_skip | apply W_ret | apply W_exit | apply W_label
      | with_reducible refine blockW_other (by decide) ?_
      | with_reducible refine W_rg ?_
      | (rw [vcn]; (try simp [-map_take,-map_drop, push_cast, recAV, g1]); try simp (disch := omega) only [i64_in, u64_in, shr64i])
      | with_reducible refine W_drawn mixed (by decide) (by kernel_rfl) ?_
      | (rw [vcnD]; (try simp [-map_take,-map_drop, push_cast, recAV, g1]); try simp (disch := omega) only [i64_in, u64_in, shr64i])
      | (with_reducible refine W_condW ?_; (try simp [-map_take,-map_drop, AS.val, upd, resB, mkS_env, mkS_box, lk, entry_env, condW_true, condW_false, recAV, g1]))
      | (with_reducible refine optK_dV (by first | omega | (simp [-map_take,-map_drop]; omega)) ?_)
      | with_reducible refine optK_dVh (by omega) ?_
      | refine And.intro (by first | omega | kernel_rfl) ?_
      | ((with_reducible refine condW_b (fun hc => ?_) (fun hc => ?_) <;> (try simp [-map_take,-map_drop, Int.ofNat_inj] at hc) <;> (try contradiction)))
      | fail)
    simp [-map_take,-map_drop, post, resAV, resAll, resOne, closeV, closeC, closeL, resD, resDL, push_cast, sameR, g2]
  have h3 : b = b' := by simpa [-map_take,-map_drop] using h3
  subst h3
  repeat' (first
    | with_reducible first | apply thenW_n | apply thenW_ret | apply thenW_exit | apply thenW_panic | apply blockW_n | apply blockW_same | apply blockW_ret | apply blockW_panic | apply loopW_ret | apply loopW_exit | apply loopW_panic | apply joinW_ret | apply joinW_exit | apply joinW_panic | apply W_seq | apply W_block | apply W_skip | apply W_ret | apply W_exit | apply W_label
    | with_reducible refine blockW_other (by decide) ?_
    | with_reducible refine W_rg ?_
    | (rw [vcn]; (try simp [-map_take,-map_drop, push_cast, recAV]); try simp (disch := omega) only [i64_in, u64_in, shr64i])
    | with_reducible refine W_drawn mixed (by decide) (by kernel_rfl) ?_
    | (rw [vcnD]; (try simp [-map_take,-map_drop, push_cast, recAV]); try simp (disch := omega) only [i64_in, u64_in, shr64i])
    | (with_reducible refine W_condW ?_; (try simp [-map_take,-map_drop, AS.val, upd, resB, mkS_env, mkS_box, lk, entry_env, condW_true, condW_false, recAV]))
    | (with_reducible refine optK_dV (by first | omega | (simp [-map_take,-map_drop]; omega)) ?_)
    | with_reducible refine optK_dVh (by omega) ?_
    | refine And.intro (by first | omega | kernel_rfl) ?_
    | ((with_reducible refine condW_b (fun hc => ?_) (fun hc => ?_) <;> (try simp [-map_take,-map_drop, Int.ofNat_inj] at hc) <;> (try contradiction)))
    | fail)
  simp [-map_take,-map_drop, post, resAV, resAll, resOne, closeV, closeC, closeL, resD, resDL, push_cast, sameR]
theorem same_ok (f g : Bool) (l m : List Rec) : Eval Try.prog 21 [.slc f 3 l.length (recsCells l), .slc g 3 m.length (recsCells m)] (.ret (.v (.bool (decide (l = m))))) := by
  refine Eval.intro Try.func21 rfl Try.call21 _ _ (Nat.le_of_ble_eq_true rfl) (by simp [-map_take,-map_drop, AV.refs, refsL, natAV, recAV, push_cast]) fun hs0 => ?_
  have hn64 : l.length ≤ 9223372036854775807 := hs0.1.1
  have hlen := recsCells_len l
  have hat := recsCells_at l
  have hLr := recsCells_refs l
  have hlen2 := recsCells_len m
  have hat2 := recsCells_at m
  have hMr := recsCells_refs m
  obtain ⟨n, hn⟩ : ∃ n, n = l.length := ⟨_, rfl⟩
  obtain ⟨L, hL⟩ : ∃ L, L = recsCells l := ⟨_, rfl⟩
  obtain ⟨k, hk⟩ : ∃ k, k = m.length := ⟨_, rfl⟩
  obtain ⟨K, hK⟩ : ∃ K, K = recsCells m := ⟨_, rfl⟩
  obtain ⟨res, hres⟩ : ∃ b, b = decide (l = m) := ⟨_, rfl⟩
  rw [← hL] at hlen hat hLr ⊢
  rw [← hK] at hlen2 hat2 hMr ⊢
  rw [← hn] at hlen hn64 ⊢
  rw [← hk] at hlen2 ⊢
  rw [← hres]
  clear hs0 hL hK
  by_cases hnk : ¬ n = k
  · have g1 : ((n : Int) = (k : Int)) = False := eq_false (by omega)
    have g2 : (n = k) = False := eq_false hnk
    have hr : res = false := by
      rw [hres, decide_eq_false_iff_not]
      intro h
      rw [h] at hn
      omega
    repeat' (first
      | with_reducible first | apply thenW_n | apply thenW_ret | apply thenW_exit | apply thenW_panic | apply blockW_n | apply blockW_same | apply blockW_ret | apply blockW_panic | apply loopW_ret | apply loopW_exit | apply loopW_panic | apply joinW_ret | apply joinW_exit | apply joinW_panic | apply W_seq | apply W_block | apply W_skip | apply W_ret | apply W_exit | apply W_label
      | with_reducible refine blockW_other (by decide) ?_
      | with_reducible refine W_rg ?_
      | (rw [vcn]; (try simp [-map_take,-map_drop, push_cast, g1, g2]); try simp (disch := omega) only [i64_in, u64_in, shr64i])
      | with_reducible refine W_drawn mixed (by decide) (by kernel_rfl) ?_
      | (rw [vcnD]; (try simp [-map_take,-map_drop, push_cast, g1, g2]); try simp (disch := omega) only [i64_in, u64_in, shr64i])
      | (with_reducible refine W_condW ?_; (try simp [-map_take,-map_drop, AS.val, upd, resB, mkS_env, mkS_box, lk, entry_env, condW_true, condW_false, g1, g2]))
      | (with_reducible refine optK_dV (by first | omega | (simp [-map_take,-map_drop]; omega)) ?_)
      | with_reducible refine optK_dVh (by omega) ?_
      | refine And.intro (by first | omega | kernel_rfl) ?_
      | ((with_reducible refine condW_b (fun hc => ?_) (fun hc => ?_) <;> (try simp [-map_take,-map_drop, Int.ofNat_inj] at hc) <;> (try contradiction)))
      | fail)
    simp [-map_take,-map_drop, post, resAV, resAll, resOne, closeV, closeC, closeL, resD, resDL, push_cast, hr]
  have hnk : n = k := by simpa [-map_take,-map_drop] using hnk
  subst hnk
  repeat' (first
    | with_reducible first | apply thenW_n | apply thenW_ret | apply thenW_exit | apply thenW_panic | apply blockW_n | apply blockW_same | apply blockW_ret | apply blockW_panic | apply loopW_ret | apply loopW_exit | apply loopW_panic | apply joinW_ret | apply joinW_exit | apply joinW_panic | apply W_seq | apply W_block | apply W_skip | apply W_ret | apply W_exit | apply W_label
    | with_reducible refine blockW_other (by decide) ?_
    | with_reducible refine W_rg ?_
    | (rw [vcn]; (try simp [-map_take,-map_drop, push_cast]); try simp (disch := omega) only [i64_in, u64_in, shr64i])
    | with_reducible refine W_drawn mixed (by decide) (by kernel_rfl) ?_
    | (rw [vcnD]; (try simp [-map_take,-map_drop, push_cast]); try simp (disch := omega) only [i64_in, u64_in, shr64i])
    | (with_reducible refine W_condW ?_; (try simp [-map_take,-map_drop, AS.val, upd, resB, mkS_env, mkS_box, lk, entry_env, condW_true, condW_false]))
    | (with_reducible refine optK_dV (by first | omega | (simp [-map_take,-map_drop]; omega)) ?_)
    | with_reducible refine optK_dVh (by omega) ?_
    | refine And.intro (by first | omega | kernel_rfl) ?_
    | ((with_reducible refine condW_b (fun hc => ?_) (fun hc => ?_) <;> (try simp [-map_take,-map_drop, Int.ofNat_inj] at hc) <;> (try contradiction)))
    | fail)
  refine W_loopW (X := Nat) (fun i => [(0, .slc f 3 n L), (1, .slc g 3 n K), (5, i64V i)]) (fun _ => []) (fun i => n - i)
    (fun i => i ≤ n ∧ l.take i = m.take i) 0 id ⟨Nat.zero_le _, rfl⟩ ⟨?_, ?_, ?_, ?_, ?_, ?_⟩ fun i hx => ?_
  all_goals first | (with_reducible refine W_id ?_) | (simp [-map_take,-map_drop, push_cast, hLr, hMr]; done) | (simp [-map_take,-map_drop, push_cast, hLr, hMr]; omega) | (intro i hi; simp [-map_take,-map_drop]; omega) | (intro i hi; dsimp only; (repeat' split) <;> omega) | (simp [-map_take,-map_drop, push_cast, hLr, hMr]; fail_if_success done)
  obtain ⟨hi, hI⟩ := hx
  by_cases hlt : ¬ i < n
  · have g1 : (i < n) = False := by simp [-map_take,-map_drop]; omega
    have hr : res = true := by
      rw [hres, decide_eq_true_eq]
      rwa [List.take_of_length_le (by omega), List.take_of_length_le (by omega)] at hI
    repeat' (first
      | with_reducible first | apply thenW_n | apply thenW_ret | apply thenW_exit | apply thenW_panic | apply blockW_n | apply blockW_same | apply blockW_ret | apply blockW_panic | apply loopW_ret | apply loopW_exit | apply loopW_panic | apply joinW_ret | apply joinW_exit | apply joinW_panic | apply W_seq | apply W_block | apply W_skip | apply W_ret | apply W_exit | apply W_label
      | with_reducible refine blockW_other (by decide) ?_
      | with_reducible refine W_rg ?_
      | (rw [vcn]; (try simp [-map_take,-map_drop, push_cast, g1]); try simp (disch := omega) only [i64_in, u64_in, shr64i])
      | with_reducible refine W_drawn mixed (by decide) (by kernel_rfl) ?_
      | (rw [vcnD]; (try simp [-map_take,-map_drop, push_cast, g1]); try simp (disch := omega) only [i64_in, u64_in, shr64i])
      | (with_reducible refine W_condW ?_; (try simp [-map_take,-map_drop, AS.val, upd, resB, mkS_env, mkS_box, lk, entry_env, condW_true, condW_false, g1]))
      | (with_reducible refine optK_dV (by first | omega | (simp [-map_take,-map_drop]; omega)) ?_)
      | with_reducible refine optK_dVh (by omega) ?_
      | refine And.intro (by first | omega | kernel_rfl) ?_
      | ((with_reducible refine condW_b (fun hc => ?_) (fun hc => ?_) <;> (try simp [-map_take,-map_drop, Int.ofNat_inj] at hc) <;> (try contradiction)))
      | fail)
    simp [-map_take,-map_drop, post, resAV, resAll, resOne, closeV, closeC, closeL, resD, resDL, push_cast, hr]
  have hlt : i < n := by omega
  have g1 : (i < n) = True := by simp [-map_take,-map_drop]; omega
  obtain ⟨t, ht⟩ := hat i (by omega)
  obtain ⟨t2, ht2⟩ := hat2 i (by omega)
  have e1 : l.take (i + 1) = l.take i ++ [l[i]] := List.take_succ_eq_append_getElem (by omega)
  have e2 : m.take (i + 1) = m.take i ++ [m[i]] := List.take_succ_eq_append_getElem (by omega)
  have hd : ¬ l[i] = m[i] → res = false := by
    intro h
    rw [hres, decide_eq_false_iff_not]
    intro h'
    subst h'
    exact h rfl
  have hsm := sameR_iff l[i] m[i]
  obtain ⟨x, hx⟩ : ∃ x, x = l[i] := ⟨_, rfl⟩
  obtain ⟨y, hy⟩ : ∃ y, y = m[i] := ⟨_, rfl⟩
  rw [← hx] at ht e1
  rw [← hy] at ht2 e2
  rw [← hx, ← hy] at hd hsm
  clear hat hat2 hx hy
  obtain ⟨xk, xd, xb⟩ := x
  obtain ⟨yk, yd, yb⟩ := y
  have hc := same1_ok xk xd yk yd xb yb
  obtain ⟨q, hq⟩ : ∃ q, q = sameR (xk, xd, xb) (yk, yd, yb) := ⟨_, rfl⟩
  rw [← hq] at hc hsm
  simp only at ht ht2
  have htl := congrArg List.length ht
  rw [List.length_drop, hlen] at htl
  simp only [List.length_cons] at htl
  have htl2 := congrArg List.length ht2
  rw [List.length_drop, hlen2] at htl2
  simp only [List.length_cons] at htl2
  repeat' (first
    | with_reducible first | apply thenW_n | apply thenW_ret | apply thenW_exit | apply thenW_panic | apply blockW_n | apply blockW_same | apply blockW_ret | apply blockW_panic | apply loopW_ret | apply loopW_exit | apply loopW_panic | apply joinW_ret | apply joinW_exit | apply joinW_panic | apply W_seq | apply W_block | apply W_skip | apply W_ret | apply W_exit | apply W_label
    | with_reducible refine blockW_other (by decide) ?_
    | with_reducible refine W_rg ?_
    | (rw [vcn]; (try simp [-map_take,-map_drop, push_cast, g1, ht, hlen, ht2, hlen2, hlt]); try simp (disch := omega) only [i64_in, u64_in, shr64i])
    | with_reducible refine W_drawn mixed (by decide) (by kernel_rfl) ?_
    | (rw [vcnD]; (try simp [-map_take,-map_drop, push_cast, g1, ht, hlen, ht2, hlen2, hlt]); try simp (disch := omega) only [i64_in, u64_in, shr64i])
    | (with_reducible refine W_condW ?_; (try simp [-map_take,-map_drop, AS.val, upd, resB, mkS_env, mkS_box, lk, entry_env, condW_true, condW_false, g1, ht, hlen, ht2, hlen2, hlt]))
    | (with_reducible refine optK_dV (by first | omega | (simp [-map_take,-map_drop]; omega)) ?_)
    | with_reducible refine optK_dVh (by omega) ?_
    | refine And.intro (by first | omega | kernel_rfl) ?_
    | ((with_reducible refine condW_b (fun hc => ?_) (fun hc => ?_) <;> (try simp [-map_take,-map_drop, Int.ofNat_inj] at hc) <;> (try contradiction)))
    | fail)
  first | refine CallG_of (hc) ?_ ?_ rfl ?_ | refine callD_of (hc) ?_ ?_ rfl ?_
  · first | rfl | (simp [-map_take,-map_drop, natAV, numC, ← limbs.eq_1, push_cast, recAV]; done)
  · first | rfl | simp [-map_take,-map_drop, natAV, recAV, AV.refs, refsL, push_cast]
  try dsimp only
  by_cases hqq : q = true
  · subst hqq
    repeat' (first
      | with_reducible first | apply thenW_n | apply thenW_ret | apply thenW_exit | apply thenW_panic | apply blockW_n | apply blockW_same | apply blockW_ret | apply blockW_panic | apply loopW_ret | apply loopW_exit | apply loopW_panic | apply joinW_ret | apply joinW_exit | apply joinW_panic | apply W_seq | apply W_block | apply W_skip | apply W_ret | apply W_exit | apply W_label
      | with_reducible refine blockW_other (by decide) ?_
      | with_reducible refine W_rg ?_
      | (rw [vcn]; (try simp [-map_take,-map_drop, push_cast, g1, ht, hlen, ht2, hlen2, hlt]); try simp (disch := omega) only [i64_in, u64_in, shr64i])
      | with_reducible refine W_drawn mixed (by decide) (by kernel_rfl) ?_
      | (rw [vcnD]; (try simp [-map_take,-map_drop, push_cast, g1, ht, hlen, ht2, hlen2, hlt]); try simp (disch := omega) only [i64_in, u64_in, shr64i])
      | (with_reducible refine W_condW ?_; (try simp [-map_take,-map_drop, AS.val, upd, resB, mkS_env, mkS_box, lk, entry_env, condW_true, condW_false, g1, ht, hlen, ht2, hlen2, hlt]))
      | (with_reducible refine optK_dV (by first | omega | (simp [-map_take,-map_drop]; omega)) ?_)
      | with_reducible refine optK_dVh (by omega) ?_
      | refine And.intro (by first | omega | kernel_rfl) ?_
      | ((with_reducible refine condW_b (fun hc => ?_) (fun hc => ?_) <;> (try simp [-map_take,-map_drop, Int.ofNat_inj] at hc) <;> (try contradiction)))
      | fail)
    refine loopW_n (i + 1) id (by omega) ⟨by omega, by rw [e1, e2, hI, hsm.1 rfl]⟩ ⟨?_, ?_, ?_, ?_, ?_, ?_⟩
    all_goals first | (with_reducible refine W_id ?_) | (simp [-map_take,-map_drop, push_cast, hLr, hMr]; done) | (simp [-map_take,-map_drop, push_cast, hLr, hMr]; omega) | (intro i hi; simp [-map_take,-map_drop]; omega) | (intro i hi; dsimp only; (repeat' split) <;> omega) | (simp [-map_take,-map_drop, push_cast, hLr, hMr]; fail_if_success done)
  have hqq : q = false := by simpa [-map_take,-map_drop] using hqq
  subst hqq
  have hr := hd (fun h => by simpa [-map_take,-map_drop] using hsm.2 h)
  repeat' (first
    | with_reducible first | apply thenW_n | apply thenW_ret | apply thenW_exit | apply thenW_panic | apply blockW_n | apply blockW_same | apply blockW_ret | apply blockW_panic | apply loopW_ret | apply loopW_exit | apply loopW_panic | apply joinW_ret | apply joinW_exit | apply joinW_panic | apply W_seq | apply W_block | apply W_skip | apply W_ret | apply W_exit | apply W_label
    | with_reducible refine blockW_other (by decide) ?_
    | with_reducible refine W_rg ?_
    | (rw [vcn]; (try simp [-map_take,-map_drop, push_cast, g1, ht, hlen, ht2, hlen2, hlt]); try simp (disch := omega) only [i64_in, u64_in, shr64i])
    | with_reducible refine W_drawn mixed (by decide) (by kernel_rfl) ?_
    | (rw [vcnD]; (try simp [-map_take,-map_drop, push_cast, g1, ht, hlen, ht2, hlen2, hlt]); try simp (disch := omega) only [i64_in, u64_in, shr64i])
    | (with_reducible refine W_condW ?_; (try simp [-map_take,-map_drop, AS.val, upd, resB, mkS_env, mkS_box, lk, entry_env, condW_true, condW_false, g1, ht, hlen, ht2, hlen2, hlt]))
    | (with_reducible refine optK_dV (by first | omega | (simp [-map_take,-map_drop]; omega)) ?_)
    | with_reducible refine optK_dVh (by omega) ?_
    | refine And.intro (by first | omega | kernel_rfl) ?_
    | ((with_reducible refine condW_b (fun hc => ?_) (fun hc => ?_) <;> (try simp [-map_take,-map_drop, Int.ofNat_inj] at hc) <;> (try contradiction)))
    | fail)
  simp [-map_take,-map_drop, post, resAV, resAll, resOne, closeV, closeC, closeL, resD, resDL, push_cast, hr]
end Go.Fw
