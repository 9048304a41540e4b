/- The document's side of layer 6: among, name, text. -/
import Derived.Test.YtjgbikhnnkigpaaQ0
set_option linter.unusedSimpArgs false
set_option linter.unusedVariables false
namespace Go.Fw
open Go Go.Proofs Go.IntWalk
set_option linter.unusedSimpArgs false
set_option maxRecDepth 100000
set_option maxHeartbeats 4000000
attribute [local push_cast] optK_some optK_none optK_ite optK_map optK_bind gOn stepK isMem evPure evMem evBin evUn evConv evLen evBuiltin evMinMax evSlice evBuild evAppend evIndex evIndexAddr evField evFieldAddr intBin strBin appDest AS.val AS.mem AS.elems AS.put AS.put' AS.eff AV.cells? AV.isCell AV.refs all_isByte take_byteV drop_byteV strOf_map bndOk bnd partAV ptrAdd killBox catA inOrder fillA setAt ofVal resB upd byteV List.head?_take List.head?_drop List.getElem?_map mkS_env mkS_box mkS_used entry_env entry_box entry_used lk stepD lookIds Oper.looksAt Op.operands Call.operands St.ids refsL renL_append dV_take dV_drop ren renL renBox Box.refs iV i64V boolV dV_getElem dV_app dV_cons toNat_add2 toNat_add1

theorem byte_beq (a b : UInt8) : ((a.toNat : Int) == (b.toNat : Int)) = (a == b) := by
  by_cases h : a = b
  · subst h; simp
  · have h1 : ¬ (a.toNat : Int) = (b.toNat : Int) := fun e => h (UInt8.toNat_inj.1 (by omega))
    rw [beq_eq_false_iff_ne.2 h, beq_eq_false_iff_ne.2 h1]

theorem byteL_get (l : List UInt8) (i : Nat) (h : i < l.length) : (l.map byteV)[i]? = some (byteV l[i]) := by simp [List.getElem?_eq_getElem h]

def inB (l : List UInt8) (k : UInt8) : Bool := l.contains k

theorem among_ok (k : UInt8) (f : Bool) (l : List UInt8) : Eval Try.prog 54 [byteV k, .slc f 1 l.length (l.map byteV)] (.ret (.v (.bool (inB l k)))) := by
  refine Eval.intro Try.func54 rfl Try.call54 _ _ (Nat.le_of_ble_eq_true rfl) (by simp [AV.refs, refsL, natAV, push_cast, -List.map_take, -List.map_drop]) fun hs0 => ?_
  have hn : l.length ≤ 9223372036854775807 := hs0.2.1.1
  repeat' (first
    | with_reducible first | refine thenW_n ?_ | refine thenW_ret ?_ | refine thenW_exit ?_ | refine thenW_panic ?_ | refine blockW_n ?_ | refine blockW_same ?_ | refine blockW_ret ?_ | refine blockW_panic ?_ | refine loopW_ret ?_ | refine loopW_exit ?_ | refine loopW_panic ?_ | refine joinW_ret ?_ | refine joinW_exit ?_ | refine joinW_panic ?_ | refine W_seq ?_ | refine W_block ?_ | refine W_skip ?_ | refine W_ret ?_ | refine W_exit ?_ | refine W_label ?_
    | with_reducible refine blockW_other (by decide) ?_
    | with_reducible refine W_region (by first | decide | (with_unfolding_all rfl)) ?_
    | (rw [vcn]; (try simp [push_cast, -List.map_take, -List.map_drop]); try simp (disch := omega) only [i64_in, u64_in, shr64i])
    | with_reducible refine W_drawn mixed (by decide) (by kernel_rfl) ?_
    | (rw [vcnD]; (try simp [push_cast, -List.map_take, -List.map_drop]); try simp (disch := omega) only [i64_in, u64_in, shr64i])
    | (with_reducible refine W_condW ?_; (try simp [AS.val, upd, resB, mkS_env, mkS_box, lk, entry_env, condW_true, condW_false]))
    | with_reducible refine optK_dV (by first | omega | (simp; omega)) ?_
    | with_reducible refine optK_dVh (by omega) ?_
    | refine And.intro (by first | omega | kernel_rfl) ?_
    | (with_reducible refine condW_b (fun hc => ?_) (fun hc => ?_) <;> (try simp [Int.ofNat_inj] at hc) <;> try contradiction)
    | fail)
  refine W_loopW (X := Nat) (fun i => [(0, byteV k), (1, .slc f 1 l.length (l.map byteV)), (5, i64V i)]) (fun _ => []) (fun i => l.length - i) (fun i => i ≤ l.length ∧ (l.take i).contains k = false) 0 id ⟨Nat.zero_le _, by simp⟩ ⟨?_, ?_, ?_, ?_, ?_, ?_⟩ fun i hx => ?_
  all_goals first | (with_reducible refine W_id ?_) | (simp [push_cast, -List.map_take, -List.map_drop]; done) | (simp [push_cast, -List.map_take, -List.map_drop]; omega) | (intro i hi; simp; omega) | (intro i hi; dsimp only; (repeat' split) <;> omega) | (simp [push_cast, -List.map_take, -List.map_drop]; fail_if_success done)
  obtain ⟨hi, hI⟩ := hx
  by_cases hlt : i < l.length
  · have hlt' : ((i : Int) < (l.length : Int)) = True := by simp; omega
    have g := byteL_get l i hlt
    by_cases he : l[i] = k
    · have hb : ((l[i].toNat : Int) == (k.toNat : Int)) = true := by rw [byte_beq]; simp [he]
      repeat' (first
        | with_reducible first | refine thenW_n ?_ | refine thenW_ret ?_ | refine thenW_exit ?_ | refine thenW_panic ?_ | refine blockW_n ?_ | refine blockW_same ?_ | refine blockW_ret ?_ | refine blockW_panic ?_ | refine loopW_ret ?_ | refine loopW_exit ?_ | refine loopW_panic ?_ | refine joinW_ret ?_ | refine joinW_exit ?_ | refine joinW_panic ?_ | refine W_seq ?_ | refine W_block ?_ | refine W_skip ?_ | refine W_ret ?_ | refine W_exit ?_ | refine W_label ?_
        | with_reducible refine blockW_other (by decide) ?_
        | with_reducible refine W_region (by first | decide | (with_unfolding_all rfl)) ?_
        | (rw [vcn]; (try simp [push_cast, -List.map_take, -List.map_drop, hlt', hlt, hb, g]); try simp (disch := omega) only [i64_in, u64_in, shr64i])
        | with_reducible refine W_drawn mixed (by decide) (by kernel_rfl) ?_
        | (rw [vcnD]; (try simp [push_cast, -List.map_take, -List.map_drop, hlt', hlt, hb, g]); try simp (disch := omega) only [i64_in, u64_in, shr64i])
        | (with_reducible refine W_condW ?_; (try simp [AS.val, upd, resB, mkS_env, mkS_box, lk, entry_env, condW_true, condW_false, hlt', hlt, hb, g]))
        | with_reducible refine optK_dV (by first | omega | (simp; omega)) ?_
        | with_reducible refine optK_dVh (by omega) ?_
        | refine And.intro (by first | omega | kernel_rfl) ?_
        | (with_reducible refine condW_b (fun hc => ?_) (fun hc => ?_) <;> (try simp [Int.ofNat_inj] at hc) <;> try contradiction)
        | fail)
      have hin : inB l k = true := by rw [← he]; simp [inB]
      simp [post, resAV, resAll, resOne, closeV, closeC, closeL, resD, resDL, push_cast, -List.map_take, -List.map_drop, hin]
    · have hb : ((l[i].toNat : Int) == (k.toNat : Int)) = false := by rw [byte_beq]; simp [he]
      have hI2 : (l.take (i + 1)).contains k = false := by
        rw [List.take_succ_eq_append_getElem hlt]
        simp only [List.contains_eq_mem, decide_eq_false_iff_not] at hI ⊢
        intro hm
        rcases List.mem_append.1 hm with h | h
        · exact hI h
        · exact he (by simpa using h : k = l[i]).symm
      repeat' (first
        | with_reducible first | refine thenW_n ?_ | refine thenW_ret ?_ | refine thenW_exit ?_ | refine thenW_panic ?_ | refine blockW_n ?_ | refine blockW_same ?_ | refine blockW_ret ?_ | refine blockW_panic ?_ | refine loopW_ret ?_ | refine loopW_exit ?_ | refine loopW_panic ?_ | refine joinW_ret ?_ | refine joinW_exit ?_ | refine joinW_panic ?_ | refine W_seq ?_ | refine W_block ?_ | refine W_skip ?_ | refine W_ret ?_ | refine W_exit ?_ | refine W_label ?_
        | with_reducible refine blockW_other (by decide) ?_
        | with_reducible refine W_region (by first | decide | (with_unfolding_all rfl)) ?_
        | (rw [vcn]; (try simp [push_cast, -List.map_take, -List.map_drop, hlt', hlt, hb, g]); try simp (disch := omega) only [i64_in, u64_in, shr64i])
        | with_reducible refine W_drawn mixed (by decide) (by kernel_rfl) ?_
        | (rw [vcnD]; (try simp [push_cast, -List.map_take, -List.map_drop, hlt', hlt, hb, g]); try simp (disch := omega) only [i64_in, u64_in, shr64i])
        | (with_reducible refine W_condW ?_; (try simp [AS.val, upd, resB, mkS_env, mkS_box, lk, entry_env, condW_true, condW_false, hlt', hlt, hb, g]))
        | with_reducible refine optK_dV (by first | omega | (simp; omega)) ?_
        | with_reducible refine optK_dVh (by omega) ?_
        | refine And.intro (by first | omega | kernel_rfl) ?_
        | (with_reducible refine condW_b (fun hc => ?_) (fun hc => ?_) <;> (try simp [Int.ofNat_inj] at hc) <;> try contradiction)
        | fail)
      refine loopW_n (i + 1) id (by omega) ⟨by omega, by simpa using hI2⟩ ⟨?_, ?_, ?_, ?_, ?_, ?_⟩
      all_goals first | (with_reducible refine W_id ?_) | (simp [push_cast, -List.map_take, -List.map_drop]; done) | (simp [push_cast, -List.map_take, -List.map_drop]; omega) | (intro i hi; simp; omega) | (intro i hi; dsimp only; (repeat' split) <;> omega) | (simp [push_cast, -List.map_take, -List.map_drop]; fail_if_success done)
  · have hlt' : ((i : Int) < (l.length : Int)) = False := by simp; omega
    repeat' (first
      | with_reducible first | refine thenW_n ?_ | refine thenW_ret ?_ | refine thenW_exit ?_ | refine thenW_panic ?_ | refine blockW_n ?_ | refine blockW_same ?_ | refine blockW_ret ?_ | refine blockW_panic ?_ | refine loopW_ret ?_ | refine loopW_exit ?_ | refine loopW_panic ?_ | refine joinW_ret ?_ | refine joinW_exit ?_ | refine joinW_panic ?_ | refine W_seq ?_ | refine W_block ?_ | refine W_skip ?_ | refine W_ret ?_ | refine W_exit ?_ | refine W_label ?_
      | with_reducible refine blockW_other (by decide) ?_
      | with_reducible refine W_region (by first | decide | (with_unfolding_all rfl)) ?_
      | (rw [vcn]; (try simp [push_cast, -List.map_take, -List.map_drop, hlt', hlt]); try simp (disch := omega) only [i64_in, u64_in, shr64i])
      | with_reducible refine W_drawn mixed (by decide) (by kernel_rfl) ?_
      | (rw [vcnD]; (try simp [push_cast, -List.map_take, -List.map_drop, hlt', hlt]); try simp (disch := omega) only [i64_in, u64_in, shr64i])
      | (with_reducible refine W_condW ?_; (try simp [AS.val, upd, resB, mkS_env, mkS_box, lk, entry_env, condW_true, condW_false, hlt', hlt]))
      | with_reducible refine optK_dV (by first | omega | (simp; omega)) ?_
      | with_reducible refine optK_dVh (by omega) ?_
      | refine And.intro (by first | omega | kernel_rfl) ?_
      | (with_reducible refine condW_b (fun hc => ?_) (fun hc => ?_) <;> (try simp [Int.ofNat_inj] at hc) <;> try contradiction)
      | fail)
    have hin : inB l k = false := by rw [List.take_of_length_le (by omega)] at hI; exact hI
    simp [post, resAV, resAll, resOne, closeV, closeC, closeL, resD, resDL, push_cast, -List.map_take, -List.map_drop, hin]

theorem name_ok (c : UInt8) : Eval Try.prog 68 [byteV c] (.ret (.v (.bool (letterB c)))) := by
  refine Eval.intro Try.func68 rfl Try.call68 _ _ (Nat.le_of_ble_eq_true rfl) (by simp [AV.refs, refsL, natAV, push_cast, -List.map_take, -List.map_drop]) fun hs0 => ?_
  have hc : c.toNat < 256 := c.toNat_lt
  obtain ⟨x, hx⟩ : ∃ x, x = c.toNat := ⟨_, rfl⟩
  have hl : letterB c = ((65 ≤ x && x ≤ 90) || (97 ≤ x && x ≤ 122) || (48 ≤ x && x ≤ 57) || x == 95 || x == 63 || x == 36) := by rw [hx]; rfl
  rw [hl]
  simp only [byteV, ← hx]
  rw [← hx] at hc
  clear hl hx
  have hcase : x = 36 ∨ (x < 48 ∧ x ≠ 36) ∨ (48 ≤ x ∧ x ≤ 57) ∨ x = 63 ∨ (58 ≤ x ∧ x ≤ 64 ∧ x ≠ 63) ∨ (65 ≤ x ∧ x ≤ 90) ∨ x = 95 ∨ (91 ≤ x ∧ x ≤ 96 ∧ x ≠ 95) ∨ (97 ≤ x ∧ x ≤ 122) ∨ 123 ≤ x := by omega
  rcases hcase with h | h | h | h | h | h | h | h | h | h
  · subst h
    repeat' (first
      | with_reducible first | refine thenW_n ?_ | refine thenW_ret ?_ | refine thenW_exit ?_ | refine thenW_panic ?_ | refine blockW_n ?_ | refine blockW_same ?_ | refine blockW_ret ?_ | refine blockW_panic ?_ | refine loopW_ret ?_ | refine loopW_exit ?_ | refine loopW_panic ?_ | refine joinW_ret ?_ | refine joinW_exit ?_ | refine joinW_panic ?_ | refine W_seq ?_ | refine W_block ?_ | refine W_skip ?_ | refine W_ret ?_ | refine W_exit ?_ | refine W_label ?_
      | with_reducible refine blockW_other (by decide) ?_
      | with_reducible refine W_region (by first | decide | (with_unfolding_all rfl)) ?_
      | (rw [vcn]; (try simp [push_cast, -List.map_take, -List.map_drop]); try simp (disch := omega) only [i64_in, u64_in, shr64i])
      | with_reducible refine W_drawn mixed (by decide) (by kernel_rfl) ?_
      | (rw [vcnD]; (try simp [push_cast, -List.map_take, -List.map_drop]); try simp (disch := omega) only [i64_in, u64_in, shr64i])
      | (with_reducible refine W_condW ?_; (try simp [AS.val, upd, resB, mkS_env, mkS_box, lk, entry_env, condW_true, condW_false]))
      | with_reducible refine optK_dV (by first | omega | (simp; omega)) ?_
      | with_reducible refine optK_dVh (by omega) ?_
      | refine And.intro (by first | omega | kernel_rfl) ?_
      | (with_reducible refine condW_b (fun hc => ?_) (fun hc => ?_) <;> (try simp [Int.ofNat_inj] at hc) <;> try contradiction)
      | fail)
    simp [post, resAV, resAll, resOne, closeV, closeC, closeL, resD, resDL, push_cast, -List.map_take, -List.map_drop]
  · have a0 : ¬ (48 ≤ (x : Int)) := by omega
    have a1 : ((x : Int) ≤ 57) := by omega
    have a2 : ¬ (65 ≤ (x : Int)) := by omega
    have a3 : ((x : Int) ≤ 90) := by omega
    have a4 : ¬ (97 ≤ (x : Int)) := by omega
    have a5 : ((x : Int) ≤ 122) := by omega
    have b6 : (x = 95) = False := by simp; omega
    have c6 : ((x : Int) = 95) = False := by simp; omega
    have b7 : (x = 63) = False := by simp; omega
    have c7 : ((x : Int) = 63) = False := by simp; omega
    have b8 : (x = 36) = False := by simp; omega
    have c8 : ((x : Int) = 36) = False := by simp; omega
    repeat' (first
      | with_reducible first | refine thenW_n ?_ | refine thenW_ret ?_ | refine thenW_exit ?_ | refine thenW_panic ?_ | refine blockW_n ?_ | refine blockW_same ?_ | refine blockW_ret ?_ | refine blockW_panic ?_ | refine loopW_ret ?_ | refine loopW_exit ?_ | refine loopW_panic ?_ | refine joinW_ret ?_ | refine joinW_exit ?_ | refine joinW_panic ?_ | refine W_seq ?_ | refine W_block ?_ | refine W_skip ?_ | refine W_ret ?_ | refine W_exit ?_ | refine W_label ?_
      | with_reducible refine blockW_other (by decide) ?_
      | with_reducible refine W_region (by first | decide | (with_unfolding_all rfl)) ?_
      | (rw [vcn]; (try simp [push_cast, -List.map_take, -List.map_drop, a0, a1, a2, a3, a4, a5, b6, c6, b7, c7, b8, c8]); try simp (disch := omega) only [i64_in, u64_in, shr64i])
      | with_reducible refine W_drawn mixed (by decide) (by kernel_rfl) ?_
      | (rw [vcnD]; (try simp [push_cast, -List.map_take, -List.map_drop, a0, a1, a2, a3, a4, a5, b6, c6, b7, c7, b8, c8]); try simp (disch := omega) only [i64_in, u64_in, shr64i])
      | (with_reducible refine W_condW ?_; (try simp [AS.val, upd, resB, mkS_env, mkS_box, lk, entry_env, condW_true, condW_false, a0, a1, a2, a3, a4, a5, b6, c6, b7, c7, b8, c8]))
      | with_reducible refine optK_dV (by first | omega | (simp; omega)) ?_
      | with_reducible refine optK_dVh (by omega) ?_
      | refine And.intro (by first | omega | kernel_rfl) ?_
      | (with_reducible refine condW_b (fun hc => ?_) (fun hc => ?_) <;> (try simp [Int.ofNat_inj] at hc) <;> try contradiction)
      | fail)
    simp [post, resAV, resAll, resOne, closeV, closeC, closeL, resD, resDL, push_cast, -List.map_take, -List.map_drop, a0, a1, a2, a3, a4, a5, b6, c6, b7, c7, b8, c8]
    all_goals first | omega | (rw [Bool.eq_iff_iff]; simp; omega)
  · have a0 : (48 ≤ (x : Int)) := by omega
    have a1 : ((x : Int) ≤ 57) := by omega
    have a2 : ¬ (65 ≤ (x : Int)) := by omega
    have a3 : ((x : Int) ≤ 90) := by omega
    have a4 : ¬ (97 ≤ (x : Int)) := by omega
    have a5 : ((x : Int) ≤ 122) := by omega
    have b6 : (x = 95) = False := by simp; omega
    have c6 : ((x : Int) = 95) = False := by simp; omega
    have b7 : (x = 63) = False := by simp; omega
    have c7 : ((x : Int) = 63) = False := by simp; omega
    have b8 : (x = 36) = False := by simp; omega
    have c8 : ((x : Int) = 36) = False := by simp; omega
    repeat' (first
      | with_reducible first | refine thenW_n ?_ | refine thenW_ret ?_ | refine thenW_exit ?_ | refine thenW_panic ?_ | refine blockW_n ?_ | refine blockW_same ?_ | refine blockW_ret ?_ | refine blockW_panic ?_ | refine loopW_ret ?_ | refine loopW_exit ?_ | refine loopW_panic ?_ | refine joinW_ret ?_ | refine joinW_exit ?_ | refine joinW_panic ?_ | refine W_seq ?_ | refine W_block ?_ | refine W_skip ?_ | refine W_ret ?_ | refine W_exit ?_ | refine W_label ?_
      | with_reducible refine blockW_other (by decide) ?_
      | with_reducible refine W_region (by first | decide | (with_unfolding_all rfl)) ?_
      | (rw [vcn]; (try simp [push_cast, -List.map_take, -List.map_drop, a0, a1, a2, a3, a4, a5, b6, c6, b7, c7, b8, c8]); try simp (disch := omega) only [i64_in, u64_in, shr64i])
      | with_reducible refine W_drawn mixed (by decide) (by kernel_rfl) ?_
      | (rw [vcnD]; (try simp [push_cast, -List.map_take, -List.map_drop, a0, a1, a2, a3, a4, a5, b6, c6, b7, c7, b8, c8]); try simp (disch := omega) only [i64_in, u64_in, shr64i])
      | (with_reducible refine W_condW ?_; (try simp [AS.val, upd, resB, mkS_env, mkS_box, lk, entry_env, condW_true, condW_false, a0, a1, a2, a3, a4, a5, b6, c6, b7, c7, b8, c8]))
      | with_reducible refine optK_dV (by first | omega | (simp; omega)) ?_
      | with_reducible refine optK_dVh (by omega) ?_
      | refine And.intro (by first | omega | kernel_rfl) ?_
      | (with_reducible refine condW_b (fun hc => ?_) (fun hc => ?_) <;> (try simp [Int.ofNat_inj] at hc) <;> try contradiction)
      | fail)
    simp [post, resAV, resAll, resOne, closeV, closeC, closeL, resD, resDL, push_cast, -List.map_take, -List.map_drop, a0, a1, a2, a3, a4, a5, b6, c6, b7, c7, b8, c8]
    all_goals first | omega | (rw [Bool.eq_iff_iff]; simp; omega)
  · subst h
    repeat' (first
      | with_reducible first | refine thenW_n ?_ | refine thenW_ret ?_ | refine thenW_exit ?_ | refine thenW_panic ?_ | refine blockW_n ?_ | refine blockW_same ?_ | refine blockW_ret ?_ | refine blockW_panic ?_ | refine loopW_ret ?_ | refine loopW_exit ?_ | refine loopW_panic ?_ | refine joinW_ret ?_ | refine joinW_exit ?_ | refine joinW_panic ?_ | refine W_seq ?_ | refine W_block ?_ | refine W_skip ?_ | refine W_ret ?_ | refine W_exit ?_ | refine W_label ?_
      | with_reducible refine blockW_other (by decide) ?_
      | with_reducible refine W_region (by first | decide | (with_unfolding_all rfl)) ?_
      | (rw [vcn]; (try simp [push_cast, -List.map_take, -List.map_drop]); try simp (disch := omega) only [i64_in, u64_in, shr64i])
      | with_reducible refine W_drawn mixed (by decide) (by kernel_rfl) ?_
      | (rw [vcnD]; (try simp [push_cast, -List.map_take, -List.map_drop]); try simp (disch := omega) only [i64_in, u64_in, shr64i])
      | (with_reducible refine W_condW ?_; (try simp [AS.val, upd, resB, mkS_env, mkS_box, lk, entry_env, condW_true, condW_false]))
      | with_reducible refine optK_dV (by first | omega | (simp; omega)) ?_
      | with_reducible refine optK_dVh (by omega) ?_
      | refine And.intro (by first | omega | kernel_rfl) ?_
      | (with_reducible refine condW_b (fun hc => ?_) (fun hc => ?_) <;> (try simp [Int.ofNat_inj] at hc) <;> try contradiction)
      | fail)
    simp [post, resAV, resAll, resOne, closeV, closeC, closeL, resD, resDL, push_cast, -List.map_take, -List.map_drop]
  · have a0 : (48 ≤ (x : Int)) := by omega
    have a1 : ¬ ((x : Int) ≤ 57) := by omega
    have a2 : ¬ (65 ≤ (x : Int)) := by omega
    have a3 : ((x : Int) ≤ 90) := by omega
    have a4 : ¬ (97 ≤ (x : Int)) := by omega
    have a5 : ((x : Int) ≤ 122) := by omega
    have b6 : (x = 95) = False := by simp; omega
    have c6 : ((x : Int) = 95) = False := by simp; omega
    have b7 : (x = 63) = False := by simp; omega
    have c7 : ((x : Int) = 63) = False := by simp; omega
    have b8 : (x = 36) = False := by simp; omega
    have c8 : ((x : Int) = 36) = False := by simp; omega
    repeat' (first
      | with_reducible first | refine thenW_n ?_ | refine thenW_ret ?_ | refine thenW_exit ?_ | refine thenW_panic ?_ | refine blockW_n ?_ | refine blockW_same ?_ | refine blockW_ret ?_ | refine blockW_panic ?_ | refine loopW_ret ?_ | refine loopW_exit ?_ | refine loopW_panic ?_ | refine joinW_ret ?_ | refine joinW_exit ?_ | refine joinW_panic ?_ | refine W_seq ?_ | refine W_block ?_ | refine W_skip ?_ | refine W_ret ?_ | refine W_exit ?_ | refine W_label ?_
      | with_reducible refine blockW_other (by decide) ?_
      | with_reducible refine W_region (by first | decide | (with_unfolding_all rfl)) ?_
      | (rw [vcn]; (try simp [push_cast, -List.map_take, -List.map_drop, a0, a1, a2, a3, a4, a5, b6, c6, b7, c7, b8, c8]); try simp (disch := omega) only [i64_in, u64_in, shr64i])
      | with_reducible refine W_drawn mixed (by decide) (by kernel_rfl) ?_
      | (rw [vcnD]; (try simp [push_cast, -List.map_take, -List.map_drop, a0, a1, a2, a3, a4, a5, b6, c6, b7, c7, b8, c8]); try simp (disch := omega) only [i64_in, u64_in, shr64i])
      | (with_reducible refine W_condW ?_; (try simp [AS.val, upd, resB, mkS_env, mkS_box, lk, entry_env, condW_true, condW_false, a0, a1, a2, a3, a4, a5, b6, c6, b7, c7, b8, c8]))
      | with_reducible refine optK_dV (by first | omega | (simp; omega)) ?_
      | with_reducible refine optK_dVh (by omega) ?_
      | refine And.intro (by first | omega | kernel_rfl) ?_
      | (with_reducible refine condW_b (fun hc => ?_) (fun hc => ?_) <;> (try simp [Int.ofNat_inj] at hc) <;> try contradiction)
      | fail)
    simp [post, resAV, resAll, resOne, closeV, closeC, closeL, resD, resDL, push_cast, -List.map_take, -List.map_drop, a0, a1, a2, a3, a4, a5, b6, c6, b7, c7, b8, c8]
    all_goals first | omega | (rw [Bool.eq_iff_iff]; simp; omega)
  · have a0 : (48 ≤ (x : Int)) := by omega
    have a1 : ¬ ((x : Int) ≤ 57) := by omega
    have a2 : (65 ≤ (x : Int)) := by omega
    have a3 : ((x : Int) ≤ 90) := by omega
    have a4 : ¬ (97 ≤ (x : Int)) := by omega
    have a5 : ((x : Int) ≤ 122) := by omega
    have b6 : (x = 95) = False := by simp; omega
    have c6 : ((x : Int) = 95) = False := by simp; omega
    have b7 : (x = 63) = False := by simp; omega
    have c7 : ((x : Int) = 63) = False := by simp; omega
    have b8 : (x = 36) = False := by simp; omega
    have c8 : ((x : Int) = 36) = False := by simp; omega
    repeat' (first
      | with_reducible first | refine thenW_n ?_ | refine thenW_ret ?_ | refine thenW_exit ?_ | refine thenW_panic ?_ | refine blockW_n ?_ | refine blockW_same ?_ | refine blockW_ret ?_ | refine blockW_panic ?_ | refine loopW_ret ?_ | refine loopW_exit ?_ | refine loopW_panic ?_ | refine joinW_ret ?_ | refine joinW_exit ?_ | refine joinW_panic ?_ | refine W_seq ?_ | refine W_block ?_ | refine W_skip ?_ | refine W_ret ?_ | refine W_exit ?_ | refine W_label ?_
      | with_reducible refine blockW_other (by decide) ?_
      | with_reducible refine W_region (by first | decide | (with_unfolding_all rfl)) ?_
      | (rw [vcn]; (try simp [push_cast, -List.map_take, -List.map_drop, a0, a1, a2, a3, a4, a5, b6, c6, b7, c7, b8, c8]); try simp (disch := omega) only [i64_in, u64_in, shr64i])
      | with_reducible refine W_drawn mixed (by decide) (by kernel_rfl) ?_
      | (rw [vcnD]; (try simp [push_cast, -List.map_take, -List.map_drop, a0, a1, a2, a3, a4, a5, b6, c6, b7, c7, b8, c8]); try simp (disch := omega) only [i64_in, u64_in, shr64i])
      | (with_reducible refine W_condW ?_; (try simp [AS.val, upd, resB, mkS_env, mkS_box, lk, entry_env, condW_true, condW_false, a0, a1, a2, a3, a4, a5, b6, c6, b7, c7, b8, c8]))
      | with_reducible refine optK_dV (by first | omega | (simp; omega)) ?_
      | with_reducible refine optK_dVh (by omega) ?_
      | refine And.intro (by first | omega | kernel_rfl) ?_
      | (with_reducible refine condW_b (fun hc => ?_) (fun hc => ?_) <;> (try simp [Int.ofNat_inj] at hc) <;> try contradiction)
      | fail)
    simp [post, resAV, resAll, resOne, closeV, closeC, closeL, resD, resDL, push_cast, -List.map_take, -List.map_drop, a0, a1, a2, a3, a4, a5, b6, c6, b7, c7, b8, c8]
    all_goals first | omega | (rw [Bool.eq_iff_iff]; simp; omega)
  · subst h
    repeat' (first
      | with_reducible first | refine thenW_n ?_ | refine thenW_ret ?_ | refine thenW_exit ?_ | refine thenW_panic ?_ | refine blockW_n ?_ | refine blockW_same ?_ | refine blockW_ret ?_ | refine blockW_panic ?_ | refine loopW_ret ?_ | refine loopW_exit ?_ | refine loopW_panic ?_ | refine joinW_ret ?_ | refine joinW_exit ?_ | refine joinW_panic ?_ | refine W_seq ?_ | refine W_block ?_ | refine W_skip ?_ | refine W_ret ?_ | refine W_exit ?_ | refine W_label ?_
      | with_reducible refine blockW_other (by decide) ?_
      | with_reducible refine W_region (by first | decide | (with_unfolding_all rfl)) ?_
      | (rw [vcn]; (try simp [push_cast, -List.map_take, -List.map_drop]); try simp (disch := omega) only [i64_in, u64_in, shr64i])
      | with_reducible refine W_drawn mixed (by decide) (by kernel_rfl) ?_
      | (rw [vcnD]; (try simp [push_cast, -List.map_take, -List.map_drop]); try simp (disch := omega) only [i64_in, u64_in, shr64i])
      | (with_reducible refine W_condW ?_; (try simp [AS.val, upd, resB, mkS_env, mkS_box, lk, entry_env, condW_true, condW_false]))
      | with_reducible refine optK_dV (by first | omega | (simp; omega)) ?_
      | with_reducible refine optK_dVh (by omega) ?_
      | refine And.intro (by first | omega | kernel_rfl) ?_
      | (with_reducible refine condW_b (fun hc => ?_) (fun hc => ?_) <;> (try simp [Int.ofNat_inj] at hc) <;> try contradiction)
      | fail)
    simp [post, resAV, resAll, resOne, closeV, closeC, closeL, resD, resDL, push_cast, -List.map_take, -List.map_drop]
  · have a0 : (48 ≤ (x : Int)) := by omega
    have a1 : ¬ ((x : Int) ≤ 57) := by omega
    have a2 : (65 ≤ (x : Int)) := by omega
    have a3 : ¬ ((x : Int) ≤ 90) := by omega
    have a4 : ¬ (97 ≤ (x : Int)) := by omega
    have a5 : ((x : Int) ≤ 122) := by omega
    have b6 : (x = 95) = False := by simp; omega
    have c6 : ((x : Int) = 95) = False := by simp; omega
    have b7 : (x = 63) = False := by simp; omega
    have c7 : ((x : Int) = 63) = False := by simp; omega
    have b8 : (x = 36) = False := by simp; omega
    have c8 : ((x : Int) = 36) = False := by simp; omega
    repeat' (first
      | with_reducible first | refine thenW_n ?_ | refine thenW_ret ?_ | refine thenW_exit ?_ | refine thenW_panic ?_ | refine blockW_n ?_ | refine blockW_same ?_ | refine blockW_ret ?_ | refine blockW_panic ?_ | refine loopW_ret ?_ | refine loopW_exit ?_ | refine loopW_panic ?_ | refine joinW_ret ?_ | refine joinW_exit ?_ | refine joinW_panic ?_ | refine W_seq ?_ | refine W_block ?_ | refine W_skip ?_ | refine W_ret ?_ | refine W_exit ?_ | refine W_label ?_
      | with_reducible refine blockW_other (by decide) ?_
      | with_reducible refine W_region (by first | decide | (with_unfolding_all rfl)) ?_
      | (rw [vcn]; (try simp [push_cast, -List.map_take, -List.map_drop, a0, a1, a2, a3, a4, a5, b6, c6, b7, c7, b8, c8]); try simp (disch := omega) only [i64_in, u64_in, shr64i])
      | with_reducible refine W_drawn mixed (by decide) (by kernel_rfl) ?_
      | (rw [vcnD]; (try simp [push_cast, -List.map_take, -List.map_drop, a0, a1, a2, a3, a4, a5, b6, c6, b7, c7, b8, c8]); try simp (disch := omega) only [i64_in, u64_in, shr64i])
      | (with_reducible refine W_condW ?_; (try simp [AS.val, upd, resB, mkS_env, mkS_box, lk, entry_env, condW_true, condW_false, a0, a1, a2, a3, a4, a5, b6, c6, b7, c7, b8, c8]))
      | with_reducible refine optK_dV (by first | omega | (simp; omega)) ?_
      | with_reducible refine optK_dVh (by omega) ?_
      | refine And.intro (by first | omega | kernel_rfl) ?_
      | (with_reducible refine condW_b (fun hc => ?_) (fun hc => ?_) <;> (try simp [Int.ofNat_inj] at hc) <;> try contradiction)
      | fail)
    simp [post, resAV, resAll, resOne, closeV, closeC, closeL, resD, resDL, push_cast, -List.map_take, -List.map_drop, a0, a1, a2, a3, a4, a5, b6, c6, b7, c7, b8, c8]
    all_goals first | omega | (rw [Bool.eq_iff_iff]; simp; omega)
  · have a0 : (48 ≤ (x : Int)) := by omega
    have a1 : ¬ ((x : Int) ≤ 57) := by omega
    have a2 : (65 ≤ (x : Int)) := by omega
    have a3 : ¬ ((x : Int) ≤ 90) := by omega
    have a4 : (97 ≤ (x : Int)) := by omega
    have a5 : ((x : Int) ≤ 122) := by omega
    have b6 : (x = 95) = False := by simp; omega
    have c6 : ((x : Int) = 95) = False := by simp; omega
    have b7 : (x = 63) = False := by simp; omega
    have c7 : ((x : Int) = 63) = False := by simp; omega
    have b8 : (x = 36) = False := by simp; omega
    have c8 : ((x : Int) = 36) = False := by simp; omega
    repeat' (first
      | with_reducible first | refine thenW_n ?_ | refine thenW_ret ?_ | refine thenW_exit ?_ | refine thenW_panic ?_ | refine blockW_n ?_ | refine blockW_same ?_ | refine blockW_ret ?_ | refine blockW_panic ?_ | refine loopW_ret ?_ | refine loopW_exit ?_ | refine loopW_panic ?_ | refine joinW_ret ?_ | refine joinW_exit ?_ | refine joinW_panic ?_ | refine W_seq ?_ | refine W_block ?_ | refine W_skip ?_ | refine W_ret ?_ | refine W_exit ?_ | refine W_label ?_
      | with_reducible refine blockW_other (by decide) ?_
      | with_reducible refine W_region (by first | decide | (with_unfolding_all rfl)) ?_
      | (rw [vcn]; (try simp [push_cast, -List.map_take, -List.map_drop, a0, a1, a2, a3, a4, a5, b6, c6, b7, c7, b8, c8]); try simp (disch := omega) only [i64_in, u64_in, shr64i])
      | with_reducible refine W_drawn mixed (by decide) (by kernel_rfl) ?_
      | (rw [vcnD]; (try simp [push_cast, -List.map_take, -List.map_drop, a0, a1, a2, a3, a4, a5, b6, c6, b7, c7, b8, c8]); try simp (disch := omega) only [i64_in, u64_in, shr64i])
      | (with_reducible refine W_condW ?_; (try simp [AS.val, upd, resB, mkS_env, mkS_box, lk, entry_env, condW_true, condW_false, a0, a1, a2, a3, a4, a5, b6, c6, b7, c7, b8, c8]))
      | with_reducible refine optK_dV (by first | omega | (simp; omega)) ?_
      | with_reducible refine optK_dVh (by omega) ?_
      | refine And.intro (by first | omega | kernel_rfl) ?_
      | (with_reducible refine condW_b (fun hc => ?_) (fun hc => ?_) <;> (try simp [Int.ofNat_inj] at hc) <;> try contradiction)
      | fail)
    simp [post, resAV, resAll, resOne, closeV, closeC, closeL, resD, resDL, push_cast, -List.map_take, -List.map_drop, a0, a1, a2, a3, a4, a5, b6, c6, b7, c7, b8, c8]
    all_goals first | omega | (rw [Bool.eq_iff_iff]; simp; omega)
  · have a0 : (48 ≤ (x : Int)) := by omega
    have a1 : ¬ ((x : Int) ≤ 57) := by omega
    have a2 : (65 ≤ (x : Int)) := by omega
    have a3 : ¬ ((x : Int) ≤ 90) := by omega
    have a4 : (97 ≤ (x : Int)) := by omega
    have a5 : ¬ ((x : Int) ≤ 122) := by omega
    have b6 : (x = 95) = False := by simp; omega
    have c6 : ((x : Int) = 95) = False := by simp; omega
    have b7 : (x = 63) = False := by simp; omega
    have c7 : ((x : Int) = 63) = False := by simp; omega
    have b8 : (x = 36) = False := by simp; omega
    have c8 : ((x : Int) = 36) = False := by simp; omega
    repeat' (first
      | with_reducible first | refine thenW_n ?_ | refine thenW_ret ?_ | refine thenW_exit ?_ | refine thenW_panic ?_ | refine blockW_n ?_ | refine blockW_same ?_ | refine blockW_ret ?_ | refine blockW_panic ?_ | refine loopW_ret ?_ | refine loopW_exit ?_ | refine loopW_panic ?_ | refine joinW_ret ?_ | refine joinW_exit ?_ | refine joinW_panic ?_ | refine W_seq ?_ | refine W_block ?_ | refine W_skip ?_ | refine W_ret ?_ | refine W_exit ?_ | refine W_label ?_
      | with_reducible refine blockW_other (by decide) ?_
      | with_reducible refine W_region (by first | decide | (with_unfolding_all rfl)) ?_
      | (rw [vcn]; (try simp [push_cast, -List.map_take, -List.map_drop, a0, a1, a2, a3, a4, a5, b6, c6, b7, c7, b8, c8]); try simp (disch := omega) only [i64_in, u64_in, shr64i])
      | with_reducible refine W_drawn mixed (by decide) (by kernel_rfl) ?_
      | (rw [vcnD]; (try simp [push_cast, -List.map_take, -List.map_drop, a0, a1, a2, a3, a4, a5, b6, c6, b7, c7, b8, c8]); try simp (disch := omega) only [i64_in, u64_in, shr64i])
      | (with_reducible refine W_condW ?_; (try simp [AS.val, upd, resB, mkS_env, mkS_box, lk, entry_env, condW_true, condW_false, a0, a1, a2, a3, a4, a5, b6, c6, b7, c7, b8, c8]))
      | with_reducible refine optK_dV (by first | omega | (simp; omega)) ?_
      | with_reducible refine optK_dVh (by omega) ?_
      | refine And.intro (by first | omega | kernel_rfl) ?_
      | (with_reducible refine condW_b (fun hc => ?_) (fun hc => ?_) <;> (try simp [Int.ofNat_inj] at hc) <;> try contradiction)
      | fail)
    simp [post, resAV, resAll, resOne, closeV, closeC, closeL, resD, resDL, push_cast, -List.map_take, -List.map_drop, a0, a1, a2, a3, a4, a5, b6, c6, b7, c7, b8, c8]
    all_goals first | omega | (rw [Bool.eq_iff_iff]; simp; omega)
end Go.Fw
