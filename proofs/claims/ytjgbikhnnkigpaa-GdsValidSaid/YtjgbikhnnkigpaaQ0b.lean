import Derived.Test.YtjgbikhnnkigpaaT6
import Derived.Test.YtjgbikhnnkigpaaT13b
import Derived.Test.YtjgbikhnnkigpaaNbb
set_option linter.unusedSimpArgs false
set_option linter.unusedVariables false
namespace Go.Fw
open Go
def natAV : AV := .junk
def limbs (n : Nat) : List Nat := digits 4294967296 n
end Go.Fw
namespace Go.Fw
open Go Go.Proofs Go.IntWalk
set_option linter.unusedSimpArgs false
set_option maxRecDepth 100000
set_option maxHeartbeats 4000000
open List (map_take map_drop)
attribute [local push_cast] optK_some optK_none optK_ite optK_map optK_bind gOn stepK isMem evPure evMem evBin evUn evConv evLen evBuiltin evMinMax evSlice evBuild evAppend evIndex evIndexAddr evField evFieldAddr intBin strBin appDest AS.val AS.mem AS.elems AS.put AS.put' AS.eff AV.cells? AV.isCell AV.refs all_isByte take_byteV drop_byteV strOf_map bndOk bnd partAV ptrAdd killBox catA inOrder fillA setAt ofVal resB upd byteV List.head?_take List.head?_drop List.getElem?_map mkS_env mkS_box mkS_used entry_env entry_box entry_used lk stepD lookIds Oper.looksAt Op.operands Call.operands St.ids refsL renL_append dV_take dV_drop ren renL renBox Box.refs iV i64V boolV dV_getElem dV_app dV_cons toNat_add2 toNat_add1
theorem byte_beq (a b : UInt8) : ((a.toNat : Int) == (b.toNat : Int)) = (a == b) := by
  by_cases h : a = b
  · subst h; simp
  · have h1 : ¬ (a.toNat : Int) = (b.toNat : Int) := fun e => h (UInt8.toNat_inj.1 (by omega))
    rw [beq_eq_false_iff_ne.2 h, beq_eq_false_iff_ne.2 h1]
theorem byteL_get (l : List UInt8) (i : Nat) (h : i < l.length) : (l.map byteV)[i]? = some (byteV l[i]) := by simp [List.getElem?_eq_getElem h]
def inB (l : List UInt8) (k : UInt8) : Bool := l.contains k
theorem among_ok (k : UInt8) (f : Bool) (l : List UInt8) : Eval Try.prog 54 [byteV k, .slc f 1 l.length (l.map byteV)] (.ret (.v (.bool (inB l k)))) := by
  refine Eval.intro Try.func54 rfl Try.call54 _ _ (Nat.le_of_ble_eq_true rfl) (by simp [-map_take,-map_drop, natAV, push_cast]) fun hs0 => ?_
  have hn : l.length ≤ 9223372036854775807 := hs0.2.1.1
  repeat' (first
    | with_reducible first | apply thenW_n | apply W_seq | apply W_block
    | with_reducible refine W_region (by first | decide | (with_unfolding_all rfl)) ?_
    | (rw [vcn]; (try simp [-map_take,-map_drop, push_cast]))
    | fail)
  refine W_loopW (X := Nat) (fun i => [(0, byteV k), (1, .slc f 1 l.length (l.map byteV)), (5, i64V i)]) (fun _ => []) (fun i => l.length - i) (fun i => i ≤ l.length ∧ (l.take i).contains k = false) 0 id ⟨Nat.zero_le _, by simp [-map_take,-map_drop]⟩ ⟨?_, ?_, ?_, ?_, ?_, ?_⟩ fun i hx => ?_
  all_goals first | (with_reducible refine W_id ?_) | (simp [-map_take,-map_drop, push_cast]; done)
  obtain ⟨hi, hI⟩ := hx
  by_cases hlt : i < l.length
  · have hlt' : ((i : Int) < (l.length : Int)) = True := by simp [-map_take,-map_drop]; omega
    have g := byteL_get l i hlt
    by_cases he : l[i] = k
    · have hb : ((l[i].toNat : Int) == (k.toNat : Int)) = true := by rw [byte_beq]; simp [-map_take,-map_drop, he]
      repeat' (first
        | with_reducible first | apply thenW_n | apply thenW_ret | apply blockW_ret | apply loopW_ret | apply W_seq | apply W_block | apply W_skip | apply W_ret
        | with_reducible refine W_region (by first | decide | (with_unfolding_all rfl)) ?_
        | (rw [vcn]; (try simp [-map_take,-map_drop, push_cast, hlt', hlt, hb, g]))
        | (with_reducible refine W_condW ?_; (try simp [-map_take,-map_drop, AS.val, upd, resB, mkS_env, mkS_box, lk, entry_env, condW_true, condW_false, hlt', hlt, hb, g]))
        | fail)
      have hin : inB l k = true := by rw [← he]; simp [-map_take,-map_drop, inB]
      simp [-map_take,-map_drop, post, resAV, resAll, resOne, closeV, closeC, closeL, resD, resDL, push_cast, hin]
    · have hb : ((l[i].toNat : Int) == (k.toNat : Int)) = false := by rw [byte_beq]; simp [-map_take,-map_drop, he]
      have hI2 : (l.take (i + 1)).contains k = false := by
        rw [List.take_succ_eq_append_getElem hlt]
        simp only [List.contains_eq_mem, decide_eq_false_iff_not] at hI ⊢
        intro hm
        rcases List.mem_append.1 hm with h | h
        · exact hI h
        · exact he (by simpa [-map_take,-map_drop] using h : k = l[i]).symm
      repeat' (first
        | with_reducible first | apply thenW_n | apply blockW_n | apply W_seq | apply W_block | apply W_skip
        | with_reducible refine W_region (by first | decide | (with_unfolding_all rfl)) ?_
        | (rw [vcn]; (try simp [-map_take,-map_drop, push_cast, hlt', hlt, hb, g]); try simp (disch := omega) only [i64_in, u64_in, shr64i])
        | (with_reducible refine W_condW ?_; (try simp [-map_take,-map_drop, AS.val, upd, resB, mkS_env, mkS_box, lk, entry_env, condW_true, condW_false, hlt', hlt, hb, g]))
        | fail)
      refine loopW_n (i + 1) id (by omega) ⟨by omega, by simpa [-map_take,-map_drop] using hI2⟩ ⟨?_, ?_, ?_, ?_, ?_, ?_⟩
      all_goals first | (simp [-map_take,-map_drop, push_cast]; done)
  · have hlt' : ((i : Int) < (l.length : Int)) = False := by simp [-map_take,-map_drop]; omega
    repeat' (first
      | with_reducible first | apply thenW_n | apply thenW_exit | apply blockW_same | apply loopW_exit | apply W_seq | apply W_ret | apply W_exit
      | with_reducible refine W_region (by first | decide | (with_unfolding_all rfl)) ?_
      | (rw [vcn]; (try simp [-map_take,-map_drop, push_cast, hlt', hlt]))
      | (with_reducible refine W_condW ?_; (try simp [-map_take,-map_drop, AS.val, upd, resB, mkS_env, mkS_box, lk, entry_env, condW_true, condW_false, hlt', hlt]))
      | fail)
    have hin : inB l k = false := by rw [List.take_of_length_le (by omega)] at hI; exact hI
    simp [-map_take,-map_drop, post, resAV, resAll, resOne, closeV, closeC, closeL, resD, resDL, push_cast, hin]
theorem name_ok (c : UInt8) : Eval Try.prog 68 [byteV c] (.ret (.v (.bool (letterB c)))) := by
  refine Eval.intro Try.func68 rfl Try.call68 _ _ (Nat.le_of_ble_eq_true rfl) (by simp [natAV, push_cast]) fun hs0 => ?_
  have hc : c.toNat < 256 := c.toNat_lt
  obtain ⟨x, hx⟩ : ∃ x, x = c.toNat := ⟨_, rfl⟩
  have hl : letterB c = ((65 ≤ x && x ≤ 90) || (97 ≤ x && x ≤ 122) || (48 ≤ x && x ≤ 57) || x == 95 || x == 63 || x == 36) := by rw [hx]; rfl
  rw [hl]
  simp only [byteV, ← hx]
  rw [← hx] at hc
  clear hl hx
  have hcase : x = 36 ∨ (x < 48 ∧ x ≠ 36) ∨ (48 ≤ x ∧ x ≤ 57) ∨ x = 63 ∨ (58 ≤ x ∧ x ≤ 64 ∧ x ≠ 63) ∨ (65 ≤ x ∧ x ≤ 90) ∨ x = 95 ∨ (91 ≤ x ∧ x ≤ 96 ∧ x ≠ 95) ∨ (97 ≤ x ∧ x ≤ 122) ∨ 123 ≤ x := by omega
  rcases hcase with h | h | h | h | h | h | h | h | h | h
  · subst h
    repeat' (first
      | with_reducible first | apply thenW_n | apply W_seq | apply W_ret
      | with_reducible refine W_region (by first | decide | (with_unfolding_all rfl)) ?_
      | (rw [vcn]; (try simp [push_cast]))
      | fail)
    simp [post, resAV, resAll, resOne, closeV, closeC, closeL, resD, resDL, push_cast]
  · have a0 : ¬ (48 ≤ (x : Int)) := by omega
    have a1 : ((x : Int) ≤ 57) := by omega
    have a2 : ¬ (65 ≤ (x : Int)) := by omega
    have a3 : ((x : Int) ≤ 90) := by omega
    have a4 : ¬ (97 ≤ (x : Int)) := by omega
    have a5 : ((x : Int) ≤ 122) := by omega
    have b6 : (x = 95) = False := by simp; omega
    have c6 : ((x : Int) = 95) = False := by simp; omega
    have b7 : (x = 63) = False := by simp; omega
    have c7 : ((x : Int) = 63) = False := by simp; omega
    have b8 : (x = 36) = False := by simp; omega
    have c8 : ((x : Int) = 36) = False := by simp; omega
    repeat' (first
      | with_reducible first | apply thenW_n | apply W_seq | apply W_ret
      | with_reducible refine W_region (by first | decide | (with_unfolding_all rfl)) ?_
      | (rw [vcn]; (try simp [push_cast, a0, a1, a2, a3, a4, a5, b6, c6, b7, c7, b8, c8]))
      | fail)
    simp [post, resAV, resAll, resOne, closeV, closeC, closeL, resD, resDL, push_cast, a0, a1, a2, a3, a4, a5, b6, c6, b7, c7, b8, c8]
    all_goals first | omega | (rw [Bool.eq_iff_iff]; simp; omega)
  · have a0 : (48 ≤ (x : Int)) := by omega
    have a1 : ((x : Int) ≤ 57) := by omega
    have a2 : ¬ (65 ≤ (x : Int)) := by omega
    have a3 : ((x : Int) ≤ 90) := by omega
    have a4 : ¬ (97 ≤ (x : Int)) := by omega
    have a5 : ((x : Int) ≤ 122) := by omega
    have b6 : (x = 95) = False := by simp; omega
    have c6 : ((x : Int) = 95) = False := by simp; omega
    have b7 : (x = 63) = False := by simp; omega
    have c7 : ((x : Int) = 63) = False := by simp; omega
    have b8 : (x = 36) = False := by simp; omega
    have c8 : ((x : Int) = 36) = False := by simp; omega
    repeat' (first
      | with_reducible first | apply thenW_n | apply W_seq | apply W_ret
      | with_reducible refine W_region (by first | decide | (with_unfolding_all rfl)) ?_
      | (rw [vcn]; (try simp [push_cast, a0, a1, a2, a3, a4, a5, b6, c6, b7, c7, b8, c8]))
      | fail)
    simp [post, resAV, resAll, resOne, closeV, closeC, closeL, resD, resDL, push_cast, a0, a1, a2, a3, a4, a5, b6, c6, b7, c7, b8, c8]
    all_goals first | omega | (rw [Bool.eq_iff_iff]; simp; omega)
  · subst h
    repeat' (first
      | with_reducible first | apply thenW_n | apply W_seq | apply W_ret
      | with_reducible refine W_region (by first | decide | (with_unfolding_all rfl)) ?_
      | (rw [vcn]; (try simp [push_cast]))
      | fail)
    simp [post, resAV, resAll, resOne, closeV, closeC, closeL, resD, resDL, push_cast]
  · have a0 : (48 ≤ (x : Int)) := by omega
    have a1 : ¬ ((x : Int) ≤ 57) := by omega
    have a2 : ¬ (65 ≤ (x : Int)) := by omega
    have a3 : ((x : Int) ≤ 90) := by omega
    have a4 : ¬ (97 ≤ (x : Int)) := by omega
    have a5 : ((x : Int) ≤ 122) := by omega
    have b6 : (x = 95) = False := by simp; omega
    have c6 : ((x : Int) = 95) = False := by simp; omega
    have b7 : (x = 63) = False := by simp; omega
    have c7 : ((x : Int) = 63) = False := by simp; omega
    have b8 : (x = 36) = False := by simp; omega
    have c8 : ((x : Int) = 36) = False := by simp; omega
    repeat' (first
      | with_reducible first | apply thenW_n | apply W_seq | apply W_ret
      | with_reducible refine W_region (by first | decide | (with_unfolding_all rfl)) ?_
      | (rw [vcn]; (try simp [push_cast, a0, a1, a2, a3, a4, a5, b6, c6, b7, c7, b8, c8]))
      | fail)
    simp [post, resAV, resAll, resOne, closeV, closeC, closeL, resD, resDL, push_cast, a0, a1, a2, a3, a4, a5, b6, c6, b7, c7, b8, c8]
    all_goals first | omega | (rw [Bool.eq_iff_iff]; simp; omega)
  · have a0 : (48 ≤ (x : Int)) := by omega
    have a1 : ¬ ((x : Int) ≤ 57) := by omega
    have a2 : (65 ≤ (x : Int)) := by omega
    have a3 : ((x : Int) ≤ 90) := by omega
    have a4 : ¬ (97 ≤ (x : Int)) := by omega
    have a5 : ((x : Int) ≤ 122) := by omega
    have b6 : (x = 95) = False := by simp; omega
    have c6 : ((x : Int) = 95) = False := by simp; omega
    have b7 : (x = 63) = False := by simp; omega
    have c7 : ((x : Int) = 63) = False := by simp; omega
    have b8 : (x = 36) = False := by simp; omega
    have c8 : ((x : Int) = 36) = False := by simp; omega
    repeat' (first
      | with_reducible first | apply thenW_n | apply W_seq | apply W_ret
      | with_reducible refine W_region (by first | decide | (with_unfolding_all rfl)) ?_
      | (rw [vcn]; (try simp [push_cast, a0, a1, a2, a3, a4, a5, b6, c6, b7, c7, b8, c8]))
      | fail)
    simp [post, resAV, resAll, resOne, closeV, closeC, closeL, resD, resDL, push_cast, a0, a1, a2, a3, a4, a5, b6, c6, b7, c7, b8, c8]
    all_goals first | omega | (rw [Bool.eq_iff_iff]; simp; omega)
  · subst h
    repeat' (first
      | with_reducible first | apply thenW_n | apply W_seq | apply W_ret
      | with_reducible refine W_region (by first | decide | (with_unfolding_all rfl)) ?_
      | (rw [vcn]; (try simp [push_cast]))
      | fail)
    simp [post, resAV, resAll, resOne, closeV, closeC, closeL, resD, resDL, push_cast]
  · have a0 : (48 ≤ (x : Int)) := by omega
    have a1 : ¬ ((x : Int) ≤ 57) := by omega
    have a2 : (65 ≤ (x : Int)) := by omega
    have a3 : ¬ ((x : Int) ≤ 90) := by omega
    have a4 : ¬ (97 ≤ (x : Int)) := by omega
    have a5 : ((x : Int) ≤ 122) := by omega
    have b6 : (x = 95) = False := by simp; omega
    have c6 : ((x : Int) = 95) = False := by simp; omega
    have b7 : (x = 63) = False := by simp; omega
    have c7 : ((x : Int) = 63) = False := by simp; omega
    have b8 : (x = 36) = False := by simp; omega
    have c8 : ((x : Int) = 36) = False := by simp; omega
    repeat' (first
      | with_reducible first | apply thenW_n | apply W_seq | apply W_ret
      | with_reducible refine W_region (by first | decide | (with_unfolding_all rfl)) ?_
      | (rw [vcn]; (try simp [push_cast, a0, a1, a2, a3, a4, a5, b6, c6, b7, c7, b8, c8]))
      | fail)
    simp [post, resAV, resAll, resOne, closeV, closeC, closeL, resD, resDL, push_cast, a0, a1, a2, a3, a4, a5, b6, c6, b7, c7, b8, c8]
    all_goals first | omega | (rw [Bool.eq_iff_iff]; simp; omega)
  · have a0 : (48 ≤ (x : Int)) := by omega
    have a1 : ¬ ((x : Int) ≤ 57) := by omega
    have a2 : (65 ≤ (x : Int)) := by omega
    have a3 : ¬ ((x : Int) ≤ 90) := by omega
    have a4 : (97 ≤ (x : Int)) := by omega
    have a5 : ((x : Int) ≤ 122) := by omega
    have b6 : (x = 95) = False := by simp; omega
    have c6 : ((x : Int) = 95) = False := by simp; omega
    have b7 : (x = 63) = False := by simp; omega
    have c7 : ((x : Int) = 63) = False := by simp; omega
    have b8 : (x = 36) = False := by simp; omega
    have c8 : ((x : Int) = 36) = False := by simp; omega
    repeat' (first
      | with_reducible first | apply thenW_n | apply W_seq | apply W_ret
      | with_reducible refine W_region (by first | decide | (with_unfolding_all rfl)) ?_
      | (rw [vcn]; (try simp [push_cast, a0, a1, a2, a3, a4, a5, b6, c6, b7, c7, b8, c8]))
      | fail)
    simp [post, resAV, resAll, resOne, closeV, closeC, closeL, resD, resDL, push_cast, a0, a1, a2, a3, a4, a5, b6, c6, b7, c7, b8, c8]
    all_goals first | omega | (rw [Bool.eq_iff_iff]; simp; omega)
  · have a0 : (48 ≤ (x : Int)) := by omega
    have a1 : ¬ ((x : Int) ≤ 57) := by omega
    have a2 : (65 ≤ (x : Int)) := by omega
    have a3 : ¬ ((x : Int) ≤ 90) := by omega
    have a4 : (97 ≤ (x : Int)) := by omega
    have a5 : ¬ ((x : Int) ≤ 122) := by omega
    have b6 : (x = 95) = False := by simp; omega
    have c6 : ((x : Int) = 95) = False := by simp; omega
    have b7 : (x = 63) = False := by simp; omega
    have c7 : ((x : Int) = 63) = False := by simp; omega
    have b8 : (x = 36) = False := by simp; omega
    have c8 : ((x : Int) = 36) = False := by simp; omega
    repeat' (first
      | with_reducible first | apply thenW_n | apply W_seq | apply W_ret
      | with_reducible refine W_region (by first | decide | (with_unfolding_all rfl)) ?_
      | (rw [vcn]; (try simp [push_cast, a0, a1, a2, a3, a4, a5, b6, c6, b7, c7, b8, c8]))
      | fail)
    simp [post, resAV, resAll, resOne, closeV, closeC, closeL, resD, resDL, push_cast, a0, a1, a2, a3, a4, a5, b6, c6, b7, c7, b8, c8]
    all_goals first | omega | (rw [Bool.eq_iff_iff]; simp; omega)
end Go.Fw
namespace Go.Fw
open Go Go.Proofs Go.IntWalk
set_option linter.unusedSimpArgs false
set_option maxRecDepth 100000
set_option maxHeartbeats 4000000
open List (map_take map_drop)
attribute [local push_cast] optK_some optK_none optK_ite optK_map optK_bind gOn stepK isMem evPure evMem evBin evUn evConv evLen evBuiltin evMinMax evSlice evBuild evAppend evIndex evIndexAddr evField evFieldAddr intBin strBin appDest AS.val AS.mem AS.elems AS.put AS.put' AS.eff AV.cells? AV.isCell AV.refs all_isByte take_byteV drop_byteV strOf_map bndOk bnd partAV ptrAdd killBox catA inOrder fillA setAt ofVal resB upd byteV List.head?_take List.head?_drop List.getElem?_map mkS_env mkS_box mkS_used entry_env entry_box entry_used lk stepD lookIds Oper.looksAt Op.operands Call.operands St.ids refsL renL_append dV_take dV_drop ren renL renBox Box.refs iV i64V boolV dV_getElem dV_app dV_cons toNat_add2 toNat_add1
def okAt (b : List UInt8) (names : Bool) (i : Nat) : Bool := (decide (i + 1 = b.length) && b.getD i 0 == 0) || (b.getD i 0 != 0 && (!names || letterB (b.getD i 0)))
def textB (b : List UInt8) (most : Nat) (names : Bool) : Bool := decide (0 < b.length) && decide (b.length % 2 = 0) && decide (b.length ≤ most) && (List.range b.length).all (okAt b names)
theorem text_ok (f : Bool) (b : List UInt8) (most : Nat) (names : Bool) (hb : b.length ≤ 140737488355328) : Eval Try.prog 55 [.slc f 1 b.length (b.map byteV), i64V most, .v (.bool names)] (.ret (.v (.bool (textB b most names)))) := by
  refine Eval.intro Try.func55 rfl Try.call55 _ _ (Nat.le_of_ble_eq_true rfl) (by simp [natAV, push_cast]) fun hs0 => ?_
  have hget := byteL_get b
  obtain ⟨n, hn⟩ : ∃ n, n = b.length := ⟨_, rfl⟩
  obtain ⟨L, hL⟩ : ∃ L, L = b.map byteV := ⟨_, rfl⟩
  have hLl : L.length = n := by rw [hL, hn, List.length_map]
  rw [← hL] at hget ⊢
  rw [← hn]
  rw [← hn] at hb
  have hmod : ((n : Int).tmod 2) = ((n % 2 : Nat) : Int) := by rw [Int.ofNat_tmod]; rfl
  by_cases h0 : n = 0
  · have g0 : (n = 0) = True := by simp [h0]
    repeat' (first
      | with_reducible first | apply thenW_n | apply thenW_ret | apply W_seq | apply W_ret
      | with_reducible refine W_region (by first | decide | (with_unfolding_all rfl)) ?_
      | (rw [vcn]; (try simp [push_cast, g0]))
      | (with_reducible refine W_condW ?_; (try simp [AS.val, upd, resB, mkS_env, mkS_box, lk, entry_env, condW_true, condW_false, g0]))
      | fail)
    simp [post, resAV, resAll, resOne, closeV, closeC, closeL, resD, resDL, push_cast, g0]
    simp [textB, ← hn, h0]
  have g0 : (n = 0) = False := by simp [h0]
  by_cases h1 : ¬ n % 2 = 0
  · have g1 : (n % 2 = 0) = False := by simp [h1]
    have g2 : ((n : Int) % 2 = 0) = False := by simp; omega
    have g3 : (n % 2 = 1) = True := by simp; omega
    repeat' (first
      | with_reducible first | apply thenW_n | apply thenW_ret | apply W_seq | apply W_ret
      | with_reducible refine W_region (by first | decide | (with_unfolding_all rfl)) ?_
      | (rw [vcn]; (try simp [push_cast, g0, hmod, g1, g2, g3]))
      | (with_reducible refine W_condW ?_; (try simp [AS.val, upd, resB, mkS_env, mkS_box, lk, entry_env, condW_true, condW_false, g0, hmod, g1, g2, g3]))
      | fail)
    simp [post, resAV, resAll, resOne, closeV, closeC, closeL, resD, resDL, push_cast]
    simp [textB, ← hn, h0, h1]
  have h1 : n % 2 = 0 := by omega
  have g1 : (n % 2 = 0) = True := by simp [h1]
  have g2 : ((n : Int) % 2 = 0) = True := by simp; omega
  have g3 : (n % 2 = 1) = False := by simp; omega
  by_cases h2 : ¬ n ≤ most
  · have g4 : (most < n) = True := by simp; omega
    repeat' (first
      | with_reducible first | apply thenW_n | apply thenW_ret | apply W_seq | apply W_ret
      | with_reducible refine W_region (by first | decide | (with_unfolding_all rfl)) ?_
      | (rw [vcn]; (try simp [push_cast, g0, hmod, g1, g2, g3, g4]))
      | (with_reducible refine W_condW ?_; (try simp [AS.val, upd, resB, mkS_env, mkS_box, lk, entry_env, condW_true, condW_false, g0, hmod, g1, g2, g3, g4]))
      | fail)
    simp [post, resAV, resAll, resOne, closeV, closeC, closeL, resD, resDL, push_cast]
    simp [textB, ← hn, h0, h1, h2]
  have h2 : n ≤ most := by omega
  have g4 : (most < n) = False := by simp; omega
  repeat' (first
    | with_reducible first | apply thenW_n | apply W_seq | apply W_block | apply W_skip
    | with_reducible refine W_region (by first | decide | (with_unfolding_all rfl)) ?_
    | (rw [vcn]; (try simp [push_cast, g0, hmod, g1, g2, g3, g4]))
    | (with_reducible refine W_condW ?_; (try simp [AS.val, upd, resB, mkS_env, mkS_box, lk, entry_env, condW_true, condW_false, g0, hmod, g1, g2, g3, g4]))
    | fail)
  refine W_loopW (X := Nat) (fun i => [(0, .slc f 1 n L), (2, .v (.bool names)), (7, i64V i)]) (fun _ => []) (fun i => n - i) (fun i => i ≤ n ∧ ∀ j < i, okAt b names j = true) 0 id ⟨Nat.zero_le _, by simp⟩ ⟨?_, ?_, ?_, ?_, ?_, ?_⟩ fun i hx => ?_
  all_goals first | (with_reducible refine W_id ?_) | (simp [push_cast]; done)
  obtain ⟨hi, hI⟩ := hx
  by_cases hlt : ¬ i < n
  · have g5 : (i < n) = False := by simp; omega
    have hall : textB b most names = true := by
      simp only [textB, ← hn, Bool.and_eq_true, decide_eq_true_eq, List.all_eq_true, List.mem_range]
      exact ⟨⟨⟨by omega, h1⟩, h2⟩, fun j hj => hI j (by omega)⟩
    repeat' (first
      | with_reducible first | apply thenW_n | apply thenW_exit | apply blockW_same | apply loopW_exit | apply W_seq | apply W_ret | apply W_exit
      | with_reducible refine W_region (by first | decide | (with_unfolding_all rfl)) ?_
      | (rw [vcn]; (try simp [push_cast, g5]))
      | (with_reducible refine W_condW ?_; (try simp [AS.val, upd, resB, mkS_env, mkS_box, lk, entry_env, condW_true, condW_false, g5]))
      | fail)
    simp [post, resAV, resAll, resOne, closeV, closeC, closeL, resD, resDL, push_cast, hall]
  have hlt : i < n := by omega
  have g5 : (i < n) = True := by simp; omega
  have hg := hget i (by omega)
  have hgd : b.getD i 0 = b[i] := by simp [List.getD, List.getElem?_eq_getElem (show i < b.length by omega)]
  obtain ⟨c, hc⟩ : ∃ c, c = b[i] := ⟨_, rfl⟩
  rw [← hc] at hg hgd
  have hok : okAt b names i = ((decide (i + 1 = n) && c == 0) || (c != 0 && (!names || letterB c))) := by simp only [okAt, hgd, ← hn]
  have hnot : okAt b names i = false → textB b most names = false := by
    intro h
    rw [Bool.eq_false_iff]
    intro h'
    simp only [textB, Bool.and_eq_true, List.all_eq_true, List.mem_range] at h'
    rw [h'.2 i (by omega)] at h
    cases h
  have hnext : okAt b names i = true → ∀ j < i + 1, okAt b names j = true := by
    intro h j hj
    rcases (by omega : j < i ∨ j = i) with hj | hj
    · exact hI j hj
    · subst hj; exact h
  have hname := name_ok c
  have hlen1 : (L.drop i).length = n - i := by rw [List.length_drop, hLl]
  obtain ⟨y, hy⟩ : ∃ y, y = c.toNat := ⟨_, rfl⟩
  have hc0 : (c == 0) = decide (y = 0) := by
    rw [Bool.eq_iff_iff]
    simp only [beq_iff_eq, decide_eq_true_eq, hy]
    exact ⟨fun h => by rw [h]; rfl, fun h => UInt8.toNat_inj.1 (by rw [h]; rfl)⟩
  have hc1 : (c != 0) = !decide (y = 0) := by rw [bne, hc0]
  rw [hc0, hc1] at hok
  simp only [byteV, ← hy] at hg hname
  clear hy hc hgd hc0 hc1
  have hg2 : ∀ h : i < L.length, L[i] = .v (.int .u8 (y : Int)) := fun h => by
    have := List.getElem?_eq_getElem h
    rw [hg] at this
    exact (Option.some.inj this).symm
  by_cases hlast : i + 1 = n
  · have g6 : ((i : Int) = (n : Int) - 1) = True := by simp; omega
    have g6' : (i = n - 1) = True := by simp; omega
    by_cases hz : y = 0
    · subst hz
      rw [show (decide (i + 1 = n)) = true from by simp [hlast]] at hok
      simp at hok
      repeat' (first
        | with_reducible first | apply thenW_n | apply blockW_n | apply W_seq | apply W_block | apply W_skip
        | with_reducible refine W_region (by first | decide | (with_unfolding_all rfl)) ?_
        | (rw [vcn]; (try simp [push_cast, g5, hg, hg2, hLl, hlt, g6, g6']); try simp (disch := omega) only [i64_in, u64_in, shr64i])
        | (with_reducible refine W_condW ?_; (try simp [AS.val, upd, resB, mkS_env, mkS_box, lk, entry_env, condW_true, condW_false, g5, hg, hg2, hLl, hlt, g6, g6']))
        | fail)
      refine loopW_n (i + 1) id (by omega) ⟨by omega, hnext hok⟩ ⟨?_, ?_, ?_, ?_, ?_, ?_⟩
      all_goals first | (simp [push_cast]; done)
    · have g7 : (y = 0) = False := by simp [hz]
      simp only [g7, decide_false, Bool.and_false, Bool.not_false, Bool.true_and, Bool.false_or] at hok
      cases names with
      | false =>
        simp at hok
        repeat' (first
          | with_reducible first | apply thenW_n | apply blockW_n | apply W_seq | apply W_block | apply W_skip
          | with_reducible refine W_region (by first | decide | (with_unfolding_all rfl)) ?_
          | (rw [vcn]; (try simp [push_cast, g5, hg, hg2, hLl, hlt, g6, g6', g7]); try simp (disch := omega) only [i64_in, u64_in, shr64i])
          | (with_reducible refine W_condW ?_; (try simp [AS.val, upd, resB, mkS_env, mkS_box, lk, entry_env, condW_true, condW_false, g5, hg, hg2, hLl, hlt, g6, g6', g7]))
          | fail)
        refine loopW_n (i + 1) id (by omega) ⟨by omega, hnext hok⟩ ⟨?_, ?_, ?_, ?_, ?_, ?_⟩
        all_goals first | (simp [push_cast]; done)
      | true =>
        simp at hok
        repeat' (first
          | with_reducible first | apply thenW_n | apply W_seq | apply W_block | apply W_skip
          | with_reducible refine W_region (by first | decide | (with_unfolding_all rfl)) ?_
          | (rw [vcn]; (try simp [push_cast, g5, hg, hg2, hLl, hlt, g6, g6', g7]); try simp (disch := omega) only [i64_in, u64_in, shr64i])
          | (with_reducible refine W_condW ?_; (try simp [AS.val, upd, resB, mkS_env, mkS_box, lk, entry_env, condW_true, condW_false, g5, hg, hg2, hLl, hlt, g6, g6', g7]))
          | fail)
        refine CallG_of (hname) rfl rfl rfl ?_
        try dsimp only
        cases hlb : letterB c with
        | false =>
          rw [hlb] at hok
          repeat' (first
            | with_reducible first | apply thenW_n | apply thenW_ret | apply blockW_ret | apply loopW_ret | apply W_seq | apply W_ret
            | with_reducible refine W_region (by first | decide | (with_unfolding_all rfl)) ?_
            | (rw [vcn]; (try simp [push_cast, g5, hg, hg2, hLl, hlt, g6, g6', g7]))
            | (with_reducible refine W_condW ?_; (try simp [AS.val, upd, resB, mkS_env, mkS_box, lk, entry_env, condW_true, condW_false, g5, hg, hg2, hLl, hlt, g6, g6', g7]))
            | fail)
          simp [post, resAV, resAll, resOne, closeV, closeC, closeL, resD, resDL, push_cast, hnot hok]
        | true =>
          rw [hlb] at hok
          repeat' (first
            | with_reducible first | apply thenW_n | apply blockW_n | apply W_skip
            | with_reducible refine W_region (by first | decide | (with_unfolding_all rfl)) ?_
            | (rw [vcn]; (try simp [push_cast, g5, hg, hg2, hLl, hlt, g6, g6', g7]); try simp (disch := omega) only [i64_in, u64_in, shr64i])
            | (with_reducible refine W_condW ?_; (try simp [AS.val, upd, resB, mkS_env, mkS_box, lk, entry_env, condW_true, condW_false, g5, hg, hg2, hLl, hlt, g6, g6', g7]))
            | fail)
          refine loopW_n (i + 1) id (by omega) ⟨by omega, hnext hok⟩ ⟨?_, ?_, ?_, ?_, ?_, ?_⟩
          all_goals first | (simp [push_cast]; done)
  · have g6 : ((i : Int) = (n : Int) - 1) = False := by simp; omega
    have g6' : (i = n - 1) = False := by simp; omega
    by_cases hz : y = 0
    · subst hz
      rw [show (decide (i + 1 = n)) = false from by simp [hlast]] at hok
      simp at hok
      repeat' (first
        | with_reducible first | apply thenW_n | apply thenW_ret | apply blockW_ret | apply loopW_ret | apply W_seq | apply W_block | apply W_skip | apply W_ret
        | with_reducible refine W_region (by first | decide | (with_unfolding_all rfl)) ?_
        | (rw [vcn]; (try simp [push_cast, g5, hg, hg2, hLl, hlt, g6, g6']); try simp (disch := omega) only [i64_in, u64_in, shr64i])
        | (with_reducible refine W_condW ?_; (try simp [AS.val, upd, resB, mkS_env, mkS_box, lk, entry_env, condW_true, condW_false, g5, hg, hg2, hLl, hlt, g6, g6']))
        | fail)
      simp [post, resAV, resAll, resOne, closeV, closeC, closeL, resD, resDL, push_cast, hnot hok]
    · have g7 : (y = 0) = False := by simp [hz]
      simp only [g7, decide_false, Bool.and_false, Bool.not_false, Bool.true_and, Bool.false_or] at hok
      cases names with
      | false =>
        simp at hok
        repeat' (first
          | with_reducible first | apply thenW_n | apply blockW_n | apply W_seq | apply W_block | apply W_skip
          | with_reducible refine W_region (by first | decide | (with_unfolding_all rfl)) ?_
          | (rw [vcn]; (try simp [push_cast, g5, hg, hg2, hLl, hlt, g6, g6', g7]); try simp (disch := omega) only [i64_in, u64_in, shr64i])
          | (with_reducible refine W_condW ?_; (try simp [AS.val, upd, resB, mkS_env, mkS_box, lk, entry_env, condW_true, condW_false, g5, hg, hg2, hLl, hlt, g6, g6', g7]))
          | fail)
        refine loopW_n (i + 1) id (by omega) ⟨by omega, hnext hok⟩ ⟨?_, ?_, ?_, ?_, ?_, ?_⟩
        all_goals first | (simp [push_cast]; done)
      | true =>
        simp at hok
        repeat' (first
          | with_reducible first | apply thenW_n | apply W_seq | apply W_block | apply W_skip
          | with_reducible refine W_region (by first | decide | (with_unfolding_all rfl)) ?_
          | (rw [vcn]; (try simp [push_cast, g5, hg, hg2, hLl, hlt, g6, g6', g7]); try simp (disch := omega) only [i64_in, u64_in, shr64i])
          | (with_reducible refine W_condW ?_; (try simp [AS.val, upd, resB, mkS_env, mkS_box, lk, entry_env, condW_true, condW_false, g5, hg, hg2, hLl, hlt, g6, g6', g7]))
          | fail)
        refine CallG_of (hname) rfl rfl rfl ?_
        try dsimp only
        cases hlb : letterB c with
        | false =>
          rw [hlb] at hok
          repeat' (first
            | with_reducible first | apply thenW_n | apply thenW_ret | apply blockW_ret | apply loopW_ret | apply W_seq | apply W_ret
            | with_reducible refine W_region (by first | decide | (with_unfolding_all rfl)) ?_
            | (rw [vcn]; (try simp [push_cast, g5, hg, hg2, hLl, hlt, g6, g6', g7]))
            | (with_reducible refine W_condW ?_; (try simp [AS.val, upd, resB, mkS_env, mkS_box, lk, entry_env, condW_true, condW_false, g5, hg, hg2, hLl, hlt, g6, g6', g7]))
            | fail)
          simp [post, resAV, resAll, resOne, closeV, closeC, closeL, resD, resDL, push_cast, hnot hok]
        | true =>
          rw [hlb] at hok
          repeat' (first
            | with_reducible first | apply thenW_n | apply blockW_n | apply W_skip
            | with_reducible refine W_region (by first | decide | (with_unfolding_all rfl)) ?_
            | (rw [vcn]; (try simp [push_cast, g5, hg, hg2, hLl, hlt, g6, g6', g7]); try simp (disch := omega) only [i64_in, u64_in, shr64i])
            | (with_reducible refine W_condW ?_; (try simp [AS.val, upd, resB, mkS_env, mkS_box, lk, entry_env, condW_true, condW_false, g5, hg, hg2, hLl, hlt, g6, g6', g7]))
            | fail)
          refine loopW_n (i + 1) id (by omega) ⟨by omega, hnext hok⟩ ⟨?_, ?_, ?_, ?_, ?_, ?_⟩
          all_goals first | (simp [push_cast]; done)
end Go.Fw
-- VALS: recAV, inB
namespace Go.Fw
open Go Go.Proofs Go.IntWalk
set_option linter.unusedSimpArgs false
set_option maxRecDepth 100000
set_option maxHeartbeats 4000000
open List (map_take map_drop)
attribute [local push_cast] optK_some optK_none optK_ite optK_map optK_bind gOn stepK isMem evPure evMem evBin evUn evConv evLen evBuiltin evMinMax evSlice evBuild evAppend evIndex evIndexAddr evField evFieldAddr intBin strBin appDest AS.val AS.mem AS.elems AS.put AS.put' AS.eff AV.cells? AV.isCell AV.refs all_isByte take_byteV drop_byteV strOf_map bndOk bnd partAV ptrAdd killBox catA inOrder fillA setAt ofVal resB upd byteV List.head?_take List.head?_drop List.getElem?_map mkS_env mkS_box mkS_used entry_env entry_box entry_used lk stepD lookIds Oper.looksAt Op.operands Call.operands St.ids refsL renL_append dV_take dV_drop ren renL renBox Box.refs iV i64V boolV dV_getElem dV_app dV_cons toNat_add2 toNat_add1
def refR (k d : UInt8) (b : List UInt8) : Bool :=
  if inB [0, 13, 14, 22, 33, 34, 42, 43, 46, 54, 57] k = true then decide (d.toNat = 2) && decide (b.length = 2) else
  if inB [1, 5] k = true then decide (d.toNat = 2) && decide (b.length = 24) else
  if ((k.toNat : Int) == 19) = true then decide (d.toNat = 2) && decide (b.length = 4) else
  if ((k.toNat : Int) == 59) = true then decide (d.toNat = 2) && (decide (b.length % 6 = 0) && (decide (6 ≤ b.length) && decide (b.length ≤ 192))) else
  if inB [4, 7, 8, 9, 10, 11, 12, 17, 21, 45, 56] k = true then decide (d.toNat = 0) && decide (b.length = 0) else
  if inB [15, 47, 48, 49] k = true then decide (d.toNat = 3) && decide (b.length = 4) else
  if ((k.toNat : Int) == 16) = true then decide (d.toNat = 3) && (decide (b.length % 8 = 0) && (decide (8 ≤ b.length) && decide (b.length ≤ 65528))) else
  if inB [27, 28] k = true then decide (d.toNat = 5) && decide (b.length = 8) else
  if ((k.toNat : Int) == 3) = true then decide (d.toNat = 5) && decide (b.length = 16) else
  if inB [23, 26, 38, 52] k = true then decide (d.toNat = 1) && decide (b.length = 2) else
  if inB [2, 25, 44, 55, 58] k = true then decide (d.toNat = 6) && textB b 512 false else
  if inB [6, 18] k = true then decide (d.toNat = 6) && textB b 32 true else
  if ((k.toNat : Int) == 35) = true then decide (d.toNat = 6) && decide (b.length = 44) else
  if ((k.toNat : Int) == 32) = true then decide (d.toNat = 6) && decide (b.length = 176) else
  if ((k.toNat : Int) == 31) = true then decide (d.toNat = 6) && (decide (b.length % 44 = 0) && (decide (44 ≤ b.length) && decide (b.length ≤ 748))) else
  false
theorem refRight_ok (k d : UInt8) (b : List UInt8) (hb : b.length ≤ 140737488355328) : Eval Try.prog 18 [recAV k d b] (.ret (.v (.bool (refR k d b)))) := by
  refine Eval.intro Try.func18 rfl Try.call18 _ _ (Nat.le_of_ble_eq_true rfl) (by simp [natAV, recAV, inB, push_cast]) fun hs0 => ?_
  repeat' (first
    | with_reducible first | apply thenW_n | apply W_seq | apply W_block
    | with_reducible refine W_region (by first | decide | (with_unfolding_all rfl)) ?_
    | (rw [vcn]; (try simp [push_cast, recAV, frzS]))
    | fail)
  refine CallG_frz _ _ rfl ?_ (among_ok k false [0, 13, 14, 22, 33, 34, 42, 43, 46, 54, 57]) ?_ (by simp [push_cast]) rfl ?_
  · first | (simp [frzS, resDL, resD, push_cast, recAV]; done) | (simp [frzS, resDL, resD, push_cast, recAV]; rw [List.take_of_length_le (by simp)]; done) | (simp [frzS, resDL, resD, push_cast, recAV]; fail_if_success done)
  · simp [frzOk, push_cast]
  try dsimp only
  try simp only [refsL, AV.refs, frzS, List.append_nil, upd, mkS_box, entry_box, lk, if_true, if_false]
  by_cases s0 : inB [0, 13, 14, 22, 33, 34, 42, 43, 46, 54, 57] k = true
  · by_cases hd : d.toNat = 2
    · have hd' : ((d.toNat : Int) == 2) = true := by simp [hd]
      repeat' (first
        | with_reducible first | apply thenW_n | apply thenW_ret | apply blockW_ret | apply W_seq | apply W_ret
        | with_reducible refine W_region (by first | decide | (with_unfolding_all rfl)) ?_
        | (rw [vcn]; (try simp [push_cast, recAV, frzS, s0, hd']))
        | (with_reducible refine W_condW ?_; (try simp [AS.val, upd, resB, mkS_env, mkS_box, lk, entry_env, condW_true, condW_false, recAV, frzS, s0, hd']))
        | fail)
      simp [post, resAV, resAll, resOne, closeV, closeC, closeL, resD, resDL, push_cast, recAV]
      all_goals first | (simp [refR, s0, hd]; done) | (simp [refR, s0, hd]; omega) | (rw [Bool.eq_iff_iff]; simp [refR, s0, hd]; omega) | (cases b <;> simp [refR, s0, hd] <;> omega)
    · have hd' : ((d.toNat : Int) == 2) = false := by simp; omega
      repeat' (first
        | with_reducible first | apply thenW_n | apply thenW_ret | apply blockW_ret | apply W_seq | apply W_ret
        | with_reducible refine W_region (by first | decide | (with_unfolding_all rfl)) ?_
        | (rw [vcn]; (try simp [push_cast, recAV, frzS, s0, hd']))
        | (with_reducible refine W_condW ?_; (try simp [AS.val, upd, resB, mkS_env, mkS_box, lk, entry_env, condW_true, condW_false, recAV, frzS, s0, hd']))
        | fail)
      simp [post, resAV, resAll, resOne, closeV, closeC, closeL, resD, resDL, push_cast, recAV]
      all_goals first | (simp [refR, s0, hd]; done) | (simp [refR, s0, hd]; omega) | (rw [Bool.eq_iff_iff]; simp [refR, s0, hd]; omega) | (cases b <;> simp [refR, s0, hd] <;> omega)
  replace s0 : inB [0, 13, 14, 22, 33, 34, 42, 43, 46, 54, 57] k = false := by simpa using s0
  repeat' (first
    | with_reducible first | apply thenW_n | apply W_seq
    | with_reducible refine W_region (by first | decide | (with_unfolding_all rfl)) ?_
    | (rw [vcn]; (try simp [push_cast, recAV, frzS, s0]))
    | (with_reducible refine W_condW ?_; (try simp [AS.val, upd, resB, mkS_env, mkS_box, lk, entry_env, condW_true, condW_false, recAV, frzS, s0]))
    | fail)
  refine CallG_frz _ _ rfl ?_ (among_ok k false [1, 5]) ?_ (by simp [push_cast]) rfl ?_
  · first | (simp [frzS, resDL, resD, push_cast, recAV]; done) | (simp [frzS, resDL, resD, push_cast, recAV]; rw [List.take_of_length_le (by simp)]; done) | (simp [frzS, resDL, resD, push_cast, recAV]; fail_if_success done)
  · simp [frzOk, push_cast]
  try dsimp only
  try simp only [refsL, AV.refs, frzS, List.append_nil, upd, mkS_box, entry_box, lk, if_true, if_false]
  by_cases s1 : inB [1, 5] k = true
  · by_cases hd : d.toNat = 2
    · have hd' : ((d.toNat : Int) == 2) = true := by simp [hd]
      repeat' (first
        | with_reducible first | apply thenW_n | apply thenW_ret | apply blockW_ret | apply W_seq | apply W_ret
        | with_reducible refine W_region (by first | decide | (with_unfolding_all rfl)) ?_
        | (rw [vcn]; (try simp [push_cast, recAV, frzS, s0, s1, hd']))
        | (with_reducible refine W_condW ?_; (try simp [AS.val, upd, resB, mkS_env, mkS_box, lk, entry_env, condW_true, condW_false, recAV, frzS, s0, s1, hd']))
        | fail)
      simp [post, resAV, resAll, resOne, closeV, closeC, closeL, resD, resDL, push_cast, recAV]
      all_goals first | (simp [refR, s1, s0, hd]; done) | (simp [refR, s1, s0, hd]; omega) | (rw [Bool.eq_iff_iff]; simp [refR, s1, s0, hd]; omega) | (cases b <;> simp [refR, s1, s0, hd] <;> omega)
    · have hd' : ((d.toNat : Int) == 2) = false := by simp; omega
      repeat' (first
        | with_reducible first | apply thenW_n | apply thenW_ret | apply blockW_ret | apply W_seq | apply W_ret
        | with_reducible refine W_region (by first | decide | (with_unfolding_all rfl)) ?_
        | (rw [vcn]; (try simp [push_cast, recAV, frzS, s0, s1, hd']))
        | (with_reducible refine W_condW ?_; (try simp [AS.val, upd, resB, mkS_env, mkS_box, lk, entry_env, condW_true, condW_false, recAV, frzS, s0, s1, hd']))
        | fail)
      simp [post, resAV, resAll, resOne, closeV, closeC, closeL, resD, resDL, push_cast, recAV]
      all_goals first | (simp [refR, s1, s0, hd]; done) | (simp [refR, s1, s0, hd]; omega) | (rw [Bool.eq_iff_iff]; simp [refR, s1, s0, hd]; omega) | (cases b <;> simp [refR, s1, s0, hd] <;> omega)
  replace s1 : inB [1, 5] k = false := by simpa using s1
  by_cases s2 : ((k.toNat : Int) == 19) = true
  · by_cases hd : d.toNat = 2
    · have hd' : ((d.toNat : Int) == 2) = true := by simp [hd]
      repeat' (first
        | with_reducible first | apply thenW_n | apply thenW_ret | apply blockW_ret | apply W_seq | apply W_ret
        | with_reducible refine W_region (by first | decide | (with_unfolding_all rfl)) ?_
        | (rw [vcn]; (try simp [push_cast, recAV, frzS, s0, s1, s2, hd']))
        | (with_reducible refine W_condW ?_; (try simp [AS.val, upd, resB, mkS_env, mkS_box, lk, entry_env, condW_true, condW_false, recAV, frzS, s0, s1, s2, hd']))
        | fail)
      simp [post, resAV, resAll, resOne, closeV, closeC, closeL, resD, resDL, push_cast, recAV]
      all_goals first | (simp [refR, s2, s0, s1, hd]; done) | (simp [refR, s2, s0, s1, hd]; omega) | (rw [Bool.eq_iff_iff]; simp [refR, s2, s0, s1, hd]; omega) | (cases b <;> simp [refR, s2, s0, s1, hd] <;> omega)
    · have hd' : ((d.toNat : Int) == 2) = false := by simp; omega
      repeat' (first
        | with_reducible first | apply thenW_n | apply thenW_ret | apply blockW_ret | apply W_seq | apply W_ret
        | with_reducible refine W_region (by first | decide | (with_unfolding_all rfl)) ?_
        | (rw [vcn]; (try simp [push_cast, recAV, frzS, s0, s1, s2, hd']))
        | (with_reducible refine W_condW ?_; (try simp [AS.val, upd, resB, mkS_env, mkS_box, lk, entry_env, condW_true, condW_false, recAV, frzS, s0, s1, s2, hd']))
        | fail)
      simp [post, resAV, resAll, resOne, closeV, closeC, closeL, resD, resDL, push_cast, recAV]
      all_goals first | (simp [refR, s2, s0, s1, hd]; done) | (simp [refR, s2, s0, s1, hd]; omega) | (rw [Bool.eq_iff_iff]; simp [refR, s2, s0, s1, hd]; omega) | (cases b <;> simp [refR, s2, s0, s1, hd] <;> omega)
  replace s2 : ((k.toNat : Int) == 19) = false := by simpa using s2
  by_cases s3 : ((k.toNat : Int) == 59) = true
  · by_cases hd : d.toNat = 2
    · have hd' : ((d.toNat : Int) == 2) = true := by simp [hd]
      have hm : ((b.length : Int).tmod 6) = ((b.length % 6 : Nat) : Int) := by rw [Int.ofNat_tmod]; rfl
      by_cases h1 : b.length % 6 = 0
      · by_cases h2 : 6 ≤ b.length
        · have h2' : (6 : Int) ≤ (b.length : Int) := by omega
          repeat' (first
            | with_reducible first | apply thenW_n | apply thenW_ret | apply blockW_ret | apply W_seq | apply W_ret
            | with_reducible refine W_region (by first | decide | (with_unfolding_all rfl)) ?_
            | (rw [vcn]; (try simp [push_cast, recAV, frzS, s0, s1, s2, s3, hd', hm, h1, h2', h2]))
            | (with_reducible refine W_condW ?_; (try simp [AS.val, upd, resB, mkS_env, mkS_box, lk, entry_env, condW_true, condW_false, recAV, frzS, s0, s1, s2, s3, hd', hm, h1, h2', h2]))
            | fail)
          simp [post, resAV, resAll, resOne, closeV, closeC, closeL, resD, resDL, push_cast, recAV]
          all_goals first | (simp [refR, s3, s0, s1, s2, hd, h1, h2]; done) | (simp [refR, s3, s0, s1, s2, hd, h1, h2]; omega) | (rw [Bool.eq_iff_iff]; simp [refR, s3, s0, s1, s2, hd, h1, h2]; omega) | (cases b <;> simp [refR, s3, s0, s1, s2, hd, h1, h2] <;> omega)
        · have h2' : ¬ (6 : Int) ≤ (b.length : Int) := by omega
          repeat' (first
            | with_reducible first | apply thenW_n | apply thenW_ret | apply blockW_ret | apply W_seq | apply W_ret
            | with_reducible refine W_region (by first | decide | (with_unfolding_all rfl)) ?_
            | (rw [vcn]; (try simp [push_cast, recAV, frzS, s0, s1, s2, s3, hd', hm, h1, h2', h2]))
            | (with_reducible refine W_condW ?_; (try simp [AS.val, upd, resB, mkS_env, mkS_box, lk, entry_env, condW_true, condW_false, recAV, frzS, s0, s1, s2, s3, hd', hm, h1, h2', h2]))
            | fail)
          simp [post, resAV, resAll, resOne, closeV, closeC, closeL, resD, resDL, push_cast, recAV]
          all_goals first | (simp [refR, s3, s0, s1, s2, hd, h1, h2]; done) | (simp [refR, s3, s0, s1, s2, hd, h1, h2]; omega) | (rw [Bool.eq_iff_iff]; simp [refR, s3, s0, s1, s2, hd, h1, h2]; omega) | (cases b <;> simp [refR, s3, s0, s1, s2, hd, h1, h2] <;> omega)
      · have h1' : (b.length % 6 = 0) = False := by simp; omega
        have h1x : ((b.length : Int) % 6 = 0) = False := by simp; omega
        repeat' (first
          | with_reducible first | apply thenW_n | apply thenW_ret | apply blockW_ret | apply W_seq | apply W_ret
          | with_reducible refine W_region (by first | decide | (with_unfolding_all rfl)) ?_
          | (rw [vcn]; (try simp [push_cast, recAV, frzS, s0, s1, s2, s3, hd', hm, h1', h1x, h1]))
          | (with_reducible refine W_condW ?_; (try simp [AS.val, upd, resB, mkS_env, mkS_box, lk, entry_env, condW_true, condW_false, recAV, frzS, s0, s1, s2, s3, hd', hm, h1', h1x, h1]))
          | fail)
        simp [post, resAV, resAll, resOne, closeV, closeC, closeL, resD, resDL, push_cast, recAV]
        all_goals first | (simp [refR, s3, s0, s1, s2, hd, h1]; done) | (simp [refR, s3, s0, s1, s2, hd, h1]; omega) | (rw [Bool.eq_iff_iff]; simp [refR, s3, s0, s1, s2, hd, h1]; omega) | (cases b <;> simp [refR, s3, s0, s1, s2, hd, h1] <;> omega)
    · have hd' : ((d.toNat : Int) == 2) = false := by simp; omega
      repeat' (first
        | with_reducible first | apply thenW_n | apply thenW_ret | apply blockW_ret | apply W_seq | apply W_ret
        | with_reducible refine W_region (by first | decide | (with_unfolding_all rfl)) ?_
        | (rw [vcn]; (try simp [push_cast, recAV, frzS, s0, s1, s2, s3, hd']))
        | (with_reducible refine W_condW ?_; (try simp [AS.val, upd, resB, mkS_env, mkS_box, lk, entry_env, condW_true, condW_false, recAV, frzS, s0, s1, s2, s3, hd']))
        | fail)
      simp [post, resAV, resAll, resOne, closeV, closeC, closeL, resD, resDL, push_cast, recAV]
      all_goals first | (simp [refR, s3, s0, s1, s2, hd]; done) | (simp [refR, s3, s0, s1, s2, hd]; omega) | (rw [Bool.eq_iff_iff]; simp [refR, s3, s0, s1, s2, hd]; omega) | (cases b <;> simp [refR, s3, s0, s1, s2, hd] <;> omega)
  replace s3 : ((k.toNat : Int) == 59) = false := by simpa using s3
  repeat' (first
    | with_reducible first | apply thenW_n | apply W_seq
    | with_reducible refine W_region (by first | decide | (with_unfolding_all rfl)) ?_
    | (rw [vcn]; (try simp [push_cast, recAV, frzS, s0, s1, s2, s3]))
    | (with_reducible refine W_condW ?_; (try simp [AS.val, upd, resB, mkS_env, mkS_box, lk, entry_env, condW_true, condW_false, recAV, frzS, s0, s1, s2, s3]))
    | fail)
  refine CallG_frz _ _ rfl ?_ (among_ok k false [4, 7, 8, 9, 10, 11, 12, 17, 21, 45, 56]) ?_ (by simp [push_cast]) rfl ?_
  · first | (simp [frzS, resDL, resD, push_cast, recAV]; done) | (simp [frzS, resDL, resD, push_cast, recAV]; rw [List.take_of_length_le (by simp)]; done) | (simp [frzS, resDL, resD, push_cast, recAV]; fail_if_success done)
  · simp [frzOk, push_cast]
  try dsimp only
  try simp only [refsL, AV.refs, frzS, List.append_nil, upd, mkS_box, entry_box, lk, if_true, if_false]
  by_cases s4 : inB [4, 7, 8, 9, 10, 11, 12, 17, 21, 45, 56] k = true
  · by_cases hd : d.toNat = 0
    · have hd' : ((d.toNat : Int) == 0) = true := by simp [hd]
      repeat' (first
        | with_reducible first | apply thenW_n | apply thenW_ret | apply blockW_ret | apply W_seq | apply W_ret
        | with_reducible refine W_region (by first | decide | (with_unfolding_all rfl)) ?_
        | (rw [vcn]; (try simp [push_cast, recAV, frzS, s0, s1, s2, s3, s4, hd']))
        | (with_reducible refine W_condW ?_; (try simp [AS.val, upd, resB, mkS_env, mkS_box, lk, entry_env, condW_true, condW_false, recAV, frzS, s0, s1, s2, s3, s4, hd']))
        | fail)
      simp [post, resAV, resAll, resOne, closeV, closeC, closeL, resD, resDL, push_cast, recAV]
      all_goals first | (simp [refR, s4, s0, s1, s2, s3, hd]; done) | (simp [refR, s4, s0, s1, s2, s3, hd]; omega) | (rw [Bool.eq_iff_iff]; simp [refR, s4, s0, s1, s2, s3, hd]; omega) | (cases b <;> simp [refR, s4, s0, s1, s2, s3, hd] <;> omega)
    · have hd' : ((d.toNat : Int) == 0) = false := by simp; omega
      repeat' (first
        | with_reducible first | apply thenW_n | apply thenW_ret | apply blockW_ret | apply W_seq | apply W_ret
        | with_reducible refine W_region (by first | decide | (with_unfolding_all rfl)) ?_
        | (rw [vcn]; (try simp [push_cast, recAV, frzS, s0, s1, s2, s3, s4, hd']))
        | (with_reducible refine W_condW ?_; (try simp [AS.val, upd, resB, mkS_env, mkS_box, lk, entry_env, condW_true, condW_false, recAV, frzS, s0, s1, s2, s3, s4, hd']))
        | fail)
      simp [post, resAV, resAll, resOne, closeV, closeC, closeL, resD, resDL, push_cast, recAV]
      all_goals first | (simp [refR, s4, s0, s1, s2, s3, hd]; done) | (simp [refR, s4, s0, s1, s2, s3, hd]; omega) | (rw [Bool.eq_iff_iff]; simp [refR, s4, s0, s1, s2, s3, hd]; omega) | (cases b <;> simp [refR, s4, s0, s1, s2, s3, hd] <;> omega)
  replace s4 : inB [4, 7, 8, 9, 10, 11, 12, 17, 21, 45, 56] k = false := by simpa using s4
  repeat' (first
    | with_reducible first | apply thenW_n | apply W_seq
    | with_reducible refine W_region (by first | decide | (with_unfolding_all rfl)) ?_
    | (rw [vcn]; (try simp [push_cast, recAV, frzS, s0, s1, s2, s3, s4]))
    | (with_reducible refine W_condW ?_; (try simp [AS.val, upd, resB, mkS_env, mkS_box, lk, entry_env, condW_true, condW_false, recAV, frzS, s0, s1, s2, s3, s4]))
    | fail)
  refine CallG_frz _ _ rfl ?_ (among_ok k false [15, 47, 48, 49]) ?_ (by simp [push_cast]) rfl ?_
  · first | (simp [frzS, resDL, resD, push_cast, recAV]; done) | (simp [frzS, resDL, resD, push_cast, recAV]; rw [List.take_of_length_le (by simp)]; done) | (simp [frzS, resDL, resD, push_cast, recAV]; fail_if_success done)
  · simp [frzOk, push_cast]
  try dsimp only
  try simp only [refsL, AV.refs, frzS, List.append_nil, upd, mkS_box, entry_box, lk, if_true, if_false]
  by_cases s5 : inB [15, 47, 48, 49] k = true
  · by_cases hd : d.toNat = 3
    · have hd' : ((d.toNat : Int) == 3) = true := by simp [hd]
      repeat' (first
        | with_reducible first | apply thenW_n | apply thenW_ret | apply blockW_ret | apply W_seq | apply W_ret
        | with_reducible refine W_region (by first | decide | (with_unfolding_all rfl)) ?_
        | (rw [vcn]; (try simp [push_cast, recAV, frzS, s0, s1, s2, s3, s4, s5, hd']))
        | (with_reducible refine W_condW ?_; (try simp [AS.val, upd, resB, mkS_env, mkS_box, lk, entry_env, condW_true, condW_false, recAV, frzS, s0, s1, s2, s3, s4, s5, hd']))
        | fail)
      simp [post, resAV, resAll, resOne, closeV, closeC, closeL, resD, resDL, push_cast, recAV]
      all_goals first | (simp [refR, s5, s0, s1, s2, s3, s4, hd]; done) | (simp [refR, s5, s0, s1, s2, s3, s4, hd]; omega) | (rw [Bool.eq_iff_iff]; simp [refR, s5, s0, s1, s2, s3, s4, hd]; omega) | (cases b <;> simp [refR, s5, s0, s1, s2, s3, s4, hd] <;> omega)
    · have hd' : ((d.toNat : Int) == 3) = false := by simp; omega
      repeat' (first
        | with_reducible first | apply thenW_n | apply thenW_ret | apply blockW_ret | apply W_seq | apply W_ret
        | with_reducible refine W_region (by first | decide | (with_unfolding_all rfl)) ?_
        | (rw [vcn]; (try simp [push_cast, recAV, frzS, s0, s1, s2, s3, s4, s5, hd']))
        | (with_reducible refine W_condW ?_; (try simp [AS.val, upd, resB, mkS_env, mkS_box, lk, entry_env, condW_true, condW_false, recAV, frzS, s0, s1, s2, s3, s4, s5, hd']))
        | fail)
      simp [post, resAV, resAll, resOne, closeV, closeC, closeL, resD, resDL, push_cast, recAV]
      all_goals first | (simp [refR, s5, s0, s1, s2, s3, s4, hd]; done) | (simp [refR, s5, s0, s1, s2, s3, s4, hd]; omega) | (rw [Bool.eq_iff_iff]; simp [refR, s5, s0, s1, s2, s3, s4, hd]; omega) | (cases b <;> simp [refR, s5, s0, s1, s2, s3, s4, hd] <;> omega)
  replace s5 : inB [15, 47, 48, 49] k = false := by simpa using s5
  by_cases s6 : ((k.toNat : Int) == 16) = true
  · by_cases hd : d.toNat = 3
    · have hd' : ((d.toNat : Int) == 3) = true := by simp [hd]
      have hm : ((b.length : Int).tmod 8) = ((b.length % 8 : Nat) : Int) := by rw [Int.ofNat_tmod]; rfl
      by_cases h1 : b.length % 8 = 0
      · by_cases h2 : 8 ≤ b.length
        · have h2' : (8 : Int) ≤ (b.length : Int) := by omega
          repeat' (first
            | with_reducible first | apply thenW_n | apply thenW_ret | apply blockW_ret | apply W_seq | apply W_ret
            | with_reducible refine W_region (by first | decide | (with_unfolding_all rfl)) ?_
            | (rw [vcn]; (try simp [push_cast, recAV, frzS, s0, s1, s2, s3, s4, s5, s6, hd', hm, h1, h2', h2]))
            | (with_reducible refine W_condW ?_; (try simp [AS.val, upd, resB, mkS_env, mkS_box, lk, entry_env, condW_true, condW_false, recAV, frzS, s0, s1, s2, s3, s4, s5, s6, hd', hm, h1, h2', h2]))
            | fail)
          simp [post, resAV, resAll, resOne, closeV, closeC, closeL, resD, resDL, push_cast, recAV]
          all_goals first | (simp [refR, s6, s0, s1, s2, s3, s4, s5, hd, h1, h2]; done) | (simp [refR, s6, s0, s1, s2, s3, s4, s5, hd, h1, h2]; omega) | (rw [Bool.eq_iff_iff]; simp [refR, s6, s0, s1, s2, s3, s4, s5, hd, h1, h2]; omega) | (cases b <;> simp [refR, s6, s0, s1, s2, s3, s4, s5, hd, h1, h2] <;> omega)
        · have h2' : ¬ (8 : Int) ≤ (b.length : Int) := by omega
          repeat' (first
            | with_reducible first | apply thenW_n | apply thenW_ret | apply blockW_ret | apply W_seq | apply W_ret
            | with_reducible refine W_region (by first | decide | (with_unfolding_all rfl)) ?_
            | (rw [vcn]; (try simp [push_cast, recAV, frzS, s0, s1, s2, s3, s4, s5, s6, hd', hm, h1, h2', h2]))
            | (with_reducible refine W_condW ?_; (try simp [AS.val, upd, resB, mkS_env, mkS_box, lk, entry_env, condW_true, condW_false, recAV, frzS, s0, s1, s2, s3, s4, s5, s6, hd', hm, h1, h2', h2]))
            | fail)
          simp [post, resAV, resAll, resOne, closeV, closeC, closeL, resD, resDL, push_cast, recAV]
          all_goals first | (simp [refR, s6, s0, s1, s2, s3, s4, s5, hd, h1, h2]; done) | (simp [refR, s6, s0, s1, s2, s3, s4, s5, hd, h1, h2]; omega) | (rw [Bool.eq_iff_iff]; simp [refR, s6, s0, s1, s2, s3, s4, s5, hd, h1, h2]; omega) | (cases b <;> simp [refR, s6, s0, s1, s2, s3, s4, s5, hd, h1, h2] <;> omega)
      · have h1' : (b.length % 8 = 0) = False := by simp; omega
        have h1x : ((b.length : Int) % 8 = 0) = False := by simp; omega
        repeat' (first
          | with_reducible first | apply thenW_n | apply thenW_ret | apply blockW_ret | apply W_seq | apply W_ret
          | with_reducible refine W_region (by first | decide | (with_unfolding_all rfl)) ?_
          | (rw [vcn]; (try simp [push_cast, recAV, frzS, s0, s1, s2, s3, s4, s5, s6, hd', hm, h1', h1x, h1]))
          | (with_reducible refine W_condW ?_; (try simp [AS.val, upd, resB, mkS_env, mkS_box, lk, entry_env, condW_true, condW_false, recAV, frzS, s0, s1, s2, s3, s4, s5, s6, hd', hm, h1', h1x, h1]))
          | fail)
        simp [post, resAV, resAll, resOne, closeV, closeC, closeL, resD, resDL, push_cast, recAV]
        all_goals first | (simp [refR, s6, s0, s1, s2, s3, s4, s5, hd, h1]; done) | (simp [refR, s6, s0, s1, s2, s3, s4, s5, hd, h1]; omega) | (rw [Bool.eq_iff_iff]; simp [refR, s6, s0, s1, s2, s3, s4, s5, hd, h1]; omega) | (cases b <;> simp [refR, s6, s0, s1, s2, s3, s4, s5, hd, h1] <;> omega)
    · have hd' : ((d.toNat : Int) == 3) = false := by simp; omega
      repeat' (first
        | with_reducible first | apply thenW_n | apply thenW_ret | apply blockW_ret | apply W_seq | apply W_ret
        | with_reducible refine W_region (by first | decide | (with_unfolding_all rfl)) ?_
        | (rw [vcn]; (try simp [push_cast, recAV, frzS, s0, s1, s2, s3, s4, s5, s6, hd']))
        | (with_reducible refine W_condW ?_; (try simp [AS.val, upd, resB, mkS_env, mkS_box, lk, entry_env, condW_true, condW_false, recAV, frzS, s0, s1, s2, s3, s4, s5, s6, hd']))
        | fail)
      simp [post, resAV, resAll, resOne, closeV, closeC, closeL, resD, resDL, push_cast, recAV]
      all_goals first | (simp [refR, s6, s0, s1, s2, s3, s4, s5, hd]; done) | (simp [refR, s6, s0, s1, s2, s3, s4, s5, hd]; omega) | (rw [Bool.eq_iff_iff]; simp [refR, s6, s0, s1, s2, s3, s4, s5, hd]; omega) | (cases b <;> simp [refR, s6, s0, s1, s2, s3, s4, s5, hd] <;> omega)
  replace s6 : ((k.toNat : Int) == 16) = false := by simpa using s6
  repeat' (first
    | with_reducible first | apply thenW_n | apply W_seq
    | with_reducible refine W_region (by first | decide | (with_unfolding_all rfl)) ?_
    | (rw [vcn]; (try simp [push_cast, recAV, frzS, s0, s1, s2, s3, s4, s5, s6]))
    | (with_reducible refine W_condW ?_; (try simp [AS.val, upd, resB, mkS_env, mkS_box, lk, entry_env, condW_true, condW_false, recAV, frzS, s0, s1, s2, s3, s4, s5, s6]))
    | fail)
  refine CallG_frz _ _ rfl ?_ (among_ok k false [27, 28]) ?_ (by simp [push_cast]) rfl ?_
  · first | (simp [frzS, resDL, resD, push_cast, recAV]; done) | (simp [frzS, resDL, resD, push_cast, recAV]; rw [List.take_of_length_le (by simp)]; done) | (simp [frzS, resDL, resD, push_cast, recAV]; fail_if_success done)
  · simp [frzOk, push_cast]
  try dsimp only
  try simp only [refsL, AV.refs, frzS, List.append_nil, upd, mkS_box, entry_box, lk, if_true, if_false]
  by_cases s7 : inB [27, 28] k = true
  · by_cases hd : d.toNat = 5
    · have hd' : ((d.toNat : Int) == 5) = true := by simp [hd]
      repeat' (first
        | with_reducible first | apply thenW_n | apply thenW_ret | apply blockW_ret | apply W_seq | apply W_ret
        | with_reducible refine W_region (by first | decide | (with_unfolding_all rfl)) ?_
        | (rw [vcn]; (try simp [push_cast, recAV, frzS, s0, s1, s2, s3, s4, s5, s6, s7, hd']))
        | (with_reducible refine W_condW ?_; (try simp [AS.val, upd, resB, mkS_env, mkS_box, lk, entry_env, condW_true, condW_false, recAV, frzS, s0, s1, s2, s3, s4, s5, s6, s7, hd']))
        | fail)
      simp [post, resAV, resAll, resOne, closeV, closeC, closeL, resD, resDL, push_cast, recAV]
      all_goals first | (simp [refR, s7, s0, s1, s2, s3, s4, s5, s6, hd]; done) | (simp [refR, s7, s0, s1, s2, s3, s4, s5, s6, hd]; omega) | (rw [Bool.eq_iff_iff]; simp [refR, s7, s0, s1, s2, s3, s4, s5, s6, hd]; omega) | (cases b <;> simp [refR, s7, s0, s1, s2, s3, s4, s5, s6, hd] <;> omega)
    · have hd' : ((d.toNat : Int) == 5) = false := by simp; omega
      repeat' (first
        | with_reducible first | apply thenW_n | apply thenW_ret | apply blockW_ret | apply W_seq | apply W_ret
        | with_reducible refine W_region (by first | decide | (with_unfolding_all rfl)) ?_
        | (rw [vcn]; (try simp [push_cast, recAV, frzS, s0, s1, s2, s3, s4, s5, s6, s7, hd']))
        | (with_reducible refine W_condW ?_; (try simp [AS.val, upd, resB, mkS_env, mkS_box, lk, entry_env, condW_true, condW_false, recAV, frzS, s0, s1, s2, s3, s4, s5, s6, s7, hd']))
        | fail)
      simp [post, resAV, resAll, resOne, closeV, closeC, closeL, resD, resDL, push_cast, recAV]
      all_goals first | (simp [refR, s7, s0, s1, s2, s3, s4, s5, s6, hd]; done) | (simp [refR, s7, s0, s1, s2, s3, s4, s5, s6, hd]; omega) | (rw [Bool.eq_iff_iff]; simp [refR, s7, s0, s1, s2, s3, s4, s5, s6, hd]; omega) | (cases b <;> simp [refR, s7, s0, s1, s2, s3, s4, s5, s6, hd] <;> omega)
  replace s7 : inB [27, 28] k = false := by simpa using s7
  by_cases s8 : ((k.toNat : Int) == 3) = true
  · by_cases hd : d.toNat = 5
    · have hd' : ((d.toNat : Int) == 5) = true := by simp [hd]
      repeat' (first
        | with_reducible first | apply thenW_n | apply thenW_ret | apply blockW_ret | apply W_seq | apply W_ret
        | with_reducible refine W_region (by first | decide | (with_unfolding_all rfl)) ?_
        | (rw [vcn]; (try simp [push_cast, recAV, frzS, s0, s1, s2, s3, s4, s5, s6, s7, s8, hd']))
        | (with_reducible refine W_condW ?_; (try simp [AS.val, upd, resB, mkS_env, mkS_box, lk, entry_env, condW_true, condW_false, recAV, frzS, s0, s1, s2, s3, s4, s5, s6, s7, s8, hd']))
        | fail)
      simp [post, resAV, resAll, resOne, closeV, closeC, closeL, resD, resDL, push_cast, recAV]
      all_goals first | (simp [refR, s8, s0, s1, s2, s3, s4, s5, s6, s7, hd]; done) | (simp [refR, s8, s0, s1, s2, s3, s4, s5, s6, s7, hd]; omega) | (rw [Bool.eq_iff_iff]; simp [refR, s8, s0, s1, s2, s3, s4, s5, s6, s7, hd]; omega) | (cases b <;> simp [refR, s8, s0, s1, s2, s3, s4, s5, s6, s7, hd] <;> omega)
    · have hd' : ((d.toNat : Int) == 5) = false := by simp; omega
      repeat' (first
        | with_reducible first | apply thenW_n | apply thenW_ret | apply blockW_ret | apply W_seq | apply W_ret
        | with_reducible refine W_region (by first | decide | (with_unfolding_all rfl)) ?_
        | (rw [vcn]; (try simp [push_cast, recAV, frzS, s0, s1, s2, s3, s4, s5, s6, s7, s8, hd']))
        | (with_reducible refine W_condW ?_; (try simp [AS.val, upd, resB, mkS_env, mkS_box, lk, entry_env, condW_true, condW_false, recAV, frzS, s0, s1, s2, s3, s4, s5, s6, s7, s8, hd']))
        | fail)
      simp [post, resAV, resAll, resOne, closeV, closeC, closeL, resD, resDL, push_cast, recAV]
      all_goals first | (simp [refR, s8, s0, s1, s2, s3, s4, s5, s6, s7, hd]; done) | (simp [refR, s8, s0, s1, s2, s3, s4, s5, s6, s7, hd]; omega) | (rw [Bool.eq_iff_iff]; simp [refR, s8, s0, s1, s2, s3, s4, s5, s6, s7, hd]; omega) | (cases b <;> simp [refR, s8, s0, s1, s2, s3, s4, s5, s6, s7, hd] <;> omega)
  replace s8 : ((k.toNat : Int) == 3) = false := by simpa using s8
  repeat' (first
    | with_reducible first | apply thenW_n | apply W_seq
    | with_reducible refine W_region (by first | decide | (with_unfolding_all rfl)) ?_
    | (rw [vcn]; (try simp [push_cast, recAV, frzS, s0, s1, s2, s3, s4, s5, s6, s7, s8]))
    | (with_reducible refine W_condW ?_; (try simp [AS.val, upd, resB, mkS_env, mkS_box, lk, entry_env, condW_true, condW_false, recAV, frzS, s0, s1, s2, s3, s4, s5, s6, s7, s8]))
    | fail)
  refine CallG_frz _ _ rfl ?_ (among_ok k false [23, 26, 38, 52]) ?_ (by simp [push_cast]) rfl ?_
  · first | (simp [frzS, resDL, resD, push_cast, recAV]; done) | (simp [frzS, resDL, resD, push_cast, recAV]; rw [List.take_of_length_le (by simp)]; done) | (simp [frzS, resDL, resD, push_cast, recAV]; fail_if_success done)
  · simp [frzOk, push_cast]
  try dsimp only
  try simp only [refsL, AV.refs, frzS, List.append_nil, upd, mkS_box, entry_box, lk, if_true, if_false]
  by_cases s9 : inB [23, 26, 38, 52] k = true
  · by_cases hd : d.toNat = 1
    · have hd' : ((d.toNat : Int) == 1) = true := by simp [hd]
      repeat' (first
        | with_reducible first | apply thenW_n | apply thenW_ret | apply blockW_ret | apply W_seq | apply W_ret
        | with_reducible refine W_region (by first | decide | (with_unfolding_all rfl)) ?_
        | (rw [vcn]; (try simp [push_cast, recAV, frzS, s0, s1, s2, s3, s4, s5, s6, s7, s8, s9, hd']))
        | (with_reducible refine W_condW ?_; (try simp [AS.val, upd, resB, mkS_env, mkS_box, lk, entry_env, condW_true, condW_false, recAV, frzS, s0, s1, s2, s3, s4, s5, s6, s7, s8, s9, hd']))
        | fail)
      simp [post, resAV, resAll, resOne, closeV, closeC, closeL, resD, resDL, push_cast, recAV]
      all_goals first | (simp [refR, s9, s0, s1, s2, s3, s4, s5, s6, s7, s8, hd]; done) | (simp [refR, s9, s0, s1, s2, s3, s4, s5, s6, s7, s8, hd]; omega) | (rw [Bool.eq_iff_iff]; simp [refR, s9, s0, s1, s2, s3, s4, s5, s6, s7, s8, hd]; omega) | (cases b <;> simp [refR, s9, s0, s1, s2, s3, s4, s5, s6, s7, s8, hd] <;> omega)
    · have hd' : ((d.toNat : Int) == 1) = false := by simp; omega
      repeat' (first
        | with_reducible first | apply thenW_n | apply thenW_ret | apply blockW_ret | apply W_seq | apply W_ret
        | with_reducible refine W_region (by first | decide | (with_unfolding_all rfl)) ?_
        | (rw [vcn]; (try simp [push_cast, recAV, frzS, s0, s1, s2, s3, s4, s5, s6, s7, s8, s9, hd']))
        | (with_reducible refine W_condW ?_; (try simp [AS.val, upd, resB, mkS_env, mkS_box, lk, entry_env, condW_true, condW_false, recAV, frzS, s0, s1, s2, s3, s4, s5, s6, s7, s8, s9, hd']))
        | fail)
      simp [post, resAV, resAll, resOne, closeV, closeC, closeL, resD, resDL, push_cast, recAV]
      all_goals first | (simp [refR, s9, s0, s1, s2, s3, s4, s5, s6, s7, s8, hd]; done) | (simp [refR, s9, s0, s1, s2, s3, s4, s5, s6, s7, s8, hd]; omega) | (rw [Bool.eq_iff_iff]; simp [refR, s9, s0, s1, s2, s3, s4, s5, s6, s7, s8, hd]; omega) | (cases b <;> simp [refR, s9, s0, s1, s2, s3, s4, s5, s6, s7, s8, hd] <;> omega)
  replace s9 : inB [23, 26, 38, 52] k = false := by simpa using s9
  repeat' (first
    | with_reducible first | apply thenW_n | apply W_seq
    | with_reducible refine W_region (by first | decide | (with_unfolding_all rfl)) ?_
    | (rw [vcn]; (try simp [push_cast, recAV, frzS, s0, s1, s2, s3, s4, s5, s6, s7, s8, s9]))
    | (with_reducible refine W_condW ?_; (try simp [AS.val, upd, resB, mkS_env, mkS_box, lk, entry_env, condW_true, condW_false, recAV, frzS, s0, s1, s2, s3, s4, s5, s6, s7, s8, s9]))
    | fail)
  refine CallG_frz _ _ rfl ?_ (among_ok k false [2, 25, 44, 55, 58]) ?_ (by simp [push_cast]) rfl ?_
  · first | (simp [frzS, resDL, resD, push_cast, recAV]; done) | (simp [frzS, resDL, resD, push_cast, recAV]; rw [List.take_of_length_le (by simp)]; done) | (simp [frzS, resDL, resD, push_cast, recAV]; fail_if_success done)
  · simp [frzOk, push_cast]
  try dsimp only
  try simp only [refsL, AV.refs, frzS, List.append_nil, upd, mkS_box, entry_box, lk, if_true, if_false]
  by_cases s10 : inB [2, 25, 44, 55, 58] k = true
  · by_cases hd : d.toNat = 6
    · have hd' : ((d.toNat : Int) == 6) = true := by simp [hd]
      repeat' (first
        | with_reducible first | apply thenW_n | apply W_seq
        | with_reducible refine W_region (by first | decide | (with_unfolding_all rfl)) ?_
        | (rw [vcn]; (try simp [push_cast, recAV, frzS, s0, s1, s2, s3, s4, s5, s6, s7, s8, s9, s10, hd']))
        | (with_reducible refine W_condW ?_; (try simp [AS.val, upd, resB, mkS_env, mkS_box, lk, entry_env, condW_true, condW_false, recAV, frzS, s0, s1, s2, s3, s4, s5, s6, s7, s8, s9, s10, hd']))
        | fail)
      refine CallG_of (text_ok false b 512 false hb) rfl rfl rfl ?_
      try dsimp only
      repeat' (first
        | with_reducible first | apply thenW_n | apply thenW_ret | apply blockW_ret | apply W_ret
        | (rw [vcn]; (try simp [push_cast, recAV, frzS, s0, s1, s2, s3, s4, s5, s6, s7, s8, s9, s10, hd']))
        | fail)
      simp [post, resAV, resAll, resOne, closeV, closeC, closeL, resD, resDL, push_cast, recAV]
      all_goals (simp [refR, s10, s0, s1, s2, s3, s4, s5, s6, s7, s8, s9, hd]; done)
    · have hd' : ((d.toNat : Int) == 6) = false := by simp; omega
      repeat' (first
        | with_reducible first | apply thenW_n | apply thenW_ret | apply blockW_ret | apply W_seq | apply W_ret
        | with_reducible refine W_region (by first | decide | (with_unfolding_all rfl)) ?_
        | (rw [vcn]; (try simp [push_cast, recAV, frzS, s0, s1, s2, s3, s4, s5, s6, s7, s8, s9, s10, hd']))
        | (with_reducible refine W_condW ?_; (try simp [AS.val, upd, resB, mkS_env, mkS_box, lk, entry_env, condW_true, condW_false, recAV, frzS, s0, s1, s2, s3, s4, s5, s6, s7, s8, s9, s10, hd']))
        | fail)
      simp [post, resAV, resAll, resOne, closeV, closeC, closeL, resD, resDL, push_cast, recAV]
      all_goals first | (simp [refR, s10, s0, s1, s2, s3, s4, s5, s6, s7, s8, s9, hd]; done) | (simp [refR, s10, s0, s1, s2, s3, s4, s5, s6, s7, s8, s9, hd]; omega) | (rw [Bool.eq_iff_iff]; simp [refR, s10, s0, s1, s2, s3, s4, s5, s6, s7, s8, s9, hd]; omega) | (cases b <;> simp [refR, s10, s0, s1, s2, s3, s4, s5, s6, s7, s8, s9, hd] <;> omega)
  replace s10 : inB [2, 25, 44, 55, 58] k = false := by simpa using s10
  repeat' (first
    | with_reducible first | apply thenW_n | apply W_seq
    | with_reducible refine W_region (by first | decide | (with_unfolding_all rfl)) ?_
    | (rw [vcn]; (try simp [push_cast, recAV, frzS, s0, s1, s2, s3, s4, s5, s6, s7, s8, s9, s10]))
    | (with_reducible refine W_condW ?_; (try simp [AS.val, upd, resB, mkS_env, mkS_box, lk, entry_env, condW_true, condW_false, recAV, frzS, s0, s1, s2, s3, s4, s5, s6, s7, s8, s9, s10]))
    | fail)
  refine CallG_frz _ _ rfl ?_ (among_ok k false [6, 18]) ?_ (by simp [push_cast]) rfl ?_
  · first | (simp [frzS, resDL, resD, push_cast, recAV]; done) | (simp [frzS, resDL, resD, push_cast, recAV]; rw [List.take_of_length_le (by simp)]; done) | (simp [frzS, resDL, resD, push_cast, recAV]; fail_if_success done)
  · simp [frzOk, push_cast]
  try dsimp only
  try simp only [refsL, AV.refs, frzS, List.append_nil, upd, mkS_box, entry_box, lk, if_true, if_false]
  by_cases s11 : inB [6, 18] k = true
  · by_cases hd : d.toNat = 6
    · have hd' : ((d.toNat : Int) == 6) = true := by simp [hd]
      repeat' (first
        | with_reducible first | apply thenW_n | apply W_seq
        | with_reducible refine W_region (by first | decide | (with_unfolding_all rfl)) ?_
        | (rw [vcn]; (try simp [push_cast, recAV, frzS, s0, s1, s2, s3, s4, s5, s6, s7, s8, s9, s10, s11, hd']))
        | (with_reducible refine W_condW ?_; (try simp [AS.val, upd, resB, mkS_env, mkS_box, lk, entry_env, condW_true, condW_false, recAV, frzS, s0, s1, s2, s3, s4, s5, s6, s7, s8, s9, s10, s11, hd']))
        | fail)
      refine CallG_of (text_ok false b 32 true hb) rfl rfl rfl ?_
      try dsimp only
      repeat' (first
        | with_reducible first | apply thenW_n | apply thenW_ret | apply blockW_ret | apply W_ret
        | (rw [vcn]; (try simp [push_cast, recAV, frzS, s0, s1, s2, s3, s4, s5, s6, s7, s8, s9, s10, s11, hd']))
        | fail)
      simp [post, resAV, resAll, resOne, closeV, closeC, closeL, resD, resDL, push_cast, recAV]
      all_goals (simp [refR, s11, s0, s1, s2, s3, s4, s5, s6, s7, s8, s9, s10, hd]; done)
    · have hd' : ((d.toNat : Int) == 6) = false := by simp; omega
      repeat' (first
        | with_reducible first | apply thenW_n | apply thenW_ret | apply blockW_ret | apply W_seq | apply W_ret
        | with_reducible refine W_region (by first | decide | (with_unfolding_all rfl)) ?_
        | (rw [vcn]; (try simp [push_cast, recAV, frzS, s0, s1, s2, s3, s4, s5, s6, s7, s8, s9, s10, s11, hd']))
        | (with_reducible refine W_condW ?_; (try simp [AS.val, upd, resB, mkS_env, mkS_box, lk, entry_env, condW_true, condW_false, recAV, frzS, s0, s1, s2, s3, s4, s5, s6, s7, s8, s9, s10, s11, hd']))
        | fail)
      simp [post, resAV, resAll, resOne, closeV, closeC, closeL, resD, resDL, push_cast, recAV]
      all_goals first | (simp [refR, s11, s0, s1, s2, s3, s4, s5, s6, s7, s8, s9, s10, hd]; done) | (simp [refR, s11, s0, s1, s2, s3, s4, s5, s6, s7, s8, s9, s10, hd]; omega) | (rw [Bool.eq_iff_iff]; simp [refR, s11, s0, s1, s2, s3, s4, s5, s6, s7, s8, s9, s10, hd]; omega) | (cases b <;> simp [refR, s11, s0, s1, s2, s3, s4, s5, s6, s7, s8, s9, s10, hd] <;> omega)
  replace s11 : inB [6, 18] k = false := by simpa using s11
  by_cases s12 : ((k.toNat : Int) == 35) = true
  · by_cases hd : d.toNat = 6
    · have hd' : ((d.toNat : Int) == 6) = true := by simp [hd]
      repeat' (first
        | with_reducible first | apply thenW_n | apply thenW_ret | apply blockW_ret | apply W_seq | apply W_ret
        | with_reducible refine W_region (by first | decide | (with_unfolding_all rfl)) ?_
        | (rw [vcn]; (try simp [push_cast, recAV, frzS, s0, s1, s2, s3, s4, s5, s6, s7, s8, s9, s10, s11, s12, hd']))
        | (with_reducible refine W_condW ?_; (try simp [AS.val, upd, resB, mkS_env, mkS_box, lk, entry_env, condW_true, condW_false, recAV, frzS, s0, s1, s2, s3, s4, s5, s6, s7, s8, s9, s10, s11, s12, hd']))
        | fail)
      simp [post, resAV, resAll, resOne, closeV, closeC, closeL, resD, resDL, push_cast, recAV]
      all_goals first | (simp [refR, s12, s0, s1, s2, s3, s4, s5, s6, s7, s8, s9, s10, s11, hd]; done) | (simp [refR, s12, s0, s1, s2, s3, s4, s5, s6, s7, s8, s9, s10, s11, hd]; omega) | (rw [Bool.eq_iff_iff]; simp [refR, s12, s0, s1, s2, s3, s4, s5, s6, s7, s8, s9, s10, s11, hd]; omega) | (cases b <;> simp [refR, s12, s0, s1, s2, s3, s4, s5, s6, s7, s8, s9, s10, s11, hd] <;> omega)
    · have hd' : ((d.toNat : Int) == 6) = false := by simp; omega
      repeat' (first
        | with_reducible first | apply thenW_n | apply thenW_ret | apply blockW_ret | apply W_seq | apply W_ret
        | with_reducible refine W_region (by first | decide | (with_unfolding_all rfl)) ?_
        | (rw [vcn]; (try simp [push_cast, recAV, frzS, s0, s1, s2, s3, s4, s5, s6, s7, s8, s9, s10, s11, s12, hd']))
        | (with_reducible refine W_condW ?_; (try simp [AS.val, upd, resB, mkS_env, mkS_box, lk, entry_env, condW_true, condW_false, recAV, frzS, s0, s1, s2, s3, s4, s5, s6, s7, s8, s9, s10, s11, s12, hd']))
        | fail)
      simp [post, resAV, resAll, resOne, closeV, closeC, closeL, resD, resDL, push_cast, recAV]
      all_goals first | (simp [refR, s12, s0, s1, s2, s3, s4, s5, s6, s7, s8, s9, s10, s11, hd]; done) | (simp [refR, s12, s0, s1, s2, s3, s4, s5, s6, s7, s8, s9, s10, s11, hd]; omega) | (rw [Bool.eq_iff_iff]; simp [refR, s12, s0, s1, s2, s3, s4, s5, s6, s7, s8, s9, s10, s11, hd]; omega) | (cases b <;> simp [refR, s12, s0, s1, s2, s3, s4, s5, s6, s7, s8, s9, s10, s11, hd] <;> omega)
  replace s12 : ((k.toNat : Int) == 35) = false := by simpa using s12
  by_cases s13 : ((k.toNat : Int) == 32) = true
  · by_cases hd : d.toNat = 6
    · have hd' : ((d.toNat : Int) == 6) = true := by simp [hd]
      repeat' (first
        | with_reducible first | apply thenW_n | apply thenW_ret | apply blockW_ret | apply W_seq | apply W_ret
        | with_reducible refine W_region (by first | decide | (with_unfolding_all rfl)) ?_
        | (rw [vcn]; (try simp [push_cast, recAV, frzS, s0, s1, s2, s3, s4, s5, s6, s7, s8, s9, s10, s11, s12, s13, hd']))
        | (with_reducible refine W_condW ?_; (try simp [AS.val, upd, resB, mkS_env, mkS_box, lk, entry_env, condW_true, condW_false, recAV, frzS, s0, s1, s2, s3, s4, s5, s6, s7, s8, s9, s10, s11, s12, s13, hd']))
        | fail)
      simp [post, resAV, resAll, resOne, closeV, closeC, closeL, resD, resDL, push_cast, recAV]
      all_goals first | (simp [refR, s13, s0, s1, s2, s3, s4, s5, s6, s7, s8, s9, s10, s11, s12, hd]; done) | (simp [refR, s13, s0, s1, s2, s3, s4, s5, s6, s7, s8, s9, s10, s11, s12, hd]; omega) | (rw [Bool.eq_iff_iff]; simp [refR, s13, s0, s1, s2, s3, s4, s5, s6, s7, s8, s9, s10, s11, s12, hd]; omega) | (cases b <;> simp [refR, s13, s0, s1, s2, s3, s4, s5, s6, s7, s8, s9, s10, s11, s12, hd] <;> omega)
    · have hd' : ((d.toNat : Int) == 6) = false := by simp; omega
      repeat' (first
        | with_reducible first | apply thenW_n | apply thenW_ret | apply blockW_ret | apply W_seq | apply W_ret
        | with_reducible refine W_region (by first | decide | (with_unfolding_all rfl)) ?_
        | (rw [vcn]; (try simp [push_cast, recAV, frzS, s0, s1, s2, s3, s4, s5, s6, s7, s8, s9, s10, s11, s12, s13, hd']))
        | (with_reducible refine W_condW ?_; (try simp [AS.val, upd, resB, mkS_env, mkS_box, lk, entry_env, condW_true, condW_false, recAV, frzS, s0, s1, s2, s3, s4, s5, s6, s7, s8, s9, s10, s11, s12, s13, hd']))
        | fail)
      simp [post, resAV, resAll, resOne, closeV, closeC, closeL, resD, resDL, push_cast, recAV]
      all_goals first | (simp [refR, s13, s0, s1, s2, s3, s4, s5, s6, s7, s8, s9, s10, s11, s12, hd]; done) | (simp [refR, s13, s0, s1, s2, s3, s4, s5, s6, s7, s8, s9, s10, s11, s12, hd]; omega) | (rw [Bool.eq_iff_iff]; simp [refR, s13, s0, s1, s2, s3, s4, s5, s6, s7, s8, s9, s10, s11, s12, hd]; omega) | (cases b <;> simp [refR, s13, s0, s1, s2, s3, s4, s5, s6, s7, s8, s9, s10, s11, s12, hd] <;> omega)
  replace s13 : ((k.toNat : Int) == 32) = false := by simpa using s13
  by_cases s14 : ((k.toNat : Int) == 31) = true
  · by_cases hd : d.toNat = 6
    · have hd' : ((d.toNat : Int) == 6) = true := by simp [hd]
      have hm : ((b.length : Int).tmod 44) = ((b.length % 44 : Nat) : Int) := by rw [Int.ofNat_tmod]; rfl
      by_cases h1 : b.length % 44 = 0
      · by_cases h2 : 44 ≤ b.length
        · have h2' : (44 : Int) ≤ (b.length : Int) := by omega
          repeat' (first
            | with_reducible first | apply thenW_n | apply thenW_ret | apply blockW_ret | apply W_seq | apply W_ret
            | with_reducible refine W_region (by first | decide | (with_unfolding_all rfl)) ?_
            | (rw [vcn]; (try simp [push_cast, recAV, frzS, s0, s1, s2, s3, s4, s5, s6, s7, s8, s9, s10, s11, s12, s13, s14, hd', hm, h1, h2', h2]))
            | (with_reducible refine W_condW ?_; (try simp [AS.val, upd, resB, mkS_env, mkS_box, lk, entry_env, condW_true, condW_false, recAV, frzS, s0, s1, s2, s3, s4, s5, s6, s7, s8, s9, s10, s11, s12, s13, s14, hd', hm, h1, h2', h2]))
            | fail)
          simp [post, resAV, resAll, resOne, closeV, closeC, closeL, resD, resDL, push_cast, recAV]
          all_goals first | (simp [refR, s14, s0, s1, s2, s3, s4, s5, s6, s7, s8, s9, s10, s11, s12, s13, hd, h1, h2]; done) | (simp [refR, s14, s0, s1, s2, s3, s4, s5, s6, s7, s8, s9, s10, s11, s12, s13, hd, h1, h2]; omega) | (rw [Bool.eq_iff_iff]; simp [refR, s14, s0, s1, s2, s3, s4, s5, s6, s7, s8, s9, s10, s11, s12, s13, hd, h1, h2]; omega) | (cases b <;> simp [refR, s14, s0, s1, s2, s3, s4, s5, s6, s7, s8, s9, s10, s11, s12, s13, hd, h1, h2] <;> omega)
        · have h2' : ¬ (44 : Int) ≤ (b.length : Int) := by omega
          repeat' (first
            | with_reducible first | apply thenW_n | apply thenW_ret | apply blockW_ret | apply W_seq | apply W_ret
            | with_reducible refine W_region (by first | decide | (with_unfolding_all rfl)) ?_
            | (rw [vcn]; (try simp [push_cast, recAV, frzS, s0, s1, s2, s3, s4, s5, s6, s7, s8, s9, s10, s11, s12, s13, s14, hd', hm, h1, h2', h2]))
            | (with_reducible refine W_condW ?_; (try simp [AS.val, upd, resB, mkS_env, mkS_box, lk, entry_env, condW_true, condW_false, recAV, frzS, s0, s1, s2, s3, s4, s5, s6, s7, s8, s9, s10, s11, s12, s13, s14, hd', hm, h1, h2', h2]))
            | fail)
          simp [post, resAV, resAll, resOne, closeV, closeC, closeL, resD, resDL, push_cast, recAV]
          all_goals first | (simp [refR, s14, s0, s1, s2, s3, s4, s5, s6, s7, s8, s9, s10, s11, s12, s13, hd, h1, h2]; done) | (simp [refR, s14, s0, s1, s2, s3, s4, s5, s6, s7, s8, s9, s10, s11, s12, s13, hd, h1, h2]; omega) | (rw [Bool.eq_iff_iff]; simp [refR, s14, s0, s1, s2, s3, s4, s5, s6, s7, s8, s9, s10, s11, s12, s13, hd, h1, h2]; omega) | (cases b <;> simp [refR, s14, s0, s1, s2, s3, s4, s5, s6, s7, s8, s9, s10, s11, s12, s13, hd, h1, h2] <;> omega)
      · have h1' : (b.length % 44 = 0) = False := by simp; omega
        have h1x : ((b.length : Int) % 44 = 0) = False := by simp; omega
        repeat' (first
          | with_reducible first | apply thenW_n | apply thenW_ret | apply blockW_ret | apply W_seq | apply W_ret
          | with_reducible refine W_region (by first | decide | (with_unfolding_all rfl)) ?_
          | (rw [vcn]; (try simp [push_cast, recAV, frzS, s0, s1, s2, s3, s4, s5, s6, s7, s8, s9, s10, s11, s12, s13, s14, hd', hm, h1', h1x, h1]))
          | (with_reducible refine W_condW ?_; (try simp [AS.val, upd, resB, mkS_env, mkS_box, lk, entry_env, condW_true, condW_false, recAV, frzS, s0, s1, s2, s3, s4, s5, s6, s7, s8, s9, s10, s11, s12, s13, s14, hd', hm, h1', h1x, h1]))
          | fail)
        simp [post, resAV, resAll, resOne, closeV, closeC, closeL, resD, resDL, push_cast, recAV]
        all_goals first | (simp [refR, s14, s0, s1, s2, s3, s4, s5, s6, s7, s8, s9, s10, s11, s12, s13, hd, h1]; done) | (simp [refR, s14, s0, s1, s2, s3, s4, s5, s6, s7, s8, s9, s10, s11, s12, s13, hd, h1]; omega) | (rw [Bool.eq_iff_iff]; simp [refR, s14, s0, s1, s2, s3, s4, s5, s6, s7, s8, s9, s10, s11, s12, s13, hd, h1]; omega) | (cases b <;> simp [refR, s14, s0, s1, s2, s3, s4, s5, s6, s7, s8, s9, s10, s11, s12, s13, hd, h1] <;> omega)
    · have hd' : ((d.toNat : Int) == 6) = false := by simp; omega
      repeat' (first
        | with_reducible first | apply thenW_n | apply thenW_ret | apply blockW_ret | apply W_seq | apply W_ret
        | with_reducible refine W_region (by first | decide | (with_unfolding_all rfl)) ?_
        | (rw [vcn]; (try simp [push_cast, recAV, frzS, s0, s1, s2, s3, s4, s5, s6, s7, s8, s9, s10, s11, s12, s13, s14, hd']))
        | (with_reducible refine W_condW ?_; (try simp [AS.val, upd, resB, mkS_env, mkS_box, lk, entry_env, condW_true, condW_false, recAV, frzS, s0, s1, s2, s3, s4, s5, s6, s7, s8, s9, s10, s11, s12, s13, s14, hd']))
        | fail)
      simp [post, resAV, resAll, resOne, closeV, closeC, closeL, resD, resDL, push_cast, recAV]
      all_goals first | (simp [refR, s14, s0, s1, s2, s3, s4, s5, s6, s7, s8, s9, s10, s11, s12, s13, hd]; done) | (simp [refR, s14, s0, s1, s2, s3, s4, s5, s6, s7, s8, s9, s10, s11, s12, s13, hd]; omega) | (rw [Bool.eq_iff_iff]; simp [refR, s14, s0, s1, s2, s3, s4, s5, s6, s7, s8, s9, s10, s11, s12, s13, hd]; omega) | (cases b <;> simp [refR, s14, s0, s1, s2, s3, s4, s5, s6, s7, s8, s9, s10, s11, s12, s13, hd] <;> omega)
  replace s14 : ((k.toNat : Int) == 31) = false := by simpa using s14
  repeat' (first
    | with_reducible first | apply thenW_n | apply blockW_n | apply W_seq | apply W_skip | apply W_ret
    | with_reducible refine W_region (by first | decide | (with_unfolding_all rfl)) ?_
    | (rw [vcn]; (try simp [push_cast, recAV, frzS, s0, s1, s2, s3, s4, s5, s6, s7, s8, s9, s10, s11, s12, s13, s14]))
    | (with_reducible refine W_condW ?_; (try simp [AS.val, upd, resB, mkS_env, mkS_box, lk, entry_env, condW_true, condW_false, recAV, frzS, s0, s1, s2, s3, s4, s5, s6, s7, s8, s9, s10, s11, s12, s13, s14]))
    | fail)
  simp [post, resAV, resAll, resOne, closeV, closeC, closeL, resD, resDL, push_cast, recAV]
  all_goals (simp [refR, s0, s1, s2, s3, s4, s5, s6, s7, s8, s9, s10, s11, s12, s13, s14]; done)
end Go.Fw
