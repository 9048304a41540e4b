import Derived.Test.YtjgbikhnnkigpaaGp11
import Derived.Test.YtjgbikhnnkigpaaQ4b
import Derived.Test.YtjgbikhnnkigpaaSp3b
set_option linter.unusedSimpArgs false
set_option linter.unusedVariables false
-- VALS: recAV, libAV, rowsAV, cellsAV, itemAV, itemsAV, cellAV
namespace Go.Fw
open Go Go.Proofs Go.IntWalk
set_option linter.unusedSimpArgs false
set_option maxRecDepth 100000
set_option maxHeartbeats 4000000
open List (map_take map_drop)
attribute [local push_cast] optK_some optK_none optK_ite optK_map optK_bind gOn stepK isMem evPure evMem evBin evUn evConv evLen evBuiltin evMinMax evSlice evBuild evAppend evIndex evIndexAddr evField evFieldAddr intBin strBin appDest AS.val AS.mem AS.elems AS.put AS.put' AS.eff AV.cells? AV.isCell AV.refs all_isByte take_byteV drop_byteV strOf_map bndOk bnd partAV ptrAdd killBox catA inOrder fillA setAt ofVal resB upd byteV List.head?_take List.head?_drop List.getElem?_map mkS_env mkS_box mkS_used entry_env entry_box entry_used lk stepD lookIds Oper.looksAt Op.operands Call.operands St.ids refsL renL_append dV_take dV_drop ren renL renBox Box.refs iV i64V boolV dV_getElem dV_app dV_cons toNat_add2 toNat_add1
def like2 {α : Type} (f : α → α → Bool) : List α → List α → Bool
 | [], [] => true
 | a :: l, b :: m => f a b && like2 f l m
 | _, _ => false
theorem like2_ne {α : Type} (f : α → α → Bool) : ∀ (l m : List α), l.length ≠ m.length → like2 f l m = false
 | [], [], h => absurd rfl h
 | [], _ :: _, _ => rfl
 | _ :: _, [], _ => rfl
 | a :: l, b :: m, h => by rw [like2, like2_ne f l m (fun e => h (by simp [e])), Bool.and_false]
theorem like2_at {α : Type} (f : α → α → Bool) (l m : List α) (i : Nat) (h1 : i < l.length) (h2 : i < m.length) : like2 f (l.drop i) (m.drop i) = (f l[i] m[i] && like2 f (l.drop (i + 1)) (m.drop (i + 1))) := by
 rw [List.drop_eq_getElem_cons h1, List.drop_eq_getElem_cons h2, like2]
def itemLike (x y : Item) : Bool := decide (x.1.length = y.1.length) && decide (x.2.length = y.2.length)
def cellLike (c d : Cell) : Bool := decide (c.1.length = d.1.length) && like2 itemLike c.2 d.2
def libLike (t u : Lib) : Bool := decide (t.1.length = u.1.length) && like2 cellLike t.2 u.2
def cellAV (c : Cell) : AV := .agg [rowsAV c.1, itemsAV c.2]
theorem itemLike_ok (x y : Item) : Eval Try.prog 78 [itemAV x, itemAV y] (.ret (.v (.bool (itemLike x y)))) := by
 obtain ⟨a, b⟩ := x
 obtain ⟨c, d⟩ := y
 obtain ⟨A, hA⟩ : ∃ A, A = recsCells a := ⟨_, rfl⟩
 obtain ⟨B, hB⟩ : ∃ A, A = recsCells b := ⟨_, rfl⟩
 obtain ⟨C, hC⟩ : ∃ A, A = recsCells c := ⟨_, rfl⟩
 obtain ⟨D, hD⟩ : ∃ A, A = recsCells d := ⟨_, rfl⟩
 have e : itemLike (a, b) (c, d) = (decide (a.length = c.length) && decide (b.length = d.length)) := rfl
 rw [e]
 simp only [itemAV, rowsAV, ← hA, ← hB, ← hC, ← hD]
 refine Eval.intro Try.func78 rfl Try.call78 _ _ (Nat.le_of_ble_eq_true rfl) (by simp [natAV, recAV, libAV, rowsAV, cellsAV, itemAV, itemsAV, cellAV, push_cast]) fun hs0 => ?_
 obtain ⟨na, hna⟩ : ∃ n, n = a.length := ⟨_, rfl⟩
 obtain ⟨nb, hnb⟩ : ∃ n, n = b.length := ⟨_, rfl⟩
 obtain ⟨nc, hnc⟩ : ∃ n, n = c.length := ⟨_, rfl⟩
 obtain ⟨nd, hnd⟩ : ∃ n, n = d.length := ⟨_, rfl⟩
 simp only [← hna, ← hnb, ← hnc, ← hnd] at hs0 ⊢
 by_cases h1 : na = nc
 ·
  have g1 : ((na : Int) == (nc : Int)) = true := by simp [h1]
  by_cases h2 : nb = nd
  ·
   have g2 : ((nb : Int) == (nd : Int)) = true := by simp [h2]
   repeat' (first
    | with_reducible first | apply thenW_n | apply W_seq | apply W_ret
    | with_reducible refine W_rg ?_
    | (rw [vcn]; (try simp [push_cast, g1, g2]))
    | fail)
   simp [post, resAV, resAll, resOne, closeV, closeC, closeL, resD, resDL, push_cast, h1, h2]
  ·
   have g2 : ((nb : Int) == (nd : Int)) = false := by rw [beq_eq_false_iff_ne]; omega
   repeat' (first
    | with_reducible first | apply thenW_n | apply W_seq | apply W_ret
    | with_reducible refine W_rg ?_
    | (rw [vcn]; (try simp [push_cast, g1, g2]))
    | fail)
   simp [post, resAV, resAll, resOne, closeV, closeC, closeL, resD, resDL, push_cast, h1, h2]
 ·
  have g1 : ((na : Int) == (nc : Int)) = false := by rw [beq_eq_false_iff_ne]; omega
  repeat' (first
   | with_reducible first | apply thenW_n | apply W_seq | apply W_ret
   | with_reducible refine W_rg ?_
   | (rw [vcn]; (try simp [push_cast, g1]))
   | fail)
  simp [post, resAV, resAll, resOne, closeV, closeC, closeL, resD, resDL, push_cast, h1]
theorem itemsLike_ok (xs ys : List Item) : Eval Try.prog 77 [itemsAV xs, itemsAV ys, .fn 78 []] (.ret (.v (.bool (like2 itemLike xs ys)))) := by
 have step : xs.length = ys.length → ∀ i, i < xs.length → ∃ x y t t2, (itemsCells xs).drop (i * 2) = rowsAV x.1 :: rowsAV x.2 :: t ∧ (itemsCells ys).drop (i * 2) = rowsAV y.1 :: rowsAV y.2 :: t2 ∧ like2 itemLike (xs.drop i) (ys.drop i) = (itemLike x y && like2 itemLike (xs.drop (i + 1)) (ys.drop (i + 1))) := fun h i hi => by
  obtain ⟨t, ht⟩ := itemsCells_at xs i hi
  obtain ⟨t2, ht2⟩ := itemsCells_at ys i (by omega)
  exact ⟨xs[i], ys[i], t, t2, ht, ht2, like2_at itemLike xs ys i hi (by omega)⟩
 have hfin : xs.length = ys.length → like2 itemLike (xs.drop xs.length) (ys.drop xs.length) = true := fun h => by
  rw [List.drop_length, List.drop_of_length_le (by omega)]
  rfl
 have hl := itemsCells_len xs
 have hl2 := itemsCells_len ys
 have hr := itemsCells_refs xs
 have hr2 := itemsCells_refs ys
 have hne := like2_ne itemLike xs ys
 have h00 : like2 itemLike xs ys = like2 itemLike (xs.drop 0) (ys.drop 0) := rfl
 obtain ⟨X, hX⟩ : ∃ A, A = itemsCells xs := ⟨_, rfl⟩
 obtain ⟨Y, hY⟩ : ∃ A, A = itemsCells ys := ⟨_, rfl⟩
 obtain ⟨out, hout⟩ : ∃ o, o = like2 itemLike xs ys := ⟨_, rfl⟩
 obtain ⟨D, hD⟩ : ∃ D : Nat → Bool, D = fun i => like2 itemLike (xs.drop i) (ys.drop i) := ⟨_, rfl⟩
 have hDi : ∀ i, like2 itemLike (xs.drop i) (ys.drop i) = D i := fun i => by rw [hD]
 simp only [hDi] at step hfin h00
 simp only [itemsAV, ← hX, ← hY, ← hout] at step hl hl2 hr hr2 hne h00 ⊢
 obtain ⟨n, hn⟩ : ∃ n, n = xs.length := ⟨_, rfl⟩
 obtain ⟨m, hm⟩ : ∃ n, n = ys.length := ⟨_, rfl⟩
 simp only [← hn, ← hm] at step hfin hl hl2 hne ⊢
 clear hD hDi hX hY hout hn hm
 refine Eval.intro Try.func77 rfl Try.call77 _ _ (Nat.le_of_ble_eq_true rfl) (by simp [natAV, recAV, libAV, rowsAV, cellsAV, itemAV, itemsAV, cellAV, push_cast]) fun hs0 => ?_
 have hn64 : n ≤ 9223372036854775807 := hs0.1.1
 by_cases hnm : n ≠ m
 ·
  have g1 : ((n : Int) != (m : Int)) = true := by rw [bne_iff_ne]; omega
  have g1' : ((n : Int) == (m : Int)) = false := by rw [beq_eq_false_iff_ne]; omega
  rw [hne hnm]
  repeat' (first
   | with_reducible first | apply thenW_n | apply thenW_ret | apply W_seq | apply W_ret
   | with_reducible refine W_rg ?_
   | (rw [vcn]; (try simp [push_cast, g1, g1']))
   | (with_reducible refine W_condW ?_; (try simp [AS.val, upd, resB, mkS_env, mkS_box, lk, entry_env, condW_true, condW_false, g1, g1']))
   | fail)
  simp [post, resAV, resAll, resOne, closeV, closeC, closeL, resD, resDL, push_cast]
 have hnm : n = m := by omega
 subst hnm
 have step := step rfl
 have hfin := hfin rfl
 rw [h00]
 have g0 : ((n : Int) != (n : Int)) = false := by simp
 repeat' (first
  | with_reducible first | apply thenW_n | apply W_seq | apply W_skip
  | with_reducible refine W_rg ?_
  | (rw [vcn]; (try simp [push_cast, g0]))
  | (with_reducible refine W_condW ?_; (try simp [AS.val, upd, resB, mkS_env, mkS_box, lk, entry_env, condW_true, condW_false, g0]))
  | fail)
 refine W_block ?_
 refine W_loopW (X := Nat) (fun i => [(1, .slc false 2 n Y), (2, .fn 78 []), (15, .slc false 2 n X), (16, i64V (n : Int)), (17, i64V (i : Int))]) (fun i => []) (fun i => n - i) (fun i => i ≤ n ∧ D 0 = D i) 0 id ⟨Nat.zero_le _, rfl⟩ ⟨?_, ?_, ?_, ?_, ?_, ?_⟩ fun i hi => ?_
 all_goals first | (with_reducible refine W_id ?_) | (simp [push_cast, hr, hr2]; done)
 obtain ⟨hi, hd⟩ := hi
 by_cases hlt : i < n
 ·
  have g1 : (i < n) = True := eq_true hlt
  have g1' : ((i : Int) < (n : Int)) = True := eq_true (by omega)
  obtain ⟨x, y, t, t2, ht, ht2, hD⟩ := step i hlt
  have hc := itemLike_ok x y
  simp only [itemAV] at hc
  obtain ⟨b, hb⟩ : ∃ b, b = itemLike x y := ⟨_, rfl⟩
  rw [← hb] at hc hD
  repeat' (first
   | with_reducible first | apply thenW_n | apply W_seq | apply W_block | apply W_skip
   | with_reducible refine W_rg ?_
   | (rw [vcn]; (try simp [push_cast, g1, g1', hl, hl2, ht, ht2, hlt]))
   | (with_reducible refine W_condW ?_; (try simp [AS.val, upd, resB, mkS_env, mkS_box, lk, entry_env, condW_true, condW_false, g1, g1', hl, hl2, ht, ht2, hlt]))
   | fail)
  refine CallG_of (hc) rfl rfl rfl ?_
  try dsimp only
  cases b with
  | false =>
   have hd0 : D 0 = false := by rw [hd, hD]; rfl
   rw [hd0]
   repeat' (first
    | with_reducible first | apply thenW_n | apply thenW_ret | apply blockW_ret | apply loopW_ret | apply W_seq | apply W_ret
    | with_reducible refine W_rg ?_
    | (rw [vcn]; (try simp [push_cast]))
    | (with_reducible refine W_condW ?_; (try simp [AS.val, upd, resB, mkS_env, mkS_box, lk, entry_env, condW_true, condW_false]))
    | fail)
   simp [post, resAV, resAll, resOne, closeV, closeC, closeL, resD, resDL, push_cast]
  | true =>
   repeat' (first
    | with_reducible first | apply thenW_n | apply blockW_n | apply W_skip
    | with_reducible refine W_rg ?_
    | (rw [vcn]; (try simp [push_cast]); try simp (disch := omega) only [i64_in, u64_in, shr64i])
    | (with_reducible refine W_condW ?_; (try simp [AS.val, upd, resB, mkS_env, mkS_box, lk, entry_env, condW_true, condW_false]))
    | fail)
   refine loopW_n (i + 1) id (by omega) ⟨by omega, by rw [hd, hD]; rfl⟩ ⟨?_, ?_, ?_, ?_, ?_, ?_⟩
   all_goals first | (simp [push_cast, hr, hr2]; done)
 ·
  have g1 : (i < n) = False := eq_false hlt
  have g1' : ((i : Int) < (n : Int)) = False := eq_false (by omega)
  have hi2 : i = n := by omega
  subst hi2
  have hd0 : D 0 = true := by rw [hd, hfin]
  rw [hd0]
  repeat' (first
   | with_reducible first | apply thenW_n | apply thenW_exit | apply blockW_same | apply loopW_exit | apply W_seq | apply W_ret | apply W_exit
   | with_reducible refine W_rg ?_
   | (rw [vcn]; (try simp [push_cast, g1, g1']))
   | (with_reducible refine W_condW ?_; (try simp [AS.val, upd, resB, mkS_env, mkS_box, lk, entry_env, condW_true, condW_false, g1, g1']))
   | fail)
  simp [post, resAV, resAll, resOne, closeV, closeC, closeL, resD, resDL, push_cast]
theorem cellLike_ok (x y : Cell) : Eval Try.prog 76 [cellAV x, cellAV y] (.ret (.v (.bool (cellLike x y)))) := by
 obtain ⟨a, b⟩ := x
 obtain ⟨c, d⟩ := y
 have hc := itemsLike_ok b d
 obtain ⟨lk2, hlk2⟩ : ∃ l, l = like2 itemLike b d := ⟨_, rfl⟩
 have e : cellLike (a, b) (c, d) = (decide (a.length = c.length) && lk2) := by rw [hlk2]; rfl
 rw [e]
 obtain ⟨A, hA⟩ : ∃ A, A = recsCells a := ⟨_, rfl⟩
 obtain ⟨B, hB⟩ : ∃ A, A = itemsCells b := ⟨_, rfl⟩
 obtain ⟨C, hC⟩ : ∃ A, A = recsCells c := ⟨_, rfl⟩
 obtain ⟨D, hD⟩ : ∃ A, A = itemsCells d := ⟨_, rfl⟩
 simp only [cellAV, rowsAV, itemsAV, ← hA, ← hB, ← hC, ← hD, ← hlk2] at hc ⊢
 refine Eval.intro Try.func76 rfl Try.call76 _ _ (Nat.le_of_ble_eq_true rfl) (by simp [natAV, recAV, libAV, rowsAV, cellsAV, itemAV, itemsAV, cellAV, push_cast]) fun hs0 => ?_
 obtain ⟨na, hna⟩ : ∃ n, n = a.length := ⟨_, rfl⟩
 obtain ⟨nb, hnb⟩ : ∃ n, n = b.length := ⟨_, rfl⟩
 obtain ⟨nc, hnc⟩ : ∃ n, n = c.length := ⟨_, rfl⟩
 obtain ⟨nd, hnd⟩ : ∃ n, n = d.length := ⟨_, rfl⟩
 simp only [← hna, ← hnb, ← hnc, ← hnd] at hs0 hc ⊢
 by_cases h1 : na = nc
 ·
  have g1 : ((na : Int) == (nc : Int)) = true := by simp [h1]
  repeat' (first
   | with_reducible first | apply thenW_n | apply W_seq
   | with_reducible refine W_rg ?_
   | (rw [vcn]; (try simp [push_cast, g1]))
   | fail)
  refine CallG_of (hc) rfl rfl rfl ?_
  try dsimp only
  repeat' (first
   | with_reducible first | apply thenW_n | apply W_ret
   | (rw [vcn]; (try simp [push_cast, g1]))
   | fail)
  simp [post, resAV, resAll, resOne, closeV, closeC, closeL, resD, resDL, push_cast, h1]
 ·
  have g1 : ((na : Int) == (nc : Int)) = false := by rw [beq_eq_false_iff_ne]; omega
  repeat' (first
   | with_reducible first | apply thenW_n | apply W_seq | apply W_ret
   | with_reducible refine W_rg ?_
   | (rw [vcn]; (try simp [push_cast, g1]))
   | fail)
  simp [post, resAV, resAll, resOne, closeV, closeC, closeL, resD, resDL, push_cast, h1]
theorem cellsLike_ok (xs ys : List Cell) : Eval Try.prog 75 [cellsAV xs, cellsAV ys, .fn 76 []] (.ret (.v (.bool (like2 cellLike xs ys)))) := by
 have step : xs.length = ys.length → ∀ i, i < xs.length → ∃ x y t t2, (cellsCells xs).drop (i * 2) = rowsAV x.1 :: itemsAV x.2 :: t ∧ (cellsCells ys).drop (i * 2) = rowsAV y.1 :: itemsAV y.2 :: t2 ∧ like2 cellLike (xs.drop i) (ys.drop i) = (cellLike x y && like2 cellLike (xs.drop (i + 1)) (ys.drop (i + 1))) := fun h i hi => by
  obtain ⟨t, ht⟩ := cellsCells_at xs i hi
  obtain ⟨t2, ht2⟩ := cellsCells_at ys i (by omega)
  exact ⟨xs[i], ys[i], t, t2, ht, ht2, like2_at cellLike xs ys i hi (by omega)⟩
 have hfin : xs.length = ys.length → like2 cellLike (xs.drop xs.length) (ys.drop xs.length) = true := fun h => by
  rw [List.drop_length, List.drop_of_length_le (by omega)]
  rfl
 have hl := cellsCells_len xs
 have hl2 := cellsCells_len ys
 have hr := cellsCells_refs xs
 have hr2 := cellsCells_refs ys
 have hne := like2_ne cellLike xs ys
 have h00 : like2 cellLike xs ys = like2 cellLike (xs.drop 0) (ys.drop 0) := rfl
 obtain ⟨X, hX⟩ : ∃ A, A = cellsCells xs := ⟨_, rfl⟩
 obtain ⟨Y, hY⟩ : ∃ A, A = cellsCells ys := ⟨_, rfl⟩
 obtain ⟨out, hout⟩ : ∃ o, o = like2 cellLike xs ys := ⟨_, rfl⟩
 obtain ⟨D, hD⟩ : ∃ D : Nat → Bool, D = fun i => like2 cellLike (xs.drop i) (ys.drop i) := ⟨_, rfl⟩
 have hDi : ∀ i, like2 cellLike (xs.drop i) (ys.drop i) = D i := fun i => by rw [hD]
 simp only [hDi] at step hfin h00
 simp only [cellsAV, ← hX, ← hY, ← hout] at step hl hl2 hr hr2 hne h00 ⊢
 obtain ⟨n, hn⟩ : ∃ n, n = xs.length := ⟨_, rfl⟩
 obtain ⟨m, hm⟩ : ∃ n, n = ys.length := ⟨_, rfl⟩
 simp only [← hn, ← hm] at step hfin hl hl2 hne ⊢
 clear hD hDi hX hY hout hn hm
 refine Eval.intro Try.func75 rfl Try.call75 _ _ (Nat.le_of_ble_eq_true rfl) (by simp [natAV, recAV, libAV, rowsAV, cellsAV, itemAV, itemsAV, cellAV, push_cast]) fun hs0 => ?_
 have hn64 : n ≤ 9223372036854775807 := hs0.1.1
 by_cases hnm : n ≠ m
 ·
  have g1 : ((n : Int) != (m : Int)) = true := by rw [bne_iff_ne]; omega
  have g1' : ((n : Int) == (m : Int)) = false := by rw [beq_eq_false_iff_ne]; omega
  rw [hne hnm]
  repeat' (first
   | with_reducible first | apply thenW_n | apply thenW_ret | apply W_seq | apply W_ret
   | with_reducible refine W_rg ?_
   | (rw [vcn]; (try simp [push_cast, g1, g1']))
   | (with_reducible refine W_condW ?_; (try simp [AS.val, upd, resB, mkS_env, mkS_box, lk, entry_env, condW_true, condW_false, g1, g1']))
   | fail)
  simp [post, resAV, resAll, resOne, closeV, closeC, closeL, resD, resDL, push_cast]
 have hnm : n = m := by omega
 subst hnm
 have step := step rfl
 have hfin := hfin rfl
 rw [h00]
 have g0 : ((n : Int) != (n : Int)) = false := by simp
 repeat' (first
  | with_reducible first | apply thenW_n | apply W_seq | apply W_skip
  | with_reducible refine W_rg ?_
  | (rw [vcn]; (try simp [push_cast, g0]))
  | (with_reducible refine W_condW ?_; (try simp [AS.val, upd, resB, mkS_env, mkS_box, lk, entry_env, condW_true, condW_false, g0]))
  | fail)
 refine W_block ?_
 refine W_loopW (X := Nat) (fun i => [(1, .slc false 2 n Y), (2, .fn 76 []), (15, .slc false 2 n X), (16, i64V (n : Int)), (17, i64V (i : Int))]) (fun i => []) (fun i => n - i) (fun i => i ≤ n ∧ D 0 = D i) 0 id ⟨Nat.zero_le _, rfl⟩ ⟨?_, ?_, ?_, ?_, ?_, ?_⟩ fun i hi => ?_
 all_goals first | (with_reducible refine W_id ?_) | (simp [push_cast, hr, hr2]; done)
 obtain ⟨hi, hd⟩ := hi
 by_cases hlt : i < n
 ·
  have g1 : (i < n) = True := eq_true hlt
  have g1' : ((i : Int) < (n : Int)) = True := eq_true (by omega)
  obtain ⟨x, y, t, t2, ht, ht2, hD⟩ := step i hlt
  have hc := cellLike_ok x y
  simp only [cellAV] at hc
  obtain ⟨b, hb⟩ : ∃ b, b = cellLike x y := ⟨_, rfl⟩
  rw [← hb] at hc hD
  repeat' (first
   | with_reducible first | apply thenW_n | apply W_seq | apply W_block | apply W_skip
   | with_reducible refine W_rg ?_
   | (rw [vcn]; (try simp [push_cast, g1, g1', hl, hl2, ht, ht2, hlt]))
   | (with_reducible refine W_condW ?_; (try simp [AS.val, upd, resB, mkS_env, mkS_box, lk, entry_env, condW_true, condW_false, g1, g1', hl, hl2, ht, ht2, hlt]))
   | fail)
  refine CallG_of (hc) rfl rfl rfl ?_
  try dsimp only
  cases b with
  | false =>
   have hd0 : D 0 = false := by rw [hd, hD]; rfl
   rw [hd0]
   repeat' (first
    | with_reducible first | apply thenW_n | apply thenW_ret | apply blockW_ret | apply loopW_ret | apply W_seq | apply W_ret
    | with_reducible refine W_rg ?_
    | (rw [vcn]; (try simp [push_cast]))
    | (with_reducible refine W_condW ?_; (try simp [AS.val, upd, resB, mkS_env, mkS_box, lk, entry_env, condW_true, condW_false]))
    | fail)
   simp [post, resAV, resAll, resOne, closeV, closeC, closeL, resD, resDL, push_cast]
  | true =>
   repeat' (first
    | with_reducible first | apply thenW_n | apply blockW_n | apply W_skip
    | with_reducible refine W_rg ?_
    | (rw [vcn]; (try simp [push_cast]); try simp (disch := omega) only [i64_in, u64_in, shr64i])
    | (with_reducible refine W_condW ?_; (try simp [AS.val, upd, resB, mkS_env, mkS_box, lk, entry_env, condW_true, condW_false]))
    | fail)
   refine loopW_n (i + 1) id (by omega) ⟨by omega, by rw [hd, hD]; rfl⟩ ⟨?_, ?_, ?_, ?_, ?_, ?_⟩
   all_goals first | (simp [push_cast, hr, hr2]; done)
 ·
  have g1 : (i < n) = False := eq_false hlt
  have g1' : ((i : Int) < (n : Int)) = False := eq_false (by omega)
  have hi2 : i = n := by omega
  subst hi2
  have hd0 : D 0 = true := by rw [hd, hfin]
  rw [hd0]
  repeat' (first
   | with_reducible first | apply thenW_n | apply thenW_exit | apply blockW_same | apply loopW_exit | apply W_seq | apply W_ret | apply W_exit
   | with_reducible refine W_rg ?_
   | (rw [vcn]; (try simp [push_cast, g1, g1']))
   | (with_reducible refine W_condW ?_; (try simp [AS.val, upd, resB, mkS_env, mkS_box, lk, entry_env, condW_true, condW_false, g1, g1']))
   | fail)
  simp [post, resAV, resAll, resOne, closeV, closeC, closeL, resD, resDL, push_cast]
theorem libLike_ok (x y : Lib) : Eval Try.prog 64 [libAV x, libAV y] (.ret (.v (.bool (libLike x y)))) := by
 obtain ⟨a, b⟩ := x
 obtain ⟨c, d⟩ := y
 have hc := cellsLike_ok b d
 obtain ⟨lk2, hlk2⟩ : ∃ l, l = like2 cellLike b d := ⟨_, rfl⟩
 have e : libLike (a, b) (c, d) = (decide (a.length = c.length) && lk2) := by rw [hlk2]; rfl
 rw [e]
 obtain ⟨A, hA⟩ : ∃ A, A = recsCells a := ⟨_, rfl⟩
 obtain ⟨B, hB⟩ : ∃ A, A = cellsCells b := ⟨_, rfl⟩
 obtain ⟨C, hC⟩ : ∃ A, A = recsCells c := ⟨_, rfl⟩
 obtain ⟨D, hD⟩ : ∃ A, A = cellsCells d := ⟨_, rfl⟩
 simp only [libAV, rowsAV, cellsAV, ← hA, ← hB, ← hC, ← hD, ← hlk2] at hc ⊢
 refine Eval.intro Try.func64 rfl Try.call64 _ _ (Nat.le_of_ble_eq_true rfl) (by simp [natAV, recAV, libAV, rowsAV, cellsAV, itemAV, itemsAV, cellAV, push_cast]) fun hs0 => ?_
 obtain ⟨na, hna⟩ : ∃ n, n = a.length := ⟨_, rfl⟩
 obtain ⟨nb, hnb⟩ : ∃ n, n = b.length := ⟨_, rfl⟩
 obtain ⟨nc, hnc⟩ : ∃ n, n = c.length := ⟨_, rfl⟩
 obtain ⟨nd, hnd⟩ : ∃ n, n = d.length := ⟨_, rfl⟩
 simp only [← hna, ← hnb, ← hnc, ← hnd] at hs0 hc ⊢
 by_cases h1 : na = nc
 ·
  have g1 : ((na : Int) == (nc : Int)) = true := by simp [h1]
  repeat' (first
   | with_reducible first | apply thenW_n | apply W_seq
   | with_reducible refine W_rg ?_
   | (rw [vcn]; (try simp [push_cast, g1]))
   | fail)
  refine CallG_of (hc) rfl rfl rfl ?_
  try dsimp only
  repeat' (first
   | with_reducible first | apply thenW_n | apply W_ret
   | (rw [vcn]; (try simp [push_cast, g1]))
   | fail)
  simp [post, resAV, resAll, resOne, closeV, closeC, closeL, resD, resDL, push_cast, h1]
 ·
  have g1 : ((na : Int) == (nc : Int)) = false := by rw [beq_eq_false_iff_ne]; omega
  repeat' (first
   | with_reducible first | apply thenW_n | apply W_seq | apply W_ret
   | with_reducible refine W_rg ?_
   | (rw [vcn]; (try simp [push_cast, g1]))
   | fail)
  simp [post, resAV, resAll, resOne, closeV, closeC, closeL, resD, resDL, push_cast, h1]
end Go.Fw
-- VALS: recAV, libAV, rowsAV, cellsAV, nilV, noLib
namespace Go.Fw
open Go Go.Proofs Go.IntWalk
set_option linter.unusedSimpArgs false
set_option maxRecDepth 100000
set_option maxHeartbeats 4000000
open List (map_take map_drop)
attribute [local push_cast] optK_some optK_none optK_ite optK_map optK_bind gOn stepK isMem evPure evMem evBin evUn evConv evLen evBuiltin evMinMax evSlice evBuild evAppend evIndex evIndexAddr evField evFieldAddr intBin strBin appDest AS.val AS.mem AS.elems AS.put AS.put' AS.eff AV.cells? AV.isCell AV.refs all_isByte take_byteV drop_byteV strOf_map bndOk bnd partAV ptrAdd killBox catA inOrder fillA setAt ofVal resB upd byteV List.head?_take List.head?_drop List.getElem?_map mkS_env mkS_box mkS_used entry_env entry_box entry_used lk stepD lookIds Oper.looksAt Op.operands Call.operands St.ids refsL renL_append dV_take dV_drop ren renL renBox Box.refs iV i64V boolV dV_getElem dV_app dV_cons toNat_add2 toNat_add1
def validS (t : Lib) : Bool := match parseS (flatS t) with
 | none => false
 | some u => libLike t u
theorem valid_ok (t : Lib) (hb : (flatS t).length ≤ 100000000) (hbody : ∀ r ∈ flatS t, r.2.2.length ≤ 9223372036854775807) : Eval Try.prog 42 [libAV t] (.ret (.v (.bool (validS t)))) := by
 have hf := flat_ok t.1 t.2 hb
 have hp := parse_ok false (flatS t) hb hbody
 have hpr : (parseAV (flatS t)) = match parseS (flatS t) with
  | some t => .tup [libAV t, i64V 0]
  | none => noLib := rfl
 rw [hpr] at hp
 have hv : validS t = match parseS (flatS t) with
  | none => false
  | some u => libLike t u := rfl
 have hlk := libLike_ok t
 obtain ⟨H, cs⟩ := t
 obtain ⟨A, hA⟩ : ∃ A, A = recsCells H := ⟨_, rfl⟩
 obtain ⟨B, hB⟩ : ∃ A, A = cellsCells cs := ⟨_, rfl⟩
 have hAr : refsL A = [] := by rw [hA]; exact recsCells_refs _
 have hBr : refsL B = [] := by rw [hB]; exact cellsCells_refs _
 obtain ⟨F, hF⟩ : ∃ A, A = recsCells (flatS (H, cs)) := ⟨_, rfl⟩
 obtain ⟨n, hn⟩ : ∃ n, n = (flatS (H, cs)).length := ⟨_, rfl⟩
 simp only [libAV, rowsAV, cellsAV, ← hA, ← hB, ← hF, ← hn] at hf hp hlk ⊢
 rw [hv]
 refine Eval.intro Try.func42 rfl Try.call42 _ _ (Nat.le_of_ble_eq_true rfl) (by simp [natAV, recAV, libAV, rowsAV, cellsAV, nilV, noLib, push_cast]) fun hs0 => ?_
 cases hps : parseS (flatS (H, cs)) with
 | none =>
  rw [hps] at hp
  simp only [noLib, nilV] at hp
  repeat' (first
   | with_reducible first | apply thenW_n | apply W_seq
   | with_reducible refine W_rg ?_
   | (rw [vcn]; (try simp [push_cast]))
   | fail)
  refine CallG_of (hf) rfl rfl rfl ?_
  try dsimp only
  repeat' (first
   | (rw [vcn]; (try simp [push_cast]))
   | fail)
  refine CallG_of (hp) rfl rfl rfl ?_
  try dsimp only
  repeat' (first
   | with_reducible first | apply thenW_n | apply W_seq | apply W_ret
   | with_reducible refine W_rg ?_
   | (rw [vcn]; (try simp [push_cast]))
   | fail)
  simp [post, resAV, resAll, resOne, closeV, closeC, closeL, resD, resDL, push_cast]
 | some u =>
  rw [hps] at hp
  obtain ⟨H2, cs2⟩ := u
  have hlk := hlk (H2, cs2)
  obtain ⟨b, hbb⟩ : ∃ b, b = libLike (H, cs) (H2, cs2) := ⟨_, rfl⟩
  obtain ⟨A2, hA2⟩ : ∃ A, A = recsCells H2 := ⟨_, rfl⟩
  obtain ⟨B2, hB2⟩ : ∃ A, A = cellsCells cs2 := ⟨_, rfl⟩
  simp only [← hA2, ← hB2, ← hbb] at hp hlk ⊢
  repeat' (first
   | with_reducible first | apply thenW_n | apply W_seq
   | with_reducible refine W_rg ?_
   | (rw [vcn]; (try simp [push_cast]))
   | fail)
  refine CallG_of (hf) rfl rfl rfl ?_
  try dsimp only
  repeat' (first
   | (rw [vcn]; (try simp [push_cast]))
   | fail)
  refine CallG_of (hp) rfl rfl rfl ?_
  try dsimp only
  repeat' (first
   | with_reducible first | apply thenW_n | apply W_seq
   | with_reducible refine W_rg ?_
   | (rw [vcn]; (try simp [push_cast]))
   | fail)
  refine CallG_of (hlk) rfl rfl rfl ?_
  try dsimp only
  repeat' (first
   | with_reducible first | apply thenW_n | apply W_ret
   | (rw [vcn]; (try simp [push_cast]))
   | fail)
  simp [post, resAV, resAll, resOne, closeV, closeC, closeL, resD, resDL, push_cast]
end Go.Fw
-- VALS: recAV, libAV, rowsAV, cellsAV, nilV, noLib
namespace Go.Fw
open Go Go.Proofs Go.IntWalk
set_option linter.unusedSimpArgs false
set_option maxRecDepth 100000
set_option maxHeartbeats 4000000
open List (map_take map_drop)
attribute [local push_cast] optK_some optK_none optK_ite optK_map optK_bind gOn stepK isMem evPure evMem evBin evUn evConv evLen evBuiltin evMinMax evSlice evBuild evAppend evIndex evIndexAddr evField evFieldAddr intBin strBin appDest AS.val AS.mem AS.elems AS.put AS.put' AS.eff AV.cells? AV.isCell AV.refs all_isByte take_byteV drop_byteV strOf_map bndOk bnd partAV ptrAdd killBox catA inOrder fillA setAt ofVal resB upd byteV List.head?_take List.head?_drop List.getElem?_map mkS_env mkS_box mkS_used entry_env entry_box entry_used lk stepD lookIds Oper.looksAt Op.operands Call.operands St.ids refsL renL_append dV_take dV_drop ren renL renBox Box.refs iV i64V boolV dV_getElem dV_app dV_cons toNat_add2 toNat_add1
theorem recs_err : ∀ (n : Nat) (r : List UInt8) (e : Int), r.length ≤ n → recs r = .error e → e ≠ 0 := by
 intro n
 induction n with
 | zero =>
  intro r e h h'
  rw [recs_eq] at h'
  split at h'
  ·
   rename_i hn
   cases h'
   exact nextRec_err hn
  ·
   rename_i k d b m hn
   obtain ⟨h1, h2, _⟩ := nextRec_ok hn
   omega
 | succ n ih =>
  intro r e h h'
  rw [recs_eq] at h'
  split at h'
  ·
   rename_i hn
   cases h'
   exact nextRec_err hn
  ·
   rename_i k d b m hn
   obtain ⟨h1, h2, _⟩ := nextRec_ok hn
   split at h'
   · cases h'
   ·
    cases he : recs (r.drop m) with
    | error e2 =>
     rw [he] at h'
     cases h'
     exact ih (r.drop m) _ (by rw [List.length_drop]; omega) he
    | ok p =>
     rw [he] at h'
     cases h'
theorem split_err {bs : List UInt8} {e : Int} (h : splitSpec bs = .error e) : e ≠ 0 := by
 unfold splitSpec at h
 split at h
 · cases h; decide
 ·
  split at h
  ·
   rename_i he
   cases h
   exact recs_err _ _ _ (Nat.le_refl _) he
  ·
   split at h
   · cases h
   · cases h; decide
theorem split_small {bs : List UInt8} {l : List Rec} {n : Nat} (h : splitSpec bs = .ok (l, n)) : bs.length ≤ 16777216 ∧ l.length ≤ bs.length ∧ ∀ r ∈ l, r.2.2.length ≤ bs.length := by
 unfold splitSpec at h
 split at h
 · cases h
 ·
  split at h
  · cases h
  ·
   rename_i l' q he
   split at h
   ·
    cases h
    have := recs_count _ _ _ _ (Nat.le_refl _) he
    exact ⟨by omega, by omega, recs_body _ _ _ _ (Nat.le_refl _) he⟩
   · cases h
def readS (bs : List UInt8) : Option (Lib × Nat) := match splitSpec bs with
 | .error _ => none
 | .ok (l, n) => (parseS l).map fun t => (t, n)
def readAV (bs : List UInt8) : AV := match readS bs with
 | none => .tup [.agg [nilV, nilV], i64V 0, i64V 20]
 | some (t, n) => .tup [libAV t, i64V n, i64V 0]
theorem read_ok (f : Bool) (bs : List UInt8) (hs : bs.length ≤ 50000000) : Eval Try.prog 35 [.slc f 1 bs.length (bs.map byteV)] (.ret (readAV bs)) := by
 have h19 := eval19 f bs hs
 have herr := fun e => split_err (bs := bs) (e := e)
 have hsm := fun l n => split_small (bs := bs) (l := l) (n := n)
 obtain ⟨out, hout⟩ : ∃ o, o = readAV bs := ⟨_, rfl⟩
 rw [← hout]
 have hout2 := hout
 rw [readAV, readS] at hout2
 clear hout
 rw [splitAV] at h19
 obtain ⟨A, hA⟩ : ∃ A, A = bs.map byteV := ⟨_, rfl⟩
 have hAr : refsL A = [] := by rw [hA]; exact refsL_bytes _
 rw [← hA] at h19 ⊢
 refine Eval.intro Try.func35 rfl Try.call35 _ _ (Nat.le_of_ble_eq_true rfl) (by simp [natAV, recAV, libAV, rowsAV, cellsAV, nilV, noLib, push_cast]) fun hs0 => ?_
 cases hsp : splitSpec bs with
 | error e =>
  rw [hsp] at h19 hout2
  have he := herr e hsp
  simp only at h19 hout2
  rw [hout2]
  have g1 : (e != 0) = true := by rw [bne_iff_ne]; exact he
  have g1' : (e == 0) = false := by rw [beq_eq_false_iff_ne]; exact he
  have g1'' : (e = 0) = False := eq_false he
  repeat' (first
   | with_reducible first | apply thenW_n | apply W_seq
   | with_reducible refine W_rg ?_
   | (rw [vcn]; (try simp [push_cast, g1, g1', g1'']))
   | fail)
  refine CallG_of (h19) rfl rfl rfl ?_
  try dsimp only
  repeat' (first
   | with_reducible first | apply thenW_n | apply thenW_ret | apply W_seq | apply W_ret
   | with_reducible refine W_rg ?_
   | (rw [vcn]; (try simp [push_cast, g1, g1', g1'']))
   | (with_reducible refine W_condW ?_; (try simp [AS.val, upd, resB, mkS_env, mkS_box, lk, entry_env, condW_true, condW_false, g1, g1', g1'']))
   | fail)
  simp [post, resAV, resAll, resOne, closeV, closeC, closeL, resD, resDL, push_cast, nilV]
 | ok p =>
  obtain ⟨l, n⟩ := p
  obtain ⟨hb1, hb2, hb3⟩ := hsm l n hsp
  have hp := parse_ok false l (by omega) (fun r hr => by have := hb3 r hr; omega)
  rw [parseAV] at hp
  rw [hsp] at h19 hout2
  simp only at h19 hout2
  obtain ⟨L, hL⟩ : ∃ A, A = recsCells l := ⟨_, rfl⟩
  rw [← hL] at h19 hp
  cases hps : parseS l with
  | none =>
   rw [hps] at hout2 hp
   simp only [noLib, nilV] at hp
   rw [hout2]
   repeat' (first
    | with_reducible first | apply thenW_n | apply W_seq
    | with_reducible refine W_rg ?_
    | (rw [vcn]; (try simp [push_cast]))
    | fail)
   refine CallG_of (h19) rfl rfl rfl ?_
   try dsimp only
   repeat' (first
    | with_reducible first | apply thenW_n | apply W_seq | apply W_skip
    | with_reducible refine W_rg ?_
    | (rw [vcn]; (try simp [push_cast]))
    | (with_reducible refine W_condW ?_; (try simp [AS.val, upd, resB, mkS_env, mkS_box, lk, entry_env, condW_true, condW_false]))
    | fail)
   refine CallG_of (hp) rfl rfl rfl ?_
   try dsimp only
   repeat' (first
    | with_reducible first | apply thenW_n | apply thenW_ret | apply W_seq | apply W_ret
    | with_reducible refine W_rg ?_
    | (rw [vcn]; (try simp [push_cast]))
    | (with_reducible refine W_condW ?_; (try simp [AS.val, upd, resB, mkS_env, mkS_box, lk, entry_env, condW_true, condW_false]))
    | fail)
   simp [post, resAV, resAll, resOne, closeV, closeC, closeL, resD, resDL, push_cast, nilV]
  | some t =>
   rw [hps] at hout2 hp
   obtain ⟨H, cs⟩ := t
   simp only [libAV] at hp hout2
   rw [hout2]
   obtain ⟨A2, hA2⟩ : ∃ A, A = recsCells H := ⟨_, rfl⟩
   obtain ⟨B2, hB2⟩ : ∃ A, A = cellsCells cs := ⟨_, rfl⟩
   simp only [rowsAV, cellsAV, ← hA2, ← hB2, Option.map_some] at hp ⊢
   repeat' (first
    | with_reducible first | apply thenW_n | apply W_seq
    | with_reducible refine W_rg ?_
    | (rw [vcn]; (try simp [push_cast]))
    | fail)
   refine CallG_of (h19) rfl rfl rfl ?_
   try dsimp only
   repeat' (first
    | with_reducible first | apply thenW_n | apply W_seq | apply W_skip
    | with_reducible refine W_rg ?_
    | (rw [vcn]; (try simp [push_cast]))
    | (with_reducible refine W_condW ?_; (try simp [AS.val, upd, resB, mkS_env, mkS_box, lk, entry_env, condW_true, condW_false]))
    | fail)
   refine CallG_of (hp) rfl rfl rfl ?_
   try dsimp only
   repeat' (first
    | with_reducible first | apply thenW_n | apply W_seq | apply W_skip | apply W_ret
    | with_reducible refine W_rg ?_
    | (rw [vcn]; (try simp [push_cast]))
    | (with_reducible refine W_condW ?_; (try simp [AS.val, upd, resB, mkS_env, mkS_box, lk, entry_env, condW_true, condW_false]))
    | fail)
   simp [post, resAV, resAll, resOne, closeV, closeC, closeL, resD, resDL, push_cast, nilV]
def writeAV (t : Lib) : AV := if validS t = true then (if joinOk (flatS t) = true ∧ 16777216 < (joinB (flatS t)).length then .tup [nilV, i64V 2] else joinAV (flatS t)) else .tup [nilV, i64V 3]
theorem write_ok (t : Lib) (hb : (flatS t).length ≤ 1000000) (hB : joinOk (flatS t) = true → (joinB (flatS t)).length ≤ 100000000) (hbody : ∀ r ∈ flatS t, r.2.2.length ≤ 9223372036854775807) : Eval Try.prog 40 [libAV t] (.ret (writeAV t)) := by
 have hf := flat_ok t.1 t.2 (by omega : (flatS t).length ≤ 100000000)
 have hv := valid_ok t (by omega) hbody
 have hj := join_ok false (flatS t) hB hb
 obtain ⟨out, hout⟩ : ∃ o, o = writeAV t := ⟨_, rfl⟩
 rw [← hout]
 have hout2 := hout
 rw [writeAV] at hout2
 clear hout
 rw [joinAV] at hj hout2
 obtain ⟨B, hB2⟩ : ∃ B, B = joinB (flatS t) := ⟨_, rfl⟩
 obtain ⟨jo, hjo⟩ : ∃ b, b = joinOk (flatS t) := ⟨_, rfl⟩
 obtain ⟨v, hvv⟩ : ∃ b, b = validS t := ⟨_, rfl⟩
 rw [← hjo, ← hB2] at hj hout2 hB
 rw [← hvv] at hv hout2
 obtain ⟨H, cs⟩ := t
 obtain ⟨A, hA⟩ : ∃ A, A = recsCells H := ⟨_, rfl⟩
 obtain ⟨C, hC⟩ : ∃ A, A = cellsCells cs := ⟨_, rfl⟩
 have hAr : refsL A = [] := by rw [hA]; exact recsCells_refs _
 have hCr : refsL C = [] := by rw [hC]; exact cellsCells_refs _
 obtain ⟨F, hF⟩ : ∃ A, A = recsCells (flatS (H, cs)) := ⟨_, rfl⟩
 obtain ⟨n, hn⟩ : ∃ n, n = (flatS (H, cs)).length := ⟨_, rfl⟩
 simp only [libAV, rowsAV, cellsAV, ← hA, ← hC, ← hF, ← hn] at hf hv hj ⊢
 clear hvv hjo hB2
 refine Eval.intro Try.func40 rfl Try.call40 _ _ (Nat.le_of_ble_eq_true rfl) (by simp [natAV, recAV, libAV, rowsAV, cellsAV, nilV, noLib, push_cast]) fun hs0 => ?_
 cases v with
 | false =>
  rw [if_neg (by decide)] at hout2
  rw [hout2]
  repeat' (first
   | with_reducible first | apply thenW_n | apply W_seq
   | with_reducible refine W_rg ?_
   | (rw [vcn]; (try simp [push_cast]))
   | fail)
  refine CallG_of (hv) rfl rfl rfl ?_
  try dsimp only
  repeat' (first
   | with_reducible first | apply thenW_n | apply thenW_ret | apply W_seq | apply W_ret
   | with_reducible refine W_rg ?_
   | (rw [vcn]; (try simp [push_cast]))
   | (with_reducible refine W_condW ?_; (try simp [AS.val, upd, resB, mkS_env, mkS_box, lk, entry_env, condW_true, condW_false]))
   | fail)
  simp [post, resAV, resAll, resOne, closeV, closeC, closeL, resD, resDL, push_cast, nilV]
 | true =>
  rw [if_pos rfl] at hout2
  cases jo with
  | false =>
   rw [if_neg (by simp), if_neg (by decide)] at hout2
   rw [if_neg (by decide)] at hj
   rw [hout2]
   repeat' (first
    | with_reducible first | apply thenW_n | apply W_seq
    | with_reducible refine W_rg ?_
    | (rw [vcn]; (try simp [push_cast]))
    | fail)
   refine CallG_of (hv) rfl rfl rfl ?_
   try dsimp only
   repeat' (first
    | with_reducible first | apply thenW_n | apply W_seq | apply W_skip
    | with_reducible refine W_rg ?_
    | (rw [vcn]; (try simp [push_cast]))
    | (with_reducible refine W_condW ?_; (try simp [AS.val, upd, resB, mkS_env, mkS_box, lk, entry_env, condW_true, condW_false]))
    | fail)
   refine CallG_of (hf) rfl rfl rfl ?_
   try dsimp only
   repeat' (first
    | (rw [vcn]; (try simp [push_cast]))
    | fail)
   refine CallG_of (hj) rfl rfl rfl ?_
   try dsimp only
   repeat' (first
    | with_reducible first | apply thenW_n | apply W_seq | apply W_skip | apply W_ret
    | with_reducible refine W_rg ?_
    | (rw [vcn]; (try simp [push_cast]))
    | (with_reducible refine W_condW ?_; (try simp [AS.val, upd, resB, mkS_env, mkS_box, lk, entry_env, condW_true, condW_false]))
    | fail)
   simp [post, resAV, resAll, resOne, closeV, closeC, closeL, resD, resDL, push_cast, nilV]
  | true =>
   have hB := hB rfl
   rw [if_pos rfl] at hj
   by_cases hbig : 16777216 < B.length
   ·
    rw [if_pos ⟨rfl, hbig⟩] at hout2
    rw [hout2]
    have g1 : ((B.length : Int) > 16777216) = True := eq_true (by omega)
    have g1' : (16777216 < (B.length : Int)) = True := eq_true (by omega)
    have g1'' : (16777216 < B.length) = True := eq_true hbig
    repeat' (first
     | with_reducible first | apply thenW_n | apply W_seq
     | with_reducible refine W_rg ?_
     | (rw [vcn]; (try simp [push_cast]))
     | fail)
    refine CallG_of (hv) rfl rfl rfl ?_
    try dsimp only
    repeat' (first
     | with_reducible first | apply thenW_n | apply W_seq | apply W_skip
     | with_reducible refine W_rg ?_
     | (rw [vcn]; (try simp [push_cast]))
     | (with_reducible refine W_condW ?_; (try simp [AS.val, upd, resB, mkS_env, mkS_box, lk, entry_env, condW_true, condW_false]))
     | fail)
    refine CallG_of (hf) rfl rfl rfl ?_
    try dsimp only
    repeat' (first
     | (rw [vcn]; (try simp [push_cast]))
     | fail)
    refine CallG_of (hj) rfl rfl rfl ?_
    try dsimp only
    repeat' (first
     | with_reducible first | apply thenW_n | apply thenW_ret | apply W_seq | apply W_ret
     | with_reducible refine W_rg ?_
     | (rw [vcn]; (try simp [push_cast, g1, g1', g1'']))
     | (with_reducible refine W_condW ?_; (try simp [AS.val, upd, resB, mkS_env, mkS_box, lk, entry_env, condW_true, condW_false, g1, g1', g1'']))
     | fail)
    simp [post, resAV, resAll, resOne, closeV, closeC, closeL, resD, resDL, push_cast, nilV]
   ·
    rw [if_neg (fun h => hbig h.2), if_pos rfl] at hout2
    rw [hout2]
    have g1 : ((B.length : Int) > 16777216) = False := eq_false (by omega)
    have g1' : (16777216 < (B.length : Int)) = False := eq_false (by omega)
    have g1'' : (16777216 < B.length) = False := eq_false hbig
    repeat' (first
     | with_reducible first | apply thenW_n | apply W_seq
     | with_reducible refine W_rg ?_
     | (rw [vcn]; (try simp [push_cast]))
     | fail)
    refine CallG_of (hv) rfl rfl rfl ?_
    try dsimp only
    repeat' (first
     | with_reducible first | apply thenW_n | apply W_seq | apply W_skip
     | with_reducible refine W_rg ?_
     | (rw [vcn]; (try simp [push_cast]))
     | (with_reducible refine W_condW ?_; (try simp [AS.val, upd, resB, mkS_env, mkS_box, lk, entry_env, condW_true, condW_false]))
     | fail)
    refine CallG_of (hf) rfl rfl rfl ?_
    try dsimp only
    repeat' (first
     | (rw [vcn]; (try simp [push_cast]))
     | fail)
    refine CallG_of (hj) rfl rfl rfl ?_
    try dsimp only
    repeat' (first
     | with_reducible first | apply thenW_n | apply W_seq | apply W_skip | apply W_ret
     | with_reducible refine W_rg ?_
     | (rw [vcn]; (try simp [push_cast, g1, g1', g1'']))
     | (with_reducible refine W_condW ?_; (try simp [AS.val, upd, resB, mkS_env, mkS_box, lk, entry_env, condW_true, condW_false, g1, g1', g1'']))
     | fail)
    simp [post, resAV, resAll, resOne, closeV, closeC, closeL, resD, resDL, push_cast, nilV]
end Go.Fw
