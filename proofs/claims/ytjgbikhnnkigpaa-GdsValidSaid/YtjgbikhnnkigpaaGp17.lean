/- gds, the document's side: all, Same. -/
import Derived.Test.YtjgbikhnnkigpaaGp15b
import Derived.Test.YtjgbikhnnkigpaaQ4b
set_option linter.unusedSimpArgs false
set_option linter.unusedVariables false
-- VALS: recAV, libAV, rowsAV, cellsAV
namespace Go.Fw
open Go Go.Proofs Go.IntWalk
set_option linter.unusedSimpArgs false
set_option maxRecDepth 100000
set_option maxHeartbeats 4000000
open List (map_take map_drop)
attribute [local push_cast] optK_some optK_none optK_ite optK_map optK_bind gOn stepK isMem evPure evMem evBin evUn evConv evLen evBuiltin evMinMax evSlice evBuild evAppend evIndex evIndexAddr evField evFieldAddr intBin strBin appDest AS.val AS.mem AS.elems AS.put AS.put' AS.eff AV.cells? AV.isCell AV.refs all_isByte take_byteV drop_byteV strOf_map bndOk bnd partAV ptrAdd killBox catA inOrder fillA setAt ofVal resB upd byteV List.head?_take List.head?_drop List.getElem?_map mkS_env mkS_box mkS_used entry_env entry_box entry_used lk stepD lookIds Oper.looksAt Op.operands Call.operands St.ids refsL renL_append dV_take dV_drop ren renL renBox Box.refs iV i64V boolV dV_getElem dV_app dV_cons toNat_add2 toNat_add1
theorem all_ok (f g : Bool) (l m : List Rec) : Eval Try.prog 62 [.slc f 3 l.length (recsCells l), .slc g 3 m.length (recsCells m)] (.ret (.v (.bool (decide (l = m))))) := by
 refine Eval.intro Try.func62 rfl Try.call62 _ _ (Nat.le_of_ble_eq_true rfl) (by simp [natAV, recAV, libAV, rowsAV, cellsAV, push_cast]) fun hs0 => ?_
 have hn64 : l.length ≤ 9223372036854775807 := hs0.1.1
 have hlen := recsCells_len l
 have hat := recsCells_at l
 have hLr := recsCells_refs l
 have hlen2 := recsCells_len m
 have hat2 := recsCells_at m
 have hMr := recsCells_refs m
 obtain ⟨n, hn⟩ : ∃ n, n = l.length := ⟨_, rfl⟩
 obtain ⟨L, hL⟩ : ∃ L, L = recsCells l := ⟨_, rfl⟩
 obtain ⟨k, hk⟩ : ∃ k, k = m.length := ⟨_, rfl⟩
 obtain ⟨K, hK⟩ : ∃ K, K = recsCells m := ⟨_, rfl⟩
 obtain ⟨res, hres⟩ : ∃ b, b = decide (l = m) := ⟨_, rfl⟩
 rw [← hL] at hlen hat hLr ⊢
 rw [← hK] at hlen2 hat2 hMr ⊢
 rw [← hn] at hlen hn64 ⊢
 rw [← hk] at hlen2 ⊢
 rw [← hres]
 clear hs0 hL hK
 by_cases hnk : ¬ n = k
 ·
  have g1 : ((n : Int) = (k : Int)) = False := eq_false (by omega)
  have g2 : (n = k) = False := eq_false hnk
  have hr : res = false := by
   rw [hres, decide_eq_false_iff_not]
   intro h
   rw [h] at hn
   omega
  repeat' (first
   | with_reducible first | apply thenW_n | apply thenW_ret | apply W_seq | apply W_ret
   | with_reducible refine W_rg ?_
   | (rw [vcn]; (try simp [push_cast, g1, g2]))
   | (with_reducible refine W_condW ?_; (try simp [AS.val, upd, resB, mkS_env, mkS_box, lk, entry_env, condW_true, condW_false, g1, g2]))
   | ((with_reducible refine condW_b (fun hc => ?_) (fun hc => ?_) <;> (try simp [Int.ofNat_inj] at hc) <;> (try contradiction)))
   | fail)
  simp [post, resAV, resAll, resOne, closeV, closeC, closeL, resD, resDL, push_cast, hr]
 have hnk : n = k := by simpa using hnk
 subst hnk
 repeat' (first
  | with_reducible first | apply thenW_n | apply W_seq | apply W_block | apply W_skip
  | with_reducible refine W_rg ?_
  | (rw [vcn]; (try simp [push_cast]))
  | (with_reducible refine W_condW ?_; (try simp [AS.val, upd, resB, mkS_env, mkS_box, lk, entry_env, condW_true, condW_false]))
  | fail)
 refine W_loopW (X := Nat) (fun i => [(0, .slc f 3 n L), (1, .slc g 3 n K), (5, i64V i)]) (fun _ => []) (fun i => n - i)
  (fun i => i ≤ n ∧ l.take i = m.take i) 0 id ⟨Nat.zero_le _, rfl⟩ ⟨?_, ?_, ?_, ?_, ?_, ?_⟩ fun i hx => ?_
 all_goals first | (with_reducible refine W_id ?_) | (simp [push_cast, hLr, hMr]; done)
 obtain ⟨hi, hI⟩ := hx
 by_cases hlt : ¬ i < n
 ·
  have g1 : (i < n) = False := by simp; omega
  have hr : res = true := by
   rw [hres, decide_eq_true_eq]
   rwa [List.take_of_length_le (by omega), List.take_of_length_le (by omega)] at hI
  repeat' (first
   | with_reducible first | apply thenW_n | apply thenW_exit | apply blockW_same | apply loopW_exit | apply W_seq | apply W_ret | apply W_exit
   | with_reducible refine W_rg ?_
   | (rw [vcn]; (try simp [push_cast, g1]))
   | (with_reducible refine W_condW ?_; (try simp [AS.val, upd, resB, mkS_env, mkS_box, lk, entry_env, condW_true, condW_false, g1]))
   | fail)
  simp [post, resAV, resAll, resOne, closeV, closeC, closeL, resD, resDL, push_cast, hr]
 have hlt : i < n := by omega
 have g1 : (i < n) = True := by simp; omega
 obtain ⟨t, ht⟩ := hat i (by omega)
 obtain ⟨t2, ht2⟩ := hat2 i (by omega)
 have e1 : l.take (i + 1) = l.take i ++ [l[i]] := List.take_succ_eq_append_getElem (by omega)
 have e2 : m.take (i + 1) = m.take i ++ [m[i]] := List.take_succ_eq_append_getElem (by omega)
 have hd : ¬ l[i] = m[i] → res = false := by
  intro h
  rw [hres, decide_eq_false_iff_not]
  intro h'
  subst h'
  exact h rfl
 have hsm := sameR_iff l[i] m[i]
 obtain ⟨x, hx⟩ : ∃ x, x = l[i] := ⟨_, rfl⟩
 obtain ⟨y, hy⟩ : ∃ y, y = m[i] := ⟨_, rfl⟩
 rw [← hx] at ht e1
 rw [← hy] at ht2 e2
 rw [← hx, ← hy] at hd hsm
 clear hat hat2 hx hy
 obtain ⟨xk, xd, xb⟩ := x
 obtain ⟨yk, yd, yb⟩ := y
 have hc := same1_ok xk xd yk yd xb yb
 obtain ⟨q, hq⟩ : ∃ q, q = sameR (xk, xd, xb) (yk, yd, yb) := ⟨_, rfl⟩
 rw [← hq] at hc hsm
 simp only at ht ht2
 have htl := congrArg List.length ht
 rw [List.length_drop, hlen] at htl
 simp only [List.length_cons] at htl
 have htl2 := congrArg List.length ht2
 rw [List.length_drop, hlen2] at htl2
 simp only [List.length_cons] at htl2
 repeat' (first
  | with_reducible first | apply thenW_n | apply W_seq | apply W_block | apply W_skip
  | with_reducible refine W_rg ?_
  | (rw [vcn]; (try simp [push_cast, g1, ht, hlen, ht2, hlen2, hlt]))
  | with_reducible refine W_drawn mixed (by decide) (by kernel_rfl) ?_
  | (rw [vcnD]; (try simp [push_cast, g1, ht, hlen, ht2, hlen2, hlt]))
  | (with_reducible refine W_condW ?_; (try simp [AS.val, upd, resB, mkS_env, mkS_box, lk, entry_env, condW_true, condW_false, g1, ht, hlen, ht2, hlen2, hlt]))
  | fail)
 refine callD_of (hc) rfl rfl rfl ?_
 try dsimp only
 by_cases hqq : q = true
 ·
  subst hqq
  repeat' (first
   | with_reducible first | apply thenW_n | apply blockW_n | apply W_skip
   | with_reducible refine W_rg ?_
   | (rw [vcn]; (try simp [push_cast, g1, ht, hlen, ht2, hlen2, hlt]); try simp (disch := omega) only [i64_in, u64_in, shr64i])
   | (rw [vcnD]; (try simp [push_cast, g1, ht, hlen, ht2, hlen2, hlt]); try simp (disch := omega) only [i64_in, u64_in, shr64i])
   | (with_reducible refine W_condW ?_; (try simp [AS.val, upd, resB, mkS_env, mkS_box, lk, entry_env, condW_true, condW_false, g1, ht, hlen, ht2, hlen2, hlt]))
   | refine And.intro (by first | omega | kernel_rfl) ?_
   | fail)
  refine loopW_n (i + 1) id (by omega) ⟨by omega, by rw [e1, e2, hI, hsm.1 rfl]⟩ ⟨?_, ?_, ?_, ?_, ?_, ?_⟩
  all_goals first | (simp [push_cast, hLr, hMr]; done)
 have hqq : q = false := by simpa using hqq
 subst hqq
 have hr := hd (fun h => by simpa using hsm.2 h)
 repeat' (first
  | with_reducible first | apply thenW_n | apply thenW_ret | apply blockW_ret | apply loopW_ret | apply W_seq | apply W_ret
  | with_reducible refine W_rg ?_
  | (rw [vcn]; (try simp [push_cast, g1, ht, hlen, ht2, hlen2, hlt]))
  | (rw [vcnD]; (try simp [push_cast, g1, ht, hlen, ht2, hlen2, hlt]))
  | (with_reducible refine W_condW ?_; (try simp [AS.val, upd, resB, mkS_env, mkS_box, lk, entry_env, condW_true, condW_false, g1, ht, hlen, ht2, hlen2, hlt]))
  | refine And.intro (by first | omega | kernel_rfl) ?_
  | fail)
 simp [post, resAV, resAll, resOne, closeV, closeC, closeL, resD, resDL, push_cast, hr]
theorem smallL_mem : ∀ (l : List AV), smallL l → ∀ a ∈ l, a.small
 | [], _, _, h => by cases h
 | b :: l, hs, a, h => by
  rcases List.mem_cons.1 h with rfl | h
  · exact hs.1
  · exact smallL_mem l hs.2 a h
theorem sameLib_ok (t u : Lib) (res : Bool) (hres : res = true ↔ t = u) : Eval Try.prog 38 [libAV t, libAV u] (.ret (.v (.bool res))) := by
 obtain ⟨H, cs⟩ := t
 obtain ⟨G, ds⟩ := u
 refine Eval.intro Try.func38 rfl Try.call38 _ _ (Nat.le_of_ble_eq_true rfl) (by simp [natAV, recAV, libAV, rowsAV, cellsAV, push_cast]) fun hs0 => ?_
 have hn64 : cs.length ≤ 9223372036854775807 := hs0.1.2.1.1
 have hXs : smallL (cellsCells cs) := hs0.1.2.1.2
 have hc := all_ok false false H G
 have hnh : ¬ H = G → res = false := fun h => by
  rw [← Bool.not_eq_true, hres]
  intro e
  cases e
  exact h rfl
 have hnc : ¬ cs = ds → res = false := fun h => by
  rw [← Bool.not_eq_true, hres]
  intro e
  cases e
  exact h rfl
 have hyes : H = G → cs = ds → res = true := fun h1 h2 => by
  rw [hres, h1, h2]
 have hXl := cellsCells_len cs
 have hXr := cellsCells_refs cs
 have hXa := cellsCells_at cs
 have hYl := cellsCells_len ds
 have hYr := cellsCells_refs ds
 have hYa := cellsCells_at ds
 have hAr := recsCells_refs H
 have hBr := recsCells_refs G
 obtain ⟨A, hA⟩ : ∃ A, A = recsCells H := ⟨_, rfl⟩
 obtain ⟨B, hB⟩ : ∃ A, A = recsCells G := ⟨_, rfl⟩
 obtain ⟨X, hX⟩ : ∃ A, A = cellsCells cs := ⟨_, rfl⟩
 obtain ⟨Y, hY⟩ : ∃ A, A = cellsCells ds := ⟨_, rfl⟩
 obtain ⟨na, hna⟩ : ∃ n, n = H.length := ⟨_, rfl⟩
 obtain ⟨nb, hnb⟩ : ∃ n, n = G.length := ⟨_, rfl⟩
 obtain ⟨n, hn⟩ : ∃ n, n = cs.length := ⟨_, rfl⟩
 obtain ⟨k, hk⟩ : ∃ n, n = ds.length := ⟨_, rfl⟩
 obtain ⟨bh, hbh⟩ : ∃ b, b = decide (H = G) := ⟨_, rfl⟩
 simp only [libAV, rowsAV, cellsAV, ← hA, ← hB, ← hX, ← hY, ← hna, ← hnb, ← hn, ← hk, ← hbh] at hc hXl hXr hYl hYr hAr hBr hn64 hXs ⊢
 clear hs0 hres
 refine W_seq ?_
 refine W_joinQ (X := Unit) (fun _ => [(2, .bp 2 0), (3, .bp 3 0)]) (fun _ => [(2, .mut 58 [.slc false 3 na A, .slc false 2 n X]), (3, .mut 58 [.slc false 3 nb B, .slc false 2 k Y])]) (fun _ => True) ?_ fun _ _ => ?_
 ·
  repeat' (first
   | with_reducible refine W_rg ?_
   | (rw [vcn]; (try simp [push_cast]))
   | fail)
  refine joinW_n () id trivial ⟨?_, ?_, ?_, ?_, ?_, ?_⟩
  all_goals first | (simp [push_cast, hXr, hYr, hAr, hBr]; done)
 by_cases hbf : bh = false
 ·
  have hr : res = false := hnh (by rw [hbf] at hbh; simpa using hbh.symm)
  subst hbf
  rw [hr]
  repeat' (first
   | with_reducible apply W_seq
   | with_reducible refine W_rg ?_
   | (rw [vcn]; (try simp [push_cast]))
   | fail)
  refine CallG_of (hc) rfl rfl rfl ?_
  try dsimp only
  repeat' (first
   | with_reducible first | apply thenW_n | apply thenW_ret | apply W_seq | apply W_ret
   | with_reducible refine W_rg ?_
   | (rw [vcn]; (try simp [push_cast]))
   | (with_reducible refine W_condW ?_; (try simp [AS.val, upd, resB, mkS_env, mkS_box, lk, entry_env, condW_true, condW_false]))
   | fail)
  simp [post, resAV, resAll, resOne, closeV, closeC, closeL, resD, resDL, push_cast]
 have hbt : bh = true := by simpa using hbf
 subst hbt
 have hHG : H = G := by simpa using hbh.symm
 by_cases hnk : ¬ n = k
 ·
  have g1 : ((n : Int) = (k : Int)) = False := eq_false (by omega)
  have g2 : (n = k) = False := eq_false hnk
  have g3 : ((n : Int) != (k : Int)) = true := by rw [bne_iff_ne]; omega
  have hr : res = false := hnc (fun h => hnk (by rw [hn, hk, h]))
  rw [hr]
  repeat' (first
   | with_reducible apply W_seq
   | with_reducible refine W_rg ?_
   | (rw [vcn]; (try simp [push_cast]))
   | fail)
  refine CallG_of (hc) rfl rfl rfl ?_
  try dsimp only
  repeat' (first
   | with_reducible first | apply thenW_n | apply thenW_ret | apply W_seq | apply W_ret
   | with_reducible refine W_rg ?_
   | (rw [vcn]; (try simp [push_cast, g1, g2, g3]))
   | (with_reducible refine W_condW ?_; (try simp [AS.val, upd, resB, mkS_env, mkS_box, lk, entry_env, condW_true, condW_false, g1, g2, g3]))
   | fail)
  simp [post, resAV, resAll, resOne, closeV, closeC, closeL, resD, resDL, push_cast]
 have hnk : n = k := by simpa using hnk
 subst hnk
 have g0 : ((n : Int) != (n : Int)) = false := by simp
 repeat' (first
  | with_reducible apply W_seq
  | with_reducible refine W_rg ?_
  | (rw [vcn]; (try simp [push_cast]))
  | fail)
 refine CallG_of (hc) rfl rfl rfl ?_
 try dsimp only
 repeat' (first
  | with_reducible first | apply thenW_n | apply W_seq | apply W_skip
  | with_reducible refine W_rg ?_
  | (rw [vcn]; (try simp [push_cast, g0]))
  | (with_reducible refine W_condW ?_; (try simp [AS.val, upd, resB, mkS_env, mkS_box, lk, entry_env, condW_true, condW_false, g0]))
  | fail)
 refine W_block ?_
 refine W_loopW (X := Nat) (fun i => [(2, .bp 2 0), (3, .bp 3 0), (5, i64V (i : Int))]) (fun _ => [(2, .mut 58 [.slc false 3 na A, .slc false 2 n X]), (3, .mut 58 [.slc false 3 nb B, .slc false 2 n Y])]) (fun i => n - i)
  (fun i => i ≤ n ∧ cs.take i = ds.take i) 0 id ⟨Nat.zero_le _, rfl⟩ ⟨?_, ?_, ?_, ?_, ?_, ?_⟩ fun i hx => ?_
 all_goals first | (with_reducible refine W_id ?_) | (simp [push_cast, hXr, hYr, hAr, hBr]; done)
 obtain ⟨hi, hI⟩ := hx
 by_cases hlt : ¬ i < n
 ·
  have g1 : (i < n) = False := eq_false hlt
  have g1' : ((i : Int) < (n : Int)) = False := eq_false (by omega)
  have hr : res = true := hyes hHG (by rwa [List.take_of_length_le (by omega), List.take_of_length_le (by omega)] at hI)
  rw [hr]
  repeat' (first
   | with_reducible first | apply thenW_n | apply thenW_exit | apply blockW_same | apply loopW_exit | apply W_seq | apply W_ret | apply W_exit
   | with_reducible refine W_rg ?_
   | (rw [vcn]; (try simp [push_cast, g1, g1']))
   | (with_reducible refine W_condW ?_; (try simp [AS.val, upd, resB, mkS_env, mkS_box, lk, entry_env, condW_true, condW_false, g1, g1']))
   | fail)
  simp [post, resAV, resAll, resOne, closeV, closeC, closeL, resD, resDL, push_cast]
 have hlt : i < n := by omega
 have g1 : (i < n) = True := eq_true hlt
 have g1' : ((i : Int) < (n : Int)) = True := eq_true (by omega)
 have hl1 : i < cs.length := by omega
 have hl2 : i < ds.length := by omega
 obtain ⟨t, ht⟩ := hXa i hl1
 obtain ⟨t2, ht2⟩ := hYa i hl2
 have e1 : cs.take (i + 1) = cs.take i ++ [cs[i]] := List.take_succ_eq_append_getElem hl1
 have e2 : ds.take (i + 1) = ds.take i ++ [ds[i]] := List.take_succ_eq_append_getElem hl2
 have hd : ¬ cs[i] = ds[i] → res = false := fun h => hnc (fun e => by
  subst e
  exact h rfl)
 obtain ⟨x, hx⟩ : ∃ x, x = cs[i] := ⟨_, rfl⟩
 obtain ⟨y, hy⟩ : ∃ y, y = ds[i] := ⟨_, rfl⟩
 rw [← hx] at ht e1
 rw [← hy] at ht2 e2
 rw [← hx, ← hy] at hd
 rw [← hX] at ht
 rw [← hY] at ht2
 clear hx hy
 obtain ⟨h, xs⟩ := x
 obtain ⟨g, ys⟩ := y
 have hc1 := all_ok false false h g
 have hVl := itemsCells_len xs
 have hVr := itemsCells_refs xs
 have hVa := itemsCells_at xs
 have hZl := itemsCells_len ys
 have hZr := itemsCells_refs ys
 have hZa := itemsCells_at ys
 have hhr := recsCells_refs h
 have hgr := recsCells_refs g
 obtain ⟨V, hV⟩ : ∃ A, A = itemsCells xs := ⟨_, rfl⟩
 obtain ⟨Z, hZ⟩ : ∃ A, A = itemsCells ys := ⟨_, rfl⟩
 obtain ⟨C, hC⟩ : ∃ A, A = recsCells h := ⟨_, rfl⟩
 obtain ⟨D, hD⟩ : ∃ A, A = recsCells g := ⟨_, rfl⟩
 obtain ⟨nc, hnc2⟩ : ∃ n, n = h.length := ⟨_, rfl⟩
 obtain ⟨nd, hnd⟩ : ∃ n, n = g.length := ⟨_, rfl⟩
 obtain ⟨nx, hnx⟩ : ∃ n, n = xs.length := ⟨_, rfl⟩
 obtain ⟨ny, hny⟩ : ∃ n, n = ys.length := ⟨_, rfl⟩
 obtain ⟨b1, hb1⟩ : ∃ b, b = decide (h = g) := ⟨_, rfl⟩
 have hnx64 : xs.length ≤ 9223372036854775807 := by
  have hm : itemsAV xs ∈ X := List.mem_of_mem_drop (by rw [ht]; simp)
  exact (smallL_mem X hXs _ hm).1
 simp only [rowsAV, itemsAV] at ht ht2
 simp only [← hV, ← hZ, ← hC, ← hD, ← hnc2, ← hnd, ← hnx, ← hny, ← hb1] at ht ht2 hc1 hVl hVr hZl hZr hhr hgr hnx64
 have htl := congrArg List.length ht
 rw [List.length_drop, hXl] at htl
 simp only [List.length_cons] at htl
 have htl2 := congrArg List.length ht2
 rw [List.length_drop, hYl] at htl2
 simp only [List.length_cons] at htl2
 repeat' (first
  | with_reducible first | apply thenW_n | apply W_seq | apply W_skip
  | with_reducible refine W_rg ?_
  | (rw [vcn]; (try simp [push_cast, g1, g1']))
  | (with_reducible refine W_condW ?_; (try simp [AS.val, upd, resB, mkS_env, mkS_box, lk, entry_env, condW_true, condW_false, g1, g1']))
  | fail)
 refine W_block (W_seq ?_)
 refine W_joinQ (X := Unit) (fun _ => [(2, .bp 2 0), (3, .bp 3 0), (5, i64V (i : Int)), (6, .bp 6 0), (7, .bp 7 0)]) (fun _ => [(2, .mut 58 [.slc false 3 na A, .slc false 2 n X]), (3, .mut 58 [.slc false 3 nb B, .slc false 2 n Y]), (6, .mut 72 [.slc false 3 nc C, .slc false 2 nx V]), (7, .mut 72 [.slc false 3 nd D, .slc false 2 ny Z])]) (fun _ => True) ?_ fun _ _ => ?_
 ·
  repeat' (first
   | with_reducible refine W_drawn mixed (by decide) (by kernel_rfl) ?_
   | (rw [vcnD]; (try simp [push_cast, ht, ht2, hXl, hYl, hlt]))
   | refine And.intro (by first | omega | kernel_rfl) ?_
   | fail)
  refine joinW_n () id trivial ⟨?_, ?_, ?_, ?_, ?_, ?_⟩
  all_goals first | (simp [push_cast, hXr, hYr, hAr, hBr, hhr, hgr, hVr, hZr]; done)
 by_cases hbf1 : b1 = false
 ·
  have hr : res = false := hd (fun e => by
   cases e
   rw [hbf1] at hb1
   simp at hb1)
  subst hbf1
  rw [hr]
  repeat' (first
   | with_reducible apply W_seq
   | with_reducible refine W_rg ?_
   | (rw [vcn]; (try simp [push_cast]))
   | fail)
  refine CallG_of (hc1) rfl rfl rfl ?_
  try dsimp only
  repeat' (first
   | with_reducible first | apply thenW_n | apply thenW_ret | apply blockW_ret | apply loopW_ret | apply W_seq | apply W_ret
   | with_reducible refine W_rg ?_
   | (rw [vcn]; (try simp [push_cast]))
   | (with_reducible refine W_condW ?_; (try simp [AS.val, upd, resB, mkS_env, mkS_box, lk, entry_env, condW_true, condW_false]))
   | fail)
  simp [post, resAV, resAll, resOne, closeV, closeC, closeL, resD, resDL, push_cast]
 have hbt1 : b1 = true := by simpa using hbf1
 subst hbt1
 have hhg : h = g := by simpa using hb1.symm
 by_cases hnxy : ¬ nx = ny
 ·
  have g1 : ((nx : Int) = (ny : Int)) = False := eq_false (by omega)
  have g2 : (nx = ny) = False := eq_false hnxy
  have g3 : ((nx : Int) != (ny : Int)) = true := by rw [bne_iff_ne]; omega
  have hr : res = false := hd (fun e => by
   cases e
   omega)
  rw [hr]
  repeat' (first
   | with_reducible apply W_seq
   | with_reducible refine W_rg ?_
   | (rw [vcn]; (try simp [push_cast]))
   | fail)
  refine CallG_of (hc1) rfl rfl rfl ?_
  try dsimp only
  repeat' (first
   | with_reducible first | apply thenW_n | apply thenW_ret | apply blockW_ret | apply loopW_ret | apply W_seq | apply W_ret
   | with_reducible refine W_rg ?_
   | (rw [vcn]; (try simp [push_cast, g1, g2, g3]))
   | (with_reducible refine W_condW ?_; (try simp [AS.val, upd, resB, mkS_env, mkS_box, lk, entry_env, condW_true, condW_false, g1, g2, g3]))
   | fail)
  simp [post, resAV, resAll, resOne, closeV, closeC, closeL, resD, resDL, push_cast]
 have hnxy : nx = ny := by simpa using hnxy
 subst hnxy
 have g0 : ((nx : Int) != (nx : Int)) = false := by simp
 repeat' (first
  | with_reducible apply W_seq
  | with_reducible refine W_rg ?_
  | (rw [vcn]; (try simp [push_cast]))
  | fail)
 refine CallG_of (hc1) rfl rfl rfl ?_
 try dsimp only
 repeat' (first
  | with_reducible first | apply thenW_n | apply W_seq | apply W_skip
  | with_reducible refine W_rg ?_
  | (rw [vcn]; (try simp [push_cast, g0]))
  | (with_reducible refine W_condW ?_; (try simp [AS.val, upd, resB, mkS_env, mkS_box, lk, entry_env, condW_true, condW_false, g0]))
  | fail)
 refine W_block ?_
 refine W_loopW (X := Nat) (fun j => [(2, .bp 2 0), (3, .bp 3 0), (5, i64V (i : Int)), (6, .bp 6 0), (7, .bp 7 0), (8, i64V (j : Int))]) (fun _ => [(2, .mut 58 [.slc false 3 na A, .slc false 2 n X]), (3, .mut 58 [.slc false 3 nb B, .slc false 2 n Y]), (6, .mut 72 [.slc false 3 nc C, .slc false 2 nx V]), (7, .mut 72 [.slc false 3 nd D, .slc false 2 nx Z])]) (fun j => nx - j)
  (fun j => j ≤ nx ∧ xs.take j = ys.take j) 0 id ⟨Nat.zero_le _, rfl⟩ ⟨?_, ?_, ?_, ?_, ?_, ?_⟩ fun j hx => ?_
 all_goals first | (with_reducible refine W_id ?_) | (simp [push_cast, hXr, hYr, hAr, hBr, hhr, hgr, hVr, hZr]; done)
 obtain ⟨hj, hJ⟩ := hx
 by_cases hjl : ¬ j < nx
 ·
  have g2 : (j < nx) = False := eq_false hjl
  have g2' : ((j : Int) < (nx : Int)) = False := eq_false (by omega)
  have hxy : xs = ys := by rwa [List.take_of_length_le (by omega), List.take_of_length_le (by omega)] at hJ
  repeat' (first
   | with_reducible first | apply thenW_n | apply thenW_exit | apply blockW_n | apply blockW_same | apply loopW_exit | apply W_seq | apply W_exit
   | with_reducible refine W_rg ?_
   | (rw [vcn]; (try simp [push_cast, g2, g2']); try simp (disch := omega) only [i64_in, u64_in, shr64i])
   | (with_reducible refine W_condW ?_; (try simp [AS.val, upd, resB, mkS_env, mkS_box, lk, entry_env, condW_true, condW_false, g2, g2']))
   | fail)
  refine loopW_n (i + 1) id (by omega) ⟨by omega, by rw [e1, e2, hI, hhg, hxy]⟩ ⟨?_, ?_, ?_, ?_, ?_, ?_⟩
  all_goals first | (simp [push_cast, hXr, hYr, hAr, hBr]; done)
 have hjl : j < nx := by omega
 have g2 : (j < nx) = True := eq_true hjl
 have g2' : ((j : Int) < (nx : Int)) = True := eq_true (by omega)
 have hjx : j < xs.length := by omega
 have hjy : j < ys.length := by omega
 obtain ⟨t3, ht3⟩ := hVa j hjx
 obtain ⟨t4, ht4⟩ := hZa j hjy
 have e3 : xs.take (j + 1) = xs.take j ++ [xs[j]] := List.take_succ_eq_append_getElem hjx
 have e4 : ys.take (j + 1) = ys.take j ++ [ys[j]] := List.take_succ_eq_append_getElem hjy
 have hd2 : ¬ xs[j] = ys[j] → res = false := fun h => hd (fun e => by
  cases e
  exact h rfl)
 obtain ⟨x, hx⟩ : ∃ x, x = xs[j] := ⟨_, rfl⟩
 obtain ⟨y, hy⟩ : ∃ y, y = ys[j] := ⟨_, rfl⟩
 rw [← hx] at ht3 e3
 rw [← hy] at ht4 e4
 rw [← hx, ← hy] at hd2
 rw [← hV] at ht3
 rw [← hZ] at ht4
 clear hx hy
 obtain ⟨p1, p2⟩ := x
 obtain ⟨q1, q2⟩ := y
 have hc2 := all_ok false false p1 q1
 have hc3 := all_ok false false p2 q2
 have htl3 := congrArg List.length ht3
 rw [List.length_drop, hVl] at htl3
 simp only [List.length_cons] at htl3
 have htl4 := congrArg List.length ht4
 rw [List.length_drop, hZl] at htl4
 simp only [List.length_cons] at htl4
 simp only [rowsAV] at ht3 ht4
 obtain ⟨b2, hb2⟩ : ∃ b, b = decide (p1 = q1) := ⟨_, rfl⟩
 obtain ⟨b3, hb3⟩ : ∃ b, b = decide (p2 = q2) := ⟨_, rfl⟩
 rw [← hb2] at hc2
 rw [← hb3] at hc3
 by_cases hbf2 : b2 = false
 ·
  have hr : res = false := hd2 (fun e => by
   cases e
   rw [hbf2] at hb2
   simp at hb2)
  subst hbf2
  rw [hr]
  repeat' (first
   | with_reducible first | apply thenW_n | apply W_seq | apply W_block | apply W_skip
   | with_reducible refine W_rg ?_
   | (rw [vcn]; (try simp [push_cast, g2, g2', ht3, ht4, hVl, hZl, hjl]))
   | with_reducible refine W_drawn mixed (by decide) (by kernel_rfl) ?_
   | (rw [vcnD]; (try simp [push_cast, g2, g2', ht3, ht4, hVl, hZl, hjl]))
   | (with_reducible refine W_condW ?_; (try simp [AS.val, upd, resB, mkS_env, mkS_box, lk, entry_env, condW_true, condW_false, g2, g2', ht3, ht4, hVl, hZl, hjl]))
   | fail)
  refine callD_of (hc2) rfl rfl rfl ?_
  try dsimp only
  repeat' (first
   | with_reducible first | apply thenW_n | apply thenW_ret | apply blockW_ret | apply loopW_ret | apply W_seq | apply W_ret
   | with_reducible refine W_rg ?_
   | (rw [vcn]; (try simp [push_cast, g2, g2', ht3, ht4, hVl, hZl, hjl]))
   | (rw [vcnD]; (try simp [push_cast, g2, g2', ht3, ht4, hVl, hZl, hjl]))
   | (with_reducible refine W_condW ?_; (try simp [AS.val, upd, resB, mkS_env, mkS_box, lk, entry_env, condW_true, condW_false, g2, g2', ht3, ht4, hVl, hZl, hjl]))
   | refine And.intro (by first | omega | kernel_rfl) ?_
   | fail)
  simp [post, resAV, resAll, resOne, closeV, closeC, closeL, resD, resDL, push_cast]
 have hbt2 : b2 = true := by simpa using hbf2
 subst hbt2
 have hpq : p1 = q1 := by simpa using hb2.symm
 by_cases hbf3 : b3 = false
 ·
  have hr : res = false := hd2 (fun e => by
   cases e
   rw [hbf3] at hb3
   simp at hb3)
  subst hbf3
  rw [hr]
  repeat' (first
   | with_reducible first | apply thenW_n | apply W_seq | apply W_block | apply W_skip
   | with_reducible refine W_rg ?_
   | (rw [vcn]; (try simp [push_cast, g2, g2', ht3, ht4, hVl, hZl, hjl]))
   | with_reducible refine W_drawn mixed (by decide) (by kernel_rfl) ?_
   | (rw [vcnD]; (try simp [push_cast, g2, g2', ht3, ht4, hVl, hZl, hjl]))
   | (with_reducible refine W_condW ?_; (try simp [AS.val, upd, resB, mkS_env, mkS_box, lk, entry_env, condW_true, condW_false, g2, g2', ht3, ht4, hVl, hZl, hjl]))
   | fail)
  refine callD_of (hc2) rfl rfl rfl ?_
  try dsimp only
  repeat' (first
   | (rw [vcnD]; (try simp [push_cast, g2, g2', ht3, ht4, hVl, hZl, hjl]))
   | fail)
  refine callD_of (hc3) rfl rfl rfl ?_
  try dsimp only
  repeat' (first
   | with_reducible first | apply thenW_n | apply thenW_ret | apply blockW_ret | apply loopW_ret | apply W_seq | apply W_ret
   | with_reducible refine W_rg ?_
   | (rw [vcn]; (try simp [push_cast, g2, g2', ht3, ht4, hVl, hZl, hjl]))
   | (rw [vcnD]; (try simp [push_cast, g2, g2', ht3, ht4, hVl, hZl, hjl]))
   | (with_reducible refine W_condW ?_; (try simp [AS.val, upd, resB, mkS_env, mkS_box, lk, entry_env, condW_true, condW_false, g2, g2', ht3, ht4, hVl, hZl, hjl]))
   | refine And.intro (by first | omega | kernel_rfl) ?_
   | fail)
  simp [post, resAV, resAll, resOne, closeV, closeC, closeL, resD, resDL, push_cast]
 have hbt3 : b3 = true := by simpa using hbf3
 subst hbt3
 have hpq2 : p2 = q2 := by simpa using hb3.symm
 repeat' (first
  | with_reducible first | apply thenW_n | apply W_seq | apply W_block | apply W_skip
  | with_reducible refine W_rg ?_
  | (rw [vcn]; (try simp [push_cast, g2, g2', ht3, ht4, hVl, hZl, hjl]))
  | with_reducible refine W_drawn mixed (by decide) (by kernel_rfl) ?_
  | (rw [vcnD]; (try simp [push_cast, g2, g2', ht3, ht4, hVl, hZl, hjl]))
  | (with_reducible refine W_condW ?_; (try simp [AS.val, upd, resB, mkS_env, mkS_box, lk, entry_env, condW_true, condW_false, g2, g2', ht3, ht4, hVl, hZl, hjl]))
  | fail)
 refine callD_of (hc2) rfl rfl rfl ?_
 try dsimp only
 repeat' (first
  | (rw [vcnD]; (try simp [push_cast, g2, g2', ht3, ht4, hVl, hZl, hjl]))
  | fail)
 refine callD_of (hc3) rfl rfl rfl ?_
 try dsimp only
 repeat' (first
  | with_reducible first | apply thenW_n | apply blockW_n | apply W_skip
  | with_reducible refine W_rg ?_
  | (rw [vcn]; (try simp [push_cast, g2, g2', ht3, ht4, hVl, hZl, hjl]); try simp (disch := omega) only [i64_in, u64_in, shr64i])
  | (rw [vcnD]; (try simp [push_cast, g2, g2', ht3, ht4, hVl, hZl, hjl]); try simp (disch := omega) only [i64_in, u64_in, shr64i])
  | (with_reducible refine W_condW ?_; (try simp [AS.val, upd, resB, mkS_env, mkS_box, lk, entry_env, condW_true, condW_false, g2, g2', ht3, ht4, hVl, hZl, hjl]))
  | refine And.intro (by first | omega | kernel_rfl) ?_
  | fail)
 refine loopW_n (j + 1) id (by omega) ⟨by omega, by rw [e3, e4, hJ, hpq, hpq2]⟩ ⟨?_, ?_, ?_, ?_, ?_, ?_⟩
 all_goals first | (simp [push_cast, hXr, hYr, hAr, hBr, hhr, hgr, hVr, hZr]; done)
end Go.Fw
