/- gds, the law's own: few. -/
import Derived.Test.YtjgbikhnnkigpaaGp12b
set_option linter.unusedSimpArgs false
set_option linter.unusedVariables false
-- VALS: recAV
namespace Go.Fw
open Go Go.Proofs Go.IntWalk
set_option linter.unusedSimpArgs false
set_option maxRecDepth 100000
set_option maxHeartbeats 4000000
open List (map_take map_drop)
attribute [local push_cast] optK_some optK_none optK_ite optK_map optK_bind gOn stepK isMem evPure evMem evBin evUn evConv evLen evBuiltin evMinMax evSlice evBuild evAppend evIndex evIndexAddr evField evFieldAddr intBin strBin appDest AS.val AS.mem AS.elems AS.put AS.put' AS.eff AV.cells? AV.isCell AV.refs all_isByte take_byteV drop_byteV strOf_map bndOk bnd partAV ptrAdd killBox catA inOrder fillA setAt ofVal resB upd byteV List.head?_take List.head?_drop List.getElem?_map mkS_env mkS_box mkS_used entry_env entry_box entry_used lk stepD lookIds Oper.looksAt Op.operands Call.operands St.ids refsL renL_append dV_take dV_drop ren renL renBox Box.refs iV i64V boolV dV_getElem dV_app dV_cons toNat_add2 toNat_add1
def bsum : List Rec → Nat
 | [] => 0
 | r :: l => min r.2.2.length 100000 + bsum l
theorem bsum_app (a b : List Rec) : bsum (a ++ b) = bsum a + bsum b := by
 induction a with
 | nil => simp [bsum]
 | cons x a ih => simp only [List.cons_append, bsum, ih]; omega
theorem bsum_le (l : List Rec) : bsum l ≤ l.length * 100000 := by
 induction l with
 | nil => exact Nat.le_refl _
 | cons x l ih => simp only [bsum, List.length_cons]; omega
theorem bsum_step (l : List Rec) (i : Nat) (h : i < l.length) : bsum (l.take (i + 1)) = bsum (l.take i) + min l[i].2.2.length 100000 := by
 rw [List.take_succ_eq_append_getElem h, bsum_app]
 rfl
theorem bsum_take (l : List Rec) (i : Nat) : bsum (l.take i) ≤ i * 100000 := by
 have h := bsum_le (l.take i)
 rw [List.length_take] at h
 exact Nat.le_trans h (Nat.mul_le_mul_right _ (Nat.min_le_left _ _))
theorem bsum_end (l : List Rec) (i : Nat) (h : i ≤ 400) (h2 : ¬ (i < l.length ∧ i < 400)) : bsum (l.take i) = bsum (l.take 400) := by
 by_cases h3 : i = 400
 · simp only [h3]
 ·
  have h4 : l.length ≤ i := by omega
  have h5 : l.length ≤ 400 := by omega
  rw [List.take_of_length_le h4, List.take_of_length_le h5]
def itemsG : List Item → Nat × Nat → Nat × Nat
 | [], s => s
 | x :: xs, s => if s.1 < 400 then itemsG xs (s.1 + 1 + min x.1.length 400 + min x.2.length 400, s.2 + bsum (x.1.take 400) + bsum (x.2.take 400)) else s
def cellsG : List Cell → Nat × Nat → Nat × Nat
 | [], s => s
 | c :: cs, s => if s.1 < 400 then cellsG cs (itemsG c.2 (s.1 + 1 + c.1.length, s.2 + bsum (c.1.take 400))) else s
def fewP (t : Lib) : Nat × Nat := cellsG t.2 (t.1.length, bsum (t.1.take 400))
def fewS (t : Lib) : Bool := decide ((fewP t).1 < 400 ∧ (fewP t).2 < 300000)
theorem itemsG_stop (xs : List Item) (s : Nat × Nat) (h : ¬ s.1 < 400) : itemsG xs s = s := by
 cases xs with
 | nil => rfl
 | cons x xs => rw [itemsG, if_neg h]
theorem cellsG_stop (xs : List Cell) (s : Nat × Nat) (h : ¬ s.1 < 400) : cellsG xs s = s := by
 cases xs with
 | nil => rfl
 | cons x xs => rw [cellsG, if_neg h]
theorem itemsG_step (l : List Item) (i : Nat) (hi : i < l.length) (s : Nat × Nat) (h : s.1 < 400) : itemsG (l.drop i) s = itemsG (l.drop (i + 1)) (s.1 + 1 + min l[i].1.length 400 + min l[i].2.length 400, s.2 + bsum (l[i].1.take 400) + bsum (l[i].2.take 400)) := by
 rw [List.drop_eq_getElem_cons hi, itemsG, if_pos h]
theorem cellsG_step (l : List Cell) (i : Nat) (hi : i < l.length) (s : Nat × Nat) (h : s.1 < 400) : cellsG (l.drop i) s = cellsG (l.drop (i + 1)) (itemsG l[i].2 (s.1 + 1 + l[i].1.length, s.2 + bsum (l[i].1.take 400))) := by
 rw [List.drop_eq_getElem_cons hi, cellsG, if_pos h]
def RecsFit (l : List Rec) : Prop := l.length ≤ 140737488355328 ∧ ∀ r ∈ l, r.2.2.length ≤ 140737488355328
def ItemFit (x : Item) : Prop := RecsFit x.1 ∧ RecsFit x.2
def CellFit (c : Cell) : Prop := RecsFit c.1 ∧ c.2.length ≤ 140737488355328 ∧ ∀ x ∈ c.2, ItemFit x
def LibFit (t : Lib) : Prop := RecsFit t.1 ∧ t.2.length ≤ 140737488355328 ∧ ∀ c ∈ t.2, CellFit c
theorem few7_ok (t : Lib) (hfit : LibFit t) : Eval Try.prog 39 [libAV t] (.ret (.v (.bool (fewS t)))) := by
 obtain ⟨H, cs⟩ := t
 obtain ⟨⟨hHl, hHb⟩, hcl0, hcf⟩ := hfit
 simp only at hHl hHb hcl0 hcf
 obtain ⟨out, hout⟩ : ∃ o, o = fewS (H, cs) := ⟨_, rfl⟩
 rw [← hout]
 have hre : ∀ l, refsL (recsCells l) = [] := recsCells_refs
 have hrl : ∀ l, (recsCells l).length = l.length * 3 := recsCells_len
 have hHat := recsCells_at H
 obtain ⟨A, hA⟩ : ∃ A, A = recsCells H := ⟨_, rfl⟩
 obtain ⟨K, hK⟩ : ∃ A, A = cellsCells cs := ⟨_, rfl⟩
 have hAr : refsL A = [] := by rw [hA]; exact recsCells_refs _
 have hKr : refsL K = [] := by rw [hK]; exact cellsCells_refs _
 have hAl := recsCells_len H
 have hKl := cellsCells_len cs
 have hKat := cellsCells_at cs
 obtain ⟨nh, hnh⟩ : ∃ n, n = H.length := ⟨_, rfl⟩
 obtain ⟨nc, hnc⟩ : ∃ n, n = cs.length := ⟨_, rfl⟩
 simp only [libAV, rowsAV, cellsAV, ← hA, ← hK, ← hnh, ← hnc] at hHat hAl hKl hKat hHl hcl0 ⊢
 refine Eval.intro Try.func39 rfl Try.call39 _ _ (Nat.le_of_ble_eq_true rfl) (by simp [natAV, recAV, push_cast]) fun hs0 => ?_
 clear hs0
 refine W_seq ?_
 refine W_joinQ (X := Unit) (fun _ => [(1, .bp 1 0)]) (fun _ => [(1, .mut 58 [.slc false 3 nh A, .slc false 2 nc K])]) (fun _ => True) ?_ fun _ _ => ?_
 ·
  repeat' (first
   | with_reducible refine W_rg ?_
   | (rw [vcn]; (try simp [push_cast]))
   | fail)
  refine joinW_n () id trivial ⟨?_, ?_, ?_, ?_, ?_, ?_⟩
  all_goals first | (simp [push_cast, hAr, hKr]; done)
 refine W_seq ?_
 refine W_joinQ (X := Unit) (fun _ => [(1, .bp 1 0), (3, i64V (nh : Int))]) (fun _ => [(1, .mut 58 [.slc false 3 nh A, .slc false 2 nc K])]) (fun _ => True) ?_ fun _ _ => ?_
 ·
  repeat' (first
   | with_reducible refine W_rg ?_
   | (rw [vcn]; (try simp [push_cast]))
   | fail)
  refine joinW_n () id trivial ⟨?_, ?_, ?_, ?_, ?_, ?_⟩
  all_goals first | (simp [push_cast, hAr, hKr]; done)
 refine W_seq ?_
 refine W_joinQ (X := Unit) (fun _ => [(1, .bp 1 0), (3, i64V (nh : Int)), (4, i64V 0)]) (fun _ => [(1, .mut 58 [.slc false 3 nh A, .slc false 2 nc K])]) (fun _ => True) ?_ fun _ _ => ?_
 ·
  repeat' (first
   | with_reducible refine W_rg ?_
   | (rw [vcn]; (try simp [push_cast]))
   | fail)
  refine joinW_n () id trivial ⟨?_, ?_, ?_, ?_, ?_, ?_⟩
  all_goals first | (simp [push_cast, hAr, hKr]; done)
 refine W_seq ?_
 refine W_joinQ (X := Unit) (fun _ => [(1, .bp 1 0), (3, i64V (nh : Int)), (4, i64V ((bsum (H.take 400) : Nat) : Int))]) (fun _ => [(1, .mut 58 [.slc false 3 nh A, .slc false 2 nc K])]) (fun _ => True) ?_ fun _ _ => ?_
 ·
  refine W_seq ?_
  refine W_joinQ (X := Unit) (fun _ => [(1, .bp 1 0), (3, i64V (nh : Int)), (4, i64V 0), (5, i64V 0)]) (fun _ => [(1, .mut 58 [.slc false 3 nh A, .slc false 2 nc K])]) (fun _ => True) ?_ fun _ _ => ?_
  ·
   repeat' (first
    | with_reducible refine W_rg ?_
    | (rw [vcn]; (try simp [push_cast]))
    | fail)
   refine joinW_n () id trivial ⟨?_, ?_, ?_, ?_, ?_, ?_⟩
   all_goals first | (simp [push_cast, hAr, hKr]; done)
  refine W_block ?_
  refine W_loopW (X := Nat) (fun i => [(1, .bp 1 0), (3, i64V (nh : Int)), (4, i64V ((bsum (H.take i) : Nat) : Int)), (5, i64V (i : Int))]) (fun _ => [(1, .mut 58 [.slc false 3 nh A, .slc false 2 nc K])]) (fun i => 400 - i) (fun i => i ≤ 400) 0 id (by omega) ⟨?_, ?_, ?_, ?_, ?_, ?_⟩ fun i hi => ?_
  all_goals first | (with_reducible refine W_id ?_) | (simp [push_cast, hAr, hKr, bsum]; done)
  have hbi := bsum_take H i
  obtain ⟨bi, hbie⟩ : ∃ b, b = bsum (H.take i) := ⟨_, rfl⟩
  rw [← hbie] at hbi ⊢
  by_cases hc : i < nh ∧ i < 400
  ·
   obtain ⟨h1, h2⟩ := hc
   have g1 : (i < nh) = True := eq_true h1
   have g1' : ((i : Int) < (nh : Int)) = True := eq_true (by omega)
   have g2 : (i < 400) = True := eq_true h2
   have g2' : ((i : Int) < 400) = True := eq_true (by omega)
   obtain ⟨t3, ht3⟩ := hHat i h1
   have hst := bsum_step H i (by omega)
   have hbd := hHb H[i] (List.getElem_mem _)
   obtain ⟨r, hr⟩ : ∃ r, r = H[i]'(by omega) := ⟨_, rfl⟩
   rw [← hr] at ht3 hst hbd
   obtain ⟨rk, rd, rb⟩ := r
   simp only at ht3 hst hbd
   have htl3 := congrArg List.length ht3
   rw [List.length_drop, hAl] at htl3
   simp only [List.length_cons] at htl3
   obtain ⟨lb, hlb⟩ : ∃ n, n = rb.length := ⟨_, rfl⟩
   rw [← hlb] at ht3 hst hbd
   rw [← hbie] at hst
   obtain ⟨bn, hbn⟩ : ∃ b, b = bsum (H.take (i + 1)) := ⟨_, rfl⟩
   rw [← hbn] at hst
   have hmin : (min (lb : Int) 100000) = ((min lb 100000 : Nat) : Int) := by omega
   have hw : IntKind.i64.wrap ((bi : Int) + min (lb : Int) 100000) = (bn : Int) := by rw [i64_in _ (by omega)]; omega
   repeat' (first
    | with_reducible first | apply thenW_n | apply blockW_n | apply W_seq | apply W_block | apply W_skip
    | with_reducible refine W_rg ?_
    | (rw [vcn]; (try simp [push_cast, g1, g1', g2, g2', ht3, hAl, h1, hw]); try simp (disch := omega) only [i64_in, u64_in, shr64i])
    | (with_reducible refine W_condW ?_; (try simp [AS.val, upd, resB, mkS_env, mkS_box, lk, entry_env, condW_true, condW_false, g1, g1', g2, g2', ht3, hAl, h1, hw]))
    | fail)
   refine loopW_n (i + 1) id (by omega) (by omega) ⟨?_, ?_, ?_, ?_, ?_, ?_⟩
   all_goals first | (simp [push_cast, hAr, hKr, hbn]; done) | (simp [push_cast, hAr, hKr, hbn]; omega)
  ·
   have he := bsum_end H i hi (by omega)
   rw [← hbie] at he
   by_cases h1 : i < nh
   ·
    have g1 : (i < nh) = True := eq_true h1
    have g1' : ((i : Int) < (nh : Int)) = True := eq_true (by omega)
    have g2 : (i < 400) = False := eq_false (by omega)
    have g2' : ((i : Int) < 400) = False := eq_false (by omega)
    repeat' (first
     | with_reducible first | apply thenW_n | apply thenW_exit | apply blockW_same | apply loopW_exit | apply W_seq | apply W_exit
     | with_reducible refine W_rg ?_
     | (rw [vcn]; (try simp [push_cast, g1, g1', g2, g2']))
     | (with_reducible refine W_condW ?_; (try simp [AS.val, upd, resB, mkS_env, mkS_box, lk, entry_env, condW_true, condW_false, g1, g1', g2, g2']))
     | fail)
    refine joinW_n () id trivial ⟨?_, ?_, ?_, ?_, ?_, ?_⟩
    all_goals first | (simp [push_cast, hAr, hKr, he]; done)
   ·
    have g1 : (i < nh) = False := eq_false h1
    have g1' : ((i : Int) < (nh : Int)) = False := eq_false (by omega)
    repeat' (first
     | with_reducible first | apply thenW_n | apply thenW_exit | apply blockW_same | apply loopW_exit | apply W_seq | apply W_exit
     | with_reducible refine W_rg ?_
     | (rw [vcn]; (try simp [push_cast, g1, g1']))
     | (with_reducible refine W_condW ?_; (try simp [AS.val, upd, resB, mkS_env, mkS_box, lk, entry_env, condW_true, condW_false, g1, g1']))
     | fail)
    refine joinW_n () id trivial ⟨?_, ?_, ?_, ?_, ?_, ?_⟩
    all_goals first | (simp [push_cast, hAr, hKr, he]; done)
 -- CELLS
 obtain ⟨B0, hB0⟩ : ∃ b, b = bsum (H.take 400) := ⟨_, rfl⟩
 have hB0b : B0 ≤ 40000000 := by have := bsum_take H 400; omega
 rw [← hB0]
 have hfew : fewP (H, cs) = cellsG cs (nh, B0) := by rw [fewP, hnh, hB0]
 clear hHat hHb hB0 hAl hA
 refine W_seq ?_
 refine W_joinQ (X := Nat × Nat) (fun x => [(1, .bp 1 0), (3, i64V (x.1 : Int)), (4, i64V (x.2 : Int))]) (fun _ => [(1, .mut 58 [.slc false 3 nh A, .slc false 2 nc K])]) (fun x => fewP (H, cs) = x) ?_ fun x hx => ?_
 ·
  refine W_seq ?_
  refine W_joinQ (X := Unit) (fun _ => [(1, .bp 1 0), (3, i64V (nh : Int)), (4, i64V (B0 : Int)), (6, i64V 0)]) (fun _ => [(1, .mut 58 [.slc false 3 nh A, .slc false 2 nc K])]) (fun _ => True) ?_ fun _ _ => ?_
  ·
   repeat' (first
    | with_reducible refine W_rg ?_
    | (rw [vcn]; (try simp [push_cast]))
    | fail)
   refine joinW_n () id trivial ⟨?_, ?_, ?_, ?_, ?_, ?_⟩
   all_goals first | (simp [push_cast, hAr, hKr]; done)
  refine W_block ?_
  refine W_loopW (X := Nat × Nat × Nat) (fun x => [(1, .bp 1 0), (3, i64V (x.2.1 : Int)), (4, i64V (x.2.2 : Int)), (6, i64V (x.1 : Int))]) (fun _ => [(1, .mut 58 [.slc false 3 nh A, .slc false 2 nc K])])
   (fun x => nc - x.1) (fun x => x.1 ≤ nc ∧ x.2.1 ≤ 281474976710656 ∧ x.2.2 ≤ 80000000 * (min x.2.1 400 + 1) ∧ fewP (H, cs) = cellsG (cs.drop x.1) x.2) (0, nh, B0) id ⟨Nat.zero_le _, by simp only; omega, by simp only; omega, hfew⟩ ⟨?_, ?_, ?_, ?_, ?_, ?_⟩ fun x hx => ?_
  all_goals first | (with_reducible refine W_id ?_) | (simp [push_cast, hAr, hKr]; done)
  obtain ⟨i, n, b⟩ := x
  obtain ⟨hi, hn, hb, hP⟩ := hx
  simp only at hi hn hb hP
  simp only
  by_cases hi1 : ¬ i < nc
  ·
   have g1 : (i < nc) = False := eq_false hi1
   have g1' : ((i : Int) < (nc : Int)) = False := eq_false (by omega)
   have hd : cs.drop i = [] := List.drop_of_length_le (by omega)
   rw [hd] at hP
   repeat' (first
    | with_reducible first | apply thenW_n | apply thenW_exit | apply blockW_same | apply loopW_exit | apply W_seq | apply W_exit
    | with_reducible refine W_rg ?_
    | (rw [vcn]; (try simp [push_cast, g1, g1']))
    | (with_reducible refine W_condW ?_; (try simp [AS.val, upd, resB, mkS_env, mkS_box, lk, entry_env, condW_true, condW_false, g1, g1']))
    | fail)
   refine joinW_n (n, b) id hP ⟨?_, ?_, ?_, ?_, ?_, ?_⟩
   all_goals first | (simp [push_cast, hAr, hKr]; done)
  have hi1 : i < nc := by omega
  have g1 : (i < nc) = True := eq_true hi1
  have g1' : ((i : Int) < (nc : Int)) = True := eq_true (by omega)
  by_cases hn1 : ¬ n < 400
  ·
   have g2 : (n < 400) = False := eq_false hn1
   have g2' : ((n : Int) < 400) = False := eq_false (by omega)
   rw [cellsG_stop (cs.drop i) (n, b) hn1] at hP
   repeat' (first
    | with_reducible first | apply thenW_n | apply thenW_exit | apply blockW_same | apply loopW_exit | apply W_seq | apply W_exit
    | with_reducible refine W_rg ?_
    | (rw [vcn]; (try simp [push_cast, g1, g1', g2, g2']))
    | (with_reducible refine W_condW ?_; (try simp [AS.val, upd, resB, mkS_env, mkS_box, lk, entry_env, condW_true, condW_false, g1, g1', g2, g2']))
    | fail)
   refine joinW_n (n, b) id hP ⟨?_, ?_, ?_, ?_, ?_, ?_⟩
   all_goals first | (simp [push_cast, hAr, hKr]; done)
  have hn1 : n < 400 := by omega
  have g2 : (n < 400) = True := eq_true hn1
  have g2' : ((n : Int) < 400) = True := eq_true (by omega)
  rw [cellsG_step cs i (by omega) _ hn1] at hP
  obtain ⟨t, ht⟩ := hKat i (by omega)
  have hcfi := hcf cs[i] (List.getElem_mem _)
  obtain ⟨⟨h, its⟩, hit⟩ : ∃ c, c = cs[i]'(by omega) := ⟨_, rfl⟩
  rw [← hit] at ht hcfi hP
  obtain ⟨⟨hhl, hhb⟩, hil, hif⟩ := hcfi
  simp only at ht hhl hhb hil hif hP
  have hhat := recsCells_at h
  have hIat := itemsCells_at its
  have hhl2 := recsCells_len h
  have hIl := itemsCells_len its
  obtain ⟨C, hC⟩ : ∃ A, A = recsCells h := ⟨_, rfl⟩
  obtain ⟨I, hI⟩ : ∃ A, A = itemsCells its := ⟨_, rfl⟩
  have hCr : refsL C = [] := by rw [hC]; exact recsCells_refs _
  have hIr : refsL I = [] := by rw [hI]; exact itemsCells_refs _
  obtain ⟨lh, hlh⟩ : ∃ n, n = h.length := ⟨_, rfl⟩
  obtain ⟨li, hli⟩ : ∃ n, n = its.length := ⟨_, rfl⟩
  simp only [rowsAV, itemsAV, ← hC, ← hI, ← hlh, ← hli] at ht hhat hIat hhl2 hIl hhl hil hP
  have htl := congrArg List.length ht
  rw [List.length_drop, hKl] at htl
  simp only [List.length_cons] at htl
  obtain ⟨n', hn'⟩ : ∃ n', n' = n + 1 := ⟨_, rfl⟩
  obtain ⟨n1, hn1e⟩ : ∃ n', n' = n + 1 + lh := ⟨_, rfl⟩
  have hw1 : IntKind.i64.wrap ((n : Int) + 1) = (n' : Int) := by rw [i64_in _ (by omega)]; omega
  have hw2 : IntKind.i64.wrap ((n' : Int) + (lh : Int)) = (n1 : Int) := by rw [i64_in _ (by omega)]; omega
  rw [← hn1e] at hP
  have hbt := bsum_take h 400
  repeat' (first
   | with_reducible first | apply thenW_n | apply W_seq | apply W_skip
   | with_reducible refine W_rg ?_
   | (rw [vcn]; (try simp [push_cast, g1, g1', g2, g2']))
   | (with_reducible refine W_condW ?_; (try simp [AS.val, upd, resB, mkS_env, mkS_box, lk, entry_env, condW_true, condW_false, g1, g1', g2, g2']))
   | fail)
  refine W_joinQ (X := Nat × Nat) (fun x => [(1, .bp 1 0), (3, i64V (x.1 : Int)), (4, i64V (x.2 : Int)), (6, i64V (i : Int))]) (fun _ => [(1, .mut 58 [.slc false 3 nh A, .slc false 2 nc K])]) (fun x => x.1 ≤ 281474976710656 ∧ x.2 ≤ 80000000 * (min x.1 400 + 1) ∧ fewP (H, cs) = cellsG (cs.drop (i + 1)) x) ?_ fun x hx => ?_
  rotate_left
  ·
   obtain ⟨n2, b2⟩ := x
   obtain ⟨hx1, hx2, hx3⟩ := hx
   simp only at hx1 hx2 hx3
   simp only
   have hwi : IntKind.i64.wrap ((i : Int) + 1) = ((i + 1 : Nat) : Int) := by rw [i64_in _ (by omega)]; omega
   obtain ⟨i', hi'⟩ : ∃ q, q = i + 1 := ⟨_, rfl⟩
   rw [← hi'] at hwi hx3
   repeat' (first
    | with_reducible refine W_rg ?_
    | (rw [vcn]; (try simp [push_cast, hwi]))
    | fail)
   refine loopW_n (i', n2, b2) id (by simp only; omega) ⟨by simp only; omega, hx1, hx2, hx3⟩ ⟨?_, ?_, ?_, ?_, ?_, ?_⟩
   all_goals first | (simp [push_cast, hAr, hKr]; done)
  refine W_block (W_seq ?_)
  refine W_joinQ (X := Unit) (fun _ => [(1, .bp 1 0), (3, i64V (n1 : Int)), (4, i64V (b : Int)), (6, i64V (i : Int))]) (fun _ => [(1, .mut 58 [.slc false 3 nh A, .slc false 2 nc K])]) (fun _ => True) ?_ fun _ _ => ?_
  ·
   repeat' (first
    | with_reducible refine W_rg ?_
    | (rw [vcn]; (try simp [push_cast, ht, hKl, hi1, hw1, hw2]))
    | fail)
   refine joinW_n () id trivial ⟨?_, ?_, ?_, ?_, ?_, ?_⟩
   all_goals first | (simp [push_cast, hAr, hKr]; done)
  refine W_seq ?_
  refine W_joinQ (X := Unit) (fun _ => [(1, .bp 1 0), (3, i64V (n1 : Int)), (6, i64V (i : Int)), (4, i64V ((b + bsum (h.take 400) : Nat) : Int))]) (fun _ => [(1, .mut 58 [.slc false 3 nh A, .slc false 2 nc K])]) (fun _ => True) ?_ fun _ _ => ?_
  ·
   refine W_seq ?_
   refine W_joinQ (X := Unit) (fun _ => [(1, .bp 1 0), (3, i64V (n1 : Int)), (6, i64V (i : Int)), (4, i64V (b : Int)), (7, i64V 0)]) (fun _ => [(1, .mut 58 [.slc false 3 nh A, .slc false 2 nc K])]) (fun _ => True) ?_ fun _ _ => ?_
   ·
    repeat' (first
     | with_reducible refine W_rg ?_
     | (rw [vcn]; (try simp [push_cast, ht, hKl, hi1]))
     | fail)
    refine joinW_n () id trivial ⟨?_, ?_, ?_, ?_, ?_, ?_⟩
    all_goals first | (simp [push_cast, hAr, hKr]; done)
   refine W_block ?_
   refine W_loopW (X := Nat) (fun j => [(1, .bp 1 0), (3, i64V (n1 : Int)), (6, i64V (i : Int)), (4, i64V ((b + bsum (h.take j) : Nat) : Int)), (7, i64V (j : Int))]) (fun _ => [(1, .mut 58 [.slc false 3 nh A, .slc false 2 nc K])]) (fun j => 400 - j) (fun j => j ≤ 400) 0 id (by omega) ⟨?_, ?_, ?_, ?_, ?_, ?_⟩ fun j hj => ?_
   all_goals first | (with_reducible refine W_id ?_) | (simp [push_cast, hAr, hKr, bsum]; done)
   have hbi := bsum_take h j
   obtain ⟨bi, hbie⟩ : ∃ q, q = bsum (h.take j) := ⟨_, rfl⟩
   rw [← hbie] at hbi ⊢
   obtain ⟨bs, hbs⟩ : ∃ q, q = b + bi := ⟨_, rfl⟩
   rw [← hbs]
   by_cases hc : j < lh ∧ j < 400
   ·
    obtain ⟨h1, h2⟩ := hc
    have g1 : (j < lh) = True := eq_true h1
    have g1' : ((j : Int) < (lh : Int)) = True := eq_true (by omega)
    have g2 : (j < 400) = True := eq_true h2
    have g2' : ((j : Int) < 400) = True := eq_true (by omega)
    obtain ⟨t3, ht3⟩ := hhat j (by omega)
    have hst := bsum_step h j (by omega)
    have hbd := hhb h[j] (List.getElem_mem _)
    obtain ⟨r, hr⟩ : ∃ r, r = h[j]'(by omega) := ⟨_, rfl⟩
    rw [← hr] at ht3 hst hbd
    obtain ⟨rk, rd, rb⟩ := r
    simp only at ht3 hst hbd
    have htl3 := congrArg List.length ht3
    rw [List.length_drop, hhl2] at htl3
    simp only [List.length_cons] at htl3
    obtain ⟨lb, hlb⟩ : ∃ n, n = rb.length := ⟨_, rfl⟩
    rw [← hlb] at ht3 hst hbd
    rw [← hbie] at hst
    obtain ⟨bn, hbn⟩ : ∃ q, q = bsum (h.take (j + 1)) := ⟨_, rfl⟩
    rw [← hbn] at hst
    obtain ⟨bz, hbz⟩ : ∃ q, q = b + bn := ⟨_, rfl⟩
    have hw : IntKind.i64.wrap ((bs : Int) + min (lb : Int) 100000) = (bz : Int) := by rw [i64_in _ (by omega)]; omega
    repeat' (first
     | with_reducible first | apply thenW_n | apply blockW_n | apply W_seq | apply W_block | apply W_skip
     | with_reducible refine W_rg ?_
     | (rw [vcn]; (try simp [push_cast, g1, g1', g2, g2', ht3, hhl2, h1, hw, ht, hKl, hi1]); try simp (disch := omega) only [i64_in, u64_in, shr64i])
     | (with_reducible refine W_condW ?_; (try simp [AS.val, upd, resB, mkS_env, mkS_box, lk, entry_env, condW_true, condW_false, g1, g1', g2, g2', ht3, hhl2, h1, hw, ht, hKl, hi1]))
     | fail)
    refine loopW_n (j + 1) id (by omega) (by omega) ⟨?_, ?_, ?_, ?_, ?_, ?_⟩
    all_goals first | (simp [push_cast, hAr, hKr, hbn, hbz]; done) | (simp [push_cast, hAr, hKr, hbn, hbz]; omega)
   ·
    have he := bsum_end h j hj (by omega)
    rw [← hbie] at he
    by_cases h1 : j < lh
    ·
     have g1 : (j < lh) = True := eq_true h1
     have g1' : ((j : Int) < (lh : Int)) = True := eq_true (by omega)
     have g2 : (j < 400) = False := eq_false (by omega)
     have g2' : ((j : Int) < 400) = False := eq_false (by omega)
     repeat' (first
      | with_reducible first | apply thenW_n | apply thenW_exit | apply blockW_same | apply loopW_exit | apply W_seq | apply W_exit
      | with_reducible refine W_rg ?_
      | (rw [vcn]; (try simp [push_cast, g1, g1', g2, g2', ht, hKl, hi1]))
      | (with_reducible refine W_condW ?_; (try simp [AS.val, upd, resB, mkS_env, mkS_box, lk, entry_env, condW_true, condW_false, g1, g1', g2, g2', ht, hKl, hi1]))
      | fail)
     refine joinW_n () id trivial ⟨?_, ?_, ?_, ?_, ?_, ?_⟩
     all_goals first | (simp [push_cast, hAr, hKr, he, hbs]; done)
    ·
     have g1 : (j < lh) = False := eq_false h1
     have g1' : ((j : Int) < (lh : Int)) = False := eq_false (by omega)
     repeat' (first
      | with_reducible first | apply thenW_n | apply thenW_exit | apply blockW_same | apply loopW_exit | apply W_seq | apply W_exit
      | with_reducible refine W_rg ?_
      | (rw [vcn]; (try simp [push_cast, g1, g1', ht, hKl, hi1]))
      | (with_reducible refine W_condW ?_; (try simp [AS.val, upd, resB, mkS_env, mkS_box, lk, entry_env, condW_true, condW_false, g1, g1', ht, hKl, hi1]))
      | fail)
     refine joinW_n () id trivial ⟨?_, ?_, ?_, ?_, ?_, ?_⟩
     all_goals first | (simp [push_cast, hAr, hKr, he, hbs]; done)
  obtain ⟨b1, hb1⟩ : ∃ b', b' = b + bsum (h.take 400) := ⟨_, rfl⟩
  rw [← hb1] at hP ⊢
  refine W_seq ?_
  refine W_joinQ (X := Unit) (fun _ => [(1, .bp 1 0), (3, i64V (n1 : Int)), (4, i64V (b1 : Int)), (6, i64V (i : Int)), (8, i64V 0)]) (fun _ => [(1, .mut 58 [.slc false 3 nh A, .slc false 2 nc K])]) (fun _ => True) ?_ fun _ _ => ?_
  ·
   repeat' (first
    | with_reducible refine W_rg ?_
    | (rw [vcn]; (try simp [push_cast]))
    | fail)
   refine joinW_n () id trivial ⟨?_, ?_, ?_, ?_, ?_, ?_⟩
   all_goals first | (simp [push_cast, hAr, hKr]; done)
  have hIn : n1 ≤ 281474976710656 ∧ b1 ≤ 80000000 * (min n1 400 + 1) := by omega
  refine W_block ?_
  refine W_loopW (X := Nat × Nat × Nat) (fun x => [(1, .bp 1 0), (3, i64V (x.2.1 : Int)), (4, i64V (x.2.2 : Int)), (6, i64V (i : Int)), (8, i64V (x.1 : Int))]) (fun _ => [(1, .mut 58 [.slc false 3 nh A, .slc false 2 nc K])])
   (fun x => li - x.1) (fun x => x.1 ≤ li ∧ x.2.1 ≤ 281474976710656 ∧ x.2.2 ≤ 80000000 * (min x.2.1 400 + 1) ∧ itemsG its (n1, b1) = itemsG (its.drop x.1) x.2) (0, n1, b1) id ⟨Nat.zero_le _, hIn.1, hIn.2, rfl⟩ ⟨?_, ?_, ?_, ?_, ?_, ?_⟩ fun x hx => ?_
  all_goals first | (with_reducible refine W_id ?_) | (simp [push_cast, hAr, hKr]; done)
  clear hIn hw1 hw2 hbt g1 g1' g2 g2' hn1e hn' n' hb1 hn hb hn1
  obtain ⟨k, n, b⟩ := x
  obtain ⟨hk, hn, hb, hQ⟩ := hx
  simp only at hk hn hb hQ
  simp only
  by_cases hk1 : ¬ k < li
  ·
   have g1 : (k < li) = False := eq_false hk1
   have g1' : ((k : Int) < (li : Int)) = False := eq_false (by omega)
   have hd : its.drop k = [] := List.drop_of_length_le (by omega)
   rw [hd] at hQ
   repeat' (first
    | with_reducible first | apply thenW_n | apply thenW_exit | apply blockW_n | apply blockW_same | apply loopW_exit | apply W_seq | apply W_exit
    | with_reducible refine W_rg ?_
    | (rw [vcn]; (try simp [push_cast, g1, g1', ht, hKl, hi1]))
    | (with_reducible refine W_condW ?_; (try simp [AS.val, upd, resB, mkS_env, mkS_box, lk, entry_env, condW_true, condW_false, g1, g1', ht, hKl, hi1]))
    | fail)
   refine joinW_n (n, b) id ⟨hn, hb, by rw [hP, hQ]; rfl⟩ ⟨?_, ?_, ?_, ?_, ?_, ?_⟩
   all_goals first | (simp [push_cast, hAr, hKr]; done)
  have hk1 : k < li := by omega
  have g1 : (k < li) = True := eq_true hk1
  have g1' : ((k : Int) < (li : Int)) = True := eq_true (by omega)
  by_cases hn1 : ¬ n < 400
  ·
   have g2 : (n < 400) = False := eq_false hn1
   have g2' : ((n : Int) < 400) = False := eq_false (by omega)
   rw [itemsG_stop (its.drop k) (n, b) hn1] at hQ
   repeat' (first
    | with_reducible first | apply thenW_n | apply thenW_exit | apply blockW_n | apply blockW_same | apply loopW_exit | apply W_seq | apply W_exit
    | with_reducible refine W_rg ?_
    | (rw [vcn]; (try simp [push_cast, g1, g1', g2, g2', ht, hKl, hi1]))
    | (with_reducible refine W_condW ?_; (try simp [AS.val, upd, resB, mkS_env, mkS_box, lk, entry_env, condW_true, condW_false, g1, g1', g2, g2', ht, hKl, hi1]))
    | fail)
   refine joinW_n (n, b) id ⟨hn, hb, by rw [hP, hQ]⟩ ⟨?_, ?_, ?_, ?_, ?_, ?_⟩
   all_goals first | (simp [push_cast, hAr, hKr]; done)
  have hn1 : n < 400 := by omega
  have g2 : (n < 400) = True := eq_true hn1
  have g2' : ((n : Int) < 400) = True := eq_true (by omega)
  rw [itemsG_step its k (by omega) _ hn1] at hQ
  obtain ⟨t2, ht2⟩ := hIat k (by omega)
  have hifk := hif its[k] (List.getElem_mem _)
  obtain ⟨⟨f, p⟩, hit2⟩ : ∃ c, c = its[k]'(by omega) := ⟨_, rfl⟩
  rw [← hit2] at ht2 hifk hQ
  obtain ⟨⟨hfl, hfb⟩, ⟨hpl, hpb⟩⟩ := hifk
  simp only at ht2 hfl hfb hpl hpb hQ
  have hfat := recsCells_at f
  have hpat := recsCells_at p
  have hfl2 := recsCells_len f
  have hpl2 := recsCells_len p
  obtain ⟨F, hF⟩ : ∃ A, A = recsCells f := ⟨_, rfl⟩
  obtain ⟨G, hG⟩ : ∃ A, A = recsCells p := ⟨_, rfl⟩
  have hFr : refsL F = [] := by rw [hF]; exact recsCells_refs _
  have hGr : refsL G = [] := by rw [hG]; exact recsCells_refs _
  obtain ⟨lf, hlf⟩ : ∃ n, n = f.length := ⟨_, rfl⟩
  obtain ⟨lp, hlp⟩ : ∃ n, n = p.length := ⟨_, rfl⟩
  simp only [rowsAV, ← hF, ← hG, ← hlf, ← hlp] at ht2 hfat hpat hfl2 hpl2 hfl hpl hQ
  have htl2 := congrArg List.length ht2
  rw [List.length_drop, hIl] at htl2
  simp only [List.length_cons] at htl2
  repeat' (first
   | with_reducible first | apply thenW_n | apply W_seq | apply W_skip
   | with_reducible refine W_rg ?_
   | (rw [vcn]; (try simp [push_cast, g1, g1', g2, g2', ht, hKl, hi1]))
   | (with_reducible refine W_condW ?_; (try simp [AS.val, upd, resB, mkS_env, mkS_box, lk, entry_env, condW_true, condW_false, g1, g1', g2, g2', ht, hKl, hi1]))
   | fail)
  refine W_joinQ (X := Nat × Nat) (fun x => [(1, .bp 1 0), (3, i64V (x.1 : Int)), (4, i64V (x.2 : Int)), (6, i64V (i : Int)), (8, i64V (k : Int))]) (fun _ => [(1, .mut 58 [.slc false 3 nh A, .slc false 2 nc K])]) (fun x => x.1 ≤ 281474976710656 ∧ x.2 ≤ 80000000 * (min x.1 400 + 1) ∧ itemsG its (n1, b1) = itemsG (its.drop (k + 1)) x) ?_ fun x hx => ?_
  rotate_left
  ·
   obtain ⟨n2, b2⟩ := x
   obtain ⟨hx1, hx2, hx3⟩ := hx
   simp only at hx1 hx2 hx3
   simp only
   have hwi : IntKind.i64.wrap ((k : Int) + 1) = ((k + 1 : Nat) : Int) := by rw [i64_in _ (by omega)]; omega
   obtain ⟨k', hk'⟩ : ∃ q, q = k + 1 := ⟨_, rfl⟩
   rw [← hk'] at hwi hx3
   repeat' (first
    | with_reducible refine W_rg ?_
    | (rw [vcn]; (try simp [push_cast, hwi]))
    | fail)
   refine loopW_n (k', n2, b2) id (by simp only; omega) ⟨by simp only; omega, hx1, hx2, hx3⟩ ⟨?_, ?_, ?_, ?_, ?_, ?_⟩
   all_goals first | (simp [push_cast, hAr, hKr]; done)
  refine W_block (W_seq ?_)
  refine W_joinQ (X := Unit) (fun _ => [(1, .bp 1 0), (3, i64V (n : Int)), (4, i64V (b : Int)), (6, i64V (i : Int)), (8, i64V (k : Int)), (9, .bp 9 0)]) (fun _ => [(1, .mut 58 [.slc false 3 nh A, .slc false 2 nc K]), (9, .mut 77 [.slc false 3 lf F, .slc false 3 lp G])]) (fun _ => True) ?_ fun _ _ => ?_
  ·
   repeat' (first
    | with_reducible refine W_rg ?_
    | (rw [vcn]; (try simp [push_cast, ht, hKl, hi1, ht2, hIl, hk1]))
    | fail)
   refine joinW_n () id trivial ⟨?_, ?_, ?_, ?_, ?_, ?_⟩
   all_goals first | (simp [push_cast, hAr, hKr, hFr, hGr]; done)
  obtain ⟨n', hn'⟩ : ∃ n', n' = n + 1 := ⟨_, rfl⟩
  obtain ⟨n2, hn2⟩ : ∃ n', n' = n + 1 + min lf 400 := ⟨_, rfl⟩
  obtain ⟨n3, hn3⟩ : ∃ n', n' = n + 1 + min lf 400 + min lp 400 := ⟨_, rfl⟩
  have hw1 : IntKind.i64.wrap ((n : Int) + 1) = (n' : Int) := by rw [i64_in _ (by omega)]; omega
  have hw2 : IntKind.i64.wrap ((n' : Int) + min (lf : Int) 400) = (n2 : Int) := by rw [i64_in _ (by omega)]; omega
  have hw3 : IntKind.i64.wrap ((n2 : Int) + min (lp : Int) 400) = (n3 : Int) := by rw [i64_in _ (by omega)]; omega
  rw [← hn3] at hQ
  refine W_seq ?_
  refine W_joinQ (X := Unit) (fun _ => [(1, .bp 1 0), (3, i64V (n3 : Int)), (4, i64V (b : Int)), (6, i64V (i : Int)), (8, i64V (k : Int)), (9, .bp 9 0)]) (fun _ => [(1, .mut 58 [.slc false 3 nh A, .slc false 2 nc K]), (9, .mut 77 [.slc false 3 lf F, .slc false 3 lp G])]) (fun _ => True) ?_ fun _ _ => ?_
  ·
   repeat' (first
    | with_reducible refine W_rg ?_
    | (rw [vcn]; (try simp [push_cast, hw1, hw2, hw3]); try simp (disch := omega) only [i64_in, u64_in, shr64i])
    | fail)
   refine joinW_n () id trivial ⟨?_, ?_, ?_, ?_, ?_, ?_⟩
   all_goals first | (simp [push_cast, hAr, hKr, hFr, hGr]; done) | (simp [push_cast, hAr, hKr, hFr, hGr]; omega)
  have hbf := bsum_take f 400
  have hbp := bsum_take p 400
  refine W_seq ?_
  refine W_joinQ (X := Unit) (fun _ => [(1, .bp 1 0), (3, i64V (n3 : Int)), (6, i64V (i : Int)), (8, i64V (k : Int)), (9, .bp 9 0), (4, i64V ((b + bsum (f.take 400) : Nat) : Int))]) (fun _ => [(1, .mut 58 [.slc false 3 nh A, .slc false 2 nc K]), (9, .mut 77 [.slc false 3 lf F, .slc false 3 lp G])]) (fun _ => True) ?_ fun _ _ => ?_
  ·
   refine W_seq ?_
   refine W_joinQ (X := Unit) (fun _ => [(1, .bp 1 0), (3, i64V (n3 : Int)), (6, i64V (i : Int)), (8, i64V (k : Int)), (9, .bp 9 0), (4, i64V (b : Int)), (10, i64V 0)]) (fun _ => [(1, .mut 58 [.slc false 3 nh A, .slc false 2 nc K]), (9, .mut 77 [.slc false 3 lf F, .slc false 3 lp G])]) (fun _ => True) ?_ fun _ _ => ?_
   ·
    repeat' (first
     | with_reducible refine W_rg ?_
     | (rw [vcn]; (try simp [push_cast]))
     | fail)
    refine joinW_n () id trivial ⟨?_, ?_, ?_, ?_, ?_, ?_⟩
    all_goals first | (simp [push_cast, hAr, hKr, hFr, hGr]; done)
   refine W_block ?_
   refine W_loopW (X := Nat) (fun j => [(1, .bp 1 0), (3, i64V (n3 : Int)), (6, i64V (i : Int)), (8, i64V (k : Int)), (9, .bp 9 0), (4, i64V ((b + bsum (f.take j) : Nat) : Int)), (10, i64V (j : Int))]) (fun _ => [(1, .mut 58 [.slc false 3 nh A, .slc false 2 nc K]), (9, .mut 77 [.slc false 3 lf F, .slc false 3 lp G])]) (fun j => 400 - j) (fun j => j ≤ 400) 0 id (by omega) ⟨?_, ?_, ?_, ?_, ?_, ?_⟩ fun j hj => ?_
   all_goals first | (with_reducible refine W_id ?_) | (simp [push_cast, hAr, hKr, hFr, hGr, bsum]; done)
   have hbi := bsum_take f j
   obtain ⟨bi, hbie⟩ : ∃ q, q = bsum (f.take j) := ⟨_, rfl⟩
   rw [← hbie] at hbi ⊢
   obtain ⟨bs, hbs⟩ : ∃ q, q = b + bi := ⟨_, rfl⟩
   rw [← hbs]
   by_cases hc : j < lf ∧ j < 400
   ·
    obtain ⟨h1, h2⟩ := hc
    have g1 : (j < lf) = True := eq_true h1
    have g1' : ((j : Int) < (lf : Int)) = True := eq_true (by omega)
    have g2 : (j < 400) = True := eq_true h2
    have g2' : ((j : Int) < 400) = True := eq_true (by omega)
    obtain ⟨t3, ht3⟩ := hfat j (by omega)
    have hst := bsum_step f j (by omega)
    have hbd := hfb f[j] (List.getElem_mem _)
    obtain ⟨r, hr⟩ : ∃ r, r = f[j]'(by omega) := ⟨_, rfl⟩
    rw [← hr] at ht3 hst hbd
    obtain ⟨rk, rd, rb⟩ := r
    simp only at ht3 hst hbd
    have htl3 := congrArg List.length ht3
    rw [List.length_drop, hfl2] at htl3
    simp only [List.length_cons] at htl3
    obtain ⟨lb, hlb⟩ : ∃ n, n = rb.length := ⟨_, rfl⟩
    rw [← hlb] at ht3 hst hbd
    rw [← hbie] at hst
    obtain ⟨bn, hbn⟩ : ∃ q, q = bsum (f.take (j + 1)) := ⟨_, rfl⟩
    rw [← hbn] at hst
    obtain ⟨bz, hbz⟩ : ∃ q, q = b + bn := ⟨_, rfl⟩
    have hw : IntKind.i64.wrap ((bs : Int) + min (lb : Int) 100000) = (bz : Int) := by rw [i64_in _ (by omega)]; omega
    repeat' (first
     | with_reducible first | apply thenW_n | apply blockW_n | apply W_seq | apply W_block | apply W_skip
     | with_reducible refine W_rg ?_
     | (rw [vcn]; (try simp [push_cast, g1, g1', g2, g2', ht3, hfl2, h1, hw]); try simp (disch := omega) only [i64_in, u64_in, shr64i])
     | (with_reducible refine W_condW ?_; (try simp [AS.val, upd, resB, mkS_env, mkS_box, lk, entry_env, condW_true, condW_false, g1, g1', g2, g2', ht3, hfl2, h1, hw]))
     | fail)
    refine loopW_n (j + 1) id (by omega) (by omega) ⟨?_, ?_, ?_, ?_, ?_, ?_⟩
    all_goals first | (simp [push_cast, hAr, hKr, hFr, hGr, hbn, hbz]; done) | (simp [push_cast, hAr, hKr, hFr, hGr, hbn, hbz]; omega)
   ·
    have he := bsum_end f j hj (by omega)
    rw [← hbie] at he
    by_cases h1 : j < lf
    ·
     have g1 : (j < lf) = True := eq_true h1
     have g1' : ((j : Int) < (lf : Int)) = True := eq_true (by omega)
     have g2 : (j < 400) = False := eq_false (by omega)
     have g2' : ((j : Int) < 400) = False := eq_false (by omega)
     repeat' (first
      | with_reducible first | apply thenW_n | apply thenW_exit | apply blockW_same | apply loopW_exit | apply W_seq | apply W_exit
      | with_reducible refine W_rg ?_
      | (rw [vcn]; (try simp [push_cast, g1, g1', g2, g2']))
      | (with_reducible refine W_condW ?_; (try simp [AS.val, upd, resB, mkS_env, mkS_box, lk, entry_env, condW_true, condW_false, g1, g1', g2, g2']))
      | fail)
     refine joinW_n () id trivial ⟨?_, ?_, ?_, ?_, ?_, ?_⟩
     all_goals first | (simp [push_cast, hAr, hKr, hFr, hGr, he, hbs]; done)
    ·
     have g1 : (j < lf) = False := eq_false h1
     have g1' : ((j : Int) < (lf : Int)) = False := eq_false (by omega)
     repeat' (first
      | with_reducible first | apply thenW_n | apply thenW_exit | apply blockW_same | apply loopW_exit | apply W_seq | apply W_exit
      | with_reducible refine W_rg ?_
      | (rw [vcn]; (try simp [push_cast, g1, g1']))
      | (with_reducible refine W_condW ?_; (try simp [AS.val, upd, resB, mkS_env, mkS_box, lk, entry_env, condW_true, condW_false, g1, g1']))
      | fail)
     refine joinW_n () id trivial ⟨?_, ?_, ?_, ?_, ?_, ?_⟩
     all_goals first | (simp [push_cast, hAr, hKr, hFr, hGr, he, hbs]; done)
  obtain ⟨b2, hb2⟩ : ∃ b', b' = b + bsum (f.take 400) := ⟨_, rfl⟩
  rw [← hb2] at hQ ⊢
  obtain ⟨b3, hb3⟩ : ∃ q, q = b2 + bsum (p.take 400) := ⟨_, rfl⟩
  rw [← hb3] at hQ
  refine W_seq ?_
  refine W_joinQ (X := Unit) (fun _ => [(1, .bp 1 0), (3, i64V (n3 : Int)), (6, i64V (i : Int)), (8, i64V (k : Int)), (9, .bp 9 0), (4, i64V (b2 : Int)), (11, i64V 0)]) (fun _ => [(1, .mut 58 [.slc false 3 nh A, .slc false 2 nc K]), (9, .mut 77 [.slc false 3 lf F, .slc false 3 lp G])]) (fun _ => True) ?_ fun _ _ => ?_
  ·
   repeat' (first
    | with_reducible refine W_rg ?_
    | (rw [vcn]; (try simp [push_cast]))
    | fail)
   refine joinW_n () id trivial ⟨?_, ?_, ?_, ?_, ?_, ?_⟩
   all_goals first | (simp [push_cast, hAr, hKr, hFr, hGr]; done)
  refine W_block ?_
  refine W_loopW (X := Nat) (fun j => [(1, .bp 1 0), (3, i64V (n3 : Int)), (6, i64V (i : Int)), (8, i64V (k : Int)), (9, .bp 9 0), (4, i64V ((b2 + bsum (p.take j) : Nat) : Int)), (11, i64V (j : Int))]) (fun _ => [(1, .mut 58 [.slc false 3 nh A, .slc false 2 nc K]), (9, .mut 77 [.slc false 3 lf F, .slc false 3 lp G])]) (fun j => 400 - j) (fun j => j ≤ 400) 0 id (by omega) ⟨?_, ?_, ?_, ?_, ?_, ?_⟩ fun j hj => ?_
  all_goals first | (with_reducible refine W_id ?_) | (simp [push_cast, hAr, hKr, hFr, hGr, bsum]; done)
  have hbi := bsum_take p j
  obtain ⟨bi, hbie⟩ : ∃ q, q = bsum (p.take j) := ⟨_, rfl⟩
  rw [← hbie] at hbi ⊢
  obtain ⟨bs, hbs⟩ : ∃ q, q = b2 + bi := ⟨_, rfl⟩
  rw [← hbs]
  by_cases hc : j < lp ∧ j < 400
  ·
   obtain ⟨h1, h2⟩ := hc
   have g1 : (j < lp) = True := eq_true h1
   have g1' : ((j : Int) < (lp : Int)) = True := eq_true (by omega)
   have g2 : (j < 400) = True := eq_true h2
   have g2' : ((j : Int) < 400) = True := eq_true (by omega)
   obtain ⟨t3, ht3⟩ := hpat j (by omega)
   have hst := bsum_step p j (by omega)
   have hbd := hpb p[j] (List.getElem_mem _)
   obtain ⟨r, hr⟩ : ∃ r, r = p[j]'(by omega) := ⟨_, rfl⟩
   rw [← hr] at ht3 hst hbd
   obtain ⟨rk, rd, rb⟩ := r
   simp only at ht3 hst hbd
   have htl3 := congrArg List.length ht3
   rw [List.length_drop, hpl2] at htl3
   simp only [List.length_cons] at htl3
   obtain ⟨lb, hlb⟩ : ∃ n, n = rb.length := ⟨_, rfl⟩
   rw [← hlb] at ht3 hst hbd
   rw [← hbie] at hst
   obtain ⟨bn, hbn⟩ : ∃ q, q = bsum (p.take (j + 1)) := ⟨_, rfl⟩
   rw [← hbn] at hst
   obtain ⟨bz, hbz⟩ : ∃ q, q = b2 + bn := ⟨_, rfl⟩
   have hw : IntKind.i64.wrap ((bs : Int) + min (lb : Int) 100000) = (bz : Int) := by rw [i64_in _ (by omega)]; omega
   repeat' (first
    | with_reducible first | apply thenW_n | apply blockW_n | apply W_seq | apply W_block | apply W_skip
    | with_reducible refine W_rg ?_
    | (rw [vcn]; (try simp [push_cast, g1, g1', g2, g2', ht3, hpl2, h1, hw]); try simp (disch := omega) only [i64_in, u64_in, shr64i])
    | (with_reducible refine W_condW ?_; (try simp [AS.val, upd, resB, mkS_env, mkS_box, lk, entry_env, condW_true, condW_false, g1, g1', g2, g2', ht3, hpl2, h1, hw]))
    | fail)
   refine loopW_n (j + 1) id (by omega) (by omega) ⟨?_, ?_, ?_, ?_, ?_, ?_⟩
   all_goals first | (simp [push_cast, hAr, hKr, hFr, hGr, hbn, hbz]; done) | (simp [push_cast, hAr, hKr, hFr, hGr, hbn, hbz]; omega)
  ·
   have he := bsum_end p j hj (by omega)
   rw [← hbie] at he
   by_cases h1 : j < lp
   ·
    have g1 : (j < lp) = True := eq_true h1
    have g1' : ((j : Int) < (lp : Int)) = True := eq_true (by omega)
    have g2 : (j < 400) = False := eq_false (by omega)
    have g2' : ((j : Int) < 400) = False := eq_false (by omega)
    repeat' (first
     | with_reducible first | apply thenW_n | apply thenW_exit | apply blockW_n | apply blockW_same | apply loopW_exit | apply W_seq | apply W_exit
     | with_reducible refine W_rg ?_
     | (rw [vcn]; (try simp [push_cast, g1, g1', g2, g2']))
     | (with_reducible refine W_condW ?_; (try simp [AS.val, upd, resB, mkS_env, mkS_box, lk, entry_env, condW_true, condW_false, g1, g1', g2, g2']))
     | fail)
    refine joinW_n (n3, b3) id ⟨by simp only; omega, by simp only; omega, hQ⟩ ⟨?_, ?_, ?_, ?_, ?_, ?_⟩
    all_goals first | (simp [push_cast, hAr, hKr, hFr, hGr, he, hbs, hb3]; done)
   ·
    have g1 : (j < lp) = False := eq_false h1
    have g1' : ((j : Int) < (lp : Int)) = False := eq_false (by omega)
    repeat' (first
     | with_reducible first | apply thenW_n | apply thenW_exit | apply blockW_n | apply blockW_same | apply loopW_exit | apply W_seq | apply W_exit
     | with_reducible refine W_rg ?_
     | (rw [vcn]; (try simp [push_cast, g1, g1']))
     | (with_reducible refine W_condW ?_; (try simp [AS.val, upd, resB, mkS_env, mkS_box, lk, entry_env, condW_true, condW_false, g1, g1']))
     | fail)
    refine joinW_n (n3, b3) id ⟨by simp only; omega, by simp only; omega, hQ⟩ ⟨?_, ?_, ?_, ?_, ?_, ?_⟩
    all_goals first | (simp [push_cast, hAr, hKr, hFr, hGr, he, hbs, hb3]; done)
 obtain ⟨n, b⟩ := x
 have hS : out = decide (n < 400 ∧ b < 300000) := by rw [hout, fewS, hx]
 simp only
 by_cases hn : n < 400
 ·
  have g1 : (n < 400) = True := eq_true hn
  have g1' : ((n : Int) < 400) = True := eq_true (by omega)
  by_cases hb : b < 300000
  ·
   have g2 : (b < 300000) = True := eq_true hb
   have g2' : ((b : Int) < 300000) = True := eq_true (by omega)
   have ho : out = true := by rw [hS]; simp [hn, hb]
   rw [ho]
   repeat' (first
    | with_reducible first | apply thenW_n | apply W_seq | apply W_ret
    | with_reducible refine W_rg ?_
    | (rw [vcn]; (try simp [push_cast, g1, g1', g2, g2']))
    | fail)
   simp [post, resAV, resAll, resOne, closeV, closeC, closeL, resD, resDL, push_cast]
  ·
   have g2 : (b < 300000) = False := eq_false hb
   have g2' : ((b : Int) < 300000) = False := eq_false (by omega)
   have ho : out = false := by rw [hS]; simp [hb]
   rw [ho]
   repeat' (first
    | with_reducible first | apply thenW_n | apply W_seq | apply W_ret
    | with_reducible refine W_rg ?_
    | (rw [vcn]; (try simp [push_cast, g1, g1', g2, g2']))
    | fail)
   simp [post, resAV, resAll, resOne, closeV, closeC, closeL, resD, resDL, push_cast]
 ·
  have g1 : (n < 400) = False := eq_false hn
  have g1' : ((n : Int) < 400) = False := eq_false (by omega)
  have ho : out = false := by rw [hS]; simp [hn]
  rw [ho]
  repeat' (first
   | with_reducible first | apply thenW_n | apply W_seq | apply W_ret
   | with_reducible refine W_rg ?_
   | (rw [vcn]; (try simp [push_cast, g1, g1']))
   | fail)
  simp [post, resAV, resAll, resOne, closeV, closeC, closeL, resD, resDL, push_cast]
end Go.Fw
