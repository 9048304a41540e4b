/- The law SnapRows comes to true: the walk. -/
import Derived.Test.YtnilkelofcblhaaG5
set_option linter.unusedSimpArgs false
set_option linter.unusedVariables false
-- VALS: zAV, zC, ratAV, ratC, ptAV, ptC, sgAV, sgC, dAV, dC, d3AV, d3C, ratD, RD.av, DP.av, ptI, dpC, dotAV
namespace Go.Fw
open Go Go.Proofs Go.IntWalk
set_option linter.unusedSimpArgs false
set_option maxRecDepth 100000
set_option maxHeartbeats 20000000

theorem near18A_ok {a : Int × Int × Int} (h : inD a) : Eval Try.prog 6 [(dotD a).av] (.ret (.tup [.agg [i64V (nearA a).1, i64V (nearA a).2], boolV (okA a)])) :=
  near18_ok (dotD a) (dotD_w a) (by have := dotD_sz h; omega)
theorem whole18A_ok {a : Int × Int × Int} (h : inD a) : Eval Try.prog 7 [(dotD a).av] (.ret (boolV (whA a))) :=
  whole18_ok (dotD a) (dotD_w a) (by have := dotD_sz h; omega)

def inRow (r : List (Int × Int × Int)) : Prop := ∀ a ∈ r, inD a
def inRows (R : List (List (Int × Int × Int))) : Prop := ∀ r ∈ R, r.length ≤ 31 ∧ inRow r
theorem inRow_nil : inRow [] := fun a h => by cases h
theorem inRows_nil : inRows [] := fun a h => by cases h
theorem inRow_snoc {r : List (Int × Int × Int)} {a : Int × Int × Int} (h : inRow r) (ha : inD a) : inRow (r ++ [a]) := fun b hb => by
  rcases List.mem_append.1 hb with h1 | h1
  · exact h b h1
  · rw [List.mem_singleton.1 h1]; exact ha
theorem inRows_snoc {R : List (List (Int × Int × Int))} {r : List (Int × Int × Int)} (h : inRows R) (h1 : r.length ≤ 31) (h2 : inRow r) : inRows (R ++ [r]) := fun b hb => by
  rcases List.mem_append.1 hb with h3 | h3
  · exact h b h3
  · rw [List.mem_singleton.1 h3]; exact ⟨h1, h2⟩

open List (map_take map_drop)
attribute [local push_cast] optK_some optK_none optK_ite optK_map optK_bind gOn stepK isMem evPure evMem evBin evUn evConv evLen evBuiltin evMinMax evSlice evBuild evAppend evIndex evIndexAddr evField evFieldAddr intBin strBin appDest AS.val AS.mem AS.elems AS.put AS.put' AS.eff AV.cells? AV.isCell AV.refs all_isByte take_byteV drop_byteV strOf_map bndOk bnd partAV ptrAdd killBox catA inOrder fillA setAt ofVal resB upd byteV List.head?_take List.head?_drop List.getElem?_map mkS_env mkS_box mkS_used entry_env entry_box entry_used lk stepD lookIds Oper.looksAt Op.operands Call.operands St.ids refsL renL_append ren renL renBox Box.refs iV i64V boolV dV_getElem dV_app dV_cons toNat_add2 toNat_add1
attribute [local simp ↓] numC_refs numC_isCell numC_cells numC_resB numC_resD numC_ren numC_closeC numC_isOwn
theorem lawRows_ok (f : Bool) (l : List (List (Int × Int × Int))) (hI : ∀ r ∈ l, ∀ a ∈ r, inD a) : Eval Try.prog 3 [.slc f 1 l.length (l.map rowD)] (.ret (.v (.bool true))) := by
  refine Eval.intro Try.func3 rfl Try.call3 _ _ (Nat.le_of_ble_eq_true rfl) (by simp [-map_take,-map_drop, AV.refs, refsL, natAV, zAV, zC, ratAV, ratC, ptAV, ptC, sgAV, sgC, dAV, dC, d3AV, d3C, ratD, RD.av, DP.av, ptI, dpC, dotAV, push_cast]) fun hs0 => ?_
  obtain ⟨n, hn⟩ : ∃ n, n = l.length := ⟨_, rfl⟩
  obtain ⟨L, hL⟩ : ∃ x, x = l.map rowD := ⟨_, rfl⟩
  have hLr : refsL L = [] := by rw [hL]; exact rowD_refs _
  have hLn : ∀ ρ, renL ρ L = L := fun ρ => renL_id ρ _ hLr
  have hLl : L.length = n := by rw [hL, hn, List.length_map]
  have hat : ∀ i (h : i < l.length), ∃ t, L.drop i = .slc false 3 l[i].length (dotsI l[i]) :: t := by rw [hL]; exact rowD_at l
  rw [← hL]
  simp only [← hn]
  clear hL hs0
  have hA0 : rowsA [] = [] := rfl
  have hB0 : rowsB [] = [] := rfl
  have a0 : rowA [] = [] := rfl
  have b0 : rowB [] = [] := rfl
  have k0 : okR [] = true := rfl
  have w0 : whR [] = true := rfl
  have hAr := rowsA_refs
  have hBr := rowsB_refs
  have hAn : ∀ R ρ, renL ρ (rowsA R) = rowsA R := fun R ρ => renL_id ρ _ (hAr R)
  have hBn : ∀ R ρ, renL ρ (rowsB R) = rowsB R := fun R ρ => renL_id ρ _ (hBr R)
  repeat' (first
    | with_reducible first | apply thenW_n | apply W_seq
    | with_reducible refine W_region (by first | decide | (with_unfolding_all rfl)) ?_
    | (rw [vcn]; (try simp [-map_take,-map_drop, push_cast]))
    | fail)
  refine W_joinQ (X := List (List (Int × Int × Int))) (fun R => [(3, .bs 500 1 0 R.length), (4, .bs 501 1 0 R.length), (5, boolV (okR R)), (6, boolV (whR R))]) (fun R => [(500, .mut 25 (rowsA R)), (501, .mut 26 (rowsB R))]) (fun R => R.length ≤ 31 ∧ inRows R) ?_ fun R hR => ?_
  · refine W_nil 3 500 25 1 (by simp [-map_take,-map_drop, upd, mkS_env, entry_env, lk]) (by simp [-map_take,-map_drop, mkS_used, entry_used]) ?_
    refine W_nil 4 501 26 1 (by simp [-map_take,-map_drop, upd, mkS_env, entry_env, lk]) (by simp [-map_take,-map_drop, mkS_used, entry_used]) ?_
    repeat' (first
      | with_reducible apply W_block
      | fail)
    refine W_loopW (X := Nat × List (List (Int × Int × Int))) (fun x => [(0, .slc f 1 n L), (3, .bs 500 1 0 x.2.length), (4, .bs 501 1 0 x.2.length), (5, boolV (okR x.2)), (6, boolV (whR x.2)), (7, i64V x.1), (8, i64V x.2.length)]) (fun x => [(500, .mut 25 (rowsA x.2)), (501, .mut 26 (rowsB x.2))]) (fun x => 40 - x.1)
      (fun x => x.2.length ≤ x.1 ∧ x.1 ≤ 31 ∧ inRows x.2) (0, []) id ⟨Nat.le_refl _, by omega, inRows_nil⟩ ⟨?_, ?_, ?_, ?_, ?_, ?_⟩ fun x hx => ?_
    all_goals first | (with_reducible refine W_id ?_) | (simp [-map_take,-map_drop, push_cast, dV_take, dV_drop, hLr, hLn, hA0, hB0, k0, w0]; done)
    obtain ⟨m, R⟩ := x
    obtain ⟨hRm, hm, hRR⟩ := hx
    simp only at hRm hm hRR ⊢
    obtain ⟨i, hi⟩ : ∃ i, i = R.length := ⟨_, rfl⟩
    rw [← hi] at hRm ⊢
    by_cases c1 : ¬ i < n
    · have y1 : (i < n) = False := eq_false c1
      have y2 : ((i : Int) < (n : Int)) = False := eq_false (by omega)
      repeat' (first
        | with_reducible first | apply thenW_n | apply thenW_exit | apply blockW_same | apply loopW_exit | apply W_seq | apply W_exit
        | with_reducible refine W_region (by first | decide | (with_unfolding_all rfl)) ?_
        | (rw [vcn]; (try simp [-map_take,-map_drop, push_cast, y1, y2]))
        | (with_reducible refine W_condW ?_; (try simp [-map_take,-map_drop, AS.val, upd, resB, mkS_env, mkS_box, lk, entry_env, condW_true, condW_false, y1, y2]))
        | fail)
      refine joinW_n R id ⟨by omega, hRR⟩ ⟨?_, ?_, ?_, ?_, ?_, ?_⟩
      all_goals first | (simp [-map_take,-map_drop, push_cast, dV_take, dV_drop, hAr, hBr, hAn, hBn, ← hi]; done)
    have c1 : i < n := by omega
    have y1 : (i < n) = True := eq_true c1
    have y2 : ((i : Int) < (n : Int)) = True := eq_true (by omega)
    by_cases c2 : ¬ m < 30
    · have y3 : (m < 30) = False := eq_false c2
      have y4 : ((m : Int) < 30) = False := eq_false (by omega)
      repeat' (first
        | with_reducible first | apply thenW_n | apply thenW_exit | apply blockW_same | apply loopW_exit | apply W_seq | apply W_exit
        | with_reducible refine W_region (by first | decide | (with_unfolding_all rfl)) ?_
        | (rw [vcn]; (try simp [-map_take,-map_drop, push_cast, y1, y2, y3, y4]))
        | (with_reducible refine W_condW ?_; (try simp [-map_take,-map_drop, AS.val, upd, resB, mkS_env, mkS_box, lk, entry_env, condW_true, condW_false, y1, y2, y3, y4]))
        | fail)
      refine joinW_n R id ⟨by omega, hRR⟩ ⟨?_, ?_, ?_, ?_, ?_, ?_⟩
      all_goals first | (simp [-map_take,-map_drop, push_cast, dV_take, dV_drop, hAr, hBr, hAn, hBn, ← hi]; done)
    have c2 : m < 30 := by omega
    have y3 : (m < 30) = True := eq_true c2
    have y4 : ((m : Int) < 30) = True := eq_true (by omega)
    obtain ⟨t1, ht1⟩ := hat i (by omega)
    have hIr := hI _ (List.getElem_mem (show i < l.length by omega))
    obtain ⟨d, hd⟩ : ∃ d, d = l[i]'(by omega) := ⟨_, rfl⟩
    rw [← hd] at ht1 hIr
    obtain ⟨D, hD⟩ : ∃ D, D = dotsI d := ⟨_, rfl⟩
    obtain ⟨q, hq⟩ : ∃ q, q = d.length := ⟨_, rfl⟩
    have hDr : refsL D = [] := by rw [hD]; exact dotsI_refs _
    have hDl : D.length = q * 3 := by rw [hD, hq, dotsI_len]
    have hdat : ∀ k (h : k < d.length), ∃ t, D.drop (k * 3) = i64V d[k].1 :: i64V d[k].2.1 :: i64V d[k].2.2 :: t := by rw [hD]; exact dotsI_at d
    rw [← hD, ← hq] at ht1
    clear hd hD hat
    have hAs := rowsA_snoc R
    have hBs := rowsB_snoc R
    have hks := okR_snoc R
    have hws := whR_snoc R
    have lA := rowsA_len R
    have lB := rowsB_len R
    rw [← hi] at lA lB
    have rA := hAr R
    have rB := hBr R
    have nA := hAn R
    have nB := hBn R
    obtain ⟨RA, hRA⟩ : ∃ x, x = rowsA R := ⟨_, rfl⟩
    obtain ⟨RB, hRB⟩ : ∃ x, x = rowsB R := ⟨_, rfl⟩
    obtain ⟨bo, hbo⟩ : ∃ x, x = okR R := ⟨_, rfl⟩
    obtain ⟨bw, hbw⟩ : ∃ x, x = whR R := ⟨_, rfl⟩
    simp only [← hRA, ← hRB, ← hbo, ← hbw] at hAs hBs hks hws lA lB rA rB nA nB ⊢
    clear hRA hRB hbo hbw
    repeat' (first
      | with_reducible first | apply thenW_n | apply W_seq | apply W_skip
      | with_reducible refine W_region (by first | decide | (with_unfolding_all rfl)) ?_
      | (rw [vcn]; (try simp [-map_take,-map_drop, push_cast, y1, y2, y3, y4]))
      | (with_reducible refine W_condW ?_; (try simp [-map_take,-map_drop, AS.val, upd, resB, mkS_env, mkS_box, lk, entry_env, condW_true, condW_false, y1, y2, y3, y4]))
      | fail)
    refine W_block ?_
    repeat' (first
      | with_reducible first | apply thenW_n | apply W_seq
      | with_reducible refine W_region (by first | decide | (with_unfolding_all rfl)) ?_
      | (rw [vcn]; (try simp [-map_take,-map_drop, push_cast]))
      | fail)
    refine W_joinQ (X := List (Int × Int × Int)) (fun r => [(0, .slc f 1 n L), (3, .bs 500 1 0 i), (4, .bs 501 1 0 i), (5, boolV (bo && r.all okA)), (6, boolV (bw && r.all whA)), (7, i64V ((m + r.length : Nat) : Int)), (8, i64V i), (9, .bs 502 8 0 r.length), (10, .bs 503 2 0 r.length)])
      (fun r => [(500, .mut 25 RA), (501, .mut 26 RB), (502, .mut 51 (rowA r)), (503, .mut 39 (rowB r))]) (fun r => m + r.length ≤ 30 ∧ inRow r) ?_ fun r hr => ?_
    · refine W_nil 9 502 51 8 (by simp [-map_take,-map_drop, upd, mkS_env, entry_env, lk]) (by simp [-map_take,-map_drop, mkS_used, entry_used]) ?_
      refine W_nil 10 503 39 2 (by simp [-map_take,-map_drop, upd, mkS_env, entry_env, lk]) (by simp [-map_take,-map_drop, mkS_used, entry_used]) ?_
      repeat' (first
        | with_reducible apply W_block
        | fail)
      refine W_loopW (X := List (Int × Int × Int)) (fun r => [(0, .slc f 1 n L), (3, .bs 500 1 0 i), (4, .bs 501 1 0 i), (5, boolV (bo && r.all okA)), (6, boolV (bw && r.all whA)), (7, i64V ((m + r.length : Nat) : Int)), (8, i64V i), (9, .bs 502 8 0 r.length), (10, .bs 503 2 0 r.length), (11, i64V r.length)])
        (fun r => [(500, .mut 25 RA), (501, .mut 26 RB), (502, .mut 51 (rowA r)), (503, .mut 39 (rowB r))]) (fun r => 40 - r.length) (fun r => m + r.length ≤ 30 ∧ inRow r) [] id ⟨by simp [-map_take,-map_drop]; omega, inRow_nil⟩ ⟨?_, ?_, ?_, ?_, ?_, ?_⟩ fun r hr => ?_
      all_goals first | (with_reducible refine W_id ?_) | (simp [-map_take,-map_drop, push_cast, dV_take, dV_drop, hLr, hLn, rA, rB, nA, nB, a0, b0]; done)
      obtain ⟨hrl, hra⟩ := hr
      have sA := rowA_snoc r
      have sB := rowB_snoc r
      have so := all_snoc okA r
      have sw := all_snoc whA r
      have l3 := rowA_len r
      have l4 := rowB_len r
      have r3 := rowA_refs r
      have r4 := rowB_refs r
      have n3 : ∀ ρ, renL ρ (rowA r) = rowA r := fun ρ => renL_id ρ _ r3
      have n4 : ∀ ρ, renL ρ (rowB r) = rowB r := fun ρ => renL_id ρ _ r4
      obtain ⟨k, hk⟩ : ∃ k, k = r.length := ⟨_, rfl⟩
      have hrk : ∀ a, (r ++ [a]).length = k + 1 := fun a => by rw [List.length_append, hk]; rfl
      rw [← hk] at l3 l4 hrl ⊢
      by_cases d1 : ¬ k < q
      · have z1 : (k < q) = False := eq_false d1
        have z2 : ((k : Int) < (q : Int)) = False := eq_false (by omega)
        repeat' (first
          | with_reducible first | apply thenW_n | apply thenW_exit | apply blockW_same | apply loopW_exit | apply W_seq | apply W_exit
          | with_reducible refine W_region (by first | decide | (with_unfolding_all rfl)) ?_
          | (rw [vcn]; (try simp [-map_take,-map_drop, push_cast, ht1, hLl, c1, z1, z2]))
          | (with_reducible refine W_condW ?_; (try simp [-map_take,-map_drop, AS.val, upd, resB, mkS_env, mkS_box, lk, entry_env, condW_true, condW_false, ht1, hLl, c1, z1, z2]))
          | fail)
        refine joinW_n r id ⟨by omega, hra⟩ ⟨?_, ?_, ?_, ?_, ?_, ?_⟩
        all_goals first | (simp [-map_take,-map_drop, push_cast, dV_take, dV_drop, hLr, hLn, rA, rB, nA, nB, r3, r4, n3, n4, ← hk]; done)
      have d1 : k < q := by omega
      have z1 : (k < q) = True := eq_true d1
      have z2 : ((k : Int) < (q : Int)) = True := eq_true (by omega)
      by_cases d2 : ¬ m + k < 30
      · have z3 : (m + k < 30) = False := eq_false d2
        have z4 : ((m : Int) + (k : Int) < 30) = False := eq_false (by omega)
        repeat' (first
          | with_reducible first | apply thenW_n | apply thenW_exit | apply blockW_same | apply loopW_exit | apply W_seq | apply W_exit
          | with_reducible refine W_region (by first | decide | (with_unfolding_all rfl)) ?_
          | (rw [vcn]; (try simp [-map_take,-map_drop, push_cast, ht1, hLl, c1, z1, z2, z3, z4]))
          | (with_reducible refine W_condW ?_; (try simp [-map_take,-map_drop, AS.val, upd, resB, mkS_env, mkS_box, lk, entry_env, condW_true, condW_false, ht1, hLl, c1, z1, z2, z3, z4]))
          | fail)
        refine joinW_n r id ⟨by omega, hra⟩ ⟨?_, ?_, ?_, ?_, ?_, ?_⟩
        all_goals first | (simp [-map_take,-map_drop, push_cast, dV_take, dV_drop, hLr, hLn, rA, rB, nA, nB, r3, r4, n3, n4, ← hk]; done)
      have d2 : m + k < 30 := by omega
      have z3 : (m + k < 30) = True := eq_true d2
      have z4 : ((m : Int) + (k : Int) < 30) = True := eq_true (by omega)
      obtain ⟨t2, ht2⟩ := hdat k (by omega)
      have hA := hIr _ (List.getElem_mem (show k < d.length by omega))
      obtain ⟨A, eA⟩ : ∃ A, A = d[k]'(by omega) := ⟨_, rfl⟩
      rw [← eA] at ht2 hA
      have sA := sA A
      have sB := sB A
      have so := so A
      have sw := sw A
      have hrk := hrk A
      have p1 := l11At_ok' A hA
      have p2 := at11_ok' A hA
      have p3 := near18A_ok hA
      have p4 := whole18A_ok hA
      have r5 := rowA_refs (r ++ [A])
      have r6 := rowB_refs (r ++ [A])
      have n5 : ∀ ρ, renL ρ (rowA (r ++ [A])) = rowA (r ++ [A]) := fun ρ => renL_id ρ _ r5
      have n6 : ∀ ρ, renL ρ (rowB (r ++ [A])) = rowB (r ++ [A]) := fun ρ => renL_id ρ _ r6
      have hra' := inRow_snoc hra hA
      have hdp : dotP A = dotF A.1 A.2.1 A.2.2 := rfl
      rw [hdp] at sA
      obtain ⟨XA, hXA⟩ : ∃ x, x = rowA r := ⟨_, rfl⟩
      obtain ⟨XB, hXB⟩ : ∃ x, x = rowB r := ⟨_, rfl⟩
      obtain ⟨YA, hYA⟩ : ∃ x, x = rowA (r ++ [A]) := ⟨_, rfl⟩
      obtain ⟨YB, hYB⟩ : ∃ x, x = rowB (r ++ [A]) := ⟨_, rfl⟩
      obtain ⟨u, hu⟩ : ∃ x, x = (bo && r.all okA) := ⟨_, rfl⟩
      obtain ⟨v, hv⟩ : ∃ x, x = (bw && r.all whA) := ⟨_, rfl⟩
      have so' : (bo && (r ++ [A]).all okA) = (u && okA A) := by rw [so, hu, Bool.and_assoc]
      have sw' : (bw && (r ++ [A]).all whA) = (v && whA A) := by rw [sw, hv, Bool.and_assoc]
      simp only [← hXA, ← hXB, ← hu, ← hv, ← hYA, ← hYB] at sA sB l3 l4 r3 r4 n3 n4 r5 r6 n5 n6 ⊢
      have eYA := hYA.symm
      have eYB := hYB.symm
      have so2 : (bo && (r.all okA && okA A)) = (u && okA A) := by rw [hu, Bool.and_assoc]
      have sw2 : (bw && (r.all whA && whA A)) = (v && whA A) := by rw [hv, Bool.and_assoc]
      obtain ⟨o, ho⟩ : ∃ o, okA A = o := ⟨_, rfl⟩
      obtain ⟨wh, hwh⟩ : ∃ o, whA A = o := ⟨_, rfl⟩
      rw [ho] at p3 so' so2
      rw [hwh] at p4 sw' sw2
      have e9 : (m : Int) + ((k : Int) + 1) = m + k + 1 := by omega
      obtain ⟨NX, nm_⟩ : ∃ nm0_, nm0_ = nearA A := ⟨_, rfl⟩
      simp only [← nm_] at p3 sB
      clear nm_
      obtain ⟨PA, nm_⟩ : ∃ nm0_, nm0_ = dotF A.1 A.2.1 A.2.2 := ⟨_, rfl⟩
      simp only [← nm_] at p1 sA
      clear nm_
      obtain ⟨QA, nm_⟩ : ∃ nm0_, nm0_ = dotD A := ⟨_, rfl⟩
      simp only [← nm_] at p2 p3 p4
      clear nm_
      obtain ⟨C, hC⟩ : ∃ C, C = d3C QA.x QA.y QA.w := ⟨_, rfl⟩
      have hCr : refsL C = [] := by rw [hC]; rfl
      have hCl : C.length = 6 := by rw [hC]; rfl
      have hCt : C.take 6 = C := List.take_of_length_le (by omega)
      have hCn : ∀ ρ, renL ρ C = C := fun ρ => renL_id ρ _ hCr
      have hCA : QA.av = .agg C := by rw [hC]; rfl
      rw [hCA] at p2 p3 p4
      unfold dotAV at p1 p2
      clear hC hCA
      obtain ⟨e0, e1, e2⟩ := A
      obtain ⟨x0, x1⟩ := NX
      simp only at ht2 p1 p2 p3 p4 sB
      have htl := congrArg List.length ht2
      rw [List.length_drop, hDl] at htl
      clear hXA hXB hYA hYB hu hv so sw eA hdat hdp hIr
      repeat' (first
        | with_reducible first | apply thenW_n | apply W_seq | apply W_skip
        | with_reducible refine W_region (by first | decide | (with_unfolding_all rfl)) ?_
        | (rw [vcn]; (try simp [-map_take,-map_drop, push_cast, ht1, hLl, c1, z1, z2, z3, z4]))
        | (with_reducible refine W_condW ?_; (try simp [-map_take,-map_drop, AS.val, upd, resB, mkS_env, mkS_box, lk, entry_env, condW_true, condW_false, ht1, hLl, c1, z1, z2, z3, z4]))
        | fail)
      refine W_block ?_
      refine W_seq ?_
      refine W_joinQ (X := Unit) (fun _ => [(0, .slc f 1 n L), (3, .bs 500 1 0 i), (4, .bs 501 1 0 i), (5, boolV u), (6, boolV v), (7, i64V ((m + k : Nat) : Int)), (8, i64V i), (9, .bs 502 8 0 k), (10, .bs 503 2 0 k), (11, i64V k), (12, .bp 12 0)])
        (fun _ => [(500, .mut 25 RA), (501, .mut 26 RB), (502, .mut 51 XA), (503, .mut 39 XB), (12, .mut 34 C)]) (fun _ => True) ?_ fun _ _ => ?_
      · repeat' (first
          | with_reducible refine W_region (by first | decide | (with_unfolding_all rfl)) ?_
          | (rw [vcn]; (try simp [-map_take,-map_drop, push_cast, ht1, hLl, c1, ht2, hDl, d1]))
          | fail)
        refine CallG_of (p2) rfl rfl rfl ?_
        try dsimp only
        repeat' (first
          | (rw [vcn]; (try simp [-map_take,-map_drop, push_cast, hCl, hCr]))
          | fail)
        refine joinW_n () id trivial ⟨?_, ?_, ?_, ?_, ?_, ?_⟩
        all_goals first | (simp [-map_take,-map_drop, push_cast, dV_take, dV_drop, hLr, hLn, rA, rB, nA, nB, r3, r4, n3, n4, hCr, hCn]; done)
      refine W_seq ?_
      refine W_joinQ (X := Unit) (fun _ => [(0, .slc f 1 n L), (3, .bs 500 1 0 i), (4, .bs 501 1 0 i), (5, boolV u), (6, boolV v), (7, i64V ((m + k : Nat) : Int)), (8, i64V i), (9, .bs 502 8 0 k), (10, .bs 503 2 0 k), (11, i64V k), (12, .bp 12 0), (13, .bp 13 0), (14, boolV o)])
        (fun _ => [(500, .mut 25 RA), (501, .mut 26 RB), (502, .mut 51 XA), (503, .mut 39 XB), (12, .mut 34 C), (13, .mut 39 [i64V x0, i64V x1])]) (fun _ => True) ?_ fun _ _ => ?_
      · repeat' (first
          | with_reducible refine W_region (by first | decide | (with_unfolding_all rfl)) ?_
          | (rw [vcn]; (try simp [-map_take,-map_drop, push_cast, hCl, hCt, hCr]))
          | fail)
        refine CallG_of p3 (by first | rfl | simp [-map_take,-map_drop, hCr]) (by simp [-map_take,-map_drop, AV.refs, refsL, hCr]) rfl ?_
        try dsimp only
        repeat' (first
          | (rw [vcn]; (try simp [-map_take,-map_drop, push_cast]))
          | fail)
        refine joinW_n () id trivial ⟨?_, ?_, ?_, ?_, ?_, ?_⟩
        all_goals first | (simp [-map_take,-map_drop, push_cast, dV_take, dV_drop, hLr, hLn, rA, rB, nA, nB, r3, r4, n3, n4, hCr, hCn]; done)
      refine W_seq ?_
      refine W_joinQ (X := Unit) (fun _ => [(0, .slc f 1 n L), (3, .bs 500 1 0 i), (4, .bs 501 1 0 i), (5, boolV (u && o)), (6, boolV v), (7, i64V ((m + k : Nat) : Int)), (8, i64V i), (9, .bs 502 8 0 k), (10, .bs 503 2 0 k), (11, i64V k), (12, .bp 12 0), (13, .bp 13 0)])
        (fun _ => [(500, .mut 25 RA), (501, .mut 26 RB), (502, .mut 51 XA), (503, .mut 39 XB), (12, .mut 34 C), (13, .mut 39 [i64V x0, i64V x1])]) (fun _ => True) ?_ fun _ _ => ?_
      · cases u with
        | true =>
          repeat' (first
            | with_reducible refine W_region (by first | decide | (with_unfolding_all rfl)) ?_
            | (rw [vcn]; (try simp [-map_take,-map_drop, push_cast]))
            | fail)
          refine joinW_n () id trivial ⟨?_, ?_, ?_, ?_, ?_, ?_⟩
          all_goals first | (simp [-map_take,-map_drop, push_cast, dV_take, dV_drop, hLr, hLn, rA, rB, nA, nB, r3, r4, n3, n4, hCr, hCn]; done)
        | false =>
          repeat' (first
            | with_reducible refine W_region (by first | decide | (with_unfolding_all rfl)) ?_
            | (rw [vcn]; (try simp [-map_take,-map_drop, push_cast]))
            | fail)
          refine joinW_n () id trivial ⟨?_, ?_, ?_, ?_, ?_, ?_⟩
          all_goals first | (simp [-map_take,-map_drop, push_cast, dV_take, dV_drop, hLr, hLn, rA, rB, nA, nB, r3, r4, n3, n4, hCr, hCn]; done)
      refine W_seq ?_
      refine W_joinQ (X := Unit) (fun _ => [(0, .slc f 1 n L), (3, .bs 500 1 0 i), (4, .bs 501 1 0 i), (5, boolV (u && o)), (6, boolV (v && wh)), (7, i64V ((m + k : Nat) : Int)), (8, i64V i), (9, .bs 502 8 0 k), (10, .bs 503 2 0 k), (11, i64V k), (13, .bp 13 0)])
        (fun _ => [(500, .mut 25 RA), (501, .mut 26 RB), (502, .mut 51 XA), (503, .mut 39 XB), (13, .mut 39 [i64V x0, i64V x1])]) (fun _ => True) ?_ fun _ _ => ?_
      · cases v with
        | true =>
          repeat' (first
            | with_reducible refine W_region (by first | decide | (with_unfolding_all rfl)) ?_
            | (rw [vcn]; (try simp [-map_take,-map_drop, push_cast, hCl, hCt, hCr]))
            | fail)
          refine CallG_of p4 (by first | rfl | simp [-map_take,-map_drop, hCr]) (by simp [-map_take,-map_drop, AV.refs, refsL, hCr]) rfl ?_
          try dsimp only
          repeat' (first
            | (rw [vcn]; (try simp [-map_take,-map_drop, push_cast]))
            | fail)
          refine joinW_n () id trivial ⟨?_, ?_, ?_, ?_, ?_, ?_⟩
          all_goals first | (simp [-map_take,-map_drop, push_cast, dV_take, dV_drop, hLr, hLn, rA, rB, nA, nB, r3, r4, n3, n4, hCr, hCn]; done)
          | false =>
          repeat' (first
            | with_reducible refine W_region (by first | decide | (with_unfolding_all rfl)) ?_
            | (rw [vcn]; (try simp [-map_take,-map_drop, push_cast, hCl, hCt, hCr]))
            | fail)
          refine joinW_n () id trivial ⟨?_, ?_, ?_, ?_, ?_, ?_⟩
          all_goals first | (simp [-map_take,-map_drop, push_cast, dV_take, dV_drop, hLr, hLn, rA, rB, nA, nB, r3, r4, n3, n4, hCr, hCn]; done)
      refine W_seq ?_
      refine W_joinQ (X := Unit) (fun _ => [(0, .slc f 1 n L), (3, .bs 500 1 0 i), (4, .bs 501 1 0 i), (5, boolV (u && o)), (6, boolV (v && wh)), (7, i64V ((m + k : Nat) : Int)), (8, i64V i), (9, .bs 502 8 0 (k + 1)), (10, .bs 503 2 0 k), (11, i64V k), (13, .bp 13 0)])
        (fun _ => [(500, .mut 25 RA), (501, .mut 26 RB), (502, .mut 51 YA), (503, .mut 39 XB), (13, .mut 39 [i64V x0, i64V x1])]) (fun _ => True) ?_ fun _ _ => ?_
      · repeat' (first
          | with_reducible refine W_region (by first | decide | (with_unfolding_all rfl)) ?_
          | (rw [vcn]; (try simp [-map_take,-map_drop, push_cast, ht1, hLl, c1, ht2, hDl, d1]))
          | fail)
        refine CallG_of (p1) rfl rfl rfl ?_
        try dsimp only
        repeat' (first
          | (rw [vcn]; (try simp [-map_take,-map_drop, push_cast, l3, ptAV, ptC, ratC, zC]))
          | refine And.intro (by first | omega | kernel_rfl) ?_
          | fail)
        refine joinW_n () (fun i => if i = 502 then 74 else i) trivial ⟨?_, ?_, ?_, ?_, ?_, ?_⟩
        all_goals first | (simp [-map_take,-map_drop, push_cast, dV_take, dV_drop, hLr, hLn, rA, rB, nA, nB, r3, n3, r4, n4, r5, n5, sA, ptC, ratC, zC]; done) | (simp [-map_take,-map_drop, push_cast, dV_take, dV_drop, hLr, hLn, rA, rB, nA, nB, r3, n3, r4, n4, r5, n5, sA, ptC, ratC, zC]; omega)
      repeat' (first
        | with_reducible first | apply thenW_n | apply blockW_n | apply W_seq
        | with_reducible refine W_region (by first | decide | (with_unfolding_all rfl)) ?_
        | (rw [vcn]; (try simp [-map_take,-map_drop, push_cast, l4]); try simp (disch := omega) only [i64_in, u64_in, shr64i])
        | refine And.intro (by first | omega | kernel_rfl) ?_
        | fail)
      refine loopW_n (r ++ [(e0, e1, e2)]) (fun i => if i = 503 then 78 else i) (by omega) ⟨by omega, hra'⟩ ⟨?_, ?_, ?_, ?_, ?_, ?_⟩
      all_goals first | (simp [-map_take,-map_drop, push_cast, dV_take, dV_drop, hLr, hLn, rA, rB, nA, nB, r4, n4, r5, n5, r6, n6, sB, eYA, eYB, hrk, so', sw', so2, sw2, ho, hwh, e9, ptI]; done) | (simp [-map_take,-map_drop, push_cast, dV_take, dV_drop, hLr, hLn, rA, rB, nA, nB, r4, n4, r5, n5, r6, n6, sB, eYA, eYB, hrk, so', sw', so2, sw2, ho, hwh, e9, ptI]; omega)
    obtain ⟨hrl, hra⟩ := hr
    have hAs := hAs r
    have hBs := hBs r
    have hks := hks r
    have hws := hws r
    have l3 := rowA_len r
    have l4 := rowB_len r
    have r3 := rowA_refs r
    have r4 := rowB_refs r
    have hRs := inRows_snoc hRR (by omega) hra
    have hRl : (R ++ [r]).length = i + 1 := by rw [List.length_append, hi]; rfl
    obtain ⟨k, hk⟩ : ∃ k, k = r.length := ⟨_, rfl⟩
    simp only [← hk] at l3 l4 hAs hBs hrl ⊢
    have t3 : (rowA r).take (k * 8) = rowA r := List.take_of_length_le (by omega)
    have t4 : (rowB r).take (k * 2) = rowB r := List.take_of_length_le (by omega)
    refine W_frz 502 (e := 51) (l := rowA r) (by simp [-map_take,-map_drop, mkS_box, lk]) r3 ?_
    refine W_frz 503 (e := 39) (l := rowB r) (by simp [-map_take,-map_drop, upd, mkS_box, lk]) r4 ?_
    have hRA' : rowsA (R ++ [r]) = RA ++ [AV.slc false 8 k (rowA r)] := hAs
    obtain ⟨XA, hXA⟩ : ∃ x, x = rowA r := ⟨_, rfl⟩
    obtain ⟨XB, hXB⟩ : ∃ x, x = rowB r := ⟨_, rfl⟩
    simp only [← hXA, ← hXB] at l3 l4 r3 r4 t3 t4 hAs hBs ⊢
    obtain ⟨u, nm_⟩ : ∃ nm0_, nm0_ = (bo && r.all okA) := ⟨_, rfl⟩
    simp only [← nm_] at hks ⊢
    clear nm_
    obtain ⟨v, nm_⟩ : ∃ nm0_, nm0_ = (bw && r.all whA) := ⟨_, rfl⟩
    simp only [← nm_] at hws ⊢
    clear nm_
    clear hRA' hXA hXB hdat
    repeat' (first
      | with_reducible first | apply thenW_n | apply blockW_n | apply W_seq
      | with_reducible refine W_region (by first | decide | (with_unfolding_all rfl)) ?_
      | (rw [vcn]; (try simp [-map_take,-map_drop, push_cast, lA, lB, l3, l4, t3, t4]); try simp (disch := omega) only [i64_in, u64_in, shr64i])
      | refine And.intro (by first | omega | kernel_rfl) ?_
      | fail)
    refine loopW_n (m + k + 1, R ++ [r]) (fun i => if i = 500 then 84 else if i = 501 then 88 else i) (by simp only; omega) ⟨by simp only; omega, by simp only; omega, hRs⟩ ⟨?_, ?_, ?_, ?_, ?_, ?_⟩
    all_goals first | (simp [-map_take,-map_drop, push_cast, dV_take, dV_drop, hLr, hLn, rA, rB, nA, nB, r3, r4, hAs, hBs, hks, hws, hRl]; done) | (intro i hi; dsimp only; (repeat' split) <;> omega)
  obtain ⟨hRl, hRR⟩ := hR
  have e1 := snapRows_ok false (R.map (·.map dotP)) (fun r hr p hp => by
    obtain ⟨r', h1, rfl⟩ := List.mem_map.1 hr
    obtain ⟨a, h2, rfl⟩ := List.mem_map.1 hp
    have := dotP_sz ((hRR r' h1).2 a h2)
    omega) (by rw [List.length_map]; omega) (fun r hr => by
    obtain ⟨r', h1, rfl⟩ := List.mem_map.1 hr
    rw [List.length_map]
    have := (hRR r' h1).1
    omega)
  have e2 := snapWhole_ok false (R.map (·.map dotP)) (fun r hr p hp => by
    obtain ⟨r', h1, rfl⟩ := List.mem_map.1 hr
    obtain ⟨a, h2, rfl⟩ := List.mem_map.1 hp
    have := dotP_sz ((hRR r' h1).2 a h2)
    omega) (by rw [List.length_map]; omega) (fun r hr => by
    obtain ⟨r', h1, rfl⟩ := List.mem_map.1 hr
    rw [List.length_map]
    have := (hRR r' h1).1
    omega)
  rw [List.length_map, rowsA_eq] at e1 e2
  rw [wholeB_eq] at e2
  have hk := snapRows_A R
  have lA := rowsA_len R
  have lB := rowsB_len R
  have rA := hAr R
  have rB := hBr R
  have nA := hAn R
  have nB := hBn R
  have hBat := rowsB_at R
  have hin := fun r (h : r ∈ R) => (hRR r h).1
  refine W_frz 500 (e := 25) (l := rowsA R) (by simp [-map_take,-map_drop, mkS_box, lk]) rA ?_
  refine W_frz 501 (e := 26) (l := rowsB R) (by simp [-map_take,-map_drop, upd, mkS_box, lk]) rB ?_
  obtain ⟨n2, hn2⟩ : ∃ x, x = R.length := ⟨_, rfl⟩
  have tA : (rowsA R).take n2 = rowsA R := List.take_of_length_le (by omega)
  have tB : (rowsB R).take n2 = rowsB R := List.take_of_length_le (by omega)
  rw [← hn2] at lA lB hRl e1 e2 hk ⊢
  obtain ⟨RA, hRA⟩ : ∃ x, x = rowsA R := ⟨_, rfl⟩
  obtain ⟨RB, hRB⟩ : ∃ x, x = rowsB R := ⟨_, rfl⟩
  obtain ⟨ok, hok⟩ : ∃ x, x = okR R := ⟨_, rfl⟩
  obtain ⟨wh, hwh⟩ : ∃ x, x = whR R := ⟨_, rfl⟩
  simp only [← hRA, ← hRB, ← hok, ← hwh] at lA lB rA rB nA nB tA tB e1 e2 hk hBat ⊢
  rw [hk] at e1
  clear hk hRR hA0 hB0 a0 b0 k0 w0 hAr hBr hAn hBn hRA hRB hok hwh hat hI
  cases ok with
  | false =>
    rw [if_neg (by decide)] at e1
    cases wh with
    | false =>
      repeat' (first
        | with_reducible apply W_seq
        | with_reducible refine W_region (by first | decide | (with_unfolding_all rfl)) ?_
        | (rw [vcn]; (try simp [-map_take,-map_drop, push_cast, lA, lB, tA, tB]))
        | fail)
      refine CallG_of (e1) rfl rfl rfl ?_
      try dsimp only
      repeat' (first
        | with_reducible first | apply thenW_n | apply W_seq
        | with_reducible refine W_region (by first | decide | (with_unfolding_all rfl)) ?_
        | (rw [vcn]; (try simp [-map_take,-map_drop, push_cast]))
        | fail)
      refine CallG_of (known18_ok) rfl rfl rfl ?_
      try dsimp only
      repeat' (first
        | (rw [vcn]; (try simp [-map_take,-map_drop, push_cast, lA, lB, tA, tB]))
        | fail)
      refine CallG_of (e2) rfl rfl rfl ?_
      try dsimp only
      repeat' (first
        | with_reducible first | apply thenW_n | apply thenW_ret | apply W_seq | apply W_skip | apply W_ret
        | with_reducible refine W_region (by first | decide | (with_unfolding_all rfl)) ?_
        | (rw [vcn]; (try simp [-map_take,-map_drop, push_cast]))
        | (with_reducible refine W_condW ?_; (try simp [-map_take,-map_drop, AS.val, upd, resB, mkS_env, mkS_box, lk, entry_env, condW_true, condW_false]))
        | fail)
      simp [-map_take,-map_drop, post, resAV, resAll, resOne, closeV, closeC, closeL, resD, resDL, push_cast]
    | true =>
      repeat' (first
        | with_reducible apply W_seq
        | with_reducible refine W_region (by first | decide | (with_unfolding_all rfl)) ?_
        | (rw [vcn]; (try simp [-map_take,-map_drop, push_cast, lA, lB, tA, tB]))
        | fail)
      refine CallG_of (e1) rfl rfl rfl ?_
      try dsimp only
      repeat' (first
        | with_reducible first | apply thenW_n | apply W_seq
        | with_reducible refine W_region (by first | decide | (with_unfolding_all rfl)) ?_
        | (rw [vcn]; (try simp [-map_take,-map_drop, push_cast]))
        | fail)
      refine CallG_of (known18_ok) rfl rfl rfl ?_
      try dsimp only
      repeat' (first
        | (rw [vcn]; (try simp [-map_take,-map_drop, push_cast, lA, lB, tA, tB]))
        | fail)
      refine CallG_of (e2) rfl rfl rfl ?_
      try dsimp only
      repeat' (first
        | with_reducible first | apply thenW_n | apply thenW_ret | apply W_seq | apply W_skip | apply W_ret
        | with_reducible refine W_region (by first | decide | (with_unfolding_all rfl)) ?_
        | (rw [vcn]; (try simp [-map_take,-map_drop, push_cast]))
        | (with_reducible refine W_condW ?_; (try simp [-map_take,-map_drop, AS.val, upd, resB, mkS_env, mkS_box, lk, entry_env, condW_true, condW_false]))
        | fail)
      simp [-map_take,-map_drop, post, resAV, resAll, resOne, closeV, closeC, closeL, resD, resDL, push_cast]
  | true =>
    rw [if_pos rfl] at e1
    repeat' (first
      | with_reducible apply W_seq
      | with_reducible refine W_region (by first | decide | (with_unfolding_all rfl)) ?_
      | (rw [vcn]; (try simp [-map_take,-map_drop, push_cast, lA, lB, tA, tB]))
      | fail)
    refine CallG_of (e1) rfl rfl rfl ?_
    try dsimp only
    repeat' (first
      | with_reducible first | apply thenW_n | apply W_seq
      | with_reducible refine W_region (by first | decide | (with_unfolding_all rfl)) ?_
      | (rw [vcn]; (try simp [-map_take,-map_drop, push_cast]))
      | fail)
    refine CallG_of (known18_ok) rfl rfl rfl ?_
    try dsimp only
    repeat' (first
      | (rw [vcn]; (try simp [-map_take,-map_drop, push_cast, lA, lB, tA, tB]))
      | fail)
    refine CallG_of (e2) rfl rfl rfl ?_
    try dsimp only
    repeat' (first
      | with_reducible first | apply thenW_n | apply W_seq | apply W_block | apply W_skip
      | with_reducible refine W_region (by first | decide | (with_unfolding_all rfl)) ?_
      | (rw [vcn]; (try simp [-map_take,-map_drop, push_cast, lA, lB, tA, tB]))
      | (with_reducible refine W_condW ?_; (try simp [-map_take,-map_drop, AS.val, upd, resB, mkS_env, mkS_box, lk, entry_env, condW_true, condW_false, lA, lB, tA, tB]))
      | fail)
    refine W_loopW (X := Nat) (fun i => [(4, .slc false 1 n2 RB), (15, .slc false 1 n2 RB), (17, i64V i)]) (fun _ => []) (fun i => n2 - i) (fun i => i ≤ n2) 0 id (Nat.zero_le _) ⟨?_, ?_, ?_, ?_, ?_, ?_⟩ fun i hi => ?_
    all_goals first | (with_reducible refine W_id ?_) | (simp [-map_take,-map_drop, push_cast, dV_take, dV_drop, rA, rB, nA, nB, lB, tB]; done)
    by_cases c1 : ¬ i < n2
    · have y1 : (i < n2) = False := eq_false c1
      have y2 : ((i : Int) < (n2 : Int)) = False := eq_false (by omega)
      repeat' (first
        | with_reducible first | apply thenW_n | apply thenW_exit | apply blockW_same | apply loopW_exit | apply W_seq | apply W_ret | apply W_exit
        | with_reducible refine W_region (by first | decide | (with_unfolding_all rfl)) ?_
        | (rw [vcn]; (try simp [-map_take,-map_drop, push_cast, y1, y2, lB, tB]))
        | (with_reducible refine W_condW ?_; (try simp [-map_take,-map_drop, AS.val, upd, resB, mkS_env, mkS_box, lk, entry_env, condW_true, condW_false, y1, y2, lB, tB]))
        | fail)
      simp [-map_take,-map_drop, post, resAV, resAll, resOne, closeV, closeC, closeL, resD, resDL, push_cast]
    have c1 : i < n2 := by omega
    have y1 : (i < n2) = True := eq_true c1
    have y2 : ((i : Int) < (n2 : Int)) = True := eq_true (by omega)
    obtain ⟨t1, ht1⟩ := hBat i (by omega)
    have hrl := hin _ (List.getElem_mem (show i < R.length by omega))
    obtain ⟨r, hr⟩ : ∃ r, r = R[i]'(by omega) := ⟨_, rfl⟩
    rw [← hr] at ht1 hrl
    have l4 := rowB_len r
    have r4 := rowB_refs r
    have n4 : ∀ ρ, renL ρ (rowB r) = rowB r := fun ρ => renL_id ρ _ r4
    have hrat := rowB_at r
    obtain ⟨k, hk⟩ : ∃ k, k = r.length := ⟨_, rfl⟩
    obtain ⟨XB, hXB⟩ : ∃ x, x = rowB r := ⟨_, rfl⟩
    simp only [← hXB, ← hk] at l4 r4 n4 hrat ht1 hrl
    clear hXB hr hBat hin
    have htl := congrArg List.length ht1
    rw [List.length_drop, lB] at htl
    repeat' (first
      | with_reducible first | apply thenW_n | apply W_seq | apply W_block | apply W_skip
      | with_reducible refine W_region (by first | decide | (with_unfolding_all rfl)) ?_
      | (rw [vcn]; (try simp [-map_take,-map_drop, push_cast, y1, y2, ht1, lB]))
      | with_reducible refine W_drawn mixed (by decide) (by kernel_rfl) ?_
      | (rw [vcnD]; (try simp [-map_take,-map_drop, push_cast, y1, y2, ht1, lB]))
      | (with_reducible refine W_condW ?_; (try simp [-map_take,-map_drop, AS.val, upd, resB, mkS_env, mkS_box, lk, entry_env, condW_true, condW_false, y1, y2, ht1, lB]))
      | refine And.intro (by first | omega | kernel_rfl) ?_
      | fail)
    refine W_loopW (X := Nat) (fun j => [(4, .slc false 1 n2 RB), (15, .slc false 1 n2 RB), (17, i64V i), (18, i64V j)]) (fun _ => []) (fun j => k - j) (fun j => j ≤ k) 0 id (Nat.zero_le _) ⟨?_, ?_, ?_, ?_, ?_, ?_⟩ fun j hj => ?_
    all_goals first | (with_reducible refine W_id ?_) | (simp [-map_take,-map_drop, push_cast, dV_take, dV_drop, rA, rB, nA, nB]; done)
    by_cases d1 : ¬ j < k
    · have z1 : (j < k) = False := eq_false d1
      have z2 : ((j : Int) < (k : Int)) = False := eq_false (by omega)
      repeat' (first
        | with_reducible first | apply thenW_n | apply thenW_exit | apply blockW_n | apply blockW_same | apply loopW_exit | apply W_seq | apply W_exit
        | with_reducible refine W_region (by first | decide | (with_unfolding_all rfl)) ?_
        | (rw [vcn]; (try simp [-map_take,-map_drop, push_cast, z1, z2, ht1, lB, c1]); try simp (disch := omega) only [i64_in, u64_in, shr64i])
        | (with_reducible refine W_condW ?_; (try simp [-map_take,-map_drop, AS.val, upd, resB, mkS_env, mkS_box, lk, entry_env, condW_true, condW_false, z1, z2, ht1, lB, c1]))
        | fail)
      refine loopW_n (i + 1) id (by omega) (by omega) ⟨?_, ?_, ?_, ?_, ?_, ?_⟩
      all_goals first | (simp [-map_take,-map_drop, push_cast, dV_take, dV_drop, rA, rB, nA, nB]; done)
    have d1 : j < k := by omega
    have z1 : (j < k) = True := eq_true d1
    have z2 : ((j : Int) < (k : Int)) = True := eq_true (by omega)
    obtain ⟨⟨qx, qy⟩, t2, ht2⟩ := hrat j (by omega)
    simp only at ht2
    repeat' (first
      | with_reducible first | apply thenW_n | apply blockW_n | apply W_seq | apply W_block | apply W_skip
      | with_reducible refine W_region (by first | decide | (with_unfolding_all rfl)) ?_
      | (rw [vcn]; (try simp [-map_take,-map_drop, push_cast, z1, z2, ht1, lB, c1, ht2, l4, d1, eqPt]); try simp (disch := omega) only [i64_in, u64_in, shr64i])
      | with_reducible refine W_drawn mixed (by decide) (by kernel_rfl) ?_
      | (rw [vcnD]; (try simp [-map_take,-map_drop, push_cast, z1, z2, ht1, lB, c1, ht2, l4, d1, eqPt]); try simp (disch := omega) only [i64_in, u64_in, shr64i])
      | (with_reducible refine W_condW ?_; (try simp [-map_take,-map_drop, AS.val, upd, resB, mkS_env, mkS_box, lk, entry_env, condW_true, condW_false, z1, z2, ht1, lB, c1, ht2, l4, d1, eqPt]))
      | refine And.intro (by first | omega | kernel_rfl) ?_
      | fail)
    refine loopW_n (j + 1) id (by omega) (by omega) ⟨?_, ?_, ?_, ?_, ?_, ?_⟩
    all_goals first | (simp [-map_take,-map_drop, push_cast, dV_take, dV_drop, rA, rB, nA, nB]; done)
end Go.Fw
