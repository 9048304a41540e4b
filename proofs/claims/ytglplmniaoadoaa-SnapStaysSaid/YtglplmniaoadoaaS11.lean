/- The law SnapStays comes to true. -/
import Derived.Test.YtglplmniaoadoaaS10
-- VALS: zAV, zC, ratAV, ratC, ptAV, ptC, sgAV, sgC
namespace Go.Fw
open Go Go.Proofs Go.IntWalk
set_option linter.unusedSimpArgs false
set_option maxRecDepth 100000
set_option maxHeartbeats 40000000

theorem ptsI_drop (l : List (Int × Int)) (i : Nat) : (ptsI l).drop (i * 2) = ptsI (l.drop i) := by
  induction l generalizing i with
  | nil => simp [ptsI]
  | cons x t ih =>
    cases i with
    | zero => simp
    | succ i =>
      have e : (i + 1) * 2 = (ptI x).length + i * 2 := by simp [ptI]; omega
      show (ptI x ++ ptsI t).drop _ = _
      rw [e, List.drop_append, Nat.add_sub_cancel_left, ih]
      simp [ptI]
theorem ptsI_take (l : List (Int × Int)) (i : Nat) : (ptsI l).take (i * 2) = ptsI (l.take i) := by
  induction l generalizing i with
  | nil => simp [ptsI]
  | cons x t ih =>
    cases i with
    | zero => simp [ptsI]
    | succ i =>
      have e : (i + 1) * 2 = i * 2 + 1 + 1 := by omega
      show (ptI x ++ ptsI t).take _ = ptI x ++ ptsI (t.take i)
      rw [e, ← ih]
      rfl
theorem ptsI_at (l : List (Int × Int)) (i : Nat) (h : i < l.length) : ∃ t, (ptsI l).drop (i * 2) = i64V l[i].1 :: i64V l[i].2 :: t := by
  refine ⟨ptsI (l.drop (i + 1)), ?_⟩
  rw [ptsI_drop, List.drop_eq_getElem_cons h]
  rfl
def rowG (m : List (Int × Int)) : List AV := ptsC (rowF m)
def segG (z : Int × Int) (m : List (Int × Int)) : List AV := sgsC (segsF z m)
theorem rowG_snoc (m : List (Int × Int)) (i : Nat) (h : i < m.length) : rowG (m.take (i + 1)) = rowG (m.take i) ++ ptC (gridF m[i]) := by
  rw [List.take_succ_eq_append_getElem h]
  unfold rowG rowF ptsC
  rw [List.map_append, List.flatMap_append]
  simp
theorem segG_snoc (z : Int × Int) (m : List (Int × Int)) (i : Nat) (h : i < m.length) : segG z (m.take (i + 1)) = segG z (m.take i) ++ (ptC (gridF m[i]) ++ ptC (gridF z)) := by
  rw [List.take_succ_eq_append_getElem h]
  unfold segG segsF sgsC
  rw [List.map_append, List.flatMap_append]
  simp [sgC, segF]
theorem rowG_len (m : List (Int × Int)) : (rowG m).length = m.length * 8 := by unfold rowG rowF; rw [ptsC_len, List.length_map]
theorem segG_len (z : Int × Int) (m : List (Int × Int)) : (segG z m).length = m.length * 16 := by unfold segG segsF; rw [sgsC_len, List.length_map]
theorem rowG_at (m : List (Int × Int)) (i : Nat) (h : i < m.length) : ∃ t, (rowG m).drop (i * 8) = ptC (gridF m[i]) ++ t := by
  obtain ⟨t, ht⟩ := ptsC_at (rowF m) i (by unfold rowF; rw [List.length_map]; exact h)
  refine ⟨t, ?_⟩
  unfold rowG
  rw [ht]
  unfold rowF
  rw [List.getElem_map]
theorem rowG_refs (m : List (Int × Int)) : refsL (rowG m) = [] := ptsC_refs _
theorem segG_refs (z : Int × Int) (m : List (Int × Int)) : refsL (segG z m) = [] := sgsC_refs _
theorem insideB_snoc (m : List (Int × Int)) (i : Nat) (h : i < m.length) : insideB (m.take (i + 1)) = (insideB (m.take i) && inB m[i]) := by
  rw [List.take_succ_eq_append_getElem h]
  unfold insideB
  rw [List.all_append]
  simp

theorem inC_no {x y : Int} (h : inC x → inC y → False) : (decide (inC x) && decide (inC y)) = false := by
  by_cases h1 : inC x <;> by_cases h2 : inC y <;> simp [h1, h2]
  exact h h1 h2
theorem inC_yes {x y : Int} (h1 : inC x) (h2 : inC y) : (decide (inC x) && decide (inC y)) = true := by simp [h1, h2]

def anyX (c : Int × Int → Int) (v : Int) (l : List (Int × Int)) : Bool := l.any fun q => c q == v
theorem anyX_snoc (c : Int × Int → Int) (v : Int) (m : List (Int × Int)) (i : Nat) (h : i < m.length) : anyX c v (m.take (i + 1)) = (anyX c v (m.take i) || (c m[i] == v)) := by
  rw [List.take_succ_eq_append_getElem h]
  unfold anyX
  rw [List.any_append]
  simp
theorem anyX_of (c : Int × Int → Int) (v : Int) (m : List (Int × Int)) (h : ∃ q ∈ m, c q = v) : anyX c v m = true := by
  obtain ⟨q, h1, h2⟩ := h
  unfold anyX
  rw [List.any_eq_true]
  exact ⟨q, h1, by simp [h2]⟩
theorem eqB4 : aggEq Try.prog 77 [.v (.bool true), .v (.bool true), .v (.bool true), .v (.bool true)] [.v (.bool true), .v (.bool true), .v (.bool true), .v (.bool true)] = some true := by kernel_rfl

attribute [local push_cast] optK_some optK_none optK_ite optK_map optK_bind gOn stepK isMem evPure evMem evBin evUn evConv evLen evBuiltin evMinMax evSlice evBuild evAppend evIndex evIndexAddr evField evFieldAddr intBin strBin appDest AS.val AS.mem AS.elems AS.put AS.put' AS.eff AV.cells? AV.isCell AV.refs all_isByte take_byteV drop_byteV strOf_map bndOk bnd partAV ptrAdd killBox catA inOrder fillA setAt ofVal resB upd byteV List.head?_take List.head?_drop List.getElem?_map mkS_env mkS_box mkS_used entry_env entry_box entry_used lk stepD lookIds Oper.looksAt Op.operands Call.operands St.ids refsL renL_append ren renL renBox Box.refs iV i64V boolV dV_getElem dV_app dV_cons toNat_add2 toNat_add1
attribute [local simp ↓] numC_refs numC_isCell numC_cells numC_resB numC_resD numC_ren numC_closeC numC_isOwn
theorem lawStays_ok (f : Bool) (l : List (Int × Int)) (hI : ∀ q ∈ l, inI q.1 ∧ inI q.2) : Eval Try.prog 6 [.slc f 2 l.length (ptsI l)] (.ret (.v (.bool true))) := by
  refine Eval.intro Try.func6 rfl Try.call6 _ _ (Nat.le_of_ble_eq_true rfl) (by simp [AV.refs, refsL, natAV, zAV, zC, ratAV, ratC, ptAV, ptC, sgAV, sgC, push_cast, -List.map_take, -List.map_drop]) fun hs0 => ?_
  have hlen := ptsI_len l
  have htk := ptsI_take l 30
  have hIm : ∀ q ∈ l.take 30, inI q.1 ∧ inI q.2 := fun q hq => hI q (List.mem_of_mem_take hq)
  obtain ⟨n, hn⟩ : ∃ n, n = l.length := ⟨_, rfl⟩
  have hn64 : n ≤ 9223372036854775807 := by rw [hn]; exact hs0.1.1
  obtain ⟨L, hL⟩ : ∃ L, L = ptsI l := ⟨_, rfl⟩
  have hLr : refsL L = [] := by rw [hL]; exact ptsI_refs l
  rw [← hn] at hlen ⊢
  rw [← hL] at hlen htk ⊢
  repeat' (first
    | with_reducible first | apply thenW_n | apply thenW_ret | apply thenW_exit | apply thenW_panic | apply blockW_n | apply blockW_same | apply blockW_ret | apply blockW_panic | apply loopW_ret | apply loopW_exit | apply loopW_panic | apply joinW_ret | apply joinW_exit | apply joinW_panic | apply W_seq | apply W_block | apply W_skip | apply W_ret | apply W_exit | apply W_label
    | with_reducible refine blockW_other (by decide) ?_
    | with_reducible refine W_region (by first | decide | (with_unfolding_all rfl)) ?_
    | (rw [vcn]; (try simp [push_cast, -List.map_take, -List.map_drop]); try simp (disch := omega) only [i64_in, u64_in, shr64i])
    | with_reducible refine W_drawn mixed (by decide) (by kernel_rfl) ?_
    | (rw [vcnD]; (try simp [push_cast, -List.map_take, -List.map_drop]); try simp (disch := omega) only [i64_in, u64_in, shr64i])
    | (with_reducible refine W_condW ?_; (try simp [AS.val, upd, resB, mkS_env, mkS_box, lk, entry_env, condW_true, condW_false]); with_reducible refine W_id ?_)
    | with_reducible refine optK_dV (by first | omega | (simp; omega)) ?_
    | with_reducible refine optK_dVh (by omega) ?_
    | refine And.intro (by first | omega | kernel_rfl) ?_
    | fail)
  refine W_joinQ (X := Bool × List (Int × Int)) (fun x => [(0, .slc x.1 2 x.2.length (ptsI x.2))]) (fun _ => []) (fun x => x = (f && decide (l.length ≤ 30), l.take 30)) ?_ fun x hx => ?_
  · by_cases h : 30 < n
    · have g1 : ((30 : Int) < (n : Int)) = True := eq_true (by omega)
      have g2 : 60 ≤ n * 2 := by omega
      have g3 : 30 ≤ n := by omega
      have hl2 : (l.take 30).length = 30 := by rw [List.length_take]; omega
      have hr2 : refsL (ptsI (l.take 30)) = [] := ptsI_refs _
      have g4 : decide (l.length ≤ 30) = false := by simp; omega
      repeat' (first
        | with_reducible first | apply thenW_n | apply thenW_ret | apply thenW_exit | apply thenW_panic | apply blockW_n | apply blockW_same | apply blockW_ret | apply blockW_panic | apply loopW_ret | apply loopW_exit | apply loopW_panic | apply joinW_ret | apply joinW_exit | apply joinW_panic | apply W_seq | apply W_block | apply W_skip | apply W_ret | apply W_exit | apply W_label
        | with_reducible refine blockW_other (by decide) ?_
        | with_reducible refine W_region (by first | decide | (with_unfolding_all rfl)) ?_
        | (rw [vcn]; (try simp [push_cast, -List.map_take, -List.map_drop, g1, hlen, htk, g2, g3]); try simp (disch := omega) only [i64_in, u64_in, shr64i])
        | with_reducible refine W_drawn mixed (by decide) (by kernel_rfl) ?_
        | (rw [vcnD]; (try simp [push_cast, -List.map_take, -List.map_drop, g1, hlen, htk, g2, g3]); try simp (disch := omega) only [i64_in, u64_in, shr64i])
        | (with_reducible refine W_condW ?_; (try simp [AS.val, upd, resB, mkS_env, mkS_box, lk, entry_env, condW_true, condW_false, g1, hlen, htk, g2, g3]))
        | with_reducible refine optK_dV (by first | omega | (simp; omega)) ?_
        | with_reducible refine optK_dVh (by omega) ?_
        | refine And.intro (by first | omega | kernel_rfl) ?_
        | (with_reducible refine condW_b (fun hc => ?_) (fun hc => ?_) <;> (try simp [Int.ofNat_inj] at hc) <;> try contradiction)
        | fail)
      refine joinW_n (false, l.take 30) id (by rw [g4, Bool.and_false]) ⟨?_, ?_, ?_, ?_, ?_, ?_⟩
      all_goals first | (with_reducible refine W_id ?_) | (simp [push_cast, -List.map_take, -List.map_drop, dV_take, dV_drop, hlen, htk, hl2, hr2, hLr, g2, g3]; done) | (simp [push_cast, -List.map_take, -List.map_drop, dV_take, dV_drop, hlen, htk, hl2, hr2, hLr, g2, g3]; omega) | (intro i hi; simp; omega) | (intro i hi; dsimp only; (repeat' split) <;> omega) | (simp [push_cast, -List.map_take, -List.map_drop, dV_take, dV_drop, hlen, htk, hl2, hr2, hLr, g2, g3]; fail_if_success done)
    · have g1 : ((30 : Int) < (n : Int)) = False := eq_false (by omega)
      have hl2 : l.take 30 = l := List.take_of_length_le (by omega)
      have g4 : decide (l.length ≤ 30) = true := by simp; omega
      repeat' (first
        | with_reducible first | apply thenW_n | apply thenW_ret | apply thenW_exit | apply thenW_panic | apply blockW_n | apply blockW_same | apply blockW_ret | apply blockW_panic | apply loopW_ret | apply loopW_exit | apply loopW_panic | apply joinW_ret | apply joinW_exit | apply joinW_panic | apply W_seq | apply W_block | apply W_skip | apply W_ret | apply W_exit | apply W_label
        | with_reducible refine blockW_other (by decide) ?_
        | with_reducible refine W_region (by first | decide | (with_unfolding_all rfl)) ?_
        | (rw [vcn]; (try simp [push_cast, -List.map_take, -List.map_drop, g1]); try simp (disch := omega) only [i64_in, u64_in, shr64i])
        | with_reducible refine W_drawn mixed (by decide) (by kernel_rfl) ?_
        | (rw [vcnD]; (try simp [push_cast, -List.map_take, -List.map_drop, g1]); try simp (disch := omega) only [i64_in, u64_in, shr64i])
        | (with_reducible refine W_condW ?_; (try simp [AS.val, upd, resB, mkS_env, mkS_box, lk, entry_env, condW_true, condW_false, g1]))
        | with_reducible refine optK_dV (by first | omega | (simp; omega)) ?_
        | with_reducible refine optK_dVh (by omega) ?_
        | refine And.intro (by first | omega | kernel_rfl) ?_
        | (with_reducible refine condW_b (fun hc => ?_) (fun hc => ?_) <;> (try simp [Int.ofNat_inj] at hc) <;> try contradiction)
        | fail)
      refine joinW_n (f, l) id (by rw [g4, Bool.and_true, hl2]) ⟨?_, ?_, ?_, ?_, ?_, ?_⟩
      all_goals first | (with_reducible refine W_id ?_) | (simp [push_cast, -List.map_take, -List.map_drop, dV_take, dV_drop, ← hn, ← hL, hLr]; done) | (simp [push_cast, -List.map_take, -List.map_drop, dV_take, dV_drop, ← hn, ← hL, hLr]; omega) | (intro i hi; simp; omega) | (intro i hi; dsimp only; (repeat' split) <;> omega) | (simp [push_cast, -List.map_take, -List.map_drop, dV_take, dV_drop, ← hn, ← hL, hLr]; fail_if_success done)
  subst hx
  obtain ⟨g, hg⟩ : ∃ g, g = (f && decide (l.length ≤ 30)) := ⟨_, rfl⟩
  obtain ⟨m, hm⟩ : ∃ m, m = l.take 30 := ⟨_, rfl⟩
  have hml : m.length ≤ 30 := by rw [hm, List.length_take]; omega
  rw [← hm] at hIm
  simp only [← hg, ← hm]
  clear hn hn64 htk hlen hL hLr hs0 hg hm hI l f n L
  have hlen := ptsI_len m
  have hat := ptsI_at m
  have hLr := ptsI_refs m
  obtain ⟨n, hn⟩ : ∃ n, n = m.length := ⟨_, rfl⟩
  obtain ⟨L, hL⟩ : ∃ L, L = ptsI m := ⟨_, rfl⟩
  rw [← hL, ← hn] at hlen
  rw [← hL] at hat hLr
  simp only [← hL, ← hn]
  rw [← hn] at hml
  obtain ⟨z, hz⟩ : ∃ z, z = m.getD 0 (0, 0) := ⟨_, rfl⟩
  repeat' (first
    | with_reducible refine thenW_n ?_
    | with_reducible refine thenW_ret ?_
    | with_reducible refine thenW_exit ?_
    | with_reducible refine thenW_panic ?_
    | with_reducible refine blockW_n ?_
    | with_reducible refine blockW_same ?_
    | with_reducible refine blockW_ret ?_
    | with_reducible refine blockW_panic ?_
    | with_reducible refine loopW_ret ?_
    | with_reducible refine loopW_exit ?_
    | with_reducible refine loopW_panic ?_
    | with_reducible refine joinW_ret ?_
    | with_reducible refine joinW_exit ?_
    | with_reducible refine joinW_panic ?_
    | with_reducible refine W_seq ?_
    | with_reducible refine W_skip ?_
    | with_reducible refine W_ret ?_
    | with_reducible refine W_exit ?_
    | with_reducible refine W_label ?_
    | with_reducible refine blockW_other (by decide) ?_
    | with_reducible refine W_region (by first | decide | (with_unfolding_all rfl)) ?_
    | (rw [vcn]; (try simp [push_cast, -List.map_take, -List.map_drop]); try simp (disch := omega) only [i64_in, u64_in, shr64i])
    | with_reducible refine W_drawn mixed (by decide) (by kernel_rfl) ?_
    | (rw [vcnD]; (try simp [push_cast, -List.map_take, -List.map_drop]); try simp (disch := omega) only [i64_in, u64_in, shr64i])
    | (with_reducible refine W_condW ?_; (try simp [AS.val, upd, resB, mkS_env, mkS_box, lk, entry_env, condW_true, condW_false]))
    | with_reducible refine optK_dV (by first | omega | (simp; omega)) ?_
    | with_reducible refine optK_dVh (by omega) ?_
    | refine And.intro (by first | omega | kernel_rfl) ?_
    | (with_reducible refine condW_b (fun hc => ?_) (fun hc => ?_) <;> (try simp [Int.ofNat_inj] at hc) <;> try contradiction)
    | fail)
  refine W_joinQ (X := Unit) (fun _ => [(0, .slc g 2 n L), (3, .bs 500 8 0 n), (4, .bs 501 16 0 n), (5, boolV (insideB m))]) (fun _ => [(500, .mut 33 (rowG m)), (501, .mut 38 (segG z m))]) (fun _ => True) ?_ fun _ _ => ?_
  · refine W_nil 3 500 33 8 (by simp [upd, mkS_env, entry_env, lk]) (by simp [mkS_used, entry_used]) ?_
    refine W_nil 4 501 38 16 (by simp [upd, mkS_env, entry_env, lk]) (by simp [mkS_used, entry_used]) ?_
    repeat' (first
      | with_reducible first | apply thenW_n | apply thenW_ret | apply thenW_exit | apply thenW_panic | apply blockW_n | apply blockW_same | apply blockW_ret | apply blockW_panic | apply loopW_ret | apply loopW_exit | apply loopW_panic | apply joinW_ret | apply joinW_exit | apply joinW_panic | apply W_seq | apply W_block | apply W_skip | apply W_ret | apply W_exit | apply W_label
      | with_reducible refine blockW_other (by decide) ?_
      | with_reducible refine W_region (by first | decide | (with_unfolding_all rfl)) ?_
      | (rw [vcn]; (try simp [push_cast, -List.map_take, -List.map_drop]); try simp (disch := omega) only [i64_in, u64_in, shr64i])
      | with_reducible refine W_drawn mixed (by decide) (by kernel_rfl) ?_
      | (rw [vcnD]; (try simp [push_cast, -List.map_take, -List.map_drop]); try simp (disch := omega) only [i64_in, u64_in, shr64i])
      | (with_reducible refine W_condW ?_; (try simp [AS.val, upd, resB, mkS_env, mkS_box, lk, entry_env, condW_true, condW_false]))
      | with_reducible refine optK_dV (by first | omega | (simp; omega)) ?_
      | with_reducible refine optK_dVh (by omega) ?_
      | refine And.intro (by first | omega | kernel_rfl) ?_
      | (with_reducible refine condW_b (fun hc => ?_) (fun hc => ?_) <;> (try simp [Int.ofNat_inj] at hc) <;> try contradiction)
      | fail)
    refine W_loopW (X := Nat) (fun i => [(0, .slc g 2 n L), (3, .bs 500 8 0 i), (4, .bs 501 16 0 i), (5, boolV (insideB (m.take i))), (6, i64V i)]) (fun i => [(500, .mut 33 (rowG (m.take i))), (501, .mut 38 (segG z (m.take i)))]) (fun i => n - i)
      (fun i => i ≤ n) 0 id (Nat.zero_le _) ⟨?_, ?_, ?_, ?_, ?_, ?_⟩ fun i hi => ?_
    all_goals first | (with_reducible refine W_id ?_) | (simp [push_cast, -List.map_take, -List.map_drop, dV_take, dV_drop, hLr, rowG, segG, rowF, segsF, ptsC, sgsC, insideB]; done) | (simp [push_cast, -List.map_take, -List.map_drop, dV_take, dV_drop, hLr, rowG, segG, rowF, segsF, ptsC, sgsC, insideB]; omega) | (intro i hi; simp; omega) | (intro i hi; dsimp only; (repeat' split) <;> omega) | (simp [push_cast, -List.map_take, -List.map_drop, dV_take, dV_drop, hLr, rowG, segG, rowF, segsF, ptsC, sgsC, insideB]; fail_if_success done)
    have hPr : ∀ p, refsL (ptC p) = [] := fun _ => rfl
    have hPn : ∀ (ρ : Nat → Nat) p, renL ρ (ptC p) = ptC p := fun ρ p => renL_id ρ _ (hPr p)
    have hrr := rowG_refs
    have hsr := segG_refs
    by_cases hlt : ¬ i < n
    · have g1 : (i < n) = False := eq_false hlt
      have e : m.take i = m := List.take_of_length_le (by omega)
      have hin : i = n := by omega
      rw [e]
      subst hin
      have hrn : ∀ ρ, renL ρ (rowG m) = rowG m := fun ρ => renL_id ρ _ (hrr m)
      have hsn : ∀ ρ, renL ρ (segG z m) = segG z m := fun ρ => renL_id ρ _ (hsr z m)
      repeat' (first
        | with_reducible first | apply thenW_n | apply thenW_ret | apply thenW_exit | apply thenW_panic | apply blockW_n | apply blockW_same | apply blockW_ret | apply blockW_panic | apply loopW_ret | apply loopW_exit | apply loopW_panic | apply joinW_ret | apply joinW_exit | apply joinW_panic | apply W_seq | apply W_block | apply W_skip | apply W_ret | apply W_exit | apply W_label
        | with_reducible refine blockW_other (by decide) ?_
        | with_reducible refine W_region (by first | decide | (with_unfolding_all rfl)) ?_
        | (rw [vcn]; (try simp [push_cast, -List.map_take, -List.map_drop, g1]); try simp (disch := omega) only [i64_in, u64_in, shr64i])
        | with_reducible refine W_drawn mixed (by decide) (by kernel_rfl) ?_
        | (rw [vcnD]; (try simp [push_cast, -List.map_take, -List.map_drop, g1]); try simp (disch := omega) only [i64_in, u64_in, shr64i])
        | (with_reducible refine W_condW ?_; (try simp [AS.val, upd, resB, mkS_env, mkS_box, lk, entry_env, condW_true, condW_false, g1]))
        | with_reducible refine optK_dV (by first | omega | (simp; omega)) ?_
        | with_reducible refine optK_dVh (by omega) ?_
        | refine And.intro (by first | omega | kernel_rfl) ?_
        | (with_reducible refine condW_b (fun hc => ?_) (fun hc => ?_) <;> (try simp [Int.ofNat_inj] at hc) <;> try contradiction)
        | fail)
      refine joinW_n () id trivial ⟨?_, ?_, ?_, ?_, ?_, ?_⟩
      all_goals first | (with_reducible refine W_id ?_) | (simp [push_cast, -List.map_take, -List.map_drop, dV_take, dV_drop, hLr, hrr, hsr, hrn, hsn]; done) | (simp [push_cast, -List.map_take, -List.map_drop, dV_take, dV_drop, hLr, hrr, hsr, hrn, hsn]; omega) | (intro i hi; simp; omega) | (intro i hi; dsimp only; (repeat' split) <;> omega) | (simp [push_cast, -List.map_take, -List.map_drop, dV_take, dV_drop, hLr, hrr, hsr, hrn, hsn]; fail_if_success done)
    have hlt : i < n := by omega
    have g1 : (i < n) = True := eq_true hlt
    repeat' (first
      | with_reducible refine thenW_n ?_
      | with_reducible refine thenW_ret ?_
      | with_reducible refine thenW_exit ?_
      | with_reducible refine thenW_panic ?_
      | with_reducible refine blockW_n ?_
      | with_reducible refine blockW_same ?_
      | with_reducible refine blockW_ret ?_
      | with_reducible refine blockW_panic ?_
      | with_reducible refine loopW_ret ?_
      | with_reducible refine loopW_exit ?_
      | with_reducible refine loopW_panic ?_
      | with_reducible refine joinW_ret ?_
      | with_reducible refine joinW_exit ?_
      | with_reducible refine joinW_panic ?_
      | with_reducible refine W_seq ?_
      | with_reducible refine W_skip ?_
      | with_reducible refine W_ret ?_
      | with_reducible refine W_exit ?_
      | with_reducible refine W_label ?_
      | with_reducible refine blockW_other (by decide) ?_
      | with_reducible refine W_region (by first | decide | (with_unfolding_all rfl)) ?_
      | (rw [vcn]; (try simp [push_cast, -List.map_take, -List.map_drop, g1]); try simp (disch := omega) only [i64_in, u64_in, shr64i])
      | with_reducible refine W_drawn mixed (by decide) (by kernel_rfl) ?_
      | (rw [vcnD]; (try simp [push_cast, -List.map_take, -List.map_drop, g1]); try simp (disch := omega) only [i64_in, u64_in, shr64i])
      | (with_reducible refine W_condW ?_; (try simp [AS.val, upd, resB, mkS_env, mkS_box, lk, entry_env, condW_true, condW_false, g1]))
      | with_reducible refine optK_dV (by first | omega | (simp; omega)) ?_
      | with_reducible refine optK_dVh (by omega) ?_
      | refine And.intro (by first | omega | kernel_rfl) ?_
      | (with_reducible refine condW_b (fun hc => ?_) (fun hc => ?_) <;> (try simp [Int.ofNat_inj] at hc) <;> try contradiction)
      | fail)
    refine W_block ?_
    obtain ⟨t, ht⟩ := hat i (by omega)
    have hr1 := rowG_snoc m i (by omega)
    have hs1 := segG_snoc z m i (by omega)
    have hb1 := insideB_snoc m i (by omega)
    have hr2 := rowG_len (m.take i)
    have hs2 := segG_len z (m.take i)
    have hr3 := rowG_len (m.take (i + 1))
    obtain ⟨t0, ht0⟩ := rowG_at (m.take (i + 1)) 0 (by rw [List.length_take]; omega)
    obtain ⟨t1, ht1⟩ := rowG_at (m.take (i + 1)) i (by rw [List.length_take]; omega)
    rw [List.length_take, Nat.min_eq_left (by omega)] at hr2 hs2 hr3
    have hz0 : (m.take (i + 1))[0]'(by rw [List.length_take]; omega) = z := by rw [List.getElem_take, hz, List.getD_eq_getElem?_getD, List.getElem?_eq_getElem (by omega)]; rfl
    rw [hz0] at ht0
    rw [List.getElem_take] at ht1
    have hq := hIm (m[i]'(by omega)) (List.getElem_mem _)
    obtain ⟨q, hq2⟩ : ∃ q, q = m[i]'(by omega) := ⟨_, rfl⟩
    rw [← hq2] at ht hr1 hs1 hb1 ht1 hq
    have hgr := grid_ok q.1 q.2 hq.1 hq.2
    have hgq : ptAV ⟨.of (q.1 : Rat), .of (q.2 : Rat)⟩ = ptAV (gridF q) := rfl
    rw [hgq] at hgr
    obtain ⟨N, hN⟩ : ∃ N, N = rowG (m.take i) := ⟨_, rfl⟩
    obtain ⟨N', hN'⟩ : ∃ N', N' = rowG (m.take (i + 1)) := ⟨_, rfl⟩
    obtain ⟨S, hS⟩ : ∃ S, S = segG z (m.take i) := ⟨_, rfl⟩
    obtain ⟨b, hb⟩ : ∃ b, b = insideB (m.take i) := ⟨_, rfl⟩
    have hNr : refsL N = [] := by rw [hN]; exact hrr _
    have hNr' : refsL N' = [] := by rw [hN']; exact hrr _
    have hSr : refsL S = [] := by rw [hS]; exact hsr _ _
    have hNn : ∀ ρ, renL ρ N = N := fun ρ => renL_id ρ _ hNr
    have hNn' : ∀ ρ, renL ρ N' = N' := fun ρ => renL_id ρ _ hNr'
    have hSn : ∀ ρ, renL ρ S = S := fun ρ => renL_id ρ _ hSr
    rw [← hN] at hr1 hr2
    rw [← hN'] at hr1 hr3 ht0 ht1
    rw [← hS] at hs1 hs2
    rw [← hb] at hb1
    simp only [← hN, ← hS, ← hb]
    obtain ⟨P, hP⟩ : ∃ P, P = gridF q := ⟨_, rfl⟩
    obtain ⟨Z, hZ⟩ : ∃ Z, Z = gridF z := ⟨_, rfl⟩
    rw [← hP] at hgr hr1 hs1 ht1
    rw [← hZ] at ht0 hs1
    obtain ⟨qx, qy⟩ := q
    simp only at ht hgr hq
    have htl := congrArg List.length ht
    rw [List.length_drop, hlen, List.length_cons, List.length_cons] at htl
    rw [Nat.zero_mul, List.drop_zero] at ht0
    have ht0' : N'.take 8 = ptC Z := by rw [ht0]; exact List.take_left' rfl
    have hNN : rowG (m.take (i + 1)) = N' := hN'.symm
    clear hN hN' hS hP hZ hat hq2 hz0 hgq
    refine W_seq ?_
    refine W_joinQ (X := Unit) (fun _ => [(0, .slc g 2 n L), (3, .bs 500 8 0 (i + 1)), (4, .bs 501 16 0 i), (5, boolV b), (6, i64V i)]) (fun _ => [(500, .mut 33 N'), (501, .mut 38 S)]) (fun _ => True) ?_ fun _ _ => ?_
    · repeat' (first
        | with_reducible first | apply thenW_n | apply thenW_ret | apply thenW_exit | apply thenW_panic | apply blockW_n | apply blockW_same | apply blockW_ret | apply blockW_panic | apply loopW_ret | apply loopW_exit | apply loopW_panic | apply joinW_ret | apply joinW_exit | apply joinW_panic | apply W_seq | apply W_block | apply W_skip | apply W_ret | apply W_exit | apply W_label
        | with_reducible refine blockW_other (by decide) ?_
        | with_reducible refine W_region (by first | decide | (with_unfolding_all rfl)) ?_
        | (rw [vcn]; (try simp [push_cast, -List.map_take, -List.map_drop, ht, hlen, hlt]); try simp (disch := omega) only [i64_in, u64_in, shr64i])
        | with_reducible refine W_drawn mixed (by decide) (by kernel_rfl) ?_
        | (rw [vcnD]; (try simp [push_cast, -List.map_take, -List.map_drop, ht, hlen, hlt]); try simp (disch := omega) only [i64_in, u64_in, shr64i])
        | (with_reducible refine W_condW ?_; (try simp [AS.val, upd, resB, mkS_env, mkS_box, lk, entry_env, condW_true, condW_false, ht, hlen, hlt]))
        | with_reducible refine optK_dV (by first | omega | (simp; omega)) ?_
        | with_reducible refine optK_dVh (by omega) ?_
        | refine And.intro (by first | omega | kernel_rfl) ?_
        | (with_reducible refine condW_b (fun hc => ?_) (fun hc => ?_) <;> (try simp [Int.ofNat_inj] at hc) <;> try contradiction)
        | fail)
      first | refine CallG_of (hgr) (by first | rfl | (simp [natAV, numC, ← limbs.eq_1, push_cast, -List.map_take, -List.map_drop]; done)) (by simp [natAV, zAV, zC, ratAV, ratC, ptAV, ptC, sgAV, sgC, AV.refs, refsL, push_cast, -List.map_take, -List.map_drop]) rfl ?_ | refine callD_of (hgr) (by first | rfl | (simp [natAV, numC, ← limbs.eq_1, push_cast, -List.map_take, -List.map_drop]; done)) (by simp [natAV, zAV, zC, ratAV, ratC, ptAV, ptC, sgAV, sgC, AV.refs, refsL, push_cast, -List.map_take, -List.map_drop]) rfl ?_
      try dsimp only
      repeat' (first
        | with_reducible first | apply thenW_n | apply thenW_ret | apply thenW_exit | apply thenW_panic | apply blockW_n | apply blockW_same | apply blockW_ret | apply blockW_panic | apply loopW_ret | apply loopW_exit | apply loopW_panic | apply joinW_ret | apply joinW_exit | apply joinW_panic | apply W_seq | apply W_block | apply W_skip | apply W_ret | apply W_exit | apply W_label
        | with_reducible refine blockW_other (by decide) ?_
        | with_reducible refine W_region (by first | decide | (with_unfolding_all rfl)) ?_
        | (rw [vcn]; (try simp [push_cast, -List.map_take, -List.map_drop, ptAV, ptC, ratC, zC, hr2]); try simp (disch := omega) only [i64_in, u64_in, shr64i])
        | with_reducible refine W_drawn mixed (by decide) (by kernel_rfl) ?_
        | (rw [vcnD]; (try simp [push_cast, -List.map_take, -List.map_drop, ptAV, ptC, ratC, zC, hr2]); try simp (disch := omega) only [i64_in, u64_in, shr64i])
        | (with_reducible refine W_condW ?_; (try simp [AS.val, upd, resB, mkS_env, mkS_box, lk, entry_env, condW_true, condW_false, ptAV, ptC, ratC, zC, hr2]))
        | with_reducible refine optK_dV (by first | omega | (simp; omega)) ?_
        | with_reducible refine optK_dVh (by omega) ?_
        | refine And.intro (by first | omega | kernel_rfl) ?_
        | (with_reducible refine condW_b (fun hc => ?_) (fun hc => ?_) <;> (try simp [Int.ofNat_inj] at hc) <;> try contradiction)
        | fail)
      refine joinW_n () (fun i => if i = 500 then 32 else i) trivial ⟨?_, ?_, ?_, ?_, ?_, ?_⟩
      all_goals first | (with_reducible refine W_id ?_) | (simp [push_cast, -List.map_take, -List.map_drop, dV_take, dV_drop, hLr, hNr, hNn, hNr', hNn', hSr, hSn, hr1, ptC, ratC, zC]; done) | (simp [push_cast, -List.map_take, -List.map_drop, dV_take, dV_drop, hLr, hNr, hNn, hNr', hNn', hSr, hSn, hr1, ptC, ratC, zC]; omega) | (intro i hi; simp; omega) | (intro i hi; dsimp only; (repeat' split) <;> omega) | (simp [push_cast, -List.map_take, -List.map_drop, dV_take, dV_drop, hLr, hNr, hNn, hNr', hNn', hSr, hSn, hr1, ptC, ratC, zC]; fail_if_success done)
    refine W_seq ?_
    refine W_joinQ (X := Unit) (fun _ => [(0, .slc g 2 n L), (3, .bs 500 8 0 (i + 1)), (4, .bs 501 16 0 (i + 1)), (5, boolV b), (6, i64V i)]) (fun _ => [(500, .mut 33 N'), (501, .mut 38 (S ++ (ptC P ++ ptC Z)))]) (fun _ => True) ?_ fun _ _ => ?_
    · repeat' (first
        | with_reducible first | apply thenW_n | apply thenW_ret | apply thenW_exit | apply thenW_panic | apply blockW_n | apply blockW_same | apply blockW_ret | apply blockW_panic | apply loopW_ret | apply loopW_exit | apply loopW_panic | apply joinW_ret | apply joinW_exit | apply joinW_panic | apply W_seq | apply W_block | apply W_skip | apply W_ret | apply W_exit | apply W_label
        | with_reducible refine blockW_other (by decide) ?_
        | with_reducible refine W_region (by first | decide | (with_unfolding_all rfl)) ?_
        | (rw [vcn]; (try simp [push_cast, -List.map_take, -List.map_drop, ht1, ht0', hr3, hs2, hlt, ptC, ratC, zC]); try simp (disch := omega) only [i64_in, u64_in, shr64i])
        | with_reducible refine W_drawn mixed (by decide) (by kernel_rfl) ?_
        | (rw [vcnD]; (try simp [push_cast, -List.map_take, -List.map_drop, ht1, ht0', hr3, hs2, hlt, ptC, ratC, zC]); try simp (disch := omega) only [i64_in, u64_in, shr64i])
        | (with_reducible refine W_condW ?_; (try simp [AS.val, upd, resB, mkS_env, mkS_box, lk, entry_env, condW_true, condW_false, ht1, ht0', hr3, hs2, hlt, ptC, ratC, zC]))
        | with_reducible refine optK_dV (by first | omega | (simp; omega)) ?_
        | with_reducible refine optK_dVh (by omega) ?_
        | refine And.intro (by first | omega | kernel_rfl) ?_
        | (with_reducible refine condW_b (fun hc => ?_) (fun hc => ?_) <;> (try simp [Int.ofNat_inj] at hc) <;> try contradiction)
        | fail)
      refine joinW_n () (fun i => if i = 501 then 43 else i) trivial ⟨?_, ?_, ?_, ?_, ?_, ?_⟩
      all_goals first | (with_reducible refine W_id ?_) | (simp [push_cast, -List.map_take, -List.map_drop, dV_take, dV_drop, hLr, hNr, hNn, hNr', hNn', hSr, hSn, ptC, ratC, zC]; done) | (simp [push_cast, -List.map_take, -List.map_drop, dV_take, dV_drop, hLr, hNr, hNn, hNr', hNn', hSr, hSn, ptC, ratC, zC]; omega) | (intro i hi; simp; omega) | (intro i hi; dsimp only; (repeat' split) <;> omega) | (simp [push_cast, -List.map_take, -List.map_drop, dV_take, dV_drop, hLr, hNr, hNn, hNr', hNn', hSr, hSn, ptC, ratC, zC]; fail_if_success done)
    have hib : inB (qx, qy) = (decide (inC qx) && decide (inC qy)) := rfl
    cases b with
    | false =>
      rw [Bool.false_and] at hb1
      repeat' (first
        | with_reducible first | apply thenW_n | apply thenW_ret | apply thenW_exit | apply thenW_panic | apply blockW_n | apply blockW_same | apply blockW_ret | apply blockW_panic | apply loopW_ret | apply loopW_exit | apply loopW_panic | apply joinW_ret | apply joinW_exit | apply joinW_panic | apply W_seq | apply W_block | apply W_skip | apply W_ret | apply W_exit | apply W_label
        | with_reducible refine blockW_other (by decide) ?_
        | with_reducible refine W_region (by first | decide | (with_unfolding_all rfl)) ?_
        | (rw [vcn]; (try simp [push_cast, -List.map_take, -List.map_drop, ht, hlen, hlt]); try simp (disch := omega) only [i64_in, u64_in, shr64i])
        | with_reducible refine W_drawn mixed (by decide) (by kernel_rfl) ?_
        | (rw [vcnD]; (try simp [push_cast, -List.map_take, -List.map_drop, ht, hlen, hlt]); try simp (disch := omega) only [i64_in, u64_in, shr64i])
        | (with_reducible refine W_condW ?_; (try simp [AS.val, upd, resB, mkS_env, mkS_box, lk, entry_env, condW_true, condW_false, ht, hlen, hlt]))
        | with_reducible refine optK_dV (by first | omega | (simp; omega)) ?_
        | with_reducible refine optK_dVh (by omega) ?_
        | refine And.intro (by first | omega | kernel_rfl) ?_
        | (with_reducible refine condW_b (fun hc => ?_) (fun hc => ?_) <;> (try simp [Int.ofNat_inj] at hc) <;> try contradiction)
        | fail)
      refine loopW_n (i + 1) id (by omega) (by omega) ⟨?_, ?_, ?_, ?_, ?_, ?_⟩
      all_goals first | (with_reducible refine W_id ?_) | (simp [push_cast, -List.map_take, -List.map_drop, dV_take, dV_drop, hLr, hNr', hNn', hSr, hSn, hNN, hs1, hb1, hPr, hPn]; done) | (simp [push_cast, -List.map_take, -List.map_drop, dV_take, dV_drop, hLr, hNr', hNn', hSr, hSn, hNN, hs1, hb1, hPr, hPn]; omega) | (intro i hi; simp; omega) | (intro i hi; dsimp only; (repeat' split) <;> omega) | (simp [push_cast, -List.map_take, -List.map_drop, dV_take, dV_drop, hLr, hNr', hNn', hSr, hSn, hNN, hs1, hb1, hPr, hPn]; fail_if_success done)
    | true =>
      rw [Bool.true_and, hib] at hb1
      by_cases c1 : ¬ -2147483648 ≤ qx
      · have k1 : (-2147483648 ≤ qx) = False := eq_false c1
        have hb2 : (decide (inC qx) && decide (inC qy)) = false := inC_no (fun h1 h2 => by unfold inC at h1 h2; omega)
        rw [hb2] at hb1
        repeat' (first
          | with_reducible first | apply thenW_n | apply thenW_ret | apply thenW_exit | apply thenW_panic | apply blockW_n | apply blockW_same | apply blockW_ret | apply blockW_panic | apply loopW_ret | apply loopW_exit | apply loopW_panic | apply joinW_ret | apply joinW_exit | apply joinW_panic | apply W_seq | apply W_block | apply W_skip | apply W_ret | apply W_exit | apply W_label
          | with_reducible refine blockW_other (by decide) ?_
          | with_reducible refine W_region (by first | decide | (with_unfolding_all rfl)) ?_
          | (rw [vcn]; (try simp [push_cast, -List.map_take, -List.map_drop, ht, hlen, hlt, k1]); try simp (disch := omega) only [i64_in, u64_in, shr64i])
          | with_reducible refine W_drawn mixed (by decide) (by kernel_rfl) ?_
          | (rw [vcnD]; (try simp [push_cast, -List.map_take, -List.map_drop, ht, hlen, hlt, k1]); try simp (disch := omega) only [i64_in, u64_in, shr64i])
          | (with_reducible refine W_condW ?_; (try simp [AS.val, upd, resB, mkS_env, mkS_box, lk, entry_env, condW_true, condW_false, ht, hlen, hlt, k1]))
          | with_reducible refine optK_dV (by first | omega | (simp; omega)) ?_
          | with_reducible refine optK_dVh (by omega) ?_
          | refine And.intro (by first | omega | kernel_rfl) ?_
          | (with_reducible refine condW_b (fun hc => ?_) (fun hc => ?_) <;> (try simp [Int.ofNat_inj] at hc) <;> try contradiction)
          | fail)
        refine loopW_n (i + 1) id (by omega) (by omega) ⟨?_, ?_, ?_, ?_, ?_, ?_⟩
        all_goals first | (with_reducible refine W_id ?_) | (simp [push_cast, -List.map_take, -List.map_drop, dV_take, dV_drop, hLr, hNr', hNn', hSr, hSn, hNN, hs1, hb1, hPr, hPn]; done) | (simp [push_cast, -List.map_take, -List.map_drop, dV_take, dV_drop, hLr, hNr', hNn', hSr, hSn, hNN, hs1, hb1, hPr, hPn]; omega) | (intro i hi; simp; omega) | (intro i hi; dsimp only; (repeat' split) <;> omega) | (simp [push_cast, -List.map_take, -List.map_drop, dV_take, dV_drop, hLr, hNr', hNn', hSr, hSn, hNN, hs1, hb1, hPr, hPn]; fail_if_success done)
      have k1 : (-2147483648 ≤ qx) = True := eq_true (by omega)
      by_cases c2 : ¬ qx < 2147483648
      · have k2 : (qx < 2147483648) = False := eq_false c2
        have hb2 : (decide (inC qx) && decide (inC qy)) = false := inC_no (fun h1 h2 => by unfold inC at h1 h2; omega)
        rw [hb2] at hb1
        repeat' (first
          | with_reducible first | apply thenW_n | apply thenW_ret | apply thenW_exit | apply thenW_panic | apply blockW_n | apply blockW_same | apply blockW_ret | apply blockW_panic | apply loopW_ret | apply loopW_exit | apply loopW_panic | apply joinW_ret | apply joinW_exit | apply joinW_panic | apply W_seq | apply W_block | apply W_skip | apply W_ret | apply W_exit | apply W_label
          | with_reducible refine blockW_other (by decide) ?_
          | with_reducible refine W_region (by first | decide | (with_unfolding_all rfl)) ?_
          | (rw [vcn]; (try simp [push_cast, -List.map_take, -List.map_drop, ht, hlen, hlt, k1, k2]); try simp (disch := omega) only [i64_in, u64_in, shr64i])
          | with_reducible refine W_drawn mixed (by decide) (by kernel_rfl) ?_
          | (rw [vcnD]; (try simp [push_cast, -List.map_take, -List.map_drop, ht, hlen, hlt, k1, k2]); try simp (disch := omega) only [i64_in, u64_in, shr64i])
          | (with_reducible refine W_condW ?_; (try simp [AS.val, upd, resB, mkS_env, mkS_box, lk, entry_env, condW_true, condW_false, ht, hlen, hlt, k1, k2]))
          | with_reducible refine optK_dV (by first | omega | (simp; omega)) ?_
          | with_reducible refine optK_dVh (by omega) ?_
          | refine And.intro (by first | omega | kernel_rfl) ?_
          | (with_reducible refine condW_b (fun hc => ?_) (fun hc => ?_) <;> (try simp [Int.ofNat_inj] at hc) <;> try contradiction)
          | fail)
        refine loopW_n (i + 1) id (by omega) (by omega) ⟨?_, ?_, ?_, ?_, ?_, ?_⟩
        all_goals first | (with_reducible refine W_id ?_) | (simp [push_cast, -List.map_take, -List.map_drop, dV_take, dV_drop, hLr, hNr', hNn', hSr, hSn, hNN, hs1, hb1, hPr, hPn]; done) | (simp [push_cast, -List.map_take, -List.map_drop, dV_take, dV_drop, hLr, hNr', hNn', hSr, hSn, hNN, hs1, hb1, hPr, hPn]; omega) | (intro i hi; simp; omega) | (intro i hi; dsimp only; (repeat' split) <;> omega) | (simp [push_cast, -List.map_take, -List.map_drop, dV_take, dV_drop, hLr, hNr', hNn', hSr, hSn, hNN, hs1, hb1, hPr, hPn]; fail_if_success done)
      have k2 : (qx < 2147483648) = True := eq_true (by omega)
      by_cases c3 : ¬ -2147483648 ≤ qy
      · have k3 : (-2147483648 ≤ qy) = False := eq_false c3
        have hb2 : (decide (inC qx) && decide (inC qy)) = false := inC_no (fun h1 h2 => by unfold inC at h1 h2; omega)
        rw [hb2] at hb1
        repeat' (first
          | with_reducible first | apply thenW_n | apply thenW_ret | apply thenW_exit | apply thenW_panic | apply blockW_n | apply blockW_same | apply blockW_ret | apply blockW_panic | apply loopW_ret | apply loopW_exit | apply loopW_panic | apply joinW_ret | apply joinW_exit | apply joinW_panic | apply W_seq | apply W_block | apply W_skip | apply W_ret | apply W_exit | apply W_label
          | with_reducible refine blockW_other (by decide) ?_
          | with_reducible refine W_region (by first | decide | (with_unfolding_all rfl)) ?_
          | (rw [vcn]; (try simp [push_cast, -List.map_take, -List.map_drop, ht, hlen, hlt, k1, k2, k3]); try simp (disch := omega) only [i64_in, u64_in, shr64i])
          | with_reducible refine W_drawn mixed (by decide) (by kernel_rfl) ?_
          | (rw [vcnD]; (try simp [push_cast, -List.map_take, -List.map_drop, ht, hlen, hlt, k1, k2, k3]); try simp (disch := omega) only [i64_in, u64_in, shr64i])
          | (with_reducible refine W_condW ?_; (try simp [AS.val, upd, resB, mkS_env, mkS_box, lk, entry_env, condW_true, condW_false, ht, hlen, hlt, k1, k2, k3]))
          | with_reducible refine optK_dV (by first | omega | (simp; omega)) ?_
          | with_reducible refine optK_dVh (by omega) ?_
          | refine And.intro (by first | omega | kernel_rfl) ?_
          | (with_reducible refine condW_b (fun hc => ?_) (fun hc => ?_) <;> (try simp [Int.ofNat_inj] at hc) <;> try contradiction)
          | fail)
        refine loopW_n (i + 1) id (by omega) (by omega) ⟨?_, ?_, ?_, ?_, ?_, ?_⟩
        all_goals first | (with_reducible refine W_id ?_) | (simp [push_cast, -List.map_take, -List.map_drop, dV_take, dV_drop, hLr, hNr', hNn', hSr, hSn, hNN, hs1, hb1, hPr, hPn]; done) | (simp [push_cast, -List.map_take, -List.map_drop, dV_take, dV_drop, hLr, hNr', hNn', hSr, hSn, hNN, hs1, hb1, hPr, hPn]; omega) | (intro i hi; simp; omega) | (intro i hi; dsimp only; (repeat' split) <;> omega) | (simp [push_cast, -List.map_take, -List.map_drop, dV_take, dV_drop, hLr, hNr', hNn', hSr, hSn, hNN, hs1, hb1, hPr, hPn]; fail_if_success done)
      have k3 : (-2147483648 ≤ qy) = True := eq_true (by omega)
      by_cases c4 : ¬ qy < 2147483648
      · have k4 : (qy < 2147483648) = False := eq_false c4
        have hb2 : (decide (inC qx) && decide (inC qy)) = false := inC_no (fun h1 h2 => by unfold inC at h1 h2; omega)
        rw [hb2] at hb1
        repeat' (first
          | with_reducible first | apply thenW_n | apply thenW_ret | apply thenW_exit | apply thenW_panic | apply blockW_n | apply blockW_same | apply blockW_ret | apply blockW_panic | apply loopW_ret | apply loopW_exit | apply loopW_panic | apply joinW_ret | apply joinW_exit | apply joinW_panic | apply W_seq | apply W_block | apply W_skip | apply W_ret | apply W_exit | apply W_label
          | with_reducible refine blockW_other (by decide) ?_
          | with_reducible refine W_region (by first | decide | (with_unfolding_all rfl)) ?_
          | (rw [vcn]; (try simp [push_cast, -List.map_take, -List.map_drop, ht, hlen, hlt, k1, k2, k3, k4]); try simp (disch := omega) only [i64_in, u64_in, shr64i])
          | with_reducible refine W_drawn mixed (by decide) (by kernel_rfl) ?_
          | (rw [vcnD]; (try simp [push_cast, -List.map_take, -List.map_drop, ht, hlen, hlt, k1, k2, k3, k4]); try simp (disch := omega) only [i64_in, u64_in, shr64i])
          | (with_reducible refine W_condW ?_; (try simp [AS.val, upd, resB, mkS_env, mkS_box, lk, entry_env, condW_true, condW_false, ht, hlen, hlt, k1, k2, k3, k4]))
          | with_reducible refine optK_dV (by first | omega | (simp; omega)) ?_
          | with_reducible refine optK_dVh (by omega) ?_
          | refine And.intro (by first | omega | kernel_rfl) ?_
          | (with_reducible refine condW_b (fun hc => ?_) (fun hc => ?_) <;> (try simp [Int.ofNat_inj] at hc) <;> try contradiction)
          | fail)
        refine loopW_n (i + 1) id (by omega) (by omega) ⟨?_, ?_, ?_, ?_, ?_, ?_⟩
        all_goals first | (with_reducible refine W_id ?_) | (simp [push_cast, -List.map_take, -List.map_drop, dV_take, dV_drop, hLr, hNr', hNn', hSr, hSn, hNN, hs1, hb1, hPr, hPn]; done) | (simp [push_cast, -List.map_take, -List.map_drop, dV_take, dV_drop, hLr, hNr', hNn', hSr, hSn, hNN, hs1, hb1, hPr, hPn]; omega) | (intro i hi; simp; omega) | (intro i hi; dsimp only; (repeat' split) <;> omega) | (simp [push_cast, -List.map_take, -List.map_drop, dV_take, dV_drop, hLr, hNr', hNn', hSr, hSn, hNN, hs1, hb1, hPr, hPn]; fail_if_success done)
      have k4 : (qy < 2147483648) = True := eq_true (by omega)
      have hb2 : (decide (inC qx) && decide (inC qy)) = true := inC_yes (by unfold inC; omega) (by unfold inC; omega)
      rw [hb2] at hb1
      repeat' (first
        | with_reducible first | apply thenW_n | apply thenW_ret | apply thenW_exit | apply thenW_panic | apply blockW_n | apply blockW_same | apply blockW_ret | apply blockW_panic | apply loopW_ret | apply loopW_exit | apply loopW_panic | apply joinW_ret | apply joinW_exit | apply joinW_panic | apply W_seq | apply W_block | apply W_skip | apply W_ret | apply W_exit | apply W_label
        | with_reducible refine blockW_other (by decide) ?_
        | with_reducible refine W_region (by first | decide | (with_unfolding_all rfl)) ?_
        | (rw [vcn]; (try simp [push_cast, -List.map_take, -List.map_drop, ht, hlen, hlt, k1, k2, k3, k4]); try simp (disch := omega) only [i64_in, u64_in, shr64i])
        | with_reducible refine W_drawn mixed (by decide) (by kernel_rfl) ?_
        | (rw [vcnD]; (try simp [push_cast, -List.map_take, -List.map_drop, ht, hlen, hlt, k1, k2, k3, k4]); try simp (disch := omega) only [i64_in, u64_in, shr64i])
        | (with_reducible refine W_condW ?_; (try simp [AS.val, upd, resB, mkS_env, mkS_box, lk, entry_env, condW_true, condW_false, ht, hlen, hlt, k1, k2, k3, k4]))
        | with_reducible refine optK_dV (by first | omega | (simp; omega)) ?_
        | with_reducible refine optK_dVh (by omega) ?_
        | refine And.intro (by first | omega | kernel_rfl) ?_
        | (with_reducible refine condW_b (fun hc => ?_) (fun hc => ?_) <;> (try simp [Int.ofNat_inj] at hc) <;> try contradiction)
        | fail)
      refine loopW_n (i + 1) id (by omega) (by omega) ⟨?_, ?_, ?_, ?_, ?_, ?_⟩
      all_goals first | (with_reducible refine W_id ?_) | (simp [push_cast, -List.map_take, -List.map_drop, dV_take, dV_drop, hLr, hNr', hNn', hSr, hSn, hNN, hs1, hb1, hPr, hPn]; done) | (simp [push_cast, -List.map_take, -List.map_drop, dV_take, dV_drop, hLr, hNr', hNn', hSr, hSn, hNN, hs1, hb1, hPr, hPn]; omega) | (intro i hi; simp; omega) | (intro i hi; dsimp only; (repeat' split) <;> omega) | (simp [push_cast, -List.map_take, -List.map_drop, dV_take, dV_drop, hLr, hNr', hNn', hSr, hSn, hNN, hs1, hb1, hPr, hPn]; fail_if_success done)
  refine W_frz 500 (e := 33) (l := rowG m) (by simp [mkS_box, lk]) (rowG_refs _) ?_
  refine W_frz 501 (e := 38) (l := segG z m) (by simp [upd, mkS_box, lk]) (segG_refs _ _) ?_
  have hzm : 0 < n → z ∈ m := by
    intro h0
    rw [hz, List.getD_eq_getElem?_getD, List.getElem?_eq_getElem (by omega)]
    exact List.getElem_mem _
  have hgs : ∀ q ∈ m, szV (gridF q) ≤ 20 := fun q hq => grid_sz (hIm q hq).1 (hIm q hq).2
  have hrs : ∀ r ∈ [rowF m], ∀ p ∈ r, szV p ≤ 1000 := by
    intro r hr p hp
    rw [List.mem_singleton.1 hr] at hp
    obtain ⟨q, hq, rfl⟩ := List.mem_map.1 hp
    have := hgs q hq
    omega
  have hrl : ∀ r ∈ [rowF m], r.length ≤ 100000 := by
    intro r hr
    rw [List.mem_singleton.1 hr]
    unfold rowF
    rw [List.length_map]
    omega
  have r1 := snapRows_ok false [rowF m] hrs (by simp) hrl
  have w1 := snapWhole_ok false [rowF m] hrs (by simp) hrl
  have b1 := snapBox_ok false (segsF z m) (by
    intro s hs
    obtain ⟨q, hq, rfl⟩ := List.mem_map.1 hs
    have h1 := hgs q hq
    have h2 := hgs z (hzm (by rw [hn]; exact List.length_pos_of_mem hq))
    show szV (gridF q) + szV (gridF z) ≤ 1000
    omega) (by unfold segsF; rw [List.length_map]; omega)
  rw [wholeB_grid] at w1
  have hrc : rowC (rowF m) = .slc false 8 n (rowG m) := by unfold rowC rowG rowF; rw [List.length_map, ← hn]
  have hsl : (segsF z m).length = n := by unfold segsF; rw [List.length_map, hn]
  have hsg : sgsC (segsF z m) = segG z m := rfl
  have hm1 : [rowF m].map rowC = [.slc false 8 n (rowG m)] := by rw [List.map_cons, hrc]; rfl
  rw [hm1] at r1 w1
  rw [hsl, hsg] at b1
  have hRl : (rowG m).length = n * 8 := by rw [rowG_len, hn]
  have hSl : (segG z m).length = n * 16 := by rw [segG_len, hn]
  have hRt : (rowG m).take (n * 8) = rowG m := List.take_of_length_le (by omega)
  have hSt : (segG z m).take (n * 16) = segG z m := List.take_of_length_le (by omega)
  have hrok := rowsOk_grid m
  by_cases hin : ¬ insideB m = true
  · have hin2 : insideB m = false := by simpa using hin
    have hn0 : 0 < n := by
      rcases Nat.eq_zero_or_pos n with h0 | h0
      · have : m = [] := List.eq_nil_of_length_eq_zero (by omega)
        subst this
        exact absurd rfl hin
      · exact h0
    obtain ⟨a, b, e1, e2, hbo⟩ := box_grid z m (hzm hn0)
    have hnb := (not_congr (box_inside hbo)).2 hin
    have hbx : boxAV (segsF z m) = .tup [.agg (ptI (0, 0)), .agg (ptI (0, 0)), i64V 26] := by
      unfold boxAV
      rw [if_neg (by omega), e1, e2]
      unfold gridZ
      by_cases h1 : inC a.1 ∧ inC a.2
      · have h2 : ¬ (inC b.1 ∧ inC b.2) := fun h2 => hnb ⟨h1, h2⟩
        rw [if_pos h1, if_neg h2]
      · rw [if_neg h1]
    rw [hbx] at b1
    rw [rowsAV, if_neg (by rw [hrok]; exact hin)] at r1
    rw [hin2]
    repeat' (first
      | with_reducible first | apply thenW_n | apply thenW_ret | apply thenW_exit | apply thenW_panic | apply blockW_n | apply blockW_same | apply blockW_ret | apply blockW_panic | apply loopW_ret | apply loopW_exit | apply loopW_panic | apply joinW_ret | apply joinW_exit | apply joinW_panic | apply W_seq | apply W_block | apply W_skip | apply W_ret | apply W_exit | apply W_label
      | with_reducible refine blockW_other (by decide) ?_
      | with_reducible refine W_region (by first | decide | (with_unfolding_all rfl)) ?_
      | (rw [vcn]; (try simp [push_cast, -List.map_take, -List.map_drop, hRl, hRt, hSl, hSt]); try simp (disch := omega) only [i64_in, u64_in, shr64i])
      | with_reducible refine W_drawn mixed (by decide) (by kernel_rfl) ?_
      | (rw [vcnD]; (try simp [push_cast, -List.map_take, -List.map_drop, hRl, hRt, hSl, hSt]); try simp (disch := omega) only [i64_in, u64_in, shr64i])
      | (with_reducible refine W_condW ?_; (try simp [AS.val, upd, resB, mkS_env, mkS_box, lk, entry_env, condW_true, condW_false, hRl, hRt, hSl, hSt]))
      | with_reducible refine optK_dV (by first | omega | (simp; omega)) ?_
      | with_reducible refine optK_dVh (by omega) ?_
      | refine And.intro (by first | omega | kernel_rfl) ?_
      | (with_reducible refine condW_b (fun hc => ?_) (fun hc => ?_) <;> (try simp [Int.ofNat_inj] at hc) <;> try contradiction)
      | fail)
    refine CallG_frz _ _ rfl ?_ (r1) ?_ (by simp [AV.refs, refsL, push_cast, -List.map_take, -List.map_drop]) rfl ?_
    · first | (simp [refsL, AV.refs, frzS, resDL, resD, resB, upd, mkS_env, mkS_box, entry_env, entry_box, lk, push_cast, -List.map_take, -List.map_drop]; done) | (simp [refsL, AV.refs, frzS, resDL, resD, resB, upd, mkS_env, mkS_box, entry_env, entry_box, lk, push_cast, -List.map_take, -List.map_drop]; rw [List.take_of_length_le (by simp)]; done) | (simp [refsL, AV.refs, frzS, resDL, resD, resB, upd, mkS_env, mkS_box, entry_env, entry_box, lk, push_cast, -List.map_take, -List.map_drop]; fail_if_success done)
    · simp [refsL, AV.refs, frzOk, upd, mkS_env, mkS_box, entry_env, entry_box, lk, push_cast, -List.map_take, -List.map_drop]
    try dsimp only
    try simp only [refsL, AV.refs, frzS, List.append_nil, upd, mkS_box, entry_box, lk, if_true, if_false]
    repeat' (first
      | with_reducible first | apply thenW_n | apply thenW_ret | apply thenW_exit | apply thenW_panic | apply blockW_n | apply blockW_same | apply blockW_ret | apply blockW_panic | apply loopW_ret | apply loopW_exit | apply loopW_panic | apply joinW_ret | apply joinW_exit | apply joinW_panic | apply W_seq | apply W_block | apply W_skip | apply W_ret | apply W_exit | apply W_label
      | with_reducible refine blockW_other (by decide) ?_
      | with_reducible refine W_region (by first | decide | (with_unfolding_all rfl)) ?_
      | (rw [vcn]; (try simp [push_cast, -List.map_take, -List.map_drop, hRl, hRt, hSl, hSt]); try simp (disch := omega) only [i64_in, u64_in, shr64i])
      | with_reducible refine W_drawn mixed (by decide) (by kernel_rfl) ?_
      | (rw [vcnD]; (try simp [push_cast, -List.map_take, -List.map_drop, hRl, hRt, hSl, hSt]); try simp (disch := omega) only [i64_in, u64_in, shr64i])
      | (with_reducible refine W_condW ?_; (try simp [AS.val, upd, resB, mkS_env, mkS_box, lk, entry_env, condW_true, condW_false, hRl, hRt, hSl, hSt]))
      | with_reducible refine optK_dV (by first | omega | (simp; omega)) ?_
      | with_reducible refine optK_dVh (by omega) ?_
      | refine And.intro (by first | omega | kernel_rfl) ?_
      | (with_reducible refine condW_b (fun hc => ?_) (fun hc => ?_) <;> (try simp [Int.ofNat_inj] at hc) <;> try contradiction)
      | fail)
    first | refine CallG_of (b1) (by first | rfl | (simp [natAV, numC, ← limbs.eq_1, push_cast, -List.map_take, -List.map_drop]; done)) (by simp [natAV, zAV, zC, ratAV, ratC, ptAV, ptC, sgAV, sgC, AV.refs, refsL, push_cast, -List.map_take, -List.map_drop]) rfl ?_ | refine callD_of (b1) (by first | rfl | (simp [natAV, numC, ← limbs.eq_1, push_cast, -List.map_take, -List.map_drop]; done)) (by simp [natAV, zAV, zC, ratAV, ratC, ptAV, ptC, sgAV, sgC, AV.refs, refsL, push_cast, -List.map_take, -List.map_drop]) rfl ?_
    try dsimp only
    repeat' (first
      | with_reducible first | apply thenW_n | apply thenW_ret | apply thenW_exit | apply thenW_panic | apply blockW_n | apply blockW_same | apply blockW_ret | apply blockW_panic | apply loopW_ret | apply loopW_exit | apply loopW_panic | apply joinW_ret | apply joinW_exit | apply joinW_panic | apply W_seq | apply W_block | apply W_skip | apply W_ret | apply W_exit | apply W_label
      | with_reducible refine blockW_other (by decide) ?_
      | with_reducible refine W_region (by first | decide | (with_unfolding_all rfl)) ?_
      | (rw [vcn]; (try simp [push_cast, -List.map_take, -List.map_drop, ptI]); try simp (disch := omega) only [i64_in, u64_in, shr64i])
      | with_reducible refine W_drawn mixed (by decide) (by kernel_rfl) ?_
      | (rw [vcnD]; (try simp [push_cast, -List.map_take, -List.map_drop, ptI]); try simp (disch := omega) only [i64_in, u64_in, shr64i])
      | (with_reducible refine W_condW ?_; (try simp [AS.val, upd, resB, mkS_env, mkS_box, lk, entry_env, condW_true, condW_false, ptI]))
      | with_reducible refine optK_dV (by first | omega | (simp; omega)) ?_
      | with_reducible refine optK_dVh (by omega) ?_
      | refine And.intro (by first | omega | kernel_rfl) ?_
      | (with_reducible refine condW_b (fun hc => ?_) (fun hc => ?_) <;> (try simp [Int.ofNat_inj] at hc) <;> try contradiction)
      | fail)
    first | refine CallG_of (known18_ok) (by first | rfl | (simp [natAV, numC, ← limbs.eq_1, push_cast, -List.map_take, -List.map_drop]; done)) (by simp [natAV, zAV, zC, ratAV, ratC, ptAV, ptC, sgAV, sgC, AV.refs, refsL, push_cast, -List.map_take, -List.map_drop]) rfl ?_ | refine callD_of (known18_ok) (by first | rfl | (simp [natAV, numC, ← limbs.eq_1, push_cast, -List.map_take, -List.map_drop]; done)) (by simp [natAV, zAV, zC, ratAV, ratC, ptAV, ptC, sgAV, sgC, AV.refs, refsL, push_cast, -List.map_take, -List.map_drop]) rfl ?_
    try dsimp only
    repeat' (first
      | with_reducible first | apply thenW_n | apply thenW_ret | apply thenW_exit | apply thenW_panic | apply blockW_n | apply blockW_same | apply blockW_ret | apply blockW_panic | apply loopW_ret | apply loopW_exit | apply loopW_panic | apply joinW_ret | apply joinW_exit | apply joinW_panic | apply W_seq | apply W_block | apply W_skip | apply W_ret | apply W_exit | apply W_label
      | with_reducible refine blockW_other (by decide) ?_
      | with_reducible refine W_region (by first | decide | (with_unfolding_all rfl)) ?_
      | (rw [vcn]; (try simp [push_cast, -List.map_take, -List.map_drop, hRl, hRt, hSl, hSt]); try simp (disch := omega) only [i64_in, u64_in, shr64i])
      | with_reducible refine W_drawn mixed (by decide) (by kernel_rfl) ?_
      | (rw [vcnD]; (try simp [push_cast, -List.map_take, -List.map_drop, hRl, hRt, hSl, hSt]); try simp (disch := omega) only [i64_in, u64_in, shr64i])
      | (with_reducible refine W_condW ?_; (try simp [AS.val, upd, resB, mkS_env, mkS_box, lk, entry_env, condW_true, condW_false, hRl, hRt, hSl, hSt]))
      | with_reducible refine optK_dV (by first | omega | (simp; omega)) ?_
      | with_reducible refine optK_dVh (by omega) ?_
      | refine And.intro (by first | omega | kernel_rfl) ?_
      | (with_reducible refine condW_b (fun hc => ?_) (fun hc => ?_) <;> (try simp [Int.ofNat_inj] at hc) <;> try contradiction)
      | fail)
    refine CallG_frz _ _ rfl ?_ (w1) ?_ (by simp [AV.refs, refsL, push_cast, -List.map_take, -List.map_drop]) rfl ?_
    · first | (simp [refsL, AV.refs, frzS, resDL, resD, resB, upd, mkS_env, mkS_box, entry_env, entry_box, lk, push_cast, -List.map_take, -List.map_drop]; done) | (simp [refsL, AV.refs, frzS, resDL, resD, resB, upd, mkS_env, mkS_box, entry_env, entry_box, lk, push_cast, -List.map_take, -List.map_drop]; rw [List.take_of_length_le (by simp)]; done) | (simp [refsL, AV.refs, frzS, resDL, resD, resB, upd, mkS_env, mkS_box, entry_env, entry_box, lk, push_cast, -List.map_take, -List.map_drop]; fail_if_success done)
    · simp [refsL, AV.refs, frzOk, upd, mkS_env, mkS_box, entry_env, entry_box, lk, push_cast, -List.map_take, -List.map_drop]
    try dsimp only
    try simp only [refsL, AV.refs, frzS, List.append_nil, upd, mkS_box, entry_box, lk, if_true, if_false]
    repeat' (first
      | with_reducible first | apply thenW_n | apply thenW_ret | apply thenW_exit | apply thenW_panic | apply blockW_n | apply blockW_same | apply blockW_ret | apply blockW_panic | apply loopW_ret | apply loopW_exit | apply loopW_panic | apply joinW_ret | apply joinW_exit | apply joinW_panic | apply W_seq | apply W_block | apply W_skip | apply W_ret | apply W_exit | apply W_label
      | with_reducible refine blockW_other (by decide) ?_
      | with_reducible refine W_region (by first | decide | (with_unfolding_all rfl)) ?_
      | (rw [vcn]; (try simp [push_cast, -List.map_take, -List.map_drop]); try simp (disch := omega) only [i64_in, u64_in, shr64i])
      | with_reducible refine W_drawn mixed (by decide) (by kernel_rfl) ?_
      | (rw [vcnD]; (try simp [push_cast, -List.map_take, -List.map_drop]); try simp (disch := omega) only [i64_in, u64_in, shr64i])
      | (with_reducible refine W_condW ?_; (try simp [AS.val, upd, resB, mkS_env, mkS_box, lk, entry_env, condW_true, condW_false]))
      | with_reducible refine optK_dV (by first | omega | (simp; omega)) ?_
      | with_reducible refine optK_dVh (by omega) ?_
      | refine And.intro (by first | omega | kernel_rfl) ?_
      | (with_reducible refine condW_b (fun hc => ?_) (fun hc => ?_) <;> (try simp [Int.ofNat_inj] at hc) <;> try contradiction)
      | fail)
    simp [post, resAV, resAll, resOne, closeV, closeC, closeL, resD, resDL, push_cast, -List.map_take, -List.map_drop]
  have hin : insideB m = true := by simpa using hin
  have hnp : ptsN (rowF m) = L := by rw [ptsN_grid m hin, hL]
  have hoc : outC [rowF m] = [.slc false 2 n L] := by
    have : outC [rowF m] = [.slc false 2 (rowF m).length (ptsN (rowF m))] := rfl
    rw [this, hnp]
    unfold rowF
    rw [List.length_map, hn]
  rw [rowsAV, if_pos (by rw [hrok]; exact hin), hoc] at r1
  have hbx : ∃ (a b : Int × Int) (fe : Int), boxAV (segsF z m) = .tup [.agg (ptI a), .agg (ptI b), i64V fe] ∧ ((n = 0 ∧ fe = 7) ∨ (0 < n ∧ fe = 0 ∧ BoxOf m a b)) := by
    rcases Nat.eq_zero_or_pos n with h0 | h0
    · refine ⟨(0, 0), (0, 0), 7, ?_, .inl ⟨h0, rfl⟩⟩
      unfold boxAV
      rw [if_pos (by omega)]
    · obtain ⟨a, b, e1, e2, hbo⟩ := box_grid z m (hzm h0)
      have hib := (box_inside hbo).2 hin
      refine ⟨a, b, 0, ?_, .inr ⟨h0, rfl, hbo⟩⟩
      unfold boxAV
      rw [if_neg (by omega), e1, e2, gridZ, gridZ, if_pos hib.1, if_pos hib.2]
  obtain ⟨⟨ax, ay⟩, ⟨bx, by'⟩, fe, hbx, hcase⟩ := hbx
  rw [hbx] at b1
  rw [hin]
  clear hbx hrs hrl hgs hrc hsl hsg hm1 hrok hoc hnp hzm
  repeat' (first
    | with_reducible first | apply thenW_n | apply thenW_ret | apply thenW_exit | apply thenW_panic | apply blockW_n | apply blockW_same | apply blockW_ret | apply blockW_panic | apply loopW_ret | apply loopW_exit | apply loopW_panic | apply joinW_ret | apply joinW_exit | apply joinW_panic | apply W_seq | apply W_block | apply W_skip | apply W_ret | apply W_exit | apply W_label
    | with_reducible refine blockW_other (by decide) ?_
    | with_reducible refine W_region (by first | decide | (with_unfolding_all rfl)) ?_
    | (rw [vcn]; (try simp [push_cast, -List.map_take, -List.map_drop, hRl, hRt, hSl, hSt]); try simp (disch := omega) only [i64_in, u64_in, shr64i])
    | with_reducible refine W_drawn mixed (by decide) (by kernel_rfl) ?_
    | (rw [vcnD]; (try simp [push_cast, -List.map_take, -List.map_drop, hRl, hRt, hSl, hSt]); try simp (disch := omega) only [i64_in, u64_in, shr64i])
    | (with_reducible refine W_condW ?_; (try simp [AS.val, upd, resB, mkS_env, mkS_box, lk, entry_env, condW_true, condW_false, hRl, hRt, hSl, hSt]))
    | with_reducible refine optK_dV (by first | omega | (simp; omega)) ?_
    | with_reducible refine optK_dVh (by omega) ?_
    | refine And.intro (by first | omega | kernel_rfl) ?_
    | (with_reducible refine condW_b (fun hc => ?_) (fun hc => ?_) <;> (try simp [Int.ofNat_inj] at hc) <;> try contradiction)
    | fail)
  refine CallG_frz _ _ rfl ?_ (r1) ?_ (by simp [AV.refs, refsL, push_cast, -List.map_take, -List.map_drop]) rfl ?_
  · first | (simp [refsL, AV.refs, frzS, resDL, resD, resB, upd, mkS_env, mkS_box, entry_env, entry_box, lk, push_cast, -List.map_take, -List.map_drop]; done) | (simp [refsL, AV.refs, frzS, resDL, resD, resB, upd, mkS_env, mkS_box, entry_env, entry_box, lk, push_cast, -List.map_take, -List.map_drop]; rw [List.take_of_length_le (by simp)]; done) | (simp [refsL, AV.refs, frzS, resDL, resD, resB, upd, mkS_env, mkS_box, entry_env, entry_box, lk, push_cast, -List.map_take, -List.map_drop]; fail_if_success done)
  · simp [refsL, AV.refs, frzOk, upd, mkS_env, mkS_box, entry_env, entry_box, lk, push_cast, -List.map_take, -List.map_drop]
  try dsimp only
  try simp only [refsL, AV.refs, frzS, List.append_nil, upd, mkS_box, entry_box, lk, if_true, if_false]
  repeat' (first
    | with_reducible first | apply thenW_n | apply thenW_ret | apply thenW_exit | apply thenW_panic | apply blockW_n | apply blockW_same | apply blockW_ret | apply blockW_panic | apply loopW_ret | apply loopW_exit | apply loopW_panic | apply joinW_ret | apply joinW_exit | apply joinW_panic | apply W_seq | apply W_block | apply W_skip | apply W_ret | apply W_exit | apply W_label
    | with_reducible refine blockW_other (by decide) ?_
    | with_reducible refine W_region (by first | decide | (with_unfolding_all rfl)) ?_
    | (rw [vcn]; (try simp [push_cast, -List.map_take, -List.map_drop, hRl, hRt, hSl, hSt]); try simp (disch := omega) only [i64_in, u64_in, shr64i])
    | with_reducible refine W_drawn mixed (by decide) (by kernel_rfl) ?_
    | (rw [vcnD]; (try simp [push_cast, -List.map_take, -List.map_drop, hRl, hRt, hSl, hSt]); try simp (disch := omega) only [i64_in, u64_in, shr64i])
    | (with_reducible refine W_condW ?_; (try simp [AS.val, upd, resB, mkS_env, mkS_box, lk, entry_env, condW_true, condW_false, hRl, hRt, hSl, hSt]))
    | with_reducible refine optK_dV (by first | omega | (simp; omega)) ?_
    | with_reducible refine optK_dVh (by omega) ?_
    | refine And.intro (by first | omega | kernel_rfl) ?_
    | (with_reducible refine condW_b (fun hc => ?_) (fun hc => ?_) <;> (try simp [Int.ofNat_inj] at hc) <;> try contradiction)
    | fail)
  first | refine CallG_of (b1) (by first | rfl | (simp [natAV, numC, ← limbs.eq_1, push_cast, -List.map_take, -List.map_drop]; done)) (by simp [natAV, zAV, zC, ratAV, ratC, ptAV, ptC, sgAV, sgC, AV.refs, refsL, push_cast, -List.map_take, -List.map_drop]) rfl ?_ | refine callD_of (b1) (by first | rfl | (simp [natAV, numC, ← limbs.eq_1, push_cast, -List.map_take, -List.map_drop]; done)) (by simp [natAV, zAV, zC, ratAV, ratC, ptAV, ptC, sgAV, sgC, AV.refs, refsL, push_cast, -List.map_take, -List.map_drop]) rfl ?_
  try dsimp only
  repeat' (first
    | with_reducible first | apply thenW_n | apply thenW_ret | apply thenW_exit | apply thenW_panic | apply blockW_n | apply blockW_same | apply blockW_ret | apply blockW_panic | apply loopW_ret | apply loopW_exit | apply loopW_panic | apply joinW_ret | apply joinW_exit | apply joinW_panic | apply W_seq | apply W_block | apply W_skip | apply W_ret | apply W_exit | apply W_label
    | with_reducible refine blockW_other (by decide) ?_
    | with_reducible refine W_region (by first | decide | (with_unfolding_all rfl)) ?_
    | (rw [vcn]; (try simp [push_cast, -List.map_take, -List.map_drop, ptI]); try simp (disch := omega) only [i64_in, u64_in, shr64i])
    | with_reducible refine W_drawn mixed (by decide) (by kernel_rfl) ?_
    | (rw [vcnD]; (try simp [push_cast, -List.map_take, -List.map_drop, ptI]); try simp (disch := omega) only [i64_in, u64_in, shr64i])
    | (with_reducible refine W_condW ?_; (try simp [AS.val, upd, resB, mkS_env, mkS_box, lk, entry_env, condW_true, condW_false, ptI]))
    | with_reducible refine optK_dV (by first | omega | (simp; omega)) ?_
    | with_reducible refine optK_dVh (by omega) ?_
    | refine And.intro (by first | omega | kernel_rfl) ?_
    | (with_reducible refine condW_b (fun hc => ?_) (fun hc => ?_) <;> (try simp [Int.ofNat_inj] at hc) <;> try contradiction)
    | fail)
  first | refine CallG_of (known18_ok) (by first | rfl | (simp [natAV, numC, ← limbs.eq_1, push_cast, -List.map_take, -List.map_drop]; done)) (by simp [natAV, zAV, zC, ratAV, ratC, ptAV, ptC, sgAV, sgC, AV.refs, refsL, push_cast, -List.map_take, -List.map_drop]) rfl ?_ | refine callD_of (known18_ok) (by first | rfl | (simp [natAV, numC, ← limbs.eq_1, push_cast, -List.map_take, -List.map_drop]; done)) (by simp [natAV, zAV, zC, ratAV, ratC, ptAV, ptC, sgAV, sgC, AV.refs, refsL, push_cast, -List.map_take, -List.map_drop]) rfl ?_
  try dsimp only
  repeat' (first
    | with_reducible first | apply thenW_n | apply thenW_ret | apply thenW_exit | apply thenW_panic | apply blockW_n | apply blockW_same | apply blockW_ret | apply blockW_panic | apply loopW_ret | apply loopW_exit | apply loopW_panic | apply joinW_ret | apply joinW_exit | apply joinW_panic | apply W_seq | apply W_block | apply W_skip | apply W_ret | apply W_exit | apply W_label
    | with_reducible refine blockW_other (by decide) ?_
    | with_reducible refine W_region (by first | decide | (with_unfolding_all rfl)) ?_
    | (rw [vcn]; (try simp [push_cast, -List.map_take, -List.map_drop, hRl, hRt, hSl, hSt]); try simp (disch := omega) only [i64_in, u64_in, shr64i])
    | with_reducible refine W_drawn mixed (by decide) (by kernel_rfl) ?_
    | (rw [vcnD]; (try simp [push_cast, -List.map_take, -List.map_drop, hRl, hRt, hSl, hSt]); try simp (disch := omega) only [i64_in, u64_in, shr64i])
    | (with_reducible refine W_condW ?_; (try simp [AS.val, upd, resB, mkS_env, mkS_box, lk, entry_env, condW_true, condW_false, hRl, hRt, hSl, hSt]))
    | with_reducible refine optK_dV (by first | omega | (simp; omega)) ?_
    | with_reducible refine optK_dVh (by omega) ?_
    | refine And.intro (by first | omega | kernel_rfl) ?_
    | (with_reducible refine condW_b (fun hc => ?_) (fun hc => ?_) <;> (try simp [Int.ofNat_inj] at hc) <;> try contradiction)
    | fail)
  refine CallG_frz _ _ rfl ?_ (w1) ?_ (by simp [AV.refs, refsL, push_cast, -List.map_take, -List.map_drop]) rfl ?_
  · first | (simp [refsL, AV.refs, frzS, resDL, resD, resB, upd, mkS_env, mkS_box, entry_env, entry_box, lk, push_cast, -List.map_take, -List.map_drop]; done) | (simp [refsL, AV.refs, frzS, resDL, resD, resB, upd, mkS_env, mkS_box, entry_env, entry_box, lk, push_cast, -List.map_take, -List.map_drop]; rw [List.take_of_length_le (by simp)]; done) | (simp [refsL, AV.refs, frzS, resDL, resD, resB, upd, mkS_env, mkS_box, entry_env, entry_box, lk, push_cast, -List.map_take, -List.map_drop]; fail_if_success done)
  · simp [refsL, AV.refs, frzOk, upd, mkS_env, mkS_box, entry_env, entry_box, lk, push_cast, -List.map_take, -List.map_drop]
  try dsimp only
  try simp only [refsL, AV.refs, frzS, List.append_nil, upd, mkS_box, entry_box, lk, if_true, if_false]
  repeat' (first
    | with_reducible first | apply thenW_n | apply thenW_ret | apply thenW_exit | apply thenW_panic | apply blockW_n | apply blockW_same | apply blockW_ret | apply blockW_panic | apply loopW_ret | apply loopW_exit | apply loopW_panic | apply joinW_ret | apply joinW_exit | apply joinW_panic | apply W_seq | apply W_block | apply W_skip | apply W_ret | apply W_exit | apply W_label
    | with_reducible refine blockW_other (by decide) ?_
    | with_reducible refine W_region (by first | decide | (with_unfolding_all rfl)) ?_
    | (rw [vcn]; (try simp [push_cast, -List.map_take, -List.map_drop]); try simp (disch := omega) only [i64_in, u64_in, shr64i])
    | with_reducible refine W_drawn mixed (by decide) (by kernel_rfl) ?_
    | (rw [vcnD]; (try simp [push_cast, -List.map_take, -List.map_drop]); try simp (disch := omega) only [i64_in, u64_in, shr64i])
    | (with_reducible refine W_condW ?_; (try simp [AS.val, upd, resB, mkS_env, mkS_box, lk, entry_env, condW_true, condW_false]))
    | with_reducible refine optK_dV (by first | omega | (simp; omega)) ?_
    | with_reducible refine optK_dVh (by omega) ?_
    | refine And.intro (by first | omega | kernel_rfl) ?_
    | (with_reducible refine condW_b (fun hc => ?_) (fun hc => ?_) <;> (try simp [Int.ofNat_inj] at hc) <;> try contradiction)
    | fail)
  refine W_loopW (X := Nat) (fun i => [(0, .slc g 2 n L), (7, .slc false 1 1 [.slc false 2 n L]), (9, .bp 9 0), (10, .bp 10 0), (11, i64V fe), (12, .bp 12 0), (13, i64V i)])
    (fun i => [(9, .mut 48 [i64V ax, i64V ay]), (10, .mut 48 [i64V bx, i64V by']), (12, .mut 77 [boolV (anyX (·.1) ax (m.take i)), boolV (anyX (·.1) bx (m.take i)), boolV (anyX (·.2) ay (m.take i)), boolV (anyX (·.2) by' (m.take i))])]) (fun i => n - i)
    (fun i => i ≤ n) 0 id (Nat.zero_le _) ⟨?_, ?_, ?_, ?_, ?_, ?_⟩ fun i hi => ?_
  all_goals first | (with_reducible refine W_id ?_) | (simp [push_cast, -List.map_take, -List.map_drop, dV_take, dV_drop, hLr, anyX]; done) | (simp [push_cast, -List.map_take, -List.map_drop, dV_take, dV_drop, hLr, anyX]; omega) | (intro i hi; simp; omega) | (intro i hi; dsimp only; (repeat' split) <;> omega) | (simp [push_cast, -List.map_take, -List.map_drop, dV_take, dV_drop, hLr, anyX]; fail_if_success done)
  by_cases hlt : ¬ i < n
  · have g1 : (i < n) = False := eq_false hlt
    have e : m.take i = m := List.take_of_length_le (by omega)
    rw [e]
    rcases hcase with ⟨h0, hfe⟩ | ⟨h0, hfe, hbo⟩
    · subst hfe
      subst h0
      have hi0 : i = 0 := by omega
      subst hi0
      repeat' (first
        | with_reducible first | apply thenW_n | apply thenW_ret | apply thenW_exit | apply thenW_panic | apply blockW_n | apply blockW_same | apply blockW_ret | apply blockW_panic | apply loopW_ret | apply loopW_exit | apply loopW_panic | apply joinW_ret | apply joinW_exit | apply joinW_panic | apply W_seq | apply W_block | apply W_skip | apply W_ret | apply W_exit | apply W_label
        | with_reducible refine blockW_other (by decide) ?_
        | with_reducible refine W_region (by first | decide | (with_unfolding_all rfl)) ?_
        | (rw [vcn]; (try simp [push_cast, -List.map_take, -List.map_drop, g1]); try simp (disch := omega) only [i64_in, u64_in, shr64i])
        | with_reducible refine W_drawn mixed (by decide) (by kernel_rfl) ?_
        | (rw [vcnD]; (try simp [push_cast, -List.map_take, -List.map_drop, g1]); try simp (disch := omega) only [i64_in, u64_in, shr64i])
        | (with_reducible refine W_condW ?_; (try simp [AS.val, upd, resB, mkS_env, mkS_box, lk, entry_env, condW_true, condW_false, g1]))
        | with_reducible refine optK_dV (by first | omega | (simp; omega)) ?_
        | with_reducible refine optK_dVh (by omega) ?_
        | refine And.intro (by first | omega | kernel_rfl) ?_
        | (with_reducible refine condW_b (fun hc => ?_) (fun hc => ?_) <;> (try simp [Int.ofNat_inj] at hc) <;> try contradiction)
        | fail)
      simp [post, resAV, resAll, resOne, closeV, closeC, closeL, resD, resDL, push_cast, -List.map_take, -List.map_drop]
    · subst hfe
      have g2 : (n = 0) = False := eq_false (by omega)
      have g3 : ((n : Int) = 0) = False := eq_false (by omega)
      rw [anyX_of (·.1) ax m hbo.ax, anyX_of (·.1) bx m hbo.bx, anyX_of (·.2) ay m hbo.ay, anyX_of (·.2) by' m hbo.by']
      repeat' (first
        | with_reducible first | apply thenW_n | apply thenW_ret | apply thenW_exit | apply thenW_panic | apply blockW_n | apply blockW_same | apply blockW_ret | apply blockW_panic | apply loopW_ret | apply loopW_exit | apply loopW_panic | apply joinW_ret | apply joinW_exit | apply joinW_panic | apply W_seq | apply W_block | apply W_skip | apply W_ret | apply W_exit | apply W_label
        | with_reducible refine blockW_other (by decide) ?_
        | with_reducible refine W_region (by first | decide | (with_unfolding_all rfl)) ?_
        | (rw [vcn]; (try simp [push_cast, -List.map_take, -List.map_drop, g1, g2, g3, eqB4]); try simp (disch := omega) only [i64_in, u64_in, shr64i])
        | with_reducible refine W_drawn mixed (by decide) (by kernel_rfl) ?_
        | (rw [vcnD]; (try simp [push_cast, -List.map_take, -List.map_drop, g1, g2, g3, eqB4]); try simp (disch := omega) only [i64_in, u64_in, shr64i])
        | (with_reducible refine W_condW ?_; (try simp [AS.val, upd, resB, mkS_env, mkS_box, lk, entry_env, condW_true, condW_false, g1, g2, g3, eqB4]))
        | with_reducible refine optK_dV (by first | omega | (simp; omega)) ?_
        | with_reducible refine optK_dVh (by omega) ?_
        | refine And.intro (by first | omega | kernel_rfl) ?_
        | (with_reducible refine condW_b (fun hc => ?_) (fun hc => ?_) <;> (try simp [Int.ofNat_inj] at hc) <;> try contradiction)
        | fail)
      simp [post, resAV, resAll, resOne, closeV, closeC, closeL, resD, resDL, push_cast, -List.map_take, -List.map_drop]
  have hlt : i < n := by omega
  have g1 : (i < n) = True := eq_true hlt
  obtain ⟨t, ht⟩ := hat i (by omega)
  have x1 := anyX_snoc (·.1) ax m i (by omega)
  have x2 := anyX_snoc (·.1) bx m i (by omega)
  have x3 := anyX_snoc (·.2) ay m i (by omega)
  have x4 := anyX_snoc (·.2) by' m i (by omega)
  rcases hcase with ⟨h0, hfe⟩ | ⟨h0, hfe, hbo⟩
  · omega
  have hall := hbo.all (m[i]'(by omega)) (List.getElem_mem _)
  obtain ⟨q, hq⟩ : ∃ q, q = m[i]'(by omega) := ⟨_, rfl⟩
  rw [← hq] at ht x1 x2 x3 x4 hall
  obtain ⟨qx, qy⟩ := q
  simp only at ht x1 x2 x3 x4 hall
  obtain ⟨e0, he0⟩ : ∃ e, e = anyX (·.1) ax (m.take i) := ⟨_, rfl⟩
  obtain ⟨e1, he1⟩ : ∃ e, e = anyX (·.1) bx (m.take i) := ⟨_, rfl⟩
  obtain ⟨e2, he2⟩ : ∃ e, e = anyX (·.2) ay (m.take i) := ⟨_, rfl⟩
  obtain ⟨e3, he3⟩ : ∃ e, e = anyX (·.2) by' (m.take i) := ⟨_, rfl⟩
  rw [← he0] at x1
  rw [← he1] at x2
  rw [← he2] at x3
  rw [← he3] at x4
  simp only [← he0, ← he1, ← he2, ← he3]
  have k1 : (qx < ax) = False := eq_false (by omega)
  have k2 : (bx < qx) = False := eq_false (by omega)
  have k3 : (qy < ay) = False := eq_false (by omega)
  have k4 : (by' < qy) = False := eq_false (by omega)
  have htl := congrArg List.length ht
  rw [List.length_drop, hlen, List.length_cons, List.length_cons] at htl
  clear he0 he1 he2 he3 hq hat hbo r1 w1 b1 hRl hSl hRt hSt hin hIm hL hz
  repeat' (first
    | with_reducible refine thenW_n ?_
    | with_reducible refine thenW_ret ?_
    | with_reducible refine thenW_exit ?_
    | with_reducible refine thenW_panic ?_
    | with_reducible refine blockW_n ?_
    | with_reducible refine blockW_same ?_
    | with_reducible refine blockW_ret ?_
    | with_reducible refine blockW_panic ?_
    | with_reducible refine loopW_ret ?_
    | with_reducible refine loopW_exit ?_
    | with_reducible refine loopW_panic ?_
    | with_reducible refine joinW_ret ?_
    | with_reducible refine joinW_exit ?_
    | with_reducible refine joinW_panic ?_
    | with_reducible refine W_seq ?_
    | with_reducible refine W_skip ?_
    | with_reducible refine W_ret ?_
    | with_reducible refine W_exit ?_
    | with_reducible refine W_label ?_
    | with_reducible refine blockW_other (by decide) ?_
    | with_reducible refine W_region (by first | decide | (with_unfolding_all rfl)) ?_
    | (rw [vcn]; (try simp [push_cast, -List.map_take, -List.map_drop, g1]); try simp (disch := omega) only [i64_in, u64_in, shr64i])
    | with_reducible refine W_drawn mixed (by decide) (by kernel_rfl) ?_
    | (rw [vcnD]; (try simp [push_cast, -List.map_take, -List.map_drop, g1]); try simp (disch := omega) only [i64_in, u64_in, shr64i])
    | (with_reducible refine W_condW ?_; (try simp [AS.val, upd, resB, mkS_env, mkS_box, lk, entry_env, condW_true, condW_false, g1]))
    | with_reducible refine optK_dV (by first | omega | (simp; omega)) ?_
    | with_reducible refine optK_dVh (by omega) ?_
    | refine And.intro (by first | omega | kernel_rfl) ?_
    | (with_reducible refine condW_b (fun hc => ?_) (fun hc => ?_) <;> (try simp [Int.ofNat_inj] at hc) <;> try contradiction)
    | fail)
  refine W_block ?_
  refine W_seq ?_
  refine W_joinQ (X := Unit) (fun _ => [(0, .slc g 2 n L), (7, .slc false 1 1 [.slc false 2 n L]), (9, .bp 9 0), (10, .bp 10 0), (11, i64V 0), (12, .bp 12 0), (13, i64V i)])
    (fun _ => [(9, .mut 48 [i64V ax, i64V ay]), (10, .mut 48 [i64V bx, i64V by']), (12, .mut 77 [boolV e0, boolV e1, boolV e2, boolV e3])]) (fun _ => True) ?_ fun _ _ => ?_
  · repeat' (first
      | with_reducible first | apply thenW_n | apply thenW_ret | apply thenW_exit | apply thenW_panic | apply blockW_n | apply blockW_same | apply blockW_ret | apply blockW_panic | apply loopW_ret | apply loopW_exit | apply loopW_panic | apply joinW_ret | apply joinW_exit | apply joinW_panic | apply W_seq | apply W_block | apply W_skip | apply W_ret | apply W_exit | apply W_label
      | with_reducible refine blockW_other (by decide) ?_
      | with_reducible refine W_region (by first | decide | (with_unfolding_all rfl)) ?_
      | (rw [vcn]; (try simp [push_cast, -List.map_take, -List.map_drop, ht, hlen, hlt, eqPt, k1, k2, k3, k4]); try simp (disch := omega) only [i64_in, u64_in, shr64i])
      | with_reducible refine W_drawn mixed (by decide) (by kernel_rfl) ?_
      | (rw [vcnD]; (try simp [push_cast, -List.map_take, -List.map_drop, ht, hlen, hlt, eqPt, k1, k2, k3, k4]); try simp (disch := omega) only [i64_in, u64_in, shr64i])
      | (with_reducible refine W_condW ?_; (try simp [AS.val, upd, resB, mkS_env, mkS_box, lk, entry_env, condW_true, condW_false, ht, hlen, hlt, eqPt, k1, k2, k3, k4]))
      | with_reducible refine optK_dV (by first | omega | (simp; omega)) ?_
      | with_reducible refine optK_dVh (by omega) ?_
      | refine And.intro (by first | omega | kernel_rfl) ?_
      | (with_reducible refine condW_b (fun hc => ?_) (fun hc => ?_) <;> (try simp [Int.ofNat_inj] at hc) <;> try contradiction)
      | fail)
    refine joinW_n () id trivial ⟨?_, ?_, ?_, ?_, ?_, ?_⟩
    all_goals first | (with_reducible refine W_id ?_) | (simp [push_cast, -List.map_take, -List.map_drop, dV_take, dV_drop, hLr, hfe]; done) | (simp [push_cast, -List.map_take, -List.map_drop, dV_take, dV_drop, hLr, hfe]; omega) | (intro i hi; simp; omega) | (intro i hi; dsimp only; (repeat' split) <;> omega) | (simp [push_cast, -List.map_take, -List.map_drop, dV_take, dV_drop, hLr, hfe]; fail_if_success done)
  subst hfe
  cases e0 <;> cases e1 <;> cases e2 <;> cases e3
  repeat' (first
    | with_reducible first | apply thenW_n | apply thenW_ret | apply thenW_exit | apply thenW_panic | apply blockW_n | apply blockW_same | apply blockW_ret | apply blockW_panic | apply loopW_ret | apply loopW_exit | apply loopW_panic | apply joinW_ret | apply joinW_exit | apply joinW_panic | apply W_seq | apply W_block | apply W_skip | apply W_ret | apply W_exit | apply W_label
    | with_reducible refine blockW_other (by decide) ?_
    | with_reducible refine W_region (by first | decide | (with_unfolding_all rfl)) ?_
    | (rw [vcn]; (try simp [push_cast, -List.map_take, -List.map_drop, ht, hlen, hlt]); try simp (disch := omega) only [i64_in, u64_in, shr64i])
    | with_reducible refine W_drawn mixed (by decide) (by kernel_rfl) ?_
    | (rw [vcnD]; (try simp [push_cast, -List.map_take, -List.map_drop, ht, hlen, hlt]); try simp (disch := omega) only [i64_in, u64_in, shr64i])
    | (with_reducible refine W_condW ?_; (try simp [AS.val, upd, resB, mkS_env, mkS_box, lk, entry_env, condW_true, condW_false, ht, hlen, hlt]))
    | with_reducible refine optK_dV (by first | omega | (simp; omega)) ?_
    | with_reducible refine optK_dVh (by omega) ?_
    | refine And.intro (by first | omega | kernel_rfl) ?_
    | (with_reducible refine condW_b (fun hc => ?_) (fun hc => ?_) <;> (try simp [Int.ofNat_inj] at hc) <;> try contradiction)
    | fail)
  all_goals refine loopW_n (i + 1) id (by omega) (by omega) ⟨?_, ?_, ?_, ?_, ?_, ?_⟩
  all_goals first | (with_reducible refine W_id ?_) | (simp [push_cast, -List.map_take, -List.map_drop, dV_take, dV_drop, hLr, x1, x2, x3, x4]; done) | (simp [push_cast, -List.map_take, -List.map_drop, dV_take, dV_drop, hLr, x1, x2, x3, x4]; omega) | (intro i hi; simp; omega) | (intro i hi; dsimp only; (repeat' split) <;> omega) | (simp [push_cast, -List.map_take, -List.map_drop, dV_take, dV_drop, hLr, x1, x2, x3, x4]; fail_if_success done)
end Go.Fw
