/- Layer 6: few, Join. -/
import Derived.Test.YtjgbikhnnkigpaaQ0
set_option linter.unusedSimpArgs false
set_option linter.unusedVariables false
-- VALS: recAV
namespace Go.Fw
open Go Go.Proofs Go.IntWalk
set_option linter.unusedSimpArgs false
set_option maxRecDepth 100000
set_option maxHeartbeats 2000000
open List (map_take map_drop)
attribute [local push_cast] optK_some optK_none optK_ite optK_map optK_bind gOn stepK isMem evPure evMem evBin evUn evConv evLen evBuiltin evMinMax evSlice evBuild evAppend evIndex evIndexAddr evField evFieldAddr intBin strBin appDest AS.val AS.mem AS.elems AS.put AS.put' AS.eff AV.cells? AV.isCell AV.refs all_isByte take_byteV drop_byteV strOf_map bndOk bnd partAV ptrAdd killBox catA inOrder fillA setAt ofVal resB upd byteV List.head?_take List.head?_drop List.getElem?_map mkS_env mkS_box mkS_used entry_env entry_box entry_used lk stepD lookIds Oper.looksAt Op.operands Call.operands St.ids refsL renL_append dV_take dV_drop ren renL renBox Box.refs iV i64V boolV dV_getElem dV_app dV_cons toNat_add2 toNat_add1
theorem recsCells_drop (l : List Rec) (i : Nat) : (recsCells l).drop (i * 3) = recsCells (l.drop i) := by
  induction l generalizing i with
  | nil => simp [-map_take,-map_drop, recsCells]
  | cons x t ih =>
    cases i with
    | zero => simp [-map_take,-map_drop]
    | succ i =>
      have e : (i + 1) * 3 = (recCells x).length + i * 3 := by simp [-map_take,-map_drop, recCells]; omega
      show (recCells x ++ recsCells t).drop _ = _
      rw [e, List.drop_append, Nat.add_sub_cancel_left, ih]
      simp [-map_take,-map_drop, recCells]
theorem recsCells_take (l : List Rec) (i : Nat) : (recsCells l).take (i * 3) = recsCells (l.take i) := by
  induction l generalizing i with
  | nil => simp [-map_take,-map_drop, recsCells]
  | cons x t ih =>
    cases i with
    | zero => simp [-map_take,-map_drop, recsCells]
    | succ i =>
      have e : (i + 1) * 3 = i * 3 + 1 + 1 + 1 := by omega
      show (recCells x ++ recsCells t).take _ = recCells x ++ recsCells (t.take i)
      rw [e, ← ih]
      rfl
theorem recsCells_at (l : List Rec) (i : Nat) (h : i < l.length) : ∃ t, (recsCells l).drop (i * 3) = byteV l[i].1 :: byteV l[i].2.1 :: .slc false 1 l[i].2.2.length (l[i].2.2.map byteV) :: t := by
  refine ⟨recsCells (l.drop (i + 1)), ?_⟩
  rw [recsCells_drop, List.drop_eq_getElem_cons h]
  rfl
def bodies (l : List Rec) : Nat := (l.map fun r => r.2.2.length).sum
def fewL (l : List Rec) : Option (List Rec) := if (l.take 200).all (fun r => decide (r.2.2.length ≤ 200000)) = true ∧ bodies (l.take 200) ≤ 400000 then some (l.take 200) else none
theorem bodies_snoc (l : List Rec) (i : Nat) (h : i < l.length) : bodies (l.take (i + 1)) = bodies (l.take i) + l[i].2.2.length := by
  rw [List.take_succ_eq_append_getElem h]
  unfold bodies
  rw [List.map_append, List.sum_append]
  simp [-map_take,-map_drop]
theorem bodies_le (l : List Rec) (i : Nat) : bodies (l.take i) ≤ bodies l := by
  conv => rhs; rw [← List.take_append_drop i l]
  unfold bodies
  rw [List.map_append, List.sum_append]
  omega
def fewOk (l : List Rec) : Bool := (List.range l.length).all (fun i => decide ((l.getD i (0, 0, [])).2.2.length ≤ 200000) && decide (bodies (l.take (i + 1)) ≤ 400000))
def fewAV (f : Bool) (l : List Rec) : AV := if fewOk l = true then .tup [.slc f 3 l.length (recsCells l), .v (.bool true)] else .tup [.v (.slice none 0 0), .v (.bool false)]
def fewUp (m : List Rec) (i : Nat) : Prop := ∀ j < i, (decide ((m.getD j (0, 0, [])).2.2.length ≤ 200000) && decide (bodies (m.take (j + 1)) ≤ 400000)) = true
theorem few_ok (f : Bool) (l : List Rec) : Eval Try.prog 25 [.slc f 3 l.length (recsCells l)] (.ret (fewAV (f && decide (l.length ≤ 200)) (l.take 200))) := by
  refine Eval.intro Try.func25 rfl Try.call25 _ _ (Nat.le_of_ble_eq_true rfl) (by simp [-map_take,-map_drop, AV.refs, refsL, natAV, recAV, push_cast]) fun hs0 => ?_
  obtain ⟨out, hout⟩ : ∃ out, out = fewAV (f && decide (l.length ≤ 200)) (l.take 200) := ⟨_, rfl⟩
  rw [← hout]
  have hlen := recsCells_len l
  have htk := recsCells_take l 200
  obtain ⟨n, hn⟩ : ∃ n, n = l.length := ⟨_, rfl⟩
  have hn64 : n ≤ 9223372036854775807 := by rw [hn]; exact hs0.1.1
  rw [← hn] at hlen ⊢
  obtain ⟨L, hL⟩ : ∃ L, L = recsCells l := ⟨_, rfl⟩
  have hLr : refsL L = [] := by rw [hL]; exact recsCells_refs l
  rw [← hL] at hlen htk ⊢
  repeat' (first
    | with_reducible first | apply thenW_n | apply thenW_ret | apply thenW_exit | apply thenW_panic | apply blockW_n | apply blockW_same | apply blockW_ret | apply blockW_panic | apply loopW_ret | apply loopW_exit | apply loopW_panic | apply joinW_ret | apply joinW_exit | apply joinW_panic | apply W_seq | apply W_block | apply W_skip | apply W_ret | apply W_exit | apply W_label
    | with_reducible refine blockW_other (by decide) ?_
    | with_reducible refine W_rg ?_
    | (rw [vcn]; (try simp [-map_take,-map_drop, push_cast]); try simp (disch := omega) only [i64_in, u64_in, shr64i])
    | with_reducible refine W_drawn mixed (by decide) (by kernel_rfl) ?_
    | (rw [vcnD]; (try simp [-map_take,-map_drop, push_cast]); try simp (disch := omega) only [i64_in, u64_in, shr64i])
    | (with_reducible refine W_condW ?_; (try simp [-map_take,-map_drop, AS.val, upd, resB, mkS_env, mkS_box, lk, entry_env, condW_true, condW_false]); with_reducible refine W_id ?_)
    | (with_reducible refine optK_dV (by first | omega | (simp [-map_take,-map_drop]; omega)) ?_)
    | with_reducible refine optK_dVh (by omega) ?_
    | refine And.intro (by first | omega | kernel_rfl) ?_
    | fail)
  refine W_joinQ (X := Bool × List Rec) (fun x => [(0, .slc x.1 3 x.2.length (recsCells x.2))]) (fun _ => []) (fun x => x = (f && decide (l.length ≤ 200), l.take 200)) ?_ fun x hx => ?_
  · by_cases h : 200 < n
    · have g1 : ((200 : Int) < (n : Int)) = True := by simp [-map_take,-map_drop]; omega
      have g2 : 600 ≤ n * 3 := by omega
      have g3 : 200 ≤ n := by omega
      have hl2 : (l.take 200).length = 200 := by rw [List.length_take]; omega
      have hr2 : refsL (recsCells (l.take 200)) = [] := recsCells_refs _
      have g4 : decide (l.length ≤ 200) = false := by simp [-map_take,-map_drop]; omega
      repeat' (first
        | with_reducible first | apply thenW_n | apply thenW_ret | apply thenW_exit | apply thenW_panic | apply blockW_n | apply blockW_same | apply blockW_ret | apply blockW_panic | apply loopW_ret | apply loopW_exit | apply loopW_panic | apply joinW_ret | apply joinW_exit | apply joinW_panic | apply W_seq | apply W_block | apply W_skip | apply W_ret | apply W_exit | apply W_label
        | with_reducible refine blockW_other (by decide) ?_
        | with_reducible refine W_rg ?_
        | (rw [vcn]; (try simp [-map_take,-map_drop, push_cast, g1, hlen, htk, g2, g3]); try simp (disch := omega) only [i64_in, u64_in, shr64i])
        | with_reducible refine W_drawn mixed (by decide) (by kernel_rfl) ?_
        | (rw [vcnD]; (try simp [-map_take,-map_drop, push_cast, g1, hlen, htk, g2, g3]); try simp (disch := omega) only [i64_in, u64_in, shr64i])
        | (with_reducible refine W_condW ?_; (try simp [-map_take,-map_drop, AS.val, upd, resB, mkS_env, mkS_box, lk, entry_env, condW_true, condW_false, g1, hlen, htk, g2, g3]))
        | (with_reducible refine optK_dV (by first | omega | (simp [-map_take,-map_drop]; omega)) ?_)
        | with_reducible refine optK_dVh (by omega) ?_
        | refine And.intro (by first | omega | kernel_rfl) ?_
        | ((with_reducible refine condW_b (fun hc => ?_) (fun hc => ?_) <;> (try simp [-map_take,-map_drop, Int.ofNat_inj] at hc) <;> (try contradiction)))
        | fail)
      refine joinW_n (false, l.take 200) id (by rw [g4, Bool.and_false]) ⟨?_, ?_, ?_, ?_, ?_, ?_⟩
      all_goals first | (with_reducible refine W_id ?_) | (simp [-map_take,-map_drop, push_cast, hlen, htk, hl2, hr2, hLr, g2, g3]; done) | (simp [-map_take,-map_drop, push_cast, hlen, htk, hl2, hr2, hLr, g2, g3]; omega) | (intro i hi; simp [-map_take,-map_drop]; omega) | (intro i hi; dsimp only; (repeat' split) <;> omega) | (simp [-map_take,-map_drop, push_cast, hlen, htk, hl2, hr2, hLr, g2, g3]; fail_if_success done)
    · have g1 : ((200 : Int) < (n : Int)) = False := by simp [-map_take,-map_drop]; omega
      have hl2 : l.take 200 = l := List.take_of_length_le (by omega)
      have g4 : decide (l.length ≤ 200) = true := by simp [-map_take,-map_drop]; omega
      repeat' (first
        | with_reducible first | apply thenW_n | apply thenW_ret | apply thenW_exit | apply thenW_panic | apply blockW_n | apply blockW_same | apply blockW_ret | apply blockW_panic | apply loopW_ret | apply loopW_exit | apply loopW_panic | apply joinW_ret | apply joinW_exit | apply joinW_panic | apply W_seq | apply W_block | apply W_skip | apply W_ret | apply W_exit | apply W_label
        | with_reducible refine blockW_other (by decide) ?_
        | with_reducible refine W_rg ?_
        | (rw [vcn]; (try simp [-map_take,-map_drop, push_cast, g1]); try simp (disch := omega) only [i64_in, u64_in, shr64i])
        | with_reducible refine W_drawn mixed (by decide) (by kernel_rfl) ?_
        | (rw [vcnD]; (try simp [-map_take,-map_drop, push_cast, g1]); try simp (disch := omega) only [i64_in, u64_in, shr64i])
        | (with_reducible refine W_condW ?_; (try simp [-map_take,-map_drop, AS.val, upd, resB, mkS_env, mkS_box, lk, entry_env, condW_true, condW_false, g1]))
        | (with_reducible refine optK_dV (by first | omega | (simp [-map_take,-map_drop]; omega)) ?_)
        | with_reducible refine optK_dVh (by omega) ?_
        | refine And.intro (by first | omega | kernel_rfl) ?_
        | ((with_reducible refine condW_b (fun hc => ?_) (fun hc => ?_) <;> (try simp [-map_take,-map_drop, Int.ofNat_inj] at hc) <;> (try contradiction)))
        | fail)
      refine joinW_n (f, l) id (by rw [g4, Bool.and_true, hl2]) ⟨?_, ?_, ?_, ?_, ?_, ?_⟩
      all_goals first | (with_reducible refine W_id ?_) | (simp [-map_take,-map_drop, push_cast, ← hn, ← hL, hLr]; done) | (simp [-map_take,-map_drop, push_cast, ← hn, ← hL, hLr]; omega) | (intro i hi; simp [-map_take,-map_drop]; omega) | (intro i hi; dsimp only; (repeat' split) <;> omega) | (simp [-map_take,-map_drop, push_cast, ← hn, ← hL, hLr]; fail_if_success done)
  subst hx
  obtain ⟨g, hg⟩ : ∃ g, g = (f && decide (l.length ≤ 200)) := ⟨_, rfl⟩
  obtain ⟨m, hm⟩ : ∃ m, m = l.take 200 := ⟨_, rfl⟩
  have hml : m.length ≤ 200 := by rw [hm, List.length_take]; omega
  rw [← hg, ← hm] at hout
  simp only [← hg, ← hm]
  clear hn hn64 htk hlen hL hLr hs0 hg hm l f n L
  have hlen := recsCells_len m
  have hat := recsCells_at m
  have hLr := recsCells_refs m
  obtain ⟨n, hn⟩ : ∃ n, n = m.length := ⟨_, rfl⟩
  obtain ⟨L, hL⟩ : ∃ L, L = recsCells m := ⟨_, rfl⟩
  rw [← hL] at hlen hat hLr
  simp only [← hL, ← hn]
  rw [← hn] at hlen
  repeat' (first
    | with_reducible first | apply thenW_n | apply thenW_ret | apply thenW_exit | apply thenW_panic | apply blockW_n | apply blockW_same | apply blockW_ret | apply blockW_panic | apply loopW_ret | apply loopW_exit | apply loopW_panic | apply joinW_ret | apply joinW_exit | apply joinW_panic | apply W_seq | apply W_block | apply W_skip | apply W_ret | apply W_exit | apply W_label
    | with_reducible refine blockW_other (by decide) ?_
    | with_reducible refine W_rg ?_
    | (rw [vcn]; (try simp [-map_take,-map_drop, push_cast]); try simp (disch := omega) only [i64_in, u64_in, shr64i])
    | with_reducible refine W_drawn mixed (by decide) (by kernel_rfl) ?_
    | (rw [vcnD]; (try simp [-map_take,-map_drop, push_cast]); try simp (disch := omega) only [i64_in, u64_in, shr64i])
    | (with_reducible refine W_condW ?_; (try simp [-map_take,-map_drop, AS.val, upd, resB, mkS_env, mkS_box, lk, entry_env, condW_true, condW_false]))
    | (with_reducible refine optK_dV (by first | omega | (simp [-map_take,-map_drop]; omega)) ?_)
    | with_reducible refine optK_dVh (by omega) ?_
    | refine And.intro (by first | omega | kernel_rfl) ?_
    | ((with_reducible refine condW_b (fun hc => ?_) (fun hc => ?_) <;> (try simp [-map_take,-map_drop, Int.ofNat_inj] at hc) <;> (try contradiction)))
    | fail)
  refine W_loopW (X := Nat) (fun i => [(0, .slc g 3 n L), (4, i64V (bodies (m.take i))), (5, i64V i)]) (fun _ => []) (fun i => n - i)
    (fun i => i ≤ n ∧ fewUp m i) 0 id ⟨Nat.zero_le _, fun j hj => absurd hj (by omega)⟩ ⟨?_, ?_, ?_, ?_, ?_, ?_⟩ fun i hx => ?_
  all_goals first | (with_reducible refine W_id ?_) | (simp [-map_take,-map_drop, push_cast, bodies, hLr]; done) | (simp [-map_take,-map_drop, push_cast, bodies, hLr]; omega) | (intro i hi; simp [-map_take,-map_drop]; omega) | (intro i hi; dsimp only; (repeat' split) <;> omega) | (simp [-map_take,-map_drop, push_cast, bodies, hLr]; fail_if_success done)
  obtain ⟨hi, hI⟩ := hx
  by_cases hlt : ¬ i < n
  · have g1 : (i < n) = False := by simp [-map_take,-map_drop]; omega
    have hok : fewOk m = true := by
      unfold fewOk
      rw [List.all_eq_true]
      intro j hj
      rw [List.mem_range] at hj
      exact hI j (by omega)
    rw [fewAV, if_pos hok, ← hL, ← hn] at hout
    repeat' (first
      | with_reducible first | apply thenW_n | apply thenW_ret | apply thenW_exit | apply thenW_panic | apply blockW_n | apply blockW_same | apply blockW_ret | apply blockW_panic | apply loopW_ret | apply loopW_exit | apply loopW_panic | apply joinW_ret | apply joinW_exit | apply joinW_panic | apply W_seq | apply W_block | apply W_skip | apply W_ret | apply W_exit | apply W_label
      | with_reducible refine blockW_other (by decide) ?_
      | with_reducible refine W_rg ?_
      | (rw [vcn]; (try simp [-map_take,-map_drop, push_cast, g1]); try simp (disch := omega) only [i64_in, u64_in, shr64i])
      | with_reducible refine W_drawn mixed (by decide) (by kernel_rfl) ?_
      | (rw [vcnD]; (try simp [-map_take,-map_drop, push_cast, g1]); try simp (disch := omega) only [i64_in, u64_in, shr64i])
      | (with_reducible refine W_condW ?_; (try simp [-map_take,-map_drop, AS.val, upd, resB, mkS_env, mkS_box, lk, entry_env, condW_true, condW_false, g1]))
      | (with_reducible refine optK_dV (by first | omega | (simp [-map_take,-map_drop]; omega)) ?_)
      | with_reducible refine optK_dVh (by omega) ?_
      | refine And.intro (by first | omega | kernel_rfl) ?_
      | ((with_reducible refine condW_b (fun hc => ?_) (fun hc => ?_) <;> (try simp [-map_take,-map_drop, Int.ofNat_inj] at hc) <;> (try contradiction)))
      | fail)
    simp [-map_take,-map_drop, post, resAV, resAll, resOne, closeV, closeC, closeL, resD, resDL, push_cast, hout, hLr]
  have hlt : i < n := by omega
  have g1 : (i < n) = True := by simp [-map_take,-map_drop]; omega
  obtain ⟨t, ht⟩ := hat i (by omega)
  have hsn := bodies_snoc m i (by omega)
  have hb0 : bodies (m.take i) ≤ 400000 := by
    rcases Nat.eq_zero_or_pos i with h | h
    · subst h; simp [-map_take,-map_drop, bodies]
    · have := hI (i - 1) (by omega)
      rw [Nat.sub_add_cancel h] at this
      simp [-map_take,-map_drop] at this
      exact this.2
  have hgd : m.getD i (0, 0, []) = m[i] := by simp [-map_take,-map_drop, List.getD, List.getElem?_eq_getElem (show i < m.length by omega)]
  obtain ⟨r, hr⟩ : ∃ r, r = m[i] := ⟨_, rfl⟩
  rw [← hr] at ht hsn hgd
  obtain ⟨q, hq⟩ : ∃ q, q = bodies (m.take i) := ⟨_, rfl⟩
  obtain ⟨z, hz⟩ : ∃ z, z = r.2.2.length := ⟨_, rfl⟩
  rw [← hq, ← hz] at hsn
  rw [← hq] at hb0
  rw [← hz] at ht
  have hbad : (decide (z ≤ 200000) && decide (q + z ≤ 400000)) = false → out = .tup [.v (.slice none 0 0), .v (.bool false)] := by
    intro h
    have : fewOk m = false := by
      rw [Bool.eq_false_iff]
      intro h'
      have h2 := (List.all_eq_true.1 h') i (List.mem_range.2 (by omega))
      rw [hgd, ← hz, hsn, h] at h2
      cases h2
    rw [hout, fewAV, this]
    rfl
  have hnext : (decide (z ≤ 200000) && decide (q + z ≤ 400000)) = true → fewUp m (i + 1) := by
    intro h j hj
    rcases (by omega : j < i ∨ j = i) with hj | hj
    · exact hI j hj
    · subst hj; rw [hgd, ← hz, hsn]; exact h
  simp only [← hq]
  by_cases h1 : ¬ z ≤ 200000
  · have g2 : ((200000 : Int) < (z : Int)) = True := by simp [-map_take,-map_drop]; omega
    have := hbad (by simp [-map_take,-map_drop]; omega)
    repeat' (first
      | with_reducible first | apply thenW_n | apply thenW_ret | apply thenW_exit | apply thenW_panic | apply blockW_n | apply blockW_same | apply blockW_ret | apply blockW_panic | apply loopW_ret | apply loopW_exit | apply loopW_panic | apply joinW_ret | apply joinW_exit | apply joinW_panic | apply W_seq | apply W_block | apply W_skip | apply W_ret | apply W_exit | apply W_label
      | with_reducible refine blockW_other (by decide) ?_
      | with_reducible refine W_rg ?_
      | (rw [vcn]; (try simp [-map_take,-map_drop, push_cast, g1, ht, hlen, hlt, g2]); try simp (disch := omega) only [i64_in, u64_in, shr64i])
      | with_reducible refine W_drawn mixed (by decide) (by kernel_rfl) ?_
      | (rw [vcnD]; (try simp [-map_take,-map_drop, push_cast, g1, ht, hlen, hlt, g2]); try simp (disch := omega) only [i64_in, u64_in, shr64i])
      | (with_reducible refine W_condW ?_; (try simp [-map_take,-map_drop, AS.val, upd, resB, mkS_env, mkS_box, lk, entry_env, condW_true, condW_false, g1, ht, hlen, hlt, g2]))
      | (with_reducible refine optK_dV (by first | omega | (simp [-map_take,-map_drop]; omega)) ?_)
      | with_reducible refine optK_dVh (by omega) ?_
      | refine And.intro (by first | omega | kernel_rfl) ?_
      | ((with_reducible refine condW_b (fun hc => ?_) (fun hc => ?_) <;> (try simp [-map_take,-map_drop, Int.ofNat_inj] at hc) <;> (try contradiction)))
      | fail)
    simp [-map_take,-map_drop, post, resAV, resAll, resOne, closeV, closeC, closeL, resD, resDL, push_cast, this]
  have h1 : z ≤ 200000 := by omega
  have hw : IntKind.i64.wrap ((q : Int) + (z : Int)) = ((q + z : Nat) : Int) := by rw [i64_in _ (by omega)]; omega
  have g2 : ((200000 : Int) < (z : Int)) = False := by simp [-map_take,-map_drop]; omega
  by_cases h2 : ¬ q + z ≤ 400000
  · have g3 : ((400000 : Int) < ((q + z : Nat) : Int)) = True := by simp [-map_take,-map_drop]; omega
    have g4 : ((400000 : Int) < (q : Int) + (z : Int)) = True := by simp [-map_take,-map_drop]; omega
    have := hbad (by simp [-map_take,-map_drop]; omega)
    repeat' (first
      | with_reducible first | apply thenW_n | apply thenW_ret | apply thenW_exit | apply thenW_panic | apply blockW_n | apply blockW_same | apply blockW_ret | apply blockW_panic | apply loopW_ret | apply loopW_exit | apply loopW_panic | apply joinW_ret | apply joinW_exit | apply joinW_panic | apply W_seq | apply W_block | apply W_skip | apply W_ret | apply W_exit | apply W_label
      | with_reducible refine blockW_other (by decide) ?_
      | with_reducible refine W_rg ?_
      | (rw [vcn]; (try simp [-map_take,-map_drop, push_cast, g1, ht, hlen, hlt, hw, g2, g3, g4]); try simp (disch := omega) only [i64_in, u64_in, shr64i])
      | with_reducible refine W_drawn mixed (by decide) (by kernel_rfl) ?_
      | (rw [vcnD]; (try simp [-map_take,-map_drop, push_cast, g1, ht, hlen, hlt, hw, g2, g3, g4]); try simp (disch := omega) only [i64_in, u64_in, shr64i])
      | (with_reducible refine W_condW ?_; (try simp [-map_take,-map_drop, AS.val, upd, resB, mkS_env, mkS_box, lk, entry_env, condW_true, condW_false, g1, ht, hlen, hlt, hw, g2, g3, g4]))
      | (with_reducible refine optK_dV (by first | omega | (simp [-map_take,-map_drop]; omega)) ?_)
      | with_reducible refine optK_dVh (by omega) ?_
      | refine And.intro (by first | omega | kernel_rfl) ?_
      | ((with_reducible refine condW_b (fun hc => ?_) (fun hc => ?_) <;> (try simp [-map_take,-map_drop, Int.ofNat_inj] at hc) <;> (try contradiction)))
      | fail)
    simp [-map_take,-map_drop, post, resAV, resAll, resOne, closeV, closeC, closeL, resD, resDL, push_cast, this]
  have h2 : q + z ≤ 400000 := by omega
  have g3 : ((400000 : Int) < ((q + z : Nat) : Int)) = False := by simp [-map_take,-map_drop]; omega
  have g4 : ((400000 : Int) < (q : Int) + (z : Int)) = False := by simp [-map_take,-map_drop]; omega
  have hnx := hnext (by simp [-map_take,-map_drop]; omega)
  repeat' (first
    | with_reducible first | apply thenW_n | apply thenW_ret | apply thenW_exit | apply thenW_panic | apply blockW_n | apply blockW_same | apply blockW_ret | apply blockW_panic | apply loopW_ret | apply loopW_exit | apply loopW_panic | apply joinW_ret | apply joinW_exit | apply joinW_panic | apply W_seq | apply W_block | apply W_skip | apply W_ret | apply W_exit | apply W_label
    | with_reducible refine blockW_other (by decide) ?_
    | with_reducible refine W_rg ?_
    | (rw [vcn]; (try simp [-map_take,-map_drop, push_cast, g1, ht, hlen, hlt, hw, g2, g3, g4]); try simp (disch := omega) only [i64_in, u64_in, shr64i])
    | with_reducible refine W_drawn mixed (by decide) (by kernel_rfl) ?_
    | (rw [vcnD]; (try simp [-map_take,-map_drop, push_cast, g1, ht, hlen, hlt, hw, g2, g3, g4]); try simp (disch := omega) only [i64_in, u64_in, shr64i])
    | (with_reducible refine W_condW ?_; (try simp [-map_take,-map_drop, AS.val, upd, resB, mkS_env, mkS_box, lk, entry_env, condW_true, condW_false, g1, ht, hlen, hlt, hw, g2, g3, g4]))
    | (with_reducible refine optK_dV (by first | omega | (simp [-map_take,-map_drop]; omega)) ?_)
    | with_reducible refine optK_dVh (by omega) ?_
    | refine And.intro (by first | omega | kernel_rfl) ?_
    | ((with_reducible refine condW_b (fun hc => ?_) (fun hc => ?_) <;> (try simp [-map_take,-map_drop, Int.ofNat_inj] at hc) <;> (try contradiction)))
    | fail)
  refine loopW_n (i + 1) id (by omega) ⟨by omega, hnx⟩ ⟨?_, ?_, ?_, ?_, ?_, ?_⟩
  all_goals first | (with_reducible refine W_id ?_) | (simp [-map_take,-map_drop, push_cast, hsn, hLr]; done) | (simp [-map_take,-map_drop, push_cast, hsn, hLr]; omega) | (intro i hi; simp [-map_take,-map_drop]; omega) | (intro i hi; dsimp only; (repeat' split) <;> omega) | (simp [-map_take,-map_drop, push_cast, hsn, hLr]; fail_if_success done)
end Go.Fw
