import Derived.Test.YtjgbikhnnkigpaaQ0b
set_option linter.unusedSimpArgs false
set_option linter.unusedVariables false
-- VALS: recAV
namespace Go.Fw
open Go Go.Proofs Go.IntWalk
set_option linter.unusedSimpArgs false
set_option maxRecDepth 100000
set_option maxHeartbeats 2000000
open List (map_take map_drop)
attribute [local push_cast] optK_some optK_none optK_ite optK_map optK_bind gOn stepK isMem evPure evMem evBin evUn evConv evLen evBuiltin evMinMax evSlice evBuild evAppend evIndex evIndexAddr evField evFieldAddr intBin strBin appDest AS.val AS.mem AS.elems AS.put AS.put' AS.eff AV.cells? AV.isCell AV.refs all_isByte take_byteV drop_byteV strOf_map bndOk bnd partAV ptrAdd killBox catA inOrder fillA setAt ofVal resB upd byteV List.head?_take List.head?_drop List.getElem?_map mkS_env mkS_box mkS_used entry_env entry_box entry_used lk stepD lookIds Oper.looksAt Op.operands Call.operands St.ids refsL renL_append dV_take dV_drop ren renL renBox Box.refs iV i64V boolV dV_getElem dV_app dV_cons toNat_add2 toNat_add1
theorem recsCells_drop (l : List Rec) (i : Nat) : (recsCells l).drop (i * 3) = recsCells (l.drop i) := by
  induction l generalizing i with
  | nil => simp [recsCells]
  | cons x t ih =>
    cases i with
    | zero => simp
    | succ i =>
      have e : (i + 1) * 3 = (recCells x).length + i * 3 := by simp [recCells]; omega
      show (recCells x ++ recsCells t).drop _ = _
      rw [e, List.drop_append, Nat.add_sub_cancel_left, ih]
      simp [recCells]
theorem recsCells_take (l : List Rec) (i : Nat) : (recsCells l).take (i * 3) = recsCells (l.take i) := by
  induction l generalizing i with
  | nil => simp [recsCells]
  | cons x t ih =>
    cases i with
    | zero => simp [recsCells]
    | succ i =>
      have e : (i + 1) * 3 = i * 3 + 1 + 1 + 1 := by omega
      show (recCells x ++ recsCells t).take _ = recCells x ++ recsCells (t.take i)
      rw [e, ← ih]
      rfl
theorem recsCells_at (l : List Rec) (i : Nat) (h : i < l.length) : ∃ t, (recsCells l).drop (i * 3) = byteV l[i].1 :: byteV l[i].2.1 :: .slc false 1 l[i].2.2.length (l[i].2.2.map byteV) :: t := by
  refine ⟨recsCells (l.drop (i + 1)), ?_⟩
  rw [recsCells_drop, List.drop_eq_getElem_cons h]
  rfl
def bodies (l : List Rec) : Nat := (l.map fun r => r.2.2.length).sum
def fewL (l : List Rec) : Option (List Rec) := if (l.take 200).all (fun r => decide (r.2.2.length ≤ 200000)) = true ∧ bodies (l.take 200) ≤ 400000 then some (l.take 200) else none
def fewOk (l : List Rec) : Bool := (List.range l.length).all (fun i => decide ((l.getD i (0, 0, [])).2.2.length ≤ 200000) && decide (bodies (l.take (i + 1)) ≤ 400000))
def fewAV (f : Bool) (l : List Rec) : AV := if fewOk l = true then .tup [.slc f 3 l.length (recsCells l), .v (.bool true)] else .tup [.v (.slice none 0 0), .v (.bool false)]
def fewUp (m : List Rec) (i : Nat) : Prop := ∀ j < i, (decide ((m.getD j (0, 0, [])).2.2.length ≤ 200000) && decide (bodies (m.take (j + 1)) ≤ 400000)) = true
end Go.Fw
-- VALS: recAV
namespace Go.Fw
open Go Go.Proofs Go.IntWalk
set_option linter.unusedSimpArgs false
set_option maxRecDepth 100000
set_option maxHeartbeats 2000000
open List (map_take map_drop)
attribute [local push_cast] optK_some optK_none optK_ite optK_map optK_bind gOn stepK isMem evPure evMem evBin evUn evConv evLen evBuiltin evMinMax evSlice evBuild evAppend evIndex evIndexAddr evField evFieldAddr intBin strBin appDest AS.val AS.mem AS.elems AS.put AS.put' AS.eff AV.cells? AV.isCell AV.refs all_isByte take_byteV drop_byteV strOf_map bndOk bnd partAV ptrAdd killBox catA inOrder fillA setAt ofVal resB upd byteV List.head?_take List.head?_drop List.getElem?_map mkS_env mkS_box mkS_used entry_env entry_box entry_used lk stepD lookIds Oper.looksAt Op.operands Call.operands St.ids refsL renL_append dV_take dV_drop ren renL renBox Box.refs iV i64V boolV dV_getElem dV_app dV_cons toNat_add2 toNat_add1
theorem short1_ok (n : Int) : Eval Try.prog 32 [.slc false 1 1 [i64V n]] (.ret (.slc false 1 2 ((shortB n).map byteV))) := by
  have h := (eval32 false [n] (by simp)).frz1
  simpa [shortB, intV, i64V] using h
def recOk (r : Rec) : Bool := decide (r.2.2.length % 2 = 0) && decide (r.2.2.length ≤ 65530)
def recB (r : Rec) : List UInt8 := shortB ((r.2.2.length + 4 : Nat) : Int) ++ (r.1 :: r.2.1 :: r.2.2)
def joinOk (l : List Rec) : Bool := l.all recOk
def joinB (l : List Rec) : List UInt8 := l.flatMap recB
def joinAV (l : List Rec) : AV := if joinOk l = true then .tup [.slc false 1 (joinB l).length ((joinB l).map byteV), i64V 0] else .tup [.v (.slice none 0 0), i64V 3]
theorem recB_len (r : Rec) : (recB r).length = r.2.2.length + 4 := by simp [recB, shortB]
theorem joinB_snoc (l : List Rec) (i : Nat) (h : i < l.length) : joinB (l.take (i + 1)) = joinB (l.take i) ++ recB l[i] := by
  rw [List.take_succ_eq_append_getElem h]
  unfold joinB
  rw [List.flatMap_append]
  simp
theorem joinB_le (l : List Rec) (i : Nat) : (joinB (l.take i)).length ≤ (joinB l).length := by
  conv => rhs; rw [← List.take_append_drop i l]
  simp only [joinB, List.flatMap_append, List.length_append]
  omega
def oksUp (m : List Rec) (i : Nat) : Prop := ∀ j < i, recOk (m.getD j (0, 0, [])) = true
theorem join_ok (f : Bool) (l : List Rec) (hb : joinOk l = true → (joinB l).length ≤ 100000000) (hll : l.length ≤ 1000000) : Eval Try.prog 26 [.slc f 3 l.length (recsCells l)] (.ret (joinAV l)) := by
  refine Eval.intro Try.func26 rfl Try.call26 _ _ (Nat.le_of_ble_eq_true rfl) (by simp [natAV, recAV, push_cast]) fun hs0 => ?_
  obtain ⟨out, hout⟩ : ∃ out, out = joinAV l := ⟨_, rfl⟩
  rw [← hout]
  have hlen := recsCells_len l
  have hat := recsCells_at l
  have hLr := recsCells_refs l
  obtain ⟨n, hn⟩ : ∃ n, n = l.length := ⟨_, rfl⟩
  obtain ⟨L, hL⟩ : ∃ L, L = recsCells l := ⟨_, rfl⟩
  rw [← hL] at hlen hat hLr ⊢
  rw [← hn] at hlen hll ⊢
  repeat' (first
    | with_reducible first | apply thenW_n | apply W_seq | apply W_block
    | with_reducible refine W_region (by first | decide | (with_unfolding_all rfl)) ?_
    | (rw [vcn]; (try simp [push_cast]))
    | fail)
  refine W_loopW (X := Nat) (fun i => [(0, .slc f 3 n L), (4, .v (.slice none 0 0)), (9, .slc f 3 n L), (10, i64V n), (11, i64V i)]) (fun _ => []) (fun i => n - i)
    (fun i => i ≤ n ∧ oksUp l i) 0 id ⟨Nat.zero_le _, fun j hj => absurd hj (by omega)⟩ ⟨?_, ?_, ?_, ?_, ?_, ?_⟩ fun i hx => ?_
  all_goals first | (with_reducible refine W_id ?_) | (simp [push_cast, hLr]; done)
  obtain ⟨hi, hI⟩ := hx
  by_cases hlt : i < n
  · have g1 : (i < n) = True := by simp; omega
    obtain ⟨t, ht⟩ := hat i (by omega)
    have hgd : l.getD i (0, 0, []) = l[i] := by simp [List.getD, List.getElem?_eq_getElem (show i < l.length by omega)]
    have hmem : l[i] ∈ l := List.getElem_mem (by omega)
    obtain ⟨r, hr⟩ : ∃ r, r = l[i] := ⟨_, rfl⟩
    rw [← hr] at ht hgd hmem
    obtain ⟨z, hz⟩ : ∃ z, z = r.2.2.length := ⟨_, rfl⟩
    have hrk : recOk r = (decide (z % 2 = 0) && decide (z ≤ 65530)) := by rw [hz]; rfl
    rw [← hz] at ht
    have h4 : L.drop (i * 3) = byteV r.1 :: byteV r.2.1 :: .slc false 1 z (r.2.2.map byteV) :: t := ht
    have hbad : recOk r = false → out = .tup [.v (.slice none 0 0), i64V 3] := by
      intro h
      have : joinOk l = false := by
        rw [Bool.eq_false_iff]
        intro h'
        rw [List.all_eq_true.1 h' r hmem] at h
        cases h
      rw [hout, joinAV, this]
      rfl
    have hnext : recOk r = true → oksUp l (i + 1) := by
      intro h j hj
      rcases (by omega : j < i ∨ j = i) with hj | hj
      · exact hI j hj
      · subst hj; rw [hgd]; exact h
    rw [hrk] at hbad hnext
    have hm : ((z : Int).tmod 2) = ((z % 2 : Nat) : Int) := by rw [Int.ofNat_tmod]; rfl
    have htl := congrArg List.length ht
    rw [List.length_drop, hlen] at htl
    simp only [List.length_cons] at htl
    have h4' : (L.drop (i * 3)).take 3 = [byteV r.1, byteV r.2.1, .slc false 1 z (r.2.2.map byteV)] := by rw [ht]; rfl
    by_cases h1 : ¬ z % 2 = 0
    · have g2 : (z % 2 = 1) = True := by simp; omega
      have g3 : (z % 2 = 0) = False := by simp; omega
      have g4 : ((z : Int) % 2 = 0) = False := by simp; omega
      have := hbad (by simp; omega)
      repeat' (first
        | with_reducible first | apply thenW_n | apply thenW_ret | apply blockW_ret | apply loopW_ret | apply W_seq | apply W_block | apply W_skip | apply W_ret
        | with_reducible refine W_region (by first | decide | (with_unfolding_all rfl)) ?_
        | (rw [vcn]; (try simp [push_cast, g1, ht, hlen, hlt, hm, g2, g3, g4]))
        | (with_reducible refine W_condW ?_; (try simp [AS.val, upd, resB, mkS_env, mkS_box, lk, entry_env, condW_true, condW_false, g1, ht, hlen, hlt, hm, g2, g3, g4]))
        | fail)
      simp [post, resAV, resAll, resOne, closeV, closeC, closeL, resD, resDL, push_cast, this]
    have h1 : z % 2 = 0 := by omega
    have g2 : (z % 2 = 1) = False := by simp; omega
    have g3 : (z % 2 = 0) = True := by simp; omega
    have g4 : ((z : Int) % 2 = 0) = True := by simp; omega
    by_cases h2 : ¬ z ≤ 65530
    · have g5 : ((65530 : Int) < (z : Int)) = True := by simp; omega
      have := hbad (by simp; omega)
      repeat' (first
        | with_reducible first | apply thenW_n | apply thenW_ret | apply blockW_ret | apply loopW_ret | apply W_seq | apply W_block | apply W_skip | apply W_ret
        | with_reducible refine W_region (by first | decide | (with_unfolding_all rfl)) ?_
        | (rw [vcn]; (try simp [push_cast, g1, ht, hlen, hlt, hm, g2, g3, g4, g5]))
        | (with_reducible refine W_condW ?_; (try simp [AS.val, upd, resB, mkS_env, mkS_box, lk, entry_env, condW_true, condW_false, g1, ht, hlen, hlt, hm, g2, g3, g4, g5]))
        | fail)
      simp [post, resAV, resAll, resOne, closeV, closeC, closeL, resD, resDL, push_cast, this]
    have h2 : z ≤ 65530 := by omega
    have g5 : ((65530 : Int) < (z : Int)) = False := by simp; omega
    have hnx := hnext (by simp; omega)
    repeat' (first
      | with_reducible first | apply thenW_n | apply blockW_n | apply W_seq | apply W_block | apply W_skip
      | with_reducible refine W_region (by first | decide | (with_unfolding_all rfl)) ?_
      | (rw [vcn]; (try simp [push_cast, g1, ht, hlen, hlt, hm, g2, g3, g4, g5]); try simp (disch := omega) only [i64_in, u64_in, shr64i])
      | (with_reducible refine W_condW ?_; (try simp [AS.val, upd, resB, mkS_env, mkS_box, lk, entry_env, condW_true, condW_false, g1, ht, hlen, hlt, hm, g2, g3, g4, g5]))
      | fail)
    refine loopW_n (i + 1) id (by omega) ⟨by omega, hnx⟩ ⟨?_, ?_, ?_, ?_, ?_, ?_⟩
    all_goals first | (simp [push_cast, hLr]; done)
  have g1 : (i < n) = False := by simp; omega
  have hok : joinOk l = true := by
    unfold joinOk
    rw [List.all_eq_true]
    intro r hr
    obtain ⟨j, hj, rfl⟩ := List.mem_iff_getElem.1 hr
    have := hI j (by omega)
    rwa [show l.getD j (0, 0, []) = l[j] from by simp [List.getD, List.getElem?_eq_getElem hj]] at this
  rw [joinAV, if_pos hok] at hout
  have hb := hb hok
  have hbo : ∀ (i : Nat) (h : i < n), (l[i]'(by omega)).2.2.length ≤ 65530 := by
    intro i h
    have := List.all_eq_true.1 hok (l[i]'(by omega)) (List.getElem_mem _)
    simp [recOk] at this
    exact this.2
  repeat' (first
    | with_reducible first | apply thenW_n | apply thenW_exit | apply blockW_same | apply loopW_exit | apply W_seq | apply W_block | apply W_exit
    | with_reducible refine W_region (by first | decide | (with_unfolding_all rfl)) ?_
    | (rw [vcn]; (try simp [push_cast, g1]))
    | (with_reducible refine W_condW ?_; (try simp [AS.val, upd, resB, mkS_env, mkS_box, lk, entry_env, condW_true, condW_false, g1]))
    | fail)
  refine W_nil 4 500 5 1 (by simp [upd, mkS_env, lk]) (by simp [mkS_used]) ?_
  refine W_loopW (X := Nat) (fun i => [(4, .bs 500 1 0 (joinB (l.take i)).length), (27, .slc f 3 n L), (28, i64V n), (29, i64V i)]) (fun i => [(500, .mut 5 ((joinB (l.take i)).map byteV))]) (fun i => n - i)
    (fun i => i ≤ n) 0 id (Nat.zero_le _) ⟨?_, ?_, ?_, ?_, ?_, ?_⟩ fun i hi => ?_
  all_goals first | (with_reducible refine W_id ?_) | (simp [push_cast, hLr, joinB]; done)
  by_cases hlt : i < n
  · have g1 : (i < n) = True := by simp; omega
    obtain ⟨t, ht⟩ := hat i (by omega)
    have hsn := joinB_snoc l i (by omega)
    have hle := joinB_le l (i + 1)
    have hz2 := hbo i hlt
    rw [hsn, List.length_append, recB_len] at hle
    obtain ⟨r, hr⟩ : ∃ r, r = l[i] := ⟨_, rfl⟩
    rw [← hr] at ht hsn hle hz2
    obtain ⟨B, hB⟩ : ∃ B, B = joinB (l.take i) := ⟨_, rfl⟩
    obtain ⟨z, hz⟩ : ∃ z, z = r.2.2.length := ⟨_, rfl⟩
    obtain ⟨k, d, b⟩ := r
    simp only at hz ht hle hz2
    rw [← hB, recB] at hsn
    simp only [← hz] at hsn
    rw [← hz] at ht hle hz2
    rw [← hB] at hle
    simp only [← hB]
    have hw : IntKind.i64.wrap ((z : Int) + 4) = ((z + 4 : Nat) : Int) := by rw [i64_in _ (by omega)]; omega
    have hbl : (b.map byteV).length = z := by rw [List.length_map, hz]
    repeat' (first
      | with_reducible first | apply thenW_n | apply W_seq | apply W_block | apply W_skip
      | with_reducible refine W_region (by first | decide | (with_unfolding_all rfl)) ?_
      | (rw [vcn]; (try simp [push_cast, g1, ht, hlen, hlt, hw]))
      | (with_reducible refine W_condW ?_; (try simp [AS.val, upd, resB, mkS_env, mkS_box, lk, entry_env, condW_true, condW_false, g1, ht, hlen, hlt, hw]))
      | fail)
    have hsh := short1_ok ((z + 4 : Nat) : Int)
    obtain ⟨p, q, hpq⟩ : ∃ p q, shortB ((z + 4 : Nat) : Int) = [p, q] := ⟨_, _, rfl⟩
    rw [hpq] at hsh hsn
    refine CallG_frz _ _ rfl ?_ (hsh) ?_ (by simp [push_cast]) rfl ?_
    · first | (simp [frzS, resDL, resD, push_cast]; done) | (simp [frzS, resDL, resD, push_cast]; rw [List.take_of_length_le (by simp)]; done) | (simp [frzS, resDL, resD, push_cast]; fail_if_success done)
    · simp [frzOk, push_cast]
    try dsimp only
    try simp only [refsL, AV.refs, frzS, List.append_nil, upd, mkS_box, entry_box, lk, if_true, if_false]
    repeat' (first
      | with_reducible first | apply thenW_n | apply blockW_n | apply W_seq
      | with_reducible refine W_region (by first | decide | (with_unfolding_all rfl)) ?_
      | (rw [vcn]; (try simp [push_cast, g1, ht, hlen, hlt, hw, hbl]); try simp (disch := omega) only [i64_in, u64_in, shr64i])
      | refine And.intro (by first | omega | kernel_rfl) ?_
      | fail)
    refine loopW_n (i + 1) (fun i => if i = 500 then 51 else i) (by omega) (by omega) ⟨?_, ?_, ?_, ?_, ?_, ?_⟩
    all_goals first | (simp [push_cast, hLr, hsn, hz]; done) | (simp [push_cast, hLr, hsn, hz]; omega)
  have g1 : (i < n) = False := by simp; omega
  have hB : joinB (l.take i) = joinB l := by rw [List.take_of_length_le (by omega)]
  rw [hB]
  refine W_frz 500 (e := 5) (l := (joinB l).map byteV) (by simp [mkS_box, lk]) (refsL_bytes _) ?_
  repeat' (first
    | with_reducible first | apply thenW_n | apply thenW_exit | apply blockW_same | apply loopW_exit | apply W_seq | apply W_ret | apply W_exit
    | with_reducible refine W_region (by first | decide | (with_unfolding_all rfl)) ?_
    | (rw [vcn]; (try simp [push_cast, g1]))
    | (with_reducible refine W_condW ?_; (try simp [AS.val, upd, resB, mkS_env, mkS_box, lk, entry_env, condW_true, condW_false, g1]))
    | fail)
  simp [post, resAV, resAll, resOne, closeV, closeC, closeL, resD, resDL, push_cast, hout]
end Go.Fw
-- VALS: recAV
namespace Go.Fw
open Go Go.Proofs Go.IntWalk
set_option linter.unusedSimpArgs false
set_option maxRecDepth 100000
set_option maxHeartbeats 2000000
open List (map_take map_drop)
attribute [local push_cast] optK_some optK_none optK_ite optK_map optK_bind gOn stepK isMem evPure evMem evBin evUn evConv evLen evBuiltin evMinMax evSlice evBuild evAppend evIndex evIndexAddr evField evFieldAddr intBin strBin appDest AS.val AS.mem AS.elems AS.put AS.put' AS.eff AV.cells? AV.isCell AV.refs all_isByte take_byteV drop_byteV strOf_map bndOk bnd partAV ptrAdd killBox catA inOrder fillA setAt ofVal resB upd byteV List.head?_take List.head?_drop List.getElem?_map mkS_env mkS_box mkS_used entry_env entry_box entry_used lk stepD lookIds Oper.looksAt Op.operands Call.operands St.ids refsL renL_append dV_take dV_drop ren renL renBox Box.refs iV i64V boolV dV_getElem dV_app dV_cons toNat_add2 toNat_add1
theorem short_tdiv (z : Nat) (hz : z ≤ 65530) (p q : UInt8) (h : shortB ((z + 4 : Nat) : Int) = [p, q]) : IntKind.u8.wrap (IntKind.i64.wrap (((z : Int) + 4).tdiv 256)) = (p.toNat : Int) ∧ IntKind.u8.wrap (((z : Int) + 4).tmod 256) = (q.toNat : Int) := by
  unfold shortB at h
  simp only [List.cons.injEq, and_true] at h
  obtain ⟨hp, hq⟩ := h
  rw [Int.tdiv_eq_ediv_of_nonneg (by omega), Int.tmod_eq_emod_of_nonneg (by omega), i64_in _ (by omega), IntKind.wrap_u8, IntKind.wrap_u8, ← hp, ← hq]
  unfold lowB shrI
  rw [Int.fdiv_eq_ediv_of_nonneg _ (Int.le_of_lt (Int.pow_pos (by decide))), UInt8.toNat_ofNat', UInt8.toNat_ofNat']
  refine ⟨?_, ?_⟩
  · simp only [IntKind.bits]
    simp
    omega
  · omega
theorem refJoin_ok (f : Bool) (l : List Rec) (hb : joinOk l = true → (joinB l).length ≤ 100000000) (hll : l.length ≤ 1000000) : Eval Try.prog 27 [.slc f 3 l.length (recsCells l)] (.ret (joinAV l)) := by
  refine Eval.intro Try.func27 rfl Try.call27 _ _ (Nat.le_of_ble_eq_true rfl) (by simp [natAV, recAV, push_cast]) fun hs0 => ?_
  obtain ⟨out, hout⟩ : ∃ out, out = joinAV l := ⟨_, rfl⟩
  rw [← hout]
  have hlen := recsCells_len l
  have hat := recsCells_at l
  have hLr := recsCells_refs l
  obtain ⟨n, hn⟩ : ∃ n, n = l.length := ⟨_, rfl⟩
  obtain ⟨L, hL⟩ : ∃ L, L = recsCells l := ⟨_, rfl⟩
  rw [← hL] at hlen hat hLr ⊢
  rw [← hn] at hlen hll ⊢
  repeat' (first
    | with_reducible first | apply thenW_n | apply W_seq | apply W_block
    | with_reducible refine W_region (by first | decide | (with_unfolding_all rfl)) ?_
    | (rw [vcn]; (try simp [push_cast]))
    | fail)
  refine W_loopW (X := Nat) (fun i => [(0, .slc f 3 n L), (4, i64V i)]) (fun _ => []) (fun i => n - i)
    (fun i => i ≤ n ∧ oksUp l i) 0 id ⟨Nat.zero_le _, fun j hj => absurd hj (by omega)⟩ ⟨?_, ?_, ?_, ?_, ?_, ?_⟩ fun i hx => ?_
  all_goals first | (with_reducible refine W_id ?_) | (simp [push_cast, hLr]; done)
  obtain ⟨hi, hI⟩ := hx
  by_cases hlt : i < n
  · have g1 : (i < n) = True := by simp; omega
    obtain ⟨t, ht⟩ := hat i (by omega)
    have hgd : l.getD i (0, 0, []) = l[i] := by simp [List.getD, List.getElem?_eq_getElem (show i < l.length by omega)]
    have hmem : l[i] ∈ l := List.getElem_mem (by omega)
    obtain ⟨r, hr⟩ : ∃ r, r = l[i] := ⟨_, rfl⟩
    rw [← hr] at ht hgd hmem
    obtain ⟨z, hz⟩ : ∃ z, z = r.2.2.length := ⟨_, rfl⟩
    have hrk : recOk r = (decide (z % 2 = 0) && decide (z ≤ 65530)) := by rw [hz]; rfl
    rw [← hz] at ht
    have h4 : L.drop (i * 3) = byteV r.1 :: byteV r.2.1 :: .slc false 1 z (r.2.2.map byteV) :: t := ht
    have hbad : recOk r = false → out = .tup [.v (.slice none 0 0), i64V 3] := by
      intro h
      have : joinOk l = false := by
        rw [Bool.eq_false_iff]
        intro h'
        rw [List.all_eq_true.1 h' r hmem] at h
        cases h
      rw [hout, joinAV, this]
      rfl
    have hnext : recOk r = true → oksUp l (i + 1) := by
      intro h j hj
      rcases (by omega : j < i ∨ j = i) with hj | hj
      · exact hI j hj
      · subst hj; rw [hgd]; exact h
    rw [hrk] at hbad hnext
    have hm : ((z : Int).tmod 2) = ((z % 2 : Nat) : Int) := by rw [Int.ofNat_tmod]; rfl
    have htl := congrArg List.length ht
    rw [List.length_drop, hlen] at htl
    simp only [List.length_cons] at htl
    have h4' : (L.drop (i * 3)).take 3 = [byteV r.1, byteV r.2.1, .slc false 1 z (r.2.2.map byteV)] := by rw [ht]; rfl
    by_cases h1 : ¬ z % 2 = 0
    · have g2 : (z % 2 = 1) = True := by simp; omega
      have g3 : (z % 2 = 0) = False := by simp; omega
      have g4 : ((z : Int) % 2 = 0) = False := by simp; omega
      have g4b : ((z : Int) % 2 = 1) = True := by simp; omega
      have := hbad (by simp; omega)
      repeat' (first
        | with_reducible first | apply thenW_n | apply thenW_ret | apply blockW_ret | apply loopW_ret | apply W_seq | apply W_block | apply W_skip | apply W_ret
        | with_reducible refine W_region (by first | decide | (with_unfolding_all rfl)) ?_
        | (rw [vcn]; (try simp [push_cast, g1, ht, hlen, hlt, hm, g2, g3, g4, g4b]))
        | (with_reducible refine W_condW ?_; (try simp [AS.val, upd, resB, mkS_env, mkS_box, lk, entry_env, condW_true, condW_false, g1, ht, hlen, hlt, hm, g2, g3, g4, g4b]))
        | fail)
      simp [post, resAV, resAll, resOne, closeV, closeC, closeL, resD, resDL, push_cast, this]
    have h1 : z % 2 = 0 := by omega
    have g2 : (z % 2 = 1) = False := by simp; omega
    have g3 : (z % 2 = 0) = True := by simp; omega
    have g4 : ((z : Int) % 2 = 0) = True := by simp; omega
    have g4b : ((z : Int) % 2 = 1) = False := by simp; omega
    by_cases h2 : ¬ z ≤ 65530
    · have g5 : ((65530 : Int) < (z : Int)) = True := by simp; omega
      have := hbad (by simp; omega)
      repeat' (first
        | with_reducible first | apply thenW_n | apply thenW_ret | apply blockW_ret | apply loopW_ret | apply W_seq | apply W_block | apply W_skip | apply W_ret
        | with_reducible refine W_region (by first | decide | (with_unfolding_all rfl)) ?_
        | (rw [vcn]; (try simp [push_cast, g1, ht, hlen, hlt, hm, g2, g3, g4, g4b, g5]))
        | (with_reducible refine W_condW ?_; (try simp [AS.val, upd, resB, mkS_env, mkS_box, lk, entry_env, condW_true, condW_false, g1, ht, hlen, hlt, hm, g2, g3, g4, g4b, g5]))
        | fail)
      simp [post, resAV, resAll, resOne, closeV, closeC, closeL, resD, resDL, push_cast, this]
    have h2 : z ≤ 65530 := by omega
    have g5 : ((65530 : Int) < (z : Int)) = False := by simp; omega
    have hnx := hnext (by simp; omega)
    repeat' (first
      | with_reducible first | apply thenW_n | apply blockW_n | apply W_seq | apply W_block | apply W_skip
      | with_reducible refine W_region (by first | decide | (with_unfolding_all rfl)) ?_
      | (rw [vcn]; (try simp [push_cast, g1, ht, hlen, hlt, hm, g2, g3, g4, g4b, g5]); try simp (disch := omega) only [i64_in, u64_in, shr64i])
      | (with_reducible refine W_condW ?_; (try simp [AS.val, upd, resB, mkS_env, mkS_box, lk, entry_env, condW_true, condW_false, g1, ht, hlen, hlt, hm, g2, g3, g4, g4b, g5]))
      | fail)
    refine loopW_n (i + 1) id (by omega) ⟨by omega, hnx⟩ ⟨?_, ?_, ?_, ?_, ?_, ?_⟩
    all_goals first | (simp [push_cast, hLr]; done)
  have g1 : (i < n) = False := by simp; omega
  have hok : joinOk l = true := by
    unfold joinOk
    rw [List.all_eq_true]
    intro r hr
    obtain ⟨j, hj, rfl⟩ := List.mem_iff_getElem.1 hr
    have := hI j (by omega)
    rwa [show l.getD j (0, 0, []) = l[j] from by simp [List.getD, List.getElem?_eq_getElem hj]] at this
  rw [joinAV, if_pos hok] at hout
  have hb := hb hok
  have hbo : ∀ (i : Nat) (h : i < n), (l[i]'(by omega)).2.2.length ≤ 65530 := by
    intro i h
    have := List.all_eq_true.1 hok (l[i]'(by omega)) (List.getElem_mem _)
    simp [recOk] at this
    exact this.2
  repeat' (first
    | with_reducible first | apply thenW_n | apply thenW_exit | apply blockW_same | apply loopW_exit | apply W_seq | apply W_block | apply W_exit
    | with_reducible refine W_region (by first | decide | (with_unfolding_all rfl)) ?_
    | (rw [vcn]; (try simp [push_cast, g1]))
    | (with_reducible refine W_condW ?_; (try simp [AS.val, upd, resB, mkS_env, mkS_box, lk, entry_env, condW_true, condW_false, g1]))
    | fail)
  refine W_nil 5 500 5 1 (by simp [upd, mkS_env, lk]) (by simp [mkS_used]) ?_
  refine W_loopW (X := Nat) (fun i => [(0, .slc f 3 n L), (5, .bs 500 1 0 (joinB (l.take i)).length), (6, i64V i)]) (fun i => [(500, .mut 5 ((joinB (l.take i)).map byteV))]) (fun i => n - i)
    (fun i => i ≤ n) 0 id (Nat.zero_le _) ⟨?_, ?_, ?_, ?_, ?_, ?_⟩ fun i hi => ?_
  all_goals first | (with_reducible refine W_id ?_) | (simp [push_cast, hLr, joinB]; done)
  by_cases hlt : i < n
  · have g1 : (i < n) = True := by simp; omega
    obtain ⟨t, ht⟩ := hat i (by omega)
    have hsn := joinB_snoc l i (by omega)
    have hle := joinB_le l (i + 1)
    have hz2 := hbo i hlt
    rw [hsn, List.length_append, recB_len] at hle
    obtain ⟨r, hr⟩ : ∃ r, r = l[i] := ⟨_, rfl⟩
    rw [← hr] at ht hsn hle hz2
    obtain ⟨B, hB⟩ : ∃ B, B = joinB (l.take i) := ⟨_, rfl⟩
    obtain ⟨z, hz⟩ : ∃ z, z = r.2.2.length := ⟨_, rfl⟩
    obtain ⟨k, d, b⟩ := r
    simp only at hz ht hle hz2
    rw [← hB, recB] at hsn
    simp only [← hz] at hsn
    rw [← hz] at ht hle hz2
    rw [← hB] at hle
    simp only [← hB]
    have hw : IntKind.i64.wrap ((z : Int) + 4) = ((z + 4 : Nat) : Int) := by rw [i64_in _ (by omega)]; omega
    have hbl : (b.map byteV).length = z := by rw [List.length_map, hz]
    repeat' (first
      | with_reducible first | apply thenW_n | apply blockW_n | apply W_seq | apply W_block | apply W_skip
      | with_reducible refine W_region (by first | decide | (with_unfolding_all rfl)) ?_
      | (rw [vcn]; (try simp [push_cast, g1, ht, hlen, hlt, hw]); try simp (disch := omega) only [i64_in, u64_in, shr64i])
      | with_reducible refine W_drawn mixed (by decide) (by kernel_rfl) ?_
      | (rw [vcnD]; (try simp [push_cast, g1, ht, hlen, hlt, hw]); try simp (disch := omega) only [i64_in, u64_in, shr64i])
      | (with_reducible refine W_condW ?_; (try simp [AS.val, upd, resB, mkS_env, mkS_box, lk, entry_env, condW_true, condW_false, g1, ht, hlen, hlt, hw]))
      | refine And.intro (by first | omega | kernel_rfl) ?_
      | fail)
    obtain ⟨p, q, hpq⟩ : ∃ p q, shortB ((z + 4 : Nat) : Int) = [p, q] := ⟨_, _, rfl⟩
    obtain ⟨hp, hq⟩ := short_tdiv z hz2 p q hpq
    rw [hz] at hp hq
    rw [hpq] at hsn
    repeat' (first
      | with_reducible first | apply thenW_n | apply thenW_ret | apply thenW_exit | apply thenW_panic | apply blockW_n | apply blockW_same | apply blockW_ret | apply blockW_panic | apply loopW_ret | apply loopW_exit | apply loopW_panic | apply joinW_ret | apply joinW_exit | apply joinW_panic | apply W_seq | apply W_block | apply W_skip | apply W_ret | apply W_exit | apply W_label
      | with_reducible refine blockW_other (by decide) ?_
      | with_reducible refine W_region (by first | decide | (with_unfolding_all rfl)) ?_
      | (rw [vcn]; (try simp [push_cast, g1, ht, hlen, hlt, hw, hbl]); try simp (disch := omega) only [i64_in, u64_in, shr64i])
      | with_reducible refine W_drawn mixed (by decide) (by kernel_rfl) ?_
      | (rw [vcnD]; (try simp [push_cast, g1, ht, hlen, hlt, hw, hbl]); try simp (disch := omega) only [i64_in, u64_in, shr64i])
      | (with_reducible refine W_condW ?_; (try simp [AS.val, upd, resB, mkS_env, mkS_box, lk, entry_env, condW_true, condW_false, g1, ht, hlen, hlt, hw, hbl]))
      | (with_reducible refine optK_dV (by first | omega | (simp; omega)) ?_)
      | with_reducible refine optK_dVh (by omega) ?_
      | refine And.intro (by first | omega | kernel_rfl) ?_
      | ((with_reducible refine condW_b (fun hc => ?_) (fun hc => ?_) <;> (try simp [Int.ofNat_inj] at hc) <;> (try contradiction)))
      | fail)
    refine loopW_n (i + 1) (fun i => if i = 500 then 69 else i) (by omega) (by omega) ⟨?_, ?_, ?_, ?_, ?_, ?_⟩
    all_goals first | (simp [push_cast, hLr, hsn, hz, hp, hq]; done) | (simp [push_cast, hLr, hsn, hz, hp, hq]; omega)
  have g1 : (i < n) = False := by simp; omega
  have hB : joinB (l.take i) = joinB l := by rw [List.take_of_length_le (by omega)]
  rw [hB]
  refine W_frz 500 (e := 5) (l := (joinB l).map byteV) (by simp [mkS_box, lk]) (refsL_bytes _) ?_
  repeat' (first
    | with_reducible first | apply thenW_n | apply thenW_exit | apply blockW_same | apply loopW_exit | apply W_seq | apply W_ret | apply W_exit
    | with_reducible refine W_region (by first | decide | (with_unfolding_all rfl)) ?_
    | (rw [vcn]; (try simp [push_cast, g1]))
    | (with_reducible refine W_condW ?_; (try simp [AS.val, upd, resB, mkS_env, mkS_box, lk, entry_env, condW_true, condW_false, g1]))
    | fail)
  simp [post, resAV, resAll, resOne, closeV, closeC, closeL, resD, resDL, push_cast, hout]
end Go.Fw
-- VALS: recAV
namespace Go.Fw
open Go Go.Proofs Go.IntWalk
set_option linter.unusedSimpArgs false
set_option maxRecDepth 100000
set_option maxHeartbeats 400000
open List (map_take map_drop)
attribute [local push_cast] optK_some optK_none optK_ite optK_map optK_bind gOn stepK isMem evPure evMem evBin evUn evConv evLen evBuiltin evMinMax evSlice evBuild evAppend evIndex evIndexAddr evField evFieldAddr intBin strBin appDest AS.val AS.mem AS.elems AS.put AS.put' AS.eff AV.cells? AV.isCell AV.refs all_isByte take_byteV drop_byteV strOf_map bndOk bnd partAV ptrAdd killBox catA inOrder fillA setAt ofVal resB upd byteV List.head?_take List.head?_drop List.getElem?_map mkS_env mkS_box mkS_used entry_env entry_box entry_used lk stepD lookIds Oper.looksAt Op.operands Call.operands St.ids refsL renL_append dV_take dV_drop ren renL renBox Box.refs iV i64V boolV dV_getElem dV_app dV_cons toNat_add2 toNat_add1
def sameR (r s : Rec) : Bool := r.1 == s.1 && r.2.1 == s.2.1 && r.2.2 == s.2.2
theorem sameR_iff (r s : Rec) : sameR r s = true ↔ r = s := by
  obtain ⟨a, b, c⟩ := r
  obtain ⟨a', b', c'⟩ := s
  simp [sameR, and_assoc]
theorem same1_ok (k d k' d' : UInt8) (b b' : List UInt8) : Eval Try.prog 49 [recAV k d b, recAV k' d' b'] (.ret (.v (.bool (sameR (k, d, b) (k', d', b'))))) := by
  refine Eval.intro Try.func49 rfl Try.call49 _ _ (Nat.le_of_ble_eq_true rfl) (by simp [natAV, recAV, push_cast]) fun hs0 => ?_
  have ne : ∀ x y : UInt8, ¬ x = y → ((x.toNat : Int) = (y.toNat : Int)) = False := fun x y h => eq_false fun h' => h (UInt8.toNat_inj.1 (by omega))
  by_cases h1 : ¬ k = k'
  · have g1 := ne _ _ h1
    have g2 : (k == k') = false := by simp [h1]
    repeat' (first
      | with_reducible first | apply thenW_n | apply W_seq | apply W_ret
      | with_reducible refine W_region (by first | decide | (with_unfolding_all rfl)) ?_
      | (rw [vcn]; (try simp [push_cast, recAV, g1]))
      | fail)
    simp [post, resAV, resAll, resOne, closeV, closeC, closeL, resD, resDL, push_cast, sameR, g1, g2]
  have h1 : k = k' := by simpa using h1
  subst h1
  by_cases h2 : ¬ d = d'
  · have g1 := ne _ _ h2
    have g2 : (d == d') = false := by simp [h2]
    repeat' (first
      | with_reducible first | apply thenW_n | apply W_seq | apply W_ret
      | with_reducible refine W_region (by first | decide | (with_unfolding_all rfl)) ?_
      | (rw [vcn]; (try simp [push_cast, recAV, g1]))
      | fail)
    simp [post, resAV, resAll, resOne, closeV, closeC, closeL, resD, resDL, push_cast, sameR, g1, g2]
  have h2 : d = d' := by simpa using h2
  subst h2
  by_cases h3 : ¬ b = b'
  · have g1 : (b = b') = False := by simp [h3]
    have g2 : (b == b') = false := by simp [h3]
    repeat' (first
      | with_reducible first | apply thenW_n | apply W_seq | apply W_ret
      | with_reducible refine W_region (by first | decide | (with_unfolding_all rfl)) ?_
      | (rw [vcn]; (try simp [push_cast, recAV, g1]))
      | fail)
    simp [post, resAV, resAll, resOne, closeV, closeC, closeL, resD, resDL, push_cast, sameR, g2]
  have h3 : b = b' := by simpa using h3
  subst h3
  repeat' (first
    | with_reducible first | apply thenW_n | apply W_seq | apply W_ret
    | with_reducible refine W_region (by first | decide | (with_unfolding_all rfl)) ?_
    | (rw [vcn]; (try simp [push_cast, recAV]))
    | fail)
  simp [post, resAV, resAll, resOne, closeV, closeC, closeL, resD, resDL, push_cast, sameR]
end Go.Fw
