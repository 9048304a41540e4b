/- The document's side of layer 6: text. -/
import Derived.Test.YtjgbikhnnkigpaaQ1
set_option linter.unusedSimpArgs false
set_option linter.unusedVariables false
namespace Go.Fw
open Go Go.Proofs Go.IntWalk
set_option linter.unusedSimpArgs false
set_option maxRecDepth 100000
set_option maxHeartbeats 4000000
attribute [local push_cast] optK_some optK_none optK_ite optK_map optK_bind gOn stepK isMem evPure evMem evBin evUn evConv evLen evBuiltin evMinMax evSlice evBuild evAppend evIndex evIndexAddr evField evFieldAddr intBin strBin appDest AS.val AS.mem AS.elems AS.put AS.put' AS.eff AV.cells? AV.isCell AV.refs all_isByte take_byteV drop_byteV strOf_map bndOk bnd partAV ptrAdd killBox catA inOrder fillA setAt ofVal resB upd byteV List.head?_take List.head?_drop List.getElem?_map mkS_env mkS_box mkS_used entry_env entry_box entry_used lk stepD lookIds Oper.looksAt Op.operands Call.operands St.ids refsL renL_append dV_take dV_drop ren renL renBox Box.refs iV i64V boolV dV_getElem dV_app dV_cons toNat_add2 toNat_add1

/-- One byte of a text. -/
def okAt (b : List UInt8) (names : Bool) (i : Nat) : Bool := (decide (i + 1 = b.length) && b.getD i 0 == 0) || (b.getD i 0 != 0 && (!names || letterB (b.getD i 0)))
def textB (b : List UInt8) (most : Nat) (names : Bool) : Bool := decide (0 < b.length) && decide (b.length % 2 = 0) && decide (b.length ≤ most) && (List.range b.length).all (okAt b names)

theorem text_ok (f : Bool) (b : List UInt8) (most : Nat) (names : Bool) (hb : b.length ≤ 1000000) : Eval Try.prog 55 [.slc f 1 b.length (b.map byteV), i64V most, .v (.bool names)] (.ret (.v (.bool (textB b most names)))) := by
  refine Eval.intro Try.func55 rfl Try.call55 _ _ (Nat.le_of_ble_eq_true rfl) (by simp [AV.refs, refsL, natAV, push_cast, -List.map_take, -List.map_drop]) fun hs0 => ?_
  have hget := byteL_get b
  obtain ⟨n, hn⟩ : ∃ n, n = b.length := ⟨_, rfl⟩
  obtain ⟨L, hL⟩ : ∃ L, L = b.map byteV := ⟨_, rfl⟩
  have hLl : L.length = n := by rw [hL, hn, List.length_map]
  rw [← hL] at hget ⊢
  rw [← hn]
  rw [← hn] at hb
  have hmod : ((n : Int).tmod 2) = ((n % 2 : Nat) : Int) := by rw [Int.ofNat_tmod]; rfl
  by_cases h0 : n = 0
  · have g0 : (n = 0) = True := by simp [h0]
    repeat' (first
      | with_reducible first | refine thenW_n ?_ | refine thenW_ret ?_ | refine thenW_exit ?_ | refine thenW_panic ?_ | refine blockW_n ?_ | refine blockW_same ?_ | refine blockW_ret ?_ | refine blockW_panic ?_ | refine loopW_ret ?_ | refine loopW_exit ?_ | refine loopW_panic ?_ | refine joinW_ret ?_ | refine joinW_exit ?_ | refine joinW_panic ?_ | refine W_seq ?_ | refine W_block ?_ | refine W_skip ?_ | refine W_ret ?_ | refine W_exit ?_ | refine W_label ?_
      | with_reducible refine blockW_other (by decide) ?_
      | with_reducible refine W_region (by first | decide | (with_unfolding_all rfl)) ?_
      | (rw [vcn]; (try simp [push_cast, -List.map_take, -List.map_drop, g0]); try simp (disch := omega) only [i64_in, u64_in, shr64i])
      | with_reducible refine W_drawn mixed (by decide) (by kernel_rfl) ?_
      | (rw [vcnD]; (try simp [push_cast, -List.map_take, -List.map_drop, g0]); try simp (disch := omega) only [i64_in, u64_in, shr64i])
      | (with_reducible refine W_condW ?_; (try simp [AS.val, upd, resB, mkS_env, mkS_box, lk, entry_env, condW_true, condW_false, g0]))
      | with_reducible refine optK_dV (by first | omega | (simp; omega)) ?_
      | with_reducible refine optK_dVh (by omega) ?_
      | refine And.intro (by first | omega | kernel_rfl) ?_
      | (with_reducible refine condW_b (fun hc => ?_) (fun hc => ?_) <;> (try simp [Int.ofNat_inj] at hc) <;> try contradiction)
      | fail)
    simp [post, resAV, resAll, resOne, closeV, closeC, closeL, resD, resDL, push_cast, -List.map_take, -List.map_drop, g0]
    simp [textB, ← hn, h0]
  have g0 : (n = 0) = False := by simp [h0]
  by_cases h1 : ¬ n % 2 = 0
  · have g1 : (n % 2 = 0) = False := by simp [h1]
    have g2 : ((n : Int) % 2 = 0) = False := by simp; omega
    have g3 : (n % 2 = 1) = True := by simp; omega
    repeat' (first
      | with_reducible first | refine thenW_n ?_ | refine thenW_ret ?_ | refine thenW_exit ?_ | refine thenW_panic ?_ | refine blockW_n ?_ | refine blockW_same ?_ | refine blockW_ret ?_ | refine blockW_panic ?_ | refine loopW_ret ?_ | refine loopW_exit ?_ | refine loopW_panic ?_ | refine joinW_ret ?_ | refine joinW_exit ?_ | refine joinW_panic ?_ | refine W_seq ?_ | refine W_block ?_ | refine W_skip ?_ | refine W_ret ?_ | refine W_exit ?_ | refine W_label ?_
      | with_reducible refine blockW_other (by decide) ?_
      | with_reducible refine W_region (by first | decide | (with_unfolding_all rfl)) ?_
      | (rw [vcn]; (try simp [push_cast, -List.map_take, -List.map_drop, g0, hmod, g1, g2, g3]); try simp (disch := omega) only [i64_in, u64_in, shr64i])
      | with_reducible refine W_drawn mixed (by decide) (by kernel_rfl) ?_
      | (rw [vcnD]; (try simp [push_cast, -List.map_take, -List.map_drop, g0, hmod, g1, g2, g3]); try simp (disch := omega) only [i64_in, u64_in, shr64i])
      | (with_reducible refine W_condW ?_; (try simp [AS.val, upd, resB, mkS_env, mkS_box, lk, entry_env, condW_true, condW_false, g0, hmod, g1, g2, g3]))
      | with_reducible refine optK_dV (by first | omega | (simp; omega)) ?_
      | with_reducible refine optK_dVh (by omega) ?_
      | refine And.intro (by first | omega | kernel_rfl) ?_
      | (with_reducible refine condW_b (fun hc => ?_) (fun hc => ?_) <;> (try simp [Int.ofNat_inj] at hc) <;> try contradiction)
      | fail)
    simp [post, resAV, resAll, resOne, closeV, closeC, closeL, resD, resDL, push_cast, -List.map_take, -List.map_drop]
    simp [textB, ← hn, h0, h1]
  have h1 : n % 2 = 0 := by omega
  have g1 : (n % 2 = 0) = True := by simp [h1]
  have g2 : ((n : Int) % 2 = 0) = True := by simp; omega
  have g3 : (n % 2 = 1) = False := by simp; omega
  by_cases h2 : ¬ n ≤ most
  · have g4 : (most < n) = True := by simp; omega
    repeat' (first
      | with_reducible first | refine thenW_n ?_ | refine thenW_ret ?_ | refine thenW_exit ?_ | refine thenW_panic ?_ | refine blockW_n ?_ | refine blockW_same ?_ | refine blockW_ret ?_ | refine blockW_panic ?_ | refine loopW_ret ?_ | refine loopW_exit ?_ | refine loopW_panic ?_ | refine joinW_ret ?_ | refine joinW_exit ?_ | refine joinW_panic ?_ | refine W_seq ?_ | refine W_block ?_ | refine W_skip ?_ | refine W_ret ?_ | refine W_exit ?_ | refine W_label ?_
      | with_reducible refine blockW_other (by decide) ?_
      | with_reducible refine W_region (by first | decide | (with_unfolding_all rfl)) ?_
      | (rw [vcn]; (try simp [push_cast, -List.map_take, -List.map_drop, g0, hmod, g1, g2, g3, g4]); try simp (disch := omega) only [i64_in, u64_in, shr64i])
      | with_reducible refine W_drawn mixed (by decide) (by kernel_rfl) ?_
      | (rw [vcnD]; (try simp [push_cast, -List.map_take, -List.map_drop, g0, hmod, g1, g2, g3, g4]); try simp (disch := omega) only [i64_in, u64_in, shr64i])
      | (with_reducible refine W_condW ?_; (try simp [AS.val, upd, resB, mkS_env, mkS_box, lk, entry_env, condW_true, condW_false, g0, hmod, g1, g2, g3, g4]))
      | with_reducible refine optK_dV (by first | omega | (simp; omega)) ?_
      | with_reducible refine optK_dVh (by omega) ?_
      | refine And.intro (by first | omega | kernel_rfl) ?_
      | (with_reducible refine condW_b (fun hc => ?_) (fun hc => ?_) <;> (try simp [Int.ofNat_inj] at hc) <;> try contradiction)
      | fail)
    simp [post, resAV, resAll, resOne, closeV, closeC, closeL, resD, resDL, push_cast, -List.map_take, -List.map_drop]
    simp [textB, ← hn, h0, h1, h2]
  have h2 : n ≤ most := by omega
  have g4 : (most < n) = False := by simp; omega
  repeat' (first
    | with_reducible first | refine thenW_n ?_ | refine thenW_ret ?_ | refine thenW_exit ?_ | refine thenW_panic ?_ | refine blockW_n ?_ | refine blockW_same ?_ | refine blockW_ret ?_ | refine blockW_panic ?_ | refine loopW_ret ?_ | refine loopW_exit ?_ | refine loopW_panic ?_ | refine joinW_ret ?_ | refine joinW_exit ?_ | refine joinW_panic ?_ | refine W_seq ?_ | refine W_block ?_ | refine W_skip ?_ | refine W_ret ?_ | refine W_exit ?_ | refine W_label ?_
    | with_reducible refine blockW_other (by decide) ?_
    | with_reducible refine W_region (by first | decide | (with_unfolding_all rfl)) ?_
    | (rw [vcn]; (try simp [push_cast, -List.map_take, -List.map_drop, g0, hmod, g1, g2, g3, g4]); try simp (disch := omega) only [i64_in, u64_in, shr64i])
    | with_reducible refine W_drawn mixed (by decide) (by kernel_rfl) ?_
    | (rw [vcnD]; (try simp [push_cast, -List.map_take, -List.map_drop, g0, hmod, g1, g2, g3, g4]); try simp (disch := omega) only [i64_in, u64_in, shr64i])
    | (with_reducible refine W_condW ?_; (try simp [AS.val, upd, resB, mkS_env, mkS_box, lk, entry_env, condW_true, condW_false, g0, hmod, g1, g2, g3, g4]))
    | with_reducible refine optK_dV (by first | omega | (simp; omega)) ?_
    | with_reducible refine optK_dVh (by omega) ?_
    | refine And.intro (by first | omega | kernel_rfl) ?_
    | (with_reducible refine condW_b (fun hc => ?_) (fun hc => ?_) <;> (try simp [Int.ofNat_inj] at hc) <;> try contradiction)
    | fail)
  refine W_loopW (X := Nat) (fun i => [(0, .slc f 1 n L), (2, .v (.bool names)), (7, i64V i)]) (fun _ => []) (fun i => n - i) (fun i => i ≤ n ∧ ∀ j < i, okAt b names j = true) 0 id ⟨Nat.zero_le _, by simp⟩ ⟨?_, ?_, ?_, ?_, ?_, ?_⟩ fun i hx => ?_
  all_goals first | (with_reducible refine W_id ?_) | (simp [push_cast, -List.map_take, -List.map_drop]; done) | (simp [push_cast, -List.map_take, -List.map_drop]; omega) | (intro i hi; simp; omega) | (intro i hi; dsimp only; (repeat' split) <;> omega) | (simp [push_cast, -List.map_take, -List.map_drop]; fail_if_success done)
  obtain ⟨hi, hI⟩ := hx
  by_cases hlt : ¬ i < n
  · have g5 : (i < n) = False := by simp; omega
    have hall : textB b most names = true := by
      simp only [textB, ← hn, Bool.and_eq_true, decide_eq_true_eq, List.all_eq_true, List.mem_range]
      exact ⟨⟨⟨by omega, h1⟩, h2⟩, fun j hj => hI j (by omega)⟩
    repeat' (first
      | with_reducible first | refine thenW_n ?_ | refine thenW_ret ?_ | refine thenW_exit ?_ | refine thenW_panic ?_ | refine blockW_n ?_ | refine blockW_same ?_ | refine blockW_ret ?_ | refine blockW_panic ?_ | refine loopW_ret ?_ | refine loopW_exit ?_ | refine loopW_panic ?_ | refine joinW_ret ?_ | refine joinW_exit ?_ | refine joinW_panic ?_ | refine W_seq ?_ | refine W_block ?_ | refine W_skip ?_ | refine W_ret ?_ | refine W_exit ?_ | refine W_label ?_
      | with_reducible refine blockW_other (by decide) ?_
      | with_reducible refine W_region (by first | decide | (with_unfolding_all rfl)) ?_
      | (rw [vcn]; (try simp [push_cast, -List.map_take, -List.map_drop, g5]); try simp (disch := omega) only [i64_in, u64_in, shr64i])
      | with_reducible refine W_drawn mixed (by decide) (by kernel_rfl) ?_
      | (rw [vcnD]; (try simp [push_cast, -List.map_take, -List.map_drop, g5]); try simp (disch := omega) only [i64_in, u64_in, shr64i])
      | (with_reducible refine W_condW ?_; (try simp [AS.val, upd, resB, mkS_env, mkS_box, lk, entry_env, condW_true, condW_false, g5]))
      | with_reducible refine optK_dV (by first | omega | (simp; omega)) ?_
      | with_reducible refine optK_dVh (by omega) ?_
      | refine And.intro (by first | omega | kernel_rfl) ?_
      | (with_reducible refine condW_b (fun hc => ?_) (fun hc => ?_) <;> (try simp [Int.ofNat_inj] at hc) <;> try contradiction)
      | fail)
    simp [post, resAV, resAll, resOne, closeV, closeC, closeL, resD, resDL, push_cast, -List.map_take, -List.map_drop, hall]
  have hlt : i < n := by omega
  have g5 : (i < n) = True := by simp; omega
  have hg := hget i (by omega)
  have hgd : b.getD i 0 = b[i] := by simp [List.getD, List.getElem?_eq_getElem (show i < b.length by omega)]
  obtain ⟨c, hc⟩ : ∃ c, c = b[i] := ⟨_, rfl⟩
  rw [← hc] at hg hgd
  have hok : okAt b names i = ((decide (i + 1 = n) && c == 0) || (c != 0 && (!names || letterB c))) := by simp only [okAt, hgd, ← hn]
  have hnot : okAt b names i = false → textB b most names = false := by
    intro h
    rw [Bool.eq_false_iff]
    intro h'
    simp only [textB, Bool.and_eq_true, List.all_eq_true, List.mem_range] at h'
    rw [h'.2 i (by omega)] at h
    cases h
  have hnext : okAt b names i = true → ∀ j < i + 1, okAt b names j = true := by
    intro h j hj
    rcases (by omega : j < i ∨ j = i) with hj | hj
    · exact hI j hj
    · subst hj; exact h
  have hname := name_ok c
  have hlen1 : (L.drop i).length = n - i := by rw [List.length_drop, hLl]
  obtain ⟨y, hy⟩ : ∃ y, y = c.toNat := ⟨_, rfl⟩
  have hc0 : (c == 0) = decide (y = 0) := by
    rw [Bool.eq_iff_iff]
    simp only [beq_iff_eq, decide_eq_true_eq, hy]
    exact ⟨fun h => by rw [h]; rfl, fun h => UInt8.toNat_inj.1 (by rw [h]; rfl)⟩
  have hc1 : (c != 0) = !decide (y = 0) := by rw [bne, hc0]
  rw [hc0, hc1] at hok
  simp only [byteV, ← hy] at hg hname
  clear hy hc hgd hc0 hc1
  have hg2 : ∀ h : i < L.length, L[i] = .v (.int .u8 (y : Int)) := fun h => by
    have := List.getElem?_eq_getElem h
    rw [hg] at this
    exact (Option.some.inj this).symm
  by_cases hlast : i + 1 = n
  · have g6 : ((i : Int) = (n : Int) - 1) = True := by simp; omega
    have g6' : (i = n - 1) = True := by simp; omega
    by_cases hz : y = 0
    · subst hz
      rw [show (decide (i + 1 = n)) = true from by simp [hlast]] at hok
      simp at hok
      repeat' (first
        | with_reducible first | refine thenW_n ?_ | refine thenW_ret ?_ | refine thenW_exit ?_ | refine thenW_panic ?_ | refine blockW_n ?_ | refine blockW_same ?_ | refine blockW_ret ?_ | refine blockW_panic ?_ | refine loopW_ret ?_ | refine loopW_exit ?_ | refine loopW_panic ?_ | refine joinW_ret ?_ | refine joinW_exit ?_ | refine joinW_panic ?_ | refine W_seq ?_ | refine W_block ?_ | refine W_skip ?_ | refine W_ret ?_ | refine W_exit ?_ | refine W_label ?_
        | with_reducible refine blockW_other (by decide) ?_
        | with_reducible refine W_region (by first | decide | (with_unfolding_all rfl)) ?_
        | (rw [vcn]; (try simp [push_cast, -List.map_take, -List.map_drop, g5, hg, hg2, hLl, hlt, g6, g6']); try simp (disch := omega) only [i64_in, u64_in, shr64i])
        | with_reducible refine W_drawn mixed (by decide) (by kernel_rfl) ?_
        | (rw [vcnD]; (try simp [push_cast, -List.map_take, -List.map_drop, g5, hg, hg2, hLl, hlt, g6, g6']); try simp (disch := omega) only [i64_in, u64_in, shr64i])
        | (with_reducible refine W_condW ?_; (try simp [AS.val, upd, resB, mkS_env, mkS_box, lk, entry_env, condW_true, condW_false, g5, hg, hg2, hLl, hlt, g6, g6']))
        | with_reducible refine optK_dV (by first | omega | (simp; omega)) ?_
        | with_reducible refine optK_dVh (by omega) ?_
        | refine And.intro (by first | omega | kernel_rfl) ?_
        | (with_reducible refine condW_b (fun hc => ?_) (fun hc => ?_) <;> (try simp [Int.ofNat_inj] at hc) <;> try contradiction)
        | fail)
      refine loopW_n (i + 1) id (by omega) ⟨by omega, hnext hok⟩ ⟨?_, ?_, ?_, ?_, ?_, ?_⟩
      all_goals first | (with_reducible refine W_id ?_) | (simp [push_cast, -List.map_take, -List.map_drop]; done) | (simp [push_cast, -List.map_take, -List.map_drop]; omega) | (intro i hi; simp; omega) | (intro i hi; dsimp only; (repeat' split) <;> omega) | (simp [push_cast, -List.map_take, -List.map_drop]; fail_if_success done)
    · have g7 : (y = 0) = False := by simp [hz]
      simp only [g7, decide_false, Bool.and_false, Bool.not_false, Bool.true_and, Bool.false_or] at hok
      cases names with
      | false =>
        simp at hok
        repeat' (first
          | with_reducible first | refine thenW_n ?_ | refine thenW_ret ?_ | refine thenW_exit ?_ | refine thenW_panic ?_ | refine blockW_n ?_ | refine blockW_same ?_ | refine blockW_ret ?_ | refine blockW_panic ?_ | refine loopW_ret ?_ | refine loopW_exit ?_ | refine loopW_panic ?_ | refine joinW_ret ?_ | refine joinW_exit ?_ | refine joinW_panic ?_ | refine W_seq ?_ | refine W_block ?_ | refine W_skip ?_ | refine W_ret ?_ | refine W_exit ?_ | refine W_label ?_
          | with_reducible refine blockW_other (by decide) ?_
          | with_reducible refine W_region (by first | decide | (with_unfolding_all rfl)) ?_
          | (rw [vcn]; (try simp [push_cast, -List.map_take, -List.map_drop, g5, hg, hg2, hLl, hlt, g6, g6', g7]); try simp (disch := omega) only [i64_in, u64_in, shr64i])
          | with_reducible refine W_drawn mixed (by decide) (by kernel_rfl) ?_
          | (rw [vcnD]; (try simp [push_cast, -List.map_take, -List.map_drop, g5, hg, hg2, hLl, hlt, g6, g6', g7]); try simp (disch := omega) only [i64_in, u64_in, shr64i])
          | (with_reducible refine W_condW ?_; (try simp [AS.val, upd, resB, mkS_env, mkS_box, lk, entry_env, condW_true, condW_false, g5, hg, hg2, hLl, hlt, g6, g6', g7]))
          | with_reducible refine optK_dV (by first | omega | (simp; omega)) ?_
          | with_reducible refine optK_dVh (by omega) ?_
          | refine And.intro (by first | omega | kernel_rfl) ?_
          | (with_reducible refine condW_b (fun hc => ?_) (fun hc => ?_) <;> (try simp [Int.ofNat_inj] at hc) <;> try contradiction)
          | fail)
        refine loopW_n (i + 1) id (by omega) ⟨by omega, hnext hok⟩ ⟨?_, ?_, ?_, ?_, ?_, ?_⟩
        all_goals first | (with_reducible refine W_id ?_) | (simp [push_cast, -List.map_take, -List.map_drop]; done) | (simp [push_cast, -List.map_take, -List.map_drop]; omega) | (intro i hi; simp; omega) | (intro i hi; dsimp only; (repeat' split) <;> omega) | (simp [push_cast, -List.map_take, -List.map_drop]; fail_if_success done)
      | true =>
        simp at hok
        repeat' (first
          | with_reducible first | refine thenW_n ?_ | refine thenW_ret ?_ | refine thenW_exit ?_ | refine thenW_panic ?_ | refine blockW_n ?_ | refine blockW_same ?_ | refine blockW_ret ?_ | refine blockW_panic ?_ | refine loopW_ret ?_ | refine loopW_exit ?_ | refine loopW_panic ?_ | refine joinW_ret ?_ | refine joinW_exit ?_ | refine joinW_panic ?_ | refine W_seq ?_ | refine W_block ?_ | refine W_skip ?_ | refine W_ret ?_ | refine W_exit ?_ | refine W_label ?_
          | with_reducible refine blockW_other (by decide) ?_
          | with_reducible refine W_region (by first | decide | (with_unfolding_all rfl)) ?_
          | (rw [vcn]; (try simp [push_cast, -List.map_take, -List.map_drop, g5, hg, hg2, hLl, hlt, g6, g6', g7]); try simp (disch := omega) only [i64_in, u64_in, shr64i])
          | with_reducible refine W_drawn mixed (by decide) (by kernel_rfl) ?_
          | (rw [vcnD]; (try simp [push_cast, -List.map_take, -List.map_drop, g5, hg, hg2, hLl, hlt, g6, g6', g7]); try simp (disch := omega) only [i64_in, u64_in, shr64i])
          | (with_reducible refine W_condW ?_; (try simp [AS.val, upd, resB, mkS_env, mkS_box, lk, entry_env, condW_true, condW_false, g5, hg, hg2, hLl, hlt, g6, g6', g7]))
          | with_reducible refine optK_dV (by first | omega | (simp; omega)) ?_
          | with_reducible refine optK_dVh (by omega) ?_
          | refine And.intro (by first | omega | kernel_rfl) ?_
          | (with_reducible refine condW_b (fun hc => ?_) (fun hc => ?_) <;> (try simp [Int.ofNat_inj] at hc) <;> try contradiction)
          | fail)
        first | refine CallG_of (hname) (by first | rfl | (simp [natAV, numC, ← limbs.eq_1, push_cast, -List.map_take, -List.map_drop]; done)) (by simp [natAV, AV.refs, refsL, push_cast, -List.map_take, -List.map_drop]) rfl ?_ | refine callD_of (hname) (by first | rfl | (simp [natAV, numC, ← limbs.eq_1, push_cast, -List.map_take, -List.map_drop]; done)) (by simp [natAV, AV.refs, refsL, push_cast, -List.map_take, -List.map_drop]) rfl ?_
        try dsimp only
        cases hlb : letterB c with
        | false =>
          rw [hlb] at hok
          repeat' (first
            | with_reducible first | refine thenW_n ?_ | refine thenW_ret ?_ | refine thenW_exit ?_ | refine thenW_panic ?_ | refine blockW_n ?_ | refine blockW_same ?_ | refine blockW_ret ?_ | refine blockW_panic ?_ | refine loopW_ret ?_ | refine loopW_exit ?_ | refine loopW_panic ?_ | refine joinW_ret ?_ | refine joinW_exit ?_ | refine joinW_panic ?_ | refine W_seq ?_ | refine W_block ?_ | refine W_skip ?_ | refine W_ret ?_ | refine W_exit ?_ | refine W_label ?_
            | with_reducible refine blockW_other (by decide) ?_
            | with_reducible refine W_region (by first | decide | (with_unfolding_all rfl)) ?_
            | (rw [vcn]; (try simp [push_cast, -List.map_take, -List.map_drop, g5, hg, hg2, hLl, hlt, g6, g6', g7]); try simp (disch := omega) only [i64_in, u64_in, shr64i])
            | with_reducible refine W_drawn mixed (by decide) (by kernel_rfl) ?_
            | (rw [vcnD]; (try simp [push_cast, -List.map_take, -List.map_drop, g5, hg, hg2, hLl, hlt, g6, g6', g7]); try simp (disch := omega) only [i64_in, u64_in, shr64i])
            | (with_reducible refine W_condW ?_; (try simp [AS.val, upd, resB, mkS_env, mkS_box, lk, entry_env, condW_true, condW_false, g5, hg, hg2, hLl, hlt, g6, g6', g7]))
            | with_reducible refine optK_dV (by first | omega | (simp; omega)) ?_
            | with_reducible refine optK_dVh (by omega) ?_
            | refine And.intro (by first | omega | kernel_rfl) ?_
            | (with_reducible refine condW_b (fun hc => ?_) (fun hc => ?_) <;> (try simp [Int.ofNat_inj] at hc) <;> try contradiction)
            | fail)
          simp [post, resAV, resAll, resOne, closeV, closeC, closeL, resD, resDL, push_cast, -List.map_take, -List.map_drop, hnot hok]
        | true =>
          rw [hlb] at hok
          repeat' (first
            | with_reducible first | refine thenW_n ?_ | refine thenW_ret ?_ | refine thenW_exit ?_ | refine thenW_panic ?_ | refine blockW_n ?_ | refine blockW_same ?_ | refine blockW_ret ?_ | refine blockW_panic ?_ | refine loopW_ret ?_ | refine loopW_exit ?_ | refine loopW_panic ?_ | refine joinW_ret ?_ | refine joinW_exit ?_ | refine joinW_panic ?_ | refine W_seq ?_ | refine W_block ?_ | refine W_skip ?_ | refine W_ret ?_ | refine W_exit ?_ | refine W_label ?_
            | with_reducible refine blockW_other (by decide) ?_
            | with_reducible refine W_region (by first | decide | (with_unfolding_all rfl)) ?_
            | (rw [vcn]; (try simp [push_cast, -List.map_take, -List.map_drop, g5, hg, hg2, hLl, hlt, g6, g6', g7]); try simp (disch := omega) only [i64_in, u64_in, shr64i])
            | with_reducible refine W_drawn mixed (by decide) (by kernel_rfl) ?_
            | (rw [vcnD]; (try simp [push_cast, -List.map_take, -List.map_drop, g5, hg, hg2, hLl, hlt, g6, g6', g7]); try simp (disch := omega) only [i64_in, u64_in, shr64i])
            | (with_reducible refine W_condW ?_; (try simp [AS.val, upd, resB, mkS_env, mkS_box, lk, entry_env, condW_true, condW_false, g5, hg, hg2, hLl, hlt, g6, g6', g7]))
            | with_reducible refine optK_dV (by first | omega | (simp; omega)) ?_
            | with_reducible refine optK_dVh (by omega) ?_
            | refine And.intro (by first | omega | kernel_rfl) ?_
            | (with_reducible refine condW_b (fun hc => ?_) (fun hc => ?_) <;> (try simp [Int.ofNat_inj] at hc) <;> try contradiction)
            | fail)
          refine loopW_n (i + 1) id (by omega) ⟨by omega, hnext hok⟩ ⟨?_, ?_, ?_, ?_, ?_, ?_⟩
          all_goals first | (with_reducible refine W_id ?_) | (simp [push_cast, -List.map_take, -List.map_drop]; done) | (simp [push_cast, -List.map_take, -List.map_drop]; omega) | (intro i hi; simp; omega) | (intro i hi; dsimp only; (repeat' split) <;> omega) | (simp [push_cast, -List.map_take, -List.map_drop]; fail_if_success done)
  · have g6 : ((i : Int) = (n : Int) - 1) = False := by simp; omega
    have g6' : (i = n - 1) = False := by simp; omega
    by_cases hz : y = 0
    · subst hz
      rw [show (decide (i + 1 = n)) = false from by simp [hlast]] at hok
      simp at hok
      repeat' (first
        | with_reducible first | refine thenW_n ?_ | refine thenW_ret ?_ | refine thenW_exit ?_ | refine thenW_panic ?_ | refine blockW_n ?_ | refine blockW_same ?_ | refine blockW_ret ?_ | refine blockW_panic ?_ | refine loopW_ret ?_ | refine loopW_exit ?_ | refine loopW_panic ?_ | refine joinW_ret ?_ | refine joinW_exit ?_ | refine joinW_panic ?_ | refine W_seq ?_ | refine W_block ?_ | refine W_skip ?_ | refine W_ret ?_ | refine W_exit ?_ | refine W_label ?_
        | with_reducible refine blockW_other (by decide) ?_
        | with_reducible refine W_region (by first | decide | (with_unfolding_all rfl)) ?_
        | (rw [vcn]; (try simp [push_cast, -List.map_take, -List.map_drop, g5, hg, hg2, hLl, hlt, g6, g6']); try simp (disch := omega) only [i64_in, u64_in, shr64i])
        | with_reducible refine W_drawn mixed (by decide) (by kernel_rfl) ?_
        | (rw [vcnD]; (try simp [push_cast, -List.map_take, -List.map_drop, g5, hg, hg2, hLl, hlt, g6, g6']); try simp (disch := omega) only [i64_in, u64_in, shr64i])
        | (with_reducible refine W_condW ?_; (try simp [AS.val, upd, resB, mkS_env, mkS_box, lk, entry_env, condW_true, condW_false, g5, hg, hg2, hLl, hlt, g6, g6']))
        | with_reducible refine optK_dV (by first | omega | (simp; omega)) ?_
        | with_reducible refine optK_dVh (by omega) ?_
        | refine And.intro (by first | omega | kernel_rfl) ?_
        | (with_reducible refine condW_b (fun hc => ?_) (fun hc => ?_) <;> (try simp [Int.ofNat_inj] at hc) <;> try contradiction)
        | fail)
      simp [post, resAV, resAll, resOne, closeV, closeC, closeL, resD, resDL, push_cast, -List.map_take, -List.map_drop, hnot hok]
    · have g7 : (y = 0) = False := by simp [hz]
      simp only [g7, decide_false, Bool.and_false, Bool.not_false, Bool.true_and, Bool.false_or] at hok
      cases names with
      | false =>
        simp at hok
        repeat' (first
          | with_reducible first | refine thenW_n ?_ | refine thenW_ret ?_ | refine thenW_exit ?_ | refine thenW_panic ?_ | refine blockW_n ?_ | refine blockW_same ?_ | refine blockW_ret ?_ | refine blockW_panic ?_ | refine loopW_ret ?_ | refine loopW_exit ?_ | refine loopW_panic ?_ | refine joinW_ret ?_ | refine joinW_exit ?_ | refine joinW_panic ?_ | refine W_seq ?_ | refine W_block ?_ | refine W_skip ?_ | refine W_ret ?_ | refine W_exit ?_ | refine W_label ?_
          | with_reducible refine blockW_other (by decide) ?_
          | with_reducible refine W_region (by first | decide | (with_unfolding_all rfl)) ?_
          | (rw [vcn]; (try simp [push_cast, -List.map_take, -List.map_drop, g5, hg, hg2, hLl, hlt, g6, g6', g7]); try simp (disch := omega) only [i64_in, u64_in, shr64i])
          | with_reducible refine W_drawn mixed (by decide) (by kernel_rfl) ?_
          | (rw [vcnD]; (try simp [push_cast, -List.map_take, -List.map_drop, g5, hg, hg2, hLl, hlt, g6, g6', g7]); try simp (disch := omega) only [i64_in, u64_in, shr64i])
          | (with_reducible refine W_condW ?_; (try simp [AS.val, upd, resB, mkS_env, mkS_box, lk, entry_env, condW_true, condW_false, g5, hg, hg2, hLl, hlt, g6, g6', g7]))
          | with_reducible refine optK_dV (by first | omega | (simp; omega)) ?_
          | with_reducible refine optK_dVh (by omega) ?_
          | refine And.intro (by first | omega | kernel_rfl) ?_
          | (with_reducible refine condW_b (fun hc => ?_) (fun hc => ?_) <;> (try simp [Int.ofNat_inj] at hc) <;> try contradiction)
          | fail)
        refine loopW_n (i + 1) id (by omega) ⟨by omega, hnext hok⟩ ⟨?_, ?_, ?_, ?_, ?_, ?_⟩
        all_goals first | (with_reducible refine W_id ?_) | (simp [push_cast, -List.map_take, -List.map_drop]; done) | (simp [push_cast, -List.map_take, -List.map_drop]; omega) | (intro i hi; simp; omega) | (intro i hi; dsimp only; (repeat' split) <;> omega) | (simp [push_cast, -List.map_take, -List.map_drop]; fail_if_success done)
      | true =>
        simp at hok
        repeat' (first
          | with_reducible first | refine thenW_n ?_ | refine thenW_ret ?_ | refine thenW_exit ?_ | refine thenW_panic ?_ | refine blockW_n ?_ | refine blockW_same ?_ | refine blockW_ret ?_ | refine blockW_panic ?_ | refine loopW_ret ?_ | refine loopW_exit ?_ | refine loopW_panic ?_ | refine joinW_ret ?_ | refine joinW_exit ?_ | refine joinW_panic ?_ | refine W_seq ?_ | refine W_block ?_ | refine W_skip ?_ | refine W_ret ?_ | refine W_exit ?_ | refine W_label ?_
          | with_reducible refine blockW_other (by decide) ?_
          | with_reducible refine W_region (by first | decide | (with_unfolding_all rfl)) ?_
          | (rw [vcn]; (try simp [push_cast, -List.map_take, -List.map_drop, g5, hg, hg2, hLl, hlt, g6, g6', g7]); try simp (disch := omega) only [i64_in, u64_in, shr64i])
          | with_reducible refine W_drawn mixed (by decide) (by kernel_rfl) ?_
          | (rw [vcnD]; (try simp [push_cast, -List.map_take, -List.map_drop, g5, hg, hg2, hLl, hlt, g6, g6', g7]); try simp (disch := omega) only [i64_in, u64_in, shr64i])
          | (with_reducible refine W_condW ?_; (try simp [AS.val, upd, resB, mkS_env, mkS_box, lk, entry_env, condW_true, condW_false, g5, hg, hg2, hLl, hlt, g6, g6', g7]))
          | with_reducible refine optK_dV (by first | omega | (simp; omega)) ?_
          | with_reducible refine optK_dVh (by omega) ?_
          | refine And.intro (by first | omega | kernel_rfl) ?_
          | (with_reducible refine condW_b (fun hc => ?_) (fun hc => ?_) <;> (try simp [Int.ofNat_inj] at hc) <;> try contradiction)
          | fail)
        first | refine CallG_of (hname) (by first | rfl | (simp [natAV, numC, ← limbs.eq_1, push_cast, -List.map_take, -List.map_drop]; done)) (by simp [natAV, AV.refs, refsL, push_cast, -List.map_take, -List.map_drop]) rfl ?_ | refine callD_of (hname) (by first | rfl | (simp [natAV, numC, ← limbs.eq_1, push_cast, -List.map_take, -List.map_drop]; done)) (by simp [natAV, AV.refs, refsL, push_cast, -List.map_take, -List.map_drop]) rfl ?_
        try dsimp only
        cases hlb : letterB c with
        | false =>
          rw [hlb] at hok
          repeat' (first
            | with_reducible first | refine thenW_n ?_ | refine thenW_ret ?_ | refine thenW_exit ?_ | refine thenW_panic ?_ | refine blockW_n ?_ | refine blockW_same ?_ | refine blockW_ret ?_ | refine blockW_panic ?_ | refine loopW_ret ?_ | refine loopW_exit ?_ | refine loopW_panic ?_ | refine joinW_ret ?_ | refine joinW_exit ?_ | refine joinW_panic ?_ | refine W_seq ?_ | refine W_block ?_ | refine W_skip ?_ | refine W_ret ?_ | refine W_exit ?_ | refine W_label ?_
            | with_reducible refine blockW_other (by decide) ?_
            | with_reducible refine W_region (by first | decide | (with_unfolding_all rfl)) ?_
            | (rw [vcn]; (try simp [push_cast, -List.map_take, -List.map_drop, g5, hg, hg2, hLl, hlt, g6, g6', g7]); try simp (disch := omega) only [i64_in, u64_in, shr64i])
            | with_reducible refine W_drawn mixed (by decide) (by kernel_rfl) ?_
            | (rw [vcnD]; (try simp [push_cast, -List.map_take, -List.map_drop, g5, hg, hg2, hLl, hlt, g6, g6', g7]); try simp (disch := omega) only [i64_in, u64_in, shr64i])
            | (with_reducible refine W_condW ?_; (try simp [AS.val, upd, resB, mkS_env, mkS_box, lk, entry_env, condW_true, condW_false, g5, hg, hg2, hLl, hlt, g6, g6', g7]))
            | with_reducible refine optK_dV (by first | omega | (simp; omega)) ?_
            | with_reducible refine optK_dVh (by omega) ?_
            | refine And.intro (by first | omega | kernel_rfl) ?_
            | (with_reducible refine condW_b (fun hc => ?_) (fun hc => ?_) <;> (try simp [Int.ofNat_inj] at hc) <;> try contradiction)
            | fail)
          simp [post, resAV, resAll, resOne, closeV, closeC, closeL, resD, resDL, push_cast, -List.map_take, -List.map_drop, hnot hok]
        | true =>
          rw [hlb] at hok
          repeat' (first
            | with_reducible first | refine thenW_n ?_ | refine thenW_ret ?_ | refine thenW_exit ?_ | refine thenW_panic ?_ | refine blockW_n ?_ | refine blockW_same ?_ | refine blockW_ret ?_ | refine blockW_panic ?_ | refine loopW_ret ?_ | refine loopW_exit ?_ | refine loopW_panic ?_ | refine joinW_ret ?_ | refine joinW_exit ?_ | refine joinW_panic ?_ | refine W_seq ?_ | refine W_block ?_ | refine W_skip ?_ | refine W_ret ?_ | refine W_exit ?_ | refine W_label ?_
            | with_reducible refine blockW_other (by decide) ?_
            | with_reducible refine W_region (by first | decide | (with_unfolding_all rfl)) ?_
            | (rw [vcn]; (try simp [push_cast, -List.map_take, -List.map_drop, g5, hg, hg2, hLl, hlt, g6, g6', g7]); try simp (disch := omega) only [i64_in, u64_in, shr64i])
            | with_reducible refine W_drawn mixed (by decide) (by kernel_rfl) ?_
            | (rw [vcnD]; (try simp [push_cast, -List.map_take, -List.map_drop, g5, hg, hg2, hLl, hlt, g6, g6', g7]); try simp (disch := omega) only [i64_in, u64_in, shr64i])
            | (with_reducible refine W_condW ?_; (try simp [AS.val, upd, resB, mkS_env, mkS_box, lk, entry_env, condW_true, condW_false, g5, hg, hg2, hLl, hlt, g6, g6', g7]))
            | with_reducible refine optK_dV (by first | omega | (simp; omega)) ?_
            | with_reducible refine optK_dVh (by omega) ?_
            | refine And.intro (by first | omega | kernel_rfl) ?_
            | (with_reducible refine condW_b (fun hc => ?_) (fun hc => ?_) <;> (try simp [Int.ofNat_inj] at hc) <;> try contradiction)
            | fail)
          refine loopW_n (i + 1) id (by omega) ⟨by omega, hnext hok⟩ ⟨?_, ?_, ?_, ?_, ?_, ?_⟩
          all_goals first | (with_reducible refine W_id ?_) | (simp [push_cast, -List.map_take, -List.map_drop]; done) | (simp [push_cast, -List.map_take, -List.map_drop]; omega) | (intro i hi; simp; omega) | (intro i hi; dsimp only; (repeat' split) <;> omega) | (simp [push_cast, -List.map_take, -List.map_drop]; fail_if_success done)
end Go.Fw
