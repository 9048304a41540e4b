/- The law RecordSplits comes to true. -/
import Derived.Test.YtjgbikhnnkigpaaSp2
import Derived.Test.YtjgbikhnnkigpaaSp3
import Derived.Test.YtjgbikhnnkigpaaQ11
set_option linter.unusedSimpArgs false
set_option linter.unusedVariables false
-- VALS: recAV
namespace Go.Fw
open Go Go.Proofs Go.IntWalk
set_option linter.unusedSimpArgs false
set_option maxRecDepth 100000
set_option maxHeartbeats 2000000
open List (map_take map_drop)
attribute [local push_cast] optK_some optK_none optK_ite optK_map optK_bind gOn stepK isMem evPure evMem evBin evUn evConv evLen evBuiltin evMinMax evSlice evBuild evAppend evIndex evIndexAddr evField evFieldAddr intBin strBin appDest AS.val AS.mem AS.elems AS.put AS.put' AS.eff AV.cells? AV.isCell AV.refs all_isByte take_byteV drop_byteV strOf_map bndOk bnd partAV ptrAdd killBox catA inOrder fillA setAt ofVal resB upd byteV List.head?_take List.head?_drop List.getElem?_map mkS_env mkS_box mkS_used entry_env entry_box entry_used lk stepD lookIds Oper.looksAt Op.operands Call.operands St.ids refsL renL_append dV_take dV_drop ren renL renBox Box.refs iV i64V boolV dV_getElem dV_app dV_cons toNat_add2 toNat_add1
theorem recs_count : ∀ (n : Nat) (r : List UInt8) (l : List Rec) (q : List UInt8), r.length ≤ n → recs r = .ok (l, q) → l.length * 4 ≤ r.length := by
  intro n
  induction n with
  | zero =>
    intro r l q h h'
    have : r = [] := List.eq_nil_of_length_eq_zero (by omega)
    subst this
    cases h'
  | succ n ih =>
    intro r l q h h'
    rw [recs_eq] at h'
    split at h'
    · cases h'
    · rename_i k d b m hn
      obtain ⟨h1, h2, _⟩ := nextRec_ok hn
      split at h'
      · cases h'; simp [-map_take,-map_drop]; omega
      · cases he : recs (r.drop m) with
        | error e => rw [he] at h'; cases h'
        | ok p =>
          obtain ⟨l', q'⟩ := p
          rw [he] at h'
          cases h'
          have := ih (r.drop m) _ _ (by rw [List.length_drop]; omega) he
          rw [List.length_drop] at this
          simp only [List.length_cons]
          omega
theorem split_count {bs : List UInt8} {l : List Rec} {n : Nat} (h : splitSpec bs = .ok (l, n)) : l.length * 4 ≤ bs.length := by
  unfold splitSpec at h
  split at h
  · cases h
  · cases hr : recs bs with
    | error e => rw [hr] at h; cases h
    | ok p =>
      obtain ⟨l', q⟩ := p
      rw [hr] at h
      simp only at h
      split at h
      · cases h; exact recs_count _ _ _ _ (Nat.le_refl _) hr
      · cases h
theorem recs_body : ∀ (n : Nat) (r : List UInt8) (l : List Rec) (q : List UInt8), r.length ≤ n → recs r = .ok (l, q) → ∀ x ∈ l, x.2.2.length ≤ n := by
  intro n
  induction n with
  | zero =>
    intro r l q h h'
    have : r = [] := List.eq_nil_of_length_eq_zero (by omega)
    subst this
    cases h'
  | succ n ih =>
    intro r l q h h'
    rw [recs_eq] at h'
    split at h'
    · cases h'
    · rename_i k d b m hn
      obtain ⟨h1, h2, _, h3, _⟩ := nextRec_ok hn
      have hb : b.length ≤ n + 1 := by rw [h3]; simp [-map_take,-map_drop]; omega
      split at h'
      · cases h'; intro x hx; rw [List.mem_singleton] at hx; subst hx; exact hb
      · cases he : recs (r.drop m) with
        | error e => rw [he] at h'; cases h'
        | ok p =>
          obtain ⟨l', q'⟩ := p
          rw [he] at h'
          cases h'
          intro x hx
          rw [List.mem_cons] at hx
          rcases hx with rfl | hx
          · exact hb
          · exact Nat.le_succ_of_le (ih (r.drop m) _ _ (by rw [List.length_drop]; omega) he x hx)
theorem split_body {bs : List UInt8} {l : List Rec} {n : Nat} (h : splitSpec bs = .ok (l, n)) : ∀ x ∈ l, x.2.2.length ≤ bs.length := by
  unfold splitSpec at h
  split at h
  · cases h
  · cases hr : recs bs with
    | error e => rw [hr] at h; cases h
    | ok p =>
      obtain ⟨l', q⟩ := p
      rw [hr] at h
      simp only at h
      split at h
      · cases h; exact recs_body _ _ _ _ (Nat.le_refl _) hr
      · cases h
def bodOk (n : Nat) (A : List Rec) : Prop := A.length = n ∧ ∀ r ∈ A, r.2.2.length ≤ 400000
def bodOk1 (n i N : Nat) (A : List Rec) : Prop := bodOk n A ∧ ∃ r, A[i]? = some r ∧ r.2.2.length = N
theorem bXor_byte (a b : Int) : ∃ y : UInt8, bXor .u8 a b = (y.toNat : Int) := by
  obtain ⟨m, hm⟩ : ∃ m : Nat, m = (BitVec.ofInt IntKind.u8.bits a ^^^ BitVec.ofInt IntKind.u8.bits b).toNat := ⟨_, rfl⟩
  have hlt : m < 256 := by rw [hm]; exact BitVec.isLt _
  refine ⟨UInt8.ofNat m, ?_⟩
  unfold bXor
  rw [← hm, IntKind.wrap_u8, UInt8.toNat_ofNat']
  omega
theorem rowB_at (k : Nat) (l : List Rec) (i : Nat) (h : i < l.length) : ∃ t, (rowB k l).drop (i * 3) = byteV l[i].1 :: byteV l[i].2.1 :: .bs (k + i) 1 0 l[i].2.2.length :: t := by
  induction l generalizing k i with
  | nil => simp [-map_take,-map_drop] at h
  | cons r l ih =>
    cases i with
    | zero => exact ⟨rowB (k + 1) l, rfl⟩
    | succ i =>
      obtain ⟨t, ht⟩ := ih (k + 1) i (by simpa [-map_take,-map_drop] using h)
      refine ⟨t, ?_⟩
      rw [show (i + 1) * 3 = i * 3 + 3 from by omega, rowB]
      rw [show k + (i + 1) = k + 1 + i from by omega]
      simpa [-map_take,-map_drop] using ht
theorem rowB_set (k : Nat) (l : List Rec) (i : Nat) (r : Rec) (h : i < l.length) (h1 : r.1 = l[i].1) (h2 : r.2.1 = l[i].2.1) (h3 : r.2.2.length = l[i].2.2.length) : rowB k (l.set i r) = rowB k l := by
  induction l generalizing k i with
  | nil => rfl
  | cons x l ih =>
    cases i with
    | zero =>
      simp only [List.getElem_cons_zero] at h1 h2 h3
      simp only [List.set_cons_zero, rowB, h1, h2, h3]
    | succ i =>
      simp only [List.set_cons_succ, rowB]
      rw [ih (k + 1) i (by simpa [-map_take,-map_drop] using h) (by simpa [-map_take,-map_drop] using h1) (by simpa [-map_take,-map_drop] using h2) (by simpa [-map_take,-map_drop] using h3)]
theorem bod_box {box : Nat → Option Box} {l : List Rec} (h1 : box 500 = some (.mut 24 (rowB 2000 l))) (h2 : ∀ i, 2000 ≤ i → box i = lk (bodB 2000 l) i) :
    ∀ p ∈ (500, Box.mut 24 (rowB 2000 l)) :: bodB 2000 l, box (id p.1) = some (renBox id p.2) := by
  intro p hp
  rw [List.mem_cons] at hp
  rcases hp with rfl | hp
  · simp [-map_take,-map_drop, h1, renBox, rowB_id]
  · exact bod_id h2 p hp
theorem big500 {i : Nat} (h : 2000 ≤ i) : (500 = i) = False := eq_false (by omega)
theorem same_nil : Eval Try.prog 21 [.v (.slice none 0 0), .v (.slice none 0 0)] (.ret (.v (.bool true))) := by
  refine Eval.intro Try.func21 rfl Try.call21 _ _ (Nat.le_of_ble_eq_true rfl) (by simp [-map_take,-map_drop, AV.refs, refsL, natAV, recAV, push_cast]) fun hs0 => ?_
  repeat' (first
    | with_reducible first | apply thenW_n | apply thenW_ret | apply thenW_exit | apply thenW_panic | apply blockW_n | apply blockW_same | apply blockW_ret | apply blockW_panic | apply loopW_ret | apply loopW_exit | apply loopW_panic | apply joinW_ret | apply joinW_exit | apply joinW_panic | apply W_seq | apply W_block | apply W_skip | apply W_ret | apply W_exit | apply W_label
    | with_reducible refine blockW_other (by decide) ?_
    | with_reducible refine W_rg ?_
    | (rw [vcn]; (try simp [-map_take,-map_drop, push_cast]); try simp (disch := omega) only [i64_in, u64_in, shr64i])
    | with_reducible refine W_drawn mixed (by decide) (by kernel_rfl) ?_
    | (rw [vcnD]; (try simp [-map_take,-map_drop, push_cast]); try simp (disch := omega) only [i64_in, u64_in, shr64i])
    | (with_reducible refine W_condW ?_; (try simp [-map_take,-map_drop, AS.val, upd, resB, mkS_env, mkS_box, lk, entry_env, condW_true, condW_false]))
    | (with_reducible refine optK_dV (by first | omega | (simp [-map_take,-map_drop]; omega)) ?_)
    | with_reducible refine optK_dVh (by omega) ?_
    | refine And.intro (by first | omega | kernel_rfl) ?_
    | ((with_reducible refine condW_b (fun hc => ?_) (fun hc => ?_) <;> (try simp [-map_take,-map_drop, Int.ofNat_inj] at hc) <;> (try contradiction)))
    | fail)
  refine W_loopW (X := Unit) (fun _ => [(0, .v (.slice none 0 0)), (1, .v (.slice none 0 0)), (5, i64V 0)]) (fun _ => []) (fun _ => 0) (fun _ => True) () id trivial ⟨?_, ?_, ?_, ?_, ?_, ?_⟩ fun _ _ => ?_
  all_goals first | (with_reducible refine W_id ?_) | (simp [-map_take,-map_drop, push_cast]; done) | (simp [-map_take,-map_drop, push_cast]; omega) | (intro i hi; simp [-map_take,-map_drop]; omega) | (intro i hi; dsimp only; (repeat' split) <;> omega) | (simp [-map_take,-map_drop, push_cast]; fail_if_success done)
  repeat' (first
    | with_reducible first | apply thenW_n | apply thenW_ret | apply thenW_exit | apply thenW_panic | apply blockW_n | apply blockW_same | apply blockW_ret | apply blockW_panic | apply loopW_ret | apply loopW_exit | apply loopW_panic | apply joinW_ret | apply joinW_exit | apply joinW_panic | apply W_seq | apply W_block | apply W_skip | apply W_ret | apply W_exit | apply W_label
    | with_reducible refine blockW_other (by decide) ?_
    | with_reducible refine W_rg ?_
    | (rw [vcn]; (try simp [-map_take,-map_drop, push_cast]); try simp (disch := omega) only [i64_in, u64_in, shr64i])
    | with_reducible refine W_drawn mixed (by decide) (by kernel_rfl) ?_
    | (rw [vcnD]; (try simp [-map_take,-map_drop, push_cast]); try simp (disch := omega) only [i64_in, u64_in, shr64i])
    | (with_reducible refine W_condW ?_; (try simp [-map_take,-map_drop, AS.val, upd, resB, mkS_env, mkS_box, lk, entry_env, condW_true, condW_false]))
    | (with_reducible refine optK_dV (by first | omega | (simp [-map_take,-map_drop]; omega)) ?_)
    | with_reducible refine optK_dVh (by omega) ?_
    | refine And.intro (by first | omega | kernel_rfl) ?_
    | ((with_reducible refine condW_b (fun hc => ?_) (fun hc => ?_) <;> (try simp [-map_take,-map_drop, Int.ofNat_inj] at hc) <;> (try contradiction)))
    | fail)
  simp [-map_take,-map_drop, post, resAV, resAll, resOne, closeV, closeC, closeL, resD, resDL, push_cast]
theorem lawSplits_ok (f : Bool) (bs : List UInt8) : Eval Try.prog 4 [.slc f 1 bs.length (bs.map byteV)] (.ret (.v (.bool true))) := by
  refine Eval.intro Try.func4 rfl Try.call4 _ _ (Nat.le_of_ble_eq_true rfl) (by simp [-map_take,-map_drop, AV.refs, refsL, natAV, recAV, push_cast]) fun hs0 => ?_
  obtain ⟨n, hn⟩ : ∃ n, n = bs.length := ⟨_, rfl⟩
  obtain ⟨L, hL⟩ : ∃ L, L = bs.map byteV := ⟨_, rfl⟩
  have hLr : refsL L = [] := by rw [hL]; exact refsL_bytes bs
  have hLl : L.length = n := by rw [hL, hn]; simp [-map_take,-map_drop]
  rw [← hL, ← hn]
  refine W_seq ?_
  refine W_joinQ (X := Unit) (fun _ => [(0, .slc f 1 n L)]) (fun _ => []) (fun _ => True) ?_ fun _ _ => ?_
  · repeat' (first
      | with_reducible first | apply thenW_n | apply thenW_ret | apply thenW_exit | apply thenW_panic | apply blockW_n | apply blockW_same | apply blockW_ret | apply blockW_panic | apply loopW_ret | apply loopW_exit | apply loopW_panic | apply joinW_ret | apply joinW_exit | apply joinW_panic | apply W_seq | apply W_block | apply W_skip | apply W_ret | apply W_exit | apply W_label
      | with_reducible refine blockW_other (by decide) ?_
      | with_reducible refine W_rg ?_
      | (rw [vcn]; (try simp [-map_take,-map_drop, push_cast]); try simp (disch := omega) only [i64_in, u64_in, shr64i])
      | with_reducible refine W_drawn mixed (by decide) (by kernel_rfl) ?_
      | (rw [vcnD]; (try simp [-map_take,-map_drop, push_cast]); try simp (disch := omega) only [i64_in, u64_in, shr64i])
      | (with_reducible refine W_condW ?_; (try simp [-map_take,-map_drop, AS.val, upd, resB, mkS_env, mkS_box, lk, entry_env, condW_true, condW_false]))
      | (with_reducible refine optK_dV (by first | omega | (simp [-map_take,-map_drop]; omega)) ?_)
      | with_reducible refine optK_dVh (by omega) ?_
      | refine And.intro (by first | omega | kernel_rfl) ?_
      | ((with_reducible refine condW_b (fun hc => ?_) (fun hc => ?_) <;> (try simp [-map_take,-map_drop, Int.ofNat_inj] at hc) <;> (try contradiction)))
      | fail)
    refine joinW_n () id trivial ⟨?_, ?_, ?_, ?_, ?_, ?_⟩
    all_goals first | (with_reducible refine W_id ?_) | (simp [-map_take,-map_drop, push_cast, hLr]; done) | (simp [-map_take,-map_drop, push_cast, hLr]; omega) | (intro i hi; simp [-map_take,-map_drop]; omega) | (intro i hi; dsimp only; (repeat' split) <;> omega) | (simp [-map_take,-map_drop, push_cast, hLr]; fail_if_success done)
  obtain ⟨c, hc⟩ : ∃ c, c = bs.take 400000 := ⟨_, rfl⟩
  obtain ⟨g, hg⟩ : ∃ g, g = (f && decide (n ≤ 400000)) := ⟨_, rfl⟩
  obtain ⟨k, hk⟩ : ∃ k, k = c.length := ⟨_, rfl⟩
  have hck : c.length ≤ 400000 := by rw [hc, List.length_take]; omega
  have hMr : refsL (c.map byteV) = [] := refsL_bytes c
  refine W_seq ?_
  refine W_joinQ (X := Unit) (fun _ => [(0, .slc g 1 c.length (c.map byteV))]) (fun _ => []) (fun _ => True) ?_ fun _ _ => ?_
  · by_cases h : 400000 < n
    · have g1 : ((400000 : Int) < (n : Int)) = True := eq_true (by omega)
      have g2 : 400000 ≤ n := by omega
      have g3 : c.length = 400000 := by rw [hc, List.length_take]; omega
      have g4 : decide (n ≤ 400000) = false := by simp [-map_take,-map_drop]; omega
      have g5 : L.take 400000 = c.map byteV := by rw [hL, hc, List.map_take]
      repeat' (first
        | with_reducible first | apply thenW_n | apply thenW_ret | apply thenW_exit | apply thenW_panic | apply blockW_n | apply blockW_same | apply blockW_ret | apply blockW_panic | apply loopW_ret | apply loopW_exit | apply loopW_panic | apply joinW_ret | apply joinW_exit | apply joinW_panic | apply W_seq | apply W_block | apply W_skip | apply W_ret | apply W_exit | apply W_label
        | with_reducible refine blockW_other (by decide) ?_
        | with_reducible refine W_rg ?_
        | (rw [vcn]; (try simp [-map_take,-map_drop, push_cast, g1, g2]); try simp (disch := omega) only [i64_in, u64_in, shr64i])
        | with_reducible refine W_drawn mixed (by decide) (by kernel_rfl) ?_
        | (rw [vcnD]; (try simp [-map_take,-map_drop, push_cast, g1, g2]); try simp (disch := omega) only [i64_in, u64_in, shr64i])
        | (with_reducible refine W_condW ?_; (try simp [-map_take,-map_drop, AS.val, upd, resB, mkS_env, mkS_box, lk, entry_env, condW_true, condW_false, g1, g2]))
        | (with_reducible refine optK_dV (by first | omega | (simp [-map_take,-map_drop]; omega)) ?_)
        | with_reducible refine optK_dVh (by omega) ?_
        | refine And.intro (by first | omega | kernel_rfl) ?_
        | ((with_reducible refine condW_b (fun hc => ?_) (fun hc => ?_) <;> (try simp [-map_take,-map_drop, Int.ofNat_inj] at hc) <;> (try contradiction)))
        | fail)
      refine joinW_n () id trivial ⟨?_, ?_, ?_, ?_, ?_, ?_⟩
      all_goals first | (with_reducible refine W_id ?_) | (simp [-map_take,-map_drop, push_cast, hMr, hg, g4, g3, g5]; done) | (simp [-map_take,-map_drop, push_cast, hMr, hg, g4, g3, g5]; omega) | (intro i hi; simp [-map_take,-map_drop]; omega) | (intro i hi; dsimp only; (repeat' split) <;> omega) | (simp [-map_take,-map_drop, push_cast, hMr, hg, g4, g3, g5]; fail_if_success done)
    · have g1 : ((400000 : Int) < (n : Int)) = False := eq_false (by omega)
      have g3 : c = bs := by rw [hc, List.take_of_length_le (by omega)]
      have g4 : decide (n ≤ 400000) = true := by simp [-map_take,-map_drop]; omega
      repeat' (first
        | with_reducible first | apply thenW_n | apply thenW_ret | apply thenW_exit | apply thenW_panic | apply blockW_n | apply blockW_same | apply blockW_ret | apply blockW_panic | apply loopW_ret | apply loopW_exit | apply loopW_panic | apply joinW_ret | apply joinW_exit | apply joinW_panic | apply W_seq | apply W_block | apply W_skip | apply W_ret | apply W_exit | apply W_label
        | with_reducible refine blockW_other (by decide) ?_
        | with_reducible refine W_rg ?_
        | (rw [vcn]; (try simp [-map_take,-map_drop, push_cast, g1]); try simp (disch := omega) only [i64_in, u64_in, shr64i])
        | with_reducible refine W_drawn mixed (by decide) (by kernel_rfl) ?_
        | (rw [vcnD]; (try simp [-map_take,-map_drop, push_cast, g1]); try simp (disch := omega) only [i64_in, u64_in, shr64i])
        | (with_reducible refine W_condW ?_; (try simp [-map_take,-map_drop, AS.val, upd, resB, mkS_env, mkS_box, lk, entry_env, condW_true, condW_false, g1]))
        | (with_reducible refine optK_dV (by first | omega | (simp [-map_take,-map_drop]; omega)) ?_)
        | with_reducible refine optK_dVh (by omega) ?_
        | refine And.intro (by first | omega | kernel_rfl) ?_
        | ((with_reducible refine condW_b (fun hc => ?_) (fun hc => ?_) <;> (try simp [-map_take,-map_drop, Int.ofNat_inj] at hc) <;> (try contradiction)))
        | fail)
      refine joinW_n () id trivial ⟨?_, ?_, ?_, ?_, ?_, ?_⟩
      all_goals first | (with_reducible refine W_id ?_) | (simp [-map_take,-map_drop, push_cast, hMr, hg, g4, g3, hL, hn]; done) | (simp [-map_take,-map_drop, push_cast, hMr, hg, g4, g3, hL, hn]; omega) | (intro i hi; simp [-map_take,-map_drop]; omega) | (intro i hi; dsimp only; (repeat' split) <;> omega) | (simp [-map_take,-map_drop, push_cast, hMr, hg, g4, g3, hL, hn]; fail_if_success done)
  refine W_seq ?_
  refine W_joinQ (X := Unit) (fun _ => [(0, .slc g 1 c.length (c.map byteV)), (3, .slc false 1 c.length (c.map byteV))]) (fun _ => []) (fun _ => True) ?_ fun _ _ => ?_
  · repeat' (first
      | with_reducible first | apply thenW_n | apply thenW_ret | apply thenW_exit | apply thenW_panic | apply blockW_n | apply blockW_same | apply blockW_ret | apply blockW_panic | apply loopW_ret | apply loopW_exit | apply loopW_panic | apply joinW_ret | apply joinW_exit | apply joinW_panic | apply W_seq | apply W_block | apply W_skip | apply W_ret | apply W_exit | apply W_label
      | with_reducible refine blockW_other (by decide) ?_
      | with_reducible refine W_rg ?_
      | (rw [vcn]; (try simp [-map_take,-map_drop, push_cast]); try simp (disch := omega) only [i64_in, u64_in, shr64i])
      | with_reducible refine W_drawn mixed (by decide) (by kernel_rfl) ?_
      | (rw [vcnD]; (try simp [-map_take,-map_drop, push_cast]); try simp (disch := omega) only [i64_in, u64_in, shr64i])
      | (with_reducible refine W_condW ?_; (try simp [-map_take,-map_drop, AS.val, upd, resB, mkS_env, mkS_box, lk, entry_env, condW_true, condW_false]))
      | (with_reducible refine optK_dV (by first | omega | (simp [-map_take,-map_drop]; omega)) ?_)
      | with_reducible refine optK_dVh (by omega) ?_
      | refine And.intro (by first | omega | kernel_rfl) ?_
      | ((with_reducible refine condW_b (fun hc => ?_) (fun hc => ?_) <;> (try simp [-map_take,-map_drop, Int.ofNat_inj] at hc) <;> (try contradiction)))
      | fail)
    first | refine CallG_of ((eval16 g c c.length rfl (by omega)).frz1) ?_ ?_ rfl ?_ | refine callD_of ((eval16 g c c.length rfl (by omega)).frz1) ?_ ?_ rfl ?_
    · first | rfl | (simp [-map_take,-map_drop, natAV, numC, ← limbs.eq_1, push_cast]; done)
    · first | rfl | simp [-map_take,-map_drop, natAV, recAV, AV.refs, refsL, push_cast]
    try dsimp only
    repeat' (first
      | with_reducible first | apply thenW_n | apply thenW_ret | apply thenW_exit | apply thenW_panic | apply blockW_n | apply blockW_same | apply blockW_ret | apply blockW_panic | apply loopW_ret | apply loopW_exit | apply loopW_panic | apply joinW_ret | apply joinW_exit | apply joinW_panic | apply W_seq | apply W_block | apply W_skip | apply W_ret | apply W_exit | apply W_label
      | with_reducible refine blockW_other (by decide) ?_
      | with_reducible refine W_rg ?_
      | (rw [vcn]; (try simp [-map_take,-map_drop, push_cast]); try simp (disch := omega) only [i64_in, u64_in, shr64i])
      | with_reducible refine W_drawn mixed (by decide) (by kernel_rfl) ?_
      | (rw [vcnD]; (try simp [-map_take,-map_drop, push_cast]); try simp (disch := omega) only [i64_in, u64_in, shr64i])
      | (with_reducible refine W_condW ?_; (try simp [-map_take,-map_drop, AS.val, upd, resB, mkS_env, mkS_box, lk, entry_env, condW_true, condW_false]))
      | (with_reducible refine optK_dV (by first | omega | (simp [-map_take,-map_drop]; omega)) ?_)
      | with_reducible refine optK_dVh (by omega) ?_
      | refine And.intro (by first | omega | kernel_rfl) ?_
      | ((with_reducible refine condW_b (fun hc => ?_) (fun hc => ?_) <;> (try simp [-map_take,-map_drop, Int.ofNat_inj] at hc) <;> (try contradiction)))
      | fail)
    refine joinW_n () id trivial ⟨?_, ?_, ?_, ?_, ?_, ?_⟩
    all_goals first | (with_reducible refine W_id ?_) | (simp [-map_take,-map_drop, push_cast, hMr]; done) | (simp [-map_take,-map_drop, push_cast, hMr]; omega) | (intro i hi; simp [-map_take,-map_drop]; omega) | (intro i hi; dsimp only; (repeat' split) <;> omega) | (simp [-map_take,-map_drop, push_cast, hMr]; fail_if_success done)
  have eref := refSplit_ok g c (by omega)
  have hwb := split19m false c hck
  cases hsp : splitSpec c with
  | error e =>
    have e1 : splitAV c = .tup [.v (.slice none 0 0), i64V 0, i64V e] := by rw [splitAV, hsp]
    rw [e1] at eref
    repeat' (first
      | with_reducible first | apply thenW_n | apply thenW_ret | apply thenW_exit | apply thenW_panic | apply blockW_n | apply blockW_same | apply blockW_ret | apply blockW_panic | apply loopW_ret | apply loopW_exit | apply loopW_panic | apply joinW_ret | apply joinW_exit | apply joinW_panic | apply W_seq | apply W_block | apply W_skip | apply W_ret | apply W_exit | apply W_label
      | with_reducible refine blockW_other (by decide) ?_
      | with_reducible refine W_rg ?_
      | (rw [vcn]; (try simp [-map_take,-map_drop, push_cast]); try simp (disch := omega) only [i64_in, u64_in, shr64i])
      | with_reducible refine W_drawn mixed (by decide) (by kernel_rfl) ?_
      | (rw [vcnD]; (try simp [-map_take,-map_drop, push_cast]); try simp (disch := omega) only [i64_in, u64_in, shr64i])
      | (with_reducible refine W_condW ?_; (try simp [-map_take,-map_drop, AS.val, upd, resB, mkS_env, mkS_box, lk, entry_env, condW_true, condW_false]))
      | (with_reducible refine optK_dV (by first | omega | (simp [-map_take,-map_drop]; omega)) ?_)
      | with_reducible refine optK_dVh (by omega) ?_
      | refine And.intro (by first | omega | kernel_rfl) ?_
      | ((with_reducible refine condW_b (fun hc => ?_) (fun hc => ?_) <;> (try simp [-map_take,-map_drop, Int.ofNat_inj] at hc) <;> (try contradiction)))
      | fail)
    show CallV Try.prog 19 ([AV.slc false 1 c.length (c.map byteV)] ++ []) _ _
    refine CallV.boxes [.slc false 1 c.length (c.map byteV)] [] id (by simp [-map_take,-map_drop, ren, renL]) (by simp [-map_take,-map_drop]) (by simp [-map_take,-map_drop]) (by simp [-map_take,-map_drop, AV.refs, refsL]) (by simp [-map_take,-map_drop]) hwb ?_
    intro out s' hq
    rw [splitQ, hsp] at hq
    obtain rfl := hq
    refine ⟨[], id, by simp [-map_take,-map_drop], by simp [-map_take,-map_drop], by simp [-map_take,-map_drop], by simp [-map_take,-map_drop], .tup [.v (.slice none 0 0), i64V 0, i64V e], by simp [-map_take,-map_drop, ren, renL, i64V], by simp [-map_take,-map_drop, AV.refs, refsL, i64V], ?_⟩
    dsimp only
    repeat' (first
      | with_reducible first | apply thenW_n | apply thenW_ret | apply thenW_exit | apply thenW_panic | apply blockW_n | apply blockW_same | apply blockW_ret | apply blockW_panic | apply loopW_ret | apply loopW_exit | apply loopW_panic | apply joinW_ret | apply joinW_exit | apply joinW_panic | apply W_seq | apply W_block | apply W_skip | apply W_ret | apply W_exit | apply W_label
      | with_reducible refine blockW_other (by decide) ?_
      | with_reducible refine W_rg ?_
      | (rw [vcn]; (try simp [-map_take,-map_drop, push_cast, back]); try simp (disch := omega) only [i64_in, u64_in, shr64i])
      | with_reducible refine W_drawn mixed (by decide) (by kernel_rfl) ?_
      | (rw [vcnD]; (try simp [-map_take,-map_drop, push_cast, back]); try simp (disch := omega) only [i64_in, u64_in, shr64i])
      | (with_reducible refine W_condW ?_; (try simp [-map_take,-map_drop, AS.val, upd, resB, mkS_env, mkS_box, lk, entry_env, condW_true, condW_false, back]))
      | (with_reducible refine optK_dV (by first | omega | (simp [-map_take,-map_drop]; omega)) ?_)
      | with_reducible refine optK_dVh (by omega) ?_
      | refine And.intro (by first | omega | kernel_rfl) ?_
      | ((with_reducible refine condW_b (fun hc => ?_) (fun hc => ?_) <;> (try simp [-map_take,-map_drop, Int.ofNat_inj] at hc) <;> (try contradiction)))
      | fail)
    first | refine CallG_of (eref) ?_ ?_ rfl ?_ | refine callD_of (eref) ?_ ?_ rfl ?_
    · first | rfl | (simp [-map_take,-map_drop, natAV, numC, ← limbs.eq_1, push_cast]; done)
    · first | rfl | simp [-map_take,-map_drop, natAV, recAV, AV.refs, refsL, push_cast]
    try dsimp only
    repeat' (first
      | with_reducible first | apply thenW_n | apply thenW_ret | apply thenW_exit | apply thenW_panic | apply blockW_n | apply blockW_same | apply blockW_ret | apply blockW_panic | apply loopW_ret | apply loopW_exit | apply loopW_panic | apply joinW_ret | apply joinW_exit | apply joinW_panic | apply W_seq | apply W_block | apply W_skip | apply W_ret | apply W_exit | apply W_label
      | with_reducible refine blockW_other (by decide) ?_
      | with_reducible refine W_rg ?_
      | (rw [vcn]; (try simp [-map_take,-map_drop, push_cast]); try simp (disch := omega) only [i64_in, u64_in, shr64i])
      | with_reducible refine W_drawn mixed (by decide) (by kernel_rfl) ?_
      | (rw [vcnD]; (try simp [-map_take,-map_drop, push_cast]); try simp (disch := omega) only [i64_in, u64_in, shr64i])
      | (with_reducible refine W_condW ?_; (try simp [-map_take,-map_drop, AS.val, upd, resB, mkS_env, mkS_box, lk, entry_env, condW_true, condW_false]))
      | (with_reducible refine optK_dV (by first | omega | (simp [-map_take,-map_drop]; omega)) ?_)
      | with_reducible refine optK_dVh (by omega) ?_
      | refine And.intro (by first | omega | kernel_rfl) ?_
      | ((with_reducible refine condW_b (fun hc => ?_) (fun hc => ?_) <;> (try simp [-map_take,-map_drop, Int.ofNat_inj] at hc) <;> (try contradiction)))
      | fail)
    first | refine CallG_of (eval15) ?_ ?_ rfl ?_ | refine callD_of (eval15) ?_ ?_ rfl ?_
    · first | rfl | (simp [-map_take,-map_drop, natAV, numC, ← limbs.eq_1, push_cast]; done)
    · first | rfl | simp [-map_take,-map_drop, natAV, recAV, AV.refs, refsL, push_cast]
    try dsimp only
    repeat' (first
      | with_reducible first | apply thenW_n | apply thenW_ret | apply thenW_exit | apply thenW_panic | apply blockW_n | apply blockW_same | apply blockW_ret | apply blockW_panic | apply loopW_ret | apply loopW_exit | apply loopW_panic | apply joinW_ret | apply joinW_exit | apply joinW_panic | apply W_seq | apply W_block | apply W_skip | apply W_ret | apply W_exit | apply W_label
      | with_reducible refine blockW_other (by decide) ?_
      | with_reducible refine W_rg ?_
      | (rw [vcn]; (try simp [-map_take,-map_drop, push_cast]); try simp (disch := omega) only [i64_in, u64_in, shr64i])
      | with_reducible refine W_drawn mixed (by decide) (by kernel_rfl) ?_
      | (rw [vcnD]; (try simp [-map_take,-map_drop, push_cast]); try simp (disch := omega) only [i64_in, u64_in, shr64i])
      | (with_reducible refine W_condW ?_; (try simp [-map_take,-map_drop, AS.val, upd, resB, mkS_env, mkS_box, lk, entry_env, condW_true, condW_false]))
      | (with_reducible refine optK_dV (by first | omega | (simp [-map_take,-map_drop]; omega)) ?_)
      | with_reducible refine optK_dVh (by omega) ?_
      | refine And.intro (by first | omega | kernel_rfl) ?_
      | ((with_reducible refine condW_b (fun hc => ?_) (fun hc => ?_) <;> (try simp [-map_take,-map_drop, Int.ofNat_inj] at hc) <;> (try contradiction)))
      | fail)
    first | refine CallG_of (same_nil) ?_ ?_ rfl ?_ | refine callD_of (same_nil) ?_ ?_ rfl ?_
    · first | rfl | (simp [-map_take,-map_drop, natAV, numC, ← limbs.eq_1, push_cast]; done)
    · first | rfl | simp [-map_take,-map_drop, natAV, recAV, AV.refs, refsL, push_cast]
    try dsimp only
    repeat' (first
      | with_reducible first | apply thenW_n | apply thenW_ret | apply thenW_exit | apply thenW_panic | apply blockW_n | apply blockW_same | apply blockW_ret | apply blockW_panic | apply loopW_ret | apply loopW_exit | apply loopW_panic | apply joinW_ret | apply joinW_exit | apply joinW_panic | apply W_seq | apply W_block | apply W_skip | apply W_ret | apply W_exit | apply W_label
      | with_reducible refine blockW_other (by decide) ?_
      | with_reducible refine W_rg ?_
      | (rw [vcn]; (try simp [-map_take,-map_drop, push_cast]); try simp (disch := omega) only [i64_in, u64_in, shr64i])
      | with_reducible refine W_drawn mixed (by decide) (by kernel_rfl) ?_
      | (rw [vcnD]; (try simp [-map_take,-map_drop, push_cast]); try simp (disch := omega) only [i64_in, u64_in, shr64i])
      | (with_reducible refine W_condW ?_; (try simp [-map_take,-map_drop, AS.val, upd, resB, mkS_env, mkS_box, lk, entry_env, condW_true, condW_false]))
      | (with_reducible refine optK_dV (by first | omega | (simp [-map_take,-map_drop]; omega)) ?_)
      | with_reducible refine optK_dVh (by omega) ?_
      | refine And.intro (by first | omega | kernel_rfl) ?_
      | ((with_reducible refine condW_b (fun hc => ?_) (fun hc => ?_) <;> (try simp [-map_take,-map_drop, Int.ofNat_inj] at hc) <;> (try contradiction)))
      | fail)
    refine W_loopW (X := Unit) (fun _ => [(0, .slc g 1 c.length (c.map byteV)), (3, .slc false 1 c.length (c.map byteV)), (4, .v (.slice none 0 0)), (10, i64V 0)]) (fun _ => []) (fun _ => 0) (fun _ => True) () id trivial ⟨?_, ?_, ?_, ?_, ?_, ?_⟩ fun _ _ => ?_
    all_goals first | (with_reducible refine W_id ?_) | (simp [-map_take,-map_drop, push_cast, hMr]; done) | (simp [-map_take,-map_drop, push_cast, hMr]; omega) | (intro i hi; simp [-map_take,-map_drop]; omega) | (intro i hi; dsimp only; (repeat' split) <;> omega) | (simp [-map_take,-map_drop, push_cast, hMr]; fail_if_success done)
    repeat' (first
      | with_reducible first | apply thenW_n | apply thenW_ret | apply thenW_exit | apply thenW_panic | apply blockW_n | apply blockW_same | apply blockW_ret | apply blockW_panic | apply loopW_ret | apply loopW_exit | apply loopW_panic | apply joinW_ret | apply joinW_exit | apply joinW_panic | apply W_seq | apply W_block | apply W_skip | apply W_ret | apply W_exit | apply W_label
      | with_reducible refine blockW_other (by decide) ?_
      | with_reducible refine W_rg ?_
      | (rw [vcn]; (try simp [-map_take,-map_drop, push_cast]); try simp (disch := omega) only [i64_in, u64_in, shr64i])
      | with_reducible refine W_drawn mixed (by decide) (by kernel_rfl) ?_
      | (rw [vcnD]; (try simp [-map_take,-map_drop, push_cast]); try simp (disch := omega) only [i64_in, u64_in, shr64i])
      | (with_reducible refine W_condW ?_; (try simp [-map_take,-map_drop, AS.val, upd, resB, mkS_env, mkS_box, lk, entry_env, condW_true, condW_false]))
      | (with_reducible refine optK_dV (by first | omega | (simp [-map_take,-map_drop]; omega)) ?_)
      | with_reducible refine optK_dVh (by omega) ?_
      | refine And.intro (by first | omega | kernel_rfl) ?_
      | ((with_reducible refine condW_b (fun hc => ?_) (fun hc => ?_) <;> (try simp [-map_take,-map_drop, Int.ofNat_inj] at hc) <;> (try contradiction)))
      | fail)
    simp [-map_take,-map_drop, post, resAV, resAll, resOne, closeV, closeC, closeL, resD, resDL, push_cast]
  | ok p =>
    obtain ⟨l, m⟩ := p
    have hcount := split_count hsp
    have hbody : ∀ x ∈ l, x.2.2.length ≤ 400000 := fun x hx => Nat.le_trans (split_body hsp x hx) hck
    have hm64 : m ≤ 400000 := by
      have h := hsp
      unfold splitSpec at h
      rw [if_neg (by omega)] at h
      cases hr : recs c with
      | error e => rw [hr] at h; cases h
      | ok p =>
        rw [hr] at h
        simp only at h
        split at h
        · cases h; omega
        · cases h
    have e1 : splitAV c = .tup [.slc false 3 l.length (recsCells l), i64V m, i64V 0] := by rw [splitAV, hsp]
    rw [e1] at eref
    refine W_seq ?_
    refine W_joinQ (X := Unit) (fun _ => [(0, .slc g 1 c.length (c.map byteV)), (3, .slc false 1 c.length (c.map byteV)), (4, .bs 500 3 0 l.length), (5, i64V m), (6, i64V 0)]) (fun _ => (500, .mut 24 (rowB 2000 l)) :: bodB 2000 l) (fun _ => True) ?_ fun _ _ => ?_
    · repeat' (first
        | with_reducible first | apply thenW_n | apply thenW_ret | apply thenW_exit | apply thenW_panic | apply blockW_n | apply blockW_same | apply blockW_ret | apply blockW_panic | apply loopW_ret | apply loopW_exit | apply loopW_panic | apply joinW_ret | apply joinW_exit | apply joinW_panic | apply W_seq | apply W_block | apply W_skip | apply W_ret | apply W_exit | apply W_label
        | with_reducible refine blockW_other (by decide) ?_
        | with_reducible refine W_rg ?_
        | (rw [vcn]; (try simp [-map_take,-map_drop, push_cast]); try simp (disch := omega) only [i64_in, u64_in, shr64i])
        | with_reducible refine W_drawn mixed (by decide) (by kernel_rfl) ?_
        | (rw [vcnD]; (try simp [-map_take,-map_drop, push_cast]); try simp (disch := omega) only [i64_in, u64_in, shr64i])
        | (with_reducible refine W_condW ?_; (try simp [-map_take,-map_drop, AS.val, upd, resB, mkS_env, mkS_box, lk, entry_env, condW_true, condW_false]))
        | (with_reducible refine optK_dV (by first | omega | (simp [-map_take,-map_drop]; omega)) ?_)
        | with_reducible refine optK_dVh (by omega) ?_
        | refine And.intro (by first | omega | kernel_rfl) ?_
        | ((with_reducible refine condW_b (fun hc => ?_) (fun hc => ?_) <;> (try simp [-map_take,-map_drop, Int.ofNat_inj] at hc) <;> (try contradiction)))
        | fail)
      show CallV Try.prog 19 ([AV.slc false 1 c.length (c.map byteV)] ++ []) _ _
      refine CallV.boxes [.slc false 1 c.length (c.map byteV)] [] id (by simp [-map_take,-map_drop, ren, renL]) (by simp [-map_take,-map_drop]) (by simp [-map_take,-map_drop]) (by simp [-map_take,-map_drop, AV.refs, refsL]) (by simp [-map_take,-map_drop]) hwb ?_
      intro out s' hq
      rw [splitQ, hsp] at hq
      obtain ⟨rfl, hq1, hq2⟩ := hq
      refine ⟨(500, .mut 24 (rowB 2000 l)) :: bodB 2000 l, id, ?_, fun _ _ _ _ h => h, bod_refs [] l (by simp [-map_take,-map_drop]), ?_, .tup [.bs 500 3 0 l.length, i64V m, i64V 0], by simp [-map_take,-map_drop, ren, renL, i64V], by simp [-map_take,-map_drop, AV.refs, refsL, i64V], ?_⟩
      · intro p hp
        rw [List.mem_cons] at hp
        rcases hp with rfl | hp
        · simp [-map_take,-map_drop, hq1, renBox, rowB_id]
        · exact bodB_wk hq2 (fun _ _ _ => rfl) p hp
      · intro p hp hu
        exfalso
        rw [List.mem_cons] at hp
        have hr : p.1 = 500 ∨ (2000 ≤ p.1 ∧ p.1 < 102000) := by
          rcases hp with rfl | hp
          · exact .inl rfl
          · obtain ⟨h1, h2, _⟩ := bodB_mem hp
            exact .inr ⟨h1, by omega⟩
        simp [-map_take,-map_drop, mkS_used] at hu
        omega
      dsimp only
      repeat' (first
        | with_reducible first | apply thenW_n | apply thenW_ret | apply thenW_exit | apply thenW_panic | apply blockW_n | apply blockW_same | apply blockW_ret | apply blockW_panic | apply loopW_ret | apply loopW_exit | apply loopW_panic | apply joinW_ret | apply joinW_exit | apply joinW_panic | apply W_seq | apply W_block | apply W_skip | apply W_ret | apply W_exit | apply W_label
        | with_reducible refine blockW_other (by decide) ?_
        | with_reducible refine W_rg ?_
        | (rw [vcn]; (try simp [-map_take,-map_drop, push_cast, back]); try simp (disch := omega) only [i64_in, u64_in, shr64i])
        | with_reducible refine W_drawn mixed (by decide) (by kernel_rfl) ?_
        | (rw [vcnD]; (try simp [-map_take,-map_drop, push_cast, back]); try simp (disch := omega) only [i64_in, u64_in, shr64i])
        | (with_reducible refine W_condW ?_; (try simp [-map_take,-map_drop, AS.val, upd, resB, mkS_env, mkS_box, lk, entry_env, condW_true, condW_false, back]))
        | (with_reducible refine optK_dV (by first | omega | (simp [-map_take,-map_drop]; omega)) ?_)
        | with_reducible refine optK_dVh (by omega) ?_
        | refine And.intro (by first | omega | kernel_rfl) ?_
        | ((with_reducible refine condW_b (fun hc => ?_) (fun hc => ?_) <;> (try simp [-map_take,-map_drop, Int.ofNat_inj] at hc) <;> (try contradiction)))
        | fail)
      refine joinW_n () id trivial ⟨?_, bod_box ?_ ?_, fun _ _ _ _ h => h, ?_, bod_refs [] l (by simp [-map_take,-map_drop]), fun _ _ => rfl⟩
      · all_goals first | (with_reducible refine W_id ?_) | (simp [-map_take,-map_drop, push_cast, hMr]; done) | (simp [-map_take,-map_drop, push_cast, hMr]; omega) | (intro i hi; simp [-map_take,-map_drop]; omega) | (intro i hi; dsimp only; (repeat' split) <;> omega) | (simp [-map_take,-map_drop, push_cast, hMr]; fail_if_success done)
      · simp [-map_take,-map_drop, lk]
      · intro i hi
        simp [-map_take,-map_drop, lk, big500 hi]
        cases lk (bodB 2000 l) i <;> rfl
      · all_goals first | (with_reducible refine W_id ?_) | (simp [-map_take,-map_drop, push_cast, hMr]; done) | (simp [-map_take,-map_drop, push_cast, hMr]; omega) | (intro i hi; simp [-map_take,-map_drop]; omega) | (intro i hi; dsimp only; (repeat' split) <;> omega) | (simp [-map_take,-map_drop, push_cast, hMr]; fail_if_success done)
    have hbod := lk_bod 2000 l
    refine W_seq ?_
    refine W_joinQ (X := Unit) (fun _ => [(0, .slc g 1 c.length (c.map byteV)), (3, .slc false 1 c.length (c.map byteV)), (4, .bs 500 3 0 l.length), (5, i64V m), (6, i64V 0), (7, .slc false 3 l.length (recsCells l)), (8, i64V m), (9, i64V 0)]) (fun _ => (500, .mut 24 (rowB 2000 l)) :: bodB 2000 l) (fun _ => True) ?_ fun _ _ => ?_
    · repeat' (first
        | with_reducible first | apply thenW_n | apply thenW_ret | apply thenW_exit | apply thenW_panic | apply blockW_n | apply blockW_same | apply blockW_ret | apply blockW_panic | apply loopW_ret | apply loopW_exit | apply loopW_panic | apply joinW_ret | apply joinW_exit | apply joinW_panic | apply W_seq | apply W_block | apply W_skip | apply W_ret | apply W_exit | apply W_label
        | with_reducible refine blockW_other (by decide) ?_
        | with_reducible refine W_rg ?_
        | (rw [vcn]; (try simp [-map_take,-map_drop, push_cast]); try simp (disch := omega) only [i64_in, u64_in, shr64i])
        | with_reducible refine W_drawn mixed (by decide) (by kernel_rfl) ?_
        | (rw [vcnD]; (try simp [-map_take,-map_drop, push_cast]); try simp (disch := omega) only [i64_in, u64_in, shr64i])
        | (with_reducible refine W_condW ?_; (try simp [-map_take,-map_drop, AS.val, upd, resB, mkS_env, mkS_box, lk, entry_env, condW_true, condW_false]))
        | (with_reducible refine optK_dV (by first | omega | (simp [-map_take,-map_drop]; omega)) ?_)
        | with_reducible refine optK_dVh (by omega) ?_
        | refine And.intro (by first | omega | kernel_rfl) ?_
        | ((with_reducible refine condW_b (fun hc => ?_) (fun hc => ?_) <;> (try simp [-map_take,-map_drop, Int.ofNat_inj] at hc) <;> (try contradiction)))
        | fail)
      first | refine CallG_of (eref) ?_ ?_ rfl ?_ | refine callD_of (eref) ?_ ?_ rfl ?_
      · first | rfl | (simp [-map_take,-map_drop, natAV, numC, ← limbs.eq_1, push_cast]; done)
      · first | rfl | simp [-map_take,-map_drop, natAV, recAV, AV.refs, refsL, push_cast]
      try dsimp only
      repeat' (first
        | with_reducible first | apply thenW_n | apply thenW_ret | apply thenW_exit | apply thenW_panic | apply blockW_n | apply blockW_same | apply blockW_ret | apply blockW_panic | apply loopW_ret | apply loopW_exit | apply loopW_panic | apply joinW_ret | apply joinW_exit | apply joinW_panic | apply W_seq | apply W_block | apply W_skip | apply W_ret | apply W_exit | apply W_label
        | with_reducible refine blockW_other (by decide) ?_
        | with_reducible refine W_rg ?_
        | (rw [vcn]; (try simp [-map_take,-map_drop, push_cast]); try simp (disch := omega) only [i64_in, u64_in, shr64i])
        | with_reducible refine W_drawn mixed (by decide) (by kernel_rfl) ?_
        | (rw [vcnD]; (try simp [-map_take,-map_drop, push_cast]); try simp (disch := omega) only [i64_in, u64_in, shr64i])
        | (with_reducible refine W_condW ?_; (try simp [-map_take,-map_drop, AS.val, upd, resB, mkS_env, mkS_box, lk, entry_env, condW_true, condW_false]))
        | (with_reducible refine optK_dV (by first | omega | (simp [-map_take,-map_drop]; omega)) ?_)
        | with_reducible refine optK_dVh (by omega) ?_
        | refine And.intro (by first | omega | kernel_rfl) ?_
        | ((with_reducible refine condW_b (fun hc => ?_) (fun hc => ?_) <;> (try simp [-map_take,-map_drop, Int.ofNat_inj] at hc) <;> (try contradiction)))
        | fail)
      refine joinW_n () id trivial ⟨?_, bod_box ?_ ?_, fun _ _ _ _ h => h, ?_, bod_refs [] l (by simp [-map_take,-map_drop]), fun _ _ => rfl⟩
      · all_goals first | (with_reducible refine W_id ?_) | (simp [-map_take,-map_drop, push_cast, hMr, recsCells_refs l]; done) | (simp [-map_take,-map_drop, push_cast, hMr, recsCells_refs l]; omega) | (intro i hi; simp [-map_take,-map_drop]; omega) | (intro i hi; dsimp only; (repeat' split) <;> omega) | (simp [-map_take,-map_drop, push_cast, hMr, recsCells_refs l]; fail_if_success done)
      · simp [-map_take,-map_drop, mkS_box, lk]
      · intro i hi
        simp [-map_take,-map_drop, mkS_box, lk, big500 hi]
      · all_goals first | (with_reducible refine W_id ?_) | (simp [-map_take,-map_drop, push_cast, hMr]; done) | (simp [-map_take,-map_drop, push_cast, hMr]; omega) | (intro i hi; simp [-map_take,-map_drop]; omega) | (intro i hi; dsimp only; (repeat' split) <;> omega) | (simp [-map_take,-map_drop, push_cast, hMr]; fail_if_success done)
    refine W_seq ?_
    refine W_joinQ (X := Unit) (fun _ => [(0, .slc g 1 c.length (c.map byteV)), (3, .slc false 1 c.length (c.map byteV)), (4, .bs 500 3 0 l.length)]) (fun _ => (500, .mut 24 (rowB 2000 l)) :: bodB 2000 l) (fun _ => True) ?_ fun _ _ => ?_
    · repeat' (first
        | with_reducible first | apply thenW_n | apply thenW_ret | apply thenW_exit | apply thenW_panic | apply blockW_n | apply blockW_same | apply blockW_ret | apply blockW_panic | apply loopW_ret | apply loopW_exit | apply loopW_panic | apply joinW_ret | apply joinW_exit | apply joinW_panic | apply W_seq | apply W_block | apply W_skip | apply W_ret | apply W_exit | apply W_label
        | with_reducible refine blockW_other (by decide) ?_
        | with_reducible refine W_rg ?_
        | (rw [vcn]; (try simp [-map_take,-map_drop, push_cast]); try simp (disch := omega) only [i64_in, u64_in, shr64i])
        | with_reducible refine W_drawn mixed (by decide) (by kernel_rfl) ?_
        | (rw [vcnD]; (try simp [-map_take,-map_drop, push_cast]); try simp (disch := omega) only [i64_in, u64_in, shr64i])
        | (with_reducible refine W_condW ?_; (try simp [-map_take,-map_drop, AS.val, upd, resB, mkS_env, mkS_box, lk, entry_env, condW_true, condW_false]))
        | (with_reducible refine optK_dV (by first | omega | (simp [-map_take,-map_drop]; omega)) ?_)
        | with_reducible refine optK_dVh (by omega) ?_
        | refine And.intro (by first | omega | kernel_rfl) ?_
        | ((with_reducible refine condW_b (fun hc => ?_) (fun hc => ?_) <;> (try simp [-map_take,-map_drop, Int.ofNat_inj] at hc) <;> (try contradiction)))
        | fail)
      first | refine CallG_of (eval15) ?_ ?_ rfl ?_ | refine callD_of (eval15) ?_ ?_ rfl ?_
      · first | rfl | (simp [-map_take,-map_drop, natAV, numC, ← limbs.eq_1, push_cast]; done)
      · first | rfl | simp [-map_take,-map_drop, natAV, recAV, AV.refs, refsL, push_cast]
      try dsimp only
      repeat' (first
        | with_reducible first | apply thenW_n | apply thenW_ret | apply thenW_exit | apply thenW_panic | apply blockW_n | apply blockW_same | apply blockW_ret | apply blockW_panic | apply loopW_ret | apply loopW_exit | apply loopW_panic | apply joinW_ret | apply joinW_exit | apply joinW_panic | apply W_seq | apply W_block | apply W_skip | apply W_ret | apply W_exit | apply W_label
        | with_reducible refine blockW_other (by decide) ?_
        | with_reducible refine W_rg ?_
        | (rw [vcn]; (try simp [-map_take,-map_drop, push_cast]); try simp (disch := omega) only [i64_in, u64_in, shr64i])
        | with_reducible refine W_drawn mixed (by decide) (by kernel_rfl) ?_
        | (rw [vcnD]; (try simp [-map_take,-map_drop, push_cast]); try simp (disch := omega) only [i64_in, u64_in, shr64i])
        | (with_reducible refine W_condW ?_; (try simp [-map_take,-map_drop, AS.val, upd, resB, mkS_env, mkS_box, lk, entry_env, condW_true, condW_false]))
        | (with_reducible refine optK_dV (by first | omega | (simp [-map_take,-map_drop]; omega)) ?_)
        | with_reducible refine optK_dVh (by omega) ?_
        | refine And.intro (by first | omega | kernel_rfl) ?_
        | ((with_reducible refine condW_b (fun hc => ?_) (fun hc => ?_) <;> (try simp [-map_take,-map_drop, Int.ofNat_inj] at hc) <;> (try contradiction)))
        | fail)
      have hsame := same_ok false false l l
      refine CallG_lend (args' := [.slc false 3 l.length (recsCells l), .slc false 3 l.length (recsCells l)]) ⟨rfl, ?_⟩ hsame ?_
      · rintro C M β w vs hR hvs ⟨⟨y, a1, b1⟩, ⟨y2, a2, b2⟩, _⟩
        refine ⟨⟨y, a1, slc_full hR (e := 24) (l := rowB 2000 l) ?_ b1 (recsCells_len l) (recsCells_refs l) fun cs h => row_full hR l 2000 cs 0 ?_ h⟩, ⟨y2, a2, rep_full hR b2 (by simp [-map_take,-map_drop, AV.refs])⟩, trivial⟩
        · simp [-map_take,-map_drop, mkS_box, lk]
        · intro i r hi
          simp [-map_take,-map_drop, mkS_box, lk, hbod i r hi, big500 (show 2000 ≤ 2000 + i by omega)]
      dsimp only
      repeat' (first
        | with_reducible first | apply thenW_n | apply thenW_ret | apply thenW_exit | apply thenW_panic | apply blockW_n | apply blockW_same | apply blockW_ret | apply blockW_panic | apply loopW_ret | apply loopW_exit | apply loopW_panic | apply joinW_ret | apply joinW_exit | apply joinW_panic | apply W_seq | apply W_block | apply W_skip | apply W_ret | apply W_exit | apply W_label
        | with_reducible refine blockW_other (by decide) ?_
        | with_reducible refine W_rg ?_
        | (rw [vcn]; (try simp [-map_take,-map_drop, push_cast]); try simp (disch := omega) only [i64_in, u64_in, shr64i])
        | with_reducible refine W_drawn mixed (by decide) (by kernel_rfl) ?_
        | (rw [vcnD]; (try simp [-map_take,-map_drop, push_cast]); try simp (disch := omega) only [i64_in, u64_in, shr64i])
        | (with_reducible refine W_condW ?_; (try simp [-map_take,-map_drop, AS.val, upd, resB, mkS_env, mkS_box, lk, entry_env, condW_true, condW_false]))
        | (with_reducible refine optK_dV (by first | omega | (simp [-map_take,-map_drop]; omega)) ?_)
        | with_reducible refine optK_dVh (by omega) ?_
        | refine And.intro (by first | omega | kernel_rfl) ?_
        | ((with_reducible refine condW_b (fun hc => ?_) (fun hc => ?_) <;> (try simp [-map_take,-map_drop, Int.ofNat_inj] at hc) <;> (try contradiction)))
        | fail)
      refine joinW_n () id trivial ⟨?_, bod_box ?_ ?_, fun _ _ _ _ h => h, ?_, bod_refs [] l (by simp [-map_take,-map_drop]), fun _ _ => rfl⟩
      · all_goals first | (with_reducible refine W_id ?_) | (simp [-map_take,-map_drop, push_cast, hMr, recsCells_refs l]; done) | (simp [-map_take,-map_drop, push_cast, hMr, recsCells_refs l]; omega) | (intro i hi; simp [-map_take,-map_drop]; omega) | (intro i hi; dsimp only; (repeat' split) <;> omega) | (simp [-map_take,-map_drop, push_cast, hMr, recsCells_refs l]; fail_if_success done)
      · simp [-map_take,-map_drop, mkS_box, lk]
      · intro i hi
        simp [-map_take,-map_drop, mkS_box, lk, big500 hi]
      · all_goals first | (with_reducible refine W_id ?_) | (simp [-map_take,-map_drop, push_cast, hMr]; done) | (simp [-map_take,-map_drop, push_cast, hMr]; omega) | (intro i hi; simp [-map_take,-map_drop]; omega) | (intro i hi; dsimp only; (repeat' split) <;> omega) | (simp [-map_take,-map_drop, push_cast, hMr]; fail_if_success done)
    have hll : l.length ≤ 100000 := by omega
    refine W_seq (W_seq ?_)
    refine W_joinQ (X := Unit) (fun _ => [(0, .slc g 1 c.length (c.map byteV)), (3, .slc false 1 c.length (c.map byteV)), (4, .bs 500 3 0 l.length), (10, i64V 0)]) (fun _ => (500, .mut 24 (rowB 2000 l)) :: bodB 2000 l) (fun _ => True) ?_ fun _ _ => ?_
    · repeat' (first
        | with_reducible first | apply thenW_n | apply thenW_ret | apply thenW_exit | apply thenW_panic | apply blockW_n | apply blockW_same | apply blockW_ret | apply blockW_panic | apply loopW_ret | apply loopW_exit | apply loopW_panic | apply joinW_ret | apply joinW_exit | apply joinW_panic | apply W_seq | apply W_block | apply W_skip | apply W_ret | apply W_exit | apply W_label
        | with_reducible refine blockW_other (by decide) ?_
        | with_reducible refine W_rg ?_
        | (rw [vcn]; (try simp [-map_take,-map_drop, push_cast]); try simp (disch := omega) only [i64_in, u64_in, shr64i])
        | with_reducible refine W_drawn mixed (by decide) (by kernel_rfl) ?_
        | (rw [vcnD]; (try simp [-map_take,-map_drop, push_cast]); try simp (disch := omega) only [i64_in, u64_in, shr64i])
        | (with_reducible refine W_condW ?_; (try simp [-map_take,-map_drop, AS.val, upd, resB, mkS_env, mkS_box, lk, entry_env, condW_true, condW_false]))
        | (with_reducible refine optK_dV (by first | omega | (simp [-map_take,-map_drop]; omega)) ?_)
        | with_reducible refine optK_dVh (by omega) ?_
        | refine And.intro (by first | omega | kernel_rfl) ?_
        | ((with_reducible refine condW_b (fun hc => ?_) (fun hc => ?_) <;> (try simp [-map_take,-map_drop, Int.ofNat_inj] at hc) <;> (try contradiction)))
        | fail)
      refine joinW_n () id trivial ⟨?_, bod_box ?_ ?_, fun _ _ _ _ h => h, ?_, bod_refs [] l (by simp [-map_take,-map_drop]), fun _ _ => rfl⟩
      · all_goals first | (with_reducible refine W_id ?_) | (simp [-map_take,-map_drop, push_cast, hMr, recsCells_refs l]; done) | (simp [-map_take,-map_drop, push_cast, hMr, recsCells_refs l]; omega) | (intro i hi; simp [-map_take,-map_drop]; omega) | (intro i hi; dsimp only; (repeat' split) <;> omega) | (simp [-map_take,-map_drop, push_cast, hMr, recsCells_refs l]; fail_if_success done)
      · simp [-map_take,-map_drop, mkS_box, lk]
      · intro i hi
        simp [-map_take,-map_drop, mkS_box, lk, big500 hi]
      · all_goals first | (with_reducible refine W_id ?_) | (simp [-map_take,-map_drop, push_cast, hMr]; done) | (simp [-map_take,-map_drop, push_cast, hMr]; omega) | (intro i hi; simp [-map_take,-map_drop]; omega) | (intro i hi; dsimp only; (repeat' split) <;> omega) | (simp [-map_take,-map_drop, push_cast, hMr]; fail_if_success done)
    refine W_block ?_
    refine W_loopW (X := Nat × List Rec) (fun x => [(0, .slc g 1 c.length (c.map byteV)), (3, .slc false 1 c.length (c.map byteV)), (4, .bs 500 3 0 x.2.length), (10, i64V x.1)]) (fun x => (500, .mut 24 (rowB 2000 x.2)) :: bodB 2000 x.2)
      (fun x => l.length - x.1) (fun x => x.1 ≤ l.length ∧ bodOk l.length x.2) (0, l) id ⟨Nat.zero_le _, rfl, hbody⟩ ⟨?_, bod_box ?_ ?_, fun _ _ _ _ h => h, ?_, bod_refs [] l (by simp [-map_take,-map_drop]), fun _ _ => rfl⟩ fun x hx => ?_
    · all_goals first | (with_reducible refine W_id ?_) | (simp [-map_take,-map_drop, push_cast, hMr]; done) | (simp [-map_take,-map_drop, push_cast, hMr]; omega) | (intro i hi; simp [-map_take,-map_drop]; omega) | (intro i hi; dsimp only; (repeat' split) <;> omega) | (simp [-map_take,-map_drop, push_cast, hMr]; fail_if_success done)
    · simp [-map_take,-map_drop, mkS_box, lk]
    · intro i hi
      simp [-map_take,-map_drop, mkS_box, lk, big500 hi]
    · all_goals first | (with_reducible refine W_id ?_) | (simp [-map_take,-map_drop, push_cast, hMr]; done) | (simp [-map_take,-map_drop, push_cast, hMr]; omega) | (intro i hi; simp [-map_take,-map_drop]; omega) | (intro i hi; dsimp only; (repeat' split) <;> omega) | (simp [-map_take,-map_drop, push_cast, hMr]; fail_if_success done)
    obtain ⟨i, A⟩ := x
    obtain ⟨hi, hA, hAb⟩ := hx
    simp only at hA hi hAb
    by_cases hlt : ¬ i < l.length
    · have g1 : ((i : Int) < (l.length : Int)) = False := eq_false (by omega)
      have g1' : (i < l.length) = False := eq_false hlt
      repeat' (first
        | with_reducible first | apply thenW_n | apply thenW_ret | apply thenW_exit | apply thenW_panic | apply blockW_n | apply blockW_same | apply blockW_ret | apply blockW_panic | apply loopW_ret | apply loopW_exit | apply loopW_panic | apply joinW_ret | apply joinW_exit | apply joinW_panic | apply W_seq | apply W_block | apply W_skip | apply W_ret | apply W_exit | apply W_label
        | with_reducible refine blockW_other (by decide) ?_
        | with_reducible refine W_rg ?_
        | (rw [vcn]; (try simp [-map_take,-map_drop, push_cast, hA, g1, g1']); try simp (disch := omega) only [i64_in, u64_in, shr64i])
        | with_reducible refine W_drawn mixed (by decide) (by kernel_rfl) ?_
        | (rw [vcnD]; (try simp [-map_take,-map_drop, push_cast, hA, g1, g1']); try simp (disch := omega) only [i64_in, u64_in, shr64i])
        | (with_reducible refine W_condW ?_; (try simp [-map_take,-map_drop, AS.val, upd, resB, mkS_env, mkS_box, lk, entry_env, condW_true, condW_false, hA, g1, g1']))
        | (with_reducible refine optK_dV (by first | omega | (simp [-map_take,-map_drop]; omega)) ?_)
        | with_reducible refine optK_dVh (by omega) ?_
        | refine And.intro (by first | omega | kernel_rfl) ?_
        | ((with_reducible refine condW_b (fun hc => ?_) (fun hc => ?_) <;> (try simp [-map_take,-map_drop, Int.ofNat_inj] at hc) <;> (try contradiction)))
        | fail)
      simp [-map_take,-map_drop, post, resAV, resAll, resOne, closeV, closeC, closeL, resD, resDL, push_cast]
    have hlt : i < l.length := by omega
    have g1 : ((i : Int) < (l.length : Int)) = True := eq_true (by omega)
    have g1' : (i < l.length) = True := eq_true hlt
    have w1 : IntKind.i64.wrap ((i : Int) + 1) = ((i + 1 : Nat) : Int) := by rw [i64_in _ (by omega)]; omega
    refine W_seq ?_
    refine W_joinQ (X := Unit) (fun x => [(0, .slc g 1 c.length (c.map byteV)), (3, .slc false 1 c.length (c.map byteV)), (4, .bs 500 3 0 A.length), (10, i64V i)]) (fun x => (500, .mut 24 (rowB 2000 A)) :: bodB 2000 A) (fun _ => True) ?_ fun _ _ => ?_
    · repeat' (first
        | with_reducible first | apply thenW_n | apply thenW_ret | apply thenW_exit | apply thenW_panic | apply blockW_n | apply blockW_same | apply blockW_ret | apply blockW_panic | apply loopW_ret | apply loopW_exit | apply loopW_panic | apply joinW_ret | apply joinW_exit | apply joinW_panic | apply W_seq | apply W_block | apply W_skip | apply W_ret | apply W_exit | apply W_label
        | with_reducible refine blockW_other (by decide) ?_
        | with_reducible refine W_rg ?_
        | (rw [vcn]; (try simp [-map_take,-map_drop, push_cast, hA, g1, g1']); try simp (disch := omega) only [i64_in, u64_in, shr64i])
        | with_reducible refine W_drawn mixed (by decide) (by kernel_rfl) ?_
        | (rw [vcnD]; (try simp [-map_take,-map_drop, push_cast, hA, g1, g1']); try simp (disch := omega) only [i64_in, u64_in, shr64i])
        | (with_reducible refine W_condW ?_; (try simp [-map_take,-map_drop, AS.val, upd, resB, mkS_env, mkS_box, lk, entry_env, condW_true, condW_false, hA, g1, g1']))
        | (with_reducible refine optK_dV (by first | omega | (simp [-map_take,-map_drop]; omega)) ?_)
        | with_reducible refine optK_dVh (by omega) ?_
        | refine And.intro (by first | omega | kernel_rfl) ?_
        | ((with_reducible refine condW_b (fun hc => ?_) (fun hc => ?_) <;> (try simp [-map_take,-map_drop, Int.ofNat_inj] at hc) <;> (try contradiction)))
        | fail)
      refine joinW_n () id trivial ⟨?_, bod_box ?_ ?_, fun _ _ _ _ h => h, ?_, bod_refs [] A (by simp [-map_take,-map_drop]), fun _ _ => rfl⟩
      · all_goals first | (with_reducible refine W_id ?_) | (simp [-map_take,-map_drop, push_cast, hMr]; done) | (simp [-map_take,-map_drop, push_cast, hMr]; omega) | (intro i hi; simp [-map_take,-map_drop]; omega) | (intro i hi; dsimp only; (repeat' split) <;> omega) | (simp [-map_take,-map_drop, push_cast, hMr]; fail_if_success done)
      · simp [-map_take,-map_drop, mkS_box, lk]
      · intro i hi
        simp [-map_take,-map_drop, mkS_box, lk, big500 hi]
      · all_goals first | (with_reducible refine W_id ?_) | (simp [-map_take,-map_drop, push_cast, hMr]; done) | (simp [-map_take,-map_drop, push_cast, hMr]; omega) | (intro i hi; simp [-map_take,-map_drop]; omega) | (intro i hi; dsimp only; (repeat' split) <;> omega) | (simp [-map_take,-map_drop, push_cast, hMr]; fail_if_success done)
    refine W_seq ?_
    refine W_joinQ (X := List Rec) (fun A => [(0, .slc g 1 c.length (c.map byteV)), (3, .slc false 1 c.length (c.map byteV)), (4, .bs 500 3 0 A.length), (10, i64V i)]) (fun A => (500, .mut 24 (rowB 2000 A)) :: bodB 2000 A) (fun A => bodOk l.length A) ?_ fun A hA => ?_
    · refine W_block (W_seq ?_)
      obtain ⟨r0, hr0⟩ : ∃ r0, A[i]? = some r0 := ⟨_, List.getElem?_eq_getElem (by omega)⟩
      obtain ⟨N, hN⟩ : ∃ N, N = r0.2.2.length := ⟨_, rfl⟩
      have hN4 : N ≤ 400000 := by rw [hN]; exact hAb r0 (List.mem_of_getElem? hr0)
      refine W_joinQ (X := Unit) (fun x => [(0, .slc g 1 c.length (c.map byteV)), (3, .slc false 1 c.length (c.map byteV)), (4, .bs 500 3 0 A.length), (10, i64V i), (11, i64V 0)]) (fun x => (500, .mut 24 (rowB 2000 A)) :: bodB 2000 A) (fun _ => True) ?_ fun _ _ => ?_
      · repeat' (first
          | with_reducible first | apply thenW_n | apply thenW_ret | apply thenW_exit | apply thenW_panic | apply blockW_n | apply blockW_same | apply blockW_ret | apply blockW_panic | apply loopW_ret | apply loopW_exit | apply loopW_panic | apply joinW_ret | apply joinW_exit | apply joinW_panic | apply W_seq | apply W_block | apply W_skip | apply W_ret | apply W_exit | apply W_label
          | with_reducible refine blockW_other (by decide) ?_
          | with_reducible refine W_rg ?_
          | (rw [vcn]; (try simp [-map_take,-map_drop, push_cast]); try simp (disch := omega) only [i64_in, u64_in, shr64i])
          | with_reducible refine W_drawn mixed (by decide) (by kernel_rfl) ?_
          | (rw [vcnD]; (try simp [-map_take,-map_drop, push_cast]); try simp (disch := omega) only [i64_in, u64_in, shr64i])
          | (with_reducible refine W_condW ?_; (try simp [-map_take,-map_drop, AS.val, upd, resB, mkS_env, mkS_box, lk, entry_env, condW_true, condW_false]))
          | (with_reducible refine optK_dV (by first | omega | (simp [-map_take,-map_drop]; omega)) ?_)
          | with_reducible refine optK_dVh (by omega) ?_
          | refine And.intro (by first | omega | kernel_rfl) ?_
          | ((with_reducible refine condW_b (fun hc => ?_) (fun hc => ?_) <;> (try simp [-map_take,-map_drop, Int.ofNat_inj] at hc) <;> (try contradiction)))
          | fail)
        refine joinW_n () id trivial ⟨?_, bod_box ?_ ?_, fun _ _ _ _ h => h, ?_, bod_refs [] A (by simp [-map_take,-map_drop]), fun _ _ => rfl⟩
        · all_goals first | (with_reducible refine W_id ?_) | (simp [-map_take,-map_drop, push_cast, hMr]; done) | (simp [-map_take,-map_drop, push_cast, hMr]; omega) | (intro i hi; simp [-map_take,-map_drop]; omega) | (intro i hi; dsimp only; (repeat' split) <;> omega) | (simp [-map_take,-map_drop, push_cast, hMr]; fail_if_success done)
        · simp [-map_take,-map_drop, mkS_box, lk]
        · intro i hi
          simp [-map_take,-map_drop, mkS_box, lk, big500 hi]
        · all_goals first | (with_reducible refine W_id ?_) | (simp [-map_take,-map_drop, push_cast, hMr]; done) | (simp [-map_take,-map_drop, push_cast, hMr]; omega) | (intro i hi; simp [-map_take,-map_drop]; omega) | (intro i hi; dsimp only; (repeat' split) <;> omega) | (simp [-map_take,-map_drop, push_cast, hMr]; fail_if_success done)
      refine W_block ?_
      refine W_loopW (X := Nat × List Rec) (fun x => [(0, .slc g 1 c.length (c.map byteV)), (3, .slc false 1 c.length (c.map byteV)), (4, .bs 500 3 0 x.2.length), (10, i64V i), (11, i64V x.1)]) (fun x => (500, .mut 24 (rowB 2000 x.2)) :: bodB 2000 x.2)
        (fun x => N - x.1) (fun x => x.1 ≤ N ∧ bodOk1 l.length i N x.2) (0, A) id ⟨Nat.zero_le _, ⟨hA, hAb⟩, r0, hr0, hN.symm⟩ ⟨?_, bod_box ?_ ?_, fun _ _ _ _ h => h, ?_, bod_refs [] A (by simp [-map_take,-map_drop]), fun _ _ => rfl⟩ fun x hx => ?_
      · all_goals first | (with_reducible refine W_id ?_) | (simp [-map_take,-map_drop, push_cast, hMr]; done) | (simp [-map_take,-map_drop, push_cast, hMr]; omega) | (intro i hi; simp [-map_take,-map_drop]; omega) | (intro i hi; dsimp only; (repeat' split) <;> omega) | (simp [-map_take,-map_drop, push_cast, hMr]; fail_if_success done)
      · simp [-map_take,-map_drop, mkS_box, lk]
      · intro i hi
        simp [-map_take,-map_drop, mkS_box, lk, big500 hi]
      · all_goals first | (with_reducible refine W_id ?_) | (simp [-map_take,-map_drop, push_cast, hMr]; done) | (simp [-map_take,-map_drop, push_cast, hMr]; omega) | (intro i hi; simp [-map_take,-map_drop]; omega) | (intro i hi; dsimp only; (repeat' split) <;> omega) | (simp [-map_take,-map_drop, push_cast, hMr]; fail_if_success done)
      clear hr0 hN
      obtain ⟨j, B⟩ := x
      obtain ⟨hj, ⟨hB, hBb⟩, ⟨k0, d0, b0⟩, hr, hbl⟩ := hx
      simp only at hB hBb hj hr hbl
      have hiB : i < B.length := by omega
      have hBi : B[i] = (k0, d0, b0) := by
        rw [List.getElem?_eq_getElem hiB] at hr
        simpa [-map_take,-map_drop] using hr
      obtain ⟨t, ht⟩ := rowB_at 2000 B i hiB
      rw [hBi] at ht
      simp only [hbl] at ht
      have hRl : (rowB 2000 B).length = l.length * 3 := by rw [rowB_len, hB]
      have hcell : (rowB 2000 B)[i * 3 + 2]? = some (.bs (2000 + i) 1 0 N) := by
        rw [← List.getElem?_drop, ht]
        rfl
      have hlk : lk (bodB 2000 B) (2000 + i) = some (.mut 5 (b0.map byteV)) := lk_bod 2000 B i _ hr
      have h5 := big500 (show 2000 ≤ 2000 + i by omega)
      by_cases hjn : ¬ j < N
      · have g2 : ((j : Int) < (N : Int)) = False := eq_false (by omega)
        have g2' : (j < N) = False := eq_false hjn
        repeat' (first
          | with_reducible first | apply thenW_n | apply thenW_ret | apply thenW_exit | apply thenW_panic | apply blockW_n | apply blockW_same | apply blockW_ret | apply blockW_panic | apply loopW_ret | apply loopW_exit | apply loopW_panic | apply joinW_ret | apply joinW_exit | apply joinW_panic | apply W_seq | apply W_block | apply W_skip | apply W_ret | apply W_exit | apply W_label
          | with_reducible refine blockW_other (by decide) ?_
          | with_reducible refine W_rg ?_
          | (rw [vcn]; (try simp [-map_take,-map_drop, push_cast, hB, g1', hcell, hRl, g2, g2', hlk, h5]); try simp (disch := omega) only [i64_in, u64_in, shr64i])
          | with_reducible refine W_drawn mixed (by decide) (by kernel_rfl) ?_
          | (rw [vcnD]; (try simp [-map_take,-map_drop, push_cast, hB, g1', hcell, hRl, g2, g2', hlk, h5]); try simp (disch := omega) only [i64_in, u64_in, shr64i])
          | (with_reducible refine W_condW ?_; (try simp [-map_take,-map_drop, AS.val, upd, resB, mkS_env, mkS_box, lk, entry_env, condW_true, condW_false, hB, g1', hcell, hRl, g2, g2', hlk, h5]))
          | (with_reducible refine optK_dV (by first | omega | (simp [-map_take,-map_drop]; omega)) ?_)
          | with_reducible refine optK_dVh (by omega) ?_
          | refine And.intro (by first | omega | kernel_rfl) ?_
          | ((with_reducible refine condW_b (fun hc => ?_) (fun hc => ?_) <;> (try simp [-map_take,-map_drop, Int.ofNat_inj] at hc) <;> (try contradiction)))
          | fail)
        have hBo : bodOk l.length B := ⟨hB, hBb⟩
        refine joinW_n B id hBo ⟨?_, bod_box ?_ ?_, fun _ _ _ _ h => h, ?_, bod_refs [] B (by simp [-map_take,-map_drop]), fun _ _ => rfl⟩
        · all_goals first | (with_reducible refine W_id ?_) | (simp [-map_take,-map_drop, push_cast, hMr]; done) | (simp [-map_take,-map_drop, push_cast, hMr]; omega) | (intro i hi; simp [-map_take,-map_drop]; omega) | (intro i hi; dsimp only; (repeat' split) <;> omega) | (simp [-map_take,-map_drop, push_cast, hMr]; fail_if_success done)
        · simp [-map_take,-map_drop, mkS_box, lk]
        · intro i hi
          simp [-map_take,-map_drop, mkS_box, lk, big500 hi]
        · all_goals first | (with_reducible refine W_id ?_) | (simp [-map_take,-map_drop, push_cast, hMr]; done) | (simp [-map_take,-map_drop, push_cast, hMr]; omega) | (intro i hi; simp [-map_take,-map_drop]; omega) | (intro i hi; dsimp only; (repeat' split) <;> omega) | (simp [-map_take,-map_drop, push_cast, hMr]; fail_if_success done)
      have hjn : j < N := by omega
      have g2 : ((j : Int) < (N : Int)) = True := eq_true (by omega)
      have g2' : (j < N) = True := eq_true hjn
      obtain ⟨x, hx⟩ : ∃ x, b0[j]? = some x := ⟨_, List.getElem?_eq_getElem (by omega)⟩
      have hjb : j < b0.length := by omega
      obtain ⟨y, hy⟩ := bXor_byte (b0[j].toNat : Int) 255
      have w2 : IntKind.i64.wrap ((j : Int) + 1) = ((j + 1 : Nat) : Int) := by rw [i64_in _ (by omega)]; omega
      repeat' (first
        | with_reducible first | apply thenW_n | apply thenW_ret | apply thenW_exit | apply thenW_panic | apply blockW_n | apply blockW_same | apply blockW_ret | apply blockW_panic | apply loopW_ret | apply loopW_exit | apply loopW_panic | apply joinW_ret | apply joinW_exit | apply joinW_panic | apply W_seq | apply W_block | apply W_skip | apply W_ret | apply W_exit | apply W_label
        | with_reducible refine blockW_other (by decide) ?_
        | with_reducible refine W_rg ?_
        | (rw [vcn]; (try simp [-map_take,-map_drop, push_cast, hB, g1', hcell, hRl, g2, g2', hlk, h5, hx, hy, w2, hbl]); try simp (disch := omega) only [i64_in, u64_in, shr64i])
        | with_reducible refine W_drawn mixed (by decide) (by kernel_rfl) ?_
        | (rw [vcnD]; (try simp [-map_take,-map_drop, push_cast, hB, g1', hcell, hRl, g2, g2', hlk, h5, hx, hy, w2, hbl]); try simp (disch := omega) only [i64_in, u64_in, shr64i])
        | (with_reducible refine W_condW ?_; (try simp [-map_take,-map_drop, AS.val, upd, resB, mkS_env, mkS_box, lk, entry_env, condW_true, condW_false, hB, g1', hcell, hRl, g2, g2', hlk, h5, hx, hy, w2, hbl]))
        | (with_reducible refine optK_dV (by first | omega | (simp [-map_take,-map_drop]; omega)) ?_)
        | with_reducible refine optK_dVh (by omega) ?_
        | refine And.intro (by first | omega | kernel_rfl) ?_
        | ((with_reducible refine condW_b (fun hc => ?_) (fun hc => ?_) <;> (try simp [-map_take,-map_drop, Int.ofNat_inj] at hc) <;> (try contradiction)))
        | fail)
      have hset : rowB 2000 (B.set i (k0, d0, b0.take j ++ y :: b0.drop (j + 1))) = rowB 2000 B := rowB_set 2000 B i _ hiB (by rw [hBi]) (by rw [hBi]) (by rw [hBi]; simp [-map_take,-map_drop]; omega)
      have hsl : (B.set i (k0, d0, b0.take j ++ y :: b0.drop (j + 1))).length = B.length := by simp [-map_take,-map_drop]
      obtain ⟨B', hB'⟩ : ∃ B', B' = B.set i (k0, d0, b0.take j ++ y :: b0.drop (j + 1)) := ⟨_, rfl⟩
      have hgi : B'[i]? = some (k0, d0, b0.take j ++ y :: b0.drop (j + 1)) := by rw [hB', List.getElem?_set]; simp [-map_take,-map_drop, hiB]
      have hne : ∀ q, q ≠ i → B'[q]? = B[q]? := fun q hq => by rw [hB', List.getElem?_set, if_neg (fun h => hq h.symm)]
      have hok : bodOk l.length B' := by
        refine ⟨by rw [hB', hsl, hB], fun r hr => ?_⟩
        obtain ⟨q, hq⟩ := List.getElem?_of_mem hr
        by_cases hqi : q = i
        · subst hqi
          rw [hgi] at hq
          cases hq
          simp [-map_take,-map_drop]
          omega
        · rw [hne q hqi] at hq
          exact hBb r (List.mem_of_getElem? hq)
      rw [← hB'] at hset hsl
      refine loopW_n (j + 1, B') id (by simp only; omega) ⟨by simp only; omega, hok, _, hgi, by simp [-map_take,-map_drop]; omega⟩ ⟨?_, bod_box ?_ ?_, fun _ _ _ _ h => h, ?_, bod_refs [] B' (by simp [-map_take,-map_drop]), fun _ _ => rfl⟩
      · all_goals first | (with_reducible refine W_id ?_) | (simp [-map_take,-map_drop, push_cast, hMr, hsl, h5, hB]; done) | (simp [-map_take,-map_drop, push_cast, hMr, hsl, h5, hB]; omega) | (intro i hi; simp [-map_take,-map_drop]; omega) | (intro i hi; dsimp only; (repeat' split) <;> omega) | (simp [-map_take,-map_drop, push_cast, hMr, hsl, h5, hB]; fail_if_success done)
      · simp [-map_take,-map_drop, mkS_box, lk, upd, hset, h5]
      · intro q hq
        simp only [mkS_box, lk, upd, big500 hq, if_false, hy]
        by_cases hqi : q = 2000 + i
        · subst hqi
          have := lk_bod 2000 B' i _ hgi
          rw [this]
          simp [-map_take,-map_drop, byteV]
        · rw [if_neg hqi, if_neg hqi, lk_bodB, lk_bodB, if_pos hq, if_pos hq, hne (q - 2000) (by omega)]
      · all_goals first | (with_reducible refine W_id ?_) | (simp [-map_take,-map_drop, push_cast, hMr]; done) | (simp [-map_take,-map_drop, push_cast, hMr]; omega) | (intro i hi; simp [-map_take,-map_drop]; omega) | (intro i hi; dsimp only; (repeat' split) <;> omega) | (simp [-map_take,-map_drop, push_cast, hMr]; fail_if_success done)
    obtain ⟨hA, hAb⟩ := hA
    repeat' (first
      | with_reducible first | apply thenW_n | apply thenW_ret | apply thenW_exit | apply thenW_panic | apply blockW_n | apply blockW_same | apply blockW_ret | apply blockW_panic | apply loopW_ret | apply loopW_exit | apply loopW_panic | apply joinW_ret | apply joinW_exit | apply joinW_panic | apply W_seq | apply W_block | apply W_skip | apply W_ret | apply W_exit | apply W_label
      | with_reducible refine blockW_other (by decide) ?_
      | with_reducible refine W_rg ?_
      | (rw [vcn]; (try simp [-map_take,-map_drop, push_cast, hA, w1]); try simp (disch := omega) only [i64_in, u64_in, shr64i])
      | with_reducible refine W_drawn mixed (by decide) (by kernel_rfl) ?_
      | (rw [vcnD]; (try simp [-map_take,-map_drop, push_cast, hA, w1]); try simp (disch := omega) only [i64_in, u64_in, shr64i])
      | (with_reducible refine W_condW ?_; (try simp [-map_take,-map_drop, AS.val, upd, resB, mkS_env, mkS_box, lk, entry_env, condW_true, condW_false, hA, w1]))
      | (with_reducible refine optK_dV (by first | omega | (simp [-map_take,-map_drop]; omega)) ?_)
      | with_reducible refine optK_dVh (by omega) ?_
      | refine And.intro (by first | omega | kernel_rfl) ?_
      | ((with_reducible refine condW_b (fun hc => ?_) (fun hc => ?_) <;> (try simp [-map_take,-map_drop, Int.ofNat_inj] at hc) <;> (try contradiction)))
      | fail)
    refine loopW_n (i + 1, A) id (by simp only; omega) ⟨by simp only; omega, hA, hAb⟩ ⟨?_, bod_box ?_ ?_, fun _ _ _ _ h => h, ?_, bod_refs [] A (by simp [-map_take,-map_drop]), fun _ _ => rfl⟩
    · all_goals first | (with_reducible refine W_id ?_) | (simp [-map_take,-map_drop, push_cast, hMr]; done) | (simp [-map_take,-map_drop, push_cast, hMr]; omega) | (intro i hi; simp [-map_take,-map_drop]; omega) | (intro i hi; dsimp only; (repeat' split) <;> omega) | (simp [-map_take,-map_drop, push_cast, hMr]; fail_if_success done)
    · simp [-map_take,-map_drop, mkS_box, lk]
    · intro i hi
      simp [-map_take,-map_drop, mkS_box, lk, big500 hi]
    · all_goals first | (with_reducible refine W_id ?_) | (simp [-map_take,-map_drop, push_cast, hMr]; done) | (simp [-map_take,-map_drop, push_cast, hMr]; omega) | (intro i hi; simp [-map_take,-map_drop]; omega) | (intro i hi; dsimp only; (repeat' split) <;> omega) | (simp [-map_take,-map_drop, push_cast, hMr]; fail_if_success done)
end Go.Fw
