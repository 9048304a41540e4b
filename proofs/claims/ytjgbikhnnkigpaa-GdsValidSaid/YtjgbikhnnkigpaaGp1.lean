/- gds: the parser's words; slices.Index, slices.Contains; sees. -/
import Derived.Test.YtjgbikhnnkigpaaDpb
import Derived.Test.YtjgbikhnnkigpaaSp3b
import Derived.Test.YtjgbikhnnkigpaaQ3b
set_option linter.unusedSimpArgs false
set_option linter.unusedVariables false
set_option linter.unusedVariables false
set_option linter.unusedSimpArgs false
-- VALS: recAV
namespace Go.Fw
open Go Go.Proofs Go.IntWalk
set_option linter.unusedSimpArgs false
set_option maxRecDepth 100000
set_option maxHeartbeats 2000000
open List (map_take map_drop)
attribute [local push_cast] optK_some optK_none optK_ite optK_map optK_bind gOn stepK isMem evPure evMem evBin evUn evConv evLen evBuiltin evMinMax evSlice evBuild evAppend evIndex evIndexAddr evField evFieldAddr intBin strBin appDest AS.val AS.mem AS.elems AS.put AS.put' AS.eff AV.cells? AV.isCell AV.refs all_isByte take_byteV drop_byteV strOf_map bndOk bnd partAV ptrAdd killBox catA inOrder fillA setAt ofVal resB upd byteV List.head?_take List.head?_drop List.getElem?_map mkS_env mkS_box mkS_used entry_env entry_box entry_used lk stepD lookIds Oper.looksAt Op.operands Call.operands St.ids refsL renL_append dV_take dV_drop ren renL renBox Box.refs iV i64V boolV dV_getElem dV_app dV_cons toNat_add2 toNat_add1
theorem W_rg {P : Program} {nt : NT} {s : AS} {Q : Exit → AS → Prop} {id : Nat} {ops : Array Oper} (h : vcn P ops.toList Q ops.toList s) (hd : ops.toList.all (fun o => dstOk nt o.dst) = true := by first | decide | (with_unfolding_all rfl)) : W P nt (.region id ops false) s Q := W_region hd h
def noPan (_ : List PanicEntry) : Prop := False
theorem entryB_env (args : List AV) (box : List (Nat × Box)) (t : Nat) : (entryB args box).env t = (args[t]?).getD (.tup []) := rfl
theorem entryB_box (args : List AV) (box : List (Nat × Box)) : (entryB args box).box = lk box := rfl
theorem entryB_used (args : List AV) (box : List (Nat × Box)) (i : Nat) : (entryB args box).used i = (1000000 ≤ i) := rfl
def idxB (k : UInt8) : List UInt8 → Int
 | [] => -1
 | x :: l => if k = x then 0 else if idxB k l < 0 then -1 else idxB k l + 1
theorem idxB_iff (k : UInt8) (l : List UInt8) : (0 ≤ idxB k l) ↔ l.contains k = true := by
 induction l with
 | nil => simp [idxB]
 | cons x l ih =>
  simp only [idxB, List.contains_cons, Bool.or_eq_true, beq_iff_eq, ← ih]
  split
  · rename_i h; simp [h]
  ·
   rename_i h
   split <;> simp [h] <;> omega
theorem idxB_at (k : UInt8) (l : List UInt8) (i : Nat) (hi : i < l.length) (hn : ∀ j, j < i → l[j]? ≠ some k) (h : l[i] = k) : idxB k l = i := by
 induction l generalizing i with
 | nil => simp at hi
 | cons x l ih =>
  cases i with
  | zero =>
   simp at h
   simp [idxB, h]
  | succ i =>
   have hx : ¬ k = x := fun h => hn 0 (by omega) (by simp [h])
   have := ih i (by simpa using hi) (fun j hj => by simpa using hn (j + 1) (by omega)) (by simpa using h)
   rw [idxB, if_neg hx, if_neg (by omega), this]
   omega
theorem idxB_none (k : UInt8) (l : List UInt8) (hn : ∀ j, j < l.length → l[j]? ≠ some k) : idxB k l = -1 := by
 induction l with
 | nil => rfl
 | cons x l ih =>
  have hx : ¬ k = x := fun h => hn 0 (by simp) (by simp [h])
  have := ih (fun j hj => by simpa using hn (j + 1) (by simp; omega))
  rw [idxB, if_neg hx, if_pos (by omega)]
theorem sidx_ok (f : Bool) (l : List UInt8) (k : UInt8) : Eval Try.prog 88 [.slc f 1 l.length (l.map byteV), byteV k] (.ret (i64V (idxB k l))) := by
 refine Eval.intro Try.func88 rfl Try.call88 _ _ (Nat.le_of_ble_eq_true rfl) (by simp [natAV, recAV, push_cast]) fun hs0 => ?_
 obtain ⟨n, hn⟩ : ∃ n, n = l.length := ⟨_, rfl⟩
 have hn64 : n ≤ 9223372036854775807 := by rw [hn]; exact hs0.1.1
 obtain ⟨L, hL⟩ : ∃ L, L = l.map byteV := ⟨_, rfl⟩
 have hLr : refsL L = [] := by rw [hL]; exact refsL_bytes l
 obtain ⟨out, hout⟩ : ∃ out, out = i64V (idxB k l) := ⟨_, rfl⟩
 rw [← hn, ← hL, ← hout]
 clear hs0
 repeat' (first
  | with_reducible first | apply thenW_n | apply W_seq | apply W_block
  | with_reducible refine W_rg ?_
  | (rw [vcn]; (try simp [push_cast]))
  | fail)
 refine W_loopW (X := Nat) (fun i => [(0, .slc f 1 n L), (1, byteV k), (7, i64V n), (8, i64V i)]) (fun _ => []) (fun i => n - i) (fun i => i ≤ n ∧ ∀ j, j < i → l[j]? ≠ some k) 0 id ⟨Nat.zero_le _, fun j hj => absurd hj (by omega)⟩ ⟨?_, ?_, ?_, ?_, ?_, ?_⟩ fun i hx => ?_
 all_goals first | (with_reducible refine W_id ?_) | (simp [push_cast, hLr]; done)
 obtain ⟨hi, hx⟩ := hx
 by_cases hlt : ¬ i < n
 ·
  have g1 : ((i : Int) < (n : Int)) = False := eq_false (by omega)
  have g1' : (i < n) = False := eq_false hlt
  have ho : out = i64V (-1) := by rw [hout, idxB_none k l fun j hj => hx j (by omega)]
  repeat' (first
   | with_reducible first | apply thenW_n | apply thenW_exit | apply blockW_same | apply loopW_exit | apply W_seq | apply W_ret | apply W_exit
   | with_reducible refine W_rg ?_
   | (rw [vcn]; (try simp [push_cast, g1, g1']))
   | (with_reducible refine W_condW ?_; (try simp [AS.val, upd, resB, mkS_env, mkS_box, lk, entry_env, condW_true, condW_false, g1, g1']))
   | fail)
  simp [post, resAV, resAll, resOne, closeV, closeC, closeL, resD, resDL, push_cast, ho]
 have hlt : i < n := by omega
 have g1 : ((i : Int) < (n : Int)) = True := eq_true (by omega)
 have g1' : (i < n) = True := eq_true hlt
 have hLi : L[i]? = some (byteV (l[i]'(by omega))) := by rw [hL, List.getElem?_map, List.getElem?_eq_getElem (by omega)]; rfl
 have w1 : IntKind.i64.wrap ((i : Int) + 1) = ((i + 1 : Nat) : Int) := by rw [i64_in _ (by omega)]; omega
 obtain ⟨x, hxx⟩ : ∃ x, x = l[i]'(by omega) := ⟨_, rfl⟩
 rw [← hxx] at hLi
 by_cases hk : k = x
 ·
  have g2 : ((k.toNat : Int) = (x.toNat : Int)) = True := eq_true (by rw [hk])
  have g2' : ((k.toNat : Int) == (x.toNat : Int)) = true := by rw [beq_iff_eq, hk]
  have ho : out = i64V i := by rw [hout, idxB_at k l i (by omega) hx (by rw [← hxx, hk])]
  repeat' (first
   | with_reducible first | apply thenW_n | apply thenW_ret | apply blockW_ret | apply loopW_ret | apply W_seq | apply W_block | apply W_skip | apply W_ret
   | with_reducible refine W_rg ?_
   | (rw [vcn]; (try simp [push_cast, g1, g1', hLi, g2, g2']))
   | (with_reducible refine W_condW ?_; (try simp [AS.val, upd, resB, mkS_env, mkS_box, lk, entry_env, condW_true, condW_false, g1, g1', hLi, g2, g2']))
   | fail)
  simp [post, resAV, resAll, resOne, closeV, closeC, closeL, resD, resDL, push_cast, ho]
 ·
  have hne : ¬ (k.toNat : Int) = (x.toNat : Int) := fun h => hk (UInt8.toNat_inj.1 (by omega))
  have g2 : ((k.toNat : Int) = (x.toNat : Int)) = False := eq_false hne
  have g2' : ((k.toNat : Int) == (x.toNat : Int)) = false := by rw [beq_eq_false_iff_ne]; exact hne
  have hnx : ∀ j, j < i + 1 → l[j]? ≠ some k := fun j hj => by
   rcases Nat.lt_or_ge j i with h | h
   · exact hx j h
   ·
    rw [show j = i from by omega, List.getElem?_eq_getElem (by omega), ← hxx]
    intro h2
    cases h2
    exact hk rfl
  repeat' (first
   | with_reducible first | apply thenW_n | apply blockW_n | apply W_seq | apply W_block | apply W_skip
   | with_reducible refine W_rg ?_
   | (rw [vcn]; (try simp [push_cast, g1, g1', hLi, g2, g2', w1]))
   | (with_reducible refine W_condW ?_; (try simp [AS.val, upd, resB, mkS_env, mkS_box, lk, entry_env, condW_true, condW_false, g1, g1', hLi, g2, g2', w1]))
   | fail)
  refine loopW_n (i + 1) id (by omega) ⟨by omega, hnx⟩ ⟨?_, ?_, ?_, ?_, ?_, ?_⟩
  all_goals first | (simp [push_cast, hLr]; done)
theorem contains_ok (f : Bool) (l : List UInt8) (k : UInt8) : Eval Try.prog 85 [.slc f 1 l.length (l.map byteV), byteV k] (.ret (.v (.bool (l.contains k)))) := by
 refine Eval.intro Try.func85 rfl Try.call85 _ _ (Nat.le_of_ble_eq_true rfl) (by simp [natAV, recAV, push_cast]) fun hs0 => ?_
 have h := sidx_ok f l k
 have hi := idxB_iff k l
 obtain ⟨i, hii⟩ : ∃ i, i = idxB k l := ⟨_, rfl⟩
 rw [← hii] at h hi
 obtain ⟨b, hb⟩ : ∃ b, b = l.contains k := ⟨_, rfl⟩
 rw [← hb] at hi ⊢
 have g : decide (0 ≤ i) = b := by
  cases b with
  | true => simpa using hi.2 rfl
  | false =>
   rw [decide_eq_false_iff_not]
   intro h
   have := hi.1 h
   cases this
 repeat' (first
  | with_reducible first | apply thenW_n | apply W_seq
  | with_reducible refine W_rg ?_
  | (rw [vcn]; (try simp [push_cast]))
  | fail)
 refine CallG_of (h) rfl rfl rfl ?_
 try dsimp only
 repeat' (first
  | with_reducible first | apply thenW_n | apply W_ret
  | (rw [vcn]; (try simp [push_cast, g]))
  | fail)
 simp [post, resAV, resAll, resOne, closeV, closeC, closeL, resD, resDL, push_cast, g]
def parC (f : Bool) (L : List Rec) (at_ : Nat) : List AV := [.slc f 3 L.length (recsCells L), i64V at_]
def seesS (L : List Rec) (at_ : Nat) (ks : List UInt8) : Bool := match L[at_]? with
 | some r => ks.contains r.1
 | none => false
theorem sees_ok (f g : Bool) (L : List Rec) (at_ : Nat) (ks : List UInt8) (PP : List PanicEntry → Prop) (hL : L.length ≤ 9223372036854775807) (hat : at_ ≤ L.length) :
  Meth Try.prog 81 [.bp 1000000 0, .slc g 1 ks.length (ks.map byteV)] 110 (parC f L at_) PP (some (.v (.bool (seesS L at_ ks)), parC f L at_)) := by
 refine ⟨_, _, Try.func81, rfl, Try.call81, Nat.le_of_ble_eq_true rfl, ?_⟩
 unfold parC
 have hlen := recsCells_len L
 have hRr := recsCells_refs L
 obtain ⟨n, hn⟩ : ∃ n, n = L.length := ⟨_, rfl⟩
 obtain ⟨R, hR⟩ : ∃ R, R = recsCells L := ⟨_, rfl⟩
 obtain ⟨b, hb⟩ : ∃ b, b = seesS L at_ ks := ⟨_, rfl⟩
 rw [← hR, ← hn] at hlen ⊢
 rw [← hR] at hRr
 rw [← hb]
 by_cases hlt : at_ < n
 ·
  obtain ⟨t, ht⟩ := recsCells_at L at_ (by omega)
  rw [← hR] at ht
  have hbv : b = ks.contains L[at_].1 := by rw [hb, seesS, List.getElem?_eq_getElem (by omega)]
  have hc := contains_ok g ks L[at_].1
  rw [← hbv] at hc
  have g1 : ((at_ : Int) < (n : Int)) = True := eq_true (by omega)
  have g1' : (at_ < n) = True := eq_true hlt
  repeat' (first
   | with_reducible first | apply thenW_n | apply W_seq
   | with_reducible refine W_rg ?_
   | (rw [vcn]; (try simp [push_cast, entryB_env, entryB_box, entryB_used, g1, g1', ht, hlen]))
   | with_reducible refine W_drawn mixed (by decide) (by kernel_rfl) ?_
   | (rw [vcnD]; (try simp [push_cast, entryB_env, entryB_box, entryB_used, g1, g1', ht, hlen]))
   | fail)
  refine callD_of (hc) rfl rfl rfl ?_
  try dsimp only
  repeat' (first
   | with_reducible first | apply thenW_n | apply W_ret
   | (rw [vcnD]; (try simp [push_cast, entryB_env, entryB_box, entryB_used, g1, g1', ht, hlen]))
   | refine And.intro (by first | omega | kernel_rfl) ?_
   | fail)
  simp [postB, resAV, resAll, resOne, resD, resDL, push_cast, entryB_env, entryB_box]
 ·
  have hbv : b = false := by rw [hb, seesS, List.getElem?_eq_none (by omega)]
  have g1 : ((at_ : Int) < (n : Int)) = False := eq_false (by omega)
  have g1' : (at_ < n) = False := eq_false hlt
  repeat' (first
   | with_reducible first | apply thenW_n | apply W_seq | apply W_ret
   | with_reducible refine W_rg ?_
   | (rw [vcn]; (try simp [push_cast, entryB_env, entryB_box, entryB_used, g1, g1']))
   | with_reducible refine W_drawn mixed (by decide) (by kernel_rfl) ?_
   | (rw [vcnD]; (try simp [push_cast, entryB_env, entryB_box, entryB_used, g1, g1']))
   | refine And.intro (by first | omega | kernel_rfl) ?_
   | fail)
  simp [postB, resAV, resAll, resOne, resD, resDL, push_cast, entryB_env, entryB_box, hbv]
theorem textB_len {b : List UInt8} {m : Nat} {f : Bool} (h : textB b m f = true) : b.length ≤ m := by
 unfold textB at h
 simp at h
 omega
theorem refR_len {k d : UInt8} {b : List UInt8} (h : refR k d b = true) : b.length ≤ 1000000 := by
 unfold refR at h
 by_cases h0 : inB [0, 13, 14, 22, 33, 34, 42, 43, 46, 54, 57] k = true
 ·
  rw [if_pos h0] at h
  simp only [Bool.and_eq_true, decide_eq_true_eq] at h
  first
   | omega
   | (have := textB_len h.2; omega)
 rw [if_neg h0] at h
 by_cases h1 : inB [1, 5] k = true
 ·
  rw [if_pos h1] at h
  simp only [Bool.and_eq_true, decide_eq_true_eq] at h
  first
   | omega
   | (have := textB_len h.2; omega)
 rw [if_neg h1] at h
 by_cases h2 : ((k.toNat : Int) == 19) = true
 ·
  rw [if_pos h2] at h
  simp only [Bool.and_eq_true, decide_eq_true_eq] at h
  first
   | omega
   | (have := textB_len h.2; omega)
 rw [if_neg h2] at h
 by_cases h3 : ((k.toNat : Int) == 59) = true
 ·
  rw [if_pos h3] at h
  simp only [Bool.and_eq_true, decide_eq_true_eq] at h
  first
   | omega
   | (have := textB_len h.2; omega)
 rw [if_neg h3] at h
 by_cases h4 : inB [4, 7, 8, 9, 10, 11, 12, 17, 21, 45, 56] k = true
 ·
  rw [if_pos h4] at h
  simp only [Bool.and_eq_true, decide_eq_true_eq] at h
  first
   | omega
   | (have := textB_len h.2; omega)
 rw [if_neg h4] at h
 by_cases h5 : inB [15, 47, 48, 49] k = true
 ·
  rw [if_pos h5] at h
  simp only [Bool.and_eq_true, decide_eq_true_eq] at h
  first
   | omega
   | (have := textB_len h.2; omega)
 rw [if_neg h5] at h
 by_cases h6 : ((k.toNat : Int) == 16) = true
 ·
  rw [if_pos h6] at h
  simp only [Bool.and_eq_true, decide_eq_true_eq] at h
  first
   | omega
   | (have := textB_len h.2; omega)
 rw [if_neg h6] at h
 by_cases h7 : inB [27, 28] k = true
 ·
  rw [if_pos h7] at h
  simp only [Bool.and_eq_true, decide_eq_true_eq] at h
  first
   | omega
   | (have := textB_len h.2; omega)
 rw [if_neg h7] at h
 by_cases h8 : ((k.toNat : Int) == 3) = true
 ·
  rw [if_pos h8] at h
  simp only [Bool.and_eq_true, decide_eq_true_eq] at h
  first
   | omega
   | (have := textB_len h.2; omega)
 rw [if_neg h8] at h
 by_cases h9 : inB [23, 26, 38, 52] k = true
 ·
  rw [if_pos h9] at h
  simp only [Bool.and_eq_true, decide_eq_true_eq] at h
  first
   | omega
   | (have := textB_len h.2; omega)
 rw [if_neg h9] at h
 by_cases h10 : inB [2, 25, 44, 55, 58] k = true
 ·
  rw [if_pos h10] at h
  simp only [Bool.and_eq_true, decide_eq_true_eq] at h
  first
   | omega
   | (have := textB_len h.2; omega)
 rw [if_neg h10] at h
 by_cases h11 : inB [6, 18] k = true
 ·
  rw [if_pos h11] at h
  simp only [Bool.and_eq_true, decide_eq_true_eq] at h
  first
   | omega
   | (have := textB_len h.2; omega)
 rw [if_neg h11] at h
 by_cases h12 : ((k.toNat : Int) == 35) = true
 ·
  rw [if_pos h12] at h
  simp only [Bool.and_eq_true, decide_eq_true_eq] at h
  first
   | omega
   | (have := textB_len h.2; omega)
 rw [if_neg h12] at h
 by_cases h13 : ((k.toNat : Int) == 32) = true
 ·
  rw [if_pos h13] at h
  simp only [Bool.and_eq_true, decide_eq_true_eq] at h
  first
   | omega
   | (have := textB_len h.2; omega)
 rw [if_neg h13] at h
 by_cases h14 : ((k.toNat : Int) == 31) = true
 ·
  rw [if_pos h14] at h
  simp only [Bool.and_eq_true, decide_eq_true_eq] at h
  first
   | omega
   | (have := textB_len h.2; omega)
 rw [if_neg h14] at h
 cases h
def isWrong (pl : List PanicEntry) : Prop := pl = [{ v := .iface 104 (.agg #[]), recovered := false }]
def mustS (L : List Rec) (at_ : Nat) (k : UInt8) : Option Rec := match L[at_]? with
 | some r => if r.1 = k ∧ refR r.1 r.2.1 r.2.2 = true then some r else none
 | none => none
theorem must_ok (f : Bool) (L : List Rec) (at_ : Nat) (k : UInt8) (hL : L.length ≤ 1000000000) (hbody : ∀ r ∈ L, r.2.2.length ≤ 9223372036854775807) (hat : at_ ≤ L.length) :
  Meth Try.prog 82 [.bp 1000000 0, byteV k] 110 (parC f L at_) isWrong ((mustS L at_ k).map fun r => (recAV r.1 r.2.1 r.2.2, parC f L (at_ + 1))) := by
 refine ⟨_, _, Try.func82, rfl, Try.call82, Nat.le_of_ble_eq_true rfl, ?_⟩
 obtain ⟨m, hm⟩ : ∃ m, m = mustS L at_ k := ⟨_, rfl⟩
 have hs := sees_ok f false L at_ [k] noPan (by omega) hat
 obtain ⟨sb, hsb⟩ : ∃ b, b = seesS L at_ [k] := ⟨_, rfl⟩
 rw [← hsb] at hs
 rw [← hm]
 unfold parC at *
 have hlen := recsCells_len L
 have hRr := recsCells_refs L
 obtain ⟨n, hn⟩ : ∃ n, n = L.length := ⟨_, rfl⟩
 obtain ⟨R, hR⟩ : ∃ R, R = recsCells L := ⟨_, rfl⟩
 rw [← hR, ← hn] at hlen hs ⊢
 rw [← hR] at hRr
 by_cases hsb0 : sb = false
 ·
  subst hsb0
  have hm0 : m = none := by
   rw [hm, mustS]
   rw [seesS] at hsb
   cases hx : L[at_]? with
   | none => rfl
   | some r =>
    rw [hx] at hsb
    simp only
    rw [if_neg]
    rintro ⟨h1, _⟩
    simp [h1] at hsb
  rw [hm0]
  repeat' (first
   | with_reducible first | apply thenW_n | apply W_seq
   | with_reducible refine W_rg ?_
   | (rw [vcn]; (try simp [push_cast, keyK, entryB_env, entryB_box, entryB_used]))
   | (refine W_drawnP noPan mixed (by decide) (by kernel_rfl) (by intro pl s hpl; first | exact False.elim hpl | (repeat' (with_reducible first | apply thenW_panic | apply blockW_panic | apply loopW_panic | apply joinW_panic)); exact ⟨pl, rfl, hpl⟩) ?_)
   | (rw [vcnDP]; (try simp [push_cast, keyK, entryB_env, entryB_box, entryB_used]))
   | fail)
  refine callDP_meth (id := 1000000) (ks := some (8, 5, [byteV k])) (args' := [.bp 1000000 0, .slc false 1 1 [byteV k]]) (methMk (hs) ?_) ?_
  · refine ⟨?_, ?_, ?_, ?_, fun _ _ _ h_ => ?_, ?_, ?_, fun _ _ h_ => ?_⟩ <;> (try cases h_) <;> (try simp [natAV, frzK, resDL, resD, entryB_env, entryB_box, refsL_bytes, recAV, push_cast, hRr]) <;> first | rfl | (rw [List.take_of_length_le (by simp)]; done)
  try dsimp only
  repeat' (first
   | with_reducible first | apply thenW_n | apply thenW_panic
   | with_reducible refine W_rg ?_
   | (rw [vcn]; (try simp [push_cast, keyK, entryB_env, entryB_box, entryB_used]))
   | (rw [vcnDP]; (try simp [push_cast, keyK, entryB_env, entryB_box, entryB_used]))
   | (with_reducible refine W_condW ?_; (try simp [AS.val, upd, resB, mkS_env, mkS_box, lk, entry_env, condW_true, condW_false, keyK, entryB_env, entryB_box, entryB_used]))
   | refine And.intro (by first | omega | kernel_rfl) ?_
   | fail)
  exact ⟨_, rfl, rfl⟩
 have hsb1 : sb = true := by simpa using hsb0
 subst hsb1
 obtain ⟨r, hr⟩ : ∃ r, L[at_]? = some r := by
  rw [seesS] at hsb
  cases hx : L[at_]? with
  | none => rw [hx] at hsb; cases hsb
  | some r => exact ⟨r, rfl⟩
 have hrk : r.1 = k := by
  rw [seesS, hr] at hsb
  simpa using hsb.symm
 obtain ⟨hlt, hLr⟩ := List.getElem?_eq_some_iff.1 hr
 obtain ⟨t, ht⟩ := recsCells_at L at_ hlt
 rw [← hR, hLr] at ht
 rw [mustS, hr] at hm
 simp only [hrk, true_and] at hm
 obtain ⟨rk, rd, rb⟩ := r
 simp only at hrk ht hm
 subst hrk
 have hrb : rb.length ≤ 9223372036854775807 := hbody _ (List.mem_of_getElem? hr)
 have hright := rightE rk rd rb hrb
 have g1' : (at_ < n) = True := eq_true (by omega)
 have w1 : IntKind.i64.wrap ((at_ : Int) + 1) = ((at_ + 1 : Nat) : Int) := by rw [i64_in _ (by omega)]; omega
 have w2 : IntKind.i64.wrap ((at_ : Int) + 1 - 1) = (at_ : Int) := by rw [i64_in _ (by omega)]; omega
 by_cases hR0 : refR rk rd rb = false
 ·
  rw [hR0] at hright
  have hm0 : m = none := by rw [hm, hR0]; rfl
  rw [hm0]
  repeat' (first
   | with_reducible first | apply thenW_n | apply W_seq
   | with_reducible refine W_rg ?_
   | (rw [vcn]; (try simp [push_cast, keyK, entryB_env, entryB_box, entryB_used]))
   | (refine W_drawnP noPan mixed (by decide) (by kernel_rfl) (by intro pl s hpl; first | exact False.elim hpl | (repeat' (with_reducible first | apply thenW_panic | apply blockW_panic | apply loopW_panic | apply joinW_panic)); exact ⟨pl, rfl, hpl⟩) ?_)
   | (rw [vcnDP]; (try simp [push_cast, keyK, entryB_env, entryB_box, entryB_used]))
   | fail)
  refine callDP_meth (id := 1000000) (ks := some (8, 5, [byteV rk])) (args' := [.bp 1000000 0, .slc false 1 1 [byteV rk]]) (methMk (hs) ?_) ?_
  · refine ⟨?_, ?_, ?_, ?_, fun _ _ _ h_ => ?_, ?_, ?_, fun _ _ h_ => ?_⟩ <;> (try cases h_) <;> (try simp [natAV, frzK, resDL, resD, entryB_env, entryB_box, refsL_bytes, recAV, push_cast, hRr]) <;> first | rfl | (rw [List.take_of_length_le (by simp)]; done)
  try dsimp only
  repeat' (first
   | (rw [vcnDP]; (try simp [push_cast, keyK, entryB_env, entryB_box, entryB_used, g1', ht, hlen]))
   | fail)
  refine callDP_d ?_
  refine callD_of (hright) rfl rfl rfl ?_
  try dsimp only
  repeat' (first
   | with_reducible first | apply thenW_n | apply thenW_panic
   | with_reducible refine W_rg ?_
   | (rw [vcn]; (try simp [push_cast, keyK, entryB_env, entryB_box, entryB_used]))
   | (rw [vcnDP]; (try simp [push_cast, keyK, entryB_env, entryB_box, entryB_used]))
   | (with_reducible refine W_condW ?_; (try simp [AS.val, upd, resB, mkS_env, mkS_box, lk, entry_env, condW_true, condW_false, keyK, entryB_env, entryB_box, entryB_used]))
   | refine And.intro (by first | omega | kernel_rfl) ?_
   | fail)
  exact ⟨_, rfl, rfl⟩
 have hR1 : refR rk rd rb = true := by simpa using hR0
 rw [hR1] at hright
 have hm1 : m = some (rk, rd, rb) := by rw [hm, hR1]; rfl
 rw [hm1]
 have hb6 : rb.length ≤ 1000000 := refR_len hR1
 have hcl := eval57 false rb rb.length rfl (by omega)
 repeat' (first
  | with_reducible first | apply thenW_n | apply W_seq
  | with_reducible refine W_rg ?_
  | (rw [vcn]; (try simp [push_cast, keyK, entryB_env, entryB_box, entryB_used]))
  | (refine W_drawnP noPan mixed (by decide) (by kernel_rfl) (by intro pl s hpl; first | exact False.elim hpl | (repeat' (with_reducible first | apply thenW_panic | apply blockW_panic | apply loopW_panic | apply joinW_panic)); exact ⟨pl, rfl, hpl⟩) ?_)
  | (rw [vcnDP]; (try simp [push_cast, keyK, entryB_env, entryB_box, entryB_used]))
  | fail)
 refine callDP_meth (id := 1000000) (ks := some (8, 5, [byteV rk])) (args' := [.bp 1000000 0, .slc false 1 1 [byteV rk]]) (methMk (hs) ?_) ?_
 · refine ⟨?_, ?_, ?_, ?_, fun _ _ _ h_ => ?_, ?_, ?_, fun _ _ h_ => ?_⟩ <;> (try cases h_) <;> (try simp [natAV, frzK, resDL, resD, entryB_env, entryB_box, refsL_bytes, recAV, push_cast, hRr]) <;> first | rfl | (rw [List.take_of_length_le (by simp)]; done)
 try dsimp only
 repeat' (first
  | (rw [vcnDP]; (try simp [push_cast, keyK, entryB_env, entryB_box, entryB_used, g1', ht, hlen]))
  | fail)
 refine callDP_d ?_
 refine callD_of (hright) rfl rfl rfl ?_
 try dsimp only
 repeat' (first
  | with_reducible first | apply thenW_n | apply W_seq | apply W_skip
  | with_reducible refine W_rg ?_
  | (rw [vcn]; (try simp [push_cast, keyK, entryB_env, entryB_box, entryB_used, g1', ht, hlen, w1, w2]); try simp (disch := omega) only [i64_in, u64_in, shr64i])
  | (refine W_drawnP noPan mixed (by decide) (by kernel_rfl) (by intro pl s hpl; first | exact False.elim hpl | (repeat' (with_reducible first | apply thenW_panic | apply blockW_panic | apply loopW_panic | apply joinW_panic)); exact ⟨pl, rfl, hpl⟩) ?_)
  | (rw [vcnDP]; (try simp [push_cast, keyK, entryB_env, entryB_box, entryB_used, g1', ht, hlen, w1, w2]); try simp (disch := omega) only [i64_in, u64_in, shr64i])
  | (with_reducible refine W_condW ?_; (try simp [AS.val, upd, resB, mkS_env, mkS_box, lk, entry_env, condW_true, condW_false, keyK, entryB_env, entryB_box, entryB_used, g1', ht, hlen, w1, w2]))
  | refine And.intro (by first | omega | kernel_rfl) ?_
  | fail)
 refine CallG_of (hcl.frz1) rfl rfl rfl ?_
 try dsimp only
 repeat' (first
  | with_reducible first | apply thenW_n | apply W_seq | apply W_ret
  | with_reducible refine W_rg ?_
  | (rw [vcn]; (try simp [push_cast, keyK, entryB_env, entryB_box, entryB_used, g1', ht, hlen, w1, w2]))
  | fail)
 simp [postB, resAV, resAll, resOne, resD, resDL, push_cast, entryB_env, entryB_box, recAV]
end Go.Fw
