/- gds: the walk of item. Printed by a program (wip/gen/item.py). -/
import Derived.Test.YtjgbikhnnkigpaaGp2b
set_option linter.unusedSimpArgs false
set_option linter.unusedVariables false
-- VALS: recAV
namespace Go.Fw
open Go Go.Proofs Go.IntWalk
set_option linter.unusedSimpArgs false
set_option maxRecDepth 100000
set_option maxHeartbeats 4000000
open List (map_take map_drop)
attribute [local push_cast] optK_some optK_none optK_ite optK_map optK_bind gOn stepK isMem evPure evMem evBin evUn evConv evLen evBuiltin evMinMax evSlice evBuild evAppend evIndex evIndexAddr evField evFieldAddr intBin strBin appDest AS.val AS.mem AS.elems AS.put AS.put' AS.eff AV.cells? AV.isCell AV.refs all_isByte take_byteV drop_byteV strOf_map bndOk bnd partAV ptrAdd killBox catA inOrder fillA setAt ofVal resB upd byteV List.head?_take List.head?_drop List.getElem?_map mkS_env mkS_box mkS_used entry_env entry_box entry_used lk stepD lookIds Oper.looksAt Op.operands Call.operands St.ids refsL renL_append dV_take dV_drop ren renL renBox Box.refs iV i64V boolV dV_getElem dV_app dV_cons toNat_add2 toNat_add1
theorem item_ok (f : Bool) (L : List Rec) (at0 : Nat) (hL : L.length ≤ 100000000) (hbody : ∀ r ∈ L, r.2.2.length ≤ 9223372036854775807) (hsee : seesS L at0 itemKinds = true) :
  Meth Try.prog 83 [.bp 1000000 0] 110 (parC f L at0) isWrong ((itemS L at0).map fun p => (itemAV p.1, parC f L p.2)) := by
 have hat0 := seesS_lt hsee
 obtain ⟨r0, hr0⟩ : ∃ r, L[at0]? = some r := ⟨_, List.getElem?_eq_getElem hat0⟩
 have hkin : r0.1 ∈ itemKinds := by
  rw [seesS, hr0] at hsee
  simpa using hsee
 refine ⟨_, _, Try.func83, rfl, Try.call83, Nat.le_of_ble_eq_true rfl, ?_⟩
 obtain ⟨out, hout⟩ : ∃ o, o = itemS L at0 := ⟨_, rfl⟩
 have hout2 := hout
 rw [itemS, hr0] at hout2
 simp only at hout2
 rw [← hout]
 clear hout
 obtain ⟨hlt0, hLr0⟩ := List.getElem?_eq_some_iff.1 hr0
 obtain ⟨t, ht⟩ := recsCells_at L at0 hlt0
 rw [hLr0] at ht
 have hlen := recsCells_len L
 have hpr : ∀ a, refsL (parC f L a) = [] := fun a => by simp [parC, refsL, AV.refs, i64V, recsCells_refs]
 have hprn : ∀ ρ a, renL ρ (parC f L a) = parC f L a := fun ρ a => renL_id ρ _ (hpr a)
 have hre : ∀ l, refsL (recsCells l) = [] := recsCells_refs
 have hrn : ∀ ρ l, renL ρ (recsCells l) = recsCells l := fun ρ l => renL_id ρ _ (recsCells_refs l)
 have hrl : ∀ l, (recsCells l).length = l.length * 3 := recsCells_len
 obtain ⟨rk, rd, rb⟩ := r0
 simp only at ht hkin hout2
 have hu := u8_i64 rk
 have hrow0 := row_ok f false L at0 [rk.toNat, 294, 303] (by omega) hbody (by omega) (by simp) (by
  have := rk.toNat_lt
  intro k hk
  simp at hk
  omega)
 have hrow0F := rowF_ok f false L at0 [rk.toNat, 294, 303] (by omega) hbody (by omega) (by simp) (by
  have := rk.toNat_lt
  intro k hk
  simp at hk
  omega)
 refine W_seq ?_
 refine W_joinQ (X := Unit) (fun _ => [(0, .bp 1000000 0), (2, .bp 2 0)]) (fun _ => [(1000000, .mut 110 (parC f L at0)), (2, .mut 77 [nilV, nilV])]) (fun _ => True) ?_ fun _ _ => ?_
 ·
  repeat' (first
   | with_reducible refine W_rg ?_
   | (rw [vcn]; (try simp [push_cast, entryB_env, entryB_box, entryB_used]))
   | fail)
  refine joinW_n () id trivial ⟨?_, ?_, ?_, ?_, ?_, ?_⟩
  all_goals first | (simp [push_cast, hpr, hprn, entryB_env, entryB_box, entryB_used, nilV]; done)
 refine W_seq ?_
 refine W_joinQ (X := Unit) (fun _ => [(0, .bp 1000000 0), (2, .bp 2 0), (3, .bp 3 0)]) (fun _ => [(1000000, .mut 110 (parC f L at0)), (2, .mut 77 [nilV, nilV]), (3, .mut 77 [nilV, nilV])]) (fun _ => True) ?_ fun _ _ => ?_
 ·
  repeat' (first
   | with_reducible refine W_rg ?_
   | (rw [vcn]; (try simp [push_cast, nilV]))
   | fail)
  refine joinW_n () id trivial ⟨?_, ?_, ?_, ?_, ?_, ?_⟩
  all_goals first | (simp [push_cast, hpr, hprn, nilV]; done)
 refine W_seq ?_
 refine W_joinQ (X := Unit) (fun _ => [(0, .bp 1000000 0), (2, .bp 2 0), (3, .bp 3 0), (4, byteV rk)]) (fun _ => [(1000000, .mut 110 (parC f L at0)), (2, .mut 77 [nilV, nilV]), (3, .mut 77 [nilV, nilV])]) (fun _ => True) ?_ fun _ _ => ?_
 ·
  have hl0 : (at0 < L.length) = True := eq_true hlt0
  repeat' (first
   | with_reducible refine W_drawn mixed (by decide) (by kernel_rfl) ?_
   | (rw [vcnD]; (try simp [push_cast, nilV, parC, ht, hlen, hl0]))
   | refine And.intro (by first | omega | kernel_rfl) ?_
   | fail)
  refine joinW_n () id trivial ⟨?_, ?_, ?_, ?_, ?_, ?_⟩
  all_goals first | (simp [push_cast, hpr, hprn, nilV, parC]; done)
 refine W_seq ?_
 cases hr1 : rowS L at0 [rk.toNat, 294, 303] with
 | none =>
  rw [hr1] at hrow0F hout2
  rw [hout2]
  repeat' (first
   | with_reducible refine W_rg ?_
   | (rw [vcn]; (try simp [push_cast, nilV, hu]))
   | fail)
  refine CallG_methP (id := 1000000) (ks := some (22, 3, [i64V rk.toNat, i64V 294, i64V 303])) (args' := [.bp 1000000 0, .slc false 1 3 [i64V rk.toNat, i64V 294, i64V 303]]) (methMk (hrow0F) ?_) ?_
  · refine ⟨?_, ?_, ?_, ?_, fun _ _ _ h_ => ?_, ?_, ?_, fun _ _ h_ => ?_⟩ <;> (try cases h_) <;> (try simp [natAV, frzK, resDL, resD, entryB_env, entryB_box, refsL_bytes, recAV, push_cast, hpr]) <;> first | rfl | (rw [List.take_of_length_le (by simp)]; done)
  try dsimp only
  intro pl s' hpl
  (repeat' (with_reducible first | apply thenW_panic | apply blockW_panic | apply loopW_panic | apply joinW_panic))
  exact ⟨pl, rfl, hpl⟩
 | some p1 =>
 obtain ⟨f0, a1⟩ := p1
 rw [hr1] at hrow0 hout2
 obtain ⟨ha1, hf0⟩ := rowS_le hr1 (by omega)
 simp only at ha1 hf0 hout2
 have hf0l : f0.length ≤ L.length := by omega
 refine W_joinQ (X := Unit) (fun _ => [(0, .bp 1000000 0), (2, .bp 2 0), (3, .bp 3 0), (4, byteV rk)]) (fun _ => [(1000000, .mut 110 (parC f L a1)), (2, .mut 77 [nilV, nilV]), (3, .mut 77 [.bs 900 3 0 f0.length, nilV]), (900, .mut 24 (recsCells f0))]) (fun _ => True) ?_ fun _ _ => ?_
 ·
  repeat' (first
   | with_reducible refine W_rg ?_
   | (rw [vcn]; (try simp [push_cast, nilV, hu]))
   | fail)
  refine CallG_methO 900 (id := 1000000) (ks := some (22, 3, [i64V rk.toNat, i64V 294, i64V 303])) (args' := [.bp 1000000 0, .slc false 1 3 [i64V rk.toNat, i64V 294, i64V 303]]) ⟨by simp [natAV, frzK, resDL, resD, entryB_env, entryB_box, refsL_bytes, recAV, push_cast, hpr, hre], by simp [natAV, frzK, resDL, resD, entryB_env, entryB_box, refsL_bytes, recAV, push_cast, hpr, hre], by simp [natAV, frzK, resDL, resD, entryB_env, entryB_box, refsL_bytes, recAV, push_cast, hpr, hre], by simp [natAV, frzK, resDL, resD, entryB_env, entryB_box, refsL_bytes, recAV, push_cast, hpr, hre], (by intro k ek lk h; cases h; exact ⟨by decide, by simp [natAV, frzK, resDL, resD, entryB_env, entryB_box, refsL_bytes, recAV, push_cast, hpr, hre], by simp [natAV, frzK, resDL, resD, entryB_env, entryB_box, refsL_bytes, recAV, push_cast, hpr, hre], by simp [natAV, frzK, resDL, resD, entryB_env, entryB_box, refsL_bytes, recAV, push_cast, hpr, hre]⟩), ?_, by simp [natAV, frzK, resDL, resD, entryB_env, entryB_box, refsL_bytes, recAV, push_cast, hpr, hre], hrow0, ⟨by simp [natAV, frzK, resDL, resD, entryB_env, entryB_box, refsL_bytes, recAV, push_cast, hpr, hre], by simp [natAV, frzK, resDL, resD, entryB_env, entryB_box, refsL_bytes, recAV, push_cast, hpr, hre]⟩⟩ (by simp [natAV, frzK, resDL, resD, entryB_env, entryB_box, refsL_bytes, recAV, push_cast, hpr, hre]) ?_
  · first | rfl | (simp [natAV, frzK, resDL, resD, entryB_env, entryB_box, refsL_bytes, recAV, push_cast, hpr, hre]; done) | (simp [natAV, frzK, resDL, resD, entryB_env, entryB_box, refsL_bytes, recAV, push_cast, hpr, hre]; rw [List.take_of_length_le (by simp)]; done) | (simp [natAV, frzK, resDL, resD, entryB_env, entryB_box, refsL_bytes, recAV, push_cast, hpr, hre]; fail_if_success done)
  try dsimp only
  repeat' (first
   | (rw [vcn]; (try simp [push_cast, keyK, nilV]))
   | fail)
  refine joinW_n () id trivial ⟨?_, ?_, ?_, ?_, ?_, ?_⟩
  all_goals first | (simp [push_cast, hpr, hprn, nilV, hre, hrn]; done)
 refine W_seq ?_
 refine W_joinQ (X := Unit) (fun _ => [(0, .bp 1000000 0), (2, .bp 2 0), (3, .bp 3 0), (4, byteV rk), (5, .fn 86 [.bp 3 0])]) (fun _ => [(1000000, .mut 110 (parC f L a1)), (2, .mut 77 [nilV, nilV]), (3, .mut 77 [.bs 900 3 0 f0.length, nilV]), (900, .mut 24 (recsCells f0))]) (fun _ => True) ?_ fun _ _ => ?_
 ·
  repeat' (first
   | with_reducible refine W_rg ?_
   | (rw [vcn]; (try simp [push_cast, nilV]))
   | fail)
  refine joinW_n () id trivial ⟨?_, ?_, ?_, ?_, ?_, ?_⟩
  all_goals first | (simp [push_cast, hpr, hprn, nilV, hre, hrn]; done)
 have bad : ∀ o, catS L (itemParts rk) a1 = o → o = none → out = none := fun o h1 h2 => by rw [hout2, h1, h2]
 refine W_seq ?_
 refine W_joinQ (X := List Rec × Nat) (fun x => [(0, .bp 1000000 0), (2, .bp 2 0), (3, .bp 3 0)]) (fun x => [(1000000, .mut 110 (parC f L x.2)), (2, .mut 77 [nilV, nilV]), (3, .mut 77 [.bs 900 3 0 x.1.length, nilV]), (900, .mut 24 (recsCells x.1))])
  (fun x => x.2 ≤ L.length ∧ x.1.length ≤ L.length ∧ ∃ f1, catS L (itemParts rk) a1 = some (f1, x.2) ∧ x.1 = f0 ++ f1) ?_ fun x hx => ?_
 ·
  simp only [itemKinds, List.mem_cons, List.not_mem_nil, or_false] at hkin
  clear ht hu hrow0 hrow0F hout2 hr0 hLr0
  rcases hkin with h | h | h | h | h | h | h
  ·
   -- kind 8
   subst h
   have hc0 := rowF_ok f false L a1 [13, 14, 16] (by omega) hbody (by omega) (by decide) (by decide)
   cases h0 : rowS L a1 [13, 14, 16] with
   | none =>
    rw [h0] at hc0
    rw [bad _ rfl (by simp [itemParts, catS, partS, h0])]
    repeat' (first
     | with_reducible first | apply thenW_n | apply W_seq | apply W_block
     | with_reducible refine W_rg ?_
     | (rw [vcn]; (try simp [push_cast, nilV]))
     | (with_reducible refine W_condW ?_; (try simp [AS.val, upd, resB, mkS_env, mkS_box, lk, entry_env, condW_true, condW_false, nilV]))
     | fail)
    refine CallG_methP (id := 1000000) (ks := some (31, 3, [i64V 13, i64V 14, i64V 16])) (args' := [.bp 1000000 0, .slc false 1 3 [i64V 13, i64V 14, i64V 16]]) (methMk (hc0) ?_) ?_
    · refine ⟨?_, ?_, ?_, ?_, fun _ _ _ h_ => ?_, ?_, ?_, fun _ _ h_ => ?_⟩ <;> (try cases h_) <;> (try simp [natAV, frzK, resDL, resD, entryB_env, entryB_box, refsL_bytes, recAV, push_cast, hpr, hre]) <;> first | rfl | (rw [List.take_of_length_le (by simp)]; done)
    try dsimp only
    intro pl s' hpl
    (repeat' (with_reducible first | apply thenW_panic | apply blockW_panic | apply loopW_panic | apply joinW_panic))
    exact ⟨pl, rfl, hpl⟩
   | some q0 =>
   obtain ⟨l0, e0⟩ := q0
   obtain ⟨hb0, hd0⟩ := rowS_le h0 (by omega)
   simp only at hb0 hd0
   rw [h0] at hc0
   repeat' (first
    | with_reducible first | apply thenW_n | apply W_seq | apply W_block
    | with_reducible refine W_rg ?_
    | (rw [vcn]; (try simp [push_cast, nilV]))
    | (with_reducible refine W_condW ?_; (try simp [AS.val, upd, resB, mkS_env, mkS_box, lk, entry_env, condW_true, condW_false, nilV]))
    | fail)
   refine CallG_meth (id := 1000000) (ks := some (31, 3, [i64V 13, i64V 14, i64V 16])) (args' := [.bp 1000000 0, .slc false 1 3 [i64V 13, i64V 14, i64V 16]]) (methMk (hc0) ?_) ?_
   · refine ⟨?_, ?_, ?_, ?_, fun _ _ _ h_ => ?_, ?_, ?_, fun _ _ h_ => ?_⟩ <;> (try cases h_) <;> (try simp [natAV, frzK, resDL, resD, entryB_env, entryB_box, refsL_bytes, recAV, push_cast, hpr, hre, rowsAV]) <;> first | rfl | (rw [List.take_of_length_le (by simp)]; done)
   try dsimp only
   repeat' (first
    | (rw [vcn]; (try simp [push_cast, keyK, nilV, rowsAV, recAV]))
    | fail)
   refine CallG_addA 3 900 901 (none) false (f0.length) l0.length (recsCells f0) (recsCells l0) (by decide) (by decide) (by first | omega | (simp; omega)) (by decide) ?_ ?_
   · refine ⟨?_, ?_, fun _ _ _ h_ => ?_, fun i_ hi_ => by simp [refsL, AV.refs] at hi_, ?_, ?_, ?_, ?_, ?_, ?_⟩ <;> (try cases h_) <;> (try simp [natAV, refsL_append, frzK, resDL, resD, recAV, push_cast, hpr, hre, hrl, nilV, rowsAV, recsCells_cat]) <;> omega
   try dsimp only
   repeat' (first
    | with_reducible apply blockW_n
    | (rw [vcn]; (try simp [push_cast, keyK, nilV]))
    | fail)
   have hfin : catS L (itemParts 8) a1 = some (l0, e0) := by simp [itemParts, catS, partS, h0]
   refine joinW_n (f0 ++ l0, e0) (fun i => if i = 900 then 901 else i) ⟨by simp only; omega, by simp; omega, _, hfin, by simp⟩ ⟨?_, ?_, ?_, ?_, ?_, ?_⟩
   all_goals first | (simp [push_cast, hpr, hprn, nilV, hre, hrn, hrl, recsCells_cat, Nat.add_assoc, List.append_assoc]; done) | (simp [push_cast, hpr, hprn, nilV, hre, hrn, hrl, recsCells_cat, Nat.add_assoc, List.append_assoc]; omega)
  ·
   -- kind 9
   subst h
   have hc0 := rowF_ok f false L a1 [13, 14, 289, 271, 304, 305, 16] (by omega) hbody (by omega) (by decide) (by decide)
   cases h0 : rowS L a1 [13, 14, 289, 271, 304, 305, 16] with
   | none =>
    rw [h0] at hc0
    rw [bad _ rfl (by simp [itemParts, catS, partS, h0])]
    repeat' (first
     | with_reducible first | apply thenW_n | apply W_seq | apply W_block
     | with_reducible refine W_rg ?_
     | (rw [vcn]; (try simp [push_cast, nilV]))
     | (with_reducible refine W_condW ?_; (try simp [AS.val, upd, resB, mkS_env, mkS_box, lk, entry_env, condW_true, condW_false, nilV]))
     | fail)
    refine CallG_methP (id := 1000000) (ks := some (38, 3, [i64V 13, i64V 14, i64V 289, i64V 271, i64V 304, i64V 305, i64V 16])) (args' := [.bp 1000000 0, .slc false 1 7 [i64V 13, i64V 14, i64V 289, i64V 271, i64V 304, i64V 305, i64V 16]]) (methMk (hc0) ?_) ?_
    · refine ⟨?_, ?_, ?_, ?_, fun _ _ _ h_ => ?_, ?_, ?_, fun _ _ h_ => ?_⟩ <;> (try cases h_) <;> (try simp [natAV, frzK, resDL, resD, entryB_env, entryB_box, refsL_bytes, recAV, push_cast, hpr, hre]) <;> first | rfl | (rw [List.take_of_length_le (by simp)]; done)
    try dsimp only
    intro pl s' hpl
    (repeat' (with_reducible first | apply thenW_panic | apply blockW_panic | apply loopW_panic | apply joinW_panic))
    exact ⟨pl, rfl, hpl⟩
   | some q0 =>
   obtain ⟨l0, e0⟩ := q0
   obtain ⟨hb0, hd0⟩ := rowS_le h0 (by omega)
   simp only at hb0 hd0
   rw [h0] at hc0
   repeat' (first
    | with_reducible first | apply thenW_n | apply W_seq | apply W_block
    | with_reducible refine W_rg ?_
    | (rw [vcn]; (try simp [push_cast, nilV]))
    | (with_reducible refine W_condW ?_; (try simp [AS.val, upd, resB, mkS_env, mkS_box, lk, entry_env, condW_true, condW_false, nilV]))
    | fail)
   refine CallG_meth (id := 1000000) (ks := some (38, 3, [i64V 13, i64V 14, i64V 289, i64V 271, i64V 304, i64V 305, i64V 16])) (args' := [.bp 1000000 0, .slc false 1 7 [i64V 13, i64V 14, i64V 289, i64V 271, i64V 304, i64V 305, i64V 16]]) (methMk (hc0) ?_) ?_
   · refine ⟨?_, ?_, ?_, ?_, fun _ _ _ h_ => ?_, ?_, ?_, fun _ _ h_ => ?_⟩ <;> (try cases h_) <;> (try simp [natAV, frzK, resDL, resD, entryB_env, entryB_box, refsL_bytes, recAV, push_cast, hpr, hre, rowsAV]) <;> first | rfl | (rw [List.take_of_length_le (by simp)]; done)
   try dsimp only
   repeat' (first
    | (rw [vcn]; (try simp [push_cast, keyK, nilV, rowsAV, recAV]))
    | fail)
   refine CallG_addA 3 900 901 (none) false (f0.length) l0.length (recsCells f0) (recsCells l0) (by decide) (by decide) (by first | omega | (simp; omega)) (by decide) ?_ ?_
   · refine ⟨?_, ?_, fun _ _ _ h_ => ?_, fun i_ hi_ => by simp [refsL, AV.refs] at hi_, ?_, ?_, ?_, ?_, ?_, ?_⟩ <;> (try cases h_) <;> (try simp [natAV, refsL_append, frzK, resDL, resD, recAV, push_cast, hpr, hre, hrl, nilV, rowsAV, recsCells_cat]) <;> omega
   try dsimp only
   repeat' (first
    | with_reducible apply blockW_n
    | (rw [vcn]; (try simp [push_cast, keyK, nilV]))
    | fail)
   have hfin : catS L (itemParts 9) a1 = some (l0, e0) := by simp [itemParts, catS, partS, h0]
   refine joinW_n (f0 ++ l0, e0) (fun i => if i = 900 then 901 else i) ⟨by simp only; omega, by simp; omega, _, hfin, by simp⟩ ⟨?_, ?_, ?_, ?_, ?_, ?_⟩
   all_goals first | (simp [push_cast, hpr, hprn, nilV, hre, hrn, hrl, recsCells_cat, Nat.add_assoc, List.append_assoc]; done) | (simp [push_cast, hpr, hprn, nilV, hre, hrn, hrl, recsCells_cat, Nat.add_assoc, List.append_assoc]; omega)
  ·
   -- kind 10
   subst h
   have hc0 := must_ok f L a1 18 (by omega) hbody (by omega)
   cases h0 : mustS L a1 18 with
   | none =>
    rw [h0] at hc0
    rw [bad _ rfl (by simp [itemParts, catS, partS, h0, rowS_one, show UInt8.ofNat 18 = 18 from rfl, show UInt8.ofNat 16 = 16 from rfl])]
    repeat' (first
     | with_reducible first | apply thenW_n | apply W_seq | apply W_block
     | with_reducible refine W_rg ?_
     | (rw [vcn]; (try simp [push_cast, nilV]))
     | (with_reducible refine W_condW ?_; (try simp [AS.val, upd, resB, mkS_env, mkS_box, lk, entry_env, condW_true, condW_false, nilV]))
     | fail)
    refine CallG_methP (id := 1000000) (ks := none) (args' := [.bp 1000000 0, byteV 18]) (methMk (hc0) ?_) ?_
    · refine ⟨?_, ?_, ?_, ?_, fun _ _ _ h_ => ?_, ?_, ?_, fun _ _ h_ => ?_⟩ <;> (try cases h_) <;> (try simp [natAV, frzK, resDL, resD, entryB_env, entryB_box, refsL_bytes, recAV, push_cast, hpr, hre]) <;> first | rfl | (rw [List.take_of_length_le (by simp)]; done)
    try dsimp only
    intro pl s' hpl
    (repeat' (with_reducible first | apply thenW_panic | apply blockW_panic | apply loopW_panic | apply joinW_panic))
    exact ⟨pl, rfl, hpl⟩
   | some r0 =>
   obtain ⟨k0, d0, b0⟩ := r0
   have hb0 := mustS_lt h0
   rw [h0] at hc0
   repeat' (first
    | with_reducible first | apply thenW_n | apply W_seq | apply W_block
    | with_reducible refine W_rg ?_
    | (rw [vcn]; (try simp [push_cast, nilV]))
    | (with_reducible refine W_condW ?_; (try simp [AS.val, upd, resB, mkS_env, mkS_box, lk, entry_env, condW_true, condW_false, nilV]))
    | fail)
   refine CallG_meth (id := 1000000) (ks := none) (args' := [.bp 1000000 0, byteV 18]) (methMk (hc0) ?_) ?_
   · refine ⟨?_, ?_, ?_, ?_, fun _ _ _ h_ => ?_, ?_, ?_, fun _ _ h_ => ?_⟩ <;> (try cases h_) <;> (try simp [natAV, frzK, resDL, resD, entryB_env, entryB_box, refsL_bytes, recAV, push_cast, hpr, hre, rowsAV]) <;> first | rfl | (rw [List.take_of_length_le (by simp)]; done)
   try dsimp only
   repeat' (first
    | (rw [vcn]; (try simp [push_cast, keyK, nilV, rowsAV, recAV]))
    | fail)
   refine CallG_addA 3 900 901 (some (48, 24, recsCells [(k0, d0, b0)])) false (f0.length) 1 (recsCells f0) (recsCells [(k0, d0, b0)]) (by decide) (by decide) (by first | omega | (simp; omega)) (by decide) ?_ ?_
   · refine ⟨?_, ?_, fun _ _ _ h_ => ?_, fun i_ hi_ => by simp [refsL, AV.refs] at hi_; exact ⟨_, _, _, rfl, hi_⟩, ?_, ?_, ?_, ?_, ?_, ?_⟩ <;> (try cases h_) <;> (try simp [natAV, refsL_append, frzK, resDL, resD, recAV, push_cast, hpr, hre, hrl, nilV, rowsAV, recsCells_cat, recsCells_one]) <;> omega
   try dsimp only
   have hc1 := trans_ok f L (a1 + 1) (by omega) hbody (by omega)
   cases h1 : transS L (a1 + 1) with
   | none =>
    rw [h1] at hc1
    rw [bad _ rfl (by simp [itemParts, catS, partS, h0, h1, rowS_one, show UInt8.ofNat 18 = 18 from rfl, show UInt8.ofNat 16 = 16 from rfl])]
    repeat' (first
     | with_reducible first | apply thenW_n | apply W_seq
     | with_reducible refine W_rg ?_
     | (rw [vcn]; (try simp [push_cast, keyK, nilV]))
     | fail)
    refine CallG_methP (id := 1000000) (ks := none) (args' := [.bp 1000000 0]) (methMk (hc1) ?_) ?_
    · refine ⟨?_, ?_, ?_, ?_, fun _ _ _ h_ => ?_, ?_, ?_, fun _ _ h_ => ?_⟩ <;> (try cases h_) <;> (try simp [natAV, frzK, resDL, resD, entryB_env, entryB_box, refsL_bytes, recAV, push_cast, hpr, hre]) <;> first | rfl | (rw [List.take_of_length_le (by simp)]; done)
    try dsimp only
    intro pl s' hpl
    (repeat' (with_reducible first | apply thenW_panic | apply blockW_panic | apply loopW_panic | apply joinW_panic))
    exact ⟨pl, rfl, hpl⟩
   | some q1 =>
   obtain ⟨l1, e1⟩ := q1
   obtain ⟨hb1, hd1⟩ := transS_le h1 (by omega)
   simp only at hb1 hd1
   rw [h1] at hc1
   repeat' (first
    | with_reducible first | apply thenW_n | apply W_seq
    | with_reducible refine W_rg ?_
    | (rw [vcn]; (try simp [push_cast, keyK, nilV]))
    | fail)
   refine CallG_meth (id := 1000000) (ks := none) (args' := [.bp 1000000 0]) (methMk (hc1) ?_) ?_
   · refine ⟨?_, ?_, ?_, ?_, fun _ _ _ h_ => ?_, ?_, ?_, fun _ _ h_ => ?_⟩ <;> (try cases h_) <;> (try simp [natAV, frzK, resDL, resD, entryB_env, entryB_box, refsL_bytes, recAV, push_cast, hpr, hre, rowsAV]) <;> first | rfl | (rw [List.take_of_length_le (by simp)]; done)
   try dsimp only
   repeat' (first
    | (rw [vcn]; (try simp [push_cast, keyK, nilV, rowsAV, recAV]))
    | fail)
   refine CallG_addA 3 901 902 (none) false (f0.length + 1) l1.length (recsCells f0 ++ recsCells [(k0, d0, b0)]) (recsCells l1) (by decide) (by decide) (by first | omega | (simp; omega)) (by decide) ?_ ?_
   · refine ⟨?_, ?_, fun _ _ _ h_ => ?_, fun i_ hi_ => by simp [refsL, AV.refs] at hi_, ?_, ?_, ?_, ?_, ?_, ?_⟩ <;> (try cases h_) <;> (try simp [natAV, refsL_append, frzK, resDL, resD, recAV, push_cast, hpr, hre, hrl, nilV, rowsAV, recsCells_cat]) <;> omega
   try dsimp only
   have hc2 := must_ok f L e1 16 (by omega) hbody (by omega)
   cases h2 : mustS L e1 16 with
   | none =>
    rw [h2] at hc2
    rw [bad _ rfl (by simp [itemParts, catS, partS, h0, h1, h2, rowS_one, show UInt8.ofNat 18 = 18 from rfl, show UInt8.ofNat 16 = 16 from rfl])]
    repeat' (first
     | with_reducible apply thenW_n
     | with_reducible refine W_rg ?_
     | (rw [vcn]; (try simp [push_cast, keyK, nilV]))
     | fail)
    refine CallG_methP (id := 1000000) (ks := none) (args' := [.bp 1000000 0, byteV 16]) (methMk (hc2) ?_) ?_
    · refine ⟨?_, ?_, ?_, ?_, fun _ _ _ h_ => ?_, ?_, ?_, fun _ _ h_ => ?_⟩ <;> (try cases h_) <;> (try simp [natAV, frzK, resDL, resD, entryB_env, entryB_box, refsL_bytes, recAV, push_cast, hpr, hre]) <;> first | rfl | (rw [List.take_of_length_le (by simp)]; done)
    try dsimp only
    intro pl s' hpl
    (repeat' (with_reducible first | apply thenW_panic | apply blockW_panic | apply loopW_panic | apply joinW_panic))
    exact ⟨pl, rfl, hpl⟩
   | some r2 =>
   obtain ⟨k2, d2, b2⟩ := r2
   have hb2 := mustS_lt h2
   rw [h2] at hc2
   repeat' (first
    | with_reducible apply thenW_n
    | with_reducible refine W_rg ?_
    | (rw [vcn]; (try simp [push_cast, keyK, nilV]))
    | fail)
   refine CallG_meth (id := 1000000) (ks := none) (args' := [.bp 1000000 0, byteV 16]) (methMk (hc2) ?_) ?_
   · refine ⟨?_, ?_, ?_, ?_, fun _ _ _ h_ => ?_, ?_, ?_, fun _ _ h_ => ?_⟩ <;> (try cases h_) <;> (try simp [natAV, frzK, resDL, resD, entryB_env, entryB_box, refsL_bytes, recAV, push_cast, hpr, hre, rowsAV]) <;> first | rfl | (rw [List.take_of_length_le (by simp)]; done)
   try dsimp only
   repeat' (first
    | (rw [vcn]; (try simp [push_cast, keyK, nilV, rowsAV, recAV]))
    | fail)
   refine CallG_addA 3 902 903 (some (59, 24, recsCells [(k2, d2, b2)])) false (f0.length + 1 + l1.length) 1 (recsCells f0 ++ recsCells [(k0, d0, b0)] ++ recsCells l1) (recsCells [(k2, d2, b2)]) (by decide) (by decide) (by first | omega | (simp; omega)) (by decide) ?_ ?_
   · refine ⟨?_, ?_, fun _ _ _ h_ => ?_, fun i_ hi_ => by simp [refsL, AV.refs] at hi_; exact ⟨_, _, _, rfl, hi_⟩, ?_, ?_, ?_, ?_, ?_, ?_⟩ <;> (try cases h_) <;> (try simp [natAV, refsL_append, frzK, resDL, resD, recAV, push_cast, hpr, hre, hrl, nilV, rowsAV, recsCells_cat, recsCells_one]) <;> omega
   try dsimp only
   repeat' (first
    | with_reducible apply blockW_n
    | (rw [vcn]; (try simp [push_cast, keyK, nilV]))
    | fail)
   have hfin : catS L (itemParts 10) a1 = some ([(k0, d0, b0)] ++ l1 ++ [(k2, d2, b2)], (e1 + 1)) := by simp [itemParts, catS, partS, h0, h1, h2, rowS_one, show UInt8.ofNat 18 = 18 from rfl, show UInt8.ofNat 16 = 16 from rfl]
   refine joinW_n (f0 ++ [(k0, d0, b0)] ++ l1 ++ [(k2, d2, b2)], (e1 + 1)) (fun i => if i = 900 then 903 else i) ⟨by simp only; omega, by simp; omega, _, hfin, by simp⟩ ⟨?_, ?_, ?_, ?_, ?_, ?_⟩
   all_goals first | (simp [push_cast, hpr, hprn, nilV, hre, hrn, hrl, recsCells_cat, Nat.add_assoc, List.append_assoc]; done) | (simp [push_cast, hpr, hprn, nilV, hre, hrn, hrl, recsCells_cat, Nat.add_assoc, List.append_assoc]; omega)
  ·
   -- kind 11
   subst h
   have hc0 := must_ok f L a1 18 (by omega) hbody (by omega)
   cases h0 : mustS L a1 18 with
   | none =>
    rw [h0] at hc0
    rw [bad _ rfl (by simp [itemParts, catS, partS, h0, rowS_one, show UInt8.ofNat 18 = 18 from rfl, show UInt8.ofNat 16 = 16 from rfl])]
    repeat' (first
     | with_reducible first | apply thenW_n | apply W_seq | apply W_block
     | with_reducible refine W_rg ?_
     | (rw [vcn]; (try simp [push_cast, nilV]))
     | (with_reducible refine W_condW ?_; (try simp [AS.val, upd, resB, mkS_env, mkS_box, lk, entry_env, condW_true, condW_false, nilV]))
     | fail)
    refine CallG_methP (id := 1000000) (ks := none) (args' := [.bp 1000000 0, byteV 18]) (methMk (hc0) ?_) ?_
    · refine ⟨?_, ?_, ?_, ?_, fun _ _ _ h_ => ?_, ?_, ?_, fun _ _ h_ => ?_⟩ <;> (try cases h_) <;> (try simp [natAV, frzK, resDL, resD, entryB_env, entryB_box, refsL_bytes, recAV, push_cast, hpr, hre]) <;> first | rfl | (rw [List.take_of_length_le (by simp)]; done)
    try dsimp only
    intro pl s' hpl
    (repeat' (with_reducible first | apply thenW_panic | apply blockW_panic | apply loopW_panic | apply joinW_panic))
    exact ⟨pl, rfl, hpl⟩
   | some r0 =>
   obtain ⟨k0, d0, b0⟩ := r0
   have hb0 := mustS_lt h0
   rw [h0] at hc0
   repeat' (first
    | with_reducible first | apply thenW_n | apply W_seq | apply W_block
    | with_reducible refine W_rg ?_
    | (rw [vcn]; (try simp [push_cast, nilV]))
    | (with_reducible refine W_condW ?_; (try simp [AS.val, upd, resB, mkS_env, mkS_box, lk, entry_env, condW_true, condW_false, nilV]))
    | fail)
   refine CallG_meth (id := 1000000) (ks := none) (args' := [.bp 1000000 0, byteV 18]) (methMk (hc0) ?_) ?_
   · refine ⟨?_, ?_, ?_, ?_, fun _ _ _ h_ => ?_, ?_, ?_, fun _ _ h_ => ?_⟩ <;> (try cases h_) <;> (try simp [natAV, frzK, resDL, resD, entryB_env, entryB_box, refsL_bytes, recAV, push_cast, hpr, hre, rowsAV]) <;> first | rfl | (rw [List.take_of_length_le (by simp)]; done)
   try dsimp only
   repeat' (first
    | (rw [vcn]; (try simp [push_cast, keyK, nilV, rowsAV, recAV]))
    | fail)
   refine CallG_addA 3 900 901 (some (68, 24, recsCells [(k0, d0, b0)])) false (f0.length) 1 (recsCells f0) (recsCells [(k0, d0, b0)]) (by decide) (by decide) (by first | omega | (simp; omega)) (by decide) ?_ ?_
   · refine ⟨?_, ?_, fun _ _ _ h_ => ?_, fun i_ hi_ => by simp [refsL, AV.refs] at hi_; exact ⟨_, _, _, rfl, hi_⟩, ?_, ?_, ?_, ?_, ?_, ?_⟩ <;> (try cases h_) <;> (try simp [natAV, refsL_append, frzK, resDL, resD, recAV, push_cast, hpr, hre, hrl, nilV, rowsAV, recsCells_cat, recsCells_one]) <;> omega
   try dsimp only
   have hc1 := trans_ok f L (a1 + 1) (by omega) hbody (by omega)
   cases h1 : transS L (a1 + 1) with
   | none =>
    rw [h1] at hc1
    rw [bad _ rfl (by simp [itemParts, catS, partS, h0, h1, rowS_one, show UInt8.ofNat 18 = 18 from rfl, show UInt8.ofNat 16 = 16 from rfl])]
    repeat' (first
     | with_reducible first | apply thenW_n | apply W_seq
     | with_reducible refine W_rg ?_
     | (rw [vcn]; (try simp [push_cast, keyK, nilV]))
     | fail)
    refine CallG_methP (id := 1000000) (ks := none) (args' := [.bp 1000000 0]) (methMk (hc1) ?_) ?_
    · refine ⟨?_, ?_, ?_, ?_, fun _ _ _ h_ => ?_, ?_, ?_, fun _ _ h_ => ?_⟩ <;> (try cases h_) <;> (try simp [natAV, frzK, resDL, resD, entryB_env, entryB_box, refsL_bytes, recAV, push_cast, hpr, hre]) <;> first | rfl | (rw [List.take_of_length_le (by simp)]; done)
    try dsimp only
    intro pl s' hpl
    (repeat' (with_reducible first | apply thenW_panic | apply blockW_panic | apply loopW_panic | apply joinW_panic))
    exact ⟨pl, rfl, hpl⟩
   | some q1 =>
   obtain ⟨l1, e1⟩ := q1
   obtain ⟨hb1, hd1⟩ := transS_le h1 (by omega)
   simp only at hb1 hd1
   rw [h1] at hc1
   repeat' (first
    | with_reducible first | apply thenW_n | apply W_seq
    | with_reducible refine W_rg ?_
    | (rw [vcn]; (try simp [push_cast, keyK, nilV]))
    | fail)
   refine CallG_meth (id := 1000000) (ks := none) (args' := [.bp 1000000 0]) (methMk (hc1) ?_) ?_
   · refine ⟨?_, ?_, ?_, ?_, fun _ _ _ h_ => ?_, ?_, ?_, fun _ _ h_ => ?_⟩ <;> (try cases h_) <;> (try simp [natAV, frzK, resDL, resD, entryB_env, entryB_box, refsL_bytes, recAV, push_cast, hpr, hre, rowsAV]) <;> first | rfl | (rw [List.take_of_length_le (by simp)]; done)
   try dsimp only
   repeat' (first
    | (rw [vcn]; (try simp [push_cast, keyK, nilV, rowsAV, recAV]))
    | fail)
   refine CallG_addA 3 901 902 (none) false (f0.length + 1) l1.length (recsCells f0 ++ recsCells [(k0, d0, b0)]) (recsCells l1) (by decide) (by decide) (by first | omega | (simp; omega)) (by decide) ?_ ?_
   · refine ⟨?_, ?_, fun _ _ _ h_ => ?_, fun i_ hi_ => by simp [refsL, AV.refs] at hi_, ?_, ?_, ?_, ?_, ?_, ?_⟩ <;> (try cases h_) <;> (try simp [natAV, refsL_append, frzK, resDL, resD, recAV, push_cast, hpr, hre, hrl, nilV, rowsAV, recsCells_cat]) <;> omega
   try dsimp only
   have hc2 := rowF_ok f false L e1 [19, 16] (by omega) hbody (by omega) (by decide) (by decide)
   cases h2 : rowS L e1 [19, 16] with
   | none =>
    rw [h2] at hc2
    rw [bad _ rfl (by simp [itemParts, catS, partS, h0, h1, h2, rowS_one, show UInt8.ofNat 18 = 18 from rfl, show UInt8.ofNat 16 = 16 from rfl])]
    repeat' (first
     | with_reducible apply thenW_n
     | with_reducible refine W_rg ?_
     | (rw [vcn]; (try simp [push_cast, keyK, nilV]))
     | fail)
    refine CallG_methP (id := 1000000) (ks := some (76, 3, [i64V 19, i64V 16])) (args' := [.bp 1000000 0, .slc false 1 2 [i64V 19, i64V 16]]) (methMk (hc2) ?_) ?_
    · refine ⟨?_, ?_, ?_, ?_, fun _ _ _ h_ => ?_, ?_, ?_, fun _ _ h_ => ?_⟩ <;> (try cases h_) <;> (try simp [natAV, frzK, resDL, resD, entryB_env, entryB_box, refsL_bytes, recAV, push_cast, hpr, hre]) <;> first | rfl | (rw [List.take_of_length_le (by simp)]; done)
    try dsimp only
    intro pl s' hpl
    (repeat' (with_reducible first | apply thenW_panic | apply blockW_panic | apply loopW_panic | apply joinW_panic))
    exact ⟨pl, rfl, hpl⟩
   | some q2 =>
   obtain ⟨l2, e2⟩ := q2
   obtain ⟨hb2, hd2⟩ := rowS_le h2 (by omega)
   simp only at hb2 hd2
   rw [h2] at hc2
   repeat' (first
    | with_reducible apply thenW_n
    | with_reducible refine W_rg ?_
    | (rw [vcn]; (try simp [push_cast, keyK, nilV]))
    | fail)
   refine CallG_meth (id := 1000000) (ks := some (76, 3, [i64V 19, i64V 16])) (args' := [.bp 1000000 0, .slc false 1 2 [i64V 19, i64V 16]]) (methMk (hc2) ?_) ?_
   · refine ⟨?_, ?_, ?_, ?_, fun _ _ _ h_ => ?_, ?_, ?_, fun _ _ h_ => ?_⟩ <;> (try cases h_) <;> (try simp [natAV, frzK, resDL, resD, entryB_env, entryB_box, refsL_bytes, recAV, push_cast, hpr, hre, rowsAV]) <;> first | rfl | (rw [List.take_of_length_le (by simp)]; done)
   try dsimp only
   repeat' (first
    | (rw [vcn]; (try simp [push_cast, keyK, nilV, rowsAV, recAV]))
    | fail)
   refine CallG_addA 3 902 903 (none) false (f0.length + 1 + l1.length) l2.length (recsCells f0 ++ recsCells [(k0, d0, b0)] ++ recsCells l1) (recsCells l2) (by decide) (by decide) (by first | omega | (simp; omega)) (by decide) ?_ ?_
   · refine ⟨?_, ?_, fun _ _ _ h_ => ?_, fun i_ hi_ => by simp [refsL, AV.refs] at hi_, ?_, ?_, ?_, ?_, ?_, ?_⟩ <;> (try cases h_) <;> (try simp [natAV, refsL_append, frzK, resDL, resD, recAV, push_cast, hpr, hre, hrl, nilV, rowsAV, recsCells_cat]) <;> omega
   try dsimp only
   repeat' (first
    | with_reducible apply blockW_n
    | (rw [vcn]; (try simp [push_cast, keyK, nilV]))
    | fail)
   have hfin : catS L (itemParts 11) a1 = some ([(k0, d0, b0)] ++ l1 ++ l2, e2) := by simp [itemParts, catS, partS, h0, h1, h2, rowS_one, show UInt8.ofNat 18 = 18 from rfl, show UInt8.ofNat 16 = 16 from rfl]
   refine joinW_n (f0 ++ [(k0, d0, b0)] ++ l1 ++ l2, e2) (fun i => if i = 900 then 903 else i) ⟨by simp only; omega, by simp; omega, _, hfin, by simp⟩ ⟨?_, ?_, ?_, ?_, ?_, ?_⟩
   all_goals first | (simp [push_cast, hpr, hprn, nilV, hre, hrn, hrl, recsCells_cat, Nat.add_assoc, List.append_assoc]; done) | (simp [push_cast, hpr, hprn, nilV, hre, hrn, hrl, recsCells_cat, Nat.add_assoc, List.append_assoc]; omega)
  ·
   -- kind 12
   subst h
   have hc0 := rowF_ok f false L a1 [13, 22, 279, 289, 271] (by omega) hbody (by omega) (by decide) (by decide)
   cases h0 : rowS L a1 [13, 22, 279, 289, 271] with
   | none =>
    rw [h0] at hc0
    rw [bad _ rfl (by simp [itemParts, catS, partS, h0])]
    repeat' (first
     | with_reducible first | apply thenW_n | apply W_seq | apply W_block
     | with_reducible refine W_rg ?_
     | (rw [vcn]; (try simp [push_cast, nilV]))
     | (with_reducible refine W_condW ?_; (try simp [AS.val, upd, resB, mkS_env, mkS_box, lk, entry_env, condW_true, condW_false, nilV]))
     | fail)
    refine CallG_methP (id := 1000000) (ks := some (83, 3, [i64V 13, i64V 22, i64V 279, i64V 289, i64V 271])) (args' := [.bp 1000000 0, .slc false 1 5 [i64V 13, i64V 22, i64V 279, i64V 289, i64V 271]]) (methMk (hc0) ?_) ?_
    · refine ⟨?_, ?_, ?_, ?_, fun _ _ _ h_ => ?_, ?_, ?_, fun _ _ h_ => ?_⟩ <;> (try cases h_) <;> (try simp [natAV, frzK, resDL, resD, entryB_env, entryB_box, refsL_bytes, recAV, push_cast, hpr, hre]) <;> first | rfl | (rw [List.take_of_length_le (by simp)]; done)
    try dsimp only
    intro pl s' hpl
    (repeat' (with_reducible first | apply thenW_panic | apply blockW_panic | apply loopW_panic | apply joinW_panic))
    exact ⟨pl, rfl, hpl⟩
   | some q0 =>
   obtain ⟨l0, e0⟩ := q0
   obtain ⟨hb0, hd0⟩ := rowS_le h0 (by omega)
   simp only at hb0 hd0
   rw [h0] at hc0
   repeat' (first
    | with_reducible first | apply thenW_n | apply W_seq | apply W_block
    | with_reducible refine W_rg ?_
    | (rw [vcn]; (try simp [push_cast, nilV]))
    | (with_reducible refine W_condW ?_; (try simp [AS.val, upd, resB, mkS_env, mkS_box, lk, entry_env, condW_true, condW_false, nilV]))
    | fail)
   refine CallG_meth (id := 1000000) (ks := some (83, 3, [i64V 13, i64V 22, i64V 279, i64V 289, i64V 271])) (args' := [.bp 1000000 0, .slc false 1 5 [i64V 13, i64V 22, i64V 279, i64V 289, i64V 271]]) (methMk (hc0) ?_) ?_
   · refine ⟨?_, ?_, ?_, ?_, fun _ _ _ h_ => ?_, ?_, ?_, fun _ _ h_ => ?_⟩ <;> (try cases h_) <;> (try simp [natAV, frzK, resDL, resD, entryB_env, entryB_box, refsL_bytes, recAV, push_cast, hpr, hre, rowsAV]) <;> first | rfl | (rw [List.take_of_length_le (by simp)]; done)
   try dsimp only
   repeat' (first
    | (rw [vcn]; (try simp [push_cast, keyK, nilV, rowsAV, recAV]))
    | fail)
   refine CallG_addA 3 900 901 (none) false (f0.length) l0.length (recsCells f0) (recsCells l0) (by decide) (by decide) (by first | omega | (simp; omega)) (by decide) ?_ ?_
   · refine ⟨?_, ?_, fun _ _ _ h_ => ?_, fun i_ hi_ => by simp [refsL, AV.refs] at hi_, ?_, ?_, ?_, ?_, ?_, ?_⟩ <;> (try cases h_) <;> (try simp [natAV, refsL_append, frzK, resDL, resD, recAV, push_cast, hpr, hre, hrl, nilV, rowsAV, recsCells_cat]) <;> omega
   try dsimp only
   have hc1 := trans_ok f L e0 (by omega) hbody (by omega)
   cases h1 : transS L e0 with
   | none =>
    rw [h1] at hc1
    rw [bad _ rfl (by simp [itemParts, catS, partS, h0, h1])]
    repeat' (first
     | with_reducible first | apply thenW_n | apply W_seq
     | with_reducible refine W_rg ?_
     | (rw [vcn]; (try simp [push_cast, keyK, nilV]))
     | fail)
    refine CallG_methP (id := 1000000) (ks := none) (args' := [.bp 1000000 0]) (methMk (hc1) ?_) ?_
    · refine ⟨?_, ?_, ?_, ?_, fun _ _ _ h_ => ?_, ?_, ?_, fun _ _ h_ => ?_⟩ <;> (try cases h_) <;> (try simp [natAV, frzK, resDL, resD, entryB_env, entryB_box, refsL_bytes, recAV, push_cast, hpr, hre]) <;> first | rfl | (rw [List.take_of_length_le (by simp)]; done)
    try dsimp only
    intro pl s' hpl
    (repeat' (with_reducible first | apply thenW_panic | apply blockW_panic | apply loopW_panic | apply joinW_panic))
    exact ⟨pl, rfl, hpl⟩
   | some q1 =>
   obtain ⟨l1, e1⟩ := q1
   obtain ⟨hb1, hd1⟩ := transS_le h1 (by omega)
   simp only at hb1 hd1
   rw [h1] at hc1
   repeat' (first
    | with_reducible first | apply thenW_n | apply W_seq
    | with_reducible refine W_rg ?_
    | (rw [vcn]; (try simp [push_cast, keyK, nilV]))
    | fail)
   refine CallG_meth (id := 1000000) (ks := none) (args' := [.bp 1000000 0]) (methMk (hc1) ?_) ?_
   · refine ⟨?_, ?_, ?_, ?_, fun _ _ _ h_ => ?_, ?_, ?_, fun _ _ h_ => ?_⟩ <;> (try cases h_) <;> (try simp [natAV, frzK, resDL, resD, entryB_env, entryB_box, refsL_bytes, recAV, push_cast, hpr, hre, rowsAV]) <;> first | rfl | (rw [List.take_of_length_le (by simp)]; done)
   try dsimp only
   repeat' (first
    | (rw [vcn]; (try simp [push_cast, keyK, nilV, rowsAV, recAV]))
    | fail)
   refine CallG_addA 3 901 902 (none) false (f0.length + l0.length) l1.length (recsCells f0 ++ recsCells l0) (recsCells l1) (by decide) (by decide) (by first | omega | (simp; omega)) (by decide) ?_ ?_
   · refine ⟨?_, ?_, fun _ _ _ h_ => ?_, fun i_ hi_ => by simp [refsL, AV.refs] at hi_, ?_, ?_, ?_, ?_, ?_, ?_⟩ <;> (try cases h_) <;> (try simp [natAV, refsL_append, frzK, resDL, resD, recAV, push_cast, hpr, hre, hrl, nilV, rowsAV, recsCells_cat]) <;> omega
   try dsimp only
   have hc2 := rowF_ok f false L e1 [16, 25] (by omega) hbody (by omega) (by decide) (by decide)
   cases h2 : rowS L e1 [16, 25] with
   | none =>
    rw [h2] at hc2
    rw [bad _ rfl (by simp [itemParts, catS, partS, h0, h1, h2])]
    repeat' (first
     | with_reducible apply thenW_n
     | with_reducible refine W_rg ?_
     | (rw [vcn]; (try simp [push_cast, keyK, nilV]))
     | fail)
    refine CallG_methP (id := 1000000) (ks := some (92, 3, [i64V 16, i64V 25])) (args' := [.bp 1000000 0, .slc false 1 2 [i64V 16, i64V 25]]) (methMk (hc2) ?_) ?_
    · refine ⟨?_, ?_, ?_, ?_, fun _ _ _ h_ => ?_, ?_, ?_, fun _ _ h_ => ?_⟩ <;> (try cases h_) <;> (try simp [natAV, frzK, resDL, resD, entryB_env, entryB_box, refsL_bytes, recAV, push_cast, hpr, hre]) <;> first | rfl | (rw [List.take_of_length_le (by simp)]; done)
    try dsimp only
    intro pl s' hpl
    (repeat' (with_reducible first | apply thenW_panic | apply blockW_panic | apply loopW_panic | apply joinW_panic))
    exact ⟨pl, rfl, hpl⟩
   | some q2 =>
   obtain ⟨l2, e2⟩ := q2
   obtain ⟨hb2, hd2⟩ := rowS_le h2 (by omega)
   simp only at hb2 hd2
   rw [h2] at hc2
   repeat' (first
    | with_reducible apply thenW_n
    | with_reducible refine W_rg ?_
    | (rw [vcn]; (try simp [push_cast, keyK, nilV]))
    | fail)
   refine CallG_meth (id := 1000000) (ks := some (92, 3, [i64V 16, i64V 25])) (args' := [.bp 1000000 0, .slc false 1 2 [i64V 16, i64V 25]]) (methMk (hc2) ?_) ?_
   · refine ⟨?_, ?_, ?_, ?_, fun _ _ _ h_ => ?_, ?_, ?_, fun _ _ h_ => ?_⟩ <;> (try cases h_) <;> (try simp [natAV, frzK, resDL, resD, entryB_env, entryB_box, refsL_bytes, recAV, push_cast, hpr, hre, rowsAV]) <;> first | rfl | (rw [List.take_of_length_le (by simp)]; done)
   try dsimp only
   repeat' (first
    | (rw [vcn]; (try simp [push_cast, keyK, nilV, rowsAV, recAV]))
    | fail)
   refine CallG_addA 3 902 903 (none) false (f0.length + l0.length + l1.length) l2.length (recsCells f0 ++ recsCells l0 ++ recsCells l1) (recsCells l2) (by decide) (by decide) (by first | omega | (simp; omega)) (by decide) ?_ ?_
   · refine ⟨?_, ?_, fun _ _ _ h_ => ?_, fun i_ hi_ => by simp [refsL, AV.refs] at hi_, ?_, ?_, ?_, ?_, ?_, ?_⟩ <;> (try cases h_) <;> (try simp [natAV, refsL_append, frzK, resDL, resD, recAV, push_cast, hpr, hre, hrl, nilV, rowsAV, recsCells_cat]) <;> omega
   try dsimp only
   repeat' (first
    | with_reducible apply blockW_n
    | (rw [vcn]; (try simp [push_cast, keyK, nilV]))
    | fail)
   have hfin : catS L (itemParts 12) a1 = some (l0 ++ l1 ++ l2, e2) := by simp [itemParts, catS, partS, h0, h1, h2]
   refine joinW_n (f0 ++ l0 ++ l1 ++ l2, e2) (fun i => if i = 900 then 903 else i) ⟨by simp only; omega, by simp; omega, _, hfin, by simp⟩ ⟨?_, ?_, ?_, ?_, ?_, ?_⟩
   all_goals first | (simp [push_cast, hpr, hprn, nilV, hre, hrn, hrl, recsCells_cat, Nat.add_assoc, List.append_assoc]; done) | (simp [push_cast, hpr, hprn, nilV, hre, hrn, hrl, recsCells_cat, Nat.add_assoc, List.append_assoc]; omega)
  ·
   -- kind 21
   subst h
   have hc0 := rowF_ok f false L a1 [13, 42, 16] (by omega) hbody (by omega) (by decide) (by decide)
   cases h0 : rowS L a1 [13, 42, 16] with
   | none =>
    rw [h0] at hc0
    rw [bad _ rfl (by simp [itemParts, catS, partS, h0])]
    repeat' (first
     | with_reducible first | apply thenW_n | apply W_seq | apply W_block
     | with_reducible refine W_rg ?_
     | (rw [vcn]; (try simp [push_cast, nilV]))
     | (with_reducible refine W_condW ?_; (try simp [AS.val, upd, resB, mkS_env, mkS_box, lk, entry_env, condW_true, condW_false, nilV]))
     | fail)
    refine CallG_methP (id := 1000000) (ks := some (99, 3, [i64V 13, i64V 42, i64V 16])) (args' := [.bp 1000000 0, .slc false 1 3 [i64V 13, i64V 42, i64V 16]]) (methMk (hc0) ?_) ?_
    · refine ⟨?_, ?_, ?_, ?_, fun _ _ _ h_ => ?_, ?_, ?_, fun _ _ h_ => ?_⟩ <;> (try cases h_) <;> (try simp [natAV, frzK, resDL, resD, entryB_env, entryB_box, refsL_bytes, recAV, push_cast, hpr, hre]) <;> first | rfl | (rw [List.take_of_length_le (by simp)]; done)
    try dsimp only
    intro pl s' hpl
    (repeat' (with_reducible first | apply thenW_panic | apply blockW_panic | apply loopW_panic | apply joinW_panic))
    exact ⟨pl, rfl, hpl⟩
   | some q0 =>
   obtain ⟨l0, e0⟩ := q0
   obtain ⟨hb0, hd0⟩ := rowS_le h0 (by omega)
   simp only at hb0 hd0
   rw [h0] at hc0
   repeat' (first
    | with_reducible first | apply thenW_n | apply W_seq | apply W_block
    | with_reducible refine W_rg ?_
    | (rw [vcn]; (try simp [push_cast, nilV]))
    | (with_reducible refine W_condW ?_; (try simp [AS.val, upd, resB, mkS_env, mkS_box, lk, entry_env, condW_true, condW_false, nilV]))
    | fail)
   refine CallG_meth (id := 1000000) (ks := some (99, 3, [i64V 13, i64V 42, i64V 16])) (args' := [.bp 1000000 0, .slc false 1 3 [i64V 13, i64V 42, i64V 16]]) (methMk (hc0) ?_) ?_
   · refine ⟨?_, ?_, ?_, ?_, fun _ _ _ h_ => ?_, ?_, ?_, fun _ _ h_ => ?_⟩ <;> (try cases h_) <;> (try simp [natAV, frzK, resDL, resD, entryB_env, entryB_box, refsL_bytes, recAV, push_cast, hpr, hre, rowsAV]) <;> first | rfl | (rw [List.take_of_length_le (by simp)]; done)
   try dsimp only
   repeat' (first
    | (rw [vcn]; (try simp [push_cast, keyK, nilV, rowsAV, recAV]))
    | fail)
   refine CallG_addA 3 900 901 (none) false (f0.length) l0.length (recsCells f0) (recsCells l0) (by decide) (by decide) (by first | omega | (simp; omega)) (by decide) ?_ ?_
   · refine ⟨?_, ?_, fun _ _ _ h_ => ?_, fun i_ hi_ => by simp [refsL, AV.refs] at hi_, ?_, ?_, ?_, ?_, ?_, ?_⟩ <;> (try cases h_) <;> (try simp [natAV, refsL_append, frzK, resDL, resD, recAV, push_cast, hpr, hre, hrl, nilV, rowsAV, recsCells_cat]) <;> omega
   try dsimp only
   repeat' (first
    | with_reducible apply blockW_n
    | (rw [vcn]; (try simp [push_cast, keyK, nilV]))
    | fail)
   have hfin : catS L (itemParts 21) a1 = some (l0, e0) := by simp [itemParts, catS, partS, h0]
   refine joinW_n (f0 ++ l0, e0) (fun i => if i = 900 then 901 else i) ⟨by simp only; omega, by simp; omega, _, hfin, by simp⟩ ⟨?_, ?_, ?_, ?_, ?_, ?_⟩
   all_goals first | (simp [push_cast, hpr, hprn, nilV, hre, hrn, hrl, recsCells_cat, Nat.add_assoc, List.append_assoc]; done) | (simp [push_cast, hpr, hprn, nilV, hre, hrn, hrl, recsCells_cat, Nat.add_assoc, List.append_assoc]; omega)
  ·
   -- kind 45
   subst h
   have hc0 := rowF_ok f false L a1 [13, 46, 16] (by omega) hbody (by omega) (by decide) (by decide)
   cases h0 : rowS L a1 [13, 46, 16] with
   | none =>
    rw [h0] at hc0
    rw [bad _ rfl (by simp [itemParts, catS, partS, h0])]
    repeat' (first
     | with_reducible first | apply thenW_n | apply W_seq | apply W_block
     | with_reducible refine W_rg ?_
     | (rw [vcn]; (try simp [push_cast, nilV]))
     | (with_reducible refine W_condW ?_; (try simp [AS.val, upd, resB, mkS_env, mkS_box, lk, entry_env, condW_true, condW_false, nilV]))
     | fail)
    refine CallG_methP (id := 1000000) (ks := some (106, 3, [i64V 13, i64V 46, i64V 16])) (args' := [.bp 1000000 0, .slc false 1 3 [i64V 13, i64V 46, i64V 16]]) (methMk (hc0) ?_) ?_
    · refine ⟨?_, ?_, ?_, ?_, fun _ _ _ h_ => ?_, ?_, ?_, fun _ _ h_ => ?_⟩ <;> (try cases h_) <;> (try simp [natAV, frzK, resDL, resD, entryB_env, entryB_box, refsL_bytes, recAV, push_cast, hpr, hre]) <;> first | rfl | (rw [List.take_of_length_le (by simp)]; done)
    try dsimp only
    intro pl s' hpl
    (repeat' (with_reducible first | apply thenW_panic | apply blockW_panic | apply loopW_panic | apply joinW_panic))
    exact ⟨pl, rfl, hpl⟩
   | some q0 =>
   obtain ⟨l0, e0⟩ := q0
   obtain ⟨hb0, hd0⟩ := rowS_le h0 (by omega)
   simp only at hb0 hd0
   rw [h0] at hc0
   repeat' (first
    | with_reducible first | apply thenW_n | apply W_seq | apply W_block
    | with_reducible refine W_rg ?_
    | (rw [vcn]; (try simp [push_cast, nilV]))
    | (with_reducible refine W_condW ?_; (try simp [AS.val, upd, resB, mkS_env, mkS_box, lk, entry_env, condW_true, condW_false, nilV]))
    | fail)
   refine CallG_meth (id := 1000000) (ks := some (106, 3, [i64V 13, i64V 46, i64V 16])) (args' := [.bp 1000000 0, .slc false 1 3 [i64V 13, i64V 46, i64V 16]]) (methMk (hc0) ?_) ?_
   · refine ⟨?_, ?_, ?_, ?_, fun _ _ _ h_ => ?_, ?_, ?_, fun _ _ h_ => ?_⟩ <;> (try cases h_) <;> (try simp [natAV, frzK, resDL, resD, entryB_env, entryB_box, refsL_bytes, recAV, push_cast, hpr, hre, rowsAV]) <;> first | rfl | (rw [List.take_of_length_le (by simp)]; done)
   try dsimp only
   repeat' (first
    | (rw [vcn]; (try simp [push_cast, keyK, nilV, rowsAV, recAV]))
    | fail)
   refine CallG_addA 3 900 901 (none) false (f0.length) l0.length (recsCells f0) (recsCells l0) (by decide) (by decide) (by first | omega | (simp; omega)) (by decide) ?_ ?_
   · refine ⟨?_, ?_, fun _ _ _ h_ => ?_, fun i_ hi_ => by simp [refsL, AV.refs] at hi_, ?_, ?_, ?_, ?_, ?_, ?_⟩ <;> (try cases h_) <;> (try simp [natAV, refsL_append, frzK, resDL, resD, recAV, push_cast, hpr, hre, hrl, nilV, rowsAV, recsCells_cat]) <;> omega
   try dsimp only
   repeat' (first
    | with_reducible apply blockW_n
    | (rw [vcn]; (try simp [push_cast, keyK, nilV]))
    | fail)
   have hfin : catS L (itemParts 45) a1 = some (l0, e0) := by simp [itemParts, catS, partS, h0]
   refine joinW_n (f0 ++ l0, e0) (fun i => if i = 900 then 901 else i) ⟨by simp only; omega, by simp; omega, _, hfin, by simp⟩ ⟨?_, ?_, ?_, ?_, ?_, ?_⟩
   all_goals first | (simp [push_cast, hpr, hprn, nilV, hre, hrn, hrl, recsCells_cat, Nat.add_assoc, List.append_assoc]; done) | (simp [push_cast, hpr, hprn, nilV, hre, hrn, hrl, recsCells_cat, Nat.add_assoc, List.append_assoc]; omega)
 obtain ⟨fl, a2⟩ := x
 obtain ⟨ha2, hfl, f1, hcat, hfe⟩ := hx
 simp only at ha2 hfl hcat hfe
 have hout3 : out = endS L fl a2 := by rw [hout2, hcat, hfe]
 clear hout2 hrow0 hrow0F bad hcat hfe
 refine W_nilCell 3 1 800 24 3 (e := 77) (l := [.bs 900 3 0 fl.length, nilV]) (by simp [mkS_box, lk]) rfl (by simp [mkS_used]) ?_
 have hre : ∀ l, refsL (recsCells l) = [] := recsCells_refs
 have hrn : ∀ ρ l, renL ρ (recsCells l) = recsCells l := fun ρ l => renL_id ρ _ (recsCells_refs l)
 have hrl : ∀ l, (recsCells l).length = l.length * 3 := recsCells_len
 refine W_seq ?_
 refine W_joinQ (X := List Rec × Nat) (fun x => [(0, .bp 1000000 0), (2, .bp 2 0), (3, .bp 3 0)]) (fun x => [(1000000, .mut 110 (parC f L x.2)), (2, .mut 77 [nilV, nilV]), (3, .mut 77 [.bs 900 3 0 fl.length, .bs 800 3 0 x.1.length]), (900, .mut 24 (recsCells fl)), (800, .mut 24 (recsCells x.1))])
  (fun x => x.2 ≤ L.length ∧ propsS L a2 = some x ∧ x.1.length ≤ L.length) ?_ fun x hx => ?_
 ·
  refine W_block ?_
  refine W_loopW (X := List Rec × Nat) (fun x => [(0, .bp 1000000 0), (2, .bp 2 0), (3, .bp 3 0)]) (fun x => [(1000000, .mut 110 (parC f L x.2)), (2, .mut 77 [nilV, nilV]), (3, .mut 77 [.bs 900 3 0 fl.length, .bs 800 3 0 x.1.length]), (900, .mut 24 (recsCells fl)), (800, .mut 24 (recsCells x.1))])
   (fun x => L.length - x.2) (fun x => x.2 ≤ L.length ∧ x.1.length ≤ x.2 ∧ propsS L a2 = (propsS L x.2).map fun p => (x.1 ++ p.1, p.2)) ([], a2) id ⟨ha2, Nat.zero_le _, by cases propsS L a2 <;> rfl⟩ ⟨?_, ?_, ?_, ?_, ?_, ?_⟩ fun x hx => ?_
  all_goals first | (with_reducible refine W_id ?_) | (simp [push_cast, hpr, hprn, nilV, hre, hrn, recsCells_nil]; done)
  obtain ⟨ps, a⟩ := x
  obtain ⟨ha, hpl, hps⟩ := hx
  simp only at ha hpl hps
  have hs := sees_ok f false L a [0x2b] noPan (by omega) ha
  rw [propsS_eq L a] at hps
  by_cases hsb : seesS L a [0x2b] = true
  ·
   rw [if_pos hsb] at hps
   rw [hsb] at hs
   have hlt := seesS_lt hsb
   have hrow := rowF_ok f false L a [43, 44] (by omega) hbody ha (by decide) (by decide)
   cases hr : rowS L a [43, 44] with
   | none =>
    rw [hr] at hps hrow
    have hps : propsS L a2 = none := hps
    have ho : out = none := by rw [hout3, endS, hps]
    rw [ho]
    repeat' (first
     | with_reducible apply W_seq
     | with_reducible refine W_rg ?_
     | (rw [vcn]; (try simp [push_cast, nilV]))
     | fail)
    refine CallG_meth (id := 1000000) (ks := some (112, 5, [byteV 0x2b])) (args' := [.bp 1000000 0, .slc false 1 1 [byteV 0x2b]]) (methMk (hs) ?_) ?_
    · refine ⟨?_, ?_, ?_, ?_, fun _ _ _ h_ => ?_, ?_, ?_, fun _ _ h_ => ?_⟩ <;> (try cases h_) <;> (try simp [natAV, frzK, resDL, resD, entryB_env, entryB_box, refsL_bytes, recAV, push_cast, hpr, hre]) <;> first | rfl | (rw [List.take_of_length_le (by simp)]; done)
    try dsimp only
    repeat' (first
     | with_reducible first | apply thenW_n | apply W_block | apply W_skip
     | (rw [vcn]; (try simp [push_cast, keyK, nilV]))
     | (refine W_drawnP isWrong mixed (by decide) (by kernel_rfl) (by intro pl s hpl; first | exact False.elim hpl | (repeat' (with_reducible first | apply thenW_panic | apply blockW_panic | apply loopW_panic | apply joinW_panic)); exact ⟨pl, rfl, hpl⟩) ?_)
     | (rw [vcnDP]; (try simp [push_cast, keyK, nilV]))
     | (with_reducible refine W_condW ?_; (try simp [AS.val, upd, resB, mkS_env, mkS_box, lk, entry_env, condW_true, condW_false, keyK, nilV]))
     | fail)
    refine callDP_dies (rowsAV []) (id := 1000000) (ks := some (117, 3, [i64V 43, i64V 44])) (args' := [.bp 1000000 0, .slc false 1 2 [i64V 43, i64V 44]]) (methMk (hrow) ?_) ?_
    · refine ⟨?_, ?_, ?_, ?_, fun _ _ _ h_ => ?_, ?_, ?_, fun _ _ h_ => ?_⟩ <;> (try cases h_) <;> (try simp [natAV, frzK, resDL, resD, entryB_env, entryB_box, refsL_bytes, recAV, push_cast, hpr, hre]) <;> first | rfl | (rw [List.take_of_length_le (by simp)]; done)
    try dsimp only
    repeat' (first
     | (rw [vcnDP]; (try simp [push_cast, keyK, nilV, rowsAV, recsCells_nil, hrl]))
     | refine And.intro (by first | omega | kernel_rfl) ?_
     | fail)
    kernel_rfl
   | some p =>
    obtain ⟨r, a'⟩ := p
    obtain ⟨h1, h2⟩ := rowS_le hr ha
    simp only at h1 h2
    have hr1 : 1 ≤ r.length := by
     rw [rowS_cons, if_pos (.inl (by decide))] at hr
     cases hm : mustS L a (UInt8.ofNat 43) with
     | none => rw [hm] at hr; cases hr
     | some q =>
      rw [hm, rowM] at hr
      cases hq : rowS L (a + 1) [44] with
      | none => rw [hq] at hr; cases hr
      | some t => rw [hq] at hr; cases hr; simp
    rw [hr] at hps hrow
    have hps : propsS L a2 = (propsS L a').map fun p => ((ps ++ r) ++ p.1, p.2) := by
     rw [hps]
     simp only
     cases propsS L a' with
     | none => rfl
     | some q => simp
    repeat' (first
     | with_reducible apply W_seq
     | with_reducible refine W_rg ?_
     | (rw [vcn]; (try simp [push_cast, nilV]))
     | fail)
    refine CallG_meth (id := 1000000) (ks := some (112, 5, [byteV 0x2b])) (args' := [.bp 1000000 0, .slc false 1 1 [byteV 0x2b]]) (methMk (hs) ?_) ?_
    · refine ⟨?_, ?_, ?_, ?_, fun _ _ _ h_ => ?_, ?_, ?_, fun _ _ h_ => ?_⟩ <;> (try cases h_) <;> (try simp [natAV, frzK, resDL, resD, entryB_env, entryB_box, refsL_bytes, recAV, push_cast, hpr, hre]) <;> first | rfl | (rw [List.take_of_length_le (by simp)]; done)
    try dsimp only
    repeat' (first
     | with_reducible first | apply thenW_n | apply W_block | apply W_skip
     | (rw [vcn]; (try simp [push_cast, keyK, nilV]))
     | (refine W_drawnP noPan mixed (by decide) (by kernel_rfl) (by intro pl s hpl; first | exact False.elim hpl | (repeat' (with_reducible first | apply thenW_panic | apply blockW_panic | apply loopW_panic | apply joinW_panic)); exact ⟨pl, rfl, hpl⟩) ?_)
     | (rw [vcnDP]; (try simp [push_cast, keyK, nilV]))
     | (with_reducible refine W_condW ?_; (try simp [AS.val, upd, resB, mkS_env, mkS_box, lk, entry_env, condW_true, condW_false, keyK, nilV]))
     | fail)
    refine callDP_meth (id := 1000000) (ks := some (117, 3, [i64V 43, i64V 44])) (args' := [.bp 1000000 0, .slc false 1 2 [i64V 43, i64V 44]]) (methMk (Meth.any hrow) ?_) ?_
    · refine ⟨?_, ?_, ?_, ?_, fun _ _ _ h_ => ?_, ?_, ?_, fun _ _ h_ => ?_⟩ <;> (try cases h_) <;> (try simp [natAV, frzK, resDL, resD, entryB_env, entryB_box, refsL_bytes, recAV, push_cast, hpr, hre, rowsAV]) <;> first | rfl | (rw [List.take_of_length_le (by simp)]; done)
    try dsimp only
    repeat' (first
     | with_reducible apply blockW_n
     | (rw [vcnDP]; (try simp [push_cast, keyK, nilV, rowsAV, hrl]))
     | refine And.intro (by first | omega | kernel_rfl) ?_
     | fail)
    refine loopW_n (ps ++ r, a') (fun i => if i = 800 then 119 else i) (by simp only; omega) ⟨h1, by simp; omega, hps⟩ ⟨?_, ?_, ?_, ?_, ?_, ?_⟩
    all_goals first | (simp [push_cast, hpr, hprn, nilV, hre, hrn, hrl, recsCells_cat]; done) | (simp [push_cast, hpr, hprn, nilV, hre, hrn, hrl, recsCells_cat]; omega)
  have hsb0 : seesS L a [0x2b] = false := by simpa using hsb
  rw [if_neg hsb] at hps
  rw [hsb0] at hs
  have hps : propsS L a2 = some (ps, a) := by rw [hps]; simp
  repeat' (first
   | with_reducible apply W_seq
   | with_reducible refine W_rg ?_
   | (rw [vcn]; (try simp [push_cast, nilV]))
   | fail)
  refine CallG_meth (id := 1000000) (ks := some (112, 5, [byteV 0x2b])) (args' := [.bp 1000000 0, .slc false 1 1 [byteV 0x2b]]) (methMk (hs) ?_) ?_
  · refine ⟨?_, ?_, ?_, ?_, fun _ _ _ h_ => ?_, ?_, ?_, fun _ _ h_ => ?_⟩ <;> (try cases h_) <;> (try simp [natAV, frzK, resDL, resD, entryB_env, entryB_box, refsL_bytes, recAV, push_cast, hpr, hre]) <;> first | rfl | (rw [List.take_of_length_le (by simp)]; done)
  try dsimp only
  repeat' (first
   | with_reducible first | apply thenW_n | apply thenW_exit | apply blockW_same | apply loopW_exit | apply W_exit
   | (rw [vcn]; (try simp [push_cast, keyK, nilV]))
   | (with_reducible refine W_condW ?_; (try simp [AS.val, upd, resB, mkS_env, mkS_box, lk, entry_env, condW_true, condW_false, keyK, nilV]))
   | fail)
  refine joinW_n (ps, a) id ⟨ha, hps, by simp only; omega⟩ ⟨?_, ?_, ?_, ?_, ?_, ?_⟩
  all_goals first | (simp [push_cast, hpr, hprn, nilV, hre, hrn, hrl]; done)
 obtain ⟨ps, a⟩ := x
 obtain ⟨ha, hps, hpl⟩ := hx
 simp only at ha hpl
 rw [endS, hps] at hout3
 simp only at hout3
 have hm := must_ok f L a 0x11 (by omega) hbody ha
 cases hr : mustS L a 0x11 with
 | none =>
  rw [hr] at hm hout3
  have ho : out = none := hout3
  rw [ho]
  repeat' (first
   | with_reducible apply W_seq
   | with_reducible refine W_rg ?_
   | (rw [vcn]; (try simp [push_cast, nilV]))
   | fail)
  refine CallG_methP (id := 1000000) (ks := none) (args' := [.bp 1000000 0, byteV 0x11]) (methMk (hm) ?_) ?_
  · refine ⟨?_, ?_, ?_, ?_, fun _ _ _ h_ => ?_, ?_, ?_, fun _ _ h_ => ?_⟩ <;> (try cases h_) <;> (try simp [natAV, frzK, resDL, resD, entryB_env, entryB_box, refsL_bytes, recAV, push_cast, hpr]) <;> first | rfl | (rw [List.take_of_length_le (by simp)]; done)
  try dsimp only
  intro pl s' hpl
  (repeat' (with_reducible first | apply thenW_panic | apply blockW_panic | apply loopW_panic | apply joinW_panic))
  exact ⟨pl, rfl, hpl⟩
 | some r =>
 rw [hr] at hm hout3
 have ho : out = some ((fl, ps), a + 1) := hout3
 rw [ho]
 refine W_seq ?_
 refine W_joinQ (X := Unit) (fun _ => [(2, .bp 2 0), (3, .bp 3 0)]) (fun _ => [(1000000, .mut 110 (parC f L (a + 1))), (2, .mut 77 [nilV, nilV]), (3, .mut 77 [.bs 900 3 0 fl.length, .bs 800 3 0 ps.length]), (900, .mut 24 (recsCells fl)), (800, .mut 24 (recsCells ps))])
  (fun _ => True) ?_ fun _ _ => ?_
 ·
  repeat' (first
   | with_reducible refine W_rg ?_
   | (rw [vcn]; (try simp [push_cast, nilV]))
   | fail)
  refine CallG_meth (id := 1000000) (ks := none) (args' := [.bp 1000000 0, byteV 0x11]) (methMk (hm) ?_) ?_
  · refine ⟨?_, ?_, ?_, ?_, fun _ _ _ h_ => ?_, ?_, ?_, fun _ _ h_ => ?_⟩ <;> (try cases h_) <;> (try simp [natAV, frzK, resDL, resD, entryB_env, entryB_box, refsL_bytes, recAV, push_cast, hpr]) <;> first | rfl | (rw [List.take_of_length_le (by simp)]; done)
  try dsimp only
  repeat' (first
   | (rw [vcn]; (try simp [push_cast, keyK, nilV, recAV]))
   | fail)
  refine joinW_n () id trivial ⟨?_, ?_, ?_, ?_, ?_, ?_⟩
  all_goals first | (simp [push_cast, hpr, hprn, nilV, hre, hrn, hrl]; done)
 refine W_frz 900 (e := 24) (l := recsCells fl) (by simp [mkS_box, lk]) (hre fl) ?_
 refine W_frz 800 (e := 24) (l := recsCells ps) (by simp [mkS_box, lk, upd]) (hre ps) ?_
 refine W_later (later_res 3 (e := 77) (l := [.bs 900 3 0 fl.length, .bs 800 3 0 ps.length]) (by simp [mkS_box, lk, upd]) [rowsAV fl, rowsAV ps] ?_) ?_
 ·
  simp [resDL, resD, resB, mkS_box, lk, upd, hrl, rowsAV]
  exact ⟨List.take_of_length_le (by rw [hrl]; omega), List.take_of_length_le (by rw [hrl]; omega)⟩
 repeat' (first
  | with_reducible first | apply thenW_n | apply W_seq | apply W_ret
  | with_reducible refine W_rg ?_
  | (rw [vcn]; (try simp [push_cast, nilV]))
  | fail)
 simp [postB, resAV, resAll, resOne, resD, resDL, push_cast, itemAV, rowsAV, hre]
end Go.Fw
