/- gds: the walk of lib. -/
import Derived.Test.YtjgbikhnnkigpaaGp7
set_option linter.unusedSimpArgs false
set_option linter.unusedVariables false
-- VALS: recAV
namespace Go.Fw
open Go Go.Proofs Go.IntWalk
set_option linter.unusedSimpArgs false
set_option maxRecDepth 100000
set_option maxHeartbeats 4000000
open List (map_take map_drop)
attribute [local push_cast] optK_some optK_none optK_ite optK_map optK_bind gOn stepK isMem evPure evMem evBin evUn evConv evLen evBuiltin evMinMax evSlice evBuild evAppend evIndex evIndexAddr evField evFieldAddr intBin strBin appDest AS.val AS.mem AS.elems AS.put AS.put' AS.eff AV.cells? AV.isCell AV.refs all_isByte take_byteV drop_byteV strOf_map bndOk bnd partAV ptrAdd killBox catA inOrder fillA setAt ofVal resB upd byteV List.head?_take List.head?_drop List.getElem?_map mkS_env mkS_box mkS_used entry_env entry_box entry_used lk stepD lookIds Oper.looksAt Op.operands Call.operands St.ids refsL renL_append dV_take dV_drop ren renL renBox Box.refs iV i64V boolV dV_getElem dV_app dV_cons toNat_add2 toNat_add1
theorem recsCells_snoc (l : List Rec) (k d : UInt8) (b : List UInt8) : recsCells l ++ [byteV k, byteV d, .slc false 1 b.length (b.map byteV)] = recsCells (l ++ [(k, d, b)]) := by simp [recsCells, recCells]
theorem lib_ok (f : Bool) (L : List Rec) (hL : L.length ≤ 100000000) (hbody : ∀ r ∈ L, r.2.2.length ≤ 9223372036854775807) :
  Meth Try.prog 70 [.bp 1000000 0] 110 (parC f L 0) isWrong ((libS L).map fun p => (libAV p.1, parC f L p.2)) := by
 refine ⟨_, _, Try.func70, rfl, Try.call70, Nat.le_of_ble_eq_true rfl, ?_⟩
 obtain ⟨out, hout⟩ : ∃ o, o = libS L := ⟨_, rfl⟩
 have hout2 := hout
 rw [libS] at hout2
 rw [← hout]
 clear hout
 have hpr : ∀ a, refsL (parC f L a) = [] := fun a => by simp [parC, refsL, AV.refs, i64V, recsCells_refs]
 have hprn : ∀ ρ a, renL ρ (parC f L a) = parC f L a := fun ρ a => renL_id ρ _ (hpr a)
 have hre : ∀ l, refsL (recsCells l) = [] := recsCells_refs
 have hrn : ∀ ρ l, renL ρ (recsCells l) = recsCells l := fun ρ l => renL_id ρ _ (recsCells_refs l)
 have hrl : ∀ l, (recsCells l).length = l.length * 3 := recsCells_len
 refine W_seq ?_
 refine W_joinQ (X := Unit) (fun _ => [(0, .bp 1000000 0), (2, .bp 2 0)]) (fun _ => [(1000000, .mut 110 (parC f L 0)), (2, .mut 58 [nilV, nilV])]) (fun _ => True) ?_ fun _ _ => ?_
 ·
  repeat' (first
   | with_reducible refine W_rg ?_
   | (rw [vcn]; (try simp [push_cast, entryB_env, entryB_box, entryB_used]))
   | fail)
  refine joinW_n () id trivial ⟨?_, ?_, ?_, ?_, ?_, ?_⟩
  all_goals first | (simp [push_cast, hpr, hprn, entryB_env, entryB_box, entryB_used, nilV]; done)
 refine W_seq ?_
 refine W_joinQ (X := Unit) (fun _ => [(0, .bp 1000000 0), (2, .bp 2 0), (3, .bp 3 0)]) (fun _ => [(1000000, .mut 110 (parC f L 0)), (2, .mut 58 [nilV, nilV]), (3, .mut 58 [nilV, nilV])]) (fun _ => True) ?_ fun _ _ => ?_
 ·
  repeat' (first
   | with_reducible refine W_rg ?_
   | (rw [vcn]; (try simp [push_cast, nilV]))
   | fail)
  refine joinW_n () id trivial ⟨?_, ?_, ?_, ?_, ?_, ?_⟩
  all_goals first | (simp [push_cast, hpr, hprn, nilV]; done)
 refine W_seq ?_
 have hrow0 := row_ok f false L 0 headRow (by omega) hbody (by omega) (by decide) (by decide)
 have hrow0F := rowF_ok f false L 0 headRow (by omega) hbody (by omega) (by decide) (by decide)
 cases hr1 : rowS L 0 headRow with
 | none =>
  rw [hr1] at hrow0F
  have ho : out = none := by rw [hout2, headS, hr1]
  rw [ho]
  repeat' (first
   | with_reducible refine W_rg ?_
   | (rw [vcn]; (try simp [push_cast, nilV]))
   | fail)
  refine CallG_methP (id := 1000000) (ks := some (7, 3, headRow.map fun k : Nat => i64V k)) (args' := [.bp 1000000 0, .slc false 1 10 (headRow.map fun k : Nat => i64V k)]) (methMk (hrow0F) ?_) ?_
  · refine ⟨?_, ?_, ?_, ?_, fun _ _ _ h_ => ?_, ?_, ?_, fun _ _ h_ => ?_⟩ <;> (try cases h_) <;> (try simp [natAV, frzK, resDL, resD, entryB_env, entryB_box, refsL_bytes, recAV, push_cast, hpr, headRow]) <;> first | rfl | (rw [List.take_of_length_le (by simp)]; done)
  try dsimp only
  intro pl s' hpl
  (repeat' (with_reducible first | apply thenW_panic | apply blockW_panic | apply loopW_panic | apply joinW_panic))
  exact ⟨pl, rfl, hpl⟩
 | some p1 =>
 obtain ⟨h0, a1⟩ := p1
 rw [hr1] at hrow0
 obtain ⟨ha1, hl1⟩ := rowS_le hr1 (by omega)
 simp only at ha1 hl1
 refine W_joinQ (X := Unit) (fun _ => [(0, .bp 1000000 0), (2, .bp 2 0), (3, .bp 3 0)]) (fun _ => [(1000000, .mut 110 (parC f L a1)), (2, .mut 58 [nilV, nilV]), (3, .mut 58 [.bs 900 3 0 h0.length, nilV]), (900, .mut 24 (recsCells h0))]) (fun _ => True) ?_ fun _ _ => ?_
 ·
  repeat' (first
   | with_reducible refine W_rg ?_
   | (rw [vcn]; (try simp [push_cast, nilV]))
   | fail)
  refine CallG_methO 900 (id := 1000000) (ks := some (7, 3, headRow.map fun k : Nat => i64V k)) (args' := [.bp 1000000 0, .slc false 1 10 (headRow.map fun k : Nat => i64V k)]) ⟨by simp [natAV, frzK, resDL, resD, entryB_env, entryB_box, refsL_bytes, recAV, push_cast, hpr, hre, headRow], by simp [natAV, frzK, resDL, resD, entryB_env, entryB_box, refsL_bytes, recAV, push_cast, hpr, hre, headRow], by simp [natAV, frzK, resDL, resD, entryB_env, entryB_box, refsL_bytes, recAV, push_cast, hpr, hre, headRow], by simp [natAV, frzK, resDL, resD, entryB_env, entryB_box, refsL_bytes, recAV, push_cast, hpr, hre, headRow], (by intro k ek lk h; cases h; exact ⟨by decide, by simp [natAV, frzK, resDL, resD, entryB_env, entryB_box, refsL_bytes, recAV, push_cast, hpr, hre, headRow], by simp [natAV, frzK, resDL, resD, entryB_env, entryB_box, refsL_bytes, recAV, push_cast, hpr, hre, headRow], by simp [natAV, frzK, resDL, resD, entryB_env, entryB_box, refsL_bytes, recAV, push_cast, hpr, hre, headRow]⟩), ?_, by simp [natAV, frzK, resDL, resD, entryB_env, entryB_box, refsL_bytes, recAV, push_cast, hpr, hre, headRow], hrow0, ⟨by simp [natAV, frzK, resDL, resD, entryB_env, entryB_box, refsL_bytes, recAV, push_cast, hpr, hre, headRow], by simp [natAV, frzK, resDL, resD, entryB_env, entryB_box, refsL_bytes, recAV, push_cast, hpr, hre, headRow]⟩⟩ (by simp [natAV, frzK, resDL, resD, entryB_env, entryB_box, refsL_bytes, recAV, push_cast, hpr, hre, headRow]) ?_
  · first | rfl | (simp [natAV, frzK, resDL, resD, entryB_env, entryB_box, refsL_bytes, recAV, push_cast, hpr, hre, headRow]; done) | (simp [natAV, frzK, resDL, resD, entryB_env, entryB_box, refsL_bytes, recAV, push_cast, hpr, hre, headRow]; rw [List.take_of_length_le (by simp)]; done) | (simp [natAV, frzK, resDL, resD, entryB_env, entryB_box, refsL_bytes, recAV, push_cast, hpr, hre, headRow]; fail_if_success done)
  try dsimp only
  repeat' (first
   | (rw [vcn]; (try simp [push_cast, keyK, nilV]))
   | fail)
  refine joinW_n () id trivial ⟨?_, ?_, ?_, ?_, ?_, ?_⟩
  all_goals first | (simp [push_cast, hpr, hprn, nilV, hre, hrn]; done)
 -- the masks
 have hms : headS L = match (if seesS L a1 [0x36] = true then maskS L a1 else some ([], a1)) with
   | none => none
   | some (m, a2) => match mustS L a2 3 with
    | none => none
    | some r => some (h0 ++ m ++ [r], a2 + 1) := by
  rw [headS, hr1]
  rfl
 have hs36 := sees_ok f false L a1 [0x36] noPan (by omega) ha1
 obtain ⟨b36, hb36⟩ : ∃ b, b = seesS L a1 [0x36] := ⟨_, rfl⟩
 rw [← hb36] at hs36
 refine W_seq ?_
 refine W_joinQ (X := List Rec × Nat) (fun x => [(0, .bp 1000000 0), (2, .bp 2 0), (3, .bp 3 0)]) (fun x => [(1000000, .mut 110 (parC f L x.2)), (2, .mut 58 [nilV, nilV]), (3, .mut 58 [.bs 900 3 0 x.1.length, nilV]), (900, .mut 24 (recsCells x.1))])
  (fun x => x.2 ≤ L.length ∧ x.1.length ≤ x.2 ∧ ∃ m, (if seesS L a1 [0x36] = true then maskS L a1 else some ([], a1)) = some (m, x.2) ∧ x.1 = h0 ++ m) ?_ fun x hx => ?_
 ·
  refine W_seq ?_
  refine W_joinQ (X := Unit) (fun x => [(0, .bp 1000000 0), (2, .bp 2 0), (3, .bp 3 0), (14, .v (.bool b36))]) (fun _ => [(1000000, .mut 110 (parC f L a1)), (2, .mut 58 [nilV, nilV]), (3, .mut 58 [.bs 900 3 0 h0.length, nilV]), (900, .mut 24 (recsCells h0))]) (fun _ => True) ?_ fun _ _ => ?_
  ·
   repeat' (first
    | with_reducible refine W_rg ?_
    | (rw [vcn]; (try simp [push_cast, nilV]))
    | fail)
   refine CallG_meth (id := 1000000) (ks := some (13, 5, [byteV 0x36])) (args' := [.bp 1000000 0, .slc false 1 1 [byteV 0x36]]) (methMk (hs36) ?_) ?_
   · refine ⟨?_, ?_, ?_, ?_, fun _ _ _ h_ => ?_, ?_, ?_, fun _ _ h_ => ?_⟩ <;> (try cases h_) <;> (try simp [natAV, frzK, resDL, resD, entryB_env, entryB_box, refsL_bytes, recAV, push_cast, hpr, hre]) <;> first | rfl | (rw [List.take_of_length_le (by simp)]; done)
   try dsimp only
   repeat' (first
    | (rw [vcn]; (try simp [push_cast, keyK, nilV]))
    | fail)
   refine joinW_n () id trivial ⟨?_, ?_, ?_, ?_, ?_, ?_⟩
   all_goals first | (simp [push_cast, hpr, hprn, nilV, hre, hrn]; done)
  by_cases hsb : b36 = false
  ·
   have hfin : (if seesS L a1 [0x36] = true then maskS L a1 else some ([], a1)) = some ([], a1) := by rw [← hb36, hsb]; rfl
   subst hsb
   repeat' (first
    | with_reducible apply W_skip
    | (with_reducible refine W_condW ?_; (try simp [AS.val, upd, resB, mkS_env, mkS_box, lk, entry_env, condW_true, condW_false, nilV]))
    | fail)
   refine joinW_n (h0, a1) id ⟨ha1, by simp only; omega, [], hfin, by simp⟩ ⟨?_, ?_, ?_, ?_, ?_, ?_⟩
   all_goals first | (simp [push_cast, hpr, hprn, nilV, hre, hrn]; done)
  have hsb1 : b36 = true := by simpa using hsb
  subst hsb1
  rw [if_pos hb36.symm] at hms
  refine W_cond_t (by simp [AS.val, mkS_env, lk, resB]) ?_
  have hm36 := must_ok f L a1 0x36 (by omega) hbody ha1
  refine W_seq ?_
  cases hr36 : mustS L a1 0x36 with
  | none =>
   rw [hr36] at hm36
   have ho : out = none := by rw [hout2, hms, maskS, hr36]
   rw [ho]
   repeat' (first
    | (refine W_drawnP isWrong mixed (by decide) (by kernel_rfl) (by intro pl s hpl; first | exact False.elim hpl | (repeat' (with_reducible first | apply thenW_panic | apply blockW_panic | apply loopW_panic | apply joinW_panic)); exact ⟨pl, rfl, hpl⟩) ?_)
    | (rw [vcnDP]; (try simp [push_cast, keyK, nilV]))
    | fail)
   refine callDP_dies (recAV 0 0 []) (id := 1000000) (ks := none) (args' := [.bp 1000000 0, byteV 0x36]) (methMk (hm36) ?_) ?_
   · refine ⟨?_, ?_, ?_, ?_, fun _ _ _ h_ => ?_, ?_, ?_, fun _ _ h_ => ?_⟩ <;> (try cases h_) <;> (try simp [natAV, frzK, resDL, resD, entryB_env, entryB_box, refsL_bytes, recAV, push_cast, hpr, hre]) <;> first | rfl | (rw [List.take_of_length_le (by simp)]; done)
   try dsimp only
   repeat' (first
    | (rw [vcnDP]; (try simp [push_cast, keyK, nilV, recAV, hrl]))
    | refine And.intro (by first | omega | kernel_rfl) ?_
    | fail)
   kernel_rfl
  | some r0 =>
  obtain ⟨k0, d0, b0⟩ := r0
  rw [hr36] at hm36
  have hlt1 := (mustS_lt hr36).1
  refine W_joinQ (X := Unit) (fun x => [(0, .bp 1000000 0), (2, .bp 2 0), (3, .bp 3 0)]) (fun _ => [(1000000, .mut 110 (parC f L (a1 + 1))), (2, .mut 58 [nilV, nilV]), (3, .mut 58 [.bs 900 3 0 (h0 ++ [(k0, d0, b0)]).length, nilV]), (900, .mut 24 (recsCells (h0 ++ [(k0, d0, b0)])))]) (fun _ => True) ?_ fun _ _ => ?_
  ·
   repeat' (first
    | (refine W_drawnP noPan mixed (by decide) (by kernel_rfl) (by intro pl s hpl; first | exact False.elim hpl | (repeat' (with_reducible first | apply thenW_panic | apply blockW_panic | apply loopW_panic | apply joinW_panic)); exact ⟨pl, rfl, hpl⟩) ?_)
    | (rw [vcnDP]; (try simp [push_cast, keyK, nilV]))
    | fail)
   refine callDP_meth (id := 1000000) (ks := none) (args' := [.bp 1000000 0, byteV 0x36]) (methMk (Meth.any hm36) ?_) ?_
   · refine ⟨?_, ?_, ?_, ?_, fun _ _ _ h_ => ?_, ?_, ?_, fun _ _ h_ => ?_⟩ <;> (try cases h_) <;> (try simp [natAV, frzK, resDL, resD, entryB_env, entryB_box, refsL_bytes, recAV, push_cast, hpr, hre]) <;> first | rfl | (rw [List.take_of_length_le (by simp)]; done)
   try dsimp only
   repeat' (first
    | (rw [vcnDP]; (try simp [push_cast, keyK, nilV, recAV, hrl]))
    | refine And.intro (by first | omega | kernel_rfl) ?_
    | fail)
   refine joinW_n () (fun i => if i = 900 then 22 else i) trivial ⟨?_, ?_, ?_, ?_, ?_, ?_⟩
   all_goals first | (simp [push_cast, hpr, hprn, nilV, hre, hrn, ← recsCells_snoc]; done) | (simp [push_cast, hpr, hprn, nilV, hre, hrn, ← recsCells_snoc]; omega)
  -- as many of one kind
  refine W_seq ?_
  refine W_joinQ (X := Unit) (fun x => [(0, .bp 1000000 0), (2, .bp 2 0), (3, .bp 3 0), (4, i64V ((a1 + 1 : Nat) : Int))]) (fun _ => [(1000000, .mut 110 (parC f L (a1 + 1))), (2, .mut 58 [nilV, nilV]), (3, .mut 58 [.bs 900 3 0 (h0 ++ [(k0, d0, b0)]).length, nilV]), (900, .mut 24 (recsCells (h0 ++ [(k0, d0, b0)])))]) (fun _ => True) ?_ fun _ _ => ?_
  ·
   repeat' (first
    | with_reducible refine W_rg ?_
    | (rw [vcn]; (try simp [push_cast, nilV, parC]))
    | fail)
   refine joinW_n () id trivial ⟨?_, ?_, ?_, ?_, ?_, ?_⟩
   all_goals first | (simp [push_cast, hpr, hprn, nilV, hre, hrn, parC]; done)
  have hmask : maskS L a1 = match manyS L 0x37 (a1 + 1) with
    | none => none
    | some (ms, a2) => if a1 + 1 < a2 then match mustS L a2 0x38 with
      | none => none
      | some r1 => some ((k0, d0, b0) :: ms ++ [r1], a2 + 1)
     else some ((k0, d0, b0) :: ms, a2) := by
   rw [maskS, hr36]
   rfl
  rw [hmask] at hms
  refine W_seq ?_
  refine W_joinQ (X := List Rec × Nat) (fun x => [(0, .bp 1000000 0), (2, .bp 2 0), (3, .bp 3 0), (4, i64V ((a1 + 1 : Nat) : Int))]) (fun x => [(1000000, .mut 110 (parC f L x.2)), (2, .mut 58 [nilV, nilV]), (3, .mut 58 [.bs 900 3 0 (h0 ++ (k0, d0, b0) :: x.1).length, nilV]), (900, .mut 24 (recsCells (h0 ++ (k0, d0, b0) :: x.1)))])
   (fun x => x.2 ≤ L.length ∧ a1 + 1 ≤ x.2 ∧ (h0 ++ (k0, d0, b0) :: x.1).length ≤ x.2 ∧ manyS L 0x37 (a1 + 1) = some x) ?_ fun x hx => ?_
  ·
   refine W_block ?_
   refine W_loopW (X := List Rec × Nat) (fun x => [(0, .bp 1000000 0), (2, .bp 2 0), (3, .bp 3 0), (4, i64V ((a1 + 1 : Nat) : Int))]) (fun x => [(1000000, .mut 110 (parC f L x.2)), (2, .mut 58 [nilV, nilV]), (3, .mut 58 [.bs 900 3 0 (h0 ++ (k0, d0, b0) :: x.1).length, nilV]), (900, .mut 24 (recsCells (h0 ++ (k0, d0, b0) :: x.1)))])
    (fun x => L.length - x.2) (fun x => x.2 ≤ L.length ∧ a1 + 1 ≤ x.2 ∧ (h0 ++ (k0, d0, b0) :: x.1).length ≤ x.2 ∧ manyS L 0x37 (a1 + 1) = (manyS L 0x37 x.2).map fun p => (x.1 ++ p.1, p.2)) ([], a1 + 1) id ⟨by omega, Nat.le_refl _, by simp; omega, by cases manyS L 0x37 (a1 + 1) <;> rfl⟩ ⟨?_, ?_, ?_, ?_, ?_, ?_⟩ fun x hx => ?_
   all_goals first | (with_reducible refine W_id ?_) | (simp [push_cast, hpr, hprn, nilV, hre, hrn]; done)
   obtain ⟨ms, a⟩ := x
   obtain ⟨ha, haa, hml, hmm⟩ := hx
   simp only at ha haa hml hmm
   have hs := sees_ok f false L a [0x37] noPan (by omega) ha
   have hm := must_ok f L a 0x37 (by omega) hbody ha
   obtain ⟨hd, hhd⟩ : ∃ x, x = h0 ++ (k0, d0, b0) :: ms := ⟨_, rfl⟩
   have hhl : hd.length = h0.length + (ms.length + 1) := by rw [hhd]; simp
   simp only [← hhd] at hml ⊢
   rw [manyS_eq L 0x37 a] at hmm
   by_cases hsb : seesS L a [0x37] = false
   ·
    rw [hsb] at hs hmm
    have hfin : manyS L 0x37 (a1 + 1) = some (ms, a) := by rw [hmm]; simp
    repeat' (first
     | with_reducible apply W_seq
     | with_reducible refine W_rg ?_
     | (rw [vcn]; (try simp [push_cast, nilV]))
     | fail)
    refine CallG_meth (id := 1000000) (ks := some (32, 5, [byteV 0x37])) (args' := [.bp 1000000 0, .slc false 1 1 [byteV 0x37]]) (methMk (hs) ?_) ?_
    · refine ⟨?_, ?_, ?_, ?_, fun _ _ _ h_ => ?_, ?_, ?_, fun _ _ h_ => ?_⟩ <;> (try cases h_) <;> (try simp [natAV, frzK, resDL, resD, entryB_env, entryB_box, refsL_bytes, recAV, push_cast, hpr, hre]) <;> first | rfl | (rw [List.take_of_length_le (by simp)]; done)
    try dsimp only
    repeat' (first
     | with_reducible first | apply thenW_n | apply thenW_exit | apply blockW_same | apply loopW_exit | apply W_exit
     | (rw [vcn]; (try simp [push_cast, keyK, nilV]))
     | (with_reducible refine W_condW ?_; (try simp [AS.val, upd, resB, mkS_env, mkS_box, lk, entry_env, condW_true, condW_false, keyK, nilV]))
     | fail)
    refine joinW_n (ms, a) id ⟨ha, haa, by simp at hhl ⊢; omega, hfin⟩ ⟨?_, ?_, ?_, ?_, ?_, ?_⟩
    all_goals first | (simp [push_cast, hpr, hprn, nilV, hre, hrn, hhd]; done)
   have hsb1 : seesS L a [0x37] = true := by simpa using hsb
   rw [hsb1] at hs hmm
   rw [if_pos rfl] at hmm
   cases hr : mustS L a 0x37 with
   | none =>
    rw [hr] at hm hmm
    have ho : out = none := by rw [hout2, hms, hmm]; rfl
    rw [ho]
    repeat' (first
     | with_reducible apply W_seq
     | with_reducible refine W_rg ?_
     | (rw [vcn]; (try simp [push_cast, nilV]))
     | fail)
    refine CallG_meth (id := 1000000) (ks := some (32, 5, [byteV 0x37])) (args' := [.bp 1000000 0, .slc false 1 1 [byteV 0x37]]) (methMk (hs) ?_) ?_
    · refine ⟨?_, ?_, ?_, ?_, fun _ _ _ h_ => ?_, ?_, ?_, fun _ _ h_ => ?_⟩ <;> (try cases h_) <;> (try simp [natAV, frzK, resDL, resD, entryB_env, entryB_box, refsL_bytes, recAV, push_cast, hpr, hre]) <;> first | rfl | (rw [List.take_of_length_le (by simp)]; done)
    try dsimp only
    repeat' (first
     | with_reducible first | apply thenW_n | apply W_block | apply W_skip
     | (rw [vcn]; (try simp [push_cast, keyK, nilV]))
     | (refine W_drawnP isWrong mixed (by decide) (by kernel_rfl) (by intro pl s hpl; first | exact False.elim hpl | (repeat' (with_reducible first | apply thenW_panic | apply blockW_panic | apply loopW_panic | apply joinW_panic)); exact ⟨pl, rfl, hpl⟩) ?_)
     | (rw [vcnDP]; (try simp [push_cast, keyK, nilV]))
     | (with_reducible refine W_condW ?_; (try simp [AS.val, upd, resB, mkS_env, mkS_box, lk, entry_env, condW_true, condW_false, keyK, nilV]))
     | fail)
    refine callDP_dies (recAV 0 0 []) (id := 1000000) (ks := none) (args' := [.bp 1000000 0, byteV 0x37]) (methMk (hm) ?_) ?_
    · refine ⟨?_, ?_, ?_, ?_, fun _ _ _ h_ => ?_, ?_, ?_, fun _ _ h_ => ?_⟩ <;> (try cases h_) <;> (try simp [natAV, frzK, resDL, resD, entryB_env, entryB_box, refsL_bytes, recAV, push_cast, hpr, hre]) <;> first | rfl | (rw [List.take_of_length_le (by simp)]; done)
    try dsimp only
    repeat' (first
     | (rw [vcnDP]; (try simp [push_cast, keyK, nilV, recAV, hrl]))
     | refine And.intro (by first | omega | kernel_rfl) ?_
     | fail)
    kernel_rfl
   | some r =>
    obtain ⟨k, d, b⟩ := r
    rw [hr] at hm hmm
    have hlt := (mustS_lt hr).1
    have hmm : manyS L 0x37 (a1 + 1) = (manyS L 0x37 (a + 1)).map fun p => ((ms ++ [(k, d, b)]) ++ p.1, p.2) := by
     rw [hmm]
     simp only
     cases manyS L 0x37 (a + 1) with
     | none => rfl
     | some q => simp
    have hhd2 : h0 ++ (k0, d0, b0) :: (ms ++ [(k, d, b)]) = hd ++ [(k, d, b)] := by rw [hhd]; simp
    repeat' (first
     | with_reducible apply W_seq
     | with_reducible refine W_rg ?_
     | (rw [vcn]; (try simp [push_cast, nilV]))
     | fail)
    refine CallG_meth (id := 1000000) (ks := some (32, 5, [byteV 0x37])) (args' := [.bp 1000000 0, .slc false 1 1 [byteV 0x37]]) (methMk (hs) ?_) ?_
    · refine ⟨?_, ?_, ?_, ?_, fun _ _ _ h_ => ?_, ?_, ?_, fun _ _ h_ => ?_⟩ <;> (try cases h_) <;> (try simp [natAV, frzK, resDL, resD, entryB_env, entryB_box, refsL_bytes, recAV, push_cast, hpr, hre]) <;> first | rfl | (rw [List.take_of_length_le (by simp)]; done)
    try dsimp only
    repeat' (first
     | with_reducible first | apply thenW_n | apply W_block | apply W_skip
     | (rw [vcn]; (try simp [push_cast, keyK, nilV]))
     | (refine W_drawnP noPan mixed (by decide) (by kernel_rfl) (by intro pl s hpl; first | exact False.elim hpl | (repeat' (with_reducible first | apply thenW_panic | apply blockW_panic | apply loopW_panic | apply joinW_panic)); exact ⟨pl, rfl, hpl⟩) ?_)
     | (rw [vcnDP]; (try simp [push_cast, keyK, nilV]))
     | (with_reducible refine W_condW ?_; (try simp [AS.val, upd, resB, mkS_env, mkS_box, lk, entry_env, condW_true, condW_false, keyK, nilV]))
     | fail)
    refine callDP_meth (id := 1000000) (ks := none) (args' := [.bp 1000000 0, byteV 0x37]) (methMk (Meth.any hm) ?_) ?_
    · refine ⟨?_, ?_, ?_, ?_, fun _ _ _ h_ => ?_, ?_, ?_, fun _ _ h_ => ?_⟩ <;> (try cases h_) <;> (try simp [natAV, frzK, resDL, resD, entryB_env, entryB_box, refsL_bytes, recAV, push_cast, hpr, hre]) <;> first | rfl | (rw [List.take_of_length_le (by simp)]; done)
    try dsimp only
    repeat' (first
     | with_reducible apply blockW_n
     | (rw [vcnDP]; (try simp [push_cast, keyK, nilV, recAV, hrl]))
     | refine And.intro (by first | omega | kernel_rfl) ?_
     | fail)
    refine loopW_n (ms ++ [(k, d, b)], a + 1) (fun i => if i = 900 then 41 else i) (by simp only; omega) ⟨by simp only; omega, by simp only; omega, by simp at hhl ⊢; omega, hmm⟩ ⟨?_, ?_, ?_, ?_, ?_, ?_⟩
    all_goals first | (simp [push_cast, hpr, hprn, nilV, hre, hrn, hhd2, ← recsCells_snoc]; done) | (simp [push_cast, hpr, hprn, nilV, hre, hrn, hhd2, ← recsCells_snoc]; omega)
  obtain ⟨ms, a⟩ := x
  obtain ⟨ha, haa, hml, hmm⟩ := hx
  simp only at ha haa hml hmm
  rw [hmm] at hms hmask
  simp only at hms hmask
  obtain ⟨hd, hhd⟩ : ∃ x, x = h0 ++ (k0, d0, b0) :: ms := ⟨_, rfl⟩
  simp only [← hhd] at hml ⊢
  have hw36 : (if seesS L a1 [0x36] = true then maskS L a1 else some ([], a1)) = maskS L a1 := if_pos hb36.symm
  by_cases hmore : ¬ a1 + 1 < a
  ·
   have g1 : ((a1 : Int) + 1 < (a : Int)) = False := eq_false (by omega)
   have g1' : (a1 + 1 < a) = False := eq_false hmore
   rw [if_neg hmore] at hms hmask
   repeat' (first
    | with_reducible first | apply thenW_n | apply W_seq | apply W_skip
    | with_reducible refine W_rg ?_
    | (rw [vcn]; (try simp [push_cast, nilV, parC, g1, g1']))
    | (with_reducible refine W_condW ?_; (try simp [AS.val, upd, resB, mkS_env, mkS_box, lk, entry_env, condW_true, condW_false, nilV, parC, g1, g1']))
    | fail)
   refine joinW_n (hd, a) id ⟨ha, by simp only; omega, (k0, d0, b0) :: ms, by rw [hw36, hmask], hhd⟩ ⟨?_, ?_, ?_, ?_, ?_, ?_⟩
   all_goals first | (simp [push_cast, hpr, hprn, nilV, hre, hrn, parC]; done)
  have hmore : a1 + 1 < a := by omega
  rw [if_pos hmore] at hms hmask
  have hm := must_ok f L a 0x38 (by omega) hbody ha
  refine W_seq ?_
  refine W_joinQ (X := Unit) (fun x => [(0, .bp 1000000 0), (2, .bp 2 0), (3, .bp 3 0), (49, .v (.bool true))]) (fun _ => [(1000000, .mut 110 (parC f L a)), (2, .mut 58 [nilV, nilV]), (3, .mut 58 [.bs 900 3 0 hd.length, nilV]), (900, .mut 24 (recsCells hd))]) (fun _ => True) ?_ fun _ _ => ?_
  ·
   have g1 : ((a1 : Int) + 1 < (a : Int)) = True := eq_true (by omega)
   have g1' : (a1 + 1 < a) = True := eq_true hmore
   repeat' (first
    | with_reducible refine W_rg ?_
    | (rw [vcn]; (try simp [push_cast, nilV, parC, g1, g1']))
    | fail)
   refine joinW_n () id trivial ⟨?_, ?_, ?_, ?_, ?_, ?_⟩
   all_goals first | (simp [push_cast, hpr, hprn, nilV, hre, hrn, parC]; done)
  refine W_cond_t (by simp [AS.val, mkS_env, lk, resB]) ?_
  cases hr : mustS L a 0x38 with
  | none =>
   rw [hr] at hm hms
   have ho : out = none := by rw [hout2, hms]
   rw [ho]
   repeat' (first
    | (refine W_drawnP isWrong mixed (by decide) (by kernel_rfl) (by intro pl s hpl; first | exact False.elim hpl | (repeat' (with_reducible first | apply thenW_panic | apply blockW_panic | apply loopW_panic | apply joinW_panic)); exact ⟨pl, rfl, hpl⟩) ?_)
    | (rw [vcnDP]; (try simp [push_cast, keyK, nilV]))
    | fail)
   refine callDP_dies (recAV 0 0 []) (id := 1000000) (ks := none) (args' := [.bp 1000000 0, byteV 0x38]) (methMk (hm) ?_) ?_
   · refine ⟨?_, ?_, ?_, ?_, fun _ _ _ h_ => ?_, ?_, ?_, fun _ _ h_ => ?_⟩ <;> (try cases h_) <;> (try simp [natAV, frzK, resDL, resD, entryB_env, entryB_box, refsL_bytes, recAV, push_cast, hpr, hre]) <;> first | rfl | (rw [List.take_of_length_le (by simp)]; done)
   try dsimp only
   repeat' (first
    | (rw [vcnDP]; (try simp [push_cast, keyK, nilV, recAV, hrl]))
    | refine And.intro (by first | omega | kernel_rfl) ?_
    | fail)
   kernel_rfl
  | some r =>
   obtain ⟨k, d, b⟩ := r
   rw [hr] at hm hmask
   have hlt := (mustS_lt hr).1
   repeat' (first
    | (refine W_drawnP noPan mixed (by decide) (by kernel_rfl) (by intro pl s hpl; first | exact False.elim hpl | (repeat' (with_reducible first | apply thenW_panic | apply blockW_panic | apply loopW_panic | apply joinW_panic)); exact ⟨pl, rfl, hpl⟩) ?_)
    | (rw [vcnDP]; (try simp [push_cast, keyK, nilV]))
    | fail)
   refine callDP_meth (id := 1000000) (ks := none) (args' := [.bp 1000000 0, byteV 0x38]) (methMk (Meth.any hm) ?_) ?_
   · refine ⟨?_, ?_, ?_, ?_, fun _ _ _ h_ => ?_, ?_, ?_, fun _ _ h_ => ?_⟩ <;> (try cases h_) <;> (try simp [natAV, frzK, resDL, resD, entryB_env, entryB_box, refsL_bytes, recAV, push_cast, hpr, hre]) <;> first | rfl | (rw [List.take_of_length_le (by simp)]; done)
   try dsimp only
   repeat' (first
    | (rw [vcnDP]; (try simp [push_cast, keyK, nilV, recAV, hrl]))
    | refine And.intro (by first | omega | kernel_rfl) ?_
    | fail)
   refine joinW_n (hd ++ [(k, d, b)], a + 1) (fun i => if i = 900 then 57 else i) ⟨by simp only; omega, by simp; omega, (k0, d0, b0) :: ms ++ [(k, d, b)], by rw [hw36, hmask], by simp only [hhd]; simp⟩ ⟨?_, ?_, ?_, ?_, ?_, ?_⟩
   all_goals first | (simp [push_cast, hpr, hprn, nilV, hre, hrn, ← recsCells_snoc]; done) | (simp [push_cast, hpr, hprn, nilV, hre, hrn, ← recsCells_snoc]; omega)
 obtain ⟨hd, a⟩ := x
 obtain ⟨ha, hdl, m, hm0, hhd⟩ := hx
 simp only at ha hdl hm0 hhd
 rw [hm0] at hms
 simp only at hms
 rw [← hhd] at hms
 clear hm0 hs36
 -- the end of the head
 refine W_seq ?_
 have hm := must_ok f L a 3 (by omega) hbody ha
 cases hr : mustS L a 3 with
 | none =>
  rw [hr] at hm hms
  have ho : out = none := by rw [hout2, hms]
  rw [ho]
  repeat' (first
   | (refine W_drawnP isWrong mixed (by decide) (by kernel_rfl) (by intro pl s hpl; first | exact False.elim hpl | (repeat' (with_reducible first | apply thenW_panic | apply blockW_panic | apply loopW_panic | apply joinW_panic)); exact ⟨pl, rfl, hpl⟩) ?_)
   | (rw [vcnDP]; (try simp [push_cast, keyK, nilV]))
   | fail)
  refine callDP_dies (recAV 0 0 []) (id := 1000000) (ks := none) (args' := [.bp 1000000 0, byteV 3]) (methMk (hm) ?_) ?_
  · refine ⟨?_, ?_, ?_, ?_, fun _ _ _ h_ => ?_, ?_, ?_, fun _ _ h_ => ?_⟩ <;> (try cases h_) <;> (try simp [natAV, frzK, resDL, resD, entryB_env, entryB_box, refsL_bytes, recAV, push_cast, hpr, hre]) <;> first | rfl | (rw [List.take_of_length_le (by simp)]; done)
  try dsimp only
  repeat' (first
   | (rw [vcnDP]; (try simp [push_cast, keyK, nilV, recAV, hrl]))
   | refine And.intro (by first | omega | kernel_rfl) ?_
   | fail)
  kernel_rfl
 | some r =>
 obtain ⟨k, d, b⟩ := r
 rw [hr] at hm hms
 have hlt := (mustS_lt hr).1
 refine W_joinQ (X := Unit) (fun x => [(0, .bp 1000000 0), (2, .bp 2 0), (3, .bp 3 0)]) (fun _ => [(1000000, .mut 110 (parC f L (a + 1))), (2, .mut 58 [nilV, nilV]), (3, .mut 58 [.bs 900 3 0 (hd ++ [(k, d, b)]).length, nilV]), (900, .mut 24 (recsCells (hd ++ [(k, d, b)])))]) (fun _ => True) ?_ fun _ _ => ?_
 ·
  repeat' (first
   | (refine W_drawnP noPan mixed (by decide) (by kernel_rfl) (by intro pl s hpl; first | exact False.elim hpl | (repeat' (with_reducible first | apply thenW_panic | apply blockW_panic | apply loopW_panic | apply joinW_panic)); exact ⟨pl, rfl, hpl⟩) ?_)
   | (rw [vcnDP]; (try simp [push_cast, keyK, nilV]))
   | fail)
  refine callDP_meth (id := 1000000) (ks := none) (args' := [.bp 1000000 0, byteV 3]) (methMk (Meth.any hm) ?_) ?_
  · refine ⟨?_, ?_, ?_, ?_, fun _ _ _ h_ => ?_, ?_, ?_, fun _ _ h_ => ?_⟩ <;> (try cases h_) <;> (try simp [natAV, frzK, resDL, resD, entryB_env, entryB_box, refsL_bytes, recAV, push_cast, hpr, hre]) <;> first | rfl | (rw [List.take_of_length_le (by simp)]; done)
  try dsimp only
  repeat' (first
   | (rw [vcnDP]; (try simp [push_cast, keyK, nilV, recAV, hrl]))
   | refine And.intro (by first | omega | kernel_rfl) ?_
   | fail)
  refine joinW_n () (fun i => if i = 900 then 66 else i) trivial ⟨?_, ?_, ?_, ?_, ?_, ?_⟩
  all_goals first | (simp [push_cast, hpr, hprn, nilV, hre, hrn, ← recsCells_snoc]; done) | (simp [push_cast, hpr, hprn, nilV, hre, hrn, ← recsCells_snoc]; omega)
 obtain ⟨H, hH⟩ : ∃ x, x = hd ++ [(k, d, b)] := ⟨_, rfl⟩
 have hHl : H.length ≤ 100000001 := by rw [hH]; simp; omega
 simp only at hms
 rw [← hH] at hms
 rw [hms] at hout2
 simp only at hout2
 simp only [← hH]
 clear hms hH hhd
 have hie := itemsCells_refs
 have hir : ∀ ρ l, renL ρ (itemsCells l) = itemsCells l := fun ρ l => renL_id ρ _ (itemsCells_refs l)
 have hil := itemsCells_len
 have hce := cellsCells_refs
 have hcr : ∀ ρ l, renL ρ (cellsCells l) = cellsCells l := fun ρ l => renL_id ρ _ (cellsCells_refs l)
 have hcl := cellsCells_len
 have hi0 : itemsCells [] = [] := rfl
 have hc0 : cellsCells [] = [] := rfl
 refine W_nilCell 3 1 700 72 2 (e := 58) (l := [.bs 900 3 0 H.length, nilV]) (by simp [mkS_box, lk]) rfl (by simp [mkS_used]) ?_
 refine W_seq ?_
 refine W_joinQ (X := List Cell × Nat) (fun x => [(0, .bp 1000000 0), (2, .bp 2 0), (3, .bp 3 0)]) (fun x => [(1000000, .mut 110 (parC f L x.2)), (2, .mut 58 [nilV, nilV]), (3, .mut 58 [.bs 900 3 0 H.length, .bs 700 2 0 x.1.length]), (900, .mut 24 (recsCells H)), (700, .mut 72 (cellsCells x.1))])
  (fun x => x.2 ≤ L.length ∧ cellsS L (a + 1) = some x ∧ x.1.length ≤ L.length) ?_ fun x hx => ?_
 ·
  refine W_block ?_
  refine W_loopW (X := List Cell × Nat) (fun x => [(0, .bp 1000000 0), (2, .bp 2 0), (3, .bp 3 0)]) (fun x => [(1000000, .mut 110 (parC f L x.2)), (2, .mut 58 [nilV, nilV]), (3, .mut 58 [.bs 900 3 0 H.length, .bs 700 2 0 x.1.length]), (900, .mut 24 (recsCells H)), (700, .mut 72 (cellsCells x.1))])
   (fun x => L.length - x.2) (fun x => x.2 ≤ L.length ∧ x.1.length ≤ x.2 ∧ cellsS L (a + 1) = (cellsS L x.2).map fun p => (x.1 ++ p.1, p.2)) ([], a + 1) id ⟨by simp only; omega, Nat.zero_le _, by cases cellsS L (a + 1) <;> rfl⟩ ⟨?_, ?_, ?_, ?_, ?_, ?_⟩ fun x hx => ?_
  all_goals first | (with_reducible refine W_id ?_) | (simp [push_cast, hpr, hprn, nilV, hre, hrn, hc0]; done)
  obtain ⟨cs, a2⟩ := x
  obtain ⟨ha2, hcl2, hcs⟩ := hx
  simp only at ha2 hcl2 hcs
  have hs := sees_ok f false L a2 [5] noPan (by omega) ha2
  rw [cellsS_eq L a2] at hcs
  by_cases hsb : seesS L a2 [5] = false
  ·
   rw [hsb] at hs hcs
   have hfin : cellsS L (a + 1) = some (cs, a2) := by rw [hcs]; simp
   repeat' (first
    | with_reducible apply W_seq
    | with_reducible refine W_rg ?_
    | (rw [vcn]; (try simp [push_cast, nilV]))
    | fail)
   refine CallG_meth (id := 1000000) (ks := some (71, 5, [byteV 5])) (args' := [.bp 1000000 0, .slc false 1 1 [byteV 5]]) (methMk (hs) ?_) ?_
   · refine ⟨?_, ?_, ?_, ?_, fun _ _ _ h_ => ?_, ?_, ?_, fun _ _ h_ => ?_⟩ <;> (try cases h_) <;> (try simp [natAV, frzK, resDL, resD, entryB_env, entryB_box, refsL_bytes, recAV, push_cast, hpr, hre]) <;> first | rfl | (rw [List.take_of_length_le (by simp)]; done)
   try dsimp only
   repeat' (first
    | with_reducible first | apply thenW_n | apply thenW_exit | apply blockW_same | apply loopW_exit | apply W_exit
    | (rw [vcn]; (try simp [push_cast, keyK, nilV]))
    | (with_reducible refine W_condW ?_; (try simp [AS.val, upd, resB, mkS_env, mkS_box, lk, entry_env, condW_true, condW_false, keyK, nilV]))
    | fail)
   refine joinW_n (cs, a2) id ⟨ha2, hfin, by simp only; omega⟩ ⟨?_, ?_, ?_, ?_, ?_, ?_⟩
   all_goals first | (simp [push_cast, hpr, hprn, nilV, hre, hrn, hce, hcr]; done)
  have hsb1 : seesS L a2 [5] = true := by simpa using hsb
  rw [hsb1] at hs hcs
  rw [if_pos rfl] at hcs
  repeat' (first
   | with_reducible apply W_seq
   | with_reducible refine W_rg ?_
   | (rw [vcn]; (try simp [push_cast, nilV]))
   | fail)
  refine CallG_meth (id := 1000000) (ks := some (71, 5, [byteV 5])) (args' := [.bp 1000000 0, .slc false 1 1 [byteV 5]]) (methMk (hs) ?_) ?_
  · refine ⟨?_, ?_, ?_, ?_, fun _ _ _ h_ => ?_, ?_, ?_, fun _ _ h_ => ?_⟩ <;> (try cases h_) <;> (try simp [natAV, frzK, resDL, resD, entryB_env, entryB_box, refsL_bytes, recAV, push_cast, hpr, hre]) <;> first | rfl | (rw [List.take_of_length_le (by simp)]; done)
  try dsimp only
  repeat' (first
   | with_reducible first | apply thenW_n | apply W_skip
   | (rw [vcn]; (try simp [push_cast, keyK, nilV]))
   | (with_reducible refine W_condW ?_; (try simp [AS.val, upd, resB, mkS_env, mkS_box, lk, entry_env, condW_true, condW_false, keyK, nilV]))
   | fail)
  refine W_block (W_seq ?_)
  have hrow := rowF_ok f false L a2 [5, 6, 308] (by omega) hbody ha2 (by decide) (by decide)
  cases hr2 : rowS L a2 [5, 6, 308] with
  | none =>
   rw [hr2] at hrow
   have ho : out = none := by
    rw [hout2, hcs, cellS, hr2]
    rfl
   rw [ho]
   repeat' (first
    | with_reducible refine W_rg ?_
    | (rw [vcn]; (try simp [push_cast, nilV]))
    | fail)
   refine CallG_methP (id := 1000000) (ks := some (74, 3, [i64V 5, i64V 6, i64V 308])) (args' := [.bp 1000000 0, .slc false 1 3 [i64V 5, i64V 6, i64V 308]]) (methMk (hrow) ?_) ?_
   · refine ⟨?_, ?_, ?_, ?_, fun _ _ _ h_ => ?_, ?_, ?_, fun _ _ h_ => ?_⟩ <;> (try cases h_) <;> (try simp [natAV, frzK, resDL, resD, entryB_env, entryB_box, refsL_bytes, recAV, push_cast, hpr, keyK]) <;> first | rfl | (rw [List.take_of_length_le (by simp)]; done)
   try dsimp only
   intro pl s' hpl
   (repeat' (with_reducible first | apply thenW_panic | apply blockW_panic | apply loopW_panic | apply joinW_panic))
   exact ⟨pl, rfl, hpl⟩
  | some p2 =>
  obtain ⟨h2, a3⟩ := p2
  rw [hr2] at hrow
  obtain ⟨ha3, hl3⟩ := rowS_le hr2 ha2
  have ha23 := rowS_pos hr2 (by decide) ha2
  simp only at ha3 hl3 ha23
  refine W_joinQ (X := Unit) (fun _ => [(0, .bp 1000000 0), (2, .bp 2 0), (3, .bp 3 0), (5, .bp 5 0)]) (fun _ => [(1000000, .mut 110 (parC f L a3)), (2, .mut 58 [nilV, nilV]), (3, .mut 58 [.bs 900 3 0 H.length, .bs 700 2 0 cs.length]), (900, .mut 24 (recsCells H)), (700, .mut 72 (cellsCells cs)), (5, .mut 72 [rowsAV h2, nilV])])
   (fun _ => True) ?_ fun _ _ => ?_
  ·
   repeat' (first
    | with_reducible refine W_rg ?_
    | (rw [vcn]; (try simp [push_cast, nilV]))
    | fail)
   refine CallG_meth (id := 1000000) (ks := some (74, 3, [i64V 5, i64V 6, i64V 308])) (args' := [.bp 1000000 0, .slc false 1 3 [i64V 5, i64V 6, i64V 308]]) (methMk (hrow) ?_) ?_
   · refine ⟨?_, ?_, ?_, ?_, fun _ _ _ h_ => ?_, ?_, ?_, fun _ _ h_ => ?_⟩ <;> (try cases h_) <;> (try simp [natAV, frzK, resDL, resD, entryB_env, entryB_box, refsL_bytes, recAV, push_cast, hpr, keyK, rowsAV, hre]) <;> first | rfl | (rw [List.take_of_length_le (by simp)]; done)
   try dsimp only
   repeat' (first
    | (rw [vcn]; (try simp [push_cast, keyK, nilV, rowsAV]))
    | fail)
   refine joinW_n () id trivial ⟨?_, ?_, ?_, ?_, ?_, ?_⟩
   all_goals first | (simp [push_cast, hpr, hprn, nilV, hre, hrn, hce, hcr, rowsAV]; done)
  refine W_nilCell 5 1 600 77 2 (e := 72) (l := [rowsAV h2, nilV]) (by simp [mkS_box, lk]) rfl (by simp [mkS_used]) ?_
  have hcell : cellS L a2 = match itemsS L a3 with
    | none => none
    | some (xs, a2) => match mustS L a2 7 with
     | none => none
     | some _ => some ((h2, xs), a2 + 1) := by
   rw [cellS, hr2]
   rfl
  refine W_seq ?_
  refine W_joinQ (X := List Item × Nat) (fun x => [(0, .bp 1000000 0), (2, .bp 2 0), (3, .bp 3 0), (5, .bp 5 0)]) (fun x => [(1000000, .mut 110 (parC f L x.2)), (2, .mut 58 [nilV, nilV]), (3, .mut 58 [.bs 900 3 0 H.length, .bs 700 2 0 cs.length]), (900, .mut 24 (recsCells H)), (700, .mut 72 (cellsCells cs)), (5, .mut 72 [rowsAV h2, .bs 600 2 0 x.1.length]), (600, .mut 77 (itemsCells x.1))])
   (fun x => x.2 ≤ L.length ∧ a3 ≤ x.2 ∧ itemsS L a3 = some x ∧ x.1.length ≤ L.length) ?_ fun x hx => ?_
  ·
   refine W_block ?_
   refine W_loopW (X := List Item × Nat) (fun x => [(0, .bp 1000000 0), (2, .bp 2 0), (3, .bp 3 0), (5, .bp 5 0)]) (fun x => [(1000000, .mut 110 (parC f L x.2)), (2, .mut 58 [nilV, nilV]), (3, .mut 58 [.bs 900 3 0 H.length, .bs 700 2 0 cs.length]), (900, .mut 24 (recsCells H)), (700, .mut 72 (cellsCells cs)), (5, .mut 72 [rowsAV h2, .bs 600 2 0 x.1.length]), (600, .mut 77 (itemsCells x.1))])
    (fun x => L.length - x.2) (fun x => x.2 ≤ L.length ∧ a3 ≤ x.2 ∧ x.1.length ≤ x.2 ∧ itemsS L a3 = (itemsS L x.2).map fun p => (x.1 ++ p.1, p.2)) ([], a3) id ⟨ha3, Nat.le_refl _, Nat.zero_le _, by cases itemsS L a3 <;> rfl⟩ ⟨?_, ?_, ?_, ?_, ?_, ?_⟩ fun x hx => ?_
   all_goals first | (with_reducible refine W_id ?_) | (simp [push_cast, hpr, hprn, nilV, hre, hrn, hce, hcr, hi0, rowsAV]; done)
   obtain ⟨xs, a4⟩ := x
   obtain ⟨ha4, ha34, hxl, hxs⟩ := hx
   simp only at ha4 ha34 hxl hxs
   have hs := sees_ok f false L a4 itemKinds noPan (by omega) ha4
   rw [itemsS_eq L a4] at hxs
   obtain ⟨sb, hsbe⟩ : ∃ b, b = seesS L a4 itemKinds := ⟨_, rfl⟩
   rw [← hsbe] at hs hxs
   by_cases hsb : sb = false
   ·
    subst hsb
    have hfin : itemsS L a3 = some (xs, a4) := by rw [hxs]; simp
    repeat' (first
     | with_reducible apply W_seq
     | with_reducible refine W_rg ?_
     | (rw [vcn]; (try simp [push_cast, nilV]))
     | fail)
    refine CallG_meth (id := 1000000) (ks := some (80, 5, itemKinds.map byteV)) (args' := [.bp 1000000 0, .slc false 1 7 (itemKinds.map byteV)]) (methMk (hs) ?_) ?_
    · refine ⟨?_, ?_, ?_, ?_, fun _ _ _ h_ => ?_, ?_, ?_, fun _ _ h_ => ?_⟩ <;> (try cases h_) <;> (try simp [natAV, frzK, resDL, resD, entryB_env, entryB_box, refsL_bytes, recAV, push_cast, hpr, hre, keyK, itemKinds, hie]) <;> first | rfl | (rw [List.take_of_length_le (by simp)]; done)
    try dsimp only
    repeat' (first
     | with_reducible first | apply thenW_n | apply thenW_exit | apply blockW_same | apply loopW_exit | apply W_exit
     | (rw [vcn]; (try simp [push_cast, keyK, nilV]))
     | (with_reducible refine W_condW ?_; (try simp [AS.val, upd, resB, mkS_env, mkS_box, lk, entry_env, condW_true, condW_false, keyK, nilV]))
     | fail)
    refine joinW_n (xs, a4) id ⟨ha4, ha34, hfin, by simp only; omega⟩ ⟨?_, ?_, ?_, ?_, ?_, ?_⟩
    all_goals first | (simp [push_cast, hpr, hprn, nilV, hre, hrn, hce, hcr, hie, hir, rowsAV]; done)
   have hsb1 : sb = true := by simpa using hsb
   subst hsb1
   rw [if_pos rfl] at hxs
   have hitem := item_ok f L a4 hL hbody hsbe.symm
   cases hr : itemS L a4 with
   | none =>
    rw [hr] at hitem hxs
    have ho : out = none := by
     rw [hout2, hcs, hcell, hxs]
     rfl
    rw [ho]
    repeat' (first
     | with_reducible apply W_seq
     | with_reducible refine W_rg ?_
     | (rw [vcn]; (try simp [push_cast, nilV]))
     | fail)
    refine CallG_meth (id := 1000000) (ks := some (80, 5, itemKinds.map byteV)) (args' := [.bp 1000000 0, .slc false 1 7 (itemKinds.map byteV)]) (methMk (hs) ?_) ?_
    · refine ⟨?_, ?_, ?_, ?_, fun _ _ _ h_ => ?_, ?_, ?_, fun _ _ h_ => ?_⟩ <;> (try cases h_) <;> (try simp [natAV, frzK, resDL, resD, entryB_env, entryB_box, refsL_bytes, recAV, push_cast, hpr, hre, keyK, itemKinds, hie]) <;> first | rfl | (rw [List.take_of_length_le (by simp)]; done)
    try dsimp only
    repeat' (first
     | with_reducible first | apply thenW_n | apply W_block | apply W_skip
     | (rw [vcn]; (try simp [push_cast, keyK, nilV]))
     | (refine W_drawnP isWrong mixed (by decide) (by kernel_rfl) (by intro pl s hpl; first | exact False.elim hpl | (repeat' (with_reducible first | apply thenW_panic | apply blockW_panic | apply loopW_panic | apply joinW_panic)); exact ⟨pl, rfl, hpl⟩) ?_)
     | (rw [vcnDP]; (try simp [push_cast, keyK, nilV]))
     | (with_reducible refine W_condW ?_; (try simp [AS.val, upd, resB, mkS_env, mkS_box, lk, entry_env, condW_true, condW_false, keyK, nilV]))
     | fail)
    refine callDP_dies (itemAV ([], [])) (id := 1000000) (ks := none) (args' := [.bp 1000000 0]) (methMk (hitem) ?_) ?_
    · refine ⟨?_, ?_, ?_, ?_, fun _ _ _ h_ => ?_, ?_, ?_, fun _ _ h_ => ?_⟩ <;> (try cases h_) <;> (try simp [natAV, frzK, resDL, resD, entryB_env, entryB_box, refsL_bytes, recAV, push_cast, hpr, hre]) <;> first | rfl | (rw [List.take_of_length_le (by simp)]; done)
    try dsimp only
    repeat' (first
     | (rw [vcnDP]; (try simp [push_cast, keyK, nilV, itemAV, rowsAV, hil, recsCells_nil]))
     | refine And.intro (by first | omega | kernel_rfl) ?_
     | fail)
    kernel_rfl
   | some q =>
    obtain ⟨x, a5⟩ := q
    obtain ⟨fl, ps⟩ := x
    rw [hr] at hitem hxs
    obtain ⟨h45, ha5⟩ := itemS_le hr
    have hxs : itemsS L a3 = (itemsS L a5).map fun p => ((xs ++ [(fl, ps)]) ++ p.1, p.2) := by
     rw [hxs]
     simp only
     cases itemsS L a5 with
     | none => rfl
     | some q => simp
    have hsn := itemsCells_snoc xs (fl, ps)
    simp only [rowsAV] at hsn
    repeat' (first
     | with_reducible apply W_seq
     | with_reducible refine W_rg ?_
     | (rw [vcn]; (try simp [push_cast, nilV]))
     | fail)
    refine CallG_meth (id := 1000000) (ks := some (80, 5, itemKinds.map byteV)) (args' := [.bp 1000000 0, .slc false 1 7 (itemKinds.map byteV)]) (methMk (hs) ?_) ?_
    · refine ⟨?_, ?_, ?_, ?_, fun _ _ _ h_ => ?_, ?_, ?_, fun _ _ h_ => ?_⟩ <;> (try cases h_) <;> (try simp [natAV, frzK, resDL, resD, entryB_env, entryB_box, refsL_bytes, recAV, push_cast, hpr, hre, keyK, itemKinds, hie]) <;> first | rfl | (rw [List.take_of_length_le (by simp)]; done)
    try dsimp only
    repeat' (first
     | with_reducible first | apply thenW_n | apply W_block | apply W_skip
     | (rw [vcn]; (try simp [push_cast, keyK, nilV]))
     | (refine W_drawnP noPan mixed (by decide) (by kernel_rfl) (by intro pl s hpl; first | exact False.elim hpl | (repeat' (with_reducible first | apply thenW_panic | apply blockW_panic | apply loopW_panic | apply joinW_panic)); exact ⟨pl, rfl, hpl⟩) ?_)
     | (rw [vcnDP]; (try simp [push_cast, keyK, nilV]))
     | (with_reducible refine W_condW ?_; (try simp [AS.val, upd, resB, mkS_env, mkS_box, lk, entry_env, condW_true, condW_false, keyK, nilV]))
     | fail)
    refine callDP_meth (id := 1000000) (ks := none) (args' := [.bp 1000000 0]) (methMk (Meth.any hitem) ?_) ?_
    · refine ⟨?_, ?_, ?_, ?_, fun _ _ _ h_ => ?_, ?_, ?_, fun _ _ h_ => ?_⟩ <;> (try cases h_) <;> (try simp [natAV, frzK, resDL, resD, entryB_env, entryB_box, refsL_bytes, recAV, push_cast, hpr, hre, itemAV, rowsAV]) <;> first | rfl | (rw [List.take_of_length_le (by simp)]; done)
    try dsimp only
    repeat' (first
     | with_reducible apply blockW_n
     | (rw [vcnDP]; (try simp [push_cast, keyK, nilV, itemAV, rowsAV, hil]))
     | refine And.intro (by first | omega | kernel_rfl) ?_
     | fail)
    refine loopW_n (xs ++ [(fl, ps)], a5) (fun i => if i = 600 then 87 else i) (by simp only; omega) ⟨ha5, by simp only; omega, by simp; omega, hxs⟩ ⟨?_, ?_, ?_, ?_, ?_, ?_⟩
    all_goals first | (simp [push_cast, hpr, hprn, nilV, hre, hrn, hce, hcr, hie, hir, rowsAV, hsn]; done) | (simp [push_cast, hpr, hprn, nilV, hre, hrn, hce, hcr, hie, hir, rowsAV, hsn]; omega)
  obtain ⟨xs, a4⟩ := x
  obtain ⟨ha4, ha34, hxs, hxl⟩ := hx
  simp only at ha4 ha34 hxl
  rw [hxs] at hcell
  simp only at hcell
  have hm := must_ok f L a4 7 (by omega) hbody ha4
  cases hr : mustS L a4 7 with
  | none =>
   rw [hr] at hm hcell
   have ho : out = none := by
    rw [hout2, hcs, hcell]
    rfl
   rw [ho]
   repeat' (first
    | with_reducible apply W_seq
    | with_reducible refine W_rg ?_
    | (rw [vcn]; (try simp [push_cast, nilV]))
    | fail)
   refine CallG_methP (id := 1000000) (ks := none) (args' := [.bp 1000000 0, byteV 7]) (methMk (hm) ?_) ?_
   · refine ⟨?_, ?_, ?_, ?_, fun _ _ _ h_ => ?_, ?_, ?_, fun _ _ h_ => ?_⟩ <;> (try cases h_) <;> (try simp [natAV, frzK, resDL, resD, entryB_env, entryB_box, refsL_bytes, recAV, push_cast, hpr]) <;> first | rfl | (rw [List.take_of_length_le (by simp)]; done)
   try dsimp only
   intro pl s' hpl
   (repeat' (with_reducible first | apply thenW_panic | apply blockW_panic | apply loopW_panic | apply joinW_panic))
   exact ⟨pl, rfl, hpl⟩
  | some r =>
  obtain ⟨k7, d7, b7⟩ := r
  rw [hr] at hm hcell
  have hlt7 := (mustS_lt hr).1
  have hcs : cellsS L (a + 1) = (cellsS L (a4 + 1)).map fun p => ((cs ++ [(h2, xs)]) ++ p.1, p.2) := by
   rw [hcs, hcell]
   simp only
   cases cellsS L (a4 + 1) with
   | none => rfl
   | some q => simp
  refine W_seq ?_
  refine W_joinQ (X := Unit) (fun x => [(0, .bp 1000000 0), (2, .bp 2 0), (3, .bp 3 0), (5, .bp 5 0)]) (fun _ => [(1000000, .mut 110 (parC f L (a4 + 1))), (2, .mut 58 [nilV, nilV]), (3, .mut 58 [.bs 900 3 0 H.length, .bs 700 2 0 cs.length]), (900, .mut 24 (recsCells H)), (700, .mut 72 (cellsCells cs)), (5, .mut 72 [rowsAV h2, .bs 600 2 0 xs.length]), (600, .mut 77 (itemsCells xs))])
   (fun _ => True) ?_ fun _ _ => ?_
  ·
   repeat' (first
    | with_reducible refine W_rg ?_
    | (rw [vcn]; (try simp [push_cast, nilV]))
    | fail)
   refine CallG_meth (id := 1000000) (ks := none) (args' := [.bp 1000000 0, byteV 7]) (methMk (hm) ?_) ?_
   · refine ⟨?_, ?_, ?_, ?_, fun _ _ _ h_ => ?_, ?_, ?_, fun _ _ h_ => ?_⟩ <;> (try cases h_) <;> (try simp [natAV, frzK, resDL, resD, entryB_env, entryB_box, refsL_bytes, recAV, push_cast, hpr]) <;> first | rfl | (rw [List.take_of_length_le (by simp)]; done)
   try dsimp only
   repeat' (first
    | (rw [vcn]; (try simp [push_cast, keyK, nilV, recAV]))
    | fail)
   refine joinW_n () id trivial ⟨?_, ?_, ?_, ?_, ?_, ?_⟩
   all_goals first | (simp [push_cast, hpr, hprn, nilV, hre, hrn, hce, hcr, hie, hir, rowsAV]; done)
  refine W_frz 600 (e := 77) (l := itemsCells xs) (by simp [mkS_box, lk]) (hie xs) ?_
  refine W_later (later_res 5 (e := 72) (l := [rowsAV h2, .bs 600 2 0 xs.length]) (by simp [mkS_box, lk, upd]) [rowsAV h2, itemsAV xs] ?_) ?_
  ·
   simp [resDL, resD, resB, mkS_box, lk, upd, hil, rowsAV, itemsAV]
   exact List.take_of_length_le (by rw [hil]; omega)
  have hsn := cellsCells_snoc cs (h2, xs)
  simp only [rowsAV, itemsAV] at hsn
  repeat' (first
   | with_reducible apply blockW_n
   | with_reducible refine W_rg ?_
   | (rw [vcn]; (try simp [push_cast, nilV, rowsAV, itemsAV, hcl]))
   | refine And.intro (by first | omega | kernel_rfl) ?_
   | fail)
  refine loopW_n (cs ++ [(h2, xs)], a4 + 1) (fun i => if i = 700 then 97 else i) (by simp only; omega) ⟨by simp only; omega, by simp; omega, hcs⟩ ⟨?_, ?_, ?_, ?_, ?_, ?_⟩
  all_goals first | (simp [push_cast, hpr, hprn, nilV, hre, hrn, hce, hcr, hie, hir, rowsAV, itemsAV, hsn]; done) | (simp [push_cast, hpr, hprn, nilV, hre, hrn, hce, hcr, hie, hir, rowsAV, itemsAV, hsn]; omega)
 obtain ⟨cs, a2⟩ := x
 obtain ⟨ha2, hcs, hcl2⟩ := hx
 simp only at ha2 hcl2
 rw [hcs] at hout2
 simp only at hout2
 have hm := must_ok f L a2 4 (by omega) hbody ha2
 cases hr : mustS L a2 4 with
 | none =>
  rw [hr] at hm hout2
  have ho : out = none := hout2
  rw [ho]
  repeat' (first
   | with_reducible apply W_seq
   | with_reducible refine W_rg ?_
   | (rw [vcn]; (try simp [push_cast, nilV]))
   | fail)
  refine CallG_methP (id := 1000000) (ks := none) (args' := [.bp 1000000 0, byteV 4]) (methMk (hm) ?_) ?_
  · refine ⟨?_, ?_, ?_, ?_, fun _ _ _ h_ => ?_, ?_, ?_, fun _ _ h_ => ?_⟩ <;> (try cases h_) <;> (try simp [natAV, frzK, resDL, resD, entryB_env, entryB_box, refsL_bytes, recAV, push_cast, hpr]) <;> first | rfl | (rw [List.take_of_length_le (by simp)]; done)
  try dsimp only
  intro pl s' hpl
  (repeat' (with_reducible first | apply thenW_panic | apply blockW_panic | apply loopW_panic | apply joinW_panic))
  exact ⟨pl, rfl, hpl⟩
 | some r =>
 rw [hr] at hm hout2
 have ho : out = some ((H, cs), a2 + 1) := hout2
 rw [ho]
 refine W_seq ?_
 refine W_joinQ (X := Unit) (fun _ => [(2, .bp 2 0), (3, .bp 3 0)]) (fun _ => [(1000000, .mut 110 (parC f L (a2 + 1))), (2, .mut 58 [nilV, nilV]), (3, .mut 58 [.bs 900 3 0 H.length, .bs 700 2 0 cs.length]), (900, .mut 24 (recsCells H)), (700, .mut 72 (cellsCells cs))])
  (fun _ => True) ?_ fun _ _ => ?_
 ·
  repeat' (first
   | with_reducible refine W_rg ?_
   | (rw [vcn]; (try simp [push_cast, nilV]))
   | fail)
  refine CallG_meth (id := 1000000) (ks := none) (args' := [.bp 1000000 0, byteV 4]) (methMk (hm) ?_) ?_
  · refine ⟨?_, ?_, ?_, ?_, fun _ _ _ h_ => ?_, ?_, ?_, fun _ _ h_ => ?_⟩ <;> (try cases h_) <;> (try simp [natAV, frzK, resDL, resD, entryB_env, entryB_box, refsL_bytes, recAV, push_cast, hpr]) <;> first | rfl | (rw [List.take_of_length_le (by simp)]; done)
  try dsimp only
  repeat' (first
   | (rw [vcn]; (try simp [push_cast, keyK, nilV, recAV]))
   | fail)
  refine joinW_n () id trivial ⟨?_, ?_, ?_, ?_, ?_, ?_⟩
  all_goals first | (simp [push_cast, hpr, hprn, nilV, hre, hrn, hce, hcr]; done)
 refine W_frz 900 (e := 24) (l := recsCells H) (by simp [mkS_box, lk]) (hre H) ?_
 refine W_frz 700 (e := 72) (l := cellsCells cs) (by simp [mkS_box, lk, upd]) (hce cs) ?_
 refine W_later (later_res 3 (e := 58) (l := [.bs 900 3 0 H.length, .bs 700 2 0 cs.length]) (by simp [mkS_box, lk, upd]) [rowsAV H, cellsAV cs] ?_) ?_
 ·
  simp [resDL, resD, resB, mkS_box, lk, upd, hrl, hcl, rowsAV, cellsAV]
  exact ⟨List.take_of_length_le (by rw [hrl]; omega), List.take_of_length_le (by rw [hcl]; omega)⟩
 repeat' (first
  | with_reducible first | apply thenW_n | apply W_seq | apply W_ret
  | with_reducible refine W_rg ?_
  | (rw [vcn]; (try simp [push_cast, nilV]))
  | fail)
 simp [postB, resAV, resAll, resOne, resD, resDL, push_cast, libAV, rowsAV, cellsAV, hre, hce]
end Go.Fw
