import Derived.Test.YtjgbikhnnkigpaaGp17
import Derived.Test.YtjgbikhnnkigpaaGp30b
import Derived.Test.YtjgbikhnnkigpaaQ4b
set_option linter.unusedSimpArgs false
set_option linter.unusedVariables false
-- VALS: recAV, libAV, rowsAV, cellsAV, nilV
namespace Go.Fw
open Go Go.Proofs Go.IntWalk
set_option linter.unusedSimpArgs false
set_option maxRecDepth 100000
set_option maxHeartbeats 4000000
open List (map_take map_drop)
attribute [local push_cast] optK_some optK_none optK_ite optK_map optK_bind gOn stepK isMem evPure evMem evBin evUn evConv evLen evBuiltin evMinMax evSlice evBuild evAppend evIndex evIndexAddr evField evFieldAddr intBin strBin appDest AS.val AS.mem AS.elems AS.put AS.put' AS.eff AV.cells? AV.isCell AV.refs all_isByte take_byteV drop_byteV strOf_map bndOk bnd partAV ptrAdd killBox catA inOrder fillA setAt ofVal resB upd byteV List.head?_take List.head?_drop List.getElem?_map mkS_env mkS_box mkS_used entry_env entry_box entry_used lk stepD lookIds Oper.looksAt Op.operands Call.operands St.ids refsL renL_append dV_take dV_drop ren renL renBox Box.refs iV i64V boolV dV_getElem dV_app dV_cons toNat_add2 toNat_add1
def treeAV (L : List Rec) : AV := match parseS L with
 | some t => .tup [libAV t, .v (.bool true)]
 | none => .tup [.agg [nilV, nilV], .v (.bool false)]
def TreeOk : Prop := ∀ (f : Bool) (L : List Rec), L.length ≤ 100000000 → (∀ r ∈ L, r.2.2.length ≤ 140737488355328) → Eval Try.prog 60 [.slc f 3 L.length (recsCells L)] (.ret (treeAV L))
def refReadAV (bs : List UInt8) : AV := match readS bs with
 | none => .tup [.agg [nilV, nilV], i64V 0, i64V 20]
 | some (t, n) => .tup [libAV t, i64V n, i64V 0]
theorem refRead_ok (hT : TreeOk) (f : Bool) (bs : List UInt8) (hs : bs.length ≤ 50000000) : Eval Try.prog 36 [.slc f 1 bs.length (bs.map byteV)] (.ret (refReadAV bs)) := by
 have h20 := refSplit_ok f bs (by omega)
 have herr := fun e => split_err (bs := bs) (e := e)
 have hsm := fun l n => split_small (bs := bs) (l := l) (n := n)
 obtain ⟨out, hout⟩ : ∃ o, o = refReadAV bs := ⟨_, rfl⟩
 rw [← hout]
 have hout2 := hout
 rw [refReadAV, readS] at hout2
 clear hout
 rw [splitAV] at h20
 obtain ⟨A, hA⟩ : ∃ A, A = bs.map byteV := ⟨_, rfl⟩
 have hAr : refsL A = [] := by rw [hA]; exact refsL_bytes _
 rw [← hA] at h20 ⊢
 have hT0 : Eval Try.prog 60 [.v (.slice none 0 0)] (.ret (.tup [.agg [nilV, nilV], .v (.bool false)])) := by
  have h := hT false [] (by decide) (fun r hr => by cases hr)
  have e : treeAV [] = .tup [.agg [nilV, nilV], .v (.bool false)] := by
   have : parseS [] = none := by decide
   rw [treeAV, this]
  rw [e] at h
  exact Eval.arg h (SubL.cons (Sub.nil false 3) SubL.nil)
 simp only [nilV] at hT0
 refine Eval.intro Try.func36 rfl Try.call36 _ _ (Nat.le_of_ble_eq_true rfl) (by simp [natAV, recAV, libAV, rowsAV, cellsAV, nilV, push_cast]) fun hs0 => ?_
 cases hsp : splitSpec bs with
 | error e =>
  rw [hsp] at h20 hout2
  have he := herr e hsp
  simp only at h20 hout2
  rw [hout2]
  have g1 : (e != 0) = true := by rw [bne_iff_ne]; exact he
  have g1' : (e == 0) = false := by rw [beq_eq_false_iff_ne]; exact he
  have g1'' : (e = 0) = False := eq_false he
  repeat' (first
   | with_reducible first | apply thenW_n | apply W_seq
   | with_reducible refine W_rg ?_
   | (rw [vcn]; (try simp [push_cast, g1, g1', g1'']))
   | fail)
  refine CallG_of (h20) rfl rfl rfl ?_
  try dsimp only
  repeat' (first
   | with_reducible first | apply thenW_n | apply W_seq
   | with_reducible refine W_rg ?_
   | (rw [vcn]; (try simp [push_cast, g1, g1', g1'']))
   | fail)
  refine CallG_of (hT0) rfl rfl rfl ?_
  try dsimp only
  repeat' (first
   | with_reducible first | apply thenW_n | apply thenW_ret | apply W_seq | apply W_ret
   | with_reducible refine W_rg ?_
   | (rw [vcn]; (try simp [push_cast, g1, g1', g1'']))
   | (with_reducible refine W_condW ?_; (try simp [AS.val, upd, resB, mkS_env, mkS_box, lk, entry_env, condW_true, condW_false, g1, g1', g1'']))
   | fail)
  simp [post, resAV, resAll, resOne, closeV, closeC, closeL, resD, resDL, push_cast, nilV]
 | ok p =>
  obtain ⟨l, n⟩ := p
  obtain ⟨hb1, hb2, hb3⟩ := hsm l n hsp
  have hp := hT false l (by omega) (fun r hr => by have := hb3 r hr; omega)
  rw [treeAV] at hp
  rw [hsp] at h20 hout2
  simp only at h20 hout2
  obtain ⟨L, hL⟩ : ∃ A, A = recsCells l := ⟨_, rfl⟩
  rw [← hL] at h20 hp
  cases hps : parseS l with
  | none =>
   rw [hps] at hout2 hp
   simp only [nilV] at hp
   rw [hout2]
   repeat' (first
    | with_reducible first | apply thenW_n | apply W_seq
    | with_reducible refine W_rg ?_
    | (rw [vcn]; (try simp [push_cast]))
    | fail)
   refine CallG_of (h20) rfl rfl rfl ?_
   try dsimp only
   repeat' (first
    | with_reducible first | apply thenW_n | apply W_seq
    | with_reducible refine W_rg ?_
    | (rw [vcn]; (try simp [push_cast]))
    | fail)
   refine CallG_of (hp) rfl rfl rfl ?_
   try dsimp only
   repeat' (first
    | with_reducible first | apply thenW_n | apply thenW_ret | apply W_seq | apply W_ret
    | with_reducible refine W_rg ?_
    | (rw [vcn]; (try simp [push_cast]))
    | (with_reducible refine W_condW ?_; (try simp [AS.val, upd, resB, mkS_env, mkS_box, lk, entry_env, condW_true, condW_false]))
    | fail)
   simp [post, resAV, resAll, resOne, closeV, closeC, closeL, resD, resDL, push_cast, nilV]
  | some t =>
   rw [hps] at hout2 hp
   obtain ⟨H, cs⟩ := t
   simp only [libAV] at hp hout2
   rw [hout2]
   obtain ⟨A2, hA2⟩ : ∃ A, A = recsCells H := ⟨_, rfl⟩
   obtain ⟨B2, hB2⟩ : ∃ A, A = cellsCells cs := ⟨_, rfl⟩
   simp only [rowsAV, cellsAV, ← hA2, ← hB2, Option.map_some] at hp ⊢
   repeat' (first
    | with_reducible first | apply thenW_n | apply W_seq
    | with_reducible refine W_rg ?_
    | (rw [vcn]; (try simp [push_cast]))
    | fail)
   refine CallG_of (h20) rfl rfl rfl ?_
   try dsimp only
   repeat' (first
    | with_reducible first | apply thenW_n | apply W_seq
    | with_reducible refine W_rg ?_
    | (rw [vcn]; (try simp [push_cast]))
    | fail)
   refine CallG_of (hp) rfl rfl rfl ?_
   try dsimp only
   repeat' (first
    | with_reducible first | apply thenW_n | apply W_seq | apply W_skip | apply W_ret
    | with_reducible refine W_rg ?_
    | (rw [vcn]; (try simp [push_cast]))
    | (with_reducible refine W_condW ?_; (try simp [AS.val, upd, resB, mkS_env, mkS_box, lk, entry_env, condW_true, condW_false]))
    | fail)
   simp [post, resAV, resAll, resOne, closeV, closeC, closeL, resD, resDL, push_cast, nilV]
theorem refValid_ok (hT : TreeOk) (t : Lib) (res : Bool) (hres : res = true ↔ refValidS t) (hb : (flatS t).length ≤ 100000000) (hbody : ∀ r ∈ flatS t, r.2.2.length ≤ 140737488355328) : Eval Try.prog 43 [libAV t] (.ret (.v (.bool res))) := by
 have hf := records_ok t.1 t.2 hb (fun r hr => by have := hbody r hr; omega)
 have hp := hT false (flatS t) hb hbody
 rw [treeAV] at hp
 unfold refValidS at hres
 have hlk := fun u => sameLib_ok t u
 obtain ⟨H, cs⟩ := t
 obtain ⟨A, hA⟩ : ∃ A, A = recsCells H := ⟨_, rfl⟩
 obtain ⟨B, hB⟩ : ∃ A, A = cellsCells cs := ⟨_, rfl⟩
 have hAr : refsL A = [] := by rw [hA]; exact recsCells_refs _
 have hBr : refsL B = [] := by rw [hB]; exact cellsCells_refs _
 obtain ⟨F, hF⟩ : ∃ A, A = recsCells (flatS (H, cs)) := ⟨_, rfl⟩
 obtain ⟨n, hn⟩ : ∃ n, n = (flatS (H, cs)).length := ⟨_, rfl⟩
 simp only [libAV, rowsAV, cellsAV, ← hA, ← hB, ← hF, ← hn] at hf hp hlk ⊢
 refine Eval.intro Try.func43 rfl Try.call43 _ _ (Nat.le_of_ble_eq_true rfl) (by simp [natAV, recAV, libAV, rowsAV, cellsAV, nilV, push_cast]) fun hs0 => ?_
 cases hps : parseS (flatS (H, cs)) with
 | none =>
  rw [hps] at hp hres
  have hr : res = false := by
   rw [← Bool.not_eq_true, hres]
   exact fun h => by cases h
  simp only [nilV] at hp
  rw [hr]
  repeat' (first
   | with_reducible first | apply thenW_n | apply W_seq
   | with_reducible refine W_rg ?_
   | (rw [vcn]; (try simp [push_cast]))
   | fail)
  refine CallG_of (hf) rfl rfl rfl ?_
  try dsimp only
  repeat' (first
   | (rw [vcn]; (try simp [push_cast]))
   | fail)
  refine CallG_of (hp) rfl rfl rfl ?_
  try dsimp only
  repeat' (first
   | with_reducible first | apply thenW_n | apply W_seq | apply W_ret
   | with_reducible refine W_rg ?_
   | (rw [vcn]; (try simp [push_cast]))
   | fail)
  simp [post, resAV, resAll, resOne, closeV, closeC, closeL, resD, resDL, push_cast]
 | some u =>
  rw [hps] at hp hres
  obtain ⟨H2, cs2⟩ := u
  have hlk := hlk (H2, cs2) res (by rw [hres]; exact ⟨fun h => by cases h; rfl, fun h => by rw [h]⟩)
  obtain ⟨A2, hA2⟩ : ∃ A, A = recsCells H2 := ⟨_, rfl⟩
  obtain ⟨B2, hB2⟩ : ∃ A, A = cellsCells cs2 := ⟨_, rfl⟩
  simp only [← hA2, ← hB2] at hp hlk ⊢
  repeat' (first
   | with_reducible first | apply thenW_n | apply W_seq
   | with_reducible refine W_rg ?_
   | (rw [vcn]; (try simp [push_cast]))
   | fail)
  refine CallG_of (hf) rfl rfl rfl ?_
  try dsimp only
  repeat' (first
   | (rw [vcn]; (try simp [push_cast]))
   | fail)
  refine CallG_of (hp) rfl rfl rfl ?_
  try dsimp only
  repeat' (first
   | with_reducible first | apply thenW_n | apply W_seq
   | with_reducible refine W_rg ?_
   | (rw [vcn]; (try simp [push_cast]))
   | fail)
  refine CallG_of (hlk) rfl rfl rfl ?_
  try dsimp only
  repeat' (first
   | with_reducible first | apply thenW_n | apply W_ret
   | (rw [vcn]; (try simp [push_cast]))
   | fail)
  simp [post, resAV, resAll, resOne, closeV, closeC, closeL, resD, resDL, push_cast]
end Go.Fw
-- VALS: recAV, libAV, rowsAV, cellsAV, nilV
namespace Go.Fw
open Go Go.Proofs Go.IntWalk
set_option linter.unusedSimpArgs false
set_option maxRecDepth 100000
set_option maxHeartbeats 4000000
open List (map_take map_drop)
attribute [local push_cast] optK_some optK_none optK_ite optK_map optK_bind gOn stepK isMem evPure evMem evBin evUn evConv evLen evBuiltin evMinMax evSlice evBuild evAppend evIndex evIndexAddr evField evFieldAddr intBin strBin appDest AS.val AS.mem AS.elems AS.put AS.put' AS.eff AV.cells? AV.isCell AV.refs all_isByte take_byteV drop_byteV strOf_map bndOk bnd partAV ptrAdd killBox catA inOrder fillA setAt ofVal resB upd byteV List.head?_take List.head?_drop List.getElem?_map mkS_env mkS_box mkS_used entry_env entry_box entry_used lk stepD lookIds Oper.looksAt Op.operands Call.operands St.ids refsL renL_append dV_take dV_drop ren renL renBox Box.refs iV i64V boolV dV_getElem dV_app dV_cons toNat_add2 toNat_add1
def writeBAV (v : Bool) (t : Lib) : AV := if v = true then (if joinOk (flatS t) = true ∧ 16777216 < (joinB (flatS t)).length then .tup [nilV, i64V 2] else joinAV (flatS t)) else .tup [nilV, i64V 3]
theorem writeAV_eq (t : Lib) : writeAV t = writeBAV (validS t) t := rfl
theorem refWrite_ok (hT : TreeOk) (t : Lib) (v : Bool) (hvv : v = true ↔ refValidS t) (hb : (flatS t).length ≤ 1000000) (hB : joinOk (flatS t) = true → (joinB (flatS t)).length ≤ 100000000) (hbody : ∀ r ∈ flatS t, r.2.2.length ≤ 140737488355328) : Eval Try.prog 41 [libAV t] (.ret (writeBAV v t)) := by
 have hf := records_ok t.1 t.2 (by omega : (flatS t).length ≤ 100000000) (fun r hr => by have := hbody r hr; omega)
 have hv := refValid_ok hT t v hvv (by omega) hbody
 have hj := refJoin_ok false (flatS t) hB hb
 obtain ⟨out, hout⟩ : ∃ o, o = writeBAV v t := ⟨_, rfl⟩
 rw [← hout]
 have hout2 := hout
 rw [writeBAV] at hout2
 clear hout
 rw [joinAV] at hj hout2
 obtain ⟨B, hB2⟩ : ∃ B, B = joinB (flatS t) := ⟨_, rfl⟩
 obtain ⟨jo, hjo⟩ : ∃ b, b = joinOk (flatS t) := ⟨_, rfl⟩
 rw [← hjo, ← hB2] at hj hout2 hB
 clear hvv
 obtain ⟨H, cs⟩ := t
 obtain ⟨A, hA⟩ : ∃ A, A = recsCells H := ⟨_, rfl⟩
 obtain ⟨C, hC⟩ : ∃ A, A = cellsCells cs := ⟨_, rfl⟩
 have hAr : refsL A = [] := by rw [hA]; exact recsCells_refs _
 have hCr : refsL C = [] := by rw [hC]; exact cellsCells_refs _
 obtain ⟨F, hF⟩ : ∃ A, A = recsCells (flatS (H, cs)) := ⟨_, rfl⟩
 obtain ⟨n, hn⟩ : ∃ n, n = (flatS (H, cs)).length := ⟨_, rfl⟩
 simp only [libAV, rowsAV, cellsAV, ← hA, ← hC, ← hF, ← hn] at hf hv hj ⊢
 clear hjo hB2
 refine Eval.intro Try.func41 rfl Try.call41 _ _ (Nat.le_of_ble_eq_true rfl) (by simp [natAV, recAV, libAV, rowsAV, cellsAV, nilV, push_cast]) fun hs0 => ?_
 cases v with
 | false =>
  rw [if_neg (by decide)] at hout2
  rw [hout2]
  repeat' (first
   | with_reducible first | apply thenW_n | apply W_seq
   | with_reducible refine W_rg ?_
   | (rw [vcn]; (try simp [push_cast]))
   | fail)
  refine CallG_of (hv) rfl rfl rfl ?_
  try dsimp only
  repeat' (first
   | with_reducible first | apply thenW_n | apply thenW_ret | apply W_seq | apply W_ret
   | with_reducible refine W_rg ?_
   | (rw [vcn]; (try simp [push_cast]))
   | (with_reducible refine W_condW ?_; (try simp [AS.val, upd, resB, mkS_env, mkS_box, lk, entry_env, condW_true, condW_false]))
   | fail)
  simp [post, resAV, resAll, resOne, closeV, closeC, closeL, resD, resDL, push_cast, nilV]
 | true =>
  rw [if_pos rfl] at hout2
  cases jo with
  | false =>
   rw [if_neg (by simp), if_neg (by decide)] at hout2
   rw [if_neg (by decide)] at hj
   rw [hout2]
   repeat' (first
    | with_reducible first | apply thenW_n | apply W_seq
    | with_reducible refine W_rg ?_
    | (rw [vcn]; (try simp [push_cast]))
    | fail)
   refine CallG_of (hv) rfl rfl rfl ?_
   try dsimp only
   repeat' (first
    | with_reducible first | apply thenW_n | apply W_seq | apply W_skip
    | with_reducible refine W_rg ?_
    | (rw [vcn]; (try simp [push_cast]))
    | (with_reducible refine W_condW ?_; (try simp [AS.val, upd, resB, mkS_env, mkS_box, lk, entry_env, condW_true, condW_false]))
    | fail)
   refine CallG_of (hf) rfl rfl rfl ?_
   try dsimp only
   repeat' (first
    | (rw [vcn]; (try simp [push_cast]))
    | fail)
   refine CallG_of (hj) rfl rfl rfl ?_
   try dsimp only
   repeat' (first
    | with_reducible first | apply thenW_n | apply W_seq | apply W_skip | apply W_ret
    | with_reducible refine W_rg ?_
    | (rw [vcn]; (try simp [push_cast]))
    | (with_reducible refine W_condW ?_; (try simp [AS.val, upd, resB, mkS_env, mkS_box, lk, entry_env, condW_true, condW_false]))
    | fail)
   simp [post, resAV, resAll, resOne, closeV, closeC, closeL, resD, resDL, push_cast, nilV]
  | true =>
   have hB := hB rfl
   rw [if_pos rfl] at hj
   by_cases hbig : 16777216 < B.length
   ·
    rw [if_pos ⟨rfl, hbig⟩] at hout2
    rw [hout2]
    have g1 : ((B.length : Int) > 16777216) = True := eq_true (by omega)
    have g1' : (16777216 < (B.length : Int)) = True := eq_true (by omega)
    have g1'' : (16777216 < B.length) = True := eq_true hbig
    repeat' (first
     | with_reducible first | apply thenW_n | apply W_seq
     | with_reducible refine W_rg ?_
     | (rw [vcn]; (try simp [push_cast]))
     | fail)
    refine CallG_of (hv) rfl rfl rfl ?_
    try dsimp only
    repeat' (first
     | with_reducible first | apply thenW_n | apply W_seq | apply W_skip
     | with_reducible refine W_rg ?_
     | (rw [vcn]; (try simp [push_cast]))
     | (with_reducible refine W_condW ?_; (try simp [AS.val, upd, resB, mkS_env, mkS_box, lk, entry_env, condW_true, condW_false]))
     | fail)
    refine CallG_of (hf) rfl rfl rfl ?_
    try dsimp only
    repeat' (first
     | (rw [vcn]; (try simp [push_cast]))
     | fail)
    refine CallG_of (hj) rfl rfl rfl ?_
    try dsimp only
    repeat' (first
     | with_reducible first | apply thenW_n | apply thenW_ret | apply W_seq | apply W_ret
     | with_reducible refine W_rg ?_
     | (rw [vcn]; (try simp [push_cast, g1, g1', g1'']))
     | (with_reducible refine W_condW ?_; (try simp [AS.val, upd, resB, mkS_env, mkS_box, lk, entry_env, condW_true, condW_false, g1, g1', g1'']))
     | fail)
    simp [post, resAV, resAll, resOne, closeV, closeC, closeL, resD, resDL, push_cast, nilV]
   ·
    rw [if_neg (fun h => hbig h.2), if_pos rfl] at hout2
    rw [hout2]
    have g1 : ((B.length : Int) > 16777216) = False := eq_false (by omega)
    have g1' : (16777216 < (B.length : Int)) = False := eq_false (by omega)
    have g1'' : (16777216 < B.length) = False := eq_false hbig
    repeat' (first
     | with_reducible first | apply thenW_n | apply W_seq
     | with_reducible refine W_rg ?_
     | (rw [vcn]; (try simp [push_cast]))
     | fail)
    refine CallG_of (hv) rfl rfl rfl ?_
    try dsimp only
    repeat' (first
     | with_reducible first | apply thenW_n | apply W_seq | apply W_skip
     | with_reducible refine W_rg ?_
     | (rw [vcn]; (try simp [push_cast]))
     | (with_reducible refine W_condW ?_; (try simp [AS.val, upd, resB, mkS_env, mkS_box, lk, entry_env, condW_true, condW_false]))
     | fail)
    refine CallG_of (hf) rfl rfl rfl ?_
    try dsimp only
    repeat' (first
     | (rw [vcn]; (try simp [push_cast]))
     | fail)
    refine CallG_of (hj) rfl rfl rfl ?_
    try dsimp only
    repeat' (first
     | with_reducible first | apply thenW_n | apply W_seq | apply W_skip | apply W_ret
     | with_reducible refine W_rg ?_
     | (rw [vcn]; (try simp [push_cast, g1, g1', g1'']))
     | (with_reducible refine W_condW ?_; (try simp [AS.val, upd, resB, mkS_env, mkS_box, lk, entry_env, condW_true, condW_false, g1, g1', g1'']))
     | fail)
    simp [post, resAV, resAll, resOne, closeV, closeC, closeL, resD, resDL, push_cast, nilV]
end Go.Fw
