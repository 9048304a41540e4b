import Derived.Test.YtjgbikhnnkigpaaGp18
set_option linter.unusedSimpArgs false
set_option linter.unusedVariables false
-- VALS: recAV
namespace Go.Fw
open Go Go.Proofs Go.IntWalk
set_option linter.unusedSimpArgs false
set_option maxRecDepth 100000
set_option maxHeartbeats 4000000
open List (map_take map_drop)
attribute [local push_cast] optK_some optK_none optK_ite optK_map optK_bind gOn stepK isMem evPure evMem evBin evUn evConv evLen evBuiltin evMinMax evSlice evBuild evAppend evIndex evIndexAddr evField evFieldAddr intBin strBin appDest AS.val AS.mem AS.elems AS.put AS.put' AS.eff AV.cells? AV.isCell AV.refs all_isByte take_byteV drop_byteV strOf_map bndOk bnd partAV ptrAdd killBox catA inOrder fillA setAt ofVal resB upd byteV List.head?_take List.head?_drop List.getElem?_map mkS_env mkS_box mkS_used entry_env entry_box entry_used lk stepD lookIds Oper.looksAt Op.operands Call.operands St.ids refsL renL_append dV_take dV_drop ren renL renBox Box.refs iV i64V boolV dV_getElem dV_app dV_cons toNat_add2 toNat_add1
def turnD (b : Bool) : List Nat := if b = true then [26, 1027, 1028] else []
def rowsD (k : UInt8) (b : Bool) : Option (List Nat) :=
 if k = 8 then some [8, 1038, 1047, 13, 14, 16] else if k = 9 then some [9, 1038, 1047, 13, 14, 1033, 1015, 1048, 1049, 16] else if k = 10 then some ([10, 1038, 1047, 18] ++ turnD b ++ [16]) else
 if k = 11 then some ([11, 1038, 1047, 18] ++ turnD b ++ [19, 16]) else if k = 12 then some ([12, 1038, 1047, 13, 22, 1023, 1033, 1015] ++ turnD b ++ [16, 25]) else
 if k = 21 then some [21, 1038, 1047, 13, 42, 16] else if k = 45 then some [45, 1038, 1047, 13, 46, 16] else none
def intsC (ks : List Nat) : List AV := ks.map fun k : Nat => i64V (k : Int)
theorem rows_some (k : UInt8) (b : Bool) (ks : List Nat) (h : rowsD k b = some ks) : Eval Try.prog 72 [byteV k, .v (.bool b)] (.ret (.own 3 1 ks.length (intsC ks))) := by
 refine Eval.intro Try.func72 rfl Try.call72 _ _ (Nat.le_of_ble_eq_true rfl) (by simp [natAV, recAV, push_cast]) fun hs0 => ?_
 clear hs0
 by_cases h8 : k = 8
 ·
  subst h8
  rw [rowsD, if_pos rfl] at h
  cases h
  cases b
  ·
   repeat' (first
    | with_reducible first | apply thenW_n | apply thenW_ret | apply blockW_ret | apply W_seq | apply W_block | apply W_skip | apply W_ret
    | with_reducible refine W_rg ?_
    | (rw [vcn]; (try simp [push_cast]); try simp (disch := omega) only [i64_in, u64_in, shr64i])
    | (with_reducible refine W_condW ?_; (try simp [AS.val, upd, resB, mkS_env, mkS_box, lk, entry_env, condW_true, condW_false]))
    | fail)
   simp [post, resAV, resAll, resOne, closeV, closeC, closeL, resD, resDL, push_cast, intsC]
  ·
   repeat' (first
    | with_reducible first | apply thenW_n | apply thenW_ret | apply blockW_ret | apply W_seq | apply W_block | apply W_ret
    | with_reducible refine W_rg ?_
    | (rw [vcn]; (try simp [push_cast]); try simp (disch := omega) only [i64_in, u64_in, shr64i])
    | (with_reducible refine W_condW ?_; (try simp [AS.val, upd, resB, mkS_env, mkS_box, lk, entry_env, condW_true, condW_false]))
    | fail)
   simp [post, resAV, resAll, resOne, closeV, closeC, closeL, resD, resDL, push_cast, intsC]
 by_cases h9 : k = 9
 ·
  subst h9
  cases h
  cases b
  ·
   repeat' (first
    | with_reducible first | apply thenW_n | apply thenW_ret | apply blockW_ret | apply W_seq | apply W_block | apply W_skip | apply W_ret
    | with_reducible refine W_rg ?_
    | (rw [vcn]; (try simp [push_cast]); try simp (disch := omega) only [i64_in, u64_in, shr64i])
    | (with_reducible refine W_condW ?_; (try simp [AS.val, upd, resB, mkS_env, mkS_box, lk, entry_env, condW_true, condW_false]))
    | fail)
   simp [post, resAV, resAll, resOne, closeV, closeC, closeL, resD, resDL, push_cast, intsC]
  ·
   repeat' (first
    | with_reducible first | apply thenW_n | apply thenW_ret | apply blockW_ret | apply W_seq | apply W_block | apply W_ret
    | with_reducible refine W_rg ?_
    | (rw [vcn]; (try simp [push_cast]); try simp (disch := omega) only [i64_in, u64_in, shr64i])
    | (with_reducible refine W_condW ?_; (try simp [AS.val, upd, resB, mkS_env, mkS_box, lk, entry_env, condW_true, condW_false]))
    | fail)
   simp [post, resAV, resAll, resOne, closeV, closeC, closeL, resD, resDL, push_cast, intsC]
 by_cases h10 : k = 10
 ·
  subst h10
  cases b <;> cases h
  ·
   repeat' (first
    | with_reducible first | apply thenW_n | apply thenW_ret | apply blockW_ret | apply W_seq | apply W_block | apply W_skip | apply W_ret
    | with_reducible refine W_rg ?_
    | (rw [vcn]; (try simp [push_cast]); try simp (disch := omega) only [i64_in, u64_in, shr64i])
    | (with_reducible refine W_condW ?_; (try simp [AS.val, upd, resB, mkS_env, mkS_box, lk, entry_env, condW_true, condW_false]))
    | fail)
   simp [post, resAV, resAll, resOne, closeV, closeC, closeL, resD, resDL, push_cast, intsC, turnD]
  ·
   repeat' (first
    | with_reducible first | apply thenW_n | apply thenW_ret | apply blockW_ret | apply W_seq | apply W_block | apply W_ret
    | with_reducible refine W_rg ?_
    | (rw [vcn]; (try simp [push_cast]); try simp (disch := omega) only [i64_in, u64_in, shr64i])
    | (with_reducible refine W_condW ?_; (try simp [AS.val, upd, resB, mkS_env, mkS_box, lk, entry_env, condW_true, condW_false]))
    | fail)
   simp [post, resAV, resAll, resOne, closeV, closeC, closeL, resD, resDL, push_cast, intsC, turnD]
 by_cases h11 : k = 11
 ·
  subst h11
  cases b <;> cases h
  ·
   repeat' (first
    | with_reducible first | apply thenW_n | apply thenW_ret | apply blockW_ret | apply W_seq | apply W_block | apply W_skip | apply W_ret
    | with_reducible refine W_rg ?_
    | (rw [vcn]; (try simp [push_cast]); try simp (disch := omega) only [i64_in, u64_in, shr64i])
    | (with_reducible refine W_condW ?_; (try simp [AS.val, upd, resB, mkS_env, mkS_box, lk, entry_env, condW_true, condW_false]))
    | fail)
   simp [post, resAV, resAll, resOne, closeV, closeC, closeL, resD, resDL, push_cast, intsC, turnD]
  ·
   repeat' (first
    | with_reducible first | apply thenW_n | apply thenW_ret | apply blockW_ret | apply W_seq | apply W_block | apply W_ret
    | with_reducible refine W_rg ?_
    | (rw [vcn]; (try simp [push_cast]); try simp (disch := omega) only [i64_in, u64_in, shr64i])
    | (with_reducible refine W_condW ?_; (try simp [AS.val, upd, resB, mkS_env, mkS_box, lk, entry_env, condW_true, condW_false]))
    | fail)
   simp [post, resAV, resAll, resOne, closeV, closeC, closeL, resD, resDL, push_cast, intsC, turnD]
 by_cases h12 : k = 12
 ·
  subst h12
  cases b <;> cases h
  ·
   repeat' (first
    | with_reducible first | apply thenW_n | apply thenW_ret | apply blockW_ret | apply W_seq | apply W_block | apply W_skip | apply W_ret
    | with_reducible refine W_rg ?_
    | (rw [vcn]; (try simp [push_cast]); try simp (disch := omega) only [i64_in, u64_in, shr64i])
    | (with_reducible refine W_condW ?_; (try simp [AS.val, upd, resB, mkS_env, mkS_box, lk, entry_env, condW_true, condW_false]))
    | fail)
   simp [post, resAV, resAll, resOne, closeV, closeC, closeL, resD, resDL, push_cast, intsC, turnD]
  ·
   repeat' (first
    | with_reducible first | apply thenW_n | apply thenW_ret | apply blockW_ret | apply W_seq | apply W_block | apply W_ret
    | with_reducible refine W_rg ?_
    | (rw [vcn]; (try simp [push_cast]); try simp (disch := omega) only [i64_in, u64_in, shr64i])
    | (with_reducible refine W_condW ?_; (try simp [AS.val, upd, resB, mkS_env, mkS_box, lk, entry_env, condW_true, condW_false]))
    | fail)
   simp [post, resAV, resAll, resOne, closeV, closeC, closeL, resD, resDL, push_cast, intsC, turnD]
 by_cases h21 : k = 21
 ·
  subst h21
  cases h
  cases b
  ·
   repeat' (first
    | with_reducible first | apply thenW_n | apply thenW_ret | apply blockW_ret | apply W_seq | apply W_block | apply W_skip | apply W_ret
    | with_reducible refine W_rg ?_
    | (rw [vcn]; (try simp [push_cast]); try simp (disch := omega) only [i64_in, u64_in, shr64i])
    | (with_reducible refine W_condW ?_; (try simp [AS.val, upd, resB, mkS_env, mkS_box, lk, entry_env, condW_true, condW_false]))
    | fail)
   simp [post, resAV, resAll, resOne, closeV, closeC, closeL, resD, resDL, push_cast, intsC]
  ·
   repeat' (first
    | with_reducible first | apply thenW_n | apply thenW_ret | apply blockW_ret | apply W_seq | apply W_block | apply W_ret
    | with_reducible refine W_rg ?_
    | (rw [vcn]; (try simp [push_cast]); try simp (disch := omega) only [i64_in, u64_in, shr64i])
    | (with_reducible refine W_condW ?_; (try simp [AS.val, upd, resB, mkS_env, mkS_box, lk, entry_env, condW_true, condW_false]))
    | fail)
   simp [post, resAV, resAll, resOne, closeV, closeC, closeL, resD, resDL, push_cast, intsC]
 by_cases h45 : k = 45
 ·
  subst h45
  cases h
  cases b
  ·
   repeat' (first
    | with_reducible first | apply thenW_n | apply thenW_ret | apply blockW_ret | apply W_seq | apply W_block | apply W_skip | apply W_ret
    | with_reducible refine W_rg ?_
    | (rw [vcn]; (try simp [push_cast]); try simp (disch := omega) only [i64_in, u64_in, shr64i])
    | (with_reducible refine W_condW ?_; (try simp [AS.val, upd, resB, mkS_env, mkS_box, lk, entry_env, condW_true, condW_false]))
    | fail)
   simp [post, resAV, resAll, resOne, closeV, closeC, closeL, resD, resDL, push_cast, intsC]
  ·
   repeat' (first
    | with_reducible first | apply thenW_n | apply thenW_ret | apply blockW_ret | apply W_seq | apply W_block | apply W_ret
    | with_reducible refine W_rg ?_
    | (rw [vcn]; (try simp [push_cast]); try simp (disch := omega) only [i64_in, u64_in, shr64i])
    | (with_reducible refine W_condW ?_; (try simp [AS.val, upd, resB, mkS_env, mkS_box, lk, entry_env, condW_true, condW_false]))
    | fail)
   simp [post, resAV, resAll, resOne, closeV, closeC, closeL, resD, resDL, push_cast, intsC]
 rw [rowsD, if_neg h8, if_neg h9, if_neg h10, if_neg h11, if_neg h12, if_neg h21, if_neg h45] at h
 cases h
theorem rows_none (k : UInt8) (b : Bool) (h : rowsD k b = none) : Eval Try.prog 72 [byteV k, .v (.bool b)] (.ret (.v (.slice none 0 0))) := by
 have ne : ∀ x y : UInt8, ¬ x = y → ((x.toNat : Int) = (y.toNat : Int)) = False := fun x y h => eq_false fun h' => h (UInt8.toNat_inj.1 (by omega))
 have h8 : ¬ k = 8 := fun e => by subst e; cases h
 have h9 : ¬ k = 9 := fun e => by subst e; cases h
 have h10 : ¬ k = 10 := fun e => by subst e; cases h
 have h11 : ¬ k = 11 := fun e => by subst e; cases h
 have h12 : ¬ k = 12 := fun e => by subst e; cases h
 have h21 : ¬ k = 21 := fun e => by subst e; cases h
 have h45 : ¬ k = 45 := fun e => by subst e; cases h
 have g8 := ne _ _ h8
 have g9 := ne _ _ h9
 have g10 := ne _ _ h10
 have g11 := ne _ _ h11
 have g12 := ne _ _ h12
 have g21 := ne _ _ h21
 have g45 := ne _ _ h45
 have f8 : ((k.toNat : Int) == 8) = false := by rw [beq_eq_false_iff_ne]; intro e; rw [show (8 : Int) = ((8 : UInt8).toNat : Int) from rfl, g8] at e; exact e
 have f9 : ((k.toNat : Int) == 9) = false := by rw [beq_eq_false_iff_ne]; intro e; rw [show (9 : Int) = ((9 : UInt8).toNat : Int) from rfl, g9] at e; exact e
 have f10 : ((k.toNat : Int) == 10) = false := by rw [beq_eq_false_iff_ne]; intro e; rw [show (10 : Int) = ((10 : UInt8).toNat : Int) from rfl, g10] at e; exact e
 have f11 : ((k.toNat : Int) == 11) = false := by rw [beq_eq_false_iff_ne]; intro e; rw [show (11 : Int) = ((11 : UInt8).toNat : Int) from rfl, g11] at e; exact e
 have f12 : ((k.toNat : Int) == 12) = false := by rw [beq_eq_false_iff_ne]; intro e; rw [show (12 : Int) = ((12 : UInt8).toNat : Int) from rfl, g12] at e; exact e
 have f21 : ((k.toNat : Int) == 21) = false := by rw [beq_eq_false_iff_ne]; intro e; rw [show (21 : Int) = ((21 : UInt8).toNat : Int) from rfl, g21] at e; exact e
 have f45 : ((k.toNat : Int) == 45) = false := by rw [beq_eq_false_iff_ne]; intro e; rw [show (45 : Int) = ((45 : UInt8).toNat : Int) from rfl, g45] at e; exact e
 refine Eval.intro Try.func72 rfl Try.call72 _ _ (Nat.le_of_ble_eq_true rfl) (by simp [natAV, recAV, push_cast]) fun hs0 => ?_
 clear hs0
 cases b
 ·
  repeat' (first
   | with_reducible first | apply thenW_n | apply blockW_n | apply W_seq | apply W_block | apply W_skip | apply W_ret
   | with_reducible refine W_rg ?_
   | (rw [vcn]; (try simp [push_cast, f8, f9, f10, f11, f12, f21, f45]))
   | (with_reducible refine W_condW ?_; (try simp [AS.val, upd, resB, mkS_env, mkS_box, lk, entry_env, condW_true, condW_false, f8, f9, f10, f11, f12, f21, f45]))
   | fail)
  simp [post, resAV, resAll, resOne, closeV, closeC, closeL, resD, resDL, push_cast]
 ·
  repeat' (first
   | with_reducible first | apply thenW_n | apply blockW_n | apply W_seq | apply W_block | apply W_skip | apply W_ret
   | with_reducible refine W_rg ?_
   | (rw [vcn]; (try simp [push_cast, f8, f9, f10, f11, f12, f21, f45]))
   | (with_reducible refine W_condW ?_; (try simp [AS.val, upd, resB, mkS_env, mkS_box, lk, entry_env, condW_true, condW_false, f8, f9, f10, f11, f12, f21, f45]))
   | fail)
  simp [post, resAV, resAll, resOne, closeV, closeC, closeL, resD, resDL, push_cast]
end Go.Fw
namespace Go.Fw
open Go Go.Proofs Go.IntWalk
set_option linter.unusedSimpArgs false
set_option maxRecDepth 100000
def convK (k : Nat) : Nat := if k < 256 then k else 744 + k
theorem ofNat_256 (k : Nat) (h : 256 ≤ k) (h2 : k < 512) : UInt8.ofNat k = UInt8.ofNat (k - 256) := by
 apply UInt8.toNat_inj.1
 rw [UInt8.toNat_ofNat', UInt8.toNat_ofNat']
 omega
theorem toNat_eq {x : UInt8} {k : Nat} (hk : k < 256) : x.toNat = k ↔ x = UInt8.ofNat k := by
 constructor
 ·
  intro h
  apply UInt8.toNat_inj.1
  rw [UInt8.toNat_ofNat']
  omega
 ·
  intro h
  rw [h, UInt8.toNat_ofNat']
  omega
theorem okS_must (L : List Rec) (a k : Nat) (hk : k < 256) : okS L a k = (mustS L a (UInt8.ofNat k)).isSome := by
 unfold okS mustS
 cases hx : L[a]? with
 | none => rfl
 | some r =>
  simp only
  by_cases h : r.1 = UInt8.ofNat k
  ·
   have h2 : r.1.toNat = k := (toNat_eq hk).2 h
   rw [decide_eq_true h2, Bool.true_and]
   by_cases hr : refR r.1 r.2.1 r.2.2 = true
   ·
    rw [if_pos ⟨h, hr⟩, hr]
    rfl
   ·
    rw [if_neg (fun e => hr e.2)]
    simpa using hr
  ·
   have h2 : ¬ r.1.toNat = k := fun e => h ((toNat_eq hk).1 e)
   rw [decide_eq_false h2, if_neg (fun e => h e.1)]
   rfl
theorem isS_sees (L : List Rec) (a k : Nat) (hk : k < 256) : isS L a k = seesS L a [UInt8.ofNat k] := by
 unfold isS seesS
 cases hx : L[a]? with
 | none => rfl
 | some r =>
  simp only
  by_cases h : r.1 = UInt8.ofNat k
  ·
   rw [decide_eq_true ((toNat_eq hk).2 h), h]
   simp
  ·
   rw [decide_eq_false (fun e => h ((toNat_eq hk).1 e))]
   simp [h]
theorem fit_row (L : List Rec) : ∀ (ks : List Nat) (a : Nat), (∀ k ∈ ks, k < 512) → fitS L a (ks.map convK) = (rowS L a ks).map (·.2)
 | [], a, _ => rfl
 | k :: ks, a, h => by
  have hk := h k (by simp)
  have ih := fun b => fit_row L ks b (fun x hx => h x (by simp [hx]))
  rw [List.map_cons, fitS, rowS_cons]
  by_cases hlt : k < 256
  ·
   have e : convK k % 1000 = k := by rw [convK, if_pos hlt]; omega
   have e2 : convK k < 1000 := by rw [convK, if_pos hlt]; omega
   have hR : (if k < 256 ∨ seesS L a [UInt8.ofNat k] = true then rowM L a ks (mustS L a (UInt8.ofNat k)) else rowS L a ks) = rowM L a ks (mustS L a (UInt8.ofNat k)) := if_pos (.inl hlt)
   rw [hR, e, okS_must L a k hlt]
   cases hm : mustS L a (UInt8.ofNat k) with
   | none =>
    have h1 : ¬ (none : Option Rec).isSome = true := by simp
    rw [if_neg h1, if_pos (.inl e2)]
    rfl
   | some r =>
    have h1 : (some r : Option Rec).isSome = true := rfl
    rw [if_pos h1, ih, rowM]
    cases rowS L (a + 1) ks <;> rfl
  ·
   have hge : 256 ≤ k := by omega
   have e : convK k % 1000 = k - 256 := by rw [convK, if_neg hlt]; omega
   have e2 : ¬ convK k < 1000 := by rw [convK, if_neg hlt]; omega
   have hlt2 : k - 256 < 256 := by omega
   rw [e, ofNat_256 k hge hk, okS_must L a _ hlt2, isS_sees L a _ hlt2]
   by_cases hs : seesS L a [UInt8.ofNat (k - 256)] = true
   ·
    have hR : (if k < 256 ∨ seesS L a [UInt8.ofNat (k - 256)] = true then rowM L a ks (mustS L a (UInt8.ofNat (k - 256))) else rowS L a ks) = rowM L a ks (mustS L a (UInt8.ofNat (k - 256))) := if_pos (.inr hs)
    rw [hR]
    cases hm : mustS L a (UInt8.ofNat (k - 256)) with
    | none =>
     have h1 : ¬ (none : Option Rec).isSome = true := by simp
     rw [if_neg h1, if_pos (.inr hs)]
     rfl
    | some r =>
     have h1 : (some r : Option Rec).isSome = true := rfl
     rw [if_pos h1, ih, rowM]
     cases rowS L (a + 1) ks <;> rfl
   ·
    have hR : (if k < 256 ∨ seesS L a [UInt8.ofNat (k - 256)] = true then rowM L a ks (mustS L a (UInt8.ofNat (k - 256))) else rowS L a ks) = rowS L a ks := if_neg (fun h => h.elim (fun h => hlt h) hs)
    have hm : mustS L a (UInt8.ofNat (k - 256)) = none := by
     unfold mustS
     unfold seesS at hs
     cases hx : L[a]? with
     | none => rfl
     | some r =>
      rw [hx] at hs
      simp only at hs ⊢
      rw [if_neg]
      intro e
      apply hs
      simp [e.1]
    have h1 : ¬ (none : Option Rec).isSome = true := by simp
    rw [hR, hm, if_neg h1, if_neg (fun h => h.elim e2 hs), ih]
theorem rowS_take (L : List Rec) : ∀ (ks : List Nat) (a : Nat) (p : List Rec × Nat), rowS L a ks = some p → a ≤ p.2 ∧ p.1 = (L.drop a).take (p.2 - a)
 | [], a, p, h => by
  cases h
  simp
 | k :: ks, a, p, h => by
  rw [rowS_cons] at h
  split at h
  ·
   cases hm : mustS L a (UInt8.ofNat k) with
   | none => rw [hm] at h; cases h
   | some r =>
    rw [hm, rowM] at h
    obtain ⟨hlt, hr⟩ := mustS_lt hm
    cases hq : rowS L (a + 1) ks with
    | none => rw [hq] at h; cases h
    | some q =>
     rw [hq] at h
     cases h
     obtain ⟨h1, h2⟩ := rowS_take L ks (a + 1) q hq
     refine ⟨by simp only; omega, ?_⟩
     simp only
     rw [h2, List.drop_eq_getElem_cons hlt, show q.2 - a = (q.2 - (a + 1)) + 1 from by omega, List.take_succ_cons]
     rw [List.getElem?_eq_getElem hlt] at hr
     cases hr
     rfl
  · exact rowS_take L ks a p h
end Go.Fw
