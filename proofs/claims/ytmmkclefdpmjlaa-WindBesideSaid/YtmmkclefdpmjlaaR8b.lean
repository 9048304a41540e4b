import Derived.Test.YtmmkclefdpmjlaaR1b
set_option linter.unusedSimpArgs false
set_option linter.unusedVariables false
-- VALS: zAV, zC, ratAV, ratC, ptAV, ptC
namespace Go.Fw
open Go Go.Proofs Go.IntWalk
set_option linter.unusedSimpArgs false
set_option maxRecDepth 100000
set_option maxHeartbeats 4000000
structure FP where
  x : FQ
  y : FQ
def ptC (p : FP) : List AV := ratC p.x ++ ratC p.y
def ptAV (p : FP) : AV := .agg (ptC p)
def szV (p : FP) : Nat := szQ p.x.q + szQ p.y.q
def FP.sub (p q : FP) : FP := ⟨.of (p.x.q - q.x.q), .of (p.y.q - q.y.q)⟩
theorem szQ_sub (a b : Rat) : szQ (a - b) ≤ 2 * (szQ a + szQ b) + 1 := by
  rw [Rat.sub_eq_add_neg]
  have := szQ_add a (-b)
  rw [szQ_neg] at this
  exact this
theorem szV_sub (p q : FP) : szV (p.sub q) ≤ 2 * (szV p + szV q) + 2 := by
  have := szQ_sub p.x.q q.x.q
  have := szQ_sub p.y.q q.y.q
  show szQ (p.x.q - q.x.q) + szQ (p.y.q - q.y.q) ≤ _
  unfold szV; omega
open List (map_take map_drop)
attribute [local push_cast] optK_some optK_none optK_ite optK_map optK_bind gOn stepK isMem evPure evMem evBin evUn evConv evLen evBuiltin evMinMax evSlice evBuild evAppend evIndex evIndexAddr evField evFieldAddr intBin strBin appDest AS.val AS.mem AS.elems AS.put AS.put' AS.eff AV.cells? AV.isCell AV.refs all_isByte take_byteV drop_byteV strOf_map bndOk bnd partAV ptrAdd killBox catA inOrder fillA setAt ofVal resB upd byteV List.head?_take List.head?_drop List.getElem?_map mkS_env mkS_box mkS_used entry_env entry_box entry_used lk stepD lookIds Oper.looksAt Op.operands Call.operands St.ids refsL renL_append ren renL renBox Box.refs iV i64V boolV dV_getElem dV_app dV_cons toNat_add2 toNat_add1
attribute [local simp ↓] numC_refs numC_isCell numC_cells numC_resB numC_resD numC_ren numC_closeC numC_isOwn
theorem ptLess_ok (p q : FP) (h : szV p + szV q ≤ 200000) : Eval Try.prog 55 [ptAV p, ptAV q] (.ret (ptAV (p.sub q))) := by
  refine Eval.intro Try.func55 rfl Try.call55 _ _ (Nat.le_of_ble_eq_true rfl) (by simp [-map_take,-map_drop, AV.refs, refsL, natAV, zAV, zC, ratAV, ratC, ptAV, ptC, push_cast]) fun hs0 => ?_
  simp only [szV] at h
  have e1 := subR_ok p.x q.x (by omega)
  have e2 := subR_ok p.y q.y (by omega)
  obtain ⟨a, ha⟩ : ∃ a, a = FQ.of (p.x.q - q.x.q) := ⟨_, rfl⟩
  obtain ⟨b, hb⟩ : ∃ b, b = FQ.of (p.y.q - q.y.q) := ⟨_, rfl⟩
  have hpq : p.sub q = ⟨a, b⟩ := by rw [ha, hb]; rfl
  rw [hpq]
  rw [← ha] at e1
  rw [← hb] at e2
  clear ha hb
  repeat' (first
    | with_reducible first | apply thenW_n | apply W_seq
    | with_reducible refine W_rg ?_
    | (rw [vcn]; (try simp [-map_take,-map_drop, push_cast, ptAV, ptC, ratAV, ratC, zAV, zC]))
    | with_reducible refine W_drawn mixed (by decide) (by kernel_rfl) ?_
    | (rw [vcnD]; (try simp [-map_take,-map_drop, push_cast, ptAV, ptC, ratAV, ratC, zAV, zC]))
    | fail)
  refine callD_of (e1) rfl rfl rfl ?_
  try dsimp only
  repeat' (first
    | (rw [vcnD]; (try simp [-map_take,-map_drop, push_cast, ptAV, ptC, ratAV, ratC, zAV, zC]))
    | fail)
  refine callD_of (e2) rfl rfl rfl ?_
  try dsimp only
  repeat' (first
    | with_reducible first | apply thenW_n | apply W_ret
    | (rw [vcnD]; (try simp [-map_take,-map_drop, push_cast, ptAV, ptC, ratAV, ratC, zAV, zC]))
    | refine And.intro (by first | omega | kernel_rfl) ?_
    | fail)
  simp [-map_take,-map_drop, post, resAV, resAll, resOne, closeV, closeC, closeL, resD, resDL, push_cast, ptAV, ptC, ratAV, ratC, zAV, zC]
theorem grid_ok (x y : Int) (hx : -9223372036854775808 ≤ x ∧ x ≤ 9223372036854775807) (hy : -9223372036854775808 ≤ y ∧ y ≤ 9223372036854775807) : Eval Try.prog 32 [.agg [i64V x, i64V y]] (.ret (ptAV ⟨.of x, .of y⟩)) := by
  refine Eval.intro Try.func32 rfl Try.call32 _ _ (Nat.le_of_ble_eq_true rfl) (by simp [-map_take,-map_drop, AV.refs, refsL, natAV, zAV, zC, ratAV, ratC, ptAV, ptC, push_cast]) fun hs0 => ?_
  have h1 := limbs_small (n := x.natAbs) (by omega)
  have h2 := limbs_small (n := y.natAbs) (by omega)
  have e1 := whole_ok x (by omega)
  have e2 := whole_ok y (by omega)
  obtain ⟨a, ha⟩ : ∃ a, a = FQ.of (x : Rat) := ⟨_, rfl⟩
  obtain ⟨b, hb⟩ : ∃ b, b = FQ.of (y : Rat) := ⟨_, rfl⟩
  rw [← ha, ← hb]
  rw [← ha] at e1
  rw [← hb] at e2
  clear ha hb
  repeat' (first
    | with_reducible first | apply thenW_n | apply W_seq
    | with_reducible refine W_rg ?_
    | (rw [vcn]; (try simp [-map_take,-map_drop, push_cast]))
    | with_reducible refine W_drawn mixed (by decide) (by kernel_rfl) ?_
    | (rw [vcnD]; (try simp [-map_take,-map_drop, push_cast]))
    | fail)
  refine callD_of (ofZ_ok x hx) rfl rfl rfl ?_
  try dsimp only
  repeat' (first
    | (rw [vcnD]; (try simp [-map_take,-map_drop, push_cast]))
    | fail)
  refine callD_of (e1) rfl rfl rfl ?_
  try dsimp only
  repeat' (first
    | (rw [vcnD]; (try simp [-map_take,-map_drop, push_cast]))
    | fail)
  refine callD_of (ofZ_ok y hy) rfl rfl rfl ?_
  try dsimp only
  repeat' (first
    | (rw [vcnD]; (try simp [-map_take,-map_drop, push_cast]))
    | fail)
  refine callD_of (e2) rfl rfl rfl ?_
  try dsimp only
  repeat' (first
    | with_reducible first | apply thenW_n | apply W_ret
    | (rw [vcnD]; (try simp [-map_take,-map_drop, push_cast, ptAV, ptC, ratAV, ratC, zAV, zC]))
    | refine And.intro (by first | omega | kernel_rfl) ?_
    | fail)
  simp [-map_take,-map_drop, post, resAV, resAll, resOne, closeV, closeC, closeL, resD, resDL, push_cast, ptAV, ptC, ratAV, ratC, zAV, zC]
end Go.Fw
-- VALS: zAV, zC, ratAV, ratC, ptAV, ptC
namespace Go.Fw
open Go Go.Proofs Go.IntWalk
set_option linter.unusedSimpArgs false
set_option maxRecDepth 100000
set_option maxHeartbeats 4000000
open List (map_take map_drop)
attribute [local push_cast] optK_some optK_none optK_ite optK_map optK_bind gOn stepK isMem evPure evMem evBin evUn evConv evLen evBuiltin evMinMax evSlice evBuild evAppend evIndex evIndexAddr evField evFieldAddr intBin strBin appDest AS.val AS.mem AS.elems AS.put AS.put' AS.eff AV.cells? AV.isCell AV.refs all_isByte take_byteV drop_byteV strOf_map bndOk bnd partAV ptrAdd killBox catA inOrder fillA setAt ofVal resB upd byteV List.head?_take List.head?_drop List.getElem?_map mkS_env mkS_box mkS_used entry_env entry_box entry_used lk stepD lookIds Oper.looksAt Op.operands Call.operands St.ids refsL renL_append ren renL renBox Box.refs iV i64V boolV dV_getElem dV_app dV_cons toNat_add2 toNat_add1
attribute [local simp ↓] numC_refs numC_isCell numC_cells numC_resB numC_resD numC_ren numC_closeC numC_isOwn
def sideOf (a b c : FP) : Int :=
  let l := (b.x.q - a.x.q) * (c.y.q - a.y.q)
  let r := (b.y.q - a.y.q) * (c.x.q - a.x.q)
  cmpZ (l.num * r.den) (r.num * l.den)
theorem side_ok (a b c : FP) (h : szV a + szV b + szV c ≤ 10000) : Eval Try.prog 101 [ptAV a, ptAV b, ptAV c] (.ret (i64V (sideOf a b c))) := by
  refine Eval.intro Try.func101 rfl Try.call101 _ _ (Nat.le_of_ble_eq_true rfl) (by simp [-map_take,-map_drop, AV.refs, refsL, natAV, zAV, zC, ratAV, ratC, ptAV, ptC, push_cast]) fun hs0 => ?_
  have e1 := ptLess_ok b a (by omega)
  have e2 := ptLess_ok c a (by omega)
  have s1 := szV_sub b a
  have s2 := szV_sub c a
  obtain ⟨u, hu⟩ : ∃ u, u = b.sub a := ⟨_, rfl⟩
  obtain ⟨v, hv⟩ : ∃ v, v = c.sub a := ⟨_, rfl⟩
  have hr : sideOf a b c = cmpZ ((u.x.q * v.y.q).num * (u.y.q * v.x.q).den) ((u.y.q * v.x.q).num * (u.x.q * v.y.q).den) := by rw [hu, hv]; rfl
  rw [hr]
  rw [← hu] at e1 s1
  rw [← hv] at e2 s2
  simp only [szV] at s1 s2 h
  have m1 := szQ_mul u.x.q v.y.q
  have m2 := szQ_mul u.y.q v.x.q
  have e3 := mulR_ok u.x v.y (by omega)
  have e4 := mulR_ok u.y v.x (by omega)
  have e5 := cmpR_ok (.of (u.x.q * v.y.q)) (.of (u.y.q * v.x.q)) (by simp only [FQ.of]; omega)
  obtain ⟨k, hk⟩ : ∃ k, k = cmpZ ((u.x.q * v.y.q).num * (u.y.q * v.x.q).den) ((u.y.q * v.x.q).num * (u.x.q * v.y.q).den) := ⟨_, rfl⟩
  rw [← hk]
  have e5' : Eval Try.prog 18 [ratAV (.of (u.x.q * v.y.q)), ratAV (.of (u.y.q * v.x.q))] (.ret (i64V k)) := by rw [hk]; exact e5
  clear e5 hk
  clear hr hu hv
  repeat' (first
    | with_reducible first | apply thenW_n | apply W_seq
    | with_reducible refine W_rg ?_
    | (rw [vcn]; (try simp [-map_take,-map_drop, push_cast, ptAV, ptC, ratAV, ratC, zAV, zC]))
    | with_reducible refine W_drawn mixed (by decide) (by kernel_rfl) ?_
    | (rw [vcnD]; (try simp [-map_take,-map_drop, push_cast, ptAV, ptC, ratAV, ratC, zAV, zC]))
    | fail)
  refine callD_of (e1) rfl rfl rfl ?_
  try dsimp only
  repeat' (first
    | (rw [vcnD]; (try simp [-map_take,-map_drop, push_cast, ptAV, ptC, ratAV, ratC, zAV, zC]))
    | fail)
  refine callD_of (e2) rfl rfl rfl ?_
  try dsimp only
  repeat' (first
    | with_reducible first | apply thenW_n | apply W_seq
    | with_reducible refine W_drawn mixed (by decide) (by kernel_rfl) ?_
    | (rw [vcnD]; (try simp [-map_take,-map_drop, push_cast, ptAV, ptC, ratAV, ratC, zAV, zC]))
    | refine And.intro (by first | omega | kernel_rfl) ?_
    | fail)
  refine callD_of (e3) rfl rfl rfl ?_
  try dsimp only
  repeat' (first
    | (rw [vcnD]; (try simp [-map_take,-map_drop, push_cast, ptAV, ptC]))
    | fail)
  refine callD_of (e4) rfl rfl rfl ?_
  try dsimp only
  repeat' (first
    | (rw [vcnD]; (try simp [-map_take,-map_drop, push_cast, ptAV, ptC]))
    | fail)
  refine callD_of (e5') rfl rfl rfl ?_
  try dsimp only
  repeat' (first
    | with_reducible first | apply thenW_n | apply W_ret
    | (rw [vcnD]; (try simp [-map_take,-map_drop, push_cast, ptAV, ptC, ratAV, ratC, zAV, zC]))
    | refine And.intro (by first | omega | kernel_rfl) ?_
    | fail)
  simp [-map_take,-map_drop, post, resAV, resAll, resOne, closeV, closeC, closeL, resD, resDL, push_cast, ratAV, ratC, zAV, zC]
end Go.Fw
-- VALS: zAV, zC, ratAV, ratC, ptAV, ptC
namespace Go.Fw
open Go Go.Proofs Go.IntWalk
set_option linter.unusedSimpArgs false
set_option maxRecDepth 100000
set_option maxHeartbeats 4000000
open List (map_take map_drop)
attribute [local push_cast] optK_some optK_none optK_ite optK_map optK_bind gOn stepK isMem evPure evMem evBin evUn evConv evLen evBuiltin evMinMax evSlice evBuild evAppend evIndex evIndexAddr evField evFieldAddr intBin strBin appDest AS.val AS.mem AS.elems AS.put AS.put' AS.eff AV.cells? AV.isCell AV.refs all_isByte take_byteV drop_byteV strOf_map bndOk bnd partAV ptrAdd killBox catA inOrder fillA setAt ofVal resB upd byteV List.head?_take List.head?_drop List.getElem?_map mkS_env mkS_box mkS_used entry_env entry_box entry_used lk stepD lookIds Oper.looksAt Op.operands Call.operands St.ids refsL renL_append ren renL renBox Box.refs iV i64V boolV dV_getElem dV_app dV_cons toNat_add2 toNat_add1
attribute [local simp ↓] numC_refs numC_isCell numC_cells numC_resB numC_resD numC_ren numC_closeC numC_isOwn
theorem first_ok (f : Bool) (a b : Int) : Eval Try.prog 103 [.slc f 1 2 [i64V a, i64V b]] (.ret (i64V (if a ≠ 0 then a else b))) := by
  refine Eval.intro Try.func103 rfl Try.call103 _ _ (Nat.le_of_ble_eq_true rfl) (by simp [-map_take,-map_drop, AV.refs, refsL, natAV, zAV, zC, ratAV, ratC, ptAV, ptC, push_cast]) fun hs0 => ?_
  obtain ⟨L, hL⟩ : ∃ L, L = [i64V a, i64V b] := ⟨_, rfl⟩
  have hlen : L.length = 2 := by rw [hL]; rfl
  have ht0 : L.take 1 = [i64V a] := by rw [hL]; rfl
  have hd1 : L.drop 1 = [i64V b] := by rw [hL]; rfl
  simp only [← hL]
  clear hL
  repeat' (first
    | with_reducible first | apply thenW_n | apply W_seq | apply W_block
    | with_reducible refine W_rg ?_
    | (rw [vcn]; (try simp [-map_take,-map_drop, push_cast]))
    | fail)
  refine W_loopW (X := Nat) (fun x => [(5, .slc f 1 2 L), (6, i64V 2), (7, i64V x)])
    (fun x => []) (fun x => 2 - x) (fun x => x ≤ 2 ∧ (0 < x → a = 0) ∧ (1 < x → b = 0))
    0 id ⟨by omega, fun h => absurd h (by omega), fun h => absurd h (by omega)⟩ ⟨?_, ?_, ?_, ?_, ?_, ?_⟩ fun x hx => ?_
  all_goals first | (with_reducible refine W_id ?_) | (simp [-map_take,-map_drop, push_cast, dV_take, dV_drop]; done)
  obtain ⟨hx, ha, hb⟩ := hx
  rcases (by omega : x = 0 ∨ x = 1 ∨ x = 2) with h | h | h
  · subst h
    by_cases h0 : a = 0
    · subst h0
      repeat' (first
        | with_reducible first | apply thenW_n | apply blockW_n | apply W_seq | apply W_block | apply W_skip
        | with_reducible refine W_rg ?_
        | (rw [vcn]; (try simp [-map_take,-map_drop, push_cast, hlen, ht0]); try simp (disch := omega) only [i64_in, u64_in, shr64i])
        | (with_reducible refine W_condW ?_; (try simp [-map_take,-map_drop, AS.val, upd, resB, mkS_env, mkS_box, lk, entry_env, condW_true, condW_false, hlen, ht0]))
        | fail)
      refine loopW_n 1 id (by simp [-map_take,-map_drop]) (by simp [-map_take,-map_drop]) ⟨?_, ?_, ?_, ?_, ?_, ?_⟩
      all_goals first | (simp [-map_take,-map_drop, push_cast, dV_take, dV_drop]; done)
    · have h0' : (a = 0) = False := by simp [-map_take,-map_drop, h0]
      repeat' (first
        | with_reducible first | apply thenW_n | apply thenW_ret | apply blockW_ret | apply loopW_ret | apply W_seq | apply W_block | apply W_skip | apply W_ret
        | with_reducible refine W_rg ?_
        | (rw [vcn]; (try simp [-map_take,-map_drop, push_cast, hlen, ht0, h0']))
        | (with_reducible refine W_condW ?_; (try simp [-map_take,-map_drop, AS.val, upd, resB, mkS_env, mkS_box, lk, entry_env, condW_true, condW_false, hlen, ht0, h0']))
        | ((with_reducible refine condW_b (fun hc => ?_) (fun hc => ?_) <;> (try simp [-map_take,-map_drop, Int.ofNat_inj] at hc) <;> (try contradiction)))
        | fail)
      simp [-map_take,-map_drop, post, resAV, resAll, resOne, closeV, closeC, closeL, resD, resDL, push_cast, h0']
  · subst h
    have := ha (by omega)
    subst this
    by_cases h0 : b = 0
    · subst h0
      repeat' (first
        | with_reducible first | apply thenW_n | apply blockW_n | apply W_seq | apply W_block | apply W_skip
        | with_reducible refine W_rg ?_
        | (rw [vcn]; (try simp [-map_take,-map_drop, push_cast, hlen, hd1]); try simp (disch := omega) only [i64_in, u64_in, shr64i])
        | (with_reducible refine W_condW ?_; (try simp [-map_take,-map_drop, AS.val, upd, resB, mkS_env, mkS_box, lk, entry_env, condW_true, condW_false, hlen, hd1]))
        | fail)
      refine loopW_n 2 id (by simp [-map_take,-map_drop]) (by simp [-map_take,-map_drop]) ⟨?_, ?_, ?_, ?_, ?_, ?_⟩
      all_goals first | (simp [-map_take,-map_drop, push_cast, dV_take, dV_drop]; done)
    · have h0' : (b = 0) = False := by simp [-map_take,-map_drop, h0]
      repeat' (first
        | with_reducible first | apply thenW_n | apply thenW_ret | apply blockW_ret | apply loopW_ret | apply W_seq | apply W_block | apply W_skip | apply W_ret
        | with_reducible refine W_rg ?_
        | (rw [vcn]; (try simp [-map_take,-map_drop, push_cast, hlen, hd1, h0']))
        | (with_reducible refine W_condW ?_; (try simp [-map_take,-map_drop, AS.val, upd, resB, mkS_env, mkS_box, lk, entry_env, condW_true, condW_false, hlen, hd1, h0']))
        | ((with_reducible refine condW_b (fun hc => ?_) (fun hc => ?_) <;> (try simp [-map_take,-map_drop, Int.ofNat_inj] at hc) <;> (try contradiction)))
        | fail)
      simp [-map_take,-map_drop, post, resAV, resAll, resOne, closeV, closeC, closeL, resD, resDL, push_cast, h0']
  · subst h
    have := ha (by omega)
    have h2 := hb (by omega)
    subst this h2
    repeat' (first
      | with_reducible first | apply thenW_n | apply thenW_exit | apply blockW_same | apply loopW_exit | apply W_seq | apply W_ret | apply W_exit
      | with_reducible refine W_rg ?_
      | (rw [vcn]; (try simp [-map_take,-map_drop, push_cast, hlen]))
      | (with_reducible refine W_condW ?_; (try simp [-map_take,-map_drop, AS.val, upd, resB, mkS_env, mkS_box, lk, entry_env, condW_true, condW_false, hlen]))
      | fail)
    simp [-map_take,-map_drop, post, resAV, resAll, resOne, closeV, closeC, closeL, resD, resDL, push_cast]
def cmpP (p q : FP) : Int :=
  if cmpZ (p.x.q.num * q.x.q.den) (q.x.q.num * p.x.q.den) ≠ 0 then cmpZ (p.x.q.num * q.x.q.den) (q.x.q.num * p.x.q.den)
  else cmpZ (p.y.q.num * q.y.q.den) (q.y.q.num * p.y.q.den)
end Go.Fw
-- VALS: zAV, zC, ratAV, ratC, ptAV, ptC
namespace Go.Fw
open Go Go.Proofs Go.IntWalk
set_option linter.unusedSimpArgs false
set_option maxRecDepth 100000
set_option maxHeartbeats 4000000
open List (map_take map_drop)
attribute [local push_cast] optK_some optK_none optK_ite optK_map optK_bind gOn stepK isMem evPure evMem evBin evUn evConv evLen evBuiltin evMinMax evSlice evBuild evAppend evIndex evIndexAddr evField evFieldAddr intBin strBin appDest AS.val AS.mem AS.elems AS.put AS.put' AS.eff AV.cells? AV.isCell AV.refs all_isByte take_byteV drop_byteV strOf_map bndOk bnd partAV ptrAdd killBox catA inOrder fillA setAt ofVal resB upd byteV List.head?_take List.head?_drop List.getElem?_map mkS_env mkS_box mkS_used entry_env entry_box entry_used lk stepD lookIds Oper.looksAt Op.operands Call.operands St.ids refsL renL_append ren renL renBox Box.refs iV i64V boolV dV_getElem dV_app dV_cons toNat_add2 toNat_add1
attribute [local simp ↓] numC_refs numC_isCell numC_cells numC_resB numC_resD numC_ren numC_closeC numC_isOwn
theorem cmpP_ok (p q : FP) (h : szV p + szV q ≤ 200000) : Eval Try.prog 66 [ptAV p, ptAV q] (.ret (i64V (cmpP p q))) := by
  refine Eval.intro Try.func66 rfl Try.call66 _ _ (Nat.le_of_ble_eq_true rfl) (by simp [-map_take,-map_drop, AV.refs, refsL, natAV, zAV, zC, ratAV, ratC, ptAV, ptC, push_cast]) fun hs0 => ?_
  simp only [szV] at h
  have e1 := cmpR_ok p.x q.x (by omega)
  have e2 := cmpR_ok p.y q.y (by omega)
  simp only [cmpP]
  obtain ⟨a, ha⟩ : ∃ a, a = cmpZ (p.x.q.num * q.x.q.den) (q.x.q.num * p.x.q.den) := ⟨_, rfl⟩
  obtain ⟨b, hb⟩ : ∃ b, b = cmpZ (p.y.q.num * q.y.q.den) (q.y.q.num * p.y.q.den) := ⟨_, rfl⟩
  rw [← ha] at e1 ⊢
  rw [← hb] at e2 ⊢
  clear ha hb
  have ef := first_ok false a b
  repeat' (first
    | with_reducible first | apply thenW_n | apply W_seq
    | with_reducible refine W_rg ?_
    | (rw [vcn]; (try simp [-map_take,-map_drop, push_cast, ptAV, ptC, ratAV, ratC, zAV, zC]))
    | with_reducible refine W_drawn mixed (by decide) (by kernel_rfl) ?_
    | (rw [vcnD]; (try simp [-map_take,-map_drop, push_cast, ptAV, ptC, ratAV, ratC, zAV, zC]))
    | fail)
  refine callD_of (e1) rfl rfl rfl ?_
  try dsimp only
  repeat' (first
    | (rw [vcnD]; (try simp [-map_take,-map_drop, push_cast, ptAV, ptC, ratAV, ratC, zAV, zC]))
    | fail)
  refine callD_of (e2) rfl rfl rfl ?_
  try dsimp only
  repeat' (first
    | (rw [vcnD]; (try simp [-map_take,-map_drop, push_cast, ptAV, ptC]))
    | fail)
  refine callD_frz 15 900 _ (by simp [-map_take,-map_drop, refsL, AV.refs, push_cast]) rfl (by simp [-map_take,-map_drop, refsL, AV.refs, push_cast]) ?_ (ef) (by simp [-map_take,-map_drop, natAV, zAV, zC, ratAV, ratC, ptAV, ptC, AV.refs, refsL, push_cast]) rfl (by simp [-map_take,-map_drop, mkS_used, entry_used]) ?_
  · first | rfl | (simp [-map_take,-map_drop, refsL, AV.refs, resDL, resD, resB, upd, mkS_env, mkS_box, entry_env, entry_box, lk, push_cast]; done) | (simp [-map_take,-map_drop, refsL, AV.refs, resDL, resD, resB, upd, mkS_env, mkS_box, entry_env, entry_box, lk, push_cast]; rw [List.take_of_length_le (by simp [-map_take,-map_drop])]; done) | (simp [-map_take,-map_drop, refsL, AV.refs, resDL, resD, resB, upd, mkS_env, mkS_box, entry_env, entry_box, lk, push_cast]; fail_if_success done)
  try dsimp only
  repeat' (first
    | with_reducible first | apply thenW_n | apply W_ret
    | (rw [vcnD]; (try simp [-map_take,-map_drop, push_cast]))
    | refine And.intro (by first | omega | kernel_rfl) ?_
    | fail)
  simp [-map_take,-map_drop, post, resAV, resAll, resOne, closeV, closeC, closeL, resD, resDL, push_cast]
end Go.Fw
-- VALS: zAV, zC, ratAV, ratC, ptAV, ptC, sgAV, sgC
namespace Go.Fw
open Go Go.Proofs Go.IntWalk
set_option linter.unusedSimpArgs false
set_option maxRecDepth 100000
set_option maxHeartbeats 4000000
structure FSg where
  A : FP
  B : FP
def sgC (s : FSg) : List AV := ptC s.A ++ ptC s.B
def sgAV (s : FSg) : AV := .agg (sgC s)
def FSg.at (s : FSg) (l : Rat) : FP := ⟨.of (s.A.x.q + (s.B.x.q - s.A.x.q) * l), .of (s.A.y.q + (s.B.y.q - s.A.y.q) * l)⟩
open List (map_take map_drop)
attribute [local push_cast] optK_some optK_none optK_ite optK_map optK_bind gOn stepK isMem evPure evMem evBin evUn evConv evLen evBuiltin evMinMax evSlice evBuild evAppend evIndex evIndexAddr evField evFieldAddr intBin strBin appDest AS.val AS.mem AS.elems AS.put AS.put' AS.eff AV.cells? AV.isCell AV.refs all_isByte take_byteV drop_byteV strOf_map bndOk bnd partAV ptrAdd killBox catA inOrder fillA setAt ofVal resB upd byteV List.head?_take List.head?_drop List.getElem?_map mkS_env mkS_box mkS_used entry_env entry_box entry_used lk stepD lookIds Oper.looksAt Op.operands Call.operands St.ids refsL renL_append ren renL renBox Box.refs iV i64V boolV dV_getElem dV_app dV_cons toNat_add2 toNat_add1
attribute [local simp ↓] numC_refs numC_isCell numC_cells numC_resB numC_resD numC_ren numC_closeC numC_isOwn
end Go.Fw
-- VALS: zAV, zC, ratAV, ratC, ptAV, ptC, sgAV, sgC
namespace Go.Fw
open Go Go.Proofs Go.IntWalk
set_option linter.unusedSimpArgs false
set_option maxRecDepth 100000
set_option maxHeartbeats 4000000
open List (map_take map_drop)
attribute [local push_cast] optK_some optK_none optK_ite optK_map optK_bind gOn stepK isMem evPure evMem evBin evUn evConv evLen evBuiltin evMinMax evSlice evBuild evAppend evIndex evIndexAddr evField evFieldAddr intBin strBin appDest AS.val AS.mem AS.elems AS.put AS.put' AS.eff AV.cells? AV.isCell AV.refs all_isByte take_byteV drop_byteV strOf_map bndOk bnd partAV ptrAdd killBox catA inOrder fillA setAt ofVal resB upd byteV List.head?_take List.head?_drop List.getElem?_map mkS_env mkS_box mkS_used entry_env entry_box entry_used lk stepD lookIds Oper.looksAt Op.operands Call.operands St.ids refsL renL_append ren renL renBox Box.refs iV i64V boolV dV_getElem dV_app dV_cons toNat_add2 toNat_add1
attribute [local simp ↓] numC_refs numC_isCell numC_cells numC_resB numC_resD numC_ren numC_closeC numC_isOwn
def risingF (s : FSg) : FSg := if 0 < cmpP s.A s.B then ⟨s.B, s.A⟩ else s
def withinF (s : FSg) (p : FP) : Bool := decide (cmpP (risingF s).A p ≤ 0) && decide (cmpP p (risingF s).B ≤ 0)
def onF (s : FSg) (p : FP) : Bool := withinF s p && (sideOf s.A s.B p == 0)
def szS (s : FSg) : Nat := szV s.A + szV s.B
theorem szS_rising (s : FSg) : szS (risingF s) = szS s := by
  unfold risingF
  split
  · unfold szS; simp only; omega
  · rfl
theorem rising_ok (s : FSg) (h : szS s ≤ 200000) : Eval Try.prog 119 [sgAV s] (.ret (sgAV (risingF s))) := by
  refine Eval.intro Try.func119 rfl Try.call119 _ _ (Nat.le_of_ble_eq_true rfl) (by simp [-map_take,-map_drop, AV.refs, refsL, natAV, zAV, zC, ratAV, ratC, ptAV, ptC, sgAV, sgC, push_cast]) fun hs0 => ?_
  have e1 := cmpP_ok s.A s.B h
  obtain ⟨c, hc⟩ : ∃ c, c = cmpP s.A s.B := ⟨_, rfl⟩
  rw [← hc] at e1
  by_cases h0 : 0 < c
  · have g1 : (0 < c) = True := by simp [-map_take,-map_drop, h0]
    have hr : risingF s = ⟨s.B, s.A⟩ := by unfold risingF; rw [← hc, if_pos h0]
    rw [hr]
    clear hr hc
    repeat' (first
      | with_reducible first | apply thenW_n | apply W_seq
      | with_reducible refine W_rg ?_
      | (rw [vcn]; (try simp [-map_take,-map_drop, push_cast, sgAV, sgC, ptAV, ptC, ratAV, ratC, zAV, zC, g1]))
      | fail)
    refine CallG_of (e1) rfl rfl rfl ?_
    try dsimp only
    repeat' (first
      | with_reducible first | apply thenW_n | apply thenW_ret | apply W_seq | apply W_ret
      | with_reducible refine W_rg ?_
      | (rw [vcn]; (try simp [-map_take,-map_drop, push_cast, sgAV, sgC, ptAV, ptC, ratAV, ratC, zAV, zC, g1]))
      | (with_reducible refine W_condW ?_; (try simp [-map_take,-map_drop, AS.val, upd, resB, mkS_env, mkS_box, lk, entry_env, condW_true, condW_false, sgAV, sgC, ptAV, ptC, ratAV, ratC, zAV, zC, g1]))
      | fail)
    simp [-map_take,-map_drop, post, resAV, resAll, resOne, closeV, closeC, closeL, resD, resDL, push_cast, sgAV, sgC, ptAV, ptC, ratAV, ratC, zAV, zC]
  · have g1 : (0 < c) = False := by simp [-map_take,-map_drop, h0]
    have hr : risingF s = s := by unfold risingF; rw [← hc, if_neg h0]
    rw [hr]
    clear hr hc
    repeat' (first
      | with_reducible first | apply thenW_n | apply W_seq
      | with_reducible refine W_rg ?_
      | (rw [vcn]; (try simp [-map_take,-map_drop, push_cast, sgAV, sgC, ptAV, ptC, ratAV, ratC, zAV, zC, g1]))
      | fail)
    refine CallG_of (e1) rfl rfl rfl ?_
    try dsimp only
    repeat' (first
      | with_reducible first | apply thenW_n | apply W_seq | apply W_skip | apply W_ret
      | with_reducible refine W_rg ?_
      | (rw [vcn]; (try simp [-map_take,-map_drop, push_cast, sgAV, sgC, ptAV, ptC, ratAV, ratC, zAV, zC, g1]))
      | (with_reducible refine W_condW ?_; (try simp [-map_take,-map_drop, AS.val, upd, resB, mkS_env, mkS_box, lk, entry_env, condW_true, condW_false, sgAV, sgC, ptAV, ptC, ratAV, ratC, zAV, zC, g1]))
      | fail)
    simp [-map_take,-map_drop, post, resAV, resAll, resOne, closeV, closeC, closeL, resD, resDL, push_cast, sgAV, sgC, ptAV, ptC, ratAV, ratC, zAV, zC]
theorem within_ok (s : FSg) (p : FP) (h : szS s + szV p ≤ 200000) : Eval Try.prog 100 [sgAV s, ptAV p] (.ret (.v (.bool (withinF s p)))) := by
  refine Eval.intro Try.func100 rfl Try.call100 _ _ (Nat.le_of_ble_eq_true rfl) (by simp [-map_take,-map_drop, AV.refs, refsL, natAV, zAV, zC, ratAV, ratC, ptAV, ptC, sgAV, sgC, push_cast]) fun hs0 => ?_
  have e1 := rising_ok s (by omega)
  have hs := szS_rising s
  obtain ⟨r, hr⟩ : ∃ r, r = risingF s := ⟨_, rfl⟩
  have hw : withinF s p = (decide (cmpP r.A p ≤ 0) && decide (cmpP p r.B ≤ 0)) := by rw [hr]; rfl
  rw [hw]
  rw [← hr] at e1 hs
  unfold szS at hs h
  have e2 := cmpP_ok r.A p (by omega)
  have e3 := cmpP_ok p r.B (by omega)
  obtain ⟨a, ha⟩ : ∃ a, a = cmpP r.A p := ⟨_, rfl⟩
  obtain ⟨b, hb⟩ : ∃ b, b = cmpP p r.B := ⟨_, rfl⟩
  rw [← ha] at e2 ⊢
  rw [← hb] at e3 ⊢
  clear ha hb hw hr
  by_cases h0 : a ≤ 0
  · have g1 : (a ≤ 0) = True := by simp [-map_take,-map_drop, h0]
    repeat' (first
      | with_reducible first | apply thenW_n | apply W_seq
      | with_reducible refine W_rg ?_
      | (rw [vcn]; (try simp [-map_take,-map_drop, push_cast, sgAV, sgC, ptAV, ptC, ratAV, ratC, zAV, zC, g1]))
      | fail)
    refine CallG_of (e1) rfl rfl rfl ?_
    try dsimp only
    repeat' (first
      | with_reducible first | apply thenW_n | apply W_seq
      | with_reducible refine W_rg ?_
      | (rw [vcn]; (try simp [-map_take,-map_drop, push_cast, sgAV, sgC, ptAV, ptC, ratAV, ratC, zAV, zC, g1]))
      | fail)
    refine CallG_of (e2) rfl rfl rfl ?_
    try dsimp only
    repeat' (first
      | (rw [vcn]; (try simp [-map_take,-map_drop, push_cast, sgAV, sgC, ptAV, ptC, ratAV, ratC, zAV, zC, g1]))
      | fail)
    refine CallG_of (e3) rfl rfl rfl ?_
    try dsimp only
    repeat' (first
      | with_reducible first | apply thenW_n | apply W_ret
      | (rw [vcn]; (try simp [-map_take,-map_drop, push_cast, sgAV, sgC, ptAV, ptC, ratAV, ratC, zAV, zC, g1]))
      | fail)
    simp [-map_take,-map_drop, post, resAV, resAll, resOne, closeV, closeC, closeL, resD, resDL, push_cast, g1]
  · have g1 : (a ≤ 0) = False := by simp [-map_take,-map_drop]; omega
    repeat' (first
      | with_reducible first | apply thenW_n | apply W_seq
      | with_reducible refine W_rg ?_
      | (rw [vcn]; (try simp [-map_take,-map_drop, push_cast, sgAV, sgC, ptAV, ptC, ratAV, ratC, zAV, zC, g1]))
      | fail)
    refine CallG_of (e1) rfl rfl rfl ?_
    try dsimp only
    repeat' (first
      | with_reducible first | apply thenW_n | apply W_seq
      | with_reducible refine W_rg ?_
      | (rw [vcn]; (try simp [-map_take,-map_drop, push_cast, sgAV, sgC, ptAV, ptC, ratAV, ratC, zAV, zC, g1]))
      | fail)
    refine CallG_of (e2) rfl rfl rfl ?_
    try dsimp only
    repeat' (first
      | with_reducible first | apply thenW_n | apply W_ret
      | (rw [vcn]; (try simp [-map_take,-map_drop, push_cast, sgAV, sgC, ptAV, ptC, ratAV, ratC, zAV, zC, g1]))
      | fail)
    simp [-map_take,-map_drop, post, resAV, resAll, resOne, closeV, closeC, closeL, resD, resDL, push_cast, g1]
theorem on_ok (s : FSg) (p : FP) (h : szS s + szV p ≤ 10000) : Eval Try.prog 62 [sgAV s, ptAV p] (.ret (.v (.bool (onF s p)))) := by
  refine Eval.intro Try.func62 rfl Try.call62 _ _ (Nat.le_of_ble_eq_true rfl) (by simp [-map_take,-map_drop, AV.refs, refsL, natAV, zAV, zC, ratAV, ratC, ptAV, ptC, sgAV, sgC, push_cast]) fun hs0 => ?_
  have e1 := within_ok s p (by omega)
  unfold szS at h
  have e2 := side_ok s.A s.B p (by omega)
  unfold onF
  obtain ⟨w, hw⟩ : ∃ w, w = withinF s p := ⟨_, rfl⟩
  obtain ⟨c, hc⟩ : ∃ c, c = sideOf s.A s.B p := ⟨_, rfl⟩
  rw [← hw] at e1 ⊢
  rw [← hc] at e2 ⊢
  clear hw hc
  cases w
  · repeat' (first
      | with_reducible first | apply thenW_n | apply W_seq
      | with_reducible refine W_rg ?_
      | (rw [vcn]; (try simp [-map_take,-map_drop, push_cast, sgAV, sgC, ptAV, ptC, ratAV, ratC, zAV, zC]))
      | fail)
    refine CallG_of (e1) rfl rfl rfl ?_
    try dsimp only
    repeat' (first
      | with_reducible first | apply thenW_n | apply W_ret
      | (rw [vcn]; (try simp [-map_take,-map_drop, push_cast, sgAV, sgC, ptAV, ptC, ratAV, ratC, zAV, zC]))
      | fail)
    simp [-map_take,-map_drop, post, resAV, resAll, resOne, closeV, closeC, closeL, resD, resDL, push_cast]
  · repeat' (first
      | with_reducible first | apply thenW_n | apply W_seq
      | with_reducible refine W_rg ?_
      | (rw [vcn]; (try simp [-map_take,-map_drop, push_cast, sgAV, sgC, ptAV, ptC, ratAV, ratC, zAV, zC]))
      | fail)
    refine CallG_of (e1) rfl rfl rfl ?_
    try dsimp only
    repeat' (first
      | (rw [vcn]; (try simp [-map_take,-map_drop, push_cast, sgAV, sgC, ptAV, ptC, ratAV, ratC, zAV, zC]))
      | fail)
    refine CallG_of (e2) rfl rfl rfl ?_
    try dsimp only
    repeat' (first
      | with_reducible first | apply thenW_n | apply W_ret
      | (rw [vcn]; (try simp [-map_take,-map_drop, push_cast, sgAV, sgC, ptAV, ptC, ratAV, ratC, zAV, zC]))
      | fail)
    simp [-map_take,-map_drop, post, resAV, resAll, resOne, closeV, closeC, closeL, resD, resDL, push_cast]
end Go.Fw
