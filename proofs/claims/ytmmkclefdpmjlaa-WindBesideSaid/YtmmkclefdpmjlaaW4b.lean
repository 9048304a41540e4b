import Derived.Test.YtmmkclefdpmjlaaW3
import Derived.Test.YtmmkclefdpmjlaaW1b
set_option linter.unusedSimpArgs false
set_option linter.unusedVariables false
-- VALS: rAV, rC, dAV, dC, d3AV, d3C, dpC, DP.av, DP.av2
namespace Go.Fw
open Go Go.Proofs Go.IntWalk
set_option linter.unusedSimpArgs false
set_option maxRecDepth 100000
set_option maxHeartbeats 20000000
theorem szD_neg (z : Int) : szD (-z) = szD z := by unfold szD; rw [Int.natAbs_neg]
theorem sz_crossP (a b c d : DP) : szP3 (crossP a b c d) ≤ 12 * (szP3 a + szP3 b + szP3 c + szP3 d) + 15 := by
  have h1 := sz_line a b
  have h2 := sz_line c d
  have z1 := szD_mul (lineA a b) (lineB c d)
  have z2 := szD_mul (lineB a b) (lineA c d)
  have z3 := szD_mul (lineC a b) (lineB c d)
  have z4 := szD_mul (lineB a b) (lineC c d)
  have z5 := szD_mul (lineA a b) (lineC c d)
  have z6 := szD_mul (lineC a b) (lineA c d)
  have y1 := szD_sub (lineA a b * lineB c d) (lineB a b * lineA c d)
  have y2 := szD_sub (lineC a b * lineB c d) (lineB a b * lineC c d)
  have y3 := szD_sub (lineA a b * lineC c d) (lineC a b * lineA c d)
  unfold crossP crW crX crY
  split
  · have e : ∀ x y w : Int, szP3 ⟨x, y, w⟩ = szD x + szD y + szD w := fun _ _ _ => rfl
    rw [e]
    rw [szD_neg, szD_neg, szD_neg]
    omega
  · have e : ∀ x y w : Int, szP3 ⟨x, y, w⟩ = szD x + szD y + szD w := fun _ _ _ => rfl
    rw [e]
    omega
theorem cmp3_self (p : DP) : cmp3 p p = 0 := by
  have e : ∀ x : Int, cmpZ x x = 0 := fun x => by unfold cmpZ; rw [if_neg (by omega), if_neg (by omega)]
  unfold cmp3
  rw [e, if_neg (by simp), e]
def stepR (a b c d : DP) (o : List DP) (p : DP) : List DP :=
  if on3 a b p = true ∧ on3 c d p = true then
    match o with
    | [l, h] => [if cmp3 p l < 0 then p else l, if 0 < cmp3 p h then p else h]
    | _ => [p, p]
  else o
def endR (o : List DP) : List DP := match o with
  | [l, h] => if cmp3 l h = 0 then [l] else [l, h]
  | _ => []
def meetR (a b c d : DP) : List DP :=
  if parB a b c d = true then endR ([a, b, c, d].foldl (stepR a b c d) [])
  else if on3 a b (crossP a b c d) = true ∧ on3 c d (crossP a b c d) = true then [crossP a b c d] else []
theorem stepR_no {a b c d : DP} {o : List DP} {p : DP} (h : on3 a b p = false ∨ on3 c d p = false) : stepR a b c d o p = o := by
  unfold stepR
  rw [if_neg]
  rintro ⟨h1, h2⟩
  rcases h with h | h
  · rw [h1] at h; cases h
  · rw [h2] at h; cases h
theorem foldl_take {α β : Type} (f : β → α → β) (x : β) (l : List α) (i : Nat) (h : i < l.length) : (l.take (i + 1)).foldl f x = f ((l.take i).foldl f x) l[i] := by
  rw [List.take_succ_eq_append_getElem h, List.foldl_append]; rfl
open List (map_take map_drop)
attribute [local push_cast] optK_some optK_none optK_ite optK_map optK_bind gOn stepK isMem evPure evMem evBin evUn evConv evLen evBuiltin evMinMax evSlice evBuild evAppend evIndex evIndexAddr evField evFieldAddr intBin strBin appDest AS.val AS.mem AS.elems AS.put AS.put' AS.eff AV.cells? AV.isCell AV.refs all_isByte take_byteV drop_byteV strOf_map bndOk bnd partAV ptrAdd killBox catA inOrder fillA setAt ofVal resB upd byteV List.head?_take List.head?_drop List.getElem?_map mkS_env mkS_box mkS_used entry_env entry_box entry_used lk stepD lookIds Oper.looksAt Op.operands Call.operands St.ids refsL renL_append ren renL renBox Box.refs iV i64V boolV dV_getElem dV_app dV_cons toNat_add2 toNat_add1
attribute [local simp ↓] numC_refs numC_isCell numC_cells numC_resB numC_resD numC_ren numC_closeC numC_isOwn
theorem meet11_ok (a b c d : DP) (h : szP3 a + szP3 b + szP3 c + szP3 d ≤ 7000) : Eval Try.prog 105 [DP.av2 a b, DP.av2 c d] (.ret (.slc false 6 (meetR a b c d).length (dpsC (meetR a b c d)))) := by
  have e1 := parallel11_ok a b c d (by omega)
  have hm : meetR a b c d = if parB a b c d = true then endR ([a, b, c, d].foldl (stepR a b c d) [])
    else if on3 a b (crossP a b c d) = true ∧ on3 c d (crossP a b c d) = true then [crossP a b c d] else [] := rfl
  have tw : ∀ u v : DP, dpsC [u, v] = dpC u ++ dpC v := fun u v => by simp [-map_take,-map_drop, dpsC]
  have on : ∀ u : DP, dpsC [u] = dpC u := fun u => by simp [-map_take,-map_drop, dpsC]
  by_cases hp : ¬ parB a b c d = true
  · rw [if_neg hp] at hm
    have hp' : parB a b c d = false := by cases hq : parB a b c d <;> simp_all [-map_take,-map_drop]
    rw [hp'] at e1
    have zp := sz_crossP a b c d
    have e2 := crossing11_ok a b c d (by omega)
    have e3 := on11_ok a b (crossP a b c d) (by omega)
    have e4 := on11_ok c d (crossP a b c d) (by omega)
    obtain ⟨p, nm_⟩ : ∃ nm0_, nm0_ = crossP a b c d := ⟨_, rfl⟩
    simp only [← nm_] at e2 e3 e4 hm
    clear nm_
    obtain ⟨u, nm_⟩ : ∃ nm0_, nm0_ = on3 a b p := ⟨_, rfl⟩
    simp only [← nm_] at e3 hm
    clear nm_
    obtain ⟨v, nm_⟩ : ∃ nm0_, nm0_ = on3 c d p := ⟨_, rfl⟩
    simp only [← nm_] at e4 hm
    clear nm_
    clear hp hp' zp h
    cases u with
    | false =>
      rw [if_neg (by simp [-map_take,-map_drop])] at hm
      rw [hm]
      refine Eval.out (r := .v (.slice none 0 0)) ?_ (Sub.nil false 6) rfl rfl (fun _ h => by cases h) (fun _ h => by cases h)
      refine Eval.intro Try.func105 rfl Try.call105 _ _ (Nat.le_of_ble_eq_true rfl) (by simp [-map_take,-map_drop, AV.refs, refsL, natAV, rAV, rC, dAV, dC, d3AV, d3C, dpC, DP.av, DP.av2, push_cast]) fun hs0 => ?_
      repeat' (first
        | with_reducible first | apply thenW_n | apply W_seq
        | with_reducible refine W_rg ?_
        | (rw [vcn]; (try simp [-map_take,-map_drop, push_cast, DP.av2, DP.av, d3AV, d3C, dC, rC, numC, ← tens.eq_1, dAV]))
        | fail)
      refine CallG_of (e1) rfl rfl rfl ?_
      try dsimp only
      repeat' (first
        | with_reducible first | apply thenW_n | apply W_seq
        | with_reducible refine W_rg ?_
        | (rw [vcn]; (try simp [-map_take,-map_drop, push_cast, DP.av2, DP.av, d3AV, d3C, dC, rC, numC, ← tens.eq_1, dAV]))
        | (with_reducible refine W_condW ?_; (try simp [-map_take,-map_drop, AS.val, upd, resB, mkS_env, mkS_box, lk, entry_env, condW_true, condW_false, DP.av2, DP.av, d3AV, d3C, dC, rC, numC, ← tens.eq_1, dAV]))
        | fail)
      refine CallG_of (e2) rfl rfl rfl ?_
      try dsimp only
      repeat' (first
        | with_reducible first | apply thenW_n | apply W_seq
        | with_reducible refine W_rg ?_
        | (rw [vcn]; (try simp [-map_take,-map_drop, push_cast, DP.av2, DP.av, d3AV, d3C, dC, rC, numC, ← tens.eq_1, dAV]))
        | fail)
      refine CallG_of (e3) rfl rfl rfl ?_
      try dsimp only
      repeat' (first
        | with_reducible first | apply thenW_n | apply thenW_ret | apply W_seq | apply W_skip | apply W_ret
        | with_reducible refine W_rg ?_
        | (rw [vcn]; (try simp [-map_take,-map_drop, push_cast, DP.av2, DP.av, d3AV, d3C, dC, rC, numC, ← tens.eq_1, dAV]))
        | (with_reducible refine W_condW ?_; (try simp [-map_take,-map_drop, AS.val, upd, resB, mkS_env, mkS_box, lk, entry_env, condW_true, condW_false, DP.av2, DP.av, d3AV, d3C, dC, rC, numC, ← tens.eq_1, dAV]))
        | fail)
      simp [-map_take,-map_drop, post, resAV, resAll, resOne, closeV, closeC, closeL, resD, resDL, push_cast]
    | true =>
      cases v with
      | false =>
        rw [if_neg (by simp [-map_take,-map_drop])] at hm
        rw [hm]
        refine Eval.out (r := .v (.slice none 0 0)) ?_ (Sub.nil false 6) rfl rfl (fun _ h => by cases h) (fun _ h => by cases h)
        refine Eval.intro Try.func105 rfl Try.call105 _ _ (Nat.le_of_ble_eq_true rfl) (by simp [-map_take,-map_drop, AV.refs, refsL, natAV, rAV, rC, dAV, dC, d3AV, d3C, dpC, DP.av, DP.av2, push_cast]) fun hs0 => ?_
        repeat' (first
          | with_reducible first | apply thenW_n | apply W_seq
          | with_reducible refine W_rg ?_
          | (rw [vcn]; (try simp [-map_take,-map_drop, push_cast, DP.av2, DP.av, d3AV, d3C, dC, rC, numC, ← tens.eq_1, dAV]))
          | fail)
        refine CallG_of (e1) rfl rfl rfl ?_
        try dsimp only
        repeat' (first
          | with_reducible first | apply thenW_n | apply W_seq
          | with_reducible refine W_rg ?_
          | (rw [vcn]; (try simp [-map_take,-map_drop, push_cast, DP.av2, DP.av, d3AV, d3C, dC, rC, numC, ← tens.eq_1, dAV]))
          | (with_reducible refine W_condW ?_; (try simp [-map_take,-map_drop, AS.val, upd, resB, mkS_env, mkS_box, lk, entry_env, condW_true, condW_false, DP.av2, DP.av, d3AV, d3C, dC, rC, numC, ← tens.eq_1, dAV]))
          | fail)
        refine CallG_of (e2) rfl rfl rfl ?_
        try dsimp only
        repeat' (first
          | with_reducible first | apply thenW_n | apply W_seq
          | with_reducible refine W_rg ?_
          | (rw [vcn]; (try simp [-map_take,-map_drop, push_cast, DP.av2, DP.av, d3AV, d3C, dC, rC, numC, ← tens.eq_1, dAV]))
          | fail)
        refine CallG_of (e3) rfl rfl rfl ?_
        try dsimp only
        repeat' (first
          | (rw [vcn]; (try simp [-map_take,-map_drop, push_cast, DP.av2, DP.av, d3AV, d3C, dC, rC, numC, ← tens.eq_1, dAV]))
          | fail)
        refine CallG_of (e4) rfl rfl rfl ?_
        try dsimp only
        repeat' (first
          | with_reducible first | apply thenW_n | apply thenW_ret | apply W_seq | apply W_skip | apply W_ret
          | with_reducible refine W_rg ?_
          | (rw [vcn]; (try simp [-map_take,-map_drop, push_cast, DP.av2, DP.av, d3AV, d3C, dC, rC, numC, ← tens.eq_1, dAV]))
          | (with_reducible refine W_condW ?_; (try simp [-map_take,-map_drop, AS.val, upd, resB, mkS_env, mkS_box, lk, entry_env, condW_true, condW_false, DP.av2, DP.av, d3AV, d3C, dC, rC, numC, ← tens.eq_1, dAV]))
          | fail)
        simp [-map_take,-map_drop, post, resAV, resAll, resOne, closeV, closeC, closeL, resD, resDL, push_cast]
      | true =>
        rw [if_pos ⟨rfl, rfl⟩] at hm
        rw [hm, on]
        refine Eval.frz1 (e := 43) ?_
        refine Eval.intro Try.func105 rfl Try.call105 _ _ (Nat.le_of_ble_eq_true rfl) (by simp [-map_take,-map_drop, AV.refs, refsL, natAV, rAV, rC, dAV, dC, d3AV, d3C, dpC, DP.av, DP.av2, push_cast]) fun hs0 => ?_
        repeat' (first
          | with_reducible first | apply thenW_n | apply W_seq
          | with_reducible refine W_rg ?_
          | (rw [vcn]; (try simp [-map_take,-map_drop, push_cast, DP.av2, DP.av, d3AV, d3C, dC, rC, numC, ← tens.eq_1, dAV]))
          | fail)
        refine CallG_of (e1) rfl rfl rfl ?_
        try dsimp only
        repeat' (first
          | with_reducible first | apply thenW_n | apply W_seq
          | with_reducible refine W_rg ?_
          | (rw [vcn]; (try simp [-map_take,-map_drop, push_cast, DP.av2, DP.av, d3AV, d3C, dC, rC, numC, ← tens.eq_1, dAV]))
          | (with_reducible refine W_condW ?_; (try simp [-map_take,-map_drop, AS.val, upd, resB, mkS_env, mkS_box, lk, entry_env, condW_true, condW_false, DP.av2, DP.av, d3AV, d3C, dC, rC, numC, ← tens.eq_1, dAV]))
          | fail)
        refine CallG_of (e2) rfl rfl rfl ?_
        try dsimp only
        repeat' (first
          | with_reducible first | apply thenW_n | apply W_seq
          | with_reducible refine W_rg ?_
          | (rw [vcn]; (try simp [-map_take,-map_drop, push_cast, DP.av2, DP.av, d3AV, d3C, dC, rC, numC, ← tens.eq_1, dAV]))
          | fail)
        refine CallG_of (e3) rfl rfl rfl ?_
        try dsimp only
        repeat' (first
          | (rw [vcn]; (try simp [-map_take,-map_drop, push_cast, DP.av2, DP.av, d3AV, d3C, dC, rC, numC, ← tens.eq_1, dAV]))
          | fail)
        refine CallG_of (e4) rfl rfl rfl ?_
        try dsimp only
        repeat' (first
          | with_reducible first | apply thenW_n | apply thenW_ret | apply W_seq | apply W_ret
          | with_reducible refine W_rg ?_
          | (rw [vcn]; (try simp [-map_take,-map_drop, push_cast, DP.av2, DP.av, d3AV, d3C, dC, rC, numC, ← tens.eq_1, dAV]))
          | (with_reducible refine W_condW ?_; (try simp [-map_take,-map_drop, AS.val, upd, resB, mkS_env, mkS_box, lk, entry_env, condW_true, condW_false, DP.av2, DP.av, d3AV, d3C, dC, rC, numC, ← tens.eq_1, dAV]))
          | fail)
        simp [-map_take,-map_drop, post, resAV, resAll, resOne, closeV, closeC, closeL, resD, resDL, push_cast, dpC, d3C, dC, rC, numC, ← tens.eq_1]
  have hp : parB a b c d = true := by cases hq : parB a b c d <;> simp_all [-map_take,-map_drop]
  rw [if_pos hp] at hm
  rw [hp] at e1
  obtain ⟨Q, hQ⟩ : ∃ Q : List DP, Q = [a, b, c, d] := ⟨_, rfl⟩
  have hQ4 : Q.length = 4 := by rw [hQ]; rfl
  have hQs : ∀ p ∈ Q, szP3 p ≤ 7000 := by
    intro p hp
    rw [hQ] at hp
    simp only [List.mem_cons, List.not_mem_nil, or_false] at hp
    rcases hp with rfl | rfl | rfl | rfl <;> omega
  obtain ⟨R, hR⟩ : ∃ R, R = dpsC Q := ⟨_, rfl⟩
  have hRe : dpC a ++ (dpC b ++ (dpC c ++ dpC d)) = R := by rw [hR, hQ]; simp [-map_take,-map_drop, dpsC]
  have hRr : refsL R = [] := by rw [hR]; exact dpsC_refs _
  have hRn : ∀ ρ, renL ρ R = R := fun ρ => renL_id ρ _ hRr
  have hRl : R.length = 24 := by rw [hR, dpsC_len, hQ4]
  have hat : ∀ i (h : i < Q.length), ∃ t, R.drop (i * 6) = dpC Q[i] ++ t := by rw [hR]; exact dpsC_at Q
  have hpr := dpsC_refs
  have hpn : ∀ ρ l, renL ρ (dpsC l) = dpsC l := fun ρ l => renL_id ρ _ (dpsC_refs l)
  have hfold := foldl_take (stepR a b c d) [] Q
  rw [← hQ] at hm
  have hsn : ∀ p, (on3 a b p = false ∨ on3 c d p = false) → ∀ o, stepR a b c d o p = o := fun p h o => stepR_no h
  have hs1 : ∀ p, on3 a b p = true → on3 c d p = true → stepR a b c d [] p = [p, p] := fun p h1 h2 => by unfold stepR; rw [if_pos ⟨h1, h2⟩]
  have hs2 : ∀ p l h, on3 a b p = true → on3 c d p = true → stepR a b c d [l, h] p = [if cmp3 p l < 0 then p else l, if 0 < cmp3 p h then p else h] := fun p l h h1 h2 => by unfold stepR; rw [if_pos ⟨h1, h2⟩]
  obtain ⟨st, nm_⟩ : ∃ nm0_, nm0_ = stepR a b c d := ⟨_, rfl⟩
  simp only [← nm_] at hm hfold hsn hs1 hs2
  clear nm_
  refine Eval.intro Try.func105 rfl Try.call105 _ _ (Nat.le_of_ble_eq_true rfl) (by simp [-map_take,-map_drop, AV.refs, refsL, natAV, rAV, rC, dAV, dC, d3AV, d3C, dpC, DP.av, DP.av2, push_cast]) fun hs0 => ?_
  repeat' (first
    | with_reducible first | apply thenW_n | apply W_seq
    | with_reducible refine W_rg ?_
    | (rw [vcn]; (try simp [-map_take,-map_drop, push_cast, DP.av2, DP.av, d3AV, d3C, dC, rC, numC, ← tens.eq_1, dAV]))
    | fail)
  refine CallG_of (e1) rfl rfl rfl ?_
  try dsimp only
  repeat' (first
    | with_reducible first | apply thenW_n | apply W_seq | apply W_skip
    | with_reducible refine W_rg ?_
    | (rw [vcn]; (try simp [-map_take,-map_drop, push_cast, DP.av2, DP.av, d3AV, d3C, dC, rC, numC, ← tens.eq_1, dAV]))
    | (with_reducible refine W_condW ?_; (try simp [-map_take,-map_drop, AS.val, upd, resB, mkS_env, mkS_box, lk, entry_env, condW_true, condW_false, DP.av2, DP.av, d3AV, d3C, dC, rC, numC, ← tens.eq_1, dAV]))
    | fail)
  refine W_nil 7 500 43 6 (by simp [-map_take,-map_drop, upd, mkS_env, entry_env, lk]) (by simp [-map_take,-map_drop, mkS_used, entry_used]) ?_
  repeat' (first
    | with_reducible apply W_block
    | fail)
  refine W_loopW (X := Nat × List DP) (fun x => [(2, .bp 2 0), (3, .bp 3 0), (6, .bp 6 0), (7, .bs 500 6 0 x.2.length), (8, i64V x.1)])
    (fun x => [(2, .mut 68 (d3C a.x a.y a.w ++ d3C b.x b.y b.w)), (3, .mut 68 (d3C c.x c.y c.w ++ d3C d.x d.y d.w)), (6, .mut 162 R), (500, .mut 43 (dpsC x.2))]) (fun x => 4 - x.1)
    (fun x => x.1 ≤ 4 ∧ x.2 = (Q.take x.1).foldl st [] ∧ (x.2 = [] ∨ ∃ l h, x.2 = [l, h] ∧ szP3 l ≤ 7000 ∧ szP3 h ≤ 7000)) (0, []) id ⟨by simp [-map_take,-map_drop], rfl, .inl rfl⟩ ⟨?_, ?_, ?_, ?_, ?_, ?_⟩ fun x hx => ?_
  all_goals first | (with_reducible refine W_id ?_) | (simp [-map_take,-map_drop, push_cast, dV_take, dV_drop, hRr, hRn, hpr, hpn, d3C, dC, rC, numC, ← tens.eq_1, dpsC, dpC, hQ, hR]; done)
  obtain ⟨i, o⟩ := x
  obtain ⟨hi, ho, hz⟩ := hx
  simp only at hi ho hz
  by_cases hlt : ¬ i < 4
  · have y1 : (i < 4) = False := eq_false hlt
    have y2 : ((i : Int) < 4) = False := eq_false (by omega)
    rw [List.take_of_length_le (by omega), ] at ho
    rw [← ho] at hm
    clear hfold hsn hs1 hs2 hat hQs ho
    refine W_frz 500 (e := 43) (l := dpsC o) (by simp [-map_take,-map_drop, mkS_box, lk]) (hpr _) ?_
    rcases hz with rfl | ⟨l, u, rfl, z1, z2⟩
    · have e : meetR a b c d = [] := hm
      rw [e]
      have e2 : dpsC [] = [] := rfl
      rw [e2]
      repeat' (first
        | with_reducible first | apply thenW_n | apply thenW_exit | apply blockW_same | apply loopW_exit | apply W_seq | apply W_skip | apply W_ret | apply W_exit
        | with_reducible refine W_rg ?_
        | (rw [vcn]; (try simp [-map_take,-map_drop, push_cast, y1, y2]))
        | with_reducible refine W_drawn mixed (by decide) (by kernel_rfl) ?_
        | (rw [vcnD]; (try simp [-map_take,-map_drop, push_cast, y1, y2]))
        | (with_reducible refine W_condW ?_; (try simp [-map_take,-map_drop, AS.val, upd, resB, mkS_env, mkS_box, lk, entry_env, condW_true, condW_false, y1, y2]))
        | refine And.intro (by first | omega | kernel_rfl) ?_
        | fail)
      simp [-map_take,-map_drop, post, resAV, resAll, resOne, closeV, closeC, closeL, resD, resDL, push_cast]
    · have hm' : meetR a b c d = if cmp3 l u = 0 then [l] else [l, u] := hm
      have k1 := cmp11_ok l u (by omega)
      by_cases hk : cmp3 l u = 0
      · rw [if_pos hk] at hm'
        rw [hk] at k1
        rw [hm', tw, on]
        repeat' (first
          | with_reducible first | apply thenW_n | apply thenW_exit | apply blockW_same | apply loopW_exit | apply W_seq | apply W_exit
          | with_reducible refine W_rg ?_
          | (rw [vcn]; (try simp [-map_take,-map_drop, push_cast, y1, y2, dpC, d3C, dC, rC, numC, ← tens.eq_1]))
          | with_reducible refine W_drawn mixed (by decide) (by kernel_rfl) ?_
          | (rw [vcnD]; (try simp [-map_take,-map_drop, push_cast, y1, y2, dpC, d3C, dC, rC, numC, ← tens.eq_1]))
          | (with_reducible refine W_condW ?_; (try simp [-map_take,-map_drop, AS.val, upd, resB, mkS_env, mkS_box, lk, entry_env, condW_true, condW_false, y1, y2, dpC, d3C, dC, rC, numC, ← tens.eq_1]))
          | fail)
        refine callD_of (k1) rfl rfl rfl ?_
        try dsimp only
        repeat' (first
          | with_reducible first | apply thenW_n | apply thenW_ret | apply W_seq | apply W_ret
          | with_reducible refine W_rg ?_
          | (rw [vcn]; (try simp [-map_take,-map_drop, push_cast, dpC, d3C, dC, rC, numC, ← tens.eq_1]))
          | (rw [vcnD]; (try simp [-map_take,-map_drop, push_cast, dpC, d3C, dC, rC, numC, ← tens.eq_1]))
          | (with_reducible refine W_condW ?_; (try simp [-map_take,-map_drop, AS.val, upd, resB, mkS_env, mkS_box, lk, entry_env, condW_true, condW_false, dpC, d3C, dC, rC, numC, ← tens.eq_1]))
          | refine And.intro (by first | omega | kernel_rfl) ?_
          | fail)
        simp [-map_take,-map_drop, post, resAV, resAll, resOne, closeV, closeC, closeL, resD, resDL, push_cast, dpC, d3C, dC, rC, numC, ← tens.eq_1]
      · rw [if_neg hk] at hm'
        rw [hm', tw]
        obtain ⟨k, nm_⟩ : ∃ nm0_, nm0_ = cmp3 l u := ⟨_, rfl⟩
        simp only [← nm_] at k1 hk
        clear nm_
        have x1 : (k = 0) = False := eq_false hk
        have x2 : (k == 0) = false := beq_eq_false_iff_ne.2 hk
        repeat' (first
          | with_reducible first | apply thenW_n | apply thenW_exit | apply blockW_same | apply loopW_exit | apply W_seq | apply W_exit
          | with_reducible refine W_rg ?_
          | (rw [vcn]; (try simp [-map_take,-map_drop, push_cast, y1, y2, dpC, d3C, dC, rC, numC, ← tens.eq_1]))
          | with_reducible refine W_drawn mixed (by decide) (by kernel_rfl) ?_
          | (rw [vcnD]; (try simp [-map_take,-map_drop, push_cast, y1, y2, dpC, d3C, dC, rC, numC, ← tens.eq_1]))
          | (with_reducible refine W_condW ?_; (try simp [-map_take,-map_drop, AS.val, upd, resB, mkS_env, mkS_box, lk, entry_env, condW_true, condW_false, y1, y2, dpC, d3C, dC, rC, numC, ← tens.eq_1]))
          | fail)
        refine callD_of (k1) rfl rfl rfl ?_
        try dsimp only
        repeat' (first
          | with_reducible first | apply thenW_n | apply W_seq | apply W_skip | apply W_ret
          | with_reducible refine W_rg ?_
          | (rw [vcn]; (try simp [-map_take,-map_drop, push_cast, x1, x2, dpC, d3C, dC, rC, numC, ← tens.eq_1]))
          | (rw [vcnD]; (try simp [-map_take,-map_drop, push_cast, x1, x2, dpC, d3C, dC, rC, numC, ← tens.eq_1]))
          | (with_reducible refine W_condW ?_; (try simp [-map_take,-map_drop, AS.val, upd, resB, mkS_env, mkS_box, lk, entry_env, condW_true, condW_false, x1, x2, dpC, d3C, dC, rC, numC, ← tens.eq_1]))
          | refine And.intro (by first | omega | kernel_rfl) ?_
          | fail)
        simp [-map_take,-map_drop, post, resAV, resAll, resOne, closeV, closeC, closeL, resD, resDL, push_cast, dpC, d3C, dC, rC, numC, ← tens.eq_1]
  have hlt : i < 4 := by omega
  have y1 : (i < 4) = True := eq_true hlt
  have y2 : ((i : Int) < 4) = True := eq_true (by omega)
  have w1 : IntKind.i64.wrap ((i : Int) + 1) = ((i + 1 : Nat) : Int) := by rw [i64_in _ (by omega)]; omega
  obtain ⟨t1, ht1⟩ := hat i (by omega)
  have hps := hQs (Q[i]'(by omega)) (List.getElem_mem _)
  have hfi := hfold i (by omega)
  rw [← ho] at hfi
  obtain ⟨p, nm_⟩ : ∃ nm0_, nm0_ = Q[i] := ⟨_, rfl⟩
  simp only [← nm_] at ht1 hps hfi
  clear nm_
  have o1 := on11_ok a b p (by omega)
  have o2 := on11_ok c d p (by omega)
  have hsn := hsn p
  have hs1 := hs1 p
  have hs2 := hs2 p
  obtain ⟨b1, nm_⟩ : ∃ nm0_, nm0_ = on3 a b p := ⟨_, rfl⟩
  simp only [← nm_] at o1 hsn hs1 hs2
  clear nm_
  obtain ⟨b2, nm_⟩ : ∃ nm0_, nm0_ = on3 c d p := ⟨_, rfl⟩
  simp only [← nm_] at o2 hsn hs1 hs2
  clear nm_
  have tl1 := congrArg List.length ht1
  rw [List.length_drop, hRl, List.length_append, dpC_len] at tl1
  clear hfold hat hQs ho
  cases b1 with
  | false =>
    rw [hsn (.inl rfl)] at hfi
    repeat' (first
      | with_reducible first | apply thenW_n | apply W_seq | apply W_block | apply W_skip
      | with_reducible refine W_rg ?_
      | (rw [vcn]; (try simp [-map_take,-map_drop, push_cast, y1, y2, w1, ht1, hRl, hlt, dpC, DP.av2, DP.av, d3AV, d3C, dC, rC, numC, ← tens.eq_1, dAV]))
      | with_reducible refine W_drawn mixed (by decide) (by kernel_rfl) ?_
      | (rw [vcnD]; (try simp [-map_take,-map_drop, push_cast, y1, y2, w1, ht1, hRl, hlt, dpC, DP.av2, DP.av, d3AV, d3C, dC, rC, numC, ← tens.eq_1, dAV]))
      | (with_reducible refine W_condW ?_; (try simp [-map_take,-map_drop, AS.val, upd, resB, mkS_env, mkS_box, lk, entry_env, condW_true, condW_false, y1, y2, w1, ht1, hRl, hlt, dpC, DP.av2, DP.av, d3AV, d3C, dC, rC, numC, ← tens.eq_1, dAV]))
      | fail)
    refine callD_of (o1) rfl rfl rfl ?_
    try dsimp only
    repeat' (first
      | with_reducible first | apply thenW_n | apply thenW_exit | apply blockW_same | apply W_exit
      | with_reducible refine W_rg ?_
      | (rw [vcn]; (try simp [-map_take,-map_drop, push_cast]); try simp (disch := omega) only [i64_in, u64_in, shr64i])
      | (rw [vcnD]; (try simp [-map_take,-map_drop, push_cast]); try simp (disch := omega) only [i64_in, u64_in, shr64i])
      | (with_reducible refine W_condW ?_; (try simp [-map_take,-map_drop, AS.val, upd, resB, mkS_env, mkS_box, lk, entry_env, condW_true, condW_false]))
      | refine And.intro (by first | omega | kernel_rfl) ?_
      | fail)
    refine loopW_n (i + 1, o) id (by simp only; omega) ⟨by simp only; omega, hfi.symm, hz⟩ ⟨?_, ?_, ?_, ?_, ?_, ?_⟩
    all_goals first | (simp [-map_take,-map_drop, push_cast, dV_take, dV_drop, hRr, hRn, hpr, hpn, d3C, dC, rC, numC, ← tens.eq_1]; done)
  | true =>
    cases b2 with
    | false =>
      rw [hsn (.inr rfl)] at hfi
      repeat' (first
        | with_reducible first | apply thenW_n | apply W_seq | apply W_block | apply W_skip
        | with_reducible refine W_rg ?_
        | (rw [vcn]; (try simp [-map_take,-map_drop, push_cast, y1, y2, w1, ht1, hRl, hlt, dpC, DP.av2, DP.av, d3AV, d3C, dC, rC, numC, ← tens.eq_1, dAV]))
        | with_reducible refine W_drawn mixed (by decide) (by kernel_rfl) ?_
        | (rw [vcnD]; (try simp [-map_take,-map_drop, push_cast, y1, y2, w1, ht1, hRl, hlt, dpC, DP.av2, DP.av, d3AV, d3C, dC, rC, numC, ← tens.eq_1, dAV]))
        | (with_reducible refine W_condW ?_; (try simp [-map_take,-map_drop, AS.val, upd, resB, mkS_env, mkS_box, lk, entry_env, condW_true, condW_false, y1, y2, w1, ht1, hRl, hlt, dpC, DP.av2, DP.av, d3AV, d3C, dC, rC, numC, ← tens.eq_1, dAV]))
        | fail)
      refine callD_of (o1) rfl rfl rfl ?_
      try dsimp only
      repeat' (first
        | (rw [vcnD]; (try simp [-map_take,-map_drop, push_cast, ht1, hRl, hlt, dpC, DP.av2, DP.av, d3AV, d3C, dC, rC, numC, ← tens.eq_1, dAV]))
        | refine And.intro (by first | omega | kernel_rfl) ?_
        | fail)
      refine callD_of (o2) rfl rfl rfl ?_
      try dsimp only
      repeat' (first
        | with_reducible first | apply thenW_n | apply thenW_exit | apply blockW_same | apply W_exit
        | with_reducible refine W_rg ?_
        | (rw [vcn]; (try simp [-map_take,-map_drop, push_cast]); try simp (disch := omega) only [i64_in, u64_in, shr64i])
        | (rw [vcnD]; (try simp [-map_take,-map_drop, push_cast]); try simp (disch := omega) only [i64_in, u64_in, shr64i])
        | (with_reducible refine W_condW ?_; (try simp [-map_take,-map_drop, AS.val, upd, resB, mkS_env, mkS_box, lk, entry_env, condW_true, condW_false]))
        | refine And.intro (by first | omega | kernel_rfl) ?_
        | fail)
      refine loopW_n (i + 1, o) id (by simp only; omega) ⟨by simp only; omega, hfi.symm, hz⟩ ⟨?_, ?_, ?_, ?_, ?_, ?_⟩
      all_goals first | (simp [-map_take,-map_drop, push_cast, dV_take, dV_drop, hRr, hRn, hpr, hpn, d3C, dC, rC, numC, ← tens.eq_1]; done)
    | true =>
      have k0 := cmp11_ok p p (by omega)
      rw [cmp3_self] at k0
      rcases hz with rfl | ⟨l, u, rfl, z1, z2⟩
      · rw [hs1 rfl rfl] at hfi
        repeat' (first
          | with_reducible first | apply thenW_n | apply W_seq | apply W_block | apply W_skip
          | with_reducible refine W_rg ?_
          | (rw [vcn]; (try simp [-map_take,-map_drop, push_cast, y1, y2, w1, ht1, hRl, hlt, dpC, DP.av2, DP.av, d3AV, d3C, dC, rC, numC, ← tens.eq_1, dAV]))
          | with_reducible refine W_drawn mixed (by decide) (by kernel_rfl) ?_
          | (rw [vcnD]; (try simp [-map_take,-map_drop, push_cast, y1, y2, w1, ht1, hRl, hlt, dpC, DP.av2, DP.av, d3AV, d3C, dC, rC, numC, ← tens.eq_1, dAV]))
          | (with_reducible refine W_condW ?_; (try simp [-map_take,-map_drop, AS.val, upd, resB, mkS_env, mkS_box, lk, entry_env, condW_true, condW_false, y1, y2, w1, ht1, hRl, hlt, dpC, DP.av2, DP.av, d3AV, d3C, dC, rC, numC, ← tens.eq_1, dAV]))
          | fail)
        refine callD_of (o1) rfl rfl rfl ?_
        try dsimp only
        repeat' (first
          | (rw [vcnD]; (try simp [-map_take,-map_drop, push_cast, ht1, hRl, hlt, dpC, DP.av2, DP.av, d3AV, d3C, dC, rC, numC, ← tens.eq_1, dAV]))
          | refine And.intro (by first | omega | kernel_rfl) ?_
          | fail)
        refine callD_of (o2) rfl rfl rfl ?_
        try dsimp only
        repeat' (first
          | with_reducible first | apply thenW_n | apply W_seq | apply W_skip
          | with_reducible refine W_rg ?_
          | (rw [vcn]; (try simp [-map_take,-map_drop, push_cast, ht1, hRl, hlt, dpC, DP.av2, DP.av, d3AV, d3C, dC, rC, numC, ← tens.eq_1, dAV]))
          | with_reducible refine W_drawn mixed (by decide) (by kernel_rfl) ?_
          | (rw [vcnD]; (try simp [-map_take,-map_drop, push_cast, ht1, hRl, hlt, dpC, DP.av2, DP.av, d3AV, d3C, dC, rC, numC, ← tens.eq_1, dAV]))
          | (with_reducible refine W_condW ?_; (try simp [-map_take,-map_drop, AS.val, upd, resB, mkS_env, mkS_box, lk, entry_env, condW_true, condW_false, ht1, hRl, hlt, dpC, DP.av2, DP.av, d3AV, d3C, dC, rC, numC, ← tens.eq_1, dAV]))
          | refine And.intro (by first | omega | kernel_rfl) ?_
          | fail)
        refine callD_of (k0) rfl rfl rfl ?_
        try dsimp only
        repeat' (first
          | with_reducible first | apply thenW_n | apply W_seq | apply W_skip
          | with_reducible refine W_drawn mixed (by decide) (by kernel_rfl) ?_
          | (rw [vcnD]; (try simp [-map_take,-map_drop, push_cast, ht1, hRl, hlt, dpC, DP.av2, DP.av, d3AV, d3C, dC, rC, numC, ← tens.eq_1, dAV]))
          | (with_reducible refine W_condW ?_; (try simp [-map_take,-map_drop, AS.val, upd, resB, mkS_env, mkS_box, lk, entry_env, condW_true, condW_false, ht1, hRl, hlt, dpC, DP.av2, DP.av, d3AV, d3C, dC, rC, numC, ← tens.eq_1, dAV]))
          | refine And.intro (by first | omega | kernel_rfl) ?_
          | fail)
        refine callD_of (k0) rfl rfl rfl ?_
        try dsimp only
        repeat' (first
          | with_reducible first | apply thenW_n | apply blockW_n | apply W_skip
          | with_reducible refine W_rg ?_
          | (rw [vcn]; (try simp [-map_take,-map_drop, push_cast, w1]))
          | (rw [vcnD]; (try simp [-map_take,-map_drop, push_cast, w1]))
          | (with_reducible refine W_condW ?_; (try simp [-map_take,-map_drop, AS.val, upd, resB, mkS_env, mkS_box, lk, entry_env, condW_true, condW_false, w1]))
          | refine And.intro (by first | omega | kernel_rfl) ?_
          | fail)
        refine loopW_n (i + 1, [p, p]) (fun i => if i = 500 then 62 else i) (by simp only; omega) ⟨by simp only; omega, hfi.symm, .inr ⟨p, p, rfl, hps, hps⟩⟩ ⟨?_, ?_, ?_, ?_, ?_, ?_⟩
        all_goals first | (simp [-map_take,-map_drop, push_cast, dV_take, dV_drop, hRr, hRn, hpr, hpn, d3C, dC, rC, numC, ← tens.eq_1, dpsC, dpC]; done) | (simp [-map_take,-map_drop, push_cast, dV_take, dV_drop, hRr, hRn, hpr, hpn, d3C, dC, rC, numC, ← tens.eq_1, dpsC, dpC]; omega)
      · rw [hs2 l u rfl rfl] at hfi
        have k1 := cmp11_ok p l (by omega)
        have k2 := cmp11_ok p u (by omega)
        obtain ⟨d1, nm_⟩ : ∃ nm0_, nm0_ = cmp3 p l := ⟨_, rfl⟩
        simp only [← nm_] at k1 hfi
        clear nm_
        obtain ⟨d2, nm_⟩ : ∃ nm0_, nm0_ = cmp3 p u := ⟨_, rfl⟩
        simp only [← nm_] at k2 hfi
        clear nm_
        by_cases q1 : d1 < 0 <;> by_cases q2 : 0 < d2
        · have x1 : (d1 < 0) = True := eq_true q1
          have x2 : (0 < d2) = True := eq_true q2
          rw [if_pos q1, if_pos q2] at hfi
          repeat' (first
            | with_reducible first | apply thenW_n | apply W_seq | apply W_block | apply W_skip
            | with_reducible refine W_rg ?_
            | (rw [vcn]; (try simp [-map_take,-map_drop, push_cast, y1, y2, w1, ht1, hRl, hlt, dpC, DP.av2, DP.av, d3AV, d3C, dC, rC, numC, ← tens.eq_1, dAV]))
            | with_reducible refine W_drawn mixed (by decide) (by kernel_rfl) ?_
            | (rw [vcnD]; (try simp [-map_take,-map_drop, push_cast, y1, y2, w1, ht1, hRl, hlt, dpC, DP.av2, DP.av, d3AV, d3C, dC, rC, numC, ← tens.eq_1, dAV]))
            | (with_reducible refine W_condW ?_; (try simp [-map_take,-map_drop, AS.val, upd, resB, mkS_env, mkS_box, lk, entry_env, condW_true, condW_false, y1, y2, w1, ht1, hRl, hlt, dpC, DP.av2, DP.av, d3AV, d3C, dC, rC, numC, ← tens.eq_1, dAV]))
            | fail)
          refine callD_of (o1) rfl rfl rfl ?_
          try dsimp only
          repeat' (first
            | (rw [vcnD]; (try simp [-map_take,-map_drop, push_cast, ht1, hRl, hlt, dpC, DP.av2, DP.av, d3AV, d3C, dC, rC, numC, ← tens.eq_1, dAV]))
            | refine And.intro (by first | omega | kernel_rfl) ?_
            | fail)
          refine callD_of (o2) rfl rfl rfl ?_
          try dsimp only
          repeat' (first
            | with_reducible first | apply thenW_n | apply W_seq | apply W_skip
            | with_reducible refine W_rg ?_
            | (rw [vcn]; (try simp [-map_take,-map_drop, push_cast, ht1, hRl, hlt, dpC, dpsC, DP.av2, DP.av, d3AV, d3C, dC, rC, numC, ← tens.eq_1, dAV]))
            | with_reducible refine W_drawn mixed (by decide) (by kernel_rfl) ?_
            | (rw [vcnD]; (try simp [-map_take,-map_drop, push_cast, ht1, hRl, hlt, dpC, dpsC, DP.av2, DP.av, d3AV, d3C, dC, rC, numC, ← tens.eq_1, dAV]))
            | (with_reducible refine W_condW ?_; (try simp [-map_take,-map_drop, AS.val, upd, resB, mkS_env, mkS_box, lk, entry_env, condW_true, condW_false, ht1, hRl, hlt, dpC, dpsC, DP.av2, DP.av, d3AV, d3C, dC, rC, numC, ← tens.eq_1, dAV]))
            | refine And.intro (by first | omega | kernel_rfl) ?_
            | fail)
          refine callD_of (k1) rfl rfl rfl ?_
          try dsimp only
          repeat' (first
            | with_reducible first | apply thenW_n | apply W_seq
            | with_reducible refine W_rg ?_
            | (rw [vcn]; (try simp [-map_take,-map_drop, push_cast, x1, ht1, hRl, hlt, dpC, dpsC, DP.av2, DP.av, d3AV, d3C, dC, rC, numC, ← tens.eq_1, dAV]))
            | with_reducible refine W_drawn mixed (by decide) (by kernel_rfl) ?_
            | (rw [vcnD]; (try simp [-map_take,-map_drop, push_cast, x1, ht1, hRl, hlt, dpC, dpsC, DP.av2, DP.av, d3AV, d3C, dC, rC, numC, ← tens.eq_1, dAV]))
            | (with_reducible refine W_condW ?_; (try simp [-map_take,-map_drop, AS.val, upd, resB, mkS_env, mkS_box, lk, entry_env, condW_true, condW_false, x1, ht1, hRl, hlt, dpC, dpsC, DP.av2, DP.av, d3AV, d3C, dC, rC, numC, ← tens.eq_1, dAV]))
            | refine And.intro (by first | omega | kernel_rfl) ?_
            | fail)
          refine callD_of (k2) rfl rfl rfl ?_
          try dsimp only
          repeat' (first
            | with_reducible first | apply thenW_n | apply blockW_n
            | with_reducible refine W_rg ?_
            | (rw [vcn]; (try simp [-map_take,-map_drop, push_cast, x2, ht1, hRl, hlt, dpC, dpsC, DP.av2, DP.av, d3AV, d3C, dC, rC, numC, ← tens.eq_1, dAV]); try simp (disch := omega) only [i64_in, u64_in, shr64i])
            | (rw [vcnD]; (try simp [-map_take,-map_drop, push_cast, x2, ht1, hRl, hlt, dpC, dpsC, DP.av2, DP.av, d3AV, d3C, dC, rC, numC, ← tens.eq_1, dAV]); try simp (disch := omega) only [i64_in, u64_in, shr64i])
            | (with_reducible refine W_condW ?_; (try simp [-map_take,-map_drop, AS.val, upd, resB, mkS_env, mkS_box, lk, entry_env, condW_true, condW_false, x2, ht1, hRl, hlt, dpC, dpsC, DP.av2, DP.av, d3AV, d3C, dC, rC, numC, ← tens.eq_1, dAV]))
            | refine And.intro (by first | omega | kernel_rfl) ?_
            | fail)
          refine loopW_n (i + 1, [p, p]) id (by simp only; omega) ⟨by simp only; omega, hfi.symm, .inr ⟨_, _, rfl, by omega, by omega⟩⟩ ⟨?_, ?_, ?_, ?_, ?_, ?_⟩
          all_goals first | (simp [-map_take,-map_drop, push_cast, dV_take, dV_drop, hRr, hRn, hpr, hpn, d3C, dC, rC, numC, ← tens.eq_1, dpsC, dpC]; done)
        · have x1 : (d1 < 0) = True := eq_true q1
          have x2 : (0 < d2) = False := eq_false q2
          rw [if_pos q1, if_neg q2] at hfi
          repeat' (first
            | with_reducible first | apply thenW_n | apply W_seq | apply W_block | apply W_skip
            | with_reducible refine W_rg ?_
            | (rw [vcn]; (try simp [-map_take,-map_drop, push_cast, y1, y2, w1, ht1, hRl, hlt, dpC, DP.av2, DP.av, d3AV, d3C, dC, rC, numC, ← tens.eq_1, dAV]))
            | with_reducible refine W_drawn mixed (by decide) (by kernel_rfl) ?_
            | (rw [vcnD]; (try simp [-map_take,-map_drop, push_cast, y1, y2, w1, ht1, hRl, hlt, dpC, DP.av2, DP.av, d3AV, d3C, dC, rC, numC, ← tens.eq_1, dAV]))
            | (with_reducible refine W_condW ?_; (try simp [-map_take,-map_drop, AS.val, upd, resB, mkS_env, mkS_box, lk, entry_env, condW_true, condW_false, y1, y2, w1, ht1, hRl, hlt, dpC, DP.av2, DP.av, d3AV, d3C, dC, rC, numC, ← tens.eq_1, dAV]))
            | fail)
          refine callD_of (o1) rfl rfl rfl ?_
          try dsimp only
          repeat' (first
            | (rw [vcnD]; (try simp [-map_take,-map_drop, push_cast, ht1, hRl, hlt, dpC, DP.av2, DP.av, d3AV, d3C, dC, rC, numC, ← tens.eq_1, dAV]))
            | refine And.intro (by first | omega | kernel_rfl) ?_
            | fail)
          refine callD_of (o2) rfl rfl rfl ?_
          try dsimp only
          repeat' (first
            | with_reducible first | apply thenW_n | apply W_seq | apply W_skip
            | with_reducible refine W_rg ?_
            | (rw [vcn]; (try simp [-map_take,-map_drop, push_cast, ht1, hRl, hlt, dpC, dpsC, DP.av2, DP.av, d3AV, d3C, dC, rC, numC, ← tens.eq_1, dAV]))
            | with_reducible refine W_drawn mixed (by decide) (by kernel_rfl) ?_
            | (rw [vcnD]; (try simp [-map_take,-map_drop, push_cast, ht1, hRl, hlt, dpC, dpsC, DP.av2, DP.av, d3AV, d3C, dC, rC, numC, ← tens.eq_1, dAV]))
            | (with_reducible refine W_condW ?_; (try simp [-map_take,-map_drop, AS.val, upd, resB, mkS_env, mkS_box, lk, entry_env, condW_true, condW_false, ht1, hRl, hlt, dpC, dpsC, DP.av2, DP.av, d3AV, d3C, dC, rC, numC, ← tens.eq_1, dAV]))
            | refine And.intro (by first | omega | kernel_rfl) ?_
            | fail)
          refine callD_of (k1) rfl rfl rfl ?_
          try dsimp only
          repeat' (first
            | with_reducible first | apply thenW_n | apply W_seq
            | with_reducible refine W_rg ?_
            | (rw [vcn]; (try simp [-map_take,-map_drop, push_cast, x1, ht1, hRl, hlt, dpC, dpsC, DP.av2, DP.av, d3AV, d3C, dC, rC, numC, ← tens.eq_1, dAV]))
            | with_reducible refine W_drawn mixed (by decide) (by kernel_rfl) ?_
            | (rw [vcnD]; (try simp [-map_take,-map_drop, push_cast, x1, ht1, hRl, hlt, dpC, dpsC, DP.av2, DP.av, d3AV, d3C, dC, rC, numC, ← tens.eq_1, dAV]))
            | (with_reducible refine W_condW ?_; (try simp [-map_take,-map_drop, AS.val, upd, resB, mkS_env, mkS_box, lk, entry_env, condW_true, condW_false, x1, ht1, hRl, hlt, dpC, dpsC, DP.av2, DP.av, d3AV, d3C, dC, rC, numC, ← tens.eq_1, dAV]))
            | refine And.intro (by first | omega | kernel_rfl) ?_
            | fail)
          refine callD_of (k2) rfl rfl rfl ?_
          try dsimp only
          repeat' (first
            | with_reducible first | apply thenW_n | apply blockW_n | apply W_skip
            | with_reducible refine W_rg ?_
            | (rw [vcn]; (try simp [-map_take,-map_drop, push_cast, x2, ht1, hRl, hlt, dpC, dpsC, DP.av2, DP.av, d3AV, d3C, dC, rC, numC, ← tens.eq_1, dAV]); try simp (disch := omega) only [i64_in, u64_in, shr64i])
            | (rw [vcnD]; (try simp [-map_take,-map_drop, push_cast, x2, ht1, hRl, hlt, dpC, dpsC, DP.av2, DP.av, d3AV, d3C, dC, rC, numC, ← tens.eq_1, dAV]); try simp (disch := omega) only [i64_in, u64_in, shr64i])
            | (with_reducible refine W_condW ?_; (try simp [-map_take,-map_drop, AS.val, upd, resB, mkS_env, mkS_box, lk, entry_env, condW_true, condW_false, x2, ht1, hRl, hlt, dpC, dpsC, DP.av2, DP.av, d3AV, d3C, dC, rC, numC, ← tens.eq_1, dAV]))
            | refine And.intro (by first | omega | kernel_rfl) ?_
            | fail)
          refine loopW_n (i + 1, [p, u]) id (by simp only; omega) ⟨by simp only; omega, hfi.symm, .inr ⟨_, _, rfl, by omega, by omega⟩⟩ ⟨?_, ?_, ?_, ?_, ?_, ?_⟩
          all_goals first | (simp [-map_take,-map_drop, push_cast, dV_take, dV_drop, hRr, hRn, hpr, hpn, d3C, dC, rC, numC, ← tens.eq_1, dpsC, dpC]; done)
        · have x1 : (d1 < 0) = False := eq_false q1
          have x2 : (0 < d2) = True := eq_true q2
          rw [if_neg q1, if_pos q2] at hfi
          repeat' (first
            | with_reducible first | apply thenW_n | apply W_seq | apply W_block | apply W_skip
            | with_reducible refine W_rg ?_
            | (rw [vcn]; (try simp [-map_take,-map_drop, push_cast, y1, y2, w1, ht1, hRl, hlt, dpC, DP.av2, DP.av, d3AV, d3C, dC, rC, numC, ← tens.eq_1, dAV]))
            | with_reducible refine W_drawn mixed (by decide) (by kernel_rfl) ?_
            | (rw [vcnD]; (try simp [-map_take,-map_drop, push_cast, y1, y2, w1, ht1, hRl, hlt, dpC, DP.av2, DP.av, d3AV, d3C, dC, rC, numC, ← tens.eq_1, dAV]))
            | (with_reducible refine W_condW ?_; (try simp [-map_take,-map_drop, AS.val, upd, resB, mkS_env, mkS_box, lk, entry_env, condW_true, condW_false, y1, y2, w1, ht1, hRl, hlt, dpC, DP.av2, DP.av, d3AV, d3C, dC, rC, numC, ← tens.eq_1, dAV]))
            | fail)
          refine callD_of (o1) rfl rfl rfl ?_
          try dsimp only
          repeat' (first
            | (rw [vcnD]; (try simp [-map_take,-map_drop, push_cast, ht1, hRl, hlt, dpC, DP.av2, DP.av, d3AV, d3C, dC, rC, numC, ← tens.eq_1, dAV]))
            | refine And.intro (by first | omega | kernel_rfl) ?_
            | fail)
          refine callD_of (o2) rfl rfl rfl ?_
          try dsimp only
          repeat' (first
            | with_reducible first | apply thenW_n | apply W_seq | apply W_skip
            | with_reducible refine W_rg ?_
            | (rw [vcn]; (try simp [-map_take,-map_drop, push_cast, ht1, hRl, hlt, dpC, dpsC, DP.av2, DP.av, d3AV, d3C, dC, rC, numC, ← tens.eq_1, dAV]))
            | with_reducible refine W_drawn mixed (by decide) (by kernel_rfl) ?_
            | (rw [vcnD]; (try simp [-map_take,-map_drop, push_cast, ht1, hRl, hlt, dpC, dpsC, DP.av2, DP.av, d3AV, d3C, dC, rC, numC, ← tens.eq_1, dAV]))
            | (with_reducible refine W_condW ?_; (try simp [-map_take,-map_drop, AS.val, upd, resB, mkS_env, mkS_box, lk, entry_env, condW_true, condW_false, ht1, hRl, hlt, dpC, dpsC, DP.av2, DP.av, d3AV, d3C, dC, rC, numC, ← tens.eq_1, dAV]))
            | refine And.intro (by first | omega | kernel_rfl) ?_
            | fail)
          refine callD_of (k1) rfl rfl rfl ?_
          try dsimp only
          repeat' (first
            | with_reducible first | apply thenW_n | apply W_seq | apply W_skip
            | with_reducible refine W_drawn mixed (by decide) (by kernel_rfl) ?_
            | (rw [vcnD]; (try simp [-map_take,-map_drop, push_cast, x1, ht1, hRl, hlt, dpC, dpsC, DP.av2, DP.av, d3AV, d3C, dC, rC, numC, ← tens.eq_1, dAV]))
            | (with_reducible refine W_condW ?_; (try simp [-map_take,-map_drop, AS.val, upd, resB, mkS_env, mkS_box, lk, entry_env, condW_true, condW_false, x1, ht1, hRl, hlt, dpC, dpsC, DP.av2, DP.av, d3AV, d3C, dC, rC, numC, ← tens.eq_1, dAV]))
            | refine And.intro (by first | omega | kernel_rfl) ?_
            | fail)
          refine callD_of (k2) rfl rfl rfl ?_
          try dsimp only
          repeat' (first
            | with_reducible first | apply thenW_n | apply blockW_n
            | with_reducible refine W_rg ?_
            | (rw [vcn]; (try simp [-map_take,-map_drop, push_cast, x2, ht1, hRl, hlt, dpC, dpsC, DP.av2, DP.av, d3AV, d3C, dC, rC, numC, ← tens.eq_1, dAV]); try simp (disch := omega) only [i64_in, u64_in, shr64i])
            | (rw [vcnD]; (try simp [-map_take,-map_drop, push_cast, x2, ht1, hRl, hlt, dpC, dpsC, DP.av2, DP.av, d3AV, d3C, dC, rC, numC, ← tens.eq_1, dAV]); try simp (disch := omega) only [i64_in, u64_in, shr64i])
            | (with_reducible refine W_condW ?_; (try simp [-map_take,-map_drop, AS.val, upd, resB, mkS_env, mkS_box, lk, entry_env, condW_true, condW_false, x2, ht1, hRl, hlt, dpC, dpsC, DP.av2, DP.av, d3AV, d3C, dC, rC, numC, ← tens.eq_1, dAV]))
            | refine And.intro (by first | omega | kernel_rfl) ?_
            | fail)
          refine loopW_n (i + 1, [l, p]) id (by simp only; omega) ⟨by simp only; omega, hfi.symm, .inr ⟨_, _, rfl, by omega, by omega⟩⟩ ⟨?_, ?_, ?_, ?_, ?_, ?_⟩
          all_goals first | (simp [-map_take,-map_drop, push_cast, dV_take, dV_drop, hRr, hRn, hpr, hpn, d3C, dC, rC, numC, ← tens.eq_1, dpsC, dpC]; done)
        · have x1 : (d1 < 0) = False := eq_false q1
          have x2 : (0 < d2) = False := eq_false q2
          rw [if_neg q1, if_neg q2] at hfi
          repeat' (first
            | with_reducible first | apply thenW_n | apply W_seq | apply W_block | apply W_skip
            | with_reducible refine W_rg ?_
            | (rw [vcn]; (try simp [-map_take,-map_drop, push_cast, y1, y2, w1, ht1, hRl, hlt, dpC, DP.av2, DP.av, d3AV, d3C, dC, rC, numC, ← tens.eq_1, dAV]))
            | with_reducible refine W_drawn mixed (by decide) (by kernel_rfl) ?_
            | (rw [vcnD]; (try simp [-map_take,-map_drop, push_cast, y1, y2, w1, ht1, hRl, hlt, dpC, DP.av2, DP.av, d3AV, d3C, dC, rC, numC, ← tens.eq_1, dAV]))
            | (with_reducible refine W_condW ?_; (try simp [-map_take,-map_drop, AS.val, upd, resB, mkS_env, mkS_box, lk, entry_env, condW_true, condW_false, y1, y2, w1, ht1, hRl, hlt, dpC, DP.av2, DP.av, d3AV, d3C, dC, rC, numC, ← tens.eq_1, dAV]))
            | fail)
          refine callD_of (o1) rfl rfl rfl ?_
          try dsimp only
          repeat' (first
            | (rw [vcnD]; (try simp [-map_take,-map_drop, push_cast, ht1, hRl, hlt, dpC, DP.av2, DP.av, d3AV, d3C, dC, rC, numC, ← tens.eq_1, dAV]))
            | refine And.intro (by first | omega | kernel_rfl) ?_
            | fail)
          refine callD_of (o2) rfl rfl rfl ?_
          try dsimp only
          repeat' (first
            | with_reducible first | apply thenW_n | apply W_seq | apply W_skip
            | with_reducible refine W_rg ?_
            | (rw [vcn]; (try simp [-map_take,-map_drop, push_cast, ht1, hRl, hlt, dpC, dpsC, DP.av2, DP.av, d3AV, d3C, dC, rC, numC, ← tens.eq_1, dAV]))
            | with_reducible refine W_drawn mixed (by decide) (by kernel_rfl) ?_
            | (rw [vcnD]; (try simp [-map_take,-map_drop, push_cast, ht1, hRl, hlt, dpC, dpsC, DP.av2, DP.av, d3AV, d3C, dC, rC, numC, ← tens.eq_1, dAV]))
            | (with_reducible refine W_condW ?_; (try simp [-map_take,-map_drop, AS.val, upd, resB, mkS_env, mkS_box, lk, entry_env, condW_true, condW_false, ht1, hRl, hlt, dpC, dpsC, DP.av2, DP.av, d3AV, d3C, dC, rC, numC, ← tens.eq_1, dAV]))
            | refine And.intro (by first | omega | kernel_rfl) ?_
            | fail)
          refine callD_of (k1) rfl rfl rfl ?_
          try dsimp only
          repeat' (first
            | with_reducible first | apply thenW_n | apply W_seq | apply W_skip
            | with_reducible refine W_drawn mixed (by decide) (by kernel_rfl) ?_
            | (rw [vcnD]; (try simp [-map_take,-map_drop, push_cast, x1, ht1, hRl, hlt, dpC, dpsC, DP.av2, DP.av, d3AV, d3C, dC, rC, numC, ← tens.eq_1, dAV]))
            | (with_reducible refine W_condW ?_; (try simp [-map_take,-map_drop, AS.val, upd, resB, mkS_env, mkS_box, lk, entry_env, condW_true, condW_false, x1, ht1, hRl, hlt, dpC, dpsC, DP.av2, DP.av, d3AV, d3C, dC, rC, numC, ← tens.eq_1, dAV]))
            | refine And.intro (by first | omega | kernel_rfl) ?_
            | fail)
          refine callD_of (k2) rfl rfl rfl ?_
          try dsimp only
          repeat' (first
            | with_reducible first | apply thenW_n | apply blockW_n | apply W_skip
            | with_reducible refine W_rg ?_
            | (rw [vcn]; (try simp [-map_take,-map_drop, push_cast, x2, ht1, hRl, hlt, dpC, dpsC, DP.av2, DP.av, d3AV, d3C, dC, rC, numC, ← tens.eq_1, dAV]); try simp (disch := omega) only [i64_in, u64_in, shr64i])
            | (rw [vcnD]; (try simp [-map_take,-map_drop, push_cast, x2, ht1, hRl, hlt, dpC, dpsC, DP.av2, DP.av, d3AV, d3C, dC, rC, numC, ← tens.eq_1, dAV]); try simp (disch := omega) only [i64_in, u64_in, shr64i])
            | (with_reducible refine W_condW ?_; (try simp [-map_take,-map_drop, AS.val, upd, resB, mkS_env, mkS_box, lk, entry_env, condW_true, condW_false, x2, ht1, hRl, hlt, dpC, dpsC, DP.av2, DP.av, d3AV, d3C, dC, rC, numC, ← tens.eq_1, dAV]))
            | refine And.intro (by first | omega | kernel_rfl) ?_
            | fail)
          refine loopW_n (i + 1, [l, u]) id (by simp only; omega) ⟨by simp only; omega, hfi.symm, .inr ⟨_, _, rfl, by omega, by omega⟩⟩ ⟨?_, ?_, ?_, ?_, ?_, ?_⟩
          all_goals first | (simp [-map_take,-map_drop, push_cast, dV_take, dV_drop, hRr, hRn, hpr, hpn, d3C, dC, rC, numC, ← tens.eq_1, dpsC, dpC]; done)
end Go.Fw
namespace Go.Fw
open Go Go.Proofs
def lowR (p : DP) : List DP → DP
  | [] => p
  | q :: l => lowR (if cmp3 q p < 0 then q else p) l
def highR (p : DP) : List DP → DP
  | [] => p
  | q :: l => highR (if 0 < cmp3 q p then q else p) l
def bothR (a b c d : DP) (l : List DP) : List DP := l.filter fun p => on3 a b p && on3 c d p
theorem stepR_two (a b c d : DP) : ∀ (L : List DP) (l h : DP), L.foldl (stepR a b c d) [l, h] = [lowR l (bothR a b c d L), highR h (bothR a b c d L)] := by
  intro L
  induction L with
  | nil => intro l h; rfl
  | cons p L ih =>
    intro l h
    rw [List.foldl_cons]
    unfold stepR bothR
    rw [List.filter_cons]
    by_cases hp : on3 a b p = true ∧ on3 c d p = true
    · have hp' : (on3 a b p && on3 c d p) = true := by rw [hp.1, hp.2]; rfl
      rw [if_pos hp, if_pos hp']
      exact ih _ _
    · have hp' : ¬ (on3 a b p && on3 c d p) = true := by simpa [Bool.and_eq_true] using hp
      rw [if_neg hp, if_neg hp']
      exact ih _ _
theorem stepR_all (a b c d : DP) : ∀ (L : List DP), L.foldl (stepR a b c d) [] = match bothR a b c d L with
    | [] => []
    | p :: r => [lowR p (p :: r), highR p (p :: r)] := by
  intro L
  induction L with
  | nil => rfl
  | cons p L ih =>
    rw [List.foldl_cons]
    by_cases hp : on3 a b p = true ∧ on3 c d p = true
    · have hp' : (on3 a b p && on3 c d p) = true := by rw [hp.1, hp.2]; rfl
      have e1 : stepR a b c d [] p = [p, p] := by unfold stepR; rw [if_pos hp]
      have e2 : bothR a b c d (p :: L) = p :: bothR a b c d L := by unfold bothR; rw [List.filter_cons, if_pos hp']
      rw [e1, e2, stepR_two]
      have c0 := cmp3_self p
      simp only [lowR, highR, c0, Int.lt_irrefl, if_false]
    · have hp' : ¬ (on3 a b p && on3 c d p) = true := by simpa [Bool.and_eq_true] using hp
      have e1 : stepR a b c d [] p = [] := by unfold stepR; rw [if_neg hp]
      have e2 : bothR a b c d (p :: L) = bothR a b c d L := by unfold bothR; rw [List.filter_cons, if_neg hp']
      rw [e1, e2, ih]
def allP (l : List DP) : Prop := ∀ p ∈ l, 0 < p.w
theorem lowR_v : ∀ (l : List DP) (p : DP), 0 < p.w → allP l → (lowR p l).v = lowest p.v (l.map DP.v) ∧ 0 < (lowR p l).w := by
  intro l
  induction l with
  | nil => intro p hp _; exact ⟨rfl, hp⟩
  | cons q l ih =>
    intro p hp hl
    have hq := hl q (by simp)
    have hl' : allP l := fun x hx => hl x (List.mem_cons_of_mem _ hx)
    simp only [lowR, lowest, List.map_cons]
    unfold lowP
    by_cases h : cmp3 q p < 0
    · rw [if_pos h, if_pos ((cmp3_neg hq hp).1 h)]; exact ih q hq hl'
    · rw [if_neg h, if_neg (fun k => h ((cmp3_neg hq hp).2 k))]; exact ih p hp hl'
theorem highR_v : ∀ (l : List DP) (p : DP), 0 < p.w → allP l → (highR p l).v = highest p.v (l.map DP.v) ∧ 0 < (highR p l).w := by
  intro l
  induction l with
  | nil => intro p hp _; exact ⟨rfl, hp⟩
  | cons q l ih =>
    intro p hp hl
    have hq := hl q (by simp)
    have hl' : allP l := fun x hx => hl x (List.mem_cons_of_mem _ hx)
    simp only [highR, highest, List.map_cons]
    unfold highP
    by_cases h : 0 < cmp3 q p
    · rw [if_pos h, if_pos ((cmp3_pos hq hp).1 h)]; exact ih q hq hl'
    · rw [if_neg h, if_neg (fun k => h ((cmp3_pos hq hp).2 k))]; exact ih p hp hl'
theorem bothR_v {a b c d : DP} (ha : 0 < a.w) (hb : 0 < b.w) (hc : 0 < c.w) (hd : 0 < d.w) : (bothR a b c d [a, b, c, d]).map DP.v = both ⟨a.v, b.v⟩ ⟨c.v, d.v⟩ := by
  unfold bothR both
  have e : [(Sg.mk a.v b.v).A, (Sg.mk a.v b.v).B, (Sg.mk c.v d.v).A, (Sg.mk c.v d.v).B] = [a, b, c, d].map DP.v := rfl
  rw [e, List.filter_map]
  congr 1
  refine List.filter_congr fun p hp => ?_
  have hw : 0 < p.w := by
    simp only [List.mem_cons, List.not_mem_nil, or_false] at hp
    rcases hp with rfl | rfl | rfl | rfl <;> assumption
  show (on3 a b p && on3 c d p) = (decide ((Sg.mk a.v b.v).on p.v) && decide ((Sg.mk c.v d.v).on p.v))
  congr 1
  · rw [Bool.eq_iff_iff, on3_v ha hb hw, decide_eq_true_eq]
  · rw [Bool.eq_iff_iff, on3_v hc hd hw, decide_eq_true_eq]
theorem meetR_v {a b c d : DP} (ha : 0 < a.w) (hb : 0 < b.w) (hc : 0 < c.w) (hd : 0 < d.w) : (meetR a b c d).map DP.v = meet ⟨a.v, b.v⟩ ⟨c.v, d.v⟩ ∧ allP (meetR a b c d) := by
  unfold meetR meet
  by_cases h0 : crossW ⟨a.v, b.v⟩ ⟨c.v, d.v⟩ = 0
  · rw [if_pos ((parB_v ha hb hc hd).2 h0), if_neg (fun k => k h0), stepR_all, ← bothR_v ha hb hc hd]
    have hal : allP (bothR a b c d [a, b, c, d]) := fun p hp => by
      have := (List.mem_filter.1 hp).1
      simp only [List.mem_cons, List.not_mem_nil, or_false] at this
      rcases this with rfl | rfl | rfl | rfl <;> assumption
    generalize bothR a b c d [a, b, c, d] = K at *
    cases K with
    | nil => exact ⟨rfl, fun p hp => by cases hp⟩
    | cons p r =>
      have hp := hal p (by simp)
      obtain ⟨l1, l2⟩ := lowR_v (p :: r) p hp hal
      obtain ⟨u1, u2⟩ := highR_v (p :: r) p hp hal
      simp only [endR, List.map_cons, ends]
      rw [List.map_cons] at l1 u1
      rw [← l1, ← u1]
      by_cases hk : cmp3 (lowR p (p :: r)) (highR p (p :: r)) = 0
      · rw [if_pos hk, if_pos ((cmp3_zero l2 u2).1 hk)]
        exact ⟨rfl, fun x hx => by rw [List.mem_singleton.1 hx]; exact l2⟩
      · rw [if_neg hk, if_neg (fun e => hk ((cmp3_zero l2 u2).2 e))]
        refine ⟨rfl, fun x hx => ?_⟩
        simp only [List.mem_cons, List.not_mem_nil, or_false] at hx
        rcases hx with rfl | rfl <;> assumption
  · rw [if_neg (fun k => h0 ((parB_v ha hb hc hd).1 k)), if_pos h0]
    have hw := crossP_w ha hb hc hd h0
    have hv := crossP_v ha hb hc hd h0
    have o1 := on3_v ha hb hw
    have o2 := on3_v hc hd hw
    rw [hv] at o1 o2
    by_cases hon : on3 a b (crossP a b c d) = true ∧ on3 c d (crossP a b c d) = true
    · rw [if_pos hon]
      obtain ⟨_, _, q1, q2, q3, q4⟩ := crossW_pt (o1.1 hon.1) (o2.1 hon.2) h0
      rw [if_neg (by grind)]
      refine ⟨?_, fun x hx => by rw [List.mem_singleton.1 hx]; exact hw⟩
      show [(crossP a b c d).v] = _
      rw [hv]
    · rw [if_neg hon]
      refine ⟨?_, fun x hx => by cases hx⟩
      rw [if_pos]
      · rfl
      · refine Classical.byContradiction fun k => hon ⟨o1.2 ((on_iff _ _).2 ⟨_, by grind, by grind, rfl⟩), o2.2 ?_⟩
        rw [part_eq h0]
        exact (on_iff _ _).2 ⟨_, by grind, by grind, rfl⟩
end Go.Fw
