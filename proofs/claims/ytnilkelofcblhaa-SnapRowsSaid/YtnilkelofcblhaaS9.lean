/- snap.Whole. -/
import Derived.Test.YtnilkelofcblhaaS4
set_option linter.unusedSimpArgs false
set_option linter.unusedVariables false
-- VALS: zAV, zC, ratAV, ratC, ptAV, ptC, sgAV, sgC
namespace Go.Fw
open Go Go.Proofs Go.IntWalk
set_option linter.unusedSimpArgs false
set_option maxRecDepth 100000
set_option maxHeartbeats 4000000

def wholeP (p : FP) : Bool := decide (p.x.q.den = 1) && decide (p.y.q.den = 1)
def wholeB (l : List (List FP)) : Bool := l.all fun r => r.all wholeP
theorem cmp_one {d : Nat} (hd : 0 < d) : cmpZ (d : Int) 1 = if d = 1 then 0 else 1 := by
  unfold cmpZ
  split
  · omega
  · split <;> split <;> omega

open List (map_take map_drop)
attribute [local push_cast] optK_some optK_none optK_ite optK_map optK_bind gOn stepK isMem evPure evMem evBin evUn evConv evLen evBuiltin evMinMax evSlice evBuild evAppend evIndex evIndexAddr evField evFieldAddr intBin strBin appDest AS.val AS.mem AS.elems AS.put AS.put' AS.eff AV.cells? AV.isCell AV.refs all_isByte take_byteV drop_byteV strOf_map bndOk bnd partAV ptrAdd killBox catA inOrder fillA setAt ofVal resB upd byteV List.head?_take List.head?_drop List.getElem?_map mkS_env mkS_box mkS_used entry_env entry_box entry_used lk stepD lookIds Oper.looksAt Op.operands Call.operands St.ids refsL renL_append ren renL renBox Box.refs iV i64V boolV dV_getElem dV_app dV_cons toNat_add2 toNat_add1
attribute [local simp ↓] numC_refs numC_isCell numC_cells numC_resB numC_resD numC_ren numC_closeC numC_isOwn
theorem snapWhole_ok (f : Bool) (l : List (List FP)) (hs : ∀ r ∈ l, ∀ p ∈ r, szV p ≤ 1000) (hl : l.length ≤ 100000) (hr : ∀ r ∈ l, r.length ≤ 100000) : Eval Try.prog 11 [.slc f 1 l.length (l.map rowC)] (.ret (boolV (wholeB l))) := by
  refine Eval.intro Try.func11 rfl Try.call11 _ _ (Nat.le_of_ble_eq_true rfl) (by simp [-map_take,-map_drop, AV.refs, refsL, natAV, zAV, zC, ratAV, ratC, ptAV, ptC, sgAV, sgC, push_cast]) fun hs0 => ?_
  obtain ⟨out, hout⟩ : ∃ out, out = wholeB l := ⟨_, rfl⟩
  rw [← hout]
  have hbad : ∀ r ∈ l, ∀ p ∈ r, wholeP p = false → out = false := by
    intro r hr p hp h
    rw [hout, Bool.eq_false_iff]
    intro h'
    have h1 := List.all_eq_true.1 (List.all_eq_true.1 h' r hr) p hp
    rw [h] at h1
    cases h1
  have hrefs := rowsC_refs l
  have e1 := ofZ_ok 1 (by omega)
  obtain ⟨n, hn⟩ : ∃ n, n = l.length := ⟨_, rfl⟩
  obtain ⟨L, hL⟩ : ∃ L, L = l.map rowC := ⟨_, rfl⟩
  have hlen : L.length = n := by rw [hL, List.length_map, hn]
  have hat : ∀ i (h : i < l.length), ∃ t, L.drop i = rowC l[i] :: t := fun i h => ⟨(l.map rowC).drop (i + 1), by rw [hL, List.drop_eq_getElem_cons (by simpa [-map_take,-map_drop] using h), List.getElem_map]⟩
  rw [← hL] at hrefs ⊢
  rw [← hn] at hl ⊢
  clear hL hs0
  repeat' (first
    | with_reducible first | apply thenW_n | apply W_seq | apply W_scope
    | with_reducible refine W_region (by first | decide | (with_unfolding_all rfl)) ?_
    | (rw [vcn]; (try simp [-map_take,-map_drop, push_cast]))
    | fail)
  refine CallG_of (e1) rfl rfl rfl ?_
  try dsimp only
  repeat' (first
    | with_reducible first | apply thenW_n | apply W_seq | apply W_block | apply W_label
    | with_reducible refine W_region (by first | decide | (with_unfolding_all rfl)) ?_
    | (rw [vcn]; (try simp [-map_take,-map_drop, push_cast, zAV, zC]))
    | fail)
  refine W_loopW (X := Nat) (fun i => [(3, .bp 3 0), (4, .v (.bool true)), (10, .slc f 1 n L), (11, i64V n), (12, i64V i)]) (fun i => [(3, .mut 47 (zC 1))]) (fun i => n - i)
    (fun i => i ≤ n ∧ wholeB (l.take i) = true) 0 id ⟨Nat.zero_le _, rfl⟩ ⟨?_, ?_, ?_, ?_, ?_, ?_⟩ fun i hx => ?_
  all_goals first | (with_reducible refine W_id ?_) | (simp [-map_take,-map_drop, push_cast, dV_take, dV_drop, hrefs, zC]; done)
  obtain ⟨hi, hI⟩ := hx
  by_cases hlt : ¬ i < n
  · have g1 : (i < n) = False := eq_false hlt
    have e : l.take i = l := List.take_of_length_le (by omega)
    rw [e] at hI
    rw [hI] at hout
    repeat' (first
      | with_reducible first | apply thenW_n | apply thenW_exit | apply blockW_same | apply loopW_exit | apply W_seq | apply W_ret | apply W_exit | apply scopeW_ret
      | with_reducible refine W_region (by first | decide | (with_unfolding_all rfl)) ?_
      | (rw [vcn]; (try simp [-map_take,-map_drop, push_cast, g1]))
      | (with_reducible refine W_condW ?_; (try simp [-map_take,-map_drop, AS.val, upd, resB, mkS_env, mkS_box, lk, entry_env, condW_true, condW_false, g1]))
      | fail)
    simp [-map_take,-map_drop, post, resAV, resAll, resOne, closeV, closeC, closeL, resD, resDL, push_cast, hout]
  have hlt : i < n := by omega
  have g1 : (i < n) = True := eq_true hlt
  obtain ⟨t, ht⟩ := hat i (by omega)
  have hmem : l[i]'(by omega) ∈ l := List.getElem_mem _
  have htk : l.take (i + 1) = l.take i ++ [l[i]'(by omega)] := List.take_succ_eq_append_getElem (by omega)
  obtain ⟨r, hr2⟩ : ∃ r, r = l[i]'(by omega) := ⟨_, rfl⟩
  rw [← hr2] at ht hmem htk
  have hsr := hs r hmem
  have hrl := hr r hmem
  have hbr := hbad r hmem
  clear hr2 hat hs hr hbad
  obtain ⟨k, hk⟩ : ∃ k, k = r.length := ⟨_, rfl⟩
  obtain ⟨R, hR⟩ : ∃ R, R = ptsC r := ⟨_, rfl⟩
  have hRl : R.length = k * 8 := by rw [hR, ptsC_len, hk]
  have hRr : refsL R = [] := by rw [hR]; exact ptsC_refs r
  have hRat : ∀ j (h : j < r.length), ∃ t, R.drop (j * 8) = ptC r[j] ++ t := by rw [hR]; exact ptsC_at r
  have hrc : rowC r = .slc false 8 k R := by rw [hR, hk]; rfl
  rw [hrc] at ht
  have htl := congrArg List.length ht
  rw [List.length_drop, hlen, List.length_cons] at htl
  rw [← hk] at hrl
  clear hR
  repeat' (first
    | with_reducible first | apply thenW_n | apply W_seq | apply W_block | apply W_skip
    | with_reducible refine W_region (by first | decide | (with_unfolding_all rfl)) ?_
    | (rw [vcn]; (try simp [-map_take,-map_drop, push_cast, g1, ht, hlen, hlt]))
    | (with_reducible refine W_condW ?_; (try simp [-map_take,-map_drop, AS.val, upd, resB, mkS_env, mkS_box, lk, entry_env, condW_true, condW_false, g1, ht, hlen, hlt]))
    | fail)
  refine W_loopW (X := Nat) (fun j => [(3, .bp 3 0), (4, .v (.bool true)), (10, .slc f 1 n L), (11, i64V n), (12, i64V i), (16, .slc false 8 k R), (17, i64V k), (18, i64V j)]) (fun _ => [(3, .mut 47 (zC 1))]) (fun j => k - j)
    (fun j => j ≤ k ∧ (r.take j).all wholeP = true) 0 id ⟨Nat.zero_le _, rfl⟩ ⟨?_, ?_, ?_, ?_, ?_, ?_⟩ fun j hx => ?_
  all_goals first | (with_reducible refine W_id ?_) | (simp [-map_take,-map_drop, push_cast, dV_take, dV_drop, hrefs, hRr, zC]; done)
  obtain ⟨hj, hJ⟩ := hx
  by_cases hjk : ¬ j < k
  · have g2 : (j < k) = False := eq_false hjk
    have e : r.take j = r := List.take_of_length_le (by omega)
    rw [e] at hJ
    repeat' (first
      | with_reducible first | apply thenW_n | apply thenW_exit | apply blockW_n | apply blockW_same | apply loopW_exit | apply W_seq | apply W_exit
      | with_reducible refine W_region (by first | decide | (with_unfolding_all rfl)) ?_
      | (rw [vcn]; (try simp [-map_take,-map_drop, push_cast, g2]); try simp (disch := omega) only [i64_in, u64_in, shr64i])
      | (with_reducible refine W_condW ?_; (try simp [-map_take,-map_drop, AS.val, upd, resB, mkS_env, mkS_box, lk, entry_env, condW_true, condW_false, g2]))
      | fail)
    refine loopW_n (i + 1) id (by omega) ⟨by omega, ?_⟩ ⟨?_, ?_, ?_, ?_, ?_, ?_⟩
    · unfold wholeB
      rw [htk, List.all_append, Bool.and_eq_true]
      exact ⟨hI, by simpa [-map_take,-map_drop] using hJ⟩
    all_goals first | (simp [-map_take,-map_drop, push_cast, dV_take, dV_drop, hrefs, zC]; done)
  have hjk : j < k := by omega
  have g2 : (j < k) = True := eq_true hjk
  obtain ⟨t2, ht2⟩ := hRat j (by omega)
  have hpm : r[j]'(by omega) ∈ r := List.getElem_mem _
  have hpt : r.take (j + 1) = r.take j ++ [r[j]'(by omega)] := List.take_succ_eq_append_getElem (by omega)
  obtain ⟨p, hp⟩ : ∃ p, p = r[j]'(by omega) := ⟨_, rfl⟩
  rw [← hp] at ht2 hpm hpt
  have hsz := hsr p hpm
  have hbp := hbr p hpm
  unfold szV at hsz
  have htl2 := congrArg List.length ht2
  rw [List.length_drop, hRl, List.length_append, ptC_len] at htl2
  have d1 := den_ok p.x (by omega)
  have d2 := den_ok p.y (by omega)
  have c1 := cmpZ_ok (p.x.q.den : Int) 1
  have c2 := cmpZ_ok (p.y.q.den : Int) 1
  rw [cmp_one p.x.q.den_pos] at c1
  rw [cmp_one p.y.q.den_pos] at c2
  have hwp : wholeP p = (decide (p.x.q.den = 1) && decide (p.y.q.den = 1)) := rfl
  obtain ⟨u, hu⟩ : ∃ u, u = p.x.q.den := ⟨_, rfl⟩
  obtain ⟨v, hv⟩ : ∃ v, v = p.y.q.den := ⟨_, rfl⟩
  rw [← hu] at d1 c1 hwp
  rw [← hv] at d2 c2 hwp
  obtain ⟨px, py⟩ := p
  by_cases h1 : ¬ u = 1
  · rw [if_neg h1] at c1
    have ho := hbp (by rw [hwp]; simp [-map_take,-map_drop, h1])
    repeat' (first
      | with_reducible first | apply thenW_n | apply W_seq | apply W_block | apply W_skip
      | with_reducible refine W_region (by first | decide | (with_unfolding_all rfl)) ?_
      | (rw [vcn]; (try simp [-map_take,-map_drop, push_cast, g2, ht2, hRl, hjk, ptC, ratC, zC]))
      | with_reducible refine W_drawn mixed (by decide) (by kernel_rfl) ?_
      | (rw [vcnD]; (try simp [-map_take,-map_drop, push_cast, g2, ht2, hRl, hjk, ptC, ratC, zC]))
      | (with_reducible refine W_condW ?_; (try simp [-map_take,-map_drop, AS.val, upd, resB, mkS_env, mkS_box, lk, entry_env, condW_true, condW_false, g2, ht2, hRl, hjk, ptC, ratC, zC]))
      | fail)
    refine callD_of (d1) rfl rfl rfl ?_
    try dsimp only
    repeat' (first
      | (rw [vcnD]; (try simp [-map_take,-map_drop, push_cast, zC]))
      | fail)
    refine callD_of (c1) rfl rfl rfl ?_
    try dsimp only
    repeat' (first
      | with_reducible first | apply thenW_n | apply thenW_exit | apply blockW_same | apply loopW_exit | apply W_seq | apply W_ret | apply W_exit | apply scopeW_ret
      | with_reducible refine blockW_other (by decide) ?_
      | with_reducible refine W_region (by first | decide | (with_unfolding_all rfl)) ?_
      | (rw [vcn]; (try simp [-map_take,-map_drop, push_cast]))
      | (rw [vcnD]; (try simp [-map_take,-map_drop, push_cast]))
      | (with_reducible refine W_condW ?_; (try simp [-map_take,-map_drop, AS.val, upd, resB, mkS_env, mkS_box, lk, entry_env, condW_true, condW_false]))
      | refine And.intro (by first | omega | kernel_rfl) ?_
      | fail)
    simp [-map_take,-map_drop, post, resAV, resAll, resOne, closeV, closeC, closeL, resD, resDL, push_cast, ho]
  have h1 : u = 1 := by simpa [-map_take,-map_drop] using h1
  rw [if_pos h1] at c1
  by_cases h2 : ¬ v = 1
  · rw [if_neg h2] at c2
    have ho := hbp (by rw [hwp]; simp [-map_take,-map_drop, h2])
    repeat' (first
      | with_reducible first | apply thenW_n | apply W_seq | apply W_block | apply W_skip
      | with_reducible refine W_region (by first | decide | (with_unfolding_all rfl)) ?_
      | (rw [vcn]; (try simp [-map_take,-map_drop, push_cast, g2, ht2, hRl, hjk, ptC, ratC, zC]))
      | with_reducible refine W_drawn mixed (by decide) (by kernel_rfl) ?_
      | (rw [vcnD]; (try simp [-map_take,-map_drop, push_cast, g2, ht2, hRl, hjk, ptC, ratC, zC]))
      | (with_reducible refine W_condW ?_; (try simp [-map_take,-map_drop, AS.val, upd, resB, mkS_env, mkS_box, lk, entry_env, condW_true, condW_false, g2, ht2, hRl, hjk, ptC, ratC, zC]))
      | fail)
    refine callD_of (d1) rfl rfl rfl ?_
    try dsimp only
    repeat' (first
      | (rw [vcnD]; (try simp [-map_take,-map_drop, push_cast, zC]))
      | fail)
    refine callD_of (c1) rfl rfl rfl ?_
    try dsimp only
    repeat' (first
      | (rw [vcnD]; (try simp [-map_take,-map_drop, push_cast, ht2, hRl, hjk, ptC, ratC, zC]))
      | fail)
    refine callD_of (d2) rfl rfl rfl ?_
    try dsimp only
    repeat' (first
      | (rw [vcnD]; (try simp [-map_take,-map_drop, push_cast, zC]))
      | fail)
    refine callD_of (c2) rfl rfl rfl ?_
    try dsimp only
    repeat' (first
      | with_reducible first | apply thenW_n | apply thenW_exit | apply blockW_same | apply loopW_exit | apply W_seq | apply W_ret | apply W_exit | apply scopeW_ret
      | with_reducible refine blockW_other (by decide) ?_
      | with_reducible refine W_region (by first | decide | (with_unfolding_all rfl)) ?_
      | (rw [vcn]; (try simp [-map_take,-map_drop, push_cast]))
      | (rw [vcnD]; (try simp [-map_take,-map_drop, push_cast]))
      | (with_reducible refine W_condW ?_; (try simp [-map_take,-map_drop, AS.val, upd, resB, mkS_env, mkS_box, lk, entry_env, condW_true, condW_false]))
      | refine And.intro (by first | omega | kernel_rfl) ?_
      | fail)
    simp [-map_take,-map_drop, post, resAV, resAll, resOne, closeV, closeC, closeL, resD, resDL, push_cast, ho]
  have h2 : v = 1 := by simpa [-map_take,-map_drop] using h2
  rw [if_pos h2] at c2
  repeat' (first
    | with_reducible first | apply thenW_n | apply W_seq | apply W_block | apply W_skip
    | with_reducible refine W_region (by first | decide | (with_unfolding_all rfl)) ?_
    | (rw [vcn]; (try simp [-map_take,-map_drop, push_cast, g2, ht2, hRl, hjk, ptC, ratC, zC]))
    | with_reducible refine W_drawn mixed (by decide) (by kernel_rfl) ?_
    | (rw [vcnD]; (try simp [-map_take,-map_drop, push_cast, g2, ht2, hRl, hjk, ptC, ratC, zC]))
    | (with_reducible refine W_condW ?_; (try simp [-map_take,-map_drop, AS.val, upd, resB, mkS_env, mkS_box, lk, entry_env, condW_true, condW_false, g2, ht2, hRl, hjk, ptC, ratC, zC]))
    | fail)
  refine callD_of (d1) rfl rfl rfl ?_
  try dsimp only
  repeat' (first
    | (rw [vcnD]; (try simp [-map_take,-map_drop, push_cast, zC]))
    | fail)
  refine callD_of (c1) rfl rfl rfl ?_
  try dsimp only
  repeat' (first
    | (rw [vcnD]; (try simp [-map_take,-map_drop, push_cast, ht2, hRl, hjk, ptC, ratC, zC]))
    | fail)
  refine callD_of (d2) rfl rfl rfl ?_
  try dsimp only
  repeat' (first
    | (rw [vcnD]; (try simp [-map_take,-map_drop, push_cast, zC]))
    | fail)
  refine callD_of (c2) rfl rfl rfl ?_
  try dsimp only
  repeat' (first
    | with_reducible first | apply thenW_n | apply blockW_n | apply W_skip
    | with_reducible refine W_region (by first | decide | (with_unfolding_all rfl)) ?_
    | (rw [vcn]; (try simp [-map_take,-map_drop, push_cast]); try simp (disch := omega) only [i64_in, u64_in, shr64i])
    | (rw [vcnD]; (try simp [-map_take,-map_drop, push_cast]); try simp (disch := omega) only [i64_in, u64_in, shr64i])
    | (with_reducible refine W_condW ?_; (try simp [-map_take,-map_drop, AS.val, upd, resB, mkS_env, mkS_box, lk, entry_env, condW_true, condW_false]))
    | refine And.intro (by first | omega | kernel_rfl) ?_
    | fail)
  refine loopW_n (j + 1) id (by omega) ⟨by omega, ?_⟩ ⟨?_, ?_, ?_, ?_, ?_, ?_⟩
  · have key : ∀ x ∈ r.take (j + 1), wholeP x = true := by
      intro x hx
      rw [hpt] at hx
      rcases List.mem_append.1 hx with hx | hx
      · exact List.all_eq_true.1 hJ x hx
      · rw [List.mem_singleton.1 hx, hwp]; simp [-map_take,-map_drop, h1, h2]
    first | exact key | exact List.all_eq_true.2 key
  all_goals first | (simp [-map_take,-map_drop, push_cast, dV_take, dV_drop, hrefs, hRr, zC]; done)
end Go.Fw
