import Derived.Test.YtbabekaohfcjbaaW3b
import Derived.Test.YtbabekaohfcjbaaW1b
import Derived.Test.YtbabekaohfcjbaaP1b
set_option linter.unusedSimpArgs false
set_option linter.unusedVariables false
/- law11.alike; the laws PlanePoints, PlaneMeets, PlaneClips come to true: the walks. -/
-- VALS: zAV, zC, ratAV, ratC, ptAV, ptC, sgAV, sgC, d3sAV, d3AV, d3C, dAV, dC, rAV, rC, dotAV, DP.av, DP.av2, dpC, ratD
namespace Go.Fw
open Go Go.Proofs Go.IntWalk
set_option linter.unusedSimpArgs false
set_option maxRecDepth 100000
set_option maxHeartbeats 20000000

theorem ptTextV_ok (p : FP) (h : szV p ≤ 1000000) : Eval Try.prog 26 [ptAV p] (.ret (strD (txtV p.v))) := ptText_ok p h
theorem seg11_ok' (a b : Int × Int × Int) (ha : inD a) (hb : inD b) : Eval Try.prog 8 [dotAV a, dotAV b] (.ret (.tup [sgAV (dotsF a b), DP.av2 (dotD a) (dotD b)])) := seg11_ok a b ha hb
open List (map_take map_drop)
attribute [local push_cast] optK_some optK_none optK_ite optK_map optK_bind gOn stepK isMem evPure evMem evBin evUn evConv evLen evBuiltin evMinMax evSlice evBuild evAppend evIndex evIndexAddr evField evFieldAddr intBin strBin appDest AS.val AS.mem AS.elems AS.put AS.put' AS.eff AV.cells? AV.isCell AV.refs all_isByte take_byteV drop_byteV strOf_map bndOk bnd partAV ptrAdd killBox catA inOrder fillA setAt ofVal resB upd byteV List.head?_take List.head?_drop List.getElem?_map mkS_env mkS_box mkS_used entry_env entry_box entry_used lk stepD lookIds Oper.looksAt Op.operands Call.operands St.ids refsL renL_append ren renL renBox Box.refs iV i64V boolV dV_getElem dV_app dV_cons toNat_add2 toNat_add1
attribute [local simp ↓] numC_refs numC_isCell numC_cells numC_resB numC_resD numC_ren numC_closeC numC_isOwn
theorem alike_ok (f g : Bool) (l : List FP) (m : List DP) (h : l.map FP.v = m.map DP.v) (hm : allP m) (hl : l.length ≤ 10) (hs : ∀ p ∈ l, szV p ≤ 100000) (hs' : ∀ p ∈ m, szP3 p ≤ 1000000) :
    Eval Try.prog 20 [.slc f 8 l.length (ptsC l), .slc g 6 m.length (dpsC m)] (.ret (boolV true)) := by
  have hlen : m.length = l.length := by
    have := congrArg List.length h
    rw [List.length_map, List.length_map] at this
    exact this.symm
  have hT : ∀ i (h1 : i < l.length) (h2 : i < m.length), txtV (l[i]).v = txtV (m[i]).v := fun i h1 h2 => by
    have e : (l.map FP.v)[i]? = (m.map DP.v)[i]? := by rw [h]
    rw [List.getElem?_map, List.getElem?_map, List.getElem?_eq_getElem h1, List.getElem?_eq_getElem h2] at e
    simp only [Option.map_some, Option.some.injEq] at e
    rw [e]
  have at1 := ptsC_at l
  have at2 := dpsC_at m
  have r1 := ptsC_refs l
  have r2 := dpsC_refs m
  have k1 := ptsC_len l
  have k2 := dpsC_len m
  rw [hlen] at k2 ⊢
  obtain ⟨n, hn⟩ : ∃ n, n = l.length := ⟨_, rfl⟩
  obtain ⟨L, hL⟩ : ∃ x, x = ptsC l := ⟨_, rfl⟩
  obtain ⟨M, hM⟩ : ∃ x, x = dpsC m := ⟨_, rfl⟩
  simp only [← hL, ← hM] at at1 at2 r1 r2 k1 k2 ⊢
  rw [← hn] at k1 k2 hl ⊢
  have n1 : ∀ ρ, renL ρ L = L := fun ρ => renL_id ρ _ r1
  have n2 : ∀ ρ, renL ρ M = M := fun ρ => renL_id ρ _ r2
  refine Eval.intro Try.func20 rfl Try.call20 _ _ (Nat.le_of_ble_eq_true rfl) (by simp [-map_take,-map_drop, AV.refs, refsL, r1, r2]) fun hs0 => ?_
  repeat' (first
    | with_reducible first | apply thenW_n | apply W_seq | apply W_block | apply W_skip
    | with_reducible refine W_region (by first | decide | (with_unfolding_all rfl)) ?_
    | (rw [vcn]; (try simp [-map_take,-map_drop, push_cast]))
    | (with_reducible refine W_condW ?_; (try simp [-map_take,-map_drop, AS.val, upd, resB, mkS_env, mkS_box, lk, entry_env, condW_true, condW_false]))
    | fail)
  refine W_loopW (X := Nat) (fun i => [(0, .slc f 8 n L), (1, .slc g 6 n M), (5, i64V i)]) (fun i => []) (fun i => n - i) (fun i => i ≤ n) 0 id (Nat.zero_le _) ⟨?_, ?_, ?_, ?_, ?_, ?_⟩ fun i hi => ?_
  all_goals first | (with_reducible refine W_id ?_) | (simp [-map_take,-map_drop, push_cast, dV_take, dV_drop, n1, n2, r1, r2]; done)
  by_cases hlt : ¬ i < n
  · have y1 : (i < n) = False := eq_false hlt
    have y2 : ((i : Int) < n) = False := eq_false (by omega)
    repeat' (first
      | with_reducible first | apply thenW_n | apply thenW_exit | apply blockW_same | apply loopW_exit | apply W_seq | apply W_ret | apply W_exit
      | with_reducible refine W_region (by first | decide | (with_unfolding_all rfl)) ?_
      | (rw [vcn]; (try simp [-map_take,-map_drop, push_cast, y1, y2]))
      | (with_reducible refine W_condW ?_; (try simp [-map_take,-map_drop, AS.val, upd, resB, mkS_env, mkS_box, lk, entry_env, condW_true, condW_false, y1, y2]))
      | fail)
    simp [-map_take,-map_drop, post, resAV, resAll, resOne, closeV, closeC, closeL, resD, resDL, push_cast]
  have hlt : i < n := by omega
  have y1 : (i < n) = True := eq_true hlt
  have y2 : ((i : Int) < n) = True := eq_true (by omega)
  have w1 : IntKind.i64.wrap ((i : Int) + 1) = ((i + 1 : Nat) : Int) := by rw [i64_in _ (by omega)]; omega
  have hil : i < l.length := by omega
  have him : i < m.length := by omega
  obtain ⟨t1, ht1⟩ := at1 i hil
  obtain ⟨t2, ht2⟩ := at2 i him
  have tl1 := congrArg List.length ht1
  have tl2 := congrArg List.length ht2
  rw [List.length_drop, k1, List.length_append, ptC_len] at tl1
  rw [List.length_drop, k2, List.length_append, dpC_len] at tl2
  have e1 := ptTextV_ok l[i] (by have := hs l[i] (List.getElem_mem _); omega)
  have e2 := textV_ok m[i] (hm _ (List.getElem_mem _)) (hs' _ (List.getElem_mem _))
  rw [← hT i hil him] at e2
  obtain ⟨T, nm_⟩ : ∃ nm0_, nm0_ = txtV (l[i]).v := ⟨_, rfl⟩
  simp only [← nm_] at e1 e2
  clear nm_
  obtain ⟨p, hp⟩ : ∃ p, p = l[i] := ⟨_, rfl⟩
  obtain ⟨q, hq⟩ : ∃ p, p = m[i] := ⟨_, rfl⟩
  rw [← hp] at ht1 e1
  rw [← hq] at ht2 e2
  clear hp hq hT at1 at2 hm hs hs'
  repeat' (first
    | with_reducible first | apply thenW_n | apply W_seq | apply W_block | apply W_skip
    | with_reducible refine W_region (by first | decide | (with_unfolding_all rfl)) ?_
    | (rw [vcn]; (try simp [-map_take,-map_drop, push_cast, y1, y2, w1, ht1, ht2, k1, k2, hlt, ptAV, ptC, ratAV, ratC, zAV, zC]))
    | with_reducible refine W_drawn mixed (by decide) (by kernel_rfl) ?_
    | (rw [vcnD]; (try simp [-map_take,-map_drop, push_cast, y1, y2, w1, ht1, ht2, k1, k2, hlt, ptAV, ptC, ratAV, ratC, zAV, zC]))
    | (with_reducible refine W_condW ?_; (try simp [-map_take,-map_drop, AS.val, upd, resB, mkS_env, mkS_box, lk, entry_env, condW_true, condW_false, y1, y2, w1, ht1, ht2, k1, k2, hlt, ptAV, ptC, ratAV, ratC, zAV, zC]))
    | fail)
  refine callD_of (e1) rfl rfl rfl ?_
  try dsimp only
  repeat' (first
    | (rw [vcnD]; (try simp [-map_take,-map_drop, push_cast, strD, ht1, ht2, k1, k2, hlt, dpC, DP.av, d3AV, d3C, dC, rC, numC, ← tens.eq_1]))
    | fail)
  refine callD_of (e2) rfl rfl rfl ?_
  try dsimp only
  repeat' (first
    | with_reducible first | apply thenW_n | apply blockW_n | apply W_skip
    | with_reducible refine W_region (by first | decide | (with_unfolding_all rfl)) ?_
    | (rw [vcn]; (try simp [-map_take,-map_drop, push_cast, strD, w1]))
    | (rw [vcnD]; (try simp [-map_take,-map_drop, push_cast, strD, w1]))
    | (with_reducible refine W_condW ?_; (try simp [-map_take,-map_drop, AS.val, upd, resB, mkS_env, mkS_box, lk, entry_env, condW_true, condW_false, strD, w1]))
    | refine And.intro (by first | omega | kernel_rfl) ?_
    | fail)
  refine loopW_n (i + 1) id (by omega) (by omega) ⟨?_, ?_, ?_, ?_, ?_, ?_⟩
  all_goals first | (simp [-map_take,-map_drop, push_cast, dV_take, dV_drop, n1, n2, r1, r2]; done)
end Go.Fw

/- The laws PlaneMeets, PlaneClips come to true: the walks. -/
-- VALS: zAV, zC, ratAV, ratC, ptAV, ptC, sgAV, sgC, d3sAV, d3AV, d3C, dAV, dC, rAV, rC, dotAV, DP.av, DP.av2, dpC, ratD
namespace Go.Fw
open Go Go.Proofs Go.IntWalk
set_option linter.unusedSimpArgs false
set_option maxRecDepth 100000
set_option maxHeartbeats 20000000

theorem meet_alike {a b c d : Int × Int × Int} (ha : inD a) (hb : inD b) (hc : inD c) (hd : inD d) (f g : Bool) :
    Eval Try.prog 20 [.slc f 8 (meetF (dotsF a b) (dotsF c d)).length (ptsC (meetF (dotsF a b) (dotsF c d))), .slc g 6 (meetR (dotD a) (dotD b) (dotD c) (dotD d)).length (dpsC (meetR (dotD a) (dotD b) (dotD c) (dotD d)))] (.ret (boolV true)) := by
  obtain ⟨h1, h2⟩ := meetR_v (dotD_w a) (dotD_w b) (dotD_w c) (dotD_w d)
  have h3 := meetF_v (dotsF a b) (dotsF c d)
  have za := dotD_sz ha
  have zb := dotD_sz hb
  have zc := dotD_sz hc
  have zd := dotD_sz hd
  have zp := sz_crossP (dotD a) (dotD b) (dotD c) (dotD d)
  refine alike_ok f g _ _ (h3.trans h1.symm) h2 (by have := meetF_len (dotsF a b) (dotsF c d); omega) (fun p hp => by have := meetF_sz (HS.dots' ha hb) (HS.dots' hc hd) p hp; omega) (fun p hp => ?_)
  unfold meetR at hp
  split at hp
  · rw [stepR_all] at hp
    have hb' : ∀ q ∈ bothR (dotD a) (dotD b) (dotD c) (dotD d) [dotD a, dotD b, dotD c, dotD d], szP3 q ≤ 15 := fun q hq => by
      have := (List.mem_filter.1 hq).1
      simp only [List.mem_cons, List.not_mem_nil, or_false] at this
      rcases this with rfl | rfl | rfl | rfl <;> assumption
    generalize bothR (dotD a) (dotD b) (dotD c) (dotD d) [dotD a, dotD b, dotD c, dotD d] = K at *
    cases K with
    | nil => cases hp
    | cons x r =>
      have hlo : ∀ (l : List DP) (x : DP), szP3 x ≤ 15 → (∀ q ∈ l, szP3 q ≤ 15) → szP3 (lowR x l) ≤ 15 := by
        intro l
        induction l with
        | nil => intro x h _; exact h
        | cons q l ih =>
          intro x h hl
          unfold lowR
          split
          · exact ih q (hl q (by simp)) (fun y hy => hl y (List.mem_cons_of_mem _ hy))
          · exact ih x h (fun y hy => hl y (List.mem_cons_of_mem _ hy))
      have hhi : ∀ (l : List DP) (x : DP), szP3 x ≤ 15 → (∀ q ∈ l, szP3 q ≤ 15) → szP3 (highR x l) ≤ 15 := by
        intro l
        induction l with
        | nil => intro x h _; exact h
        | cons q l ih =>
          intro x h hl
          unfold highR
          split
          · exact ih q (hl q (by simp)) (fun y hy => hl y (List.mem_cons_of_mem _ hy))
          · exact ih x h (fun y hy => hl y (List.mem_cons_of_mem _ hy))
      have k1 := hlo (x :: r) x (hb' x (by simp)) hb'
      have k2 := hhi (x :: r) x (hb' x (by simp)) hb'
      simp only [endR] at hp
      split at hp
      · rw [List.mem_singleton.1 hp]; omega
      · simp only [List.mem_cons, List.not_mem_nil, or_false] at hp
        rcases hp with rfl | rfl <;> omega
  · split at hp
    · rw [List.mem_singleton.1 hp]; omega
    · cases hp
theorem clip_alike {a b c d : Int × Int × Int} (ha : inD a) (hb : inD b) (hc : inD c) (hd : inD d) (f g : Bool) :
    Eval Try.prog 20 [.slc f 8 (clipF (dotsF a b) (dotsF c d)).length (ptsC (clipF (dotsF a b) (dotsF c d))), .slc g 6 (clipR (dotD a) (dotD b) (dotD c) (dotD d)).length (dpsC (clipR (dotD a) (dotD b) (dotD c) (dotD d)))] (.ret (boolV true)) := by
  obtain ⟨h1, h2⟩ := clipR_v (dotD_w a) (dotD_w b) (dotD_w c) (dotD_w d)
  have h3 := clipF_v (dotsF a b) (dotsF c d)
  have za := dotD_sz ha
  have zb := dotD_sz hb
  have zc := dotD_sz hc
  have zd := dotD_sz hd
  have zp := sz_crossP (dotD a) (dotD b) (dotD c) (dotD d)
  refine alike_ok f g _ _ (h3.trans h1.symm) h2 (by have := clipF_len (dotsF a b) (dotsF c d); omega) (fun p hp => by have := clipF_sz (HS.dots' ha hb) (HS.dots' hc hd) p hp; omega) (fun p hp => ?_)
  unfold clipR at hp
  (repeat' split at hp) <;> simp only [List.mem_cons, List.not_mem_nil, or_false] at hp <;> (try (rcases hp with rfl | rfl <;> omega)) <;> (try (subst hp; omega))
theorem on_same {a b c : Int × Int × Int} : on3 (dotD a) (dotD b) (dotD c) = onF (dotsF a b) (dotF c.1 c.2.1 c.2.2) := by
  rw [Bool.eq_iff_iff, on3_v (dotD_w a) (dotD_w b) (dotD_w c), onF_iff]
  rfl

open List (map_take map_drop)
attribute [local push_cast] optK_some optK_none optK_ite optK_map optK_bind gOn stepK isMem evPure evMem evBin evUn evConv evLen evBuiltin evMinMax evSlice evBuild evAppend evIndex evIndexAddr evField evFieldAddr intBin strBin appDest AS.val AS.mem AS.elems AS.put AS.put' AS.eff AV.cells? AV.isCell AV.refs all_isByte take_byteV drop_byteV strOf_map bndOk bnd partAV ptrAdd killBox catA inOrder fillA setAt ofVal resB upd byteV List.head?_take List.head?_drop List.getElem?_map mkS_env mkS_box mkS_used entry_env entry_box entry_used lk stepD lookIds Oper.looksAt Op.operands Call.operands St.ids refsL renL_append ren renL renBox Box.refs iV i64V boolV dV_getElem dV_app dV_cons toNat_add2 toNat_add1
attribute [local simp ↓] numC_refs numC_isCell numC_cells numC_resB numC_resD numC_ren numC_closeC numC_isOwn
theorem lawMeets_ok (a b c d : Int × Int × Int) (ha : inD a) (hb : inD b) (hc : inD c) (hd : inD d) : Eval Try.prog 5 [dotAV a, dotAV b, dotAV c, dotAV d] (.ret (.v (.bool true))) := by
  have za := dotD_sz ha
  have zb := dotD_sz hb
  have zc := dotD_sz hc
  have zd := dotD_sz hd
  have s1 := seg11_ok' a b ha hb
  have s2 := seg11_ok' c d hc hd
  have he := HS.dots' ha hb
  have hf := HS.dots' hc hd
  have m1 := meetP_ok he hf
  have m2 := meet11_ok (dotD a) (dotD b) (dotD c) (dotD d) (by omega)
  have al := meet_alike ha hb hc hd false false
  have pc := l11At_ok' c hc
  have pa := l11At_ok' a ha
  have dc := at11_ok' c hc
  have da := at11_ok' a ha
  have zF := (HD.dot hc).sz
  have zG := (HD.dot ha).sz
  have o1 := on_ok (dotsF a b) (dotF c.1 c.2.1 c.2.2) (by have := he.sz; omega)
  have o2 := on11_ok (dotD a) (dotD b) (dotD c) (by omega)
  have o3 := on_ok (dotsF c d) (dotF a.1 a.2.1 a.2.2) (by have := hf.sz; omega)
  have o4 := on11_ok (dotD c) (dotD d) (dotD a) (by omega)
  rw [on_same] at o2 o4
  have r1 := ptsC_refs (meetF (dotsF a b) (dotsF c d))
  have r2 := dpsC_refs (meetR (dotD a) (dotD b) (dotD c) (dotD d))
  obtain ⟨N1, nm_⟩ : ∃ nm0_, nm0_ = (meetF (dotsF a b) (dotsF c d)).length := ⟨_, rfl⟩
  simp only [← nm_] at m1 al
  clear nm_
  obtain ⟨N2, nm_⟩ : ∃ nm0_, nm0_ = (meetR (dotD a) (dotD b) (dotD c) (dotD d)).length := ⟨_, rfl⟩
  simp only [← nm_] at m2 al
  clear nm_
  obtain ⟨L1, nm_⟩ : ∃ nm0_, nm0_ = ptsC (meetF (dotsF a b) (dotsF c d)) := ⟨_, rfl⟩
  simp only [← nm_] at m1 al r1
  clear nm_
  obtain ⟨L2, nm_⟩ : ∃ nm0_, nm0_ = dpsC (meetR (dotD a) (dotD b) (dotD c) (dotD d)) := ⟨_, rfl⟩
  simp only [← nm_] at m2 al r2
  clear nm_
  obtain ⟨b1, nm_⟩ : ∃ nm0_, nm0_ = onF (dotsF a b) (dotF c.1 c.2.1 c.2.2) := ⟨_, rfl⟩
  simp only [← nm_] at o1 o2
  clear nm_
  obtain ⟨b2, nm_⟩ : ∃ nm0_, nm0_ = onF (dotsF c d) (dotF a.1 a.2.1 a.2.2) := ⟨_, rfl⟩
  simp only [← nm_] at o3 o4
  clear nm_
  obtain ⟨E, nm_⟩ : ∃ nm0_, nm0_ = dotsF a b := ⟨_, rfl⟩
  simp only [← nm_] at s1 m1 o1
  clear nm_
  obtain ⟨F, nm_⟩ : ∃ nm0_, nm0_ = dotsF c d := ⟨_, rfl⟩
  simp only [← nm_] at s2 m1 o3
  clear nm_
  obtain ⟨P, nm_⟩ : ∃ nm0_, nm0_ = dotF c.1 c.2.1 c.2.2 := ⟨_, rfl⟩
  simp only [← nm_] at pc o1
  clear nm_
  obtain ⟨R, nm_⟩ : ∃ nm0_, nm0_ = dotF a.1 a.2.1 a.2.2 := ⟨_, rfl⟩
  simp only [← nm_] at pa o3
  clear nm_
  obtain ⟨u, nm_⟩ : ∃ nm0_, nm0_ = dotD a := ⟨_, rfl⟩
  simp only [← nm_] at s1 m2 da o2 o4
  clear nm_
  obtain ⟨v, nm_⟩ : ∃ nm0_, nm0_ = dotD b := ⟨_, rfl⟩
  simp only [← nm_] at s1 m2 o2
  clear nm_
  obtain ⟨w, nm_⟩ : ∃ nm0_, nm0_ = dotD c := ⟨_, rfl⟩
  simp only [← nm_] at s2 m2 dc o2 o4
  clear nm_
  obtain ⟨x, nm_⟩ : ∃ nm0_, nm0_ = dotD d := ⟨_, rfl⟩
  simp only [← nm_] at s2 m2 o4
  clear nm_
  clear za zb zc zd zF zG he hf ha hb hc hd
  refine Eval.intro Try.func5 rfl Try.call5 _ _ (Nat.le_of_ble_eq_true rfl) (by simp [-map_take,-map_drop, AV.refs, refsL, natAV, zAV, zC, ratAV, ratC, ptAV, ptC, sgAV, sgC, d3sAV, d3AV, d3C, dAV, dC, rAV, rC, dotAV, DP.av, DP.av2, dpC, ratD, push_cast]) fun hs0 => ?_
  repeat' (first
    | with_reducible first | apply thenW_n | apply W_seq
    | with_reducible refine W_region (by first | decide | (with_unfolding_all rfl)) ?_
    | (rw [vcn]; (try simp [-map_take,-map_drop, push_cast, sgAV, sgC, ptAV, ptC, ratAV, ratC, zAV, zC, DP.av2, DP.av, d3AV, d3C, dAV, dC, rC, numC, ← tens.eq_1, ratD, dotAV, r1, r2]))
    | fail)
  refine CallG_of (s1) rfl rfl rfl ?_
  try dsimp only
  repeat' (first
    | with_reducible first | apply thenW_n | apply W_seq
    | with_reducible refine W_region (by first | decide | (with_unfolding_all rfl)) ?_
    | (rw [vcn]; (try simp [-map_take,-map_drop, push_cast, sgAV, sgC, ptAV, ptC, ratAV, ratC, zAV, zC, DP.av2, DP.av, d3AV, d3C, dAV, dC, rC, numC, ← tens.eq_1, ratD, dotAV, r1, r2]))
    | fail)
  refine CallG_of (s2) rfl rfl rfl ?_
  try dsimp only
  repeat' (first
    | with_reducible first | apply thenW_n | apply W_seq
    | (rw [vcn]; (try simp [-map_take,-map_drop, push_cast, sgAV, sgC, ptAV, ptC, ratAV, ratC, zAV, zC, DP.av2, DP.av, d3AV, d3C, dAV, dC, rC, numC, ← tens.eq_1, ratD, dotAV, r1, r2]))
    | with_reducible refine W_drawn mixed (by decide) (by kernel_rfl) ?_
    | (rw [vcnD]; (try simp [-map_take,-map_drop, push_cast, sgAV, sgC, ptAV, ptC, ratAV, ratC, zAV, zC, DP.av2, DP.av, d3AV, d3C, dAV, dC, rC, numC, ← tens.eq_1, ratD, dotAV, r1, r2]))
    | fail)
  refine callD_of (known11_ok) rfl rfl rfl ?_
  try dsimp only
  repeat' (first
    | (rw [vcnD]; (try simp [-map_take,-map_drop, push_cast, sgAV, sgC, ptAV, ptC, ratAV, ratC, zAV, zC, DP.av2, DP.av, d3AV, d3C, dAV, dC, rC, numC, ← tens.eq_1, ratD, dotAV, r1, r2]))
    | fail)
  refine callD_of (m1) rfl rfl rfl ?_
  try dsimp only
  repeat' (first
    | (rw [vcnD]; (try simp [-map_take,-map_drop, push_cast, sgAV, sgC, ptAV, ptC, ratAV, ratC, zAV, zC, DP.av2, DP.av, d3AV, d3C, dAV, dC, rC, numC, ← tens.eq_1, ratD, dotAV, r1, r2]))
    | fail)
  refine callD_of (m2) rfl rfl rfl ?_
  try dsimp only
  repeat' (first
    | (rw [vcnD]; (try simp [-map_take,-map_drop, push_cast, sgAV, sgC, ptAV, ptC, ratAV, ratC, zAV, zC, DP.av2, DP.av, d3AV, d3C, dAV, dC, rC, numC, ← tens.eq_1, ratD, dotAV, r1, r2]))
    | fail)
  refine callD_of (al) rfl rfl rfl ?_
  try dsimp only
  repeat' (first
    | (rw [vcnD]; (try simp [-map_take,-map_drop, push_cast, sgAV, sgC, ptAV, ptC, ratAV, ratC, zAV, zC, DP.av2, DP.av, d3AV, d3C, dAV, dC, rC, numC, ← tens.eq_1, ratD, dotAV, r1, r2]))
    | fail)
  refine callD_of (pc) rfl rfl rfl ?_
  try dsimp only
  repeat' (first
    | (rw [vcnD]; (try simp [-map_take,-map_drop, push_cast, sgAV, sgC, ptAV, ptC, ratAV, ratC, zAV, zC, DP.av2, DP.av, d3AV, d3C, dAV, dC, rC, numC, ← tens.eq_1, ratD, dotAV, r1, r2]))
    | fail)
  refine callD_of (o1) rfl rfl rfl ?_
  try dsimp only
  repeat' (first
    | (rw [vcnD]; (try simp [-map_take,-map_drop, push_cast, sgAV, sgC, ptAV, ptC, ratAV, ratC, zAV, zC, DP.av2, DP.av, d3AV, d3C, dAV, dC, rC, numC, ← tens.eq_1, ratD, dotAV, r1, r2]))
    | fail)
  refine callD_of (dc) rfl rfl rfl ?_
  try dsimp only
  repeat' (first
    | (rw [vcnD]; (try simp [-map_take,-map_drop, push_cast, sgAV, sgC, ptAV, ptC, ratAV, ratC, zAV, zC, DP.av2, DP.av, d3AV, d3C, dAV, dC, rC, numC, ← tens.eq_1, ratD, dotAV, r1, r2]))
    | fail)
  refine callD_of (o2) rfl rfl rfl ?_
  try dsimp only
  repeat' (first
    | (rw [vcnD]; (try simp [-map_take,-map_drop, push_cast, sgAV, sgC, ptAV, ptC, ratAV, ratC, zAV, zC, DP.av2, DP.av, d3AV, d3C, dAV, dC, rC, numC, ← tens.eq_1, ratD, dotAV, r1, r2]))
    | fail)
  refine callD_of (pa) rfl rfl rfl ?_
  try dsimp only
  repeat' (first
    | (rw [vcnD]; (try simp [-map_take,-map_drop, push_cast, sgAV, sgC, ptAV, ptC, ratAV, ratC, zAV, zC, DP.av2, DP.av, d3AV, d3C, dAV, dC, rC, numC, ← tens.eq_1, ratD, dotAV, r1, r2]))
    | fail)
  refine callD_of (o3) rfl rfl rfl ?_
  try dsimp only
  repeat' (first
    | (rw [vcnD]; (try simp [-map_take,-map_drop, push_cast, sgAV, sgC, ptAV, ptC, ratAV, ratC, zAV, zC, DP.av2, DP.av, d3AV, d3C, dAV, dC, rC, numC, ← tens.eq_1, ratD, dotAV, r1, r2]))
    | fail)
  refine callD_of (da) rfl rfl rfl ?_
  try dsimp only
  repeat' (first
    | (rw [vcnD]; (try simp [-map_take,-map_drop, push_cast, sgAV, sgC, ptAV, ptC, ratAV, ratC, zAV, zC, DP.av2, DP.av, d3AV, d3C, dAV, dC, rC, numC, ← tens.eq_1, ratD, dotAV, r1, r2]))
    | fail)
  refine callD_of (o4) rfl rfl rfl ?_
  try dsimp only
  repeat' (first
    | with_reducible first | apply thenW_n | apply W_ret
    | (rw [vcnD]; (try simp [-map_take,-map_drop, push_cast, sgAV, sgC, ptAV, ptC, ratAV, ratC, zAV, zC, DP.av2, DP.av, d3AV, d3C, dAV, dC, rC, numC, ← tens.eq_1, ratD, dotAV, r1, r2]))
    | refine And.intro (by first | omega | kernel_rfl) ?_
    | fail)
  simp [-map_take,-map_drop, post, resAV, resAll, resOne, closeV, closeC, closeL, resD, resDL, push_cast]

theorem lawClips_ok (a b c d : Int × Int × Int) (ha : inD a) (hb : inD b) (hc : inD c) (hd : inD d) : Eval Try.prog 6 [dotAV a, dotAV b, dotAV c, dotAV d] (.ret (.v (.bool true))) := by
  have za := dotD_sz ha
  have zb := dotD_sz hb
  have zc := dotD_sz hc
  have zd := dotD_sz hd
  have s1 := seg11_ok' a b ha hb
  have s2 := seg11_ok' c d hc hd
  have he := HS.dots' ha hb
  have hf := HS.dots' hc hd
  have m1 := clipP_ok he hf
  have m2 := clip11_ok (dotD a) (dotD b) (dotD c) (dotD d) (by omega)
  have al := clip_alike ha hb hc hd false false
  have r1 := ptsC_refs (clipF (dotsF a b) (dotsF c d))
  have r2 := dpsC_refs (clipR (dotD a) (dotD b) (dotD c) (dotD d))
  obtain ⟨N1, nm_⟩ : ∃ nm0_, nm0_ = (clipF (dotsF a b) (dotsF c d)).length := ⟨_, rfl⟩
  simp only [← nm_] at m1 al
  clear nm_
  obtain ⟨N2, nm_⟩ : ∃ nm0_, nm0_ = (clipR (dotD a) (dotD b) (dotD c) (dotD d)).length := ⟨_, rfl⟩
  simp only [← nm_] at m2 al
  clear nm_
  obtain ⟨L1, nm_⟩ : ∃ nm0_, nm0_ = ptsC (clipF (dotsF a b) (dotsF c d)) := ⟨_, rfl⟩
  simp only [← nm_] at m1 al r1
  clear nm_
  obtain ⟨L2, nm_⟩ : ∃ nm0_, nm0_ = dpsC (clipR (dotD a) (dotD b) (dotD c) (dotD d)) := ⟨_, rfl⟩
  simp only [← nm_] at m2 al r2
  clear nm_
  obtain ⟨E, nm_⟩ : ∃ nm0_, nm0_ = dotsF a b := ⟨_, rfl⟩
  simp only [← nm_] at s1 m1
  clear nm_
  obtain ⟨F, nm_⟩ : ∃ nm0_, nm0_ = dotsF c d := ⟨_, rfl⟩
  simp only [← nm_] at s2 m1
  clear nm_
  obtain ⟨u, nm_⟩ : ∃ nm0_, nm0_ = dotD a := ⟨_, rfl⟩
  simp only [← nm_] at s1 m2
  clear nm_
  obtain ⟨v, nm_⟩ : ∃ nm0_, nm0_ = dotD b := ⟨_, rfl⟩
  simp only [← nm_] at s1 m2
  clear nm_
  obtain ⟨w, nm_⟩ : ∃ nm0_, nm0_ = dotD c := ⟨_, rfl⟩
  simp only [← nm_] at s2 m2
  clear nm_
  obtain ⟨x, nm_⟩ : ∃ nm0_, nm0_ = dotD d := ⟨_, rfl⟩
  simp only [← nm_] at s2 m2
  clear nm_
  clear za zb zc zd he hf ha hb hc hd
  refine Eval.intro Try.func6 rfl Try.call6 _ _ (Nat.le_of_ble_eq_true rfl) (by simp [-map_take,-map_drop, AV.refs, refsL, natAV, zAV, zC, ratAV, ratC, ptAV, ptC, sgAV, sgC, d3sAV, d3AV, d3C, dAV, dC, rAV, rC, dotAV, DP.av, DP.av2, dpC, ratD, push_cast]) fun hs0 => ?_
  repeat' (first
    | with_reducible first | apply thenW_n | apply W_seq
    | with_reducible refine W_region (by first | decide | (with_unfolding_all rfl)) ?_
    | (rw [vcn]; (try simp [-map_take,-map_drop, push_cast, sgAV, sgC, ptAV, ptC, ratAV, ratC, zAV, zC, DP.av2, DP.av, d3AV, d3C, dAV, dC, rC, numC, ← tens.eq_1, ratD, dotAV, r1, r2]))
    | fail)
  refine CallG_of (s1) rfl rfl rfl ?_
  try dsimp only
  repeat' (first
    | with_reducible first | apply thenW_n | apply W_seq
    | with_reducible refine W_region (by first | decide | (with_unfolding_all rfl)) ?_
    | (rw [vcn]; (try simp [-map_take,-map_drop, push_cast, sgAV, sgC, ptAV, ptC, ratAV, ratC, zAV, zC, DP.av2, DP.av, d3AV, d3C, dAV, dC, rC, numC, ← tens.eq_1, ratD, dotAV, r1, r2]))
    | fail)
  refine CallG_of (s2) rfl rfl rfl ?_
  try dsimp only
  repeat' (first
    | with_reducible first | apply thenW_n | apply W_seq
    | (rw [vcn]; (try simp [-map_take,-map_drop, push_cast, sgAV, sgC, ptAV, ptC, ratAV, ratC, zAV, zC, DP.av2, DP.av, d3AV, d3C, dAV, dC, rC, numC, ← tens.eq_1, ratD, dotAV, r1, r2]))
    | with_reducible refine W_drawn mixed (by decide) (by kernel_rfl) ?_
    | (rw [vcnD]; (try simp [-map_take,-map_drop, push_cast, sgAV, sgC, ptAV, ptC, ratAV, ratC, zAV, zC, DP.av2, DP.av, d3AV, d3C, dAV, dC, rC, numC, ← tens.eq_1, ratD, dotAV, r1, r2]))
    | fail)
  refine callD_of (known11_ok) rfl rfl rfl ?_
  try dsimp only
  repeat' (first
    | (rw [vcnD]; (try simp [-map_take,-map_drop, push_cast, sgAV, sgC, ptAV, ptC, ratAV, ratC, zAV, zC, DP.av2, DP.av, d3AV, d3C, dAV, dC, rC, numC, ← tens.eq_1, ratD, dotAV, r1, r2]))
    | fail)
  refine callD_of (m1) rfl rfl rfl ?_
  try dsimp only
  repeat' (first
    | (rw [vcnD]; (try simp [-map_take,-map_drop, push_cast, sgAV, sgC, ptAV, ptC, ratAV, ratC, zAV, zC, DP.av2, DP.av, d3AV, d3C, dAV, dC, rC, numC, ← tens.eq_1, ratD, dotAV, r1, r2]))
    | fail)
  refine callD_of (m2) rfl rfl rfl ?_
  try dsimp only
  repeat' (first
    | (rw [vcnD]; (try simp [-map_take,-map_drop, push_cast, sgAV, sgC, ptAV, ptC, ratAV, ratC, zAV, zC, DP.av2, DP.av, d3AV, d3C, dAV, dC, rC, numC, ← tens.eq_1, ratD, dotAV, r1, r2]))
    | fail)
  refine callD_of (al) rfl rfl rfl ?_
  try dsimp only
  repeat' (first
    | with_reducible first | apply thenW_n | apply W_ret
    | (rw [vcnD]; (try simp [-map_take,-map_drop, push_cast, sgAV, sgC, ptAV, ptC, ratAV, ratC, zAV, zC, DP.av2, DP.av, d3AV, d3C, dAV, dC, rC, numC, ← tens.eq_1, ratD, dotAV, r1, r2]))
    | refine And.intro (by first | omega | kernel_rfl) ?_
    | fail)
  simp [-map_take,-map_drop, post, resAV, resAll, resOne, closeV, closeC, closeL, resD, resDL, push_cast]
end Go.Fw
