/- snap.Rows. -/
import Derived.Test.YtnilkelofcblhaaS2
import Derived.Test.YtnilkelofcblhaaPt
import Derived.Test.YtnilkelofcblhaaR1b
set_option linter.unusedSimpArgs false
set_option linter.unusedVariables false
-- VALS: zAV, zC, ratAV, ratC, ptAV, ptC
namespace Go.Fw
open Go Go.Proofs Go.IntWalk
set_option linter.unusedSimpArgs false
set_option maxRecDepth 100000
set_option maxHeartbeats 4000000

def ptsI (l : List (Int × Int)) : List AV := l.flatMap ptI
theorem ptsI_len (l : List (Int × Int)) : (ptsI l).length = l.length * 2 := by
  induction l with
  | nil => rfl
  | cons x t ih => simp [ptsI, ptI] at *; omega
theorem ptsI_refs (l : List (Int × Int)) : refsL (ptsI l) = [] := by
  induction l with
  | nil => rfl
  | cons x t ih => show refsL (ptI x ++ ptsI t) = []; rw [refsL_append, ih]; rfl
def nearP (p : FP) : Option (Int × Int) := gridZ (nearQ p.x.q) (nearQ p.y.q)
def nearV (p : FP) : Int × Int := (nearP p).getD (0, 0)
def rowC (r : List FP) : AV := .slc false 8 r.length (ptsC r)
def rowI (r : List FP) : AV := .slc false 2 r.length (ptsI (r.map nearV))
def outC (l : List (List FP)) : List AV := l.map rowI
def ptsN (r : List FP) : List AV := ptsI (r.map nearV)
theorem ptsN_snoc (r : List FP) (j : Nat) (h : j < r.length) : ptsN (r.take (j + 1)) = ptsN (r.take j) ++ ptI (nearV r[j]) := by
  rw [List.take_succ_eq_append_getElem h]
  unfold ptsN ptsI
  rw [List.map_append, List.flatMap_append]
  simp
theorem ptsN_len (r : List FP) : (ptsN r).length = r.length * 2 := by unfold ptsN; rw [ptsI_len, List.length_map]
theorem ptsN_refs (r : List FP) : refsL (ptsN r) = [] := ptsI_refs _
theorem outC_len (l : List (List FP)) : (outC l).length = l.length := by unfold outC; rw [List.length_map]
theorem outC_snoc (l : List (List FP)) (i : Nat) (h : i < l.length) : outC (l.take (i + 1)) = outC (l.take i) ++ [.slc false 2 l[i].length (ptsN l[i])] := by
  rw [List.take_succ_eq_append_getElem h]
  unfold outC
  rw [List.map_append]
  rfl
def rowsOk (l : List (List FP)) : Bool := l.all fun r => r.all fun p => (nearP p).isSome
def rowsAV (l : List (List FP)) : AV := if rowsOk l = true then .tup [.slc false 1 l.length (outC l), i64V 0] else .tup [.v (.slice none 0 0), i64V 26]
theorem rowsI_refs (l : List (List FP)) : refsL (outC l) = [] := by
  unfold outC
  induction l with
  | nil => rfl
  | cons x t ih => rw [List.map_cons, refsL_cons, ih]; rfl
theorem rowsC_refs (l : List (List FP)) : refsL (l.map rowC) = [] := by
  induction l with
  | nil => rfl
  | cons x t ih => rw [List.map_cons, refsL_cons, ih]; rfl

open List (map_take map_drop)
attribute [local push_cast] optK_some optK_none optK_ite optK_map optK_bind gOn stepK isMem evPure evMem evBin evUn evConv evLen evBuiltin evMinMax evSlice evBuild evAppend evIndex evIndexAddr evField evFieldAddr intBin strBin appDest AS.val AS.mem AS.elems AS.put AS.put' AS.eff AV.cells? AV.isCell AV.refs all_isByte take_byteV drop_byteV strOf_map bndOk bnd partAV ptrAdd killBox catA inOrder fillA setAt ofVal resB upd byteV List.head?_take List.head?_drop List.getElem?_map mkS_env mkS_box mkS_used entry_env entry_box entry_used lk stepD lookIds Oper.looksAt Op.operands Call.operands St.ids refsL renL_append ren renL renBox Box.refs iV i64V boolV dV_getElem dV_app dV_cons toNat_add2 toNat_add1
attribute [local simp ↓] numC_refs numC_isCell numC_cells numC_resB numC_resD numC_ren numC_closeC numC_isOwn
theorem near_ok (x y : FQ) (hx : szQ x.q ≤ 1000) (hy : szQ y.q ≤ 1000) : Eval Try.prog 21 [ratAV x] (.ret (zAV (nearQ x.q))) ∧ Eval Try.prog 21 [ratAV y] (.ret (zAV (nearQ y.q))) :=
  ⟨nearR_ok x (by omega), nearR_ok y (by omega)⟩

theorem snapRows_ok (f : Bool) (l : List (List FP)) (hs : ∀ r ∈ l, ∀ p ∈ r, szV p ≤ 1000) (hl : l.length ≤ 100000) (hr : ∀ r ∈ l, r.length ≤ 100000) : Eval Try.prog 9 [.slc f 1 l.length (l.map rowC)] (.ret (rowsAV l)) := by
  refine Eval.intro Try.func9 rfl Try.call9 _ _ (Nat.le_of_ble_eq_true rfl) (by simp [-map_take,-map_drop, AV.refs, refsL, natAV, zAV, zC, ratAV, ratC, ptAV, ptC, push_cast]) fun hs0 => ?_
  obtain ⟨out, hout⟩ : ∃ out, out = rowsAV l := ⟨_, rfl⟩
  rw [← hout]
  have hbad : ∀ r ∈ l, ∀ p ∈ r, nearP p = none → out = .tup [.v (.slice none 0 0), i64V 26] := by
    intro r hr p hp h
    have : rowsOk l = false := by
      rw [Bool.eq_false_iff]
      intro h'
      have h1 := List.all_eq_true.1 (List.all_eq_true.1 h' r hr) p hp
      rw [h] at h1
      cases h1
    rw [hout, rowsAV, this]
    rfl
  have hrefs := rowsC_refs l
  have hIr := rowsI_refs
  have hN := ptsN_refs
  have hrn2 : ∀ (ρ : Nat → Nat) (r : List FP), renL ρ (ptsN r) = ptsN r := fun ρ r => renL_id ρ _ (ptsN_refs r)
  have hO := rowsI_refs
  obtain ⟨n, hn⟩ : ∃ n, n = l.length := ⟨_, rfl⟩
  obtain ⟨L, hL⟩ : ∃ L, L = l.map rowC := ⟨_, rfl⟩
  have hlen : L.length = n := by rw [hL, List.length_map, hn]
  have hat : ∀ i (h : i < l.length), ∃ t, L.drop i = rowC l[i] :: t := fun i h => ⟨(l.map rowC).drop (i + 1), by rw [hL, List.drop_eq_getElem_cons (by simpa [-map_take,-map_drop] using h), List.getElem_map]⟩
  rw [← hL] at hrefs ⊢
  rw [← hn] at hl ⊢
  clear hL
  repeat' (first
    | with_reducible first | apply thenW_n | apply W_seq | apply W_block
    | with_reducible refine W_region (by first | decide | (with_unfolding_all rfl)) ?_
    | (rw [vcn]; (try simp [-map_take,-map_drop, push_cast]))
    | fail)
  refine W_nil 4 500 26 1 (by simp [-map_take,-map_drop, upd, mkS_env, entry_env, lk]) (by simp [-map_take,-map_drop, mkS_used, entry_used]) ?_
  refine W_loopW (X := Nat) (fun i => [(4, .bs 500 1 0 i), (12, .slc f 1 n L), (13, i64V n), (14, i64V i)]) (fun i => [(500, .mut 26 (outC (l.take i)))]) (fun i => n - i)
    (fun i => i ≤ n ∧ rowsOk (l.take i) = true) 0 id ⟨Nat.zero_le _, rfl⟩ ⟨?_, ?_, ?_, ?_, ?_, ?_⟩ fun i hx => ?_
  all_goals first | (with_reducible refine W_id ?_) | (simp [-map_take,-map_drop, push_cast, dV_take, dV_drop, hrefs, outC]; done)
  obtain ⟨hi, hI⟩ := hx
  by_cases hlt : ¬ i < n
  · have g1 : (i < n) = False := eq_false hlt
    have e : l.take i = l := List.take_of_length_le (by omega)
    have hin : i = n := by omega
    rw [e] at hI ⊢
    subst hin
    refine W_frz 500 (e := 26) (l := outC l) (by simp [-map_take,-map_drop, mkS_box, lk]) (hIr _) ?_
    rw [rowsAV, if_pos hI] at hout
    have hOl := outC_len l
    have hOt : (outC l).take l.length = outC l := List.take_of_length_le (by omega)
    repeat' (first
      | with_reducible first | apply thenW_n | apply thenW_exit | apply blockW_same | apply loopW_exit | apply W_seq | apply W_ret | apply W_exit
      | with_reducible refine W_region (by first | decide | (with_unfolding_all rfl)) ?_
      | (rw [vcn]; (try simp [-map_take,-map_drop, push_cast, g1]))
      | (with_reducible refine W_condW ?_; (try simp [-map_take,-map_drop, AS.val, upd, resB, mkS_env, mkS_box, lk, entry_env, condW_true, condW_false, g1]))
      | fail)
    simp [-map_take,-map_drop, post, resAV, resAll, resOne, closeV, closeC, closeL, resD, resDL, push_cast, hout, hn, hOl, hOt]
  have hlt : i < n := by omega
  have g1 : (i < n) = True := eq_true hlt
  obtain ⟨t, ht⟩ := hat i (by omega)
  have hmem : l[i]'(by omega) ∈ l := List.getElem_mem _
  have htk : l.take (i + 1) = l.take i ++ [l[i]'(by omega)] := List.take_succ_eq_append_getElem (by omega)
  have hos := outC_snoc l i (by omega)
  have hlenT : (outC (l.take i)).length = i := by rw [outC_len, List.length_take]; omega
  obtain ⟨r, hr2⟩ : ∃ r, r = l[i]'(by omega) := ⟨_, rfl⟩
  rw [← hr2] at ht hmem htk hos
  have hsr := hs r hmem
  have hrl := hr r hmem
  have hbr := hbad r hmem
  clear hr2 hat hs hr hbad
  obtain ⟨k, hk⟩ : ∃ k, k = r.length := ⟨_, rfl⟩
  obtain ⟨R, hR⟩ : ∃ R, R = ptsC r := ⟨_, rfl⟩
  have hRl : R.length = k * 8 := by rw [hR, ptsC_len, hk]
  have hRr : refsL R = [] := by rw [hR]; exact ptsC_refs r
  have hRat : ∀ j (h : j < r.length), ∃ t, R.drop (j * 8) = ptC r[j] ++ t := by rw [hR]; exact ptsC_at r
  have hrc : rowC r = .slc false 8 k R := by rw [hR, hk]; rfl
  rw [hrc] at ht
  have htl := congrArg List.length ht
  rw [List.length_drop, hlen, List.length_cons] at htl
  obtain ⟨T, hT⟩ : ∃ T, T = outC (l.take i) := ⟨_, rfl⟩
  have hTr : refsL T = [] := by rw [hT]; exact hIr _
  have hTn : ∀ ρ, renL ρ T = T := fun ρ => renL_id ρ _ hTr
  rw [← hT] at hlenT hos
  simp only [← hT]
  rw [← hk] at hrl
  clear hR
  repeat' (first
    | with_reducible first | apply thenW_n | apply W_seq | apply W_skip
    | with_reducible refine W_region (by first | decide | (with_unfolding_all rfl)) ?_
    | (rw [vcn]; (try simp [-map_take,-map_drop, push_cast, g1, ht, hlen, hlt]))
    | (with_reducible refine W_condW ?_; (try simp [-map_take,-map_drop, AS.val, upd, resB, mkS_env, mkS_box, lk, entry_env, condW_true, condW_false, g1, ht, hlen, hlt]))
    | fail)
  refine W_block ?_
  repeat' (first
    | with_reducible first | apply thenW_n | apply W_seq
    | with_reducible refine W_region (by first | decide | (with_unfolding_all rfl)) ?_
    | (rw [vcn]; (try simp [-map_take,-map_drop, push_cast, g1, ht, hlen, hlt]))
    | fail)
  refine W_joinQ (X := Unit) (fun _ => [(4, .bs 500 1 0 i), (7, .bs 501 2 0 k), (12, .slc f 1 n L), (13, i64V n), (14, i64V i)]) (fun _ => [(500, .mut 26 T), (501, .mut 39 (ptsN r))]) (fun _ => ∀ p ∈ r, (nearP p).isSome = true) ?_ fun _ hall => ?_
  · refine W_nil 7 501 39 2 (by simp [-map_take,-map_drop, upd, mkS_env, entry_env, lk]) (by simp [-map_take,-map_drop, mkS_used, entry_used]) ?_
    repeat' (first
      | with_reducible apply W_block
      | fail)
    refine W_loopW (X := Nat) (fun j => [(4, .bs 500 1 0 i), (7, .bs 501 2 0 j), (12, .slc f 1 n L), (13, i64V n), (14, i64V i), (18, .slc false 8 k R), (19, i64V k), (20, i64V j)]) (fun j => [(500, .mut 26 T), (501, .mut 39 (ptsN (r.take j)))]) (fun j => k - j)
      (fun j => j ≤ k ∧ ∀ p ∈ r.take j, (nearP p).isSome = true) 0 id ⟨Nat.zero_le _, by simp [-map_take,-map_drop]⟩ ⟨?_, ?_, ?_, ?_, ?_, ?_⟩ fun j hx => ?_
    all_goals first | (with_reducible refine W_id ?_) | (simp [-map_take,-map_drop, push_cast, dV_take, dV_drop, hrefs, hTr, hTn, hRr, ptsN, ptsI]; done)
    obtain ⟨hj, hJ⟩ := hx
    by_cases hjk : ¬ j < k
    · have g2 : (j < k) = False := eq_false hjk
      have e : r.take j = r := List.take_of_length_le (by omega)
      have hjn : j = k := by omega
      rw [e] at hJ ⊢
      subst hjn
      repeat' (first
        | with_reducible first | apply thenW_n | apply thenW_exit | apply blockW_same | apply loopW_exit | apply W_seq | apply W_exit
        | with_reducible refine W_region (by first | decide | (with_unfolding_all rfl)) ?_
        | (rw [vcn]; (try simp [-map_take,-map_drop, push_cast, g2]))
        | (with_reducible refine W_condW ?_; (try simp [-map_take,-map_drop, AS.val, upd, resB, mkS_env, mkS_box, lk, entry_env, condW_true, condW_false, g2]))
        | fail)
      refine joinW_n () id hJ ⟨?_, ?_, ?_, ?_, ?_, ?_⟩
      all_goals first | (simp [-map_take,-map_drop, push_cast, dV_take, dV_drop, hrefs, hTr, hTn, hRr, hN, hrn2]; done)
    have hjk : j < k := by omega
    have g2 : (j < k) = True := eq_true hjk
    obtain ⟨t2, ht2⟩ := hRat j (by omega)
    have hpm : r[j]'(by omega) ∈ r := List.getElem_mem _
    have hps := ptsN_snoc r j (by omega)
    have hpt : r.take (j + 1) = r.take j ++ [r[j]'(by omega)] := List.take_succ_eq_append_getElem (by omega)
    have hpl : (ptsN (r.take j)).length = j * 2 := by rw [ptsN_len, List.length_take]; omega
    obtain ⟨p, hp⟩ : ∃ p, p = r[j]'(by omega) := ⟨_, rfl⟩
    rw [← hp] at ht2 hpm hps hpt
    have hsz := hsr p hpm
    have hbp := hbr p hpm
    unfold szV at hsz
    obtain ⟨e1, e2⟩ := near_ok p.x p.y (by omega) (by omega)
    have e3 := snapGrid_ok (nearQ p.x.q) (nearQ p.y.q)
    have htl2 := congrArg List.length ht2
    rw [List.length_drop, hRl, List.length_append, ptC_len] at htl2
    obtain ⟨u, hu⟩ : ∃ u, u = nearQ p.x.q := ⟨_, rfl⟩
    obtain ⟨v, hv⟩ : ∃ v, v = nearQ p.y.q := ⟨_, rfl⟩
    have hnp : nearP p = gridZ u v := by rw [hu, hv]; rfl
    rw [← hu] at e1 e3
    rw [← hv] at e2 e3
    rw [← hnp] at e3
    obtain ⟨N, hN2⟩ : ∃ N, N = ptsN (r.take j) := ⟨_, rfl⟩
    have hNr : refsL N = [] := by rw [hN2]; exact hN _
    have hNn : ∀ ρ, renL ρ N = N := fun ρ => renL_id ρ _ hNr
    rw [← hN2] at hpl hps
    simp only [← hN2]
    obtain ⟨px, py⟩ := p
    cases hg : nearP ⟨px, py⟩ with
    | none =>
      have ho := hbp hg
      rw [hg] at e3
      simp only [gridAV] at e3
      repeat' (first
        | with_reducible first | apply thenW_n | apply W_seq | apply W_block | apply W_skip
        | with_reducible refine W_region (by first | decide | (with_unfolding_all rfl)) ?_
        | (rw [vcn]; (try simp [-map_take,-map_drop, push_cast, g2, ht2, hRl, ptC, ratC, zC]))
        | with_reducible refine W_drawn mixed (by decide) (by kernel_rfl) ?_
        | (rw [vcnD]; (try simp [-map_take,-map_drop, push_cast, g2, ht2, hRl, ptC, ratC, zC]))
        | (with_reducible refine W_condW ?_; (try simp [-map_take,-map_drop, AS.val, upd, resB, mkS_env, mkS_box, lk, entry_env, condW_true, condW_false, g2, ht2, hRl, ptC, ratC, zC]))
        | fail)
      refine callD_of (e1) rfl rfl rfl ?_
      try dsimp only
      repeat' (first
        | (rw [vcnD]; (try simp [-map_take,-map_drop, push_cast, ht2, ptC, ratC, zC]))
        | fail)
      refine callD_of (e2) rfl rfl rfl ?_
      try dsimp only
      repeat' (first
        | (rw [vcnD]; (try simp [-map_take,-map_drop, push_cast, ht2, ptC, ratC, zC]))
        | fail)
      refine callD_of (e3) rfl rfl rfl ?_
      try dsimp only
      repeat' (first
        | with_reducible first | apply thenW_n | apply thenW_ret | apply blockW_ret | apply loopW_ret | apply joinW_ret | apply W_seq | apply W_ret
        | with_reducible refine W_region (by first | decide | (with_unfolding_all rfl)) ?_
        | (rw [vcn]; (try simp [-map_take,-map_drop, push_cast, ptI]))
        | (rw [vcnD]; (try simp [-map_take,-map_drop, push_cast, ptI]))
        | (with_reducible refine W_condW ?_; (try simp [-map_take,-map_drop, AS.val, upd, resB, mkS_env, mkS_box, lk, entry_env, condW_true, condW_false, ptI]))
        | refine And.intro (by first | omega | kernel_rfl) ?_
        | fail)
      simp [-map_take,-map_drop, post, resAV, resAll, resOne, closeV, closeC, closeL, resD, resDL, push_cast, ho]
    | some q =>
      rw [hg] at e3
      simp only [gridAV] at e3
      have hnv : nearV ⟨px, py⟩ = q := by unfold nearV; rw [hg]; rfl
      rw [hnv] at hps
      repeat' (first
        | with_reducible first | apply thenW_n | apply W_seq | apply W_block | apply W_skip
        | with_reducible refine W_region (by first | decide | (with_unfolding_all rfl)) ?_
        | (rw [vcn]; (try simp [-map_take,-map_drop, push_cast, g2, ht2, hRl, ptC, ratC, zC]))
        | with_reducible refine W_drawn mixed (by decide) (by kernel_rfl) ?_
        | (rw [vcnD]; (try simp [-map_take,-map_drop, push_cast, g2, ht2, hRl, ptC, ratC, zC]))
        | (with_reducible refine W_condW ?_; (try simp [-map_take,-map_drop, AS.val, upd, resB, mkS_env, mkS_box, lk, entry_env, condW_true, condW_false, g2, ht2, hRl, ptC, ratC, zC]))
        | fail)
      refine callD_of (e1) rfl rfl rfl ?_
      try dsimp only
      repeat' (first
        | (rw [vcnD]; (try simp [-map_take,-map_drop, push_cast, ht2, ptC, ratC, zC]))
        | fail)
      refine callD_of (e2) rfl rfl rfl ?_
      try dsimp only
      repeat' (first
        | (rw [vcnD]; (try simp [-map_take,-map_drop, push_cast, ht2, ptC, ratC, zC]))
        | fail)
      refine callD_of (e3) rfl rfl rfl ?_
      try dsimp only
      repeat' (first
        | with_reducible first | apply thenW_n | apply blockW_n | apply W_seq | apply W_skip
        | with_reducible refine W_region (by first | decide | (with_unfolding_all rfl)) ?_
        | (rw [vcn]; (try simp [-map_take,-map_drop, push_cast, ptI, hpl]); try simp (disch := omega) only [i64_in, u64_in, shr64i])
        | (rw [vcnD]; (try simp [-map_take,-map_drop, push_cast, ptI, hpl]); try simp (disch := omega) only [i64_in, u64_in, shr64i])
        | (with_reducible refine W_condW ?_; (try simp [-map_take,-map_drop, AS.val, upd, resB, mkS_env, mkS_box, lk, entry_env, condW_true, condW_false, ptI, hpl]))
        | refine And.intro (by first | omega | kernel_rfl) ?_
        | fail)
      refine loopW_n (j + 1) (fun i => if i = 501 then 40 else i) (by omega) ⟨by omega, fun p hp => ?_⟩ ⟨?_, ?_, ?_, ?_, ?_, ?_⟩
      · rw [hpt] at hp
        rcases List.mem_append.1 hp with hp | hp
        · exact hJ p hp
        · rw [List.mem_singleton.1 hp, hg]; rfl
      all_goals first | (simp [-map_take,-map_drop, push_cast, dV_take, dV_drop, hrefs, hTr, hTn, hRr, hNr, hNn, hps, ptI]; done) | (simp [-map_take,-map_drop, push_cast, dV_take, dV_drop, hrefs, hTr, hTn, hRr, hNr, hNn, hps, ptI]; omega)
  refine W_frz 501 (e := 39) (l := ptsN r) (by simp [-map_take,-map_drop, mkS_box, lk]) (hN _) ?_
  have hpn : (ptsN r).length = k * 2 := by rw [ptsN_len, hk]
  have hpt : (ptsN r).take (k * 2) = ptsN r := List.take_of_length_le (by omega)
  repeat' (first
    | with_reducible first | apply thenW_n | apply blockW_n
    | with_reducible refine W_region (by first | decide | (with_unfolding_all rfl)) ?_
    | (rw [vcn]; (try simp [-map_take,-map_drop, push_cast, hlenT, hpn, hpt]); try simp (disch := omega) only [i64_in, u64_in, shr64i])
    | refine And.intro (by first | omega | kernel_rfl) ?_
    | fail)
  refine loopW_n (i + 1) (fun i => if i = 500 then 45 else i) (by omega) ⟨by omega, ?_⟩ ⟨?_, ?_, ?_, ?_, ?_, ?_⟩
  · rw [htk, rowsOk, List.all_append, Bool.and_eq_true]
    exact ⟨hI, by simpa [-map_take,-map_drop] using hall⟩
  all_goals first | (simp [-map_take,-map_drop, push_cast, dV_take, dV_drop, hrefs, hTr, hTn, hos, hk, hN, hrn2]; done) | (simp [-map_take,-map_drop, push_cast, dV_take, dV_drop, hrefs, hTr, hTn, hos, hk, hN, hrn2]; omega)
end Go.Fw
