/- snap.Box. -/
import Derived.Test.YtnilkelofcblhaaS3
import Derived.Test.YtnilkelofcblhaaR8b
set_option linter.unusedSimpArgs false
set_option linter.unusedVariables false
-- VALS: zAV, zC, ratAV, ratC, ptAV, ptC, sgAV, sgC
namespace Go.Fw
open Go Go.Proofs Go.IntWalk
set_option linter.unusedSimpArgs false
set_option maxRecDepth 100000
set_option maxHeartbeats 4000000

def sgsC (l : List FSg) : List AV := l.flatMap sgC
theorem sgC_len (s : FSg) : (sgC s).length = 16 := rfl
theorem sgsC_len (l : List FSg) : (sgsC l).length = l.length * 16 := by
  induction l with
  | nil => rfl
  | cons x t ih => simp [sgsC, sgC_len] at *; omega
theorem sgsC_refs (l : List FSg) : refsL (sgsC l) = [] := by
  induction l with
  | nil => rfl
  | cons x t ih => show refsL (sgC x ++ sgsC t) = []; rw [refsL_append, ih]; rfl
theorem sgsC_drop (l : List FSg) (i : Nat) : (sgsC l).drop (i * 16) = sgsC (l.drop i) := by
  induction l generalizing i with
  | nil => simp [sgsC]
  | cons x t ih =>
    cases i with
    | zero => simp
    | succ i =>
      have e : (i + 1) * 16 = (sgC x).length + i * 16 := by rw [sgC_len]; omega
      show (sgC x ++ sgsC t).drop _ = _
      rw [e, List.drop_append, Nat.add_sub_cancel_left, ih]
      simp
theorem sgsC_at (l : List FSg) (i : Nat) (h : i < l.length) : ∃ t, (sgsC l).drop (i * 16) = sgC l[i] ++ t := by
  refine ⟨sgsC (l.drop (i + 1)), ?_⟩
  rw [sgsC_drop, List.drop_eq_getElem_cons h]
  rfl
theorem ratsC_refs (l : List FQ) : refsL (ratsC l) = [] := by
  induction l with
  | nil => rfl
  | cons x t ih => show refsL (ratC x ++ ratsC t) = []; rw [refsL_append, ih]; rfl

def xsOf (l : List FSg) : List FQ := l.flatMap fun s => [s.A.x, s.B.x]
def ysOf (l : List FSg) : List FQ := l.flatMap fun s => [s.A.y, s.B.y]
theorem xsOf_len (l : List FSg) : (xsOf l).length = l.length * 2 := by
  induction l with
  | nil => rfl
  | cons x t ih => simp [xsOf] at *; omega
theorem ysOf_len (l : List FSg) : (ysOf l).length = l.length * 2 := by
  induction l with
  | nil => rfl
  | cons x t ih => simp [ysOf] at *; omega
def xsC (l : List FSg) : List AV := ratsC (xsOf l)
def ysC (l : List FSg) : List AV := ratsC (ysOf l)
theorem xsC_snoc (l : List FSg) (i : Nat) (h : i < l.length) : xsC (l.take (i + 1)) = xsC (l.take i) ++ (ratC l[i].A.x ++ ratC l[i].B.x) := by
  rw [List.take_succ_eq_append_getElem h]
  unfold xsC xsOf ratsC
  rw [List.flatMap_append, List.flatMap_append]
  simp
theorem ysC_snoc (l : List FSg) (i : Nat) (h : i < l.length) : ysC (l.take (i + 1)) = ysC (l.take i) ++ (ratC l[i].A.y ++ ratC l[i].B.y) := by
  rw [List.take_succ_eq_append_getElem h]
  unfold ysC ysOf ratsC
  rw [List.flatMap_append, List.flatMap_append]
  simp
theorem xsC_len (l : List FSg) : (xsC l).length = l.length * 2 * 4 := by unfold xsC; rw [ratsC_len, xsOf_len]
theorem ysC_len (l : List FSg) : (ysC l).length = l.length * 2 * 4 := by unfold ysC; rw [ratsC_len, ysOf_len]

def upQ (a : Rat) : Int := -((-a).floor)
def lowG (l : List FSg) : Option (Int × Int) := gridZ (leastOf (xsOf l)).q.floor (leastOf (ysOf l)).q.floor
def highG (l : List FSg) : Option (Int × Int) := gridZ (upQ (mostOf (xsOf l)).q) (upQ (mostOf (ysOf l)).q)
def boxAV (l : List FSg) : AV :=
  if l.length = 0 then .tup [.agg (ptI (0, 0)), .agg (ptI (0, 0)), i64V 7] else match lowG l, highG l with
  | some a, some b => .tup [.agg (ptI a), .agg (ptI b), i64V 0]
  | _, _ => .tup [.agg (ptI (0, 0)), .agg (ptI (0, 0)), i64V 26]

theorem floor_limbs (q : Rat) (h : szQ q ≤ 100000) : (limbs q.floor.natAbs).length ≤ 100003 := by
  have h1 : q.floor = q.num / q.den := Rat.floor_def q
  have h2 : (q.num / (q.den : Int)).natAbs ≤ q.num.natAbs + 1 := by
    have := Int.natAbs_ediv_le_natAbs q.num q.den
    omega
  rw [h1]
  have h3 := limbs_le h2
  have h4 := limbs_add q.num.natAbs 1
  have h5 : (limbs 1).length = 1 := by decide
  unfold szQ at h
  omega

def geO (o : Option (Int × Int)) : Int := if o.isSome then 0 else 26
theorem gridAV_eq (o : Option (Int × Int)) : gridAV o = .tup [.agg (ptI (o.getD (0, 0))), i64V (geO o)] := by
  cases o <;> rfl

open List (map_take map_drop)
attribute [local push_cast] optK_some optK_none optK_ite optK_map optK_bind gOn stepK isMem evPure evMem evBin evUn evConv evLen evBuiltin evMinMax evSlice evBuild evAppend evIndex evIndexAddr evField evFieldAddr intBin strBin appDest AS.val AS.mem AS.elems AS.put AS.put' AS.eff AV.cells? AV.isCell AV.refs all_isByte take_byteV drop_byteV strOf_map bndOk bnd partAV ptrAdd killBox catA inOrder fillA setAt ofVal resB upd byteV List.head?_take List.head?_drop List.getElem?_map mkS_env mkS_box mkS_used entry_env entry_box entry_used lk stepD lookIds Oper.looksAt Op.operands Call.operands St.ids refsL renL_append ren renL renBox Box.refs iV i64V boolV dV_getElem dV_app dV_cons toNat_add2 toNat_add1
attribute [local simp ↓] numC_refs numC_isCell numC_cells numC_resB numC_resD numC_ren numC_closeC numC_isOwn
theorem up_ok (a : FQ) (h : szQ a.q ≤ 100000) : Eval Try.prog 25 [ratAV a] (.ret (zAV (upQ a.q))) := by
  refine Eval.intro Try.func25 rfl Try.call25 _ _ (Nat.le_of_ble_eq_true rfl) (by simp [-map_take,-map_drop, AV.refs, refsL, natAV, zAV, zC, ratAV, ratC, ptAV, ptC, sgAV, sgC, push_cast]) fun hs0 => ?_
  have e1 := negR_ok a (by omega)
  have hn : a.neg.q = -a.q := rfl
  have e2 := floorR_ok a.neg (by rw [hn, szQ_neg]; omega)
  rw [hn] at e2
  have hl := floor_limbs (-a.q) (by rw [szQ_neg]; exact h)
  have e3 := neg_ok (-a.q).floor (by omega)
  obtain ⟨b, hb⟩ : ∃ b, b = a.neg := ⟨_, rfl⟩
  rw [← hb] at e1 e2
  have hu : -((-a.q).floor) = upQ a.q := rfl
  rw [hu] at e3
  obtain ⟨k, hk⟩ : ∃ k, k = (-a.q).floor := ⟨_, rfl⟩
  obtain ⟨m, hm⟩ : ∃ m, m = upQ a.q := ⟨_, rfl⟩
  rw [← hk] at e2 e3
  rw [← hm] at e3 ⊢
  clear hb hk hm hl hn hu
  repeat' (first
    | with_reducible first | apply thenW_n | apply W_seq
    | with_reducible refine W_region (by first | decide | (with_unfolding_all rfl)) ?_
    | (rw [vcn]; (try simp [-map_take,-map_drop, push_cast, ratAV, ratC, zC]))
    | fail)
  refine CallG_of (e1) rfl rfl rfl ?_
  try dsimp only
  repeat' (first
    | (rw [vcn]; (try simp [-map_take,-map_drop, push_cast, ratAV, ratC, zC]))
    | fail)
  refine CallG_of (e2) rfl rfl rfl ?_
  try dsimp only
  repeat' (first
    | (rw [vcn]; (try simp [-map_take,-map_drop, push_cast]))
    | fail)
  refine CallG_of (e3) rfl rfl rfl ?_
  try dsimp only
  repeat' (first
    | with_reducible first | apply thenW_n | apply W_ret
    | (rw [vcn]; (try simp [-map_take,-map_drop, push_cast, zAV, zC]))
    | fail)
  simp [-map_take,-map_drop, post, resAV, resAll, resOne, closeV, closeC, closeL, resD, resDL, push_cast, zAV, zC]

theorem snapBox_ok (f : Bool) (l : List FSg) (hs : ∀ s ∈ l, szV s.A + szV s.B ≤ 1000) (hl : l.length ≤ 100000) : Eval Try.prog 12 [.slc f 16 l.length (sgsC l)] (.ret (boxAV l)) := by
  refine Eval.intro Try.func12 rfl Try.call12 _ _ (Nat.le_of_ble_eq_true rfl) (by simp [-map_take,-map_drop, AV.refs, refsL, natAV, zAV, zC, ratAV, ratC, ptAV, ptC, sgAV, sgC, push_cast]) fun hs0 => ?_
  obtain ⟨out, hout⟩ : ∃ out, out = boxAV l := ⟨_, rfl⟩
  rw [← hout]
  obtain ⟨n, hn⟩ : ∃ n, n = l.length := ⟨_, rfl⟩
  obtain ⟨L, hL⟩ : ∃ L, L = sgsC l := ⟨_, rfl⟩
  have hlen : L.length = n * 16 := by rw [hL, sgsC_len, hn]
  have hrefs : refsL L = [] := by rw [hL]; exact sgsC_refs l
  have hat : ∀ i (h : i < l.length), ∃ t, L.drop (i * 16) = sgC l[i] ++ t := by rw [hL]; exact sgsC_at l
  rw [← hL]
  rw [← hn] at hl ⊢
  clear hL hs0
  by_cases h0 : n = 0
  · have g1 : (n = 0) = True := eq_true h0
    have g2 : ((n : Int) = 0) = True := eq_true (by omega)
    rw [boxAV, if_pos (by omega)] at hout
    repeat' (first
      | with_reducible first | apply thenW_n | apply thenW_ret | apply W_seq | apply W_ret
      | with_reducible refine W_region (by first | decide | (with_unfolding_all rfl)) ?_
      | (rw [vcn]; (try simp [-map_take,-map_drop, push_cast, g1, g2]))
      | (with_reducible refine W_condW ?_; (try simp [-map_take,-map_drop, AS.val, upd, resB, mkS_env, mkS_box, lk, entry_env, condW_true, condW_false, g1, g2]))
      | ((with_reducible refine condW_b (fun hc => ?_) (fun hc => ?_) <;> (try simp [-map_take,-map_drop, Int.ofNat_inj] at hc) <;> (try contradiction)))
      | fail)
    simp [-map_take,-map_drop, post, resAV, resAll, resOne, closeV, closeC, closeL, resD, resDL, push_cast, hout, ptI]
  have g1 : (n = 0) = False := eq_false h0
  have g2 : ((n : Int) = 0) = False := eq_false (by omega)
  repeat' (first
    | with_reducible first | apply thenW_n | apply W_seq | apply W_skip
    | with_reducible refine W_region (by first | decide | (with_unfolding_all rfl)) ?_
    | (rw [vcn]; (try simp [-map_take,-map_drop, push_cast, g1, g2]))
    | (with_reducible refine W_condW ?_; (try simp [-map_take,-map_drop, AS.val, upd, resB, mkS_env, mkS_box, lk, entry_env, condW_true, condW_false, g1, g2]))
    | ((with_reducible refine condW_b (fun hc => ?_) (fun hc => ?_) <;> (try simp [-map_take,-map_drop, Int.ofNat_inj] at hc) <;> (try contradiction)))
    | fail)
  refine W_joinQ (X := Unit) (fun _ => [(2, .bp 2 0), (3, .bp 3 0), (5, .bs 500 4 0 (n * 2)), (6, .bs 501 4 0 (n * 2))]) (fun _ => [(2, .mut 39 [i64V 0, i64V 0]), (3, .mut 39 [i64V 0, i64V 0]), (500, .mut 49 (xsC l)), (501, .mut 49 (ysC l))]) (fun _ => True) ?_ fun _ _ => ?_
  · refine W_nil 5 500 49 4 (by simp [-map_take,-map_drop, upd, mkS_env, entry_env, lk]) (by simp [-map_take,-map_drop, mkS_used, entry_used]) ?_
    refine W_nil 6 501 49 4 (by simp [-map_take,-map_drop, upd, mkS_env, entry_env, lk]) (by simp [-map_take,-map_drop, mkS_used, entry_used]) ?_
    repeat' (first
      | with_reducible apply W_block
      | fail)
    refine W_loopW (X := Nat) (fun i => [(2, .bp 2 0), (3, .bp 3 0), (5, .bs 500 4 0 (i * 2)), (6, .bs 501 4 0 (i * 2)), (19, .slc f 16 n L), (20, i64V n), (21, i64V i)]) (fun i => [(2, .mut 39 [i64V 0, i64V 0]), (3, .mut 39 [i64V 0, i64V 0]), (500, .mut 49 (xsC (l.take i))), (501, .mut 49 (ysC (l.take i)))]) (fun i => n - i)
      (fun i => i ≤ n) 0 id (Nat.zero_le _) ⟨?_, ?_, ?_, ?_, ?_, ?_⟩ fun i hi => ?_
    all_goals first | (with_reducible refine W_id ?_) | (simp [-map_take,-map_drop, push_cast, dV_take, dV_drop, hrefs, xsC, ysC, xsOf, ysOf, ratsC]; done)
    have hxr : ∀ l, refsL (xsC l) = [] := fun l => ratsC_refs _
    have hyr : ∀ l, refsL (ysC l) = [] := fun l => ratsC_refs _
    by_cases hlt : ¬ i < n
    · have g3 : (i < n) = False := eq_false hlt
      have e : l.take i = l := List.take_of_length_le (by omega)
      have hin : i = n := by omega
      rw [e]
      subst hin
      have hxn : ∀ ρ, renL ρ (xsC l) = xsC l := fun ρ => renL_id ρ _ (hxr l)
      have hyn : ∀ ρ, renL ρ (ysC l) = ysC l := fun ρ => renL_id ρ _ (hyr l)
      repeat' (first
        | with_reducible first | apply thenW_n | apply thenW_exit | apply blockW_same | apply loopW_exit | apply W_seq | apply W_exit
        | with_reducible refine W_region (by first | decide | (with_unfolding_all rfl)) ?_
        | (rw [vcn]; (try simp [-map_take,-map_drop, push_cast, g3]))
        | (with_reducible refine W_condW ?_; (try simp [-map_take,-map_drop, AS.val, upd, resB, mkS_env, mkS_box, lk, entry_env, condW_true, condW_false, g3]))
        | fail)
      refine joinW_n () id trivial ⟨?_, ?_, ?_, ?_, ?_, ?_⟩
      all_goals first | (simp [-map_take,-map_drop, push_cast, dV_take, dV_drop, hrefs, hxr, hyr, hxn, hyn]; done)
    have hlt : i < n := by omega
    have g3 : (i < n) = True := eq_true hlt
    obtain ⟨t, ht⟩ := hat i (by omega)
    have hx1 := xsC_snoc l i (by omega)
    have hy1 := ysC_snoc l i (by omega)
    have hx2 := xsC_len (l.take i)
    have hy2 := ysC_len (l.take i)
    rw [List.length_take, Nat.min_eq_left (by omega)] at hx2 hy2
    obtain ⟨s, hs2⟩ : ∃ s, s = l[i]'(by omega) := ⟨_, rfl⟩
    rw [← hs2] at ht hx1 hy1
    have htl := congrArg List.length ht
    rw [List.length_drop, hlen, List.length_append, sgC_len] at htl
    obtain ⟨X, hX⟩ : ∃ X, X = xsC (l.take i) := ⟨_, rfl⟩
    obtain ⟨Y, hY⟩ : ∃ Y, Y = ysC (l.take i) := ⟨_, rfl⟩
    have hXr : refsL X = [] := by rw [hX]; exact hxr _
    have hYr : refsL Y = [] := by rw [hY]; exact hyr _
    have hXn : ∀ ρ, renL ρ X = X := fun ρ => renL_id ρ _ hXr
    have hYn : ∀ ρ, renL ρ Y = Y := fun ρ => renL_id ρ _ hYr
    rw [← hX] at hx1 hx2
    rw [← hY] at hy1 hy2
    simp only [← hX, ← hY]
    obtain ⟨⟨ax, ay⟩, ⟨bx, by'⟩⟩ := s
    repeat' (first
      | with_reducible first | apply thenW_n | apply blockW_n | apply W_seq | apply W_block | apply W_skip
      | with_reducible refine W_region (by first | decide | (with_unfolding_all rfl)) ?_
      | (rw [vcn]; (try simp [-map_take,-map_drop, push_cast, g3, ht, hlen, hlt, sgC, ptC, ratC, zC, hx2, hy2]); try simp (disch := omega) only [i64_in, u64_in, shr64i])
      | with_reducible refine W_drawn mixed (by decide) (by kernel_rfl) ?_
      | (rw [vcnD]; (try simp [-map_take,-map_drop, push_cast, g3, ht, hlen, hlt, sgC, ptC, ratC, zC, hx2, hy2]); try simp (disch := omega) only [i64_in, u64_in, shr64i])
      | (with_reducible refine W_condW ?_; (try simp [-map_take,-map_drop, AS.val, upd, resB, mkS_env, mkS_box, lk, entry_env, condW_true, condW_false, g3, ht, hlen, hlt, sgC, ptC, ratC, zC, hx2, hy2]))
      | refine And.intro (by first | omega | kernel_rfl) ?_
      | fail)
    refine loopW_n (i + 1) (fun i => if i = 500 then 33 else if i = 501 then 42 else i) (by omega) (by omega) ⟨?_, ?_, ?_, ?_, ?_, ?_⟩
    all_goals first | (simp [-map_take,-map_drop, push_cast, dV_take, dV_drop, hrefs, hXr, hYr, hXn, hYn, hx1, hy1, ratC, zC]; done) | (simp [-map_take,-map_drop, push_cast, dV_take, dV_drop, hrefs, hXr, hYr, hXn, hYn, hx1, hy1, ratC, zC]; omega) | (intro i hi; dsimp only; (repeat' split) <;> omega)
  refine W_frz 500 (e := 49) (l := xsC l) (by simp [-map_take,-map_drop, mkS_box, lk]) (ratsC_refs _) ?_
  refine W_frz 501 (e := 49) (l := ysC l) (by simp [-map_take,-map_drop, upd, mkS_box, lk]) (ratsC_refs _) ?_
  have hxl : (xsC l).length = n * 2 * 4 := by rw [xsC_len, hn]
  have hyl : (ysC l).length = n * 2 * 4 := by rw [ysC_len, hn]
  have hxt : (xsC l).take (n * 2 * 4) = xsC l := List.take_of_length_le (by omega)
  have hyt : (ysC l).take (n * 2 * 4) = ysC l := List.take_of_length_le (by omega)
  have hxsz : ∀ x ∈ xsOf l, szQ x.q ≤ 100000 := by
    intro x hx
    obtain ⟨s, h1, h2⟩ := List.mem_flatMap.1 hx
    have := hs s h1
    unfold szV at this
    simp only [List.mem_cons, List.not_mem_nil, or_false] at h2
    rcases h2 with rfl | rfl <;> omega
  have hysz : ∀ x ∈ ysOf l, szQ x.q ≤ 100000 := by
    intro x hx
    obtain ⟨s, h1, h2⟩ := List.mem_flatMap.1 hx
    have := hs s h1
    unfold szV at this
    simp only [List.mem_cons, List.not_mem_nil, or_false] at h2
    rcases h2 with rfl | rfl <;> omega
  have hx0 : 0 < (xsOf l).length := by rw [xsOf_len]; omega
  have hy0 : 0 < (ysOf l).length := by rw [ysOf_len]; omega
  have e1 := least_ok false (xsOf l) hxsz hx0 (by rw [xsOf_len]; omega)
  have e2 := least_ok false (ysOf l) hysz hy0 (by rw [ysOf_len]; omega)
  have e3 := most_ok false (xsOf l) hxsz hx0 (by rw [xsOf_len]; omega)
  have e4 := most_ok false (ysOf l) hysz hy0 (by rw [ysOf_len]; omega)
  have f1 := floorR_ok (leastOf (xsOf l)) (by have := hxsz _ (leastOf_mem _ hx0); omega)
  have f2 := floorR_ok (leastOf (ysOf l)) (by have := hysz _ (leastOf_mem _ hy0); omega)
  have f3 := up_ok (mostOf (xsOf l)) (by have := hxsz _ (mostOf_mem _ hx0); omega)
  have f4 := up_ok (mostOf (ysOf l)) (by have := hysz _ (mostOf_mem _ hy0); omega)
  have g3 := snapGrid_ok (leastOf (xsOf l)).q.floor (leastOf (ysOf l)).q.floor
  have g4 := snapGrid_ok (upQ (mostOf (xsOf l)).q) (upQ (mostOf (ysOf l)).q)
  have hlow : gridZ (leastOf (xsOf l)).q.floor (leastOf (ysOf l)).q.floor = lowG l := rfl
  have hhigh : gridZ (upQ (mostOf (xsOf l)).q) (upQ (mostOf (ysOf l)).q) = highG l := rfl
  have hx4 : ratsC (xsOf l) = xsC l := rfl
  have hy4 : ratsC (ysOf l) = ysC l := rfl
  rw [hlow] at g3
  rw [hhigh] at g4
  rw [hx4, xsOf_len, ← hn] at e1 e3
  rw [hy4, ysOf_len, ← hn] at e2 e4
  rw [boxAV, if_neg (by omega)] at hout
  obtain ⟨a, ha⟩ : ∃ a, a = leastOf (xsOf l) := ⟨_, rfl⟩
  obtain ⟨b, hb⟩ : ∃ b, b = leastOf (ysOf l) := ⟨_, rfl⟩
  obtain ⟨c, hc⟩ : ∃ c, c = mostOf (xsOf l) := ⟨_, rfl⟩
  obtain ⟨d, hd⟩ : ∃ d, d = mostOf (ysOf l) := ⟨_, rfl⟩
  rw [← ha] at e1 f1 g3
  rw [← hb] at e2 f2 g3
  rw [← hc] at e3 f3 g4
  rw [← hd] at e4 f4 g4
  obtain ⟨X, hX⟩ : ∃ X, X = xsC l := ⟨_, rfl⟩
  obtain ⟨Y, hY⟩ : ∃ Y, Y = ysC l := ⟨_, rfl⟩
  rw [← hX] at e1 e3 hxl hxt
  rw [← hY] at e2 e4 hyl hyt
  simp only [← hX, ← hY]
  clear ha hb hc hd hlow hhigh hx4 hy4 hxsz hysz hx0 hy0 hX hY hat
  obtain ⟨lo, hlo⟩ : ∃ lo, lo = lowG l := ⟨_, rfl⟩
  obtain ⟨hi, hhi⟩ : ∃ hi, hi = highG l := ⟨_, rfl⟩
  rw [← hlo] at g3 hout
  rw [← hhi] at g4 hout
  rw [gridAV_eq] at g3 g4
  obtain ⟨⟨px, py⟩, hp⟩ : ∃ p, p = lo.getD (0, 0) := ⟨_, rfl⟩
  obtain ⟨⟨qx, qy⟩, hq⟩ : ∃ q, q = hi.getD (0, 0) := ⟨_, rfl⟩
  obtain ⟨v, hv⟩ : ∃ v, v = geO lo := ⟨_, rfl⟩
  obtain ⟨w, hw⟩ : ∃ w, w = geO hi := ⟨_, rfl⟩
  rw [← hp, ← hv] at g3
  rw [← hq, ← hw] at g4
  clear hlo hhi
  repeat' (first
    | with_reducible first | apply thenW_n | apply W_seq
    | with_reducible refine W_region (by first | decide | (with_unfolding_all rfl)) ?_
    | (rw [vcn]; (try simp [-map_take,-map_drop, push_cast, hxl, hxt, hyl, hyt]))
    | fail)
  refine CallG_of (e1) rfl rfl rfl ?_
  try dsimp only
  repeat' (first
    | (rw [vcn]; (try simp [-map_take,-map_drop, push_cast, hxl, hxt, hyl, hyt]))
    | fail)
  refine CallG_of (f1) rfl rfl rfl ?_
  try dsimp only
  repeat' (first
    | (rw [vcn]; (try simp [-map_take,-map_drop, push_cast, hxl, hxt, hyl, hyt]))
    | fail)
  refine CallG_of (e2) rfl rfl rfl ?_
  try dsimp only
  repeat' (first
    | (rw [vcn]; (try simp [-map_take,-map_drop, push_cast, hxl, hxt, hyl, hyt]))
    | fail)
  refine CallG_of (f2) rfl rfl rfl ?_
  try dsimp only
  repeat' (first
    | (rw [vcn]; (try simp [-map_take,-map_drop, push_cast, hxl, hxt, hyl, hyt]))
    | fail)
  refine CallG_of (g3) rfl rfl rfl ?_
  try dsimp only
  repeat' (first
    | with_reducible first | apply thenW_n | apply W_seq
    | with_reducible refine W_region (by first | decide | (with_unfolding_all rfl)) ?_
    | (rw [vcn]; (try simp [-map_take,-map_drop, push_cast, ptI, hxl, hxt, hyl, hyt]))
    | fail)
  refine CallG_of (e3) rfl rfl rfl ?_
  try dsimp only
  repeat' (first
    | (rw [vcn]; (try simp [-map_take,-map_drop, push_cast, ptI, hxl, hxt, hyl, hyt]))
    | fail)
  refine CallG_of (f3) rfl rfl rfl ?_
  try dsimp only
  repeat' (first
    | (rw [vcn]; (try simp [-map_take,-map_drop, push_cast, ptI, hxl, hxt, hyl, hyt]))
    | fail)
  refine CallG_of (e4) rfl rfl rfl ?_
  try dsimp only
  repeat' (first
    | (rw [vcn]; (try simp [-map_take,-map_drop, push_cast, ptI, hxl, hxt, hyl, hyt]))
    | fail)
  refine CallG_of (f4) rfl rfl rfl ?_
  try dsimp only
  repeat' (first
    | (rw [vcn]; (try simp [-map_take,-map_drop, push_cast, ptI, hxl, hxt, hyl, hyt]))
    | fail)
  refine CallG_of (g4) rfl rfl rfl ?_
  try dsimp only
  cases lo with
  | none =>
    have hv2 : v = 26 := hv
    subst hv2
    repeat' (first
      | with_reducible first | apply thenW_n | apply thenW_ret | apply W_seq | apply W_ret
      | with_reducible refine W_region (by first | decide | (with_unfolding_all rfl)) ?_
      | (rw [vcn]; (try simp [-map_take,-map_drop, push_cast, ptI]))
      | (with_reducible refine W_condW ?_; (try simp [-map_take,-map_drop, AS.val, upd, resB, mkS_env, mkS_box, lk, entry_env, condW_true, condW_false, ptI]))
      | fail)
    simp [-map_take,-map_drop, post, resAV, resAll, resOne, closeV, closeC, closeL, resD, resDL, push_cast, hout, ptI]
  | some p =>
    have hv2 : v = 0 := hv
    subst hv2
    have hp2 : p = (px, py) := hp.symm
    subst hp2
    cases hi with
    | none =>
      have hw2 : w = 26 := hw
      subst hw2
      repeat' (first
        | with_reducible first | apply thenW_n | apply thenW_ret | apply W_seq | apply W_ret
        | with_reducible refine W_region (by first | decide | (with_unfolding_all rfl)) ?_
        | (rw [vcn]; (try simp [-map_take,-map_drop, push_cast, ptI]))
        | (with_reducible refine W_condW ?_; (try simp [-map_take,-map_drop, AS.val, upd, resB, mkS_env, mkS_box, lk, entry_env, condW_true, condW_false, ptI]))
        | fail)
      simp [-map_take,-map_drop, post, resAV, resAll, resOne, closeV, closeC, closeL, resD, resDL, push_cast, hout, ptI]
    | some q =>
      have hw2 : w = 0 := hw
      subst hw2
      have hq2 : q = (qx, qy) := hq.symm
      subst hq2
      repeat' (first
        | with_reducible first | apply thenW_n | apply W_seq | apply W_skip | apply W_ret
        | with_reducible refine W_region (by first | decide | (with_unfolding_all rfl)) ?_
        | (rw [vcn]; (try simp [-map_take,-map_drop, push_cast, ptI]))
        | with_reducible refine W_drawn mixed (by decide) (by kernel_rfl) ?_
        | (rw [vcnD]; (try simp [-map_take,-map_drop, push_cast, ptI]))
        | (with_reducible refine W_condW ?_; (try simp [-map_take,-map_drop, AS.val, upd, resB, mkS_env, mkS_box, lk, entry_env, condW_true, condW_false, ptI]))
        | refine And.intro (by first | omega | kernel_rfl) ?_
        | fail)
      simp [-map_take,-map_drop, post, resAV, resAll, resOne, closeV, closeC, closeL, resD, resDL, push_cast, hout, ptI]
end Go.Fw
