import Derived.Test.YtmmkclefdpmjlaaRaC
import Derived.Test.YtmmkclefdpmjlaaR8b
import Derived.Test.YtmmkclefdpmjlaaS2
import Derived.Test.YtmmkclefdpmjlaaRa5
import Derived.Test.YtmmkclefdpmjlaaRp1
import Derived.Test.YtmmkclefdpmjlaaHb
set_option linter.unusedSimpArgs false
set_option linter.unusedVariables false
-- VALS: zAV, zC, ratAV, ratC, ptAV, ptC, sgAV, sgC
namespace Go.Fw
open Go Go.RowKit Go.Proofs Go.IntWalk
set_option linter.unusedSimpArgs false
set_option maxRecDepth 100000
set_option maxHeartbeats 4000000
def ptsI (l : List (Int × Int)) : List AV := l.flatMap ptI
def inP (p : Int × Int) : Prop := inI p.1 ∧ inI p.2
def gridP (p : Int × Int) : FP := gridF p.1 p.2
def rowG (l : List (Int × Int)) : List FP := l.map gridP
theorem ptsI_len (l : List (Int × Int)) : (ptsI l).length = l.length * 2 := by
  induction l with
  | nil => rfl
  | cons x t ih => show (ptI x ++ ptsI t).length = _; rw [List.length_append, ih, List.length_cons]; simp [ptI]; omega
theorem ptsI_refs (l : List (Int × Int)) : refsL (ptsI l) = [] := by
  induction l with
  | nil => rfl
  | cons x t ih => show refsL (ptI x ++ ptsI t) = []; rw [refsL_append, ih]; rfl
theorem ptsI_at (l : List (Int × Int)) (i : Nat) (h : i < l.length) : ∃ t, (ptsI l).drop (i * 2) = i64V l[i].1 :: i64V l[i].2 :: t := by
  induction l generalizing i with
  | nil => cases h
  | cons x r ih =>
    cases i with
    | zero => exact ⟨ptsI r, rfl⟩
    | succ i =>
      obtain ⟨t, ht⟩ := ih i (by simpa using h)
      refine ⟨t, ?_⟩
      have e : (i + 1) * 2 = (ptI x).length + i * 2 := by simp [ptI]; omega
      show (ptI x ++ ptsI r).drop _ = _
      rw [e, List.drop_append, Nat.add_sub_cancel_left, ht, List.drop_eq_nil_of_le (Nat.le_add_right _ _)]
      rfl
theorem rowG_snoc (l : List (Int × Int)) (a : Int × Int) : ptsC (rowG (l ++ [a])) = ptsC (rowG l) ++ ptC (gridP a) := by
  unfold rowG ptsC; rw [List.map_append, List.flatMap_append]; simp
theorem rowG_len (l : List (Int × Int)) : (rowG l).length = l.length := by unfold rowG; rw [List.length_map]
open List (map_take map_drop)
attribute [local push_cast] optK_some optK_none optK_ite optK_map optK_bind gOn stepK isMem evPure evMem evBin evUn evConv evLen evBuiltin evMinMax evSlice evBuild evAppend evIndex evIndexAddr evField evFieldAddr intBin strBin appDest AS.val AS.mem AS.elems AS.put AS.put' AS.eff AV.cells? AV.isCell AV.refs all_isByte take_byteV drop_byteV strOf_map bndOk bnd partAV ptrAdd killBox catA inOrder fillA setAt ofVal resB upd byteV List.head?_take List.head?_drop List.getElem?_map mkS_env mkS_box mkS_used entry_env entry_box entry_used lk stepD lookIds Oper.looksAt Op.operands Call.operands St.ids refsL renL_append ren renL renBox Box.refs iV i64V boolV dV_getElem dV_app dV_cons toNat_add2 toNat_add1
attribute [local simp ↓] numC_refs numC_isCell numC_cells numC_resB numC_resD numC_ren numC_closeC numC_isOwn
theorem windGrid_ok (f : Bool) (l : List (Int × Int)) (hI : ∀ p ∈ l, inP p) (hn : l.length ≤ 1000) : Eval Try.prog 26 [.slc f 2 l.length (ptsI l)] (.ret (.slc false 8 l.length (ptsC (rowG l)))) := by
  obtain ⟨n, hnl⟩ : ∃ n, n = l.length := ⟨_, rfl⟩
  obtain ⟨L, hL⟩ : ∃ x, x = ptsI l := ⟨_, rfl⟩
  have hLr : refsL L = [] := by rw [hL]; exact ptsI_refs _
  have hLn : ∀ ρ, renL ρ L = L := fun ρ => renL_id ρ _ hLr
  have hLl : L.length = n * 2 := by rw [hL, hnl, ptsI_len]
  have hat : ∀ i (h : i < l.length), ∃ t, L.drop (i * 2) = i64V l[i].1 :: i64V l[i].2 :: t := fun i h => by rw [hL]; exact ptsI_at l i h
  rw [← hL]
  rw [← hnl] at hn ⊢
  clear hL
  refine Eval.intro Try.func26 rfl Try.call26 _ _ (Nat.le_of_ble_eq_true rfl) (by simp [-map_take,-map_drop, AV.refs, refsL, natAV, zAV, zC, ratAV, ratC, ptAV, ptC, sgAV, sgC, push_cast]) fun hs0 => ?_
  have hPr : ∀ m, refsL (ptsC (rowG m)) = [] := fun m => ptsC_refs _
  have hPn : ∀ m ρ, renL ρ (ptsC (rowG m)) = ptsC (rowG m) := fun m ρ => renL_id ρ _ (hPr m)
  have hPl : ∀ m, (ptsC (rowG m)).length = m.length * 8 := fun m => by rw [ptsC_len, rowG_len]
  have hP0 : ptsC (rowG []) = [] := rfl
  repeat' (first
    | with_reducible first | apply thenW_n | apply W_seq | apply W_block
    | with_reducible refine W_rg ?_
    | (rw [vcn]; (try simp [-map_take,-map_drop, push_cast, hLr]))
    | fail)
  refine W_nil 3 500 33 8 (by simp [-map_take,-map_drop, upd, mkS_env, entry_env, lk]) (by simp [-map_take,-map_drop, mkS_used, entry_used]) ?_
  refine W_loopW (X := Nat) (fun i => [(3, .bs 500 8 0 i), (6, .slc f 2 n L), (7, i64V n), (8, i64V i)]) (fun i => [(500, .mut 33 (ptsC (rowG (l.take i))))]) (fun i => n - i)
    (fun i => i ≤ n) 0 id (by omega) ⟨?_, ?_, ?_, ?_, ?_, ?_⟩ fun i hi => ?_
  all_goals first | (with_reducible refine W_id ?_) | (simp [-map_take,-map_drop, push_cast, dV_take, dV_drop, hLr, hLn, hP0, List.take_zero]; done)
  by_cases c1 : ¬ i < n
  · have y1 : (i < n) = False := eq_false c1
    have y2 : ((i : Int) < (n : Int)) = False := eq_false (by omega)
    have hi' : i = n := by omega
    have hk : l.take i = l := by rw [hi', hnl]; exact List.take_length
    have k5 := hPl l
    rw [← hnl] at k5
    have tP : (ptsC (rowG l)).take (n * 8) = ptsC (rowG l) := List.take_of_length_le (by omega)
    have k6 := hPr l
    rw [hk, hi']
    refine W_frz 500 (e := 33) (l := ptsC (rowG l)) (by simp [-map_take,-map_drop, mkS_box, lk]) k6 ?_
    repeat' (first
      | with_reducible first | apply thenW_n | apply thenW_exit | apply blockW_same | apply loopW_exit | apply W_seq | apply W_ret | apply W_exit
      | with_reducible refine W_rg ?_
      | (rw [vcn]; (try simp [-map_take,-map_drop, push_cast, y1, y2, hi']))
      | (with_reducible refine W_condW ?_; (try simp [-map_take,-map_drop, AS.val, upd, resB, mkS_env, mkS_box, lk, entry_env, condW_true, condW_false, y1, y2, hi']))
      | fail)
    simp [-map_take,-map_drop, post, resAV, resAll, resOne, closeV, closeC, closeL, resD, resDL, push_cast, tP, k5, k6]
  have c1 : i < n := by omega
  have y1 : (i < n) = True := eq_true c1
  have y2 : ((i : Int) < (n : Int)) = True := eq_true (by omega)
  have hil : i < l.length := by omega
  obtain ⟨t1, ht1⟩ := hat i hil
  have hA := hI _ (List.getElem_mem hil)
  have htk : l.take (i + 1) = l.take i ++ [l[i]] := List.take_succ_eq_append_getElem hil
  have s1 := rowG_snoc (l.take i) l[i]
  rw [← htk] at s1
  have k5 := hPl (l.take i)
  rw [List.length_take, Nat.min_eq_left (by omega)] at k5
  have k3 := hPr (l.take i)
  have k4 := hPn (l.take i)
  have k7 := hPr (l.take (i + 1))
  have k8 := hPn (l.take (i + 1))
  obtain ⟨A, eA⟩ : ∃ A, A = l[i] := ⟨_, rfl⟩
  rw [← eA] at ht1 hA s1
  have pA : Eval Try.prog 32 [.agg [i64V A.1, i64V A.2]] (.ret (ptAV (gridP A))) := grid_ok A.1 A.2 hA.1 hA.2
  obtain ⟨S, hS⟩ : ∃ S, S = ptsC (rowG (l.take i)) := ⟨_, rfl⟩
  obtain ⟨S', hS'⟩ : ∃ S, S = ptsC (rowG (l.take (i + 1))) := ⟨_, rfl⟩
  simp only [← hS, ← hS'] at s1 k3 k4 k5 k7 k8 ⊢
  have eS' := hS'.symm
  obtain ⟨PA, nm_⟩ : ∃ nm0_, nm0_ = gridP A := ⟨_, rfl⟩
  simp only [← nm_] at pA s1
  clear nm_
  obtain ⟨a0, a1⟩ := A
  simp only at ht1 pA
  clear hS hS' eA hat htk hPr hPn hPl hP0
  repeat' (first
    | with_reducible first | apply thenW_n | apply W_seq | apply W_block | apply W_skip
    | with_reducible refine W_rg ?_
    | (rw [vcn]; (try simp [-map_take,-map_drop, push_cast, y1, y2, ht1, hLl, c1]))
    | (with_reducible refine W_condW ?_; (try simp [-map_take,-map_drop, AS.val, upd, resB, mkS_env, mkS_box, lk, entry_env, condW_true, condW_false, y1, y2, ht1, hLl, c1]))
    | fail)
  refine CallG_of (pA) rfl rfl rfl ?_
  try dsimp only
  repeat' (first
    | with_reducible first | apply thenW_n | apply blockW_n
    | with_reducible refine W_rg ?_
    | (rw [vcn]; (try simp [-map_take,-map_drop, push_cast, ptAV, ptC, ratC, zC, k5]); try simp (disch := omega) only [i64_in, u64_in, shr64i])
    | refine And.intro (by first | omega | kernel_rfl) ?_
    | fail)
  refine loopW_n (i + 1) (fun i => if i = 500 then 16 else i) (by omega) (by omega) ⟨?_, ?_, ?_, ?_, ?_, ?_⟩
  all_goals first | (simp [-map_take,-map_drop, push_cast, dV_take, dV_drop, hLr, hLn, k3, k4, k7, k8, s1, eS', ptC, ratC, zC]; done) | (simp [-map_take,-map_drop, push_cast, dV_take, dV_drop, hLr, hLn, k3, k4, k7, k8, s1, eS', ptC, ratC, zC]; omega)
def hiB (c : Int) (up : Bool) : Bool := decide (0 < c) || (decide (c = 0) && !up)
def cmpY (a p : FP) : Int := cmpZ (a.y.q.num * p.y.q.den) (p.y.q.num * a.y.q.den)
def wayF (a b p : FP) (up : Bool) : Int :=
  if hiB (cmpY a p) up = false ∧ hiB (cmpY b p) up = true then 1 else if hiB (cmpY a p) up = true ∧ hiB (cmpY b p) up = false then -1 else 0
def passesF (a b p : FP) (up left : Bool) : Int :=
  if 0 < wayF a b p up * sideOf a b p ∨ (wayF a b p up * sideOf a b p = 0 ∧ left = true) then wayF a b p up else 0
theorem high_ok (c : Int) (up : Bool) : Eval Try.prog 102 [i64V c, .ip [boolV up]] (.ret (boolV (hiB c up))) := by
  refine Eval.intro Try.func102 rfl Try.call102 _ _ (Nat.le_of_ble_eq_true rfl) (by simp [-map_take,-map_drop, AV.refs, refsL, natAV, zAV, zC, ratAV, ratC, ptAV, ptC, sgAV, sgC, push_cast]) fun hs0 => ?_
  rcases (by omega : 0 < c ∨ c = 0 ∨ c < 0) with h | h | h
  · have y1 : (0 < c) = True := eq_true h
    have y2 : hiB c up = true := by unfold hiB; simp [-map_take,-map_drop, h]
    rw [y2]
    repeat' (first
      | with_reducible first | apply thenW_n | apply W_seq | apply W_ret
      | with_reducible refine W_rg ?_
      | (rw [vcn]; (try simp [-map_take,-map_drop, push_cast, y1]))
      | fail)
    simp [-map_take,-map_drop, post, resAV, resAll, resOne, closeV, closeC, closeL, resD, resDL, push_cast]
  · subst h
    cases up
    · repeat' (first
        | with_reducible first | apply thenW_n | apply W_seq | apply W_ret
        | with_reducible refine W_rg ?_
        | (rw [vcn]; (try simp [-map_take,-map_drop, push_cast, hiB]))
        | fail)
      simp [-map_take,-map_drop, post, resAV, resAll, resOne, closeV, closeC, closeL, resD, resDL, push_cast, hiB]
    · repeat' (first
        | with_reducible first | apply thenW_n | apply W_seq | apply W_ret
        | with_reducible refine W_rg ?_
        | (rw [vcn]; (try simp [-map_take,-map_drop, push_cast, hiB]))
        | fail)
      simp [-map_take,-map_drop, post, resAV, resAll, resOne, closeV, closeC, closeL, resD, resDL, push_cast, hiB]
  · have y1 : (0 < c) = False := eq_false (by omega)
    have y3 : (c = 0) = False := eq_false (by omega)
    have y2 : hiB c up = false := by unfold hiB; simp [-map_take,-map_drop, y1, y3]
    rw [y2]
    repeat' (first
      | with_reducible first | apply thenW_n | apply W_seq | apply W_ret
      | with_reducible refine W_rg ?_
      | (rw [vcn]; (try simp [-map_take,-map_drop, push_cast, y1, y3]))
      | fail)
    simp [-map_take,-map_drop, post, resAV, resAll, resOne, closeV, closeC, closeL, resD, resDL, push_cast]
theorem cmpZ_cases (a b : Int) : cmpZ a b = -1 ∨ cmpZ a b = 0 ∨ cmpZ a b = 1 := by
  unfold cmpZ
  split
  · exact .inl rfl
  · split
    · exact .inr (.inr rfl)
    · exact .inr (.inl rfl)
theorem passes_ok (a b p : FP) (up left : Bool) (h : szV a + szV b + szV p ≤ 10000) : Eval Try.prog 63 [sgAV ⟨a, b⟩, ptAV p, boolV up, boolV left] (.ret (i64V (passesF a b p up left))) := by
  have e1 := cmpR_ok a.y p.y (by unfold szV at h; omega)
  have e2 := cmpR_ok b.y p.y (by unfold szV at h; omega)
  have e3 := side_ok a b p h
  have hs : sideOf a b p = -1 ∨ sideOf a b p = 0 ∨ sideOf a b p = 1 := cmpZ_cases _ _
  have h1 := high_ok (cmpY a p) up
  have h2 := high_ok (cmpY b p) up
  obtain ⟨r, hr⟩ : ∃ r, r = passesF a b p up left := ⟨_, rfl⟩
  rw [← hr]
  unfold passesF wayF at hr
  unfold cmpY at h1 h2 hr
  obtain ⟨ca, nm_⟩ : ∃ nm0_, nm0_ = cmpZ (a.y.q.num * p.y.q.den) (p.y.q.num * a.y.q.den) := ⟨_, rfl⟩
  simp only [← nm_] at e1 h1 hr
  clear nm_
  obtain ⟨cb, nm_⟩ : ∃ nm0_, nm0_ = cmpZ (b.y.q.num * p.y.q.den) (p.y.q.num * b.y.q.den) := ⟨_, rfl⟩
  simp only [← nm_] at e2 h2 hr
  clear nm_
  obtain ⟨sd, nm_⟩ : ∃ nm0_, nm0_ = sideOf a b p := ⟨_, rfl⟩
  simp only [← nm_] at e3 hs hr
  clear nm_
  obtain ⟨u, nm_⟩ : ∃ nm0_, nm0_ = hiB ca up := ⟨_, rfl⟩
  simp only [← nm_] at h1 hr
  clear nm_
  obtain ⟨v, nm_⟩ : ∃ nm0_, nm0_ = hiB cb up := ⟨_, rfl⟩
  simp only [← nm_] at h2 hr
  clear nm_
  clear h
  obtain ⟨ax, ay⟩ := a
  obtain ⟨bx, by'⟩ := b
  obtain ⟨px, py⟩ := p
  simp only at e1 e2
  refine Eval.intro Try.func63 rfl Try.call63 _ _ (Nat.le_of_ble_eq_true rfl) (by simp [-map_take,-map_drop, AV.refs, refsL, natAV, zAV, zC, ratAV, ratC, ptAV, ptC, sgAV, sgC, push_cast]) fun hs0 => ?_
  repeat' (first
    | with_reducible first | apply thenW_n | apply W_seq
    | with_reducible refine W_rg ?_
    | (rw [vcn]; (try simp [-map_take,-map_drop, push_cast, sgAV, sgC, ptAV, ptC, ratC, zC]))
    | with_reducible refine W_drawn mixed (by decide) (by kernel_rfl) ?_
    | (rw [vcnD]; (try simp [-map_take,-map_drop, push_cast, sgAV, sgC, ptAV, ptC, ratC, zC]))
    | fail)
  refine callD_of (e1) rfl rfl rfl ?_
  try dsimp only
  repeat' (first
    | (rw [vcnD]; (try simp [-map_take,-map_drop, push_cast, sgAV, sgC, ptAV, ptC, ratC, zC]))
    | fail)
  refine callD_of (e2) rfl rfl rfl ?_
  try dsimp only
  repeat' (first
    | (rw [vcnD]; (try simp [-map_take,-map_drop, push_cast, sgAV, sgC, ptAV, ptC, ratC, zC]))
    | refine And.intro (by first | omega | kernel_rfl) ?_
    | fail)
  refine thenW_n ?_
  refine W_frz 6 (e := 4) (l := [boolV up]) (by simp [-map_take,-map_drop, mkS_box, lk, upd, boolV]) rfl ?_
  clear e1 e2
  repeat' (first
    | with_reducible first | apply thenW_n | apply W_seq | apply W_block
    | with_reducible refine W_rg ?_
    | (rw [vcn]; (try simp [-map_take,-map_drop, push_cast, boolV]))
    | fail)
  refine CallG_of (h1) rfl rfl rfl ?_
  try dsimp only
  cases u
  · repeat' (first
      | (rw [vcn]; (try simp [-map_take,-map_drop, push_cast, boolV]))
      | fail)
    refine CallG_of (h2) rfl rfl rfl ?_
    try dsimp only
    cases v
    · have hr0 : r = 0 := by rw [hr]; simp [-map_take,-map_drop]
      rw [hr0]
      repeat' (first
        | with_reducible first | apply thenW_n | apply W_seq
        | with_reducible refine W_rg ?_
        | (rw [vcn]; (try simp [-map_take,-map_drop, push_cast, boolV]))
        | (with_reducible refine W_condW ?_; (try simp [-map_take,-map_drop, AS.val, upd, resB, mkS_env, mkS_box, lk, entry_env, condW_true, condW_false, boolV]))
        | fail)
      refine CallG_of (h1) rfl rfl rfl ?_
      try dsimp only
      repeat' (first
        | with_reducible first | apply thenW_n | apply thenW_ret | apply blockW_ret | apply W_seq | apply W_ret
        | with_reducible refine W_rg ?_
        | (rw [vcn]; (try simp [-map_take,-map_drop, push_cast, boolV]))
        | (with_reducible refine W_condW ?_; (try simp [-map_take,-map_drop, AS.val, upd, resB, mkS_env, mkS_box, lk, entry_env, condW_true, condW_false, boolV]))
        | fail)
      simp [-map_take,-map_drop, post, resAV, resAll, resOne, closeV, closeC, closeL, resD, resDL, push_cast, boolV]
    · repeat' (first
        | with_reducible first | apply thenW_n | apply blockW_n | apply W_seq
        | with_reducible refine W_rg ?_
        | (rw [vcn]; (try simp [-map_take,-map_drop, push_cast, boolV, sgAV, sgC, ptAV, ptC, ratC, zC]))
        | (with_reducible refine W_condW ?_; (try simp [-map_take,-map_drop, AS.val, upd, resB, mkS_env, mkS_box, lk, entry_env, condW_true, condW_false, boolV, sgAV, sgC, ptAV, ptC, ratC, zC]))
        | fail)
      refine CallG_of (e3) rfl rfl rfl ?_
      try dsimp only
      rcases hs with rfl | rfl | rfl
      · have hr0 : r = 0 := by rw [hr]; simp [-map_take,-map_drop]
        rw [hr0]
        repeat' (first
          | with_reducible first | apply thenW_n | apply W_seq | apply W_skip | apply W_ret
          | with_reducible refine W_rg ?_
          | (rw [vcn]; (try simp [-map_take,-map_drop, push_cast, boolV]); try simp (disch := omega) only [i64_in, u64_in, shr64i])
          | (with_reducible refine W_condW ?_; (try simp [-map_take,-map_drop, AS.val, upd, resB, mkS_env, mkS_box, lk, entry_env, condW_true, condW_false, boolV]))
          | fail)
        simp [-map_take,-map_drop, post, resAV, resAll, resOne, closeV, closeC, closeL, resD, resDL, push_cast, boolV]
      · cases left
        · have hr0 : r = 0 := by rw [hr]; simp [-map_take,-map_drop]
          rw [hr0]
          repeat' (first
            | with_reducible first | apply thenW_n | apply W_seq | apply W_skip | apply W_ret
            | with_reducible refine W_rg ?_
            | (rw [vcn]; (try simp [-map_take,-map_drop, push_cast, boolV]); try simp (disch := omega) only [i64_in, u64_in, shr64i])
            | (with_reducible refine W_condW ?_; (try simp [-map_take,-map_drop, AS.val, upd, resB, mkS_env, mkS_box, lk, entry_env, condW_true, condW_false, boolV]))
            | fail)
          simp [-map_take,-map_drop, post, resAV, resAll, resOne, closeV, closeC, closeL, resD, resDL, push_cast, boolV]
        · have hr0 : r = 1 := by rw [hr]; simp [-map_take,-map_drop]
          rw [hr0]
          repeat' (first
            | with_reducible first | apply thenW_n | apply thenW_ret | apply W_seq | apply W_ret
            | with_reducible refine W_rg ?_
            | (rw [vcn]; (try simp [-map_take,-map_drop, push_cast, boolV]); try simp (disch := omega) only [i64_in, u64_in, shr64i])
            | (with_reducible refine W_condW ?_; (try simp [-map_take,-map_drop, AS.val, upd, resB, mkS_env, mkS_box, lk, entry_env, condW_true, condW_false, boolV]))
            | fail)
          simp [-map_take,-map_drop, post, resAV, resAll, resOne, closeV, closeC, closeL, resD, resDL, push_cast, boolV]
      · have hr0 : r = 1 := by rw [hr]; simp [-map_take,-map_drop]
        rw [hr0]
        repeat' (first
          | with_reducible first | apply thenW_n | apply thenW_ret | apply W_seq | apply W_ret
          | with_reducible refine W_rg ?_
          | (rw [vcn]; (try simp [-map_take,-map_drop, push_cast, boolV]); try simp (disch := omega) only [i64_in, u64_in, shr64i])
          | (with_reducible refine W_condW ?_; (try simp [-map_take,-map_drop, AS.val, upd, resB, mkS_env, mkS_box, lk, entry_env, condW_true, condW_false, boolV]))
          | fail)
        simp [-map_take,-map_drop, post, resAV, resAll, resOne, closeV, closeC, closeL, resD, resDL, push_cast, boolV]
  · repeat' (first
      | with_reducible first | apply thenW_n | apply W_seq
      | with_reducible refine W_rg ?_
      | (rw [vcn]; (try simp [-map_take,-map_drop, push_cast, boolV]))
      | (with_reducible refine W_condW ?_; (try simp [-map_take,-map_drop, AS.val, upd, resB, mkS_env, mkS_box, lk, entry_env, condW_true, condW_false, boolV]))
      | fail)
    refine CallG_of (h1) rfl rfl rfl ?_
    try dsimp only
    repeat' (first
      | (rw [vcn]; (try simp [-map_take,-map_drop, push_cast, boolV]))
      | fail)
    refine CallG_of (h2) rfl rfl rfl ?_
    try dsimp only
    cases v
    · repeat' (first
        | with_reducible first | apply thenW_n | apply blockW_n | apply W_seq
        | with_reducible refine W_rg ?_
        | (rw [vcn]; (try simp [-map_take,-map_drop, push_cast, boolV, sgAV, sgC, ptAV, ptC, ratC, zC]))
        | (with_reducible refine W_condW ?_; (try simp [-map_take,-map_drop, AS.val, upd, resB, mkS_env, mkS_box, lk, entry_env, condW_true, condW_false, boolV, sgAV, sgC, ptAV, ptC, ratC, zC]))
        | fail)
      refine CallG_of (e3) rfl rfl rfl ?_
      try dsimp only
      rcases hs with rfl | rfl | rfl
      · have hr0 : r = -1 := by rw [hr]; simp [-map_take,-map_drop]
        rw [hr0]
        repeat' (first
          | with_reducible first | apply thenW_n | apply thenW_ret | apply W_seq | apply W_ret
          | with_reducible refine W_rg ?_
          | (rw [vcn]; (try simp [-map_take,-map_drop, push_cast, boolV]); try simp (disch := omega) only [i64_in, u64_in, shr64i])
          | (with_reducible refine W_condW ?_; (try simp [-map_take,-map_drop, AS.val, upd, resB, mkS_env, mkS_box, lk, entry_env, condW_true, condW_false, boolV]))
          | fail)
        simp [-map_take,-map_drop, post, resAV, resAll, resOne, closeV, closeC, closeL, resD, resDL, push_cast, boolV]
      · cases left
        · have hr0 : r = 0 := by rw [hr]; simp [-map_take,-map_drop]
          rw [hr0]
          repeat' (first
            | with_reducible first | apply thenW_n | apply W_seq | apply W_skip | apply W_ret
            | with_reducible refine W_rg ?_
            | (rw [vcn]; (try simp [-map_take,-map_drop, push_cast, boolV]); try simp (disch := omega) only [i64_in, u64_in, shr64i])
            | (with_reducible refine W_condW ?_; (try simp [-map_take,-map_drop, AS.val, upd, resB, mkS_env, mkS_box, lk, entry_env, condW_true, condW_false, boolV]))
            | fail)
          simp [-map_take,-map_drop, post, resAV, resAll, resOne, closeV, closeC, closeL, resD, resDL, push_cast, boolV]
        · have hr0 : r = -1 := by rw [hr]; simp [-map_take,-map_drop]
          rw [hr0]
          repeat' (first
            | with_reducible first | apply thenW_n | apply thenW_ret | apply W_seq | apply W_ret
            | with_reducible refine W_rg ?_
            | (rw [vcn]; (try simp [-map_take,-map_drop, push_cast, boolV]); try simp (disch := omega) only [i64_in, u64_in, shr64i])
            | (with_reducible refine W_condW ?_; (try simp [-map_take,-map_drop, AS.val, upd, resB, mkS_env, mkS_box, lk, entry_env, condW_true, condW_false, boolV]))
            | fail)
          simp [-map_take,-map_drop, post, resAV, resAll, resOne, closeV, closeC, closeL, resD, resDL, push_cast, boolV]
      · have hr0 : r = 0 := by rw [hr]; simp [-map_take,-map_drop]
        rw [hr0]
        repeat' (first
          | with_reducible first | apply thenW_n | apply W_seq | apply W_skip | apply W_ret
          | with_reducible refine W_rg ?_
          | (rw [vcn]; (try simp [-map_take,-map_drop, push_cast, boolV]); try simp (disch := omega) only [i64_in, u64_in, shr64i])
          | (with_reducible refine W_condW ?_; (try simp [-map_take,-map_drop, AS.val, upd, resB, mkS_env, mkS_box, lk, entry_env, condW_true, condW_false, boolV]))
          | fail)
        simp [-map_take,-map_drop, post, resAV, resAll, resOne, closeV, closeC, closeL, resD, resDL, push_cast, boolV]
    · have hr0 : r = 0 := by rw [hr]; simp [-map_take,-map_drop]
      rw [hr0]
      repeat' (first
        | with_reducible first | apply thenW_n | apply thenW_ret | apply blockW_ret | apply W_seq | apply W_ret
        | with_reducible refine W_rg ?_
        | (rw [vcn]; (try simp [-map_take,-map_drop, push_cast, boolV]))
        | (with_reducible refine W_condW ?_; (try simp [-map_take,-map_drop, AS.val, upd, resB, mkS_env, mkS_box, lk, entry_env, condW_true, condW_false, boolV]))
        | fail)
      simp [-map_take,-map_drop, post, resAV, resAll, resOne, closeV, closeC, closeL, resD, resDL, push_cast, boolV]
end Go.Fw
-- VALS: zAV, zC, ratAV, ratC, ptAV, ptC, sgAV, sgC
namespace Go.Fw
open Go Go.RowKit Go.Proofs Go.IntWalk
set_option linter.unusedSimpArgs false
set_option maxRecDepth 100000
set_option maxHeartbeats 4000000
def HG (p : FP) : Prop := szV p ≤ 20
theorem HG.at {l : List FP} (h : ∀ p ∈ l, HG p) (i : Nat) : HG (l.getD i nilF) := by
  rw [List.getD_eq_getElem?_getD]
  by_cases hi : i < l.length
  · rw [List.getElem?_eq_getElem hi]; exact h _ (List.getElem_mem hi)
  · rw [List.getElem?_eq_none (by omega)]
    show szV nilF ≤ 20
    decide +kernel
theorem HG.grid {l : List (Int × Int)} (hI : ∀ q ∈ l, inP q) : ∀ p ∈ rowG l, HG p := by
  intro p hp
  obtain ⟨q, hq, rfl⟩ := List.mem_map.1 hp
  have h := hI q hq
  unfold inP inI at h
  have a := (HB.int (n := 64) (k := q.1) (by omega)).sz
  have b := (HB.int (n := 64) (k := q.2) (by omega)).sz
  show szQ (q.1 : Rat) + szQ (q.2 : Rat) ≤ 20
  omega
def hitF (l : List FP) (p : FP) (i : Nat) : Bool := onF ⟨l.getD i nilF, l.getD ((i + 1) % l.length) nilF⟩ p
def passSum (l : List FP) (p : FP) (up left : Bool) (is : List Nat) : Int := sideS nilF (fun a b => passesF a b p up left) l is
def windS (l : List FP) (p : FP) (is : List Nat) : Int := passSum l p true false is
def aroundF (l : List FP) (p : FP) : Int × Bool := if (List.range l.length).any (hitF l p) = true then (0, true) else (windS l p (List.range l.length), false)
theorem passesF_cases (a b p : FP) (up left : Bool) : passesF a b p up left = -1 ∨ passesF a b p up left = 0 ∨ passesF a b p up left = 1 := by
  have h : wayF a b p up = -1 ∨ wayF a b p up = 0 ∨ wayF a b p up = 1 := by
    unfold wayF
    split
    · exact .inr (.inr rfl)
    · split
      · exact .inl rfl
      · exact .inr (.inl rfl)
  unfold passesF
  split
  · exact h
  · exact .inr (.inl rfl)
theorem passSum_bound (l : List FP) (p : FP) (up left : Bool) (is : List Nat) : -(is.length : Int) ≤ passSum l p up left is ∧ passSum l p up left is ≤ is.length := by
  have := sideS_bound nilF (fun a b => passesF a b p up left) 1 l is (fun x y => by
    have := passesF_cases x y p up left
    show -((1 : Nat) : Int) ≤ passesF x y p up left ∧ passesF x y p up left ≤ ((1 : Nat) : Int)
    omega)
  unfold passSum
  omega
theorem windS_bound (l : List FP) (p : FP) (is : List Nat) : -(is.length : Int) ≤ windS l p is ∧ windS l p is ≤ is.length := passSum_bound l p true false is
theorem passSum_snoc (l : List FP) (p : FP) (up left : Bool) (is : List Nat) (i : Nat) : passSum l p up left (is ++ [i]) = passSum l p up left is + passesF (l.getD i nilF) (l.getD ((i + 1) % l.length) nilF) p up left := by unfold passSum; rw [sideS_snoc]
def arB (l : List FP) (p : FP) (is : List Nat) : List (Nat × Box) := [(4, .mut 3 [i64V 0]), (5, .mut 4 [boolV false]), (6, .mut 3 [i64V (windS l p is)])]
def arR (l : List FP) (p : FP) (is : List Nat) : List (Nat × Box) := [(4, .mut 3 [i64V 0]), (5, .mut 4 [boolV true]), (6, .mut 3 [i64V (windS l p is.dropLast)])]
theorem arB_flat (l : List FP) (p : FP) (is : List Nat) : flatB (arB l p is) := by
  intro q hq
  simp only [arB, List.mem_cons, List.not_mem_nil, or_false] at hq
  rcases hq with rfl | rfl | rfl
  · exact ⟨_, _, rfl, rfl⟩
  · exact ⟨_, _, rfl, rfl⟩
  · exact ⟨_, _, rfl, rfl⟩
theorem arR_flat (l : List FP) (p : FP) (is : List Nat) : flatB (arR l p is) := by
  intro q hq
  simp only [arR, List.mem_cons, List.not_mem_nil, or_false] at hq
  rcases hq with rfl | rfl | rfl
  · exact ⟨_, _, rfl, rfl⟩
  · exact ⟨_, _, rfl, rfl⟩
  · exact ⟨_, _, rfl, rfl⟩
open List (map_take map_drop)
attribute [local push_cast] optK_some optK_none optK_ite optK_map optK_bind gOn stepK isMem evPure evMem evBin evUn evConv evLen evBuiltin evMinMax evSlice evBuild evAppend evIndex evIndexAddr evField evFieldAddr intBin strBin appDest AS.val AS.mem AS.elems AS.put AS.put' AS.eff AV.cells? AV.isCell AV.refs all_isByte take_byteV drop_byteV strOf_map bndOk bnd partAV ptrAdd killBox catA inOrder fillA setAt ofVal resB upd byteV List.head?_take List.head?_drop List.getElem?_map mkS_env mkS_box mkS_used entry_env entry_box entry_used lk stepD lookIds Oper.looksAt Op.operands Call.operands St.ids refsL renL_append ren renL renBox Box.refs iV i64V boolV dV_getElem dV_app dV_cons toNat_add2 toNat_add1
attribute [local simp ↓] numC_refs numC_isCell numC_cells numC_resB numC_resD numC_ren numC_closeC numC_isOwn
theorem around_ok (f : Bool) (l : List (Int × Int)) (p : FP) (hI : ∀ q ∈ l, inP q) (hn : l.length ≤ 100) (hp : szV p ≤ 1000) : Eval Try.prog 22 [.slc f 2 l.length (ptsI l), ptAV p] (.ret (.tup [i64V (aroundF (rowG l) p).1, boolV (aroundF (rowG l) p).2])) := by
  have hgrid := windGrid_ok f l hI (by omega)
  have hG : ∀ q ∈ rowG l, HG q := HG.grid hI
  have hGl := rowG_len l
  obtain ⟨n, hnl⟩ : ∃ n, n = l.length := ⟨_, rfl⟩
  obtain ⟨I, hIe⟩ : ∃ x, x = ptsI l := ⟨_, rfl⟩
  have hIr : refsL I = [] := by rw [hIe]; exact ptsI_refs _
  obtain ⟨G, hGe⟩ : ∃ x, x = rowG l := ⟨_, rfl⟩
  rw [← hnl, ← hIe, ← hGe] at hgrid
  rw [← hGe] at hG hGl ⊢
  rw [← hIe, ← hnl]
  rw [← hnl] at hn hGl
  clear hI hnl hIe hGe
  obtain ⟨L, hL⟩ : ∃ x, x = ptsC G := ⟨_, rfl⟩
  have hLr : refsL L = [] := by rw [hL]; exact ptsC_refs _
  have hLl : L.length = n * 8 := by rw [hL, ptsC_len, hGl]
  have hcut : ∀ i, i < n → cut8 L i = ptC (G.getD i nilF) := fun i hi => by rw [hL]; exact cut8_pt (by omega)
  rw [← hL] at hgrid
  clear hL
  obtain ⟨C, hC⟩ : ∃ C, C = ptC p := ⟨_, rfl⟩
  have hCl : C.length = 8 := by rw [hC]; rfl
  have hC_refs : refsL C = [] := by rw [hC]; rfl
  have hCp : ptAV p = .agg C := by rw [hC]; rfl
  rw [hCp]
  refine Eval.introX Try.func22 rfl Try.call22 _ _ (Nat.le_of_ble_eq_true rfl) (by simp [-map_take,-map_drop, AV.refs, refsL, hIr, hC_refs]) fun hs0 M w hM => ?_
  refine WX.seqW (env := [(0, .slc f 2 n I), (3, .ip C), (4, .bp 4 0), (5, .bp 5 0)]) (box := [(4, .mut 3 [i64V 0]), (5, .mut 4 [boolV false])]) rfl ?_ ?_
  · show W Try.prog ⟨Try.f22.ntmps, [], none⟩ _ _ _
    refine W_frzEnd 3 ?_
    repeat' (first
      | with_reducible refine W_rg ?_
      | (rw [vcn]; (try simp [-map_take,-map_drop, push_cast, hIr, hC_refs, hCl]))
      | fail)
    refine frzEnd_i 33 C (by simp [-map_take,-map_drop, upd, mkS_box, lk]) hC_refs ?_
    refine ⟨rfl, id, ⟨?_, ?_, ?_, ?_, ?_, ?_⟩⟩
    all_goals first | (simp [-map_take,-map_drop, push_cast, dV_take, dV_drop, hIr, hC_refs, hCl]; done)
  refine WX.seqW (env := [(0, .slc f 2 n I), (3, .ip C), (4, .bp 4 0), (5, .bp 5 0), (6, .bp 6 0)]) (box := [(4, .mut 3 [i64V 0]), (5, .mut 4 [boolV false]), (6, .mut 3 [i64V 0])]) rfl ?_ ?_
  · show W Try.prog ⟨Try.f22.ntmps, [], none⟩ _ _ _
    repeat' (first
      | with_reducible refine W_rg ?_
      | (rw [vcn]; (try simp [-map_take,-map_drop, push_cast, hIr, hC_refs, hCl]))
      | fail)
    refine ⟨id, ⟨?_, ?_, ?_, ?_, ?_, ?_⟩⟩
    all_goals first | (simp [-map_take,-map_drop, push_cast, dV_take, dV_drop, hIr, hC_refs, hCl]; done)
  have hcutr : ∀ i, i < n → ∀ j, j < n → refsL (cut8 L i ++ cut8 L j) = [] := fun i hi j hj => by rw [hcut i hi, hcut j hj]; rfl
  refine WX.loop (N := n) (ids := [4, 5, 6]) (cap := .ip [.slc false 8 n L]) (it := fun i => [.agg (cut8 L i ++ cut8 L ((i + 1) % n))]) (env := [(3, .ip C), (4, .bp 4 0), (5, .bp 5 0), (6, .bp 6 0), (10, .fn 99 [.ip [.slc false 8 n L]])]) (env0 := [(3, .ip C), (4, .bp 1000004 0), (5, .bp 1000005 0), (6, .bp 1000006 0)])
    (Q := fun e s' => e = .ret ∧ post Try.prog Try.f22 (.ret (.tup [i64V (aroundF G p).1, boolV (aroundF G p).2])) .ret s')
    (arB G p) (arR G p) (fun is => ∀ i ∈ is, hitF G p i = false) (fun is => ∃ i ∈ is, hitF G p i = true) (fun _ h => by cases h) (fun _ => rfl) (arB_flat G p) (fun _ => rfl) (arR_flat G p)
    (fun i => [(3, .ip C), (4, .bp 1000004 0), (5, .bp 1000005 0), (6, .bp 1000006 0), (7, .ip (cut8 L i ++ cut8 L ((i + 1) % n)))]) rfl Try.call99 (sides_seq false n L hLl (by omega)) rfl ?_ rfl ?_ ?_ ?_ ?_ ?_ ?_ (fun e s' h => h) ?_
  · show W Try.prog ⟨Try.f22.ntmps, [], none⟩ _ _ _
    have hw0 : windS G p [] = 0 := rfl
    repeat' (first
      | with_reducible refine W_rg ?_
      | (rw [vcn]; (try simp [-map_take,-map_drop, push_cast, hIr]))
      | fail)
    refine CallG_of (hgrid) rfl rfl rfl ?_
    try dsimp only
    repeat' (first
      | (rw [vcn]; (try simp [-map_take,-map_drop, push_cast, hLr]))
      | fail)
    refine CallG_of (sides_ok false n L hLl hLr (by omega)) rfl rfl rfl ?_
    try dsimp only
    repeat' (first
      | (rw [vcn]; (try simp [-map_take,-map_drop, push_cast, hLr, hC_refs]))
      | fail)
    refine ⟨id, ⟨?_, ?_, ?_, ?_, ?_, ?_⟩⟩
    all_goals first | (simp [-map_take,-map_drop, push_cast, dV_take, dV_drop, hLr, hC_refs, arB, hw0]; done)
  · intro i hi
    refine ⟨rfl, fun v hv => ?_⟩
    have hj : (i + 1) % n < n := Nat.mod_lt _ (by omega)
    simp only [List.mem_cons, List.not_mem_nil, or_false] at hv
    subst hv
    exact hcutr i hi _ hj
  · intro q hq
    have h : q = 11 := by simpa [-map_take,-map_drop] using hq
    show q < Try.f22.ntmps
    rw [h]; decide
  · intro q hq
    simp only [List.mem_cons, List.not_mem_nil, or_false] at hq
    rcases hq with rfl | rfl | rfl | rfl
    · refine ⟨by simp [-map_take,-map_drop, lk, ren, renL_id _ _ hC_refs], fun i hi => ?_⟩
      simp [-map_take,-map_drop, AV.refs] at hi
    · refine ⟨rfl, fun i hi => ?_⟩
      have h : i = 1000004 := by simpa [-map_take,-map_drop, AV.refs] using hi
      subst h
      exact ⟨by omega, by simp [-map_take,-map_drop]⟩
    · refine ⟨rfl, fun i hi => ?_⟩
      have h : i = 1000005 := by simpa [-map_take,-map_drop, AV.refs] using hi
      subst h
      exact ⟨by omega, by simp [-map_take,-map_drop]⟩
    · refine ⟨rfl, fun i hi => ?_⟩
      have h : i = 1000006 := by simpa [-map_take,-map_drop, AV.refs] using hi
      subst h
      exact ⟨by omega, by simp [-map_take,-map_drop]⟩
  · intro r is i hi
    have hj : (i + 1) % n < n := Nat.mod_lt _ (by omega)
    show W Try.prog ⟨Try.f22.ntmps, [], some r⟩ _ (mkS [(11, .agg (cut8 L i ++ cut8 L ((i + 1) % n))), (3, .ip C), (4, .bp 1000004 0), (5, .bp 1000005 0), (6, .bp 1000006 0)] [(1000004, .mut 3 [i64V 0]), (1000005, .mut 4 [boolV false]), (1000006, .mut 3 [i64V (windS G p is)])]) (fun e s' => e = .normal ∧ ∃ ρ, Wk s' [(3, .ip C), (4, .bp 1000004 0), (5, .bp 1000005 0), (6, .bp 1000006 0), (7, .ip (cut8 L i ++ cut8 L ((i + 1) % n)))] [(1000004, .mut 3 [i64V 0]), (1000005, .mut 4 [boolV false]), (1000006, .mut 3 [i64V (windS G p is)])] ρ)
    have q_refs := hcutr i hi _ hj
    have q1 : (cut8 L i ++ cut8 L ((i + 1) % n)).length = 16 := by rw [hcut i hi, hcut _ hj]; rfl
    obtain ⟨A, hA⟩ : ∃ A, A = cut8 L i ++ cut8 L ((i + 1) % n) := ⟨_, rfl⟩
    rw [← hA] at q1 q_refs ⊢
    obtain ⟨wn, nm_⟩ : ∃ nm0_, nm0_ = windS G p is := ⟨_, rfl⟩
    simp only [← nm_] at ⊢
    clear nm_
    clear hA hcut hcutr
    refine W_frzEnd 7 ?_
    repeat' (first
      | with_reducible refine W_rg ?_
      | (rw [vcn]; (try simp [-map_take,-map_drop, push_cast, q1, q_refs, hC_refs]))
      | fail)
    refine frzEnd_i 73 A (by simp [-map_take,-map_drop, upd, mkS_box, lk]) q_refs ?_
    refine ⟨rfl, id, ⟨?_, ?_, ?_, ?_, ?_, ?_⟩⟩
    all_goals first | (simp [-map_take,-map_drop, push_cast, dV_take, dV_drop, q1, q_refs, hC_refs]; done)
  · intro r is i hi hlen hall hno
    have hj : (i + 1) % n < n := Nat.mod_lt _ (by omega)
    show W Try.prog ⟨Try.f22.ntmps, [], some r⟩ _ (mkS [(3, .ip C), (4, .bp 1000004 0), (5, .bp 1000005 0), (6, .bp 1000006 0), (7, .ip (cut8 L i ++ cut8 L ((i + 1) % n)))] [(1000004, .mut 3 [i64V 0]), (1000005, .mut 4 [boolV false]), (1000006, .mut 3 [i64V (windS G p is)])]) _
    have z1 := HG.at hG i
    have z2 := HG.at hG ((i + 1) % n)
    have hdrop : (is ++ [i]).dropLast = is := List.dropLast_concat
    have hb1 := windS_bound G p is
    have hsn : windS G p (is ++ [i]) = windS G p is + passesF (G.getD i nilF) (G.getD ((i + 1) % n) nilF) p true false := by unfold windS; rw [passSum_snoc, hGl]
    have hhit : hitF G p i = onF ⟨G.getD i nilF, G.getD ((i + 1) % n) nilF⟩ p := by unfold hitF; rw [hGl]
    rw [hcut i hi, hcut _ hj]
    obtain ⟨a, nm_⟩ : ∃ nm0_, nm0_ = G.getD i nilF := ⟨_, rfl⟩
    simp only [← nm_] at z1 hsn hhit ⊢
    clear nm_
    obtain ⟨b, nm_⟩ : ∃ nm0_, nm0_ = G.getD ((i + 1) % n) nilF := ⟨_, rfl⟩
    simp only [← nm_] at z2 hsn hhit ⊢
    clear nm_
    have e1 := on_ok ⟨a, b⟩ p (by show szV a + szV b + szV p ≤ 10000; unfold HG at z1 z2; omega)
    have e2 := passes_ok a b p true false (by unfold HG at z1 z2; omega)
    have hpc := passesF_cases a b p true false
    rw [hCp] at e1 e2
    obtain ⟨A, hA⟩ : ∃ A, A = ptC a ++ ptC b := ⟨_, rfl⟩
    have q1 : A.length = 16 := by rw [hA]; rfl
    have q_refs : refsL A = [] := by rw [hA]; rfl
    have q3 : A.take 16 = A := List.take_of_length_le (by omega)
    have q4 : C.take 8 = C := List.take_of_length_le (by omega)
    have hsg : sgAV ⟨a, b⟩ = .agg A := by rw [hA]; rfl
    rw [hsg] at e1 e2
    rw [← hA]
    rw [← hhit] at e1
    obtain ⟨wn, hwn⟩ : ∃ x, x = windS G p is := ⟨_, rfl⟩
    simp only [← hwn] at hsn hb1 ⊢
    have hwn' := hwn.symm
    obtain ⟨pf, nm_⟩ : ∃ nm0_, nm0_ = passesF a b p true false := ⟨_, rfl⟩
    simp only [← nm_] at e2 hpc hsn
    clear nm_
    clear hA hsg hhit z1 z2 hcut hcutr hwn
    refine W_block ?_
    cases hit : hitF G p i
    · rw [hit] at e1
      have hno' : ∀ j ∈ is ++ [i], hitF G p j = false := fun j hj => by
        rcases List.mem_append.1 hj with h | h
        · exact hno j h
        · rw [List.mem_singleton.1 h]; exact hit
      have hin : -9223372036854775808 ≤ wn + pf ∧ wn + pf ≤ 9223372036854775807 := by omega
      repeat' (first
        | with_reducible apply W_seq
        | with_reducible refine W_rg ?_
        | (rw [vcn]; (try simp [-map_take,-map_drop, push_cast, q1, q_refs, q3, q4, hCl, hC_refs]))
        | fail)
      refine CallG_of (e1) rfl (by simp [-map_take,-map_drop, natAV, zAV, zC, ratAV, ratC, ptAV, ptC, sgAV, sgC, AV.refs, refsL, push_cast, q_refs, hC_refs]) rfl ?_
      try dsimp only
      repeat' (first
        | with_reducible first | apply thenW_n | apply W_skip
        | (rw [vcn]; (try simp [-map_take,-map_drop, push_cast, q1, q_refs, q3, q4, hCl, hC_refs, boolV]))
        | (with_reducible refine W_condW ?_; (try simp [-map_take,-map_drop, AS.val, upd, resB, mkS_env, mkS_box, lk, entry_env, condW_true, condW_false, q1, q_refs, q3, q4, hCl, hC_refs, boolV]))
        | fail)
      refine W_drawn mixed (by with_unfolding_all rfl) (by kernel_rfl) ?_
      repeat' (first
        | (rw [vcnD]; (try simp [-map_take,-map_drop, push_cast, q1, q_refs, q3, q4, hCl, hC_refs, boolV]))
        | fail)
      refine callD_of (e2) rfl (by simp [-map_take,-map_drop, natAV, zAV, zC, ratAV, ratC, ptAV, ptC, sgAV, sgC, AV.refs, refsL, push_cast, q_refs, hC_refs]) rfl ?_
      try dsimp only
      repeat' (first
        | with_reducible apply blockW_n
        | (rw [vcnD]; (try simp [-map_take,-map_drop, push_cast, q1, q_refs, q3, q4, hCl, hC_refs]); try simp (disch := omega) only [i64_in, u64_in, shr64i])
        | refine And.intro (by first | omega | kernel_rfl) ?_
        | fail)
      refine ⟨id, ⟨?_, ?_, ?_, ?_, ?_, ?_⟩⟩
      all_goals first | (simp [-map_take,-map_drop, push_cast, dV_take, dV_drop, arB, pinB, hsn]; done)
    · rw [hit] at e1
      have hyes : ∃ j ∈ is ++ [i], hitF G p j = true := ⟨i, by simp [-map_take,-map_drop], hit⟩
      repeat' (first
        | with_reducible apply W_seq
        | with_reducible refine W_rg ?_
        | (rw [vcn]; (try simp [-map_take,-map_drop, push_cast, q1, q_refs, q3, q4, hCl, hC_refs]))
        | fail)
      refine CallG_of (e1) rfl (by simp [-map_take,-map_drop, natAV, zAV, zC, ratAV, ratC, ptAV, ptC, sgAV, sgC, AV.refs, refsL, push_cast, q_refs, hC_refs]) rfl ?_
      try dsimp only
      repeat' (first
        | with_reducible first | apply thenW_n | apply thenW_ret | apply blockW_ret | apply W_seq | apply W_ret
        | with_reducible refine W_rg ?_
        | (rw [vcn]; (try simp [-map_take,-map_drop, push_cast, q1, q_refs, q3, q4, hCl, hC_refs, boolV]))
        | (with_reducible refine W_condW ?_; (try simp [-map_take,-map_drop, AS.val, upd, resB, mkS_env, mkS_box, lk, entry_env, condW_true, condW_false, q1, q_refs, q3, q4, hCl, hC_refs, boolV]))
        | refine And.intro (by first | omega | kernel_rfl) ?_
        | fail)
      refine ⟨id, ⟨?_, ?_, ?_, ?_, ?_, ?_⟩⟩
      all_goals first | (simp [-map_take,-map_drop, push_cast, dV_take, dV_drop, arR, pinB, hdrop, boolV, hwn']; done)
  · intro hno D
    have hfin : aroundF G p = (windS G p (List.range n), false) := by
      unfold aroundF
      rw [hGl, if_neg]
      intro h
      obtain ⟨i, h1, h2⟩ := List.any_eq_true.1 h
      rw [hno i h1] at h2
      cases h2
    rw [hfin]
    show W Try.prog ⟨Try.f22.ntmps, [mark D], none⟩ _ (mkS [(3, .ip C), (4, .bp 4 0), (5, .bp 5 0), (6, .bp 6 0), (10, .fn 99 [.ip [.slc false 8 n L]])] [(4, .mut 3 [i64V 0]), (5, .mut 4 [boolV false]), (6, .mut 3 [i64V (windS G p (List.range n))])]) _
    obtain ⟨wn, nm_⟩ : ∃ nm0_, nm0_ = windS G p (List.range n) := ⟨_, rfl⟩
    simp only [← nm_] at ⊢
    clear nm_
    repeat' (first
      | with_reducible first | apply thenW_n | apply W_seq | apply W_ret
      | with_reducible refine W_rg ?_
      | (rw [vcn]; (try simp [-map_take,-map_drop, push_cast, hLr, hC_refs]))
      | refine And.intro (by first | omega | kernel_rfl) ?_
      | fail)
    simp [-map_take,-map_drop, post, resAV, resAll, resOne, closeV, closeC, closeL, resD, resDL, push_cast, hLr, hC_refs, boolV]
  · intro k hk hyes
    have hfin : aroundF G p = (0, true) := by
      unfold aroundF
      rw [hGl, if_pos]
      obtain ⟨i, h1, h2⟩ := hyes
      exact List.any_eq_true.2 ⟨i, List.mem_range.2 (by have := List.mem_range.1 h1; omega), h2⟩
    rw [hfin]
    show post Try.prog Try.f22 _ .ret (mkS [(3, .ip C), (4, .bp 4 0), (5, .bp 5 0), (6, .bp 6 0), (10, .fn 99 [.ip [.slc false 8 n L]])] [(4, .mut 3 [i64V 0]), (5, .mut 4 [boolV true]), (6, .mut 3 [i64V (windS G p (List.range k).dropLast)])])
    simp [-map_take,-map_drop, post, resAV, resAll, resOne, closeV, closeC, closeL, resD, resDL, push_cast, hLr, hC_refs, boolV]
end Go.Fw
-- VALS: zAV, zC, ratAV, ratC, ptAV, ptC, sgAV, sgC
namespace Go.Fw
open Go Go.RowKit Go.Proofs Go.IntWalk
set_option linter.unusedSimpArgs false
set_option maxRecDepth 100000
set_option maxHeartbeats 4000000
def halfF : FQ := .of (Rat.divInt 1 2)
def midF (s : FSg) : FP := ⟨.of ((s.A.x.q + s.B.x.q) * halfF.q), .of ((s.A.y.q + s.B.y.q) * halfF.q)⟩
def cmpX (a p : FP) : Int := cmpZ (a.x.q.num * p.x.q.den) (p.x.q.num * a.x.q.den)
def upL (s : FSg) : Bool := if cmpY s.A s.B = 0 then decide (cmpX s.A s.B < 0) else true
def upR (s : FSg) : Bool := if cmpY s.A s.B = 0 then !decide (cmpX s.A s.B < 0) else true
def lfL (s : FSg) : Bool := if cmpY s.A s.B = 0 then false else decide (cmpY s.A s.B < 0)
def lfR (s : FSg) : Bool := if cmpY s.A s.B = 0 then false else decide (0 < cmpY s.A s.B)
def besideF (l : List FP) (s : FSg) : Int × Int :=
  if cmpP s.A s.B = 0 then (0, 0) else (passSum l (midF s) (upL s) (lfL s) (List.range l.length), passSum l (midF s) (upR s) (lfR s) (List.range l.length))
def beB (l : List FP) (s : FSg) (is : List Nat) : List (Nat × Box) := [(10, .mut 3 [i64V (passSum l (midF s) (upL s) (lfL s) is)]), (11, .mut 3 [i64V (passSum l (midF s) (upR s) (lfR s) is)])]
theorem beB_flat (l : List FP) (s : FSg) (is : List Nat) : flatB (beB l s is) := by
  intro q hq
  simp only [beB, List.mem_cons, List.not_mem_nil, or_false] at hq
  rcases hq with rfl | rfl
  · exact ⟨_, _, rfl, rfl⟩
  · exact ⟨_, _, rfl, rfl⟩
open List (map_take map_drop)
attribute [local push_cast] optK_some optK_none optK_ite optK_map optK_bind gOn stepK isMem evPure evMem evBin evUn evConv evLen evBuiltin evMinMax evSlice evBuild evAppend evIndex evIndexAddr evField evFieldAddr intBin strBin appDest AS.val AS.mem AS.elems AS.put AS.put' AS.eff AV.cells? AV.isCell AV.refs all_isByte take_byteV drop_byteV strOf_map bndOk bnd partAV ptrAdd killBox catA inOrder fillA setAt ofVal resB upd byteV List.head?_take List.head?_drop List.getElem?_map mkS_env mkS_box mkS_used entry_env entry_box entry_used lk stepD lookIds Oper.looksAt Op.operands Call.operands St.ids refsL renL_append ren renL renBox Box.refs iV i64V boolV dV_getElem dV_app dV_cons toNat_add2 toNat_add1
attribute [local simp ↓] numC_refs numC_isCell numC_cells numC_resB numC_resD numC_ren numC_closeC numC_isOwn
theorem beside_ok (f : Bool) (G : List FP) (s : FSg) (hG : ∀ q ∈ G, HG q) (hn : G.length ≤ 100) (hs : szV s.A + szV s.B ≤ 100) : Eval Try.prog 25 [.slc f 8 G.length (ptsC G), sgAV s] (.ret (.tup [i64V (besideF G s).1, i64V (besideF G s).2])) := by
  obtain ⟨n, hGl⟩ : ∃ n, n = G.length := ⟨_, rfl⟩
  obtain ⟨L, hL⟩ : ∃ x, x = ptsC G := ⟨_, rfl⟩
  have hLr : refsL L = [] := by rw [hL]; exact ptsC_refs _
  have hLl : L.length = n * 8 := by rw [hL, ptsC_len, hGl]
  have hcut : ∀ i, i < n → cut8 L i = ptC (G.getD i nilF) := fun i hi => by rw [hL]; exact cut8_pt (by omega)
  rw [← hL, ← hGl]
  rw [← hGl] at hn
  have hGl' := hGl.symm
  clear hL hGl
  obtain ⟨S, hS⟩ : ∃ C, C = sgC s := ⟨_, rfl⟩
  have hSl : S.length = 16 := by rw [hS]; rfl
  have hS_refs : refsL S = [] := by rw [hS]; rfl
  have hSs : sgAV s = .agg S := by rw [hS]; rfl
  have hc := cmpP_ok s.A s.B (by omega)
  have hcr : besideF G s = besideF G s := rfl
  refine Eval.introX Try.func25 rfl Try.call25 _ _ (Nat.le_of_ble_eq_true rfl) (by rw [hSs]; simp [-map_take,-map_drop, AV.refs, refsL, hLr, hS_refs]) fun hs0 M w hM => ?_
  refine WX.seqW (env := [(0, .slc f 8 n L), (3, .ip S), (4, i64V 0), (5, i64V 0)]) (box := []) rfl ?_ ?_
  · show W Try.prog ⟨Try.f25.ntmps, [], none⟩ _ _ _
    rw [hSs]
    refine W_frzEnd 3 ?_
    repeat' (first
      | with_reducible refine W_rg ?_
      | (rw [vcn]; (try simp [-map_take,-map_drop, push_cast, hLr, hS_refs, hSl]))
      | fail)
    refine frzEnd_i 73 S (by simp [-map_take,-map_drop, upd, mkS_box, lk]) hS_refs ?_
    refine ⟨rfl, id, ⟨?_, ?_, ?_, ?_, ?_, ?_⟩⟩
    all_goals first | (simp [-map_take,-map_drop, push_cast, dV_take, dV_drop, hLr, hS_refs, hSl]; done)
  by_cases h0 : cmpP s.A s.B = 0
  · have hr : besideF G s = (0, 0) := by unfold besideF; rw [if_pos h0]
    rw [h0] at hc
    rw [hr]
    refine WX.seq (Q := fun e s' => e = .ret ∧ post Try.prog Try.f25 (.ret (.tup [i64V 0, i64V 0])) .ret s') rfl ?_ (fun s' hq => by cases hq.1) (fun s' hq => hq.2) (fun e s' hq => .inr hq.1)
    show W Try.prog ⟨Try.f25.ntmps, [], none⟩ _ _ _
    rw [hS]
    obtain ⟨⟨ax, ay⟩, ⟨bx, by'⟩⟩ := s
    simp only at hc
    repeat' (first
      | with_reducible apply W_seq
      | with_reducible refine W_rg ?_
      | (rw [vcn]; (try simp [-map_take,-map_drop, push_cast, sgC, ptC, ratC, zC, hLr]))
      | fail)
    refine CallG_of (hc) rfl rfl rfl ?_
    try dsimp only
    repeat' (first
      | with_reducible first | apply thenW_n | apply W_seq | apply W_ret
      | with_reducible refine W_rg ?_
      | (rw [vcn]; (try simp [-map_take,-map_drop, push_cast, hLr]))
      | (with_reducible refine W_condW ?_; (try simp [-map_take,-map_drop, AS.val, upd, resB, mkS_env, mkS_box, lk, entry_env, condW_true, condW_false, hLr]))
      | refine And.intro (by first | omega | kernel_rfl) ?_
      | fail)
    simp [-map_take,-map_drop, post, resAV, resAll, resOne, closeV, closeC, closeL, resD, resDL, push_cast, hLr]
  have hr : besideF G s = (passSum G (midF s) (upL s) (lfL s) (List.range n), passSum G (midF s) (upR s) (lfR s) (List.range n)) := by unfold besideF; rw [if_neg h0, hGl']
  rw [hr]
  clear hr hcr
  refine WX.seqW (env := [(0, .slc f 8 n L), (3, .ip S)]) (box := []) rfl ?_ ?_
  · show W Try.prog ⟨Try.f25.ntmps, [], none⟩ _ _ _
    have y0 : (cmpP s.A s.B == 0) = false := beq_eq_false_iff_ne.2 h0
    rw [hS]
    obtain ⟨⟨ax, ay⟩, ⟨bx, by'⟩⟩ := s
    simp only at hc y0
    clear hs
    obtain ⟨c, nm_⟩ : ∃ nm0_, nm0_ = cmpP ⟨ax, ay⟩ ⟨bx, by'⟩ := ⟨_, rfl⟩
    simp only [← nm_] at hc y0
    clear nm_
    repeat' (first
      | with_reducible apply W_seq
      | with_reducible refine W_rg ?_
      | (rw [vcn]; (try simp [-map_take,-map_drop, push_cast, sgC, ptC, ratC, zC, hLr]))
      | fail)
    refine CallG_of (hc) rfl rfl rfl ?_
    try dsimp only
    repeat' (first
      | with_reducible first | apply thenW_n | apply W_skip
      | (rw [vcn]; (try simp [-map_take,-map_drop, push_cast, y0, hLr]))
      | (with_reducible refine W_condW ?_; (try simp [-map_take,-map_drop, AS.val, upd, resB, mkS_env, mkS_box, lk, entry_env, condW_true, condW_false, y0, hLr]))
      | refine And.intro (by first | omega | kernel_rfl) ?_
      | fail)
    refine ⟨id, ⟨?_, ?_, ?_, ?_, ?_, ?_⟩⟩
    all_goals first | (simp [-map_take,-map_drop, push_cast, dV_take, dV_drop, hLr, sgC, ptC, ratC, zC]; done)
  refine WX.seqW (env := [(0, .slc f 8 n L), (3, .ip S), (6, .bp 6 0)]) (box := [(6, .mut 31 (ratC halfF))]) rfl ?_ ?_
  · show W Try.prog ⟨Try.f25.ntmps, [], none⟩ _ _ _
    have e1 : Eval Try.prog 33 [i64V 1, i64V 2] (.ret (.tup [ratAV halfF, i64V 0])) := ofF_ok 1 2 (by decide) (by decide) (by decide)
    obtain ⟨H, nm_⟩ : ∃ nm0_, nm0_ = halfF := ⟨_, rfl⟩
    simp only [← nm_] at e1 ⊢
    clear nm_
    repeat' (first
      | with_reducible refine W_rg ?_
      | (rw [vcn]; (try simp [-map_take,-map_drop, push_cast, hLr, hS_refs]))
      | fail)
    refine CallG_of (e1) rfl rfl rfl ?_
    try dsimp only
    repeat' (first
      | (rw [vcn]; (try simp [-map_take,-map_drop, push_cast, ratAV, ratC, zC, hLr, hS_refs]))
      | fail)
    refine ⟨id, ⟨?_, ?_, ?_, ?_, ?_, ?_⟩⟩
    all_goals first | (simp [-map_take,-map_drop, push_cast, dV_take, dV_drop, hLr, hS_refs, ratC, zC]; done)
  have zh : szQ halfF.q ≤ 4 := by decide +kernel
  refine WX.seqW (env := [(0, .slc f 8 n L), (3, .ip S), (8, .ip (ptC (midF s)))]) (box := []) rfl ?_ ?_
  · show W Try.prog ⟨Try.f25.ntmps, [], none⟩ _ _ _
    have a1 := szQ_add s.A.x.q s.B.x.q
    have a2 := szQ_add s.A.y.q s.B.y.q
    unfold szV at hs
    have e1 := addR_ok s.A.x s.B.x (by omega)
    have e2 := mulR_ok (.of (s.A.x.q + s.B.x.q)) halfF (by show szQ (_ + _) + _ ≤ _; omega)
    have e3 := addR_ok s.A.y s.B.y (by omega)
    have e4 := mulR_ok (.of (s.A.y.q + s.B.y.q)) halfF (by show szQ (_ + _) + _ ≤ _; omega)
    have e2' : Eval Try.prog 41 [ratAV (.of (s.A.x.q + s.B.x.q)), ratAV halfF] (.ret (ratAV (midF s).x)) := e2
    have e4' : Eval Try.prog 41 [ratAV (.of (s.A.y.q + s.B.y.q)), ratAV halfF] (.ret (ratAV (midF s).y)) := e4
    clear e2 e4 a1 a2 hs zh h0 hc
    rw [hS]
    obtain ⟨m, hm⟩ : ∃ m, m = midF s := ⟨_, rfl⟩
    rw [← hm] at e2' e4' ⊢
    clear hm hS hSs
    obtain ⟨H, nm_⟩ : ∃ nm0_, nm0_ = halfF := ⟨_, rfl⟩
    simp only [← nm_] at e2' e4' ⊢
    clear nm_
    obtain ⟨⟨ax, ay⟩, ⟨bx, by'⟩⟩ := s
    obtain ⟨mx, my⟩ := m
    simp only at e1 e2' e3 e4'
    obtain ⟨u, nm_⟩ : ∃ nm0_, nm0_ = FQ.of (ax.q + bx.q) := ⟨_, rfl⟩
    simp only [← nm_] at e1 e2'
    clear nm_
    obtain ⟨v, nm_⟩ : ∃ nm0_, nm0_ = FQ.of (ay.q + by'.q) := ⟨_, rfl⟩
    simp only [← nm_] at e3 e4'
    clear nm_
    refine W_frzEnd 8 ?_
    repeat' (first
      | with_reducible refine W_drawn mixed (by decide) (by kernel_rfl) ?_
      | (rw [vcnD]; (try simp [-map_take,-map_drop, push_cast, sgC, ptC, ratC, zC, hLr]))
      | fail)
    refine callD_of (e1) rfl rfl rfl ?_
    try dsimp only
    repeat' (first
      | (rw [vcnD]; (try simp [-map_take,-map_drop, push_cast, ratAV, ratC, zC, hLr]))
      | fail)
    refine callD_of (e2') rfl rfl rfl ?_
    try dsimp only
    repeat' (first
      | (rw [vcnD]; (try simp [-map_take,-map_drop, push_cast, sgC, ptC, ratAV, ratC, zC, hLr]))
      | fail)
    refine callD_of (e3) rfl rfl rfl ?_
    try dsimp only
    repeat' (first
      | (rw [vcnD]; (try simp [-map_take,-map_drop, push_cast, ratAV, ratC, zC, hLr]))
      | fail)
    refine callD_of (e4') rfl rfl rfl ?_
    try dsimp only
    repeat' (first
      | (rw [vcnD]; (try simp [-map_take,-map_drop, push_cast, ratAV, ratC, zC, hLr]))
      | refine And.intro (by first | omega | kernel_rfl) ?_
      | fail)
    refine frzEnd_i 33 (ptC ⟨mx, my⟩) (by simp [-map_take,-map_drop, upd, mkS_box, lk, ptC, ratC, zC]) rfl ?_
    refine ⟨rfl, id, ⟨?_, ?_, ?_, ?_, ?_, ?_⟩⟩
    all_goals first | (simp [-map_take,-map_drop, push_cast, dV_take, dV_drop, hLr, sgC, ptC, ratC, zC]; done)
  have zm : szV (midF s) ≤ 1000 := by
    have a1 := szQ_add s.A.x.q s.B.x.q
    have a2 := szQ_add s.A.y.q s.B.y.q
    have a3 := szQ_mul (s.A.x.q + s.B.x.q) halfF.q
    have a4 := szQ_mul (s.A.y.q + s.B.y.q) halfF.q
    show szQ ((s.A.x.q + s.B.x.q) * halfF.q) + szQ ((s.A.y.q + s.B.y.q) * halfF.q) ≤ 1000
    unfold szV at hs
    omega
  obtain ⟨C, hC⟩ : ∃ C, C = ptC (midF s) := ⟨_, rfl⟩
  have hCl : C.length = 8 := by rw [hC]; rfl
  have hC_refs : refsL C = [] := by rw [hC]; rfl
  have hCp : ptAV (midF s) = .agg C := by rw [hC]; rfl
  rw [← hC]
  refine WX.seqW (env := [(0, .slc f 8 n L), (3, .ip S), (8, .ip C), (9, .ip [i64V (cmpY s.A s.B)])]) (box := []) rfl ?_ ?_
  · show W Try.prog ⟨Try.f25.ntmps, [], none⟩ _ _ _
    have e1 : Eval Try.prog 18 [ratAV s.A.y, ratAV s.B.y] (.ret (i64V (cmpY s.A s.B))) := cmpR_ok s.A.y s.B.y (by unfold szV at hs; omega)
    obtain ⟨y, nm_⟩ : ∃ nm0_, nm0_ = cmpY s.A s.B := ⟨_, rfl⟩
    simp only [← nm_] at e1 ⊢
    clear nm_
    rw [hS]
    clear hS hSs zm hCp hC hc h0 hs zh
    obtain ⟨⟨ax, ay⟩, ⟨bx, by'⟩⟩ := s
    simp only at e1
    refine W_frzEnd 9 ?_
    repeat' (first
      | with_reducible refine W_rg ?_
      | (rw [vcn]; (try simp [-map_take,-map_drop, push_cast, sgC, ptC, ratC, zC, hLr, hC_refs]))
      | fail)
    refine CallG_of (e1) rfl rfl rfl ?_
    try dsimp only
    repeat' (first
      | (rw [vcn]; (try simp [-map_take,-map_drop, push_cast, hLr, hC_refs]))
      | fail)
    refine frzEnd_i 3 [i64V y] (by simp [-map_take,-map_drop, upd, mkS_box, lk, i64V]) rfl ?_
    refine ⟨rfl, id, ⟨?_, ?_, ?_, ?_, ?_, ?_⟩⟩
    all_goals first | (simp [-map_take,-map_drop, push_cast, dV_take, dV_drop, hLr, hC_refs, sgC, ptC, ratC, zC]; done)
  refine WX.seqW (env := [(0, .slc f 8 n L), (3, .ip S), (8, .ip C), (9, .ip [i64V (cmpY s.A s.B)]), (10, .bp 10 0), (11, .bp 11 0)]) (box := [(10, .mut 3 [i64V 0]), (11, .mut 3 [i64V 0])]) rfl ?_ ?_
  · show W Try.prog ⟨Try.f25.ntmps, [], none⟩ _ _ _
    obtain ⟨y, nm_⟩ : ∃ nm0_, nm0_ = cmpY s.A s.B := ⟨_, rfl⟩
    simp only [← nm_] at ⊢
    clear nm_
    repeat' (first
      | with_reducible refine W_rg ?_
      | (rw [vcn]; (try simp [-map_take,-map_drop, push_cast, hLr, hS_refs, hC_refs]))
      | fail)
    refine ⟨id, ⟨?_, ?_, ?_, ?_, ?_, ?_⟩⟩
    all_goals first | (simp [-map_take,-map_drop, push_cast, dV_take, dV_drop, hLr, hS_refs, hC_refs]; done)
  have hcutr : ∀ i, i < n → ∀ j, j < n → refsL (cut8 L i ++ cut8 L j) = [] := fun i hi j hj => by rw [hcut i hi, hcut j hj]; rfl
  have hx : Eval Try.prog 18 [ratAV s.A.x, ratAV s.B.x] (.ret (i64V (cmpX s.A s.B))) := cmpR_ok s.A.x s.B.x (by unfold szV at hs; omega)
  refine WX.loop (N := n) (ids := [10, 11]) (cap := .ip [.slc f 8 n L]) (it := fun i => [.agg (cut8 L i ++ cut8 L ((i + 1) % n))]) (env := [(3, .ip S), (8, .ip C), (9, .ip [i64V (cmpY s.A s.B)]), (10, .bp 10 0), (11, .bp 11 0), (51, .fn 99 [.ip [.slc f 8 n L]])]) (env0 := [(3, .ip S), (8, .ip C), (9, .ip [i64V (cmpY s.A s.B)]), (10, .bp 1000010 0), (11, .bp 1000011 0)])
    (Q := fun e s' => e = .ret ∧ post Try.prog Try.f25 (.ret (.tup [i64V (passSum G (midF s) (upL s) (lfL s) (List.range n)), i64V (passSum G (midF s) (upR s) (lfR s) (List.range n))])) .ret s')
    (beB G s) (beB G s) (fun _ => True) (fun _ => False) trivial (fun _ => rfl) (beB_flat G s) (fun _ => rfl) (beB_flat G s)
    (fun i => [(3, .ip S), (8, .ip C), (9, .ip [i64V (cmpY s.A s.B)]), (10, .bp 1000010 0), (11, .bp 1000011 0), (12, .ip (cut8 L i ++ cut8 L ((i + 1) % n)))]) rfl Try.call99 (sides_seq f n L hLl (by omega)) rfl ?_ rfl ?_ ?_ ?_ ?_ ?_ ?_ (fun e s' h => h) (fun k _ h => h.elim)
  · show W Try.prog ⟨Try.f25.ntmps, [], none⟩ _ _ _
    have hw0 : ∀ u v, passSum G (midF s) u v [] = 0 := fun _ _ => rfl
    obtain ⟨y, nm_⟩ : ∃ nm0_, nm0_ = cmpY s.A s.B := ⟨_, rfl⟩
    simp only [← nm_] at ⊢
    clear nm_
    repeat' (first
      | with_reducible refine W_rg ?_
      | (rw [vcn]; (try simp [-map_take,-map_drop, push_cast, hLr]))
      | fail)
    refine CallG_of (sides_ok f n L hLl hLr (by omega)) rfl rfl rfl ?_
    try dsimp only
    repeat' (first
      | (rw [vcn]; (try simp [-map_take,-map_drop, push_cast, hLr, hS_refs, hC_refs]))
      | fail)
    refine ⟨id, ⟨?_, ?_, ?_, ?_, ?_, ?_⟩⟩
    all_goals first | (simp [-map_take,-map_drop, push_cast, dV_take, dV_drop, hLr, hS_refs, hC_refs, beB, hw0]; done)
  · intro i hi
    refine ⟨rfl, fun v hv => ?_⟩
    have hj : (i + 1) % n < n := Nat.mod_lt _ (by omega)
    simp only [List.mem_cons, List.not_mem_nil, or_false] at hv
    subst hv
    exact hcutr i hi _ hj
  · intro q hq
    have h : q = 52 := by simpa [-map_take,-map_drop] using hq
    show q < Try.f25.ntmps
    rw [h]; decide
  · intro q hq
    simp only [List.mem_cons, List.not_mem_nil, or_false] at hq
    rcases hq with rfl | rfl | rfl | rfl | rfl
    · refine ⟨by simp [-map_take,-map_drop, lk, ren, renL_id _ _ hS_refs], fun i hi => ?_⟩
      simp [-map_take,-map_drop, AV.refs] at hi
    · refine ⟨by simp [-map_take,-map_drop, lk, ren, renL_id _ _ hC_refs], fun i hi => ?_⟩
      simp [-map_take,-map_drop, AV.refs] at hi
    · exact ⟨rfl, fun i hi => by cases hi⟩
    · refine ⟨rfl, fun i hi => ?_⟩
      have h : i = 1000010 := by simpa [-map_take,-map_drop, AV.refs] using hi
      subst h
      exact ⟨by omega, by simp [-map_take,-map_drop]⟩
    · refine ⟨rfl, fun i hi => ?_⟩
      have h : i = 1000011 := by simpa [-map_take,-map_drop, AV.refs] using hi
      subst h
      exact ⟨by omega, by simp [-map_take,-map_drop]⟩
  · intro r is i hi
    have hj : (i + 1) % n < n := Nat.mod_lt _ (by omega)
    have q_refs := hcutr i hi _ hj
    have q1 : (cut8 L i ++ cut8 L ((i + 1) % n)).length = 16 := by rw [hcut i hi, hcut _ hj]; rfl
    show W Try.prog ⟨Try.f25.ntmps, [], some r⟩ _ (mkS [(52, .agg (cut8 L i ++ cut8 L ((i + 1) % n))), (3, .ip S), (8, .ip C), (9, .ip [i64V (cmpY s.A s.B)]), (10, .bp 1000010 0), (11, .bp 1000011 0)] [(1000010, .mut 3 [i64V (passSum G (midF s) (upL s) (lfL s) is)]), (1000011, .mut 3 [i64V (passSum G (midF s) (upR s) (lfR s) is)])]) (fun e s' => e = .normal ∧ ∃ ρ, Wk s' [(3, .ip S), (8, .ip C), (9, .ip [i64V (cmpY s.A s.B)]), (10, .bp 1000010 0), (11, .bp 1000011 0), (12, .ip (cut8 L i ++ cut8 L ((i + 1) % n)))] [(1000010, .mut 3 [i64V (passSum G (midF s) (upL s) (lfL s) is)]), (1000011, .mut 3 [i64V (passSum G (midF s) (upR s) (lfR s) is)])] ρ)
    obtain ⟨A, hA⟩ : ∃ A, A = cut8 L i ++ cut8 L ((i + 1) % n) := ⟨_, rfl⟩
    rw [← hA] at q1 q_refs ⊢
    obtain ⟨y, nm_⟩ : ∃ nm0_, nm0_ = cmpY s.A s.B := ⟨_, rfl⟩
    simp only [← nm_] at ⊢
    clear nm_
    obtain ⟨wl, nm_⟩ : ∃ nm0_, nm0_ = passSum G (midF s) (upL s) (lfL s) is := ⟨_, rfl⟩
    simp only [← nm_] at ⊢
    clear nm_
    obtain ⟨wr, nm_⟩ : ∃ nm0_, nm0_ = passSum G (midF s) (upR s) (lfR s) is := ⟨_, rfl⟩
    simp only [← nm_] at ⊢
    clear nm_
    clear hA hcut hcutr
    refine W_frzEnd 12 ?_
    repeat' (first
      | with_reducible refine W_rg ?_
      | (rw [vcn]; (try simp [-map_take,-map_drop, push_cast, q1, q_refs, hS_refs, hC_refs]))
      | fail)
    refine frzEnd_i 73 A (by simp [-map_take,-map_drop, upd, mkS_box, lk]) q_refs ?_
    refine ⟨rfl, id, ⟨?_, ?_, ?_, ?_, ?_, ?_⟩⟩
    all_goals first | (simp [-map_take,-map_drop, push_cast, dV_take, dV_drop, q1, q_refs, hS_refs, hC_refs]; done)
  · intro r is i hi hlen hall _
    have hj : (i + 1) % n < n := Nat.mod_lt _ (by omega)
    show W Try.prog ⟨Try.f25.ntmps, [], some r⟩ _ (mkS [(3, .ip S), (8, .ip C), (9, .ip [i64V (cmpY s.A s.B)]), (10, .bp 1000010 0), (11, .bp 1000011 0), (12, .ip (cut8 L i ++ cut8 L ((i + 1) % n)))] [(1000010, .mut 3 [i64V (passSum G (midF s) (upL s) (lfL s) is)]), (1000011, .mut 3 [i64V (passSum G (midF s) (upR s) (lfR s) is)])]) _
    have z1 := HG.at hG i
    have z2 := HG.at hG ((i + 1) % n)
    have hb1 := passSum_bound G (midF s) (upL s) (lfL s) is
    have hb2 := passSum_bound G (midF s) (upR s) (lfR s) is
    have s1 := passSum_snoc G (midF s) (upL s) (lfL s) is i
    have s2 := passSum_snoc G (midF s) (upR s) (lfR s) is i
    rw [hGl'] at s1 s2
    rw [hcut i hi, hcut _ hj]
    obtain ⟨a, nm_⟩ : ∃ nm0_, nm0_ = G.getD i nilF := ⟨_, rfl⟩
    simp only [← nm_] at z1 s1 s2 ⊢
    clear nm_
    obtain ⟨b, nm_⟩ : ∃ nm0_, nm0_ = G.getD ((i + 1) % n) nilF := ⟨_, rfl⟩
    simp only [← nm_] at z2 s1 s2 ⊢
    clear nm_
    have e1 := passes_ok a b (midF s) (upL s) (lfL s) (by unfold HG at z1 z2; omega)
    have e2 := passes_ok a b (midF s) (upR s) (lfR s) (by unfold HG at z1 z2; omega)
    have pc1 := passesF_cases a b (midF s) (upL s) (lfL s)
    have pc2 := passesF_cases a b (midF s) (upR s) (lfR s)
    rw [hCp] at e1 e2
    obtain ⟨A, hA⟩ : ∃ A, A = ptC a ++ ptC b := ⟨_, rfl⟩
    have q1 : A.length = 16 := by rw [hA]; rfl
    have q_refs : refsL A = [] := by rw [hA]; rfl
    have q3 : A.take 16 = A := List.take_of_length_le (by omega)
    have q4 : C.take 8 = C := List.take_of_length_le (by omega)
    have hsg : sgAV ⟨a, b⟩ = .agg A := by rw [hA]; rfl
    rw [hsg] at e1 e2
    rw [← hA]
    obtain ⟨wl, nm_⟩ : ∃ nm0_, nm0_ = passSum G (midF s) (upL s) (lfL s) is := ⟨_, rfl⟩
    simp only [← nm_] at s1 hb1 ⊢
    clear nm_
    obtain ⟨wr, nm_⟩ : ∃ nm0_, nm0_ = passSum G (midF s) (upR s) (lfR s) is := ⟨_, rfl⟩
    simp only [← nm_] at s2 hb2 ⊢
    clear nm_
    obtain ⟨pl, nm_⟩ : ∃ nm0_, nm0_ = passesF a b (midF s) (upL s) (lfL s) := ⟨_, rfl⟩
    simp only [← nm_] at e1 pc1 s1
    clear nm_
    obtain ⟨pr, nm_⟩ : ∃ nm0_, nm0_ = passesF a b (midF s) (upR s) (lfR s) := ⟨_, rfl⟩
    simp only [← nm_] at e2 pc2 s2
    clear nm_
    clear hA hsg z1 z2 hcut hcutr
    have hbB : beB G s (is ++ [i]) = [(10, .mut 3 [i64V (wl + pl)]), (11, .mut 3 [i64V (wr + pr)])] := by unfold beB; rw [s1, s2]
    have in1 : -9223372036854775808 ≤ wl + pl ∧ wl + pl ≤ 9223372036854775807 := by omega
    have in2 : -9223372036854775808 ≤ wr + pr ∧ wr + pr ≤ 9223372036854775807 := by omega
    refine W_block ?_
    by_cases hy : cmpY s.A s.B = 0
    · have u1 : upL s = decide (cmpX s.A s.B < 0) := by unfold upL; rw [if_pos hy]
      have u2 : upR s = !decide (cmpX s.A s.B < 0) := by unfold upR; rw [if_pos hy]
      have u3 : lfL s = false := by unfold lfL; rw [if_pos hy]
      have u4 : lfR s = false := by unfold lfR; rw [if_pos hy]
      rw [u1, u3] at e1
      rw [u2, u4] at e2
      rw [hy]
      rw [hS]
      clear u1 u2 u3 u4 s1 s2 zm hCp hC hS hSs hy hs h0 hc
      obtain ⟨⟨ax, ay⟩, ⟨bx, by'⟩⟩ := s
      simp only at e1 e2 hx
      obtain ⟨x, nm_⟩ : ∃ nm0_, nm0_ = cmpX ⟨ax, ay⟩ ⟨bx, by'⟩ := ⟨_, rfl⟩
      simp only [← nm_] at e1 e2 hx
      clear nm_
      repeat' (first
        | with_reducible first | apply thenW_n | apply W_seq
        | with_reducible refine W_rg ?_
        | (rw [vcn]; (try simp [-map_take,-map_drop, push_cast, q1, q_refs, q3, q4, hCl, hC_refs, sgC, ptC, ratC, zC]))
        | (with_reducible refine W_condW ?_; (try simp [-map_take,-map_drop, AS.val, upd, resB, mkS_env, mkS_box, lk, entry_env, condW_true, condW_false, q1, q_refs, q3, q4, hCl, hC_refs, sgC, ptC, ratC, zC]))
        | fail)
      refine CallG_of (hx) rfl rfl rfl ?_
      try dsimp only
      by_cases hx0 : x < 0
      · have y1 : (x < 0) = True := eq_true hx0
        have d1 : decide (x < 0) = true := decide_eq_true hx0
        rw [d1] at e1 e2
        repeat' (first
          | with_reducible first | apply thenW_n | apply W_seq
          | (rw [vcn]; (try simp [-map_take,-map_drop, push_cast, y1, boolV]))
          | fail)
        refine W_drawn mixed (by with_unfolding_all rfl) (by kernel_rfl) ?_
        repeat' (first
          | (rw [vcnD]; (try simp [-map_take,-map_drop, push_cast, q1, q_refs, q3, q4, hCl, hC_refs, boolV]))
          | fail)
        refine callD_of (e1) rfl (by simp [-map_take,-map_drop, natAV, zAV, zC, ratAV, ratC, ptAV, ptC, sgAV, sgC, AV.refs, refsL, push_cast, q_refs, hC_refs]) rfl ?_
        try dsimp only
        repeat' (first
          | with_reducible first | apply thenW_n | apply W_seq
          | (rw [vcnD]; (try simp [-map_take,-map_drop, push_cast, q1, q_refs, q3, q4, hCl, hC_refs]); try simp (disch := omega) only [i64_in, u64_in, shr64i])
          | refine And.intro (by first | omega | kernel_rfl) ?_
          | fail)
        refine W_drawn mixed (by with_unfolding_all rfl) (by kernel_rfl) ?_
        repeat' (first
          | (rw [vcnD]; (try simp [-map_take,-map_drop, push_cast, q1, q_refs, q3, q4, hCl, hC_refs, boolV]))
          | fail)
        refine callD_of (e2) rfl (by simp [-map_take,-map_drop, natAV, zAV, zC, ratAV, ratC, ptAV, ptC, sgAV, sgC, AV.refs, refsL, push_cast, q_refs, hC_refs]) rfl ?_
        try dsimp only
        repeat' (first
          | with_reducible first | apply thenW_n | apply thenW_exit | apply blockW_same | apply W_exit
          | (rw [vcnD]; (try simp [-map_take,-map_drop, push_cast, q1, q_refs, q3, q4, hCl, hC_refs]); try simp (disch := omega) only [i64_in, u64_in, shr64i])
          | refine And.intro (by first | omega | kernel_rfl) ?_
          | fail)
        refine ⟨id, ⟨?_, ?_, ?_, ?_, ?_, ?_⟩⟩
        all_goals first | (simp [-map_take,-map_drop, push_cast, dV_take, dV_drop, hbB, pinB]; done)
      · have y1 : (x < 0) = False := eq_false hx0
        have d1 : decide (x < 0) = false := decide_eq_false hx0
        rw [d1] at e1 e2
        repeat' (first
          | with_reducible first | apply thenW_n | apply W_seq
          | (rw [vcn]; (try simp [-map_take,-map_drop, push_cast, y1, boolV]))
          | fail)
        refine W_drawn mixed (by with_unfolding_all rfl) (by kernel_rfl) ?_
        repeat' (first
          | (rw [vcnD]; (try simp [-map_take,-map_drop, push_cast, q1, q_refs, q3, q4, hCl, hC_refs, boolV]))
          | fail)
        refine callD_of (e1) rfl (by simp [-map_take,-map_drop, natAV, zAV, zC, ratAV, ratC, ptAV, ptC, sgAV, sgC, AV.refs, refsL, push_cast, q_refs, hC_refs]) rfl ?_
        try dsimp only
        repeat' (first
          | with_reducible first | apply thenW_n | apply W_seq
          | (rw [vcnD]; (try simp [-map_take,-map_drop, push_cast, q1, q_refs, q3, q4, hCl, hC_refs]); try simp (disch := omega) only [i64_in, u64_in, shr64i])
          | refine And.intro (by first | omega | kernel_rfl) ?_
          | fail)
        refine W_drawn mixed (by with_unfolding_all rfl) (by kernel_rfl) ?_
        repeat' (first
          | (rw [vcnD]; (try simp [-map_take,-map_drop, push_cast, q1, q_refs, q3, q4, hCl, hC_refs, boolV]))
          | fail)
        refine callD_of (e2) rfl (by simp [-map_take,-map_drop, natAV, zAV, zC, ratAV, ratC, ptAV, ptC, sgAV, sgC, AV.refs, refsL, push_cast, q_refs, hC_refs]) rfl ?_
        try dsimp only
        repeat' (first
          | with_reducible first | apply thenW_n | apply thenW_exit | apply blockW_same | apply W_exit
          | (rw [vcnD]; (try simp [-map_take,-map_drop, push_cast, q1, q_refs, q3, q4, hCl, hC_refs]); try simp (disch := omega) only [i64_in, u64_in, shr64i])
          | refine And.intro (by first | omega | kernel_rfl) ?_
          | fail)
        refine ⟨id, ⟨?_, ?_, ?_, ?_, ?_, ?_⟩⟩
        all_goals first | (simp [-map_take,-map_drop, push_cast, dV_take, dV_drop, hbB, pinB]; done)
    · have u1 : upL s = true := by unfold upL; rw [if_neg hy]
      have u2 : upR s = true := by unfold upR; rw [if_neg hy]
      have u3 : lfL s = decide (cmpY s.A s.B < 0) := by unfold lfL; rw [if_neg hy]
      have u4 : lfR s = decide (0 < cmpY s.A s.B) := by unfold lfR; rw [if_neg hy]
      rw [u1, u3] at e1
      rw [u2, u4] at e2
      have y0 : (cmpY s.A s.B == 0) = false := beq_eq_false_iff_ne.2 hy
      clear u1 u2 u3 u4 s1 s2 zm hCp hC hx hy
      obtain ⟨y, nm_⟩ : ∃ nm0_, nm0_ = cmpY s.A s.B := ⟨_, rfl⟩
      simp only [← nm_] at e1 e2 y0 ⊢
      clear nm_
      repeat' (first
        | with_reducible first | apply thenW_n | apply W_seq | apply W_skip
        | with_reducible refine W_rg ?_
        | (rw [vcn]; (try simp [-map_take,-map_drop, push_cast, y0, q1, q_refs, q3, q4, hCl, hC_refs]))
        | (with_reducible refine W_condW ?_; (try simp [-map_take,-map_drop, AS.val, upd, resB, mkS_env, mkS_box, lk, entry_env, condW_true, condW_false, y0, q1, q_refs, q3, q4, hCl, hC_refs]))
        | fail)
      refine W_drawn mixed (by with_unfolding_all rfl) (by kernel_rfl) ?_
      repeat' (first
        | (rw [vcnD]; (try simp [-map_take,-map_drop, push_cast, q1, q_refs, q3, q4, hCl, hC_refs, boolV]))
        | fail)
      refine callD_of (e1) rfl (by simp [-map_take,-map_drop, natAV, zAV, zC, ratAV, ratC, ptAV, ptC, sgAV, sgC, AV.refs, refsL, push_cast, q_refs, hC_refs]) rfl ?_
      try dsimp only
      repeat' (first
        | with_reducible apply thenW_n
        | (rw [vcnD]; (try simp [-map_take,-map_drop, push_cast, q1, q_refs, q3, q4, hCl, hC_refs]); try simp (disch := omega) only [i64_in, u64_in, shr64i])
        | refine And.intro (by first | omega | kernel_rfl) ?_
        | fail)
      refine W_drawn mixed (by with_unfolding_all rfl) (by kernel_rfl) ?_
      repeat' (first
        | (rw [vcnD]; (try simp [-map_take,-map_drop, push_cast, q1, q_refs, q3, q4, hCl, hC_refs, boolV]))
        | fail)
      refine callD_of (e2) rfl (by simp [-map_take,-map_drop, natAV, zAV, zC, ratAV, ratC, ptAV, ptC, sgAV, sgC, AV.refs, refsL, push_cast, q_refs, hC_refs]) rfl ?_
      try dsimp only
      repeat' (first
        | with_reducible apply blockW_n
        | (rw [vcnD]; (try simp [-map_take,-map_drop, push_cast, q1, q_refs, q3, q4, hCl, hC_refs]); try simp (disch := omega) only [i64_in, u64_in, shr64i])
        | refine And.intro (by first | omega | kernel_rfl) ?_
        | fail)
      refine ⟨id, ⟨?_, ?_, ?_, ?_, ?_, ?_⟩⟩
      all_goals first | (simp [-map_take,-map_drop, push_cast, dV_take, dV_drop, hbB, pinB]; done)
  · intro _ D
    show W Try.prog ⟨Try.f25.ntmps, [mark D], none⟩ _ (mkS [(3, .ip S), (8, .ip C), (9, .ip [i64V (cmpY s.A s.B)]), (10, .bp 10 0), (11, .bp 11 0), (51, .fn 99 [.ip [.slc f 8 n L]])] [(10, .mut 3 [i64V (passSum G (midF s) (upL s) (lfL s) (List.range n))]), (11, .mut 3 [i64V (passSum G (midF s) (upR s) (lfR s) (List.range n))])]) _
    obtain ⟨wl, nm_⟩ : ∃ nm0_, nm0_ = passSum G (midF s) (upL s) (lfL s) (List.range n) := ⟨_, rfl⟩
    simp only [← nm_] at ⊢
    clear nm_
    obtain ⟨wr, nm_⟩ : ∃ nm0_, nm0_ = passSum G (midF s) (upR s) (lfR s) (List.range n) := ⟨_, rfl⟩
    simp only [← nm_] at ⊢
    clear nm_
    obtain ⟨y, nm_⟩ : ∃ nm0_, nm0_ = cmpY s.A s.B := ⟨_, rfl⟩
    simp only [← nm_] at ⊢
    clear nm_
    refine W_seq ?_
    refine W_drawn mixed (by with_unfolding_all rfl) (by kernel_rfl) ?_
    repeat' (first
      | with_reducible first | apply thenW_n | apply W_ret
      | (rw [vcnD]; (try simp [-map_take,-map_drop, push_cast, hLr, hC_refs, hS_refs]))
      | refine And.intro (by first | omega | kernel_rfl) ?_
      | fail)
    simp [-map_take,-map_drop, post, resAV, resAll, resOne, closeV, closeC, closeL, resD, resDL, push_cast, hLr, hC_refs, hS_refs]
end Go.Fw
