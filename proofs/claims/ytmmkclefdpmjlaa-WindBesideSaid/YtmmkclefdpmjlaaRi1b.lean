import Derived.Test.YtmmkclefdpmjlaaRh1
import Derived.Test.YtmmkclefdpmjlaaY1
import Derived.Test.YtmmkclefdpmjlaaW4b
set_option linter.unusedSimpArgs false
set_option linter.unusedVariables false
-- VALS: d3AV, d3C, dAV, dC, rAV, rC, DP.av, dpC, ratD, RD.av, DP.av2
namespace Go.Fw
open Go Go.Proofs Go.IntWalk
set_option linter.unusedSimpArgs false
set_option maxRecDepth 100000
set_option maxHeartbeats 20000000
def rdX (p : DP) : RD := ⟨p.x, p.w⟩
def rdY (p : DP) : RD := ⟨p.y, p.w⟩
def stpX (a b : DP) (r : RD) : RD := subD (rdX (mid3 a b)) (mulD r (subD (rdY b) (rdY a)))
def stpY (a b : DP) (r : RD) : RD := addD (rdY (mid3 a b)) (mulD r (subD (rdX b) (rdX a)))
def stpD (a b : DP) (r : RD) : DP := ⟨(stpX a b r).n * (stpY a b r).d, (stpY a b r).n * (stpX a b r).d, (stpX a b r).d * (stpY a b r).d⟩
theorem rdX_sz (p : DP) : szR (rdX p) ≤ szP3 p := by unfold szR rdX szP3; simp only; omega
theorem rdY_sz (p : DP) : szR (rdY p) ≤ szP3 p := by unfold szR rdY szP3; simp only; omega
theorem stpX_sz (a b : DP) (r : RD) : szR (stpX a b r) ≤ 10 * (szP3 a + szP3 b) + 2 * szR r + 30 := by
  have h1 := mid3_sz a b
  have h2 := rdX_sz (mid3 a b)
  have h3 := rdY_sz a
  have h4 := rdY_sz b
  have h5 := subD_sz (rdY b) (rdY a)
  have h6 := mulD_sz r (subD (rdY b) (rdY a))
  have h7 := subD_sz (rdX (mid3 a b)) (mulD r (subD (rdY b) (rdY a)))
  unfold stpX
  omega
theorem stpY_sz (a b : DP) (r : RD) : szR (stpY a b r) ≤ 10 * (szP3 a + szP3 b) + 2 * szR r + 30 := by
  have h1 := mid3_sz a b
  have h2 := rdY_sz (mid3 a b)
  have h3 := rdX_sz a
  have h4 := rdX_sz b
  have h5 := subD_sz (rdX b) (rdX a)
  have h6 := mulD_sz r (subD (rdX b) (rdX a))
  have h7 := addD_sz (rdY (mid3 a b)) (mulD r (subD (rdX b) (rdX a)))
  unfold stpY
  omega
theorem stpD_sz (a b : DP) (r : RD) : szP3 (stpD a b r) ≤ 40 * (szP3 a + szP3 b) + 8 * szR r + 120 := by
  have h1 := stpX_sz a b r
  have h2 := stpY_sz a b r
  have h3 := szD_mul (stpX a b r).n (stpY a b r).d
  have h4 := szD_mul (stpY a b r).n (stpX a b r).d
  have h5 := szD_mul (stpX a b r).d (stpY a b r).d
  have e : szP3 (stpD a b r) = szD ((stpX a b r).n * (stpY a b r).d) + szD ((stpY a b r).n * (stpX a b r).d) + szD ((stpX a b r).d * (stpY a b r).d) := rfl
  rw [e]
  have h1' : szD (stpX a b r).n + szD (stpX a b r).d ≤ 10 * (szP3 a + szP3 b) + 2 * szR r + 30 := h1
  have h2' : szD (stpY a b r).n + szD (stpY a b r).d ≤ 10 * (szP3 a + szP3 b) + 2 * szR r + 30 := h2
  omega
open List (map_take map_drop)
attribute [local push_cast] optK_some optK_none optK_ite optK_map optK_bind gOn stepK isMem evPure evMem evBin evUn evConv evLen evBuiltin evMinMax evSlice evBuild evAppend evIndex evIndexAddr evField evFieldAddr intBin strBin appDest AS.val AS.mem AS.elems AS.put AS.put' AS.eff AV.cells? AV.isCell AV.refs all_isByte take_byteV drop_byteV strOf_map bndOk bnd partAV ptrAdd killBox catA inOrder fillA setAt ofVal resB upd byteV List.head?_take List.head?_drop List.getElem?_map mkS_env mkS_box mkS_used entry_env entry_box entry_used lk stepD lookIds Oper.looksAt Op.operands Call.operands St.ids refsL renL_append ren renL renBox Box.refs iV i64V boolV dV_getElem dV_app dV_cons toNat_add2 toNat_add1
attribute [local simp ↓] numC_refs numC_isCell numC_cells numC_resB numC_resD numC_ren numC_closeC numC_isOwn
theorem step13_ok (a b : DP) (r : RD) (h : szP3 a + szP3 b + szR r ≤ 10000) : Eval Try.prog 104 [DP.av2 a b, r.av] (.ret (stpD a b r).av) := by
  have em := mid13_ok a b (by omega)
  have zm := mid3_sz a b
  have z1 := rdX_sz a
  have z2 := rdX_sz b
  have z3 := rdY_sz a
  have z4 := rdY_sz b
  have z5 := rdX_sz (mid3 a b)
  have z6 := rdY_sz (mid3 a b)
  have z7 := subD_sz (rdX b) (rdX a)
  have z8 := subD_sz (rdY b) (rdY a)
  have z9 := mulD_sz r (subD (rdY b) (rdY a))
  have z10 := mulD_sz r (subD (rdX b) (rdX a))
  have z11 := stpX_sz a b r
  have z12 := stpY_sz a b r
  have e1 := sub03_ok (rdX b) (rdX a) (by omega)
  have e2 := sub03_ok (rdY b) (rdY a) (by omega)
  have e3 := mul03_ok r (subD (rdY b) (rdY a)) (by omega)
  have e4 : Eval Try.prog 120 [(rdX (mid3 a b)).av, (mulD r (subD (rdY b) (rdY a))).av] (.ret (stpX a b r).av) := sub03_ok _ _ (by omega)
  have e5 := mul03_ok r (subD (rdX b) (rdX a)) (by omega)
  have e6 : Eval Try.prog 51 [(rdY (mid3 a b)).av, (mulD r (subD (rdX b) (rdX a))).av] (.ret (stpY a b r).av) := add03_ok _ _ (by omega)
  have z11' : szD (stpX a b r).n + szD (stpX a b r).d ≤ 10 * (szP3 a + szP3 b) + 2 * szR r + 30 := z11
  have z12' : szD (stpY a b r).n + szD (stpY a b r).d ≤ 10 * (szP3 a + szP3 b) + 2 * szR r + 30 := z12
  have e7 := mul02_ok (stpX a b r).n (stpY a b r).d (by show szD _ + szD _ ≤ _; omega)
  have e8 := mul02_ok (stpY a b r).n (stpX a b r).d (by show szD _ + szD _ ≤ _; omega)
  have e9 := mul02_ok (stpX a b r).d (stpY a b r).d (by show szD _ + szD _ ≤ _; omega)
  unfold stpD
  clear zm z1 z2 z3 z4 z5 z6 z7 z8 z9 z10 z11 z12 z11' z12' h
  obtain ⟨X, nm_⟩ : ∃ nm0_, nm0_ = stpX a b r := ⟨_, rfl⟩
  simp only [← nm_] at e4 e7 e8 e9 ⊢
  clear nm_
  obtain ⟨Y, nm_⟩ : ∃ nm0_, nm0_ = stpY a b r := ⟨_, rfl⟩
  simp only [← nm_] at e6 e7 e8 e9 ⊢
  clear nm_
  obtain ⟨m1, nm_⟩ : ∃ nm0_, nm0_ = X.n * Y.d := ⟨_, rfl⟩
  simp only [← nm_] at e7 ⊢
  clear nm_
  obtain ⟨m2, nm_⟩ : ∃ nm0_, nm0_ = Y.n * X.d := ⟨_, rfl⟩
  simp only [← nm_] at e8 ⊢
  clear nm_
  obtain ⟨m3, nm_⟩ : ∃ nm0_, nm0_ = X.d * Y.d := ⟨_, rfl⟩
  simp only [← nm_] at e9 ⊢
  clear nm_
  obtain ⟨v1, nm_⟩ : ∃ nm0_, nm0_ = mulD r (subD (rdY b) (rdY a)) := ⟨_, rfl⟩
  simp only [← nm_] at e3 e4
  clear nm_
  obtain ⟨v2, nm_⟩ : ∃ nm0_, nm0_ = mulD r (subD (rdX b) (rdX a)) := ⟨_, rfl⟩
  simp only [← nm_] at e5 e6
  clear nm_
  obtain ⟨dx, nm_⟩ : ∃ nm0_, nm0_ = subD (rdX b) (rdX a) := ⟨_, rfl⟩
  simp only [← nm_] at e1 e5
  clear nm_
  obtain ⟨dy, nm_⟩ : ∃ nm0_, nm0_ = subD (rdY b) (rdY a) := ⟨_, rfl⟩
  simp only [← nm_] at e2 e3
  clear nm_
  obtain ⟨M, nm_⟩ : ∃ nm0_, nm0_ = mid3 a b := ⟨_, rfl⟩
  simp only [← nm_] at em e4 e6
  clear nm_
  obtain ⟨ax, ay, aw⟩ := a
  obtain ⟨bx, by', bw⟩ := b
  obtain ⟨mx, my, mw⟩ := M
  obtain ⟨rn, rd⟩ := r
  obtain ⟨Xn, Xd⟩ := X
  obtain ⟨Yn, Yd⟩ := Y
  obtain ⟨v1n, v1d⟩ := v1
  obtain ⟨v2n, v2d⟩ := v2
  obtain ⟨dxn, dxd⟩ := dx
  obtain ⟨dyn, dyd⟩ := dy
  simp only [DP.av, DP.av2, RD.av, rdX, rdY] at em e1 e2 e3 e4 e5 e6 e7 e8 e9 ⊢
  refine Eval.intro Try.func104 rfl Try.call104 _ _ (Nat.le_of_ble_eq_true rfl) (by simp [-map_take,-map_drop, AV.refs, refsL, natAV, d3AV, d3C, dAV, dC, rAV, rC, DP.av, dpC, ratD, RD.av, DP.av2, push_cast]) fun hs0 => ?_
  repeat' (first
    | with_reducible first | apply thenW_n | apply W_seq
    | with_reducible refine W_rg ?_
    | (rw [vcn]; (try simp [-map_take,-map_drop, push_cast, ratD, d3AV, d3C, dC, rC, numC, ← tens.eq_1]))
    | fail)
  refine CallG_of (em) rfl rfl rfl ?_
  try dsimp only
  repeat' (first
    | with_reducible first | apply thenW_n | apply W_seq
    | (rw [vcn]; (try simp [-map_take,-map_drop, push_cast, ratD, d3AV, d3C, dC, rC, numC, ← tens.eq_1, dAV]))
    | with_reducible refine W_drawn mixed (by decide) (by kernel_rfl) ?_
    | (rw [vcnD]; (try simp [-map_take,-map_drop, push_cast, ratD, d3AV, d3C, dC, rC, numC, ← tens.eq_1, dAV]))
    | refine And.intro (by first | omega | kernel_rfl) ?_
    | fail)
  refine callD_of (e1) rfl rfl rfl ?_
  try dsimp only
  repeat' (first
    | (rw [vcnD]; (try simp [-map_take,-map_drop, push_cast, ratD, d3AV, d3C, dC, rC, numC, ← tens.eq_1, dAV]))
    | fail)
  refine callD_of (e2) rfl rfl rfl ?_
  try dsimp only
  repeat' (first
    | with_reducible first | apply thenW_n | apply W_seq
    | with_reducible refine W_drawn mixed (by decide) (by kernel_rfl) ?_
    | (rw [vcnD]; (try simp [-map_take,-map_drop, push_cast, ratD, d3AV, d3C, dC, rC, numC, ← tens.eq_1, dAV]))
    | refine And.intro (by first | omega | kernel_rfl) ?_
    | fail)
  refine callD_of (e3) rfl rfl rfl ?_
  try dsimp only
  repeat' (first
    | (rw [vcnD]; (try simp [-map_take,-map_drop, push_cast, ratD, d3AV, d3C, dC, rC, numC, ← tens.eq_1, dAV]))
    | fail)
  refine callD_of (e4) rfl rfl rfl ?_
  try dsimp only
  repeat' (first
    | with_reducible first | apply thenW_n | apply W_seq
    | with_reducible refine W_drawn mixed (by decide) (by kernel_rfl) ?_
    | (rw [vcnD]; (try simp [-map_take,-map_drop, push_cast, ratD, d3AV, d3C, dC, rC, numC, ← tens.eq_1, dAV]))
    | refine And.intro (by first | omega | kernel_rfl) ?_
    | fail)
  refine callD_of (e5) rfl rfl rfl ?_
  try dsimp only
  repeat' (first
    | (rw [vcnD]; (try simp [-map_take,-map_drop, push_cast, ratD, d3AV, d3C, dC, rC, numC, ← tens.eq_1, dAV]))
    | fail)
  refine callD_of (e6) rfl rfl rfl ?_
  try dsimp only
  repeat' (first
    | with_reducible first | apply thenW_n | apply W_seq
    | with_reducible refine W_drawn mixed (by decide) (by kernel_rfl) ?_
    | (rw [vcnD]; (try simp [-map_take,-map_drop, push_cast, ratD, d3AV, d3C, dC, rC, numC, ← tens.eq_1, dAV]))
    | refine And.intro (by first | omega | kernel_rfl) ?_
    | fail)
  refine callD_of (e7) rfl rfl rfl ?_
  try dsimp only
  repeat' (first
    | (rw [vcnD]; (try simp [-map_take,-map_drop, push_cast, ratD, d3AV, d3C, dC, rC, numC, ← tens.eq_1, dAV]))
    | fail)
  refine callD_of (e8) rfl rfl rfl ?_
  try dsimp only
  repeat' (first
    | (rw [vcnD]; (try simp [-map_take,-map_drop, push_cast, ratD, d3AV, d3C, dC, rC, numC, ← tens.eq_1, dAV]))
    | fail)
  refine callD_of (e9) rfl rfl rfl ?_
  try dsimp only
  repeat' (first
    | with_reducible first | apply thenW_n | apply W_ret
    | (rw [vcnD]; (try simp [-map_take,-map_drop, push_cast, ratD, d3AV, d3C, dC, rC, numC, ← tens.eq_1, dAV]))
    | refine And.intro (by first | omega | kernel_rfl) ?_
    | fail)
  simp [-map_take,-map_drop, post, resAV, resAll, resOne, closeV, closeC, closeL, resD, resDL, push_cast, ratD, d3AV, d3C, dAV, dC, rC, numC, ← tens.eq_1]
end Go.Fw
-- VALS: d3AV, d3C, dAV, dC, rAV, rC, DP.av, dpC, ratD, RD.av, DP.av2
namespace Go.Fw
open Go Go.Proofs Go.IntWalk
set_option linter.unusedSimpArgs false
set_option maxRecDepth 100000
set_option maxHeartbeats 20000000
def parts : Nat → RD
  | 0 => ⟨1, 2⟩
  | k + 1 => mulD (parts k) ⟨1, 16⟩
theorem parts_sz : ∀ k, szR (parts k) ≤ 2 + 2 * k
  | 0 => by decide +kernel
  | k + 1 => by
    have h1 := parts_sz k
    have h2 := mulD_sz (parts k) ⟨1, 16⟩
    have h3 : szR ⟨1, 16⟩ ≤ 2 := by decide +kernel
    show szR (mulD (parts k) ⟨1, 16⟩) ≤ _
    omega
def stepP (a b : DP) (k : Nat) : DP := stpD a b (parts k)
def alongB (a b u v : DP) : Bool := decide (side3 a b u = 0) && decide (side3 a b v = 0)
def freeAt (l : List DP) (a b : DP) (k i : Nat) : Bool :=
  alongB a b (l.getD i nilD) (l.getD ((i + 1) % l.length) nilD) || decide ((meetR (mid3 a b) (stepP a b k) (l.getD i nilD) (l.getD ((i + 1) % l.length) nilD)).length = 0)
def freeAll (l : List DP) (a b : DP) (k : Nat) : Bool := (List.range l.length).all (freeAt l a b k)
def leftFrom (l : List DP) (a b : DP) : Nat → Nat → Int
  | 0, _ => 0
  | f + 1, k => if freeAll l a b k = true then (around3 l (stepP a b k)).1 else leftFrom l a b f (k + 1)
def left3 (l : List DP) (a b : DP) : Int := leftFrom l a b 300 0
def rdC' (r : RD) : List AV := dC r.n ++ dC r.d
open List (map_take map_drop)
attribute [local push_cast] optK_some optK_none optK_ite optK_map optK_bind gOn stepK isMem evPure evMem evBin evUn evConv evLen evBuiltin evMinMax evSlice evBuild evAppend evIndex evIndexAddr evField evFieldAddr intBin strBin appDest AS.val AS.mem AS.elems AS.put AS.put' AS.eff AV.cells? AV.isCell AV.refs all_isByte take_byteV drop_byteV strOf_map bndOk bnd partAV ptrAdd killBox catA inOrder fillA setAt ofVal resB upd byteV List.head?_take List.head?_drop List.getElem?_map mkS_env mkS_box mkS_used entry_env entry_box entry_used lk stepD lookIds Oper.looksAt Op.operands Call.operands St.ids refsL renL_append ren renL renBox Box.refs iV i64V boolV dV_getElem dV_app dV_cons toNat_add2 toNat_add1
attribute [local simp ↓] numC_refs numC_isCell numC_cells numC_resB numC_resD numC_ren numC_closeC numC_isOwn
theorem frac03_ok' (a b : Int) (ha : inI a) (hb : inI b) : Eval Try.prog 54 [i64V a, i64V b] (.ret (RD.mk a b).av) := by
  have e1 := of02_ok a ha
  have e2 := of02_ok b hb
  refine Eval.intro Try.func54 rfl Try.call54 _ _ (Nat.le_of_ble_eq_true rfl) (by simp [-map_take,-map_drop, AV.refs, refsL, natAV, d3AV, d3C, dAV, dC, rAV, rC, DP.av, dpC, ratD, RD.av, DP.av2, push_cast]) fun hs0 => ?_
  repeat' (first
    | with_reducible first | apply thenW_n | apply W_seq
    | with_reducible refine W_rg ?_
    | (rw [vcn]; (try simp [-map_take,-map_drop, push_cast, RD.av, ratD, dC, rC, numC, ← tens.eq_1, dAV]))
    | fail)
  refine CallG_of (e1) rfl rfl rfl ?_
  try dsimp only
  repeat' (first
    | (rw [vcn]; (try simp [-map_take,-map_drop, push_cast, RD.av, ratD, dC, rC, numC, ← tens.eq_1, dAV]))
    | fail)
  refine CallG_of (e2) rfl rfl rfl ?_
  try dsimp only
  repeat' (first
    | with_reducible first | apply thenW_n | apply W_ret
    | (rw [vcn]; (try simp [-map_take,-map_drop, push_cast, RD.av, ratD, dC, rC, numC, ← tens.eq_1, dAV]))
    | fail)
  simp [-map_take,-map_drop, post, resAV, resAll, resOne, closeV, closeC, closeL, resD, resDL, push_cast, RD.av, ratD, dC, rC, numC, ← tens.eq_1, dAV]
theorem left13_ok (f : Bool) (l : List DP) (a b : DP) (hl : l.length ≤ 1000) (h : ∀ p ∈ l, DB p) (ha : szP3 a ≤ 20) (hb : szP3 b ≤ 20) : Eval Try.prog 68 [.slc f 6 l.length (dpsC l), DP.av2 a b] (.ret (i64V (left3 l a b))) := by
  obtain ⟨n, hn⟩ : ∃ n, n = l.length := ⟨_, rfl⟩
  obtain ⟨L, hL⟩ : ∃ x, x = dpsC l := ⟨_, rfl⟩
  have hLr : refsL L = [] := by rw [hL]; exact dpsC_refs _
  have hLn : ∀ ρ, renL ρ L = L := fun ρ => renL_id ρ _ hLr
  have hLl : L.length = n * 6 := by rw [hL, hn, dpsC_len]
  have hat : ∀ i, i < n → ∃ t, L.drop (i * 6) = dpC (l.getD i nilD) ++ t := fun i hi => by
    rw [hL, List.getD_eq_getElem?_getD, List.getElem?_eq_getElem (by omega)]
    exact dpsC_at l i (by omega)
  have hz : ∀ i, szP3 (l.getD i nilD) ≤ 20 := fun i => (DB.at h i).sz'
  have hmz := mid3_sz a b
  have em := mid13_ok a b (by omega)
  have hsp : ∀ k, k < 300 → szP3 (stepP a b k) ≤ 6600 := fun k hk => by
    have h1 := stpD_sz a b (parts k)
    have h2 := parts_sz k
    show szP3 (stpD a b (parts k)) ≤ 6600
    omega
  have ear : ∀ k, k < 300 → Eval Try.prog 23 [.slc f 6 n L, (stepP a b k).av] (.ret (.tup [i64V (around3 l (stepP a b k)).1, boolV (around3 l (stepP a b k)).2])) := fun k hk => by
    have := around13_ok f l (stepP a b k) hl h (by have := hsp k hk; omega)
    rwa [← hL, ← hn] at this
  have est : ∀ k, k < 300 → Eval Try.prog 104 [DP.av2 a b, (parts k).av] (.ret (stepP a b k).av) := fun k hk => step13_ok a b (parts k) (by have := parts_sz k; omega)
  have epa : ∀ k, k < 300 → Eval Try.prog 53 [(parts k).av, (RD.mk 1 16).av] (.ret (parts (k + 1)).av) := fun k hk => mul03_ok (parts k) ⟨1, 16⟩ (by
    have := parts_sz k
    have h3 : szR ⟨1, 16⟩ ≤ 2 := by decide +kernel
    omega)
  have ef1 : Eval Try.prog 54 [i64V 1, i64V 2] (.ret (parts 0).av) := frac03_ok' 1 2 (by unfold inI; omega) (by unfold inI; omega)
  have ef2 := frac03_ok' 1 16 (by unfold inI; omega) (by unfold inI; omega)
  rw [← hn] at hl ⊢
  rw [← hL]
  clear hL h
  obtain ⟨A, hA⟩ : ∃ A, A = dpC a := ⟨_, rfl⟩
  obtain ⟨B, hB⟩ : ∃ A, A = dpC b := ⟨_, rfl⟩
  obtain ⟨C, hC⟩ : ∃ A, A = dpC (mid3 a b) := ⟨_, rfl⟩
  have hAl : A.length = 6 := by rw [hA]; rfl
  have hBl : B.length = 6 := by rw [hB]; rfl
  have hCl : C.length = 6 := by rw [hC]; rfl
  have hA_refs : refsL A = [] := by rw [hA]; rfl
  have hB_refs : refsL B = [] := by rw [hB]; rfl
  have hC_refs : refsL C = [] := by rw [hC]; rfl
  have hAp : a.av = .agg A := by rw [hA]; rfl
  have hBp : b.av = .agg B := by rw [hB]; rfl
  have hCp : (mid3 a b).av = .agg C := by rw [hC]; rfl
  have hABp : DP.av2 a b = .agg (A ++ B) := by rw [hA, hB]; rfl
  have tA0 : A.take 6 = A := List.take_of_length_le (by omega)
  have tB0 : B.take 6 = B := List.take_of_length_le (by omega)
  have tC0 : C.take 6 = C := List.take_of_length_le (by omega)
  have tAB : (A ++ B).take 12 = A ++ B := List.take_of_length_le (by rw [List.length_append]; omega)
  have tAB6 : (A ++ B).take 6 = A := List.take_left' hAl
  have dAB6 : (A ++ B).drop 6 = B := List.drop_left' hAl
  have lAB : (A ++ B).length = 12 := by rw [List.length_append]; omega
  have hAB_refs : refsL (A ++ B) = [] := by rw [refsL_append, hA_refs, hB_refs]; rfl
  obtain ⟨AB, eAB⟩ : ∃ x, x = A ++ B := ⟨_, rfl⟩
  rw [hABp, ← eAB, hCp] at em
  rw [hABp, ← eAB]
  simp only [hABp, ← eAB] at est
  rw [← eAB] at tAB tAB6 dAB6 lAB hAB_refs
  have nAB : ∀ ρ, renL ρ AB = AB := fun ρ => renL_id ρ _ hAB_refs
  clear hA hB hC
  have hpr : ∀ k, refsL (rdC' (parts k)) = [] := fun k => rfl
  have hpl : ∀ k, (rdC' (parts k)).length = 4 := fun k => rfl
  have hpn : ∀ k ρ, renL ρ (rdC' (parts k)) = rdC' (parts k) := fun k ρ => renL_id ρ _ (hpr k)
  have hpa : ∀ k, (parts k).av = .agg (rdC' (parts k)) := fun k => rfl
  have h16 : (RD.mk 1 16).av = .agg (rdC' ⟨1, 16⟩) := rfl
  have h16_refs : refsL (rdC' ⟨1, 16⟩) = [] := rfl
  simp only [hpa] at est epa ef1
  rw [h16] at ef2
  simp only [h16] at epa
  refine Eval.intro Try.func68 rfl Try.call68 _ _ (Nat.le_of_ble_eq_true rfl) (by simp [-map_take,-map_drop, AV.refs, refsL, hLr, hAB_refs]) fun hs0 => ?_
  refine W_seq ?_
  repeat' (first
    | with_reducible refine W_rg ?_
    | (rw [vcn]; (try simp [-map_take,-map_drop, push_cast, hLr, hAB_refs, lAB, tAB]))
    | fail)
  refine thenW_n ?_
  refine W_frz 3 (e := 68) (l := AB) (by simp [-map_take,-map_drop, mkS_box, lk, upd]) hAB_refs ?_
  repeat' (first
    | with_reducible apply W_seq
    | with_reducible refine W_rg ?_
    | (rw [vcn]; (try simp [-map_take,-map_drop, push_cast, hLr, hAB_refs, lAB, tAB]))
    | fail)
  refine CallG_of (ef1) rfl rfl rfl ?_
  try dsimp only
  have t4 : ∀ k, (rdC' (parts k)).take 4 = rdC' (parts k) := fun k => List.take_of_length_le (by rw [hpl]; omega)
  have hp0_refs := hpr 0
  have hp0l := hpl 0
  have tp0 := t4 0
  obtain ⟨PC, hPC⟩ : ∃ PC : Nat → List AV, PC = fun k => rdC' (parts k) := ⟨_, rfl⟩
  have hPCk : ∀ k, rdC' (parts k) = PC k := fun k => by rw [hPC]
  simp only [hPCk] at est epa ef1 hpr hpl hpn t4 hp0_refs hp0l tp0 ⊢
  repeat' (first
    | with_reducible first | apply thenW_n | apply W_seq | apply W_block
    | with_reducible refine W_rg ?_
    | (rw [vcn]; (try simp [-map_take,-map_drop, push_cast, hp0_refs, hp0l, tp0, hAB_refs]))
    | fail)
  refine W_loopW (X := Nat) (fun k => [(0, .slc f 6 n L), (3, .ip AB), (5, .bp 5 0), (6, i64V k)]) (fun k => [(5, .mut 50 (PC k))]) (fun k => 300 - k) (fun k => k ≤ 300 ∧ left3 l a b = leftFrom l a b (300 - k) k) 0 id ⟨by omega, rfl⟩ ⟨?_, ?_, ?_, ?_, ?_, ?_⟩ fun k hk => ?_
  all_goals first | (with_reducible refine W_id ?_) | (simp [-map_take,-map_drop, push_cast, dV_take, dV_drop, hLr, hLn, hAB_refs, nAB, hp0_refs, hpn]; done)
  obtain ⟨hk, hlf⟩ := hk
  by_cases c1 : ¬ k < 300
  · have y1 : (k < 300) = False := eq_false c1
    have y2 : ((k : Int) < 300) = False := eq_false (by omega)
    have hk300 : 300 - k = 0 := by omega
    have hfin : left3 l a b = 0 := by rw [hlf, hk300]; rfl
    rw [hfin]
    repeat' (first
      | with_reducible first | apply thenW_n | apply thenW_exit | apply blockW_same | apply loopW_exit | apply W_seq | apply W_ret | apply W_exit
      | with_reducible refine W_rg ?_
      | (rw [vcn]; (try simp [-map_take,-map_drop, push_cast, y1, y2, hAB_refs]))
      | (with_reducible refine W_condW ?_; (try simp [-map_take,-map_drop, AS.val, upd, resB, mkS_env, mkS_box, lk, entry_env, condW_true, condW_false, y1, y2, hAB_refs]))
      | fail)
    simp [-map_take,-map_drop, post, resAV, resAll, resOne, closeV, closeC, closeL, resD, resDL, push_cast, hAB_refs]
  have c1 : k < 300 := by omega
  have y1 : (k < 300) = True := eq_true c1
  have y2 : ((k : Int) < 300) = True := eq_true (by omega)
  have hfu : 300 - k = (300 - (k + 1)) + 1 := by omega
  rw [hfu] at hlf
  have hlf' : left3 l a b = if freeAll l a b k = true then (around3 l (stepP a b k)).1 else leftFrom l a b (300 - (k + 1)) (k + 1) := hlf
  clear hlf hfu
  have e1 := est k c1
  have e2 := epa k c1
  have e3 := ear k c1
  have zP := hsp k c1
  have hFi : ∀ i, freeAt l a b k i = (alongB a b (l.getD i nilD) (l.getD ((i + 1) % n) nilD) || decide ((meetR (mid3 a b) (stepP a b k) (l.getD i nilD) (l.getD ((i + 1) % n) nilD)).length = 0)) := fun i => by rw [hn]; rfl
  have hFa : freeAll l a b k = (List.range n).all (freeAt l a b k) := by rw [hn]; rfl
  obtain ⟨LN, hLN⟩ : ∃ x, x = leftFrom l a b (300 - (k + 1)) (k + 1) := ⟨_, rfl⟩
  rw [← hLN] at hlf'
  obtain ⟨P, hP⟩ : ∃ P, P = stepP a b k := ⟨_, rfl⟩
  rw [← hP] at e1 e3 zP hlf'
  simp only [← hP] at hFi
  obtain ⟨F, hF⟩ : ∃ F, F = freeAt l a b k := ⟨_, rfl⟩
  rw [← hF] at hFa
  simp only [← hF] at hFi
  obtain ⟨Q, hQ⟩ : ∃ A, A = dpC P := ⟨_, rfl⟩
  have hQl : Q.length = 6 := by rw [hQ]; rfl
  have hQ_refs : refsL Q = [] := by rw [hQ]; rfl
  have hQp : P.av = .agg Q := by rw [hQ]; rfl
  have tQ0 : Q.take 6 = Q := List.take_of_length_le (by omega)
  rw [hQp] at e1 e3
  have hk_refs := hpr k
  have hkl := hpl k
  have tk := t4 k
  have hk1_refs := hpr (k + 1)
  have hk1n := hpn (k + 1)
  have hk1l := hpl (k + 1)
  have hkn := hpn k
  clear est epa ear hsp hP hF hQ ef1 hs0
  obtain ⟨K, hK⟩ : ∃ K, K = PC k := ⟨_, rfl⟩
  obtain ⟨K1, hK1⟩ : ∃ K, K = PC (k + 1) := ⟨_, rfl⟩
  have hK1' := hK1.symm
  rw [← hK] at e1 e2 hk_refs hkl tk ⊢
  simp only [← hK] at hkn
  rw [← hK1] at e2 hk1_refs hk1l
  simp only [← hK1] at hk1n
  clear hK hK1 hpr hpl hpn t4 hp0_refs hp0l tp0
  repeat' (first
    | with_reducible first | apply thenW_n | apply W_seq | apply W_skip
    | with_reducible refine W_rg ?_
    | (rw [vcn]; (try simp [-map_take,-map_drop, push_cast, y1, y2]))
    | (with_reducible refine W_condW ?_; (try simp [-map_take,-map_drop, AS.val, upd, resB, mkS_env, mkS_box, lk, entry_env, condW_true, condW_false, y1, y2]))
    | fail)
  refine W_block ?_
  refine W_seq ?_
  repeat' (first
    | with_reducible refine W_rg ?_
    | (rw [vcn]; (try simp [-map_take,-map_drop, push_cast, tAB, lAB, hAB_refs, hk_refs, hkl, tk]))
    | fail)
  refine CallG_of (e1) rfl (by simp [-map_take,-map_drop, natAV, d3AV, d3C, dAV, dC, rAV, rC, DP.av, dpC, ratD, RD.av, DP.av2, AV.refs, refsL, push_cast, hAB_refs, hk_refs]) rfl ?_
  try dsimp only
  repeat' (first
    | (rw [vcn]; (try simp [-map_take,-map_drop, push_cast, hQ_refs, hQl, tQ0]))
    | fail)
  refine thenW_n ?_
  refine W_frz 7 (e := 43) (l := Q) (by simp [-map_take,-map_drop, mkS_box, lk, upd, tQ0]) hQ_refs ?_
  refine W_seq ?_
  repeat' (first
    | with_reducible refine W_rg ?_
    | (rw [vcn]; (try simp [-map_take,-map_drop, push_cast]))
    | fail)
  refine thenW_n ?_
  refine W_seq ?_
  refine W_joinQ (X := Unit) (fun _ => [(0, .slc f 6 n L), (3, .ip AB), (5, .bp 5 0), (6, i64V k), (7, .ip Q), (8, boolV ((List.range n).all F))]) (fun _ => [(5, .mut 50 K)]) (fun _ => True) ?_ fun _ _ => ?_
  · repeat' (first
      | with_reducible first | apply thenW_n | apply W_seq | apply W_block
      | with_reducible refine W_rg ?_
      | (rw [vcn]; (try simp [-map_take,-map_drop, push_cast]))
      | fail)
    refine W_loopW (X := Nat × Bool) (fun x => [(0, .slc f 6 n L), (3, .ip AB), (5, .bp 5 0), (6, i64V k), (7, .ip Q), (8, boolV x.2), (9, i64V x.1)]) (fun x => [(5, .mut 50 K)]) (fun x => n - x.1) (fun x => x.1 ≤ n ∧ (x.2 = true → ∀ i, i < x.1 → F i = true) ∧ (x.2 = false → ∃ i, i < n ∧ F i = false)) (0, true) id ⟨Nat.zero_le _, fun _ i hi => by simp [-map_take,-map_drop] at hi, fun h => by simp [-map_take,-map_drop] at h⟩ ⟨?_, ?_, ?_, ?_, ?_, ?_⟩ fun x hx => ?_
    all_goals first | (with_reducible refine W_id ?_) | (simp [-map_take,-map_drop, push_cast, dV_take, dV_drop, hLr, hLn, hAB_refs, nAB, hQ_refs, hk_refs, hkn, boolV]; done)
    obtain ⟨i, fr⟩ := x
    obtain ⟨hi, hf1, hf2⟩ := hx
    simp only at hi hf1 hf2 ⊢
    by_cases d1 : ¬ i < n
    · have x1 : (i < n) = False := eq_false d1
      have x2 : ((i : Int) < (n : Int)) = False := eq_false (by omega)
      have hfr : (List.range n).all F = fr := by
        cases fr
        · obtain ⟨j, hj1, hj2⟩ := hf2 rfl
          rw [Bool.eq_false_iff]
          intro h
          rw [List.all_eq_true.1 h j (List.mem_range.2 hj1)] at hj2
          cases hj2
        · exact List.all_eq_true.2 fun j hj => hf1 rfl j (by have := List.mem_range.1 hj; omega)
      rw [hfr]
      repeat' (first
        | with_reducible first | apply thenW_n | apply thenW_exit | apply blockW_same | apply loopW_exit | apply W_seq | apply W_exit
        | with_reducible refine W_rg ?_
        | (rw [vcn]; (try simp [-map_take,-map_drop, push_cast, x1, x2, boolV]))
        | (with_reducible refine W_condW ?_; (try simp [-map_take,-map_drop, AS.val, upd, resB, mkS_env, mkS_box, lk, entry_env, condW_true, condW_false, x1, x2, boolV]))
        | fail)
      refine joinW_n () id trivial ⟨?_, ?_, ?_, ?_, ?_, ?_⟩
      all_goals first | (simp [-map_take,-map_drop, push_cast, dV_take, dV_drop, hLr, hLn, hAB_refs, nAB, hQ_refs, hk_refs, hkn, boolV]; done)
    have d1 : i < n := by omega
    have x1 : (i < n) = True := eq_true d1
    have x2 : ((i : Int) < (n : Int)) = True := eq_true (by omega)
    cases fr
    · have hfr : (List.range n).all F = false := by
        obtain ⟨j, hj1, hj2⟩ := hf2 rfl
        rw [Bool.eq_false_iff]
        intro h
        rw [List.all_eq_true.1 h j (List.mem_range.2 hj1)] at hj2
        cases hj2
      rw [hfr]
      repeat' (first
        | with_reducible first | apply thenW_n | apply thenW_exit | apply blockW_same | apply loopW_exit | apply W_seq | apply W_exit
        | with_reducible refine W_rg ?_
        | (rw [vcn]; (try simp [-map_take,-map_drop, push_cast, x1, x2, boolV]))
        | (with_reducible refine W_condW ?_; (try simp [-map_take,-map_drop, AS.val, upd, resB, mkS_env, mkS_box, lk, entry_env, condW_true, condW_false, x1, x2, boolV]))
        | fail)
      refine joinW_n () id trivial ⟨?_, ?_, ?_, ?_, ?_, ?_⟩
      all_goals first | (simp [-map_take,-map_drop, push_cast, dV_take, dV_drop, hLr, hLn, hAB_refs, nAB, hQ_refs, hk_refs, hkn, boolV]; done)
    have hf1 := hf1 rfl
    clear hf2
    have hj : (i + 1) % n < n := Nat.mod_lt _ (by omega)
    have hrem : ((i : Int) + 1).tmod (n : Int) = (((i + 1) % n : Nat) : Int) := by rw [Int.tmod_eq_emod_of_nonneg (by omega)]; rfl
    have n0 : (n = 0) = False := eq_false (by omega)
    have n1 : ((n : Int) = 0) = False := eq_false (by omega)
    obtain ⟨t1, ht1⟩ := hat i d1
    obtain ⟨t2, ht2⟩ := hat _ hj
    have hFk := hFi i
    have z1 := hz i
    have z2 := hz ((i + 1) % n)
    obtain ⟨j, hj2⟩ : ∃ j, j = (i + 1) % n := ⟨_, rfl⟩
    rw [← hj2] at hj hrem ht2 hFk z2
    clear hj2
    obtain ⟨u, nm_⟩ : ∃ nm0_, nm0_ = l.getD i nilD := ⟨_, rfl⟩
    simp only [← nm_] at ht1 hFk z1
    clear nm_
    obtain ⟨v, nm_⟩ : ∃ nm0_, nm0_ = l.getD j nilD := ⟨_, rfl⟩
    simp only [← nm_] at ht2 hFk z2
    clear nm_
    have es1 : Eval Try.prog 65 [a.av, b.av, u.av] (.ret (i64V (side3 a b u))) := side11_ok a b u (by omega)
    have es2 : Eval Try.prog 65 [a.av, b.av, v.av] (.ret (i64V (side3 a b v))) := side11_ok a b v (by omega)
    have eme := meet11_ok (mid3 a b) P u v (by omega)
    obtain ⟨U, hU⟩ : ∃ A, A = dpC u := ⟨_, rfl⟩
    obtain ⟨V, hV⟩ : ∃ A, A = dpC v := ⟨_, rfl⟩
    have hUl : U.length = 6 := by rw [hU]; rfl
    have hVl : V.length = 6 := by rw [hV]; rfl
    have hU_refs : refsL U = [] := by rw [hU]; rfl
    have hV_refs : refsL V = [] := by rw [hV]; rfl
    have hUp : u.av = .agg U := by rw [hU]; rfl
    have hVp : v.av = .agg V := by rw [hV]; rfl
    have hUV : DP.av2 u v = .agg (U ++ V) := by rw [hU, hV]; rfl
    have hCQ : DP.av2 (mid3 a b) P = .agg (C ++ Q) := by
      have h1 : DP.av2 (mid3 a b) P = .agg (dpC (mid3 a b) ++ dpC P) := rfl
      have h2 : dpC (mid3 a b) = C := by
        have h3 : (mid3 a b).av = .agg (dpC (mid3 a b)) := rfl
        rw [h3] at hCp
        exact AV.agg.inj hCp
      have h4 : dpC P = Q := by
        have h3 : P.av = .agg (dpC P) := rfl
        rw [h3] at hQp
        exact AV.agg.inj hQp
      rw [h1, h2, h4]
    have tU : ∀ t, (U ++ t).take 6 = U := fun t => List.take_left' hUl
    have tV : ∀ t, (V ++ t).take 6 = V := fun t => List.take_left' hVl
    have tU0 : U.take 6 = U := List.take_of_length_le (by omega)
    have tV0 : V.take 6 = V := List.take_of_length_le (by omega)
    have dr12 : ∀ a b c d e f : AV, (U ++ [a, b, c, d, e, f]).drop 12 = [] := fun a b c d e f => List.drop_eq_nil_of_le (by rw [List.length_append, hUl]; simp [-map_take,-map_drop])
    have cr12 : ∀ a b c d e f : AV, (C ++ [a, b, c, d, e, f]).drop 12 = [] := fun a b c d e f => List.drop_eq_nil_of_le (by rw [List.length_append, hCl]; simp [-map_take,-map_drop])
    rw [hUV, hCQ] at eme
    rw [hAp, hBp, hUp] at es1
    rw [hAp, hBp, hVp] at es2
    rw [← hU] at ht1
    rw [← hV] at ht2
    unfold alongB at hFk
    have hMr : refsL (dpsC (meetR (mid3 a b) P u v)) = [] := dpsC_refs _
    obtain ⟨ML, nm_⟩ : ∃ nm0_, nm0_ = dpsC (meetR (mid3 a b) P u v) := ⟨_, rfl⟩
    simp only [← nm_] at eme hMr
    clear nm_
    obtain ⟨mn, nm_⟩ : ∃ nm0_, nm0_ = (meetR (mid3 a b) P u v).length := ⟨_, rfl⟩
    simp only [← nm_] at eme hFk
    clear nm_
    obtain ⟨s1, nm_⟩ : ∃ nm0_, nm0_ = side3 a b u := ⟨_, rfl⟩
    simp only [← nm_] at es1 hFk
    clear nm_
    obtain ⟨s2, nm_⟩ : ∃ nm0_, nm0_ = side3 a b v := ⟨_, rfl⟩
    simp only [← nm_] at es2 hFk
    clear nm_
    have hdone : ∀ fr : Bool, F i = fr → i + 1 ≤ n ∧ (fr = true → ∀ h, h < i + 1 → F h = true) ∧ (fr = false → ∃ h, h < n ∧ F h = false) := fun fr e => by
      refine ⟨by omega, fun h q hq => ?_, fun h => ⟨i, d1, by rw [e, h]⟩⟩
      by_cases c : q = i
      · rw [c, e, h]
      · exact hf1 q (by omega)
    clear hU hV hUp hVp hUV hat hz hFi hCp hQp hAp hBp hCQ hmz zP z1 z2 hlf' hFa e1 e2 e3 ef2
    repeat' (first
      | with_reducible first | apply thenW_n | apply W_seq | apply W_block | apply W_skip
      | with_reducible refine W_rg ?_
      | (rw [vcn]; (try simp [-map_take,-map_drop, push_cast, x1, x2, hLl, d1, hj, hrem, n0, n1, ht1, ht2, tU, tV, tU0, tV0, hUl, hVl, hU_refs, hV_refs, tAB6, dAB6, lAB, hAB_refs, tA0, tB0, hAl, hBl, hA_refs, hB_refs]); try simp (disch := omega) only [i64_in, u64_in, shr64i])
      | with_reducible refine W_drawn mixed (by decide) (by kernel_rfl) ?_
      | (rw [vcnD]; (try simp [-map_take,-map_drop, push_cast, x1, x2, hLl, d1, hj, hrem, n0, n1, ht1, ht2, tU, tV, tU0, tV0, hUl, hVl, hU_refs, hV_refs, tAB6, dAB6, lAB, hAB_refs, tA0, tB0, hAl, hBl, hA_refs, hB_refs]); try simp (disch := omega) only [i64_in, u64_in, shr64i])
      | (with_reducible refine W_condW ?_; (try simp [-map_take,-map_drop, AS.val, upd, resB, mkS_env, mkS_box, lk, entry_env, condW_true, condW_false, x1, x2, hLl, d1, hj, hrem, n0, n1, ht1, ht2, tU, tV, tU0, tV0, hUl, hVl, hU_refs, hV_refs, tAB6, dAB6, lAB, hAB_refs, tA0, tB0, hAl, hBl, hA_refs, hB_refs]))
      | refine And.intro (by first | omega | kernel_rfl) ?_
      | fail)
    refine CallG_of (es1) rfl (by simp [-map_take,-map_drop, natAV, d3AV, d3C, dAV, dC, rAV, rC, DP.av, dpC, ratD, RD.av, DP.av2, AV.refs, refsL, push_cast, hA_refs, hB_refs, hU_refs]) rfl ?_
    try dsimp only
    by_cases h1 : s1 = 0
    · subst h1
      repeat' (first
        | (rw [vcn]; (try simp [-map_take,-map_drop, push_cast, boolV, tAB6, dAB6, lAB, hAB_refs, tA0, tB0, tV0, hAl, hBl, hVl, hV_refs, hA_refs, hB_refs]))
        | fail)
      refine CallG_of (es2) rfl (by simp [-map_take,-map_drop, natAV, d3AV, d3C, dAV, dC, rAV, rC, DP.av, dpC, ratD, RD.av, DP.av2, AV.refs, refsL, push_cast, hA_refs, hB_refs, hV_refs]) rfl ?_
      try dsimp only
      by_cases h2 : s2 = 0
      · subst h2
        have hF1 : F i = true := by rw [hFk]; rfl
        repeat' (first
          | with_reducible first | apply thenW_n | apply blockW_n
          | with_reducible refine W_rg ?_
          | (rw [vcn]; (try simp [-map_take,-map_drop, push_cast, boolV]); try simp (disch := omega) only [i64_in, u64_in, shr64i])
          | with_reducible refine W_drawn mixed (by decide) (by kernel_rfl) ?_
          | (rw [vcnD]; (try simp [-map_take,-map_drop, push_cast, boolV]); try simp (disch := omega) only [i64_in, u64_in, shr64i])
          | refine And.intro (by first | omega | kernel_rfl) ?_
          | fail)
        refine loopW_n (i + 1, true) id (by simp only; omega) (hdone true hF1) ⟨?_, ?_, ?_, ?_, ?_, ?_⟩
        all_goals first | (simp [-map_take,-map_drop, push_cast, dV_take, dV_drop, hLr, hLn, hAB_refs, nAB, hQ_refs, hk_refs, hkn, boolV]; done)
      · have w1 : (s2 == 0) = false := beq_eq_false_iff_ne.2 h2
        have w1' : (s2 = 0) = False := eq_false h2
        have hF1 : F i = decide (mn = 0) := by rw [hFk, decide_eq_false h2]; rfl
        repeat' (first
          | with_reducible apply thenW_n
          | (rw [vcn]; (try simp [-map_take,-map_drop, push_cast, boolV, w1, w1', lAB, tAB, hAB_refs]))
          | with_reducible refine W_drawn mixed (by decide) (by kernel_rfl) ?_
          | (rw [vcnD]; (try simp [-map_take,-map_drop, push_cast, boolV, w1, w1', lAB, tAB, hAB_refs]))
          | fail)
        refine callD_of (em) rfl (by simp [-map_take,-map_drop, natAV, d3AV, d3C, dAV, dC, rAV, rC, DP.av, dpC, ratD, RD.av, DP.av2, AV.refs, refsL, push_cast, hAB_refs]) rfl ?_
        try dsimp only
        repeat' (first
          | (rw [vcnD]; (try simp [-map_take,-map_drop, push_cast, hCl, hQl, tC0, tQ0, hC_refs, hQ_refs, hUl, hVl, tU0, tV0, hU_refs, hV_refs, dr12, cr12]))
          | fail)
        refine callD_of (eme) rfl (by simp [-map_take,-map_drop, natAV, d3AV, d3C, dAV, dC, rAV, rC, DP.av, dpC, ratD, RD.av, DP.av2, AV.refs, refsL, push_cast, hC_refs, hQ_refs, hU_refs, hV_refs]) rfl ?_
        try dsimp only
        by_cases hm : mn = 0
        · have v1 : (((mn : Nat) : Int) == 0) = true := by rw [hm]; rfl
          have v1' : (mn = 0) = True := eq_true hm
          have v1'' : (mn == 0) = true := by rw [hm]; rfl
          rw [decide_eq_true hm] at hF1
          repeat' (first
            | with_reducible first | apply thenW_n | apply blockW_n
            | with_reducible refine W_rg ?_
            | (rw [vcn]; (try simp [-map_take,-map_drop, push_cast, boolV, v1, v1', v1'', hMr]); try simp (disch := omega) only [i64_in, u64_in, shr64i])
            | (rw [vcnD]; (try simp [-map_take,-map_drop, push_cast, boolV, v1, v1', v1'', hMr]); try simp (disch := omega) only [i64_in, u64_in, shr64i])
            | refine And.intro (by first | omega | kernel_rfl) ?_
            | fail)
          refine loopW_n (i + 1, true) id (by simp only; omega) (hdone true hF1) ⟨?_, ?_, ?_, ?_, ?_, ?_⟩
          all_goals first | (simp [-map_take,-map_drop, push_cast, dV_take, dV_drop, hLr, hLn, hAB_refs, nAB, hQ_refs, hk_refs, hkn, boolV]; done)
        · have v1 : (((mn : Nat) : Int) == 0) = false := beq_eq_false_iff_ne.2 (by omega)
          have v1' : (mn = 0) = False := eq_false hm
          have v1'' : (mn == 0) = false := beq_eq_false_iff_ne.2 hm
          rw [decide_eq_false hm] at hF1
          repeat' (first
            | with_reducible first | apply thenW_n | apply blockW_n
            | with_reducible refine W_rg ?_
            | (rw [vcn]; (try simp [-map_take,-map_drop, push_cast, boolV, v1, v1', v1'', hMr]); try simp (disch := omega) only [i64_in, u64_in, shr64i])
            | (rw [vcnD]; (try simp [-map_take,-map_drop, push_cast, boolV, v1, v1', v1'', hMr]); try simp (disch := omega) only [i64_in, u64_in, shr64i])
            | refine And.intro (by first | omega | kernel_rfl) ?_
            | fail)
          refine loopW_n (i + 1, false) id (by simp only; omega) (hdone false hF1) ⟨?_, ?_, ?_, ?_, ?_, ?_⟩
          all_goals first | (simp [-map_take,-map_drop, push_cast, dV_take, dV_drop, hLr, hLn, hAB_refs, nAB, hQ_refs, hk_refs, hkn, boolV]; done)
    · have w1 : (s1 == 0) = false := beq_eq_false_iff_ne.2 h1
      have w1' : (s1 = 0) = False := eq_false h1
      have hF1 : F i = decide (mn = 0) := by rw [hFk, decide_eq_false h1]; rfl
      repeat' (first
        | with_reducible apply thenW_n
        | (rw [vcn]; (try simp [-map_take,-map_drop, push_cast, boolV, w1, w1', lAB, tAB, hAB_refs]))
        | with_reducible refine W_drawn mixed (by decide) (by kernel_rfl) ?_
        | (rw [vcnD]; (try simp [-map_take,-map_drop, push_cast, boolV, w1, w1', lAB, tAB, hAB_refs]))
        | fail)
      refine callD_of (em) rfl (by simp [-map_take,-map_drop, natAV, d3AV, d3C, dAV, dC, rAV, rC, DP.av, dpC, ratD, RD.av, DP.av2, AV.refs, refsL, push_cast, hAB_refs]) rfl ?_
      try dsimp only
      repeat' (first
        | (rw [vcnD]; (try simp [-map_take,-map_drop, push_cast, hCl, hQl, tC0, tQ0, hC_refs, hQ_refs, hUl, hVl, tU0, tV0, hU_refs, hV_refs, dr12, cr12]))
        | fail)
      refine callD_of (eme) rfl (by simp [-map_take,-map_drop, natAV, d3AV, d3C, dAV, dC, rAV, rC, DP.av, dpC, ratD, RD.av, DP.av2, AV.refs, refsL, push_cast, hC_refs, hQ_refs, hU_refs, hV_refs]) rfl ?_
      try dsimp only
      by_cases hm : mn = 0
      · have v1 : (((mn : Nat) : Int) == 0) = true := by rw [hm]; rfl
        have v1' : (mn = 0) = True := eq_true hm
        have v1'' : (mn == 0) = true := by rw [hm]; rfl
        rw [decide_eq_true hm] at hF1
        repeat' (first
          | with_reducible first | apply thenW_n | apply blockW_n
          | with_reducible refine W_rg ?_
          | (rw [vcn]; (try simp [-map_take,-map_drop, push_cast, boolV, v1, v1', v1'', hMr]); try simp (disch := omega) only [i64_in, u64_in, shr64i])
          | (rw [vcnD]; (try simp [-map_take,-map_drop, push_cast, boolV, v1, v1', v1'', hMr]); try simp (disch := omega) only [i64_in, u64_in, shr64i])
          | refine And.intro (by first | omega | kernel_rfl) ?_
          | fail)
        refine loopW_n (i + 1, true) id (by simp only; omega) (hdone true hF1) ⟨?_, ?_, ?_, ?_, ?_, ?_⟩
        all_goals first | (simp [-map_take,-map_drop, push_cast, dV_take, dV_drop, hLr, hLn, hAB_refs, nAB, hQ_refs, hk_refs, hkn, boolV]; done)
      · have v1 : (((mn : Nat) : Int) == 0) = false := beq_eq_false_iff_ne.2 (by omega)
        have v1' : (mn = 0) = False := eq_false hm
        have v1'' : (mn == 0) = false := beq_eq_false_iff_ne.2 hm
        rw [decide_eq_false hm] at hF1
        repeat' (first
          | with_reducible first | apply thenW_n | apply blockW_n
          | with_reducible refine W_rg ?_
          | (rw [vcn]; (try simp [-map_take,-map_drop, push_cast, boolV, v1, v1', v1'', hMr]); try simp (disch := omega) only [i64_in, u64_in, shr64i])
          | (rw [vcnD]; (try simp [-map_take,-map_drop, push_cast, boolV, v1, v1', v1'', hMr]); try simp (disch := omega) only [i64_in, u64_in, shr64i])
          | refine And.intro (by first | omega | kernel_rfl) ?_
          | fail)
        refine loopW_n (i + 1, false) id (by simp only; omega) (hdone false hF1) ⟨?_, ?_, ?_, ?_, ?_, ?_⟩
        all_goals first | (simp [-map_take,-map_drop, push_cast, dV_take, dV_drop, hLr, hLn, hAB_refs, nAB, hQ_refs, hk_refs, hkn, boolV]; done)
  clear hat hz hFi
  cases hfa : (List.range n).all F
  · rw [hFa, hfa, if_neg (by decide)] at hlf'
    repeat' (first
      | with_reducible first | apply thenW_n | apply W_seq | apply W_skip
      | with_reducible refine W_rg ?_
      | (rw [vcn]; (try simp [-map_take,-map_drop, push_cast, boolV]))
      | with_reducible refine W_drawn mixed (by decide) (by kernel_rfl) ?_
      | (rw [vcnD]; (try simp [-map_take,-map_drop, push_cast, boolV]))
      | (with_reducible refine W_condW ?_; (try simp [-map_take,-map_drop, AS.val, upd, resB, mkS_env, mkS_box, lk, entry_env, condW_true, condW_false, boolV]))
      | refine And.intro (by first | omega | kernel_rfl) ?_
      | fail)
    refine callD_of (ef2) rfl rfl rfl ?_
    try dsimp only
    repeat' (first
      | (rw [vcnD]; (try simp [-map_take,-map_drop, push_cast, h16_refs, hk_refs, hkl, tk]))
      | fail)
    refine callD_of (e2) rfl (by simp [-map_take,-map_drop, natAV, d3AV, d3C, dAV, dC, rAV, rC, DP.av, dpC, ratD, RD.av, DP.av2, AV.refs, refsL, push_cast, hk_refs, h16_refs]) rfl ?_
    try dsimp only
    have hnext : left3 l a b = leftFrom l a b (300 - (k + 1)) (k + 1) := by rw [hlf', hLN]
    have hk1l' : (4 = K1.length) = True := eq_true hk1l.symm
    have tk1 : K1.take 4 = K1 := List.take_of_length_le (by omega)
    have dk1 : K.drop 4 = [] := List.drop_eq_nil_of_le (by omega)
    repeat' (first
      | with_reducible first | apply thenW_n | apply blockW_n
      | with_reducible refine W_rg ?_
      | (rw [vcn]; (try simp [-map_take,-map_drop, push_cast, hk_refs, hkl, tk, hk1_refs, hk1l, hk1l', tk1, dk1]); try simp (disch := omega) only [i64_in, u64_in, shr64i])
      | (rw [vcnD]; (try simp [-map_take,-map_drop, push_cast, hk_refs, hkl, tk, hk1_refs, hk1l, hk1l', tk1, dk1]); try simp (disch := omega) only [i64_in, u64_in, shr64i])
      | refine And.intro (by first | omega | kernel_rfl) ?_
      | fail)
    refine loopW_n (k + 1) id (by omega) ⟨by omega, hnext⟩ ⟨?_, ?_, ?_, ?_, ?_, ?_⟩
    all_goals first | (simp [-map_take,-map_drop, push_cast, dV_take, dV_drop, hLr, hLn, hAB_refs, nAB, hk1_refs, hk1n, hK1']; done)
  · rw [hFa, hfa, if_pos rfl] at hlf'
    rw [hlf']
    repeat' (first
      | with_reducible first | apply thenW_n | apply W_seq
      | with_reducible refine W_rg ?_
      | (rw [vcn]; (try simp [-map_take,-map_drop, push_cast, boolV, hQl, tQ0, hQ_refs, hLr]))
      | (with_reducible refine W_condW ?_; (try simp [-map_take,-map_drop, AS.val, upd, resB, mkS_env, mkS_box, lk, entry_env, condW_true, condW_false, boolV, hQl, tQ0, hQ_refs, hLr]))
      | fail)
    refine CallG_of (e3) rfl (by simp [-map_take,-map_drop, natAV, d3AV, d3C, dAV, dC, rAV, rC, DP.av, dpC, ratD, RD.av, DP.av2, AV.refs, refsL, push_cast, hQ_refs]) rfl ?_
    try dsimp only
    repeat' (first
      | with_reducible first | apply thenW_n | apply thenW_ret | apply blockW_ret | apply loopW_ret | apply W_seq | apply W_ret
      | with_reducible refine W_rg ?_
      | (rw [vcn]; (try simp [-map_take,-map_drop, push_cast, boolV]))
      | fail)
    simp [-map_take,-map_drop, post, resAV, resAll, resOne, closeV, closeC, closeL, resD, resDL, push_cast, boolV]
end Go.Fw
-- VALS: d3AV, d3C, dAV, dC, rAV, rC, DP.av, dpC, ratD, RD.av, DP.av2
namespace Go.Fw
open Go Go.Proofs Go.IntWalk
set_option linter.unusedSimpArgs false
set_option maxRecDepth 100000
set_option maxHeartbeats 20000000
def beside3 (l : List DP) (a b : DP) : Int × Int := if cmp3 a b = 0 then (0, 0) else (left3 l a b, left3 l b a)
open List (map_take map_drop)
attribute [local push_cast] optK_some optK_none optK_ite optK_map optK_bind gOn stepK isMem evPure evMem evBin evUn evConv evLen evBuiltin evMinMax evSlice evBuild evAppend evIndex evIndexAddr evField evFieldAddr intBin strBin appDest AS.val AS.mem AS.elems AS.put AS.put' AS.eff AV.cells? AV.isCell AV.refs all_isByte take_byteV drop_byteV strOf_map bndOk bnd partAV ptrAdd killBox catA inOrder fillA setAt ofVal resB upd byteV List.head?_take List.head?_drop List.getElem?_map mkS_env mkS_box mkS_used entry_env entry_box entry_used lk stepD lookIds Oper.looksAt Op.operands Call.operands St.ids refsL renL_append ren renL renBox Box.refs iV i64V boolV dV_getElem dV_app dV_cons toNat_add2 toNat_add1
attribute [local simp ↓] numC_refs numC_isCell numC_cells numC_resB numC_resD numC_ren numC_closeC numC_isOwn
theorem beside13_ok (f : Bool) (l : List DP) (a b : DP) (hl : l.length ≤ 1000) (h : ∀ p ∈ l, DB p) (ha : szP3 a ≤ 20) (hb : szP3 b ≤ 20) : Eval Try.prog 29 [.slc f 6 l.length (dpsC l), DP.av2 a b] (.ret (.tup [i64V (beside3 l a b).1, i64V (beside3 l a b).2])) := by
  have e1 := cmp11_ok a b (by omega)
  have e2 := left13_ok f l a b hl h ha hb
  have e3 := left13_ok f l b a hl h hb ha
  obtain ⟨n, hn⟩ : ∃ n, n = l.length := ⟨_, rfl⟩
  obtain ⟨L, hL⟩ : ∃ x, x = dpsC l := ⟨_, rfl⟩
  have hLr : refsL L = [] := by rw [hL]; exact dpsC_refs _
  rw [← hn, ← hL] at e2 e3 ⊢
  clear hL hn h
  obtain ⟨A, hA⟩ : ∃ A, A = dpC a := ⟨_, rfl⟩
  obtain ⟨B, hB⟩ : ∃ A, A = dpC b := ⟨_, rfl⟩
  have hAl : A.length = 6 := by rw [hA]; rfl
  have hBl : B.length = 6 := by rw [hB]; rfl
  have hA_refs : refsL A = [] := by rw [hA]; rfl
  have hB_refs : refsL B = [] := by rw [hB]; rfl
  have hAp : a.av = .agg A := by rw [hA]; rfl
  have hBp : b.av = .agg B := by rw [hB]; rfl
  have hABp : DP.av2 a b = .agg (A ++ B) := by rw [hA, hB]; rfl
  have hBAp : DP.av2 b a = .agg (B ++ A) := by rw [hA, hB]; rfl
  have tA0 : A.take 6 = A := List.take_of_length_le (by omega)
  have tB0 : B.take 6 = B := List.take_of_length_le (by omega)
  have tAB : (A ++ B).take 12 = A ++ B := List.take_of_length_le (by rw [List.length_append]; omega)
  have tAB6 : (A ++ B).take 6 = A := List.take_left' hAl
  have dAB6 : (A ++ B).drop 6 = B := List.drop_left' hAl
  have lAB : (A ++ B).length = 12 := by rw [List.length_append]; omega
  have hAB_refs : refsL (A ++ B) = [] := by rw [refsL_append, hA_refs, hB_refs]; rfl
  have hBA_refs : refsL (B ++ A) = [] := by rw [refsL_append, hA_refs, hB_refs]; rfl
  have br12 : ∀ a b c d e f : AV, (B ++ [a, b, c, d, e, f]).drop 12 = [] := fun a b c d e f => List.drop_eq_nil_of_le (by rw [List.length_append, hBl]; simp [-map_take,-map_drop])
  rw [hAp, hBp] at e1
  rw [hABp] at e2 ⊢
  rw [hBAp] at e3
  obtain ⟨AB, eAB⟩ : ∃ x, x = A ++ B := ⟨_, rfl⟩
  rw [← eAB] at e2 tAB tAB6 dAB6 lAB hAB_refs ⊢
  clear hA hB eAB hAp hBp hABp hBAp
  refine Eval.intro Try.func29 rfl Try.call29 _ _ (Nat.le_of_ble_eq_true rfl) (by simp [-map_take,-map_drop, AV.refs, refsL, hLr, hAB_refs]) fun hs0 => ?_
  repeat' (first
    | with_reducible first | apply thenW_n | apply W_seq
    | with_reducible refine W_rg ?_
    | (rw [vcn]; (try simp [-map_take,-map_drop, push_cast, hLr, hAB_refs, lAB, tAB, tAB6, dAB6, tA0, tB0, hAl, hBl, hA_refs, hB_refs]))
    | fail)
  refine CallG_of (e1) rfl (by simp [-map_take,-map_drop, natAV, d3AV, d3C, dAV, dC, rAV, rC, DP.av, dpC, ratD, RD.av, DP.av2, AV.refs, refsL, push_cast, hA_refs, hB_refs]) rfl ?_
  try dsimp only
  by_cases h0 : cmp3 a b = 0
  · have hr : beside3 l a b = (0, 0) := by unfold beside3; rw [if_pos h0]
    rw [hr, h0]
    repeat' (first
      | with_reducible first | apply thenW_n | apply thenW_ret | apply W_seq | apply W_ret
      | with_reducible refine W_rg ?_
      | (rw [vcn]; (try simp [-map_take,-map_drop, push_cast, hAB_refs, hLr]))
      | (with_reducible refine W_condW ?_; (try simp [-map_take,-map_drop, AS.val, upd, resB, mkS_env, mkS_box, lk, entry_env, condW_true, condW_false, hAB_refs, hLr]))
      | fail)
    simp [-map_take,-map_drop, post, resAV, resAll, resOne, closeV, closeC, closeL, resD, resDL, push_cast, hAB_refs, hLr]
  · have hr : beside3 l a b = (left3 l a b, left3 l b a) := by unfold beside3; rw [if_neg h0]
    rw [hr]
    have x1 : (cmp3 a b == 0) = false := beq_eq_false_iff_ne.2 h0
    have x1' : (cmp3 a b = 0) = False := eq_false h0
    repeat' (first
      | with_reducible first | apply thenW_n | apply W_seq | apply W_skip
      | (rw [vcn]; (try simp [-map_take,-map_drop, push_cast, x1, x1', hAB_refs, hLr, tAB, lAB]))
      | with_reducible refine W_drawn mixed (by decide) (by kernel_rfl) ?_
      | (rw [vcnD]; (try simp [-map_take,-map_drop, push_cast, x1, x1', hAB_refs, hLr, tAB, lAB]))
      | (with_reducible refine W_condW ?_; (try simp [-map_take,-map_drop, AS.val, upd, resB, mkS_env, mkS_box, lk, entry_env, condW_true, condW_false, x1, x1', hAB_refs, hLr, tAB, lAB]))
      | fail)
    refine callD_of (e2) rfl (by simp [-map_take,-map_drop, natAV, d3AV, d3C, dAV, dC, rAV, rC, DP.av, dpC, ratD, RD.av, DP.av2, AV.refs, refsL, push_cast, hAB_refs]) rfl ?_
    try dsimp only
    repeat' (first
      | (rw [vcnD]; (try simp [-map_take,-map_drop, push_cast, hAB_refs, hLr, tAB6, dAB6, lAB, tA0, tB0, hAl, hBl, hA_refs, hB_refs, br12]))
      | fail)
    refine callD_of (e3) rfl (by simp [-map_take,-map_drop, natAV, d3AV, d3C, dAV, dC, rAV, rC, DP.av, dpC, ratD, RD.av, DP.av2, AV.refs, refsL, push_cast, hA_refs, hB_refs, hBA_refs]) rfl ?_
    try dsimp only
    repeat' (first
      | with_reducible first | apply thenW_n | apply W_ret
      | (rw [vcnD]; (try simp [-map_take,-map_drop, push_cast, hAB_refs, hLr]))
      | refine And.intro (by first | omega | kernel_rfl) ?_
      | fail)
    simp [-map_take,-map_drop, post, resAV, resAll, resOne, closeV, closeC, closeL, resD, resDL, push_cast, hAB_refs, hLr]
end Go.Fw
