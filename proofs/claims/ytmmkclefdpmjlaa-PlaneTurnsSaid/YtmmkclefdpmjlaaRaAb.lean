import Derived.Test.YtmmkclefdpmjlaaRa4b
import Derived.Test.YtmmkclefdpmjlaaRa7b
import Derived.Test.YtmmkclefdpmjlaaP1
set_option linter.unusedSimpArgs false
set_option linter.unusedVariables false
-- VALS: zAV, zC, ratAV, ratC, ptAV, ptC, sgAV, sgC, dAV, dC, d3AV, d3C, ratD, RD.av, DP.av, dpC, dotAV
namespace Go.Fw
open Go Go.Proofs Go.IntWalk
set_option linter.unusedSimpArgs false
set_option maxRecDepth 100000
set_option maxHeartbeats 20000000
def dtC (a : Int × Int × Int) : List AV := [i64V a.1, i64V a.2.1, i64V a.2.2]
def dtsC (l : List (Int × Int × Int)) : List AV := l.flatMap dtC
theorem dtsC_len (l : List (Int × Int × Int)) : (dtsC l).length = l.length * 3 := by
  induction l with
  | nil => rfl
  | cons x t ih => show (dtC x ++ dtsC t).length = _; rw [List.length_append, ih, List.length_cons]; simp [dtC]; omega
theorem dtsC_refs (l : List (Int × Int × Int)) : refsL (dtsC l) = [] := by
  induction l with
  | nil => rfl
  | cons x t ih => show refsL (dtC x ++ dtsC t) = []; rw [refsL_append, ih]; rfl
theorem dtsC_at (l : List (Int × Int × Int)) (i : Nat) (h : i < l.length) : ∃ t, (dtsC l).drop (i * 3) = i64V l[i].1 :: i64V l[i].2.1 :: i64V l[i].2.2 :: t := by
  induction l generalizing i with
  | nil => cases h
  | cons x r ih =>
    cases i with
    | zero => exact ⟨dtsC r, rfl⟩
    | succ i =>
      obtain ⟨t, ht⟩ := ih i (by simpa using h)
      refine ⟨t, ?_⟩
      have e : (i + 1) * 3 = (dtC x).length + i * 3 := by simp [dtC]; omega
      show (dtC x ++ dtsC r).drop _ = _
      rw [e, List.drop_append, Nat.add_sub_cancel_left, ht, List.drop_eq_nil_of_le (Nat.le_add_right _ _)]
      rfl
def dtF (a : Int × Int × Int) : FP := dotF a.1 a.2.1 a.2.2
def rowF (l : List (Int × Int × Int)) : List FP := l.map dtF
def rowDD (l : List (Int × Int × Int)) : List DP := l.map dotD
theorem rowF_snoc (l : List (Int × Int × Int)) (a : Int × Int × Int) : ptsC (rowF (l ++ [a])) = ptsC (rowF l) ++ ptC (dtF a) := by
  unfold rowF ptsC; rw [List.map_append, List.flatMap_append]; simp
theorem rowDD_snoc (l : List (Int × Int × Int)) (a : Int × Int × Int) : dpsC (rowDD (l ++ [a])) = dpsC (rowDD l) ++ dpC (dotD a) := by
  unfold rowDD dpsC; rw [List.map_append, List.flatMap_append]; simp
theorem DB.dot {a : Int × Int × Int} (h : inD a) : DB (dotD a) := by
  have h1 := h.1
  have h2 := h.2
  have h3 := underI_pos a.2.2
  unfold inI at h1 h2
  refine ⟨?_, ?_, ?_, dotD_w a⟩
  · show a.1.natAbs < 2 ^ 64; omega
  · show a.2.1.natAbs < 2 ^ 64; omega
  · show (underI a.2.2).natAbs < 2 ^ 6; omega
theorem area_same (l : List (Int × Int × Int)) (hI : ∀ a ∈ l, inD a) : (mulD (fanD (rowDD l) (l.length - 2)) ⟨1, 2⟩).q = (areaF (rowF l)).q ∧ 0 < (mulD (fanD (rowDD l) (l.length - 2)) ⟨1, 2⟩).d := by
  have hv : ∀ i, ((rowDD l).getD i nilD).v = ((rowF l).getD i nilF).v := fun i => by
    unfold rowDD rowF
    rw [List.getD_eq_getElem?_getD, List.getD_eq_getElem?_getD, List.getElem?_map, List.getElem?_map]
    cases l[i]? with
    | none =>
      show (⟨Rat.divInt 0 1, Rat.divInt 0 1⟩ : V2) = ⟨0, 0⟩
      rw [Rat.zero_divInt]
    | some a => exact dotD_v a
  have hDB : ∀ p ∈ rowDD l, DB p := fun p hp => by
    obtain ⟨a, ha, rfl⟩ := List.mem_map.1 hp
    exact DB.dot (hI a ha)
  obtain ⟨h1, h2⟩ := fanD_q hDB hv (l.length - 2)
  obtain ⟨h3, h4⟩ := mulD_q (b := ⟨1, 2⟩) h2 (by show (0 : Int) < 2; omega)
  refine ⟨?_, h4⟩
  rw [h3, h1]
  have hl : (rowF l).length = l.length := by unfold rowF; rw [List.length_map]
  have e := areaS_fan (rowF l)
  rw [hl] at e
  show fanT (rowF l) (l.length - 2) * Rat.divInt 1 2 = areaS (rowF l) (List.range (rowF l).length) * Rat.divInt 1 2
  rw [hl, e]
end Go.Fw
namespace Go.Fw
open Go
theorem getD_lt {l : List FP} {i : Nat} (h : i < l.length) : l.getD i nilF = l[i] := by rw [List.getD_eq_getElem?_getD, List.getElem?_eq_getElem h]; rfl
def along : FP → List FP → Rat
  | _, [] => 0
  | p, q :: r => (p.x.q * q.y.q - p.y.q * q.x.q) + along q r
def lastF : FP → List FP → FP
  | p, [] => p
  | _, q :: r => lastF q r
theorem along_append (p : FP) (l m : List FP) : along p (l ++ m) = along p l + along (lastF p l) m := by
  induction l generalizing p with
  | nil => show along p m = 0 + along p m; grind
  | cons q r ih => show _ + along q (r ++ m) = _ + along q r + _; rw [ih]; show _ = _ + along q r + along (lastF q r) m; grind
theorem lastF_append (p : FP) (l : List FP) (q : FP) : lastF p (l ++ [q]) = q := by
  induction l generalizing p with
  | nil => rfl
  | cons x r ih => exact ih x
def ringF : List FP → Rat
  | [] => 0
  | p :: r => along p (r ++ [p])
theorem along_one (p q : FP) : along p [q] = p.x.q * q.y.q - p.y.q * q.x.q := by show _ + (0 : Rat) = _; grind
theorem ring_turn (p : FP) (r : List FP) : ringF (r ++ [p]) = ringF (p :: r) := by
  cases r with
  | nil => rfl
  | cons q r =>
    show along q ((r ++ [p]) ++ [q]) = along p ((q :: r) ++ [p])
    have e1 : along p ((q :: r) ++ [p]) = (p.x.q * q.y.q - p.y.q * q.x.q) + along q (r ++ [p]) := rfl
    rw [along_append, lastF_append, along_one, e1]
    grind
theorem along_rev (p : FP) (l : List FP) (q : FP) : along q (l.reverse ++ [p]) = -along p (l ++ [q]) := by
  induction l generalizing p with
  | nil => show along q [p] = -along p [q]; rw [along_one, along_one]; grind
  | cons x r ih =>
    have e1 : along p ((x :: r) ++ [q]) = (p.x.q * x.y.q - p.y.q * x.x.q) + along x (r ++ [q]) := rfl
    rw [List.reverse_cons, along_append, lastF_append, ih x, along_one, e1]
    grind
theorem ring_rev (l : List FP) : ringF l.reverse = -ringF l := by
  cases l with
  | nil => show (0 : Rat) = -0; grind
  | cons p r =>
    rw [List.reverse_cons, ring_turn]
    show along p (r.reverse ++ [p]) = -along p (r ++ [p])
    exact along_rev p r p
theorem lastF_take (p : FP) (r : List FP) : ∀ k, k ≤ r.length → lastF p (r.take k) = (p :: r).getD k nilF
  | 0, _ => rfl
  | k + 1, h => by
    rw [List.take_succ_eq_append_getElem (by omega), lastF_append, getD_lt (by simp; omega)]
    rfl
theorem shS_along (p : FP) (r : List FP) : ∀ k, k ≤ r.length → shS (p :: r) k = along p (r.take k)
  | 0, _ => rfl
  | k + 1, h => by
    show shS (p :: r) k + shX (p :: r) k (k + 1) = _
    rw [shS_along p r k (by omega), List.take_succ_eq_append_getElem (by omega), along_append, along_one, lastF_take p r k (by omega)]
    unfold shX
    have e : (p :: r).getD (k + 1) nilF = r[k] := by rw [getD_lt (by simp; omega)]; rfl
    rw [e]
theorem areaS_ring (l : List FP) : areaS l (List.range l.length) = ringF l := by
  cases l with
  | nil => rfl
  | cons p r =>
    rw [List.length_cons, List.range_succ, areaS_snoc, areaS_sh (p :: r) r.length (by simp), shS_along p r r.length (Nat.le_refl _), List.take_length, List.length_cons, Nat.mod_self]
    show _ = along p (r ++ [p])
    rw [along_append, along_one]
    have e1 := lastF_take p r r.length (Nat.le_refl _)
    rw [List.take_length] at e1
    have e0 : (p :: r).getD 0 nilF = p := rfl
    rw [e1, e0]
    grind
theorem area_rev (l : List FP) : (areaF l.reverse).q = -(areaF l).q := by
  show areaS l.reverse (List.range l.reverse.length) * _ = -(areaS l (List.range l.length) * _)
  rw [areaS_ring, areaS_ring, ring_rev]
  grind
theorem area_turn (p : FP) (r : List FP) : (areaF (r ++ [p])).q = (areaF (p :: r)).q := by
  show areaS (r ++ [p]) (List.range (r ++ [p]).length) * _ = areaS (p :: r) (List.range (p :: r).length) * _
  rw [areaS_ring, areaS_ring, ring_turn]
end Go.Fw
-- VALS: zAV, zC, ratAV, ratC, ptAV, ptC, sgAV, sgC, dAV, dC, d3AV, d3C, ratD, RD.av, DP.av, dpC, dotAV
namespace Go.Fw
open Go Go.Proofs Go.IntWalk
set_option linter.unusedSimpArgs false
set_option maxRecDepth 100000
set_option maxHeartbeats 20000000
theorem crossV_turn (a b c : V2) : cross b c a = cross a b c := by unfold cross; grind
theorem crossV_swap (a b c : V2) : -cross b a c = cross a b c := by unfold cross; grind
theorem crossV_fan (a b c d : V2) : cross a b d + cross b c d + cross c a d = cross a b c := by unfold cross; grind
theorem crossF_ok {a b c : Int × Int × Int} (ha : inD a) (hb : inD b) (hc : inD c) : Eval Try.prog 17 [ptAV (dtF a), ptAV (dtF b), ptAV (dtF c)] (.ret (ratAV (.of (cross (dtF a).v (dtF b).v (dtF c).v)))) := by
  have ya := (HD.dot ha).sz
  have yb := (HD.dot hb).sz
  have yc := (HD.dot hc).sz
  exact cross_ok (dtF a) (dtF b) (dtF c) (by show szV (dotF _ _ _) + szV (dotF _ _ _) + szV (dotF _ _ _) ≤ _; omega)
theorem l11AtF_ok (a : Int × Int × Int) (h : inD a) : Eval Try.prog 10 [dotAV a] (.ret (ptAV (dtF a))) := l11At_ok' a h
theorem crossF_bits {a b c : Int × Int × Int} (ha : inD a) (hb : inD b) (hc : inD c) : HB (cross (dtF a).v (dtF b).v (dtF c).v) 219 96 := HP.cross (HD.hp' (HD.dot ha)) (HD.hp' (HD.dot hb)) (HD.hp' (HD.dot hc))
theorem sameR_ok (a b : FQ) (h : szQ a.q + szQ b.q ≤ 200000) (e : a.q = b.q) : Eval Try.prog 18 [ratAV a, ratAV b] (.ret (i64V 0)) := by
  have h1 := cmpR_ok a b h
  have h2 : cmpZ (a.q.num * b.q.den) (b.q.num * a.q.den) = 0 := by rw [e]; unfold cmpZ; rw [if_neg (by omega), if_neg (by omega)]
  rwa [h2] at h1
end Go.Fw
-- VALS: zAV, zC, ratAV, ratC, ptAV, ptC, sgAV, sgC, dAV, dC, d3AV, d3C, ratD, RD.av, DP.av, dpC, dotAV
namespace Go.Fw
open Go Go.Proofs Go.IntWalk
set_option linter.unusedSimpArgs false
set_option maxRecDepth 100000
set_option maxHeartbeats 20000000
open List (map_take map_drop)
attribute [local push_cast] optK_some optK_none optK_ite optK_map optK_bind gOn stepK isMem evPure evMem evBin evUn evConv evLen evBuiltin evMinMax evSlice evBuild evAppend evIndex evIndexAddr evField evFieldAddr intBin strBin appDest AS.val AS.mem AS.elems AS.put AS.put' AS.eff AV.cells? AV.isCell AV.refs all_isByte take_byteV drop_byteV strOf_map bndOk bnd partAV ptrAdd killBox catA inOrder fillA setAt ofVal resB upd byteV List.head?_take List.head?_drop List.getElem?_map mkS_env mkS_box mkS_used entry_env entry_box entry_used lk stepD lookIds Oper.looksAt Op.operands Call.operands St.ids refsL renL_append ren renL renBox Box.refs iV i64V boolV dV_getElem dV_app dV_cons toNat_add2 toNat_add1
attribute [local simp ↓] numC_refs numC_isCell numC_cells numC_resB numC_resD numC_ren numC_closeC numC_isOwn
theorem lawTurnsA_ok (f : Bool) (a b c d : Int × Int × Int) (l : List (Int × Int × Int)) (ha : inD a) (hb : inD b) (hc : inD c) (hd : inD d) (hI : ∀ a ∈ l, inD a) : Eval Try.prog 4 [dotAV a, dotAV b, dotAV c, dotAV d, .slc f 3 l.length (dtsC l)] (.ret (.v (.bool true))) := by
  have p1 := l11AtF_ok a ha
  have p2 := l11AtF_ok b hb
  have p3 := l11AtF_ok c hc
  have p4 := l11AtF_ok d hd
  have k1 := crossF_ok ha hb hc
  have k2 := crossF_ok hb hc ha
  have k3 := crossF_ok hb ha hc
  have k4 := crossF_ok ha hb hd
  have k5 := crossF_ok hb hc hd
  have k6 := crossF_ok hc ha hd
  have z1 := (crossF_bits ha hb hc).sz
  have z2 := (crossF_bits hb hc ha).sz
  have z3 := (crossF_bits hb ha hc).sz
  have z4 := crossF_bits ha hb hd
  have z5 := crossF_bits hb hc hd
  have z6 := crossF_bits hc ha hd
  have n3 := negR_ok (.of (cross (dtF b).v (dtF a).v (dtF c).v)) (by show szQ (cross _ _ _) ≤ _; omega)
  have hz45 := z4.add z5 400 (by omega) (by omega)
  have hz456 := hz45.add z6 1000 (by omega) (by omega)
  have s4 := z4.sz
  have s5 := z5.sz
  have s6 := z6.sz
  have s45 := hz45.sz
  have s456 := hz456.sz
  have a1 := addR_ok (.of (cross (dtF a).v (dtF b).v (dtF d).v)) (.of (cross (dtF b).v (dtF c).v (dtF d).v)) (by show szQ (cross _ _ _) + szQ (cross _ _ _) ≤ _; omega)
  have a2 := addR_ok (.of (cross (dtF a).v (dtF b).v (dtF d).v + cross (dtF b).v (dtF c).v (dtF d).v)) (.of (cross (dtF c).v (dtF a).v (dtF d).v)) (by show szQ (_ + _) + szQ (cross _ _ _) ≤ _; omega)
  have c1 := sameR_ok (.of (cross (dtF a).v (dtF b).v (dtF c).v)) (.of (cross (dtF b).v (dtF c).v (dtF a).v)) (by show szQ (cross _ _ _) + szQ (cross _ _ _) ≤ _; omega) (crossV_turn _ _ _).symm
  have c2 := sameR_ok (.of (cross (dtF a).v (dtF b).v (dtF c).v)) (FQ.of (cross (dtF b).v (dtF a).v (dtF c).v)).neg (by show szQ (cross _ _ _) + szQ (-cross _ _ _) ≤ _; rw [szQ_neg]; omega) (crossV_swap _ _ _).symm
  have c3 := sameR_ok (.of (cross (dtF a).v (dtF b).v (dtF d).v + cross (dtF b).v (dtF c).v (dtF d).v + cross (dtF c).v (dtF a).v (dtF d).v)) (.of (cross (dtF a).v (dtF b).v (dtF c).v)) (by show szQ (_ + _ + _) + szQ (cross _ _ _) ≤ _; omega) (crossV_fan _ _ _ _)
  have ofq : ∀ q, (FQ.of q).q = q := fun _ => rfl
  simp only [ofq] at a1 a2
  clear z1 z2 z3 z4 z5 z6 hz45 hz456 s4 s5 s6 s45 s456 ofq
  obtain ⟨K1, nm_⟩ : ∃ nm0_, nm0_ = FQ.of (cross (dtF a).v (dtF b).v (dtF c).v) := ⟨_, rfl⟩
  simp only [← nm_] at k1 c1 c2 c3
  clear nm_
  obtain ⟨K2, nm_⟩ : ∃ nm0_, nm0_ = FQ.of (cross (dtF b).v (dtF c).v (dtF a).v) := ⟨_, rfl⟩
  simp only [← nm_] at k2 c1
  clear nm_
  obtain ⟨N3, nm_⟩ : ∃ nm0_, nm0_ = (FQ.of (cross (dtF b).v (dtF a).v (dtF c).v)).neg := ⟨_, rfl⟩
  simp only [← nm_] at n3 c2
  clear nm_
  obtain ⟨K3, nm_⟩ : ∃ nm0_, nm0_ = FQ.of (cross (dtF b).v (dtF a).v (dtF c).v) := ⟨_, rfl⟩
  simp only [← nm_] at k3 n3
  clear nm_
  obtain ⟨A2, nm_⟩ : ∃ nm0_, nm0_ = FQ.of (cross (dtF a).v (dtF b).v (dtF d).v + cross (dtF b).v (dtF c).v (dtF d).v + cross (dtF c).v (dtF a).v (dtF d).v) := ⟨_, rfl⟩
  simp only [← nm_] at a2 c3
  clear nm_
  obtain ⟨A1, nm_⟩ : ∃ nm0_, nm0_ = FQ.of (cross (dtF a).v (dtF b).v (dtF d).v + cross (dtF b).v (dtF c).v (dtF d).v) := ⟨_, rfl⟩
  simp only [← nm_] at a1 a2
  clear nm_
  obtain ⟨K4, nm_⟩ : ∃ nm0_, nm0_ = FQ.of (cross (dtF a).v (dtF b).v (dtF d).v) := ⟨_, rfl⟩
  simp only [← nm_] at k4 a1
  clear nm_
  obtain ⟨K5, nm_⟩ : ∃ nm0_, nm0_ = FQ.of (cross (dtF b).v (dtF c).v (dtF d).v) := ⟨_, rfl⟩
  simp only [← nm_] at k5 a1
  clear nm_
  obtain ⟨K6, nm_⟩ : ∃ nm0_, nm0_ = FQ.of (cross (dtF c).v (dtF a).v (dtF d).v) := ⟨_, rfl⟩
  simp only [← nm_] at k6 a2
  clear nm_
  obtain ⟨X, nm_⟩ : ∃ nm0_, nm0_ = dtF a := ⟨_, rfl⟩
  simp only [← nm_] at p1 k1 k2 k3 k4 k6
  clear nm_
  obtain ⟨Y, nm_⟩ : ∃ nm0_, nm0_ = dtF b := ⟨_, rfl⟩
  simp only [← nm_] at p2 k1 k2 k3 k4 k5
  clear nm_
  obtain ⟨Z, nm_⟩ : ∃ nm0_, nm0_ = dtF c := ⟨_, rfl⟩
  simp only [← nm_] at p3 k1 k2 k3 k5 k6
  clear nm_
  obtain ⟨W, nm_⟩ : ∃ nm0_, nm0_ = dtF d := ⟨_, rfl⟩
  simp only [← nm_] at p4 k4 k5 k6
  clear nm_
  refine Eval.intro Try.func4 rfl Try.call4 _ _ (Nat.le_of_ble_eq_true rfl) (by simp [-map_take,-map_drop, AV.refs, refsL, natAV, zAV, zC, ratAV, ratC, ptAV, ptC, sgAV, sgC, dAV, dC, d3AV, d3C, ratD, RD.av, DP.av, dpC, dotAV, push_cast]) fun hs0 => ?_
  clear ha hb hc hd
  repeat' (first
    | with_reducible first | apply thenW_n | apply W_seq
    | with_reducible refine W_rg ?_
    | (rw [vcn]; (try simp [-map_take,-map_drop, push_cast, ptAV, ptC, ratAV, ratC, zAV, zC, dotAV]))
    | with_reducible refine W_drawn mixed (by decide) (by kernel_rfl) ?_
    | (rw [vcnD]; (try simp [-map_take,-map_drop, push_cast, ptAV, ptC, ratAV, ratC, zAV, zC, dotAV]))
    | fail)
  refine callD_of (p1) rfl rfl rfl ?_
  try dsimp only
  repeat' (first
    | (rw [vcnD]; (try simp [-map_take,-map_drop, push_cast, ptAV, ptC, ratAV, ratC, zAV, zC, dotAV]))
    | fail)
  refine callD_of (p2) rfl rfl rfl ?_
  try dsimp only
  repeat' (first
    | (rw [vcnD]; (try simp [-map_take,-map_drop, push_cast, ptAV, ptC, ratAV, ratC, zAV, zC, dotAV]))
    | fail)
  refine callD_of (p3) rfl rfl rfl ?_
  try dsimp only
  repeat' (first
    | (rw [vcnD]; (try simp [-map_take,-map_drop, push_cast, ptAV, ptC, ratAV, ratC, zAV, zC, dotAV]))
    | fail)
  refine callD_of (p4) rfl rfl rfl ?_
  try dsimp only
  repeat' (first
    | with_reducible first | apply thenW_n | apply W_seq
    | with_reducible refine W_rg ?_
    | (rw [vcn]; (try simp [-map_take,-map_drop, push_cast, ptAV, ptC, ratAV, ratC, zAV, zC, dotAV]))
    | (rw [vcnD]; (try simp [-map_take,-map_drop, push_cast, ptAV, ptC, ratAV, ratC, zAV, zC, dotAV]))
    | refine And.intro (by first | omega | kernel_rfl) ?_
    | fail)
  refine CallG_of (k1) rfl rfl rfl ?_
  try dsimp only
  repeat' (first
    | with_reducible first | apply thenW_n | apply W_seq
    | (rw [vcn]; (try simp [-map_take,-map_drop, push_cast, ptAV, ptC, ratAV, ratC, zAV, zC, dotAV]))
    | with_reducible refine W_drawn mixed (by decide) (by kernel_rfl) ?_
    | (rw [vcnD]; (try simp [-map_take,-map_drop, push_cast, ptAV, ptC, ratAV, ratC, zAV, zC, dotAV]))
    | fail)
  refine callD_of (known11_ok) rfl rfl rfl ?_
  try dsimp only
  repeat' (first
    | (rw [vcnD]; (try simp [-map_take,-map_drop, push_cast, ptAV, ptC, ratAV, ratC, zAV, zC, dotAV]))
    | fail)
  refine callD_of (k2) rfl rfl rfl ?_
  try dsimp only
  repeat' (first
    | (rw [vcnD]; (try simp [-map_take,-map_drop, push_cast, ptAV, ptC, ratAV, ratC, zAV, zC, dotAV]))
    | fail)
  refine callD_of (c1) rfl rfl rfl ?_
  try dsimp only
  repeat' (first
    | (rw [vcnD]; (try simp [-map_take,-map_drop, push_cast, ptAV, ptC, ratAV, ratC, zAV, zC, dotAV]))
    | fail)
  refine callD_of (k3) rfl rfl rfl ?_
  try dsimp only
  repeat' (first
    | (rw [vcnD]; (try simp [-map_take,-map_drop, push_cast, ptAV, ptC, ratAV, ratC, zAV, zC, dotAV]))
    | fail)
  refine callD_of (n3) rfl rfl rfl ?_
  try dsimp only
  repeat' (first
    | (rw [vcnD]; (try simp [-map_take,-map_drop, push_cast, ptAV, ptC, ratAV, ratC, zAV, zC, dotAV]))
    | fail)
  refine callD_of (c2) rfl rfl rfl ?_
  try dsimp only
  repeat' (first
    | (rw [vcnD]; (try simp [-map_take,-map_drop, push_cast, ptAV, ptC, ratAV, ratC, zAV, zC, dotAV]))
    | fail)
  refine callD_of (k4) rfl rfl rfl ?_
  try dsimp only
  repeat' (first
    | (rw [vcnD]; (try simp [-map_take,-map_drop, push_cast, ptAV, ptC, ratAV, ratC, zAV, zC, dotAV]))
    | fail)
  refine callD_of (k5) rfl rfl rfl ?_
  try dsimp only
  repeat' (first
    | (rw [vcnD]; (try simp [-map_take,-map_drop, push_cast, ptAV, ptC, ratAV, ratC, zAV, zC, dotAV]))
    | fail)
  refine callD_of (a1) rfl rfl rfl ?_
  try dsimp only
  repeat' (first
    | (rw [vcnD]; (try simp [-map_take,-map_drop, push_cast, ptAV, ptC, ratAV, ratC, zAV, zC, dotAV]))
    | fail)
  refine callD_of (k6) rfl rfl rfl ?_
  try dsimp only
  repeat' (first
    | (rw [vcnD]; (try simp [-map_take,-map_drop, push_cast, ptAV, ptC, ratAV, ratC, zAV, zC, dotAV]))
    | fail)
  refine callD_of (a2) rfl rfl rfl ?_
  try dsimp only
  repeat' (first
    | (rw [vcnD]; (try simp [-map_take,-map_drop, push_cast, ptAV, ptC, ratAV, ratC, zAV, zC, dotAV]))
    | fail)
  refine callD_of (c3) rfl rfl rfl ?_
  try dsimp only
  obtain ⟨n, hn⟩ : ∃ n, n = l.length := ⟨_, rfl⟩
  obtain ⟨L, hL⟩ : ∃ x, x = dtsC l := ⟨_, rfl⟩
  have hLr : refsL L = [] := by rw [hL]; exact dtsC_refs _
  have hLn : ∀ ρ, renL ρ L = L := fun ρ => renL_id ρ _ hLr
  have hLl : L.length = n * 3 := by rw [hL, hn, dtsC_len]
  have hat : ∀ i (h : i < l.length), ∃ t, L.drop (i * 3) = i64V l[i].1 :: i64V l[i].2.1 :: i64V l[i].2.2 :: t := fun i h => by rw [hL]; exact dtsC_at l i h
  rw [← hL]
  simp only [← hn]
  clear hL hs0
  clear p1 p2 p3 p4 k1 k2 k3 k4 k5 k6 c1 c2 c3 n3 a1 a2
  repeat' (first
    | with_reducible first | apply thenW_n | apply W_seq | apply W_skip
    | with_reducible refine W_rg ?_
    | (rw [vcn]; (try simp [-map_take,-map_drop, push_cast, ptAV, ptC, ratAV, ratC, zAV, zC]))
    | (rw [vcnD]; (try simp [-map_take,-map_drop, push_cast, ptAV, ptC, ratAV, ratC, zAV, zC]))
    | (with_reducible refine W_condW ?_; (try simp [-map_take,-map_drop, AS.val, upd, resB, mkS_env, mkS_box, lk, entry_env, condW_true, condW_false, ptAV, ptC, ratAV, ratC, zAV, zC]))
    | refine And.intro (by first | omega | kernel_rfl) ?_
    | fail)
  have hPr : ∀ m, refsL (ptsC (rowF m)) = [] := fun m => ptsC_refs _
  have hPn : ∀ m ρ, renL ρ (ptsC (rowF m)) = ptsC (rowF m) := fun m ρ => renL_id ρ _ (hPr m)
  have hPl : ∀ m, (ptsC (rowF m)).length = m.length * 8 := fun m => by rw [ptsC_len]; unfold rowF; rw [List.length_map]
  have hP0 : ptsC (rowF []) = [] := rfl
  have hR0 : ([] : List (Int × Int × Int)).reverse = [] := rfl
  refine W_joinQ (X := Nat) (fun i => [(16, .bs 500 8 0 i), (17, .bs 501 8 0 i), (18, .v (.slice none 0 0))]) (fun i => [(500, .mut 33 (ptsC (rowF (l.take i)))), (501, .mut 33 (ptsC (rowF (l.take i).reverse)))]) (fun i => i ≤ n ∧ i ≤ 40) ?_ fun i hi => ?_
  · refine W_nil 16 500 33 8 (by simp [-map_take,-map_drop, upd, mkS_env, entry_env, lk]) (by simp [-map_take,-map_drop, mkS_used, entry_used]) ?_
    refine W_nil 17 501 33 8 (by simp [-map_take,-map_drop, upd, mkS_env, entry_env, lk]) (by simp [-map_take,-map_drop, mkS_used, entry_used]) ?_
    repeat' (first
      | with_reducible apply W_block
      | fail)
    refine W_loopW (X := Nat) (fun i => [(4, .slc f 3 n L), (16, .bs 500 8 0 i), (17, .bs 501 8 0 i), (18, .v (.slice none 0 0)), (19, i64V i)]) (fun i => [(500, .mut 33 (ptsC (rowF (l.take i)))), (501, .mut 33 (ptsC (rowF (l.take i).reverse)))]) (fun i => 50 - i)
      (fun i => i ≤ n ∧ i ≤ 40) 0 id (by omega) ⟨?_, ?_, ?_, ?_, ?_, ?_⟩ fun i hi => ?_
    all_goals first | (with_reducible refine W_id ?_) | (simp [-map_take,-map_drop, push_cast, dV_take, dV_drop, hLr, hLn, hP0, List.take_zero, hR0]; done)
    have k1 := hPr (l.take i)
    have k2 := hPn (l.take i)
    have k3 := hPr (l.take i).reverse
    have k4 := hPn (l.take i).reverse
    by_cases c1 : ¬ i < n
    · have y1 : (i < n) = False := eq_false c1
      have y2 : ((i : Int) < (n : Int)) = False := eq_false (by omega)
      repeat' (first
        | with_reducible first | apply thenW_n | apply thenW_exit | apply blockW_same | apply loopW_exit | apply W_seq | apply W_exit
        | with_reducible refine W_rg ?_
        | (rw [vcn]; (try simp [-map_take,-map_drop, push_cast, y1, y2]))
        | (with_reducible refine W_condW ?_; (try simp [-map_take,-map_drop, AS.val, upd, resB, mkS_env, mkS_box, lk, entry_env, condW_true, condW_false, y1, y2]))
        | fail)
      refine joinW_n i id hi ⟨?_, ?_, ?_, ?_, ?_, ?_⟩
      all_goals first | (simp [-map_take,-map_drop, push_cast, dV_take, dV_drop, k1, k2, k3, k4]; done)
    have c1 : i < n := by omega
    have y1 : (i < n) = True := eq_true c1
    have y2 : ((i : Int) < (n : Int)) = True := eq_true (by omega)
    by_cases c2 : ¬ i < 40
    · have y3 : (i < 40) = False := eq_false c2
      have y4 : ((i : Int) < 40) = False := eq_false (by omega)
      repeat' (first
        | with_reducible first | apply thenW_n | apply thenW_exit | apply blockW_same | apply loopW_exit | apply W_seq | apply W_exit
        | with_reducible refine W_rg ?_
        | (rw [vcn]; (try simp [-map_take,-map_drop, push_cast, y1, y2, y3, y4]))
        | (with_reducible refine W_condW ?_; (try simp [-map_take,-map_drop, AS.val, upd, resB, mkS_env, mkS_box, lk, entry_env, condW_true, condW_false, y1, y2, y3, y4]))
        | fail)
      refine joinW_n i id hi ⟨?_, ?_, ?_, ?_, ?_, ?_⟩
      all_goals first | (simp [-map_take,-map_drop, push_cast, dV_take, dV_drop, k1, k2, k3, k4]; done)
    have c2 : i < 40 := by omega
    have y3 : (i < 40) = True := eq_true c2
    have y4 : ((i : Int) < 40) = True := eq_true (by omega)
    have hil : i < l.length := by omega
    obtain ⟨t1, ht1⟩ := hat i hil
    have hA := hI _ (List.getElem_mem hil)
    have htk : l.take (i + 1) = l.take i ++ [l[i]] := List.take_succ_eq_append_getElem hil
    have s1 := rowF_snoc (l.take i) l[i]
    have d1 : ptsC (rowF (l.take (i + 1)).reverse) = ptC (dtF l[i]) ++ ptsC (rowF (l.take i).reverse) := by rw [htk, List.reverse_append]; rfl
    rw [← htk] at s1
    have k5 := hPl (l.take i)
    have k6 := hPl (l.take i).reverse
    rw [List.length_reverse] at k6
    rw [List.length_take, Nat.min_eq_left (by omega)] at k5 k6
    have k7 := hPr (l.take (i + 1))
    have k8 := hPn (l.take (i + 1))
    have k9 := hPr (l.take (i + 1)).reverse
    have k10 := hPn (l.take (i + 1)).reverse
    obtain ⟨A, eA⟩ : ∃ A, A = l[i] := ⟨_, rfl⟩
    rw [← eA] at ht1 hA s1 d1
    have pA := l11AtF_ok A hA
    obtain ⟨S, hS⟩ : ∃ S, S = ptsC (rowF (l.take i)) := ⟨_, rfl⟩
    obtain ⟨S', hS'⟩ : ∃ S, S = ptsC (rowF (l.take (i + 1))) := ⟨_, rfl⟩
    obtain ⟨D, hD⟩ : ∃ S, S = ptsC (rowF (l.take i).reverse) := ⟨_, rfl⟩
    obtain ⟨D', hD'⟩ : ∃ S, S = ptsC (rowF (l.take (i + 1)).reverse) := ⟨_, rfl⟩
    simp only [← hS, ← hS', ← hD, ← hD'] at s1 d1 k1 k2 k3 k4 k5 k6 k7 k8 k9 k10 ⊢
    have eS' := hS'.symm
    have eD' := hD'.symm
    have tD : D.take (i * 8) = D := List.take_of_length_le (by omega)
    obtain ⟨PA, nm_⟩ : ∃ nm0_, nm0_ = dtF A := ⟨_, rfl⟩
    simp only [← nm_] at pA s1 d1
    clear nm_
    unfold dotAV at pA
    obtain ⟨a0, a1, a2⟩ := A
    simp only at ht1 pA
    clear hS hS' hD hD' eA hat htk hPr hPn hPl hP0
    repeat' (first
      | with_reducible first | apply thenW_n | apply W_seq | apply W_skip
      | with_reducible refine W_rg ?_
      | (rw [vcn]; (try simp [-map_take,-map_drop, push_cast, y1, y2, y3, y4]))
      | (with_reducible refine W_condW ?_; (try simp [-map_take,-map_drop, AS.val, upd, resB, mkS_env, mkS_box, lk, entry_env, condW_true, condW_false, y1, y2, y3, y4]))
      | fail)
    refine W_block ?_
    refine W_seq ?_
    refine W_joinQ (X := Unit) (fun _ => [(4, .slc f 3 n L), (16, .bs 500 8 0 (i + 1)), (17, .bs 501 8 0 i), (18, .v (.slice none 0 0)), (19, i64V i)]) (fun _ => [(500, .mut 33 S'), (501, .mut 33 D)]) (fun _ => True) ?_ fun _ _ => ?_
    · repeat' (first
        | with_reducible refine W_rg ?_
        | (rw [vcn]; (try simp [-map_take,-map_drop, push_cast, ht1, hLl, c1, c2]))
        | fail)
      refine CallG_of (pA) rfl rfl rfl ?_
      try dsimp only
      repeat' (first
        | (rw [vcn]; (try simp [-map_take,-map_drop, push_cast, ptAV, ptC, ratC, zC, k5]))
        | refine And.intro (by first | omega | kernel_rfl) ?_
        | fail)
      refine joinW_n () (fun i => if i = 500 then 89 else i) trivial ⟨?_, ?_, ?_, ?_, ?_, ?_⟩
      all_goals first | (simp [-map_take,-map_drop, push_cast, dV_take, dV_drop, hLr, hLn, k1, k2, k3, k4, k7, k8, s1, ptC, ratC, zC]; done) | (simp [-map_take,-map_drop, push_cast, dV_take, dV_drop, hLr, hLn, k1, k2, k3, k4, k7, k8, s1, ptC, ratC, zC]; omega)
    repeat' (first
      | with_reducible refine W_rg ?_
      | (rw [vcn]; (try simp [-map_take,-map_drop, push_cast, ht1, hLl, c1, c2]))
      | fail)
    refine CallG_of (pA) rfl rfl rfl ?_
    try dsimp only
    repeat' (first
      | with_reducible first | apply thenW_n | apply blockW_n
      | with_reducible refine W_rg ?_
      | (rw [vcn]; (try simp [-map_take,-map_drop, push_cast, ptAV, ptC, ratC, zC, k6]); try simp (disch := omega) only [i64_in, u64_in, shr64i])
      | refine And.intro (by first | omega | kernel_rfl) ?_
      | fail)
    refine loopW_n (i + 1) (fun i => if i = 501 then 97 else i) (by omega) (by omega) ⟨?_, ?_, ?_, ?_, ?_, ?_⟩
    all_goals first | (simp [-map_take,-map_drop, push_cast, dV_take, dV_drop, hLr, hLn, k3, k4, k7, k8, k9, k10, d1, eS', eD', tD, ptC, ratC, zC]; done) | (simp [-map_take,-map_drop, push_cast, dV_take, dV_drop, hLr, hLn, k3, k4, k7, k8, k9, k10, d1, eS', eD', tD, ptC, ratC, zC]; omega)
  obtain ⟨m, hm⟩ : ∃ m, m = l.take i := ⟨_, rfl⟩
  have hml : m.length = i := by rw [hm, List.length_take]; omega
  have hIm : ∀ a ∈ m, inD a := fun a ha => hI a (List.mem_of_mem_take (by rw [← hm]; exact ha))
  have hHD : ∀ (m : List (Int × Int × Int)), (∀ a ∈ m, inD a) → ∀ p ∈ rowF m, HD p := fun m hIm p hp => by
    obtain ⟨a, ha, rfl⟩ := List.mem_map.1 hp
    exact HD.dot (hIm a ha)
  have hFl : ∀ m, (rowF m).length = m.length := fun m => by unfold rowF; rw [List.length_map]
  have sz : ∀ m : List (Int × Int × Int), (∀ a ∈ m, inD a) → m.length ≤ 40 → szQ (areaF (rowF m)).q ≤ 1000 := fun m h1 h2 => by
    have b1 := (areaS_sz (hHD m h1) (List.range (rowF m).length))
    have b2 := (b1.mul (show HB (Rat.divInt 1 2) 2 3 from ⟨by decide +kernel, by decide +kernel⟩)).sz
    rw [List.length_range, hFl] at b2
    show szQ (areaS (rowF m) (List.range (rowF m).length) * Rat.divInt 1 2) ≤ _
    rw [hFl]
    omega
  simp only [← hm]
  refine W_frz 500 (e := 33) (l := ptsC (rowF m)) (by simp [-map_take,-map_drop, mkS_box, lk]) (hPr m) ?_
  refine W_frz 501 (e := 33) (l := ptsC (rowF m.reverse)) (by simp [-map_take,-map_drop, upd, mkS_box, lk]) (hPr _) ?_
  by_cases h0 : i = 0
  · subst h0
    have hm0 : m = [] := List.eq_nil_of_length_eq_zero hml
    subst hm0
    have e1 := area_ok false [] (by simp [-map_take,-map_drop]) (fun p hp => by cases hp)
    have e2 := negR_ok (areaF []) (by have := sz [] (by simp [-map_take,-map_drop]) (by simp [-map_take,-map_drop]); exact Nat.le_trans this (by omega))
    have e3 := sameR_ok (areaF []) (areaF []).neg (by have := sz [] (by simp [-map_take,-map_drop]) (by simp [-map_take,-map_drop]); show szQ (areaF (rowF [])).q + szQ (-(areaF (rowF [])).q) ≤ _; rw [szQ_neg]; omega) (area_rev [])
    have e4 := sameR_ok (areaF []) (areaF []) (by have := sz [] (by simp [-map_take,-map_drop]) (by simp [-map_take,-map_drop]); show szQ (areaF (rowF [])).q + szQ (areaF (rowF [])).q ≤ _; omega) rfl
    refine W_sub 18 (v := .slc false 8 0 []) (Sub.nil false 8) ?_
    have hp0 : ptsC (rowF []) = [] := rfl
    have hp1 : ptsC (rowF ([] : List (Int × Int × Int)).reverse) = [] := rfl
    have hp2 : ptsC ([] : List FP) = [] := rfl
    rw [hp2] at e1
    rw [hp0, hp1]
    obtain ⟨A, nm_⟩ : ∃ nm0_, nm0_ = areaF [] := ⟨_, rfl⟩
    simp only [← nm_] at e1 e2 e3 e4
    clear nm_
    obtain ⟨B, nm_⟩ : ∃ nm0_, nm0_ = A.neg := ⟨_, rfl⟩
    simp only [← nm_] at e2 e3
    clear nm_
    repeat' (first
      | with_reducible first | apply thenW_n | apply W_seq | apply W_skip
      | with_reducible refine W_rg ?_
      | (rw [vcn]; (try simp [-map_take,-map_drop, push_cast]))
      | (with_reducible refine W_condW ?_; (try simp [-map_take,-map_drop, AS.val, upd, resB, mkS_env, mkS_box, lk, entry_env, condW_true, condW_false]))
      | fail)
    refine CallG_of (e1) rfl rfl rfl ?_
    try dsimp only
    repeat' (first
      | (rw [vcn]; (try simp [-map_take,-map_drop, push_cast, ratAV, ratC, zC]))
      | fail)
    refine CallG_of (e1) rfl rfl rfl ?_
    try dsimp only
    repeat' (first
      | (rw [vcn]; (try simp [-map_take,-map_drop, push_cast, ratAV, ratC, zC]))
      | fail)
    refine CallG_of (e2) rfl rfl rfl ?_
    try dsimp only
    repeat' (first
      | (rw [vcn]; (try simp [-map_take,-map_drop, push_cast, ratAV, ratC, zC]))
      | fail)
    refine CallG_of (e3) rfl rfl rfl ?_
    try dsimp only
    repeat' (first
      | (rw [vcn]; (try simp [-map_take,-map_drop, push_cast, ratAV, ratC, zC]))
      | fail)
    refine CallG_of (e1) rfl rfl rfl ?_
    try dsimp only
    repeat' (first
      | (rw [vcn]; (try simp [-map_take,-map_drop, push_cast, ratAV, ratC, zC]))
      | fail)
    refine CallG_of (e1) rfl rfl rfl ?_
    try dsimp only
    repeat' (first
      | (rw [vcn]; (try simp [-map_take,-map_drop, push_cast, ratAV, ratC, zC]))
      | fail)
    refine CallG_of (e4) rfl rfl rfl ?_
    try dsimp only
    repeat' (first
      | with_reducible first | apply thenW_n | apply W_ret
      | (rw [vcn]; (try simp [-map_take,-map_drop, push_cast]))
      | fail)
    simp [-map_take,-map_drop, post, resAV, resAll, resOne, closeV, closeC, closeL, resD, resDL, push_cast]
  · have hi0 : 0 < i := by omega
    obtain ⟨x, r, hmr⟩ : ∃ x r, m = x :: r := by
      cases m with
      | nil => simp [-map_take,-map_drop] at hml; omega
      | cons x r => exact ⟨x, r, rfl⟩
    have y1 : (0 < i) = True := eq_true hi0
    have y2 : ((0 : Int) < (i : Int)) = True := eq_true (by omega)
    have hcut : ptsC (rowF m) = ptC (dtF x) ++ ptsC (rowF r) := by rw [hmr]; rfl
    have hd8 : (ptsC (rowF m)).drop 8 = ptsC (rowF r) := by rw [hcut]; exact List.drop_left' rfl
    have ht8 : (ptsC (rowF m)).take 8 = ptC (dtF x) := by rw [hcut]; exact List.take_left' rfl
    have hrl : r.length = i - 1 := by rw [hmr] at hml; simp [-map_take,-map_drop] at hml; omega
    have hts := rowF_snoc r x
    have lP := hPl m
    rw [hml] at lP
    have tP : (ptsC (rowF m)).take (i * 8) = ptsC (rowF m) := List.take_of_length_le (by omega)
    have lR := hPl r
    rw [hrl] at lR
    have tR : (ptsC (rowF r)).take ((i - 1) * 8) = ptsC (rowF r) := List.take_of_length_le (by omega)
    have w1 : ((i : Int) - 1).toNat = i - 1 := by omega
    have k1 := hPr m
    have hm8 : min 8 (i * 8) = 8 := by omega
    have ht88 : ((ptsC (rowF m)).take 8).take 8 = ptC (dtF x) := by rw [ht8]; rfl
    have hIr : ∀ a ∈ m.reverse, inD a := fun a h => hIm a (List.mem_reverse.1 h)
    have hIt : ∀ a ∈ r ++ [x], inD a := fun a h => hIm a (by rw [hmr]; rcases List.mem_append.1 h with h | h; exact List.mem_cons_of_mem _ h; rw [List.mem_singleton.1 h]; exact List.mem_cons_self)
    have htl : (r ++ [x]).length = i := by rw [List.length_append, hrl]; simp [-map_take,-map_drop]; omega
    have hrv : m.reverse.length = i := by rw [List.length_reverse, hml]
    have q1 := sz m hIm (by omega)
    have q2 := sz m.reverse hIr (by omega)
    have q3 := sz (r ++ [x]) hIt (by omega)
    have e1 := area_ok false (rowF m) (by rw [hFl]; omega) (hHD m hIm)
    have e2 := area_ok false (rowF m.reverse) (by rw [hFl]; omega) (hHD _ hIr)
    have e5 := area_ok false (rowF (r ++ [x])) (by rw [hFl]; omega) (hHD _ hIt)
    rw [hFl, hml] at e1
    rw [hFl, hrv] at e2
    rw [hFl, htl] at e5
    have e3 := negR_ok (areaF (rowF m.reverse)) (by omega)
    have hqr : (areaF (rowF m)).q = (areaF (rowF m.reverse)).neg.q := by
      have h1 := area_rev (rowF m)
      have h2 : (rowF m).reverse = rowF m.reverse := by unfold rowF; rw [List.map_reverse]
      rw [h2] at h1
      show _ = -(areaF (rowF m.reverse)).q
      rw [h1]
      grind
    have hqt : (areaF (rowF m)).q = (areaF (rowF (r ++ [x]))).q := by
      have h2 : rowF (r ++ [x]) = rowF r ++ [dtF x] := by unfold rowF; rw [List.map_append]; rfl
      rw [h2, area_turn, hmr]
      rfl
    have e4 := sameR_ok (areaF (rowF m)) (areaF (rowF m.reverse)).neg (by rw [← hqr]; omega) hqr
    have e6 := sameR_ok (areaF (rowF m)) (areaF (rowF (r ++ [x]))) (by omega) hqt
    have lB := hPl m.reverse
    rw [hrv] at lB
    have tB : (ptsC (rowF m.reverse)).take (i * 8) = ptsC (rowF m.reverse) := List.take_of_length_le (by omega)
    have kB := hPr m.reverse
    have kT := hPr (r ++ [x])
    have lT := hPl (r ++ [x])
    rw [htl] at lT
    have tT : (ptsC (rowF (r ++ [x]))).take (i * 8) = ptsC (rowF (r ++ [x])) := List.take_of_length_le (by omega)
    have hi1 : i - 1 + 1 = i := by omega
    rw [hts] at e5 tT lT kT
    simp only [ptC, ratC, zC] at e5 tT lT kT
    have tR8 : ∀ l : List AV, l.length = 8 → (ptsC (rowF r) ++ l).take (i * 8) = ptsC (rowF r) ++ l := fun l hl => List.take_of_length_le (by rw [List.length_append, lR, hl]; omega)
    have hle : (i * 8 ≤ (ptsC (rowF r)).length + 8) = True := eq_true (by rw [lR]; omega)
    have kR_refs := hPr r
    obtain ⟨A, nm_⟩ : ∃ nm0_, nm0_ = areaF (rowF m) := ⟨_, rfl⟩
    simp only [← nm_] at e1 e4 e6
    clear nm_
    obtain ⟨N, nm_⟩ : ∃ nm0_, nm0_ = (areaF (rowF m.reverse)).neg := ⟨_, rfl⟩
    simp only [← nm_] at e3 e4
    clear nm_
    obtain ⟨B, nm_⟩ : ∃ nm0_, nm0_ = areaF (rowF m.reverse) := ⟨_, rfl⟩
    simp only [← nm_] at e2 e3
    clear nm_
    obtain ⟨T, nm_⟩ : ∃ nm0_, nm0_ = areaF (rowF (r ++ [x])) := ⟨_, rfl⟩
    simp only [← nm_] at e5 e6
    clear nm_
    repeat' (first
      | with_reducible first | apply thenW_n | apply W_seq
      | with_reducible refine W_rg ?_
      | (rw [vcn]; (try simp [-map_take,-map_drop, push_cast, y1, y2, lP, tP, hm8, ht88, ht8, hd8, lR, tR, ptC, ratC, zC]))
      | with_reducible refine W_drawn mixed (by decide) (by kernel_rfl) ?_
      | (rw [vcnD]; (try simp [-map_take,-map_drop, push_cast, y1, y2, lP, tP, hm8, ht88, ht8, hd8, lR, tR, ptC, ratC, zC]))
      | (with_reducible refine W_condW ?_; (try simp [-map_take,-map_drop, AS.val, upd, resB, mkS_env, mkS_box, lk, entry_env, condW_true, condW_false, y1, y2, lP, tP, hm8, ht88, ht8, hd8, lR, tR, ptC, ratC, zC]))
      | refine And.intro (by first | omega | kernel_rfl) ?_
      | fail)
    refine CallG_of (e1) rfl rfl rfl ?_
    try dsimp only
    repeat' (first
      | (rw [vcn]; (try simp [-map_take,-map_drop, push_cast, lB, tB, ratAV, ratC, zC]))
      | fail)
    refine CallG_of (e2) rfl rfl rfl ?_
    try dsimp only
    repeat' (first
      | (rw [vcn]; (try simp [-map_take,-map_drop, push_cast, ratAV, ratC, zC]))
      | fail)
    refine CallG_of (e3) rfl rfl rfl ?_
    try dsimp only
    repeat' (first
      | (rw [vcn]; (try simp [-map_take,-map_drop, push_cast, ratAV, ratC, zC]))
      | fail)
    refine CallG_of (e4) rfl rfl rfl ?_
    try dsimp only
    repeat' (first
      | (rw [vcn]; (try simp [-map_take,-map_drop, push_cast, lP, tP, ratAV, ratC, zC]))
      | fail)
    refine CallG_of (e1) rfl rfl rfl ?_
    try dsimp only
    repeat' (first
      | (rw [vcn]; (try simp [-map_take,-map_drop, push_cast, hi1, ratAV, ratC, zC]))
      | fail)
    refine CallG_frz _ _ rfl ?_ (e5) ?_ (by simp [-map_take,-map_drop, AV.refs, refsL, push_cast]) rfl ?_
    · first | (simp [-map_take,-map_drop, refsL, AV.refs, frzS, resDL, resD, resB, upd, mkS_env, mkS_box, entry_env, entry_box, lk, push_cast, hi1, hle, tR8, kR_refs, ptC, ratAV, ratC, zC]; done) | (simp [-map_take,-map_drop, refsL, AV.refs, frzS, resDL, resD, resB, upd, mkS_env, mkS_box, entry_env, entry_box, lk, push_cast, hi1, hle, tR8, kR_refs, ptC, ratAV, ratC, zC]; rw [List.take_of_length_le (by simp [-map_take,-map_drop])]; done) | (simp [-map_take,-map_drop, refsL, AV.refs, frzS, resDL, resD, resB, upd, mkS_env, mkS_box, entry_env, entry_box, lk, push_cast, hi1, hle, tR8, kR_refs, ptC, ratAV, ratC, zC]; fail_if_success done)
    · simp [-map_take,-map_drop, refsL, AV.refs, frzOk, upd, mkS_env, mkS_box, entry_env, entry_box, lk, push_cast, kR_refs]
    try dsimp only
    try simp only [refsL, AV.refs, frzS, List.append_nil, upd, mkS_box, entry_box, lk, if_true, if_false]
    repeat' (first
      | (rw [vcn]; (try simp [-map_take,-map_drop, push_cast, hi1, ratAV, ratC, zC]))
      | fail)
    refine CallG_of (e6) rfl rfl rfl ?_
    try dsimp only
    repeat' (first
      | with_reducible first | apply thenW_n | apply W_ret
      | (rw [vcn]; (try simp [-map_take,-map_drop, push_cast]))
      | fail)
    simp [-map_take,-map_drop, post, resAV, resAll, resOne, closeV, closeC, closeL, resD, resDL, push_cast]
end Go.Fw
