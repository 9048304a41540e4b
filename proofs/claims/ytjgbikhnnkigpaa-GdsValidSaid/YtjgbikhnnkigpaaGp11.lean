/- gds: flat. -/
import Derived.Test.YtjgbikhnnkigpaaGp10
set_option linter.unusedSimpArgs false
set_option linter.unusedVariables false
-- VALS: recAV, libAV, rowsAV, cellsAV
namespace Go.Fw
open Go Go.Proofs Go.IntWalk
set_option linter.unusedSimpArgs false
set_option maxRecDepth 100000
set_option maxHeartbeats 4000000
open List (map_take map_drop)
attribute [local push_cast] optK_some optK_none optK_ite optK_map optK_bind gOn stepK isMem evPure evMem evBin evUn evConv evLen evBuiltin evMinMax evSlice evBuild evAppend evIndex evIndexAddr evField evFieldAddr intBin strBin appDest AS.val AS.mem AS.elems AS.put AS.put' AS.eff AV.cells? AV.isCell AV.refs all_isByte take_byteV drop_byteV strOf_map bndOk bnd partAV ptrAdd killBox catA inOrder fillA setAt ofVal resB upd byteV List.head?_take List.head?_drop List.getElem?_map mkS_env mkS_box mkS_used entry_env entry_box entry_used lk stepD lookIds Oper.looksAt Op.operands Call.operands St.ids refsL renL_append dV_take dV_drop ren renL renBox Box.refs iV i64V boolV dV_getElem dV_app dV_cons toNat_add2 toNat_add1
theorem clone0_ok (f : Bool) : Eval Try.prog 74 [.slc f 3 0 []] (.ret (.own 24 3 0 [])) := by
 refine Eval.intro Try.func74 rfl Try.call74 _ _ (Nat.le_of_ble_eq_true rfl) (by simp [natAV, recAV, libAV, rowsAV, cellsAV, push_cast]) fun hs0 => ?_
 refine W_seq ?_
 refine W_joinQ (X := Unit) (fun _ => [(0, .slc f 3 0 [])]) (fun _ => []) (fun _ => True) ?_ fun _ _ => ?_
 ·
  repeat' (first
   | with_reducible refine W_rg ?_
   | (rw [vcn]; (try simp [push_cast]))
   | fail)
  refine joinW_n () id trivial ⟨?_, ?_, ?_, ?_, ?_, ?_⟩
  all_goals first | (simp [push_cast]; done)
 refine W_seq (W_seq ?_)
 refine W_joinQ (X := Unit) (fun _ => [(0, .slc f 3 0 []), (4, .unk)]) (fun _ => []) (fun _ => True) ?_ fun _ _ => ?_
 ·
  repeat' (first
   | with_reducible refine W_rg ?_
   | (rw [vcn]; (try simp [push_cast]))
   | fail)
  refine joinW_n () id trivial ⟨?_, ?_, ?_, ?_, ?_, ?_⟩
  all_goals first | (simp [push_cast]; done)
 refine (W_cond_unk (by simp [AS.val, mkS_env, lk, resB]) ?_ ?_)
 ·
  refine W_seq ?_
  refine W_joinQ (X := Unit) (fun _ => [(2, nilV)]) (fun _ => []) (fun _ => True) ?_ fun _ _ => ?_
  ·
   repeat' (first
    | with_reducible refine W_rg ?_
    | (rw [vcn]; (try simp [push_cast, nilV]))
    | fail)
   refine joinW_n () id trivial ⟨?_, ?_, ?_, ?_, ?_, ?_⟩
   all_goals first | (simp [push_cast, nilV]; done)
  refine W_nil 2 500 24 3 (by simp [mkS_env, lk, nilV]) (by simp [mkS_used]) ?_
  repeat' (first
   | with_reducible first | apply thenW_ret | apply W_ret
   | fail)
  simp [post, resAV, resAll, resOne, closeV, closeC, closeL, resD, resDL, push_cast]
 ·
  repeat' (first
   | with_reducible first | apply thenW_n | apply W_seq | apply W_skip | apply W_ret
   | with_reducible refine W_rg ?_
   | (rw [vcn]; (try simp [push_cast]))
   | fail)
  simp [post, resAV, resAll, resOne, closeV, closeC, closeL, resD, resDL, push_cast]
theorem cloneR_ok (f : Bool) (l : List Rec) (hs : l.length ≤ 1000000000) : Eval Try.prog 74 [.slc f 3 l.length (recsCells l)] (.ret (.own 24 3 l.length (recsCells l))) := by
 by_cases h0 : l = []
 ·
  subst h0
  exact clone0_ok f
 have h0 : 0 < l.length := List.length_pos_iff.2 h0
 refine Eval.intro Try.func74 rfl Try.call74 _ _ (Nat.le_of_ble_eq_true rfl) (by simp [natAV, recAV, libAV, rowsAV, cellsAV, push_cast]) fun hs0 => ?_
 have hlen := recsCells_len l
 have hre := recsCells_refs l
 obtain ⟨n, hn⟩ : ∃ n, n = l.length := ⟨_, rfl⟩
 obtain ⟨C, hC⟩ : ∃ C, C = recsCells l := ⟨_, rfl⟩
 rw [← hn] at hlen hs h0
 rw [← hC] at hlen hre
 rw [← hC, ← hn]
 repeat' (first
  | with_reducible first | apply thenW_n | apply W_seq | apply W_skip | apply W_ret
  | with_reducible refine W_rg ?_
  | (rw [vcn]; (try simp [push_cast, h0]))
  | (with_reducible refine W_condW ?_; (try simp [AS.val, upd, resB, mkS_env, mkS_box, lk, entry_env, condW_true, condW_false, h0]))
  | refine And.intro (by first | omega | kernel_rfl) ?_
  | fail)
 simp [post, resAV, resAll, resOne, closeV, closeC, closeL, resD, resDL, push_cast, hlen, hre]
def itemF (x : Item) : List Rec := x.1 ++ x.2 ++ [(17, 0, [])]
def itemsF (l : List Item) : List Rec := l.flatMap itemF
def cellF (c : Cell) : List Rec := c.1 ++ itemsF c.2 ++ [(7, 0, [])]
def cellsF (l : List Cell) : List Rec := l.flatMap cellF
def flatS (t : Lib) : List Rec := t.1 ++ cellsF t.2 ++ [(4, 0, [])]
theorem end_sub (a : List Rec) (k : UInt8) : SubL (recsCells a ++ [byteV k, byteV 0, .v (.slice none 0 0)]) (recsCells (a ++ [(k, 0, [])])) := by
 rw [← recsCells_cat]
 exact SubL.append (SubL.refl _) (SubL.cons (Sub.refl _) (SubL.cons (Sub.refl _) (SubL.cons (Sub.nil false 1) SubL.nil)))
theorem cellsCells_at (l : List Cell) (i : Nat) (h : i < l.length) : ∃ t, (cellsCells l).drop (i * 2) = rowsAV l[i].1 :: itemsAV l[i].2 :: t := by
 induction l generalizing i with
 | nil => simp at h
 | cons c l ih =>
  cases i with
  | zero => exact ⟨cellsCells l, rfl⟩
  | succ i =>
   obtain ⟨t, ht⟩ := ih i (by simpa using h)
   refine ⟨t, ?_⟩
   rw [show (i + 1) * 2 = i * 2 + 2 from by omega]
   exact ht
theorem itemsCells_at (l : List Item) (i : Nat) (h : i < l.length) : ∃ t, (itemsCells l).drop (i * 2) = rowsAV l[i].1 :: rowsAV l[i].2 :: t := by
 induction l generalizing i with
 | nil => simp at h
 | cons c l ih =>
  cases i with
  | zero => exact ⟨itemsCells l, rfl⟩
  | succ i =>
   obtain ⟨t, ht⟩ := ih i (by simpa using h)
   refine ⟨t, ?_⟩
   rw [show (i + 1) * 2 = i * 2 + 2 from by omega]
   exact ht
theorem cellsF_snoc (l : List Cell) (i : Nat) (h : i < l.length) : cellsF (l.take (i + 1)) = cellsF (l.take i) ++ cellF l[i] := by
 rw [List.take_succ_eq_append_getElem h, cellsF, List.flatMap_append]
 simp only [List.flatMap_cons, List.flatMap_nil, List.append_nil, cellsF]
theorem itemsF_snoc (l : List Item) (i : Nat) (h : i < l.length) : itemsF (l.take (i + 1)) = itemsF (l.take i) ++ itemF l[i] := by
 rw [List.take_succ_eq_append_getElem h, itemsF, List.flatMap_append]
 simp only [List.flatMap_cons, List.flatMap_nil, List.append_nil, itemsF]
theorem itemsF_le (l : List Item) : l.length ≤ (itemsF l).length := by
 induction l with
 | nil => simp
 | cons c cs ih => simp only [itemsF, itemF, List.flatMap_cons, List.length_append, List.length_cons, List.length_nil] at ih ⊢; omega
theorem itemsF_pre (l : List Item) (i : Nat) : (itemsF (l.take i)).length ≤ (itemsF l).length := by
 conv => rhs; rw [← List.take_append_drop i l]
 simp only [itemsF, List.flatMap_append, List.length_append]
 omega
theorem flat_ok (H : List Rec) (cs : List Cell) (hb : (flatS (H, cs)).length ≤ 100000000) : Eval Try.prog 63 [libAV (H, cs)] (.ret (rowsAV (flatS (H, cs)))) := by
 have hlibr : (libAV (H, cs)).refs = [] := by simp [libAV, rowsAV, cellsAV, AV.refs, refsL, refsL_nil, recsCells_refs, cellsCells_refs]
 refine Eval.intro Try.func63 rfl Try.call63 _ _ (Nat.le_of_ble_eq_true rfl) (by simp [natAV, recAV, libAV, rowsAV, cellsAV, push_cast]) fun hs0 => ?_
 have hre : ∀ l, refsL (recsCells l) = [] := recsCells_refs
 have hrn : ∀ ρ l, renL ρ (recsCells l) = recsCells l := fun ρ l => renL_id ρ _ (recsCells_refs l)
 have hrl : ∀ l, (recsCells l).length = l.length * 3 := recsCells_len
 have hie := itemsCells_refs
 have hir : ∀ ρ l, renL ρ (itemsCells l) = itemsCells l := fun ρ l => renL_id ρ _ (itemsCells_refs l)
 have hil := itemsCells_len
 have hce := cellsCells_refs
 have hcr : ∀ ρ l, renL ρ (cellsCells l) = cellsCells l := fun ρ l => renL_id ρ _ (cellsCells_refs l)
 have hcl := cellsCells_len
 have hH : H.length ≤ (flatS (H, cs)).length := by simp [flatS]
 refine W_seq ?_
 refine W_joinQ (X := Unit) (fun _ => [(0, libAV (H, cs)), (1, .bp 1 0)]) (fun _ => [(1, .mut 58 [rowsAV H, cellsAV cs])]) (fun _ => True) ?_ fun _ _ => ?_
 ·
  repeat' (first
   | with_reducible refine W_rg ?_
   | (rw [vcn]; (try simp [push_cast, libAV, rowsAV, cellsAV]))
   | fail)
  refine joinW_n () id trivial ⟨?_, ?_, ?_, ?_, ?_, ?_⟩
  all_goals first | (simp [push_cast, libAV, rowsAV, cellsAV, hre, hrn, hce, hcr]; done)
 have hc := cloneR_ok false H (by omega)
 refine W_seq ?_
 refine W_joinQ (X := Unit) (fun _ => [(1, .bp 1 0), (3, .bs 900 3 0 H.length)]) (fun _ => [(1, .mut 58 [rowsAV H, cellsAV cs]), (900, .mut 24 (recsCells H))]) (fun _ => True) ?_ fun _ _ => ?_
 ·
  repeat' (first
   | with_reducible refine W_rg ?_
   | (rw [vcn]; (try simp [push_cast, rowsAV, cellsAV]))
   | fail)
  refine CallG_ofOwn 900 (hc) (by first | rfl | (simp [natAV, numC, ← limbs.eq_1, push_cast]; done)) (by simp [natAV, push_cast]) (by simp [mkS_used, entry_used]) ?_
  try dsimp only
  repeat' (first
   | (rw [vcn]; (try simp [push_cast, rowsAV, cellsAV]))
   | fail)
  refine joinW_n () id trivial ⟨?_, ?_, ?_, ?_, ?_, ?_⟩
  all_goals first | (simp [push_cast, libAV, rowsAV, cellsAV, hre, hrn, hce, hcr]; done)
 have hbl : (flatS (H, cs)).length = H.length + (cellsF cs).length + 1 := by simp [flatS]; omega
 have hpre : ∀ i, (cellsF (cs.take i)).length ≤ (cellsF cs).length := fun i => by
  conv => rhs; rw [← List.take_append_drop i cs]
  simp only [cellsF, List.flatMap_append, List.length_append]
  omega
 have hcsl : cs.length ≤ (cellsF cs).length := by
  clear hb hbl hpre hlibr hs0 hH hc
  induction cs with
  | nil => simp
  | cons c cs ih => simp only [cellsF, cellF, List.flatMap_cons, List.length_append, List.length_cons, List.length_nil] at ih ⊢; omega
 have hcF0 : cellsF [] = [] := rfl
 have hiF0 : itemsF [] = [] := rfl
 refine W_seq ?_
 refine W_joinQ (X := Unit) (fun _ => [(3, .bs 900 3 0 (H ++ cellsF cs).length)]) (fun _ => [(900, .mut 24 (recsCells (H ++ cellsF cs)))]) (fun _ => True) ?_ fun _ _ => ?_
 ·
  refine W_seq ?_
  refine W_joinQ (X := Unit) (fun _ => [(1, .bp 1 0), (3, .bs 900 3 0 H.length), (12, cellsAV cs), (13, i64V (cs.length : Int)), (14, i64V 0)]) (fun _ => [(1, .mut 58 [rowsAV H, cellsAV cs]), (900, .mut 24 (recsCells H))]) (fun _ => True) ?_ fun _ _ => ?_
  ·
   repeat' (first
    | with_reducible refine W_rg ?_
    | (rw [vcn]; (try simp [push_cast, rowsAV, cellsAV]))
    | fail)
   refine joinW_n () id trivial ⟨?_, ?_, ?_, ?_, ?_, ?_⟩
   all_goals first | (simp [push_cast, libAV, rowsAV, cellsAV, hre, hrn, hce, hcr]; done)
  refine W_block ?_
  refine W_loopW (X := Nat) (fun i => [(3, .bs 900 3 0 (H ++ cellsF (cs.take i)).length), (12, cellsAV cs), (13, i64V (cs.length : Int)), (14, i64V (i : Int))]) (fun i => [(900, .mut 24 (recsCells (H ++ cellsF (cs.take i))))])
   (fun i => cs.length - i) (fun i => i ≤ cs.length) 0 id (Nat.zero_le _) ⟨?_, ?_, ?_, ?_, ?_, ?_⟩ fun i hi => ?_
  all_goals first | (with_reducible refine W_id ?_) | (simp [push_cast, rowsAV, cellsAV, hre, hrn, hce, hcr, hcF0, List.append_nil]; done)
  by_cases hlt : i < cs.length
  ·
   have g1 : (i < cs.length) = True := eq_true hlt
   have g1' : ((i : Int) < (cs.length : Int)) = True := eq_true (by omega)
   obtain ⟨t, ht⟩ := cellsCells_at cs i hlt
   have hsn := cellsF_snoc cs i hlt
   have hpi := hpre (i + 1)
   obtain ⟨⟨h, its⟩, hcell⟩ : ∃ c, c = cs[i] := ⟨_, rfl⟩
   rw [← hcell] at ht hsn
   rw [hsn] at hpi
   obtain ⟨p, hp⟩ : ∃ p, p = H ++ cellsF (cs.take i) := ⟨_, rfl⟩
   have hpl : p.length = H.length + (cellsF (cs.take i)).length := by rw [hp]; simp
   have hbnd : p.length + h.length + (itemsF its).length + 1 ≤ 100000000 := by
    simp only [cellF, List.length_append, List.length_cons, List.length_nil] at hpi
    omega
   have hitl : its.length ≤ (itemsF its).length := itemsF_le its
   have hnext : H ++ cellsF (cs.take (i + 1)) = p ++ h ++ itemsF its ++ [(7, 0, [])] := by rw [hsn, hp]; simp [cellF]
   simp only [← hp]
   simp only [cellsAV]
   have hcsl2 := hcl cs
   have hpl2 : (p ++ h ++ itemsF its ++ [((7 : UInt8), (0 : UInt8), ([] : List UInt8))]).length = p.length + h.length + (itemsF its).length + 1 := by simp; omega
   have hpl3 : H.length + (cellsF (cs.take (i + 1))).length = p.length + h.length + (itemsF its).length + 1 := by
    have := congrArg List.length hnext
    rw [hpl2, List.length_append] at this
    exact this
   have hlt2 := hlt
   obtain ⟨N, hN⟩ : ∃ N, N = cs.length := ⟨_, rfl⟩
   obtain ⟨K, hK⟩ : ∃ K, K = cellsCells cs := ⟨_, rfl⟩
   have hKr := hce cs
   simp only [← hN, ← hK] at hcsl hi g1 g1' ht hcsl2 hKr hlt2 ⊢
   have hpr := hrl p
   have hhr := hrl h
   repeat' (first
    | with_reducible first | apply thenW_n | apply W_seq | apply W_skip
    | with_reducible refine W_rg ?_
    | (rw [vcn]; (try simp [push_cast, g1, g1']))
    | (with_reducible refine W_condW ?_; (try simp [AS.val, upd, resB, mkS_env, mkS_box, lk, entry_env, condW_true, condW_false, g1, g1']))
    | fail)
   refine W_joinQ (X := Unit) (fun _ => [(3, .bs 900 3 0 (p.length + h.length + (itemsF its).length + 1)), (12, .slc false 2 N K), (13, i64V (N : Int)), (14, i64V (i : Int))]) (fun _ => [(900, .mut 24 (recsCells (p ++ h ++ itemsF its) ++ [byteV 7, byteV 0, .v (.slice none 0 0)]))]) (fun _ => True) ?_ fun _ _ => ?_
   rotate_left
   ·
    refine W_subBox 900 (e := 24) (l' := recsCells (p ++ h ++ itemsF its ++ [(7, 0, [])])) (by simp [mkS_box, lk]) (end_sub _ 7) ?_
    repeat' (first
     | with_reducible refine W_rg ?_
     | (rw [vcn]; (try simp [push_cast]); try simp (disch := omega) only [i64_in, u64_in, shr64i])
     | fail)
    refine loopW_n (i + 1) id (by omega) (by omega) ⟨?_, ?_, ?_, ?_, ?_, ?_⟩
    all_goals first | (simp [push_cast, hre, hrn, hKr, hnext, hpl2, hpl3]; done)
   refine W_block (W_seq ?_)
   refine W_joinQ (X := Unit) (fun _ => [(3, .bs 900 3 0 p.length), (5, .bp 5 0), (12, .slc false 2 N K), (13, i64V (N : Int)), (14, i64V (i : Int))]) (fun _ => [(900, .mut 24 (recsCells p)), (5, .mut 72 [rowsAV h, itemsAV its])]) (fun _ => True) ?_ fun _ _ => ?_
   ·
    repeat' (first
     | with_reducible refine W_rg ?_
     | (rw [vcn]; (try simp [push_cast, ht, hcsl2, hlt2, rowsAV, itemsAV]))
     | fail)
    refine joinW_n () id trivial ⟨?_, ?_, ?_, ?_, ?_, ?_⟩
    all_goals first | (simp [push_cast, hre, hrn, hKr, rowsAV, itemsAV, hie, hir]; done)
   refine W_seq ?_
   refine W_joinQ (X := Unit) (fun _ => [(3, .bs 900 3 0 (p ++ h).length), (5, .bp 5 0), (12, .slc false 2 N K), (13, i64V (N : Int)), (14, i64V (i : Int))]) (fun _ => [(900, .mut 24 (recsCells (p ++ h))), (5, .mut 72 [rowsAV h, itemsAV its])]) (fun _ => True) ?_ fun _ _ => ?_
   ·
    repeat' (first
     | with_reducible refine W_rg ?_
     | (rw [vcn]; (try simp [push_cast, rowsAV, itemsAV, hpr, hhr]))
     | refine And.intro (by first | omega | kernel_rfl) ?_
     | fail)
    refine joinW_n () (fun i => if i = 900 then 21 else i) trivial ⟨?_, ?_, ?_, ?_, ?_, ?_⟩
    all_goals first | (simp [push_cast, hre, hrn, hKr, recsCells_cat, rowsAV, itemsAV, hie, hir]; done) | (simp [push_cast, hre, hrn, hKr, recsCells_cat, rowsAV, itemsAV, hie, hir]; omega)
   obtain ⟨q, hq⟩ : ∃ q, q = p ++ h := ⟨_, rfl⟩
   have hql : q.length = p.length + h.length := by rw [hq]; simp
   rw [← hq] at hnext
   simp only [← hq]
   refine W_seq ?_
   refine W_joinQ (X := Unit) (fun _ => [(3, .bs 900 3 0 (q ++ itemsF its).length), (12, .slc false 2 N K), (13, i64V (N : Int)), (14, i64V (i : Int))]) (fun _ => [(900, .mut 24 (recsCells (q ++ itemsF its)))]) (fun _ => True) ?_ fun _ _ => ?_
   ·
    refine W_seq ?_
    refine W_joinQ (X := Unit) (fun _ => [(3, .bs 900 3 0 q.length), (12, .slc false 2 N K), (13, i64V (N : Int)), (14, i64V (i : Int)), (23, itemsAV its), (24, i64V (its.length : Int)), (25, i64V 0)]) (fun _ => [(900, .mut 24 (recsCells q))]) (fun _ => True) ?_ fun _ _ => ?_
    ·
     repeat' (first
      | with_reducible refine W_rg ?_
      | (rw [vcn]; (try simp [push_cast, rowsAV, itemsAV]))
      | fail)
     refine joinW_n () id trivial ⟨?_, ?_, ?_, ?_, ?_, ?_⟩
     all_goals first | (simp [push_cast, hre, hrn, hKr, rowsAV, itemsAV, hie, hir]; done)
    refine W_block ?_
    refine W_loopW (X := Nat) (fun j => [(3, .bs 900 3 0 (q ++ itemsF (its.take j)).length), (12, .slc false 2 N K), (13, i64V (N : Int)), (14, i64V (i : Int)), (23, itemsAV its), (24, i64V (its.length : Int)), (25, i64V (j : Int))]) (fun j => [(900, .mut 24 (recsCells (q ++ itemsF (its.take j))))])
     (fun j => its.length - j) (fun j => j ≤ its.length) 0 id (Nat.zero_le _) ⟨?_, ?_, ?_, ?_, ?_, ?_⟩ fun j hj => ?_
    all_goals first | (with_reducible refine W_id ?_) | (simp [push_cast, rowsAV, itemsAV, hre, hrn, hKr, hie, hir, hiF0, List.append_nil]; done)
    by_cases hjl : j < its.length
    ·
     have g2 : (j < its.length) = True := eq_true hjl
     have g2' : ((j : Int) < (its.length : Int)) = True := eq_true (by omega)
     obtain ⟨t2, ht2⟩ := itemsCells_at its j hjl
     have hsn2 := itemsF_snoc its j hjl
     have hpj := itemsF_pre its (j + 1)
     obtain ⟨⟨f, ps⟩, hit⟩ : ∃ c, c = its[j] := ⟨_, rfl⟩
     rw [← hit] at ht2 hsn2
     rw [hsn2] at hpj
     obtain ⟨r, hr⟩ : ∃ r, r = q ++ itemsF (its.take j) := ⟨_, rfl⟩
     have hrl2 : r.length = q.length + (itemsF (its.take j)).length := by rw [hr]; simp
     have hbnd2 : r.length + f.length + ps.length + 1 ≤ 100000000 := by
      simp only [itemF, List.length_append, List.length_cons, List.length_nil] at hpj
      omega
     have hnext2 : q ++ itemsF (its.take (j + 1)) = r ++ f ++ ps ++ [(17, 0, [])] := by rw [hsn2, hr]; simp [itemF]
     have hlen2 : (r ++ f ++ ps ++ [((17 : UInt8), (0 : UInt8), ([] : List UInt8))]).length = r.length + f.length + ps.length + 1 := by simp; omega
     have hlen3 : q.length + (itemsF (its.take (j + 1))).length = r.length + f.length + ps.length + 1 := by
      have := congrArg List.length hnext2
      rw [hlen2, List.length_append] at this
      exact this
     simp only [← hr]
     have hrr := hrl r
     have hfr := hrl f
     have hpsr := hrl ps
     have hrf := hrl (r ++ f)
     simp only [List.length_append] at hrf
     obtain ⟨u, hu⟩ : ∃ u, u = r ++ f ++ ps := ⟨_, rfl⟩
     have hul : u.length = r.length + f.length + ps.length := by rw [hu]; simp; omega
     have hrfp := hrl u
     rw [← hu] at hnext2 hlen2
     rw [← hul] at hbnd2 hlen2 hlen3
     have hil2 := hil its
     repeat' (first
      | with_reducible first | apply thenW_n | apply W_seq | apply W_skip
      | with_reducible refine W_rg ?_
      | (rw [vcn]; (try simp [push_cast, itemsAV, g2, g2']))
      | (with_reducible refine W_condW ?_; (try simp [AS.val, upd, resB, mkS_env, mkS_box, lk, entry_env, condW_true, condW_false, itemsAV, g2, g2']))
      | fail)
     refine W_joinQ (X := Unit) (fun _ => [(3, .bs 900 3 0 (u.length + 1)), (12, .slc false 2 N K), (13, i64V (N : Int)), (14, i64V (i : Int)), (23, itemsAV its), (24, i64V (its.length : Int)), (25, i64V (j : Int))]) (fun _ => [(900, .mut 24 (recsCells u ++ [byteV 17, byteV 0, .v (.slice none 0 0)]))]) (fun _ => True) ?_ fun _ _ => ?_
     ·
      refine W_block (W_seq ?_)
      refine W_joinQ (X := Unit) (fun _ => [(3, .bs 900 3 0 r.length), (7, .bp 7 0), (12, .slc false 2 N K), (13, i64V (N : Int)), (14, i64V (i : Int)), (23, itemsAV its), (24, i64V (its.length : Int)), (25, i64V (j : Int))]) (fun _ => [(900, .mut 24 (recsCells r)), (7, .mut 77 [rowsAV f, rowsAV ps])]) (fun _ => True) ?_ fun _ _ => ?_
      ·
       repeat' (first
        | with_reducible refine W_rg ?_
        | (rw [vcn]; (try simp [push_cast, ht2, hil2, hjl, rowsAV, itemsAV]))
        | fail)
       refine joinW_n () id trivial ⟨?_, ?_, ?_, ?_, ?_, ?_⟩
       all_goals first | (simp [push_cast, hre, hrn, hKr, rowsAV, itemsAV, hie, hir]; done)
      refine W_seq ?_
      refine W_joinQ (X := Unit) (fun _ => [(3, .bs 900 3 0 (r.length + f.length)), (7, .bp 7 0), (12, .slc false 2 N K), (13, i64V (N : Int)), (14, i64V (i : Int)), (23, itemsAV its), (24, i64V (its.length : Int)), (25, i64V (j : Int))]) (fun _ => [(900, .mut 24 (recsCells (r ++ f))), (7, .mut 77 [rowsAV f, rowsAV ps])]) (fun _ => True) ?_ fun _ _ => ?_
      ·
       repeat' (first
        | with_reducible refine W_rg ?_
        | (rw [vcn]; (try simp [push_cast, rowsAV, itemsAV, hrr, hfr]))
        | refine And.intro (by first | omega | kernel_rfl) ?_
        | fail)
       refine joinW_n () (fun i => if i = 900 then 32 else i) trivial ⟨?_, ?_, ?_, ?_, ?_, ?_⟩
       all_goals first | (simp [push_cast, hre, hrn, hKr, recsCells_cat, rowsAV, itemsAV, hie, hir]; done) | (simp [push_cast, hre, hrn, hKr, recsCells_cat, rowsAV, itemsAV, hie, hir]; omega)
      refine W_seq ?_
      refine W_joinQ (X := Unit) (fun _ => [(3, .bs 900 3 0 u.length), (12, .slc false 2 N K), (13, i64V (N : Int)), (14, i64V (i : Int)), (23, itemsAV its), (24, i64V (its.length : Int)), (25, i64V (j : Int))]) (fun _ => [(900, .mut 24 (recsCells u))]) (fun _ => True) ?_ fun _ _ => ?_
      ·
       repeat' (first
        | with_reducible refine W_rg ?_
        | (rw [vcn]; (try simp [push_cast, rowsAV, itemsAV, hrf, hpsr]))
        | refine And.intro (by first | omega | kernel_rfl) ?_
        | fail)
       refine joinW_n () (fun i => if i = 900 then 36 else i) trivial ⟨?_, ?_, ?_, ?_, ?_, ?_⟩
       all_goals first | (simp [push_cast, hre, hrn, hKr, recsCells_cat, rowsAV, itemsAV, hie, hir, hu, List.length_append]; done) | (simp [push_cast, hre, hrn, hKr, recsCells_cat, rowsAV, itemsAV, hie, hir, hu, List.length_append]; omega)
      repeat' (first
       | with_reducible apply blockW_n
       | with_reducible refine W_rg ?_
       | (rw [vcn]; (try simp [push_cast, hrfp]))
       | refine And.intro (by first | omega | kernel_rfl) ?_
       | fail)
      refine joinW_n () (fun i => if i = 900 then 40 else i) trivial ⟨?_, ?_, ?_, ?_, ?_, ?_⟩
      all_goals first | (simp [push_cast, hre, hrn, hKr, itemsAV, hie, hir]; done) | (simp [push_cast, hre, hrn, hKr, itemsAV, hie, hir]; omega)
     refine W_subBox 900 (e := 24) (l' := recsCells (u ++ [(17, 0, [])])) (by simp [mkS_box, lk]) (end_sub _ 17) ?_
     repeat' (first
      | with_reducible refine W_rg ?_
      | (rw [vcn]; (try simp [push_cast]); try simp (disch := omega) only [i64_in, u64_in, shr64i])
      | fail)
     refine loopW_n (j + 1) id (by omega) (by omega) ⟨?_, ?_, ?_, ?_, ?_, ?_⟩
     all_goals first | (simp [push_cast, hre, hrn, hKr, itemsAV, hie, hir, hnext2, hlen2, hlen3]; done)
    ·
     have g2 : (j < its.length) = False := eq_false hjl
     have g2' : ((j : Int) < (its.length : Int)) = False := eq_false (by omega)
     have hj2 : j = its.length := by omega
     repeat' (first
      | with_reducible first | apply thenW_n | apply thenW_exit | apply blockW_same | apply loopW_exit | apply W_seq | apply W_exit
      | with_reducible refine W_rg ?_
      | (rw [vcn]; (try simp [push_cast, itemsAV, g2, g2']))
      | (with_reducible refine W_condW ?_; (try simp [AS.val, upd, resB, mkS_env, mkS_box, lk, entry_env, condW_true, condW_false, itemsAV, g2, g2']))
      | fail)
     refine joinW_n () id trivial ⟨?_, ?_, ?_, ?_, ?_, ?_⟩
     all_goals first | (simp [push_cast, hre, hrn, hj2, List.take_length, hKr]; done)
   have hqr := hrl (q ++ itemsF its)
   simp only [List.length_append] at hqr
   have hqi2 : p.length + h.length + (itemsF its).length = q.length + (itemsF its).length := by omega
   rw [hqi2]
   repeat' (first
    | with_reducible apply blockW_n
    | with_reducible refine W_rg ?_
    | (rw [vcn]; (try simp [push_cast, hqr]))
    | refine And.intro (by first | omega | kernel_rfl) ?_
    | fail)
   refine joinW_n () (fun i => if i = 900 then 45 else i) trivial ⟨?_, ?_, ?_, ?_, ?_, ?_⟩
   all_goals first | (simp [push_cast, hre, hrn, hKr]; done) | (simp [push_cast, hre, hrn, hKr]; omega)
  ·
   have g1 : (i < cs.length) = False := eq_false hlt
   have g1' : ((i : Int) < (cs.length : Int)) = False := eq_false (by omega)
   have hi2 : i = cs.length := by omega
   repeat' (first
    | with_reducible first | apply thenW_n | apply thenW_exit | apply blockW_same | apply loopW_exit | apply W_seq | apply W_exit
    | with_reducible refine W_rg ?_
    | (rw [vcn]; (try simp [push_cast, cellsAV, g1, g1']))
    | (with_reducible refine W_condW ?_; (try simp [AS.val, upd, resB, mkS_env, mkS_box, lk, entry_env, condW_true, condW_false, cellsAV, g1, g1']))
    | fail)
   refine joinW_n () id trivial ⟨?_, ?_, ?_, ?_, ?_, ?_⟩
   all_goals first | (simp [push_cast, hre, hrn, hi2, List.take_length]; done)
 obtain ⟨l, hl⟩ : ∃ l, l = H ++ cellsF cs := ⟨_, rfl⟩
 have hfl : flatS (H, cs) = l ++ [(4, 0, [])] := by rw [hl]; simp [flatS]
 have hll : l.length = H.length + (cellsF cs).length := by rw [hl]; simp
 rw [hfl]
 simp only [← hl]
 have hlr := hrl l
 have hCl : (recsCells (l ++ [((4 : UInt8), (0 : UInt8), ([] : List UInt8))])).length = (l.length + 1) * 3 := by rw [hrl]; simp
 have htk : (recsCells (l ++ [((4 : UInt8), (0 : UInt8), ([] : List UInt8))])).take ((l.length + 1) * 3) = recsCells (l ++ [(4, 0, [])]) := List.take_of_length_le (by omega)
 have hl1 : (l ++ [((4 : UInt8), (0 : UInt8), ([] : List UInt8))]).length = l.length + 1 := by simp
 refine W_seq ?_
 refine W_joinQ (X := Unit) (fun _ => [(2, .bs 900 3 0 (l.length + 1))]) (fun _ => [(900, .mut 24 (recsCells l ++ [byteV 4, byteV 0, .v (.slice none 0 0)]))]) (fun _ => True) ?_ fun _ _ => ?_
 ·
  repeat' (first
   | with_reducible refine W_rg ?_
   | (rw [vcn]; (try simp [push_cast, hlr]))
   | refine And.intro (by first | omega | kernel_rfl) ?_
   | fail)
  refine joinW_n () (fun i => if i = 900 then 50 else i) trivial ⟨?_, ?_, ?_, ?_, ?_, ?_⟩
  all_goals first | (simp [push_cast, hre, hrn]; done) | (simp [push_cast, hre, hrn]; omega)
 refine W_subBox 900 (e := 24) (l' := recsCells (l ++ [(4, 0, [])])) (by simp [mkS_box, lk]) (end_sub _ 4) ?_
 refine W_frz 900 (e := 24) (l := recsCells (l ++ [(4, 0, [])])) (by simp [upd]) (hre _) ?_
 repeat' (first
  | with_reducible apply W_ret
  | fail)
 simp [post, resAV, resAll, resOne, closeV, closeC, closeL, resD, resDL, push_cast, rowsAV, hl1, hCl, htk]
end Go.Fw
