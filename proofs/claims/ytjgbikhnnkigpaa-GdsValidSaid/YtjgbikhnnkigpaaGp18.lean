/- gds, the document's side: fit. -/
import Derived.Test.YtjgbikhnnkigpaaGp17
import Derived.Test.YtjgbikhnnkigpaaQ0b
set_option linter.unusedSimpArgs false
set_option linter.unusedVariables false
set_option linter.unusedVariables false
set_option linter.unusedSimpArgs false
-- VALS: recAV
namespace Go.Fw
open Go Go.Proofs Go.IntWalk
set_option linter.unusedSimpArgs false
set_option maxRecDepth 100000
set_option maxHeartbeats 4000000
open List (map_take map_drop)
attribute [local push_cast] optK_some optK_none optK_ite optK_map optK_bind gOn stepK isMem evPure evMem evBin evUn evConv evLen evBuiltin evMinMax evSlice evBuild evAppend evIndex evIndexAddr evField evFieldAddr intBin strBin appDest AS.val AS.mem AS.elems AS.put AS.put' AS.eff AV.cells? AV.isCell AV.refs all_isByte take_byteV drop_byteV strOf_map bndOk bnd partAV ptrAdd killBox catA inOrder fillA setAt ofVal resB upd byteV List.head?_take List.head?_drop List.getElem?_map mkS_env mkS_box mkS_used entry_env entry_box entry_used lk stepD lookIds Oper.looksAt Op.operands Call.operands St.ids refsL renL_append dV_take dV_drop ren renL renBox Box.refs iV i64V boolV dV_getElem dV_app dV_cons toNat_add2 toNat_add1
def isS (L : List Rec) (a k : Nat) : Bool := match L[a]? with
 | some r => decide (r.1.toNat = k)
 | none => false
def okS (L : List Rec) (a k : Nat) : Bool := match L[a]? with
 | some r => decide (r.1.toNat = k) && refR r.1 r.2.1 r.2.2
 | none => false
def fitS (L : List Rec) : Nat → List Nat → Option Nat
 | a, [] => some a
 | a, w :: ws => if okS L a (w % 1000) = true then fitS L (a + 1) ws else if w < 1000 ∨ isS L a (w % 1000) = true then none else fitS L a ws
def fitV (L : List Rec) (a : Nat) (ks : List Nat) : Int := match fitS L a ks with
 | none => -1
 | some b => ((b - a : Nat) : Int)
theorem fit_ok (f g : Bool) (L : List Rec) (a0 : Nat) (ks : List Nat) (hL : L.length ≤ 1000000000) (hbody : ∀ r ∈ L, r.2.2.length ≤ 140737488355328) (ha0 : a0 ≤ 1000000000) (hks : ks.length ≤ 1000) (hkb : ∀ k ∈ ks, k ≤ 1000000) :
  Eval Try.prog 71 [.slc f 3 L.length (recsCells L), i64V (a0 : Int), .slc g 1 ks.length (ks.map fun k : Nat => i64V (k : Int))] (.ret (i64V (fitV L a0 ks))) := by
 refine Eval.intro Try.func71 rfl Try.call71 _ _ (Nat.le_of_ble_eq_true rfl) (by simp [natAV, recAV, push_cast]) fun hs0 => ?_
 have hlen := recsCells_len L
 have hat := recsCells_at L
 have hLr := recsCells_refs L
 obtain ⟨out, hout⟩ : ∃ o, o = fitV L a0 ks := ⟨_, rfl⟩
 rw [← hout]
 rw [fitV] at hout
 obtain ⟨n, hn⟩ : ∃ n, n = L.length := ⟨_, rfl⟩
 obtain ⟨C, hC⟩ : ∃ C, C = recsCells L := ⟨_, rfl⟩
 obtain ⟨k, hk⟩ : ∃ k, k = ks.length := ⟨_, rfl⟩
 obtain ⟨K, hK⟩ : ∃ K, K = ks.map fun k : Nat => i64V (k : Int) := ⟨_, rfl⟩
 have hKr : refsL K = [] := by
  rw [hK]
  clear hK hout hkb hks hk hs0
  induction ks with
  | nil => rfl
  | cons a l ih => simp [refsL, AV.refs, i64V] at ih ⊢; exact ih
 have hKl : K.length = k := by rw [hK, hk]; simp
 have hKa : ∀ j, j < k → ∃ w t, ks.drop j = w :: ks.drop (j + 1) ∧ w ≤ 1000000 ∧ K.drop j = i64V (w : Int) :: t := fun j hj => by
  have hj2 : j < ks.length := by omega
  have hd : ks.drop j = ks[j] :: ks.drop (j + 1) := List.drop_eq_getElem_cons hj2
  refine ⟨ks[j], (ks.drop (j + 1)).map fun k : Nat => i64V (k : Int), hd, hkb _ (List.getElem_mem _), ?_⟩
  rw [hK, ← List.map_drop, hd]
  rfl
 simp only [← hn, ← hC, ← hk, ← hK] at hlen hLr hL hks ⊢
 clear hs0
 repeat' (first
  | with_reducible first | apply thenW_n | apply W_seq
  | with_reducible refine W_rg ?_
  | (rw [vcn]; (try simp [push_cast]))
  | fail)
 refine W_block ?_
 refine W_loopW (X := Nat × Nat) (fun x => [(0, .slc f 3 n C), (1, i64V (x.2 : Int)), (2, .slc g 1 k K), (7, i64V (a0 : Int)), (8, i64V (x.1 : Int))]) (fun _ => []) (fun x => k - x.1)
  (fun x => x.1 ≤ k ∧ a0 ≤ x.2 ∧ x.2 ≤ a0 + x.1 ∧ fitS L a0 ks = fitS L x.2 (ks.drop x.1)) (0, a0) id ⟨Nat.zero_le _, Nat.le_refl _, Nat.le_refl _, rfl⟩ ⟨?_, ?_, ?_, ?_, ?_, ?_⟩ fun x hx => ?_
 all_goals first | (with_reducible refine W_id ?_) | (simp [push_cast, hLr, hKr]; done)
 obtain ⟨j, a⟩ := x
 obtain ⟨hj, ha1, ha2, hfit⟩ := hx
 simp only at hj ha1 ha2 hfit ⊢
 by_cases hjl : ¬ j < k
 ·
  have g1 : (j < k) = False := eq_false hjl
  have g1' : ((j : Int) < (k : Int)) = False := eq_false (by omega)
  have hr : out = ((a - a0 : Nat) : Int) := by
   rw [hout, hfit, List.drop_of_length_le (by omega)]
   rfl
  have hw : IntKind.i64.wrap ((a : Int) - (a0 : Int)) = ((a - a0 : Nat) : Int) := by rw [i64_in _ (by omega)]; omega
  rw [hr]
  repeat' (first
   | with_reducible first | apply thenW_n | apply thenW_exit | apply blockW_same | apply loopW_exit | apply W_seq | apply W_ret | apply W_exit
   | with_reducible refine W_rg ?_
   | (rw [vcn]; (try simp [push_cast, g1, g1', hw]))
   | (with_reducible refine W_condW ?_; (try simp [AS.val, upd, resB, mkS_env, mkS_box, lk, entry_env, condW_true, condW_false, g1, g1', hw]))
   | fail)
  simp [post, resAV, resAll, resOne, closeV, closeC, closeL, resD, resDL, push_cast, hw]
 have hjl : j < k := by omega
 have g1 : (j < k) = True := eq_true hjl
 have g1' : ((j : Int) < (k : Int)) = True := eq_true (by omega)
 obtain ⟨w, t, hdw, hwb, htw⟩ := hKa j hjl
 rw [hdw, fitS] at hfit
 have hwm : ((w : Int).tmod 1000) = ((w % 1000 : Nat) : Int) := by rw [Int.ofNat_tmod]; rfl
 obtain ⟨m, hm⟩ : ∃ m, m = w % 1000 := ⟨_, rfl⟩
 rw [← hm] at hwm hfit
 obtain ⟨ok, hok⟩ : ∃ b, b = okS L a m := ⟨_, rfl⟩
 obtain ⟨is, his⟩ : ∃ b, b = isS L a m := ⟨_, rfl⟩
 rw [← hok, ← his] at hfit
 have htl := congrArg List.length htw
 rw [List.length_drop, hKl] at htl
 simp only [List.length_cons] at htl
 repeat' (first
  | with_reducible first | apply thenW_n | apply W_seq | apply W_skip
  | with_reducible refine W_rg ?_
  | (rw [vcn]; (try simp [push_cast, g1, g1']))
  | (with_reducible refine W_condW ?_; (try simp [AS.val, upd, resB, mkS_env, mkS_box, lk, entry_env, condW_true, condW_false, g1, g1']))
  | fail)
 refine W_block (W_seq ?_)
 refine W_joinQ (X := Unit) (fun _ => [(0, .slc f 3 n C), (1, i64V (a : Int)), (2, .slc g 1 k K), (7, i64V (a0 : Int)), (8, i64V (j : Int)), (9, i64V (m : Int))]) (fun _ => []) (fun _ => True) ?_ fun _ _ => ?_
 ·
  repeat' (first
   | with_reducible refine W_rg ?_
   | (rw [vcn]; (try simp [push_cast, htw, hKl, hjl, hwm]))
   | fail)
  refine joinW_n () id trivial ⟨?_, ?_, ?_, ?_, ?_, ?_⟩
  all_goals first | (simp [push_cast, hLr, hKr]; done)
 refine W_seq ?_
 refine W_joinQ (X := Unit) (fun _ => [(0, .slc f 3 n C), (1, i64V (a : Int)), (2, .slc g 1 k K), (7, i64V (a0 : Int)), (8, i64V (j : Int)), (9, i64V (m : Int)), (10, .v (.bool ok))]) (fun _ => []) (fun _ => True) ?_ fun _ _ => ?_
 ·
  by_cases han : ¬ a < n
  ·
   have g2 : (a < n) = False := eq_false han
   have g2' : ((a : Int) < (n : Int)) = False := eq_false (by omega)
   have hf : ok = false := by rw [hok, okS, List.getElem?_eq_none (by omega)]
   rw [hf]
   repeat' (first
    | with_reducible refine W_rg ?_
    | (rw [vcn]; (try simp [push_cast, g2, g2']))
    | fail)
   refine joinW_n () id trivial ⟨?_, ?_, ?_, ?_, ?_, ?_⟩
   all_goals first | (simp [push_cast, hLr, hKr]; done)
  have han : a < n := by omega
  have g2 : (a < n) = True := eq_true han
  have g2' : ((a : Int) < (n : Int)) = True := eq_true (by omega)
  have hal : a < L.length := by omega
  obtain ⟨t3, ht3⟩ := hat a hal
  have hbb := hbody L[a] (List.getElem_mem _)
  rw [okS, List.getElem?_eq_getElem hal] at hok
  obtain ⟨r, hr⟩ : ∃ r, r = L[a] := ⟨_, rfl⟩
  rw [← hr] at ht3 hbb hok
  rw [← hC] at ht3
  obtain ⟨rk, rd, rb⟩ := r
  simp only at ht3 hbb hok
  have hc := refRight_ok rk rd rb hbb
  obtain ⟨q, hq⟩ : ∃ q, q = refR rk rd rb := ⟨_, rfl⟩
  rw [← hq] at hc hok
  have htl3 := congrArg List.length ht3
  rw [List.length_drop, hlen] at htl3
  simp only [List.length_cons] at htl3
  have hu8 := rk.toNat_lt
  have hcv : IntKind.i64.wrap (rk.toNat : Int) = (rk.toNat : Int) := i64_in _ (by omega)
  by_cases hkm : rk.toNat = m
  ·
   have g3 : ((rk.toNat : Int) == (m : Int)) = true := by rw [beq_iff_eq]; omega
   have g3' : ((rk.toNat : Int) = (m : Int)) = True := eq_true (by omega)
   have hf : ok = q := by rw [hok, hkm]; simp
   rw [hf]
   repeat' (first
    | with_reducible refine W_rg ?_
    | (rw [vcn]; (try simp [push_cast, g2, g2', g3, g3', hcv, ht3, hlen, han]))
    | fail)
   refine CallG_of (hc) rfl rfl rfl ?_
   try dsimp only
   repeat' (first
    | (rw [vcn]; (try simp [push_cast, g2, g2', g3, g3', hcv, ht3, hlen, han]))
    | fail)
   refine joinW_n () id trivial ⟨?_, ?_, ?_, ?_, ?_, ?_⟩
   all_goals first | (simp [push_cast, hLr, hKr]; done)
  ·
   have g3 : ((rk.toNat : Int) == (m : Int)) = false := by rw [beq_eq_false_iff_ne]; omega
   have g3' : ((rk.toNat : Int) = (m : Int)) = False := eq_false (by omega)
   have hf : ok = false := by rw [hok]; simp [hkm]
   rw [hf]
   repeat' (first
    | with_reducible refine W_rg ?_
    | (rw [vcn]; (try simp [push_cast, g2, g2', g3, g3', hcv, ht3, hlen, han]))
    | fail)
   refine joinW_n () id trivial ⟨?_, ?_, ?_, ?_, ?_, ?_⟩
   all_goals first | (simp [push_cast, hLr, hKr]; done)
 refine W_seq ?_
 refine W_joinQ (X := Unit) (fun _ => [(0, .slc f 3 n C), (1, i64V (a : Int)), (2, .slc g 1 k K), (7, i64V (a0 : Int)), (8, i64V (j : Int)), (10, .v (.bool ok)), (11, .v (.bool is))]) (fun _ => []) (fun _ => True) ?_ fun _ _ => ?_
 ·
  by_cases han : ¬ a < n
  ·
   have g2 : (a < n) = False := eq_false han
   have g2' : ((a : Int) < (n : Int)) = False := eq_false (by omega)
   have hf : is = false := by rw [his, isS, List.getElem?_eq_none (by omega)]
   rw [hf]
   repeat' (first
    | with_reducible refine W_rg ?_
    | (rw [vcn]; (try simp [push_cast, g2, g2']))
    | fail)
   refine joinW_n () id trivial ⟨?_, ?_, ?_, ?_, ?_, ?_⟩
   all_goals first | (simp [push_cast, hLr, hKr]; done)
  have han : a < n := by omega
  have g2 : (a < n) = True := eq_true han
  have g2' : ((a : Int) < (n : Int)) = True := eq_true (by omega)
  have hal : a < L.length := by omega
  obtain ⟨t3, ht3⟩ := hat a hal
  rw [isS, List.getElem?_eq_getElem hal] at his
  obtain ⟨r, hr⟩ : ∃ r, r = L[a] := ⟨_, rfl⟩
  rw [← hr] at ht3 his
  rw [← hC] at ht3
  obtain ⟨rk, rd, rb⟩ := r
  simp only at ht3 his
  have htl3 := congrArg List.length ht3
  rw [List.length_drop, hlen] at htl3
  simp only [List.length_cons] at htl3
  have hu8 := rk.toNat_lt
  have hcv : IntKind.i64.wrap (rk.toNat : Int) = (rk.toNat : Int) := i64_in _ (by omega)
  by_cases hkm : rk.toNat = m
  ·
   have g3 : ((rk.toNat : Int) == (m : Int)) = true := by rw [beq_iff_eq]; omega
   have g3' : ((rk.toNat : Int) = (m : Int)) = True := eq_true (by omega)
   have hf : is = true := by rw [his]; simp [hkm]
   rw [hf]
   repeat' (first
    | with_reducible refine W_rg ?_
    | (rw [vcn]; (try simp [push_cast, g2, g2', g3, g3', hcv, ht3, hlen, han]))
    | fail)
   refine joinW_n () id trivial ⟨?_, ?_, ?_, ?_, ?_, ?_⟩
   all_goals first | (simp [push_cast, hLr, hKr]; done)
  ·
   have g3 : ((rk.toNat : Int) == (m : Int)) = false := by rw [beq_eq_false_iff_ne]; omega
   have g3' : ((rk.toNat : Int) = (m : Int)) = False := eq_false (by omega)
   have hf : is = false := by rw [his]; simp [hkm]
   rw [hf]
   repeat' (first
    | with_reducible refine W_rg ?_
    | (rw [vcn]; (try simp [push_cast, g2, g2', g3, g3', hcv, ht3, hlen, han]))
    | fail)
   refine joinW_n () id trivial ⟨?_, ?_, ?_, ?_, ?_, ?_⟩
   all_goals first | (simp [push_cast, hLr, hKr]; done)
 clear hok his
 cases ok with
 | true =>
  rw [if_pos rfl] at hfit
  have hw : IntKind.i64.wrap ((a : Int) + 1) = ((a + 1 : Nat) : Int) := by rw [i64_in _ (by omega)]; omega
  repeat' (first
   | with_reducible first | apply thenW_n | apply blockW_n | apply W_seq
   | with_reducible refine W_rg ?_
   | (rw [vcn]; (try simp [push_cast, hw]); try simp (disch := omega) only [i64_in, u64_in, shr64i])
   | (with_reducible refine W_condW ?_; (try simp [AS.val, upd, resB, mkS_env, mkS_box, lk, entry_env, condW_true, condW_false, hw]))
   | fail)
  refine loopW_n (j + 1, a + 1) id (by simp only; omega) ⟨by simp only; omega, by simp only; omega, by simp only; omega, hfit⟩ ⟨?_, ?_, ?_, ?_, ?_, ?_⟩
  all_goals first | (simp [push_cast, hLr, hKr]; done)
 | false =>
  rw [if_neg (by decide)] at hfit
  by_cases hw1 : w < 1000
  ·
   have g4 : ((w : Int) < 1000) = True := eq_true (by omega)
   have g4' : (w < 1000) = True := eq_true hw1
   rw [if_pos (.inl hw1)] at hfit
   have hr : out = -1 := by rw [hout, hfit]
   rw [hr]
   repeat' (first
    | with_reducible first | apply thenW_n | apply thenW_ret | apply blockW_ret | apply loopW_ret | apply W_seq | apply W_ret
    | with_reducible refine W_rg ?_
    | (rw [vcn]; (try simp [push_cast, htw, hKl, hjl, g4, g4']))
    | (with_reducible refine W_condW ?_; (try simp [AS.val, upd, resB, mkS_env, mkS_box, lk, entry_env, condW_true, condW_false, htw, hKl, hjl, g4, g4']))
    | fail)
   simp [post, resAV, resAll, resOne, closeV, closeC, closeL, resD, resDL, push_cast]
  have g4 : ((w : Int) < 1000) = False := eq_false (by omega)
  have g4' : (w < 1000) = False := eq_false hw1
  cases is with
  | true =>
   rw [if_pos (.inr rfl)] at hfit
   have hr : out = -1 := by rw [hout, hfit]
   rw [hr]
   repeat' (first
    | with_reducible first | apply thenW_n | apply thenW_ret | apply blockW_ret | apply loopW_ret | apply W_seq | apply W_ret
    | with_reducible refine W_rg ?_
    | (rw [vcn]; (try simp [push_cast, htw, hKl, hjl, g4, g4']))
    | (with_reducible refine W_condW ?_; (try simp [AS.val, upd, resB, mkS_env, mkS_box, lk, entry_env, condW_true, condW_false, htw, hKl, hjl, g4, g4']))
    | fail)
   simp [post, resAV, resAll, resOne, closeV, closeC, closeL, resD, resDL, push_cast]
  | false =>
   rw [if_neg (by simp [hw1])] at hfit
   repeat' (first
    | with_reducible first | apply thenW_n | apply blockW_n | apply W_seq | apply W_skip
    | with_reducible refine W_rg ?_
    | (rw [vcn]; (try simp [push_cast, htw, hKl, hjl, g4, g4']); try simp (disch := omega) only [i64_in, u64_in, shr64i])
    | (with_reducible refine W_condW ?_; (try simp [AS.val, upd, resB, mkS_env, mkS_box, lk, entry_env, condW_true, condW_false, htw, hKl, hjl, g4, g4']))
    | fail)
   refine loopW_n (j + 1, a) id (by simp only; omega) ⟨by simp only; omega, by simp only; omega, by simp only; omega, hfit⟩ ⟨?_, ?_, ?_, ?_, ?_, ?_⟩
   all_goals first | (simp [push_cast, hLr, hKr]; done)
end Go.Fw
