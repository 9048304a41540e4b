/- gds, the document's side: the walk of Tree. -/
import Derived.Test.YtjgbikhnnkigpaaGp34
import Derived.Test.YtjgbikhnnkigpaaGp23b
set_option linter.unusedSimpArgs false
set_option linter.unusedVariables false
-- VALS: recAV
namespace Go.Fw
open Go Go.Proofs Go.IntWalk
set_option linter.unusedSimpArgs false
set_option maxRecDepth 100000
set_option maxHeartbeats 4000000
open List (map_take map_drop)
attribute [local push_cast] optK_some optK_none optK_ite optK_map optK_bind gOn stepK isMem evPure evMem evBin evUn evConv evLen evBuiltin evMinMax evSlice evBuild evAppend evIndex evIndexAddr evField evFieldAddr intBin strBin appDest AS.val AS.mem AS.elems AS.put AS.put' AS.eff AV.cells? AV.isCell AV.refs all_isByte take_byteV drop_byteV strOf_map bndOk bnd partAV ptrAdd killBox catA inOrder fillA setAt ofVal resB upd byteV List.head?_take List.head?_drop List.getElem?_map mkS_env mkS_box mkS_used entry_env entry_box entry_used lk stepD lookIds Oper.looksAt Op.operands Call.operands St.ids refsL renL_append dV_take dV_drop ren renL renBox Box.refs iV i64V boolV dV_getElem dV_app dV_cons toNat_add2 toNat_add1
theorem rowK_some (k : UInt8) (b : Bool) (ks : List Nat) (h : rowsP k b = some ks) : Eval Try.prog 72 [byteV k, .v (.bool b)] (.ret (.slc false 1 ks.length (intsC (ks.map convK)))) := by
 have h2 := (rows_some k b (ks.map convK) (by rw [rowsP_rowsD, h]; rfl)).frz1
 rwa [List.length_map] at h2
theorem rowK_none (k : UInt8) (b : Bool) (h : rowsP k b = none) : Eval Try.prog 72 [byteV k, .v (.bool b)] (.ret (.v (.slice none 0 0))) :=
 rows_none k b (by rw [rowsP_rowsD, h]; rfl)
theorem tree_ok : TreeOk := by
 intro f L hL hbody
 obtain ⟨out, hout⟩ : ∃ o, o = treeAV L := ⟨_, rfl⟩
 have hno : parseS L = none → out = .tup [.agg [nilV, nilV], .v (.bool false)] := fun h => by rw [hout, treeAV, h]
 have hyes : ∀ t, parseS L = some t → out = .tup [libAV t, .v (.bool true)] := fun t h => by rw [hout, treeAV, h]
 rw [← hout]
 clear hout
 have hlen := recsCells_len L
 have hat := recsCells_at L
 have hLr := recsCells_refs L
 have hfit : ∀ (a : Nat) (ks : List Nat) (K : List AV) (m : Nat), K = (ks.map convK).map (fun k : Nat => i64V (k : Int)) → ks.length = m → a ≤ L.length → ks.length ≤ 1000 → (∀ k ∈ ks, k < 512) →
   Eval Try.prog 71 [.slc f 3 L.length (recsCells L), i64V (a : Int), .slc false 1 m K] (.ret (i64V (rowV a (rowS L a ks)))) := fun a ks K m hK hm ha h1 h2 => by
  rw [← hm]
  exact fit_at f L a ks K hK hL hbody ha h1 h2
 have hcut := fun a b => copied_cut false L a b hL hbody
 have hpre := fun b => copied_pre false L b hL hbody
 obtain ⟨n, hn⟩ : ∃ n, n = L.length := ⟨_, rfl⟩
 obtain ⟨C, hC⟩ : ∃ C, C = recsCells L := ⟨_, rfl⟩
 simp only [← hn, ← hC] at hlen hat hLr hfit hcut hpre hL ⊢
 have hre : ∀ l, refsL (recsCells l) = [] := recsCells_refs
 have hrn : ∀ ρ l, renL ρ (recsCells l) = recsCells l := fun ρ l => renL_id ρ _ (recsCells_refs l)
 have hhead : headS L = none → parseS L = none := fun h => by rw [parseS, libS, h]
 refine Eval.intro Try.func60 rfl Try.call60 _ _ (Nat.le_of_ble_eq_true rfl) (by simp [natAV, recAV, push_cast]) fun hs0 => ?_
 clear hs0
 have hf0 := hfit 0 (headRow ++ [310]) [i64V 0, i64V 1, i64V 1057, i64V 1058, i64V 1059, i64V 2, i64V 1031, i64V 1032, i64V 1035, i64V 1034, i64V 1054] 11 rfl rfl (Nat.zero_le _) (by decide) (by decide)
 refine W_seq ?_
 refine W_joinQ (X := Unit) (fun _ => [(0, .slc f 3 n C), (2, .bp 2 0)]) (fun _ => [(2, .mut 58 [nilV, nilV])]) (fun _ => True) ?_ fun _ _ => ?_
 ·
  repeat' (first
   | with_reducible refine W_rg ?_
   | (rw [vcn]; (try simp [push_cast]))
   | fail)
  refine joinW_n () id trivial ⟨?_, ?_, ?_, ?_, ?_, ?_⟩
  all_goals first | (simp [push_cast, hLr, nilV]; done)
 refine W_seq ?_
 refine W_joinQ (X := Unit) (fun _ => [(0, .slc f 3 n C), (2, .bp 2 0), (4, .bp 4 0)]) (fun _ => [(2, .mut 58 [nilV, nilV]), (4, .mut 58 [nilV, nilV])]) (fun _ => True) ?_ fun _ _ => ?_
 ·
  repeat' (first
   | with_reducible refine W_rg ?_
   | (rw [vcn]; (try simp [push_cast, nilV]))
   | fail)
  refine joinW_n () id trivial ⟨?_, ?_, ?_, ?_, ?_, ?_⟩
  all_goals first | (simp [push_cast, hLr, nilV]; done)
 cases hr1 : rowS L 0 headRow with
 | none =>
  rw [head_row0 hr1] at hf0
  rw [hno (hhead (by rw [headS, hr1]))]
  repeat' (first
   | with_reducible apply W_seq
   | with_reducible refine W_rg ?_
   | (rw [vcn]; (try simp [push_cast, nilV]))
   | fail)
  refine CallG_frz _ _ rfl ?_ (hf0) ?_ (by simp [push_cast]) rfl ?_
  · first | (simp [frzS, resDL, resD, push_cast]; done) | (simp [frzS, resDL, resD, push_cast]; rw [List.take_of_length_le (by simp)]; done) | (simp [frzS, resDL, resD, push_cast]; fail_if_success done)
  · simp [frzOk, push_cast]
  try dsimp only
  try simp only [refsL, AV.refs, frzS, List.append_nil, upd, mkS_box, entry_box, lk, if_true, if_false]
  repeat' (first
   | with_reducible first | apply thenW_n | apply thenW_ret | apply W_seq | apply W_ret
   | with_reducible refine W_rg ?_
   | (rw [vcn]; (try simp [push_cast, nilV, rowV, frzS]))
   | (with_reducible refine W_condW ?_; (try simp [AS.val, upd, resB, mkS_env, mkS_box, lk, entry_env, condW_true, condW_false, nilV, rowV, frzS]))
   | fail)
  simp [post, resAV, resAll, resOne, closeV, closeC, closeL, resD, resDL, push_cast, nilV, frzS]
 | some p1 =>
 obtain ⟨h0, a1⟩ := p1
 obtain ⟨ha1, hl1⟩ := rowS_le hr1 (Nat.zero_le _)
 obtain ⟨hpos, r1, hlast, hne⟩ := head_last hr1
 rw [head_row hr1] at hf0
 simp only at ha1 hl1
 have hD := headD_eq hr1
 obtain ⟨sb, hsb⟩ : ∃ b, b = seesS L a1 [0x36] := ⟨_, rfl⟩
 rw [← hsb] at hf0 hD
 by_cases hB : sb = true ∧ mustS L a1 0x36 = none
 ·
  rw [if_pos hB.1, hB.2] at hf0
  rw [if_pos hB.1, masksD, hB.2] at hD
  rw [hno (hhead hD)]
  repeat' (first
   | with_reducible apply W_seq
   | with_reducible refine W_rg ?_
   | (rw [vcn]; (try simp [push_cast, nilV]))
   | fail)
  refine CallG_frz _ _ rfl ?_ (hf0) ?_ (by simp [push_cast]) rfl ?_
  · first | (simp [frzS, resDL, resD, push_cast]; done) | (simp [frzS, resDL, resD, push_cast]; rw [List.take_of_length_le (by simp)]; done) | (simp [frzS, resDL, resD, push_cast]; fail_if_success done)
  · simp [frzOk, push_cast]
  try dsimp only
  try simp only [refsL, AV.refs, frzS, List.append_nil, upd, mkS_box, entry_box, lk, if_true, if_false]
  repeat' (first
   | with_reducible first | apply thenW_n | apply thenW_ret | apply W_seq | apply W_ret
   | with_reducible refine W_rg ?_
   | (rw [vcn]; (try simp [push_cast, nilV, rowV, frzS]))
   | (with_reducible refine W_condW ?_; (try simp [AS.val, upd, resB, mkS_env, mkS_box, lk, entry_env, condW_true, condW_false, nilV, rowV, frzS]))
   | fail)
  simp [post, resAV, resAll, resOne, closeV, closeC, closeL, resD, resDL, push_cast, nilV, frzS]
 obtain ⟨N, hN1, hNn, hrow, rl, hrl, hrk, hNf, hNt⟩ : ∃ N : Nat, 1 ≤ N ∧ N ≤ n ∧ rowV 0 (if sb = true then (mustS L a1 0x36).map fun r => (h0 ++ [r], a1 + 1) else some (h0, a1)) = (N : Int) ∧ ∃ rl, L[N - 1]? = some rl ∧ (rl.1 = 54 ↔ sb = true) ∧
   (sb = false → N = a1) ∧ (sb = true → N = a1 + 1 ∧ mustS L a1 0x36 = some rl) := by
  cases sb with
  | false => exact ⟨a1, hpos, by omega, by simp [rowV], r1, hlast, by simp [hne], fun _ => rfl, fun h => Bool.noConfusion h⟩
  | true =>
   cases hm : mustS L a1 0x36 with
   | none => exact absurd ⟨rfl, hm⟩ hB
   | some r =>
    obtain ⟨h1, h2⟩ := must_kind hm
    have h3 := (mustS_lt hm).1
    exact ⟨a1 + 1, by omega, by omega, by simp [rowV], r, by simpa using h1, by simp [h2], fun h => Bool.noConfusion h, fun _ => ⟨rfl, rfl⟩⟩
 rw [hrow] at hf0
 clear hrow hB hlast hne
 have gN : ((N : Int) < 0) = False := eq_false (by omega)
 refine W_seq ?_
 refine W_joinQ (X := Unit) (fun _ => [(0, .slc f 3 n C), (2, .bp 2 0), (4, .bp 4 0), (5, i64V (N : Int))]) (fun _ => [(2, .mut 58 [nilV, nilV]), (4, .mut 58 [nilV, nilV])]) (fun _ => True) ?_ fun _ _ => ?_
 ·
  repeat' (first
   | with_reducible refine W_rg ?_
   | (rw [vcn]; (try simp [push_cast, nilV]))
   | fail)
  refine CallG_frz _ _ rfl ?_ (hf0) ?_ (by simp [push_cast]) rfl ?_
  · first | (simp [frzS, resDL, resD, push_cast]; done) | (simp [frzS, resDL, resD, push_cast]; rw [List.take_of_length_le (by simp)]; done) | (simp [frzS, resDL, resD, push_cast]; fail_if_success done)
  · simp [frzOk, push_cast]
  try dsimp only
  try simp only [refsL, AV.refs, frzS, List.append_nil, upd, mkS_box, entry_box, lk, if_true, if_false]
  repeat' (first
   | (rw [vcn]; (try simp [push_cast, nilV, frzS]))
   | fail)
  refine joinW_n () id trivial ⟨?_, ?_, ?_, ?_, ?_, ?_⟩
  all_goals first | (simp [push_cast, hLr, nilV]; done)
 refine W_seq ?_
 refine W_joinQ (X := Unit) (fun _ => [(0, .slc f 3 n C), (2, .bp 2 0), (4, .bp 4 0), (5, i64V (N : Int))]) (fun _ => [(2, .mut 58 [nilV, nilV]), (4, .mut 58 [nilV, nilV])]) (fun _ => True) ?_ fun _ _ => ?_
 ·
  repeat' (first
   | with_reducible first | apply thenW_n | apply W_seq | apply W_skip
   | with_reducible refine W_rg ?_
   | (rw [vcn]; (try simp [push_cast, nilV, gN]))
   | (with_reducible refine W_condW ?_; (try simp [AS.val, upd, resB, mkS_env, mkS_box, lk, entry_env, condW_true, condW_false, nilV, gN]))
   | fail)
  refine joinW_n () id trivial ⟨?_, ?_, ?_, ?_, ?_, ?_⟩
  all_goals first | (simp [push_cast, hLr, nilV]; done)
 refine W_seq ?_
 refine W_joinQ (X := Unit) (fun _ => [(0, .slc f 3 n C), (2, .bp 2 0), (4, .bp 4 0), (6, i64V (N : Int))]) (fun _ => [(2, .mut 58 [nilV, nilV]), (4, .mut 58 [nilV, nilV])]) (fun _ => True) ?_ fun _ _ => ?_
 ·
  repeat' (first
   | with_reducible refine W_rg ?_
   | (rw [vcn]; (try simp [push_cast, nilV]))
   | fail)
  refine joinW_n () id trivial ⟨?_, ?_, ?_, ?_, ?_, ?_⟩
  all_goals first | (simp [push_cast, hLr, nilV]; done)
 clear hf0 gN
 -- the masks
 refine W_seq ?_
 refine W_joinQ (X := Nat) (fun a => [(0, .slc f 3 n C), (2, .bp 2 0), (4, .bp 4 0), (6, i64V (a : Int))]) (fun _ => [(2, .mut 58 [nilV, nilV]), (4, .mut 58 [nilV, nilV])]) (fun a => a ≤ n ∧ ∃ m, (if sb = true then masksD L a1 else some ([], a1)) = some (m, a)) ?_ fun x hx => ?_
 ·
  obtain ⟨t3, ht3⟩ := hat (N - 1) (by omega)
  have hrl2 : L[N - 1]'(by omega) = rl := by
   rw [List.getElem?_eq_getElem (by omega)] at hrl
   exact Option.some.inj hrl
  rw [hrl2] at ht3
  obtain ⟨rk, rd, rb⟩ := rl
  simp only at ht3 hrk
  have htl3 := congrArg List.length ht3
  rw [List.length_drop, hlen] at htl3
  simp only [List.length_cons] at htl3
  have hw1 : IntKind.i64.wrap ((N : Int) - 1) = ((N - 1 : Nat) : Int) := by rw [i64_in _ (by omega)]; omega
  have hlt1 : N - 1 < n := by omega
  refine W_seq ?_
  refine W_joinQ (X := Unit) (fun _ => [(0, .slc f 3 n C), (2, .bp 2 0), (4, .bp 4 0), (6, i64V (N : Int)), (30, .v (.bool sb))]) (fun _ => [(2, .mut 58 [nilV, nilV]), (4, .mut 58 [nilV, nilV])]) (fun _ => True) ?_ fun _ _ => ?_
  ·
   have g3 : ((rk.toNat : Int) == 54) = sb := by
    rw [Bool.eq_iff_iff, beq_iff_eq, ← hrk]
    constructor
    ·
     intro h
     exact UInt8.toNat_inj.1 (by rw [show (54 : UInt8).toNat = 54 from rfl]; omega)
    ·
     intro h
     rw [h]
     rfl
   repeat' (first
    | with_reducible refine W_rg ?_
    | (rw [vcn]; (try simp [push_cast, nilV, hw1, ht3, hlen, hlt1, g3]))
    | fail)
   refine joinW_n () id trivial ⟨?_, ?_, ?_, ?_, ?_, ?_⟩
   all_goals first | (simp [push_cast, hLr, nilV]; done)
  cases sb with
  | false =>
   refine W_cond_f (by simp [AS.val, mkS_env, lk, resB]) ?_
   have hNa := hNf rfl
   repeat' (first
    | with_reducible apply W_skip
    | fail)
   refine joinW_n N id ⟨hNn, [], by rw [if_neg (by decide), hNa]⟩ ⟨?_, ?_, ?_, ?_, ?_, ?_⟩
   all_goals first | (simp [push_cast, hLr, nilV]; done)
  | true =>
   obtain ⟨hNa, hm0⟩ := hNt rfl
   refine W_cond_t (by simp [AS.val, mkS_env, lk, resB]) ?_
   have hmd : masksD L a1 = if (manyD L 0x37 N).1 = [] then some ([(rk, rd, rb)], N) else match mustS L (manyD L 0x37 N).2 0x38 with
     | none => none
     | some r1 => some ((rk, rd, rb) :: (manyD L 0x37 N).1 ++ [r1], (manyD L 0x37 N).2 + 1) := by
    rw [masksD, hm0, hNa]
    rfl
   rw [if_pos rfl] at hD
   refine W_seq ?_
   refine W_joinQ (X := Unit) (fun _ => [(0, .slc f 3 n C), (2, .bp 2 0), (4, .bp 4 0), (6, i64V (N : Int)), (7, i64V 0)]) (fun _ => [(2, .mut 58 [nilV, nilV]), (4, .mut 58 [nilV, nilV])]) (fun _ => True) ?_ fun _ _ => ?_
   ·
    repeat' (first
     | with_reducible refine W_rg ?_
     | (rw [vcn]; (try simp [push_cast, nilV]))
     | fail)
    refine joinW_n () id trivial ⟨?_, ?_, ?_, ?_, ?_, ?_⟩
    all_goals first | (simp [push_cast, hLr, nilV]; done)
   have h55 := fun a (ha : a ≤ n) => hfit a [55] [i64V 55] 1 rfl rfl ha (by decide) (by decide)
   have hv55 := fun a => row_one (L := L) (a := a) 55 (by decide)
   obtain ⟨V, hV⟩ : ∃ V : Nat → Int, V = fun a => rowV a (rowS L a [55]) := ⟨_, rfl⟩
   have hVa : ∀ a, rowV a (rowS L a [55]) = V a := fun a => by rw [hV]
   simp only [hVa] at h55 hv55
   clear hVa hV
   refine W_seq ?_
   refine W_joinQ (X := List Rec × Nat) (fun x => [(0, .slc f 3 n C), (2, .bp 2 0), (4, .bp 4 0), (6, i64V (x.2 : Int)), (7, i64V (x.1.length : Int))]) (fun _ => [(2, .mut 58 [nilV, nilV]), (4, .mut 58 [nilV, nilV])]) (fun x => x.2 ≤ n ∧ x.1.length ≤ n ∧ manyD L 0x37 N = x) ?_ fun x hx => ?_
   ·
    refine W_seq ?_
    refine W_joinQ (X := Unit) (fun _ => [(0, .slc f 3 n C), (2, .bp 2 0), (4, .bp 4 0), (6, i64V (N : Int)), (7, i64V 0), (8, i64V (V N))]) (fun _ => [(2, .mut 58 [nilV, nilV]), (4, .mut 58 [nilV, nilV])]) (fun _ => True) ?_ fun _ _ => ?_
    ·
     have hf := h55 N (by omega)
     repeat' (first
      | with_reducible refine W_rg ?_
      | (rw [vcn]; (try simp [push_cast, nilV]))
      | fail)
     refine CallG_frz _ _ rfl ?_ (hf) ?_ (by simp [push_cast]) rfl ?_
     · first | (simp [frzS, resDL, resD, push_cast]; done) | (simp [frzS, resDL, resD, push_cast]; rw [List.take_of_length_le (by simp)]; done) | (simp [frzS, resDL, resD, push_cast]; fail_if_success done)
     · simp [frzOk, push_cast]
     try dsimp only
     try simp only [refsL, AV.refs, frzS, List.append_nil, upd, mkS_box, entry_box, lk, if_true, if_false]
     repeat' (first
      | (rw [vcn]; (try simp [push_cast, nilV, frzS]))
      | fail)
     refine joinW_n () id trivial ⟨?_, ?_, ?_, ?_, ?_, ?_⟩
     all_goals first | (simp [push_cast, hLr, nilV, frzS]; done)
    refine W_block ?_
    refine W_loopW (X := List Rec × Nat) (fun x => [(0, .slc f 3 n C), (2, .bp 2 0), (4, .bp 4 0), (6, i64V (x.2 : Int)), (7, i64V (x.1.length : Int)), (8, i64V (V x.2))]) (fun _ => [(2, .mut 58 [nilV, nilV]), (4, .mut 58 [nilV, nilV])])
     (fun x => n - x.2) (fun x => x.2 ≤ n ∧ x.1.length ≤ x.2 ∧ manyD L 0x37 N = (x.1 ++ (manyD L 0x37 x.2).1, (manyD L 0x37 x.2).2)) ([], N) id ⟨hNn, Nat.zero_le _, by simp⟩ ⟨?_, ?_, ?_, ?_, ?_, ?_⟩ fun x hx => ?_
    all_goals first | (with_reducible refine W_id ?_) | (simp [push_cast, hLr, nilV]; done)
    obtain ⟨ms, a⟩ := x
    obtain ⟨ha, hml, hmm⟩ := hx
    simp only at ha hml hmm
    have hv := hv55 a
    rw [manyD_eq L 0x37 a] at hmm
    cases hm : mustS L a 0x37 with
    | none =>
     rw [show UInt8.ofNat 55 = 0x37 from rfl, hm] at hv
     rw [hm] at hmm
     simp only at hv hmm
     rw [hv]
     repeat' (first
      | with_reducible first | apply thenW_n | apply thenW_exit | apply blockW_same | apply loopW_exit | apply W_seq | apply W_exit
      | with_reducible refine W_rg ?_
      | (rw [vcn]; (try simp [push_cast, nilV]))
      | (with_reducible refine W_condW ?_; (try simp [AS.val, upd, resB, mkS_env, mkS_box, lk, entry_env, condW_true, condW_false, nilV]))
      | fail)
     refine joinW_n (ms, a) id ⟨ha, by simp only; omega, by rw [hmm]; simp⟩ ⟨?_, ?_, ?_, ?_, ?_, ?_⟩
     all_goals first | (simp [push_cast, hLr, nilV]; done)
    | some r =>
     rw [show UInt8.ofNat 55 = 0x37 from rfl, hm] at hv
     rw [hm] at hmm
     simp only at hv hmm
     have hlt := (mustS_lt hm).1
     rw [← hn] at hlt
     have hf := h55 (a + 1) (by omega)
     have hw2 : IntKind.i64.wrap ((a : Int) + 1) = ((a + 1 : Nat) : Int) := by rw [i64_in _ (by omega)]; omega
     have hw3 : IntKind.i64.wrap ((ms.length : Int) + 1) = ((ms.length + 1 : Nat) : Int) := by rw [i64_in _ (by omega)]; omega
     obtain ⟨a', ha'⟩ : ∃ a', a' = a + 1 := ⟨_, rfl⟩
     obtain ⟨ml, hml'⟩ : ∃ a', a' = ms.length := ⟨_, rfl⟩
     obtain ⟨ml', hml''⟩ : ∃ a', a' = ml + 1 := ⟨_, rfl⟩
     rw [← hml'] at hw3
     rw [← hml''] at hw3
     rw [← ha'] at hf hw2 hmm
     rw [hv]
     simp only [← hml']
     repeat' (first
      | with_reducible first | apply thenW_n | apply blockW_n | apply W_seq | apply W_block | apply W_skip
      | with_reducible refine W_rg ?_
      | (rw [vcn]; (try simp [push_cast, nilV, hw2, hw3]))
      | (with_reducible refine W_condW ?_; (try simp [AS.val, upd, resB, mkS_env, mkS_box, lk, entry_env, condW_true, condW_false, nilV, hw2, hw3]))
      | fail)
     refine CallG_frz _ _ rfl ?_ (hf) ?_ (by simp [push_cast]) rfl ?_
     · first | (simp [frzS, resDL, resD, push_cast]; done) | (simp [frzS, resDL, resD, push_cast]; rw [List.take_of_length_le (by simp)]; done) | (simp [frzS, resDL, resD, push_cast]; fail_if_success done)
     · simp [frzOk, push_cast]
     try dsimp only
     try simp only [refsL, AV.refs, frzS, List.append_nil, upd, mkS_box, entry_box, lk, if_true, if_false]
     repeat' (first
      | (rw [vcn]; (try simp [push_cast, nilV, frzS]))
      | fail)
     refine loopW_n (ms ++ [r], a') id (by simp only; omega) ⟨by simp only; omega, by simp; omega, by rw [hmm]; simp⟩ ⟨?_, ?_, ?_, ?_, ?_, ?_⟩
     all_goals first | (simp [push_cast, hLr, nilV, frzS, hml'', hml']; done)
   obtain ⟨ms, a⟩ := x
   obtain ⟨ha, hml, hmm⟩ := hx
   simp only at ha hml
   rw [hmm] at hmd
   simp only at hmd
   obtain ⟨ml, hml'⟩ : ∃ a', a' = ms.length := ⟨_, rfl⟩
   simp only [← hml'] at hml ⊢
   have hms0 : ms = [] ↔ ml = 0 := by rw [hml', List.length_eq_zero_iff]
   refine W_seq ?_
   refine W_joinQ (X := Unit) (fun _ => [(0, .slc f 3 n C), (2, .bp 2 0), (4, .bp 4 0), (6, i64V (a : Int)), (47, .v (.bool (decide (0 < ml))))]) (fun _ => [(2, .mut 58 [nilV, nilV]), (4, .mut 58 [nilV, nilV])]) (fun _ => True) ?_ fun _ _ => ?_
   ·
    repeat' (first
     | with_reducible refine W_rg ?_
     | (rw [vcn]; (try simp [push_cast, nilV]))
     | fail)
    refine joinW_n () id trivial ⟨?_, ?_, ?_, ?_, ?_, ?_⟩
    all_goals first | (simp [push_cast, hLr, nilV]; done)
   by_cases hm0 : ml = 0
   ·
    refine W_cond_f (by simp [AS.val, mkS_env, lk, resB, hm0]) ?_
    have hms := hms0.2 hm0
    subst hms
    have hNa2 : a = N := by
     have h1 := manyDF_pos L 0x37 L.length N
     rw [show manyDF L 0x37 L.length N = ([], a) from hmm] at h1
     simpa using h1
    rw [if_pos rfl] at hmd
    repeat' (first
     | with_reducible apply W_skip
     | fail)
    refine joinW_n a id ⟨ha, [(rk, rd, rb)], (show masksD L a1 = _ from by rw [hmd, hNa2])⟩ ⟨?_, ?_, ?_, ?_, ?_, ?_⟩
    all_goals first | (simp [push_cast, hLr, nilV]; done)
   ·
    refine W_cond_t (by simp [AS.val, mkS_env, lk, resB]; omega) ?_
    rw [if_neg (fun e => hm0 (hms0.1 e))] at hmd
    have hf := hfit a [56] [i64V 56] 1 rfl rfl (by omega) (by decide) (by decide)
    rw [row_one 56 (by decide), show UInt8.ofNat 56 = 0x38 from rfl] at hf
    cases hm8 : mustS L a 0x38 with
    | none =>
     rw [hm8] at hmd hf
     simp only at hmd hf
     rw [hmd] at hD
     rw [hno (hhead hD)]
     repeat' (first
      | with_reducible apply W_seq
      | with_reducible refine W_rg ?_
      | (rw [vcn]; (try simp [push_cast, nilV]))
      | fail)
     refine CallG_frz _ _ rfl ?_ (hf) ?_ (by simp [push_cast]) rfl ?_
     · first | (simp [frzS, resDL, resD, push_cast]; done) | (simp [frzS, resDL, resD, push_cast]; rw [List.take_of_length_le (by simp)]; done) | (simp [frzS, resDL, resD, push_cast]; fail_if_success done)
     · simp [frzOk, push_cast]
     try dsimp only
     try simp only [refsL, AV.refs, frzS, List.append_nil, upd, mkS_box, entry_box, lk, if_true, if_false]
     repeat' (first
      | with_reducible first | apply thenW_n | apply thenW_ret | apply joinW_ret | apply W_seq | apply W_ret
      | with_reducible refine W_rg ?_
      | (rw [vcn]; (try simp [push_cast, nilV, frzS]))
      | (with_reducible refine W_condW ?_; (try simp [AS.val, upd, resB, mkS_env, mkS_box, lk, entry_env, condW_true, condW_false, nilV, frzS]))
      | fail)
     simp [post, resAV, resAll, resOne, closeV, closeC, closeL, resD, resDL, push_cast, nilV, frzS]
    | some r8 =>
     rw [hm8] at hmd hf
     simp only at hmd hf
     have hlt := (mustS_lt hm8).1
     rw [← hn] at hlt
     have hw2 : IntKind.i64.wrap ((a : Int) + 1) = ((a + 1 : Nat) : Int) := by rw [i64_in _ (by omega)]; omega
     obtain ⟨a', ha'⟩ : ∃ a', a' = a + 1 := ⟨_, rfl⟩
     rw [← ha'] at hw2 hmd
     repeat' (first
      | with_reducible apply W_seq
      | with_reducible refine W_rg ?_
      | (rw [vcn]; (try simp [push_cast, nilV]))
      | fail)
     refine CallG_frz _ _ rfl ?_ (hf) ?_ (by simp [push_cast]) rfl ?_
     · first | (simp [frzS, resDL, resD, push_cast]; done) | (simp [frzS, resDL, resD, push_cast]; rw [List.take_of_length_le (by simp)]; done) | (simp [frzS, resDL, resD, push_cast]; fail_if_success done)
     · simp [frzOk, push_cast]
     try dsimp only
     try simp only [refsL, AV.refs, frzS, List.append_nil, upd, mkS_box, entry_box, lk, if_true, if_false]
     repeat' (first
      | with_reducible first | apply thenW_n | apply W_seq | apply W_skip
      | with_reducible refine W_rg ?_
      | (rw [vcn]; (try simp [push_cast, nilV, frzS, hw2]))
      | (with_reducible refine W_condW ?_; (try simp [AS.val, upd, resB, mkS_env, mkS_box, lk, entry_env, condW_true, condW_false, nilV, frzS, hw2]))
      | fail)
     refine joinW_n a' id ⟨by omega, _, (show masksD L a1 = _ from hmd)⟩ ⟨?_, ?_, ?_, ?_, ?_, ?_⟩
     all_goals first | (simp [push_cast, hLr, nilV, frzS]; done)
 obtain ⟨hxn, m, hmk⟩ := hx
 rw [hmk] at hD
 simp only at hD
 clear hmk hNf hNt hrk hrl rl
 -- behind the head
 have hf := hfit x [3] [i64V 3] 1 rfl rfl (by omega) (by decide) (by decide)
 rw [row_one 3 (by decide), show UInt8.ofNat 3 = 3 from rfl] at hf
 cases hm3 : mustS L x 3 with
 | none =>
  rw [hm3] at hD hf
  simp only at hD hf
  rw [hno (hhead hD)]
  repeat' (first
   | with_reducible apply W_seq
   | with_reducible refine W_rg ?_
   | (rw [vcn]; (try simp [push_cast, nilV]))
   | fail)
  refine CallG_frz _ _ rfl ?_ (hf) ?_ (by simp [push_cast]) rfl ?_
  · first | (simp [frzS, resDL, resD, push_cast]; done) | (simp [frzS, resDL, resD, push_cast]; rw [List.take_of_length_le (by simp)]; done) | (simp [frzS, resDL, resD, push_cast]; fail_if_success done)
  · simp [frzOk, push_cast]
  try dsimp only
  try simp only [refsL, AV.refs, frzS, List.append_nil, upd, mkS_box, entry_box, lk, if_true, if_false]
  repeat' (first
   | with_reducible first | apply thenW_n | apply thenW_ret | apply W_seq | apply W_ret
   | with_reducible refine W_rg ?_
   | (rw [vcn]; (try simp [push_cast, nilV, frzS]))
   | (with_reducible refine W_condW ?_; (try simp [AS.val, upd, resB, mkS_env, mkS_box, lk, entry_env, condW_true, condW_false, nilV, frzS]))
   | fail)
  simp [post, resAV, resAll, resOne, closeV, closeC, closeL, resD, resDL, push_cast, nilV, frzS]
 | some r3 =>
 rw [hm3] at hD hf
 simp only [Option.map_some] at hD hf
 have hlt := (mustS_lt hm3).1
 rw [← hn] at hlt
 have hw2 : IntKind.i64.wrap ((x : Int) + 1) = ((x + 1 : Nat) : Int) := by rw [i64_in _ (by omega)]; omega
 obtain ⟨a0, ha0⟩ : ∃ a', a' = x + 1 := ⟨_, rfl⟩
 obtain ⟨H, hH⟩ : ∃ H, H = h0 ++ (m ++ [r3]) := ⟨_, rfl⟩
 rw [← ha0] at hw2 hD
 rw [← hH] at hD
 have hHt : L.take a0 = H := by
  have h1 := head_drop hD
  have h2 := cut_of (L := L) (r := H) (a := 0) (b := a0) (by simpa using h1) (Nat.zero_le _) (by omega)
  simpa using h2.2
 have hHl : H.length = a0 := by rw [← hHt, List.length_take]; omega
 refine W_seq ?_
 refine W_joinQ (X := Unit) (fun _ => [(0, .slc f 3 n C), (2, .bp 2 0), (4, .bp 4 0), (6, i64V (x : Int)), (10, i64V 1)]) (fun _ => [(2, .mut 58 [nilV, nilV]), (4, .mut 58 [nilV, nilV])]) (fun _ => True) ?_ fun _ _ => ?_
 ·
  repeat' (first
   | with_reducible refine W_rg ?_
   | (rw [vcn]; (try simp [push_cast, nilV]))
   | fail)
  refine CallG_frz _ _ rfl ?_ (hf) ?_ (by simp [push_cast]) rfl ?_
  · first | (simp [frzS, resDL, resD, push_cast]; done) | (simp [frzS, resDL, resD, push_cast]; rw [List.take_of_length_le (by simp)]; done) | (simp [frzS, resDL, resD, push_cast]; fail_if_success done)
  · simp [frzOk, push_cast]
  try dsimp only
  try simp only [refsL, AV.refs, frzS, List.append_nil, upd, mkS_box, entry_box, lk, if_true, if_false]
  repeat' (first
   | (rw [vcn]; (try simp [push_cast, nilV, frzS]))
   | fail)
  refine joinW_n () id trivial ⟨?_, ?_, ?_, ?_, ?_, ?_⟩
  all_goals first | (simp [push_cast, hLr, nilV, frzS]; done)
 refine W_seq ?_
 refine W_joinQ (X := Unit) (fun _ => [(0, .slc f 3 n C), (2, .bp 2 0), (4, .bp 4 0), (6, i64V (x : Int)), (10, i64V 1)]) (fun _ => [(2, .mut 58 [nilV, nilV]), (4, .mut 58 [nilV, nilV])]) (fun _ => True) ?_ fun _ _ => ?_
 ·
  repeat' (first
   | with_reducible first | apply thenW_n | apply W_seq | apply W_skip
   | with_reducible refine W_rg ?_
   | (rw [vcn]; (try simp [push_cast, nilV]))
   | (with_reducible refine W_condW ?_; (try simp [AS.val, upd, resB, mkS_env, mkS_box, lk, entry_env, condW_true, condW_false, nilV]))
   | fail)
  refine joinW_n () id trivial ⟨?_, ?_, ?_, ?_, ?_, ?_⟩
  all_goals first | (simp [push_cast, hLr, nilV]; done)
 refine W_seq ?_
 refine W_joinQ (X := Unit) (fun _ => [(0, .slc f 3 n C), (2, .bp 2 0), (4, .bp 4 0), (6, i64V (a0 : Int))]) (fun _ => [(2, .mut 58 [nilV, nilV]), (4, .mut 58 [nilV, nilV])]) (fun _ => True) ?_ fun _ _ => ?_
 ·
  repeat' (first
   | with_reducible refine W_rg ?_
   | (rw [vcn]; (try simp [push_cast, nilV, hw2]))
   | fail)
  refine joinW_n () id trivial ⟨?_, ?_, ?_, ?_, ?_, ?_⟩
  all_goals first | (simp [push_cast, hLr, nilV]; done)
 have hcp := hpre a0 (by omega)
 rw [hHt] at hcp
 refine W_seq ?_
 refine W_joinQ (X := Unit) (fun _ => [(0, .slc f 3 n C), (2, .bp 2 0), (4, .bp 4 0), (6, i64V (a0 : Int))]) (fun _ => [(2, .mut 58 [nilV, nilV]), (4, .mut 58 [rowsAV H, nilV])]) (fun _ => True) ?_ fun _ _ => ?_
 ·
  rw [rowsAV] at hcp ⊢
  repeat' (first
   | with_reducible refine W_rg ?_
   | (rw [vcn]; (try simp [push_cast, nilV]))
   | refine And.intro (by first | omega | kernel_rfl) ?_
   | fail)
  refine CallG_of (hcp) rfl rfl rfl ?_
  try dsimp only
  repeat' (first
   | (rw [vcn]; (try simp [push_cast, nilV]))
   | fail)
  refine joinW_n () id trivial ⟨?_, ?_, ?_, ?_, ?_, ?_⟩
  all_goals first | (simp [push_cast, hLr, nilV, hre, hrn]; done)
 clear hcp hf hw2 hm3
 have hps : parseS L = match cellsS L a0 with
   | none => none
   | some (cs, a2) => match mustS L a2 4 with
    | none => none
    | some _ => if a2 + 1 = n then some (H, cs) else none := by
  rw [parseS, libS, hD, hn]
  simp only
  cases cellsS L a0 with
  | none => rfl
  | some q =>
   obtain ⟨cs, a2⟩ := q
   simp only
   cases mustS L a2 4 <;> rfl
 clear hhead hD hHt hH
 have hrl : ∀ l, (recsCells l).length = l.length * 3 := recsCells_len
 have hie := itemsCells_refs
 have hir : ∀ ρ l, renL ρ (itemsCells l) = itemsCells l := fun ρ l => renL_id ρ _ (itemsCells_refs l)
 have hil := itemsCells_len
 have hce := cellsCells_refs
 have hcr : ∀ ρ l, renL ρ (cellsCells l) = cellsCells l := fun ρ l => renL_id ρ _ (cellsCells_refs l)
 have hcl := cellsCells_len
 have hi0 : itemsCells [] = [] := rfl
 have hc0 : cellsCells [] = [] := rfl
 have hrav : ∀ l, (rowsAV l).refs = [] := fun l => by simp [rowsAV, AV.refs, hre]
 have hravn : ∀ ρ l, ren ρ (rowsAV l) = rowsAV l := fun ρ l => by simp [rowsAV, ren, hrn]
 refine W_nilCell 4 1 700 72 2 (e := 58) (l := [rowsAV H, nilV]) (by simp [mkS_box, lk]) rfl (by simp [mkS_used]) ?_
 refine W_seq ?_
 refine W_joinQ (X := List Cell × Nat) (fun x => [(0, .slc f 3 n C), (2, .bp 2 0), (4, .bp 4 0), (6, i64V (x.2 : Int))]) (fun x => [(2, .mut 58 [nilV, nilV]), (4, .mut 58 [rowsAV H, .bs 700 2 0 x.1.length]), (700, .mut 72 (cellsCells x.1))])
  (fun x => x.2 ≤ n ∧ cellsS L a0 = some x ∧ x.1.length ≤ n) ?_ fun x hx => ?_
 ·
  refine W_block ?_
  refine W_loopW (X := List Cell × Nat) (fun x => [(0, .slc f 3 n C), (2, .bp 2 0), (4, .bp 4 0), (6, i64V (x.2 : Int))]) (fun x => [(2, .mut 58 [nilV, nilV]), (4, .mut 58 [rowsAV H, .bs 700 2 0 x.1.length]), (700, .mut 72 (cellsCells x.1))])
   (fun x => n - x.2) (fun x => x.2 ≤ n ∧ x.1.length ≤ x.2 ∧ cellsS L a0 = (cellsS L x.2).map fun p => (x.1 ++ p.1, p.2)) ([], a0) id ⟨by simp only; omega, Nat.zero_le _, by cases cellsS L a0 <;> rfl⟩ ⟨?_, ?_, ?_, ?_, ?_, ?_⟩ fun x hx => ?_
  all_goals first | (with_reducible refine W_id ?_) | (simp [push_cast, hLr, nilV, hre, hrn, hc0, rowsAV]; done)
  obtain ⟨cs, a2⟩ := x
  obtain ⟨ha2, hcl2, hcs⟩ := hx
  simp only at ha2 hcl2 hcs
  rw [cellsS_eq L a2] at hcs
  by_cases han : ¬ a2 < n
  ·
   have g2 : (a2 < n) = False := eq_false han
   have g2' : ((a2 : Int) < (n : Int)) = False := eq_false (by omega)
   rw [if_neg (fun h => by have := seesS_lt h; omega)] at hcs
   repeat' (first
    | with_reducible first | apply thenW_n | apply thenW_exit | apply blockW_same | apply loopW_exit | apply W_seq | apply W_exit
    | with_reducible refine W_rg ?_
    | (rw [vcn]; (try simp [push_cast, nilV, g2, g2']))
    | (with_reducible refine W_condW ?_; (try simp [AS.val, upd, resB, mkS_env, mkS_box, lk, entry_env, condW_true, condW_false, nilV, g2, g2']))
    | fail)
   refine joinW_n (cs, a2) id ⟨ha2, by rw [hcs]; simp, by simp only; omega⟩ ⟨?_, ?_, ?_, ?_, ?_, ?_⟩
   all_goals first | (simp [push_cast, hLr, nilV, hre, hrn, hce, hcr, rowsAV]; done)
  have han : a2 < n := by omega
  have g2 : (a2 < n) = True := eq_true han
  have g2' : ((a2 : Int) < (n : Int)) = True := eq_true (by omega)
  obtain ⟨t3, ht3⟩ := hat a2 han
  obtain ⟨r, hr⟩ : ∃ r, r = L[a2]'(by omega) := ⟨_, rfl⟩
  have hLa : L[a2]? = some r := by rw [List.getElem?_eq_getElem (by omega), hr]
  rw [← hr] at ht3
  obtain ⟨rk, rd, rb⟩ := r
  simp only at ht3
  have htl3 := congrArg List.length ht3
  rw [List.length_drop, hlen] at htl3
  simp only [List.length_cons] at htl3
  by_cases hk5 : ¬ rk = 5
  ·
   rw [if_neg (by rw [sees_at hLa]; simp [hk5])] at hcs
   have g3' : ((rk.toNat : Int) = 5) = False := eq_false fun e => hk5 (UInt8.toNat_inj.1 (by rw [show (5 : UInt8).toNat = 5 from rfl]; omega))
   have g3 : ((rk.toNat : Int) == 5) = false := by rw [beq_eq_false_iff_ne]; intro e; rw [g3'] at e; exact e
   repeat' (first
    | with_reducible first | apply thenW_n | apply thenW_exit | apply blockW_same | apply loopW_exit | apply W_seq | apply W_exit
    | with_reducible refine W_rg ?_
    | (rw [vcn]; (try simp [push_cast, nilV, g2, g2', g3, g3', ht3, hlen, han]))
    | (with_reducible refine W_condW ?_; (try simp [AS.val, upd, resB, mkS_env, mkS_box, lk, entry_env, condW_true, condW_false, nilV, g2, g2', g3, g3', ht3, hlen, han]))
    | fail)
   refine joinW_n (cs, a2) id ⟨ha2, by rw [hcs]; simp, by simp only; omega⟩ ⟨?_, ?_, ?_, ?_, ?_, ?_⟩
   all_goals first | (simp [push_cast, hLr, nilV, hre, hrn, hce, hcr, rowsAV]; done)
  have hk5 : rk = 5 := by simpa using hk5
  rw [if_pos (by rw [sees_at hLa]; simp [hk5])] at hcs
  subst hk5
  have hf := hfit a2 [5, 6, 308] [i64V 5, i64V 6, i64V 1052] 3 rfl rfl (by omega) (by decide) (by decide)
  repeat' (first
   | with_reducible first | apply thenW_n | apply W_seq | apply W_skip
   | with_reducible refine W_rg ?_
   | (rw [vcn]; (try simp [push_cast, nilV, g2, g2', ht3, hlen, han]))
   | (with_reducible refine W_condW ?_; (try simp [AS.val, upd, resB, mkS_env, mkS_box, lk, entry_env, condW_true, condW_false, nilV, g2, g2', ht3, hlen, han]))
   | fail)
  refine W_block (W_seq ?_)
  cases hr2 : rowS L a2 [5, 6, 308] with
  | none =>
   rw [hr2] at hf
   have hp : parseS L = none := by rw [hps, hcs, cellS, hr2]; rfl
   rw [hno hp]
   repeat' (first
    | with_reducible refine W_rg ?_
    | (rw [vcn]; (try simp [push_cast, nilV]))
    | fail)
   refine CallG_frz _ _ rfl ?_ (hf) ?_ (by simp [push_cast]) rfl ?_
   · first | (simp [frzS, resDL, resD, push_cast]; done) | (simp [frzS, resDL, resD, push_cast]; rw [List.take_of_length_le (by simp)]; done) | (simp [frzS, resDL, resD, push_cast]; fail_if_success done)
   · simp [frzOk, push_cast]
   try dsimp only
   try simp only [refsL, AV.refs, frzS, List.append_nil, upd, mkS_box, entry_box, lk, if_true, if_false]
   repeat' (first
    | with_reducible first | apply thenW_n | apply thenW_ret | apply blockW_ret | apply loopW_ret | apply joinW_ret | apply W_seq | apply W_ret
    | with_reducible refine W_rg ?_
    | (rw [vcn]; (try simp [push_cast, nilV, rowV, frzS]))
    | (with_reducible refine W_condW ?_; (try simp [AS.val, upd, resB, mkS_env, mkS_box, lk, entry_env, condW_true, condW_false, nilV, rowV, frzS]))
    | fail)
   simp [post, resAV, resAll, resOne, closeV, closeC, closeL, resD, resDL, push_cast, nilV, frzS]
  | some p2 =>
  obtain ⟨h2, a3⟩ := p2
  obtain ⟨ha3, hl3⟩ := rowS_le hr2 (by omega)
  have ha23 := rowS_pos hr2 (by decide) (by omega)
  have hcut2 := cut_of (row_drop hr2) (by omega) ha3
  simp only at ha3 hl3 ha23 hcut2
  rw [← hn] at ha3
  rw [hr2] at hf
  obtain ⟨m, hm⟩ : ∃ m, m = a3 - a2 := ⟨_, rfl⟩
  have hV : rowV a2 (some (h2, a3)) = (m : Int) := by rw [rowV, hm]
  rw [hV] at hf
  have gm : ((m : Int) < 0) = False := eq_false (by omega)
  have hw : IntKind.i64.wrap ((a2 : Int) + (m : Int)) = (a3 : Int) := by rw [i64_in _ (by omega)]; omega
  refine W_joinQ (X := Unit) (fun _ => [(0, .slc f 3 n C), (2, .bp 2 0), (4, .bp 4 0), (6, i64V (a2 : Int)), (10, i64V (m : Int))]) (fun _ => [(2, .mut 58 [nilV, nilV]), (4, .mut 58 [rowsAV H, .bs 700 2 0 cs.length]), (700, .mut 72 (cellsCells cs))]) (fun _ => True) ?_ fun _ _ => ?_
  ·
   repeat' (first
    | with_reducible refine W_rg ?_
    | (rw [vcn]; (try simp [push_cast, nilV]))
    | fail)
   refine CallG_frz _ _ rfl ?_ (hf) ?_ (by simp [push_cast]) rfl ?_
   · first | (simp [frzS, resDL, resD, push_cast]; done) | (simp [frzS, resDL, resD, push_cast]; rw [List.take_of_length_le (by simp)]; done) | (simp [frzS, resDL, resD, push_cast]; fail_if_success done)
   · simp [frzOk, push_cast]
   try dsimp only
   try simp only [refsL, AV.refs, frzS, List.append_nil, upd, mkS_box, entry_box, lk, if_true, if_false]
   repeat' (first
    | (rw [vcn]; (try simp [push_cast, nilV, frzS]))
    | fail)
   refine joinW_n () id trivial ⟨?_, ?_, ?_, ?_, ?_, ?_⟩
   all_goals first | (simp [push_cast, hLr, nilV, frzS, hre, hrn, hce, hcr, rowsAV]; done)
  refine W_seq ?_
  refine W_joinQ (X := Unit) (fun _ => [(0, .slc f 3 n C), (2, .bp 2 0), (4, .bp 4 0), (6, i64V (a2 : Int)), (10, i64V (m : Int))]) (fun _ => [(2, .mut 58 [nilV, nilV]), (4, .mut 58 [rowsAV H, .bs 700 2 0 cs.length]), (700, .mut 72 (cellsCells cs))]) (fun _ => True) ?_ fun _ _ => ?_
  ·
   repeat' (first
    | with_reducible first | apply thenW_n | apply W_seq | apply W_skip
    | with_reducible refine W_rg ?_
    | (rw [vcn]; (try simp [push_cast, nilV, gm]))
    | (with_reducible refine W_condW ?_; (try simp [AS.val, upd, resB, mkS_env, mkS_box, lk, entry_env, condW_true, condW_false, nilV, gm]))
    | fail)
   refine joinW_n () id trivial ⟨?_, ?_, ?_, ?_, ?_, ?_⟩
   all_goals first | (simp [push_cast, hLr, nilV, hre, hrn, hce, hcr, rowsAV]; done)
  have hcp := hcut a2 a3 (by omega) (by omega)
  rw [hcut2.2] at hcp
  refine W_seq ?_
  refine W_joinQ (X := Unit) (fun _ => [(0, .slc f 3 n C), (2, .bp 2 0), (4, .bp 4 0), (6, i64V (a2 : Int)), (10, i64V (m : Int)), (11, .bp 11 0)]) (fun _ => [(2, .mut 58 [nilV, nilV]), (4, .mut 58 [rowsAV H, .bs 700 2 0 cs.length]), (700, .mut 72 (cellsCells cs)), (11, .mut 72 [rowsAV h2, nilV])]) (fun _ => True) ?_ fun _ _ => ?_
  ·
   have g4 : (a2 ≤ a3) = True := eq_true (by omega)
   have g5 : (a3 ≤ n) = True := eq_true ha3
   rw [rowsAV] at hcp
   repeat' (first
    | with_reducible refine W_rg ?_
    | (rw [vcn]; (try simp [push_cast, nilV, hw, g4, g5]))
    | fail)
   refine CallG_of (hcp) rfl rfl rfl ?_
   try dsimp only
   repeat' (first
    | (rw [vcn]; (try simp [push_cast, nilV, hw, g4, g5]))
    | fail)
   refine joinW_n () id trivial ⟨?_, ?_, ?_, ?_, ?_, ?_⟩
   all_goals first | (simp [push_cast, hLr, nilV, hre, hrn, hce, hcr, rowsAV]; done)
  refine W_seq ?_
  refine W_joinQ (X := Unit) (fun _ => [(0, .slc f 3 n C), (2, .bp 2 0), (4, .bp 4 0), (6, i64V (a3 : Int)), (11, .bp 11 0)]) (fun _ => [(2, .mut 58 [nilV, nilV]), (4, .mut 58 [rowsAV H, .bs 700 2 0 cs.length]), (700, .mut 72 (cellsCells cs)), (11, .mut 72 [rowsAV h2, nilV])]) (fun _ => True) ?_ fun _ _ => ?_
  ·
   repeat' (first
    | with_reducible refine W_rg ?_
    | (rw [vcn]; (try simp [push_cast, nilV, hw]))
    | fail)
   refine joinW_n () id trivial ⟨?_, ?_, ?_, ?_, ?_, ?_⟩
   all_goals first | (simp [push_cast, hLr, nilV, hre, hrn, hce, hcr, rowsAV]; done)
  have hcell := cellS_D hr2
  clear hcp hf hw gm hV ht3 htl3 g2 g2' hcut2 hm m hLa hr rd rb
  refine W_nilCell 11 1 600 77 2 (e := 72) (l := [rowsAV h2, nilV]) (by simp [mkS_box, lk]) rfl (by simp [mkS_used]) ?_
  refine W_seq ?_
  refine W_joinQ (X := List Item × Nat) (fun x => [(0, .slc f 3 n C), (2, .bp 2 0), (4, .bp 4 0), (6, i64V (x.2 : Int)), (11, .bp 11 0)]) (fun x => [(2, .mut 58 [nilV, nilV]), (4, .mut 58 [rowsAV H, .bs 700 2 0 cs.length]), (700, .mut 72 (cellsCells cs)), (11, .mut 72 [rowsAV h2, .bs 600 2 0 x.1.length]), (600, .mut 77 (itemsCells x.1))])
   (fun x => x.2 ≤ n ∧ a3 ≤ x.2 ∧ x.1.length ≤ n ∧ end7 L (itemsS L a3) = (mustS L x.2 7).map fun _ => (x.1, x.2 + 1)) ?_ fun x hx => ?_
  ·
   refine W_block ?_
   refine W_loopW (X := List Item × Nat) (fun x => [(0, .slc f 3 n C), (2, .bp 2 0), (4, .bp 4 0), (6, i64V (x.2 : Int)), (11, .bp 11 0)]) (fun x => [(2, .mut 58 [nilV, nilV]), (4, .mut 58 [rowsAV H, .bs 700 2 0 cs.length]), (700, .mut 72 (cellsCells cs)), (11, .mut 72 [rowsAV h2, .bs 600 2 0 x.1.length]), (600, .mut 77 (itemsCells x.1))])
    (fun x => n - x.2) (fun x => x.2 ≤ n ∧ a3 ≤ x.2 ∧ x.1.length ≤ x.2 ∧ end7 L (itemsS L a3) = (end7 L (itemsS L x.2)).map fun p => (x.1 ++ p.1, p.2)) ([], a3) id ⟨ha3, Nat.le_refl _, Nat.zero_le _, by cases end7 L (itemsS L a3) <;> rfl⟩ ⟨?_, ?_, ?_, ?_, ?_, ?_⟩ fun x hx => ?_
   all_goals first | (with_reducible refine W_id ?_) | (simp [push_cast, hLr, nilV, hre, hrn, hce, hcr, hi0, rowsAV]; done)
   obtain ⟨xs, a4⟩ := x
   obtain ⟨ha4, ha34, hxl, hxs⟩ := hx
   simp only at ha4 ha34 hxl hxs
   by_cases han4 : ¬ a4 < n
   ·
    have g2 : (a4 < n) = False := eq_false han4
    have g2' : ((a4 : Int) < (n : Int)) = False := eq_false (by omega)
    rw [end7_stop (a := a4) (fun h => by have := seesS_lt h; omega)] at hxs
    repeat' (first
     | with_reducible first | apply thenW_n | apply thenW_exit | apply blockW_same | apply loopW_exit | apply W_seq | apply W_exit
     | with_reducible refine W_rg ?_
     | (rw [vcn]; (try simp [push_cast, nilV, g2, g2']))
     | (with_reducible refine W_condW ?_; (try simp [AS.val, upd, resB, mkS_env, mkS_box, lk, entry_env, condW_true, condW_false, nilV, g2, g2']))
     | fail)
    refine joinW_n (xs, a4) id ⟨ha4, ha34, by simp only; omega, by rw [hxs]; cases mustS L a4 7 <;> simp⟩ ⟨?_, ?_, ?_, ?_, ?_, ?_⟩
    all_goals first | (simp [push_cast, hLr, nilV, hre, hrn, hce, hcr, hie, hir, rowsAV]; done)
   have han4 : a4 < n := by omega
   have g2 : (a4 < n) = True := eq_true han4
   have g2' : ((a4 : Int) < (n : Int)) = True := eq_true (by omega)
   obtain ⟨t3, ht3⟩ := hat a4 han4
   obtain ⟨r, hr⟩ : ∃ r, r = L[a4]'(by omega) := ⟨_, rfl⟩
   have hLa : L[a4]? = some r := by rw [List.getElem?_eq_getElem (by omega), hr]
   rw [← hr] at ht3
   obtain ⟨rk, rd, rb⟩ := r
   simp only at ht3
   have htl3 := congrArg List.length ht3
   rw [List.length_drop, hlen] at htl3
   simp only [List.length_cons] at htl3
   by_cases hk7 : rk = 7
   ·
    rw [end7_stop (a := a4) (by rw [sees_at hLa]; simp only; rw [hk7]; decide)] at hxs
    subst hk7
    repeat' (first
     | with_reducible first | apply thenW_n | apply thenW_exit | apply blockW_same | apply loopW_exit | apply W_seq | apply W_exit
     | with_reducible refine W_rg ?_
     | (rw [vcn]; (try simp [push_cast, nilV, g2, g2', ht3, hlen, han4]))
     | (with_reducible refine W_condW ?_; (try simp [AS.val, upd, resB, mkS_env, mkS_box, lk, entry_env, condW_true, condW_false, nilV, g2, g2', ht3, hlen, han4]))
     | fail)
    refine joinW_n (xs, a4) id ⟨ha4, ha34, by simp only; omega, by rw [hxs]; cases mustS L a4 7 <;> simp⟩ ⟨?_, ?_, ?_, ?_, ?_, ?_⟩
    all_goals first | (simp [push_cast, hLr, nilV, hre, hrn, hce, hcr, hie, hir, rowsAV]; done)
   have g3' : ((rk.toNat : Int) = 7) = False := eq_false fun e => hk7 (UInt8.toNat_inj.1 (by rw [show (7 : UInt8).toNat = 7 from rfl]; omega))
   have g3 : ((rk.toNat : Int) == 7) = false := by rw [beq_eq_false_iff_ne]; intro e; rw [g3'] at e; exact e
   have g3'' : ((rk.toNat : Int) != 7) = true := by rw [bne_iff_ne]; intro e; rw [g3'] at e; exact e
   have htlen : a4 * 3 < n * 3 := by omega
   repeat' (first
    | with_reducible first | apply thenW_n | apply W_seq | apply W_skip
    | with_reducible refine W_rg ?_
    | (rw [vcn]; (try simp [push_cast, nilV, g2, g2', g3, g3', g3'', ht3, hlen, han4]))
    | (with_reducible refine W_condW ?_; (try simp [AS.val, upd, resB, mkS_env, mkS_box, lk, entry_env, condW_true, condW_false, nilV, g2, g2', g3, g3', g3'', ht3, hlen, han4]))
    | fail)
   refine W_block (W_seq ?_)
   by_cases hc : ¬ itemKinds.contains rk = true
   ·
    have hro := rowK_none rk false (rowsP_none hc false)
    rw [end7_stop (a := a4) (by rw [sees_at hLa]; exact hc), must_kind_ne hLa hk7] at hxs
    have hp : parseS L = none := by rw [hps, hcs, hcell, hxs]; rfl
    rw [hno hp]
    repeat' (first
     | with_reducible refine W_rg ?_
     | (rw [vcn]; (try simp [push_cast, nilV, ht3, hlen, han4]))
     | fail)
    refine CallG_of (hro) rfl rfl rfl ?_
    try dsimp only
    repeat' (first
     | with_reducible first | apply thenW_n | apply thenW_ret | apply blockW_ret | apply loopW_ret | apply joinW_ret | apply W_seq | apply W_ret
     | with_reducible refine W_rg ?_
     | (rw [vcn]; (try simp [push_cast, nilV]))
     | (with_reducible refine W_condW ?_; (try simp [AS.val, upd, resB, mkS_env, mkS_box, lk, entry_env, condW_true, condW_false, nilV]))
     | fail)
    simp [post, resAV, resAll, resOne, closeV, closeC, closeL, resD, resDL, push_cast, nilV]
   have hc : itemKinds.contains rk = true := by simpa using hc
   obtain ⟨ks, kt, hks, hkt, hks5, hkt5, hksl, hktl, ⟨k0, ks', hk0, hk0l⟩, ⟨k1, kt', hk1, hk1l⟩⟩ := rowsP_some hc
   have hitem := itemS_D hLa hks hkt
   rw [end7_step (a := a4) (by rw [sees_at hLa]; exact hc)] at hxs
   have hro := rowK_some rk false ks hks
   have hrt := rowK_some rk true kt hkt
   obtain ⟨K, hK⟩ : ∃ K, K = intsC (ks.map convK) := ⟨_, rfl⟩
   obtain ⟨nk, hnk⟩ : ∃ nk, nk = ks.length := ⟨_, rfl⟩
   obtain ⟨Kt, hKt⟩ : ∃ K, K = intsC (kt.map convK) := ⟨_, rfl⟩
   obtain ⟨nt, hnt⟩ : ∃ nk, nk = kt.length := ⟨_, rfl⟩
   have hf1 := hfit a4 ks K nk hK hnk.symm (by omega) hksl hks5
   have hf2 := hfit a4 kt Kt nt hKt hnt.symm (by omega) hktl hkt5
   have hsm : ∀ (b : Nat) (o : Option (List Rec × Nat)), (∀ p, o = some p → b ≤ p.2) → o ≠ none → ((rowV b o < 0) = False) := fun b o h1 h2 => by
    cases o with
    | none => exact absurd rfl h2
    | some p => exact eq_false (by rw [rowV]; omega)
   have hintr : ∀ l : List Nat, refsL (intsC l) = [] := fun l => by
    induction l with
    | nil => rfl
    | cons a l ih => simp [intsC, refsL, AV.refs, i64V] at ih ⊢; exact ih
   have hKr : refsL K = [] := by rw [hK]; exact hintr _
   have hKtr : refsL Kt = [] := by rw [hKt]; exact hintr _
   have gnk : (0 < nk) = True := eq_true (by rw [hnk, hk0]; simp)
   rw [← hnk, ← hK] at hro
   rw [← hnt, ← hKt] at hrt
   obtain ⟨o1, ho1⟩ : ∃ o, o = rowS L a4 ks := ⟨_, rfl⟩
   obtain ⟨o2, ho2⟩ : ∃ o, o = rowS L a4 kt := ⟨_, rfl⟩
   have hle1 : ∀ p, o1 = some p → a4 < p.2 ∧ p.2 ≤ L.length ∧ L.drop a4 = p.1 ++ L.drop p.2 := fun p h => by
    rw [ho1] at h
    have h1 := rowS_le h (by omega)
    have h3 := row_drop h
    rw [hk0] at h
    exact ⟨rowS_pos h hk0l (by omega), h1.1, h3⟩
   have hle2 : ∀ p, o2 = some p → a4 < p.2 ∧ p.2 ≤ L.length ∧ L.drop a4 = p.1 ++ L.drop p.2 := fun p h => by
    rw [ho2] at h
    have h1 := rowS_le h (by omega)
    have h3 := row_drop h
    rw [hk1] at h
    exact ⟨rowS_pos h hk1l (by omega), h1.1, h3⟩
   rw [← ho1, ← ho2] at hitem
   rw [← ho1] at hf1
   rw [← ho2] at hf2
   clear ho1 ho2 hK hKt hnk hnt hks hkt hks5 hkt5 hksl hktl hk0 hk1
   refine W_joinQ (X := Unit) (fun _ => [(0, .slc f 3 n C), (2, .bp 2 0), (4, .bp 4 0), (6, i64V (a4 : Int)), (11, .bp 11 0), (12, .slc false 1 nk K)]) (fun _ => [(2, .mut 58 [nilV, nilV]), (4, .mut 58 [rowsAV H, .bs 700 2 0 cs.length]), (700, .mut 72 (cellsCells cs)), (11, .mut 72 [rowsAV h2, .bs 600 2 0 xs.length]), (600, .mut 77 (itemsCells xs))]) (fun _ => True) ?_ fun _ _ => ?_
   ·
    repeat' (first
     | with_reducible refine W_rg ?_
     | (rw [vcn]; (try simp [push_cast, nilV, ht3, hlen, han4]))
     | fail)
    refine CallG_of (hro) rfl rfl rfl ?_
    try dsimp only
    repeat' (first
     | (rw [vcn]; (try simp [push_cast, nilV]))
     | fail)
    refine joinW_n () id trivial ⟨?_, ?_, ?_, ?_, ?_, ?_⟩
    all_goals first | (simp [push_cast, hLr, nilV, hre, hrn, hce, hcr, hie, hir, rowsAV, hKr]; done)
   refine W_seq ?_
   refine W_joinQ (X := Unit) (fun _ => [(0, .slc f 3 n C), (2, .bp 2 0), (4, .bp 4 0), (6, i64V (a4 : Int)), (11, .bp 11 0), (12, .slc false 1 nk K)]) (fun _ => [(2, .mut 58 [nilV, nilV]), (4, .mut 58 [rowsAV H, .bs 700 2 0 cs.length]), (700, .mut 72 (cellsCells cs)), (11, .mut 72 [rowsAV h2, .bs 600 2 0 xs.length]), (600, .mut 77 (itemsCells xs))]) (fun _ => True) ?_ fun _ _ => ?_
   ·
    repeat' (first
     | with_reducible first | apply thenW_n | apply W_seq | apply W_skip
     | with_reducible refine W_rg ?_
     | (rw [vcn]; (try simp [push_cast, nilV, gnk]))
     | (with_reducible refine W_condW ?_; (try simp [AS.val, upd, resB, mkS_env, mkS_box, lk, entry_env, condW_true, condW_false, nilV, gnk]))
     | fail)
    refine joinW_n () id trivial ⟨?_, ?_, ?_, ?_, ?_, ?_⟩
    all_goals first | (simp [push_cast, hLr, nilV, hre, hrn, hce, hcr, hie, hir, rowsAV, hKr]; done)
   refine W_seq ?_
   refine W_joinQ (X := Unit) (fun _ => [(0, .slc f 3 n C), (2, .bp 2 0), (4, .bp 4 0), (6, i64V (a4 : Int)), (11, .bp 11 0), (10, i64V (rowV a4 o1))]) (fun _ => [(2, .mut 58 [nilV, nilV]), (4, .mut 58 [rowsAV H, .bs 700 2 0 cs.length]), (700, .mut 72 (cellsCells cs)), (11, .mut 72 [rowsAV h2, .bs 600 2 0 xs.length]), (600, .mut 77 (itemsCells xs))]) (fun _ => True) ?_ fun _ _ => ?_
   ·
    repeat' (first
     | with_reducible refine W_rg ?_
     | (rw [vcn]; (try simp [push_cast, nilV]))
     | fail)
    refine CallG_of (hf1) rfl rfl rfl ?_
    try dsimp only
    repeat' (first
     | (rw [vcn]; (try simp [push_cast, nilV]))
     | fail)
    refine joinW_n () id trivial ⟨?_, ?_, ?_, ?_, ?_, ?_⟩
    all_goals first | (simp [push_cast, hLr, nilV, hre, hrn, hce, hcr, hie, hir, rowsAV, hKr]; done)
   refine W_seq ?_
   refine W_joinQ (X := Unit) (fun _ => [(0, .slc f 3 n C), (2, .bp 2 0), (4, .bp 4 0), (6, i64V (a4 : Int)), (11, .bp 11 0), (10, i64V (rowV a4 (orR o1 o2)))]) (fun _ => [(2, .mut 58 [nilV, nilV]), (4, .mut 58 [rowsAV H, .bs 700 2 0 cs.length]), (700, .mut 72 (cellsCells cs)), (11, .mut 72 [rowsAV h2, .bs 600 2 0 xs.length]), (600, .mut 77 (itemsCells xs))]) (fun _ => True) ?_ fun _ _ => ?_
   ·
    cases o1 with
    | some p =>
     have g6 := hsm a4 (some p) (fun q h => by have := (hle1 q h).1; omega) (by simp)
     repeat' (first
      | with_reducible first | apply thenW_n | apply W_seq | apply W_skip
      | with_reducible refine W_rg ?_
      | (rw [vcn]; (try simp [push_cast, nilV, g6]))
      | (with_reducible refine W_condW ?_; (try simp [AS.val, upd, resB, mkS_env, mkS_box, lk, entry_env, condW_true, condW_false, nilV, g6]))
      | fail)
     refine joinW_n () id trivial ⟨?_, ?_, ?_, ?_, ?_, ?_⟩
     all_goals first | (simp [push_cast, hLr, nilV, hre, hrn, hce, hcr, hie, hir, rowsAV, orR]; done)
    | none =>
     rw [show orR none o2 = o2 from rfl]
     have hV0 : rowV a4 none = -1 := rfl
     repeat' (first
      | with_reducible first | apply thenW_n | apply W_seq
      | with_reducible refine W_rg ?_
      | (rw [vcn]; (try simp [push_cast, nilV, hV0, ht3, hlen, han4]))
      | (with_reducible refine W_condW ?_; (try simp [AS.val, upd, resB, mkS_env, mkS_box, lk, entry_env, condW_true, condW_false, nilV, hV0, ht3, hlen, han4]))
      | fail)
     refine CallG_of (hrt) rfl rfl rfl ?_
     try dsimp only
     repeat' (first
      | (rw [vcn]; (try simp [push_cast, nilV]))
      | fail)
     refine CallG_of (hf2) rfl rfl rfl ?_
     try dsimp only
     repeat' (first
      | (rw [vcn]; (try simp [push_cast, nilV]))
      | fail)
     refine joinW_n () id trivial ⟨?_, ?_, ?_, ?_, ?_, ?_⟩
     all_goals first | (simp [push_cast, hLr, nilV, hre, hrn, hce, hcr, hie, hir, rowsAV, hKtr]; done)
   have hleo : ∀ p, orR o1 o2 = some p → a4 < p.2 ∧ p.2 ≤ L.length ∧ L.drop a4 = p.1 ++ L.drop p.2 := fun p h => by
    cases o1 with
    | none => exact hle2 p h
    | some q => exact hle1 p h
   obtain ⟨o, ho⟩ : ∃ o, o = orR o1 o2 := ⟨_, rfl⟩
   rw [← ho] at hleo hitem
   simp only [← ho]
   clear hf1 hf2 hro hrt hKr hKtr gnk hle1 hle2 ho hsm hintr
   cases o with
   | none =>
    rw [hitem] at hxs
    have hp : parseS L = none := by rw [hps, hcs, hcell, hxs]; rfl
    rw [hno hp]
    repeat' (first
     | with_reducible first | apply thenW_n | apply thenW_ret | apply blockW_ret | apply loopW_ret | apply joinW_ret | apply W_seq | apply W_ret
     | with_reducible refine W_rg ?_
     | (rw [vcn]; (try simp [push_cast, nilV, rowV]))
     | (with_reducible refine W_condW ?_; (try simp [AS.val, upd, resB, mkS_env, mkS_box, lk, entry_env, condW_true, condW_false, nilV, rowV]))
     | fail)
    simp [post, resAV, resAll, resOne, closeV, closeC, closeL, resD, resDL, push_cast, nilV]
   | some p =>
   obtain ⟨fl, a5⟩ := p
   obtain ⟨ha45, ha5, hfd⟩ := hleo _ rfl
   simp only at ha45 ha5 hfd hitem
   rw [← hn] at ha5
   have hcut3 := (cut_of hfd (by omega) (by omega)).2
   clear hleo
   rw [endS_E] at hitem
   obtain ⟨m, hm⟩ : ∃ m, m = a5 - a4 := ⟨_, rfl⟩
   have hV : rowV a4 (some (fl, a5)) = (m : Int) := by rw [rowV, hm]
   have gm : ((m : Int) < 0) = False := eq_false (by omega)
   have hw : IntKind.i64.wrap ((a4 : Int) + (m : Int)) = (a5 : Int) := by rw [i64_in _ (by omega)]; omega
   rw [hV]
   refine W_seq ?_
   refine W_joinQ (X := Unit) (fun _ => [(0, .slc f 3 n C), (2, .bp 2 0), (4, .bp 4 0), (6, i64V (a4 : Int)), (11, .bp 11 0), (10, i64V (m : Int))]) (fun _ => [(2, .mut 58 [nilV, nilV]), (4, .mut 58 [rowsAV H, .bs 700 2 0 cs.length]), (700, .mut 72 (cellsCells cs)), (11, .mut 72 [rowsAV h2, .bs 600 2 0 xs.length]), (600, .mut 77 (itemsCells xs))]) (fun _ => True) ?_ fun _ _ => ?_
   ·
    repeat' (first
     | with_reducible first | apply thenW_n | apply W_seq | apply W_skip
     | with_reducible refine W_rg ?_
     | (rw [vcn]; (try simp [push_cast, nilV, gm]))
     | (with_reducible refine W_condW ?_; (try simp [AS.val, upd, resB, mkS_env, mkS_box, lk, entry_env, condW_true, condW_false, nilV, gm]))
     | fail)
    refine joinW_n () id trivial ⟨?_, ?_, ?_, ?_, ?_, ?_⟩
    all_goals first | (simp [push_cast, hLr, nilV, hre, hrn, hce, hcr, hie, hir, rowsAV]; done)
   have hcp := hcut a4 a5 (by omega) (by omega)
   rw [hcut3] at hcp
   refine W_seq ?_
   refine W_joinQ (X := Unit) (fun _ => [(0, .slc f 3 n C), (2, .bp 2 0), (4, .bp 4 0), (6, i64V (a4 : Int)), (11, .bp 11 0), (10, i64V (m : Int)), (13, .bp 13 0)]) (fun _ => [(2, .mut 58 [nilV, nilV]), (4, .mut 58 [rowsAV H, .bs 700 2 0 cs.length]), (700, .mut 72 (cellsCells cs)), (11, .mut 72 [rowsAV h2, .bs 600 2 0 xs.length]), (600, .mut 77 (itemsCells xs)), (13, .mut 77 [rowsAV fl, nilV])]) (fun _ => True) ?_ fun _ _ => ?_
   ·
    have g4 : (a4 ≤ a5) = True := eq_true (by omega)
    have g5 : (a5 ≤ n) = True := eq_true ha5
    rw [rowsAV] at hcp
    repeat' (first
     | with_reducible refine W_rg ?_
     | (rw [vcn]; (try simp [push_cast, nilV, hw, g4, g5]))
     | fail)
    refine CallG_of (hcp) rfl rfl rfl ?_
    try dsimp only
    repeat' (first
     | (rw [vcn]; (try simp [push_cast, nilV, hw, g4, g5]))
     | fail)
    refine joinW_n () id trivial ⟨?_, ?_, ?_, ?_, ?_, ?_⟩
    all_goals first | (simp [push_cast, hLr, nilV, hre, hrn, hce, hcr, hie, hir, rowsAV]; done)
   refine W_seq ?_
   refine W_joinQ (X := Unit) (fun _ => [(0, .slc f 3 n C), (2, .bp 2 0), (4, .bp 4 0), (6, i64V (a5 : Int)), (11, .bp 11 0), (13, .bp 13 0)]) (fun _ => [(2, .mut 58 [nilV, nilV]), (4, .mut 58 [rowsAV H, .bs 700 2 0 cs.length]), (700, .mut 72 (cellsCells cs)), (11, .mut 72 [rowsAV h2, .bs 600 2 0 xs.length]), (600, .mut 77 (itemsCells xs)), (13, .mut 77 [rowsAV fl, nilV])]) (fun _ => True) ?_ fun _ _ => ?_
   ·
    repeat' (first
     | with_reducible refine W_rg ?_
     | (rw [vcn]; (try simp [push_cast, nilV, hw]))
     | fail)
    refine joinW_n () id trivial ⟨?_, ?_, ?_, ?_, ?_, ?_⟩
    all_goals first | (simp [push_cast, hLr, nilV, hre, hrn, hce, hcr, hie, hir, rowsAV]; done)
   refine W_seq ?_
   refine W_joinQ (X := Unit) (fun _ => [(0, .slc f 3 n C), (2, .bp 2 0), (4, .bp 4 0), (6, i64V (a5 : Int)), (11, .bp 11 0), (13, .bp 13 0), (14, i64V (a5 : Int))]) (fun _ => [(2, .mut 58 [nilV, nilV]), (4, .mut 58 [rowsAV H, .bs 700 2 0 cs.length]), (700, .mut 72 (cellsCells cs)), (11, .mut 72 [rowsAV h2, .bs 600 2 0 xs.length]), (600, .mut 77 (itemsCells xs)), (13, .mut 77 [rowsAV fl, nilV])]) (fun _ => True) ?_ fun _ _ => ?_
   ·
    repeat' (first
     | with_reducible refine W_rg ?_
     | (rw [vcn]; (try simp [push_cast, nilV]))
     | fail)
    refine joinW_n () id trivial ⟨?_, ?_, ?_, ?_, ?_, ?_⟩
    all_goals first | (simp [push_cast, hLr, nilV, hre, hrn, hce, hcr, hie, hir, rowsAV]; done)
   clear hcp hw gm hV hcut3 hfd ht3 htl3 g2 g2' g3 g3' g3'' hm m htlen
   -- the properties
   have hfp := fun a (ha : a ≤ n) => hfit a [43, 44] [i64V 43, i64V 44] 2 rfl rfl ha (by decide) (by decide)
   refine W_seq ?_
   refine W_joinQ (X := List Rec × Nat) (fun x => [(0, .slc f 3 n C), (2, .bp 2 0), (4, .bp 4 0), (6, i64V (x.2 : Int)), (11, .bp 11 0), (13, .bp 13 0), (14, i64V (a5 : Int))]) (fun _ => [(2, .mut 58 [nilV, nilV]), (4, .mut 58 [rowsAV H, .bs 700 2 0 cs.length]), (700, .mut 72 (cellsCells cs)), (11, .mut 72 [rowsAV h2, .bs 600 2 0 xs.length]), (600, .mut 77 (itemsCells xs)), (13, .mut 77 [rowsAV fl, nilV])])
    (fun x => a5 ≤ x.2 ∧ x.2 ≤ n ∧ L.drop a5 = x.1 ++ L.drop x.2 ∧ endE L (propsS L a5) = (mustS L x.2 17).map fun _ => (x.1, x.2 + 1)) ?_ fun x hx => ?_
   ·
    refine W_seq ?_
    refine W_joinQ (X := Unit) (fun _ => [(0, .slc f 3 n C), (2, .bp 2 0), (4, .bp 4 0), (6, i64V (a5 : Int)), (11, .bp 11 0), (13, .bp 13 0), (14, i64V (a5 : Int)), (15, i64V (rowV a5 (rowS L a5 [43, 44])))]) (fun _ => [(2, .mut 58 [nilV, nilV]), (4, .mut 58 [rowsAV H, .bs 700 2 0 cs.length]), (700, .mut 72 (cellsCells cs)), (11, .mut 72 [rowsAV h2, .bs 600 2 0 xs.length]), (600, .mut 77 (itemsCells xs)), (13, .mut 77 [rowsAV fl, nilV])]) (fun _ => True) ?_ fun _ _ => ?_
    ·
     have hf := hfp a5 (by omega)
     repeat' (first
      | with_reducible refine W_rg ?_
      | (rw [vcn]; (try simp [push_cast, nilV]))
      | fail)
     refine CallG_frz _ _ rfl ?_ (hf) ?_ (by simp [push_cast]) rfl ?_
     · first | (simp [frzS, resDL, resD, push_cast]; done) | (simp [frzS, resDL, resD, push_cast]; rw [List.take_of_length_le (by simp)]; done) | (simp [frzS, resDL, resD, push_cast]; fail_if_success done)
     · simp [frzOk, push_cast]
     try dsimp only
     try simp only [refsL, AV.refs, frzS, List.append_nil, upd, mkS_box, entry_box, lk, if_true, if_false]
     repeat' (first
      | (rw [vcn]; (try simp [push_cast, nilV, frzS]))
      | fail)
     refine joinW_n () id trivial ⟨?_, ?_, ?_, ?_, ?_, ?_⟩
     all_goals first | (simp [push_cast, hLr, nilV, frzS, hre, hrn, hce, hcr, hie, hir, rowsAV]; done)
    refine W_block ?_
    refine W_loopW (X := List Rec × Nat) (fun x => [(0, .slc f 3 n C), (2, .bp 2 0), (4, .bp 4 0), (6, i64V (x.2 : Int)), (11, .bp 11 0), (13, .bp 13 0), (14, i64V (a5 : Int)), (15, i64V (rowV x.2 (rowS L x.2 [43, 44])))]) (fun _ => [(2, .mut 58 [nilV, nilV]), (4, .mut 58 [rowsAV H, .bs 700 2 0 cs.length]), (700, .mut 72 (cellsCells cs)), (11, .mut 72 [rowsAV h2, .bs 600 2 0 xs.length]), (600, .mut 77 (itemsCells xs)), (13, .mut 77 [rowsAV fl, nilV])])
     (fun x => n - x.2) (fun x => a5 ≤ x.2 ∧ x.2 ≤ n ∧ L.drop a5 = x.1 ++ L.drop x.2 ∧ endE L (propsS L a5) = (endE L (propsS L x.2)).map fun p => (x.1 ++ p.1, p.2)) ([], a5) id ⟨Nat.le_refl _, ha5, rfl, by cases endE L (propsS L a5) <;> rfl⟩ ⟨?_, ?_, ?_, ?_, ?_, ?_⟩ fun x hx => ?_
    all_goals first | (with_reducible refine W_id ?_) | (simp [push_cast, hLr, nilV, hre, hrn, hce, hcr, hie, hir, rowsAV]; done)
    obtain ⟨ps, a⟩ := x
    obtain ⟨haa, ha, hpd, hpe⟩ := hx
    simp only at haa ha hpd hpe
    simp only
    cases hrp : rowS L a [43, 44] with
    | none =>
     rw [endE_stop hrp] at hpe
     repeat' (first
      | with_reducible first | apply thenW_n | apply thenW_exit | apply blockW_same | apply loopW_exit | apply W_seq | apply W_exit
      | with_reducible refine W_rg ?_
      | (rw [vcn]; (try simp [push_cast, nilV, rowV]))
      | (with_reducible refine W_condW ?_; (try simp [AS.val, upd, resB, mkS_env, mkS_box, lk, entry_env, condW_true, condW_false, nilV, rowV]))
      | fail)
     refine joinW_n (ps, a) id ⟨haa, ha, hpd, by rw [hpe]; cases mustS L a 17 <;> simp⟩ ⟨?_, ?_, ?_, ?_, ?_, ?_⟩
     all_goals first | (simp [push_cast, hLr, nilV, hre, hrn, hce, hcr, hie, hir, rowsAV]; done)
    | some q =>
     obtain ⟨r2, b⟩ := q
     rw [endE_step hrp] at hpe
     have hb := rowS_le hrp (by omega)
     have hbp := rowS_pos hrp (by decide) (by omega)
     have hbd := row_drop hrp
     simp only at hb hbp
     have hf := hfp b (by omega)
     obtain ⟨m, hm⟩ : ∃ m, m = b - a := ⟨_, rfl⟩
     have hV : rowV a (some (r2, b)) = (m : Int) := by rw [rowV, hm]
     have gm : (0 < (m : Int)) = True := eq_true (by omega)
     have gm' : (0 < m) = True := eq_true (by omega)
     have hw : IntKind.i64.wrap ((a : Int) + (m : Int)) = (b : Int) := by rw [i64_in _ (by omega)]; omega
     rw [hV]
     repeat' (first
      | with_reducible first | apply thenW_n | apply blockW_n | apply W_seq | apply W_block | apply W_skip
      | with_reducible refine W_rg ?_
      | (rw [vcn]; (try simp [push_cast, nilV, gm, gm', hw]))
      | (with_reducible refine W_condW ?_; (try simp [AS.val, upd, resB, mkS_env, mkS_box, lk, entry_env, condW_true, condW_false, nilV, gm, gm', hw]))
      | fail)
     refine CallG_frz _ _ rfl ?_ (hf) ?_ (by simp [push_cast]) rfl ?_
     · first | (simp [frzS, resDL, resD, push_cast]; done) | (simp [frzS, resDL, resD, push_cast]; rw [List.take_of_length_le (by simp)]; done) | (simp [frzS, resDL, resD, push_cast]; fail_if_success done)
     · simp [frzOk, push_cast]
     try dsimp only
     try simp only [refsL, AV.refs, frzS, List.append_nil, upd, mkS_box, entry_box, lk, if_true, if_false]
     repeat' (first
      | (rw [vcn]; (try simp [push_cast, nilV, frzS]))
      | fail)
     refine loopW_n (ps ++ r2, b) id (by simp only; omega) ⟨by simp only; omega, by simp only; omega, by simp only; rw [hpd, hbd]; simp, by rw [hpe]; cases endE L (propsS L b) <;> simp⟩ ⟨?_, ?_, ?_, ?_, ?_, ?_⟩
     all_goals first | (simp [push_cast, hLr, nilV, frzS, hre, hrn, hce, hcr, hie, hir, rowsAV]; done)
   obtain ⟨ps, a⟩ := x
   obtain ⟨haa, ha, hpd, hpe⟩ := hx
   simp only at haa ha hpd hpe
   have hcut4 := (cut_of hpd (by omega) (by omega)).2
   have hcp := hcut a5 a (by omega) (by omega)
   rw [hcut4] at hcp
   rw [hpe] at hitem
   clear hfp hcut4 hpd hpe
   refine W_seq ?_
   refine W_joinQ (X := Unit) (fun _ => [(0, .slc f 3 n C), (2, .bp 2 0), (4, .bp 4 0), (6, i64V (a : Int)), (11, .bp 11 0), (13, .bp 13 0)]) (fun _ => [(2, .mut 58 [nilV, nilV]), (4, .mut 58 [rowsAV H, .bs 700 2 0 cs.length]), (700, .mut 72 (cellsCells cs)), (11, .mut 72 [rowsAV h2, .bs 600 2 0 xs.length]), (600, .mut 77 (itemsCells xs)), (13, .mut 77 [rowsAV fl, rowsAV ps])]) (fun _ => True) ?_ fun _ _ => ?_
   ·
    have g4 : (a5 ≤ a) = True := eq_true (by omega)
    have g5 : (a ≤ n) = True := eq_true ha
    rw [rowsAV] at hcp
    repeat' (first
     | with_reducible refine W_rg ?_
     | (rw [vcn]; (try simp [push_cast, nilV, g4, g5]))
     | fail)
    refine CallG_of (hcp) rfl rfl rfl ?_
    try dsimp only
    repeat' (first
     | (rw [vcn]; (try simp [push_cast, nilV, g4, g5]))
     | fail)
    refine joinW_n () id trivial ⟨?_, ?_, ?_, ?_, ?_, ?_⟩
    all_goals first | (simp [push_cast, hLr, nilV, hre, hrn, hce, hcr, hie, hir, rowsAV]; done)
   have hf := hfit a [17] [i64V 17] 1 rfl rfl (by omega) (by decide) (by decide)
   rw [row_one 17 (by decide), show UInt8.ofNat 17 = 17 from rfl] at hf
   refine W_seq ?_
   cases hm7 : mustS L a 17 with
   | none =>
    rw [hm7] at hitem hf
    simp only at hf
    rw [hitem] at hxs
    have hp : parseS L = none := by rw [hps, hcs, hcell, hxs]; rfl
    rw [hno hp]
    repeat' (first
     | with_reducible refine W_rg ?_
     | (rw [vcn]; (try simp [push_cast, nilV]))
     | fail)
    refine CallG_frz _ _ rfl ?_ (hf) ?_ (by simp [push_cast]) rfl ?_
    · first | (simp [frzS, resDL, resD, push_cast]; done) | (simp [frzS, resDL, resD, push_cast]; rw [List.take_of_length_le (by simp)]; done) | (simp [frzS, resDL, resD, push_cast]; fail_if_success done)
    · simp [frzOk, push_cast]
    try dsimp only
    try simp only [refsL, AV.refs, frzS, List.append_nil, upd, mkS_box, entry_box, lk, if_true, if_false]
    repeat' (first
     | with_reducible first | apply thenW_n | apply thenW_ret | apply blockW_ret | apply loopW_ret | apply joinW_ret | apply W_seq | apply W_ret
     | with_reducible refine W_rg ?_
     | (rw [vcn]; (try simp [push_cast, nilV, frzS]))
     | (with_reducible refine W_condW ?_; (try simp [AS.val, upd, resB, mkS_env, mkS_box, lk, entry_env, condW_true, condW_false, nilV, frzS]))
     | fail)
    simp [post, resAV, resAll, resOne, closeV, closeC, closeL, resD, resDL, push_cast, nilV, frzS]
   | some r7 =>
   rw [hm7] at hitem hf
   simp only [Option.map_some] at hitem hf
   have hlt := (mustS_lt hm7).1
   rw [← hn] at hlt
   have hw : IntKind.i64.wrap ((a : Int) + 1) = ((a + 1 : Nat) : Int) := by rw [i64_in _ (by omega)]; omega
   obtain ⟨a6, ha6⟩ : ∃ a', a' = a + 1 := ⟨_, rfl⟩
   rw [← ha6] at hw hitem
   rw [hitem] at hxs
   simp only at hxs
   refine W_joinQ (X := Unit) (fun _ => [(0, .slc f 3 n C), (2, .bp 2 0), (4, .bp 4 0), (6, i64V (a : Int)), (11, .bp 11 0), (13, .bp 13 0), (10, i64V 1)]) (fun _ => [(2, .mut 58 [nilV, nilV]), (4, .mut 58 [rowsAV H, .bs 700 2 0 cs.length]), (700, .mut 72 (cellsCells cs)), (11, .mut 72 [rowsAV h2, .bs 600 2 0 xs.length]), (600, .mut 77 (itemsCells xs)), (13, .mut 77 [rowsAV fl, rowsAV ps])]) (fun _ => True) ?_ fun _ _ => ?_
   ·
    repeat' (first
     | with_reducible refine W_rg ?_
     | (rw [vcn]; (try simp [push_cast, nilV]))
     | fail)
    refine CallG_frz _ _ rfl ?_ (hf) ?_ (by simp [push_cast]) rfl ?_
    · first | (simp [frzS, resDL, resD, push_cast]; done) | (simp [frzS, resDL, resD, push_cast]; rw [List.take_of_length_le (by simp)]; done) | (simp [frzS, resDL, resD, push_cast]; fail_if_success done)
    · simp [frzOk, push_cast]
    try dsimp only
    try simp only [refsL, AV.refs, frzS, List.append_nil, upd, mkS_box, entry_box, lk, if_true, if_false]
    repeat' (first
     | (rw [vcn]; (try simp [push_cast, nilV, frzS]))
     | fail)
    refine joinW_n () id trivial ⟨?_, ?_, ?_, ?_, ?_, ?_⟩
    all_goals first | (simp [push_cast, hLr, nilV, frzS, hre, hrn, hce, hcr, hie, hir, rowsAV]; done)
   refine W_seq ?_
   refine W_joinQ (X := Unit) (fun _ => [(0, .slc f 3 n C), (2, .bp 2 0), (4, .bp 4 0), (6, i64V (a : Int)), (11, .bp 11 0), (13, .bp 13 0), (10, i64V 1)]) (fun _ => [(2, .mut 58 [nilV, nilV]), (4, .mut 58 [rowsAV H, .bs 700 2 0 cs.length]), (700, .mut 72 (cellsCells cs)), (11, .mut 72 [rowsAV h2, .bs 600 2 0 xs.length]), (600, .mut 77 (itemsCells xs)), (13, .mut 77 [rowsAV fl, rowsAV ps])]) (fun _ => True) ?_ fun _ _ => ?_
   ·
    repeat' (first
     | with_reducible first | apply thenW_n | apply W_seq | apply W_skip
     | with_reducible refine W_rg ?_
     | (rw [vcn]; (try simp [push_cast, nilV]))
     | (with_reducible refine W_condW ?_; (try simp [AS.val, upd, resB, mkS_env, mkS_box, lk, entry_env, condW_true, condW_false, nilV]))
     | fail)
    refine joinW_n () id trivial ⟨?_, ?_, ?_, ?_, ?_, ?_⟩
    all_goals first | (simp [push_cast, hLr, nilV, hre, hrn, hce, hcr, hie, hir, rowsAV]; done)
   refine W_seq ?_
   refine W_joinQ (X := Unit) (fun _ => [(0, .slc f 3 n C), (2, .bp 2 0), (4, .bp 4 0), (6, i64V (a6 : Int)), (11, .bp 11 0), (13, .bp 13 0)]) (fun _ => [(2, .mut 58 [nilV, nilV]), (4, .mut 58 [rowsAV H, .bs 700 2 0 cs.length]), (700, .mut 72 (cellsCells cs)), (11, .mut 72 [rowsAV h2, .bs 600 2 0 xs.length]), (600, .mut 77 (itemsCells xs)), (13, .mut 77 [rowsAV fl, rowsAV ps])]) (fun _ => True) ?_ fun _ _ => ?_
   ·
    repeat' (first
     | with_reducible refine W_rg ?_
     | (rw [vcn]; (try simp [push_cast, nilV, hw]))
     | fail)
    refine joinW_n () id trivial ⟨?_, ?_, ?_, ?_, ?_, ?_⟩
    all_goals first | (simp [push_cast, hLr, nilV, hre, hrn, hce, hcr, hie, hir, rowsAV]; done)
   have hsn := itemsCells_snoc xs (fl, ps)
   simp only [rowsAV] at hsn
   repeat' (first
    | with_reducible apply blockW_n
    | with_reducible refine W_rg ?_
    | (rw [vcn]; (try simp [push_cast, nilV, rowsAV, hil]))
    | refine And.intro (by first | omega | kernel_rfl) ?_
    | fail)
   refine loopW_n (xs ++ [(fl, ps)], a6) (fun i => if i = 600 then 187 else i) (by simp only; omega) ⟨by simp only; omega, by simp only; omega, by simp; omega, by rw [hxs]; cases end7 L (itemsS L a6) <;> simp⟩ ⟨?_, ?_, ?_, ?_, ?_, ?_⟩
   all_goals first | (simp [push_cast, hLr, nilV, hre, hrn, hce, hcr, hie, hir, rowsAV, hsn]; done) | (simp [push_cast, hLr, nilV, hre, hrn, hce, hcr, hie, hir, rowsAV, hsn]; omega)
  obtain ⟨xs, a4⟩ := x
  obtain ⟨ha4, ha34, hxl, hxs⟩ := hx
  simp only at ha4 ha34 hxl hxs
  rw [hxs] at hcell
  have hf := hfit a4 [7] [i64V 7] 1 rfl rfl (by omega) (by decide) (by decide)
  rw [row_one 7 (by decide), show UInt8.ofNat 7 = 7 from rfl] at hf
  refine W_seq ?_
  cases hm7 : mustS L a4 7 with
  | none =>
   rw [hm7] at hcell hf
   simp only at hf
   have hp : parseS L = none := by rw [hps, hcs, hcell]; rfl
   rw [hno hp]
   repeat' (first
    | with_reducible refine W_rg ?_
    | (rw [vcn]; (try simp [push_cast, nilV]))
    | fail)
   refine CallG_frz _ _ rfl ?_ (hf) ?_ (by simp [push_cast]) rfl ?_
   · first | (simp [frzS, resDL, resD, push_cast]; done) | (simp [frzS, resDL, resD, push_cast]; rw [List.take_of_length_le (by simp)]; done) | (simp [frzS, resDL, resD, push_cast]; fail_if_success done)
   · simp [frzOk, push_cast]
   try dsimp only
   try simp only [refsL, AV.refs, frzS, List.append_nil, upd, mkS_box, entry_box, lk, if_true, if_false]
   repeat' (first
    | with_reducible first | apply thenW_n | apply thenW_ret | apply blockW_ret | apply loopW_ret | apply joinW_ret | apply W_seq | apply W_ret
    | with_reducible refine W_rg ?_
    | (rw [vcn]; (try simp [push_cast, nilV, frzS]))
    | (with_reducible refine W_condW ?_; (try simp [AS.val, upd, resB, mkS_env, mkS_box, lk, entry_env, condW_true, condW_false, nilV, frzS]))
    | fail)
   simp [post, resAV, resAll, resOne, closeV, closeC, closeL, resD, resDL, push_cast, nilV, frzS]
  | some r7 =>
  rw [hm7] at hcell hf
  simp only [Option.map_some] at hcell hf
  have hlt := (mustS_lt hm7).1
  rw [← hn] at hlt
  have hw : IntKind.i64.wrap ((a4 : Int) + 1) = ((a4 + 1 : Nat) : Int) := by rw [i64_in _ (by omega)]; omega
  obtain ⟨a6, ha6⟩ : ∃ a', a' = a4 + 1 := ⟨_, rfl⟩
  rw [← ha6] at hw hcell
  rw [hcell] at hcs
  simp only at hcs
  refine W_joinQ (X := Unit) (fun _ => [(0, .slc f 3 n C), (2, .bp 2 0), (4, .bp 4 0), (6, i64V (a4 : Int)), (11, .bp 11 0), (10, i64V 1)]) (fun _ => [(2, .mut 58 [nilV, nilV]), (4, .mut 58 [rowsAV H, .bs 700 2 0 cs.length]), (700, .mut 72 (cellsCells cs)), (11, .mut 72 [rowsAV h2, .bs 600 2 0 xs.length]), (600, .mut 77 (itemsCells xs))]) (fun _ => True) ?_ fun _ _ => ?_
  ·
   repeat' (first
    | with_reducible refine W_rg ?_
    | (rw [vcn]; (try simp [push_cast, nilV]))
    | fail)
   refine CallG_frz _ _ rfl ?_ (hf) ?_ (by simp [push_cast]) rfl ?_
   · first | (simp [frzS, resDL, resD, push_cast]; done) | (simp [frzS, resDL, resD, push_cast]; rw [List.take_of_length_le (by simp)]; done) | (simp [frzS, resDL, resD, push_cast]; fail_if_success done)
   · simp [frzOk, push_cast]
   try dsimp only
   try simp only [refsL, AV.refs, frzS, List.append_nil, upd, mkS_box, entry_box, lk, if_true, if_false]
   repeat' (first
    | (rw [vcn]; (try simp [push_cast, nilV, frzS]))
    | fail)
   refine joinW_n () id trivial ⟨?_, ?_, ?_, ?_, ?_, ?_⟩
   all_goals first | (simp [push_cast, hLr, nilV, frzS, hre, hrn, hce, hcr, hie, hir, rowsAV]; done)
  refine W_seq ?_
  refine W_joinQ (X := Unit) (fun _ => [(0, .slc f 3 n C), (2, .bp 2 0), (4, .bp 4 0), (6, i64V (a4 : Int)), (11, .bp 11 0), (10, i64V 1)]) (fun _ => [(2, .mut 58 [nilV, nilV]), (4, .mut 58 [rowsAV H, .bs 700 2 0 cs.length]), (700, .mut 72 (cellsCells cs)), (11, .mut 72 [rowsAV h2, .bs 600 2 0 xs.length]), (600, .mut 77 (itemsCells xs))]) (fun _ => True) ?_ fun _ _ => ?_
  ·
   repeat' (first
    | with_reducible first | apply thenW_n | apply W_seq | apply W_skip
    | with_reducible refine W_rg ?_
    | (rw [vcn]; (try simp [push_cast, nilV]))
    | (with_reducible refine W_condW ?_; (try simp [AS.val, upd, resB, mkS_env, mkS_box, lk, entry_env, condW_true, condW_false, nilV]))
    | fail)
   refine joinW_n () id trivial ⟨?_, ?_, ?_, ?_, ?_, ?_⟩
   all_goals first | (simp [push_cast, hLr, nilV, hre, hrn, hce, hcr, hie, hir, rowsAV]; done)
  refine W_seq ?_
  refine W_joinQ (X := Unit) (fun _ => [(0, .slc f 3 n C), (2, .bp 2 0), (4, .bp 4 0), (6, i64V (a6 : Int)), (11, .bp 11 0)]) (fun _ => [(2, .mut 58 [nilV, nilV]), (4, .mut 58 [rowsAV H, .bs 700 2 0 cs.length]), (700, .mut 72 (cellsCells cs)), (11, .mut 72 [rowsAV h2, .bs 600 2 0 xs.length]), (600, .mut 77 (itemsCells xs))]) (fun _ => True) ?_ fun _ _ => ?_
  ·
   repeat' (first
    | with_reducible refine W_rg ?_
    | (rw [vcn]; (try simp [push_cast, nilV, hw]))
    | fail)
   refine joinW_n () id trivial ⟨?_, ?_, ?_, ?_, ?_, ?_⟩
   all_goals first | (simp [push_cast, hLr, nilV, hre, hrn, hce, hcr, hie, hir, rowsAV]; done)
  refine W_frz 600 (e := 77) (l := itemsCells xs) (by simp [mkS_box, lk]) (hie xs) ?_
  refine W_later (later_res 11 (e := 72) (l := [rowsAV h2, .bs 600 2 0 xs.length]) (by simp [mkS_box, lk, upd]) [rowsAV h2, itemsAV xs] ?_) ?_
  ·
   simp [resDL, resD, resB, mkS_box, lk, upd, hil, rowsAV, itemsAV]
   exact List.take_of_length_le (by rw [hil]; omega)
  have hsn := cellsCells_snoc cs (h2, xs)
  simp only [rowsAV, itemsAV] at hsn
  repeat' (first
   | with_reducible apply blockW_n
   | with_reducible refine W_rg ?_
   | (rw [vcn]; (try simp [push_cast, nilV, rowsAV, itemsAV, hcl]))
   | refine And.intro (by first | omega | kernel_rfl) ?_
   | fail)
  refine loopW_n (cs ++ [(h2, xs)], a6) (fun i => if i = 700 then 203 else i) (by simp only; omega) ⟨by simp only; omega, by simp; omega, by rw [hcs]; cases cellsS L a6 <;> simp⟩ ⟨?_, ?_, ?_, ?_, ?_, ?_⟩
  all_goals first | (simp [push_cast, hLr, nilV, hre, hrn, hce, hcr, hie, hir, rowsAV, itemsAV, hsn]; done) | (simp [push_cast, hLr, nilV, hre, hrn, hce, hcr, hie, hir, rowsAV, itemsAV, hsn]; omega)
 obtain ⟨cs, a2⟩ := x
 obtain ⟨ha2, hcs, hcl2⟩ := hx
 simp only at ha2 hcl2
 rw [hcs] at hps
 simp only at hps
 have hf := hfit a2 [4] [i64V 4] 1 rfl rfl (by omega) (by decide) (by decide)
 rw [row_one 4 (by decide), show UInt8.ofNat 4 = 4 from rfl] at hf
 refine W_seq ?_
 cases hm4 : mustS L a2 4 with
 | none =>
  rw [hm4] at hps hf
  simp only at hps hf
  rw [hno hps]
  repeat' (first
   | with_reducible refine W_rg ?_
   | (rw [vcn]; (try simp [push_cast, nilV]))
   | fail)
  refine CallG_frz _ _ rfl ?_ (hf) ?_ (by simp [push_cast]) rfl ?_
  · first | (simp [frzS, resDL, resD, push_cast]; done) | (simp [frzS, resDL, resD, push_cast]; rw [List.take_of_length_le (by simp)]; done) | (simp [frzS, resDL, resD, push_cast]; fail_if_success done)
  · simp [frzOk, push_cast]
  try dsimp only
  try simp only [refsL, AV.refs, frzS, List.append_nil, upd, mkS_box, entry_box, lk, if_true, if_false]
  repeat' (first
   | with_reducible first | apply thenW_n | apply thenW_ret | apply W_seq | apply W_ret
   | with_reducible refine W_rg ?_
   | (rw [vcn]; (try simp [push_cast, nilV, frzS]))
   | (with_reducible refine W_condW ?_; (try simp [AS.val, upd, resB, mkS_env, mkS_box, lk, entry_env, condW_true, condW_false, nilV, frzS]))
   | fail)
  simp [post, resAV, resAll, resOne, closeV, closeC, closeL, resD, resDL, push_cast, nilV, frzS]
 | some r4 =>
 rw [hm4] at hps hf
 simp only at hps hf
 have hlt := (mustS_lt hm4).1
 rw [← hn] at hlt
 have hw : IntKind.i64.wrap ((a2 : Int) + 1) = ((a2 + 1 : Nat) : Int) := by rw [i64_in _ (by omega)]; omega
 obtain ⟨a6, ha6⟩ : ∃ a', a' = a2 + 1 := ⟨_, rfl⟩
 rw [← ha6] at hw hps
 refine W_joinQ (X := Unit) (fun _ => [(0, .slc f 3 n C), (2, .bp 2 0), (4, .bp 4 0), (6, i64V (a2 : Int)), (10, i64V 1)]) (fun _ => [(2, .mut 58 [nilV, nilV]), (4, .mut 58 [rowsAV H, .bs 700 2 0 cs.length]), (700, .mut 72 (cellsCells cs))]) (fun _ => True) ?_ fun _ _ => ?_
 ·
  repeat' (first
   | with_reducible refine W_rg ?_
   | (rw [vcn]; (try simp [push_cast, nilV]))
   | fail)
  refine CallG_frz _ _ rfl ?_ (hf) ?_ (by simp [push_cast]) rfl ?_
  · first | (simp [frzS, resDL, resD, push_cast]; done) | (simp [frzS, resDL, resD, push_cast]; rw [List.take_of_length_le (by simp)]; done) | (simp [frzS, resDL, resD, push_cast]; fail_if_success done)
  · simp [frzOk, push_cast]
  try dsimp only
  try simp only [refsL, AV.refs, frzS, List.append_nil, upd, mkS_box, entry_box, lk, if_true, if_false]
  repeat' (first
   | (rw [vcn]; (try simp [push_cast, nilV, frzS]))
   | fail)
  refine joinW_n () id trivial ⟨?_, ?_, ?_, ?_, ?_, ?_⟩
  all_goals first | (simp [push_cast, hLr, nilV, frzS, hre, hrn, hce, hcr, rowsAV]; done)
 by_cases hfin : ¬ a6 = n
 ·
  rw [if_neg hfin] at hps
  rw [hno hps]
  have g7 : ((a6 : Int) = (n : Int)) = False := eq_false (by omega)
  have g7' : ((a6 : Int) != (n : Int)) = true := by rw [bne_iff_ne]; omega
  have g7'' : ((a6 : Int) == (n : Int)) = false := by rw [beq_eq_false_iff_ne]; omega
  have g7n : (a6 = n) = False := eq_false hfin
  repeat' (first
   | with_reducible first | apply thenW_n | apply thenW_ret | apply W_seq | apply W_ret
   | with_reducible refine W_rg ?_
   | (rw [vcn]; (try simp [push_cast, nilV, hw, g7, g7', g7'', g7n]))
   | (with_reducible refine W_condW ?_; (try simp [AS.val, upd, resB, mkS_env, mkS_box, lk, entry_env, condW_true, condW_false, nilV, hw, g7, g7', g7'', g7n]))
   | fail)
  simp [post, resAV, resAll, resOne, closeV, closeC, closeL, resD, resDL, push_cast, nilV]
 have hfin : a6 = n := by simpa using hfin
 rw [if_pos hfin] at hps
 rw [hyes _ hps]
 refine W_seq ?_
 refine W_joinQ (X := Unit) (fun _ => [(0, .slc f 3 n C), (2, .bp 2 0), (4, .bp 4 0)]) (fun _ => [(2, .mut 58 [nilV, nilV]), (4, .mut 58 [rowsAV H, .bs 700 2 0 cs.length]), (700, .mut 72 (cellsCells cs))]) (fun _ => True) ?_ fun _ _ => ?_
 ·
  repeat' (first
   | with_reducible first | apply thenW_n | apply W_seq | apply W_skip
   | with_reducible refine W_rg ?_
   | (rw [vcn]; (try simp [push_cast, nilV, hw, hfin]))
   | (with_reducible refine W_condW ?_; (try simp [AS.val, upd, resB, mkS_env, mkS_box, lk, entry_env, condW_true, condW_false, nilV, hw, hfin]))
   | fail)
  refine joinW_n () id trivial ⟨?_, ?_, ?_, ?_, ?_, ?_⟩
  all_goals first | (simp [push_cast, hLr, nilV, hre, hrn, hce, hcr, rowsAV]; done)
 refine W_frz 700 (e := 72) (l := cellsCells cs) (by simp [mkS_box, lk]) (hce cs) ?_
 refine W_later (later_res 4 (e := 58) (l := [rowsAV H, .bs 700 2 0 cs.length]) (by simp [mkS_box, lk, upd]) [rowsAV H, cellsAV cs] ?_) ?_
 ·
  simp [resDL, resD, resB, mkS_box, lk, upd, hcl, rowsAV, cellsAV]
  exact List.take_of_length_le (by rw [hcl]; omega)
 repeat' (first
  | with_reducible first | apply thenW_n | apply W_seq | apply W_ret
  | with_reducible refine W_rg ?_
  | (rw [vcn]; (try simp [push_cast, nilV]))
  | fail)
 simp [post, resAV, resAll, resOne, closeV, closeC, closeL, resD, resDL, push_cast, libAV, rowsAV, cellsAV, hre, hce]
end Go.Fw
