import Derived.Test.YtjgbikhnnkigpaaGp1
import Derived.Test.YtjgbikhnnkigpaaDpb
set_option linter.unusedSimpArgs false
set_option linter.unusedVariables false
-- VALS: recAV
namespace Go.Fw
open Go Go.Proofs Go.IntWalk
set_option linter.unusedSimpArgs false
set_option maxRecDepth 100000
set_option maxHeartbeats 2000000
open List (map_take map_drop)
attribute [local push_cast] optK_some optK_none optK_ite optK_map optK_bind gOn stepK isMem evPure evMem evBin evUn evConv evLen evBuiltin evMinMax evSlice evBuild evAppend evIndex evIndexAddr evField evFieldAddr intBin strBin appDest AS.val AS.mem AS.elems AS.put AS.put' AS.eff AV.cells? AV.isCell AV.refs all_isByte take_byteV drop_byteV strOf_map bndOk bnd partAV ptrAdd killBox catA inOrder fillA setAt ofVal resB upd byteV List.head?_take List.head?_drop List.getElem?_map mkS_env mkS_box mkS_used entry_env entry_box entry_used lk stepD lookIds Oper.looksAt Op.operands Call.operands St.ids refsL renL_append dV_take dV_drop ren renL renBox Box.refs iV i64V boolV dV_getElem dV_app dV_cons toNat_add2 toNat_add1
def rowS (L : List Rec) : Nat → List Nat → Option (List Rec × Nat)
 | at_, [] => some ([], at_)
 | at_, k :: ks => if k < 256 ∨ seesS L at_ [UInt8.ofNat k] = true then match mustS L at_ (UInt8.ofNat k) with
   | some r => (rowS L (at_ + 1) ks).map fun p => (r :: p.1, p.2)
   | none => none
  else rowS L at_ ks
def rowM (L : List Rec) (at_ : Nat) (ks : List Nat) : Option Rec → Option (List Rec × Nat)
 | some r => (rowS L (at_ + 1) ks).map fun p => (r :: p.1, p.2)
 | none => none
theorem rowS_cons (L : List Rec) (at_ k : Nat) (ks : List Nat) : rowS L at_ (k :: ks) = if k < 256 ∨ seesS L at_ [UInt8.ofNat k] = true then rowM L at_ ks (mustS L at_ (UInt8.ofNat k)) else rowS L at_ ks := rfl
theorem mustS_lt {L : List Rec} {at_ : Nat} {k : UInt8} {r : Rec} (h : mustS L at_ k = some r) : at_ < L.length ∧ L[at_]? = some r := by
 unfold mustS at h
 cases hx : L[at_]? with
 | none => rw [hx] at h; cases h
 | some q =>
  rw [hx] at h
  simp only at h
  split at h
  ·
   cases h
   exact ⟨(List.getElem?_eq_some_iff.1 hx).1, rfl⟩
  · cases h
theorem rowS_le {L : List Rec} : ∀ {ks : List Nat} {at_ : Nat} {p : List Rec × Nat}, rowS L at_ ks = some p → at_ ≤ L.length → p.2 ≤ L.length ∧ p.2 = at_ + p.1.length
 | [], at_, p, h, hat => by cases h; exact ⟨hat, rfl⟩
 | k :: ks, at_, p, h, hat => by
  rw [rowS] at h
  split at h
  ·
   cases hm : mustS L at_ (UInt8.ofNat k) with
   | none => rw [hm] at h; cases h
   | some r =>
    rw [hm] at h
    simp only at h
    cases hr : rowS L (at_ + 1) ks with
    | none => rw [hr] at h; cases h
    | some q =>
     rw [hr] at h
     cases h
     obtain ⟨h1, h2⟩ := rowS_le hr (mustS_lt hm).1
     exact ⟨h1, by simp only [List.length_cons]; omega⟩
  · exact rowS_le h hat
theorem u8_nat (k : Nat) : IntKind.u8.wrap (k : Int) = ((UInt8.ofNat k).toNat : Int) := by
 rw [IntKind.wrap_u8, UInt8.toNat_ofNat']
 omega
def preP (a : List Rec) (r : Option (List Rec × Nat)) : Option (List Rec × Nat) := r.map fun p => (a ++ p.1, p.2)
theorem row_ok (f g : Bool) (L : List Rec) (at0 : Nat) (ks : List Nat) (hL : L.length ≤ 1000000000) (hbody : ∀ r ∈ L, r.2.2.length ≤ 9223372036854775807) (hat0 : at0 ≤ L.length) (hks : ks.length ≤ 1000) (hkb : ∀ k ∈ ks, k ≤ 1000000) :
  MethO Try.prog 80 [.bp 1000000 0, .slc g 1 ks.length (ks.map fun k : Nat => i64V k)] 110 (parC f L at0) isWrong 24 3 ((rowS L at0 ks).map fun p => (p.1.length, recsCells p.1, parC f L p.2)) := by
 refine ⟨_, _, Try.func80, rfl, Try.call80, Nat.le_of_ble_eq_true rfl, ?_⟩
 obtain ⟨out, hout⟩ : ∃ o, o = rowS L at0 ks := ⟨_, rfl⟩
 rw [← hout]
 have hLr := recsCells_refs L
 have hpr : ∀ a, refsL (parC f L a) = [] := fun a => by simp [parC, refsL, AV.refs, i64V]
 have hprn : ∀ ρ a, renL ρ (parC f L a) = parC f L a := fun ρ a => renL_id ρ _ (hpr a)
 obtain ⟨n, hn⟩ : ∃ n, n = ks.length := ⟨_, rfl⟩
 obtain ⟨K, hK⟩ : ∃ K, K = ks.map fun k : Nat => i64V k := ⟨_, rfl⟩
 have hKr : refsL K = [] := by
  rw [hK]
  clear hK hkb hks hout hn
  induction ks with
  | nil => rfl
  | cons k ks ih => simpa [refsL, AV.refs, i64V] using ih
 rw [← hK, ← hn]
 repeat' (first
  | with_reducible first | apply thenW_n | apply W_seq | apply W_block
  | with_reducible refine W_rg ?_
  | (rw [vcn]; (try simp [push_cast, entryB_env, entryB_box, entryB_used]))
  | fail)
 refine W_nil 5 500 24 3 (by simp [upd, mkS_env, entryB_env, lk]) (by simp [entryB_used]) ?_
 refine W_loopW (X := Nat × List Rec × Nat) (fun x => [(0, .bp 1000000 0), (5, .bs 500 3 0 x.2.1.length), (8, .slc g 1 n K), (9, i64V n), (10, i64V x.1)]) (fun x => [(1000000, .mut 110 (parC f L x.2.2)), (500, .mut 24 (recsCells x.2.1))]) (fun x => n - x.1)
  (fun x => x.1 ≤ n ∧ x.2.2 ≤ L.length ∧ x.2.1.length ≤ x.1 ∧ out = preP x.2.1 (rowS L x.2.2 (ks.drop x.1))) (0, [], at0) id ⟨Nat.zero_le _, hat0, Nat.le_refl _, ?_⟩ ⟨?_, ?_, ?_, ?_, ?_, ?_⟩ fun x hx => ?_
 ·
  rw [hout, List.drop_zero, preP]
  cases rowS L at0 ks <;> rfl
 all_goals first | (with_reducible refine W_id ?_) | (simp [push_cast, hKr, entryB_env, entryB_box, entryB_used, recsCells, hpr, hprn]; done)
 obtain ⟨i, acc, at_⟩ := x
 obtain ⟨hi, hat, hal, hI⟩ := hx
 simp only at hi hat hal hI
 have hre : ∀ l, refsL (recsCells l) = [] := recsCells_refs
 have hrn : ∀ ρ l, renL ρ (recsCells l) = recsCells l := fun ρ l => renL_id ρ _ (recsCells_refs l)
 have hacl := recsCells_len acc
 by_cases hlt : ¬ i < n
 ·
  have g1 : ((i : Int) < (n : Int)) = False := eq_false (by omega)
  have g1' : (i < n) = False := eq_false hlt
  have ho : out = some (acc, at_) := by
   rw [hI, List.drop_eq_nil_of_le (by omega), rowS, preP]
   simp
  rw [ho]
  repeat' (first
   | with_reducible first | apply thenW_n | apply thenW_exit | apply blockW_same | apply loopW_exit | apply W_seq | apply W_ret | apply W_exit
   | with_reducible refine W_rg ?_
   | (rw [vcn]; (try simp [push_cast, g1, g1']))
   | (with_reducible refine W_condW ?_; (try simp [AS.val, upd, resB, mkS_env, mkS_box, lk, entry_env, condW_true, condW_false, g1, g1']))
   | fail)
  simp [postB, resAV, resAll, resOne, resD, resDL, push_cast, hacl]
  exact ⟨500, by decide, rfl, by simp⟩
 have hlt : i < n := by omega
 have g1 : ((i : Int) < (n : Int)) = True := eq_true (by omega)
 have g1' : (i < n) = True := eq_true hlt
 obtain ⟨k, hk⟩ : ∃ k, ks[i]? = some k := ⟨_, List.getElem?_eq_getElem (by omega)⟩
 have hki : K[i]? = some (i64V k) := by rw [hK, List.getElem?_map, hk]; rfl
 have hdrop : ks.drop i = k :: ks.drop (i + 1) := by
  obtain ⟨h1, h2⟩ := List.getElem?_eq_some_iff.1 hk
  rw [List.drop_eq_getElem_cons h1, h2]
 have hkb := hkb k (List.mem_of_getElem? hk)
 obtain ⟨b, hb⟩ : ∃ b, b = UInt8.ofNat k := ⟨_, rfl⟩
 have hwk : IntKind.u8.wrap (k : Int) = (b.toNat : Int) := by rw [u8_nat, hb]
 have w1 : IntKind.i64.wrap ((i : Int) + 1) = ((i + 1 : Nat) : Int) := by rw [i64_in _ (by omega)]; omega
 rw [hdrop, rowS_cons, ← hb] at hI
 have hs := sees_ok f false L at_ [b] noPan (by omega) hat
 have hm := must_ok f L at_ b hL hbody hat
 obtain ⟨sb, hsb⟩ : ∃ x, x = seesS L at_ [b] := ⟨_, rfl⟩
 obtain ⟨m, hmm⟩ : ∃ x, x = mustS L at_ b := ⟨_, rfl⟩
 rw [← hsb] at hs hI
 rw [← hmm] at hm hI
 have hn1 : n ≤ 1000 := by omega
 clear hout hK hn
 obtain ⟨R, hR⟩ : ∃ R, R = recsCells acc := ⟨_, rfl⟩
 obtain ⟨m0, hm0⟩ : ∃ m0, m0 = acc.length := ⟨_, rfl⟩
 have hRr : refsL R = [] := by rw [hR]; exact hre acc
 have hRn : ∀ ρ, renL ρ R = R := fun ρ => renL_id ρ _ hRr
 rw [← hR, ← hm0] at hacl
 rw [← hm0] at hal
 simp only [← hR, ← hm0]
 repeat' (first
  | with_reducible first | apply thenW_n | apply W_seq | apply W_skip
  | with_reducible refine W_rg ?_
  | (rw [vcn]; (try simp [push_cast, g1, g1']))
  | (with_reducible refine W_condW ?_; (try simp [AS.val, upd, resB, mkS_env, mkS_box, lk, entry_env, condW_true, condW_false, g1, g1']))
  | fail)
 refine W_block (W_seq ?_)
 refine W_joinQ (X := Unit) (fun _ => [(0, .bp 1000000 0), (5, .bs 500 3 0 m0), (7, i64V k), (8, .slc g 1 n K), (9, i64V n), (10, i64V i)]) (fun _ => [(1000000, .mut 110 (parC f L at_)), (500, .mut 24 R)]) (fun _ => True) ?_ fun _ _ => ?_
 ·
  repeat' (first
   | with_reducible refine W_rg ?_
   | (rw [vcn]; (try simp [push_cast, g1, g1', hki]))
   | fail)
  refine joinW_n () id trivial ⟨?_, ?_, ?_, ?_, ?_, ?_⟩
  all_goals first | (simp [push_cast, hKr, hRr, hRn, hpr, hprn]; done)
 obtain ⟨go, hgo⟩ : ∃ go : Bool, go = (decide (k < 256) || sb) := ⟨_, rfl⟩
 refine W_seq ?_
 refine W_joinQ (X := Unit) (fun _ => [(0, .bp 1000000 0), (5, .bs 500 3 0 m0), (7, i64V k), (8, .slc g 1 n K), (9, i64V n), (10, i64V i), (24, .v (.bool go))]) (fun _ => [(1000000, .mut 110 (parC f L at_)), (500, .mut 24 R)]) (fun _ => True) ?_ fun _ _ => ?_
 ·
  by_cases h256 : k < 256
  ·
   have g2 : ((k : Int) < 256) = True := eq_true (by omega)
   have g2' : (k < 256) = True := eq_true h256
   have g3 : go = true := by rw [hgo]; simp [h256]
   repeat' (first
    | with_reducible refine W_rg ?_
    | (rw [vcn]; (try simp [push_cast, g2, g2', g3]))
    | fail)
   refine joinW_n () id trivial ⟨?_, ?_, ?_, ?_, ?_, ?_⟩
   all_goals first | (simp [push_cast, hKr, hRr, hRn, hpr, hprn]; done)
  ·
   have g2 : ((k : Int) < 256) = False := eq_false (by omega)
   have g2' : (k < 256) = False := eq_false h256
   have g3 : go = sb := by rw [hgo]; simp [h256]
   repeat' (first
    | with_reducible refine W_rg ?_
    | (rw [vcn]; (try simp [push_cast, g2, g2', g3, hwk]))
    | fail)
   refine CallG_meth (id := 1000000) (ks := some (22, 5, [byteV b])) (args' := [.bp 1000000 0, .slc false 1 1 [byteV b]]) (methMk (hs) ?_) ?_
   · refine ⟨?_, ?_, ?_, ?_, fun _ _ _ h_ => ?_, ?_, ?_, fun _ _ h_ => ?_⟩ <;> (try cases h_) <;> (try simp [natAV, frzK, resDL, resD, entryB_env, entryB_box, refsL_bytes, recAV, push_cast, hpr]) <;> first | rfl | (rw [List.take_of_length_le (by simp)]; done)
   try dsimp only
   repeat' (first
    | (rw [vcn]; (try simp [push_cast, keyK, g2, g2', g3, hwk]))
    | fail)
   refine joinW_n () id trivial ⟨?_, ?_, ?_, ?_, ?_, ?_⟩
   all_goals first | (simp [push_cast, hKr, hRr, hRn, hpr, hprn]; done)
 have hI' : out = preP acc (if go = true then rowM L at_ (ks.drop (i + 1)) m else rowS L at_ (ks.drop (i + 1))) := by
  rw [hI]
  congr 1
  by_cases h : k < 256 ∨ sb = true
  · rw [if_pos h, if_pos (by rw [hgo]; simpa using h)]
  · rw [if_neg h, if_neg (by rw [hgo]; simpa using h)]
 clear hI hgo
 by_cases hg : go = false
 ·
  subst hg
  rw [if_neg (by decide)] at hI'
  repeat' (first
   | with_reducible first | apply thenW_n | apply blockW_n | apply W_skip
   | with_reducible refine W_rg ?_
   | (rw [vcn]; (try simp [push_cast, w1]))
   | (with_reducible refine W_condW ?_; (try simp [AS.val, upd, resB, mkS_env, mkS_box, lk, entry_env, condW_true, condW_false, w1]))
   | fail)
  refine loopW_n (i + 1, acc, at_) id (by simp only; omega) ⟨by simp only; omega, hat, by simp only; omega, hI'⟩ ⟨?_, ?_, ?_, ?_, ?_, ?_⟩
  all_goals first | (simp [push_cast, hKr, hRr, hRn, hpr, hprn, hR, hm0, hrn, hre]; done)
 have hg : go = true := by simpa using hg
 subst hg
 rw [if_pos rfl] at hI'
 cases m with
 | none =>
  have ho : out = none := by rw [hI']; rfl
  rw [ho]
  repeat' (first
   | with_reducible refine W_rg ?_
   | (rw [vcn]; (try simp [push_cast, hwk]))
   | (with_reducible refine W_condW ?_; (try simp [AS.val, upd, resB, mkS_env, mkS_box, lk, entry_env, condW_true, condW_false, hwk]))
   | fail)
  refine CallG_methP (id := 1000000) (ks := none) (args' := [.bp 1000000 0, byteV b]) (methMk (hm) ?_) ?_
  · refine ⟨?_, ?_, ?_, ?_, fun _ _ _ h_ => ?_, ?_, ?_, fun _ _ h_ => ?_⟩ <;> (try cases h_) <;> (try simp [natAV, frzK, resDL, resD, entryB_env, entryB_box, refsL_bytes, recAV, push_cast, hpr]) <;> first | rfl | (rw [List.take_of_length_le (by simp)]; done)
  try dsimp only
  intro pl s' hpl
  (repeat' (with_reducible first | apply thenW_panic | apply blockW_panic | apply loopW_panic | apply joinW_panic))
  exact ⟨pl, rfl, hpl⟩
 | some r =>
  obtain ⟨rk, rd, rb⟩ := r
  have hlt2 := (mustS_lt hmm.symm).1
  have hI2 : out = preP (acc ++ [(rk, rd, rb)]) (rowS L (at_ + 1) (ks.drop (i + 1))) := by
   rw [hI', rowM]
   cases rowS L (at_ + 1) (ks.drop (i + 1)) with
   | none => rfl
   | some p => simp [preP]
  obtain ⟨acc', ha'⟩ : ∃ x, x = acc ++ [(rk, rd, rb)] := ⟨_, rfl⟩
  have hal' : acc'.length = m0 + 1 := by rw [ha', hm0]; simp
  have hR' : R ++ [byteV rk, byteV rd, .slc false 1 rb.length (rb.map byteV)] = recsCells acc' := by
   rw [hR, ha', recsCells, recsCells, List.flatMap_append]
   rfl
  rw [← ha'] at hI2
  repeat' (first
   | with_reducible refine W_rg ?_
   | (rw [vcn]; (try simp [push_cast, hwk]))
   | (with_reducible refine W_condW ?_; (try simp [AS.val, upd, resB, mkS_env, mkS_box, lk, entry_env, condW_true, condW_false, hwk]))
   | fail)
  refine CallG_meth (id := 1000000) (ks := none) (args' := [.bp 1000000 0, byteV b]) (methMk (hm) ?_) ?_
  · refine ⟨?_, ?_, ?_, ?_, fun _ _ _ h_ => ?_, ?_, ?_, fun _ _ h_ => ?_⟩ <;> (try cases h_) <;> (try simp [natAV, frzK, resDL, resD, entryB_env, entryB_box, refsL_bytes, recAV, push_cast, hpr]) <;> first | rfl | (rw [List.take_of_length_le (by simp)]; done)
  try dsimp only
  repeat' (first
   | with_reducible first | apply thenW_n | apply blockW_n
   | with_reducible refine W_rg ?_
   | (rw [vcn]; (try simp [push_cast, keyK, hacl, w1, recAV]))
   | refine And.intro (by first | omega | kernel_rfl) ?_
   | fail)
  refine loopW_n (i + 1, acc', at_ + 1) (fun i => if i = 500 then 33 else i) (by simp only; omega) ⟨by simp only; omega, by simp only; omega, by simp only; omega, hI2⟩ ⟨?_, ?_, ?_, ?_, ?_, ?_⟩
  all_goals first | (simp [push_cast, hKr, hRr, hRn, hpr, hprn, hal', hrn, ← hR', hre]; done) | (simp [push_cast, hKr, hRr, hRn, hpr, hprn, hal', hrn, ← hR', hre]; omega)
end Go.Fw
-- VALS: recAV
namespace Go.Fw
open Go Go.Proofs Go.IntWalk
set_option linter.unusedSimpArgs false
set_option maxRecDepth 100000
set_option maxHeartbeats 2000000
open List (map_take map_drop)
attribute [local push_cast] optK_some optK_none optK_ite optK_map optK_bind gOn stepK isMem evPure evMem evBin evUn evConv evLen evBuiltin evMinMax evSlice evBuild evAppend evIndex evIndexAddr evField evFieldAddr intBin strBin appDest AS.val AS.mem AS.elems AS.put AS.put' AS.eff AV.cells? AV.isCell AV.refs all_isByte take_byteV drop_byteV strOf_map bndOk bnd partAV ptrAdd killBox catA inOrder fillA setAt ofVal resB upd byteV List.head?_take List.head?_drop List.getElem?_map mkS_env mkS_box mkS_used entry_env entry_box entry_used lk stepD lookIds Oper.looksAt Op.operands Call.operands St.ids refsL renL_append dV_take dV_drop ren renL renBox Box.refs iV i64V boolV dV_getElem dV_app dV_cons toNat_add2 toNat_add1
def rowsAV (l : List Rec) : AV := .slc false 3 l.length (recsCells l)
theorem rowF_ok (f g : Bool) (L : List Rec) (at0 : Nat) (ks : List Nat) (hL : L.length ≤ 1000000000) (hbody : ∀ r ∈ L, r.2.2.length ≤ 9223372036854775807) (hat0 : at0 ≤ L.length) (hks : ks.length ≤ 1000) (hkb : ∀ k ∈ ks, k ≤ 1000000) :
  Meth Try.prog 80 [.bp 1000000 0, .slc g 1 ks.length (ks.map fun k : Nat => i64V k)] 110 (parC f L at0) isWrong ((rowS L at0 ks).map fun p => (rowsAV p.1, parC f L p.2)) := by
 have h := (row_ok f g L at0 ks hL hbody hat0 hks hkb).frz (fun fn hf => by
  have e : Try.prog.funcs[80]? = some Try.f80 := Try.func80
  rw [e] at hf
  cases hf
  exact ⟨_, rfl⟩) (fun n cells l' hr => by
  cases ho : rowS L at0 ks with
  | none => rw [ho] at hr; cases hr
  | some p =>
   rw [ho] at hr
   cases hr
   exact ⟨recsCells_refs _, recsCells_len _⟩)
 rw [Option.map_map] at h
 exact h
def transS (L : List Rec) (at_ : Nat) : Option (List Rec × Nat) := if seesS L at_ [0x1a] = true then rowS L at_ [0x1a, 256 + 0x1b, 256 + 0x1c] else some ([], at_)
theorem trans_ok (f : Bool) (L : List Rec) (at_ : Nat) (hL : L.length ≤ 1000000000) (hbody : ∀ r ∈ L, r.2.2.length ≤ 9223372036854775807) (hat : at_ ≤ L.length) :
  Meth Try.prog 87 [.bp 1000000 0] 110 (parC f L at_) isWrong ((transS L at_).map fun p => (rowsAV p.1, parC f L p.2)) := by
 have hpr : ∀ a, refsL (parC f L a) = [] := fun a => by simp [parC, refsL, AV.refs, i64V, recsCells_refs]
 have hs := sees_ok f false L at_ [0x1a] noPan (by omega) hat
 have hrow := rowF_ok f false L at_ [0x1a, 256 + 0x1b, 256 + 0x1c] hL hbody hat (by decide) (by decide)
 obtain ⟨ro, hro⟩ : ∃ o, o = rowS L at_ [0x1a, 256 + 0x1b, 256 + 0x1c] := ⟨_, rfl⟩
 rw [← hro] at hrow
 by_cases hsb : seesS L at_ [0x1a] = true
 ·
  rw [hsb] at hs
  have ho : transS L at_ = ro := by rw [transS, if_pos hsb, hro]
  rw [ho]
  refine ⟨_, _, Try.func87, rfl, Try.call87, Nat.le_of_ble_eq_true rfl, ?_⟩
  repeat' (first
   | with_reducible first | apply thenW_n | apply W_seq
   | with_reducible refine W_rg ?_
   | (rw [vcn]; (try simp [push_cast, entryB_env, entryB_box, entryB_used]))
   | fail)
  refine CallG_meth (id := 1000000) (ks := some (6, 5, [byteV 0x1a])) (args' := [.bp 1000000 0, .slc false 1 1 [byteV 0x1a]]) (methMk (hs) ?_) ?_
  · refine ⟨?_, ?_, ?_, ?_, fun _ _ _ h_ => ?_, ?_, ?_, fun _ _ h_ => ?_⟩ <;> (try cases h_) <;> (try simp [natAV, frzK, resDL, resD, entryB_env, entryB_box, refsL_bytes, recAV, push_cast, hpr]) <;> first | rfl | (rw [List.take_of_length_le (by simp)]; done)
  try dsimp only
  repeat' (first
   | with_reducible first | apply thenW_n | apply W_seq | apply W_skip
   | with_reducible refine W_rg ?_
   | (rw [vcn]; (try simp [push_cast, keyK, entryB_env, entryB_box, entryB_used]))
   | (with_reducible refine W_condW ?_; (try simp [AS.val, upd, resB, mkS_env, mkS_box, lk, entry_env, condW_true, condW_false, keyK, entryB_env, entryB_box, entryB_used]))
   | fail)
  cases ro with
  | none =>
   refine CallG_methP (id := 1000000) (ks := some (10, 3, [i64V 26, i64V 283, i64V 284])) (args' := [.bp 1000000 0, .slc false 1 3 [i64V 26, i64V 283, i64V 284]]) (methMk (hrow) ?_) ?_
   · refine ⟨?_, ?_, ?_, ?_, fun _ _ _ h_ => ?_, ?_, ?_, fun _ _ h_ => ?_⟩ <;> (try cases h_) <;> (try simp [natAV, frzK, resDL, resD, entryB_env, entryB_box, refsL_bytes, recAV, push_cast, hpr]) <;> first | rfl | (rw [List.take_of_length_le (by simp)]; done)
   try dsimp only
   intro pl s' hpl
   (repeat' (with_reducible first | apply thenW_panic | apply blockW_panic | apply loopW_panic | apply joinW_panic))
   exact ⟨pl, rfl, hpl⟩
  | some p =>
   have hpr2 := recsCells_refs p.1
   refine CallG_meth (id := 1000000) (ks := some (10, 3, [i64V 26, i64V 283, i64V 284])) (args' := [.bp 1000000 0, .slc false 1 3 [i64V 26, i64V 283, i64V 284]]) (methMk (hrow) ?_) ?_
   · refine ⟨?_, ?_, ?_, ?_, fun _ _ _ h_ => ?_, ?_, ?_, fun _ _ h_ => ?_⟩ <;> (try cases h_) <;> (try simp [natAV, frzK, resDL, resD, entryB_env, entryB_box, refsL_bytes, recAV, push_cast, hpr, rowsAV, hpr2]) <;> first | rfl | (rw [List.take_of_length_le (by simp)]; done)
   try dsimp only
   repeat' (first
    | with_reducible first | apply thenW_n | apply W_ret
    | (rw [vcn]; (try simp [push_cast, keyK, entryB_env, entryB_box, entryB_used, rowsAV]))
    | fail)
   simp [postB, resAV, resAll, resOne, resD, resDL, push_cast, rowsAV]
 ·
  have hsb0 : seesS L at_ [0x1a] = false := by simpa using hsb
  rw [hsb0] at hs
  have ho : transS L at_ = some ([], at_) := by rw [transS, if_neg hsb]
  rw [ho]
  refine Meth.sub (v := .v (.slice none 0 0)) ?_ (nil_sub 3) rfl (fun _ => rfl) (fun _ => rfl) (fun fn hf => ?_) nil_back
  ·
   refine ⟨_, _, Try.func87, rfl, Try.call87, Nat.le_of_ble_eq_true rfl, ?_⟩
   repeat' (first
    | with_reducible first | apply thenW_n | apply W_seq
    | with_reducible refine W_rg ?_
    | (rw [vcn]; (try simp [push_cast, entryB_env, entryB_box, entryB_used]))
    | fail)
   refine CallG_meth (id := 1000000) (ks := some (6, 5, [byteV 0x1a])) (args' := [.bp 1000000 0, .slc false 1 1 [byteV 0x1a]]) (methMk (hs) ?_) ?_
   · refine ⟨?_, ?_, ?_, ?_, fun _ _ _ h_ => ?_, ?_, ?_, fun _ _ h_ => ?_⟩ <;> (try cases h_) <;> (try simp [natAV, frzK, resDL, resD, entryB_env, entryB_box, refsL_bytes, recAV, push_cast, hpr]) <;> first | rfl | (rw [List.take_of_length_le (by simp)]; done)
   try dsimp only
   repeat' (first
    | with_reducible first | apply thenW_n | apply thenW_ret | apply W_seq | apply W_ret
    | with_reducible refine W_rg ?_
    | (rw [vcn]; (try simp [push_cast, keyK, entryB_env, entryB_box, entryB_used]))
    | (with_reducible refine W_condW ?_; (try simp [AS.val, upd, resB, mkS_env, mkS_box, lk, entry_env, condW_true, condW_false, keyK, entryB_env, entryB_box, entryB_used]))
    | fail)
   simp [postB, resAV, resAll, resOne, resD, resDL, push_cast]
  ·
   have e : Try.prog.funcs[87]? = some Try.f87 := Try.func87
   rw [e] at hf
   cases hf
   exact ⟨_, rfl⟩
end Go.Fw
set_option linter.unusedVariables false
set_option linter.unusedSimpArgs false
-- VALS: recAV
namespace Go.Fw
open Go Go.Proofs Go.IntWalk
set_option linter.unusedSimpArgs false
set_option maxRecDepth 100000
set_option maxHeartbeats 2000000
open List (map_take map_drop)
attribute [local push_cast] optK_some optK_none optK_ite optK_map optK_bind gOn stepK isMem evPure evMem evBin evUn evConv evLen evBuiltin evMinMax evSlice evBuild evAppend evIndex evIndexAddr evField evFieldAddr intBin strBin appDest AS.val AS.mem AS.elems AS.put AS.put' AS.eff AV.cells? AV.isCell AV.refs all_isByte take_byteV drop_byteV strOf_map bndOk bnd partAV ptrAdd killBox catA inOrder fillA setAt ofVal resB upd byteV List.head?_take List.head?_drop List.getElem?_map mkS_env mkS_box mkS_used entry_env entry_box entry_used lk stepD lookIds Oper.looksAt Op.operands Call.operands St.ids refsL renL_append dV_take dV_drop ren renL renBox Box.refs iV i64V boolV dV_getElem dV_app dV_cons toNat_add2 toNat_add1
def nilV : AV := .v (.slice none 0 0)
theorem add_wb (g : Bool) (n m : Nat) (c c2 : List AV) (hc : refsL c = []) (hc2 : refsL c2 = []) (hl : c.length = n * 3) (hl2 : c2.length = m * 3) (hn : n + m ≤ 1000000000) :
  WB Try.prog 86 [.slc g 3 m c2, .bp 1000000 0] [(1000000, .mut 77 [.bs 1000001 3 0 n, nilV]), (1000001, .mut 24 c)]
   (fun out s' => out = .ret (.tup []) ∧ s'.box 1000000 = some (.mut 77 [.bs 6 3 0 (n + m), nilV]) ∧ s'.box 6 = some (.mut 24 (c ++ c2))) := by
 refine ⟨_, _, Try.func86, rfl, Try.call86, Nat.le_of_ble_eq_true rfl, ?_⟩
 repeat' (first
  | with_reducible refine W_rg ?_
  | (rw [vcn]; (try simp [push_cast, entryB_env, entryB_box, entryB_used, nilV, hl, hl2]))
  | refine And.intro (by first | omega | kernel_rfl) ?_
  | fail)
 simp [postB, resAV, resAll, resOne, resD, resDL, push_cast, nilV]
theorem CallG_add {s : AS} {K : Out → AS → Prop} {args : List AV} (x F F' : Nat) (ks : Option (Nat × TypeId × List AV)) (g : Bool) (n m : Nat) (c c2 : List AV)
  (hx : s.box x = some (.mut 77 [.bs F 3 0 n, nilV])) (hF : s.box F = some (.mut 24 c)) (hxF : x ≠ F) (hsm : F < 1000000)
  (hks : ∀ k ek lk, ks = some (k, ek, lk) → k ≠ x ∧ k ≠ F ∧ s.box k = some (.mut ek lk) ∧ refsL lk = [])
  (hrefs : ∀ i ∈ refsL args, ∃ k ek lk, ks = some (k, ek, lk) ∧ i = k)
  (hargs : resDL (frzK ks s.box) args = [.slc g 3 m c2])
  (hc : refsL c = []) (hc2 : refsL c2 = []) (hl : c.length = n * 3) (hl2 : c2.length = m * 3) (hn : n + m ≤ 1000000000) (hF' : ¬ s.used F') (hxm : x < 1000000)
  (hk : K (.ret (.tup [])) ⟨s.env, upd (upd (upd (killBox (keyK ks) s.box) F none) x (some (.mut 77 [.bs F' 3 0 (n + m), nilV]))) F' (some (.mut 24 (c ++ c2))), fun i => i = F' ∨ s.used i⟩) :
  CallG Try.prog (.fn 86 [.bp x 0]) args s K := by
 intro C nt M β a w vs hR hS hvs hrep
 obtain ⟨M1, m1, hR1, hS1⟩ := later_frzK ks (fun k ek lk hk => ⟨(hks k ek lk hk).2.2.1, (hks k ek lk hk).2.2.2⟩) C M β w nt a hR hS
 have ux : s.used x := hR.useB x (by rw [hx]; simp)
 have uF : s.used F := hR.useB F (by rw [hF]; simp)
 have hF'x : F' ≠ x := fun h => hF' (h ▸ ux)
 have hF'F : F' ≠ F := fun h => hF' (h ▸ uF)
 have bx1 : frzK ks s.box x = some (.mut 77 [.bs F 3 0 n, nilV]) := by
  cases ks with
  | none => exact hx
  | some p =>
   obtain ⟨k, ek, lk⟩ := p
   simp only [frzK, upd]
   rw [if_neg (fun h => (hks k ek lk rfl).1 h.symm)]
   exact hx
 have bF1 : frzK ks s.box F = some (.mut 24 c) := by
  cases ks with
  | none => exact hF
  | some p =>
   obtain ⟨k, ek, lk⟩ := p
   simp only [frzK, upd]
   rw [if_neg (fun h => (hks k ek lk rfl).2.1 h.symm)]
   exact hF
 have hused : ∀ j ∈ refsL (args ++ [.bp x 0]), s.used j := fun j hj => by
  rw [refsL_append, List.mem_append] at hj
  rcases hj with hj | hj
  ·
   obtain ⟨k, ek, lk, h1, rfl⟩ := hrefs j hj
   exact hR.useB j (by rw [(hks j ek lk h1).2.2.1]; simp)
  ·
   simp [refsL, AV.refs] at hj
   rw [hj]; exact ux
 have hrep1 := (resDL_t hR1 (args ++ [.bp x 0]) vs 0 (RepT.mono m1 _ _ _ (fun _ _ => rfl) hrep) hused).1
 have hargs1 : resDL (frzK ks s.box) (args ++ [.bp x 0]) = [.slc g 3 m c2, .bp x 0] := by
  rw [resDL_eq, List.map_append, ← resDL_eq, hargs]
  simp [resD, resB, bx1]
 have hlen : vs.size = 2 := by
  have h1 := resDL_length (frzK ks s.box) (args ++ [.bp x 0])
  rw [hargs1] at h1
  rw [hvs, ← h1]
  rfl
 simp only at hrep1
 rw [hargs1] at hrep1
 have hcall : CallV Try.prog 86 [.slc g 3 m c2, .bp x 0] { s with box := frzK ks s.box } (fun out s' => out = .ret (.tup []) ∧ s' = back { s with box := frzK ks s.box } [x, F] [(x, .mut 77 [.bs F' 3 0 (n + m), nilV]), (F', .mut 24 (c ++ c2))]) := by
  refine CallV.boxes [.slc g 3 m c2, .bp 1000000 0] [(1000000, .mut 77 [.bs 1000001 3 0 n, nilV]), (1000001, .mut 24 c)] (fun i => if i = 1000000 then x else if i = 1000001 then F else i) (by simp [renL, ren]) ?_ ?_ ?_ ?_ (add_wb g n m c c2 hc hc2 hl hl2 hn) ?_
  ·
   intro p hp
   simp at hp
   rcases hp with rfl | rfl
   · exact ⟨Nat.le_refl _, by simp [renBox, renL, ren, bx1, nilV]⟩
   · exact ⟨by simp, by simp [renBox, bF1, renL_id _ c hc]⟩
  ·
   intro p hp q hq h
   simp at hp hq
   rcases hp with rfl | rfl <;> rcases hq with rfl | rfl <;> simp at h ⊢
   · exact hxF h
   · exact hxF h.symm
  ·
   intro i hi
   simp [refsL, AV.refs] at hi
   rw [hi]; simp
  ·
   intro p hp i hi
   simp at hp
   rcases hp with rfl | rfl
   ·
    simp [Box.refs, refsL, AV.refs, nilV] at hi
    rw [hi]; simp
   · simp [Box.refs, hc] at hi
  ·
   rintro out s' ⟨rfl, h1, h2⟩
   have hxF' : ¬ x = F' := fun h => hF'x h.symm
   refine ⟨[(x, .mut 77 [.bs F' 3 0 (n + m), nilV]), (F', .mut 24 (c ++ c2))], fun i => if i = x then 1000000 else if i = F' then 6 else i, ?_, ?_, ?_, ?_, .tup [], by simp [ren, renL], by simp [AV.refs, refsL], rfl, by simp⟩
   ·
    intro p hp
    simp at hp
    rcases hp with rfl | rfl
    · simp [renBox, renL, ren, h1, nilV, hF'x]
    ·
     have := renL_id (fun i => if i = x then 1000000 else if i = F' then 6 else i) (c ++ c2) (by rw [refsL_append, hc, hc2]; rfl)
     simp only [renBox]
     rw [this]
     simp [hF'x, h2]
   ·
    intro p hp q hq h
    simp at hp hq
    rcases hp with rfl | rfl <;> rcases hq with rfl | rfl <;> simp [hF'x, hxF'] at h ⊢
   ·
    intro p hp i hi
    simp at hp
    rcases hp with rfl | rfl
    ·
     simp [Box.refs, refsL, AV.refs, nilV] at hi
     rw [hi]; simp
    · simp [Box.refs, refsL_append, hc, hc2] at hi
   ·
    intro p hp hu
    simp at hp
    rcases hp with rfl | rfl
    · simp
    · exact absurd hu hF'
 refine (hcall C nt M1 β a w vs hR1 hS1 (by rw [hlen]; rfl) hrep1).mono ?_
 rintro e' w' ⟨out, s', M', β', ⟨rfl, rfl⟩, hR', hS', hE⟩
 have hne : ∀ i b, upd (upd (upd (killBox (keyK ks) s.box) F none) x (some (.mut 77 [.bs F' 3 0 (n + m), nilV]))) F' (some (.mut 24 (c ++ c2))) i = some b →
   (back { s with box := frzK ks s.box } [x, F] [(x, .mut 77 [.bs F' 3 0 (n + m), nilV]), (F', .mut 24 (c ++ c2))]).box i = some b ∧ (i = F' ∨ s.used i) := fun i b hi => by
  simp only [upd] at hi
  simp only [back, lk]
  by_cases h1 : i = F'
  ·
   rw [if_pos h1] at hi
   cases hi
   subst h1
   rw [if_neg (fun h => hF'x h.symm), if_pos rfl]
   exact ⟨rfl, .inl rfl⟩
  ·
   rw [if_neg h1] at hi
   rw [if_neg (fun h : F' = i => h1 h.symm)]
   by_cases h2 : i = x
   ·
    subst h2
    rw [if_pos rfl] at hi
    cases hi
    rw [if_pos rfl]
    exact ⟨rfl, .inr ux⟩
   ·
    rw [if_neg h2] at hi
    rw [if_neg (fun h : x = i => h2 h.symm)]
    by_cases h3 : i = F
    · rw [if_pos h3] at hi; cases hi
    ·
     rw [if_neg h3] at hi
     simp only [List.contains_cons, List.contains_nil, Bool.or_false, Bool.or_eq_true, beq_iff_eq]
     rw [if_neg (by simp [h2, h3])]
     cases ks with
     | none => exact ⟨hi, .inr (hR.useB i (by simp only [keyK, Option.map_none, killBox] at hi; rw [hi]; simp))⟩
     | some p =>
      obtain ⟨k, ek, lk⟩ := p
      simp only [keyK, Option.map_some, killBox, upd] at hi
      split at hi
      · cases hi
      ·
       rename_i h4
       refine ⟨?_, .inr (hR.useB i (by rw [hi]; simp))⟩
       simp only [frzK, upd]
       rw [if_neg h4]
       exact hi
 refine ⟨.ret (.tup []), _, M', β', hk, hR'.less (fun i b hi => (hne i b hi).1) (fun i b hi => (hne i b hi).2) (fun i e1 l1 hi j hj => ?_) (fun i hi => .inr (hR.pin i hi).1) s.env, ⟨hS'.dfr, hS'.size, hS'.slot, fun t i hi => .inr (hS.refE t i hi)⟩, ?_⟩
 ·
  have h5 := hR'.refB i e1 l1 (hne i _ hi).1 j hj
  simp only [upd] at hi
  split at hi
  ·
   cases hi
   rw [refsL_append, hc, hc2] at hj; cases hj
  ·
   split at hi
   ·
    cases hi
    simp [refsL, AV.refs, nilV] at hj
    exact .inl hj
   ·
    split at hi
    · cases hi
    ·
     have : s.box i = some (.mut e1 l1) := by
      cases ks with
      | none => exact hi
      | some p =>
       obtain ⟨k, ek, lk⟩ := p
       simp only [keyK, Option.map_some, killBox, upd] at hi
       split at hi
       · cases hi
       · exact hi
     exact .inr (hR.refB i e1 l1 this j hj)
 ·
  cases e' with
  | returned y =>
   have hok : Ok M' β' _ (.tup []) y := hE
   exact ⟨hok.rep, fun i hi => by simp [AV.refs, refsL] at hi⟩
  | panicked l' => exact hE
  | outgrown => exact hE
theorem CallG_addA {s : AS} {K : Out → AS → Prop} {args : List AV} (x F F' : Nat) (ks : Option (Nat × TypeId × List AV)) (g : Bool) (n m : Nat) (c c2 : List AV) (hxF : x ≠ F) (hsm : F < 1000000) (hn : n + m ≤ 1000000000) (hxm : x < 1000000)
  (h : s.box x = some (.mut 77 [.bs F 3 0 n, nilV]) ∧ s.box F = some (.mut 24 c) ∧ (∀ k ek lk, ks = some (k, ek, lk) → k ≠ x ∧ k ≠ F ∧ s.box k = some (.mut ek lk) ∧ refsL lk = []) ∧ (∀ i ∈ refsL args, ∃ k ek lk, ks = some (k, ek, lk) ∧ i = k) ∧
   resDL (frzK ks s.box) args = [.slc g 3 m c2] ∧ refsL c = [] ∧ refsL c2 = [] ∧ c.length = n * 3 ∧ c2.length = m * 3 ∧ ¬ s.used F')
  (hk : K (.ret (.tup [])) ⟨s.env, upd (upd (upd (killBox (keyK ks) s.box) F none) x (some (.mut 77 [.bs F' 3 0 (n + m), nilV]))) F' (some (.mut 24 (c ++ c2))), fun i => i = F' ∨ s.used i⟩) :
  CallG Try.prog (.fn 86 [.bp x 0]) args s K :=
 CallG_add x F F' ks g n m c c2 h.1 h.2.1 hxF hsm h.2.2.1 h.2.2.2.1 h.2.2.2.2.1 h.2.2.2.2.2.1 h.2.2.2.2.2.2.1 h.2.2.2.2.2.2.2.1 h.2.2.2.2.2.2.2.2.1 hn h.2.2.2.2.2.2.2.2.2 hxm hk
end Go.Fw
-- VALS: recAV
namespace Go.Fw
open Go Go.Proofs Go.IntWalk
set_option linter.unusedSimpArgs false
set_option maxRecDepth 100000
set_option maxHeartbeats 2000000
open List (map_take map_drop)
attribute [local push_cast] optK_some optK_none optK_ite optK_map optK_bind gOn stepK isMem evPure evMem evBin evUn evConv evLen evBuiltin evMinMax evSlice evBuild evAppend evIndex evIndexAddr evField evFieldAddr intBin strBin appDest AS.val AS.mem AS.elems AS.put AS.put' AS.eff AV.cells? AV.isCell AV.refs all_isByte take_byteV drop_byteV strOf_map bndOk bnd partAV ptrAdd killBox catA inOrder fillA setAt ofVal resB upd byteV List.head?_take List.head?_drop List.getElem?_map mkS_env mkS_box mkS_used entry_env entry_box entry_used lk stepD lookIds Oper.looksAt Op.operands Call.operands St.ids refsL renL_append dV_take dV_drop ren renL renBox Box.refs iV i64V boolV dV_getElem dV_app dV_cons toNat_add2 toNat_add1
def partS (L : List Rec) : Option (List Nat) → Nat → Option (List Rec × Nat)
 | some ks, a => rowS L a ks
 | none, a => transS L a
def catS (L : List Rec) : List (Option (List Nat)) → Nat → Option (List Rec × Nat)
 | [], a => some ([], a)
 | p :: ps, a => match partS L p a with
  | none => none
  | some (r, a') => match catS L ps a' with
   | none => none
   | some (r', a'') => some (r ++ r', a'')
def itemParts (k : UInt8) : List (Option (List Nat)) :=
 if k = 8 then [some [13, 14, 16]] else if k = 9 then [some [13, 14, 289, 271, 304, 305, 16]] else if k = 10 then [some [18], none, some [16]] else if k = 11 then [some [18], none, some [19, 16]] else
 if k = 12 then [some [13, 22, 279, 289, 271], none, some [16, 25]] else if k = 21 then [some [13, 42, 16]] else if k = 45 then [some [13, 46, 16]] else []
theorem seesS_lt {L : List Rec} {a : Nat} {ks : List UInt8} (h : seesS L a ks = true) : a < L.length := by
 unfold seesS at h
 cases hx : L[a]? with
 | none => rw [hx] at h; cases h
 | some r => exact (List.getElem?_eq_some_iff.1 hx).1
theorem transS_le {L : List Rec} {a : Nat} {p : List Rec × Nat} (h : transS L a = some p) (ha : a ≤ L.length) : p.2 ≤ L.length ∧ p.2 = a + p.1.length := by
 unfold transS at h
 split at h
 · exact rowS_le h ha
 · cases h; exact ⟨ha, rfl⟩
theorem partS_le {L : List Rec} {q : Option (List Nat)} {a : Nat} {p : List Rec × Nat} (h : partS L q a = some p) (ha : a ≤ L.length) : p.2 ≤ L.length ∧ p.2 = a + p.1.length := by
 cases q with
 | none => exact transS_le h ha
 | some ks => exact rowS_le h ha
theorem rowS_one (L : List Rec) (a k : Nat) (hk : k < 256) : rowS L a [k] = (mustS L a (UInt8.ofNat k)).map fun r => ([r], a + 1) := by
 rw [rowS_cons, if_pos (.inl hk)]
 cases mustS L a (UInt8.ofNat k) <;> rfl
def propsF (L : List Rec) : Nat → Nat → Option (List Rec × Nat)
 | 0, a => some ([], a)
 | f + 1, a => if seesS L a [0x2b] = true then match rowS L a [43, 44] with
   | none => none
   | some (r, a') => (propsF L f a').map fun p => (r ++ p.1, p.2)
  else some ([], a)
def propsS (L : List Rec) (a : Nat) : Option (List Rec × Nat) := propsF L (L.length - a) a
theorem propsF_fuel (L : List Rec) : ∀ (f g a : Nat), L.length - a ≤ f → L.length - a ≤ g → propsF L f a = propsF L g a := by
 intro f
 induction f with
 | zero =>
  intro g a h1 h2
  cases g with
  | zero => rfl
  | succ g =>
   rw [propsF, propsF, if_neg]
   intro h
   have := seesS_lt h
   omega
 | succ f ih =>
  intro g a h1 h2
  cases g with
  | zero =>
   rw [propsF, propsF, if_neg]
   intro h
   have := seesS_lt h
   omega
  | succ g =>
   rw [propsF, propsF]
   split
   ·
    rename_i hs
    have hlt := seesS_lt hs
    cases hr : rowS L a [43, 44] with
    | none => rfl
    | some p =>
     obtain ⟨r, a'⟩ := p
     have h3 := rowS_le hr (by omega)
     have h4 : 1 ≤ r.length := by
      rw [rowS_cons, if_pos (.inl (by decide))] at hr
      cases hm : mustS L a (UInt8.ofNat 43) with
      | none => rw [hm] at hr; cases hr
      | some q =>
       rw [hm, rowM] at hr
       cases hq : rowS L (a + 1) [44] with
       | none => rw [hq] at hr; cases hr
       | some t => rw [hq] at hr; cases hr; simp
     simp only at h3
     simp only
     rw [ih g a' (by omega) (by omega)]
   · rfl
theorem propsS_eq (L : List Rec) (a : Nat) : propsS L a = if seesS L a [0x2b] = true then match rowS L a [43, 44] with
   | none => none
   | some (r, a') => (propsS L a').map fun p => (r ++ p.1, p.2)
  else some ([], a) := by
 rw [propsS, propsF_fuel L (L.length - a) (L.length - a + 1) a (Nat.le_refl _) (Nat.le_succ _), propsF]
 split
 ·
  cases hr : rowS L a [43, 44] with
  | none => rfl
  | some p =>
   obtain ⟨r, a'⟩ := p
   rename_i hs
   have hlt := seesS_lt hs
   have h3 := rowS_le hr (by omega)
   simp only at h3
   simp only [propsS]
   rw [propsF_fuel L (L.length - a) (L.length - a') a' (by omega) (Nat.le_refl _)]
 · rfl
abbrev Item := List Rec × List Rec
def endS (L : List Rec) (f : List Rec) (a : Nat) : Option (Item × Nat) := match propsS L a with
 | none => none
 | some (ps, a') => match mustS L a' 0x11 with
  | none => none
  | some _ => some ((f, ps), a' + 1)
def itemS (L : List Rec) (a : Nat) : Option (Item × Nat) := match L[a]? with
 | none => none
 | some r0 => match rowS L a [r0.1.toNat, 294, 303] with
  | none => none
  | some (f0, a1) => match catS L (itemParts r0.1) a1 with
   | none => none
   | some (f1, a2) => endS L (f0 ++ f1) a2
def itemAV (x : Item) : AV := .agg [rowsAV x.1, rowsAV x.2]
def itemKinds : List UInt8 := [8, 9, 10, 11, 12, 21, 45]
theorem recsCells_cat (a b : List Rec) : recsCells a ++ recsCells b = recsCells (a ++ b) := by simp [recsCells]
theorem recsCells_nil : recsCells [] = [] := rfl
theorem recsCells_one (k d : UInt8) (b : List UInt8) : recsCells [(k, d, b)] = [byteV k, byteV d, .slc false 1 b.length (b.map byteV)] := rfl
end Go.Fw
