/- gds: parse. -/
import Derived.Test.YtjgbikhnnkigpaaGp9
set_option linter.unusedSimpArgs false
set_option linter.unusedVariables false
set_option linter.unusedVariables false
set_option linter.unusedSimpArgs false
-- VALS: recAV
namespace Go.Fw
open Go Go.Proofs Go.IntWalk Go.RowKit
set_option linter.unusedSimpArgs false
set_option maxRecDepth 100000
set_option maxHeartbeats 4000000
open List (map_take map_drop)
attribute [local push_cast] optK_some optK_none optK_ite optK_map optK_bind gOn stepK isMem evPure evMem evBin evUn evConv evLen evBuiltin evMinMax evSlice evBuild evAppend evIndex evIndexAddr evField evFieldAddr intBin strBin appDest AS.val AS.mem AS.elems AS.put AS.put' AS.eff AV.cells? AV.isCell AV.refs all_isByte take_byteV drop_byteV strOf_map bndOk bnd partAV ptrAdd killBox catA inOrder fillA setAt ofVal resB upd byteV List.head?_take List.head?_drop List.getElem?_map mkS_env mkS_box mkS_used entry_env entry_box entry_used lk stepD lookIds Oper.looksAt Op.operands Call.operands St.ids refsL renL_append dV_take dV_drop ren renL renBox Box.refs iV i64V boolV dV_getElem dV_app dV_cons toNat_add2 toNat_add1
def noLib : AV := .tup [.agg [nilV, nilV], i64V 20]
def parseS (L : List Rec) : Option Lib := match libS L with
 | none => none
 | some (t, a) => if a = L.length then some t else none
def parseAV (L : List Rec) : AV := match parseS L with
 | some t => .tup [libAV t, i64V 0]
 | none => noLib
theorem libS_le {L : List Rec} {t : Lib} {a : Nat} (h : libS L = some (t, a)) : a ≤ L.length := by
 unfold libS at h
 cases hh : headS L with
 | none => rw [hh] at h; cases h
 | some p =>
  obtain ⟨hd, a1⟩ := p
  rw [hh] at h
  simp only at h
  cases hc : cellsS L a1 with
  | none => rw [hc] at h; cases h
  | some q =>
   obtain ⟨cs, a2⟩ := q
   rw [hc] at h
   simp only at h
   cases hm : mustS L a2 4 with
   | none => rw [hm] at h; cases h
   | some r =>
    rw [hm] at h
    cases h
    exact (mustS_lt hm).1
def parseQ (L : List Rec) : Exit → AS → Prop
 | .normal, s | .ret, s => ∃ t, parseS L = some t ∧ s.box 1000000 = some (.mut 58 [rowsAV t.1, cellsAV t.2]) ∧ s.box 1000001 = some (.mut 29 [i64V 0]) ∧ s.env 2 = .bp 1000000 0 ∧ s.env 3 = .bp 1000001 0
 | .panic pl, s => isWrong pl ∧ parseS L = none ∧ ∃ x y, s.box 1000000 = some (.mut 58 [x, y]) ∧ s.box 1000001 = some (.mut 29 [i64V 0]) ∧ s.env 2 = .bp 1000000 0 ∧ s.env 3 = .bp 1000001 0
 | _, _ => False
theorem methOk_callQ {P : Program} {s : AS} {PP : List PanicEntry → Prop} {fid : FuncId} {args args' : List AV} {id : Nat} {e : TypeId} {l : List AV} (h : MethOk P PP fid args s id none e l none args') {K : Out → AS → Prop}
  (hp : ∀ pl, PP pl → K (.pan pl) (back { s with box := s.box } [id] [])) : CallV P fid args s K := by
 intro C nt M β a w vs hR hS hvs hrep
 have hused : ∀ j ∈ refsL args, s.used j := fun j hj => by
  rcases h.refs j hj with rfl | ⟨k, ek, lk, h1, rfl⟩
  · exact hR.useB j (by rw [h.box]; simp)
  · cases h1
 have hrep1 := (resDL_t hR args vs 0 hrep hused).1
 have hargs : resDL s.box args = renL (fun i => if i = 1000000 then id else i) args' := h.args
 have hcall : CallV P fid (resDL s.box args) s K := by
  refine CallV.boxes args' [(1000000, .mut e l)] (fun i => if i = 1000000 then id else i) hargs ?_ ?_ ?_ ?_ h.meth ?_
  ·
   intro p hp
   simp at hp
   subst hp
   refine ⟨Nat.le_refl _, ?_⟩
   simp only [if_true, renBox]
   rw [h.box, renL_id _ l h.plain]
  ·
   intro p hp q hq _
   simp at hp hq
   rw [hp, hq]
  ·
   intro i hi
   rw [h.refs' i hi]; simp
  ·
   intro p hp i hi
   simp at hp
   subst hp
   simp [Box.refs, h.plain] at hi
  ·
   rintro out s' ⟨pl, rfl, hpl⟩
   exact ⟨[], fun i => i, by simp, by simp, by simp, by simp, by simpa using hp pl hpl⟩
 exact hcall C nt M β a w vs hR hS (by rw [hvs, resDL_length]) hrep1
theorem CallG_methQ {P : Program} {s : AS} {PP : List PanicEntry → Prop} {fid : FuncId} {caps args args' : List AV} {id : Nat} {ks : Option (Nat × TypeId × List AV)} {e : TypeId} {l : List AV} (h : MethOk P PP fid (args ++ caps) s id ks e l none args') {K : Out → AS → Prop}
  (hp : ∀ pl, PP pl → K (.pan pl) (back { s with box := s.box } [id] [])) (hks : ks = none := by rfl) : CallG P (.fn fid caps) args s K := by
 subst hks
 exact methOk_callQ h hp
theorem parse_rest (f : Bool) (L : List Rec) (D : List Deferred) (hL : L.length ≤ 100000000) (hbody : ∀ r ∈ L, r.2.2.length ≤ 9223372036854775807) {x y rest : Code} (hb : Try.f59.body = some (.seq x (.seq y rest))) :
  W Try.prog ⟨23, D, none⟩ rest (mkS [(0, .slc f 3 L.length (recsCells L)), (2, .bp 1000000 0), (3, .bp 1000001 0)] [(1000000, .mut 58 [nilV, nilV]), (1000001, .mut 29 [i64V 0])]) (parseQ L) := by
 cases hb
 have hlib := lib_ok f L hL hbody
 have hpr : ∀ a, refsL (parC f L a) = [] := fun a => by simp [parC, refsL, AV.refs, i64V, recsCells_refs]
 have hlen := recsCells_len L
 cases hr : libS L with
 | none =>
  rw [hr] at hlib
  have hnone : parseS L = none := by rw [parseS, hr]
  repeat' (first
   | with_reducible first | apply thenW_n | apply W_seq
   | with_reducible refine W_rg ?_
   | (rw [vcn]; (try simp [push_cast, nilV]))
   | fail)
  refine CallG_methQ (id := 9) (ks := none) (args' := [.bp 1000000 0]) (methMk (hlib) ?_) ?_
  · refine ⟨?_, ?_, ?_, ?_, fun _ _ _ h_ => ?_, ?_, ?_, fun _ _ h_ => ?_⟩ <;> (try cases h_) <;> (try simp [natAV, frzK, resDL, resD, entryB_env, entryB_box, refsL_bytes, recAV, push_cast, hpr, parC, recsCells_refs]) <;> first | rfl | (rw [List.take_of_length_le (by simp)]; done)
  try dsimp only
  intro pl hpl
  (repeat' (with_reducible first | apply thenW_panic | apply blockW_panic | apply loopW_panic | apply joinW_panic))
  exact ⟨hpl, hnone, nilV, nilV, by simp [back, lk, upd, mkS_box, nilV], by simp [back, lk, upd, mkS_box, i64V], by simp [back, upd, mkS_env, lk], by simp [back, upd, mkS_env, lk]⟩
 | some p =>
  obtain ⟨t, a⟩ := p
  obtain ⟨H, cs⟩ := t
  rw [hr] at hlib
  have ha := libS_le hr
  by_cases hae : a = L.length
  ·
   have hsome : parseS L = some (H, cs) := by rw [parseS, hr]; simp only; rw [if_pos hae]
   have g1 : ((a : Int) < (L.length : Int)) = False := eq_false (by omega)
   have g1' : (a < L.length) = False := eq_false (by omega)
   repeat' (first
    | with_reducible first | apply thenW_n | apply W_seq
    | with_reducible refine W_rg ?_
    | (rw [vcn]; (try simp [push_cast, nilV]))
    | fail)
   refine CallG_meth (id := 9) (ks := none) (args' := [.bp 1000000 0]) (methMk (hlib) ?_) ?_
   · refine ⟨?_, ?_, ?_, ?_, fun _ _ _ h_ => ?_, ?_, ?_, fun _ _ h_ => ?_⟩ <;> (try cases h_) <;> (try simp [natAV, frzK, resDL, resD, entryB_env, entryB_box, refsL_bytes, recAV, push_cast, hpr, parC, recsCells_refs, libAV, rowsAV, cellsAV]) <;> first | rfl | (rw [List.take_of_length_le (by simp)]; done)
   try dsimp only
   repeat' (first
    | with_reducible first | apply thenW_n | apply W_seq | apply W_skip | apply W_ret
    | with_reducible refine W_rg ?_
    | (rw [vcn]; (try simp [push_cast, keyK, nilV, parC, g1, g1', libAV]))
    | (with_reducible refine W_condW ?_; (try simp [AS.val, upd, resB, mkS_env, mkS_box, lk, entry_env, condW_true, condW_false, keyK, nilV, parC, g1, g1', libAV]))
    | fail)
   exact ⟨(H, cs), hsome, by simp [upd], by simp [upd, i64V], by simp [upd, mkS_env, lk], by simp [upd, mkS_env, lk]⟩
  ·
   have hnone : parseS L = none := by rw [parseS, hr]; simp only; rw [if_neg hae]
   have g1 : ((a : Int) < (L.length : Int)) = True := eq_true (by omega)
   have g1' : (a < L.length) = True := eq_true (by omega)
   repeat' (first
    | with_reducible first | apply thenW_n | apply W_seq
    | with_reducible refine W_rg ?_
    | (rw [vcn]; (try simp [push_cast, nilV]))
    | fail)
   refine CallG_meth (id := 9) (ks := none) (args' := [.bp 1000000 0]) (methMk (hlib) ?_) ?_
   · refine ⟨?_, ?_, ?_, ?_, fun _ _ _ h_ => ?_, ?_, ?_, fun _ _ h_ => ?_⟩ <;> (try cases h_) <;> (try simp [natAV, frzK, resDL, resD, entryB_env, entryB_box, refsL_bytes, recAV, push_cast, hpr, parC, recsCells_refs, libAV, rowsAV, cellsAV]) <;> first | rfl | (rw [List.take_of_length_le (by simp)]; done)
   try dsimp only
   repeat' (first
    | with_reducible first | apply thenW_n | apply thenW_panic | apply W_seq
    | with_reducible refine W_rg ?_
    | (rw [vcn]; (try simp [push_cast, keyK, nilV, parC, g1, g1', libAV]))
    | (with_reducible refine W_condW ?_; (try simp [AS.val, upd, resB, mkS_env, mkS_box, lk, entry_env, condW_true, condW_false, keyK, nilV, parC, g1, g1', libAV]))
    | fail)
   exact ⟨rfl, hnone, rowsAV H, cellsAV cs, by simp [upd], by simp [upd, mkS_box, lk, i64V], by simp [upd, mkS_env, lk], by simp [upd, mkS_env, lk]⟩
theorem parse_first {x y rest : Code} (A : AV) (hA : A.refs = []) (hb : Try.f59.body = some (.seq x (.seq y rest))) :
  W Try.prog 23 x (entry [A]) (fun e s' => e = .normal ∧ s'.box 2 = some (.mut 58 [nilV, nilV]) ∧ s'.box 3 = some (.mut 29 [i64V 0]) ∧ s'.env 0 = A ∧ s'.env 2 = .bp 2 0 ∧ s'.env 3 = .bp 3 0) := by
 cases hb
 repeat' (first
  | with_reducible refine W_rg ?_
  | (rw [vcn]; (try simp [push_cast, nilV]))
  | fail)
theorem parse_ok (f : Bool) (L : List Rec) (hL : L.length ≤ 100000000) (hbody : ∀ r ∈ L, r.2.2.length ≤ 9223372036854775807) : Eval Try.prog 59 [.slc f 3 L.length (recsCells L)] (.ret (parseAV L)) := by
 obtain ⟨x, y, rest, hb⟩ : ∃ x y rest, Try.f59.body = some (.seq x (.seq y rest)) := ⟨_, _, _, rfl⟩
 obtain ⟨A, hA⟩ : ∃ A, A = AV.slc f 3 L.length (recsCells L) := ⟨_, rfl⟩
 have hAr : A.refs = [] := by rw [hA]; rfl
 rw [← hA]
 intro M w vs hM hvs hrep
 refine .inl ⟨Try.call59, ?_⟩
 refine calls_of_wp_defers Try.func59 hb ?_
 obtain ⟨hR, hS⟩ := entry_ok (n := Try.f59.ntmps) hM hvs (Nat.le_of_ble_eq_true rfl) (by simp [refsL, hAr]) hrep
 refine wp_seq (wp_mono ((wpIn_wide (n := 0)).1 (parse_first A hAr hb _ M noLoc _ w hR hS)) ?_)
 rintro e a1 w1 ⟨s1, M1, β1, ⟨rfl, q2, q3, p0, p2, p3⟩, hR1, hS1⟩
 have sl0 := hS1.slot 0
 have sl2 := hS1.slot 2
 have sl3 := hS1.slot 3
 rw [p0] at sl0
 rw [p2] at sl2
 rw [p3] at sl3
 obtain ⟨b2, z2, k2, t2⟩ := sl2
 obtain ⟨b3, z3, k3, t3⟩ := sl3
 have hrest := fun D => parse_rest f L D hL hbody hb
 have hsz : a1.tmps.size = 23 := hS1.size
 have hdf : a1.defers = [] := hS1.dfr
 show Code.wp Try.prog (.seq y rest) _ a1 w1
 refine wp_seq ?_
 cases hb
 apply wp_region
 simp [wpOps, go_sem, t2, t3, hsz, hdf]
 refine Or.inl (Or.inl ?_)
 obtain ⟨D, hD⟩ : ∃ D : Deferred, D = { target := .fn (Fn.func 69) #[.pointer (some ⟨b2, 0, none⟩), .pointer (some ⟨b3, 0, none⟩)], args := #[] } := ⟨_, rfl⟩
 rw [← hD]
 obtain ⟨T, hT⟩ : ∃ T, T = a1.tmps.setIfInBounds 5 (.func (Fn.func 69) #[] #[.pointer (some ⟨b2, 0, none⟩), .pointer (some ⟨b3, 0, none⟩)]) := ⟨_, rfl⟩
 rw [← hT]
 -- the two boxes
 obtain ⟨cs2, hc2, fz2, hh2, hf2, hz2, hM2, hw2⟩ : ∃ cs, z2 = cs.size ∧ ∃ fz, w1.heap[b2]? = some (.cells cs 58 fz) ∧ Free cs.size fz ∧ RepAt M1 β1 [nilV, nilV] cs 0 ∧ M1 b2 = none ∧ w.heap.size ≤ b2 := by
  rcases hR1.mutb 2 _ _ q2 with ⟨h1, _⟩ | ⟨b, cs, h1, ⟨fz, h2, h3⟩, h4, h5, h6, h7⟩
  · rw [h1] at k2; cases k2
  ·
   rw [h1] at k2
   cases k2
   exact ⟨cs, rfl, fz, h2, h3, h4, h6, by simpa using h7⟩
 obtain ⟨cs3, hc3, fz3, hh3, hf3, hz3, hM3, hw3⟩ : ∃ cs, z3 = cs.size ∧ ∃ fz, w1.heap[b3]? = some (.cells cs 29 fz) ∧ Free cs.size fz ∧ RepAt M1 β1 [i64V 0] cs 0 ∧ M1 b3 = none ∧ w.heap.size ≤ b3 := by
  rcases hR1.mutb 3 _ _ q3 with ⟨h1, _⟩ | ⟨b, cs, h1, ⟨fz, h2, h3⟩, h4, h5, h6, h7⟩
  · rw [h1] at k3; cases k3
  ·
   rw [h1] at k3
   cases k3
   exact ⟨cs, rfl, fz, h2, h3, h4, h6, by simpa using h7⟩
 have hne : b2 ≠ b3 := fun h => by
  subst h
  have := hR1.inj 2 3 _ _ _ _ b2 _ _ q2 q3 k2 k3
  cases this
 obtain ⟨β0, hβ0⟩ : ∃ β0 : Loc, β0 = fun i => if i = 1000000 then some (b2, z2) else if i = 1000001 then some (b3, z3) else none := ⟨_, rfl⟩
 have hb0 : β0 1000000 = some (b2, z2) := by rw [hβ0]; simp
 have hb1 : β0 1000001 = some (b3, z3) := by rw [hβ0]; simp
 have hbox : ∀ i B, lk [(1000000, Box.mut 58 [nilV, nilV]), (1000001, .mut 29 [i64V 0])] i = some B → i = 1000000 ∧ B = .mut 58 [nilV, nilV] ∨ i = 1000001 ∧ B = .mut 29 [i64V 0] := fun i B hi => by
  have := lk_mem hi
  simp at this
  exact this
 have hR2 : Rel ⟨w1, M1, [b2, b3], β0⟩ M1 β0 (mkS [(0, A), (2, .bp 1000000 0), (3, .bp 1000001 0)] [(1000000, .mut 58 [nilV, nilV]), (1000001, .mut 29 [i64V 0])]) w1 := by
  refine { mem := hR1.mem, le := MemLe.refl M1, mnew := fun b hb => absurd rfl hb, refB := ?_, useB := ?_, mutb := ?_, frzb := ?_, frzr := ?_, inj := ?_, os := rfl, tape := rfl, output := rfl, size := Nat.le_refl _, keep := fun _ _ _ => rfl, pin := fun i h => ⟨.inr h, rfl⟩ }
  ·
   intro i e l hi j hj
   rcases hbox i _ hi with ⟨_, h⟩ | ⟨_, h⟩ <;> cases h <;> simp [refsL, AV.refs, nilV, i64V] at hj
  ·
   intro i hi
   simp only [mkS] at hi
   cases hx : lk [(1000000, Box.mut 58 [nilV, nilV]), (1000001, .mut 29 [i64V 0])] i with
   | none => exact absurd hx hi
   | some B =>
    rcases hbox i _ hx with ⟨rfl, _⟩ | ⟨rfl, _⟩
    · exact .inr (by decide)
    · exact .inr (by decide)
  ·
   intro i e l hi
   rcases hbox i _ hi with ⟨rfl, h⟩ | ⟨rfl, h⟩
   ·
    cases h
    exact .inr ⟨b2, cs2, by rw [hb0, hc2], ⟨fz2, hh2, hf2⟩, RepAt.mono (MemLe.refl M1) _ _ _ (fun j hj => by simp [refsL, AV.refs, nilV] at hj) hz2, by
     have := hz2.le (by simp)
     simpa using this, hM2, .inr (by simp)⟩
   ·
    cases h
    exact .inr ⟨b3, cs3, by rw [hb1, hc3], ⟨fz3, hh3, hf3⟩, RepAt.mono (MemLe.refl M1) _ _ _ (fun j hj => by simp [refsL, AV.refs, i64V] at hj) hz3, by
     have := hz3.le (by simp)
     simpa using this, hM3, .inr (by simp)⟩
  ·
   intro i l hi
   rcases hbox i _ hi with ⟨_, h⟩ | ⟨_, h⟩ <;> cases h
  ·
   intro i l hi
   rcases hbox i _ hi with ⟨_, h⟩ | ⟨_, h⟩ <;> cases h
  ·
   intro i j e e' l l' b n n' hi hj hbi hbj
   rcases hbox i _ hi with ⟨rfl, _⟩ | ⟨rfl, _⟩ <;> rcases hbox j _ hj with ⟨rfl, _⟩ | ⟨rfl, _⟩
   · rfl
   · rw [hb0] at hbi; rw [hb1] at hbj; cases hbi; cases hbj; exact absurd rfl hne
   · rw [hb1] at hbi; rw [hb0] at hbj; cases hbi; cases hbj; exact absurd rfl hne
   · rfl
 have hTne : ∀ t, t ≠ 5 → T.getD t undef = a1.tmps.getD t undef := fun t ht => by
  rw [hT, Array.getD_eq_getD_getElem?, Array.getElem?_setIfInBounds_ne (Ne.symm ht), ← Array.getD_eq_getD_getElem?]
 have hS2 : Slots ⟨23, [D], none⟩ M1 β0 (mkS [(0, A), (2, .bp 1000000 0), (3, .bp 1000001 0)] [(1000000, .mut 58 [nilV, nilV]), (1000001, .mut 29 [i64V 0])]) { tmps := T, defers := [D] } := by
  refine ⟨rfl, by rw [hT]; simpa using hsz, fun t => ?_, fun t id hid => ?_⟩
  ·
   by_cases h0 : t = 0
   ·
    subst h0
    rw [show (mkS [(0, A), (2, AV.bp 1000000 0), (3, .bp 1000001 0)] [(1000000, Box.mut 58 [nilV, nilV]), (1000001, .mut 29 [i64V 0])]).env 0 = A from rfl, hTne 0 (by decide)]
    exact noRefs_rep sl0 hAr _
   ·
    by_cases h2 : t = 2
    ·
     subst h2
     rw [hTne 2 (by decide), t2]
     exact ⟨b2, z2, hb0, rfl⟩
    ·
     by_cases h3 : t = 3
     ·
      subst h3
      rw [hTne 3 (by decide), t3]
      exact ⟨b3, z3, hb1, rfl⟩
     ·
      have : (mkS [(0, A), (2, AV.bp 1000000 0), (3, .bp 1000001 0)] [(1000000, Box.mut 58 [nilV, nilV]), (1000001, .mut 29 [i64V 0])]).env t = .junk := by
       have e0 : ¬ 0 = t := fun h => h0 h.symm
       have e2 : ¬ 2 = t := fun h => h2 h.symm
       have e3 : ¬ 3 = t := fun h => h3 h.symm
       simp [mkS, lk, e0, e2, e3]
      rw [this]
      trivial
  ·
   simp only [mkS, lk] at hid
   refine .inr ?_
   split at hid
   · simp only [Option.getD_some] at hid; rw [hAr] at hid; cases hid
   ·
    split at hid
    · simp [AV.refs] at hid; omega
    ·
     split at hid
     · simp [AV.refs] at hid; omega
     · simp [AV.refs] at hid
 subst hA
 have hfin := (wpIn_wide (n := 0)).1 (hrest [D] _ M1 β0 _ w1 hR2 hS2)
 refine wp_mono hfin ?_
 rintro e a3 w3 ⟨s3, M3, β3, hq, hR3, hS3⟩
 have hdfr : a3.defers = [D] := hS3.dfr
 have hMb : ∀ b, b < w.heap.size → M3 b = M b := fun b hb => by
  have h1 : M3 b = M1 b := by
   by_cases h : M3 b = M1 b
   · exact h
   ·
    rcases hR3.mnew b h with h2 | h2
    · exact absurd (Nat.lt_of_lt_of_le hb hR1.size) (by simpa using h2)
    ·
     simp at h2
     omega
  have h2 : M1 b = M b := by
   by_cases h : M1 b = M b
   · exact h
   ·
    rcases hR1.mnew b h with h2 | h2
    · exact absurd hb (by simpa using h2)
    · cases h2
  rw [h1, h2]
 have hbel : Below w.heap.size w w3 := by
  refine ⟨hR3.os.trans hR1.os, hR3.tape.trans hR1.tape, hR3.output.trans hR1.output, Nat.le_trans hR1.size hR3.size, fun k hk => ?_⟩
  rw [hR3.keep k (Nat.lt_of_lt_of_le hk hR1.size) (by simp; omega)]
  exact hR1.keep k hk (by simp)
 have hle : MemLe M M3 := hR1.le.trans hR3.le
 have inv : ∀ w' : World, (invoke (.fn (Fn.func 69) #[.pointer (some ⟨b2, 0, none⟩), .pointer (some ⟨b3, 0, none⟩)]) #[]).run Try.prog w' = .ok (.enter 69 #[.pointer (some ⟨b2, 0, none⟩), .pointer (some ⟨b3, 0, none⟩)]) w' := fun w' => by
  simp [go_sem]
 have hret : parseQ L .ret s3 → Leaves Try.prog Try.f59 a3.tmps (fun e w' => ∃ M', MemLe M M' ∧ MemOk M' w' ∧ (∀ b, b < w.heap.size → M' b = M b) ∧ Below w.heap.size w w' ∧ EndO M' w' w.heap.size (.ret (parseAV L)) e) a3.defers .returning w3 := by
  rintro ⟨t, h1, h2, h3, h4, h5⟩
  rw [hdfr, hD]
  refine leaves_cons (f := 69) (args := #[.pointer (some ⟨b2, 0, none⟩), .pointer (some ⟨b3, 0, none⟩)]) (by simp) (inv w3) ?_
  refine (clo_idle b2 b3 w3).mono ?_
  rintro e' u' w' ⟨rfl, rfl, rfl⟩
  have hr : resAV Try.prog s3 Try.f59.results.toList = some (.tup [libAV t, i64V 0]) := by
   simp [resAV, resAll, resOne, AS.val, AS.mem, h4, h5, resB, h2, h3, partAV, libAV, i64V, rowsAV, cellsAV]
  obtain ⟨yv, y1, y2⟩ := results_ok (P := Try.prog) hR3 hS3 hr
  refine ⟨yv, y1, M3, hle, hR3.mem, hMb, hbel, [], ?_, List.nodup_nil, fun b hb => by cases hb⟩
  rw [parseAV, h1]
  obtain ⟨vs, e1, e2, ⟨⟨z1, g1, g2⟩, ⟨z2', g3, g4⟩, _⟩⟩ := y2.rep
  exact ⟨vs, e1, e2, z1, [], [], g1, ⟨noRefs_rep g2 rfl _, rfl, rfl⟩, ⟨z2', [], [], g3, ⟨noRefs_rep g4 rfl _, rfl, rfl⟩, rfl, rfl⟩, rfl⟩
 cases e with
 | ret => exact hret hq
 | normal => exact hret hq
 | panic pl =>
  obtain ⟨hpl, hnone, x, y, h2, h3, h4, h5⟩ := hq
  obtain rfl : pl = [{ v := .iface 104 (.agg #[]), recovered := false }] := hpl
  show Leaves Try.prog Try.f59 a3.tmps _ a3.defers _ w3
  rw [hdfr, hD]
  refine leaves_cons (f := 69) (args := #[.pointer (some ⟨b2, 0, none⟩), .pointer (some ⟨b3, 0, none⟩)]) (by simp) (inv w3) ?_
  have p2 : β3 1000000 = some (b2, z2) := (hR3.pin 1000000 (Nat.le_refl _)).2.trans hb0
  have p3 : β3 1000001 = some (b3, z3) := (hR3.pin 1000001 (by decide)).2.trans hb1
  obtain ⟨cb2, fb2, kh2, kf2, kz2, km2⟩ : ∃ cs fz, w3.heap[b2]? = some (.cells cs 58 fz) ∧ Free cs.size fz ∧ 2 ≤ cs.size ∧ M3 b2 = none := by
   rcases hR3.mutb _ _ _ h2 with ⟨g1, _⟩ | ⟨b, cs, g1, ⟨fz, g2, g3⟩, g4, g5, g6, g7⟩
   · rw [g1] at p2; cases p2
   ·
    rw [g1] at p2
    cases p2
    exact ⟨cs, fz, g2, g3, by simpa using g5, g6⟩
  obtain ⟨cb3, fb3, kh3, kf3, kz3, km3⟩ : ∃ cs fz, w3.heap[b3]? = some (.cells cs 29 fz) ∧ Free cs.size fz ∧ 1 ≤ cs.size ∧ M3 b3 = none := by
   rcases hR3.mutb _ _ _ h3 with ⟨g1, _⟩ | ⟨b, cs, g1, ⟨fz, g2, g3⟩, g4, g5, g6, g7⟩
   · rw [g1] at p3; cases p3
   ·
    rw [g1] at p3
    cases p3
    exact ⟨cs, fz, g2, g3, by simpa using g5, g6⟩
  refine (clo_pan b2 b3 w3 cb2 cb3 fb2 fb3 kh2 kh3 kf2 kf3 kz2 kz3 hne).mono ?_
  rintro e' u' w' ⟨rfl, rfl, r1, r2, r3, roth, ros, rtape, rout, rsz⟩
  simp only [settle, List.dropWhile_nil]
  have sl2 := hS3.slot 2
  have sl3 := hS3.slot 3
  rw [h4] at sl2
  rw [h5] at sl3
  have q2' : a3.tmps.getD 2 undef = .pointer (some ⟨b2, 0, none⟩) := by
   obtain ⟨b, z, g1, g2⟩ := sl2
   rw [p2] at g1
   cases g1
   exact g2
  have q3' : a3.tmps.getD 3 undef = .pointer (some ⟨b3, 0, none⟩) := by
   obtain ⟨b, z, g1, g2⟩ := sl3
   rw [p3] at g1
   cases g1
   exact g2
  have hrun : (results Try.f59 a3.tmps).run Try.prog w' = .ok (.tuple #[.agg #[.slice none 0 0, .slice none 0 0], .int .i64 20]) w' := by
   rw [Array.getD_eq_getD_getElem?] at q2' q3'
   simp [results, go_sem, q2', q3', r1, r2, r3]
  refine ⟨_, hrun, M3, hle, ?_, hMb, ?_, [], ?_, List.nodup_nil, fun b hb => by cases hb⟩
  ·
   intro b cs hb
   obtain ⟨ty, fz, hh⟩ := hR3.mem b cs hb
   refine ⟨ty, fz, ?_⟩
   rw [roth b (heap_lt hh) (fun h => by rw [h, km2] at hb; cases hb) (fun h => by rw [h, km3] at hb; cases hb)]
   exact hh
  ·
   refine ⟨ros.trans hbel.os, rtape.trans hbel.tape, rout.trans hbel.output, Nat.le_trans hbel.size rsz, fun k hk => ?_⟩
   rw [roth k (Nat.lt_of_lt_of_le hk hbel.size) (by omega) (by omega)]
   exact hbel.block k hk
  ·
   rw [parseAV, hnone]
   refine ⟨_, rfl, rfl, _, [], [], rfl, ⟨⟨_, rfl, rfl, ⟨_, rfl, rfl, rfl, rfl⟩, ⟨_, rfl, rfl, rfl, rfl⟩, trivial⟩, rfl, rfl⟩, ⟨_, [], [], rfl, ⟨⟨rfl, rfl⟩, rfl, rfl⟩, rfl, rfl⟩, rfl⟩
 | exit id => exact hq.elim
 | goto l => exact hq.elim
 | outgrown => exact hq.elim
end Go.Fw
