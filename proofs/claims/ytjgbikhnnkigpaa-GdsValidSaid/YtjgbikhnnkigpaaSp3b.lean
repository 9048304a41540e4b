import Derived.Test.YtjgbikhnnkigpaaQ4b
import Derived.Test.YtjgbikhnnkigpaaNbb
import Derived.Test.YtjgbikhnnkigpaaSp1b
set_option linter.unusedSimpArgs false
set_option linter.unusedVariables false
-- VALS: recAV
namespace Go.Fw
open Go Go.Proofs Go.IntWalk
set_option linter.unusedSimpArgs false
set_option maxRecDepth 100000
set_option maxHeartbeats 2000000
open List (map_take map_drop)
attribute [local push_cast] optK_some optK_none optK_ite optK_map optK_bind gOn stepK isMem evPure evMem evBin evUn evConv evLen evBuiltin evMinMax evSlice evBuild evAppend evIndex evIndexAddr evField evFieldAddr intBin strBin appDest AS.val AS.mem AS.elems AS.put AS.put' AS.eff AV.cells? AV.isCell AV.refs all_isByte take_byteV drop_byteV strOf_map bndOk bnd partAV ptrAdd killBox catA inOrder fillA setAt ofVal resB upd byteV List.head?_take List.head?_drop List.getElem?_map mkS_env mkS_box mkS_used entry_env entry_box entry_used lk stepD lookIds Oper.looksAt Op.operands Call.operands St.ids refsL renL_append dV_take dV_drop ren renL renBox Box.refs iV i64V boolV dV_getElem dV_app dV_cons toNat_add2 toNat_add1
def refInv (bs : List UInt8) (x : List Rec × Nat) : Prop := if (x.1.getLast?).map (·.1) = some 4 then recs bs = .ok (x.1, bs.drop x.2) else recs bs = preR x.1 (recs (bs.drop x.2))
theorem refSplit_ok (f : Bool) (bs : List UInt8) (hs : bs.length ≤ 50000000) : Eval Try.prog 20 [.slc f 1 bs.length (bs.map byteV)] (.ret (splitAV bs)) := by
  refine Eval.intro Try.func20 rfl Try.call20 _ _ (Nat.le_of_ble_eq_true rfl) (by simp [natAV, recAV, push_cast]) fun hs0 => ?_
  obtain ⟨out, hout⟩ : ∃ out, out = splitAV bs := ⟨_, rfl⟩
  rw [← hout]
  obtain ⟨n, hn⟩ : ∃ n, n = bs.length := ⟨_, rfl⟩
  obtain ⟨L, hL⟩ : ∃ L, L = bs.map byteV := ⟨_, rfl⟩
  have hLr : refsL L = [] := by rw [hL]; exact refsL_bytes bs
  have hLl : L.length = n := by rw [hL, hn]; simp
  have hLat : ∀ i, i < n → L[i]? = some (byteV (bs.getD i 0)) := fun i hi => by
    rw [hL, List.getElem?_map, List.getElem?_eq_getElem (by omega), List.getD_eq_getElem?_getD, List.getElem?_eq_getElem (by omega)]
    rfl
  rw [← hL, ← hn] at ⊢
  rw [← hn] at hs
  by_cases h1 : 16777216 < n
  · have g1 : ((16777216 : Int) < (n : Int)) = True := by simp; omega
    have hsp : out = .tup [.v (.slice none 0 0), i64V 0, i64V 2] := by rw [hout, splitAV, splitSpec, if_pos (by omega)]
    repeat' (first
      | with_reducible first | apply thenW_n | apply thenW_ret | apply W_seq | apply W_ret
      | with_reducible refine W_region (by first | decide | (with_unfolding_all rfl)) ?_
      | (rw [vcn]; (try simp [push_cast, g1]))
      | (with_reducible refine W_condW ?_; (try simp [AS.val, upd, resB, mkS_env, mkS_box, lk, entry_env, condW_true, condW_false, g1]))
      | fail)
    simp [post, resAV, resAll, resOne, closeV, closeC, closeL, resD, resDL, push_cast, hsp]
  have g1 : ((16777216 : Int) < (n : Int)) = False := by simp; omega
  repeat' (first
    | with_reducible first | apply thenW_n | apply W_seq | apply W_block | apply W_skip
    | with_reducible refine W_region (by first | decide | (with_unfolding_all rfl)) ?_
    | (rw [vcn]; (try simp [push_cast, g1]))
    | (with_reducible refine W_condW ?_; (try simp [AS.val, upd, resB, mkS_env, mkS_box, lk, entry_env, condW_true, condW_false, g1]))
    | fail)
  refine W_nil 5 500 24 3 (by simp [upd, mkS_env, entry_env, lk]) (by simp [mkS_used, entry_used]) ?_
  refine W_loopW (X := List Rec × Nat) (fun x => [(0, .slc f 1 n L), (5, .bs 500 3 0 x.1.length), (6, i64V x.2)]) (fun x => [(500, .mut 24 (recsCells x.1))]) (fun x => n - x.2)
    (fun x => x.2 ≤ n ∧ x.1.length * 4 ≤ x.2 ∧ refInv bs x) ([], 0) id ⟨Nat.zero_le _, Nat.zero_le _, by simp [refInv]; cases recs bs <;> rfl⟩ ⟨?_, ?_, ?_, ?_, ?_, ?_⟩ fun x hx => ?_
  all_goals first | (with_reducible refine W_id ?_) | (simp [push_cast, hLr, recsCells]; done)
  obtain ⟨acc, at_⟩ := x
  obtain ⟨ha, hal, hI⟩ := hx
  simp only at ha hal hI
  have hacl := recsCells_len acc
  have hacr := recsCells_refs acc
  obtain ⟨R, hR⟩ : ∃ R, R = recsCells acc := ⟨_, rfl⟩
  obtain ⟨k, hk⟩ : ∃ k, k = acc.length := ⟨_, rfl⟩
  rw [← hR] at hacr
  rw [← hR, ← hk] at hacl
  rw [← hk] at hal
  simp only [← hR, ← hk]
  by_cases h4 : (acc.getLast?).map (·.1) = some 4
  · obtain ⟨j, hj⟩ : ∃ j, k = j + 1 := by
      rcases k with _ | j
      · rw [List.eq_nil_of_length_eq_zero hk.symm] at h4; cases h4
      · exact ⟨j, rfl⟩
    obtain ⟨t, ht⟩ := recsCells_at acc j (by omega)
    have hlast : acc[j].1 = 4 := by
      have e : acc.getLast? = some acc[j] := by
        rw [List.getLast?_eq_getElem?, show acc.length - 1 = j from by omega, List.getElem?_eq_getElem (by omega)]
      rw [e] at h4
      simpa using h4
    rw [← hR, hlast] at ht
    have g2 : ((k : Int) = 0) = False := eq_false (by omega)
    have g2' : (k = 0) = False := eq_false (by omega)
    have w1 : IntKind.i64.wrap ((k : Int) - 1) = (j : Int) := by rw [i64_in _ (by omega)]; omega
    have g3 : j < k := by omega
    have hrec : recs bs = .ok (acc, bs.drop at_) := by rw [refInv, if_pos h4] at hI; exact hI
    repeat' (first
      | with_reducible first | apply thenW_n | apply thenW_exit | apply blockW_same | apply loopW_exit | apply W_seq | apply W_block | apply W_exit
      | with_reducible refine W_region (by first | decide | (with_unfolding_all rfl)) ?_
      | (rw [vcn]; (try simp [push_cast, g2, g2', w1, g3, ht, hacl]))
      | (with_reducible refine W_condW ?_; (try simp [AS.val, upd, resB, mkS_env, mkS_box, lk, entry_env, condW_true, condW_false, g2, g2', w1, g3, ht, hacl]))
      | fail)
    have htk : List.take (k * 3) R = R := List.take_of_length_le (by omega)
    refine W_frz 500 (e := 24) (l := R) (by simp [mkS_box, lk]) hacr ?_
    refine W_loopW (X := Nat) (fun i => [(0, .slc f 1 n L), (5, .slc false 3 k R), (6, i64V at_), (8, i64V i)]) (fun _ => []) (fun i => n - i) (fun i => at_ ≤ i ∧ i ≤ n ∧ ∀ j, at_ ≤ j → j < i → bs.getD j 0 = 0) at_ id
      ⟨Nat.le_refl _, ha, fun j h1 h2 => absurd h1 (by omega)⟩ ⟨?_, ?_, ?_, ?_, ?_, ?_⟩ fun i hx => ?_
    all_goals first | (with_reducible refine W_id ?_) | (simp [push_cast, hLr, hacr, hacl, htk]; done)
    obtain ⟨hi1, hi2, hi3⟩ := hx
    have hall : (bs.drop at_).all (· = 0) = true ↔ ∀ j, at_ ≤ j → j < n → bs.getD j 0 = 0 := by
      rw [List.all_eq_true]
      constructor
      · intro h j h1 h2
        have := h (bs.getD j 0) (by
          rw [List.mem_iff_getElem?]
          exact ⟨j - at_, by rw [List.getElem?_drop, show at_ + (j - at_) = j from by omega, List.getD_eq_getElem?_getD, List.getElem?_eq_getElem (by omega)]; rfl⟩)
        simpa using this
      · intro h x hx
        obtain ⟨j, hj⟩ := List.mem_iff_getElem?.1 hx
        rw [List.getElem?_drop] at hj
        have hj2 := (List.getElem?_eq_some_iff.1 hj).1
        have := h (at_ + j) (by omega) (by omega)
        rw [List.getD_eq_getElem?_getD, hj] at this
        simpa using this
    by_cases hlt : i < n
    · have g4 : ((i : Int) < (n : Int)) = True := eq_true (by omega)
      have g4' : (i < n) = True := eq_true hlt
      have hx := hLat i hlt
      obtain ⟨x, hxx⟩ : ∃ x, x = bs.getD i 0 := ⟨_, rfl⟩
      rw [← hxx] at hx
      by_cases hx0 : x = 0
      · subst hx0
        have w2 : IntKind.i64.wrap ((i : Int) + 1) = ((i + 1 : Nat) : Int) := by rw [i64_in _ (by omega)]; omega
        have hst : ∀ j, at_ ≤ j → j < i + 1 → bs.getD j 0 = 0 := fun j h1 h2 => by
          rcases Nat.lt_or_ge j i with h | h
          · exact hi3 j h1 h
          · rw [show j = i from by omega]; exact hxx.symm
        have g5 : (((0 : UInt8).toNat : Int) = 0) = True := eq_true rfl
        repeat' (first
          | with_reducible first | apply thenW_n | apply blockW_n | apply W_seq | apply W_block | apply W_skip
          | with_reducible refine W_region (by first | decide | (with_unfolding_all rfl)) ?_
          | (rw [vcn]; (try simp [push_cast, g4, g4', hx, w2, g5]))
          | (with_reducible refine W_condW ?_; (try simp [AS.val, upd, resB, mkS_env, mkS_box, lk, entry_env, condW_true, condW_false, g4, g4', hx, w2, g5]))
          | fail)
        refine loopW_n (i + 1) id (by omega) ⟨by omega, by omega, hst⟩ ⟨?_, ?_, ?_, ?_, ?_, ?_⟩
        all_goals first | (simp [push_cast, hLr, hacr, hacl, htk]; done)
      · have g5 : ((x.toNat : Int) = 0) = False := eq_false fun h => hx0 (UInt8.toNat_inj.1 (by simpa using (by omega : x.toNat = 0)))
        have hsp : out = .tup [.v (.slice none 0 0), i64V 0, i64V 4] := by
          rw [hout, splitAV, splitSpec, if_neg (by omega), hrec]
          simp only
          rw [if_neg]
          intro h
          exact hx0 (hxx.trans (hall.1 h i hi1 hlt))
        have g5n : (x.toNat = 0) = False := eq_false fun h => hx0 (UInt8.toNat_inj.1 (by simpa using h))
        have g5b : ((x.toNat : Int) != 0) = true := by rw [bne_iff_ne]; intro h; rw [g5] at h; exact h
        repeat' (first
          | with_reducible first | apply thenW_n | apply thenW_ret | apply blockW_ret | apply loopW_ret | apply W_seq | apply W_block | apply W_skip | apply W_ret
          | with_reducible refine W_region (by first | decide | (with_unfolding_all rfl)) ?_
          | (rw [vcn]; (try simp [push_cast, g4, g4', hx, g5, g5n, g5b]))
          | (with_reducible refine W_condW ?_; (try simp [AS.val, upd, resB, mkS_env, mkS_box, lk, entry_env, condW_true, condW_false, g4, g4', hx, g5, g5n, g5b]))
          | fail)
        simp [post, resAV, resAll, resOne, closeV, closeC, closeL, resD, resDL, push_cast, hsp]
    · have g4 : ((i : Int) < (n : Int)) = False := eq_false (by omega)
      have g4' : (i < n) = False := eq_false hlt
      have hsp : out = .tup [.slc false 3 k R, i64V at_, i64V 0] := by
        rw [hout, splitAV, splitSpec, if_neg (by omega), hrec]
        simp only
        rw [if_pos (hall.2 fun j h1 h2 => hi3 j h1 (by omega)), hk, hR, List.length_drop, show bs.length - (bs.length - at_) = at_ from by omega]
      repeat' (first
        | with_reducible first | apply thenW_n | apply thenW_exit | apply blockW_same | apply loopW_exit | apply W_seq | apply W_ret | apply W_exit
        | with_reducible refine W_region (by first | decide | (with_unfolding_all rfl)) ?_
        | (rw [vcn]; (try simp [push_cast, g4, g4']))
        | (with_reducible refine W_condW ?_; (try simp [AS.val, upd, resB, mkS_env, mkS_box, lk, entry_env, condW_true, condW_false, g4, g4']))
        | fail)
      simp [post, resAV, resAll, resOne, closeV, closeC, closeL, resD, resDL, push_cast, hsp]
  have hrec : recs bs = preR acc (recs (bs.drop at_)) := by rw [refInv, if_neg h4] at hI; exact hI
  -- the next record
  have hgo : ∃ t, (k = 0 ∧ t = []) ∨ ∃ (j : Nat) (x y : UInt8) (z : AV), k = j + 1 ∧ x ≠ 4 ∧ R.drop (j * 3) = byteV x :: byteV y :: z :: t := by
    rcases k with _ | j
    · exact ⟨[], .inl ⟨rfl, rfl⟩⟩
    · obtain ⟨t, ht⟩ := recsCells_at acc j (by omega)
      rw [← hR] at ht
      refine ⟨t, .inr ⟨j, _, _, _, rfl, ?_, ht⟩⟩
      have e : acc.getLast? = some acc[j] := by
        rw [List.getLast?_eq_getElem?, show acc.length - 1 = j from by omega, List.getElem?_eq_getElem (by omega)]
      rw [e] at h4
      simpa using h4
  obtain ⟨r, hr⟩ : ∃ r, r = bs.drop at_ := ⟨_, rfl⟩
  have hrl : r.length = n - at_ := by rw [hr, List.length_drop, hn]
  have hrat : ∀ i, i < r.length → L[at_ + i]? = some (byteV (r.getD i 0)) := fun i hi => by
    rw [hLat _ (by omega), hr, List.getD_eq_getElem?_getD, List.getD_eq_getElem?_getD, List.getElem?_drop]
  rw [← hr] at hrec
  have hRid : ∀ ρ : Nat → Nat, renL ρ R = R := fun ρ => renL_id ρ R hacr
  have w0 : IntKind.i64.wrap ((n : Int) - (at_ : Int)) = ((n - at_ : Nat) : Int) := by rw [i64_in _ (by omega)]; omega
  have bad : ∀ e, recs r = .error e → out = .tup [.v (.slice none 0 0), i64V 0, i64V e] := fun e he => by
    rw [hout, splitAV, splitSpec, if_neg (by omega), hrec, he]
    rfl
  refine W_seq ?_
  refine W_joinQ (X := Unit) (fun _ => [(0, .slc f 1 n L), (5, .bs 500 3 0 k), (6, i64V at_)]) (fun _ => [(500, .mut 24 R)]) (fun _ => True) ?_ fun _ _ => ?_
  · obtain ⟨t, ⟨hk0, _⟩ | ⟨j, x, y, z, hj, hx4, ht⟩⟩ := hgo
    · have g2 : ((k : Int) = 0) = True := eq_true (by omega)
      have g2' : (k = 0) = True := eq_true (by omega)
      repeat' (first
        | with_reducible first | apply thenW_n | apply W_seq | apply W_skip
        | with_reducible refine W_region (by first | decide | (with_unfolding_all rfl)) ?_
        | (rw [vcn]; (try simp [push_cast, g2, g2']))
        | (with_reducible refine W_condW ?_; (try simp [AS.val, upd, resB, mkS_env, mkS_box, lk, entry_env, condW_true, condW_false, g2, g2']))
        | fail)
      refine joinW_n () id trivial ⟨?_, ?_, ?_, ?_, ?_, ?_⟩
      all_goals first | (simp [push_cast, hLr, hacr, hRid]; done)
    · have g2 : ((k : Int) = 0) = False := eq_false (by omega)
      have g2' : (k = 0) = False := eq_false (by omega)
      have w1 : IntKind.i64.wrap ((k : Int) - 1) = (j : Int) := by rw [i64_in _ (by omega)]; omega
      have g3 : j < k := by omega
      have g4 : ((x.toNat : Int) = 4) = False := eq_false fun h => hx4 (UInt8.toNat_inj.1 (by simpa using (by omega : x.toNat = 4)))
      have g4' : ((x.toNat : Int) != 4) = true := by rw [bne_iff_ne]; intro h; rw [g4] at h; exact h
      repeat' (first
        | with_reducible first | apply thenW_n | apply W_seq | apply W_skip
        | with_reducible refine W_region (by first | decide | (with_unfolding_all rfl)) ?_
        | (rw [vcn]; (try simp [push_cast, g2, g2', w1, g3, g4, g4', ht, hacl]))
        | (with_reducible refine W_condW ?_; (try simp [AS.val, upd, resB, mkS_env, mkS_box, lk, entry_env, condW_true, condW_false, g2, g2', w1, g3, g4, g4', ht, hacl]))
        | fail)
      refine joinW_n () id trivial ⟨?_, ?_, ?_, ?_, ?_, ?_⟩
      all_goals first | (simp [push_cast, hLr, hacr, hRid]; done)
  by_cases h2 : r.length < 2
  · have g5 : (((n - at_ : Nat) : Int) < 2) = True := eq_true (by omega)
    have hb := bad 7 (by rw [recs_eq, nextRec, if_pos h2])
    repeat' (first
      | with_reducible first | apply thenW_n | apply thenW_ret | apply blockW_ret | apply loopW_ret | apply W_seq | apply W_block | apply W_ret
      | with_reducible refine W_region (by first | decide | (with_unfolding_all rfl)) ?_
      | (rw [vcn]; (try simp [push_cast, w0, g5]))
      | (with_reducible refine W_condW ?_; (try simp [AS.val, upd, resB, mkS_env, mkS_box, lk, entry_env, condW_true, condW_false, w0, g5]))
      | fail)
    simp [post, resAV, resAll, resOne, closeV, closeC, closeL, resD, resDL, push_cast, hb]
  have g5 : (((n - at_ : Nat) : Int) < 2) = False := eq_false (by omega)
  obtain ⟨x, hx⟩ : ∃ x, x = r.getD 0 0 := ⟨_, rfl⟩
  obtain ⟨y, hy⟩ : ∃ y, y = r.getD 1 0 := ⟨_, rfl⟩
  have hL0 := hrat 0 (by omega)
  have hL1 := hrat 1 (by omega)
  rw [← hx, Nat.add_zero] at hL0
  rw [← hy] at hL1
  obtain ⟨z, hz⟩ : ∃ z, z = x.toNat * 256 + y.toNat := ⟨_, rfl⟩
  have hx256 : x.toNat < 256 := x.toNat_lt
  have hy256 : y.toNat < 256 := y.toNat_lt
  have w1 : IntKind.i64.wrap ((at_ : Int) + 1) = ((at_ + 1 : Nat) : Int) := by rw [i64_in _ (by omega)]; omega
  have w2 : IntKind.i64.wrap (256 * (x.toNat : Int)) = ((256 * x.toNat : Nat) : Int) := by rw [i64_in _ (by omega)]; omega
  have w3 : IntKind.i64.wrap (((256 * x.toNat : Nat) : Int) + (y.toNat : Int)) = (z : Int) := by rw [i64_in _ (by omega)]; omega
  have w3' : IntKind.i64.wrap (256 * (x.toNat : Int) + (y.toNat : Int)) = (z : Int) := by rw [i64_in _ (by omega)]; omega
  have lt0 : (at_ < n) = True := eq_true (by omega)
  have lt1 : (at_ + 1 < n) = True := eq_true (by omega)
  have hmod : ((z : Int).tmod 2) = ((z % 2 : Nat) : Int) := by rw [Int.ofNat_tmod]; rfl
  have hux : IntKind.i64.wrap (x.toNat : Int) = (x.toNat : Int) := u8_i64 x
  have huy : IntKind.i64.wrap (y.toNat : Int) = (y.toNat : Int) := u8_i64 y
  by_cases h4z : z < 4 ∨ z % 2 = 1
  · have hb := bad 3 (by rw [recs_eq, nextRec, if_neg h2, ← hx, ← hy, ← hz]; simp only; rw [if_pos h4z])
    by_cases h4 : z < 4
    · have g6 : ((z : Int) < 4) = True := eq_true (by omega)
      have g6' : (z < 4) = True := eq_true h4
      repeat' (first
        | with_reducible first | apply thenW_n | apply thenW_ret | apply blockW_ret | apply loopW_ret | apply W_seq | apply W_block | apply W_skip | apply W_ret
        | with_reducible refine W_region (by first | decide | (with_unfolding_all rfl)) ?_
        | (rw [vcn]; (try simp [push_cast, w0, g5, w1, w2, w3, w3', lt0, lt1, hL0, hL1, hux, huy, g6, g6']))
        | with_reducible refine W_drawn mixed (by decide) (by kernel_rfl) ?_
        | (rw [vcnD]; (try simp [push_cast, w0, g5, w1, w2, w3, w3', lt0, lt1, hL0, hL1, hux, huy, g6, g6']))
        | (with_reducible refine W_condW ?_; (try simp [AS.val, upd, resB, mkS_env, mkS_box, lk, entry_env, condW_true, condW_false, w0, g5, w1, w2, w3, w3', lt0, lt1, hL0, hL1, hux, huy, g6, g6']))
        | refine And.intro (by first | omega | kernel_rfl) ?_
        | fail)
      simp [post, resAV, resAll, resOne, closeV, closeC, closeL, resD, resDL, push_cast, hb]
    have g6 : ((z : Int) < 4) = False := eq_false (by omega)
    have g6' : (z < 4) = False := eq_false h4
    have g7 : (z % 2 = 1) = True := eq_true (by omega)
    have g7' : ((z : Int) % 2 = 1) = True := eq_true (by omega)
    have g7b : ((z : Int) % 2 == 1) = true := by rw [beq_iff_eq]; omega
    repeat' (first
      | with_reducible first | apply thenW_n | apply thenW_ret | apply blockW_ret | apply loopW_ret | apply W_seq | apply W_block | apply W_skip | apply W_ret
      | with_reducible refine W_region (by first | decide | (with_unfolding_all rfl)) ?_
      | (rw [vcn]; (try simp [push_cast, w0, g5, w1, w2, w3, w3', lt0, lt1, hL0, hL1, hux, huy, hmod, g6, g6', g7, g7', g7b]))
      | with_reducible refine W_drawn mixed (by decide) (by kernel_rfl) ?_
      | (rw [vcnD]; (try simp [push_cast, w0, g5, w1, w2, w3, w3', lt0, lt1, hL0, hL1, hux, huy, hmod, g6, g6', g7, g7', g7b]))
      | (with_reducible refine W_condW ?_; (try simp [AS.val, upd, resB, mkS_env, mkS_box, lk, entry_env, condW_true, condW_false, w0, g5, w1, w2, w3, w3', lt0, lt1, hL0, hL1, hux, huy, hmod, g6, g6', g7, g7', g7b]))
      | refine And.intro (by first | omega | kernel_rfl) ?_
      | fail)
    simp [post, resAV, resAll, resOne, closeV, closeC, closeL, resD, resDL, push_cast, hb]
  have g6 : ((z : Int) < 4) = False := eq_false (by omega)
  have g6' : (z < 4) = False := eq_false (by omega)
  have g7 : (z % 2 = 1) = False := eq_false (by omega)
  have g7' : ((z : Int) % 2 = 1) = False := eq_false (by omega)
  have g7b : ((z : Int) % 2 == 1) = false := by rw [beq_eq_false_iff_ne]; omega
  by_cases hlz : r.length < z
  · have hb := bad 7 (by rw [recs_eq, nextRec, if_neg h2, ← hx, ← hy, ← hz]; simp only; rw [if_neg h4z, if_pos hlz])
    have g8 : (((n - at_ : Nat) : Int) < (z : Int)) = True := eq_true (by omega)
    have g8' : (n - at_ < z) = True := eq_true (by omega)
    repeat' (first
      | with_reducible first | apply thenW_n | apply thenW_ret | apply blockW_ret | apply loopW_ret | apply W_seq | apply W_block | apply W_skip | apply W_ret
      | with_reducible refine W_region (by first | decide | (with_unfolding_all rfl)) ?_
      | (rw [vcn]; (try simp [push_cast, w0, g5, w1, w2, w3, w3', lt0, lt1, hL0, hL1, hux, huy, hmod, g6, g6', g7, g7', g7b, g8, g8']))
      | with_reducible refine W_drawn mixed (by decide) (by kernel_rfl) ?_
      | (rw [vcnD]; (try simp [push_cast, w0, g5, w1, w2, w3, w3', lt0, lt1, hL0, hL1, hux, huy, hmod, g6, g6', g7, g7', g7b, g8, g8']))
      | (with_reducible refine W_condW ?_; (try simp [AS.val, upd, resB, mkS_env, mkS_box, lk, entry_env, condW_true, condW_false, w0, g5, w1, w2, w3, w3', lt0, lt1, hL0, hL1, hux, huy, hmod, g6, g6', g7, g7', g7b, g8, g8']))
      | refine And.intro (by first | omega | kernel_rfl) ?_
      | fail)
    simp [post, resAV, resAll, resOne, closeV, closeC, closeL, resD, resDL, push_cast, hb]
  have g8 : (((n - at_ : Nat) : Int) < (z : Int)) = False := eq_false (by omega)
  have g8' : (n - at_ < z) = False := eq_false (by omega)
  obtain ⟨kb, hkb⟩ : ∃ x, x = r.getD 2 0 := ⟨_, rfl⟩
  obtain ⟨db, hdb⟩ : ∃ y, y = r.getD 3 0 := ⟨_, rfl⟩
  have hL2 := hrat 2 (by omega)
  have hL3 := hrat 3 (by omega)
  rw [← hkb] at hL2
  rw [← hdb] at hL3
  obtain ⟨b, hb⟩ : ∃ b, b = (r.take z).drop 4 := ⟨_, rfl⟩
  have hbl : b.length = z - 4 := by rw [hb]; simp; omega
  have hnx : nextRec r = .ok (kb, db, b, z) := by
    rw [nextRec, if_neg h2, ← hx, ← hy, ← hz]; simp only; rw [if_neg h4z, if_neg hlz, hkb, hdb, hb]
  have w4 : IntKind.i64.wrap ((at_ : Int) + 2) = ((at_ + 2 : Nat) : Int) := by rw [i64_in _ (by omega)]; omega
  have w5 : IntKind.i64.wrap ((at_ : Int) + 3) = ((at_ + 3 : Nat) : Int) := by rw [i64_in _ (by omega)]; omega
  have w6 : IntKind.i64.wrap ((at_ : Int) + 4) = ((at_ + 4 : Nat) : Int) := by rw [i64_in _ (by omega)]; omega
  have w7 : IntKind.i64.wrap ((at_ : Int) + (z : Int)) = ((at_ + z : Nat) : Int) := by rw [i64_in _ (by omega)]; omega
  have lt2 : (at_ + 2 < n) = True := eq_true (by omega)
  have lt3 : (at_ + 3 < n) = True := eq_true (by omega)
  have lt4 : (at_ + 4 ≤ at_ + z) = True := eq_true (by omega)
  have lt5 : (at_ + z ≤ n) = True := eq_true (by omega)
  have hbody : List.take (at_ + z - (at_ + 4)) (List.drop (at_ + 4) L) = b.map byteV := by
    rw [hb, hr, hL, ← List.map_drop, ← List.map_take]
    congr 1
    rw [List.drop_take, List.drop_drop]
    congr 1
    omega
  have t2 : ((at_ : Int) + 2).toNat = at_ + 2 := by omega
  have t3 : ((at_ : Int) + 3).toNat = at_ + 3 := by omega
  have t4 : ((at_ : Int) + 4).toNat = at_ + 4 := by omega
  have hsub : at_ + z - (at_ + 4) = z - 4 := by omega
  rw [hsub] at hbody
  refine W_block (W_seq ?_)
  refine W_joinQ (X := Unit) (fun _ => [(0, .slc f 1 n L), (5, .bs 500 3 0 k), (6, i64V at_)]) (fun _ => [(500, .mut 24 R)]) (fun _ => True) ?_ fun _ _ => ?_
  · repeat' (first
      | with_reducible first | apply thenW_n | apply W_seq | apply W_skip
      | with_reducible refine W_region (by first | decide | (with_unfolding_all rfl)) ?_
      | (rw [vcn]; (try simp [push_cast, w0, g5]))
      | (with_reducible refine W_condW ?_; (try simp [AS.val, upd, resB, mkS_env, mkS_box, lk, entry_env, condW_true, condW_false, w0, g5]))
      | fail)
    refine joinW_n () id trivial ⟨?_, ?_, ?_, ?_, ?_, ?_⟩
    all_goals first | (simp [push_cast, hLr, hacr, hRid]; done)
  refine W_seq ?_
  refine W_joinQ (X := Unit) (fun _ => [(0, .slc f 1 n L), (5, .bs 500 3 0 k), (6, i64V at_), (7, i64V z)]) (fun _ => [(500, .mut 24 R)]) (fun _ => True) ?_ fun _ _ => ?_
  · repeat' (first
      | with_reducible refine W_drawn mixed (by decide) (by kernel_rfl) ?_
      | (rw [vcnD]; (try simp [push_cast, w0, g5, w1, w2, w3, w3', lt0, lt1, hL0, hL1, hux, huy]))
      | refine And.intro (by first | omega | kernel_rfl) ?_
      | fail)
    refine joinW_n () id trivial ⟨?_, ?_, ?_, ?_, ?_, ?_⟩
    all_goals first | (simp [push_cast, hLr, hacr, hRid]; done)
  refine W_seq ?_
  refine W_joinQ (X := Unit) (fun _ => [(0, .slc f 1 n L), (5, .bs 500 3 0 k), (6, i64V at_), (7, i64V z)]) (fun _ => [(500, .mut 24 R)]) (fun _ => True) ?_ fun _ _ => ?_
  · repeat' (first
      | with_reducible first | apply thenW_n | apply W_seq | apply W_skip
      | with_reducible refine W_region (by first | decide | (with_unfolding_all rfl)) ?_
      | (rw [vcn]; (try simp [push_cast, hmod, g6, g6', g7, g7', g7b]))
      | (with_reducible refine W_condW ?_; (try simp [AS.val, upd, resB, mkS_env, mkS_box, lk, entry_env, condW_true, condW_false, hmod, g6, g6', g7, g7', g7b]))
      | fail)
    refine joinW_n () id trivial ⟨?_, ?_, ?_, ?_, ?_, ?_⟩
    all_goals first | (simp [push_cast, hLr, hacr, hRid]; done)
  refine W_seq ?_
  refine W_joinQ (X := Unit) (fun _ => [(0, .slc f 1 n L), (5, .bs 500 3 0 k), (6, i64V at_), (7, i64V z)]) (fun _ => [(500, .mut 24 R)]) (fun _ => True) ?_ fun _ _ => ?_
  · repeat' (first
      | with_reducible first | apply thenW_n | apply W_seq | apply W_skip
      | with_reducible refine W_region (by first | decide | (with_unfolding_all rfl)) ?_
      | (rw [vcn]; (try simp [push_cast, w0, g8, g8']))
      | (with_reducible refine W_condW ?_; (try simp [AS.val, upd, resB, mkS_env, mkS_box, lk, entry_env, condW_true, condW_false, w0, g8, g8']))
      | fail)
    refine joinW_n () id trivial ⟨?_, ?_, ?_, ?_, ?_, ?_⟩
    all_goals first | (simp [push_cast, hLr, hacr, hRid]; done)
  refine W_seq ?_
  refine W_joinQ (X := Unit) (fun _ => [(0, .slc f 1 n L), (5, .bs 500 3 0 (k + 1)), (6, i64V at_), (7, i64V z)]) (fun _ => [(500, .mut 24 (R ++ [byteV kb, byteV db, .bs 501 1 0 (z - 4)])), (501, .mut 5 (b.map byteV))]) (fun _ => True) ?_ fun _ _ => ?_
  · repeat' (first
      | with_reducible refine W_drawn mixed (by decide) (by kernel_rfl) ?_
      | (rw [vcnD]; (try simp [push_cast, hsub, hacl, t2, t3, t4, w4, w5, w6, w7, lt2, lt3, lt4, lt5, hL2, hL3, hbody]))
      | refine And.intro (by first | omega | kernel_rfl) ?_
      | fail)
    refine joinW_n () (fun i => if i = 500 then 78 else if i = 501 then 75 else i) trivial ⟨?_, ?_, ?_, ?_, ?_, ?_⟩
    all_goals first | (simp [push_cast, hLr, hacr, hRid]; done) | (intro i hi; dsimp only; (repeat' split) <;> omega)
  refine W_frz 501 (e := 5) (l := b.map byteV) (by simp [mkS_box, lk]) (refsL_bytes b) ?_
  have hR' : R ++ [byteV kb, byteV db, .slc false 1 (z - 4) (b.map byteV)] = recsCells (acc ++ [(kb, db, b)]) := by
    rw [hR, recsCells, recsCells, List.flatMap_append]
    simp [recCells, hbl]
  refine W_later (later_res 500 (e := 24) (l := R ++ [byteV kb, byteV db, .bs 501 1 0 (z - 4)]) (by simp [mkS_box, lk, upd]) (recsCells (acc ++ [(kb, db, b)])) ?_) ?_
  · rw [← hR', resDL_eq, List.map_append]
    congr 1
    · rw [← resDL_eq, resDL_id _ _ hacr]
    · simp [resD, resB, upd, byteV, mkS_box, lk]
      rw [if_pos (by omega), List.take_of_length_le (by simp; omega)]
  obtain ⟨acc', hacc'⟩ : ∃ x, x = acc ++ [(kb, db, b)] := ⟨_, rfl⟩
  have hal' : acc'.length = k + 1 := by rw [hacc', hk]; simp
  have hinv : refInv bs (acc', at_ + z) := by
    have hdr : r.drop z = bs.drop (at_ + z) := by rw [hr, List.drop_drop]
    rw [refInv, hacc']
    simp only [List.getLast?_append, List.getLast?_singleton, Option.some_or, Option.map_some]
    rw [hrec, recs_eq, hnx]
    simp only [hdr]
    by_cases h : kb = 4
    · rw [if_pos (by rw [h]), if_pos h]
      rfl
    · rw [if_neg (by simpa using h), if_neg h]
      cases recs (bs.drop (at_ + z)) with
      | error e => rfl
      | ok p => simp [preR]
  have hre : refsL (recsCells acc') = [] := recsCells_refs _
  have hrn : ∀ ρ, renL ρ (recsCells acc') = recsCells acc' := fun ρ => renL_id ρ _ hre
  rw [← hacc']
  repeat' (first
    | with_reducible apply blockW_n
    | with_reducible refine W_region (by first | decide | (with_unfolding_all rfl)) ?_
    | (rw [vcn]; (try simp [push_cast, w7]))
    | fail)
  refine loopW_n (acc', at_ + z) id (by simp only; omega) ⟨by simp only; omega, by simp only; omega, hinv⟩ ⟨?_, ?_, ?_, ?_, ?_, ?_⟩
  all_goals first | (simp [push_cast, hLr, hre, hrn, hal']; done)
end Go.Fw
-- VALS: recAV
namespace Go.Fw
open Go Go.Proofs Go.IntWalk
set_option linter.unusedSimpArgs false
set_option maxRecDepth 100000
set_option maxHeartbeats 2000000
open List (map_take map_drop)
attribute [local push_cast] optK_some optK_none optK_ite optK_map optK_bind gOn stepK isMem evPure evMem evBin evUn evConv evLen evBuiltin evMinMax evSlice evBuild evAppend evIndex evIndexAddr evField evFieldAddr intBin strBin appDest AS.val AS.mem AS.elems AS.put AS.put' AS.eff AV.cells? AV.isCell AV.refs all_isByte take_byteV drop_byteV strOf_map bndOk bnd partAV ptrAdd killBox catA inOrder fillA setAt ofVal resB upd byteV List.head?_take List.head?_drop List.getElem?_map mkS_env mkS_box mkS_used entry_env entry_box entry_used lk stepD lookIds Oper.looksAt Op.operands Call.operands St.ids refsL renL_append dV_take dV_drop ren renL renBox Box.refs iV i64V boolV dV_getElem dV_app dV_cons toNat_add2 toNat_add1
theorem recs_count : ∀ (n : Nat) (r : List UInt8) (l : List Rec) (q : List UInt8), r.length ≤ n → recs r = .ok (l, q) → l.length * 4 ≤ r.length := by
  intro n
  induction n with
  | zero =>
    intro r l q h h'
    have : r = [] := List.eq_nil_of_length_eq_zero (by omega)
    subst this
    cases h'
  | succ n ih =>
    intro r l q h h'
    rw [recs_eq] at h'
    split at h'
    · cases h'
    · rename_i k d b m hn
      obtain ⟨h1, h2, _⟩ := nextRec_ok hn
      split at h'
      · cases h'; simp; omega
      · cases he : recs (r.drop m) with
        | error e => rw [he] at h'; cases h'
        | ok p =>
          obtain ⟨l', q'⟩ := p
          rw [he] at h'
          cases h'
          have := ih (r.drop m) _ _ (by rw [List.length_drop]; omega) he
          rw [List.length_drop] at this
          simp only [List.length_cons]
          omega
theorem recs_body : ∀ (n : Nat) (r : List UInt8) (l : List Rec) (q : List UInt8), r.length ≤ n → recs r = .ok (l, q) → ∀ x ∈ l, x.2.2.length ≤ n := by
  intro n
  induction n with
  | zero =>
    intro r l q h h'
    have : r = [] := List.eq_nil_of_length_eq_zero (by omega)
    subst this
    cases h'
  | succ n ih =>
    intro r l q h h'
    rw [recs_eq] at h'
    split at h'
    · cases h'
    · rename_i k d b m hn
      obtain ⟨h1, h2, _, h3, _⟩ := nextRec_ok hn
      have hb : b.length ≤ n + 1 := by rw [h3]; simp; omega
      split at h'
      · cases h'; intro x hx; rw [List.mem_singleton] at hx; subst hx; exact hb
      · cases he : recs (r.drop m) with
        | error e => rw [he] at h'; cases h'
        | ok p =>
          obtain ⟨l', q'⟩ := p
          rw [he] at h'
          cases h'
          intro x hx
          rw [List.mem_cons] at hx
          rcases hx with rfl | hx
          · exact hb
          · exact Nat.le_succ_of_le (ih (r.drop m) _ _ (by rw [List.length_drop]; omega) he x hx)
def bodOk (n : Nat) (A : List Rec) : Prop := A.length = n ∧ ∀ r ∈ A, r.2.2.length ≤ 400000
def bodOk1 (n i N : Nat) (A : List Rec) : Prop := bodOk n A ∧ ∃ r, A[i]? = some r ∧ r.2.2.length = N
end Go.Fw
