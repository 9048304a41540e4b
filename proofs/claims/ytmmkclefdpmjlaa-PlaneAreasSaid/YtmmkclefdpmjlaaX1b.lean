import Derived.Test.YtmmkclefdpmjlaaN6
import Derived.Test.YtmmkclefdpmjlaaNd
import Derived.Test.YtmmkclefdpmjlaaDk
import Derived.Test.YtmmkclefdpmjlaaR8b
set_option linter.unusedSimpArgs false
set_option linter.unusedVariables false
-- VALS: natAV
namespace Go.Fw
open Go Go.Proofs Go.IntWalk
set_option linter.unusedSimpArgs false
set_option maxRecDepth 100000
set_option maxHeartbeats 20000000
theorem entryB_env (args : List AV) (box : List (Nat × Box)) (t : Nat) : (entryB args box).env t = (args[t]?).getD (.tup []) := rfl
theorem entryB_box (args : List AV) (box : List (Nat × Box)) : (entryB args box).box = lk box := rfl
theorem entryB_used (args : List AV) (box : List (Nat × Box)) (i : Nat) : (entryB args box).used i = (1000000 ≤ i) := rfl
theorem CallG_row {P : Program} {f : FuncId} {s : AS} {K : Out → AS → Prop} {id : Nat} {e : TypeId} {z o n : Nat} {l l' : List AV} (hid : id < 1000000) (hb : s.box id = some (.mut e l)) (hl : refsL l = []) (hl' : refsL l' = [])
    (hW : WB P f [.bs 1000000 z o n] [(1000000, .mut e l)] (fun out s' => out = .ret (.tup []) ∧ s'.box 1000000 = some (.mut e l')))
    (hk : K (.ret (.tup [])) ⟨s.env, upd s.box id (some (.mut e l')), fun i => i = id ∨ s.used i⟩) : CallG P (.fn f []) [.bs id z o n] s K := by
  refine CallV.boxes [.bs 1000000 z o n] [(1000000, .mut e l)] (fun i => if i = 1000000 then id else i) (by simp [renL, ren]) ?_ ?_ ?_ ?_ hW ?_
  · intro p hp
    simp at hp
    subst hp
    refine ⟨Nat.le_refl _, ?_⟩
    simp only [if_true, renBox]
    rw [hb, renL_id _ l hl]
  · intro p hp q hq _
    simp at hp hq
    rw [hp, hq]
  · intro i hi
    simpa [refsL, AV.refs] using hi
  · intro p hp i hi
    simp at hp
    subst hp
    simp [Box.refs, hl] at hi
  · rintro out s' ⟨rfl, hs'⟩
    refine ⟨[(id, .mut e l')], fun i => if i = id then 1000000 else i, ?_, ?_, ?_, ?_, .tup [], by simp [ren, renL], by simp [AV.refs, refsL], ?_⟩
    · intro p hp
      simp at hp
      subst hp
      simp only [if_true, renBox]
      rw [hs', renL_id _ l' hl']
    · intro p hp q hq _
      simp at hp hq
      rw [hp, hq]
    · intro p hp i hi
      simp at hp
      subst hp
      simp [Box.refs, hl'] at hi
    · intro p hp _
      simp at hp
      subst hp
      simp
    · have e1 : back s ([(1000000, Box.mut e l)].map fun p => if p.1 = 1000000 then id else p.1) [(id, .mut e l')] = ⟨s.env, upd s.box id (some (.mut e l')), fun i => i = id ∨ s.used i⟩ := by
        unfold back
        congr 1
        · funext i
          by_cases h : i = id
          · subst h; simp [lk, upd]
          · have h' : ¬ id = i := fun k => h k.symm
            simp [lk, upd, h, h']
        · funext i
          simp
      rw [e1]
      exact hk
def turned (l x : List Nat) (i : Nat) : Prop := x.length = l.length ∧ ∀ k, x[k]? = if k < i ∨ l.length ≤ k + i then l.reverse[k]? else l[k]?
theorem turned_all {l x : List Nat} {i : Nat} (h : turned l x i) (hi : l.length ≤ 2 * i + 1) : x = l.reverse := by
  refine List.ext_getElem? fun k => ?_
  rw [h.2]
  split
  · rfl
  · by_cases hk : k < l.length
    · rw [List.getElem?_reverse hk]
      congr 1
      omega
    · omega
theorem turned_zero (l : List Nat) : turned l l 0 := by
  refine ⟨rfl, fun k => ?_⟩
  split
  · rename_i h
    have hk : l.length ≤ k := by omega
    rw [List.getElem?_eq_none hk, List.getElem?_eq_none (by rw [List.length_reverse]; exact hk)]
  · rfl
theorem turned_step {l x : List Nat} {i : Nat} (h : turned l x i) (hi : 2 * i + 1 < l.length) : turned l ((x.set i (dg x (l.length - 1 - i))).set (l.length - 1 - i) (dg x i)) (i + 1) := by
  obtain ⟨h1, h2⟩ := h
  have dgd : ∀ (m : List Nat) k, dg m k = m[k]?.getD 0 := fun m k => List.getD_eq_getElem?_getD
  have a1 : dg x i = dg l i := by
    have := h2 i
    rw [if_neg (by omega)] at this
    rw [dgd, dgd, this]
  have a2 : dg x (l.length - 1 - i) = dg l (l.length - 1 - i) := by
    have := h2 (l.length - 1 - i)
    rw [if_neg (by omega)] at this
    rw [dgd, dgd, this]
  have hdl : ∀ k, k < l.length → l[k]? = some (dg l k) := fun k hk => by
    rw [dgd, List.getElem?_eq_getElem (by omega)]; rfl
  refine ⟨by simp [h1], fun k => ?_⟩
  rw [List.getElem?_set, List.getElem?_set, List.length_set]
  by_cases k1 : l.length - 1 - i = k
  · subst k1
    rw [if_pos rfl, if_pos (by omega), if_pos (by omega), List.getElem?_reverse (by omega), a1]
    rw [hdl _ (by omega)]
    congr 2
    omega
  · rw [if_neg k1]
    by_cases k2 : i = k
    · subst k2
      rw [if_pos rfl, if_pos (by omega), if_pos (by omega), List.getElem?_reverse (by omega), a2]
      rw [hdl _ (by omega)]
    · rw [if_neg k2, h2]
      by_cases k3 : k < i ∨ l.length ≤ k + i
      · rw [if_pos k3, if_pos (by omega)]
      · rw [if_neg k3, if_neg (by omega)]
open List (map_take map_drop)
attribute [local push_cast] optK_some optK_none optK_ite optK_map optK_bind gOn stepK isMem evPure evMem evBin evUn evConv evLen evBuiltin evMinMax evSlice evBuild evAppend evIndex evIndexAddr evField evFieldAddr intBin strBin appDest AS.val AS.mem AS.elems AS.put AS.put' AS.eff AV.cells? AV.isCell AV.refs all_isByte take_byteV drop_byteV strOf_map bndOk bnd partAV ptrAdd killBox catA inOrder fillA setAt ofVal resB upd byteV List.head?_take List.head?_drop List.getElem?_map mkS_env mkS_box mkS_used entry_env entry_box entry_used lk stepD lookIds Oper.looksAt Op.operands Call.operands St.ids refsL renL_append ren renL renBox Box.refs iV i64V boolV dV_getElem dV_app dV_cons toNat_add2 toNat_add1
attribute [local simp ↓] numC_refs numC_isCell numC_cells numC_resB numC_resD numC_ren numC_closeC numC_isOwn
theorem reverse_ok (l : List Nat) (hl : l.length ≤ 1000000000) : WB Try.prog 112 [.bs 1000000 1 0 l.length] [(1000000, .mut 5 (dV .u8 l))] (fun out s' => out = .ret (.tup []) ∧ s'.box 1000000 = some (.mut 5 (dV .u8 l.reverse))) := by
  refine ⟨_, _, Try.func112, rfl, Try.call112, Nat.le_of_ble_eq_true rfl, ?_⟩
  obtain ⟨n, hn⟩ : ∃ n, n = l.length := ⟨_, rfl⟩
  rw [← hn]
  have w0 : IntKind.i64.wrap ((n : Int) - 1) = (n : Int) - 1 := by rw [i64_in _ (by omega)]
  repeat' (first
    | with_reducible first | apply thenW_n | apply W_seq | apply W_block
    | with_reducible refine W_rg ?_
    | (rw [vcn]; (try simp [-map_take,-map_drop, push_cast, entryB_env, entryB_box, entryB_used, w0]))
    | fail)
  refine W_loopW (X := Nat × List Nat) (fun x => [(0, .bs 1000000 1 0 n), (2, i64V x.1), (3, i64V ((n : Int) - 1 - x.1))]) (fun x => [(1000000, .mut 5 (dV .u8 x.2))])
    (fun x => n - x.1) (fun x => 2 * x.1 ≤ n + 1 ∧ turned l x.2 x.1) (0, l) id ⟨by omega, turned_zero l⟩ ⟨?_, ?_, ?_, ?_, ?_, ?_⟩ fun x hx => ?_
  all_goals first | (with_reducible refine W_id ?_) | (simp [-map_take,-map_drop, push_cast, dV_take, dV_drop, entryB_env, entryB_box, entryB_used]; done)
  obtain ⟨i, x⟩ := x
  obtain ⟨hi, hx⟩ := hx
  simp only at hi hx
  have hxl := hx.1
  rw [← hn] at hxl
  by_cases hlt : (i : Int) < (n : Int) - 1 - i
  · have g1 : ((i : Int) < (n : Int) - 1 - i) = True := eq_true hlt
    obtain ⟨j, hj⟩ : ∃ j : Nat, j = n - 1 - i := ⟨_, rfl⟩
    have hjz : (n : Int) - 1 - i = (j : Int) := by omega
    have st := turned_step hx (by omega)
    rw [← hn, ← hj] at st
    have w1 : IntKind.i64.wrap ((i : Int) + 1) = ((i + 1 : Nat) : Int) := by rw [i64_in _ (by omega)]; omega
    have w2 : IntKind.i64.wrap ((j : Int) - 1) = (n : Int) - 1 - ((i + 1 : Nat) : Int) := by rw [i64_in _ (by omega)]; omega
    rw [hjz] at g1 ⊢
    have hin : i < x.length := by omega
    have hjn : j < x.length := by omega
    have hs1 := dV_set' .u8 x i (dg x j) hin
    have hs2 := dV_set' .u8 (x.set i (dg x j)) j (dg x i) (by rw [List.length_set]; exact hjn)
    rw [hs1] at hs2
    repeat' (first
      | with_reducible first | apply thenW_n | apply blockW_n | apply W_seq | apply W_block | apply W_skip
      | with_reducible refine W_rg ?_
      | (rw [vcn]; (try simp [-map_take,-map_drop, push_cast, g1, w1, w2, hxl, hin, hjn]))
      | (with_reducible refine W_drawnK mixed (by decide) (by kernel_rfl) (by intro id l; simp only [mkS_box, lk, upd]; (repeat' split) <;> simp [-map_take,-map_drop]) ?_)
      | (rw [vcnDK]; (try simp [-map_take,-map_drop, lookK, lightOp, push_cast, g1, w1, w2, hxl, hin, hjn]))
      | (with_reducible refine W_condW ?_; (try simp [-map_take,-map_drop, AS.val, upd, resB, mkS_env, mkS_box, lk, entry_env, condW_true, condW_false, g1, w1, w2, hxl, hin, hjn]))
      | (with_reducible refine optK_dV (by first | omega | (simp [-map_take,-map_drop]; omega)) ?_)
      | refine And.intro (by first | omega | kernel_rfl) ?_
      | fail)
    rw [← hs2]
    refine loopW_n (i + 1, (x.set i (dg x j)).set j (dg x i)) id (by simp only; omega) ⟨by simp only; omega, st⟩ ⟨?_, ?_, ?_, ?_, ?_, ?_⟩
    all_goals first | (simp [-map_take,-map_drop, push_cast, dV_take, dV_drop, entryB_env, entryB_box, entryB_used]; done)
  · have g1 : ((i : Int) < (n : Int) - 1 - i) = False := eq_false hlt
    have he := turned_all hx (by omega)
    repeat' (first
      | with_reducible first | apply thenW_n | apply thenW_exit | apply blockW_same | apply loopW_exit | apply W_seq | apply W_exit
      | with_reducible refine W_rg ?_
      | (rw [vcn]; (try simp [-map_take,-map_drop, push_cast, g1]))
      | (with_reducible refine W_condW ?_; (try simp [-map_take,-map_drop, AS.val, upd, resB, mkS_env, mkS_box, lk, entry_env, condW_true, condW_false, g1]))
      | fail)
    simp [-map_take,-map_drop, postB, resAV, resAll, resOne, resD, resDL, mkS_box, lk, he, optK_some]
def decD (n : Nat) : List Nat := (digits 10 n).map (48 + ·)
theorem decD_zero : decD 0 = [] := rfl
theorem decD_pos {n : Nat} (h : 0 < n) : decD n = (48 + n % 10) :: decD (n / 10) := by
  unfold decD
  rw [digits_pos (by decide) h]
  rfl
theorem decD_lt (n : Nat) : ∀ d ∈ decD n, d < 58 := by
  intro d hd
  obtain ⟨e, he, rfl⟩ := List.mem_map.1 hd
  have := digits_lt (B := 10) (by decide) n e he
  omega
def bytesD (l : List Nat) : ByteArray := ⟨(l.map UInt8.ofNat).toArray⟩
def strD (l : List Nat) : AV := .v (.string (bytesD l))
def natText (n : Nat) : List Nat := if n = 0 then [48] else (decD n).reverse
theorem dV_bytes {l : List Nat} (h : ∀ d ∈ l, d < 256) : dV .u8 l = (l.map UInt8.ofNat).map byteV := by
  unfold dV
  rw [List.map_map]
  refine List.map_congr_left fun d hd => ?_
  have := h d hd
  show AV.v (.int .u8 (d : Int)) = AV.v (.int .u8 ((UInt8.ofNat d).toNat : Int))
  rw [UInt8.toNat_ofNat_of_lt' (by show d < 2 ^ 8; omega)]
theorem bytesD_size (l : List Nat) : (bytesD l).size = l.length := by simp [-map_take,-map_drop, bytesD, ByteArray.size]
theorem bytesD_add (a b : List Nat) : bytesD a ++ bytesD b = bytesD (a ++ b) := by
  apply ByteArray.ext
  simp [-map_take,-map_drop, bytesD]
theorem bytesD_list (l : List Nat) : (bytesD l).data.toList = l.map UInt8.ofNat := by simp [-map_take,-map_drop, bytesD]
theorem decD_len (n : Nat) : (decD n).length ≤ 10 * (limbs n).length := by
  unfold decD
  rw [List.length_map]
  refine digits_length_le (by decide) n _ ?_
  have h := val_lt (B := B32) (by decide) (limbs n) (limbs_lt n)
  rw [val_limbs] at h
  refine Nat.lt_of_lt_of_le h ?_
  have e : 10 ^ (10 * (limbs n).length) = (10 ^ 10) ^ (limbs n).length := by rw [Nat.pow_mul]
  rw [e]
  exact Nat.pow_le_pow_left (by decide) _
theorem natText_len (n : Nat) : (natText n).length ≤ 10 * (limbs n).length + 1 := by
  unfold natText
  split
  · simp [-map_take,-map_drop]
  · rw [List.length_reverse]
    have := decD_len n
    omega
theorem text_step {i r q : Nat} (hi : i < 9) (hr : r < 10 ^ (9 - i)) (h0 : ¬ (r = 0 ∧ q = 0)) :
    decD (r + 10 ^ (9 - i) * q) = (48 + r % 10) :: decD (r / 10 + 10 ^ (9 - (i + 1)) * q) ∧ r / 10 < 10 ^ (9 - (i + 1)) := by
  have e : 9 - i = (9 - (i + 1)) + 1 := by omega
  rw [e] at hr ⊢
  generalize 9 - (i + 1) = w at *
  rw [Nat.pow_succ] at hr ⊢
  have hp : 0 < 10 ^ w := Nat.pow_pos (by omega)
  have hpos : 0 < r + 10 ^ w * 10 * q := by
    rcases Nat.eq_zero_or_pos r with h1 | h1
    · have h2 : 0 < q := by omega
      have := Nat.mul_pos (Nat.mul_pos hp (by omega : 0 < 10)) h2
      omega
    · omega
  rw [decD_pos hpos]
  have e1 : 10 ^ w * 10 * q = 10 * (10 ^ w * q) := by rw [Nat.mul_comm (10 ^ w) 10, Nat.mul_assoc]
  rw [e1]
  refine ⟨?_, by omega⟩
  congr 2
  · omega
  · omega
theorem natText_ok (n : Nat) (hn : (limbs n).length ≤ 1000000) (hl : (decD n).length ≤ 100000000) : Eval Try.prog 85 [natAV n] (.ret (strD (natText n))) := by
  refine Eval.intro Try.func85 rfl Try.call85 _ _ (Nat.le_of_ble_eq_true rfl) (by simp [-map_take,-map_drop, AV.refs, refsL, natAV, natAV, push_cast]) fun hs0 => ?_
  by_cases h0 : n = 0
  · subst h0
    have e : limbs 0 = [] := rfl
    repeat' (first
      | with_reducible first | apply thenW_n | apply thenW_ret | apply W_seq | apply W_ret
      | with_reducible refine W_rg ?_
      | (rw [vcn]; (try simp [-map_take,-map_drop, push_cast, natAV, numC, ← limbs.eq_1, e]))
      | (with_reducible refine W_condW ?_; (try simp [-map_take,-map_drop, AS.val, upd, resB, mkS_env, mkS_box, lk, entry_env, condW_true, condW_false, natAV, numC, ← limbs.eq_1, e]))
      | fail)
    simp [-map_take,-map_drop, post, resAV, resAll, resOne, closeV, closeC, closeL, resD, resDL, push_cast, strD, natText, bytesD]
  have hne : ¬ limbs n = [] := fun k => by
    have := (digits_ne_nil B32_gt).1 k
    exact h0 this
  have hnl : 0 < (limbs n).length := by
    cases hc : limbs n with
    | nil => exact absurd hc hne
    | cons a t => simp [-map_take,-map_drop]
  have hres : strD (natText n) = strD (decD n).reverse := by rw [natText, if_neg h0]
  rw [hres]
  have hne' : (limbs n = []) = False := eq_false hne
  repeat' (first
    | with_reducible first | apply thenW_n | apply W_seq | apply W_skip
    | with_reducible refine W_rg ?_
    | (rw [vcn]; (try simp [-map_take,-map_drop, push_cast, natAV, numC, ← limbs.eq_1, hne']))
    | (with_reducible refine W_condW ?_; (try simp [-map_take,-map_drop, AS.val, upd, resB, mkS_env, mkS_box, lk, entry_env, condW_true, condW_false, natAV, numC, ← limbs.eq_1, hne']))
    | ((with_reducible refine condW_b (fun hc => ?_) (fun hc => ?_) <;> (try simp [-map_take,-map_drop, Int.ofNat_inj] at hc) <;> (try contradiction)))
    | fail)
  refine W_nil 3 500 5 1 (by simp [-map_take,-map_drop, upd, mkS_env, entry_env, lk]) (by simp [-map_take,-map_drop, mkS_used, entry_used]) ?_
  repeat' (first
    | with_reducible apply W_block
    | fail)
  refine W_loopW (X := Nat × List Nat) (fun x => [(3, .bs 500 1 0 x.2.length), (4, natC x.1)]) (fun x => [(500, .mut 5 (dV .u8 x.2))])
    (fun x => x.1) (fun x => x.1 ≤ n ∧ x.2 ++ decD x.1 = decD n) (n, []) id ⟨Nat.le_refl _, rfl⟩ ⟨?_, ?_, ?_, ?_, ?_, ?_⟩ fun x hx => ?_
  all_goals first | (with_reducible refine W_id ?_) | (simp [-map_take,-map_drop, push_cast, dV_take, dV_drop, numC, ← limbs.eq_1]; done)
  obtain ⟨x, o⟩ := x
  obtain ⟨hxn, ho⟩ := hx
  simp only at hxn ho
  by_cases hx0 : x = 0
  · subst hx0
    rw [decD_zero, List.append_nil] at ho
    subst ho
    have e : limbs 0 = [] := rfl
    have hby : dV .u8 (decD n).reverse = ((decD n).reverse.map UInt8.ofNat).map byteV := dV_bytes fun d hd => by
      have := decD_lt n d (List.mem_reverse.1 hd)
      omega
    have hr := reverse_ok (decD n) (by omega)
    rw [hby] at hr
    repeat' (first
      | with_reducible first | apply thenW_n | apply thenW_exit | apply blockW_same | apply loopW_exit | apply W_seq | apply W_exit
      | with_reducible refine W_rg ?_
      | (rw [vcn]; (try simp [-map_take,-map_drop, push_cast, numC, ← limbs.eq_1, e]))
      | (with_reducible refine W_condW ?_; (try simp [-map_take,-map_drop, AS.val, upd, resB, mkS_env, mkS_box, lk, entry_env, condW_true, condW_false, numC, ← limbs.eq_1, e]))
      | fail)
    refine CallG_row (by omega) (by simp [-map_take,-map_drop, mkS_box, lk, upd]) (refsL_dV _ _) (refsL_bytes _) hr ?_
    try dsimp only
    have hlen : ((decD n).reverse.map UInt8.ofNat).length = (decD n).length := by simp [-map_take,-map_drop]
    obtain ⟨B, hB⟩ : ∃ B, B = (decD n).reverse.map UInt8.ofNat := ⟨_, rfl⟩
    have hs : strD (decD n).reverse = .v (.string ⟨B.toArray⟩) := by rw [hB]; rfl
    rw [hs]
    rw [← hB] at hlen ⊢
    have htk : B.take (decD n).length = B := List.take_of_length_le (by omega)
    have htk2 : (B.map byteV).take (decD n).length = B.map byteV := List.take_of_length_le (by simp [-map_take,-map_drop]; omega)
    repeat' (first
      | with_reducible first | apply thenW_n | apply W_seq | apply W_ret
      | with_reducible refine W_rg ?_
      | (rw [vcn]; (try simp [-map_take,-map_drop, push_cast, hlen, htk, htk2]))
      | fail)
    simp [-map_take,-map_drop, post, resAV, resAll, resOne, closeV, closeC, closeL, resD, resDL, push_cast, hlen, htk, htk2]
  · have hxpos : 0 < x := by omega
    have hlx : (limbs x).length ≤ (limbs n).length := Nat.le_of_not_lt fun h => by have := digits_length_mono B32_gt h; omega
    have e1 := (natBy_ok true (limbs x) (limbs_lt x) (limbs x).length rfl (by omega) 1000000000 (by omega) (by omega)).frz2 rfl
    have e2 := cut_ok false (byL 1000000000 (limbs x)).1 (byL_digits (by omega) _ (limbs_lt x)) (limbs x).length (byL_length _ _)
    obtain ⟨hq, hr⟩ := byL_quo (d := 1000000000) (by omega) (limbs x)
    rw [val_limbs] at hq hr
    rw [hq] at e2
    rw [hr] at e1
    obtain ⟨D, hD⟩ : ∃ D, D = dV .u32 (byL 1000000000 (limbs x)).1 := ⟨_, rfl⟩
    rw [← hD] at e1 e2
    have hDl : D.length = (limbs x).length := by rw [hD, dV_length, byL_length]
    have hDr : refsL D = [] := by rw [hD]; exact refsL_dV _ _
    have hxe : (limbs x = []) = False := eq_false fun k => hx0 ((digits_ne_nil B32_gt).1 k)
    have hxl : 0 < (limbs x).length := by
      cases hc : limbs x with
      | nil => rw [hc] at hxe; simp [-map_take,-map_drop] at hxe
      | cons a t => simp [-map_take,-map_drop]
    have g1 : (0 < (limbs x).length) = True := eq_true hxl
    obtain ⟨q, hqd⟩ : ∃ q, q = x / 1000000000 := ⟨_, rfl⟩
    obtain ⟨r, hrd⟩ : ∃ r, r = x % 1000000000 := ⟨_, rfl⟩
    rw [← hqd] at e2
    rw [← hrd] at e1
    have hI : o ++ decD (r + 10 ^ (9 - 0) * q) = decD n := by
      rw [← ho, hrd, hqd]
      congr 2
      show x % 1000000000 + 1000000000 * (x / 1000000000) = x
      omega
    have hr9 : r < 10 ^ (9 - 0) := by rw [hrd]; show x % 1000000000 < 1000000000; omega
    have hqx : q < x := by omega
    clear hq hr hD hqd hrd ho
    repeat' (first
      | with_reducible first | apply thenW_n | apply W_seq | apply W_block | apply W_skip
      | with_reducible refine W_rg ?_
      | (rw [vcn]; (try simp [-map_take,-map_drop, push_cast, numC, ← limbs.eq_1, g1, hxe]))
      | (with_reducible refine W_condW ?_; (try simp [-map_take,-map_drop, AS.val, upd, resB, mkS_env, mkS_box, lk, entry_env, condW_true, condW_false, numC, ← limbs.eq_1, g1, hxe]))
      | fail)
    refine CallG_of (e1) rfl rfl rfl ?_
    try dsimp only
    repeat' (first
      | with_reducible first | apply thenW_n | apply W_seq
      | with_reducible refine W_rg ?_
      | (rw [vcn]; (try simp [-map_take,-map_drop, push_cast, numC, ← limbs.eq_1, g1, hDl, hDr]))
      | fail)
    refine CallG_of (e2) rfl rfl rfl ?_
    try dsimp only
    repeat' (first
      | with_reducible first | apply thenW_n | apply W_seq | apply W_block
      | with_reducible refine W_rg ?_
      | (rw [vcn]; (try simp [-map_take,-map_drop, push_cast, natAV, numC, ← limbs.eq_1, hDl, hDr]))
      | fail)
    refine W_loopW (X := Nat × Nat × List Nat) (fun y => [(3, .bs 500 1 0 y.2.2.length), (4, natC q), (6, iV .u32 y.2.1), (24, i64V y.1)]) (fun y => [(500, .mut 5 (dV .u8 y.2.2))])
      (fun y => 9 - y.1) (fun y => y.1 ≤ 9 ∧ y.2.1 < 10 ^ (9 - y.1) ∧ y.2.2 ++ decD (y.2.1 + 10 ^ (9 - y.1) * q) = decD n) (0, r, o) id ⟨by omega, hr9, hI⟩ ⟨?_, ?_, ?_, ?_, ?_, ?_⟩ fun y hy => ?_
    all_goals first | (with_reducible refine W_id ?_) | (simp [-map_take,-map_drop, push_cast, dV_take, dV_drop, numC, ← limbs.eq_1]; done)
    clear hr9 hI
    obtain ⟨i, r, o⟩ := y
    obtain ⟨hi, hr, ho⟩ := hy
    simp only at hi hr ho
    have hrlt : r < 1000000000 + 1 := by
      have : 10 ^ (9 - i) ≤ 10 ^ 9 := Nat.pow_le_pow_right (by omega) (by omega)
      omega
    by_cases hi9 : i = 9
    · subst hi9
      have hr0 : r = 0 := by have : 10 ^ (9 - 9) = 1 := rfl
                             omega
      subst hr0
      have hI : o ++ decD q = decD n := by
        rw [← ho]
        congr 2
        show q = 0 + 1 * q
        omega
      repeat' (first
        | with_reducible first | apply thenW_n | apply thenW_exit | apply blockW_n | apply blockW_same | apply loopW_exit | apply W_seq | apply W_exit
        | with_reducible refine W_rg ?_
        | (rw [vcn]; (try simp [-map_take,-map_drop, push_cast, numC, ← limbs.eq_1]))
        | (with_reducible refine W_condW ?_; (try simp [-map_take,-map_drop, AS.val, upd, resB, mkS_env, mkS_box, lk, entry_env, condW_true, condW_false, numC, ← limbs.eq_1]))
        | fail)
      refine loopW_n (q, o) id (by simp only; omega) ⟨by simp only; omega, hI⟩ ⟨?_, ?_, ?_, ?_, ?_, ?_⟩
      all_goals first | (simp [-map_take,-map_drop, push_cast, dV_take, dV_drop, numC, ← limbs.eq_1]; done)
    · have g2 : ((i : Int) < 9) = True := eq_true (by omega)
      have g2' : (i < 9) = True := eq_true (by omega)
      by_cases hz : r = 0 ∧ q = 0
      · obtain ⟨hz1, hz2⟩ := hz
        subst hz1 hz2
        have e : limbs 0 = [] := rfl
        have e0 : 0 + 10 ^ (9 - i) * 0 = 0 := by simp [-map_take,-map_drop]
        have hI : o ++ decD 0 = decD n := by rw [e0] at ho; exact ho
        repeat' (first
          | with_reducible first | apply thenW_n | apply thenW_exit | apply blockW_n | apply blockW_same | apply loopW_exit | apply W_seq | apply W_block | apply W_skip | apply W_exit
          | with_reducible refine blockW_other (by decide) ?_
          | with_reducible refine W_rg ?_
          | (rw [vcn]; (try simp [-map_take,-map_drop, push_cast, numC, ← limbs.eq_1, g2, g2', e]))
          | (with_reducible refine W_condW ?_; (try simp [-map_take,-map_drop, AS.val, upd, resB, mkS_env, mkS_box, lk, entry_env, condW_true, condW_false, numC, ← limbs.eq_1, g2, g2', e]))
          | fail)
        refine loopW_n (0, o) id (by simp only; omega) ⟨by simp only; omega, hI⟩ ⟨?_, ?_, ?_, ?_, ?_, ?_⟩
        all_goals first | (simp [-map_take,-map_drop, push_cast, dV_take, dV_drop, numC, ← limbs.eq_1, e]; done)
      · obtain ⟨st1, st2⟩ := text_step (by omega) hr hz
        rw [st1] at ho
        have hI : (o ++ [48 + r % 10]) ++ decD (r / 10 + 10 ^ (9 - (i + 1)) * q) = decD n := by rw [← ho, List.append_assoc]; rfl
        have hol : o.length ≤ (decD n).length := by
          have := congrArg List.length hI
          rw [List.length_append, List.length_append] at this
          omega
        have hm : (r : Int).tmod 10 = ((r % 10 : Nat) : Int) := by rw [Int.tmod_eq_emod_of_nonneg (by omega)]; omega
        have hd : (r : Int).tdiv 10 = ((r / 10 : Nat) : Int) := by rw [Int.tdiv_eq_ediv_of_nonneg (by omega)]; omega
        have hw1 : IntKind.u32.wrap (48 + ((r % 10 : Nat) : Int)) = ((48 + r % 10 : Nat) : Int) := by rw [IntKind.wrap_u32]; omega
        have hw2 : IntKind.u8.wrap ((48 + r % 10 : Nat) : Int) = ((48 + r % 10 : Nat) : Int) := by
          have : IntKind.u8.wrap ((48 + r % 10 : Nat) : Int) = ((48 + r % 10 : Nat) : Int) % 256 := rfl
          rw [this]; omega
        have hw3 : IntKind.i64.wrap ((i : Int) + 1) = ((i + 1 : Nat) : Int) := by rw [i64_in _ (by omega)]; omega
        have hw4 : IntKind.u32.wrap ((r / 10 : Nat) : Int) = ((r / 10 : Nat) : Int) := by rw [IntKind.wrap_u32]; omega
        obtain ⟨c, hc⟩ : ∃ c, c = r % 10 := ⟨_, rfl⟩
        obtain ⟨r', hr'⟩ : ∃ c, c = r / 10 := ⟨_, rfl⟩
        obtain ⟨d, hdd⟩ : ∃ d, d = 48 + c := ⟨_, rfl⟩
        rw [← hc] at hm hw1 hw2 hI
        rw [← hr'] at hd hI st2 hw4
        rw [← hdd] at hw1 hw2 hI
        by_cases hr0 : r = 0
        · have g3 : (r = 0) = True := eq_true hr0
          have hq0 : ¬ q = 0 := fun k => hz ⟨hr0, k⟩
          have hqn : ¬ limbs q = [] := fun k => hq0 ((digits_ne_nil B32_gt).1 k)
          have g4 : (limbs q = []) = False := eq_false fun k => hq0 ((digits_ne_nil B32_gt).1 k)
          repeat' (first
            | with_reducible first | apply thenW_n | apply blockW_n | apply W_seq | apply W_block | apply W_skip
            | with_reducible refine W_rg ?_
            | (rw [vcn]; (try simp [-map_take,-map_drop, push_cast, numC, ← limbs.eq_1, g2, g2', g3, g4, hm, hd, hw1, hw2, hw3, hw4]))
            | (with_reducible refine W_condW ?_; (try simp [-map_take,-map_drop, AS.val, upd, resB, mkS_env, mkS_box, lk, entry_env, condW_true, condW_false, numC, ← limbs.eq_1, g2, g2', g3, g4, hm, hd, hw1, hw2, hw3, hw4]))
            | refine And.intro (by first | omega | kernel_rfl) ?_
            | ((with_reducible refine condW_b (fun hc => ?_) (fun hc => ?_) <;> (try simp [-map_take,-map_drop, Int.ofNat_inj] at hc) <;> (try contradiction)))
            | fail)
          refine loopW_n (i + 1, r', o ++ [d]) (fun i => if i = 500 then 39 else i) (by simp only; omega) ⟨by simp only; omega, st2, hI⟩ ⟨?_, ?_, ?_, ?_, ?_, ?_⟩
          all_goals first | (simp [-map_take,-map_drop, push_cast, dV_take, dV_drop, numC, ← limbs.eq_1]; done) | (simp [-map_take,-map_drop, push_cast, dV_take, dV_drop, numC, ← limbs.eq_1]; omega)
        · have g3 : (r = 0) = False := eq_false hr0
          repeat' (first
            | with_reducible first | apply thenW_n | apply blockW_n | apply W_seq | apply W_block | apply W_skip
            | with_reducible refine W_rg ?_
            | (rw [vcn]; (try simp [-map_take,-map_drop, push_cast, numC, ← limbs.eq_1, g2, g2', g3, hm, hd, hw1, hw2, hw3, hw4]))
            | (with_reducible refine W_condW ?_; (try simp [-map_take,-map_drop, AS.val, upd, resB, mkS_env, mkS_box, lk, entry_env, condW_true, condW_false, numC, ← limbs.eq_1, g2, g2', g3, hm, hd, hw1, hw2, hw3, hw4]))
            | refine And.intro (by first | omega | kernel_rfl) ?_
            | fail)
          refine loopW_n (i + 1, r', o ++ [d]) (fun i => if i = 500 then 39 else i) (by simp only; omega) ⟨by simp only; omega, st2, hI⟩ ⟨?_, ?_, ?_, ?_, ?_, ?_⟩
          all_goals first | (simp [-map_take,-map_drop, push_cast, dV_take, dV_drop, numC, ← limbs.eq_1]; done) | (simp [-map_take,-map_drop, push_cast, dV_take, dV_drop, numC, ← limbs.eq_1]; omega)
end Go.Fw
-- VALS: zAV, zC, ratAV, ratC, ptAV, ptC
namespace Go.Fw
open Go Go.Proofs Go.IntWalk
set_option linter.unusedSimpArgs false
set_option maxRecDepth 100000
set_option maxHeartbeats 20000000
def intText (z : Int) : List Nat := if z < 0 then 45 :: natText z.natAbs else natText z.natAbs
def ratText (q : Rat) : List Nat := if q.den = 1 then intText q.num else intText q.num ++ (47 :: natText q.den)
def ptText (p : FP) : List Nat := ratText p.x.q ++ (32 :: ratText p.y.q)
theorem intText_len (z : Int) : (intText z).length ≤ 10 * (limbs z.natAbs).length + 2 := by
  have := natText_len z.natAbs
  unfold intText
  split
  · rw [List.length_cons]; omega
  · omega
theorem ratText_len (q : Rat) : (ratText q).length ≤ 10 * szQ q + 4 := by
  have h1 := intText_len q.num
  have h2 := natText_len q.den
  unfold ratText szQ
  split
  · omega
  · rw [List.length_append, List.length_cons]; omega
open List (map_take map_drop)
attribute [local push_cast] optK_some optK_none optK_ite optK_map optK_bind gOn stepK isMem evPure evMem evBin evUn evConv evLen evBuiltin evMinMax evSlice evBuild evAppend evIndex evIndexAddr evField evFieldAddr intBin strBin appDest AS.val AS.mem AS.elems AS.put AS.put' AS.eff AV.cells? AV.isCell AV.refs all_isByte take_byteV drop_byteV strOf_map bndOk bnd partAV ptrAdd killBox catA inOrder fillA setAt ofVal resB upd byteV List.head?_take List.head?_drop List.getElem?_map mkS_env mkS_box mkS_used entry_env entry_box entry_used lk stepD lookIds Oper.looksAt Op.operands Call.operands St.ids refsL renL_append ren renL renBox Box.refs iV i64V boolV dV_getElem dV_app dV_cons toNat_add2 toNat_add1
attribute [local simp ↓] numC_refs numC_isCell numC_cells numC_resB numC_resD numC_ren numC_closeC numC_isOwn
theorem zedText_ok (z : Int) (h : (limbs z.natAbs).length ≤ 1000000) : Eval Try.prog 46 [zAV z] (.ret (strD (intText z))) := by
  refine Eval.intro Try.func46 rfl Try.call46 _ _ (Nat.le_of_ble_eq_true rfl) (by simp [-map_take,-map_drop, AV.refs, refsL, natAV, zAV, zC, ratAV, ratC, ptAV, ptC, push_cast]) fun hs0 => ?_
  have e1 := natText_ok z.natAbs h (by have := decD_len z.natAbs; omega)
  have hl := natText_len z.natAbs
  obtain ⟨L, hL⟩ : ∃ L, L = natText z.natAbs := ⟨_, rfl⟩
  rw [← hL] at e1 hl
  by_cases h0 : z < 0
  · have g1 : (z < 0) = True := eq_true h0
    have hr : intText z = 45 :: L := by rw [intText, if_pos h0, ← hL]
    have hb : (⟨#[45]⟩ : ByteArray) = bytesD [45] := rfl
    have hs : (bytesD L).size ≤ 9223372036854775806 := by rw [bytesD_size]; omega
    rw [hr]
    repeat' (first
      | with_reducible first | apply thenW_n | apply W_seq
      | with_reducible refine W_rg ?_
      | (rw [vcn]; (try simp [-map_take,-map_drop, push_cast, zAV, zC, g1]))
      | (with_reducible refine W_condW ?_; (try simp [-map_take,-map_drop, AS.val, upd, resB, mkS_env, mkS_box, lk, entry_env, condW_true, condW_false, zAV, zC, g1]))
      | fail)
    refine CallG_of (e1) rfl rfl rfl ?_
    try dsimp only
    repeat' (first
      | with_reducible first | apply thenW_n | apply thenW_ret | apply W_ret
      | (rw [vcn]; (try simp [-map_take,-map_drop, push_cast, strD, hb, bytesD_size, bytesD_add]))
      | refine And.intro (by first | omega | kernel_rfl) ?_
      | fail)
    simp [-map_take,-map_drop, post, resAV, resAll, resOne, closeV, closeC, closeL, resD, resDL, push_cast, strD]
  · have g1 : (z < 0) = False := eq_false h0
    have hr : intText z = L := by rw [intText, if_neg h0, ← hL]
    rw [hr]
    repeat' (first
      | with_reducible first | apply thenW_n | apply W_seq | apply W_skip
      | with_reducible refine W_rg ?_
      | (rw [vcn]; (try simp [-map_take,-map_drop, push_cast, zAV, zC, g1]))
      | (with_reducible refine W_condW ?_; (try simp [-map_take,-map_drop, AS.val, upd, resB, mkS_env, mkS_box, lk, entry_env, condW_true, condW_false, zAV, zC, g1]))
      | fail)
    refine CallG_of (e1) rfl rfl rfl ?_
    try dsimp only
    repeat' (first
      | with_reducible first | apply thenW_n | apply W_ret
      | (rw [vcn]; (try simp [-map_take,-map_drop, push_cast, strD]))
      | fail)
    simp [-map_take,-map_drop, post, resAV, resAll, resOne, closeV, closeC, closeL, resD, resDL, push_cast, strD]
theorem fracText_ok (r : FQ) (h : szQ r.q ≤ 1000000) : Eval Try.prog 14 [ratAV r] (.ret (strD (ratText r.q))) := by
  refine Eval.intro Try.func14 rfl Try.call14 _ _ (Nat.le_of_ble_eq_true rfl) (by simp [-map_take,-map_drop, AV.refs, refsL, natAV, zAV, zC, ratAV, ratC, ptAV, ptC, push_cast]) fun hs0 => ?_
  have h' := h
  unfold szQ at h'
  have e1 := den_ok r h
  have e2 := ofZ_ok 1 (by omega)
  have e3 := cmpZ_ok (r.q.den : Int) 1
  have e4 := zedText_ok r.q.num (by omega)
  have e5 := zedText_ok (r.q.den : Int) (by rw [Int.natAbs_natCast]; omega)
  have l1 := intText_len r.q.num
  have l2 := intText_len (r.q.den : Int)
  rw [Int.natAbs_natCast] at l2
  have hd : intText (r.q.den : Int) = natText r.q.den := by
    unfold intText
    rw [if_neg (by omega), Int.natAbs_natCast]
  by_cases h1 : r.q.den = 1
  · have hr : ratText r.q = intText r.q.num := by rw [ratText, if_pos h1]
    have hc : cmpZ (r.q.den : Int) 1 = 0 := by rw [h1]; rfl
    rw [hr]
    rw [hc] at e3
    obtain ⟨L, hL⟩ : ∃ L, L = intText r.q.num := ⟨_, rfl⟩
    rw [← hL] at e4 ⊢
    obtain ⟨D, hD⟩ : ∃ D, D = (r.q.den : Int) := ⟨_, rfl⟩
    rw [← hD] at e1 e3
    clear hL hD e5 hr hc h1 hd l1 l2
    repeat' (first
      | with_reducible first | apply thenW_n | apply W_seq
      | with_reducible refine W_rg ?_
      | (rw [vcn]; (try simp [-map_take,-map_drop, push_cast, ratAV, ratC, zAV, zC]))
      | fail)
    refine CallG_of (e1) rfl rfl rfl ?_
    try dsimp only
    repeat' (first
      | with_reducible first | apply thenW_n | apply W_seq
      | (rw [vcn]; (try simp [-map_take,-map_drop, push_cast, zAV, zC]))
      | with_reducible refine W_drawn mixed (by decide) (by kernel_rfl) ?_
      | (rw [vcnD]; (try simp [-map_take,-map_drop, push_cast, zAV, zC]))
      | fail)
    refine callD_of (e2) rfl rfl rfl ?_
    try dsimp only
    repeat' (first
      | (rw [vcnD]; (try simp [-map_take,-map_drop, push_cast, zAV, zC]))
      | fail)
    refine callD_of (e3) rfl rfl rfl ?_
    try dsimp only
    repeat' (first
      | with_reducible first | apply thenW_n | apply W_seq | apply W_skip
      | with_reducible refine W_rg ?_
      | (rw [vcn]; (try simp [-map_take,-map_drop, push_cast, zAV, zC]))
      | (rw [vcnD]; (try simp [-map_take,-map_drop, push_cast, zAV, zC]))
      | (with_reducible refine W_condW ?_; (try simp [-map_take,-map_drop, AS.val, upd, resB, mkS_env, mkS_box, lk, entry_env, condW_true, condW_false, zAV, zC]))
      | refine And.intro (by first | omega | kernel_rfl) ?_
      | fail)
    refine CallG_of (e4) rfl rfl rfl ?_
    try dsimp only
    repeat' (first
      | with_reducible first | apply thenW_n | apply W_ret
      | (rw [vcn]; (try simp [-map_take,-map_drop, push_cast, strD]))
      | fail)
    simp [-map_take,-map_drop, post, resAV, resAll, resOne, closeV, closeC, closeL, resD, resDL, push_cast, strD]
  · have hr : ratText r.q = intText r.q.num ++ (47 :: intText (r.q.den : Int)) := by rw [ratText, if_neg h1, hd]
    have hc : ¬ cmpZ (r.q.den : Int) 1 = 0 := by unfold cmpZ; split <;> (try split) <;> omega
    rw [hr]
    obtain ⟨L, hL⟩ : ∃ L, L = intText r.q.num := ⟨_, rfl⟩
    rw [← hL] at e4 l1 ⊢
    obtain ⟨M, hM⟩ : ∃ M, M = intText (r.q.den : Int) := ⟨_, rfl⟩
    rw [← hM] at e5 l2 ⊢
    obtain ⟨c, hcc⟩ : ∃ c, c = cmpZ (r.q.den : Int) 1 := ⟨_, rfl⟩
    rw [← hcc] at e3 hc
    obtain ⟨D, hD⟩ : ∃ D, D = (r.q.den : Int) := ⟨_, rfl⟩
    rw [← hD] at e1 e3 e5
    have g1 : (c = 0) = False := eq_false hc
    have hb : (⟨#[47]⟩ : ByteArray) = bytesD [47] := rfl
    have s1 : (bytesD L).size + 1 ≤ 9223372036854775807 := by rw [bytesD_size]; omega
    have s2 : L.length + 1 + M.length ≤ 9223372036854775807 := by omega
    clear hL hM hcc hD hr hd
    repeat' (first
      | with_reducible first | apply thenW_n | apply W_seq
      | with_reducible refine W_rg ?_
      | (rw [vcn]; (try simp [-map_take,-map_drop, push_cast, ratAV, ratC, zAV, zC]))
      | fail)
    refine CallG_of (e1) rfl rfl rfl ?_
    try dsimp only
    repeat' (first
      | with_reducible first | apply thenW_n | apply W_seq
      | (rw [vcn]; (try simp [-map_take,-map_drop, push_cast, zAV, zC]))
      | with_reducible refine W_drawn mixed (by decide) (by kernel_rfl) ?_
      | (rw [vcnD]; (try simp [-map_take,-map_drop, push_cast, zAV, zC]))
      | fail)
    refine callD_of (e2) rfl rfl rfl ?_
    try dsimp only
    repeat' (first
      | (rw [vcnD]; (try simp [-map_take,-map_drop, push_cast, zAV, zC]))
      | fail)
    refine callD_of (e3) rfl rfl rfl ?_
    try dsimp only
    repeat' (first
      | with_reducible first | apply thenW_n | apply W_seq
      | with_reducible refine W_drawn mixed (by decide) (by kernel_rfl) ?_
      | (rw [vcnD]; (try simp [-map_take,-map_drop, push_cast, zAV, zC, g1]))
      | (with_reducible refine W_condW ?_; (try simp [-map_take,-map_drop, AS.val, upd, resB, mkS_env, mkS_box, lk, entry_env, condW_true, condW_false, zAV, zC, g1]))
      | refine And.intro (by first | omega | kernel_rfl) ?_
      | ((with_reducible refine condW_b (fun hc => ?_) (fun hc => ?_) <;> (try simp [-map_take,-map_drop, Int.ofNat_inj] at hc) <;> (try contradiction)))
      | fail)
    refine callD_of (e4) rfl rfl rfl ?_
    try dsimp only
    repeat' (first
      | (rw [vcnD]; (try simp [-map_take,-map_drop, push_cast, zAV, zC, strD, hb, bytesD_size, bytesD_add]))
      | refine And.intro (by first | omega | kernel_rfl) ?_
      | fail)
    refine callD_of (e5) rfl rfl rfl ?_
    try dsimp only
    repeat' (first
      | with_reducible first | apply thenW_n | apply thenW_ret | apply W_ret
      | (rw [vcnD]; (try simp [-map_take,-map_drop, push_cast, strD, hb, bytesD_size, bytesD_add, s1, s2]))
      | refine And.intro (by first | omega | kernel_rfl) ?_
      | fail)
    simp [-map_take,-map_drop, post, resAV, resAll, resOne, closeV, closeC, closeL, resD, resDL, push_cast, strD]
theorem ptText_ok (p : FP) (h : szV p ≤ 1000000) : Eval Try.prog 39 [ptAV p] (.ret (strD (ptText p))) := by
  refine Eval.intro Try.func39 rfl Try.call39 _ _ (Nat.le_of_ble_eq_true rfl) (by simp [-map_take,-map_drop, AV.refs, refsL, natAV, zAV, zC, ratAV, ratC, ptAV, ptC, push_cast]) fun hs0 => ?_
  have h' := h
  unfold szV at h'
  have e1 := fracText_ok p.x (by omega)
  have e2 := fracText_ok p.y (by omega)
  have l1 := ratText_len p.x.q
  have l2 := ratText_len p.y.q
  unfold ptText
  obtain ⟨L, hL⟩ : ∃ L, L = ratText p.x.q := ⟨_, rfl⟩
  rw [← hL] at e1 l1 ⊢
  obtain ⟨M, hM⟩ : ∃ M, M = ratText p.y.q := ⟨_, rfl⟩
  rw [← hM] at e2 l2 ⊢
  have hb : (⟨#[32]⟩ : ByteArray) = bytesD [32] := rfl
  clear hL hM
  repeat' (first
    | with_reducible first | apply thenW_n | apply W_seq
    | with_reducible refine W_rg ?_
    | (rw [vcn]; (try simp [-map_take,-map_drop, push_cast, ptAV, ptC, ratAV, ratC, zAV, zC]))
    | with_reducible refine W_drawn mixed (by decide) (by kernel_rfl) ?_
    | (rw [vcnD]; (try simp [-map_take,-map_drop, push_cast, ptAV, ptC, ratAV, ratC, zAV, zC]))
    | fail)
  refine callD_of (e1) rfl rfl rfl ?_
  try dsimp only
  repeat' (first
    | (rw [vcnD]; (try simp [-map_take,-map_drop, push_cast, ptAV, ptC, ratAV, ratC, zAV, zC, strD, hb, bytesD_size, bytesD_add]))
    | refine And.intro (by first | omega | kernel_rfl) ?_
    | fail)
  refine callD_of (e2) rfl rfl rfl ?_
  try dsimp only
  repeat' (first
    | with_reducible first | apply thenW_n | apply W_ret
    | (rw [vcnD]; (try simp [-map_take,-map_drop, push_cast, strD, hb, bytesD_size, bytesD_add]))
    | refine And.intro (by first | omega | kernel_rfl) ?_
    | fail)
  simp [-map_take,-map_drop, post, resAV, resAll, resOne, closeV, closeC, closeL, resD, resDL, push_cast, strD]
end Go.Fw
