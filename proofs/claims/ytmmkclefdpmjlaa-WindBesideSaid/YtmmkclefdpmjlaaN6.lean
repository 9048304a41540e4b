/- nat: by. -/
import Derived.Test.YtmmkclefdpmjlaaN1
set_option linter.unusedSimpArgs false
set_option linter.unusedVariables false
namespace Go.Fw
open Go Go.Proofs Go.IntWalk
theorem or_shl (r x : Nat) (hr : r < 4294967296) (hx : x < 4294967296) : bOr .u64 (shlI .u64 (r : Int) 32) (x : Int) = ((r * 4294967296 + x : Nat) : Int) := by
  have h1 : shlI .u64 (r : Int) 32 = ((r * 4294967296 : Nat) : Int) := by
    unfold shlI
    rw [show (2 : Int) ^ (min (32 : Int).toNat IntKind.u64.bits) = 4294967296 from rfl, u64_in _ (by omega)]; omega
  have h2 : (BitVec.ofInt IntKind.u64.bits ((r * 4294967296 : Nat) : Int) ||| BitVec.ofInt IntKind.u64.bits (x : Int)).toNat = r * 4294967296 + x := by
    rw [BitVec.toNat_or, BitVec.ofInt_natCast, BitVec.ofInt_natCast, BitVec.toNat_ofNat, BitVec.toNat_ofNat]
    rw [Nat.mod_eq_of_lt (by simp only [IntKind.bits]; omega), Nat.mod_eq_of_lt (by simp only [IntKind.bits]; omega)]
    have := Nat.two_pow_add_eq_or_of_lt (i := 32) hx r
    rw [Nat.mul_comm r 4294967296]
    exact this.symm
  unfold bOr
  rw [h1, h2, u64_in _ (by omega)]
def byL (d : Nat) : List Nat → List Nat × Nat
  | [] => ([], 0)
  | x :: l => (((byL d l).2 * 4294967296 + x) / d :: (byL d l).1, ((byL d l).2 * 4294967296 + x) % d)
theorem byL_length (d : Nat) : ∀ l, (byL d l).1.length = l.length
  | [] => rfl
  | x :: l => by simp [byL, byL_length d l]
theorem byL_lt {d : Nat} (hd : 0 < d) : ∀ l, (byL d l).2 < d
  | [] => hd
  | x :: l => Nat.mod_lt _ hd
theorem byL_val {d : Nat} (hd : 0 < d) : ∀ l, val B32 l = val B32 (byL d l).1 * d + (byL d l).2
  | [] => by simp [byL, val]
  | x :: l => by
    have h1 := Nat.div_add_mod ((byL d l).2 * 4294967296 + x) d
    have ih := byL_val hd l
    simp only [byL, val]
    have h2 : (((byL d l).2 * 4294967296 + x) / d + B32 * val B32 (byL d l).1) * d = d * (((byL d l).2 * 4294967296 + x) / d) + B32 * (val B32 (byL d l).1 * d) := by rw [Nat.add_mul, Nat.mul_comm _ d, Nat.mul_assoc]
    have h3 : B32 * val B32 l = B32 * (val B32 (byL d l).1 * d) + (byL d l).2 * 4294967296 := by rw [ih, Nat.mul_add]; show _ + 4294967296 * _ = _; omega
    omega
theorem byL_digits {d : Nat} (hd : 0 < d) : ∀ l, (∀ x ∈ l, x < B32) → ∀ y ∈ (byL d l).1, y < B32
  | [], _, y, h => by cases h
  | x :: l, hl, y, h => by
    simp only [byL, List.mem_cons] at h
    rcases h with rfl | h
    · have hx := hl x (by simp)
      have hr := byL_lt hd l
      rw [Nat.div_lt_iff_lt_mul hd]
      have h1 : ((byL d l).2 + 1) * 4294967296 ≤ d * 4294967296 := Nat.mul_le_mul_right _ hr
      show _ < 4294967296 * d
      have hx' : x < 4294967296 := hx
      omega
    · exact byL_digits hd l (fun z hz => hl z (by simp [hz])) y h
theorem byL_quo {d : Nat} (hd : 0 < d) (l : List Nat) : val B32 (byL d l).1 = val B32 l / d ∧ (byL d l).2 = val B32 l % d := by
  have h1 := byL_val hd l
  have h2 := byL_lt hd l
  constructor
  · rw [h1, Nat.mul_comm, Nat.mul_add_div hd, Nat.div_eq_of_lt h2]; omega
  · rw [h1, Nat.mul_comm, Nat.mul_add_mod, Nat.mod_eq_of_lt h2]
set_option linter.unusedSimpArgs false
set_option maxRecDepth 100000
set_option maxHeartbeats 4000000
open List (map_take map_drop)
attribute [local push_cast] optK_some optK_none optK_ite optK_map optK_bind gOn stepK isMem evPure evMem evBin evUn evConv evLen evBuiltin evMinMax evSlice evBuild evAppend evIndex evIndexAddr evField evFieldAddr intBin strBin appDest AS.val AS.mem AS.elems AS.put AS.put' AS.eff AV.cells? AV.isCell AV.refs all_isByte take_byteV drop_byteV strOf_map bndOk bnd partAV ptrAdd killBox catA inOrder fillA setAt ofVal resB upd byteV List.head?_take List.head?_drop List.getElem?_map mkS_env mkS_box mkS_used entry_env entry_box entry_used lk stepD lookIds Oper.looksAt Op.operands Call.operands St.ids refsL renL_append ren renL renBox Box.refs iV i64V boolV dV_getElem dV_app dV_cons toNat_add2 toNat_add1
attribute [local simp ↓] numC_refs numC_isCell numC_cells numC_resB numC_resD numC_ren numC_closeC numC_isOwn
theorem natBy_ok (f : Bool) (l : List Nat) (hl : ∀ d ∈ l, d < B32) (n : Nat) (hn : l.length = n) (hb : n ≤ 20000000) (d : Nat) (hd : 0 < d) (hd32 : d < 4294967296) :
    Eval Try.prog 111 [.slc f 1 n (dV .u32 l), iV .u32 d] (.ret (.tup [.own 148 1 n (dV .u32 (byL d l).1), iV .u32 (byL d l).2])) := by
  refine Eval.intro Try.func111 rfl Try.call111 _ _ (Nat.le_of_ble_eq_true rfl) (by simp [-map_take,-map_drop, AV.refs, refsL, natAV, push_cast]) fun hs0 => ?_
  repeat' (first
    | with_reducible first | apply thenW_n | apply W_seq | apply W_block
    | with_reducible refine W_rg ?_
    | (rw [vcn]; (try simp [-map_take,-map_drop, push_cast]); try simp (disch := omega) only [i64_in, u64_in, shr64i])
    | refine And.intro (by first | omega | kernel_rfl) ?_
    | fail)
  have en : l.drop n = [] := by rw [← hn, List.drop_length]
  refine W_loopW (X := Nat × List Nat) (fun i => [(0, .slc f 1 n (dV .u32 l)), (1, iV .u32 d), (6, .bs 500 1 0 n), (7, iV .u64 (byL d (l.drop i.1)).2), (8, i64V ((i.1 : Int) - 1))])
    (fun i => [(500, .mut 148 (dV .u32 i.2))])
    (fun i => i.1) (fun i => i.1 ≤ n ∧ i.2 = List.replicate i.1 0 ++ (byL d (l.drop i.1)).1) (n, List.replicate n 0) (fun i => if i = 500 then 11 else i) ⟨Nat.le_refl _, by simp [-map_take,-map_drop, en, byL]⟩ ⟨?_, ?_, ?_, ?_, ?_, ?_⟩ fun i hi => ?_
  all_goals first | (with_reducible refine W_id ?_) | (simp [-map_take,-map_drop, push_cast, dV_take, dV_drop, en, byL, dV_replicate]; done) | (simp [-map_take,-map_drop, push_cast, dV_take, dV_drop, en, byL, dV_replicate]; omega)
  obtain ⟨i, o⟩ := i
  obtain ⟨hi, ho⟩ := hi
  simp only at hi ho
  have hol : o.length = n := by rw [ho]; simp [-map_take,-map_drop, byL_length, hn]; omega
  have hd0 : ¬ d = 0 := by omega
  rcases Nat.eq_zero_or_pos i with h0 | h0
  · subst h0
    simp [-map_take,-map_drop] at ho
    have h1 := byL_lt hd l
    repeat' (first
      | with_reducible first | apply thenW_n | apply thenW_exit | apply blockW_same | apply loopW_exit | apply W_seq | apply W_ret | apply W_exit
      | with_reducible refine W_rg ?_
      | (rw [vcn]; (try simp [-map_take,-map_drop, push_cast, IntKind.wrap_u32]))
      | (with_reducible refine W_condW ?_; (try simp [-map_take,-map_drop, AS.val, upd, resB, mkS_env, mkS_box, lk, entry_env, condW_true, condW_false, IntKind.wrap_u32]))
      | fail)
    have hm : ((byL d l).2 : Int) % 4294967296 = (byL d l).2 := by omega
    simp [-map_take,-map_drop, post, resAV, resAll, resOne, closeV, closeC, closeL, resD, resDL, push_cast, hm, byL_length, hn, hd0, ho]
  · obtain ⟨j, rfl⟩ : ∃ j, i = j + 1 := ⟨i - 1, by omega⟩
    have hj : ((j + 1 : Nat) : Int) - 1 = (j : Int) := by omega
    obtain ⟨r, hrd⟩ : ∃ r, r = (byL d (l.drop (j + 1))).2 := ⟨_, rfl⟩
    obtain ⟨q, hqd⟩ : ∃ q, q = (byL d (l.drop (j + 1))).1 := ⟨_, rfl⟩
    obtain ⟨x, hxd⟩ : ∃ x, x = dg l j := ⟨_, rfl⟩
    have hr : r < d := by rw [hrd]; exact byL_lt hd _
    have hx : x < 4294967296 := by rw [hxd]; exact dg_lt (by decide) hl j
    have hor := or_shl r x (by omega) hx
    have hq : ((r : Int) * 4294967296 + (x : Int)).tdiv (d : Int) = (((r * 4294967296 + x) / d : Nat) : Int) := by
      rw [show (r : Int) * 4294967296 + (x : Int) = ((r * 4294967296 + x : Nat) : Int) from by omega, Int.ofNat_tdiv]
    have hm : ((r : Int) * 4294967296 + (x : Int)).tmod (d : Int) = (((r * 4294967296 + x) % d : Nat) : Int) := by
      rw [show (r : Int) * 4294967296 + (x : Int) = ((r * 4294967296 + x : Nat) : Int) from by omega, Int.ofNat_tmod]
    have hjl : j < l.length := by omega
    have hd1 : l.drop j = x :: l.drop (j + 1) := by rw [List.drop_eq_getElem_cons hjl, hxd, dg_eq hjl]
    have hb1 : byL d (l.drop j) = ((r * 4294967296 + x) / d :: q, (r * 4294967296 + x) % d) := by rw [hd1]; simp only [byL]; rw [← hrd, ← hqd]
    have hdig : (r * 4294967296 + x) / d < 4294967296 := by
      have := byL_digits hd (l.drop j) (fun y hy => hl y (List.mem_of_mem_drop hy)) ((r * 4294967296 + x) / d) (by rw [hb1]; simp [-map_take,-map_drop])
      exact this
    have hset := dV_set' .u32 o j ((r * 4294967296 + x) / d) (by omega)
    have hse : o.set j ((r * 4294967296 + x) / d) = List.replicate j 0 ++ (r * 4294967296 + x) / d :: q := by
      rw [ho, ← hqd, List.replicate_succ', List.append_assoc, List.set_append_right _ _ (by simp [-map_take,-map_drop])]
      simp [-map_take,-map_drop]
    have hwI : IntKind.u64.wrap (((r : Int) * 4294967296 + (x : Int)) / (d : Int)) = (((r * 4294967296 + x) / d : Nat) : Int) := by
      rw [show ((r : Int) * 4294967296 + (x : Int)) / (d : Int) = (((r * 4294967296 + x) / d : Nat) : Int) from by simp [-map_take,-map_drop]]
      generalize (r * 4294967296 + x) / d = v at hdig
      rw [u64_in _ (by omega)]
    have hwJ : (((r : Int) * 4294967296 + (x : Int)) / (d : Int)) % 4294967296 = (((r * 4294967296 + x) / d : Nat) : Int) := by
      rw [show ((r : Int) * 4294967296 + (x : Int)) / (d : Int) = (((r * 4294967296 + x) / d : Nat) : Int) from by simp [-map_take,-map_drop]]
      generalize (r * 4294967296 + x) / d = v at hdig
      omega
    repeat' (first
      | with_reducible first | apply thenW_n | apply blockW_n | apply W_seq | apply W_block | apply W_skip
      | with_reducible refine W_rg ?_
      | (rw [vcn]; (try simp [-map_take,-map_drop, push_cast, hj, ← hrd, ← hqd, ← hxd, hor, hq, hm, hd0, hwI, IntKind.wrap_u32]); try simp (disch := omega) only [i64_in, u64_in, shr64i])
      | (with_reducible refine W_condW ?_; (try simp [-map_take,-map_drop, AS.val, upd, resB, mkS_env, mkS_box, lk, entry_env, condW_true, condW_false, hj, ← hrd, ← hqd, ← hxd, hor, hq, hm, hd0, hwI, IntKind.wrap_u32]))
      | (with_reducible refine optK_dV (by first | omega | (simp [-map_take,-map_drop]; omega)) ?_)
      | refine And.intro (by first | omega | kernel_rfl) ?_
      | fail)
    refine loopW_n (j, o.set j ((r * 4294967296 + x) / d)) id (by simp [-map_take,-map_drop]) ⟨by simp [-map_take,-map_drop]; omega, by simp only; rw [hse, hb1]⟩ ⟨?_, ?_, ?_, ?_, ?_, ?_⟩
    all_goals first | (simp [-map_take,-map_drop, push_cast, dV_take, dV_drop, hset, hb1, hwJ]; done)
end Go.Fw
