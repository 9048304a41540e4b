/- frac: Least. -/
import Derived.Test.YtjaohdeicocgnaaR5
set_option linter.unusedSimpArgs false
set_option linter.unusedVariables false
-- VALS: zAV, zC, ratAV, ratC
namespace Go.Fw
open Go Go.Proofs Go.IntWalk
set_option linter.unusedSimpArgs false
set_option maxRecDepth 100000
set_option maxHeartbeats 4000000

def ratsC (l : List FQ) : List AV := l.flatMap ratC
theorem ratC_len (r : FQ) : (ratC r).length = 4 := rfl
theorem ratsC_len (l : List FQ) : (ratsC l).length = l.length * 4 := by
  induction l with
  | nil => rfl
  | cons x t ih => simp [ratsC, ratC_len] at *; omega
theorem ratsC_drop (l : List FQ) (i : Nat) : (ratsC l).drop (i * 4) = ratsC (l.drop i) := by
  induction l generalizing i with
  | nil => simp [ratsC]
  | cons x t ih =>
    cases i with
    | zero => simp
    | succ i =>
      have e : (i + 1) * 4 = (ratC x).length + i * 4 := by rw [ratC_len]; omega
      show (ratC x ++ ratsC t).drop _ = _
      rw [e, List.drop_append, Nat.add_sub_cancel_left, ih]
      simp

def lessQ (a b : Rat) : Prop := cmpZ (a.num * b.den) (b.num * a.den) < 0
instance (a b : Rat) : Decidable (lessQ a b) := by unfold lessQ; infer_instance
def leastOf (l : List FQ) : FQ := match l with
  | [] => FQ.zero
  | x :: t => t.foldl (fun o x => if lessQ x.q o.q then x else o) x

theorem leastOf_snoc (l : List FQ) (x : FQ) (h : 0 < l.length) : leastOf (l ++ [x]) = if lessQ x.q (leastOf l).q then x else leastOf l := by
  cases l with
  | nil => simp at h
  | cons a t =>
    show List.foldl _ a (t ++ [x]) = _
    rw [List.foldl_append]; rfl
theorem least_fold_mem (t : List FQ) (a : FQ) : t.foldl (fun o x => if lessQ x.q o.q then x else o) a ∈ a :: t := by
  induction t generalizing a with
  | nil => simp
  | cons x t ih =>
    rw [List.foldl_cons]
    have := ih (if lessQ x.q a.q then x else a)
    rcases List.mem_cons.1 this with h | h
    · rw [h]; split <;> simp
    · exact List.mem_cons_of_mem _ (List.mem_cons_of_mem _ h)
theorem leastOf_mem (l : List FQ) (h : 0 < l.length) : leastOf l ∈ l := by
  cases l with
  | nil => simp at h
  | cons a t => exact least_fold_mem t a

open List (map_take map_drop)
attribute [local push_cast] optK_some optK_none optK_ite optK_map optK_bind gOn stepK isMem evPure evMem evBin evUn evConv evLen evBuiltin evMinMax evSlice evBuild evAppend evIndex evIndexAddr evField evFieldAddr intBin strBin appDest AS.val AS.mem AS.elems AS.put AS.put' AS.eff AV.cells? AV.isCell AV.refs all_isByte take_byteV drop_byteV strOf_map bndOk bnd partAV ptrAdd killBox catA inOrder fillA setAt ofVal resB upd byteV List.head?_take List.head?_drop List.getElem?_map mkS_env mkS_box mkS_used entry_env entry_box entry_used lk stepD lookIds Oper.looksAt Op.operands Call.operands St.ids refsL renL_append ren renL renBox Box.refs iV i64V boolV dV_getElem dV_app dV_cons toNat_add2 toNat_add1
attribute [local simp ↓] numC_refs numC_isCell numC_cells numC_resB numC_resD numC_ren numC_closeC numC_isOwn
theorem least_ok (f : Bool) (l : List FQ) (hl : ∀ x ∈ l, szQ x.q ≤ 100000) (hn : 0 < l.length) (hm : l.length ≤ 1000000) : Eval Try.prog 36 [.slc f 4 l.length (ratsC l)] (.ret (ratAV (leastOf l))) := by
  refine Eval.intro Try.func36 rfl Try.call36 _ _ (Nat.le_of_ble_eq_true rfl) (by simp [-map_take,-map_drop, AV.refs, refsL, natAV, zAV, zC, ratAV, ratC, push_cast]) fun hs0 => ?_
  obtain ⟨n, hnn⟩ : ∃ n, n = l.length := ⟨_, rfl⟩
  rw [← hnn] at hn hm ⊢
  repeat' (first
    | with_reducible first | apply thenW_n | apply W_seq | apply W_block
    | with_reducible refine W_region (by first | decide | (with_unfolding_all rfl)) ?_
    | (rw [vcn]; (try simp [-map_take,-map_drop, push_cast]))
    | fail)
  have hlen := ratsC_len l
  rw [← hnn] at hlen
  obtain ⟨L, hL⟩ : ∃ L, L = ratsC l := ⟨_, rfl⟩
  rw [← hL] at hlen
  simp only [← hL]
  refine W_loopW (X := Nat × List AV) (fun x => [(2, .bp 2 0), (3, .bp 3 0), (6, .slc f 4 n L), (7, i64V n), (8, i64V x.1)])
    (fun x => [(2, .mut 30 [.v (.slice none 0 0), .v (.bool false), .v (.slice none 0 0), .v (.bool false)]), (3, .mut 30 x.2)])
    (fun x => n - x.1) (fun x => x.1 ≤ n ∧ ((x.1 = 0 ∧ x.2 = [.v (.slice none 0 0), .v (.bool false), .v (.slice none 0 0), .v (.bool false)]) ∨ (0 < x.1 ∧ x.2 = ratC (leastOf (l.take x.1)))))
    (0, [.v (.slice none 0 0), .v (.bool false), .v (.slice none 0 0), .v (.bool false)]) id ⟨Nat.zero_le _, Or.inl ⟨rfl, rfl⟩⟩ ⟨?_, ?_, ?_, ?_, ?_, ?_⟩ fun x hx => ?_
  all_goals first | (with_reducible refine W_id ?_) | (simp [-map_take,-map_drop, push_cast, dV_take, dV_drop]; done)
  obtain ⟨i, o⟩ := x
  obtain ⟨hi, ho⟩ := hx
  simp only at hi ho
  rcases (by omega : i = n ∨ i < n) with h0 | h0
  · subst h0
    rcases ho with ⟨ho, _⟩ | ⟨_, ho⟩
    · omega
    · rw [hnn, List.take_length] at ho
      subst ho
      repeat' (first
        | with_reducible first | apply thenW_n | apply thenW_exit | apply blockW_same | apply loopW_exit | apply W_seq | apply W_ret | apply W_exit
        | with_reducible refine W_region (by first | decide | (with_unfolding_all rfl)) ?_
        | (rw [vcn]; (try simp [-map_take,-map_drop, push_cast, ratAV, ratC, zAV, zC]))
        | (with_reducible refine W_condW ?_; (try simp [-map_take,-map_drop, AS.val, upd, resB, mkS_env, mkS_box, lk, entry_env, condW_true, condW_false, ratAV, ratC, zAV, zC]))
        | fail)
      simp [-map_take,-map_drop, post, resAV, resAll, resOne, closeV, closeC, closeL, resD, resDL, push_cast, ratAV, ratC, zAV, zC]
  · have hd := ratsC_drop l i
    have hdi : l.drop i = l[i] :: l.drop (i + 1) := List.drop_eq_getElem_cons (by omega)
    obtain ⟨x, hx⟩ : ∃ x, x = l[i] := ⟨_, rfl⟩
    obtain ⟨t, ht⟩ : ∃ t, t = ratsC (l.drop (i + 1)) := ⟨_, rfl⟩
    have hdd : ratsC (x :: l.drop (i + 1)) = ratC x ++ t := by rw [ht]; rfl
    rw [hdi, ← hx, hdd, ← hL] at hd
    have htl := congrArg List.length hd
    rw [List.length_drop, List.length_append, ratC_len, hlen] at htl
    have htk : l.take (i + 1) = l.take i ++ [x] := by rw [hx]; exact List.take_succ_eq_append_getElem (by omega)
    have hxm : x ∈ l := by rw [hx]; exact List.getElem_mem _
    clear hdd ht hdi
    rcases ho with ⟨ho, ho2⟩ | ⟨ho, ho2⟩
    · subst ho ho2
      have hl1 : ratC x = ratC (leastOf (l.take (0 + 1))) := by rw [htk]; simp [-map_take,-map_drop, leastOf]
      simp only [Nat.zero_mul, List.drop_zero] at hd
      have h4 : L.take 4 = ratC x := by rw [hd]; rfl
      have hmin : min 4 (n * 4) = 4 := by omega
      repeat' (first
        | with_reducible first | apply thenW_n | apply blockW_n | apply W_seq | apply W_block | apply W_skip
        | with_reducible refine W_region (by first | decide | (with_unfolding_all rfl)) ?_
        | (rw [vcn]; (try simp [-map_take,-map_drop, push_cast, h4, hlen, hmin, h0, ratC, zC]); try simp (disch := omega) only [i64_in, u64_in, shr64i])
        | (with_reducible refine W_condW ?_; (try simp [-map_take,-map_drop, AS.val, upd, resB, mkS_env, mkS_box, lk, entry_env, condW_true, condW_false, h4, hlen, hmin, h0, ratC, zC]))
        | fail)
      refine loopW_n (1, ratC x) id (by simp [-map_take,-map_drop]; omega) ⟨by simp only; omega, Or.inr ⟨Nat.one_pos, hl1⟩⟩ ⟨?_, ?_, ?_, ?_, ?_, ?_⟩
      all_goals first | (simp [-map_take,-map_drop, push_cast, dV_take, dV_drop, ratC, zC]; done)
    · obtain ⟨b, hb⟩ : ∃ b, b = leastOf (l.take i) := ⟨_, rfl⟩
      have hi0 : (i = 0) = False := by simp [-map_take,-map_drop]; omega
      rw [← hb] at ho2
      subst ho2
      have hbm : b ∈ l := by rw [hb]; exact List.mem_of_mem_take (leastOf_mem _ (by rw [List.length_take]; omega))
      have hbx := hl b hbm
      have hxx := hl x hxm
      have hsn := leastOf_snoc (l.take i) x (by rw [List.length_take]; omega)
      rw [← htk, ← hb] at hsn
      have ec := cmpR_ok x b (by omega)
      obtain ⟨k, hk⟩ : ∃ k, k = cmpZ (x.q.num * b.q.den) (b.q.num * x.q.den) := ⟨_, rfl⟩
      have hlq : lessQ x.q b.q ↔ k < 0 := by rw [hk]; exact Iff.rfl
      rw [← hk] at ec
      clear hk hb
      repeat' (first
        | with_reducible first | apply thenW_n | apply W_seq | apply W_block | apply W_skip
        | with_reducible refine W_region (by first | decide | (with_unfolding_all rfl)) ?_
        | (rw [vcn]; (try simp [-map_take,-map_drop, push_cast, hd, h0, hi0, ratC, zC]))
        | (with_reducible refine W_condW ?_; (try simp [-map_take,-map_drop, AS.val, upd, resB, mkS_env, mkS_box, lk, entry_env, condW_true, condW_false, hd, h0, hi0, ratC, zC]))
        | fail)
      refine CallG_of (ec) rfl rfl rfl ?_
      try dsimp only
      by_cases hk : k < 0
      · rw [if_pos (hlq.2 hk)] at hsn
        have hc2 : ratC x = ratC (leastOf (l.take (i + 1))) := by rw [hsn]
        repeat' (first
          | with_reducible first | apply thenW_n | apply blockW_n
          | with_reducible refine W_region (by first | decide | (with_unfolding_all rfl)) ?_
          | (rw [vcn]; (try simp [-map_take,-map_drop, push_cast, hk, hi0, ratC, zC]); try simp (disch := omega) only [i64_in, u64_in, shr64i])
          | (with_reducible refine W_condW ?_; (try simp [-map_take,-map_drop, AS.val, upd, resB, mkS_env, mkS_box, lk, entry_env, condW_true, condW_false, hk, hi0, ratC, zC]))
          | fail)
        refine loopW_n (i + 1, ratC x) id (by simp [-map_take,-map_drop]; omega) ⟨by simp only; omega, Or.inr ⟨by simp [-map_take,-map_drop], hc2⟩⟩ ⟨?_, ?_, ?_, ?_, ?_, ?_⟩
        all_goals first | (simp [-map_take,-map_drop, push_cast, dV_take, dV_drop, ratC, zC]; done)
      · rw [if_neg (mt hlq.1 hk)] at hsn
        have hc2 : ratC b = ratC (leastOf (l.take (i + 1))) := by rw [hsn]
        repeat' (first
          | with_reducible first | apply thenW_n | apply blockW_n | apply W_skip
          | with_reducible refine W_region (by first | decide | (with_unfolding_all rfl)) ?_
          | (rw [vcn]; (try simp [-map_take,-map_drop, push_cast, hk, hi0, ratC, zC]); try simp (disch := omega) only [i64_in, u64_in, shr64i])
          | (with_reducible refine W_condW ?_; (try simp [-map_take,-map_drop, AS.val, upd, resB, mkS_env, mkS_box, lk, entry_env, condW_true, condW_false, hk, hi0, ratC, zC]))
          | fail)
        refine loopW_n (i + 1, ratC b) id (by simp [-map_take,-map_drop]; omega) ⟨by simp only; omega, Or.inr ⟨by simp [-map_take,-map_drop], hc2⟩⟩ ⟨?_, ?_, ?_, ?_, ?_, ?_⟩
        all_goals first | (simp [-map_take,-map_drop, push_cast, dV_take, dV_drop, ratC, zC]; done)

def moreQ (a b : Rat) : Prop := cmpZ (a.num * b.den) (b.num * a.den) > 0
instance (a b : Rat) : Decidable (moreQ a b) := by unfold moreQ; infer_instance
def mostOf (l : List FQ) : FQ := match l with
  | [] => FQ.zero
  | x :: t => t.foldl (fun o x => if moreQ x.q o.q then x else o) x

theorem mostOf_snoc (l : List FQ) (x : FQ) (h : 0 < l.length) : mostOf (l ++ [x]) = if moreQ x.q (mostOf l).q then x else mostOf l := by
  cases l with
  | nil => simp [-map_take,-map_drop] at h
  | cons a t =>
    show List.foldl _ a (t ++ [x]) = _
    rw [List.foldl_append]; rfl
theorem most_fold_mem (t : List FQ) (a : FQ) : t.foldl (fun o x => if moreQ x.q o.q then x else o) a ∈ a :: t := by
  induction t generalizing a with
  | nil => simp [-map_take,-map_drop]
  | cons x t ih =>
    rw [List.foldl_cons]
    have := ih (if moreQ x.q a.q then x else a)
    rcases List.mem_cons.1 this with h | h
    · rw [h]; split <;> simp [-map_take,-map_drop]
    · exact List.mem_cons_of_mem _ (List.mem_cons_of_mem _ h)
theorem mostOf_mem (l : List FQ) (h : 0 < l.length) : mostOf l ∈ l := by
  cases l with
  | nil => simp [-map_take,-map_drop] at h
  | cons a t => exact most_fold_mem t a
end Go.Fw
