/- frac: Least. -/
import Derived.Test.YtbabekaohfcjbaaR5
set_option linter.unusedSimpArgs false
set_option linter.unusedVariables false
-- VALS: zAV, zC, ratAV, ratC
namespace Go.Fw
open Go Go.Proofs Go.IntWalk
set_option linter.unusedSimpArgs false
set_option maxRecDepth 100000
set_option maxHeartbeats 4000000

def ratsC (l : List FQ) : List AV := l.flatMap ratC
theorem ratC_len (r : FQ) : (ratC r).length = 4 := rfl
theorem ratsC_len (l : List FQ) : (ratsC l).length = l.length * 4 := by
  induction l with
  | nil => rfl
  | cons x t ih => simp [ratsC, ratC_len] at *; omega
theorem ratsC_drop (l : List FQ) (i : Nat) : (ratsC l).drop (i * 4) = ratsC (l.drop i) := by
  induction l generalizing i with
  | nil => simp [ratsC]
  | cons x t ih =>
    cases i with
    | zero => simp
    | succ i =>
      have e : (i + 1) * 4 = (ratC x).length + i * 4 := by rw [ratC_len]; omega
      show (ratC x ++ ratsC t).drop _ = _
      rw [e, List.drop_append, Nat.add_sub_cancel_left, ih]
      simp

def lessQ (a b : Rat) : Prop := cmpZ (a.num * b.den) (b.num * a.den) < 0
instance (a b : Rat) : Decidable (lessQ a b) := by unfold lessQ; infer_instance
def leastOf (l : List FQ) : FQ := match l with
  | [] => FQ.zero
  | x :: t => t.foldl (fun o x => if lessQ x.q o.q then x else o) x

theorem leastOf_snoc (l : List FQ) (x : FQ) (h : 0 < l.length) : leastOf (l ++ [x]) = if lessQ x.q (leastOf l).q then x else leastOf l := by
  cases l with
  | nil => simp at h
  | cons a t =>
    show List.foldl _ a (t ++ [x]) = _
    rw [List.foldl_append]; rfl
theorem least_fold_mem (t : List FQ) (a : FQ) : t.foldl (fun o x => if lessQ x.q o.q then x else o) a ∈ a :: t := by
  induction t generalizing a with
  | nil => simp
  | cons x t ih =>
    rw [List.foldl_cons]
    have := ih (if lessQ x.q a.q then x else a)
    rcases List.mem_cons.1 this with h | h
    · rw [h]; split <;> simp
    · exact List.mem_cons_of_mem _ (List.mem_cons_of_mem _ h)
theorem leastOf_mem (l : List FQ) (h : 0 < l.length) : leastOf l ∈ l := by
  cases l with
  | nil => simp at h
  | cons a t => exact least_fold_mem t a

open List (map_take map_drop)
attribute [local push_cast] optK_some optK_none optK_ite optK_map optK_bind gOn stepK isMem evPure evMem evBin evUn evConv evLen evBuiltin evMinMax evSlice evBuild evAppend evIndex evIndexAddr evField evFieldAddr intBin strBin appDest AS.val AS.mem AS.elems AS.put AS.put' AS.eff AV.cells? AV.isCell AV.refs all_isByte take_byteV drop_byteV strOf_map bndOk bnd partAV ptrAdd killBox catA inOrder fillA setAt ofVal resB upd byteV List.head?_take List.head?_drop List.getElem?_map mkS_env mkS_box mkS_used entry_env entry_box entry_used lk stepD lookIds Oper.looksAt Op.operands Call.operands St.ids refsL renL_append ren renL renBox Box.refs iV i64V boolV dV_getElem dV_app dV_cons toNat_add2 toNat_add1
attribute [local simp ↓] numC_refs numC_isCell numC_cells numC_resB numC_resD numC_ren numC_closeC numC_isOwn

def moreQ (a b : Rat) : Prop := cmpZ (a.num * b.den) (b.num * a.den) > 0
instance (a b : Rat) : Decidable (moreQ a b) := by unfold moreQ; infer_instance
def mostOf (l : List FQ) : FQ := match l with
  | [] => FQ.zero
  | x :: t => t.foldl (fun o x => if moreQ x.q o.q then x else o) x

theorem mostOf_snoc (l : List FQ) (x : FQ) (h : 0 < l.length) : mostOf (l ++ [x]) = if moreQ x.q (mostOf l).q then x else mostOf l := by
  cases l with
  | nil => simp [-map_take,-map_drop] at h
  | cons a t =>
    show List.foldl _ a (t ++ [x]) = _
    rw [List.foldl_append]; rfl
theorem most_fold_mem (t : List FQ) (a : FQ) : t.foldl (fun o x => if moreQ x.q o.q then x else o) a ∈ a :: t := by
  induction t generalizing a with
  | nil => simp [-map_take,-map_drop]
  | cons x t ih =>
    rw [List.foldl_cons]
    have := ih (if moreQ x.q a.q then x else a)
    rcases List.mem_cons.1 this with h | h
    · rw [h]; split <;> simp [-map_take,-map_drop]
    · exact List.mem_cons_of_mem _ (List.mem_cons_of_mem _ h)
theorem mostOf_mem (l : List FQ) (h : 0 < l.length) : mostOf l ∈ l := by
  cases l with
  | nil => simp [-map_take,-map_drop] at h
  | cons a t => exact most_fold_mem t a
end Go.Fw
