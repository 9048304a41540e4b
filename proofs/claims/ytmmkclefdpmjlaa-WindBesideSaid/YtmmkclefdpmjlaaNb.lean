/- Nb, Nc, put together. -/
import Derived.Test.YtmmkclefdpmjlaaTy
import Derived.Test.YtmmkclefdpmjlaaPa
set_option linter.unusedSimpArgs false
set_option linter.unusedVariables false
namespace Go.Fw
open Go Go.Proofs Go.IntWalk
def iV (k : IntKind) (n : Nat) : AV := .v (.int k (n : Int))
def dV (k : IntKind) (l : List Nat) : List AV := l.map (iV k)
def i64V (n : Int) : AV := .v (.int .i64 n)
def boolV (b : Bool) : AV := .v (.bool b)
@[simp] theorem dV_length (k : IntKind) (l : List Nat) : (dV k l).length = l.length := by simp [dV]
@[simp] theorem dV_nil (k : IntKind) : dV k [] = [] := rfl
@[simp] theorem refsL_dV (k : IntKind) (l : List Nat) : refsL (dV k l) = [] := by
  induction l with
  | nil => rfl
  | cons a l ih => simpa [dV, refsL, AV.refs, iV] using ih
@[simp] theorem renL_dV (ρ : Nat → Nat) (k : IntKind) (l : List Nat) : renL ρ (dV k l) = dV k l := renL_id ρ _ (refsL_dV k l)
theorem dV_app (k : IntKind) (l m : List Nat) : dV k (l ++ m) = dV k l ++ dV k m := by simp [dV]
theorem dV_cons (k : IntKind) (l : List Nat) (x : Nat) : dV k (x :: l) = .v (.int k (x : Int)) :: dV k l := rfl
theorem renL_append (ρ : Nat → Nat) (l m : List AV) : renL ρ (l ++ m) = renL ρ l ++ renL ρ m := by
  induction l with
  | nil => rfl
  | cons a l ih => simp [renL, ih]
theorem dV_take (k : IntKind) (l : List Nat) (n : Nat) : (dV k l).take n = dV k (l.take n) := by simp [dV]
theorem dV_drop (k : IntKind) (l : List Nat) (n : Nat) : (dV k l).drop n = dV k (l.drop n) := by simp [dV]
theorem dV_get (k : IntKind) {l : List Nat} {i : Nat} (h : i < l.length) : (dV k l)[i]? = some (.v (.int k (dg l i : Int))) := by
  simp [dV, iV, List.getElem?_eq_getElem h, dg_eq h]
theorem dV_getElem (k : IntKind) {l : List Nat} {i : Nat} (h : i < (dV k l).length) : (dV k l)[i]'h = .v (.int k (dg l i : Int)) := by
  simp only [dV_length] at h
  simp [dV, iV, dg_eq h]
theorem optK_dV {kd : IntKind} {l : List Nat} {i : Nat} {k : AV → Prop} (h : i < l.length) (hk : k (.v (.int kd (dg l i : Int)))) : optK (dV kd l)[i]? k := ⟨_, dV_get kd h, hk⟩
theorem optK_dVh {kd : IntKind} {l : List Nat} {k : AV → Prop} (h : 0 < l.length) (hk : k (.v (.int kd (dg l 0 : Int)))) : optK (dV kd l).head? k := by
  cases l with
  | nil => simp at h
  | cons a l => exact ⟨_, rfl, hk⟩
theorem dV_set (k : IntKind) (l : List Nat) (i x : Nat) (h : i < l.length) : setAt (dV k l) i [.v (.int k (x : Int))] = dV k (l.set i x) := by
  simp only [setAt, List.length_singleton, List.set_eq_take_append_cons_drop, h, if_true]
  simp [dV, iV, List.map_take, List.map_drop]
theorem dV_set' (k : IntKind) (l : List Nat) (i x : Nat) (h : i < l.length) : dV k (l.set i x) = (dV k l).take i ++ .v (.int k (x : Int)) :: (dV k l).drop (i + 1) := by
  rw [← dV_set k l i x h]
  simp [setAt]
theorem toNat_add2 (a b : Nat) : ((a : Int) + (b : Int)).toNat = a + b := by omega
theorem toNat_add1 (a : Nat) : ((a : Int) + 1).toNat = a + 1 := by omega
theorem dV_replicate (k : IntKind) (n : Nat) : List.replicate n (AV.v (.int k 0)) = dV k (List.replicate n 0) := by simp [dV, iV]
theorem shr64 (n : Nat) : shrI .u64 (n : Int) 32 = ((n / 4294967296 : Nat) : Int) := by
  unfold shrI
  rw [show (2 : Int) ^ (min (32 : Int).toNat IntKind.u64.bits) = 4294967296 from rfl, Int.fdiv_eq_ediv_of_nonneg _ (by omega)]; omega
theorem shr64i (n : Int) (h : 0 ≤ n) : shrI .u64 n 32 = n / 4294967296 := by
  unfold shrI
  rw [show (2 : Int) ^ (min (32 : Int).toNat IntKind.u64.bits) = 4294967296 from rfl, Int.fdiv_eq_ediv_of_nonneg _ (by omega)]
def numC (f : Bool) (k : IntKind) (B n : Nat) : AV := .slc f 1 (digits B n).length (dV k (digits B n))
section
variable (f : Bool) (k : IntKind) (B n : Nat)
theorem numC_refs : (numC f k B n).refs = [] := rfl
theorem numC_isCell : (numC f k B n).isCell = true := rfl
theorem numC_cells : (numC f k B n).cells? = some [numC f k B n] := rfl
theorem numC_resB (box : Nat → Option Box) : resB box (numC f k B n) = numC f k B n := rfl
theorem numC_resD (box : Nat → Option Box) : resD box (numC f k B n) = numC f k B n := rfl
theorem numC_ren (ρ : Nat → Nat) : ren ρ (numC f k B n) = numC f k B n := rfl
theorem numC_closeC (box : Nat → Option Box) : closeC box (numC f k B n) = some (numC f k B n) := rfl
theorem numC_isOwn : (numC f k B n).isOwn = false := rfl
theorem numC_sub : Sub (.v (.slice none 0 0)) (numC f k B 0) := Sub.nil f 1
end
theorem RepCL.sub {M : Mem} {w : World} : ∀ {l l' : List AV} {vs : Array Value} {o : Nat} {bl : List Nat}, SubL l l' → (∀ a ∈ l, a.isOwn = false) → (∀ a ∈ l', a.isOwn = false) → RepCL M w l vs o bl → RepCL M w l' vs o bl
  | [], [], _, _, _, _, _, _, h => h
  | a :: l, b :: l', vs, o, bl, hs, h1, h2, ⟨y, b1, b2, k1, k2, k3, k4⟩ =>
    ⟨y, b1, b2, k1, k2.sub hs.1 (h1 a (by simp)) (h2 b (by simp)), RepCL.sub hs.2 (fun x hx => h1 x (by simp [hx])) (fun x hx => h2 x (by simp [hx])) k3, k4⟩
theorem Eval.outT {P : Program} {f : FuncId} {args l l' : List AV} (h : Eval P f args (.ret (.tup l))) (hs : SubL l l') (ho : ∀ a ∈ l, a.isOwn = false) (ho' : ∀ a ∈ l', a.isOwn = false) : Eval P f args (.ret (.tup l')) := by
  intro M w vs h1 h2 h3
  refine Ends.mono (h M w vs h1 h2 h3) ?_
  rintro e w' ⟨M', q1, q2, q3, q4, q5⟩
  refine ⟨M', q1, q2, q3, q4, ?_⟩
  cases e with
  | panicked l => exact q5.elim
  | outgrown => exact q5.elim
  | returned x =>
    obtain ⟨bl, ⟨vs', b1, b2, b3⟩, b4, b5⟩ := q5
    exact ⟨bl, ⟨vs', b1, b2.trans hs.length, b3.sub hs ho ho'⟩, b4, b5⟩
theorem CallG_of {P : Program} {f : FuncId} {args caps args' : List AV} {s : AS} {K : Out → AS → Prop} {r : AV} (h : Eval P f args' (.ret r)) (he : args ++ caps = args') (hr : refsL args' = []) (hp : r.plainR = true) (hk : K (.ret r) s) : CallG P (.fn f caps) args s K := by
  subst he; exact CallG_plain h hr hp hk
theorem callD_of {P : Program} {o : Oper} {f : FuncId} {args caps args' : List AV} {s : AS} {k : AS → List Nat → Prop} {r : AV} (h : Eval P f args' (.ret r)) (he : args ++ caps = args') (hr : refsL args' = []) (hp : r.plainR = true)
    (hk : k (s.put o.dst r) []) : callD P o (.fn f caps) args s k := by
  subst he; exact callD_plain hr h hp hk
theorem CallG_ofOwn {P : Program} {f : FuncId} {args caps args' : List AV} {s : AS} {K : Out → AS → Prop} {e : TypeId} {z n : Nat} {l : List AV} (d : Nat) (h : Eval P f args' (.ret (.own e z n l))) (he : args ++ caps = args') (hr : refsL args' = []) (hd : ¬ s.used d)
    (hk : K (.ret (.bs d z 0 n)) ⟨s.env, upd s.box d (some (.mut e l)), fun j => j = d ∨ s.used j⟩) : CallG P (.fn f caps) args s K := by
  subst he; exact CallG_own d h hr hd hk
end Go.Fw
namespace Go.Fw
open Go Go.Proofs Go.IntWalk
theorem own_frz {M : Mem} {w : World} {e : TypeId} {z n : Nat} {l : List AV} {x : Value} {bl : List Nat} (h : RepC M w (.own e z n l) x bl) (size : Nat) (hb : ∀ b ∈ bl, size ≤ b) (hM : MemOk M w) :
    ∃ M', MemLe M M' ∧ MemOk M' w ∧ (∀ b, b < size → M' b = M b) ∧ Rep M' noLoc (.slc false z n l) x := by
  obtain ⟨h1, h2, ad, cap, rfl, h3, h4, h5⟩ := h
  rcases h5 with ⟨h0, rfl⟩ | ⟨b, cs, fz, rfl, rfl, k1, k2, k3, k4, k5⟩
  · have hn : n = 0 := by omega
    exact ⟨M, MemLe.refl M, hM, fun _ _ => rfl, ad, cap, rfl, h1, h3, h4, fun h => (by cases h), h2, fun h => by omega⟩
  · have hle : MemLe M (upd M b (some cs)) := by
      intro b' cs' hb'
      by_cases he : b' = b
      · subst he; rw [k5] at hb'; cases hb'
      · simp [upd, he, hb']
    refine ⟨upd M b (some cs), hle, ?_, ?_, ?_⟩
    · intro b' cs' hb'
      simp only [upd] at hb'
      split at hb'
      · rename_i he; subst he; cases hb'; exact ⟨_, _, k1⟩
      · exact hM b' cs' hb'
    · intro b' hb'
      have := hb b (by simp)
      simp only [upd]
      rw [if_neg (by omega)]
    · exact ⟨_, cap, rfl, h1, h3, h4, fun h => (by cases h), h2, fun _ => ⟨b, 0, cs, rfl, by simp [upd], RepAt.mono hle _ _ _ (fun _ _ => rfl) k4⟩⟩
theorem Eval.frz1 {P : Program} {f : FuncId} {args : List AV} {e : TypeId} {z n : Nat} {l : List AV} (h : Eval P f args (.ret (.own e z n l))) : Eval P f args (.ret (.slc false z n l)) := by
  intro M w vs h1 h2 h3
  refine Ends.mono (h M w vs h1 h2 h3) ?_
  rintro en w' ⟨M', q1, q2, q3, q4, q5⟩
  cases en with
  | panicked l => exact q5.elim
  | outgrown => exact q5.elim
  | returned x =>
    obtain ⟨bl, b1, b2, b3⟩ := q5
    obtain ⟨M2, m1, m2, m3, m4⟩ := own_frz b1 w.heap.size b3 q2
    exact ⟨M2, q1.trans m1, m2, fun b hb => (m3 b hb).trans (q3 b hb), q4, [], ⟨m4, rfl, rfl⟩, List.nodup_nil, fun b hb => by cases hb⟩
theorem Eval.frz2 {P : Program} {f : FuncId} {args : List AV} {e : TypeId} {z n : Nat} {l : List AV} {r : AV} (h : Eval P f args (.ret (.tup [.own e z n l, r]))) (hr : r.isOwn = false) : Eval P f args (.ret (.tup [.slc false z n l, r])) := by
  intro M w vs h1 h2 h3
  refine Ends.mono (h M w vs h1 h2 h3) ?_
  rintro en w' ⟨M', q1, q2, q3, q4, q5⟩
  cases en with
  | panicked l => exact q5.elim
  | outgrown => exact q5.elim
  | returned x =>
    obtain ⟨bl, ⟨vs', b1, b2, y, c1, c2, k1, k2, ⟨y', d1, d2, j1, j2, j3, j4⟩, k4⟩, b4, b5⟩ := q5
    have hj : Rep M' noLoc r y' ∧ r.refs = [] ∧ d1 = [] := by
      cases r with
      | own => simp [AV.isOwn] at hr
      | _ => exact j2
    obtain ⟨g1, g2, g3⟩ := hj
    have j3' : d2 = [] := j3
    subst g3 j3' j4 k4
    obtain ⟨M2, m1, m2, m3, m4⟩ := own_frz k2 w.heap.size (fun b hb => b5 b (by simpa using hb)) q2
    refine ⟨M2, q1.trans m1, m2, fun b hb => (m3 b hb).trans (q3 b hb), q4, [], ⟨vs', b1, b2, y, [], [], k1, ⟨m4, rfl, rfl⟩, ⟨y', [], [], j1, ?_, rfl, rfl⟩, rfl⟩, List.nodup_nil, fun b hb => by cases hb⟩
    have g4 := Rep.mono (β' := noLoc) m1 r y' (fun _ _ => rfl) g1
    cases r with
    | own => simp [AV.isOwn] at hr
    | _ => exact ⟨g4, g2, rfl⟩
end Go.Fw
