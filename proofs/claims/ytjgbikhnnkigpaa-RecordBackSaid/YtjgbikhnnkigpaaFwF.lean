/- Numbers, comparisons, conversions: what each comes to. -/
import Derived.Test.YtjgbikhnnkigpaaFwE
import Derived.ChangeKeysEq
set_option linter.unusedSimpArgs false
set_option linter.unusedVariables false
namespace Go.Fw
open Go Go.RowKit

/-- The bits of two numbers (shut: their laws are asked for by name). -/
def bAnd (k : IntKind) (a b : Int) : Int := k.wrap (BitVec.ofInt k.bits a &&& BitVec.ofInt k.bits b).toNat
def bOr (k : IntKind) (a b : Int) : Int := k.wrap (BitVec.ofInt k.bits a ||| BitVec.ofInt k.bits b).toNat
def bXor (k : IntKind) (a b : Int) : Int := k.wrap (BitVec.ofInt k.bits a ^^^ BitVec.ofInt k.bits b).toNat
def bAndNot (k : IntKind) (a b : Int) : Int := k.wrap (BitVec.ofInt k.bits a &&& ~~~BitVec.ofInt k.bits b).toNat
def shlI (k : IntKind) (a b : Int) : Int := k.wrap (a * 2 ^ (min b.toNat k.bits))
def shrI (k : IntKind) (a b : Int) : Int := a.fdiv (2 ^ (min b.toNat k.bits))

def intBin (op : BinOp) (k : IntKind) (a b : Int) : Option Value :=
  match op with
  | .add => some (.int k (k.wrap (a + b)))
  | .sub => some (.int k (k.wrap (a - b)))
  | .mul => some (.int k (k.wrap (a * b)))
  | .quo => if b = 0 then none else some (.int k (k.wrap (a.tdiv b)))
  | .rem => if b = 0 then none else some (.int k (a.tmod b))
  | .and => some (.int k (bAnd k a b))
  | .or => some (.int k (bOr k a b))
  | .xor => some (.int k (bXor k a b))
  | .andNot => some (.int k (bAndNot k a b))
  | .eql => some (.bool (a == b))
  | .neq => some (.bool (a != b))
  | .lss => some (.bool (decide (a < b)))
  | .leq => some (.bool (decide (a ≤ b)))
  | .gtr => some (.bool (decide (b < a)))
  | .geq => some (.bool (decide (b ≤ a)))
  | _ => none

def strBin (op : BinOp) (a b : ByteArray) : Option Value :=
  match op with
  | .add => if a.size + b.size ≤ 9223372036854775807 then some (.string (a ++ b)) else none
  | .eql => some (.bool (a.data.toList == b.data.toList))
  | .neq => some (.bool !(a.data.toList == b.data.toList))
  | _ => none

def boolP (P : Program) (t : TypeId) : Bool := match P.underlying t with
  | some .bool => true
  | _ => false

/-- Two plain values of a type, compared. -/
def eqAt (P : Program) (e : TypeId) (x y : Value) : Option Bool :=
  match P.underlying e, x, y with
  | some (.int _), .int k a, .int k' b => if k = k' then some (a == b) else none
  | some .bool, .bool a, .bool b => some (a == b)
  | some .string, .string a, .string b => some (a.data.toList == b.data.toList)
  | _, _, _ => none

def eqFieldsA (P : Program) (l l' : List AV) : List Field → Option Bool
  | [] => some true
  | f :: fs => if f.name = "_" then none else
    match l[f.offset]?, l'[f.offset]?, aggP P f.type with
    | some (.v x), some (.v y), some false => match eqAt P f.type x y, eqFieldsA P l l' fs with
      | some b, some r => some (b && r)
      | _, _ => none
    | _, _, _ => none

def eqItemsA (P : Program) (e : TypeId) (l l' : List AV) : List Nat → Option Bool
  | [] => some true
  | i :: is =>
    match l[i]?, l'[i]?, aggP P e with
    | some (.v x), some (.v y), some false => match eqAt P e x y, eqItemsA P e l l' is with
      | some b, some r => some (b && r)
      | _, _ => none
    | _, _, _ => none

def aggEq (P : Program) (t : TypeId) (l l' : List AV) : Option Bool :=
  if P.eqGuardType P.depth t = true then none else
  match P.underlying t with
  | some (.struct fs) => if P.stoodInHeld t = true then none else eqFieldsA P l l' fs.toList
  | some (.array n e) => if szP P e = some 1 then eqItemsA P e l l' (List.range n) else none
  | _ => none

def evBin (P : Program) (op : BinOp) (t : TypeId) (x y : AV) : Option AV :=
  match x, y with
  | .v (.int k a), .v (.int k' b) =>
    match op with
    | .shl => if b < 0 then none else some (.v (.int k (shlI k a b)))
    | .shr => if b < 0 then none else some (.v (.int k (shrI k a b)))
    | op => if k = k' then (intBin op k a b).map .v else none
  | .v (.string a), .v (.string b) => (strBin op a b).map .v
  | .v (.bool a), .v (.bool b) => if boolP P t = true then (match op with
    | .eql => some (.v (.bool (a == b)))
    | .neq => some (.v (.bool (!(a == b))))
    | _ => none) else none
  | .agg l, .agg l' => match op with
    | .eql => (aggEq P t l l').map fun b => .v (.bool b)
    | .neq => (aggEq P t l l').map fun b => .v (.bool (!b))
    | _ => none
  | .slc _ _ n _, .v (.slice none 0 0) => if (elemP P t).isSome = true then (match op with
    | .eql => some (if 0 < n then .v (.bool false) else .unk)
    | .neq => some (if 0 < n then .v (.bool true) else .unk)
    | _ => none) else none
  | .bs _ _ _ n, .v (.slice none 0 0) => if (elemP P t).isSome = true then (match op with
    | .eql => some (if 0 < n then .v (.bool false) else .unk)
    | .neq => some (if 0 < n then .v (.bool true) else .unk)
    | _ => none) else none
  | .v (.slice none 0 0), .v (.slice none 0 0) => if (elemP P t).isSome = true then (match op with
    | .eql => some (.v (.bool true))
    | .neq => some (.v (.bool false))
    | _ => none) else none
  | _, _ => none

def evUn (op : UnOp) (x : AV) : Option AV :=
  match op, x with
  | .neg, .v (.int k n) => some (.v (.int k (k.wrap (0 - n))))
  | .not, .v (.bool b) => some (.v (.bool (!b)))
  | .xor, .v (.int k n) => some (.v (.int k (k.wrap (BitVec.ofInt k.bits (if k.signed then -1 else k.max) ^^^ BitVec.ofInt k.bits n).toNat)))
  | _, _ => none

section
variable {P : Program} {C : Ctx} {M : Mem} {β : Loc} {s : AS} {w : World} {nt : Nat} {a : Act}

theorem intBin_ok {op : BinOp} {k : IntKind} {a b : Int} {r : Value} (t : TypeId) (hr : intBin op k a b = some r) :
    (binOp op t (.int k a) (.int k b)).run P w = .ok r w ∧ r.oneCell' = true := by
  cases op <;> simp only [intBin] at hr <;> try (cases hr; done)
  case quo => split at hr <;> cases hr; rename_i h0; simp [binOp, Op.intDiv, h0, Value.oneCell']
  case rem => split at hr <;> cases hr; rename_i h0; simp [binOp, Op.intDiv, h0, Value.oneCell']
  all_goals (cases hr; simp [binOp, Op.intArith, Op.intBits, Op.intCmp, Value.oneCell', bAnd, bOr, bXor, bAndNot])

theorem strBin_ok {op : BinOp} {a b : ByteArray} {r : Value} (t : TypeId) (hr : strBin op a b = some r) :
    (binOp op t (.string a) (.string b)).run P w = .ok r w ∧ r.oneCell' = true := by
  cases op <;> simp only [strBin] at hr <;> try (cases hr; done)
  case add =>
    split at hr <;> cases hr
    rename_i h0
    have : ¬ (9223372036854775807 : Int) < ((a.size : Int) + (b.size : Int)) := by omega
    simp [binOp, Op.stringOp, IntKind.max, IntKind.signed, IntKind.bits, this, Value.oneCell']
  all_goals (cases hr; simp [binOp, Op.stringOp, ByteArray.toList_eq, Value.oneCell'])

theorem eqAt_ok {e : TypeId} {x y : Value} {b : Bool} (d : Nat) (hr : eqAt P e x y = some b) : (Op.equalIn (d + 1) e x y).run P w = .ok b w := by
  unfold eqAt at hr
  split at hr
  · rename_i k' k a k2 b' hu
    split at hr <;> cases hr
    rename_i hk
    subst hk
    exact run_equalIn_int w d e k k' a b' hu
  · rename_i a b' hu
    cases hr
    exact run_equalIn_bool' w d e a b' hu
  · rename_i a b' hu
    cases hr
    rw [run_equalIn_string w d e a b' hu, ByteArray.toList_eq, ByteArray.toList_eq]
  · cases hr

theorem rep_v_at {l : List AV} {vs : Array Value} (h : RepAt M β l vs 0) {i : Nat} {x : Value} (hi : l[i]? = some (.v x)) : vs[i]? = some x := by
  obtain ⟨y, h1, _, h3⟩ := (RepAt.iff l vs 0).1 h i _ hi
  simp only [Nat.zero_add] at h1
  rw [h1, h3.1]

theorem eqFieldsA_ok {l l' : List AV} {vs vs' : Array Value} (h : RepAt M β l vs 0) (h' : RepAt M β l' vs' 0) (d : Nat) : ∀ (fs : List Field) (b : Bool), eqFieldsA P l l' fs = some b →
    (Op.eqFields (d + 1) vs vs' fs).run P w = .ok b w
  | [], b, hr => by simp [eqFieldsA] at hr; subst hr; simp [Op.eqFields]
  | f :: fs, b, hr => by
    simp only [eqFieldsA] at hr
    split at hr
    · cases hr
    · rename_i hn
      split at hr
      · rename_i x y hx hy ha
        split at hr
        · rename_i b1 r1 he hf
          cases hr
          have ih := eqFieldsA_ok h h' d fs r1 hf
          have e1 : (part f.type vs f.offset).run P w = .ok x w := by simp [part, aggP_spec ha, rep_v_at h hx]
          have e2 : (part f.type vs' f.offset).run P w = .ok y w := by simp [part, aggP_spec ha, rep_v_at h' hy]
          simp only [Op.eqFields]
          rw [if_pos (by simpa using hn)]
          simp only [Sem.run_bind, e1, e2, Result.andThen_ok, eqAt_ok d he]
          cases b1 <;> simp [ih]
        · cases hr
      · cases hr

theorem eqItemsA_ok {e : TypeId} {l l' : List AV} {vs vs' : Array Value} (h : RepAt M β l vs 0) (h' : RepAt M β l' vs' 0) (d : Nat) : ∀ (is : List Nat) (b : Bool), eqItemsA P e l l' is = some b →
    (Op.eqItems (d + 1) e 1 vs vs' is).run P w = .ok b w
  | [], b, hr => by simp [eqItemsA] at hr; subst hr; simp [Op.eqItems]
  | i :: is, b, hr => by
    simp only [eqItemsA] at hr
    split at hr
    · rename_i x y hx hy ha
      split at hr
      · rename_i b1 r1 he hf
        cases hr
        have ih := eqItemsA_ok h h' d is r1 hf
        have e1 : (part e vs (i * 1)).run P w = .ok x w := by simp [part, aggP_spec ha, rep_v_at h hx]
        have e2 : (part e vs' (i * 1)).run P w = .ok y w := by simp [part, aggP_spec ha, rep_v_at h' hy]
        simp only [Op.eqItems, Sem.run_bind, e1, e2, Result.andThen_ok, eqAt_ok d he]
        cases b1 <;> simp [ih]
      · cases hr
    · cases hr

theorem aggEq_ok {t : TypeId} {l l' : List AV} {vs vs' : Array Value} (h : RepAt M β l vs 0) (h' : RepAt M β l' vs' 0) {b : Bool} (hr : aggEq P t l l' = some b) :
    P.eqGuardType P.depth t = false ∧ (Op.equalIn 10000 t (.agg vs) (.agg vs')).run P w = .ok b w := by
  unfold aggEq at hr
  split at hr
  · cases hr
  · rename_i hg
    refine ⟨by simpa using hg, ?_⟩
    split at hr
    · rename_i fs hu
      split at hr
      · cases hr
      · rename_i hp
        have hf : P.fieldsOf t = fs := by simp [Program.fieldsOf, hu]
        rw [run_equalIn_struct w 9999 t vs vs' (by rw [hf]; exact hu) (by simpa using hp), hf]
        exact eqFieldsA_ok h h' 9998 _ _ hr
    · rename_i n e hu
      split at hr
      · rename_i hz
        unfold szP at hz
        cases hi : P.info? e with
        | none => simp [hi] at hz
        | some i =>
          simp [hi] at hz
          have hc : P.cellsOf e = 1 := by simp [Program.cellsOf, hi, hz]
          rw [run_equalIn_array w 9999 vs vs' hu hi, hc]
          exact eqItemsA_ok h h' 9998 _ _ hr
      · cases hr
    · cases hr

theorem eql_some_nil (d : Nat) {t e : TypeId} (hu : P.underlying t = some (.slice e)) (ad : Addr) (n cap : Nat) :
    (Op.equalIn (d + 1) t (.slice (some ad) n cap) (.slice none 0 0)).run P w = .ok false w := by
  simp [Op.equalIn, run_underlying hu]

theorem eql_nil_nil (d : Nat) {t e : TypeId} (hu : P.underlying t = some (.slice e)) (n cap : Nat) :
    (Op.equalIn (d + 1) t (.slice none n cap) (.slice none 0 0)).run P w = .ok true w := by
  simp [Op.equalIn, run_underlying hu]

/-- A slice compared with nil. -/
theorem eql_nil_ok {op : BinOp} {t : TypeId} {n cap : Nat} {ad : Option Addr} {r : AV} {b1 b2 : AV} (hn : 0 < n → ∃ a, ad = some a) (he : (elemP P t).isSome = true)
    (hb : b1 = (if 0 < n then .v (.bool false) else .unk) ∧ b2 = (if 0 < n then .v (.bool true) else .unk))
    (hr : (match op with | .eql => some b1 | .neq => some b2 | _ => none) = some r) (ox oy : Operand) :
    ∃ z, (do eqGuard op t ox oy (.slice ad n cap) (.slice none 0 0); binOp op t (.slice ad n cap) (.slice none 0 0) : Sem Value).run P w = .ok z w ∧ Ok M β s r z := by
  obtain ⟨e, he⟩ := Option.isSome_iff_exists.1 he
  have hu := elemP_spec he
  have hg : (eqGuard op t ox oy (.slice ad n cap) (.slice none 0 0)).run P w = .ok () w := by cases op <;> simp [eqGuard]
  obtain ⟨c, hc, hq⟩ : ∃ c : Bool, (0 < n → c = false) ∧ (Op.equalIn 10000 t (.slice ad n cap) (.slice none 0 0)).run P w = .ok c w := by
    cases ad with
    | none => exact ⟨true, fun h => (by obtain ⟨a, ha⟩ := hn h; cases ha), eql_nil_nil 9999 hu _ _⟩
    | some a => exact ⟨false, fun _ => rfl, eql_some_nil 9999 hu _ _ _⟩
  have hok : ∀ d : Bool, Ok M β s (if 0 < n then .v (.bool (if d = true then !false else false)) else .unk) (.bool (if d = true then !c else c)) := by
    intro d
    by_cases h0 : 0 < n
    · rw [if_pos h0, hc h0]; exact ⟨⟨rfl, rfl⟩, by simp [AV.refs]⟩
    · rw [if_neg h0]; exact ⟨⟨_, rfl⟩, by simp [AV.refs]⟩
  obtain ⟨rfl, rfl⟩ := hb
  cases op <;> simp only [Option.some.injEq, reduceCtorEq] at hr <;> subst hr
  · refine ⟨.bool c, ?_, hok false⟩
    simp only [Sem.run_bind, hg, Result.andThen_ok, binOp, Op.equal, Op.maxDepth, hq, Sem.run_pure]
  · refine ⟨.bool (!c), ?_, hok true⟩
    simp only [Sem.run_bind, hg, Result.andThen_ok, binOp, Op.equal, Op.maxDepth, hq, Sem.run_pure]

theorem bool_oneCell (b : Bool) : (Value.bool b).oneCell' = true := rfl

theorem bin_ok {x y r : AV} {u v : Value} (hx : Ok M β s x u) (hy : Ok M β s y v) {op : BinOp} {t : TypeId} (hr : evBin P op t x y = some r) (ox oy : Operand) :
    ∃ z, (do eqGuard op t ox oy u v; binOp op t u v : Sem Value).run P w = .ok z w ∧ Ok M β s r z := by
  unfold evBin at hr
  split at hr
  · rename_i k a k' b
    obtain ⟨rfl, _⟩ := hx.rep
    obtain ⟨rfl, _⟩ := hy.rep
    have hg : (eqGuard op t ox oy (.int k a) (.int k' b)).run P w = .ok () w := by cases op <;> simp [eqGuard]
    split at hr
    · split at hr
      · cases hr
      · rename_i h0
        cases hr
        refine ⟨_, ?_, ⟨rfl, rfl⟩, by simp [AV.refs]⟩
        simp only [Sem.run_bind, hg, Result.andThen_ok]
        simp [binOp, Op.shift, h0, shlI, shrI]
    · split at hr
      · cases hr
      · rename_i h0
        cases hr
        refine ⟨_, ?_, ⟨rfl, rfl⟩, by simp [AV.refs]⟩
        simp only [Sem.run_bind, hg, Result.andThen_ok]
        simp [binOp, Op.shift, h0, shlI, shrI]
    · split at hr
      · rename_i hk
        subst hk
        cases hi : intBin op k a b with
        | none => simp [hi] at hr
        | some z =>
          simp [hi] at hr
          subst hr
          obtain ⟨h3, h4⟩ := intBin_ok (P := P) (w := w) t hi
          refine ⟨z, ?_, ⟨rfl, h4⟩, by simp [AV.refs]⟩
          simp only [Sem.run_bind, hg, Result.andThen_ok, h3]
      · cases hr
  · rename_i a b
    obtain ⟨rfl, _⟩ := hx.rep
    obtain ⟨rfl, _⟩ := hy.rep
    have hg : (eqGuard op t ox oy (.string a) (.string b)).run P w = .ok () w := by cases op <;> simp [eqGuard]
    cases hi : strBin op a b with
    | none => simp [hi] at hr
    | some z =>
      simp [hi] at hr
      subst hr
      obtain ⟨h3, h4⟩ := strBin_ok (P := P) (w := w) t hi
      refine ⟨z, ?_, ⟨rfl, h4⟩, by simp [AV.refs]⟩
      simp only [Sem.run_bind, hg, Result.andThen_ok, h3]
  · rename_i a b
    obtain ⟨rfl, _⟩ := hx.rep
    obtain ⟨rfl, _⟩ := hy.rep
    have hg : (eqGuard op t ox oy (.bool a) (.bool b)).run P w = .ok () w := by cases op <;> simp [eqGuard]
    split at hr
    · rename_i hb
      have hu : P.underlying t = some .bool := by
        unfold boolP at hb
        split at hb
        · rename_i hu; exact hu
        · cases hb
      have he := run_equalIn_bool' (P := P) w 9999 t a b hu
      split at hr <;> cases hr
      · refine ⟨.bool (a == b), ?_, ⟨rfl, rfl⟩, by simp [AV.refs]⟩
        simp only [Sem.run_bind, hg, Result.andThen_ok, binOp, Op.equal, Op.maxDepth, he, Sem.run_pure]
      · refine ⟨.bool (!(a == b)), ?_, ⟨rfl, rfl⟩, by simp [AV.refs]⟩
        simp only [Sem.run_bind, hg, Result.andThen_ok, binOp, Op.equal, Op.maxDepth, he, Sem.run_pure]
    · cases hr
  · rename_i l l'
    obtain ⟨vs, rfl, _, h1⟩ := hx.rep
    obtain ⟨vs', rfl, _, h2⟩ := hy.rep
    split at hr
    · cases hi : aggEq P t l l' with
      | none => simp [hi] at hr
      | some b =>
        simp [hi] at hr
        subst hr
        obtain ⟨h3, h4⟩ := aggEq_ok (P := P) (w := w) h1 h2 hi
        refine ⟨.bool b, ?_, ⟨rfl, rfl⟩, by simp [AV.refs]⟩
        simp only [Sem.run_bind, run_eqGuard_agg w _ t ox oy vs vs' h3, Result.andThen_ok, run_eql_struct, h4]
    · cases hi : aggEq P t l l' with
      | none => simp [hi] at hr
      | some b =>
        simp [hi] at hr
        subst hr
        obtain ⟨h3, h4⟩ := aggEq_ok (P := P) (w := w) h1 h2 hi
        refine ⟨.bool (!b), ?_, ⟨rfl, rfl⟩, by simp [AV.refs]⟩
        simp only [Sem.run_bind, run_eqGuard_agg w _ t ox oy vs vs' h3, Result.andThen_ok, run_neq_struct, h4]
    · cases hr
  · rename_i f z n l
    obtain ⟨rfl, _⟩ := hy.rep
    obtain ⟨ad, cap, rfl, _, _, _, _, _, h6⟩ := hx.rep
    split at hr
    · rename_i he
      exact eql_nil_ok (fun hn => (by obtain ⟨b, o, cs, h, _⟩ := h6 hn; exact ⟨_, h⟩)) he ⟨rfl, rfl⟩ hr ox oy
    · cases hr
  · rename_i id z off n
    obtain ⟨rfl, _⟩ := hy.rep
    obtain ⟨ad, cap, rfl, h1, _, h6⟩ := hx.rep
    split at hr
    · rename_i he
      exact eql_nil_ok (fun hn => (by obtain ⟨b, o, _, h, _⟩ := h6 (Nat.lt_of_lt_of_le hn h1); exact ⟨_, h⟩)) he ⟨rfl, rfl⟩ hr ox oy
    · cases hr
  · obtain ⟨rfl, _⟩ := hx.rep
    obtain ⟨rfl, _⟩ := hy.rep
    split at hr
    · rename_i he
      obtain ⟨e, he⟩ := Option.isSome_iff_exists.1 he
      have hu := elemP_spec he
      have hg : (eqGuard op t ox oy (.slice none 0 0) (.slice none 0 0)).run P w = .ok () w := by cases op <;> simp [eqGuard]
      have hq : (Op.equalIn 10000 t (.slice none 0 0) (.slice none 0 0)).run P w = .ok true w := eql_nil_nil 9999 hu 0 0
      split at hr <;> cases hr
      · refine ⟨.bool true, ?_, ⟨rfl, rfl⟩, by simp [AV.refs]⟩
        simp only [Sem.run_bind, hg, Result.andThen_ok, binOp, Op.equal, Op.maxDepth, hq, Sem.run_pure]
      · refine ⟨.bool false, ?_, ⟨rfl, rfl⟩, by simp [AV.refs]⟩
        simp only [Sem.run_bind, hg, Result.andThen_ok, binOp, Op.equal, Op.maxDepth, hq, Sem.run_pure]
        rfl
    · cases hr
  · cases hr

theorem un_ok {x r : AV} {u : Value} (hx : Ok M β s x u) {op : UnOp} (hr : evUn op x = some r) :
    ∃ z, (Op.unary op u).run P w = .ok z w ∧ Ok M β s r z := by
  unfold evUn at hr
  split at hr <;> cases hr
  · obtain ⟨rfl, _⟩ := hx.rep
    exact ⟨_, by simp [Op.unary, Op.intArith], ⟨rfl, rfl⟩, by simp [AV.refs]⟩
  · obtain ⟨rfl, _⟩ := hx.rep
    exact ⟨_, by simp [Op.unary], ⟨rfl, rfl⟩, by simp [AV.refs]⟩
  · obtain ⟨rfl, _⟩ := hx.rep
    exact ⟨_, by simp [Op.unary, Op.intBits], ⟨rfl, rfl⟩, by simp [AV.refs]⟩
end
end Go.Fw
