import Derived.Test.YtmmkclefdpmjlaaR8b
import Derived.Test.YtmmkclefdpmjlaaSn
import Derived.Test.YtmmkclefdpmjlaaFit
import Derived.Test.YtmmkclefdpmjlaaHb
set_option linter.unusedSimpArgs false
set_option linter.unusedVariables false
namespace Go.Fw
open Go Go.Proofs
def FP.v (p : FP) : V2 := ⟨p.x.q, p.y.q⟩
def FSg.v (s : FSg) : Sg := ⟨s.A.v, s.B.v⟩
theorem cmpP_eq (p q : FP) : cmpP p q = if lexLt p.v q.v then -1 else if lexLt q.v p.v then 1 else 0 := by
  unfold cmpP
  rw [cmpQ_eq, cmpQ_eq]
  unfold lexLt FP.v
  simp only
  by_cases h1 : p.x.q < q.x.q
  · simp [h1]
  · by_cases h2 : q.x.q < p.x.q
    · have h3 : ¬ p.x.q = q.x.q := by grind
      simp [h1, h2, h3]
    · have h3 : p.x.q = q.x.q := by grind
      simp only [h3, Rat.lt_irrefl, false_or, true_and, if_false, ne_eq, not_true, Int.reduceNeg]
theorem cmpP_neg (p q : FP) : cmpP p q < 0 ↔ lexLt p.v q.v := by
  rw [cmpP_eq]
  by_cases h : lexLt p.v q.v
  · simp [h]
  · rw [if_neg h]
    by_cases h2 : lexLt q.v p.v
    · rw [if_pos h2]; simp [h]
    · rw [if_neg h2]; simp [h]
theorem cmpP_pos (p q : FP) : 0 < cmpP p q ↔ lexLt q.v p.v := by
  rw [cmpP_eq]
  by_cases h : lexLt p.v q.v
  · have : ¬ lexLt q.v p.v := fun k => lexLt_irrefl (lexLt_trans h k)
    simp [h, this]
  · rw [if_neg h]
    by_cases h2 : lexLt q.v p.v
    · rw [if_pos h2]; simp [h2]
    · rw [if_neg h2]; simp [h2]
theorem cmpP_zero (p q : FP) : cmpP p q = 0 ↔ p.v = q.v := by
  constructor
  · intro h
    exact lex_anti (fun k => by have := (cmpP_neg p q).2 k; omega) (fun k => by have := (cmpP_pos p q).2 k; omega)
  · intro h
    have h1 : ¬ cmpP p q < 0 := fun k => by have := (cmpP_neg p q).1 k; rw [h] at this; exact lexLt_irrefl this
    have h2 : ¬ 0 < cmpP p q := fun k => by have := (cmpP_pos p q).1 k; rw [h] at this; exact lexLt_irrefl this
    omega
theorem sideOf_zero (a b c : FP) : sideOf a b c = 0 ↔ cross a.v b.v c.v = 0 := by
  unfold sideOf
  simp only
  rw [cmpQ_eq]
  unfold cross FP.v
  simp only
  by_cases h1 : (b.x.q - a.x.q) * (c.y.q - a.y.q) < (b.y.q - a.y.q) * (c.x.q - a.x.q)
  · rw [if_pos h1]
    constructor
    · intro h; cases h
    · intro h; grind
  · rw [if_neg h1]
    by_cases h2 : (b.y.q - a.y.q) * (c.x.q - a.x.q) < (b.x.q - a.x.q) * (c.y.q - a.y.q)
    · rw [if_pos h2]
      constructor
      · intro h; cases h
      · intro h; grind
    · rw [if_neg h2]
      constructor
      · intro _; grind
      · intro _; rfl
def clipF (s b : FSg) : List FP :=
  (if 0 ≤ cross b.A.v b.B.v s.A.v then [s.A] else []) ++ ((if cross b.A.v b.B.v s.A.v * cross b.A.v b.B.v s.B.v < 0 then [s.at (cross b.A.v b.B.v s.A.v / (cross b.A.v b.B.v s.A.v - cross b.A.v b.B.v s.B.v))] else []) ++ (if 0 ≤ cross b.A.v b.B.v s.B.v ∧ cmpP s.A s.B ≠ 0 then [s.B] else []))
theorem at_v (s : FSg) (l : Rat) : (s.at l).v = s.v.pt l := rfl
theorem clipF_v (s b : FSg) : (clipF s b).map FP.v = clip s.v b.v := by
  unfold clipF clip clipW
  have e : (0 ≤ cross b.A.v b.B.v s.B.v ∧ cmpP s.A s.B ≠ 0) ↔ (0 ≤ cross b.v.A b.v.B s.v.B ∧ s.v.A ≠ s.v.B) := by
    rw [Ne, cmpP_zero]; rfl
  have h1 : cross b.v.A b.v.B s.v.A = cross b.A.v b.B.v s.A.v := rfl
  have h2 : cross b.v.A b.v.B s.v.B = cross b.A.v b.B.v s.B.v := rfl
  rw [List.map_append, List.map_append]
  congr 1
  · rw [h1]; split <;> rfl
  · congr 1
    · rw [h1, h2]
      split
      · rw [List.map_cons, at_v]; rfl
      · rfl
    · by_cases h : 0 ≤ cross b.A.v b.B.v s.B.v ∧ cmpP s.A s.B ≠ 0
      · rw [if_pos h, if_pos (e.1 h)]; rfl
      · rw [if_neg h, if_neg (fun k => h (e.2 k))]; rfl
def lowestF (p : FP) : List FP → FP
  | [] => p
  | q :: l => lowestF (if cmpP q p < 0 then q else p) l
def highestF (p : FP) : List FP → FP
  | [] => p
  | q :: l => highestF (if 0 < cmpP q p then q else p) l
theorem lowestF_v (l : List FP) : ∀ p, (lowestF p l).v = lowest p.v (l.map FP.v) := by
  induction l with
  | nil => intro p; rfl
  | cons q l ih =>
    intro p
    simp only [lowestF, lowest, List.map_cons]
    rw [ih]
    congr 1
    unfold lowP
    by_cases h : cmpP q p < 0
    · rw [if_pos h, if_pos ((cmpP_neg q p).1 h)]
    · rw [if_neg h, if_neg (fun k => h ((cmpP_neg q p).2 k))]
theorem highestF_v (l : List FP) : ∀ p, (highestF p l).v = highest p.v (l.map FP.v) := by
  induction l with
  | nil => intro p; rfl
  | cons q l ih =>
    intro p
    simp only [highestF, highest, List.map_cons]
    rw [ih]
    congr 1
    unfold highP
    by_cases h : 0 < cmpP q p
    · rw [if_pos h, if_pos ((cmpP_pos q p).1 h)]
    · rw [if_neg h, if_neg (fun k => h ((cmpP_pos q p).2 k))]
def endsF (l : List FP) : List FP := match l with
  | [] => []
  | p :: r => if cmpP (lowestF p (p :: r)) (highestF p (p :: r)) = 0 then [lowestF p (p :: r)] else [lowestF p (p :: r), highestF p (p :: r)]
theorem endsF_v (l : List FP) : (endsF l).map FP.v = ends (l.map FP.v) := by
  cases l with
  | nil => rfl
  | cons p r =>
    unfold endsF ends
    simp only [List.map_cons]
    have h1 := lowestF_v (p :: r) p
    have h2 := highestF_v (p :: r) p
    rw [List.map_cons] at h1 h2
    by_cases h : cmpP (lowestF p (p :: r)) (highestF p (p :: r)) = 0
    · rw [if_pos h, if_pos (by rw [← h1, ← h2]; exact (cmpP_zero _ _).1 h), ← h1]; rfl
    · rw [if_neg h, if_neg (by rw [← h1, ← h2]; exact fun k => h ((cmpP_zero _ _).2 k)), ← h1, ← h2]; rfl
end Go.Fw
-- VALS: zAV, zC, ratAV, ratC, ptAV, ptC, sgAV, sgC
namespace Go.Fw
open Go Go.Proofs Go.IntWalk
set_option linter.unusedSimpArgs false
set_option maxRecDepth 100000
set_option maxHeartbeats 4000000
def sqP (p q : FP) : Rat := (q.x.q - p.x.q) * (q.x.q - p.x.q) + (q.y.q - p.y.q) * (q.y.q - p.y.q)
open List (map_take map_drop)
attribute [local push_cast] optK_some optK_none optK_ite optK_map optK_bind gOn stepK isMem evPure evMem evBin evUn evConv evLen evBuiltin evMinMax evSlice evBuild evAppend evIndex evIndexAddr evField evFieldAddr intBin strBin appDest AS.val AS.mem AS.elems AS.put AS.put' AS.eff AV.cells? AV.isCell AV.refs all_isByte take_byteV drop_byteV strOf_map bndOk bnd partAV ptrAdd killBox catA inOrder fillA setAt ofVal resB upd byteV List.head?_take List.head?_drop List.getElem?_map mkS_env mkS_box mkS_used entry_env entry_box entry_used lk stepD lookIds Oper.looksAt Op.operands Call.operands St.ids refsL renL_append ren renL renBox Box.refs iV i64V boolV dV_getElem dV_app dV_cons toNat_add2 toNat_add1
attribute [local simp ↓] numC_refs numC_isCell numC_cells numC_resB numC_resD numC_ren numC_closeC numC_isOwn
def FP.zero : FP := ⟨FQ.zero, FQ.zero⟩
def accP (f : Nat → FP) (w : Nat → Rat) : Nat → FP
  | 0 => FP.zero
  | i + 1 => ⟨.of ((accP f w i).x.q + (f i).x.q * w i), .of ((accP f w i).y.q + (f i).y.q * w i)⟩
theorem acc_sz (f : Nat → FP) (w : Nat → Rat) (hf : ∀ j, szV (f j) ≤ 20) (hw : ∀ j, szQ (w j) ≤ 4) : ∀ i, szV (accP f w i) + 58 ≤ 60 * 2 ^ i
  | 0 => by
    have h : szV FP.zero = 2 := by kernel_rfl
    show szV FP.zero + 58 ≤ 60 * 2 ^ 0
    omega
  | i + 1 => by
    have ih := acc_sz f w hf hw i
    have h1 := szQ_add (accP f w i).x.q ((f i).x.q * w i)
    have h2 := szQ_add (accP f w i).y.q ((f i).y.q * w i)
    have h3 := szQ_mul (f i).x.q (w i)
    have h4 := szQ_mul (f i).y.q (w i)
    have h5 := hf i
    have h6 := hw i
    have h7 : szV (accP f w (i + 1)) = szQ ((accP f w i).x.q + (f i).x.q * w i) + szQ ((accP f w i).y.q + (f i).y.q * w i) := rfl
    unfold szV at ih h5
    rw [h7, Nat.pow_succ]
    omega
theorem half_sq {x : Rat} (h1 : 2 * x ≤ 1) (h2 : -1 ≤ 2 * x) : 4 * (x * x) ≤ 1 := by
  have := Rat.mul_nonneg (a := 1 - 2 * x) (b := 1 + 2 * x) (by grind) (by grind)
  grind
theorem weigh {a b : Rat} {w : Rat} (hw : 0 ≤ w) (h1 : 2 * (b - a) ≤ 1) (h2 : -1 ≤ 2 * (b - a)) : 2 * (b * w - a * w) ≤ w ∧ -w ≤ 2 * (b * w - a * w) := by
  have k1 := Rat.mul_nonneg (a := 1 - 2 * (b - a)) (b := w) (by grind) hw
  have k2 := Rat.mul_nonneg (a := 1 + 2 * (b - a)) (b := w) (by grind) hw
  constructor <;> grind
theorem acc_near (f g : Nat → FP) (w : Nat → Rat) (hw : ∀ i, 0 ≤ w i) (hs : w 0 + w 1 + w 2 = 1)
    (hx : ∀ i, 2 * ((g i).x.q - (f i).x.q) ≤ 1 ∧ -1 ≤ 2 * ((g i).x.q - (f i).x.q)) (hy : ∀ i, 2 * ((g i).y.q - (f i).y.q) ≤ 1 ∧ -1 ≤ 2 * ((g i).y.q - (f i).y.q)) :
    2 * sqP (accP f w 3) (accP g w 3) ≤ 1 := by
  have x0 := weigh (hw 0) (hx 0).1 (hx 0).2
  have x1 := weigh (hw 1) (hx 1).1 (hx 1).2
  have x2 := weigh (hw 2) (hx 2).1 (hx 2).2
  have y0 := weigh (hw 0) (hy 0).1 (hy 0).2
  have y1 := weigh (hw 1) (hy 1).1 (hy 1).2
  have y2 := weigh (hw 2) (hy 2).1 (hy 2).2
  have ex : (accP g w 3).x.q - (accP f w 3).x.q = ((g 0).x.q * w 0 - (f 0).x.q * w 0) + ((g 1).x.q * w 1 - (f 1).x.q * w 1) + ((g 2).x.q * w 2 - (f 2).x.q * w 2) := by
    show (0 + (g 0).x.q * w 0 + (g 1).x.q * w 1 + (g 2).x.q * w 2) - (0 + (f 0).x.q * w 0 + (f 1).x.q * w 1 + (f 2).x.q * w 2) = _
    grind
  have ey : (accP g w 3).y.q - (accP f w 3).y.q = ((g 0).y.q * w 0 - (f 0).y.q * w 0) + ((g 1).y.q * w 1 - (f 1).y.q * w 1) + ((g 2).y.q * w 2 - (f 2).y.q * w 2) := by
    show (0 + (g 0).y.q * w 0 + (g 1).y.q * w 1 + (g 2).y.q * w 2) - (0 + (f 0).y.q * w 0 + (f 1).y.q * w 1 + (f 2).y.q * w 2) = _
    grind
  unfold sqP
  rw [ex, ey]
  generalize (g 0).x.q * w 0 - (f 0).x.q * w 0 = a0 at *
  generalize (g 1).x.q * w 1 - (f 1).x.q * w 1 = a1 at *
  generalize (g 2).x.q * w 2 - (f 2).x.q * w 2 = a2 at *
  generalize (g 0).y.q * w 0 - (f 0).y.q * w 0 = b0 at *
  generalize (g 1).y.q * w 1 - (f 1).y.q * w 1 = b1 at *
  generalize (g 2).y.q * w 2 - (f 2).y.q * w 2 = b2 at *
  have h1 := half_sq (x := a0 + a1 + a2) (by grind) (by grind)
  have h2 := half_sq (x := b0 + b1 + b2) (by grind) (by grind)
  grind
end Go.Fw
namespace Go.Fw
open Go Go.Proofs
theorem risingF_v (s : FSg) : (risingF s).v = s.v.rise := by
  unfold risingF Sg.rise
  by_cases h : 0 < cmpP s.A s.B
  · have h' : lexLt s.v.B s.v.A := (cmpP_pos _ _).1 h
    rw [if_pos h, if_pos h']; rfl
  · have h' : ¬ lexLt s.v.B s.v.A := fun k => h ((cmpP_pos _ _).2 k)
    rw [if_neg h, if_neg h']
theorem onF_iff (s : FSg) (p : FP) : onF s p = true ↔ s.v.on p.v := by
  unfold onF withinF Sg.on
  rw [Bool.and_eq_true, Bool.and_eq_true, decide_eq_true_eq, decide_eq_true_eq, beq_iff_eq, sideOf_zero]
  have h1 : cmpP (risingF s).A p ≤ 0 ↔ ¬ lexLt p.v s.v.rise.A := by
    rw [← risingF_v]
    have := cmpP_pos (risingF s).A p
    constructor
    · intro h k; have := this.2 k; omega
    · intro h
      by_cases k : 0 < cmpP (risingF s).A p
      · exact absurd (this.1 k) h
      · omega
  have h2 : cmpP p (risingF s).B ≤ 0 ↔ ¬ lexLt s.v.rise.B p.v := by
    rw [← risingF_v]
    have := cmpP_pos p (risingF s).B
    constructor
    · intro h k; have := this.2 k; omega
    · intro h
      by_cases k : 0 < cmpP p (risingF s).B
      · exact absurd (this.1 k) h
      · omega
  rw [h1, h2]
  constructor
  · rintro ⟨⟨a, b⟩, c⟩; exact ⟨a, b, c⟩
  · rintro ⟨a, b, c⟩; exact ⟨⟨a, b⟩, c⟩
def bothF (s t : FSg) : List FP := [s.A, s.B, t.A, t.B].filter fun p => onF s p && onF t p
theorem bothF_v (s t : FSg) : (bothF s t).map FP.v = both s.v t.v := by
  unfold bothF both
  have e : [s.v.A, s.v.B, t.v.A, t.v.B] = [s.A, s.B, t.A, t.B].map FP.v := rfl
  rw [e, List.filter_map]
  congr 1
  refine List.filter_congr fun p _ => ?_
  show (onF s p && onF t p) = (decide (s.v.on p.v) && decide (t.v.on p.v))
  congr 1
  · rw [Bool.eq_iff_iff, onF_iff, decide_eq_true_eq]
  · rw [Bool.eq_iff_iff, onF_iff, decide_eq_true_eq]
def meetF (s t : FSg) : List FP :=
  if crossW s.v t.v ≠ 0 then
    if s.v.part t.v < 0 ∨ 1 < s.v.part t.v ∨ s.v.part2 t.v < 0 ∨ 1 < s.v.part2 t.v then [] else [s.at (s.v.part t.v)]
  else endsF (bothF s t)
theorem meetF_v (s t : FSg) : (meetF s t).map FP.v = meet s.v t.v := by
  unfold meetF meet
  by_cases h : crossW s.v t.v ≠ 0
  · rw [if_pos h, if_pos h]
    split
    · rfl
    · rfl
  · rw [if_neg h, if_neg h, endsF_v, bothF_v]
theorem meetF_nil (s t : FSg) : meetF s t = [] ↔ meet s.v t.v = [] := by
  rw [← meetF_v]
  constructor
  · intro h; rw [h]; rfl
  · intro h; exact List.map_eq_nil_iff.1 h
def toF (s : FSg) (p : FP) : FQ :=
  if 0 < dot s.A.v s.B.v p.v ∧ 0 < dot s.B.v s.A.v p.v then .of (cross s.A.v s.B.v p.v * cross s.A.v s.B.v p.v / sqP s.A s.B)
  else leastOf [.of (sqP s.A p), .of (sqP s.B p)]
theorem least_two (a b : FQ) : (leastOf [a, b]).q = min a.q b.q := by
  show (if lessQ b.q a.q then b else a).q = _
  by_cases h : lessQ b.q a.q
  · rw [if_pos h]; rw [lessQ_iff] at h; grind
  · rw [if_neg h]; rw [lessQ_iff] at h; grind
theorem least_four (a b c d : FQ) : (leastOf [a, b, c, d]).q = min (min a.q b.q) (min c.q d.q) := by
  have h1 := leastOf_le [a, b, c, d] a (by simp)
  have h2 := leastOf_le [a, b, c, d] b (by simp)
  have h3 := leastOf_le [a, b, c, d] c (by simp)
  have h4 := leastOf_le [a, b, c, d] d (by simp)
  have h5 := leastOf_mem [a, b, c, d] (by simp)
  simp only [List.mem_cons, List.not_mem_nil, or_false] at h5
  generalize leastOf [a, b, c, d] = m at *
  rcases h5 with rfl | rfl | rfl | rfl <;> grind
theorem toF_q (s : FSg) (p : FP) : (toF s p).q = toD s.v p.v := by
  unfold toF toD
  by_cases h : 0 < dot s.A.v s.B.v p.v ∧ 0 < dot s.B.v s.A.v p.v
  · have h' : 0 < dot s.v.A s.v.B p.v ∧ 0 < dot s.v.B s.v.A p.v := h
    rw [if_pos h, if_pos h']; rfl
  · have h' : ¬ (0 < dot s.v.A s.v.B p.v ∧ 0 < dot s.v.B s.v.A p.v) := h
    rw [if_neg h, if_neg h', least_two]; rfl
def leastF (s t : FSg) : FQ := if meetF s t ≠ [] then FQ.zero else leastOf [toF s t.A, toF s t.B, toF t s.A, toF t s.B]
theorem leastF_q (s t : FSg) : (leastF s t).q = leastD s.v t.v := by
  unfold leastF leastD
  by_cases h : meetF s t ≠ []
  · rw [if_pos h, if_pos (fun k => h ((meetF_nil s t).2 k))]; rfl
  · rw [if_neg h, if_neg (fun k => h (fun e => k ((meetF_nil s t).1 e))), least_four, toF_q, toF_q, toF_q, toF_q]; rfl
end Go.Fw
namespace Go.Fw
open Go Go.Proofs
theorem clipF_len (s b : FSg) : (clipF s b).length ≤ 2 := by
  unfold clipF
  simp only [List.length_append]
  by_cases h1 : cross b.A.v b.B.v s.A.v * cross b.A.v b.B.v s.B.v < 0
  · by_cases h2 : 0 ≤ cross b.A.v b.B.v s.A.v
    · by_cases h3 : 0 ≤ cross b.A.v b.B.v s.B.v
      · have := Rat.mul_nonneg h2 h3; grind
      · rw [if_neg (c := 0 ≤ cross b.A.v b.B.v s.B.v ∧ _) (fun k => h3 k.1), if_pos h1, if_pos h2]
        simp
    · rw [if_neg h2]
      split <;> split <;> simp
  · rw [if_neg h1]
    split <;> split <;> simp
def HP (p : FP) : Prop := HB p.x.q 72 12 ∧ HB p.y.q 72 12
def HS (s : FSg) : Prop := HP s.A ∧ HP s.B
theorem HP.sz {p : FP} (h : HP p) : szV p ≤ 8 := by
  have h1 := h.1.sz
  have h2 := h.2.sz
  unfold szV
  omega
theorem HS.sz {s : FSg} (h : HS s) : szS s ≤ 16 := by
  have h1 := h.1.sz
  have h2 := h.2.sz
  unfold szS
  omega
theorem HP.cross {a b c : FP} (ha : HP a) (hb : HP b) (hc : HP c) : HB (cross a.v b.v c.v) 219 96 := by
  have h1 := hb.1.sub ha.1 84 (by omega) (by omega)
  have h2 := hc.2.sub ha.2 84 (by omega) (by omega)
  have h3 := hb.2.sub ha.2 84 (by omega) (by omega)
  have h4 := hc.1.sub ha.1 84 (by omega) (by omega)
  exact (h1.mul h2).sub (h3.mul h4) 218 (by omega) (by omega)
theorem HS.at {s b : FSg} (hs : HS s) (hb : HS b) : szV (s.at (Go.Fw.cross b.A.v b.B.v s.A.v / (Go.Fw.cross b.A.v b.B.v s.A.v - Go.Fw.cross b.A.v b.B.v s.B.v))) ≤ 62 := by
  have u := HP.cross hb.1 hb.2 hs.1
  have v := HP.cross hb.1 hb.2 hs.2
  have l := u.div (u.sub v 315 (by omega) (by omega))
  have x1 := (hs.2.1.sub hs.1.1 84 (by omega) (by omega)).mul l
  have x2 := hs.1.1.add x1 509 (by omega) (by omega)
  have y1 := (hs.2.2.sub hs.1.2 84 (by omega) (by omega)).mul l
  have y2 := hs.1.2.add y1 509 (by omega) (by omega)
  have z1 := x2.sz
  have z2 := y2.sz
  have e1 : szV (s.at (Go.Fw.cross b.A.v b.B.v s.A.v / (Go.Fw.cross b.A.v b.B.v s.A.v - Go.Fw.cross b.A.v b.B.v s.B.v))) = szQ (s.A.x.q + (s.B.x.q - s.A.x.q) * (Go.Fw.cross b.A.v b.B.v s.A.v / (Go.Fw.cross b.A.v b.B.v s.A.v - Go.Fw.cross b.A.v b.B.v s.B.v))) + szQ (s.A.y.q + (s.B.y.q - s.A.y.q) * (Go.Fw.cross b.A.v b.B.v s.A.v / (Go.Fw.cross b.A.v b.B.v s.A.v - Go.Fw.cross b.A.v b.B.v s.B.v))) := rfl
  rw [e1]
  omega
theorem clipF_sz {s b : FSg} (hs : HS s) (hb : HS b) : ∀ p ∈ clipF s b, szV p ≤ 62 := by
  intro p hp
  have h1 := hs.1.sz
  have h2 := hs.2.sz
  have h3 := HS.at hs hb
  unfold clipF at hp
  simp only [List.mem_append] at hp
  rcases hp with hp | hp | hp
  · split at hp
    · rw [List.mem_singleton.1 hp]; omega
    · cases hp
  · split at hp
    · rw [List.mem_singleton.1 hp]; exact h3
    · cases hp
  · split at hp
    · rw [List.mem_singleton.1 hp]; omega
    · cases hp
theorem sideOf_eq (a b c : FP) : sideOf a b c = if cross a.v b.v c.v < 0 then -1 else if 0 < cross a.v b.v c.v then 1 else 0 := by
  unfold sideOf
  simp only
  rw [cmpQ_eq]
  unfold cross FP.v
  simp only
  generalize (b.x.q - a.x.q) * (c.y.q - a.y.q) = x
  generalize (b.y.q - a.y.q) * (c.x.q - a.x.q) = y
  by_cases h1 : x < y
  · rw [if_pos h1, if_pos (by grind)]
  · rw [if_neg h1, if_neg (show ¬ x - y < 0 by grind)]
    by_cases h2 : y < x
    · rw [if_pos h2, if_pos (by grind)]
    · rw [if_neg h2, if_neg (by grind)]
theorem sideOf_nn (a b c : FP) : 0 ≤ sideOf a b c ↔ 0 ≤ cross a.v b.v c.v := by
  rw [sideOf_eq]
  by_cases h1 : cross a.v b.v c.v < 0
  · rw [if_pos h1]; constructor
    · intro h; cases h
    · intro h; grind
  · rw [if_neg h1]
    have h3 : 0 ≤ cross a.v b.v c.v := by grind
    split <;> simp [h3]
theorem sideOf_np (a b c : FP) : sideOf a b c ≤ 0 ↔ 0 ≤ - cross a.v b.v c.v := by
  rw [sideOf_eq]
  by_cases h1 : cross a.v b.v c.v < 0
  · rw [if_pos h1]
    have h3 : 0 ≤ - cross a.v b.v c.v := by grind
    simp [h3]
  · rw [if_neg h1]
    by_cases h2 : 0 < cross a.v b.v c.v
    · rw [if_pos h2]; constructor
      · intro h; cases h
      · intro h; grind
    · rw [if_neg h2]
      have h3 : 0 ≤ - cross a.v b.v c.v := by grind
      simp [h3]
end Go.Fw
