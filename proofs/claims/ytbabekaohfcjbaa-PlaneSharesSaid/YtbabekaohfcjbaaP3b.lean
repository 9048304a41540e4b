import Derived.Test.YtbabekaohfcjbaaP1
import Derived.Test.YtbabekaohfcjbaaEnt
set_option linter.unusedSimpArgs false
set_option linter.unusedVariables false
/- PlaneShares: the plain part, and the walk. -/
-- VALS: zAV, zC, ratAV, ratC, ptAV, ptC, sgAV, sgC, d3sAV, d3C, dC, dotAV
namespace Go.Fw
open Go Go.Proofs Go.IntWalk
set_option linter.unusedSimpArgs false
set_option maxRecDepth 100000
set_option maxHeartbeats 20000000

/-- A pair in order. -/
def srt (l : List V2) : Prop := match l with
  | [a, b] => lexLt a b
  | _ => True
theorem on_bounds {a b p : V2} (h : lexLt a b) (hp : (Sg.mk a b).on p) : ¬ lexLt p a ∧ ¬ lexLt b p := by
  have hr : (Sg.mk a b).rise = ⟨a, b⟩ := by
    unfold Sg.rise
    rw [if_neg (fun k => lexLt_irrefl (lexLt_trans h k))]
  unfold Sg.on at hp
  rw [hr] at hp
  exact ⟨hp.1, hp.2.1⟩
theorem hull_inj {l m : List V2} (hl : l.length ≤ 2) (hm : m.length ≤ 2) (sl : srt l) (sm : srt m) (h : ∀ p, hull l p ↔ hull m p) : l = m := by
  match l, m, hl, hm, sl, sm, h with
  | [], [], _, _, _, _, _ => rfl
  | [], [a], _, _, _, _, h => exact ((h a).2 rfl).elim
  | [], [a, b], _, _, _, _, h => exact ((h a).2 (on_A ⟨a, b⟩)).elim
  | [a], [], _, _, _, _, h => exact ((h a).1 rfl).elim
  | [a, b], [], _, _, _, _, h => exact ((h a).1 (on_A ⟨a, b⟩)).elim
  | [a], [b], _, _, _, _, h =>
    have : a = b := (h a).1 rfl
    rw [this]
  | [a], [b, c], _, _, _, sm, h =>
    have h1 : b = a := (h b).2 (on_A ⟨b, c⟩)
    have h2 : c = a := (h c).2 (on_B ⟨b, c⟩)
    have sm : lexLt b c := sm
    rw [h1, h2] at sm
    exact absurd sm lexLt_irrefl
  | [b, c], [a], _, _, sl, _, h =>
    have h1 : b = a := (h b).1 (on_A ⟨b, c⟩)
    have h2 : c = a := (h c).1 (on_B ⟨b, c⟩)
    have sl : lexLt b c := sl
    rw [h1, h2] at sl
    exact absurd sl lexLt_irrefl
  | [a, b], [c, d], _, _, sl, sm, h =>
    have sl : lexLt a b := sl
    have sm : lexLt c d := sm
    have h1 := on_bounds sm ((h a).1 (on_A ⟨a, b⟩))
    have h2 := on_bounds sm ((h b).1 (on_B ⟨a, b⟩))
    have h3 := on_bounds sl ((h c).2 (on_A ⟨c, d⟩))
    have h4 := on_bounds sl ((h d).2 (on_B ⟨c, d⟩))
    rw [lex_anti h3.1 h1.1, lex_anti h2.2 h4.2]
  | _ :: _ :: _ :: _, _, hl, _, _, _, _ => exact absurd hl (by simp)
  | _, _ :: _ :: _ :: _, _, hm, _, _, _ => exact absurd hm (by simp)
theorem ends_srt (l : List V2) : srt (ends l) := by
  unfold ends
  split
  · trivial
  · rename_i p r
    simp only
    split
    · trivial
    · rename_i h
      have h1 := lowest_le p (p :: r)
      have h2 := highest_mem p (p :: r)
      have h3 : ¬ lexLt (highest p (p :: r)) (lowest p (p :: r)) := by
        rcases h2 with h2 | h2
        · rw [h2]; exact h1.1
        · exact h1.2 _ h2
      show lexLt _ _
      rcases lexLt_tri (lowest p (p :: r)) (highest p (p :: r)) with k | k | k
      · exact k
      · exact absurd k h
      · exact absurd k h3
theorem meet_srt (s t : Sg) : srt (meet s t) := by
  unfold meet
  split
  · split <;> trivial
  · exact ends_srt _
theorem meet_shares (s t : Sg) : meet t.turn s.turn = meet s t :=
  hull_inj (meet_len _ _) (meet_len _ _) (meet_srt _ _) (meet_srt _ _) (fun p => by rw [meet_iff, meet_iff, on_turn, on_turn, and_comm])
theorem meetF_shares (s t : FSg) : (meetF t.tn s.tn).map FP.v = (meetF s t).map FP.v := by
  rw [meetF_v, meetF_v]
  exact meet_shares s.v t.v
theorem meetF_len (s t : FSg) : (meetF s t).length ≤ 2 := by
  have h := meet_len s.v t.v
  rw [← meetF_v, List.length_map] at h
  exact h
theorem within_meet (s t : FSg) (p : FP) : withinB (meetF s t) p = true ↔ s.v.on p.v ∧ t.v.on p.v := by
  have h := meet_iff s.v t.v p.v
  rw [← meetF_v] at h
  rw [← h]
  have hlen := meetF_len s t
  generalize meetF s t = l at *
  match l, hlen with
  | [], _ => simp [withinB, hull]
  | [q], _ =>
    show (cmpP q p == 0) = true ↔ p.v = q.v
    rw [beq_iff_eq, cmpP_zero]
    exact eq_comm
  | [q, r], _ =>
    show onF ⟨q, r⟩ p = true ↔ (Sg.mk q.v r.v).on p.v
    rw [onF_iff]
    rfl
  | _ :: _ :: _ :: _, h => exact absurd h (by simp)
theorem meet_on (s t : FSg) : ∀ q ∈ meetF s t, onF s q = true ∧ onF t q = true := by
  have h := fun q => meet_iff s.v t.v q
  have hlen := meetF_len s t
  have hv := meetF_v s t
  rw [← hv] at h
  intro q hq
  have key : hull ((meetF s t).map FP.v) q.v := by
    generalize meetF s t = l at *
    match l, hlen with
    | [], _ => cases hq
    | [a], _ => rw [List.mem_singleton.1 hq]; rfl
    | [a, b], _ =>
      simp only [List.mem_cons, List.not_mem_nil, or_false] at hq
      rcases hq with rfl | rfl
      · exact on_A ⟨q.v, b.v⟩
      · exact on_B ⟨a.v, q.v⟩
    | _ :: _ :: _ :: _, h => exact absurd h (by simp)
  have := (h q.v).1 key
  exact ⟨(onF_iff s q).2 this.1, (onF_iff t q).2 this.2⟩
theorem meet_lt (s t : FSg) (a b : FP) (h : meetF s t = [a, b]) : cmpP a b < 0 := by
  have := meet_srt s.v t.v
  rw [← meetF_v, h] at this
  exact (cmpP_neg a b).2 this
theorem endsF_mem (l : List FP) (p : FP) (h : p ∈ endsF l) : p ∈ l := by
  unfold endsF at h
  split at h
  · cases h
  · rename_i q r
    have h1 : lowestF q (q :: r) ∈ q :: r := by
      rcases lowestF_mem (q :: r) q with k | k
      · rw [k]; simp
      · exact k
    have h2 : highestF q (q :: r) ∈ q :: r := by
      rcases highestF_mem (q :: r) q with k | k
      · rw [k]; simp
      · exact k
    split at h
    · rw [List.mem_singleton.1 h]; exact h1
    · simp only [List.mem_cons, List.not_mem_nil, or_false] at h
      rcases h with h | h <;> rw [h]
      · exact h1
      · exact h2
/-- What meeting points' numbers are. -/
theorem meetF_sz {s t : FSg} (hs : HS s) (ht : HS t) : ∀ p ∈ meetF s t, szV p ≤ 62 := by
  intro p hp
  have ha := hs.1.sz
  have hb := hs.2.sz
  have hc := ht.1.sz
  have hd := ht.2.sz
  unfold meetF at hp
  split at hp
  · split at hp
    · cases hp
    · rw [List.mem_singleton.1 hp]
      have d1 := hs.2.1.sub hs.1.1 84 (by omega) (by omega)
      have d2 := hs.2.2.sub hs.1.2 84 (by omega) (by omega)
      have d3 := ht.2.1.sub ht.1.1 84 (by omega) (by omega)
      have d4 := ht.2.2.sub ht.1.2 84 (by omega) (by omega)
      have d5 := ht.1.1.sub hs.1.1 84 (by omega) (by omega)
      have d6 := ht.1.2.sub hs.1.2 84 (by omega) (by omega)
      have c1 := (d1.mul d4).sub (d2.mul d3) 218 (by omega) (by omega)
      have c2 := (d5.mul d4).sub (d6.mul d3) 218 (by omega) (by omega)
      have l := c2.div c1
      have x1 := (d1.mul l)
      have x2 := hs.1.1.add x1 412 (by omega) (by omega)
      have y1 := (d2.mul l)
      have y2 := hs.1.2.add y1 412 (by omega) (by omega)
      have z1 := x2.sz
      have z2 := y2.sz
      have e1 : szV (s.at (s.v.part t.v)) = szQ (s.A.x.q + (s.B.x.q - s.A.x.q) * (((t.A.x.q - s.A.x.q) * (t.B.y.q - t.A.y.q) - (t.A.y.q - s.A.y.q) * (t.B.x.q - t.A.x.q)) / ((s.B.x.q - s.A.x.q) * (t.B.y.q - t.A.y.q) - (s.B.y.q - s.A.y.q) * (t.B.x.q - t.A.x.q)))) + szQ (s.A.y.q + (s.B.y.q - s.A.y.q) * (((t.A.x.q - s.A.x.q) * (t.B.y.q - t.A.y.q) - (t.A.y.q - s.A.y.q) * (t.B.x.q - t.A.x.q)) / ((s.B.x.q - s.A.x.q) * (t.B.y.q - t.A.y.q) - (s.B.y.q - s.A.y.q) * (t.B.x.q - t.A.x.q)))) := rfl
      rw [e1]
      omega
  · have hm : p ∈ bothF s t := endsF_mem _ _ hp
    unfold bothF at hm
    have hm := (List.mem_filter.1 hm).1
    simp only [List.mem_cons, List.not_mem_nil, or_false] at hm
    rcases hm with rfl | rfl | rfl | rfl <;> omega
end Go.Fw


/- The law PlaneShares comes to true: the walk. -/
-- VALS: zAV, zC, ratAV, ratC, ptAV, ptC, sgAV, sgC, d3sAV, d3C, dC, dotAV
namespace Go.Fw
open Go Go.Proofs Go.IntWalk
set_option linter.unusedSimpArgs false
set_option maxRecDepth 100000
set_option maxHeartbeats 20000000

/-- What the law looks at, of each meeting point. -/
theorem shares_at {e f : FSg} (he : HS e) (hf : HS f) (i : Nat) (hi : i < (meetF e f).length) : ∃ x x' t t', (ptsC (meetF e f)).drop (i * 8) = ptC x ++ t ∧ (ptsC (meetF f.tn e.tn)).drop (i * 8) = ptC x' ++ t' ∧
    Eval Try.prog 11 [ptAV x, ptAV x'] (.ret (i64V 0)) ∧ Eval Try.prog 12 [sgAV e, ptAV x] (.ret (.v (.bool true))) ∧ Eval Try.prog 12 [sgAV f, ptAV x] (.ret (.v (.bool true))) := by
  have hv := meetF_shares e f
  have hlen : (meetF f.tn e.tn).length = (meetF e f).length := by
    have := congrArg List.length hv
    simpa using this
  obtain ⟨t, ht⟩ := ptsC_at (meetF e f) i hi
  obtain ⟨t', ht'⟩ := ptsC_at (meetF f.tn e.tn) i (by omega)
  refine ⟨_, _, t, t', ht, ht', ?_, ?_, ?_⟩
  · have z1 := meetF_sz he hf _ (List.getElem_mem hi)
    have z2 := meetF_sz hf.tn' he.tn' _ (List.getElem_mem (show i < (meetF f.tn e.tn).length by omega))
    have h := cmpP_ok ((meetF e f)[i]) ((meetF f.tn e.tn)[i]'(by omega)) (by omega)
    have h0 : cmpP ((meetF e f)[i]) ((meetF f.tn e.tn)[i]'(by omega)) = 0 := by
      rw [cmpP_zero]
      have h1 : ((meetF f.tn e.tn).map FP.v)[i]? = ((meetF e f).map FP.v)[i]? := by rw [hv]
      rw [List.getElem?_map, List.getElem?_map, List.getElem?_eq_getElem hi, List.getElem?_eq_getElem (by omega)] at h1
      simpa using h1.symm
    rwa [h0] at h
  · have z1 := meetF_sz he hf _ (List.getElem_mem hi)
    have z2 := he.sz
    have h := on_ok e ((meetF e f)[i]) (by omega)
    rwa [(meet_on e f _ (List.getElem_mem hi)).1] at h
  · have z1 := meetF_sz he hf _ (List.getElem_mem hi)
    have z2 := hf.sz
    have h := on_ok f ((meetF e f)[i]) (by omega)
    rwa [(meet_on e f _ (List.getElem_mem hi)).2] at h

open List (map_take map_drop)
attribute [local push_cast] optK_some optK_none optK_ite optK_map optK_bind gOn stepK isMem evPure evMem evBin evUn evConv evLen evBuiltin evMinMax evSlice evBuild evAppend evIndex evIndexAddr evField evFieldAddr intBin strBin appDest AS.val AS.mem AS.elems AS.put AS.put' AS.eff AV.cells? AV.isCell AV.refs all_isByte take_byteV drop_byteV strOf_map bndOk bnd partAV ptrAdd killBox catA inOrder fillA setAt ofVal resB upd byteV List.head?_take List.head?_drop List.getElem?_map mkS_env mkS_box mkS_used entry_env entry_box entry_used lk stepD lookIds Oper.looksAt Op.operands Call.operands St.ids refsL renL_append ren renL renBox Box.refs iV i64V boolV dV_getElem dV_app dV_cons toNat_add2 toNat_add1
attribute [local simp ↓] numC_refs numC_isCell numC_cells numC_resB numC_resD numC_ren numC_closeC numC_isOwn

theorem lawShares_ok (a b c d : Int × Int × Int) (i0 : Int) (ha : inD a) (hb : inD b) (hc : inD c) (hd : inD d) :
    Eval Try.prog 3 [dotAV a, dotAV b, dotAV c, dotAV d, i64V i0] (.ret (.v (.bool true))) := by
  refine Eval.intro Try.func3 rfl Try.call3 _ _ (Nat.le_of_ble_eq_true rfl) (by simp [-map_take,-map_drop, AV.refs, refsL, natAV, zAV, zC, ratAV, ratC, ptAV, ptC, sgAV, sgC, d3sAV, d3C, dC, dotAV, push_cast]) fun hs0 => ?_
  obtain ⟨k, hk, k100⟩ := hund19 i0
  have w1 : IntKind.i64.wrap (k : Int) = k := by rw [i64_in _ (by omega)]
  have s1 := seg11_ok a b ha hb
  have s2 := seg11_ok c d hc hd
  have he := HS.dots' ha hb
  have hf := HS.dots' hc hd
  have hp := HQ.part ha hb k100
  obtain ⟨e, h1⟩ : ∃ e, e = dotsF a b := ⟨_, rfl⟩
  obtain ⟨f, h2⟩ : ∃ e, e = dotsF c d := ⟨_, rfl⟩
  rw [← h1] at s1 he hp
  rw [← h2] at s2 hf
  clear h1 h2
  have ze := he.sz
  have zf := hf.sz
  have onp := on_part e k100
  have z0 : szQ (Rat.divInt k 100) ≤ 4 := by
    have h1 := sz_divInt (k : Int) 100 (by omega)
    have h2 := limbs_small (n := (k : Int).natAbs) (by omega)
    have h3 := limbs_small (n := (100 : Int).natAbs) (by omega)
    omega
  have e0 := ofF_ok k 100 (by omega) (by omega) (by omega)
  unfold szS szV at ze zf
  have z1 := szQ_sub e.B.x.q e.A.x.q
  have z2 := szQ_sub e.B.y.q e.A.y.q
  have z3 := szQ_mul (e.B.x.q - e.A.x.q) (Rat.divInt k 100)
  have z4 := szQ_mul (e.B.y.q - e.A.y.q) (Rat.divInt k 100)
  have q1 := subR_ok e.B.x e.A.x (by omega)
  have q2 := mulR_ok (.of (e.B.x.q - e.A.x.q)) (.of (Rat.divInt k 100)) (by simp only [FQ.of]; omega)
  have q3 := addR_ok e.A.x (.of ((e.B.x.q - e.A.x.q) * (Rat.divInt k 100))) (by simp only [FQ.of]; omega)
  have q4 := subR_ok e.B.y e.A.y (by omega)
  have q5 := mulR_ok (.of (e.B.y.q - e.A.y.q)) (.of (Rat.divInt k 100)) (by simp only [FQ.of]; omega)
  have q6 := addR_ok e.A.y (.of ((e.B.y.q - e.A.y.q) * (Rat.divInt k 100))) (by simp only [FQ.of]; omega)
  have o1 : (FQ.of (e.B.x.q - e.A.x.q)).q * (FQ.of (Rat.divInt k 100)).q = (e.B.x.q - e.A.x.q) * (Rat.divInt k 100) := rfl
  have o2 : (FQ.of (e.B.y.q - e.A.y.q)).q * (FQ.of (Rat.divInt k 100)).q = (e.B.y.q - e.A.y.q) * (Rat.divInt k 100) := rfl
  have o3 : FQ.of (e.A.x.q + (FQ.of ((e.B.x.q - e.A.x.q) * (Rat.divInt k 100))).q) = (e.at (Rat.divInt k 100)).x := rfl
  have o4 : FQ.of (e.A.y.q + (FQ.of ((e.B.y.q - e.A.y.q) * (Rat.divInt k 100))).q) = (e.at (Rat.divInt k 100)).y := rfl
  rw [o1] at q2
  rw [o2] at q5
  rw [o3] at q3
  rw [o4] at q6
  obtain ⟨p, hpd⟩ : ∃ p, p = e.at (Rat.divInt k 100) := ⟨_, rfl⟩
  rw [← hpd] at q3 q6 hp onp
  have zp := hp.sz
  have m1 := meetP_ok he hf
  have m2 := meetP_ok hf.tn' he.tn'
  have hv := meetF_shares e f
  have hlen : (meetF f.tn e.tn).length = (meetF e f).length := by
    have := congrArg List.length hv
    simpa [-map_take,-map_drop] using this
  rw [hlen] at m2
  have hlen2 := meetF_len e f
  have hat := fun i hi => shares_at he hf i hi
  have ts := within_meet e f p
  have b1 := on_ok e p (by show szV e.A + szV e.B + szV p ≤ 10000; unfold szV; unfold szV at zp; omega)
  have b2 := on_ok f p (by show szV f.A + szV f.B + szV p ≤ 10000; unfold szV; unfold szV at zp; omega)
  have hb1 : onF e p = true := (onF_iff e p).2 onp
  rw [hb1] at b1
  have hb2 : onF f p = withinB (meetF e f) p := by
    rw [Bool.eq_iff_iff, ts, onF_iff]
    exact ⟨fun h => ⟨onp, h⟩, fun h => h.2⟩
  rw [hb2] at b2
  -- what is looked at of one point, of two
  have one : ∀ x, meetF e f = [x] → Eval Try.prog 11 [ptAV x, ptAV p] (.ret (i64V (cmpP x p))) ∧ withinB (meetF e f) p = (cmpP x p == 0) := fun x hx => by
    have z1 := meetF_sz he hf x (by rw [hx]; simp [-map_take,-map_drop])
    exact ⟨cmpP_ok x p (by omega), by rw [hx]; rfl⟩
  have two : ∀ x y, meetF e f = [x, y] → Eval Try.prog 12 [sgAV ⟨x, y⟩, ptAV p] (.ret (.v (.bool (withinB (meetF e f) p)))) ∧ ∃ c, c < 0 ∧ Eval Try.prog 11 [ptAV x, ptAV y] (.ret (i64V c)) := fun x y hx => by
    have z1 := meetF_sz he hf x (by rw [hx]; simp [-map_take,-map_drop])
    have z2 := meetF_sz he hf y (by rw [hx]; simp [-map_take,-map_drop])
    refine ⟨?_, _, meet_lt e f x y hx, cmpP_ok x y (by omega)⟩
    have h := on_ok ⟨x, y⟩ p (by show szV x + szV y + szV p ≤ 10000; omega)
    have e1 : withinB (meetF e f) p = onF ⟨x, y⟩ p := by rw [hx]; rfl
    rw [e1]; exact h
  have zero : meetF e f = [] → withinB (meetF e f) p = false := fun hx => by rw [hx]; rfl
  have x1 := ptsC_refs (meetF e f)
  have x2 := ptsC_refs (meetF f.tn e.tn)
  have y1 := ptsC_len (meetF e f)
  have y2 := ptsC_len (meetF f.tn e.tn)
  rw [hlen] at y2
  obtain ⟨K, hx⟩ : ∃ x, x = FQ.of (Rat.divInt k 100) := ⟨_, rfl⟩
  rw [← hx] at e0 q2 q5
  clear hx
  obtain ⟨a1, hx⟩ : ∃ x, x = FQ.of (e.B.x.q - e.A.x.q) := ⟨_, rfl⟩
  rw [← hx] at q1 q2
  clear hx
  obtain ⟨a2, hx⟩ : ∃ x, x = FQ.of ((e.B.x.q - e.A.x.q) * (Rat.divInt k 100)) := ⟨_, rfl⟩
  rw [← hx] at q2 q3
  clear hx
  obtain ⟨b3, hx⟩ : ∃ x, x = FQ.of (e.B.y.q - e.A.y.q) := ⟨_, rfl⟩
  rw [← hx] at q4 q5
  clear hx
  obtain ⟨b4, hx⟩ : ∃ x, x = FQ.of ((e.B.y.q - e.A.y.q) * (Rat.divInt k 100)) := ⟨_, rfl⟩
  rw [← hx] at q5 q6
  clear hx
  obtain ⟨ww, hww⟩ : ∃ x, x = withinB (meetF e f) p := ⟨_, rfl⟩
  rw [← hww] at b2 zero
  simp only [← hww] at one two
  obtain ⟨l, hl⟩ : ∃ l, l = meetF e f := ⟨_, rfl⟩
  rw [← hl] at m1 m2 hlen2 x1 y1 y2 zero
  simp only [← hl] at hat one two
  obtain ⟨L2, hL2⟩ : ∃ l, l = ptsC (meetF f.tn e.tn) := ⟨_, rfl⟩
  rw [← hL2] at m2 x2 y2
  simp only [← hL2] at hat
  have he' : e.tn = ⟨e.B, e.A⟩ := rfl
  have hf' : f.tn = ⟨f.B, f.A⟩ := rfl
  rw [he', hf'] at m2
  clear o1 o2 o3 o4 z0 z1 z2 z3 z4 ze zf zp he hf hp hpd onp ha hb hc hd hb1 hb2 ts hww hl hL2 hv hlen he' hf'
  obtain ⟨px, py⟩ := p
  obtain ⟨n, hn⟩ : ∃ n, n = l.length := ⟨_, rfl⟩
  obtain ⟨L1, hL1⟩ : ∃ x, x = ptsC l := ⟨_, rfl⟩
  rw [← hn] at m1 m2 hlen2 y1 y2
  simp only [← hn] at hat
  rw [← hL1] at m1 x1 y1
  simp only [← hL1] at hat
  have g2 : (2 < n) = False := eq_false (by omega)
  have g2' : ((2 : Int) < (n : Int)) = False := eq_false (by omega)
  repeat' (first
    | with_reducible first | apply thenW_n | apply thenW_ret | apply thenW_exit | apply thenW_panic | apply blockW_n | apply blockW_same | apply blockW_ret | apply blockW_panic | apply loopW_ret | apply loopW_exit | apply loopW_panic | apply joinW_ret | apply joinW_exit | apply joinW_panic | apply W_seq | apply W_block | apply W_skip | apply W_ret | apply W_exit | apply W_label
    | with_reducible refine blockW_other (by decide) ?_
    | with_reducible refine W_region (by first | decide | (with_unfolding_all rfl)) ?_
    | (rw [vcn]; (try simp [-map_take,-map_drop, push_cast, dotAV]); try simp (disch := omega) only [i64_in, u64_in, shr64i])
    | with_reducible refine W_drawn mixed (by decide) (by kernel_rfl) ?_
    | (rw [vcnD]; (try simp [-map_take,-map_drop, push_cast, dotAV]); try simp (disch := omega) only [i64_in, u64_in, shr64i])
    | (with_reducible refine W_condW ?_; (try simp [-map_take,-map_drop, AS.val, upd, resB, mkS_env, mkS_box, lk, entry_env, condW_true, condW_false, dotAV]))
    | (with_reducible refine optK_dV (by first | omega | (simp [-map_take,-map_drop]; omega)) ?_)
    | with_reducible refine optK_dVh (by omega) ?_
    | refine And.intro (by first | omega | kernel_rfl) ?_
    | ((with_reducible refine condW_b (fun hc => ?_) (fun hc => ?_) <;> (try simp [-map_take,-map_drop, Int.ofNat_inj] at hc) <;> (try contradiction)))
    | fail)
  first | refine CallG_of (s1) ?_ ?_ rfl ?_ | refine callD_of (s1) ?_ ?_ rfl ?_
  · first | rfl | (simp [-map_take,-map_drop, natAV, numC, ← limbs.eq_1, push_cast, sgAV, sgC, ptAV, ptC, ratAV, ratC, zAV, zC, d3sAV, d3C, dC]; done)
  · first | rfl | simp [-map_take,-map_drop, natAV, zAV, zC, ratAV, ratC, ptAV, ptC, sgAV, sgC, d3sAV, d3C, dC, dotAV, AV.refs, refsL, push_cast]
  try dsimp only
  repeat' (first
    | with_reducible first | apply thenW_n | apply thenW_ret | apply thenW_exit | apply thenW_panic | apply blockW_n | apply blockW_same | apply blockW_ret | apply blockW_panic | apply loopW_ret | apply loopW_exit | apply loopW_panic | apply joinW_ret | apply joinW_exit | apply joinW_panic | apply W_seq | apply W_block | apply W_skip | apply W_ret | apply W_exit | apply W_label
    | with_reducible refine blockW_other (by decide) ?_
    | with_reducible refine W_region (by first | decide | (with_unfolding_all rfl)) ?_
    | (rw [vcn]; (try simp [-map_take,-map_drop, push_cast, sgAV, sgC, ptAV, ptC, ratAV, ratC, zAV, zC, d3sAV, d3C, dC, dotAV]); try simp (disch := omega) only [i64_in, u64_in, shr64i])
    | with_reducible refine W_drawn mixed (by decide) (by kernel_rfl) ?_
    | (rw [vcnD]; (try simp [-map_take,-map_drop, push_cast, sgAV, sgC, ptAV, ptC, ratAV, ratC, zAV, zC, d3sAV, d3C, dC, dotAV]); try simp (disch := omega) only [i64_in, u64_in, shr64i])
    | (with_reducible refine W_condW ?_; (try simp [-map_take,-map_drop, AS.val, upd, resB, mkS_env, mkS_box, lk, entry_env, condW_true, condW_false, sgAV, sgC, ptAV, ptC, ratAV, ratC, zAV, zC, d3sAV, d3C, dC, dotAV]))
    | (with_reducible refine optK_dV (by first | omega | (simp [-map_take,-map_drop]; omega)) ?_)
    | with_reducible refine optK_dVh (by omega) ?_
    | refine And.intro (by first | omega | kernel_rfl) ?_
    | ((with_reducible refine condW_b (fun hc => ?_) (fun hc => ?_) <;> (try simp [-map_take,-map_drop, Int.ofNat_inj] at hc) <;> (try contradiction)))
    | fail)
  first | refine CallG_of (s2) ?_ ?_ rfl ?_ | refine callD_of (s2) ?_ ?_ rfl ?_
  · first | rfl | (simp [-map_take,-map_drop, natAV, numC, ← limbs.eq_1, push_cast, sgAV, sgC, ptAV, ptC, ratAV, ratC, zAV, zC, d3sAV, d3C, dC]; done)
  · first | rfl | simp [-map_take,-map_drop, natAV, zAV, zC, ratAV, ratC, ptAV, ptC, sgAV, sgC, d3sAV, d3C, dC, dotAV, AV.refs, refsL, push_cast]
  try dsimp only
  repeat' (first
    | with_reducible first | apply thenW_n | apply thenW_ret | apply thenW_exit | apply thenW_panic | apply blockW_n | apply blockW_same | apply blockW_ret | apply blockW_panic | apply loopW_ret | apply loopW_exit | apply loopW_panic | apply joinW_ret | apply joinW_exit | apply joinW_panic | apply W_seq | apply W_block | apply W_skip | apply W_ret | apply W_exit | apply W_label
    | with_reducible refine blockW_other (by decide) ?_
    | with_reducible refine W_region (by first | decide | (with_unfolding_all rfl)) ?_
    | (rw [vcn]; (try simp [-map_take,-map_drop, push_cast, sgAV, sgC, ptAV, ptC, ratAV, ratC, zAV, zC, d3sAV, d3C, dC, dotAV]); try simp (disch := omega) only [i64_in, u64_in, shr64i])
    | with_reducible refine W_drawn mixed (by decide) (by kernel_rfl) ?_
    | (rw [vcnD]; (try simp [-map_take,-map_drop, push_cast, sgAV, sgC, ptAV, ptC, ratAV, ratC, zAV, zC, d3sAV, d3C, dC, dotAV]); try simp (disch := omega) only [i64_in, u64_in, shr64i])
    | (with_reducible refine W_condW ?_; (try simp [-map_take,-map_drop, AS.val, upd, resB, mkS_env, mkS_box, lk, entry_env, condW_true, condW_false, sgAV, sgC, ptAV, ptC, ratAV, ratC, zAV, zC, d3sAV, d3C, dC, dotAV]))
    | (with_reducible refine optK_dV (by first | omega | (simp [-map_take,-map_drop]; omega)) ?_)
    | with_reducible refine optK_dVh (by omega) ?_
    | refine And.intro (by first | omega | kernel_rfl) ?_
    | ((with_reducible refine condW_b (fun hc => ?_) (fun hc => ?_) <;> (try simp [-map_take,-map_drop, Int.ofNat_inj] at hc) <;> (try contradiction)))
    | fail)
  first | refine CallG_of (m1) ?_ ?_ rfl ?_ | refine callD_of (m1) ?_ ?_ rfl ?_
  · first | rfl | (simp [-map_take,-map_drop, natAV, numC, ← limbs.eq_1, push_cast, sgAV, sgC, ptAV, ptC, ratAV, ratC, zAV, zC]; done)
  · first | rfl | simp [-map_take,-map_drop, natAV, zAV, zC, ratAV, ratC, ptAV, ptC, sgAV, sgC, d3sAV, d3C, dC, dotAV, AV.refs, refsL, push_cast]
  try dsimp only
  repeat' (first
    | with_reducible first | apply thenW_n | apply thenW_ret | apply thenW_exit | apply thenW_panic | apply blockW_n | apply blockW_same | apply blockW_ret | apply blockW_panic | apply loopW_ret | apply loopW_exit | apply loopW_panic | apply joinW_ret | apply joinW_exit | apply joinW_panic | apply W_seq | apply W_block | apply W_skip | apply W_ret | apply W_exit | apply W_label
    | with_reducible refine blockW_other (by decide) ?_
    | with_reducible refine W_region (by first | decide | (with_unfolding_all rfl)) ?_
    | (rw [vcn]; (try simp [-map_take,-map_drop, push_cast, sgAV, sgC, ptAV, ptC, ratAV, ratC, zAV, zC, d3sAV, d3C, dC, dotAV]); try simp (disch := omega) only [i64_in, u64_in, shr64i])
    | with_reducible refine W_drawn mixed (by decide) (by kernel_rfl) ?_
    | (rw [vcnD]; (try simp [-map_take,-map_drop, push_cast, sgAV, sgC, ptAV, ptC, ratAV, ratC, zAV, zC, d3sAV, d3C, dC, dotAV]); try simp (disch := omega) only [i64_in, u64_in, shr64i])
    | (with_reducible refine W_condW ?_; (try simp [-map_take,-map_drop, AS.val, upd, resB, mkS_env, mkS_box, lk, entry_env, condW_true, condW_false, sgAV, sgC, ptAV, ptC, ratAV, ratC, zAV, zC, d3sAV, d3C, dC, dotAV]))
    | (with_reducible refine optK_dV (by first | omega | (simp [-map_take,-map_drop]; omega)) ?_)
    | with_reducible refine optK_dVh (by omega) ?_
    | refine And.intro (by first | omega | kernel_rfl) ?_
    | ((with_reducible refine condW_b (fun hc => ?_) (fun hc => ?_) <;> (try simp [-map_take,-map_drop, Int.ofNat_inj] at hc) <;> (try contradiction)))
    | fail)
  first | refine CallG_of (m2) ?_ ?_ rfl ?_ | refine callD_of (m2) ?_ ?_ rfl ?_
  · first | rfl | (simp [-map_take,-map_drop, natAV, numC, ← limbs.eq_1, push_cast, sgAV, sgC, ptAV, ptC, ratAV, ratC, zAV, zC]; done)
  · first | rfl | simp [-map_take,-map_drop, natAV, zAV, zC, ratAV, ratC, ptAV, ptC, sgAV, sgC, d3sAV, d3C, dC, dotAV, AV.refs, refsL, push_cast]
  try dsimp only
  repeat' (first
    | with_reducible first | apply thenW_n | apply thenW_ret | apply thenW_exit | apply thenW_panic | apply blockW_n | apply blockW_same | apply blockW_ret | apply blockW_panic | apply loopW_ret | apply loopW_exit | apply loopW_panic | apply joinW_ret | apply joinW_exit | apply joinW_panic | apply W_seq | apply W_block | apply W_skip | apply W_ret | apply W_exit | apply W_label
    | with_reducible refine blockW_other (by decide) ?_
    | with_reducible refine W_region (by first | decide | (with_unfolding_all rfl)) ?_
    | (rw [vcn]; (try simp [-map_take,-map_drop, push_cast, sgAV, sgC, ptAV, ptC, ratAV, ratC, zAV, zC]); try simp (disch := omega) only [i64_in, u64_in, shr64i])
    | with_reducible refine W_drawn mixed (by decide) (by kernel_rfl) ?_
    | (rw [vcnD]; (try simp [-map_take,-map_drop, push_cast, sgAV, sgC, ptAV, ptC, ratAV, ratC, zAV, zC]); try simp (disch := omega) only [i64_in, u64_in, shr64i])
    | (with_reducible refine W_condW ?_; (try simp [-map_take,-map_drop, AS.val, upd, resB, mkS_env, mkS_box, lk, entry_env, condW_true, condW_false, sgAV, sgC, ptAV, ptC, ratAV, ratC, zAV, zC]))
    | (with_reducible refine optK_dV (by first | omega | (simp [-map_take,-map_drop]; omega)) ?_)
    | with_reducible refine optK_dVh (by omega) ?_
    | refine And.intro (by first | omega | kernel_rfl) ?_
    | ((with_reducible refine condW_b (fun hc => ?_) (fun hc => ?_) <;> (try simp [-map_take,-map_drop, Int.ofNat_inj] at hc) <;> (try contradiction)))
    | fail)
  first | refine CallG_of (known11_ok) ?_ ?_ rfl ?_ | refine callD_of (known11_ok) ?_ ?_ rfl ?_
  · first | rfl | (simp [-map_take,-map_drop, natAV, numC, ← limbs.eq_1, push_cast]; done)
  · first | rfl | simp [-map_take,-map_drop, natAV, zAV, zC, ratAV, ratC, ptAV, ptC, sgAV, sgC, d3sAV, d3C, dC, dotAV, AV.refs, refsL, push_cast]
  try dsimp only
  repeat' (first
    | with_reducible first | apply thenW_n | apply thenW_ret | apply thenW_exit | apply thenW_panic | apply blockW_n | apply blockW_same | apply blockW_ret | apply blockW_panic | apply loopW_ret | apply loopW_exit | apply loopW_panic | apply joinW_ret | apply joinW_exit | apply joinW_panic | apply W_seq | apply W_block | apply W_skip | apply W_ret | apply W_exit | apply W_label
    | with_reducible refine blockW_other (by decide) ?_
    | with_reducible refine W_region (by first | decide | (with_unfolding_all rfl)) ?_
    | (rw [vcn]; (try simp [-map_take,-map_drop, push_cast, g2, g2', x1, x2]); try simp (disch := omega) only [i64_in, u64_in, shr64i])
    | with_reducible refine W_drawn mixed (by decide) (by kernel_rfl) ?_
    | (rw [vcnD]; (try simp [-map_take,-map_drop, push_cast, g2, g2', x1, x2]); try simp (disch := omega) only [i64_in, u64_in, shr64i])
    | (with_reducible refine W_condW ?_; (try simp [-map_take,-map_drop, AS.val, upd, resB, mkS_env, mkS_box, lk, entry_env, condW_true, condW_false, g2, g2', x1, x2]))
    | (with_reducible refine optK_dV (by first | omega | (simp [-map_take,-map_drop]; omega)) ?_)
    | with_reducible refine optK_dVh (by omega) ?_
    | refine And.intro (by first | omega | kernel_rfl) ?_
    | ((with_reducible refine condW_b (fun hc => ?_) (fun hc => ?_) <;> (try simp [-map_take,-map_drop, Int.ofNat_inj] at hc) <;> (try contradiction)))
    | fail)
  refine W_loopW (X := Nat) (fun i => [(4, i64V i0), (11, .bp 11 0), (13, .bp 13 0), (15, .slc false 8 n L1), (16, .slc false 8 n L2), (17, i64V i)]) (fun _ => [(11, .mut 34 (sgC e)), (13, .mut 34 (sgC f))]) (fun i => n - i) (fun i => i ≤ n) 0 id (by omega) ⟨?_, ?_, ?_, ?_, ?_, ?_⟩ fun i hi => ?_
  all_goals first | (with_reducible refine W_id ?_) | (simp [-map_take,-map_drop, push_cast, dV_take, dV_drop, sgC, ptC, ratC, zC, x1, x2]; done) | (simp [-map_take,-map_drop, push_cast, dV_take, dV_drop, sgC, ptC, ratC, zC, x1, x2]; omega) | (intro i hi; simp [-map_take,-map_drop]; omega) | (intro i hi; dsimp only; (repeat' split) <;> omega) | (simp [-map_take,-map_drop, push_cast, dV_take, dV_drop, sgC, ptC, ratC, zC, x1, x2]; fail_if_success done)
  by_cases hin : i < n
  · have G1 : (i < n) = True := eq_true hin
    have G1' : ((i : Int) < (n : Int)) = True := eq_true (by omega)
    have W1 : IntKind.i64.wrap ((i : Int) + 1) = ((i + 1 : Nat) : Int) := by rw [i64_in _ (by omega)]; omega
    obtain ⟨x, x', t, t', d1, d2, c1, c2, c3⟩ := hat i hin
    repeat' (first
      | with_reducible first | apply thenW_n | apply thenW_ret | apply thenW_exit | apply thenW_panic | apply blockW_n | apply blockW_same | apply blockW_ret | apply blockW_panic | apply loopW_ret | apply loopW_exit | apply loopW_panic | apply joinW_ret | apply joinW_exit | apply joinW_panic | apply W_seq | apply W_block | apply W_skip | apply W_ret | apply W_exit | apply W_label
      | with_reducible refine blockW_other (by decide) ?_
      | with_reducible refine W_region (by first | decide | (with_unfolding_all rfl)) ?_
      | (rw [vcn]; (try simp [-map_take,-map_drop, push_cast, G1, G1', d1, d2, y1, y2, sgAV, sgC, ptAV, ptC, ratAV, ratC, zAV, zC]); try simp (disch := omega) only [i64_in, u64_in, shr64i])
      | with_reducible refine W_drawn mixed (by decide) (by kernel_rfl) ?_
      | (rw [vcnD]; (try simp [-map_take,-map_drop, push_cast, G1, G1', d1, d2, y1, y2, sgAV, sgC, ptAV, ptC, ratAV, ratC, zAV, zC]); try simp (disch := omega) only [i64_in, u64_in, shr64i])
      | (with_reducible refine W_condW ?_; (try simp [-map_take,-map_drop, AS.val, upd, resB, mkS_env, mkS_box, lk, entry_env, condW_true, condW_false, G1, G1', d1, d2, y1, y2, sgAV, sgC, ptAV, ptC, ratAV, ratC, zAV, zC]))
      | (with_reducible refine optK_dV (by first | omega | (simp [-map_take,-map_drop]; omega)) ?_)
      | with_reducible refine optK_dVh (by omega) ?_
      | refine And.intro (by first | omega | kernel_rfl) ?_
      | ((with_reducible refine condW_b (fun hc => ?_) (fun hc => ?_) <;> (try simp [-map_take,-map_drop, Int.ofNat_inj] at hc) <;> (try contradiction)))
      | fail)
    first | refine CallG_of (c1) ?_ ?_ rfl ?_ | refine callD_of (c1) ?_ ?_ rfl ?_
    · first | rfl | (simp [-map_take,-map_drop, natAV, numC, ← limbs.eq_1, push_cast, sgAV, sgC, ptAV, ptC, ratAV, ratC, zAV, zC]; done)
    · first | rfl | simp [-map_take,-map_drop, natAV, zAV, zC, ratAV, ratC, ptAV, ptC, sgAV, sgC, d3sAV, d3C, dC, dotAV, AV.refs, refsL, push_cast]
    try dsimp only
    repeat' (first
      | with_reducible first | apply thenW_n | apply thenW_ret | apply thenW_exit | apply thenW_panic | apply blockW_n | apply blockW_same | apply blockW_ret | apply blockW_panic | apply loopW_ret | apply loopW_exit | apply loopW_panic | apply joinW_ret | apply joinW_exit | apply joinW_panic | apply W_seq | apply W_block | apply W_skip | apply W_ret | apply W_exit | apply W_label
      | with_reducible refine blockW_other (by decide) ?_
      | with_reducible refine W_region (by first | decide | (with_unfolding_all rfl)) ?_
      | (rw [vcn]; (try simp [-map_take,-map_drop, push_cast, G1, G1', d1, d2, y1, y2, W1, sgAV, sgC, ptAV, ptC, ratAV, ratC, zAV, zC]); try simp (disch := omega) only [i64_in, u64_in, shr64i])
      | with_reducible refine W_drawn mixed (by decide) (by kernel_rfl) ?_
      | (rw [vcnD]; (try simp [-map_take,-map_drop, push_cast, G1, G1', d1, d2, y1, y2, W1, sgAV, sgC, ptAV, ptC, ratAV, ratC, zAV, zC]); try simp (disch := omega) only [i64_in, u64_in, shr64i])
      | (with_reducible refine W_condW ?_; (try simp [-map_take,-map_drop, AS.val, upd, resB, mkS_env, mkS_box, lk, entry_env, condW_true, condW_false, G1, G1', d1, d2, y1, y2, W1, sgAV, sgC, ptAV, ptC, ratAV, ratC, zAV, zC]))
      | (with_reducible refine optK_dV (by first | omega | (simp [-map_take,-map_drop]; omega)) ?_)
      | with_reducible refine optK_dVh (by omega) ?_
      | refine And.intro (by first | omega | kernel_rfl) ?_
      | ((with_reducible refine condW_b (fun hc => ?_) (fun hc => ?_) <;> (try simp [-map_take,-map_drop, Int.ofNat_inj] at hc) <;> (try contradiction)))
      | fail)
    first | refine CallG_of (c2) ?_ ?_ rfl ?_ | refine callD_of (c2) ?_ ?_ rfl ?_
    · first | rfl | (simp [-map_take,-map_drop, natAV, numC, ← limbs.eq_1, push_cast, sgAV, sgC, ptAV, ptC, ratAV, ratC, zAV, zC]; done)
    · first | rfl | simp [-map_take,-map_drop, natAV, zAV, zC, ratAV, ratC, ptAV, ptC, sgAV, sgC, d3sAV, d3C, dC, dotAV, AV.refs, refsL, push_cast]
    try dsimp only
    repeat' (first
      | with_reducible first | apply thenW_n | apply thenW_ret | apply thenW_exit | apply thenW_panic | apply blockW_n | apply blockW_same | apply blockW_ret | apply blockW_panic | apply loopW_ret | apply loopW_exit | apply loopW_panic | apply joinW_ret | apply joinW_exit | apply joinW_panic | apply W_seq | apply W_block | apply W_skip | apply W_ret | apply W_exit | apply W_label
      | with_reducible refine blockW_other (by decide) ?_
      | with_reducible refine W_region (by first | decide | (with_unfolding_all rfl)) ?_
      | (rw [vcn]; (try simp [-map_take,-map_drop, push_cast, G1, G1', d1, d2, y1, y2, W1, sgAV, sgC, ptAV, ptC, ratAV, ratC, zAV, zC]); try simp (disch := omega) only [i64_in, u64_in, shr64i])
      | with_reducible refine W_drawn mixed (by decide) (by kernel_rfl) ?_
      | (rw [vcnD]; (try simp [-map_take,-map_drop, push_cast, G1, G1', d1, d2, y1, y2, W1, sgAV, sgC, ptAV, ptC, ratAV, ratC, zAV, zC]); try simp (disch := omega) only [i64_in, u64_in, shr64i])
      | (with_reducible refine W_condW ?_; (try simp [-map_take,-map_drop, AS.val, upd, resB, mkS_env, mkS_box, lk, entry_env, condW_true, condW_false, G1, G1', d1, d2, y1, y2, W1, sgAV, sgC, ptAV, ptC, ratAV, ratC, zAV, zC]))
      | (with_reducible refine optK_dV (by first | omega | (simp [-map_take,-map_drop]; omega)) ?_)
      | with_reducible refine optK_dVh (by omega) ?_
      | refine And.intro (by first | omega | kernel_rfl) ?_
      | ((with_reducible refine condW_b (fun hc => ?_) (fun hc => ?_) <;> (try simp [-map_take,-map_drop, Int.ofNat_inj] at hc) <;> (try contradiction)))
      | fail)
    first | refine CallG_of (c3) ?_ ?_ rfl ?_ | refine callD_of (c3) ?_ ?_ rfl ?_
    · first | rfl | (simp [-map_take,-map_drop, natAV, numC, ← limbs.eq_1, push_cast, sgAV, sgC, ptAV, ptC, ratAV, ratC, zAV, zC]; done)
    · first | rfl | simp [-map_take,-map_drop, natAV, zAV, zC, ratAV, ratC, ptAV, ptC, sgAV, sgC, d3sAV, d3C, dC, dotAV, AV.refs, refsL, push_cast]
    try dsimp only
    repeat' (first
      | with_reducible first | apply thenW_n | apply thenW_ret | apply thenW_exit | apply thenW_panic | apply blockW_n | apply blockW_same | apply blockW_ret | apply blockW_panic | apply loopW_ret | apply loopW_exit | apply loopW_panic | apply joinW_ret | apply joinW_exit | apply joinW_panic | apply W_seq | apply W_block | apply W_skip | apply W_ret | apply W_exit | apply W_label
      | with_reducible refine blockW_other (by decide) ?_
      | with_reducible refine W_region (by first | decide | (with_unfolding_all rfl)) ?_
      | (rw [vcn]; (try simp [-map_take,-map_drop, push_cast, G1, G1', d1, d2, y1, y2, W1, sgAV, sgC, ptAV, ptC, ratAV, ratC, zAV, zC]); try simp (disch := omega) only [i64_in, u64_in, shr64i])
      | with_reducible refine W_drawn mixed (by decide) (by kernel_rfl) ?_
      | (rw [vcnD]; (try simp [-map_take,-map_drop, push_cast, G1, G1', d1, d2, y1, y2, W1, sgAV, sgC, ptAV, ptC, ratAV, ratC, zAV, zC]); try simp (disch := omega) only [i64_in, u64_in, shr64i])
      | (with_reducible refine W_condW ?_; (try simp [-map_take,-map_drop, AS.val, upd, resB, mkS_env, mkS_box, lk, entry_env, condW_true, condW_false, G1, G1', d1, d2, y1, y2, W1, sgAV, sgC, ptAV, ptC, ratAV, ratC, zAV, zC]))
      | (with_reducible refine optK_dV (by first | omega | (simp [-map_take,-map_drop]; omega)) ?_)
      | with_reducible refine optK_dVh (by omega) ?_
      | refine And.intro (by first | omega | kernel_rfl) ?_
      | ((with_reducible refine condW_b (fun hc => ?_) (fun hc => ?_) <;> (try simp [-map_take,-map_drop, Int.ofNat_inj] at hc) <;> (try contradiction)))
      | fail)
    refine loopW_n (i + 1) id (by omega) (by omega) ⟨?_, ?_, ?_, ?_, ?_, ?_⟩
    all_goals first | (with_reducible refine W_id ?_) | (simp [-map_take,-map_drop, push_cast, dV_take, dV_drop, sgC, ptC, ratC, zC, x1, x2]; done) | (simp [-map_take,-map_drop, push_cast, dV_take, dV_drop, sgC, ptC, ratC, zC, x1, x2]; omega) | (intro i hi; simp [-map_take,-map_drop]; omega) | (intro i hi; dsimp only; (repeat' split) <;> omega) | (simp [-map_take,-map_drop, push_cast, dV_take, dV_drop, sgC, ptC, ratC, zC, x1, x2]; fail_if_success done)
  have hin : i = n := by omega
  subst hin
  repeat' (first
    | with_reducible first | apply thenW_n | apply thenW_ret | apply thenW_exit | apply thenW_panic | apply blockW_n | apply blockW_same | apply blockW_ret | apply blockW_panic | apply loopW_ret | apply loopW_exit | apply loopW_panic | apply joinW_ret | apply joinW_exit | apply joinW_panic | apply W_seq | apply W_block | apply W_skip | apply W_ret | apply W_exit | apply W_label
    | with_reducible refine blockW_other (by decide) ?_
    | with_reducible refine W_region (by first | decide | (with_unfolding_all rfl)) ?_
    | (rw [vcn]; (try simp [-map_take,-map_drop, push_cast, hk, w1]); try simp (disch := omega) only [i64_in, u64_in, shr64i])
    | with_reducible refine W_drawn mixed (by decide) (by kernel_rfl) ?_
    | (rw [vcnD]; (try simp [-map_take,-map_drop, push_cast, hk, w1]); try simp (disch := omega) only [i64_in, u64_in, shr64i])
    | (with_reducible refine W_condW ?_; (try simp [-map_take,-map_drop, AS.val, upd, resB, mkS_env, mkS_box, lk, entry_env, condW_true, condW_false, hk, w1]))
    | (with_reducible refine optK_dV (by first | omega | (simp [-map_take,-map_drop]; omega)) ?_)
    | with_reducible refine optK_dVh (by omega) ?_
    | refine And.intro (by first | omega | kernel_rfl) ?_
    | ((with_reducible refine condW_b (fun hc => ?_) (fun hc => ?_) <;> (try simp [-map_take,-map_drop, Int.ofNat_inj] at hc) <;> (try contradiction)))
    | fail)
  first | refine CallG_of (e0) ?_ ?_ rfl ?_ | refine callD_of (e0) ?_ ?_ rfl ?_
  · first | rfl | (simp [-map_take,-map_drop, natAV, numC, ← limbs.eq_1, push_cast, ratAV, ratC, zAV, zC]; done)
  · first | rfl | simp [-map_take,-map_drop, natAV, zAV, zC, ratAV, ratC, ptAV, ptC, sgAV, sgC, d3sAV, d3C, dC, dotAV, AV.refs, refsL, push_cast]
  try dsimp only
  repeat' (first
    | with_reducible first | apply thenW_n | apply thenW_ret | apply thenW_exit | apply thenW_panic | apply blockW_n | apply blockW_same | apply blockW_ret | apply blockW_panic | apply loopW_ret | apply loopW_exit | apply loopW_panic | apply joinW_ret | apply joinW_exit | apply joinW_panic | apply W_seq | apply W_block | apply W_skip | apply W_ret | apply W_exit | apply W_label
    | with_reducible refine blockW_other (by decide) ?_
    | with_reducible refine W_region (by first | decide | (with_unfolding_all rfl)) ?_
    | (rw [vcn]; (try simp [-map_take,-map_drop, push_cast, sgAV, sgC, ptAV, ptC, ratAV, ratC, zAV, zC]); try simp (disch := omega) only [i64_in, u64_in, shr64i])
    | with_reducible refine W_drawn mixed (by decide) (by kernel_rfl) ?_
    | (rw [vcnD]; (try simp [-map_take,-map_drop, push_cast, sgAV, sgC, ptAV, ptC, ratAV, ratC, zAV, zC]); try simp (disch := omega) only [i64_in, u64_in, shr64i])
    | (with_reducible refine W_condW ?_; (try simp [-map_take,-map_drop, AS.val, upd, resB, mkS_env, mkS_box, lk, entry_env, condW_true, condW_false, sgAV, sgC, ptAV, ptC, ratAV, ratC, zAV, zC]))
    | (with_reducible refine optK_dV (by first | omega | (simp [-map_take,-map_drop]; omega)) ?_)
    | with_reducible refine optK_dVh (by omega) ?_
    | refine And.intro (by first | omega | kernel_rfl) ?_
    | ((with_reducible refine condW_b (fun hc => ?_) (fun hc => ?_) <;> (try simp [-map_take,-map_drop, Int.ofNat_inj] at hc) <;> (try contradiction)))
    | fail)
  first | refine CallG_of (q1) ?_ ?_ rfl ?_ | refine callD_of (q1) ?_ ?_ rfl ?_
  · first | rfl | (simp [-map_take,-map_drop, natAV, numC, ← limbs.eq_1, push_cast, ratAV, ratC, zAV, zC]; done)
  · first | rfl | simp [-map_take,-map_drop, natAV, zAV, zC, ratAV, ratC, ptAV, ptC, sgAV, sgC, d3sAV, d3C, dC, dotAV, AV.refs, refsL, push_cast]
  try dsimp only
  repeat' (first
    | with_reducible first | apply thenW_n | apply thenW_ret | apply thenW_exit | apply thenW_panic | apply blockW_n | apply blockW_same | apply blockW_ret | apply blockW_panic | apply loopW_ret | apply loopW_exit | apply loopW_panic | apply joinW_ret | apply joinW_exit | apply joinW_panic | apply W_seq | apply W_block | apply W_skip | apply W_ret | apply W_exit | apply W_label
    | with_reducible refine blockW_other (by decide) ?_
    | with_reducible refine W_region (by first | decide | (with_unfolding_all rfl)) ?_
    | (rw [vcn]; (try simp [-map_take,-map_drop, push_cast, sgAV, sgC, ptAV, ptC, ratAV, ratC, zAV, zC]); try simp (disch := omega) only [i64_in, u64_in, shr64i])
    | with_reducible refine W_drawn mixed (by decide) (by kernel_rfl) ?_
    | (rw [vcnD]; (try simp [-map_take,-map_drop, push_cast, sgAV, sgC, ptAV, ptC, ratAV, ratC, zAV, zC]); try simp (disch := omega) only [i64_in, u64_in, shr64i])
    | (with_reducible refine W_condW ?_; (try simp [-map_take,-map_drop, AS.val, upd, resB, mkS_env, mkS_box, lk, entry_env, condW_true, condW_false, sgAV, sgC, ptAV, ptC, ratAV, ratC, zAV, zC]))
    | (with_reducible refine optK_dV (by first | omega | (simp [-map_take,-map_drop]; omega)) ?_)
    | with_reducible refine optK_dVh (by omega) ?_
    | refine And.intro (by first | omega | kernel_rfl) ?_
    | ((with_reducible refine condW_b (fun hc => ?_) (fun hc => ?_) <;> (try simp [-map_take,-map_drop, Int.ofNat_inj] at hc) <;> (try contradiction)))
    | fail)
  first | refine CallG_of (q2) ?_ ?_ rfl ?_ | refine callD_of (q2) ?_ ?_ rfl ?_
  · first | rfl | (simp [-map_take,-map_drop, natAV, numC, ← limbs.eq_1, push_cast, ratAV, ratC, zAV, zC]; done)
  · first | rfl | simp [-map_take,-map_drop, natAV, zAV, zC, ratAV, ratC, ptAV, ptC, sgAV, sgC, d3sAV, d3C, dC, dotAV, AV.refs, refsL, push_cast]
  try dsimp only
  repeat' (first
    | with_reducible first | apply thenW_n | apply thenW_ret | apply thenW_exit | apply thenW_panic | apply blockW_n | apply blockW_same | apply blockW_ret | apply blockW_panic | apply loopW_ret | apply loopW_exit | apply loopW_panic | apply joinW_ret | apply joinW_exit | apply joinW_panic | apply W_seq | apply W_block | apply W_skip | apply W_ret | apply W_exit | apply W_label
    | with_reducible refine blockW_other (by decide) ?_
    | with_reducible refine W_region (by first | decide | (with_unfolding_all rfl)) ?_
    | (rw [vcn]; (try simp [-map_take,-map_drop, push_cast, sgAV, sgC, ptAV, ptC, ratAV, ratC, zAV, zC]); try simp (disch := omega) only [i64_in, u64_in, shr64i])
    | with_reducible refine W_drawn mixed (by decide) (by kernel_rfl) ?_
    | (rw [vcnD]; (try simp [-map_take,-map_drop, push_cast, sgAV, sgC, ptAV, ptC, ratAV, ratC, zAV, zC]); try simp (disch := omega) only [i64_in, u64_in, shr64i])
    | (with_reducible refine W_condW ?_; (try simp [-map_take,-map_drop, AS.val, upd, resB, mkS_env, mkS_box, lk, entry_env, condW_true, condW_false, sgAV, sgC, ptAV, ptC, ratAV, ratC, zAV, zC]))
    | (with_reducible refine optK_dV (by first | omega | (simp [-map_take,-map_drop]; omega)) ?_)
    | with_reducible refine optK_dVh (by omega) ?_
    | refine And.intro (by first | omega | kernel_rfl) ?_
    | ((with_reducible refine condW_b (fun hc => ?_) (fun hc => ?_) <;> (try simp [-map_take,-map_drop, Int.ofNat_inj] at hc) <;> (try contradiction)))
    | fail)
  first | refine CallG_of (q3) ?_ ?_ rfl ?_ | refine callD_of (q3) ?_ ?_ rfl ?_
  · first | rfl | (simp [-map_take,-map_drop, natAV, numC, ← limbs.eq_1, push_cast, ratAV, ratC, zAV, zC]; done)
  · first | rfl | simp [-map_take,-map_drop, natAV, zAV, zC, ratAV, ratC, ptAV, ptC, sgAV, sgC, d3sAV, d3C, dC, dotAV, AV.refs, refsL, push_cast]
  try dsimp only
  repeat' (first
    | with_reducible first | apply thenW_n | apply thenW_ret | apply thenW_exit | apply thenW_panic | apply blockW_n | apply blockW_same | apply blockW_ret | apply blockW_panic | apply loopW_ret | apply loopW_exit | apply loopW_panic | apply joinW_ret | apply joinW_exit | apply joinW_panic | apply W_seq | apply W_block | apply W_skip | apply W_ret | apply W_exit | apply W_label
    | with_reducible refine blockW_other (by decide) ?_
    | with_reducible refine W_region (by first | decide | (with_unfolding_all rfl)) ?_
    | (rw [vcn]; (try simp [-map_take,-map_drop, push_cast, sgAV, sgC, ptAV, ptC, ratAV, ratC, zAV, zC]); try simp (disch := omega) only [i64_in, u64_in, shr64i])
    | with_reducible refine W_drawn mixed (by decide) (by kernel_rfl) ?_
    | (rw [vcnD]; (try simp [-map_take,-map_drop, push_cast, sgAV, sgC, ptAV, ptC, ratAV, ratC, zAV, zC]); try simp (disch := omega) only [i64_in, u64_in, shr64i])
    | (with_reducible refine W_condW ?_; (try simp [-map_take,-map_drop, AS.val, upd, resB, mkS_env, mkS_box, lk, entry_env, condW_true, condW_false, sgAV, sgC, ptAV, ptC, ratAV, ratC, zAV, zC]))
    | (with_reducible refine optK_dV (by first | omega | (simp [-map_take,-map_drop]; omega)) ?_)
    | with_reducible refine optK_dVh (by omega) ?_
    | refine And.intro (by first | omega | kernel_rfl) ?_
    | ((with_reducible refine condW_b (fun hc => ?_) (fun hc => ?_) <;> (try simp [-map_take,-map_drop, Int.ofNat_inj] at hc) <;> (try contradiction)))
    | fail)
  first | refine CallG_of (q4) ?_ ?_ rfl ?_ | refine callD_of (q4) ?_ ?_ rfl ?_
  · first | rfl | (simp [-map_take,-map_drop, natAV, numC, ← limbs.eq_1, push_cast, ratAV, ratC, zAV, zC]; done)
  · first | rfl | simp [-map_take,-map_drop, natAV, zAV, zC, ratAV, ratC, ptAV, ptC, sgAV, sgC, d3sAV, d3C, dC, dotAV, AV.refs, refsL, push_cast]
  try dsimp only
  repeat' (first
    | with_reducible first | apply thenW_n | apply thenW_ret | apply thenW_exit | apply thenW_panic | apply blockW_n | apply blockW_same | apply blockW_ret | apply blockW_panic | apply loopW_ret | apply loopW_exit | apply loopW_panic | apply joinW_ret | apply joinW_exit | apply joinW_panic | apply W_seq | apply W_block | apply W_skip | apply W_ret | apply W_exit | apply W_label
    | with_reducible refine blockW_other (by decide) ?_
    | with_reducible refine W_region (by first | decide | (with_unfolding_all rfl)) ?_
    | (rw [vcn]; (try simp [-map_take,-map_drop, push_cast, sgAV, sgC, ptAV, ptC, ratAV, ratC, zAV, zC]); try simp (disch := omega) only [i64_in, u64_in, shr64i])
    | with_reducible refine W_drawn mixed (by decide) (by kernel_rfl) ?_
    | (rw [vcnD]; (try simp [-map_take,-map_drop, push_cast, sgAV, sgC, ptAV, ptC, ratAV, ratC, zAV, zC]); try simp (disch := omega) only [i64_in, u64_in, shr64i])
    | (with_reducible refine W_condW ?_; (try simp [-map_take,-map_drop, AS.val, upd, resB, mkS_env, mkS_box, lk, entry_env, condW_true, condW_false, sgAV, sgC, ptAV, ptC, ratAV, ratC, zAV, zC]))
    | (with_reducible refine optK_dV (by first | omega | (simp [-map_take,-map_drop]; omega)) ?_)
    | with_reducible refine optK_dVh (by omega) ?_
    | refine And.intro (by first | omega | kernel_rfl) ?_
    | ((with_reducible refine condW_b (fun hc => ?_) (fun hc => ?_) <;> (try simp [-map_take,-map_drop, Int.ofNat_inj] at hc) <;> (try contradiction)))
    | fail)
  first | refine CallG_of (q5) ?_ ?_ rfl ?_ | refine callD_of (q5) ?_ ?_ rfl ?_
  · first | rfl | (simp [-map_take,-map_drop, natAV, numC, ← limbs.eq_1, push_cast, ratAV, ratC, zAV, zC]; done)
  · first | rfl | simp [-map_take,-map_drop, natAV, zAV, zC, ratAV, ratC, ptAV, ptC, sgAV, sgC, d3sAV, d3C, dC, dotAV, AV.refs, refsL, push_cast]
  try dsimp only
  repeat' (first
    | with_reducible first | apply thenW_n | apply thenW_ret | apply thenW_exit | apply thenW_panic | apply blockW_n | apply blockW_same | apply blockW_ret | apply blockW_panic | apply loopW_ret | apply loopW_exit | apply loopW_panic | apply joinW_ret | apply joinW_exit | apply joinW_panic | apply W_seq | apply W_block | apply W_skip | apply W_ret | apply W_exit | apply W_label
    | with_reducible refine blockW_other (by decide) ?_
    | with_reducible refine W_region (by first | decide | (with_unfolding_all rfl)) ?_
    | (rw [vcn]; (try simp [-map_take,-map_drop, push_cast, sgAV, sgC, ptAV, ptC, ratAV, ratC, zAV, zC]); try simp (disch := omega) only [i64_in, u64_in, shr64i])
    | with_reducible refine W_drawn mixed (by decide) (by kernel_rfl) ?_
    | (rw [vcnD]; (try simp [-map_take,-map_drop, push_cast, sgAV, sgC, ptAV, ptC, ratAV, ratC, zAV, zC]); try simp (disch := omega) only [i64_in, u64_in, shr64i])
    | (with_reducible refine W_condW ?_; (try simp [-map_take,-map_drop, AS.val, upd, resB, mkS_env, mkS_box, lk, entry_env, condW_true, condW_false, sgAV, sgC, ptAV, ptC, ratAV, ratC, zAV, zC]))
    | (with_reducible refine optK_dV (by first | omega | (simp [-map_take,-map_drop]; omega)) ?_)
    | with_reducible refine optK_dVh (by omega) ?_
    | refine And.intro (by first | omega | kernel_rfl) ?_
    | ((with_reducible refine condW_b (fun hc => ?_) (fun hc => ?_) <;> (try simp [-map_take,-map_drop, Int.ofNat_inj] at hc) <;> (try contradiction)))
    | fail)
  first | refine CallG_of (q6) ?_ ?_ rfl ?_ | refine callD_of (q6) ?_ ?_ rfl ?_
  · first | rfl | (simp [-map_take,-map_drop, natAV, numC, ← limbs.eq_1, push_cast, ratAV, ratC, zAV, zC]; done)
  · first | rfl | simp [-map_take,-map_drop, natAV, zAV, zC, ratAV, ratC, ptAV, ptC, sgAV, sgC, d3sAV, d3C, dC, dotAV, AV.refs, refsL, push_cast]
  try dsimp only
  repeat' (first
    | with_reducible apply W_seq
    | with_reducible refine W_region (by first | decide | (with_unfolding_all rfl)) ?_
    | (rw [vcn]; (try simp [-map_take,-map_drop, push_cast, sgAV, sgC, ptAV, ptC, ratAV, ratC, zAV, zC]); try simp (disch := omega) only [i64_in, u64_in, shr64i])
    | with_reducible refine W_drawn mixed (by decide) (by kernel_rfl) ?_
    | (rw [vcnD]; (try simp [-map_take,-map_drop, push_cast, sgAV, sgC, ptAV, ptC, ratAV, ratC, zAV, zC]); try simp (disch := omega) only [i64_in, u64_in, shr64i])
    | (with_reducible refine optK_dV (by first | omega | (simp [-map_take,-map_drop]; omega)) ?_)
    | with_reducible refine optK_dVh (by omega) ?_
    | refine And.intro (by first | omega | kernel_rfl) ?_
    | ((with_reducible refine condW_b (fun hc => ?_) (fun hc => ?_) <;> (try simp [-map_take,-map_drop, Int.ofNat_inj] at hc) <;> (try contradiction)))
    | fail)
  refine thenW_n ?_
  repeat' (first
    | with_reducible apply W_seq
    | with_reducible refine W_region (by first | decide | (with_unfolding_all rfl)) ?_
    | (rw [vcn]; (try simp [-map_take,-map_drop, push_cast]); try simp (disch := omega) only [i64_in, u64_in, shr64i])
    | with_reducible refine W_drawn mixed (by decide) (by kernel_rfl) ?_
    | (rw [vcnD]; (try simp [-map_take,-map_drop, push_cast]); try simp (disch := omega) only [i64_in, u64_in, shr64i])
    | (with_reducible refine optK_dV (by first | omega | (simp [-map_take,-map_drop]; omega)) ?_)
    | with_reducible refine optK_dVh (by omega) ?_
    | refine And.intro (by first | omega | kernel_rfl) ?_
    | ((with_reducible refine condW_b (fun hc => ?_) (fun hc => ?_) <;> (try simp [-map_take,-map_drop, Int.ofNat_inj] at hc) <;> (try contradiction)))
    | fail)
  refine thenW_n ?_
  clear q1 q2 q3 q4 q5 q6 e0 hat s1 s2 m1 m2
  rcases l with _ | ⟨x, _ | ⟨y, _ | ⟨z, r⟩⟩⟩
  · have hw := zero rfl
    subst hw
    have hn' : i = 0 := hn
    have hL' : L1 = [] := hL1
    subst hn' hL'
    repeat' (first
      | with_reducible first | apply thenW_n | apply thenW_ret | apply thenW_exit | apply thenW_panic | apply blockW_n | apply blockW_same | apply blockW_ret | apply blockW_panic | apply loopW_ret | apply loopW_exit | apply loopW_panic | apply joinW_ret | apply joinW_exit | apply joinW_panic | apply W_seq | apply W_block | apply W_skip | apply W_ret | apply W_exit | apply W_label
      | with_reducible refine blockW_other (by decide) ?_
      | with_reducible refine W_region (by first | decide | (with_unfolding_all rfl)) ?_
      | (rw [vcn]; (try simp [-map_take,-map_drop, push_cast, sgAV, sgC, ptAV, ptC, ratAV, ratC, zAV, zC]); try simp (disch := omega) only [i64_in, u64_in, shr64i])
      | with_reducible refine W_drawn mixed (by decide) (by kernel_rfl) ?_
      | (rw [vcnD]; (try simp [-map_take,-map_drop, push_cast, sgAV, sgC, ptAV, ptC, ratAV, ratC, zAV, zC]); try simp (disch := omega) only [i64_in, u64_in, shr64i])
      | (with_reducible refine W_condW ?_; (try simp [-map_take,-map_drop, AS.val, upd, resB, mkS_env, mkS_box, lk, entry_env, condW_true, condW_false, sgAV, sgC, ptAV, ptC, ratAV, ratC, zAV, zC]))
      | (with_reducible refine optK_dV (by first | omega | (simp [-map_take,-map_drop]; omega)) ?_)
      | with_reducible refine optK_dVh (by omega) ?_
      | refine And.intro (by first | omega | kernel_rfl) ?_
      | ((with_reducible refine condW_b (fun hc => ?_) (fun hc => ?_) <;> (try simp [-map_take,-map_drop, Int.ofNat_inj] at hc) <;> (try contradiction)))
      | fail)
    first | refine CallG_of (b1) ?_ ?_ rfl ?_ | refine callD_of (b1) ?_ ?_ rfl ?_
    · first | rfl | (simp [-map_take,-map_drop, natAV, numC, ← limbs.eq_1, push_cast, sgAV, sgC, ptAV, ptC, ratAV, ratC, zAV, zC]; done)
    · first | rfl | simp [-map_take,-map_drop, natAV, zAV, zC, ratAV, ratC, ptAV, ptC, sgAV, sgC, d3sAV, d3C, dC, dotAV, AV.refs, refsL, push_cast]
    try dsimp only
    repeat' (first
      | with_reducible first | apply thenW_n | apply thenW_ret | apply thenW_exit | apply thenW_panic | apply blockW_n | apply blockW_same | apply blockW_ret | apply blockW_panic | apply loopW_ret | apply loopW_exit | apply loopW_panic | apply joinW_ret | apply joinW_exit | apply joinW_panic | apply W_seq | apply W_block | apply W_skip | apply W_ret | apply W_exit | apply W_label
      | with_reducible refine blockW_other (by decide) ?_
      | with_reducible refine W_region (by first | decide | (with_unfolding_all rfl)) ?_
      | (rw [vcn]; (try simp [-map_take,-map_drop, push_cast, sgAV, sgC, ptAV, ptC, ratAV, ratC, zAV, zC]); try simp (disch := omega) only [i64_in, u64_in, shr64i])
      | with_reducible refine W_drawn mixed (by decide) (by kernel_rfl) ?_
      | (rw [vcnD]; (try simp [-map_take,-map_drop, push_cast, sgAV, sgC, ptAV, ptC, ratAV, ratC, zAV, zC]); try simp (disch := omega) only [i64_in, u64_in, shr64i])
      | (with_reducible refine W_condW ?_; (try simp [-map_take,-map_drop, AS.val, upd, resB, mkS_env, mkS_box, lk, entry_env, condW_true, condW_false, sgAV, sgC, ptAV, ptC, ratAV, ratC, zAV, zC]))
      | (with_reducible refine optK_dV (by first | omega | (simp [-map_take,-map_drop]; omega)) ?_)
      | with_reducible refine optK_dVh (by omega) ?_
      | refine And.intro (by first | omega | kernel_rfl) ?_
      | ((with_reducible refine condW_b (fun hc => ?_) (fun hc => ?_) <;> (try simp [-map_take,-map_drop, Int.ofNat_inj] at hc) <;> (try contradiction)))
      | fail)
    first | refine CallG_of (b2) ?_ ?_ rfl ?_ | refine callD_of (b2) ?_ ?_ rfl ?_
    · first | rfl | (simp [-map_take,-map_drop, natAV, numC, ← limbs.eq_1, push_cast, sgAV, sgC, ptAV, ptC, ratAV, ratC, zAV, zC]; done)
    · first | rfl | simp [-map_take,-map_drop, natAV, zAV, zC, ratAV, ratC, ptAV, ptC, sgAV, sgC, d3sAV, d3C, dC, dotAV, AV.refs, refsL, push_cast]
    try dsimp only
    repeat' (first
      | with_reducible first | apply thenW_n | apply thenW_ret | apply thenW_exit | apply thenW_panic | apply blockW_n | apply blockW_same | apply blockW_ret | apply blockW_panic | apply loopW_ret | apply loopW_exit | apply loopW_panic | apply joinW_ret | apply joinW_exit | apply joinW_panic | apply W_seq | apply W_block | apply W_skip | apply W_ret | apply W_exit | apply W_label
      | with_reducible refine blockW_other (by decide) ?_
      | with_reducible refine W_region (by first | decide | (with_unfolding_all rfl)) ?_
      | (rw [vcn]; (try simp [-map_take,-map_drop, push_cast]); try simp (disch := omega) only [i64_in, u64_in, shr64i])
      | with_reducible refine W_drawn mixed (by decide) (by kernel_rfl) ?_
      | (rw [vcnD]; (try simp [-map_take,-map_drop, push_cast]); try simp (disch := omega) only [i64_in, u64_in, shr64i])
      | (with_reducible refine W_condW ?_; (try simp [-map_take,-map_drop, AS.val, upd, resB, mkS_env, mkS_box, lk, entry_env, condW_true, condW_false]))
      | (with_reducible refine optK_dV (by first | omega | (simp [-map_take,-map_drop]; omega)) ?_)
      | with_reducible refine optK_dVh (by omega) ?_
      | refine And.intro (by first | omega | kernel_rfl) ?_
      | ((with_reducible refine condW_b (fun hc => ?_) (fun hc => ?_) <;> (try simp [-map_take,-map_drop, Int.ofNat_inj] at hc) <;> (try contradiction)))
      | fail)
    simp [-map_take,-map_drop, post, resAV, resAll, resOne, closeV, closeC, closeL, resD, resDL, push_cast]
  · obtain ⟨t1, t2⟩ := one x rfl
    have hn' : i = 1 := hn
    have hL' : L1 = ptC x := by rw [hL1]; simp [-map_take,-map_drop, ptsC]
    subst hn' hL'
    obtain ⟨cc, hcc⟩ : ∃ c, c = cmpP x ⟨px, py⟩ := ⟨_, rfl⟩
    rw [← hcc] at t1 t2
    subst t2
    repeat' (first
      | with_reducible first | apply thenW_n | apply thenW_ret | apply thenW_exit | apply thenW_panic | apply blockW_n | apply blockW_same | apply blockW_ret | apply blockW_panic | apply loopW_ret | apply loopW_exit | apply loopW_panic | apply joinW_ret | apply joinW_exit | apply joinW_panic | apply W_seq | apply W_block | apply W_skip | apply W_ret | apply W_exit | apply W_label
      | with_reducible refine blockW_other (by decide) ?_
      | with_reducible refine W_region (by first | decide | (with_unfolding_all rfl)) ?_
      | (rw [vcn]; (try simp [-map_take,-map_drop, push_cast, sgAV, sgC, ptAV, ptC, ratAV, ratC, zAV, zC]); try simp (disch := omega) only [i64_in, u64_in, shr64i])
      | with_reducible refine W_drawn mixed (by decide) (by kernel_rfl) ?_
      | (rw [vcnD]; (try simp [-map_take,-map_drop, push_cast, sgAV, sgC, ptAV, ptC, ratAV, ratC, zAV, zC]); try simp (disch := omega) only [i64_in, u64_in, shr64i])
      | (with_reducible refine W_condW ?_; (try simp [-map_take,-map_drop, AS.val, upd, resB, mkS_env, mkS_box, lk, entry_env, condW_true, condW_false, sgAV, sgC, ptAV, ptC, ratAV, ratC, zAV, zC]))
      | (with_reducible refine optK_dV (by first | omega | (simp [-map_take,-map_drop]; omega)) ?_)
      | with_reducible refine optK_dVh (by omega) ?_
      | refine And.intro (by first | omega | kernel_rfl) ?_
      | ((with_reducible refine condW_b (fun hc => ?_) (fun hc => ?_) <;> (try simp [-map_take,-map_drop, Int.ofNat_inj] at hc) <;> (try contradiction)))
      | fail)
    first | refine CallG_of (t1) ?_ ?_ rfl ?_ | refine callD_of (t1) ?_ ?_ rfl ?_
    · first | rfl | (simp [-map_take,-map_drop, natAV, numC, ← limbs.eq_1, push_cast, sgAV, sgC, ptAV, ptC, ratAV, ratC, zAV, zC]; done)
    · first | rfl | simp [-map_take,-map_drop, natAV, zAV, zC, ratAV, ratC, ptAV, ptC, sgAV, sgC, d3sAV, d3C, dC, dotAV, AV.refs, refsL, push_cast]
    try dsimp only
    repeat' (first
      | with_reducible first | apply thenW_n | apply thenW_ret | apply thenW_exit | apply thenW_panic | apply blockW_n | apply blockW_same | apply blockW_ret | apply blockW_panic | apply loopW_ret | apply loopW_exit | apply loopW_panic | apply joinW_ret | apply joinW_exit | apply joinW_panic | apply W_seq | apply W_block | apply W_skip | apply W_ret | apply W_exit | apply W_label
      | with_reducible refine blockW_other (by decide) ?_
      | with_reducible refine W_region (by first | decide | (with_unfolding_all rfl)) ?_
      | (rw [vcn]; (try simp [-map_take,-map_drop, push_cast, sgAV, sgC, ptAV, ptC, ratAV, ratC, zAV, zC]); try simp (disch := omega) only [i64_in, u64_in, shr64i])
      | with_reducible refine W_drawn mixed (by decide) (by kernel_rfl) ?_
      | (rw [vcnD]; (try simp [-map_take,-map_drop, push_cast, sgAV, sgC, ptAV, ptC, ratAV, ratC, zAV, zC]); try simp (disch := omega) only [i64_in, u64_in, shr64i])
      | (with_reducible refine W_condW ?_; (try simp [-map_take,-map_drop, AS.val, upd, resB, mkS_env, mkS_box, lk, entry_env, condW_true, condW_false, sgAV, sgC, ptAV, ptC, ratAV, ratC, zAV, zC]))
      | (with_reducible refine optK_dV (by first | omega | (simp [-map_take,-map_drop]; omega)) ?_)
      | with_reducible refine optK_dVh (by omega) ?_
      | refine And.intro (by first | omega | kernel_rfl) ?_
      | ((with_reducible refine condW_b (fun hc => ?_) (fun hc => ?_) <;> (try simp [-map_take,-map_drop, Int.ofNat_inj] at hc) <;> (try contradiction)))
      | fail)
    first | refine CallG_of (b1) ?_ ?_ rfl ?_ | refine callD_of (b1) ?_ ?_ rfl ?_
    · first | rfl | (simp [-map_take,-map_drop, natAV, numC, ← limbs.eq_1, push_cast, sgAV, sgC, ptAV, ptC, ratAV, ratC, zAV, zC]; done)
    · first | rfl | simp [-map_take,-map_drop, natAV, zAV, zC, ratAV, ratC, ptAV, ptC, sgAV, sgC, d3sAV, d3C, dC, dotAV, AV.refs, refsL, push_cast]
    try dsimp only
    repeat' (first
      | with_reducible first | apply thenW_n | apply thenW_ret | apply thenW_exit | apply thenW_panic | apply blockW_n | apply blockW_same | apply blockW_ret | apply blockW_panic | apply loopW_ret | apply loopW_exit | apply loopW_panic | apply joinW_ret | apply joinW_exit | apply joinW_panic | apply W_seq | apply W_block | apply W_skip | apply W_ret | apply W_exit | apply W_label
      | with_reducible refine blockW_other (by decide) ?_
      | with_reducible refine W_region (by first | decide | (with_unfolding_all rfl)) ?_
      | (rw [vcn]; (try simp [-map_take,-map_drop, push_cast, sgAV, sgC, ptAV, ptC, ratAV, ratC, zAV, zC]); try simp (disch := omega) only [i64_in, u64_in, shr64i])
      | with_reducible refine W_drawn mixed (by decide) (by kernel_rfl) ?_
      | (rw [vcnD]; (try simp [-map_take,-map_drop, push_cast, sgAV, sgC, ptAV, ptC, ratAV, ratC, zAV, zC]); try simp (disch := omega) only [i64_in, u64_in, shr64i])
      | (with_reducible refine W_condW ?_; (try simp [-map_take,-map_drop, AS.val, upd, resB, mkS_env, mkS_box, lk, entry_env, condW_true, condW_false, sgAV, sgC, ptAV, ptC, ratAV, ratC, zAV, zC]))
      | (with_reducible refine optK_dV (by first | omega | (simp [-map_take,-map_drop]; omega)) ?_)
      | with_reducible refine optK_dVh (by omega) ?_
      | refine And.intro (by first | omega | kernel_rfl) ?_
      | ((with_reducible refine condW_b (fun hc => ?_) (fun hc => ?_) <;> (try simp [-map_take,-map_drop, Int.ofNat_inj] at hc) <;> (try contradiction)))
      | fail)
    first | refine CallG_of (b2) ?_ ?_ rfl ?_ | refine callD_of (b2) ?_ ?_ rfl ?_
    · first | rfl | (simp [-map_take,-map_drop, natAV, numC, ← limbs.eq_1, push_cast, sgAV, sgC, ptAV, ptC, ratAV, ratC, zAV, zC]; done)
    · first | rfl | simp [-map_take,-map_drop, natAV, zAV, zC, ratAV, ratC, ptAV, ptC, sgAV, sgC, d3sAV, d3C, dC, dotAV, AV.refs, refsL, push_cast]
    try dsimp only
    repeat' (first
      | with_reducible first | apply thenW_n | apply thenW_ret | apply thenW_exit | apply thenW_panic | apply blockW_n | apply blockW_same | apply blockW_ret | apply blockW_panic | apply loopW_ret | apply loopW_exit | apply loopW_panic | apply joinW_ret | apply joinW_exit | apply joinW_panic | apply W_seq | apply W_block | apply W_skip | apply W_ret | apply W_exit | apply W_label
      | with_reducible refine blockW_other (by decide) ?_
      | with_reducible refine W_region (by first | decide | (with_unfolding_all rfl)) ?_
      | (rw [vcn]; (try simp [-map_take,-map_drop, push_cast]); try simp (disch := omega) only [i64_in, u64_in, shr64i])
      | with_reducible refine W_drawn mixed (by decide) (by kernel_rfl) ?_
      | (rw [vcnD]; (try simp [-map_take,-map_drop, push_cast]); try simp (disch := omega) only [i64_in, u64_in, shr64i])
      | (with_reducible refine W_condW ?_; (try simp [-map_take,-map_drop, AS.val, upd, resB, mkS_env, mkS_box, lk, entry_env, condW_true, condW_false]))
      | (with_reducible refine optK_dV (by first | omega | (simp [-map_take,-map_drop]; omega)) ?_)
      | with_reducible refine optK_dVh (by omega) ?_
      | refine And.intro (by first | omega | kernel_rfl) ?_
      | ((with_reducible refine condW_b (fun hc => ?_) (fun hc => ?_) <;> (try simp [-map_take,-map_drop, Int.ofNat_inj] at hc) <;> (try contradiction)))
      | fail)
    simp [-map_take,-map_drop, post, resAV, resAll, resOne, closeV, closeC, closeL, resD, resDL, push_cast]
  · obtain ⟨t1, cc, hcc, t2⟩ := two x y rfl
    have hn' : i = 2 := hn
    have hL' : L1 = ptC x ++ ptC y := by rw [hL1]; simp [-map_take,-map_drop, ptsC]
    subst hn' hL'
    have G1 : (cc < 0) = True := eq_true hcc
    repeat' (first
      | with_reducible first | apply thenW_n | apply thenW_ret | apply thenW_exit | apply thenW_panic | apply blockW_n | apply blockW_same | apply blockW_ret | apply blockW_panic | apply loopW_ret | apply loopW_exit | apply loopW_panic | apply joinW_ret | apply joinW_exit | apply joinW_panic | apply W_seq | apply W_block | apply W_skip | apply W_ret | apply W_exit | apply W_label
      | with_reducible refine blockW_other (by decide) ?_
      | with_reducible refine W_region (by first | decide | (with_unfolding_all rfl)) ?_
      | (rw [vcn]; (try simp [-map_take,-map_drop, push_cast, sgAV, sgC, ptAV, ptC, ratAV, ratC, zAV, zC]); try simp (disch := omega) only [i64_in, u64_in, shr64i])
      | with_reducible refine W_drawn mixed (by decide) (by kernel_rfl) ?_
      | (rw [vcnD]; (try simp [-map_take,-map_drop, push_cast, sgAV, sgC, ptAV, ptC, ratAV, ratC, zAV, zC]); try simp (disch := omega) only [i64_in, u64_in, shr64i])
      | (with_reducible refine W_condW ?_; (try simp [-map_take,-map_drop, AS.val, upd, resB, mkS_env, mkS_box, lk, entry_env, condW_true, condW_false, sgAV, sgC, ptAV, ptC, ratAV, ratC, zAV, zC]))
      | (with_reducible refine optK_dV (by first | omega | (simp [-map_take,-map_drop]; omega)) ?_)
      | with_reducible refine optK_dVh (by omega) ?_
      | refine And.intro (by first | omega | kernel_rfl) ?_
      | ((with_reducible refine condW_b (fun hc => ?_) (fun hc => ?_) <;> (try simp [-map_take,-map_drop, Int.ofNat_inj] at hc) <;> (try contradiction)))
      | fail)
    first | refine CallG_of (t1) ?_ ?_ rfl ?_ | refine callD_of (t1) ?_ ?_ rfl ?_
    · first | rfl | (simp [-map_take,-map_drop, natAV, numC, ← limbs.eq_1, push_cast, sgAV, sgC, ptAV, ptC, ratAV, ratC, zAV, zC]; done)
    · first | rfl | simp [-map_take,-map_drop, natAV, zAV, zC, ratAV, ratC, ptAV, ptC, sgAV, sgC, d3sAV, d3C, dC, dotAV, AV.refs, refsL, push_cast]
    try dsimp only
    repeat' (first
      | with_reducible first | apply thenW_n | apply thenW_ret | apply thenW_exit | apply thenW_panic | apply blockW_n | apply blockW_same | apply blockW_ret | apply blockW_panic | apply loopW_ret | apply loopW_exit | apply loopW_panic | apply joinW_ret | apply joinW_exit | apply joinW_panic | apply W_seq | apply W_block | apply W_skip | apply W_ret | apply W_exit | apply W_label
      | with_reducible refine blockW_other (by decide) ?_
      | with_reducible refine W_region (by first | decide | (with_unfolding_all rfl)) ?_
      | (rw [vcn]; (try simp [-map_take,-map_drop, push_cast, sgAV, sgC, ptAV, ptC, ratAV, ratC, zAV, zC]); try simp (disch := omega) only [i64_in, u64_in, shr64i])
      | with_reducible refine W_drawn mixed (by decide) (by kernel_rfl) ?_
      | (rw [vcnD]; (try simp [-map_take,-map_drop, push_cast, sgAV, sgC, ptAV, ptC, ratAV, ratC, zAV, zC]); try simp (disch := omega) only [i64_in, u64_in, shr64i])
      | (with_reducible refine W_condW ?_; (try simp [-map_take,-map_drop, AS.val, upd, resB, mkS_env, mkS_box, lk, entry_env, condW_true, condW_false, sgAV, sgC, ptAV, ptC, ratAV, ratC, zAV, zC]))
      | (with_reducible refine optK_dV (by first | omega | (simp [-map_take,-map_drop]; omega)) ?_)
      | with_reducible refine optK_dVh (by omega) ?_
      | refine And.intro (by first | omega | kernel_rfl) ?_
      | ((with_reducible refine condW_b (fun hc => ?_) (fun hc => ?_) <;> (try simp [-map_take,-map_drop, Int.ofNat_inj] at hc) <;> (try contradiction)))
      | fail)
    first | refine CallG_of (b1) ?_ ?_ rfl ?_ | refine callD_of (b1) ?_ ?_ rfl ?_
    · first | rfl | (simp [-map_take,-map_drop, natAV, numC, ← limbs.eq_1, push_cast, sgAV, sgC, ptAV, ptC, ratAV, ratC, zAV, zC]; done)
    · first | rfl | simp [-map_take,-map_drop, natAV, zAV, zC, ratAV, ratC, ptAV, ptC, sgAV, sgC, d3sAV, d3C, dC, dotAV, AV.refs, refsL, push_cast]
    try dsimp only
    repeat' (first
      | with_reducible first | apply thenW_n | apply thenW_ret | apply thenW_exit | apply thenW_panic | apply blockW_n | apply blockW_same | apply blockW_ret | apply blockW_panic | apply loopW_ret | apply loopW_exit | apply loopW_panic | apply joinW_ret | apply joinW_exit | apply joinW_panic | apply W_seq | apply W_block | apply W_skip | apply W_ret | apply W_exit | apply W_label
      | with_reducible refine blockW_other (by decide) ?_
      | with_reducible refine W_region (by first | decide | (with_unfolding_all rfl)) ?_
      | (rw [vcn]; (try simp [-map_take,-map_drop, push_cast, sgAV, sgC, ptAV, ptC, ratAV, ratC, zAV, zC]); try simp (disch := omega) only [i64_in, u64_in, shr64i])
      | with_reducible refine W_drawn mixed (by decide) (by kernel_rfl) ?_
      | (rw [vcnD]; (try simp [-map_take,-map_drop, push_cast, sgAV, sgC, ptAV, ptC, ratAV, ratC, zAV, zC]); try simp (disch := omega) only [i64_in, u64_in, shr64i])
      | (with_reducible refine W_condW ?_; (try simp [-map_take,-map_drop, AS.val, upd, resB, mkS_env, mkS_box, lk, entry_env, condW_true, condW_false, sgAV, sgC, ptAV, ptC, ratAV, ratC, zAV, zC]))
      | (with_reducible refine optK_dV (by first | omega | (simp [-map_take,-map_drop]; omega)) ?_)
      | with_reducible refine optK_dVh (by omega) ?_
      | refine And.intro (by first | omega | kernel_rfl) ?_
      | ((with_reducible refine condW_b (fun hc => ?_) (fun hc => ?_) <;> (try simp [-map_take,-map_drop, Int.ofNat_inj] at hc) <;> (try contradiction)))
      | fail)
    first | refine CallG_of (b2) ?_ ?_ rfl ?_ | refine callD_of (b2) ?_ ?_ rfl ?_
    · first | rfl | (simp [-map_take,-map_drop, natAV, numC, ← limbs.eq_1, push_cast, sgAV, sgC, ptAV, ptC, ratAV, ratC, zAV, zC]; done)
    · first | rfl | simp [-map_take,-map_drop, natAV, zAV, zC, ratAV, ratC, ptAV, ptC, sgAV, sgC, d3sAV, d3C, dC, dotAV, AV.refs, refsL, push_cast]
    try dsimp only
    repeat' (first
      | with_reducible first | apply thenW_n | apply thenW_ret | apply thenW_exit | apply thenW_panic | apply blockW_n | apply blockW_same | apply blockW_ret | apply blockW_panic | apply loopW_ret | apply loopW_exit | apply loopW_panic | apply joinW_ret | apply joinW_exit | apply joinW_panic | apply W_seq | apply W_block | apply W_skip | apply W_ret | apply W_exit | apply W_label
      | with_reducible refine blockW_other (by decide) ?_
      | with_reducible refine W_region (by first | decide | (with_unfolding_all rfl)) ?_
      | (rw [vcn]; (try simp [-map_take,-map_drop, push_cast, sgAV, sgC, ptAV, ptC, ratAV, ratC, zAV, zC]); try simp (disch := omega) only [i64_in, u64_in, shr64i])
      | with_reducible refine W_drawn mixed (by decide) (by kernel_rfl) ?_
      | (rw [vcnD]; (try simp [-map_take,-map_drop, push_cast, sgAV, sgC, ptAV, ptC, ratAV, ratC, zAV, zC]); try simp (disch := omega) only [i64_in, u64_in, shr64i])
      | (with_reducible refine W_condW ?_; (try simp [-map_take,-map_drop, AS.val, upd, resB, mkS_env, mkS_box, lk, entry_env, condW_true, condW_false, sgAV, sgC, ptAV, ptC, ratAV, ratC, zAV, zC]))
      | (with_reducible refine optK_dV (by first | omega | (simp [-map_take,-map_drop]; omega)) ?_)
      | with_reducible refine optK_dVh (by omega) ?_
      | refine And.intro (by first | omega | kernel_rfl) ?_
      | ((with_reducible refine condW_b (fun hc => ?_) (fun hc => ?_) <;> (try simp [-map_take,-map_drop, Int.ofNat_inj] at hc) <;> (try contradiction)))
      | fail)
    first | refine CallG_of (t2) ?_ ?_ rfl ?_ | refine callD_of (t2) ?_ ?_ rfl ?_
    · first | rfl | (simp [-map_take,-map_drop, natAV, numC, ← limbs.eq_1, push_cast, sgAV, sgC, ptAV, ptC, ratAV, ratC, zAV, zC]; done)
    · first | rfl | simp [-map_take,-map_drop, natAV, zAV, zC, ratAV, ratC, ptAV, ptC, sgAV, sgC, d3sAV, d3C, dC, dotAV, AV.refs, refsL, push_cast]
    try dsimp only
    repeat' (first
      | with_reducible first | apply thenW_n | apply thenW_ret | apply thenW_exit | apply thenW_panic | apply blockW_n | apply blockW_same | apply blockW_ret | apply blockW_panic | apply loopW_ret | apply loopW_exit | apply loopW_panic | apply joinW_ret | apply joinW_exit | apply joinW_panic | apply W_seq | apply W_block | apply W_skip | apply W_ret | apply W_exit | apply W_label
      | with_reducible refine blockW_other (by decide) ?_
      | with_reducible refine W_region (by first | decide | (with_unfolding_all rfl)) ?_
      | (rw [vcn]; (try simp [-map_take,-map_drop, push_cast, G1]); try simp (disch := omega) only [i64_in, u64_in, shr64i])
      | with_reducible refine W_drawn mixed (by decide) (by kernel_rfl) ?_
      | (rw [vcnD]; (try simp [-map_take,-map_drop, push_cast, G1]); try simp (disch := omega) only [i64_in, u64_in, shr64i])
      | (with_reducible refine W_condW ?_; (try simp [-map_take,-map_drop, AS.val, upd, resB, mkS_env, mkS_box, lk, entry_env, condW_true, condW_false, G1]))
      | (with_reducible refine optK_dV (by first | omega | (simp [-map_take,-map_drop]; omega)) ?_)
      | with_reducible refine optK_dVh (by omega) ?_
      | refine And.intro (by first | omega | kernel_rfl) ?_
      | ((with_reducible refine condW_b (fun hc => ?_) (fun hc => ?_) <;> (try simp [-map_take,-map_drop, Int.ofNat_inj] at hc) <;> (try contradiction)))
      | fail)
    simp [-map_take,-map_drop, post, resAV, resAll, resOne, closeV, closeC, closeL, resD, resDL, push_cast]
  · exact absurd hlen2 (by rw [hn]; simp [-map_take,-map_drop])
end Go.Fw

/- PlaneShares: every call of the law returns true. Printed by a program (wip/gen/entry.py). -/
namespace Go.Proofs.Ytbabekaohfcjbaa
open Go.ChangeShapes Go.WideShapes Go.ChangeAt Go.RowKit Go.Deep Go.Fw
open Go.ChangeMaps (open_string shut_string)
set_option linter.unusedVariables false

theorem walkShr (x0 : Int × Int × Int) (x1 : Int × Int × Int) (x2 : Int × Int × Int) (x3 : Int × Int × Int) (x4 : Int) (hx0 : inD x0) (hx1 : inD x1) (hx2 : inD x2) (hx3 : inD x3) (w : World) :
    Calls Try.prog 3 #[dotV x0, dotV x1, dotV x2, dotV x3, .int .i64 x4] w fun e w' => e = .returned (.bool true) ∧ Below w.heap.size w w' :=
  law_calls Try.call3 (lawShares_ok x0 x1 x2 x3 x4 hx0 hx1 hx2 hx3) w _ rfl ⟨⟨_, rfl, rep_dot w x0⟩, ⟨_, rfl, rep_dot w x1⟩, ⟨_, rfl, rep_dot w x2⟩, ⟨_, rfl, rep_dot w x3⟩, ⟨_, rfl, rfl, rfl⟩, trivial⟩

set_option maxRecDepth 100000 in
theorem liftedShr (os : Os) (started : os.Started) (H : Type) (enc : TypeId × Value → H) :
    ReturnsInHanded {} Try.checked os 3 .any (Rows.planeSharesSpec.pre6 enc Try.prog Try.f3 Rows.planeSharesRow.domain false) (Rows.planeSharesSpec.post enc Try.prog Try.f3 false true false false) := by
  refine returnsInHanded_of_change (C := Try.checked) own started (by kernel_rfl) Try.func3
    (ChangeSpec.witness6 (enc := enc) (C := Try.checked) false ⟨#[], #[.agg #[.int .i64 0, .int .i64 0, .int .i64 0], .agg #[.int .i64 0, .int .i64 0, .int .i64 0], .agg #[.int .i64 0, .int .i64 0, .int .i64 0], .agg #[.int .i64 0, .int .i64 0, .int .i64 0], .int .i64 0], []⟩ 8 (by kernel_rfl) (by kernel_rfl) (by kernel_rfl) (by kernel_rfl)) ?_
  intro W base args ds gs before hval0 hW hcnd _
  have hW' := hW
  obtain ⟨p, q, hA0, hV, rfl, hfz, hnd⟩ := hW
  have hA : DataW.TrodAll enc Try.prog W 0 (fun _ => true) true Try.f3.params.toList args.toList ds p := hA0
  have hval : ∀ (j : Nat) t v, Try.f3.params[j]? = some t → args[j]? = some v → Value.okWide Try.prog W .any base t v := hval0
  rw [Try.params3] at hA hval
  obtain ⟨v0, vs0, d0, ds0, p0, q0, hargs, rfl, rfl, h0, r0⟩ := trodAll_cons hA
  obtain ⟨v1, vs1, d1, ds1, p1, q1, rfl, rfl, rfl, h1, r1⟩ := trodAll_cons r0
  obtain ⟨v2, vs2, d2, ds2, p2, q2, rfl, rfl, rfl, h2, r2⟩ := trodAll_cons r1
  obtain ⟨v3, vs3, d3, ds3, p3, q3, rfl, rfl, rfl, h3, r3⟩ := trodAll_cons r2
  obtain ⟨v4, vs4, d4, ds4, p4, q4, rfl, rfl, rfl, h4, r4⟩ := trodAll_cons r3
  obtain ⟨rfl, rfl, rfl⟩ := trodAll_nil r4
  obtain rfl : args = #[v0, v1, v2, v3, v4] := by cases args; simp_all
  obtain ⟨rfl, rfl⟩ := trodVars_none hV
  obtain ⟨cs0, rfl, _⟩ := okWide_struct Try.underlying23 (hval 0 23 v0 rfl rfl)
  obtain ⟨cs1, rfl, _⟩ := okWide_struct Try.underlying23 (hval 1 23 v1 rfl rfl)
  obtain ⟨cs2, rfl, _⟩ := okWide_struct Try.underlying23 (hval 2 23 v2 rfl rfl)
  obtain ⟨cs3, rfl, _⟩ := okWide_struct Try.underlying23 (hval 3 23 v3 rfl rfl)
  obtain ⟨x4, rfl⟩ := okWide_int Try.underlying3 (hval 4 3 v4 rfl rfl)
  have k0 := h0
  have k1 := h1
  have k2 := h2
  have k3 := h3
  have k4 := h4
  have lt0 : ∀ x ∈ p0, x.block < W.heap.size := by obtain ⟨m, hm⟩ := k0; exact DataW.trod_lt m _ _ _ hm
  have lt1 : ∀ x ∈ p1, x.block < W.heap.size := by obtain ⟨m, hm⟩ := k1; exact DataW.trod_lt m _ _ _ hm
  have lt2 : ∀ x ∈ p2, x.block < W.heap.size := by obtain ⟨m, hm⟩ := k2; exact DataW.trod_lt m _ _ _ hm
  have lt3 : ∀ x ∈ p3, x.block < W.heap.size := by obtain ⟨m, hm⟩ := k3; exact DataW.trod_lt m _ _ _ hm
  have lt4 : ∀ x ∈ p4, x.block < W.heap.size := by obtain ⟨m, hm⟩ := k4; exact DataW.trod_lt m _ _ _ hm
  obtain ⟨x0, hx0, e0⟩ : ∃ a : Int × Int × Int, inD a ∧ cs0.toList = [.int .i64 a.1, .int .i64 a.2.1, .int .i64 a.2.2] := by
    obtain ⟨fuel, hf⟩ := h0
    exact open_dot (by simpa [Value.cells] using hf)
  obtain ⟨x1, hx1, e1⟩ : ∃ a : Int × Int × Int, inD a ∧ cs1.toList = [.int .i64 a.1, .int .i64 a.2.1, .int .i64 a.2.2] := by
    obtain ⟨fuel, hf⟩ := h1
    exact open_dot (by simpa [Value.cells] using hf)
  obtain ⟨x2, hx2, e2⟩ : ∃ a : Int × Int × Int, inD a ∧ cs2.toList = [.int .i64 a.1, .int .i64 a.2.1, .int .i64 a.2.2] := by
    obtain ⟨fuel, hf⟩ := h2
    exact open_dot (by simpa [Value.cells] using hf)
  obtain ⟨x3, hx3, e3⟩ : ∃ a : Int × Int × Int, inD a ∧ cs3.toList = [.int .i64 a.1, .int .i64 a.2.1, .int .i64 a.2.2] := by
    obtain ⟨fuel, hf⟩ := h3
    exact open_dot (by simpa [Value.cells] using hf)
  obtain rfl := dot_arr e0
  obtain rfl := dot_arr e1
  obtain rfl := dot_arr e2
  obtain rfl := dot_arr e3
  clear hA0 hval0
  refine (walkShr x0 x1 x2 x3 x4 hx0 hx1 hx2 hx3 W).mono fun e W' ⟨he, bel⟩ => ?_
  subst he
  exact ⟨_, rfl, _, _, _, [], _, [], hW', trodAll_mk1 (shut_bool Try.underlying4 _), (trodAll_cons_mk (Below.trod laidOut (by kernel_rfl) (of_decide_eq_true (by kernel_rfl)) k0 bel lt0) (trodAll_cons_mk (Below.trod laidOut (by kernel_rfl) (of_decide_eq_true (by kernel_rfl)) k1 bel lt1) (trodAll_cons_mk (Below.trod laidOut (by kernel_rfl) (of_decide_eq_true (by kernel_rfl)) k2 bel lt2) (trodAll_cons_mk (Below.trod laidOut (by kernel_rfl) (of_decide_eq_true (by kernel_rfl)) k3 bel lt3) (trodAll_cons_mk (Below.trod laidOut (by kernel_rfl) (of_decide_eq_true (by kernel_rfl)) k4 bel lt4) trodAll_mk0))))), rfl, bel.frame _, fun h => by cases h⟩

theorem shrNamed : Try.checked.prog.funcNamed Rows.planeSharesRow.func = some 3 := by kernel_rfl
theorem shrJoined : joinedFacts Try.checked.prog 3 Try.f3 Rows.planeSharesSpec Rows.planeSharesRow = true := by kernel_rfl
theorem shrInst : Try.f3.isInstance Try.checked.prog Rows.planeSharesRow.origin Rows.planeSharesRow.targs := of_decide_eq_true (by kernel_rfl)
theorem shrWrap : Try.f3.isWrapper Try.checked.prog Rows.planeSharesRow.wrapper Rows.planeSharesRow.mainSum := by unfold Func.isWrapper; first | (rw [if_pos (by decide +kernel)]; kernel_rfl) | (rw [if_neg (by decide +kernel)]; exact ⟨rfl, rfl⟩)

theorem plane_shares_law : Rows.PlaneSharesSaid :=
  OpenClaim.holds_of_wide 3 Try.f3 rfl rfl rfl rfl rfl rfl rfl ⟨rfl, rfl, rfl, rfl, rfl⟩ rfl rfl rfl rfl rfl shrNamed Try.func3 shrJoined
    shrInst shrWrap
    (fun os started H enc _ => liftedShr os started H enc)

#print axioms plane_shares_law
end Go.Proofs.Ytbabekaohfcjbaa
