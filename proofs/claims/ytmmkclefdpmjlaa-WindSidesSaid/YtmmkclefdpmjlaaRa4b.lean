import Derived.Test.YtmmkclefdpmjlaaRa2
import Derived.Test.YtmmkclefdpmjlaaR1b
import Derived.Test.YtmmkclefdpmjlaaPt
import Derived.Test.YtmmkclefdpmjlaaDt
set_option linter.unusedSimpArgs false
set_option linter.unusedVariables false
-- VALS: zAV, zC, ratAV, ratC, ptAV, ptC
namespace Go.Fw
open Go Go.RowKit Go.Proofs Go.IntWalk
set_option linter.unusedSimpArgs false
set_option maxRecDepth 100000
set_option maxHeartbeats 4000000
open List (map_take map_drop)
attribute [local push_cast] optK_some optK_none optK_ite optK_map optK_bind gOn stepK isMem evPure evMem evBin evUn evConv evLen evBuiltin evMinMax evSlice evBuild evAppend evIndex evIndexAddr evField evFieldAddr intBin strBin appDest AS.val AS.mem AS.elems AS.put AS.put' AS.eff AV.cells? AV.isCell AV.refs all_isByte take_byteV drop_byteV strOf_map bndOk bnd partAV ptrAdd killBox catA inOrder fillA setAt ofVal resB upd byteV List.head?_take List.head?_drop List.getElem?_map mkS_env mkS_box mkS_used entry_env entry_box entry_used lk stepD lookIds Oper.looksAt Op.operands Call.operands St.ids refsL renL_append ren renL renBox Box.refs iV i64V boolV dV_getElem dV_app dV_cons toNat_add2 toNat_add1
attribute [local simp ↓] numC_refs numC_isCell numC_cells numC_resB numC_resD numC_ren numC_closeC numC_isOwn
theorem pairs_ok (f : Bool) (n : Nat) (L : List AV) (hL : L.length = n * 8) (hLr : refsL L = []) (hn : n ≤ 100000) : Eval Try.prog 40 [.slc f 8 n L] (.ret (.fn 80 [.ip [.slc f 8 n L]])) := by
  refine Eval.intro Try.func40 rfl Try.call40 _ _ (Nat.le_of_ble_eq_true rfl) (by simp [-map_take,-map_drop, AV.refs, refsL, natAV, zAV, zC, ratAV, ratC, ptAV, ptC, push_cast]) fun hs0 => ?_
  refine W_seq ?_
  refine W_joinQ (X := Unit) (fun _ => [(1, .bp 1 0)]) (fun _ => [(1, .mut 23 [.slc f 8 n L])]) (fun _ => True) ?_ fun _ _ => ?_
  · repeat' (first
      | with_reducible refine W_rg ?_
      | (rw [vcn]; (try simp [-map_take,-map_drop, push_cast, hLr]))
      | fail)
    refine joinW_n () id trivial ⟨?_, ?_, ?_, ?_, ?_, ?_⟩
    all_goals first | (simp [-map_take,-map_drop, push_cast, dV_take, dV_drop, hLr]; done)
  refine W_frz 1 (e := 23) (l := [.slc f 8 n L]) (by simp [-map_take,-map_drop, mkS_box, lk]) (by simp [-map_take,-map_drop, refsL, AV.refs]) ?_
  repeat' (first
    | with_reducible first | apply thenW_n | apply W_seq | apply W_ret
    | with_reducible refine W_rg ?_
    | (rw [vcn]; (try simp [-map_take,-map_drop, push_cast, hLr]))
    | fail)
  simp [-map_take,-map_drop, post, resAV, resAll, resOne, closeV, closeC, closeL, resD, resDL, push_cast, hLr]
end Go.Fw
-- VALS: zAV, zC, ratAV, ratC, ptAV, ptC
namespace Go.Fw
open Go Go.RowKit Go.Proofs Go.IntWalk
set_option linter.unusedSimpArgs false
set_option maxRecDepth 100000
set_option maxHeartbeats 4000000
section
variable {X : FX} {s : AS} {P : Program} {nt : NT} {Q : Exit → AS → Prop}
theorem WX.wk {c : Code} {env : List (Nat × AV)} {box : List (Nat × Box)} (hw : ∃ ρ, Wk s env box ρ) (h : WX X c (mkS env box)) : WX X c s := by
  intro M β a w hR hS
  obtain ⟨ρ, hw⟩ := hw
  obtain ⟨h1, h2⟩ := hR.wk hS hw
  exact h M _ a w h1 h2
theorem WX.seqW {x y : Code} {env : List (Nat × AV)} {box : List (Nat × Box)} (hx : X.C.ext = []) (h : W X.P (X.fn.ntmps : NT) x s (fun e s' => e = .normal ∧ ∃ ρ, Wk s' env box ρ)) (hy : WX X y (mkS env box)) : WX X (.seq x y) s :=
  WX.seq hx h (fun s' hq => WX.wk hq.2 hy) (fun s' hq => by cases hq.1) (fun e s' hq => .inl hq.1)
def frzEnd (id : Nat) (Q : Exit → AS → Prop) : Exit → AS → Prop := fun e s' => ∃ ty l, s'.box id = some (.mut ty l) ∧ refsL l = [] ∧ Q e { s' with box := upd s'.box id (some (.frz l)) }
theorem W_frzEnd {c : Code} (id : Nat) (h : W P nt c s (frzEnd id Q)) : W P nt c s Q := by
  intro C M β a w hR hS
  refine wpIn_mono (h C M β a w hR hS) ?_
  rintro e a' w' ⟨s', M', β', ⟨ty, l, h1, h2, h3⟩, h4, h5⟩
  obtain ⟨M2, k1, k2⟩ := h4.freeze h1 h2
  exact ⟨_, M2, β', h3, k2, h5.later k1 (fun _ _ => rfl) rfl (fun _ h => h)⟩
theorem frzEnd_i {id : Nat} {e : Exit} {s' : AS} (ty : TypeId) (l : List AV) (h1 : s'.box id = some (.mut ty l)) (h2 : refsL l = []) (h3 : Q e { s' with box := upd s'.box id (some (.frz l)) }) : frzEnd id Q e s' := ⟨ty, l, h1, h2, h3⟩
@[congr] theorem frzEnd_congr {id : Nat} {e : Exit} {s1 s2 : AS} (h : s1 = s2) : frzEnd id Q e s1 = frzEnd id Q e s2 := by rw [h]
end
def nilF : FP := ⟨FQ.zero, FQ.zero⟩
def areaS (l : List FP) (is : List Nat) : Rat := is.foldl (fun s i => s + (l.getD i nilF).x.q * (l.getD ((i + 1) % l.length) nilF).y.q - (l.getD i nilF).y.q * (l.getD ((i + 1) % l.length) nilF).x.q) 0
def areaQ (l : List FP) (is : List Nat) : FQ := if is = [] then FQ.zero else .of (areaS l is)
theorem areaQ_q (l : List FP) (is : List Nat) : (areaQ l is).q = areaS l is := by
  unfold areaQ
  split
  · rename_i h; subst h; rfl
  · rfl
theorem areaS_snoc (l : List FP) (is : List Nat) (i : Nat) : areaS l (is ++ [i]) = areaS l is + (l.getD i nilF).x.q * (l.getD ((i + 1) % l.length) nilF).y.q - (l.getD i nilF).y.q * (l.getD ((i + 1) % l.length) nilF).x.q := by
  unfold areaS; rw [List.foldl_append]; rfl
theorem areaQ_snoc (l : List FP) (is : List Nat) (i : Nat) : areaQ l (is ++ [i]) = .of (areaS l is + (l.getD i nilF).x.q * (l.getD ((i + 1) % l.length) nilF).y.q - (l.getD i nilF).y.q * (l.getD ((i + 1) % l.length) nilF).x.q) := by
  unfold areaQ; rw [if_neg (by simp), areaS_snoc]
theorem HD.at {l : List FP} (h : ∀ p ∈ l, HD p) (i : Nat) : HD (l.getD i nilF) := by
  rw [List.getD_eq_getElem?_getD]
  by_cases hi : i < l.length
  · rw [List.getElem?_eq_getElem hi]; exact h _ (List.getElem_mem hi)
  · rw [List.getElem?_eq_none (by omega)]
    show HB 0 64 6 ∧ HB 0 64 6
    exact ⟨⟨by decide, by decide⟩, ⟨by decide, by decide⟩⟩
theorem areaS_sz {l : List FP} (h : ∀ p ∈ l, HD p) (is : List Nat) : HB (areaS l is) (160 + 26 * is.length) (1 + 24 * is.length) := by
  have key : ∀ (is : List Nat) (acc : Rat) (k : Nat), HB acc (160 + 26 * k) (1 + 24 * k) → HB (is.foldl (fun s i => s + (l.getD i nilF).x.q * (l.getD ((i + 1) % l.length) nilF).y.q - (l.getD i nilF).y.q * (l.getD ((i + 1) % l.length) nilF).x.q) acc) (160 + 26 * (k + is.length)) (1 + 24 * (k + is.length)) := by
    intro is
    induction is with
    | nil => intro acc k h; exact h
    | cons i is ih =>
      intro acc k hk
      have p := HD.at h i
      have q := HD.at h ((i + 1) % l.length)
      have h1 := hk.add (p.1.mul q.2) (172 + 26 * k) (by omega) (by omega)
      have h2 := h1.sub (p.2.mul q.1) (185 + 26 * k) (by omega) (by omega)
      have h3 := ih _ (k + 1) (h2.mono (by omega) (by omega))
      rw [List.length_cons, show k + (is.length + 1) = k + 1 + is.length from by omega]
      exact h3
  have := key is 0 0 ⟨by decide, by decide⟩
  rw [Nat.zero_add] at this
  exact this
theorem cut8_pt {l : List FP} {i : Nat} (h : i < l.length) : cut8 (ptsC l) i = ptC (l.getD i nilF) := by
  obtain ⟨t, ht⟩ := ptsC_at l i h
  unfold cut8
  rw [ht, List.getD_eq_getElem?_getD, List.getElem?_eq_getElem h]
  exact List.take_left' rfl
def areaF (l : List FP) : FQ := .of (areaS l (List.range l.length) * Rat.divInt 1 2)
end Go.Fw
