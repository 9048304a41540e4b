import Derived.Test.YtmmkclefdpmjlaaRa2
import Derived.Test.YtmmkclefdpmjlaaR1b
import Derived.Test.YtmmkclefdpmjlaaPt
import Derived.Test.YtmmkclefdpmjlaaDt
set_option linter.unusedSimpArgs false
set_option linter.unusedVariables false
-- VALS: zAV, zC, ratAV, ratC, ptAV, ptC
namespace Go.Fw
open Go Go.RowKit Go.Proofs Go.IntWalk
set_option linter.unusedSimpArgs false
set_option maxRecDepth 100000
set_option maxHeartbeats 4000000
open List (map_take map_drop)
attribute [local push_cast] optK_some optK_none optK_ite optK_map optK_bind gOn stepK isMem evPure evMem evBin evUn evConv evLen evBuiltin evMinMax evSlice evBuild evAppend evIndex evIndexAddr evField evFieldAddr intBin strBin appDest AS.val AS.mem AS.elems AS.put AS.put' AS.eff AV.cells? AV.isCell AV.refs all_isByte take_byteV drop_byteV strOf_map bndOk bnd partAV ptrAdd killBox catA inOrder fillA setAt ofVal resB upd byteV List.head?_take List.head?_drop List.getElem?_map mkS_env mkS_box mkS_used entry_env entry_box entry_used lk stepD lookIds Oper.looksAt Op.operands Call.operands St.ids refsL renL_append ren renL renBox Box.refs iV i64V boolV dV_getElem dV_app dV_cons toNat_add2 toNat_add1
attribute [local simp ↓] numC_refs numC_isCell numC_cells numC_resB numC_resD numC_ren numC_closeC numC_isOwn
theorem pairs_ok (f : Bool) (n : Nat) (L : List AV) (hL : L.length = n * 8) (hLr : refsL L = []) (hn : n ≤ 100000) : Eval Try.prog 40 [.slc f 8 n L] (.ret (.fn 80 [.ip [.slc f 8 n L]])) := by
  refine Eval.intro Try.func40 rfl Try.call40 _ _ (Nat.le_of_ble_eq_true rfl) (by simp [-map_take,-map_drop, AV.refs, refsL, natAV, zAV, zC, ratAV, ratC, ptAV, ptC, push_cast]) fun hs0 => ?_
  refine W_seq ?_
  refine W_joinQ (X := Unit) (fun _ => [(1, .bp 1 0)]) (fun _ => [(1, .mut 23 [.slc f 8 n L])]) (fun _ => True) ?_ fun _ _ => ?_
  · repeat' (first
      | with_reducible refine W_rg ?_
      | (rw [vcn]; (try simp [-map_take,-map_drop, push_cast, hLr]))
      | fail)
    refine joinW_n () id trivial ⟨?_, ?_, ?_, ?_, ?_, ?_⟩
    all_goals first | (simp [-map_take,-map_drop, push_cast, dV_take, dV_drop, hLr]; done)
  refine W_frz 1 (e := 23) (l := [.slc f 8 n L]) (by simp [-map_take,-map_drop, mkS_box, lk]) (by simp [-map_take,-map_drop, refsL, AV.refs]) ?_
  repeat' (first
    | with_reducible first | apply thenW_n | apply W_seq | apply W_ret
    | with_reducible refine W_rg ?_
    | (rw [vcn]; (try simp [-map_take,-map_drop, push_cast, hLr]))
    | fail)
  simp [-map_take,-map_drop, post, resAV, resAll, resOne, closeV, closeC, closeL, resD, resDL, push_cast, hLr]
end Go.Fw
-- VALS: zAV, zC, ratAV, ratC, ptAV, ptC
namespace Go.Fw
open Go Go.RowKit Go.Proofs Go.IntWalk
set_option linter.unusedSimpArgs false
set_option maxRecDepth 100000
set_option maxHeartbeats 4000000
section
variable {X : FX} {s : AS} {P : Program} {nt : NT} {Q : Exit → AS → Prop}
theorem WX.wk {c : Code} {env : List (Nat × AV)} {box : List (Nat × Box)} (hw : ∃ ρ, Wk s env box ρ) (h : WX X c (mkS env box)) : WX X c s := by
  intro M β a w hR hS
  obtain ⟨ρ, hw⟩ := hw
  obtain ⟨h1, h2⟩ := hR.wk hS hw
  exact h M _ a w h1 h2
theorem WX.seqW {x y : Code} {env : List (Nat × AV)} {box : List (Nat × Box)} (hx : X.C.ext = []) (h : W X.P (X.fn.ntmps : NT) x s (fun e s' => e = .normal ∧ ∃ ρ, Wk s' env box ρ)) (hy : WX X y (mkS env box)) : WX X (.seq x y) s :=
  WX.seq hx h (fun s' hq => WX.wk hq.2 hy) (fun s' hq => by cases hq.1) (fun e s' hq => .inl hq.1)
def frzEnd (id : Nat) (Q : Exit → AS → Prop) : Exit → AS → Prop := fun e s' => ∃ ty l, s'.box id = some (.mut ty l) ∧ refsL l = [] ∧ Q e { s' with box := upd s'.box id (some (.frz l)) }
theorem W_frzEnd {c : Code} (id : Nat) (h : W P nt c s (frzEnd id Q)) : W P nt c s Q := by
  intro C M β a w hR hS
  refine wpIn_mono (h C M β a w hR hS) ?_
  rintro e a' w' ⟨s', M', β', ⟨ty, l, h1, h2, h3⟩, h4, h5⟩
  obtain ⟨M2, k1, k2⟩ := h4.freeze h1 h2
  exact ⟨_, M2, β', h3, k2, h5.later k1 (fun _ _ => rfl) rfl (fun _ h => h)⟩
theorem frzEnd_i {id : Nat} {e : Exit} {s' : AS} (ty : TypeId) (l : List AV) (h1 : s'.box id = some (.mut ty l)) (h2 : refsL l = []) (h3 : Q e { s' with box := upd s'.box id (some (.frz l)) }) : frzEnd id Q e s' := ⟨ty, l, h1, h2, h3⟩
@[congr] theorem frzEnd_congr {id : Nat} {e : Exit} {s1 s2 : AS} (h : s1 = s2) : frzEnd id Q e s1 = frzEnd id Q e s2 := by rw [h]
end
def nilF : FP := ⟨FQ.zero, FQ.zero⟩
def areaS (l : List FP) (is : List Nat) : Rat := is.foldl (fun s i => s + (l.getD i nilF).x.q * (l.getD ((i + 1) % l.length) nilF).y.q - (l.getD i nilF).y.q * (l.getD ((i + 1) % l.length) nilF).x.q) 0
def areaQ (l : List FP) (is : List Nat) : FQ := if is = [] then FQ.zero else .of (areaS l is)
theorem areaQ_q (l : List FP) (is : List Nat) : (areaQ l is).q = areaS l is := by
  unfold areaQ
  split
  · rename_i h; subst h; rfl
  · rfl
theorem areaS_snoc (l : List FP) (is : List Nat) (i : Nat) : areaS l (is ++ [i]) = areaS l is + (l.getD i nilF).x.q * (l.getD ((i + 1) % l.length) nilF).y.q - (l.getD i nilF).y.q * (l.getD ((i + 1) % l.length) nilF).x.q := by
  unfold areaS; rw [List.foldl_append]; rfl
theorem areaQ_snoc (l : List FP) (is : List Nat) (i : Nat) : areaQ l (is ++ [i]) = .of (areaS l is + (l.getD i nilF).x.q * (l.getD ((i + 1) % l.length) nilF).y.q - (l.getD i nilF).y.q * (l.getD ((i + 1) % l.length) nilF).x.q) := by
  unfold areaQ; rw [if_neg (by simp), areaS_snoc]
theorem HD.at {l : List FP} (h : ∀ p ∈ l, HD p) (i : Nat) : HD (l.getD i nilF) := by
  rw [List.getD_eq_getElem?_getD]
  by_cases hi : i < l.length
  · rw [List.getElem?_eq_getElem hi]; exact h _ (List.getElem_mem hi)
  · rw [List.getElem?_eq_none (by omega)]
    show HB 0 64 6 ∧ HB 0 64 6
    exact ⟨⟨by decide, by decide⟩, ⟨by decide, by decide⟩⟩
theorem areaS_sz {l : List FP} (h : ∀ p ∈ l, HD p) (is : List Nat) : HB (areaS l is) (160 + 26 * is.length) (1 + 24 * is.length) := by
  have key : ∀ (is : List Nat) (acc : Rat) (k : Nat), HB acc (160 + 26 * k) (1 + 24 * k) → HB (is.foldl (fun s i => s + (l.getD i nilF).x.q * (l.getD ((i + 1) % l.length) nilF).y.q - (l.getD i nilF).y.q * (l.getD ((i + 1) % l.length) nilF).x.q) acc) (160 + 26 * (k + is.length)) (1 + 24 * (k + is.length)) := by
    intro is
    induction is with
    | nil => intro acc k h; exact h
    | cons i is ih =>
      intro acc k hk
      have p := HD.at h i
      have q := HD.at h ((i + 1) % l.length)
      have h1 := hk.add (p.1.mul q.2) (172 + 26 * k) (by omega) (by omega)
      have h2 := h1.sub (p.2.mul q.1) (185 + 26 * k) (by omega) (by omega)
      have h3 := ih _ (k + 1) (h2.mono (by omega) (by omega))
      rw [List.length_cons, show k + (is.length + 1) = k + 1 + is.length from by omega]
      exact h3
  have := key is 0 0 ⟨by decide, by decide⟩
  rw [Nat.zero_add] at this
  exact this
theorem cut8_pt {l : List FP} {i : Nat} (h : i < l.length) : cut8 (ptsC l) i = ptC (l.getD i nilF) := by
  obtain ⟨t, ht⟩ := ptsC_at l i h
  unfold cut8
  rw [ht, List.getD_eq_getElem?_getD, List.getElem?_eq_getElem h]
  exact List.take_left' rfl
def areaF (l : List FP) : FQ := .of (areaS l (List.range l.length) * Rat.divInt 1 2)
end Go.Fw
-- VALS: zAV, zC, ratAV, ratC, ptAV, ptC
namespace Go.Fw
open Go Go.RowKit Go.Proofs Go.IntWalk
set_option linter.unusedSimpArgs false
set_option maxRecDepth 100000
set_option maxHeartbeats 4000000
def zeroC : List AV := [.v (.slice none 0 0), .v (.bool false), .v (.slice none 0 0), .v (.bool false)]
theorem zeroC_sub : SubL zeroC (ratC FQ.zero) := SubL.cons (numC_sub _ _ _) (SubL.cons (Sub.refl _) (SubL.cons (numC_sub _ _ _) (SubL.cons (Sub.refl _) SubL.nil)))
def areaB (l : List FP) (is : List Nat) : List (Nat × Box) := [(2, .mut 31 zeroC), (3, .mut 31 (ratC (areaQ l is)))]
theorem areaB_ids (l : List FP) (is : List Nat) : (areaB l is).map (·.1) = [2, 3] := rfl
theorem ratC_refs (q : FQ) : refsL (ratC q) = [] := rfl
theorem areaB_flat (l : List FP) (is : List Nat) : flatB (areaB l is) := by
  intro p hp
  simp only [areaB, List.mem_cons, List.not_mem_nil, or_false] at hp
  rcases hp with rfl | rfl
  · exact ⟨_, _, rfl, rfl⟩
  · exact ⟨_, _, rfl, ratC_refs _⟩
open List (map_take map_drop)
attribute [local push_cast] optK_some optK_none optK_ite optK_map optK_bind gOn stepK isMem evPure evMem evBin evUn evConv evLen evBuiltin evMinMax evSlice evBuild evAppend evIndex evIndexAddr evField evFieldAddr intBin strBin appDest AS.val AS.mem AS.elems AS.put AS.put' AS.eff AV.cells? AV.isCell AV.refs all_isByte take_byteV drop_byteV strOf_map bndOk bnd partAV ptrAdd killBox catA inOrder fillA setAt ofVal resB upd byteV List.head?_take List.head?_drop List.getElem?_map mkS_env mkS_box mkS_used entry_env entry_box entry_used lk stepD lookIds Oper.looksAt Op.operands Call.operands St.ids refsL renL_append ren renL renBox Box.refs iV i64V boolV dV_getElem dV_app dV_cons toNat_add2 toNat_add1
attribute [local simp ↓] numC_refs numC_isCell numC_cells numC_resB numC_resD numC_ren numC_closeC numC_isOwn
theorem area_ok (f : Bool) (l : List FP) (hl : l.length ≤ 1000) (hs : ∀ p ∈ l, HD p) : Eval Try.prog 13 [.slc f 8 l.length (ptsC l)] (.ret (ratAV (areaF l))) := by
  obtain ⟨n, hn⟩ : ∃ n, n = l.length := ⟨_, rfl⟩
  obtain ⟨L, hL⟩ : ∃ x, x = ptsC l := ⟨_, rfl⟩
  have hLr : refsL L = [] := by rw [hL]; exact ptsC_refs _
  have hLl : L.length = n * 8 := by rw [hL, hn, ptsC_len]
  have hcut : ∀ i, i < n → cut8 L i = ptC (l.getD i nilF) := fun i hi => by rw [hL]; exact cut8_pt (by omega)
  rw [← hn] at hl ⊢
  rw [← hL]
  refine Eval.introX Try.func13 rfl Try.call13 _ _ (Nat.le_of_ble_eq_true rfl) (by simp [-map_take,-map_drop, AV.refs, refsL, hLr]) fun hs0 M w hM => ?_
  refine WX.seqW (env := [(0, .slc f 8 n L), (2, .bp 2 0)]) (box := [(2, .mut 31 zeroC)]) rfl ?_ ?_
  · show W Try.prog ⟨Try.f13.ntmps, [], none⟩ _ _ _
    repeat' (first
      | with_reducible refine W_rg ?_
      | (rw [vcn]; (try simp [-map_take,-map_drop, push_cast, hLr]))
      | fail)
    refine ⟨id, ⟨?_, ?_, ?_, ?_, ?_, ?_⟩⟩
    all_goals first | (simp [-map_take,-map_drop, push_cast, dV_take, dV_drop, hLr, zeroC]; done)
  refine WX.seqW (env := [(0, .slc f 8 n L), (2, .bp 2 0), (3, .bp 3 0)]) (box := [(2, .mut 31 zeroC), (3, .mut 31 zeroC)]) rfl ?_ ?_
  · show W Try.prog ⟨Try.f13.ntmps, [], none⟩ _ _ _
    repeat' (first
      | with_reducible refine W_rg ?_
      | (rw [vcn]; (try simp [-map_take,-map_drop, push_cast, hLr]))
      | fail)
    refine ⟨id, ⟨?_, ?_, ?_, ?_, ?_, ?_⟩⟩
    all_goals first | (simp [-map_take,-map_drop, push_cast, dV_take, dV_drop, hLr, zeroC]; done)
  refine WX.loop (N := n) (ids := [2, 3]) (cap := .ip [.slc f 8 n L]) (it := fun i => [.agg (cut8 L i), .agg (cut8 L ((i + 1) % n))]) (env := [(2, .bp 2 0), (3, .bp 3 0), (9, .fn 80 [.ip [.slc f 8 n L]])]) (env0 := [(3, .bp 1000003 0)])
    (Q := fun e s' => e = .ret ∧ post Try.prog Try.f13 (.ret (ratAV (areaF l))) .ret s')
    (areaB l) (areaB l) (fun _ => True) (fun _ => False) trivial (areaB_ids l) (areaB_flat l) (areaB_ids l) (areaB_flat l)
    (fun i => [(3, .bp 1000003 0), (4, .ip (cut8 L i)), (5, .ip (cut8 L ((i + 1) % n)))]) rfl Try.call80 (pairs_seq f n L hLl (by omega)) rfl ?_ rfl ?_ ?_ ?_ ?_ ?_ ?_ (fun e s' h => h) (fun k _ h => h.elim)
  · show W Try.prog ⟨Try.f13.ntmps, [], none⟩ _ _ _
    refine W_subBox 3 (e := 31) (l' := ratC FQ.zero) rfl zeroC_sub ?_
    repeat' (first
      | with_reducible refine W_rg ?_
      | (rw [vcn]; (try simp [-map_take,-map_drop, push_cast, hLr]))
      | fail)
    refine CallG_of (pairs_ok f n L hLl hLr (by omega)) rfl rfl rfl ?_
    try dsimp only
    repeat' (first
      | (rw [vcn]; (try simp [-map_take,-map_drop, push_cast, hLr]))
      | fail)
    refine ⟨id, ⟨?_, ?_, ?_, ?_, ?_, ?_⟩⟩
    all_goals first | (simp [-map_take,-map_drop, push_cast, dV_take, dV_drop, hLr, zeroC, areaB, areaQ, ratC, zC]; done)
  · intro i hi
    refine ⟨rfl, fun v hv => ?_⟩
    have hj : (i + 1) % n < n := Nat.mod_lt _ (by omega)
    simp only [List.mem_cons, List.not_mem_nil, or_false] at hv
    rcases hv with rfl | rfl
    · rw [hcut i hi]; rfl
    · rw [hcut _ hj]; rfl
  · intro p hp
    have h : p = 10 ∨ p = 11 := by simpa [-map_take,-map_drop] using hp
    show p < Try.f13.ntmps
    rcases h with rfl | rfl <;> decide
  · intro p hp
    simp only [List.mem_cons, List.not_mem_nil, or_false] at hp
    subst hp
    refine ⟨rfl, fun i hi => ?_⟩
    have h : i = 1000003 := by simpa [-map_take,-map_drop, AV.refs] using hi
    subst h
    exact ⟨by omega, by simp [-map_take,-map_drop]⟩
  · intro r is i hi
    have hj : (i + 1) % n < n := Nat.mod_lt _ (by omega)
    show W Try.prog ⟨Try.f13.ntmps, [], some r⟩ _ (mkS [(11, .agg (cut8 L ((i + 1) % n))), (10, .agg (cut8 L i)), (3, .bp 1000003 0)] [(1000002, .mut 31 zeroC), (1000003, .mut 31 (ratC (areaQ l is)))]) _
    show W Try.prog ⟨Try.f13.ntmps, [], some r⟩ _ _ (fun e s' => e = .normal ∧ ∃ ρ, Wk s' [(3, .bp 1000003 0), (4, .ip (cut8 L i)), (5, .ip (cut8 L ((i + 1) % n)))] [(1000002, .mut 31 zeroC), (1000003, .mut 31 (ratC (areaQ l is)))] ρ)
    have p1 : (cut8 L i).length = 8 := by rw [hcut i hi]; rfl
    have p2 : refsL (cut8 L i) = [] := by rw [hcut i hi]; rfl
    have q1 : (cut8 L ((i + 1) % n)).length = 8 := by rw [hcut _ hj]; rfl
    have q2 : refsL (cut8 L ((i + 1) % n)) = [] := by rw [hcut _ hj]; rfl
    obtain ⟨S, hS⟩ : ∃ S, S = ratC (areaQ l is) := ⟨_, rfl⟩
    have s1 : refsL S = [] := by rw [hS]; rfl
    have s2 : ∀ ρ, renL ρ S = S := fun ρ => renL_id ρ _ s1
    obtain ⟨A, hA⟩ : ∃ A, A = cut8 L i := ⟨_, rfl⟩
    obtain ⟨B, hB⟩ : ∃ B, B = cut8 L ((i + 1) % n) := ⟨_, rfl⟩
    rw [← hA] at p1 p2 ⊢
    rw [← hB] at q1 q2 ⊢
    rw [← hS]
    clear hA hB hS hcut hs
    refine W_frzEnd 4 ?_
    refine W_frzEnd 5 ?_
    repeat' (first
      | with_reducible first | apply thenW_n | apply W_seq
      | with_reducible refine W_rg ?_
      | (rw [vcn]; (try simp [-map_take,-map_drop, push_cast, p1, p2, q1, q2]))
      | fail)
    refine frzEnd_i 33 B (by simp [-map_take,-map_drop, upd, mkS_box, lk]) q2 ?_
    refine frzEnd_i 33 A (by simp [-map_take,-map_drop, upd, mkS_box, lk]) p2 ?_
    refine ⟨rfl, id, ⟨?_, ?_, ?_, ?_, ?_, ?_⟩⟩
    all_goals first | (simp [-map_take,-map_drop, push_cast, dV_take, dV_drop, p1, p2, q1, q2, s1, s2, zeroC]; done)
  · intro r is i hi hlen hall _
    have hj : (i + 1) % n < n := Nat.mod_lt _ (by omega)
    show W Try.prog ⟨Try.f13.ntmps, [], some r⟩ _ (mkS [(3, .bp 1000003 0), (4, .ip (cut8 L i)), (5, .ip (cut8 L ((i + 1) % n)))] [(1000002, .mut 31 zeroC), (1000003, .mut 31 (ratC (areaQ l is)))]) _
    have hsz := (areaS_sz hs is).sz
    have hp1 := HD.at hs i
    have hq1 := HD.at hs ((i + 1) % n)
    have hxy := (hp1.1.mul hq1.2)
    have hyx := (hp1.2.mul hq1.1)
    have hadd := (areaS_sz hs is).add hxy (172 + 26 * is.length) (by omega) (by omega)
    have z1 := hp1.sz
    have z2 := hq1.sz
    have z3 := hxy.sz
    have z4 := hyx.sz
    have z5 := hadd.sz
    unfold szV at z1 z2
    have hsn := areaQ_snoc l is i
    rw [← hn] at hsn
    rw [hcut i hi, hcut _ hj]
    obtain ⟨p, hp⟩ : ∃ p, p = l.getD i nilF := ⟨_, rfl⟩
    obtain ⟨q, hq⟩ : ∃ q, q = l.getD ((i + 1) % n) nilF := ⟨_, rfl⟩
    rw [← hp, ← hq] at hsn
    rw [← hp] at z1 z3 z4 z5
    rw [← hq] at z2 z3 z4 z5
    rw [← hp, ← hq]
    have e1 := mulR_ok p.x q.y (by omega)
    have e2 := addR_ok (areaQ l is) (.of (p.x.q * q.y.q)) (by rw [areaQ_q]; simp only [FQ.of]; omega)
    have e3 := mulR_ok p.y q.x (by omega)
    have e4 := subR_ok (.of (areaS l is + p.x.q * q.y.q)) (.of (p.y.q * q.x.q)) (by simp only [FQ.of]; omega)
    rw [areaQ_q] at e2
    simp only [FQ.of] at e2 e4
    have f1 : ∀ q : Rat, (⟨q, false, fun h => by cases h⟩ : FQ) = .of q := fun _ => rfl
    simp only [f1] at e2 e4
    rw [← hsn] at e4
    obtain ⟨S, hS⟩ : ∃ S, S = areaQ l is := ⟨_, rfl⟩
    obtain ⟨S', hS'⟩ : ∃ S, S = areaQ l (is ++ [i]) := ⟨_, rfl⟩
    obtain ⟨T1, hT1⟩ : ∃ T, T = FQ.of (p.x.q * q.y.q) := ⟨_, rfl⟩
    obtain ⟨T2, hT2⟩ : ∃ T, T = FQ.of (areaS l is + p.x.q * q.y.q) := ⟨_, rfl⟩
    obtain ⟨T3, hT3⟩ : ∃ T, T = FQ.of (p.y.q * q.x.q) := ⟨_, rfl⟩
    have hbS' : areaB l (is ++ [i]) = [(2, .mut 31 zeroC), (3, .mut 31 (ratC S'))] := by rw [hS']; rfl
    rw [← hS, ← hT1, ← hT2] at e2
    rw [← hT1] at e1
    rw [← hT3] at e3
    rw [← hT2, ← hT3, ← hS'] at e4
    rw [← hS]
    clear hS hS' hT1 hT2 hT3 hp hq hsn z1 z2 z3 z4 z5 hadd hxy hyx hp1 hq1 hsz hcut hs hall
    obtain ⟨px, py⟩ := p
    obtain ⟨qx, qy⟩ := q
    simp only at e1 e3
    refine W_block ?_
    refine W_drawn mixed (by with_unfolding_all rfl) (by kernel_rfl) ?_
    repeat' (first
      | (rw [vcnD]; (try simp [-map_take,-map_drop, push_cast, ptC, ratC, zC]))
      | fail)
    refine callD_of (e1) rfl rfl rfl ?_
    try dsimp only
    repeat' (first
      | (rw [vcnD]; (try simp [-map_take,-map_drop, push_cast, ptC, ratC, zC]))
      | fail)
    refine callD_of (e2) rfl rfl rfl ?_
    try dsimp only
    repeat' (first
      | (rw [vcnD]; (try simp [-map_take,-map_drop, push_cast, ptC, ratC, zC]))
      | fail)
    refine callD_of (e3) rfl rfl rfl ?_
    try dsimp only
    repeat' (first
      | (rw [vcnD]; (try simp [-map_take,-map_drop, push_cast, ptC, ratC, zC]))
      | fail)
    refine callD_of (e4) rfl rfl rfl ?_
    try dsimp only
    repeat' (first
      | with_reducible apply blockW_n
      | (rw [vcnD]; (try simp [-map_take,-map_drop, push_cast, ptC, ratAV, ratC, zC]))
      | refine And.intro (by first | omega | kernel_rfl) ?_
      | fail)
    refine ⟨id, ⟨?_, ?_, ?_, ?_, ?_, ?_⟩⟩
    all_goals first | (simp [-map_take,-map_drop, push_cast, dV_take, dV_drop, hbS', pinB, ratC, zC, zeroC]; done)
  · intro _ D
    have hsz := (areaS_sz hs (List.range n)).sz
    rw [List.length_range] at hsz
    show W Try.prog ⟨Try.f13.ntmps, [mark D], none⟩ _ (mkS [(2, .bp 2 0), (3, .bp 3 0), (9, .fn 80 [.ip [.slc f 8 n L]])] [(2, .mut 31 zeroC), (3, .mut 31 (ratC (areaQ l (List.range n))))]) _
    have e1 := ofF_ok 1 2 (by decide) (by decide) (by decide)
    have z : szQ (Rat.divInt 1 2) ≤ 4 := by decide +kernel
    have e2 := mulR_ok (areaQ l (List.range n)) (.of (Rat.divInt 1 2)) (by rw [areaQ_q]; simp only [FQ.of]; omega)
    rw [areaQ_q] at e2
    have ho : FQ.of (areaS l (List.range n) * (FQ.of (Rat.divInt 1 2)).q) = areaF l := by rw [hn]; rfl
    rw [ho] at e2
    obtain ⟨S, hS⟩ : ∃ S, S = areaQ l (List.range n) := ⟨_, rfl⟩
    obtain ⟨H, hH⟩ : ∃ H, H = FQ.of (Rat.divInt 1 2) := ⟨_, rfl⟩
    obtain ⟨O, hO⟩ : ∃ H, H = areaF l := ⟨_, rfl⟩
    rw [← hS, ← hH, ← hO] at e2
    rw [← hH] at e1
    rw [← hS, ← hO]
    clear hS hH hO ho z hsz hcut hs
    repeat' (first
      | with_reducible apply W_seq
      | with_reducible refine W_rg ?_
      | (rw [vcn]; (try simp [-map_take,-map_drop, push_cast, ratC, zC, hLr]))
      | fail)
    refine CallG_of (e1) rfl rfl rfl ?_
    try dsimp only
    repeat' (first
      | with_reducible first | apply thenW_n | apply W_seq
      | with_reducible refine W_rg ?_
      | (rw [vcn]; (try simp [-map_take,-map_drop, push_cast, ratAV, ratC, zC, hLr]))
      | fail)
    refine CallG_of (e2) rfl rfl rfl ?_
    try dsimp only
    repeat' (first
      | with_reducible first | apply thenW_n | apply W_ret
      | (rw [vcn]; (try simp [-map_take,-map_drop, push_cast, ratAV, ratC, zC, zeroC, hLr]))
      | refine And.intro (by first | omega | kernel_rfl) ?_
      | fail)
    simp [-map_take,-map_drop, post, resAV, resAll, resOne, closeV, closeC, closeL, resD, resDL, push_cast, ratAV, ratC, zC]
end Go.Fw
