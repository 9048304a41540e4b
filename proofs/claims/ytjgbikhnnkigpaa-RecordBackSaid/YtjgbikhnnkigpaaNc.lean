/- What was handed over, taken as what is written no more. -/
import Derived.Test.YtjgbikhnnkigpaaNb
set_option linter.unusedSimpArgs false
set_option linter.unusedVariables false
namespace Go.Fw
open Go Go.Proofs Go.IntWalk

theorem own_frz {M : Mem} {w : World} {e : TypeId} {z n : Nat} {l : List AV} {x : Value} {bl : List Nat} (h : RepC M w (.own e z n l) x bl) (size : Nat) (hb : ∀ b ∈ bl, size ≤ b) (hM : MemOk M w) :
    ∃ M', MemLe M M' ∧ MemOk M' w ∧ (∀ b, b < size → M' b = M b) ∧ Rep M' noLoc (.slc false z n l) x := by
  obtain ⟨h1, h2, ad, cap, rfl, h3, h4, h5⟩ := h
  rcases h5 with ⟨h0, rfl⟩ | ⟨b, cs, fz, rfl, rfl, k1, k2, k3, k4, k5⟩
  · have hn : n = 0 := by omega
    exact ⟨M, MemLe.refl M, hM, fun _ _ => rfl, ad, cap, rfl, h1, h3, h4, fun h => (by cases h), h2, fun h => by omega⟩
  · have hle : MemLe M (upd M b (some cs)) := by
      intro b' cs' hb'
      by_cases he : b' = b
      · subst he; rw [k5] at hb'; cases hb'
      · simp [upd, he, hb']
    refine ⟨upd M b (some cs), hle, ?_, ?_, ?_⟩
    · intro b' cs' hb'
      simp only [upd] at hb'
      split at hb'
      · rename_i he; subst he; cases hb'; exact ⟨_, _, k1⟩
      · exact hM b' cs' hb'
    · intro b' hb'
      have := hb b (by simp)
      simp only [upd]
      rw [if_neg (by omega)]
    · exact ⟨_, cap, rfl, h1, h3, h4, fun h => (by cases h), h2, fun _ => ⟨b, 0, cs, rfl, by simp [upd], RepAt.mono hle _ _ _ (fun _ _ => rfl) k4⟩⟩

theorem Eval.frz1 {P : Program} {f : FuncId} {args : List AV} {e : TypeId} {z n : Nat} {l : List AV} (h : Eval P f args (.ret (.own e z n l))) : Eval P f args (.ret (.slc false z n l)) := by
  intro M w vs h1 h2 h3
  refine Ends.mono (h M w vs h1 h2 h3) ?_
  rintro en w' ⟨M', q1, q2, q3, q4, q5⟩
  cases en with
  | panicked l => exact q5.elim
  | outgrown => exact q5.elim
  | returned x =>
    obtain ⟨bl, b1, b2, b3⟩ := q5
    obtain ⟨M2, m1, m2, m3, m4⟩ := own_frz b1 w.heap.size b3 q2
    exact ⟨M2, q1.trans m1, m2, fun b hb => (m3 b hb).trans (q3 b hb), q4, [], ⟨m4, rfl, rfl⟩, List.nodup_nil, fun b hb => by cases hb⟩

theorem Eval.frz2 {P : Program} {f : FuncId} {args : List AV} {e : TypeId} {z n : Nat} {l : List AV} {r : AV} (h : Eval P f args (.ret (.tup [.own e z n l, r]))) (hr : r.isOwn = false) : Eval P f args (.ret (.tup [.slc false z n l, r])) := by
  intro M w vs h1 h2 h3
  refine Ends.mono (h M w vs h1 h2 h3) ?_
  rintro en w' ⟨M', q1, q2, q3, q4, q5⟩
  cases en with
  | panicked l => exact q5.elim
  | outgrown => exact q5.elim
  | returned x =>
    obtain ⟨bl, ⟨vs', b1, b2, y, c1, c2, k1, k2, ⟨y', d1, d2, j1, j2, j3, j4⟩, k4⟩, b4, b5⟩ := q5
    have hj : Rep M' noLoc r y' ∧ r.refs = [] ∧ d1 = [] := by
      cases r with
      | own => simp [AV.isOwn] at hr
      | _ => exact j2
    obtain ⟨g1, g2, g3⟩ := hj
    have j3' : d2 = [] := j3
    subst g3 j3' j4 k4
    obtain ⟨M2, m1, m2, m3, m4⟩ := own_frz k2 w.heap.size (fun b hb => b5 b (by simpa using hb)) q2
    refine ⟨M2, q1.trans m1, m2, fun b hb => (m3 b hb).trans (q3 b hb), q4, [], ⟨vs', b1, b2, y, [], [], k1, ⟨m4, rfl, rfl⟩, ⟨y', [], [], j1, ?_, rfl, rfl⟩, rfl⟩, List.nodup_nil, fun b hb => by cases hb⟩
    have g4 := Rep.mono (β' := noLoc) m1 r y' (fun _ _ => rfl) g1
    cases r with
    | own => simp [AV.isOwn] at hr
    | _ => exact ⟨g4, g2, rfl⟩
end Go.Fw
