/- gds: parse's deferred closure. -/
import Derived.Test.YtjgbikhnnkigpaaGp8
import Derived.Defers
import Derived.Recover
import Derived.WalkKit
set_option linter.unusedSimpArgs false
set_option linter.unusedVariables false
namespace Go.Fw
open Go Go.Proofs Go.IntWalk Go.RowKit
set_option linter.unusedSimpArgs false
set_option maxRecDepth 100000
set_option maxHeartbeats 4000000
def wrongV : Value := .iface 104 (.agg #[])
theorem clo_idle (b2 b3 : Nat) (w : World) :
  CallsD Try.prog 69 #[.pointer (some ⟨b2, 0, none⟩), .pointer (some ⟨b3, 0, none⟩)] .returning w fun e u' w' => e = .returned (.tuple #[]) ∧ u' = .returning ∧ w' = w := by
 refine callsD_of_wpS Try.func69 rfl fun c₀ cs hu => ?_
 apply wpS_seq
 apply wpS_region
 simp [wpOpsS, go_sem, recoverD, hu, Exit.thenS]
 apply wpS_seq
 apply wpS_region
 simp [wpOpsS, go_sem]
 refine wpS_cond (t := false) (by simp [Act.eval, Array.replicate]) ?_
 simp only [Bool.false_eq_true, if_false]
 refine wpS_of_wp (wp_skip ?_)
 cases c₀
 simp_all [bodyPostS, results]
theorem clo_pan (b2 b3 : Nat) (w : World) (cs2 cs3 : Array Value) (fz2 fz3 : Nat × Nat) (h2 : w.heap[b2]? = some (.cells cs2 58 fz2)) (h3 : w.heap[b3]? = some (.cells cs3 29 fz3)) (hf2 : Free cs2.size fz2) (hf3 : Free cs3.size fz3) (hz2 : 2 ≤ cs2.size) (hz3 : 1 ≤ cs3.size) (hne : b2 ≠ b3) :
  CallsD Try.prog 69 #[.pointer (some ⟨b2, 0, none⟩), .pointer (some ⟨b3, 0, none⟩)] (.panicking [{ v := wrongV, recovered := false }]) w fun e u' w' => e = .returned (.tuple #[]) ∧ u' = .panicking [{ v := wrongV, recovered := true }] ∧
   w'.cell? ⟨b2, 0, none⟩ = some (.slice none 0 0) ∧ w'.cell? ⟨b2, 1, none⟩ = some (.slice none 0 0) ∧ w'.cell? ⟨b3, 0, none⟩ = some (.int .i64 20) ∧ (∀ k, k < w.heap.size → k ≠ b2 → k ≠ b3 → w'.heap[k]? = w.heap[k]?) ∧ w'.os = w.os ∧ w'.tape = w.tape ∧ w'.output = w.output ∧ w.heap.size ≤ w'.heap.size := by
 refine callsD_of_wpS Try.func69 rfl fun c₀ cs hu => ?_
 apply wpS_seq
 apply wpS_region
 simp [wpOpsS, go_sem, recoverD, hu, Exit.thenS]
 have q1 : ∀ w : World, (eqGuard .neq 20 (.tmp 6) (.const .nilIface) wrongV .nilIface).run Try.prog w = .ok () w := fun w => by first | rfl | kernel_rfl
 have q2 : ∀ w : World, (binOp .neq 20 wrongV .nilIface).run Try.prog w = .ok (.bool true) w := fun w => by first | rfl | kernel_rfl
 apply wpS_seq
 apply wpS_region
 simp [wpOpsS, go_sem, q1, q2]
 simp only [Exit.thenS]
 refine wpS_cond (t := true) (by simp [Act.eval, Array.replicate]) ?_
 simp only [if_true]
 have q3 : ∀ w : World, (Instr.typeAssert wrongV 20 104 true).run Try.prog w = .ok (.tuple #[.agg #[], .bool true]) w := fun w => by first | rfl | kernel_rfl
 apply wpS_seq
 apply wpS_seq
 apply wpS_region
 simp [wpOpsS, go_sem, q3]
 simp only [Exit.thenS]
 apply wpS_seq
 apply wpS_region
 simp [wpOpsS, go_sem]
 simp only [Exit.thenS]
 refine wpS_cond (t := false) (by simp [Act.eval, Array.replicate]) ?_
 simp only [Bool.false_eq_true, if_false]
 refine wpS_of_wp (wp_skip ?_)
 simp only [Exit.thenS]
 apply wpS_region
 have hlt2 : b2 < w.heap.size := heap_lt h2
 have hlt3 : b3 < w.heap.size := heap_lt h3
 obtain ⟨w1, hw1⟩ : ∃ w1, w1 = w.alloc (.cells #[] 104) := ⟨_, rfl⟩
 have k2 : w1.heap[b2]? = some (.cells cs2 58 fz2) := by rw [hw1, ← h2]; exact Below.heap_alloc w _ b2 hlt2
 have k3 : w1.heap[b3]? = some (.cells cs3 29 fz3) := by rw [hw1, ← h3]; exact Below.heap_alloc w _ b3 hlt3
 rw [← hw1]
 have cellF : ∀ (w : World) (b i : Nat) (cs : Array Value) (t : TypeId) (fz : Nat × Nat), w.heap[b]? = some (.cells cs t fz) → Free cs.size fz → i < cs.size → (∃ v, w.cell? ⟨b, i, none⟩ = some v) ∧ w.frozen? ⟨b, i, none⟩ = false := fun w b i cs t fz h hf hi => by
  refine ⟨⟨cs[i], by simp [World.cell?, h, hi]⟩, ?_⟩
  have := hf.2 i hi
  simp only [World.frozen?, h]
  exact this
 have cellS : ∀ (w : World) (b i : Nat) (cs : Array Value) (t : TypeId) (fz : Nat × Nat) (v : Value), w.heap[b]? = some (.cells cs t fz) → cs[i]? = some v → w.cell? ⟨b, i, none⟩ = some v := fun w b i cs t fz v h hv => by simp [World.cell?, h, hv]
 obtain ⟨⟨v1, c1⟩, f1⟩ := cellF w1 b2 0 _ _ _ k2 hf2 (by omega)
 have e1 := setCell_eq_setRow w1 b2 0 cs2 58 fz2 (.slice none 0 0) k2
 obtain ⟨ca, hca⟩ : ∃ ca, ca = cs2.setIfInBounds 0 (.slice none 0 0) := ⟨_, rfl⟩
 have sca : ca.size = cs2.size := by rw [hca]; simp
 rw [← hca] at e1
 obtain ⟨wa, hwa⟩ : ∃ wa, wa = w1.setRow b2 ca := ⟨_, rfl⟩
 rw [← hwa] at e1
 have ka : wa.heap[b2]? = some (.cells ca 58 fz2) := by rw [hwa]; exact setRow_heap w1 b2 _ _ 58 fz2 k2
 obtain ⟨⟨v2, c2⟩, f2⟩ := cellF wa b2 1 _ _ _ ka (by rw [sca]; exact hf2) (by omega)
 have e2 := setCell_eq_setRow wa b2 1 ca 58 fz2 (.slice none 0 0) ka
 obtain ⟨cb, hcb⟩ : ∃ cb, cb = ca.setIfInBounds 1 (.slice none 0 0) := ⟨_, rfl⟩
 rw [← hcb] at e2
 obtain ⟨wb, hwb⟩ : ∃ wb, wb = wa.setRow b2 cb := ⟨_, rfl⟩
 rw [← hwb] at e2
 have kb2 : wb.heap[b2]? = some (.cells cb 58 fz2) := by rw [hwb]; exact setRow_heap wa b2 _ _ 58 fz2 ka
 have oth : ∀ k, k ≠ b2 → wb.heap[k]? = w1.heap[k]? := fun k hk => by
  rw [hwb, setRow_other wa b2 k _ hk, hwa, setRow_other w1 b2 k _ hk]
 have kb3 : wb.heap[b3]? = some (.cells cs3 29 fz3) := by rw [oth b3 hne.symm, k3]
 obtain ⟨⟨v3, c3⟩, f3⟩ := cellF wb b3 0 _ _ _ kb3 hf3 (by omega)
 have e3 := setCell_eq_setRow wb b3 0 cs3 29 fz3 (.int .i64 20) kb3
 obtain ⟨cc, hcc⟩ : ∃ cc, cc = cs3.setIfInBounds 0 (.int .i64 20) := ⟨_, rfl⟩
 rw [← hcc] at e3
 obtain ⟨wc, hwc⟩ : ∃ wc, wc = wb.setRow b3 cc := ⟨_, rfl⟩
 rw [← hwc] at e3
 have kc3 : wc.heap[b3]? = some (.cells cc 29 fz3) := by rw [hwc]; exact setRow_heap wb b3 _ _ 29 fz3 kb3
 have kc2 : wc.heap[b2]? = some (.cells cb 58 fz2) := by rw [hwc, setRow_other wb b3 b2 _ hne]; exact kb2
 have r1 := cellS wc b2 0 _ _ _ (.slice none 0 0) kc2 (by rw [hcb, Array.getElem?_setIfInBounds_ne (by decide), hca, Array.getElem?_setIfInBounds_self_of_lt (by omega)])
 have r2 := cellS wc b2 1 _ _ _ (.slice none 0 0) kc2 (by rw [hcb, Array.getElem?_setIfInBounds_self_of_lt (by omega)])
 have r3 := cellS wc b3 0 _ _ _ (.int .i64 20) kc3 (by rw [hcc, Array.getElem?_setIfInBounds_self_of_lt (by omega)])
 have hoth : ∀ k, k < w.heap.size → k ≠ b2 → k ≠ b3 → wc.heap[k]? = w.heap[k]? := fun k hk h2' h3' => by
  rw [hwc, setRow_other wb b3 k _ h3', oth k h2', hw1]
  exact Below.heap_alloc w _ k hk
 have hsz : w.heap.size ≤ wc.heap.size := by
  have sr : ∀ (w : World) (g : Nat) (cs : Array Value), (w.setRow g cs).heap.size = w.heap.size := fun w g cs => by simp [World.setRow]
  have sa : (w.alloc (.cells #[] 104)).heap.size = w.heap.size + 1 := by
   show (w.heap.push _).size = _
   rw [Array.size_push]
  rw [hwc, sr, hwb, sr, hwa, sr, hw1, sa]
  omega
 have hos : wc.os = w.os ∧ wc.tape = w.tape ∧ wc.output = w.output := by
  rw [hwc, hwb, hwa, hw1]
  exact ⟨rfl, rfl, rfl⟩
 simp [wpOpsS, go_sem, c1, f1, e1, c2, f2, e2, c3, f3, e3]
 obtain ⟨fn0, tm0, td0, df0, md0, kd0, ro0⟩ := c₀
 simp only at hu
 exact ⟨rfl, _, rfl, _, by simp [results], rfl, rfl, r1, r2, r3, hoth, hos.1, hos.2.1, hos.2.2, hsz⟩
end Go.Fw
