/- record.Right is the document's Right. -/
import Derived.Test.YtjgbikhnnkigpaaQ5
set_option linter.unusedSimpArgs false
set_option linter.unusedVariables false
namespace Go.Fw
open Go Go.Proofs Go.IntWalk
set_option linter.unusedSimpArgs false
set_option maxRecDepth 100000
set_option maxHeartbeats 2000000

theorem re_0 (d : UInt8) (b : List UInt8) : rightB 0 d b 2 2 1 1 true = refR 0 d b := by
  have hd := byte_dec 2 d
  have hs : (2 : UInt8).toNat = 2 := rfl
  rw [hs] at hd
  simp only [rightB, hd]
  rw [Bool.eq_iff_iff]
  simp [refR, inB]
  try omega
theorem re_13 (d : UInt8) (b : List UInt8) : rightB 13 d b 2 2 1 1 true = refR 13 d b := by
  have hd := byte_dec 2 d
  have hs : (2 : UInt8).toNat = 2 := rfl
  rw [hs] at hd
  simp only [rightB, hd]
  rw [Bool.eq_iff_iff]
  simp [refR, inB]
  try omega
theorem re_14 (d : UInt8) (b : List UInt8) : rightB 14 d b 2 2 1 1 true = refR 14 d b := by
  have hd := byte_dec 2 d
  have hs : (2 : UInt8).toNat = 2 := rfl
  rw [hs] at hd
  simp only [rightB, hd]
  rw [Bool.eq_iff_iff]
  simp [refR, inB]
  try omega
theorem re_22 (d : UInt8) (b : List UInt8) : rightB 22 d b 2 2 1 1 true = refR 22 d b := by
  have hd := byte_dec 2 d
  have hs : (2 : UInt8).toNat = 2 := rfl
  rw [hs] at hd
  simp only [rightB, hd]
  rw [Bool.eq_iff_iff]
  simp [refR, inB]
  try omega
theorem re_33 (d : UInt8) (b : List UInt8) : rightB 33 d b 2 2 1 1 true = refR 33 d b := by
  have hd := byte_dec 2 d
  have hs : (2 : UInt8).toNat = 2 := rfl
  rw [hs] at hd
  simp only [rightB, hd]
  rw [Bool.eq_iff_iff]
  simp [refR, inB]
  try omega
theorem re_34 (d : UInt8) (b : List UInt8) : rightB 34 d b 2 2 1 1 true = refR 34 d b := by
  have hd := byte_dec 2 d
  have hs : (2 : UInt8).toNat = 2 := rfl
  rw [hs] at hd
  simp only [rightB, hd]
  rw [Bool.eq_iff_iff]
  simp [refR, inB]
  try omega
theorem re_42 (d : UInt8) (b : List UInt8) : rightB 42 d b 2 2 1 1 true = refR 42 d b := by
  have hd := byte_dec 2 d
  have hs : (2 : UInt8).toNat = 2 := rfl
  rw [hs] at hd
  simp only [rightB, hd]
  rw [Bool.eq_iff_iff]
  simp [refR, inB]
  try omega
theorem re_43 (d : UInt8) (b : List UInt8) : rightB 43 d b 2 2 1 1 true = refR 43 d b := by
  have hd := byte_dec 2 d
  have hs : (2 : UInt8).toNat = 2 := rfl
  rw [hs] at hd
  simp only [rightB, hd]
  rw [Bool.eq_iff_iff]
  simp [refR, inB]
  try omega
theorem re_46 (d : UInt8) (b : List UInt8) : rightB 46 d b 2 2 1 1 true = refR 46 d b := by
  have hd := byte_dec 2 d
  have hs : (2 : UInt8).toNat = 2 := rfl
  rw [hs] at hd
  simp only [rightB, hd]
  rw [Bool.eq_iff_iff]
  simp [refR, inB]
  try omega
theorem re_54 (d : UInt8) (b : List UInt8) : rightB 54 d b 2 2 1 1 true = refR 54 d b := by
  have hd := byte_dec 2 d
  have hs : (2 : UInt8).toNat = 2 := rfl
  rw [hs] at hd
  simp only [rightB, hd]
  rw [Bool.eq_iff_iff]
  simp [refR, inB]
  try omega
theorem re_57 (d : UInt8) (b : List UInt8) : rightB 57 d b 2 2 1 1 true = refR 57 d b := by
  have hd := byte_dec 2 d
  have hs : (2 : UInt8).toNat = 2 := rfl
  rw [hs] at hd
  simp only [rightB, hd]
  rw [Bool.eq_iff_iff]
  simp [refR, inB]
  try omega
theorem re_1 (d : UInt8) (b : List UInt8) : rightB 1 d b 2 24 1 1 true = refR 1 d b := by
  have hd := byte_dec 2 d
  have hs : (2 : UInt8).toNat = 2 := rfl
  rw [hs] at hd
  simp only [rightB, hd]
  rw [Bool.eq_iff_iff]
  simp [refR, inB]
  try omega
theorem re_5 (d : UInt8) (b : List UInt8) : rightB 5 d b 2 24 1 1 true = refR 5 d b := by
  have hd := byte_dec 2 d
  have hs : (2 : UInt8).toNat = 2 := rfl
  rw [hs] at hd
  simp only [rightB, hd]
  rw [Bool.eq_iff_iff]
  simp [refR, inB]
  try omega
theorem re_19 (d : UInt8) (b : List UInt8) : rightB 19 d b 2 4 1 1 true = refR 19 d b := by
  have hd := byte_dec 2 d
  have hs : (2 : UInt8).toNat = 2 := rfl
  rw [hs] at hd
  simp only [rightB, hd]
  rw [Bool.eq_iff_iff]
  simp [refR, inB]
  try omega
theorem re_59 (d : UInt8) (b : List UInt8) : rightB 59 d b 2 6 1 32 true = refR 59 d b := by
  have hd := byte_dec 2 d
  have hs : (2 : UInt8).toNat = 2 := rfl
  rw [hs] at hd
  simp only [rightB, hd]
  rw [Bool.eq_iff_iff]
  simp [refR, inB]
  try omega
theorem re_4 (d : UInt8) (b : List UInt8) : rightB 4 d b 0 1 0 0 true = refR 4 d b := by
  have hd := byte_dec 0 d
  have hs : (0 : UInt8).toNat = 0 := rfl
  rw [hs] at hd
  simp only [rightB, hd]
  rw [Bool.eq_iff_iff]
  simp [refR, inB]
  try omega
theorem re_7 (d : UInt8) (b : List UInt8) : rightB 7 d b 0 1 0 0 true = refR 7 d b := by
  have hd := byte_dec 0 d
  have hs : (0 : UInt8).toNat = 0 := rfl
  rw [hs] at hd
  simp only [rightB, hd]
  rw [Bool.eq_iff_iff]
  simp [refR, inB]
  try omega
theorem re_8 (d : UInt8) (b : List UInt8) : rightB 8 d b 0 1 0 0 true = refR 8 d b := by
  have hd := byte_dec 0 d
  have hs : (0 : UInt8).toNat = 0 := rfl
  rw [hs] at hd
  simp only [rightB, hd]
  rw [Bool.eq_iff_iff]
  simp [refR, inB]
  try omega
theorem re_9 (d : UInt8) (b : List UInt8) : rightB 9 d b 0 1 0 0 true = refR 9 d b := by
  have hd := byte_dec 0 d
  have hs : (0 : UInt8).toNat = 0 := rfl
  rw [hs] at hd
  simp only [rightB, hd]
  rw [Bool.eq_iff_iff]
  simp [refR, inB]
  try omega
theorem re_10 (d : UInt8) (b : List UInt8) : rightB 10 d b 0 1 0 0 true = refR 10 d b := by
  have hd := byte_dec 0 d
  have hs : (0 : UInt8).toNat = 0 := rfl
  rw [hs] at hd
  simp only [rightB, hd]
  rw [Bool.eq_iff_iff]
  simp [refR, inB]
  try omega
theorem re_11 (d : UInt8) (b : List UInt8) : rightB 11 d b 0 1 0 0 true = refR 11 d b := by
  have hd := byte_dec 0 d
  have hs : (0 : UInt8).toNat = 0 := rfl
  rw [hs] at hd
  simp only [rightB, hd]
  rw [Bool.eq_iff_iff]
  simp [refR, inB]
  try omega
theorem re_12 (d : UInt8) (b : List UInt8) : rightB 12 d b 0 1 0 0 true = refR 12 d b := by
  have hd := byte_dec 0 d
  have hs : (0 : UInt8).toNat = 0 := rfl
  rw [hs] at hd
  simp only [rightB, hd]
  rw [Bool.eq_iff_iff]
  simp [refR, inB]
  try omega
theorem re_17 (d : UInt8) (b : List UInt8) : rightB 17 d b 0 1 0 0 true = refR 17 d b := by
  have hd := byte_dec 0 d
  have hs : (0 : UInt8).toNat = 0 := rfl
  rw [hs] at hd
  simp only [rightB, hd]
  rw [Bool.eq_iff_iff]
  simp [refR, inB]
  try omega
theorem re_21 (d : UInt8) (b : List UInt8) : rightB 21 d b 0 1 0 0 true = refR 21 d b := by
  have hd := byte_dec 0 d
  have hs : (0 : UInt8).toNat = 0 := rfl
  rw [hs] at hd
  simp only [rightB, hd]
  rw [Bool.eq_iff_iff]
  simp [refR, inB]
  try omega
theorem re_45 (d : UInt8) (b : List UInt8) : rightB 45 d b 0 1 0 0 true = refR 45 d b := by
  have hd := byte_dec 0 d
  have hs : (0 : UInt8).toNat = 0 := rfl
  rw [hs] at hd
  simp only [rightB, hd]
  rw [Bool.eq_iff_iff]
  simp [refR, inB]
  try omega
theorem re_56 (d : UInt8) (b : List UInt8) : rightB 56 d b 0 1 0 0 true = refR 56 d b := by
  have hd := byte_dec 0 d
  have hs : (0 : UInt8).toNat = 0 := rfl
  rw [hs] at hd
  simp only [rightB, hd]
  rw [Bool.eq_iff_iff]
  simp [refR, inB]
  try omega
theorem re_15 (d : UInt8) (b : List UInt8) : rightB 15 d b 3 4 1 1 true = refR 15 d b := by
  have hd := byte_dec 3 d
  have hs : (3 : UInt8).toNat = 3 := rfl
  rw [hs] at hd
  simp only [rightB, hd]
  rw [Bool.eq_iff_iff]
  simp [refR, inB]
  try omega
theorem re_47 (d : UInt8) (b : List UInt8) : rightB 47 d b 3 4 1 1 true = refR 47 d b := by
  have hd := byte_dec 3 d
  have hs : (3 : UInt8).toNat = 3 := rfl
  rw [hs] at hd
  simp only [rightB, hd]
  rw [Bool.eq_iff_iff]
  simp [refR, inB]
  try omega
theorem re_48 (d : UInt8) (b : List UInt8) : rightB 48 d b 3 4 1 1 true = refR 48 d b := by
  have hd := byte_dec 3 d
  have hs : (3 : UInt8).toNat = 3 := rfl
  rw [hs] at hd
  simp only [rightB, hd]
  rw [Bool.eq_iff_iff]
  simp [refR, inB]
  try omega
theorem re_49 (d : UInt8) (b : List UInt8) : rightB 49 d b 3 4 1 1 true = refR 49 d b := by
  have hd := byte_dec 3 d
  have hs : (3 : UInt8).toNat = 3 := rfl
  rw [hs] at hd
  simp only [rightB, hd]
  rw [Bool.eq_iff_iff]
  simp [refR, inB]
  try omega
theorem re_16 (d : UInt8) (b : List UInt8) : rightB 16 d b 3 8 1 8191 true = refR 16 d b := by
  have hd := byte_dec 3 d
  have hs : (3 : UInt8).toNat = 3 := rfl
  rw [hs] at hd
  simp only [rightB, hd]
  rw [Bool.eq_iff_iff]
  simp [refR, inB]
  try omega
theorem re_27 (d : UInt8) (b : List UInt8) : rightB 27 d b 5 8 1 1 true = refR 27 d b := by
  have hd := byte_dec 5 d
  have hs : (5 : UInt8).toNat = 5 := rfl
  rw [hs] at hd
  simp only [rightB, hd]
  rw [Bool.eq_iff_iff]
  simp [refR, inB]
  try omega
theorem re_28 (d : UInt8) (b : List UInt8) : rightB 28 d b 5 8 1 1 true = refR 28 d b := by
  have hd := byte_dec 5 d
  have hs : (5 : UInt8).toNat = 5 := rfl
  rw [hs] at hd
  simp only [rightB, hd]
  rw [Bool.eq_iff_iff]
  simp [refR, inB]
  try omega
theorem re_3 (d : UInt8) (b : List UInt8) : rightB 3 d b 5 16 1 1 true = refR 3 d b := by
  have hd := byte_dec 5 d
  have hs : (5 : UInt8).toNat = 5 := rfl
  rw [hs] at hd
  simp only [rightB, hd]
  rw [Bool.eq_iff_iff]
  simp [refR, inB]
  try omega
theorem re_23 (d : UInt8) (b : List UInt8) : rightB 23 d b 1 2 1 1 true = refR 23 d b := by
  have hd := byte_dec 1 d
  have hs : (1 : UInt8).toNat = 1 := rfl
  rw [hs] at hd
  simp only [rightB, hd]
  rw [Bool.eq_iff_iff]
  simp [refR, inB]
  try omega
theorem re_26 (d : UInt8) (b : List UInt8) : rightB 26 d b 1 2 1 1 true = refR 26 d b := by
  have hd := byte_dec 1 d
  have hs : (1 : UInt8).toNat = 1 := rfl
  rw [hs] at hd
  simp only [rightB, hd]
  rw [Bool.eq_iff_iff]
  simp [refR, inB]
  try omega
theorem re_38 (d : UInt8) (b : List UInt8) : rightB 38 d b 1 2 1 1 true = refR 38 d b := by
  have hd := byte_dec 1 d
  have hs : (1 : UInt8).toNat = 1 := rfl
  rw [hs] at hd
  simp only [rightB, hd]
  rw [Bool.eq_iff_iff]
  simp [refR, inB]
  try omega
theorem re_52 (d : UInt8) (b : List UInt8) : rightB 52 d b 1 2 1 1 true = refR 52 d b := by
  have hd := byte_dec 1 d
  have hs : (1 : UInt8).toNat = 1 := rfl
  rw [hs] at hd
  simp only [rightB, hd]
  rw [Bool.eq_iff_iff]
  simp [refR, inB]
  try omega
theorem re_2 (d : UInt8) (b : List UInt8) : rightB 2 d b 6 2 1 256 true = refR 2 d b := by
  have hd := byte_dec 6 d
  have hs : (6 : UInt8).toNat = 6 := rfl
  rw [hs] at hd
  have ht := textB_eq b 512 false _ 1 256 rfl (text_false b)
  simp [rightB, refR, inB, hd, -decide_eq_decide]
  try simp at ht
  rw [← ht]
  cases decide (d.toNat = 6) <;> simp [Bool.and_assoc]
theorem re_25 (d : UInt8) (b : List UInt8) : rightB 25 d b 6 2 1 256 true = refR 25 d b := by
  have hd := byte_dec 6 d
  have hs : (6 : UInt8).toNat = 6 := rfl
  rw [hs] at hd
  have ht := textB_eq b 512 false _ 1 256 rfl (text_false b)
  simp [rightB, refR, inB, hd, -decide_eq_decide]
  try simp at ht
  rw [← ht]
  cases decide (d.toNat = 6) <;> simp [Bool.and_assoc]
theorem re_44 (d : UInt8) (b : List UInt8) : rightB 44 d b 6 2 1 256 true = refR 44 d b := by
  have hd := byte_dec 6 d
  have hs : (6 : UInt8).toNat = 6 := rfl
  rw [hs] at hd
  have ht := textB_eq b 512 false _ 1 256 rfl (text_false b)
  simp [rightB, refR, inB, hd, -decide_eq_decide]
  try simp at ht
  rw [← ht]
  cases decide (d.toNat = 6) <;> simp [Bool.and_assoc]
theorem re_55 (d : UInt8) (b : List UInt8) : rightB 55 d b 6 2 1 256 true = refR 55 d b := by
  have hd := byte_dec 6 d
  have hs : (6 : UInt8).toNat = 6 := rfl
  rw [hs] at hd
  have ht := textB_eq b 512 false _ 1 256 rfl (text_false b)
  simp [rightB, refR, inB, hd, -decide_eq_decide]
  try simp at ht
  rw [← ht]
  cases decide (d.toNat = 6) <;> simp [Bool.and_assoc]
theorem re_58 (d : UInt8) (b : List UInt8) : rightB 58 d b 6 2 1 256 true = refR 58 d b := by
  have hd := byte_dec 6 d
  have hs : (6 : UInt8).toNat = 6 := rfl
  rw [hs] at hd
  have ht := textB_eq b 512 false _ 1 256 rfl (text_false b)
  simp [rightB, refR, inB, hd, -decide_eq_decide]
  try simp at ht
  rw [← ht]
  cases decide (d.toNat = 6) <;> simp [Bool.and_assoc]
theorem re_6 (d : UInt8) (b : List UInt8) : rightB 6 d b 6 2 1 16 true = refR 6 d b := by
  have hd := byte_dec 6 d
  have hs : (6 : UInt8).toNat = 6 := rfl
  rw [hs] at hd
  have ht := textB_eq b 32 true _ 1 16 rfl (text_true b)
  simp [rightB, refR, inB, hd, -decide_eq_decide]
  try simp at ht
  rw [← ht]
  cases decide (d.toNat = 6) <;> simp [Bool.and_assoc]
theorem re_18 (d : UInt8) (b : List UInt8) : rightB 18 d b 6 2 1 16 true = refR 18 d b := by
  have hd := byte_dec 6 d
  have hs : (6 : UInt8).toNat = 6 := rfl
  rw [hs] at hd
  have ht := textB_eq b 32 true _ 1 16 rfl (text_true b)
  simp [rightB, refR, inB, hd, -decide_eq_decide]
  try simp at ht
  rw [← ht]
  cases decide (d.toNat = 6) <;> simp [Bool.and_assoc]
theorem re_35 (d : UInt8) (b : List UInt8) : rightB 35 d b 6 44 1 1 true = refR 35 d b := by
  have hd := byte_dec 6 d
  have hs : (6 : UInt8).toNat = 6 := rfl
  rw [hs] at hd
  simp only [rightB, hd]
  rw [Bool.eq_iff_iff]
  simp [refR, inB]
  try omega
theorem re_32 (d : UInt8) (b : List UInt8) : rightB 32 d b 6 176 1 1 true = refR 32 d b := by
  have hd := byte_dec 6 d
  have hs : (6 : UInt8).toNat = 6 := rfl
  rw [hs] at hd
  simp only [rightB, hd]
  rw [Bool.eq_iff_iff]
  simp [refR, inB]
  try omega
theorem re_31 (d : UInt8) (b : List UInt8) : rightB 31 d b 6 44 1 17 true = refR 31 d b := by
  have hd := byte_dec 6 d
  have hs : (6 : UInt8).toNat = 6 := rfl
  rw [hs] at hd
  simp only [rightB, hd]
  rw [Bool.eq_iff_iff]
  simp [refR, inB]
  try omega

theorem re_other (k d : UInt8) (b : List UInt8) (h : k ∉ kinds) : rightB k d b 0 0 0 0 false = refR k d b := by
  have hk := h
  simp only [kinds, List.mem_cons, List.not_mem_nil, or_false, not_or] at hk
  have ne : ∀ c : UInt8, k ≠ c → ((k.toNat : Int) == (c.toNat : Int)) = false := fun c h => by rw [byte_beq]; simpa using h

  have s0 : inB [0, 13, 14, 22, 33, 34, 42, 43, 46, 54, 57] k = false := by simp [inB, hk]
  have s1 : inB [1, 5] k = false := by simp [inB, hk]
  have s2 : ((k.toNat : Int) == 19) = false := ne 19 (fun e => h (by rw [e]; decide))
  have s3 : ((k.toNat : Int) == 59) = false := ne 59 (fun e => h (by rw [e]; decide))
  have s4 : inB [4, 7, 8, 9, 10, 11, 12, 17, 21, 45, 56] k = false := by simp [inB, hk]
  have s5 : inB [15, 47, 48, 49] k = false := by simp [inB, hk]
  have s6 : ((k.toNat : Int) == 16) = false := ne 16 (fun e => h (by rw [e]; decide))
  have s7 : inB [27, 28] k = false := by simp [inB, hk]
  have s8 : ((k.toNat : Int) == 3) = false := ne 3 (fun e => h (by rw [e]; decide))
  have s9 : inB [23, 26, 38, 52] k = false := by simp [inB, hk]
  have s10 : inB [2, 25, 44, 55, 58] k = false := by simp [inB, hk]
  have s11 : inB [6, 18] k = false := by simp [inB, hk]
  have s12 : ((k.toNat : Int) == 35) = false := ne 35 (fun e => h (by rw [e]; decide))
  have s13 : ((k.toNat : Int) == 32) = false := ne 32 (fun e => h (by rw [e]; decide))
  have s14 : ((k.toNat : Int) == 31) = false := ne 31 (fun e => h (by rw [e]; decide))
  simp [rightB, refR, s0, s1, s2, s3, s4, s5, s6, s7, s8, s9, s10, s11, s12, s13, s14]

theorem rightE (k d : UInt8) (b : List UInt8) (hb : b.length ≤ 1000000) : Eval Try.prog 17 [recAV k d b] (.ret (.v (.bool (refR k d b)))) := by
  by_cases h : k ∈ kinds
  · simp only [kinds, List.mem_cons, List.not_mem_nil, or_false] at h
    rcases h with rfl | rfl | rfl | rfl | rfl | rfl | rfl | rfl | rfl | rfl | rfl | rfl | rfl | rfl | rfl | rfl | rfl | rfl | rfl | rfl | rfl | rfl | rfl | rfl | rfl | rfl | rfl | rfl | rfl | rfl | rfl | rfl | rfl | rfl | rfl | rfl | rfl | rfl | rfl | rfl | rfl | rfl | rfl | rfl | rfl | rfl | rfl | rfl
    · rw [← re_0]; exact right_ok 0 d b hb 2 2 1 1 true of_0
    · rw [← re_13]; exact right_ok 13 d b hb 2 2 1 1 true of_13
    · rw [← re_14]; exact right_ok 14 d b hb 2 2 1 1 true of_14
    · rw [← re_22]; exact right_ok 22 d b hb 2 2 1 1 true of_22
    · rw [← re_33]; exact right_ok 33 d b hb 2 2 1 1 true of_33
    · rw [← re_34]; exact right_ok 34 d b hb 2 2 1 1 true of_34
    · rw [← re_42]; exact right_ok 42 d b hb 2 2 1 1 true of_42
    · rw [← re_43]; exact right_ok 43 d b hb 2 2 1 1 true of_43
    · rw [← re_46]; exact right_ok 46 d b hb 2 2 1 1 true of_46
    · rw [← re_54]; exact right_ok 54 d b hb 2 2 1 1 true of_54
    · rw [← re_57]; exact right_ok 57 d b hb 2 2 1 1 true of_57
    · rw [← re_1]; exact right_ok 1 d b hb 2 24 1 1 true of_1
    · rw [← re_5]; exact right_ok 5 d b hb 2 24 1 1 true of_5
    · rw [← re_19]; exact right_ok 19 d b hb 2 4 1 1 true of_19
    · rw [← re_59]; exact right_ok 59 d b hb 2 6 1 32 true of_59
    · rw [← re_4]; exact right_ok 4 d b hb 0 1 0 0 true of_4
    · rw [← re_7]; exact right_ok 7 d b hb 0 1 0 0 true of_7
    · rw [← re_8]; exact right_ok 8 d b hb 0 1 0 0 true of_8
    · rw [← re_9]; exact right_ok 9 d b hb 0 1 0 0 true of_9
    · rw [← re_10]; exact right_ok 10 d b hb 0 1 0 0 true of_10
    · rw [← re_11]; exact right_ok 11 d b hb 0 1 0 0 true of_11
    · rw [← re_12]; exact right_ok 12 d b hb 0 1 0 0 true of_12
    · rw [← re_17]; exact right_ok 17 d b hb 0 1 0 0 true of_17
    · rw [← re_21]; exact right_ok 21 d b hb 0 1 0 0 true of_21
    · rw [← re_45]; exact right_ok 45 d b hb 0 1 0 0 true of_45
    · rw [← re_56]; exact right_ok 56 d b hb 0 1 0 0 true of_56
    · rw [← re_15]; exact right_ok 15 d b hb 3 4 1 1 true of_15
    · rw [← re_47]; exact right_ok 47 d b hb 3 4 1 1 true of_47
    · rw [← re_48]; exact right_ok 48 d b hb 3 4 1 1 true of_48
    · rw [← re_49]; exact right_ok 49 d b hb 3 4 1 1 true of_49
    · rw [← re_16]; exact right_ok 16 d b hb 3 8 1 8191 true of_16
    · rw [← re_27]; exact right_ok 27 d b hb 5 8 1 1 true of_27
    · rw [← re_28]; exact right_ok 28 d b hb 5 8 1 1 true of_28
    · rw [← re_3]; exact right_ok 3 d b hb 5 16 1 1 true of_3
    · rw [← re_23]; exact right_ok 23 d b hb 1 2 1 1 true of_23
    · rw [← re_26]; exact right_ok 26 d b hb 1 2 1 1 true of_26
    · rw [← re_38]; exact right_ok 38 d b hb 1 2 1 1 true of_38
    · rw [← re_52]; exact right_ok 52 d b hb 1 2 1 1 true of_52
    · rw [← re_2]; exact right_ok 2 d b hb 6 2 1 256 true of_2
    · rw [← re_25]; exact right_ok 25 d b hb 6 2 1 256 true of_25
    · rw [← re_44]; exact right_ok 44 d b hb 6 2 1 256 true of_44
    · rw [← re_55]; exact right_ok 55 d b hb 6 2 1 256 true of_55
    · rw [← re_58]; exact right_ok 58 d b hb 6 2 1 256 true of_58
    · rw [← re_6]; exact right_ok 6 d b hb 6 2 1 16 true of_6
    · rw [← re_18]; exact right_ok 18 d b hb 6 2 1 16 true of_18
    · rw [← re_35]; exact right_ok 35 d b hb 6 44 1 1 true of_35
    · rw [← re_32]; exact right_ok 32 d b hb 6 176 1 1 true of_32
    · rw [← re_31]; exact right_ok 31 d b hb 6 44 1 17 true of_31
  · rw [← re_other k d b h]; exact right_ok k d b hb 0 0 0 0 false (of_other k h)
end Go.Fw
