import Derived.Test.YtjgbikhnnkigpaaT8
set_option linter.unusedSimpArgs false
set_option linter.unusedVariables false
namespace Go.Fw
open Go Go.Proofs Go.IntWalk

theorem bOr_add (k : IntKind) (hi lo i : Nat) (hlo : lo < 2 ^ i) (hk : 2 ^ i * hi + lo < 2 ^ k.bits) : bOr k ((2 ^ i * hi : Nat) : Int) (lo : Int) = k.wrap ((2 ^ i * hi + lo : Nat) : Int) := by
  unfold bOr
  rw [BitVec.toNat_or, BitVec.ofInt_natCast, BitVec.ofInt_natCast, BitVec.toNat_ofNat, BitVec.toNat_ofNat, Nat.mod_eq_of_lt (by omega), Nat.mod_eq_of_lt (by omega), Nat.two_pow_add_eq_or_of_lt hlo hi]

theorem wu16 (n : Int) : IntKind.u16.wrap n = n % 65536 := by simp [IntKind.wrap, IntKind.bits, IntKind.signed]
theorem wu32 (n : Int) : IntKind.u32.wrap n = n % 4294967296 := by simp [IntKind.wrap, IntKind.bits, IntKind.signed]

theorem shortI_eq (x y : UInt8) : shortI x y = numI [x, y] := by
  have hx : x.toNat < 256 := x.toNat_lt
  have hy : y.toNat < 256 := y.toNat_lt
  have e1 : shlI .u16 (IntKind.u16.wrap x.toNat) 8 = ((2 ^ 8 * x.toNat : Nat) : Int) := by
    unfold shlI
    rw [show (2 : Int) ^ (min (8 : Int).toNat IntKind.u16.bits) = 256 from rfl, wu16, wu16]; omega
  have e2 : IntKind.u16.wrap (y.toNat : Int) = (y.toNat : Int) := by rw [wu16]; omega
  have e3 := bOr_add .u16 x.toNat y.toNat 8 hy (by simp only [IntKind.bits]; omega)
  have ev : valB [x, y] = 256 * x.toNat + y.toNat := by simp [valB]
  unfold shortI numI
  rw [e1, e2, e3, ev, wu16, (by simp : 256 ^ [x, y].length = 65536)]
  by_cases hb : 32768 ≤ 256 * x.toNat + y.toNat
  · rw [if_pos hb, show IntKind.i16.wrap (((2 ^ 8 * x.toNat + y.toNat : Nat) : Int) % 65536) = (256 * x.toNat + y.toNat : Nat) - (65536 : Int) from by
      simp only [IntKind.wrap, IntKind.bits, IntKind.signed]; simp; omega, i64_in _ (by omega)]
    omega
  · rw [if_neg hb, show IntKind.i16.wrap (((2 ^ 8 * x.toNat + y.toNat : Nat) : Int) % 65536) = ((256 * x.toNat + y.toNat : Nat) : Int) from by
      simp only [IntKind.wrap, IntKind.bits, IntKind.signed]; simp; omega, i64_in _ (by omega)]

theorem longI_eq (x y z u : UInt8) : longI x y z u = numI [x, y, z, u] := by
  have hx : x.toNat < 256 := x.toNat_lt
  have hy : y.toNat < 256 := y.toNat_lt
  have hz : z.toNat < 256 := z.toNat_lt
  have hu : u.toNat < 256 := u.toNat_lt
  have e1 : shlI .u32 (IntKind.u32.wrap x.toNat) 24 = ((2 ^ 24 * x.toNat : Nat) : Int) := by
    unfold shlI
    rw [show (2 : Int) ^ (min (24 : Int).toNat IntKind.u32.bits) = 16777216 from rfl, wu32, wu32]; omega
  have e2 : shlI .u32 (IntKind.u32.wrap y.toNat) 16 = ((65536 * y.toNat : Nat) : Int) := by
    unfold shlI
    rw [show (2 : Int) ^ (min (16 : Int).toNat IntKind.u32.bits) = 65536 from rfl, wu32, wu32]; omega
  have e3 : shlI .u32 (IntKind.u32.wrap z.toNat) 8 = ((256 * z.toNat : Nat) : Int) := by
    unfold shlI
    rw [show (2 : Int) ^ (min (8 : Int).toNat IntKind.u32.bits) = 256 from rfl, wu32, wu32]; omega
  have e4 : IntKind.u32.wrap (u.toNat : Int) = (u.toNat : Int) := by rw [wu32]; omega
  have o1 : bOr .u32 ((2 ^ 24 * x.toNat : Nat) : Int) ((65536 * y.toNat : Nat) : Int) = ((2 ^ 16 * (256 * x.toNat + y.toNat) : Nat) : Int) := by
    rw [bOr_add .u32 x.toNat (65536 * y.toNat) 24 (by omega) (by simp only [IntKind.bits]; omega), wu32]; omega
  have o2 : bOr .u32 ((2 ^ 16 * (256 * x.toNat + y.toNat) : Nat) : Int) ((256 * z.toNat : Nat) : Int) = ((2 ^ 8 * (65536 * x.toNat + 256 * y.toNat + z.toNat) : Nat) : Int) := by
    rw [bOr_add .u32 (256 * x.toNat + y.toNat) (256 * z.toNat) 16 (by omega) (by simp only [IntKind.bits]; omega), wu32]; omega
  have o3 : bOr .u32 ((2 ^ 8 * (65536 * x.toNat + 256 * y.toNat + z.toNat) : Nat) : Int) (u.toNat : Int) = ((16777216 * x.toNat + 65536 * y.toNat + 256 * z.toNat + u.toNat : Nat) : Int) := by
    rw [bOr_add .u32 (65536 * x.toNat + 256 * y.toNat + z.toNat) u.toNat 8 (by omega) (by simp only [IntKind.bits]; omega), wu32]; omega
  have ev : valB [x, y, z, u] = 16777216 * x.toNat + 65536 * y.toNat + 256 * z.toNat + u.toNat := by simp [valB]; omega
  unfold longI numI
  rw [e1, e2, e3, e4, o1, o2, o3, ev, (by simp : 256 ^ [x, y, z, u].length = 4294967296)]
  obtain ⟨v, hv⟩ : ∃ v, v = 16777216 * x.toNat + 65536 * y.toNat + 256 * z.toNat + u.toNat := ⟨_, rfl⟩
  have hvl : v < 4294967296 := by omega
  rw [← hv]
  by_cases hb : 2147483648 ≤ v
  · rw [if_pos hb, show IntKind.i32.wrap (v : Int) = (v : Int) - (4294967296 : Int) from by
      simp only [IntKind.wrap, IntKind.bits, IntKind.signed]; simp; omega, i64_in _ (by omega)]
    omega
  · rw [if_neg hb, show IntKind.i32.wrap (v : Int) = (v : Int) from by
      simp only [IntKind.wrap, IntKind.bits, IntKind.signed]; simp; omega, i64_in _ (by omega)]

theorem numsOf_succ (s n : Nat) (l : List UInt8) : numsOf s (n + 1) l = numI (l.take s) :: numsOf s n (l.drop s) := by
  unfold numsOf
  rw [List.range_succ_eq_map, List.map_cons, List.map_map]
  congr 1
  refine List.map_congr_left fun i _ => ?_
  simp only [Function.comp, List.drop_drop]
  congr 3
  rw [Nat.mul_succ]
  omega

theorem shorts_nums : ∀ (n : Nat) (l : List UInt8), l.length = 2 * n → shortsOf l = numsOf 2 n l
  | 0, [], _ => rfl
  | n + 1, x :: y :: t, h => by
    rw [numsOf_succ]
    simp only [shortsOf, List.take_succ_cons, List.take_zero, List.drop_succ_cons, List.drop_zero]
    rw [shortI_eq, shorts_nums n t (by simp at h; omega)]
  | n + 1, [x], h => by simp at h; omega
  | n + 1, [], h => by simp at h
  | 0, x :: t, h => by simp at h
theorem longs_nums : ∀ (n : Nat) (l : List UInt8), l.length = 4 * n → longsOf l = numsOf 4 n l
  | 0, [], _ => rfl
  | n + 1, x :: y :: z :: u :: t, h => by
    rw [numsOf_succ]
    simp only [longsOf, List.take_succ_cons, List.take_zero, List.drop_succ_cons, List.drop_zero]
    rw [longI_eq, longs_nums n t (by simp at h; omega)]
  | n + 1, [_, _, _], h => by simp at h; omega
  | n + 1, [_, _], h => by simp at h; omega
  | n + 1, [_], h => by simp at h; omega
  | n + 1, [], h => by simp at h
  | 0, x :: t, h => by simp at h

theorem shortsAV_eq (l : List UInt8) : shortsAV l = numsAV 2 l := by
  have : shortsL l = numsL 2 l := by
    unfold shortsL numsL
    split
    · rename_i h; rw [shorts_nums (l.length / 2) l (by omega)]
    · rfl
  unfold shortsAV numsAV
  rw [this]
theorem longsAV_eq (l : List UInt8) : longsAV l = numsAV 4 l := by
  have : longsL l = numsL 4 l := by
    unfold longsL numsL
    split
    · rename_i h; rw [longs_nums (l.length / 4) l (by omega)]
    · rfl
  unfold longsAV numsAV
  rw [this]

theorem shortB_eq (n : Int) : shortB n = refB n 2 0 := by
  have h0 := shr_u64 n 0 (by simp)
  have h8 := shr_u64 n 8 (by simp)
  have e0 : lowB (shrI .i64 n ((0 : Nat) : Int)) = lowB n := by simp [shrI, Int.fdiv_one]
  rw [e0] at h0
  simp only [Int.ofNat_zero, Int.cast_ofNat_Int] at h0 h8
  simp [refB, shortB, List.range', h0, h8]
theorem longB_eq (n : Int) : longB n = refB n 4 0 := by
  have h0 := shr_u64 n 0 (by simp)
  have h8 := shr_u64 n 8 (by simp)
  have h16 := shr_u64 n 16 (by simp)
  have h24 := shr_u64 n 24 (by simp)
  have e0 : lowB (shrI .i64 n ((0 : Nat) : Int)) = lowB n := by simp [shrI, Int.fdiv_one]
  rw [e0] at h0
  simp only [Int.ofNat_zero, Int.cast_ofNat_Int] at h0 h8 h16 h24
  simp [refB, longB, List.range', h0, h8, h16, h24]
end Go.Fw
