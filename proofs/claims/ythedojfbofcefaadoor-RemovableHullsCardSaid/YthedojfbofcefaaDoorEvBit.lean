/- Sets of nodes as bits of an int. -/
import Derived.Test.YthedojfbofcefaaDoorEvTy
import Derived.IntWalk
set_option linter.unusedSimpArgs false
set_option linter.unusedVariables false
namespace Go.Ev
open Go

theorem shr_i64 {a k : Nat} (ha : a < 2 ^ 63) : shiftA .shr .i64 (a : Int) (k : Int) = some (.int .i64 ((a >>> k : Nat) : Int)) := by
  unfold shiftA
  rw [if_neg (by omega)]
  simp only [Option.some.injEq, Value.int.injEq, true_and]
  rw [Int.toNat_natCast]
  show ((a : Int).fdiv (2 ^ (min k 64))) = _
  rw [Int.fdiv_eq_ediv_of_nonneg _ (by have : (0 : Int) ≤ 2 ^ (min k 64) := Int.pow_nonneg (by decide); exact this)]
  rw [Nat.shiftRight_eq_div_pow]
  have : ((2 : Int) ^ (min k 64)) = ((2 ^ (min k 64) : Nat) : Int) := by simp
  rw [this, ← Int.natCast_ediv]
  congr 1
  rcases Nat.le_total k 64 with h | h
  · rw [Nat.min_eq_left h]
  · rw [Nat.min_eq_right h, Nat.div_eq_of_lt (show a < 2 ^ 64 by omega), Nat.div_eq_of_lt (Nat.lt_of_lt_of_le (show a < 2 ^ 64 by omega) (Nat.pow_le_pow_right (by decide) h))]

theorem shl_i64 {k : Nat} (hk : k < 63) : shiftA .shl .i64 1 (k : Int) = some (.int .i64 ((2 ^ k : Nat) : Int)) := by
  unfold shiftA
  rw [if_neg (by omega)]
  simp only [Option.some.injEq, Value.int.injEq, true_and]
  rw [Int.toNat_natCast]
  show IntKind.i64.wrap (1 * 2 ^ (min k 64)) = _
  rw [Nat.min_eq_left (by omega), Int.one_mul]
  have h1 : (2 : Int) ^ k = ((2 ^ k : Nat) : Int) := by simp
  have h2 : 2 ^ k < 2 ^ 63 := Nat.pow_lt_pow_right (by decide) hk
  rw [h1]
  generalize 2 ^ k = x at *
  rw [IntWalk.i64_in _ (by omega)]

theorem and_i64 {a b : Nat} (ha : a < 2 ^ 63) (hb : b < 2 ^ 63) : IntKind.i64.wrap ((BitVec.ofInt IntKind.i64.bits (a : Int) &&& BitVec.ofInt IntKind.i64.bits (b : Int)).toNat : Int) = ((a &&& b : Nat) : Int) := by
  show IntKind.i64.wrap ((BitVec.ofInt 64 (a : Int) &&& BitVec.ofInt 64 (b : Int)).toNat : Int) = _
  rw [BitVec.ofInt_natCast, BitVec.ofInt_natCast, BitVec.toNat_and, BitVec.toNat_ofNat, BitVec.toNat_ofNat, Nat.mod_eq_of_lt (by omega), Nat.mod_eq_of_lt (by omega)]
  have : a &&& b ≤ a := Nat.and_le_left
  rw [IntWalk.i64_in _ (by omega)]

theorem or_i64 {a b : Nat} (ha : a < 2 ^ 63) (hb : b < 2 ^ 63) : IntKind.i64.wrap ((BitVec.ofInt IntKind.i64.bits (a : Int) ||| BitVec.ofInt IntKind.i64.bits (b : Int)).toNat : Int) = ((a ||| b : Nat) : Int) := by
  show IntKind.i64.wrap ((BitVec.ofInt 64 (a : Int) ||| BitVec.ofInt 64 (b : Int)).toNat : Int) = _
  rw [BitVec.ofInt_natCast, BitVec.ofInt_natCast, BitVec.toNat_or, BitVec.toNat_ofNat, BitVec.toNat_ofNat, Nat.mod_eq_of_lt (by omega), Nat.mod_eq_of_lt (by omega)]
  have : a ||| b < 2 ^ 63 := Nat.or_lt_two_pow ha hb
  rw [IntWalk.i64_in _ (by omega)]

theorem and_one {a : Nat} (ha : a < 2 ^ 63) : IntKind.i64.wrap ((BitVec.ofInt IntKind.i64.bits (a : Int) &&& BitVec.ofInt IntKind.i64.bits 1).toNat : Int) = ((a &&& 1 : Nat) : Int) := and_i64 (b := 1) ha (by decide)

theorem shr_lt {a k : Nat} (ha : a < 2 ^ 63) : a >>> k < 2 ^ 63 := by
  rw [Nat.shiftRight_eq_div_pow]
  exact Nat.lt_of_le_of_lt (Nat.div_le_self _ _) ha

theorem bit_eq (a k : Nat) : ((((a >>> k) &&& 1 : Nat) : Int) == 1) = a.testBit k := by
  unfold Nat.testBit
  rw [Nat.and_comm]
  have h : 1 &&& (a >>> k) = 0 ∨ 1 &&& (a >>> k) = 1 := by
    rw [Nat.and_comm, Nat.and_one_is_mod]; omega
  rcases h with h | h <;> rw [h] <;> rfl

theorem setBit {a k j : Nat} : (a ||| 2 ^ k).testBit j = (a.testBit j || decide (j = k)) := by
  rw [Nat.testBit_or, Nat.testBit_two_pow]
  by_cases h : j = k
  · simp [h]
  · simp [h, Ne.symm h]

theorem setBit_lt {a k n : Nat} (ha : a < 2 ^ n) (hk : k < n) : a ||| 2 ^ k < 2 ^ n := Nat.or_lt_two_pow ha (Nat.pow_lt_pow_right (by decide) hk)

theorem wrapN {x : Nat} (h : x < 9223372036854775808) : IntKind.i64.wrap (x : Int) = (x : Int) := IntWalk.i64_in _ (by omega)
theorem cut_pair {cs : List Value} {o : Nat} {p q : Value} (h : cutL cs o 2 = some [p, q]) : cutL cs o 1 = some [p] ∧ cutL cs (o + 1) 1 = some [q] := by
  unfold cutL at *
  split at h
  · rename_i hle
    simp only [Option.some.injEq] at h
    have h1 : (cs.drop o).take 1 = [p] := by
      have := congrArg (List.take 1) h
      rwa [List.take_take] at this
    have h2 : (cs.drop (o + 1)).take 1 = [q] := by
      have := congrArg (List.drop 1) h
      rw [List.drop_take, List.drop_drop] at this
      exact this
    rw [if_pos (by omega), if_pos (by omega), h1, h2]
    exact ⟨rfl, rfl⟩
  · cases h
end Go.Ev
