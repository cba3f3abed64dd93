/-
  Whether a value may be of a kind, in plain words.
-/
import Derived.Test.YtjedpjfmlaganaaDoorValMath
import Derived.Laws.BitsAllLaws
import Derived.Lib.ValidLaws
import Derived.Lib.OthersKept
namespace Go.Proofs.YtjedpjfmlaganaaDoor.va
open Go

theorem and_even64 (x : Nat) (hx : x < 18446744073709551616) : x &&& 18446744073709551614 = x - x % 2 := by
  apply Nat.eq_of_testBit_eq
  intro i
  rw [Nat.testBit_and]
  cases i with
  | zero =>
    have h1 : Nat.testBit 18446744073709551614 0 = false := by decide
    have h2 : (x - x % 2).testBit 0 = false := by
      rw [Nat.testBit_zero]
      have : (x - x % 2) % 2 = 0 := by omega
      simp [this]
    rw [h1, h2, Bool.and_false]
  | succ i =>
    have h1 : Nat.testBit 18446744073709551614 (i + 1) = decide (i < 63) := by
      rw [Nat.testBit_succ, show 18446744073709551614 / 2 = 2 ^ 63 - 1 by decide, Nat.testBit_two_pow_sub_one]
    have h2 : (x - x % 2).testBit (i + 1) = x.testBit (i + 1) := by
      rw [Nat.testBit_succ, Nat.testBit_succ]
      congr 1
      omega
    rw [h1, h2]
    by_cases hi : i < 63
    · simp [hi]
    · have : x.testBit (i + 1) = false := Nat.testBit_lt_two_pow (Nat.lt_of_lt_of_le hx (by
        have : 2 ^ 64 ≤ 2 ^ (i + 1) := Nat.pow_le_pow_right (by omega) (by omega)
        simpa using this))
      rw [this]; simp
theorem bitclr (n : Int) (h1 : -9223372036854775808 ≤ n) (h2 : n ≤ 9223372036854775807) : bits .andNot .i64 n 1 = 0 ↔ (n = 0 ∨ n = 1) := by
  have e : bits .andNot .i64 n 1 = IntKind.i64.wrap ((BitVec.ofInt 64 n &&& ~~~BitVec.ofInt 64 1).toNat : Int) := rfl
  have hN : (BitVec.ofInt 64 n).toNat = (n % 18446744073709551616).toNat := by rw [BitVec.toNat_ofInt]; rfl
  have h1' : (BitVec.ofInt 64 1).toNat = 1 := by decide
  rw [e, BitVec.toNat_and, BitVec.toNat_not, hN, h1', show 2 ^ 64 - 1 - 1 = 18446744073709551614 by decide, and_even64 _ (by omega), IntKind.wrap_i64]
  omega

/-- No text. -/
def emp (s : ByteArray) : Bool := s.toList.isEmpty
def mayV (k : Int) (v : Val) : Bool :=
  decide (1 ≤ k ∧ k ≤ 7) && (if v.nul then decide (v.n = 0) && emp v.s
    else if k ≤ 5 then emp v.s && (decide (k ≠ 1) || decide (v.n = 0 ∨ v.n = 1))
    else decide (v.n = 0) && decide (v.s.size ≤ 300) && (decide (k = 7) || Lib.validD v.s.data.toList))
end Go.Proofs.YtjedpjfmlaganaaDoor.va
