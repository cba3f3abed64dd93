/-
  Zig, walked; and the text of bytes.
-/
import Derived.Test.YtjliocbdidiemaaVarC
namespace Go.Proofs.Ytjliocbdidiemaa
open Go.RowKit
set_option linter.unusedVariables false

theorem conv8 (W : World) (B : Nat) (A : Option Addr) (n c : Nat) (l : List Nat) (hl : l.length = n) (h8 : ∀ x ∈ l, x < 256) (hr : Row W B A (u8s l)) :
    (convert 25 9 (.slice A n c)).run Try.prog W = .ok (.string (str l)) W :=
  run_string_row W 25 9 5 Try.underlying25 Try.underlying5 Try.underlying9 B A n c l hl h8 hr
def I64 (x : Int) : Prop := -9223372036854775808 ≤ x ∧ x ≤ 9223372036854775807
def zig (x : Int) : Nat := if x < 0 then (2 * (-(x + 1)) + 1).toNat else (2 * x).toNat
def zag (u : Nat) : Int := if u % 2 = 1 then -((u / 2 : Nat) : Int) - 1 else ((u / 2 : Nat) : Int)

theorem xor_ones (a : Nat) (h : a < 18446744073709551616) : a ^^^ 18446744073709551615 = 18446744073709551615 - a := by
  have h1 : (BitVec.ofNat 64 a ^^^ BitVec.allOnes 64).toNat = (~~~ BitVec.ofNat 64 a).toNat := by rw [BitVec.xor_allOnes]
  rw [BitVec.toNat_xor, BitVec.toNat_not, BitVec.toNat_ofNat, Nat.mod_eq_of_lt (by simpa using h), BitVec.toNat_allOnes] at h1
  simpa using h1
theorem zig_eq (x : Int) (h : I64 x) : bits .xor .u64 (IntKind.u64.wrap (IntKind.u64.wrap x * 2)) (IntKind.u64.wrap (x / 9223372036854775808)) = (zig x : Nat) := by
  unfold I64 at h
  unfold zig
  by_cases h0 : x < 0
  · rw [if_pos h0]
    have e1 : IntKind.u64.wrap (IntKind.u64.wrap x * 2) = ((2 * x + 18446744073709551616).toNat : Int) := by rw [IntKind.wrap_u64, IntKind.wrap_u64]; omega
    have e2 : IntKind.u64.wrap (x / 9223372036854775808) = ((18446744073709551615 : Nat) : Int) := by rw [IntKind.wrap_u64]; omega
    rw [e1, e2, bits_xor_u64_nat _ _ (by omega) (by omega), xor_ones _ (by omega)]
    omega
  · rw [if_neg h0]
    have e1 : IntKind.u64.wrap (IntKind.u64.wrap x * 2) = ((2 * x).toNat : Int) := by rw [IntKind.wrap_u64, IntKind.wrap_u64]; omega
    have e2 : IntKind.u64.wrap (x / 9223372036854775808) = ((0 : Nat) : Int) := by rw [IntKind.wrap_u64]; omega
    rw [e1, e2, bits_xor_u64_nat _ _ (by omega) (by omega), Nat.xor_zero]
theorem zig_s64 {x : Int} (h : I64 x) : var.S64 (zig x) := by
  unfold I64 at h
  unfold var.S64 zig
  split <;> omega
set_option maxRecDepth 100000 in
theorem zig_any (w : World) (x : Int) (h : I64 x) : Calls Try.prog 24 #[.int .i64 x] w fun e w' => e = .returned (.int .u64 (zig x : Nat)) ∧ w = w' := by
  have H := hide h
  clear h
  go_enter Try.func24, Try.ntmps24
  go_wp2_with fail
  go_ret
  exact ⟨ret_int (zig_eq x H.out), rfl⟩
#print axioms zig_any
end Go.Proofs.Ytjliocbdidiemaa
