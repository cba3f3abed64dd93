/-
  The walks of Zig and Zag, the program's and the document's.
-/
import Derived.Test.YtjliocbdidiemaaDoorVarD
namespace Go.Proofs.YtjliocbdidiemaaDoor
open Go.RowKit
set_option linter.unusedVariables false

def I64 (x : Int) : Prop := -9223372036854775808 ≤ x ∧ x ≤ 9223372036854775807
def zig (x : Int) : Nat := if x < 0 then (2 * (-(x + 1)) + 1).toNat else (2 * x).toNat
def zag (u : Nat) : Int := if u % 2 = 1 then -((u / 2 : Nat) : Int) - 1 else ((u / 2 : Nat) : Int)

theorem xor_ones (a : Nat) (h : a < 18446744073709551616) : a ^^^ 18446744073709551615 = 18446744073709551615 - a := by
  have h1 : (BitVec.ofNat 64 a ^^^ BitVec.allOnes 64).toNat = (~~~ BitVec.ofNat 64 a).toNat := by rw [BitVec.xor_allOnes]
  rw [BitVec.toNat_xor, BitVec.toNat_not, BitVec.toNat_ofNat, Nat.mod_eq_of_lt (by simpa using h), BitVec.toNat_allOnes] at h1
  simpa using h1
theorem zig_eq (x : Int) (h : I64 x) : bits .xor .u64 (IntKind.u64.wrap (IntKind.u64.wrap x * 2)) (IntKind.u64.wrap (x / 9223372036854775808)) = (zig x : Nat) := by
  unfold I64 at h
  unfold zig
  by_cases h0 : x < 0
  · rw [if_pos h0]
    have e1 : IntKind.u64.wrap (IntKind.u64.wrap x * 2) = ((2 * x + 18446744073709551616).toNat : Int) := by rw [IntKind.wrap_u64, IntKind.wrap_u64]; omega
    have e2 : IntKind.u64.wrap (x / 9223372036854775808) = ((18446744073709551615 : Nat) : Int) := by rw [IntKind.wrap_u64]; omega
    rw [e1, e2, bits_xor_u64_nat _ _ (by omega) (by omega), xor_ones _ (by omega)]
    omega
  · rw [if_neg h0]
    have e1 : IntKind.u64.wrap (IntKind.u64.wrap x * 2) = ((2 * x).toNat : Int) := by rw [IntKind.wrap_u64, IntKind.wrap_u64]; omega
    have e2 : IntKind.u64.wrap (x / 9223372036854775808) = ((0 : Nat) : Int) := by rw [IntKind.wrap_u64]; omega
    rw [e1, e2, bits_xor_u64_nat _ _ (by omega) (by omega), Nat.xor_zero]
theorem and1 (u : Nat) (h : u < 18446744073709551616) : bits .and .u64 (u : Int) 1 = ((u % 2 : Nat) : Int) := by
  have := bits_and_u64_nat u 1 h (by omega)
  rw [Nat.and_one_is_mod] at this
  exact this
theorem xor_i64 (a : Nat) (h : a < 9223372036854775808) : bits .xor .i64 (a : Int) (-1) = -(a : Int) - 1 ∧ bits .xor .i64 (a : Int) 0 = (a : Int) := by
  have ea : (BitVec.ofInt 64 (a : Int)).toNat = a := by rw [BitVec.ofInt_natCast, BitVec.toNat_ofNat]; exact Nat.mod_eq_of_lt (by omega)
  constructor
  · show IntKind.i64.wrap ((BitVec.ofInt 64 (a : Int) ^^^ BitVec.ofInt 64 (-1)).toNat : Int) = _
    have e1 : (BitVec.ofInt 64 (-1)).toNat = 18446744073709551615 := by decide
    rw [BitVec.toNat_xor, ea, e1, xor_ones _ (by omega), IntKind.wrap_i64]
    omega
  · show IntKind.i64.wrap ((BitVec.ofInt 64 (a : Int) ^^^ BitVec.ofInt 64 0).toNat : Int) = _
    have e1 : (BitVec.ofInt 64 0).toNat = 0 := by decide
    rw [BitVec.toNat_xor, ea, e1, Nat.xor_zero, IntKind.wrap_i64]
    omega
theorem zag_eq (u : Nat) (h : var.S64 u) : bits .xor .i64 (wrap64 ((u : Int) / 2)) (wrap64 (-wrap64 (bits .and .u64 (u : Int) 1))) = zag u := by
  unfold var.S64 at h
  rw [and1 u h]
  have e1 : wrap64 ((u : Int) / 2) = ((u / 2 : Nat) : Int) := by unfold wrap64; omega
  have hx := xor_i64 (u / 2) (by omega)
  unfold zag
  by_cases h0 : u % 2 = 1
  · rw [if_pos h0, h0, e1, show wrap64 (-wrap64 ((1 : Nat) : Int)) = -1 by unfold wrap64; omega]
    exact hx.1
  · have h1 : u % 2 = 0 := by omega
    rw [if_neg h0, h1, e1, show wrap64 (-wrap64 ((0 : Nat) : Int)) = 0 by unfold wrap64; omega]
    exact hx.2
theorem refzig_neg (x : Int) (h : I64 x) (h0 : x < 0) : IntKind.u64.wrap (IntKind.u64.wrap (2 * IntKind.u64.wrap (wrap64 (-wrap64 (x + 1)))) + 1) = (zig x : Nat) := by
  unfold I64 at h
  unfold zig
  rw [if_pos h0, IntKind.wrap_u64, IntKind.wrap_u64, IntKind.wrap_u64]
  unfold wrap64
  omega
theorem refzig_pos (x : Int) (h : I64 x) (h0 : ¬ x < 0) : IntKind.u64.wrap (2 * IntKind.u64.wrap x) = (zig x : Nat) := by
  unfold I64 at h
  unfold zig
  rw [if_neg h0, IntKind.wrap_u64, IntKind.wrap_u64]
  omega
theorem refzag_odd (u : Nat) (h : var.S64 u) (h0 : u % 2 = 1) : wrap64 (wrap64 (-wrap64 (IntKind.u64.wrap ((u : Int) / 2))) - 1) = zag u := by
  unfold var.S64 at h
  unfold zag
  rw [if_pos h0, IntKind.wrap_u64]
  unfold wrap64
  omega
theorem refzag_even (u : Nat) (h : var.S64 u) (h0 : ¬ u % 2 = 1) : wrap64 (IntKind.u64.wrap ((u : Int) / 2)) = zag u := by
  unfold var.S64 at h
  unfold zag
  rw [if_neg h0, IntKind.wrap_u64]
  unfold wrap64
  omega
theorem zig_s64 {x : Int} (h : I64 x) : var.S64 (zig x) := by
  unfold I64 at h
  unfold var.S64 zig
  split <;> omega
theorem zag_i64 {u : Nat} (h : var.S64 u) : I64 (zag u) := by
  unfold var.S64 at h
  unfold I64 zag
  split <;> omega
theorem zag_zig (x : Int) (h : I64 x) : zag (zig x) = x := by
  unfold I64 at h
  unfold zag zig
  split <;> split <;> omega
theorem zig_zag (u : Nat) (h : var.S64 u) : zig (zag u) = u := by
  unfold var.S64 at h
  unfold zag zig
  split <;> split <;> omega

set_option maxRecDepth 100000 in
theorem zig_any (w : World) (x : Int) (h : I64 x) : Calls Tryd.prog 46 #[.int .i64 x] w fun e w' => e = .returned (.int .u64 (zig x : Nat)) ∧ w = w' := by
  have H := hide h
  clear h
  go_enter Tryd.func46, Tryd.ntmps46
  go_wp2_with fail
  go_ret
  exact ⟨ret_int (zig_eq x H.out), rfl⟩
set_option maxRecDepth 100000 in
theorem zag_any (w : World) (u : Nat) (h : var.S64 u) : Calls Tryd.prog 22 #[.int .u64 (u : Int)] w fun e w' => e = .returned (.int .i64 (zag u)) ∧ w = w' := by
  have H := hide h
  clear h
  go_enter Tryd.func22, Tryd.ntmps22
  go_wp2_with fail
  go_ret
  exact ⟨ret_int (zag_eq u H.out), rfl⟩
set_option maxRecDepth 100000 in
theorem refzig_any (w : World) (x : Int) (h : I64 x) : Calls Tryd.prog 39 #[.int .i64 x] w fun e w' => e = .returned (.int .u64 (zig x : Nat)) ∧ w = w' := by
  have H := hide h
  clear h
  by_cases h0 : x < 0
  all_goals
    have H0 := hide h0
    go_enter Tryd.func39, Tryd.ntmps39
    go_wp2_with fail
    go_ret
    first
      | exact ⟨ret_int (refzig_neg x H.out (by have := H0.out; omega)), rfl⟩
      | exact ⟨ret_int (refzig_pos x H.out (by have := H0.out; omega)), rfl⟩
set_option maxRecDepth 100000 in
theorem refzag_any (w : World) (u : Nat) (h : var.S64 u) : Calls Tryd.prog 24 #[.int .u64 (u : Int)] w fun e w' => e = .returned (.int .i64 (zag u)) ∧ w = w' := by
  have H := hide h
  clear h
  by_cases h0 : u % 2 = 1
  · have h1 : ((u : Int) % 2 == 1) = true := by simp; omega
    have H0 := hide h0
    clear h0
    go_enter Tryd.func24, Tryd.ntmps24
    go_wp2_with fail
    go_ret
    exact ⟨ret_int (refzag_odd u H.out H0.out), rfl⟩
  · have h1 : ((u : Int) % 2 == 1) = false := by simp; omega
    have H0 := hide h0
    clear h0
    go_enter Tryd.func24, Tryd.ntmps24
    go_wp2_with fail
    go_ret
    exact ⟨ret_int (refzag_even u H.out H0.out), rfl⟩
end Go.Proofs.YtjliocbdidiemaaDoor
