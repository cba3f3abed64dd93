/-
  The document's examples of numbers, the law on Zig and Zag, and numbers with a sign, walked.
-/
import Derived.Test.YtkhdkfpgalcehaaVarE
import Derived.Test.YtkhdkfpgalcehaaShape
namespace Go.Proofs.Ytkhdkfpgalcehaa
open Go.RowKit
set_option linter.unusedVariables false

def Yes (w : World) (e : Ending) (w' : World) : Prop := e = .returned (.bool true) ∧ Below w.heap.size w w'

theorem vput300 : var.vput 300 = [172, 2] := by rw [var.vput_big (by omega), var.vput_small (by omega)]
theorem vput0 : var.vput 0 = [0] := by rw [var.vput_small (by omega)]
theorem put_300 (w : World) : Calls Try.prog 13 #[.slice none 0 0, .int .u64 300] w (Gives w.heap.size 5 1 2 (u8s [172, 2]) w) := by
  have := put_any w none 0 0 [] 300 rfl (by omega) Row.none_ (by rw [vput300]; decide)
  rw [vput300] at this
  exact this
theorem put_0 (w : World) : Calls Try.prog 13 #[.slice none 0 0, .int .u64 0] w (Gives w.heap.size 5 1 1 (u8s [0]) w) := by
  have := put_any w none 0 0 [] 0 rfl (by omega) Row.none_ (by rw [vput0]; decide)
  rw [vput0] at this
  exact this
theorem zig_m1 (w : World) : Calls Try.prog 9 #[.int .i64 (-1)] w fun e w' => e = .returned (.int .u64 1) ∧ w = w' := zig_any w (-1) (by unfold I64; omega)
theorem zig_1 (w : World) : Calls Try.prog 9 #[.int .i64 1] w fun e w' => e = .returned (.int .u64 2) ∧ w = w' := zig_any w 1 (by unfold I64; omega)
theorem zag_3 (w : World) : Calls Try.prog 11 #[.int .u64 3] w fun e w' => e = .returned (.int .i64 (-2)) ∧ w = w' := zag_any w 3 (by unfold var.S64; omega)
theorem take_ex (w : World) (A : Option Addr) (c : Nat) (hc : 2 ≤ c) (hc2 : c ≤ maxLen) (hr : Row w w.heap.size A (u8s [128, 0])) : Calls Try.prog 14 #[.slice A 2 c] w (Takes w.heap.size (.int .u64 0) [] 2 w) :=
  take_any w A 2 c [128, 0] rfl (by omega) hc hc2 (by decide) hr

theorem ex_world (w : World) : ∃ W, w.alloc (Obj.cells #[Value.int .u8 128, .int .u8 0] 5) = W ∧ Row W W.heap.size (some ⟨w.heap.size, 0, none⟩) (u8s [128, 0]) ∧ Below w.heap.size w W :=
  ⟨_, rfl, by
    have := row_new w #[Value.int .u8 128, .int .u8 0] 5 (0, 0)
    have e : (#[Value.int .u8 128, .int .u8 0] : Array Value).toList = u8s [128, 0] := by simp [u8s]
    rw [e] at this
    exact this.more (by simp), (Below.refl _ _).alloc (Nat.le_refl _) _⟩

set_option maxRecDepth 100000 in
set_option maxHeartbeats 4000000 in
theorem shown_any (w : World) : Calls Try.prog 8 #[] w (Yes w) := by
  go_enter Try.func8, Try.ntmps8
  go_wp2_with fail
  obtain ⟨W, hW, hrow, hb0⟩ := ex_world w
  rw [hW]
  clear hW
  refine (take_ex W _ 2 (Nat.le_refl _) (by unfold maxLen; omega) hrow).mono ?_
  rintro e w1 ⟨v1, rfl, -, hb1⟩
  go_wp2_with fail
  refine (put_300 _).mono ?_
  rintro e w2 ⟨v2, rfl, hown2, hb2⟩
  obtain ⟨A2, c2, rfl, -, -⟩ := own_form hown2
  have q2 := conv8 w2 _ A2 2 c2 [172, 2] rfl (by decide) (Row.of_own hown2)
  have e2 : ((str [172, 2]).toList == [172, 2]) = true := by rw [str_toList]; decide
  go_wp2_with fail
  refine (put_0 _).mono ?_
  rintro e w3 ⟨v3, rfl, hown3, hb3⟩
  obtain ⟨A3, c3, rfl, -, -⟩ := own_form hown3
  have q3 := conv8 w3 _ A3 1 c3 [0] rfl (by decide) (Row.of_own hown3)
  have e3 : ((str [0]).toList == [0]) = true := by rw [str_toList]; decide
  go_wp2_with fail
  refine (zig_m1 _).mono ?_
  rintro e w' ⟨rfl, rfl⟩
  go_wp2_with fail
  refine (zig_1 _).mono ?_
  rintro e w' ⟨rfl, rfl⟩
  go_wp2_with fail
  refine (zag_3 _).mono ?_
  rintro e w' ⟨rfl, rfl⟩
  go_wp2_with fail
  go_ret
  exact ⟨rfl, Le.trans (Le.trans (Le.trans hb0 hb1) hb2) hb3⟩

theorem zigs_walk (w : World) (x : Int) (u : Nat) (hx : I64 x) (hu : var.S64 u) : Calls Try.prog 3 #[.int .i64 x, .int .u64 (u : Int)] w (Yes w) := by
  have HX := hide hx
  have HU := hide hu
  have HZ := hide (zag_zig x hx)
  have HZ2 := hide (zig_zag u hu)
  clear hx hu
  go_enter Try.func3, Try.ntmps3
  go_wp2_with fail
  refine (shown_any _).mono ?_
  rintro e w1 ⟨rfl, hb1⟩
  go_wp2_with fail
  refine (zig_any _ x HX.out).mono ?_
  rintro e w' ⟨rfl, rfl⟩
  go_wp2_with fail
  refine (refzig_any _ x HX.out).mono ?_
  rintro e w' ⟨rfl, rfl⟩
  go_wp2_with fail
  refine (zag_any _ u HU.out).mono ?_
  rintro e w' ⟨rfl, rfl⟩
  go_wp2_with fail
  refine (refzag_any _ u HU.out).mono ?_
  rintro e w' ⟨rfl, rfl⟩
  go_wp2_with fail
  refine (zig_any _ x HX.out).mono ?_
  rintro e w' ⟨rfl, rfl⟩
  go_wp2_with fail
  refine (zag_any _ (zig x) (zig_s64 HX.out)).mono ?_
  rintro e w' ⟨rfl, rfl⟩
  rw [HZ.out]
  go_wp2_with fail
  refine (zag_any _ u HU.out).mono ?_
  rintro e w' ⟨rfl, rfl⟩
  go_wp2_with fail
  refine (zig_any _ (zag u) (zag_i64 HU.out)).mono ?_
  rintro e w' ⟨rfl, rfl⟩
  rw [HZ2.out]
  go_wp2_with fail
  go_ret
  exact ⟨rfl, hb1⟩
theorem i64_of_wf {x : Int} (h : (Lit.int .i64 x).wf = true) : I64 x := by
  have := bounds_i64 h
  unfold I64; omega
theorem u64_of_wf {x : Int} (h : (Lit.int .u64 x).wf = true) : ∃ u : Nat, var.S64 u ∧ x = (u : Int) := by
  have := bounds_u64 h
  exact ⟨x.toNat, by unfold var.S64; omega, by omega⟩
theorem zigs_wf (w : World) (x u : Int) (hx : (Lit.int .i64 x).wf = true) (hu : (Lit.int .u64 u).wf = true) : Calls Try.prog 3 #[.int .i64 x, .int .u64 u] w (Yes w) := by
  obtain ⟨v, hv, rfl⟩ := u64_of_wf hu
  exact zigs_walk w x v (i64_of_wf hx) hv
#print axioms zigs_walk
end Go.Proofs.Ytkhdkfpgalcehaa
