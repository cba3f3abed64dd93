/-
  Whether a value may be of a kind, walked: kinds of numbers, and where no text is looked into.
-/
import Derived.Test.YtjliocbdidiemaaDoorMayMath
import Derived.Test.YtjliocbdidiemaaDoorValB
import Derived.Laws.RangeAny
namespace Go.Proofs.YtjliocbdidiemaaDoor
open Go.RowKit
set_option linter.unusedVariables false

theorem number_any (w : World) (k : Int) : Calls Tryd.prog 45 #[.int .i64 k] w fun e w' => e = .returned (.bool (decide (1 ≤ k ∧ k ≤ 5))) ∧ w = w' := by
  by_cases h : 1 ≤ k ∧ k ≤ 5
  · rw [decide_eq_true h]
    have hk : k = 1 ∨ k = 2 ∨ k = 3 ∨ k = 4 ∨ k = 5 := by omega
    rcases hk with rfl | rfl | rfl | rfl | rfl
    all_goals
      go_enter Tryd.func45, Tryd.ntmps45
      go_wp2_with fail
      go_ret
      exact ⟨rfl, rfl⟩
  · rw [decide_eq_false h]
    have h1 : (k == 1) = false := by simp; omega
    have h2 : (k == 2) = false := by simp; omega
    have h3 : (k == 3) = false := by simp; omega
    have h4 : (k == 4) = false := by simp; omega
    have h5 : (k == 5) = false := by simp; omega
    clear h
    go_enter Tryd.func45, Tryd.ntmps45
    go_wp2_with fail
    go_ret
    exact ⟨rfl, rfl⟩
theorem valbox (w : World) (v : va.Val) (t : TypeId) : ∃ W, w.alloc (.cells #[.bool v.nul, .int .i64 v.n, .string v.s] t) = W ∧ Box W w.heap.size #[.bool v.nul, .int .i64 v.n, .string v.s] t ∧ Le w W :=
  ⟨_, rfl, box_new _ _ _, (Below.refl _ _).alloc (Nat.le_refl _) _⟩
set_option maxRecDepth 100000 in
theorem may_out (w : World) (k : Int) (v : va.Val) (h : ¬ (1 ≤ k ∧ k ≤ 7)) : Calls Tryd.prog 43 #[.int .i64 k, .agg #[.bool v.nul, .int .i64 v.n, .string v.s]] w fun e w' => e = .returned (.bool (va.mayV k v)) ∧ Below w.heap.size w w' := by
  have hm : va.mayV k v = false := by unfold va.mayV; rw [decide_eq_false h]; rfl
  rw [hm]
  have h5 : decide (1 ≤ k ∧ k ≤ 5) = false := decide_eq_false (by omega)
  have h6 : (k != 6) = true := by simp; omega
  have h7 : (k != 7) = true := by simp; omega
  obtain ⟨W, hW, bx, hb⟩ := valbox w v 32
  have HB := hide hb
  have HW := hide hW
  clear hW bx hb hm h
  go_enter Tryd.func43, Tryd.ntmps43
  go_wp2_with fail
  rw [HW.out]
  refine (number_any W k).mono ?_
  rintro e w' ⟨rfl, rfl⟩
  rw [h5]
  go_wp2_with fail
  go_ret
  exact ⟨rfl, HB.out⟩
theorem num1 : decide ((1 : Int) ≤ 1 ∧ (1 : Int) ≤ 5) = true := rfl
theorem num2 : decide ((1 : Int) ≤ 2 ∧ (2 : Int) ≤ 5) = true := rfl
theorem num3 : decide ((1 : Int) ≤ 3 ∧ (3 : Int) ≤ 5) = true := rfl
theorem num4 : decide ((1 : Int) ≤ 4 ∧ (4 : Int) ≤ 5) = true := rfl
theorem num5 : decide ((1 : Int) ≤ 5 ∧ (5 : Int) ≤ 5) = true := rfl
theorem num6 : decide ((1 : Int) ≤ 6 ∧ (6 : Int) ≤ 5) = false := rfl
theorem num7 : decide ((1 : Int) ≤ 7 ∧ (7 : Int) ≤ 5) = false := rfl
set_option maxRecDepth 100000 in
set_option maxHeartbeats 1000000 in
theorem may_null (w : World) (k : Int) (n : Int) (s : ByteArray) (h : 1 ≤ k ∧ k ≤ 7) : Calls Tryd.prog 43 #[.int .i64 k, .agg #[.bool true, .int .i64 n, .string s]] w fun e w' => e = .returned (.bool (va.mayV k ⟨true, n, s⟩)) ∧ Below w.heap.size w w' := by
  have hm : va.mayV k ⟨true, n, s⟩ = (decide (n = 0) && va.emp s) := by unfold va.mayV; rw [decide_eq_true h]; rfl
  rw [hm]
  obtain ⟨W, hW, bx, hb⟩ := valbox w ⟨true, n, s⟩ 32
  have HB := hide hb
  have HW := hide hW
  have c0 := bx.cell 0 (.bool true) rfl
  have c1 := bx.cell 1 (.int .i64 n) rfl
  have c2 := bx.cell 2 (.string s) rfl
  clear hW bx hb hm
  have hk : k = 1 ∨ k = 2 ∨ k = 3 ∨ k = 4 ∨ k = 5 ∨ k = 6 ∨ k = 7 := by omega
  rcases hk with rfl | rfl | rfl | rfl | rfl | rfl | rfl
  all_goals
    go_enter Tryd.func43, Tryd.ntmps43
    go_wp2_with fail
    rw [HW.out]
    refine (number_any W _).mono ?_
    rintro e w' ⟨rfl, rfl⟩
    first | rw [num1] | rw [num2] | rw [num3] | rw [num4] | rw [num5] | rw [num6] | rw [num7]
    go_wp2_with fail
    all_goals
      go_ret
      exact ⟨by simp [va.emp, *], HB.out⟩
#print axioms may_null
set_option maxRecDepth 100000 in
set_option maxHeartbeats 1000000 in
theorem may_num (w : World) (k : Int) (n : Int) (s : ByteArray) (h : 1 ≤ k ∧ k ≤ 5) (hn1 : -9223372036854775808 ≤ n) (hn2 : n ≤ 9223372036854775807) : Calls Tryd.prog 43 #[.int .i64 k, .agg #[.bool false, .int .i64 n, .string s]] w fun e w' => e = .returned (.bool (va.mayV k ⟨false, n, s⟩)) ∧ Below w.heap.size w w' := by
  have hm : va.mayV k ⟨false, n, s⟩ = (va.emp s && (decide (k ≠ 1) || decide (n = 0 ∨ n = 1))) := by unfold va.mayV; rw [decide_eq_true (show 1 ≤ k ∧ k ≤ 7 by omega)]; simp only [Bool.true_and, Bool.false_eq_true, if_false]; rw [if_pos h.2]
  rw [hm]
  have hbc : (bits .andNot .i64 n 1 == 0) = decide (n = 0 ∨ n = 1) := by
    rw [Bool.eq_iff_iff]
    simp only [beq_iff_eq, decide_eq_true_eq]
    exact va.bitclr n hn1 hn2
  obtain ⟨W, hW, bx, hb⟩ := valbox w ⟨false, n, s⟩ 32
  have HB := hide hb
  have HW := hide hW
  have c0 := bx.cell 0 (.bool false) rfl
  have c1 := bx.cell 1 (.int .i64 n) rfl
  have c2 := bx.cell 2 (.string s) rfl
  clear hW bx hb hm hn1 hn2
  have hk : k = 1 ∨ k = 2 ∨ k = 3 ∨ k = 4 ∨ k = 5 := by omega
  rcases hk with rfl | rfl | rfl | rfl | rfl
  all_goals
    go_enter Tryd.func43, Tryd.ntmps43
    go_wp2_with fail
    rw [HW.out]
    refine (number_any W _).mono ?_
    rintro e w' ⟨rfl, rfl⟩
    first | rw [num1] | rw [num2] | rw [num3] | rw [num4] | rw [num5]
    go_wp2_with fail
    all_goals
      go_ret
      exact ⟨by simp [va.emp, *], HB.out⟩
#print axioms may_num
end Go.Proofs.YtjliocbdidiemaaDoor
