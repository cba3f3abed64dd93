/-
  Whether a value may be of a kind, walked: the document's answer.
-/
import Derived.Test.YtjedpjfmlaganaaDoorMayB
namespace Go.Proofs.YtjedpjfmlaganaaDoor
set_option maxRecDepth 100000
open Go.RowKit
set_option linter.unusedVariables false

set_option maxRecDepth 100000 in
set_option maxHeartbeats 2000000 in
theorem refvmay_any (w : World) (k : Int) (v : va.Val) (hs : v.s.size ≤ 9223372036854775807) (hT : Tabs8 w) : Calls Tryd.prog 13 #[.int .i64 k, .agg #[.bool v.nul, .int .i64 v.n, .string v.s]] w fun e w' => e = .returned (.bool (va.mayV k v)) ∧ Below w.heap.size w w' := by
  obtain ⟨nul, n, s⟩ := v
  obtain ⟨W, hW, bx, hb⟩ := valbox w ⟨nul, n, s⟩ 43
  have HB := hide hb
  have HW := hide hW
  have HT := hide (hT.le hb)
  have c0 := bx.cell 0 (.bool nul) rfl
  have c1 := bx.cell 1 (.int .i64 n) rfl
  have c2 := bx.cell 2 (.string s) rfl
  simp only at hs ⊢
  clear hW bx hb hT
  by_cases h : 1 ≤ k ∧ k ≤ 7
  · have k1 : decide (k < 1) = false := decide_eq_false (by omega)
    have k7 : decide (7 < k) = false := decide_eq_false (by omega)
    cases nul with
    | true =>
      have hm : va.mayV k ⟨true, n, s⟩ = (decide (n = 0) && va.emp s) := by unfold va.mayV; rw [decide_eq_true h]; rfl
      rw [hm]
      clear hm
      go_enter Tryd.func13, Tryd.ntmps13
      go_wp2_with fail
      all_goals
        go_ret
        exact ⟨by simp [va.emp, *], (Below.refl _ _).alloc (Nat.le_refl _) _⟩
    | false =>
      by_cases h5 : k ≤ 5
      · have hm : va.mayV k ⟨false, n, s⟩ = (va.emp s && (decide (k ≠ 1) || decide (n = 0 ∨ n = 1))) := by unfold va.mayV; rw [decide_eq_true h]; simp only [Bool.true_and, Bool.false_eq_true, if_false]; rw [if_pos h5]
        rw [hm]
        clear hm
        have d5 : decide (k ≤ 5) = true := decide_eq_true h5
        go_enter Tryd.func13, Tryd.ntmps13
        go_wp2_with fail
        all_goals
          go_ret
          exact ⟨by simp [va.emp, *] <;> (rw [Bool.eq_iff_iff]; simp only [Bool.or_eq_true, beq_iff_eq, decide_eq_true_eq]; omega), (Below.refl _ _).alloc (Nat.le_refl _) _⟩
      · have hm : va.mayV k ⟨false, n, s⟩ = (decide (n = 0) && decide (s.size ≤ 300) && (decide (k = 7) || Lib.validD s.data.toList)) := by unfold va.mayV; rw [decide_eq_true h]; simp only [Bool.true_and, Bool.false_eq_true, if_false]; rw [if_neg h5]
        rw [hm]
        clear hm
        have d5 : decide (k ≤ 5) = false := decide_eq_false h5
        by_cases h0 : n = 0
        · subst h0
          by_cases h3 : s.size ≤ 300
          · have d3 : decide ((s.size : Int) ≤ 300) = true := decide_eq_true (by omega)
            rw [decide_eq_true h3]
            have hk : k = 6 ∨ k = 7 := by omega
            rcases hk with rfl | rfl
            · go_enter Tryd.func13, Tryd.ntmps13
              go_wp2_with fail
              rw [HW.out]
              go_wp2_with fail
              refine (utf8_ValidString s W hs HT.out.1).mono ?_
              rintro e w2 ⟨rfl, hb2⟩
              have HB2 := hide (show Le w w2 from HB.out.trans hb2)
              obtain ⟨V, hV⟩ : ∃ V, Lib.validD s.data.toList = V := ⟨_, rfl⟩
              rw [hV]
              have HV := hide hV
              clear hb2 hV
              go_wp2_with fail
              all_goals
                go_ret
                exact ⟨by simp [HV.out], HB2.out⟩
            · go_enter Tryd.func13, Tryd.ntmps13
              go_wp2_with fail
              rw [HW.out]
              go_wp2_with fail
              all_goals
                go_ret
                exact ⟨by simp, HB.out⟩
          · have d3 : decide ((s.size : Int) ≤ 300) = false := decide_eq_false (by omega)
            rw [decide_eq_false h3]
            go_enter Tryd.func13, Tryd.ntmps13
            go_wp2_with fail
            rw [HW.out]
            go_wp2_with fail
            all_goals
              go_ret
              exact ⟨by simp, HB.out⟩
        · have h0' : (n == 0) = false := by simpa using h0
          rw [decide_eq_false h0]
          go_enter Tryd.func13, Tryd.ntmps13
          go_wp2_with fail
          rw [HW.out]
          go_wp2_with fail
          all_goals
            go_ret
            exact ⟨by simp, HB.out⟩
  · have hm : va.mayV k ⟨nul, n, s⟩ = false := by unfold va.mayV; rw [decide_eq_false h]; rfl
    rw [hm]
    clear hm
    by_cases k1 : k < 1
    · go_enter Tryd.func13, Tryd.ntmps13
      go_wp2_with fail
      rw [HW.out]
      go_wp2_with fail
      go_ret
      exact ⟨rfl, HB.out⟩
    · have d1 : decide (k < 1) = false := decide_eq_false k1
      have d7 : decide (7 < k) = true := decide_eq_true (by omega)
      go_enter Tryd.func13, Tryd.ntmps13
      go_wp2_with fail
      rw [HW.out]
      go_wp2_with fail
      go_ret
      exact ⟨rfl, HB.out⟩
#print axioms refvmay_any
end Go.Proofs.YtjedpjfmlaganaaDoor
