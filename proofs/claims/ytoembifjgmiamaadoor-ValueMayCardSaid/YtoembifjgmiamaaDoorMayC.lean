/-
  Whether a value may be of a kind, walked: the document's answer; the law.
-/
import Derived.Test.YtoembifjgmiamaaDoorMayB
import Derived.Test.YtoembifjgmiamaaDoorValD
namespace Go.Proofs.YtoembifjgmiamaaDoor
open Go.RowKit
set_option linter.unusedVariables false

set_option maxRecDepth 100000 in
set_option maxHeartbeats 2000000 in
theorem refvmay_any (w : World) (k : Int) (v : va.Val) (hs : v.s.size ≤ 9223372036854775807) (hT : Tabs8 w) : Calls Tryd.prog 14 #[.int .i64 k, .agg #[.bool v.nul, .int .i64 v.n, .string v.s]] w fun e w' => e = .returned (.bool (va.mayV k v)) ∧ Below w.heap.size w w' := by
  obtain ⟨nul, n, s⟩ := v
  obtain ⟨W, hW, bx, hb⟩ := valbox w ⟨nul, n, s⟩ 23
  have HB := hide hb
  have HW := hide hW
  have HT := hide (hT.le hb)
  have c0 := bx.cell 0 (.bool nul) rfl
  have c1 := bx.cell 1 (.int .i64 n) rfl
  have c2 := bx.cell 2 (.string s) rfl
  simp only at hs ⊢
  clear hW bx hb hT
  by_cases h : 1 ≤ k ∧ k ≤ 7
  · have k1 : decide (k < 1) = false := decide_eq_false (by omega)
    have k7 : decide (7 < k) = false := decide_eq_false (by omega)
    cases nul with
    | true =>
      have hm : va.mayV k ⟨true, n, s⟩ = (decide (n = 0) && va.emp s) := by unfold va.mayV; rw [decide_eq_true h]; rfl
      rw [hm]
      clear hm
      go_enter Tryd.func14, Tryd.ntmps14
      go_wp2_with fail
      all_goals
        go_ret
        exact ⟨by simp [va.emp, *], (Below.refl _ _).alloc (Nat.le_refl _) _⟩
    | false =>
      by_cases h5 : k ≤ 5
      · have hm : va.mayV k ⟨false, n, s⟩ = (va.emp s && (decide (k ≠ 1) || decide (n = 0 ∨ n = 1))) := by unfold va.mayV; rw [decide_eq_true h]; simp only [Bool.true_and, Bool.false_eq_true, if_false]; rw [if_pos h5]
        rw [hm]
        clear hm
        have d5 : decide (k ≤ 5) = true := decide_eq_true h5
        go_enter Tryd.func14, Tryd.ntmps14
        go_wp2_with fail
        all_goals
          go_ret
          exact ⟨by simp [va.emp, *] <;> (rw [Bool.eq_iff_iff]; simp only [Bool.or_eq_true, beq_iff_eq, decide_eq_true_eq]; omega), (Below.refl _ _).alloc (Nat.le_refl _) _⟩
      · have hm : va.mayV k ⟨false, n, s⟩ = (decide (n = 0) && decide (s.size ≤ 300) && (decide (k = 7) || Lib.validD s.data.toList)) := by unfold va.mayV; rw [decide_eq_true h]; simp only [Bool.true_and, Bool.false_eq_true, if_false]; rw [if_neg h5]
        rw [hm]
        clear hm
        have d5 : decide (k ≤ 5) = false := decide_eq_false h5
        by_cases h0 : n = 0
        · subst h0
          by_cases h3 : s.size ≤ 300
          · have d3 : decide ((s.size : Int) ≤ 300) = true := decide_eq_true (by omega)
            rw [decide_eq_true h3]
            have hk : k = 6 ∨ k = 7 := by omega
            rcases hk with rfl | rfl
            · go_enter Tryd.func14, Tryd.ntmps14
              go_wp2_with fail
              rw [HW.out]
              go_wp2_with fail
              refine (utf8_ValidString s W hs HT.out.1).mono ?_
              rintro e w2 ⟨rfl, hb2⟩
              have HB2 := hide (show Le w w2 from HB.out.trans hb2)
              obtain ⟨V, hV⟩ : ∃ V, Lib.validD s.data.toList = V := ⟨_, rfl⟩
              rw [hV]
              have HV := hide hV
              clear hb2 hV
              go_wp2_with fail
              all_goals
                go_ret
                exact ⟨by simp [HV.out], HB2.out⟩
            · go_enter Tryd.func14, Tryd.ntmps14
              go_wp2_with fail
              rw [HW.out]
              go_wp2_with fail
              all_goals
                go_ret
                exact ⟨by simp, HB.out⟩
          · have d3 : decide ((s.size : Int) ≤ 300) = false := decide_eq_false (by omega)
            rw [decide_eq_false h3]
            go_enter Tryd.func14, Tryd.ntmps14
            go_wp2_with fail
            rw [HW.out]
            go_wp2_with fail
            all_goals
              go_ret
              exact ⟨by simp, HB.out⟩
        · have h0' : (n == 0) = false := by simpa using h0
          rw [decide_eq_false h0]
          go_enter Tryd.func14, Tryd.ntmps14
          go_wp2_with fail
          rw [HW.out]
          go_wp2_with fail
          all_goals
            go_ret
            exact ⟨by simp, HB.out⟩
  · have hm : va.mayV k ⟨nul, n, s⟩ = false := by unfold va.mayV; rw [decide_eq_false h]; rfl
    rw [hm]
    clear hm
    by_cases k1 : k < 1
    · go_enter Tryd.func14, Tryd.ntmps14
      go_wp2_with fail
      rw [HW.out]
      go_wp2_with fail
      go_ret
      exact ⟨rfl, HB.out⟩
    · have d1 : decide (k < 1) = false := decide_eq_false k1
      have d7 : decide (7 < k) = true := decide_eq_true (by omega)
      go_enter Tryd.func14, Tryd.ntmps14
      go_wp2_with fail
      rw [HW.out]
      go_wp2_with fail
      go_ret
      exact ⟨rfl, HB.out⟩
#print axioms refvmay_any

set_option maxRecDepth 100000 in
set_option maxHeartbeats 4000000 in
theorem may_walk (w : World) (k : Int) (v : va.Val) (wn : (Lit.int .i64 v.n).wf = true) (hs : v.s.size ≤ 9223372036854775807) (hT : Tabs8 w) (h : Has255 w) (hz : 0 < w.heap.size) : Calls Tryd.prog 5 #[.int .i64 k, .agg #[.bool v.nul, .int .i64 v.n, .string v.s]] w fun e w' => e = .returned (.bool true) ∧ Below w.heap.size w w' := by
  have H := hide h
  clear h
  obtain ⟨x, hx⟩ : ∃ x, va.mayV k v = x := ⟨_, rfl⟩
  have hmay := hide (fun (w : World) (hT : Tabs8 w) => hx ▸ vmay_any w k v wn hs hT)
  have href := hide (fun (w : World) (hT : Tabs8 w) => hx ▸ refvmay_any w k v hs hT)
  clear hx
  obtain ⟨nul, n, s⟩ := v
  simp only at hmay href ⊢
  obtain ⟨q, hq⟩ : ∃ q, decide (1 ≤ k ∧ k ≤ 5) = q := ⟨_, rfl⟩
  have HQ := hide hq
  obtain ⟨W, hW, bx, hb⟩ := valbox w ⟨nul, n, s⟩ 23
  have HLW := hide hb
  have HW := hide hW
  have HT := hide (hT.le hb)
  have BX := hide (show Box W w.heap.size #[.bool nul, .int .i64 n, .string s] 23 from bx)
  clear hW bx hb hT hq
  go_enter Tryd.func5, Tryd.ntmps5
  go_wp2_with fail
  rw [HW.out]
  refine (shown_any W (H.out.le hz HLW.out) (by have := HLW.out.size; omega)).mono ?_
  rintro e w1 ⟨rfl, hb1⟩
  obtain ⟨V, hV⟩ : ∃ V, w1.drew = V := ⟨_, rfl⟩
  have BA := hide (show Box V w.heap.size #[.bool nul, .int .i64 n, .string s] 23 by rw [← hV]; exact (BX.out.below hb1 BX.out.lt).drew)
  have HL := hide (show Le w V by rw [← hV]; exact (HLW.out.trans hb1).drew)
  have HTV := hide (show Tabs8 V by rw [← hV]; exact HT.out.le hb1.drew)
  have HV := hide hV
  have g0 := BA.out.later 0 (.bool nul) rfl
  have g1 := BA.out.later 1 (.int .i64 n) rfl
  have g2 := BA.out.later 2 (.string s) rfl
  clear hV hb1
  go_wp2_with fail
  refine region_pi [(0, true), (1, true), (2, true), (4, true), (3, false), (5, false), (6, true), (7, true), (8, true), (9, true), (10, true), (12, true), (13, true), (11, false), (14, false), (15, true), (16, true), (17, true)] (by kernel_rfl) (by kernel_rfl) ?_
  simp only [opsPi, List.filterMap_cons, List.filterMap_nil, List.getElem?_toArray, List.getElem?_cons_zero, List.getElem?_cons_succ, Option.map_some]
  rw [HV.out]
  repeat (first | (refine pi_take (v := _) rfl (fun W hW => by go_simp <;> exact rfl) ?_; simp only [Act.put, List.setIfInBounds_toArray, List.set_cons_zero, List.set_cons_succ]) | (refine pi_skip rfl ?_; simp only [Act.put, List.setIfInBounds_toArray, List.set_cons_zero, List.set_cons_succ]))
  refine pi_run ?_
  go_wp2_with fail
  refine (number_any V k).mono ?_
  rintro e w' ⟨rfl, rfl⟩
  rw [HQ.out]
  go_wp2_with fail
  refine ⟨Le.refl _, ?_⟩
  repeat (first | (refine pi_take (v := _) rfl (fun W hW => by go_simp <;> exact rfl) ?_; simp only [Act.put, List.setIfInBounds_toArray, List.set_cons_zero, List.set_cons_succ]) | (refine pi_skip rfl ?_; simp only [Act.put, List.setIfInBounds_toArray, List.set_cons_zero, List.set_cons_succ]))
  refine pi_run ?_
  go_wp2_with fail
  refine (refnumber_any V k).mono ?_
  rintro e w' ⟨rfl, rfl⟩
  rw [HQ.out]
  go_wp2_with fail
  refine ⟨Le.refl _, ?_⟩
  repeat (first | (refine pi_take (v := _) rfl (fun W hW => by go_simp <;> exact rfl) ?_; simp only [Act.put, List.setIfInBounds_toArray, List.set_cons_zero, List.set_cons_succ]) | (refine pi_skip rfl ?_; simp only [Act.put, List.setIfInBounds_toArray, List.set_cons_zero, List.set_cons_succ]))
  refine pi_run ?_
  go_wp2_with fail
  refine (hmay.out V HTV.out).mono ?_
  rintro e V1 ⟨rfl, hb⟩
  have ba := BA.out.below hb BA.out.lt
  have L := hide (HL.out.trans hb)
  have HT1 := hide (HTV.out.le hb)
  clear BA HL g0 g1 g2
  have g0 := ba.later 0 (.bool nul) rfl
  have g1 := ba.later 1 (.int .i64 n) rfl
  have g2 := ba.later 2 (.string s) rfl
  clear ba
  go_wp2_with fail
  refine ⟨hb, ?_⟩
  clear hb
  repeat (first | (refine pi_take (v := _) rfl (fun W hW => by go_simp <;> exact rfl) ?_; simp only [Act.put, List.setIfInBounds_toArray, List.set_cons_zero, List.set_cons_succ]) | (refine pi_skip rfl ?_; simp only [Act.put, List.setIfInBounds_toArray, List.set_cons_zero, List.set_cons_succ]))
  refine pi_run ?_
  go_wp2_with fail
  refine (href.out V1 HT1.out).mono ?_
  rintro e V2 ⟨rfl, hb⟩
  have HF := hide (L.out.trans hb)
  clear g0 g1 g2
  go_wp2_with fail
  refine ⟨hb, ?_⟩
  clear hb
  repeat (first | (refine pi_take (v := _) rfl (fun W hW => by go_simp <;> exact rfl) ?_; simp only [Act.put, List.setIfInBounds_toArray, List.set_cons_zero, List.set_cons_succ]) | (refine pi_skip rfl ?_; simp only [Act.put, List.setIfInBounds_toArray, List.set_cons_zero, List.set_cons_succ]))
  refine pi_done ?_
  go_wp2_with fail
  go_ret
  exact ⟨rfl, HF.out⟩
#print axioms may_walk
end Go.Proofs.YtoembifjgmiamaaDoor
