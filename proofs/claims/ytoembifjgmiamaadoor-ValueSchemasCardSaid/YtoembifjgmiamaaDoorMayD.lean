/-
  The law on what may be of a kind, walked.
-/
import Derived.Test.YtoembifjgmiamaaDoorMayC
import Derived.Test.YtoembifjgmiamaaDoorValD
namespace Go.Proofs.YtoembifjgmiamaaDoor
open Go.RowKit
set_option linter.unusedVariables false

set_option maxRecDepth 100000 in
set_option maxHeartbeats 4000000 in
theorem may_walk (w : World) (k : Int) (v : va.Val) (wn : (Lit.int .i64 v.n).wf = true) (hs : v.s.size ≤ 9223372036854775807) (hT : Tabs8 w) (h : Has255 w) (hz : 0 < w.heap.size) : Calls Tryd.prog 5 #[.int .i64 k, .agg #[.bool v.nul, .int .i64 v.n, .string v.s]] w fun e w' => e = .returned (.bool true) ∧ Below w.heap.size w w' := by
  have H := hide h
  clear h
  obtain ⟨x, hx⟩ : ∃ x, va.mayV k v = x := ⟨_, rfl⟩
  have hmay := hide (fun (w : World) (hT : Tabs8 w) => hx ▸ vmay_any w k v wn hs hT)
  have href := hide (fun (w : World) (hT : Tabs8 w) => hx ▸ refvmay_any w k v hs hT)
  clear hx
  obtain ⟨nul, n, s⟩ := v
  simp only at hmay href ⊢
  obtain ⟨q, hq⟩ : ∃ q, decide (1 ≤ k ∧ k ≤ 5) = q := ⟨_, rfl⟩
  have HQ := hide hq
  obtain ⟨W, hW, bx, hb⟩ := valbox w ⟨nul, n, s⟩ 23
  have HLW := hide hb
  have HW := hide hW
  have HT := hide (hT.le hb)
  have BX := hide (show Box W w.heap.size #[.bool nul, .int .i64 n, .string s] 23 from bx)
  clear hW bx hb hT hq
  go_enter Tryd.func5, Tryd.ntmps5
  go_wp2_with fail
  rw [HW.out]
  refine (shown_any W (H.out.le hz HLW.out) (by have := HLW.out.size; omega)).mono ?_
  rintro e w1 ⟨rfl, hb1⟩
  obtain ⟨V, hV⟩ : ∃ V, w1.drew = V := ⟨_, rfl⟩
  have BA := hide (show Box V w.heap.size #[.bool nul, .int .i64 n, .string s] 23 by rw [← hV]; exact (BX.out.below hb1 BX.out.lt).drew)
  have HL := hide (show Le w V by rw [← hV]; exact (HLW.out.trans hb1).drew)
  have HTV := hide (show Tabs8 V by rw [← hV]; exact HT.out.le hb1.drew)
  have HV := hide hV
  have g0 := BA.out.later 0 (.bool nul) rfl
  have g1 := BA.out.later 1 (.int .i64 n) rfl
  have g2 := BA.out.later 2 (.string s) rfl
  clear hV hb1
  go_wp2_with fail
  refine region_pi [(0, true), (1, true), (2, true), (4, true), (3, false), (5, false), (6, true), (7, true), (8, true), (9, true), (10, true), (12, true), (13, true), (11, false), (14, false), (15, true), (16, true), (17, true)] (by kernel_rfl) (by kernel_rfl) ?_
  simp only [opsPi, List.filterMap_cons, List.filterMap_nil, List.getElem?_toArray, List.getElem?_cons_zero, List.getElem?_cons_succ, Option.map_some]
  rw [HV.out]
  repeat (first | (refine pi_take (v := _) rfl (fun W hW => by go_simp <;> exact rfl) ?_; simp only [Act.put, List.setIfInBounds_toArray, List.set_cons_zero, List.set_cons_succ]) | (refine pi_skip rfl ?_; simp only [Act.put, List.setIfInBounds_toArray, List.set_cons_zero, List.set_cons_succ]))
  refine pi_run ?_
  go_wp2_with fail
  refine (number_any V k).mono ?_
  rintro e w' ⟨rfl, rfl⟩
  rw [HQ.out]
  go_wp2_with fail
  refine ⟨Le.refl _, ?_⟩
  repeat (first | (refine pi_take (v := _) rfl (fun W hW => by go_simp <;> exact rfl) ?_; simp only [Act.put, List.setIfInBounds_toArray, List.set_cons_zero, List.set_cons_succ]) | (refine pi_skip rfl ?_; simp only [Act.put, List.setIfInBounds_toArray, List.set_cons_zero, List.set_cons_succ]))
  refine pi_run ?_
  go_wp2_with fail
  refine (refnumber_any V k).mono ?_
  rintro e w' ⟨rfl, rfl⟩
  rw [HQ.out]
  go_wp2_with fail
  refine ⟨Le.refl _, ?_⟩
  repeat (first | (refine pi_take (v := _) rfl (fun W hW => by go_simp <;> exact rfl) ?_; simp only [Act.put, List.setIfInBounds_toArray, List.set_cons_zero, List.set_cons_succ]) | (refine pi_skip rfl ?_; simp only [Act.put, List.setIfInBounds_toArray, List.set_cons_zero, List.set_cons_succ]))
  refine pi_run ?_
  go_wp2_with fail
  refine (hmay.out V HTV.out).mono ?_
  rintro e V1 ⟨rfl, hb⟩
  have ba := BA.out.below hb BA.out.lt
  have L := hide (HL.out.trans hb)
  have HT1 := hide (HTV.out.le hb)
  clear BA HL g0 g1 g2
  have g0 := ba.later 0 (.bool nul) rfl
  have g1 := ba.later 1 (.int .i64 n) rfl
  have g2 := ba.later 2 (.string s) rfl
  clear ba
  go_wp2_with fail
  refine ⟨hb, ?_⟩
  clear hb
  repeat (first | (refine pi_take (v := _) rfl (fun W hW => by go_simp <;> exact rfl) ?_; simp only [Act.put, List.setIfInBounds_toArray, List.set_cons_zero, List.set_cons_succ]) | (refine pi_skip rfl ?_; simp only [Act.put, List.setIfInBounds_toArray, List.set_cons_zero, List.set_cons_succ]))
  refine pi_run ?_
  go_wp2_with fail
  refine (href.out V1 HT1.out).mono ?_
  rintro e V2 ⟨rfl, hb⟩
  have HF := hide (L.out.trans hb)
  clear g0 g1 g2
  go_wp2_with fail
  refine ⟨hb, ?_⟩
  clear hb
  repeat (first | (refine pi_take (v := _) rfl (fun W hW => by go_simp <;> exact rfl) ?_; simp only [Act.put, List.setIfInBounds_toArray, List.set_cons_zero, List.set_cons_succ]) | (refine pi_skip rfl ?_; simp only [Act.put, List.setIfInBounds_toArray, List.set_cons_zero, List.set_cons_succ]))
  refine pi_done ?_
  go_wp2_with fail
  go_ret
  exact ⟨rfl, HF.out⟩
#print axioms may_walk
end Go.Proofs.YtoembifjgmiamaaDoor
