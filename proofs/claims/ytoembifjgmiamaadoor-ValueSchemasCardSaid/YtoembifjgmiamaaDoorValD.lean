/-
  The law on how values are compared, walked.
-/
import Derived.Test.YtoembifjgmiamaaDoorValC
namespace Go.Proofs.YtoembifjgmiamaaDoor
open Go.RowKit
set_option linter.unusedVariables false

set_option maxHeartbeats 4000000 in
theorem compares_walk (w : World) (a b : va.Val) (h : Has255 w) (hz : 0 < w.heap.size) : Calls Tryd.prog 3 #[.agg #[.bool a.nul, .int .i64 a.n, .string a.s], .agg #[.bool b.nul, .int .i64 b.n, .string b.s]] w fun e w' => e = .returned (.bool true) ∧ Below w.heap.size w w' := by
  have H := hide h
  clear h
  obtain ⟨x, hx⟩ : ∃ x, va.cmpV a b = x := ⟨_, rfl⟩
  have hcmp := hide (fun (w : World) => hx ▸ compare_any w a b)
  have href := hide (fun (w : World) => hx ▸ refcompare_any w a b)
  have hsam := hide (fun (w : World) => hx ▸ vsame_any w a b)
  clear hx
  obtain ⟨an, ai, as_⟩ := a
  obtain ⟨bn, bi, bs⟩ := b
  simp only at hcmp href hsam ⊢
  obtain ⟨W, hW, hbox0, hbox1, hb, hz2⟩ := two_boxes w #[.bool an, .int .i64 ai, .string as_] #[.bool bn, .int .i64 bi, .string bs] 23
  have HW := hide hW
  have HLW := hide (show Le w W from hb)
  have B0 := hide hbox0
  have B1 := hide hbox1
  clear hW hb hbox0 hbox1
  go_enter Tryd.func3, Tryd.ntmps3
  go_wp2_with fail
  rw [HW.out]
  refine (shown_any W (H.out.le hz HLW.out) (by omega)).mono ?_
  rintro e w1 ⟨rfl, hb1⟩
  obtain ⟨V, hV⟩ : ∃ V, w1.drew = V := ⟨_, rfl⟩
  have BA := hide (show Box V w.heap.size #[.bool an, .int .i64 ai, .string as_] 23 by rw [← hV]; exact (B0.out.below hb1 B0.out.lt).drew)
  have BB := hide (show Box V (w.heap.size + 1) #[.bool bn, .int .i64 bi, .string bs] 23 by rw [← hV]; exact (B1.out.below hb1 B1.out.lt).drew)
  have HL := hide (show Le w V by rw [← hV]; exact (HLW.out.trans hb1).drew)
  have HV := hide hV
  have g0 := BA.out.later 0 (.bool an) rfl
  have g1 := BA.out.later 1 (.int .i64 ai) rfl
  have g2 := BA.out.later 2 (.string as_) rfl
  have k0 := BB.out.later 0 (.bool bn) rfl
  have k1 := BB.out.later 1 (.int .i64 bi) rfl
  have k2 := BB.out.later 2 (.string bs) rfl
  clear hV hb1
  by_cases hx0 : x = 0
  · subst hx0
    go_wp2_with fail
    refine region_pi [(0, true), (1, true), (2, true), (3, true), (5, true), (6, true), (4, false), (7, false), (8, true), (9, true), (10, true), (11, true), (12, true), (14, true), (15, true), (13, false), (16, false), (17, true), (18, true), (19, true), (20, true)] (by kernel_rfl) (by kernel_rfl) ?_
    simp only [opsPi, List.filterMap_cons, List.filterMap_nil, List.getElem?_toArray, List.getElem?_cons_zero, List.getElem?_cons_succ, Option.map_some]
    rw [HV.out]
    repeat (first | (refine pi_take (v := _) rfl (fun W hW => by go_simp <;> exact rfl) ?_; simp only [Act.put, List.setIfInBounds_toArray, List.set_cons_zero, List.set_cons_succ]) | (refine pi_skip rfl ?_; simp only [Act.put, List.setIfInBounds_toArray, List.set_cons_zero, List.set_cons_succ]))
    refine pi_run ?_
    go_wp2_with fail
    refine (hcmp.out V).mono ?_
    rintro e V1 ⟨rfl, hb⟩
    have ba := BA.out.below hb BA.out.lt
    have bb := BB.out.below hb BB.out.lt
    have L := hide (HL.out.trans hb)
    clear BA BB HL g0 g1 g2 k0 k1 k2
    have BA := hide ba
    have BB := hide bb
    have HL := L
    have g0 := ba.later 0 (.bool an) rfl
    have g1 := ba.later 1 (.int .i64 ai) rfl
    have g2 := ba.later 2 (.string as_) rfl
    have k0 := bb.later 0 (.bool bn) rfl
    have k1 := bb.later 1 (.int .i64 bi) rfl
    have k2 := bb.later 2 (.string bs) rfl
    clear ba bb L
    go_wp2_with fail
    refine ⟨hb, ?_⟩
    clear hb
    repeat (first | (refine pi_take (v := _) rfl (fun W hW => by go_simp <;> exact rfl) ?_; simp only [Act.put, List.setIfInBounds_toArray, List.set_cons_zero, List.set_cons_succ]) | (refine pi_skip rfl ?_; simp only [Act.put, List.setIfInBounds_toArray, List.set_cons_zero, List.set_cons_succ]))
    refine pi_run ?_
    go_wp2_with fail
    refine (href.out V1).mono ?_
    rintro e V2 ⟨rfl, hb⟩
    have ba := BA.out.below hb BA.out.lt
    have bb := BB.out.below hb BB.out.lt
    have L := hide (HL.out.trans hb)
    clear BA BB HL g0 g1 g2 k0 k1 k2
    have BA := hide ba
    have BB := hide bb
    have HL := L
    have g0 := ba.later 0 (.bool an) rfl
    have g1 := ba.later 1 (.int .i64 ai) rfl
    have g2 := ba.later 2 (.string as_) rfl
    have k0 := bb.later 0 (.bool bn) rfl
    have k1 := bb.later 1 (.int .i64 bi) rfl
    have k2 := bb.later 2 (.string bs) rfl
    clear ba bb L
    go_wp2_with fail
    refine ⟨hb, ?_⟩
    clear hb
    repeat (first | (refine pi_take (v := _) rfl (fun W hW => by go_simp <;> exact rfl) ?_; simp only [Act.put, List.setIfInBounds_toArray, List.set_cons_zero, List.set_cons_succ]) | (refine pi_skip rfl ?_; simp only [Act.put, List.setIfInBounds_toArray, List.set_cons_zero, List.set_cons_succ]))
    refine pi_run ?_
    go_wp2_with fail
    refine (hsam.out V2).mono ?_
    rintro e V3 ⟨rfl, hb⟩
    have ba := BA.out.below hb BA.out.lt
    have bb := BB.out.below hb BB.out.lt
    have L := hide (HL.out.trans hb)
    clear BA BB HL g0 g1 g2 k0 k1 k2
    have BA := hide ba
    have BB := hide bb
    have HL := L
    have g0 := ba.later 0 (.bool an) rfl
    have g1 := ba.later 1 (.int .i64 ai) rfl
    have g2 := ba.later 2 (.string as_) rfl
    have k0 := bb.later 0 (.bool bn) rfl
    have k1 := bb.later 1 (.int .i64 bi) rfl
    have k2 := bb.later 2 (.string bs) rfl
    clear ba bb L
    go_wp2_with fail
    refine ⟨hb, ?_⟩
    clear hb
    repeat (first | (refine pi_take (v := _) rfl (fun W hW => by go_simp <;> exact rfl) ?_; simp only [Act.put, List.setIfInBounds_toArray, List.set_cons_zero, List.set_cons_succ]) | (refine pi_skip rfl ?_; simp only [Act.put, List.setIfInBounds_toArray, List.set_cons_zero, List.set_cons_succ]))
    refine pi_run ?_
    go_wp2_with fail
    refine (href.out V3).mono ?_
    rintro e V4 ⟨rfl, hb⟩
    have ba := BA.out.below hb BA.out.lt
    have bb := BB.out.below hb BB.out.lt
    have L := hide (HL.out.trans hb)
    clear BA BB HL g0 g1 g2 k0 k1 k2
    have BA := hide ba
    have BB := hide bb
    have HL := L
    have g0 := ba.later 0 (.bool an) rfl
    have g1 := ba.later 1 (.int .i64 ai) rfl
    have g2 := ba.later 2 (.string as_) rfl
    have k0 := bb.later 0 (.bool bn) rfl
    have k1 := bb.later 1 (.int .i64 bi) rfl
    have k2 := bb.later 2 (.string bs) rfl
    clear ba bb L
    go_wp2_with fail
    refine ⟨hb, ?_⟩
    clear hb
    repeat (first | (refine pi_take (v := _) rfl (fun W hW => by go_simp <;> exact rfl) ?_; simp only [Act.put, List.setIfInBounds_toArray, List.set_cons_zero, List.set_cons_succ]) | (refine pi_skip rfl ?_; simp only [Act.put, List.setIfInBounds_toArray, List.set_cons_zero, List.set_cons_succ]))
    refine pi_done ?_
    go_wp2_with fail
    go_ret
    exact ⟨rfl, HL.out⟩
  · have hd := decide_eq_false hx0
    have hxb : (x == 0) = false := by simpa using hx0
    go_wp2_with fail
    refine region_pi [(0, true), (1, true), (2, true), (3, true), (5, true), (6, true), (4, false), (7, false), (8, true), (9, true), (10, true), (11, true), (12, true), (14, true), (15, true), (13, false), (16, false), (17, true), (18, true), (19, true), (20, true)] (by kernel_rfl) (by kernel_rfl) ?_
    simp only [opsPi, List.filterMap_cons, List.filterMap_nil, List.getElem?_toArray, List.getElem?_cons_zero, List.getElem?_cons_succ, Option.map_some]
    rw [HV.out]
    repeat (first | (refine pi_take (v := _) rfl (fun W hW => by go_simp <;> exact rfl) ?_; simp only [Act.put, List.setIfInBounds_toArray, List.set_cons_zero, List.set_cons_succ]) | (refine pi_skip rfl ?_; simp only [Act.put, List.setIfInBounds_toArray, List.set_cons_zero, List.set_cons_succ]))
    refine pi_run ?_
    go_wp2_with fail
    refine (hcmp.out V).mono ?_
    rintro e V1 ⟨rfl, hb⟩
    have ba := BA.out.below hb BA.out.lt
    have bb := BB.out.below hb BB.out.lt
    have L := hide (HL.out.trans hb)
    clear BA BB HL g0 g1 g2 k0 k1 k2
    have BA := hide ba
    have BB := hide bb
    have HL := L
    have g0 := ba.later 0 (.bool an) rfl
    have g1 := ba.later 1 (.int .i64 ai) rfl
    have g2 := ba.later 2 (.string as_) rfl
    have k0 := bb.later 0 (.bool bn) rfl
    have k1 := bb.later 1 (.int .i64 bi) rfl
    have k2 := bb.later 2 (.string bs) rfl
    clear ba bb L
    go_wp2_with fail
    refine ⟨hb, ?_⟩
    clear hb
    repeat (first | (refine pi_take (v := _) rfl (fun W hW => by go_simp <;> exact rfl) ?_; simp only [Act.put, List.setIfInBounds_toArray, List.set_cons_zero, List.set_cons_succ]) | (refine pi_skip rfl ?_; simp only [Act.put, List.setIfInBounds_toArray, List.set_cons_zero, List.set_cons_succ]))
    refine pi_run ?_
    go_wp2_with fail
    refine (href.out V1).mono ?_
    rintro e V2 ⟨rfl, hb⟩
    have ba := BA.out.below hb BA.out.lt
    have bb := BB.out.below hb BB.out.lt
    have L := hide (HL.out.trans hb)
    clear BA BB HL g0 g1 g2 k0 k1 k2
    have BA := hide ba
    have BB := hide bb
    have HL := L
    have g0 := ba.later 0 (.bool an) rfl
    have g1 := ba.later 1 (.int .i64 ai) rfl
    have g2 := ba.later 2 (.string as_) rfl
    have k0 := bb.later 0 (.bool bn) rfl
    have k1 := bb.later 1 (.int .i64 bi) rfl
    have k2 := bb.later 2 (.string bs) rfl
    clear ba bb L
    go_wp2_with fail
    refine ⟨hb, ?_⟩
    clear hb
    repeat (first | (refine pi_take (v := _) rfl (fun W hW => by go_simp <;> exact rfl) ?_; simp only [Act.put, List.setIfInBounds_toArray, List.set_cons_zero, List.set_cons_succ]) | (refine pi_skip rfl ?_; simp only [Act.put, List.setIfInBounds_toArray, List.set_cons_zero, List.set_cons_succ]))
    refine pi_run ?_
    go_wp2_with fail
    refine (hsam.out V2).mono ?_
    rintro e V3 ⟨rfl, hb⟩
    have ba := BA.out.below hb BA.out.lt
    have bb := BB.out.below hb BB.out.lt
    have L := hide (HL.out.trans hb)
    clear BA BB HL g0 g1 g2 k0 k1 k2
    have BA := hide ba
    have BB := hide bb
    have HL := L
    have g0 := ba.later 0 (.bool an) rfl
    have g1 := ba.later 1 (.int .i64 ai) rfl
    have g2 := ba.later 2 (.string as_) rfl
    have k0 := bb.later 0 (.bool bn) rfl
    have k1 := bb.later 1 (.int .i64 bi) rfl
    have k2 := bb.later 2 (.string bs) rfl
    clear ba bb L
    go_wp2_with fail
    refine ⟨hb, ?_⟩
    clear hb
    repeat (first | (refine pi_take (v := _) rfl (fun W hW => by go_simp <;> exact rfl) ?_; simp only [Act.put, List.setIfInBounds_toArray, List.set_cons_zero, List.set_cons_succ]) | (refine pi_skip rfl ?_; simp only [Act.put, List.setIfInBounds_toArray, List.set_cons_zero, List.set_cons_succ]))
    refine pi_run ?_
    go_wp2_with fail
    refine (href.out V3).mono ?_
    rintro e V4 ⟨rfl, hb⟩
    have ba := BA.out.below hb BA.out.lt
    have bb := BB.out.below hb BB.out.lt
    have L := hide (HL.out.trans hb)
    clear BA BB HL g0 g1 g2 k0 k1 k2
    have BA := hide ba
    have BB := hide bb
    have HL := L
    have g0 := ba.later 0 (.bool an) rfl
    have g1 := ba.later 1 (.int .i64 ai) rfl
    have g2 := ba.later 2 (.string as_) rfl
    have k0 := bb.later 0 (.bool bn) rfl
    have k1 := bb.later 1 (.int .i64 bi) rfl
    have k2 := bb.later 2 (.string bs) rfl
    clear ba bb L
    go_wp2_with fail
    refine ⟨hb, ?_⟩
    clear hb
    repeat (first | (refine pi_take (v := _) rfl (fun W hW => by go_simp <;> exact rfl) ?_; simp only [Act.put, List.setIfInBounds_toArray, List.set_cons_zero, List.set_cons_succ]) | (refine pi_skip rfl ?_; simp only [Act.put, List.setIfInBounds_toArray, List.set_cons_zero, List.set_cons_succ]))
    refine pi_done ?_
    go_wp2_with fail
    go_ret
    exact ⟨rfl, HL.out⟩
#print axioms compares_walk
end Go.Proofs.YtoembifjgmiamaaDoor
