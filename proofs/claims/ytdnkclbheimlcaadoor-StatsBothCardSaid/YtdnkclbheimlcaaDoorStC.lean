/-
  What is known of values, walked: one noted.
-/
import Derived.Test.YtdnkclbheimlcaaDoorStB
import Derived.Test.YtdnkclbheimlcaaDoorRegionG
namespace Go.Proofs.YtdnkclbheimlcaaDoor
open Go.RowKit
set_option linter.unusedVariables false

set_option maxRecDepth 100000 in
set_option maxHeartbeats 4000000 in
theorem note_any (w : World) (B g6 g7 : Nat) (hB6 : B ≤ g6) (hB7 : B ≤ g7) (h67 : g6 ≠ g7) (s : st.St) (t : Int) (v : va.Val) (ht : -18889465931478580854784 ≤ t ∧ t ≤ 18889465931478580854784) (hv : st.In v.n) (hc : 0 ≤ s.c ∧ s.c ≤ 1000000)
    (h6 : Box w g6 (st.cells s) 28) (h7 : Box w g7 #[.int .i64 (t / 18446744073709551616), .int .u64 (t % 18446744073709551616)] 39) :
    Calls Tryd.prog 17 #[.agg #[.bool v.nul, .int .i64 v.n, .string v.s], .pointer (some ⟨g6, 0, none⟩), .pointer (some ⟨g7, 0, none⟩)] w fun e w' => e = .returned (.tuple #[]) ∧
      Box w' g6 (st.cells { s with c := s.c + 1, mn := st.best (-1) s.mn v, mx := st.best 1 s.mx v }) 28 ∧ Box w' g7 #[.int .i64 ((t + v.n) / 18446744073709551616), .int .u64 ((t + v.n) % 18446744073709551616)] 39 ∧ Below B w w' := by
  have hadd := hide (fun (w : World) => add_any w t v.n ht hv)
  obtain ⟨hi, hhi⟩ : ∃ hi, t / 18446744073709551616 = hi := ⟨_, rfl⟩
  obtain ⟨lo, hlo⟩ : ∃ lo, t % 18446744073709551616 = lo := ⟨_, rfl⟩
  obtain ⟨hi2, hhi2⟩ : ∃ hi, (t + v.n) / 18446744073709551616 = hi := ⟨_, rfl⟩
  obtain ⟨lo2, hlo2⟩ : ∃ lo, (t + v.n) % 18446744073709551616 = lo := ⟨_, rfl⟩
  rw [hhi, hlo] at hadd h7
  rw [hhi2, hlo2] at hadd ⊢
  have hb1 := hide (fun (w : World) => best_any w (-1) (.inl rfl) s.mn v)
  have hb2 := hide (fun (w : World) => best_any w 1 (.inr rfl) s.mx v)
  obtain ⟨m2, hm2⟩ : ∃ m, st.best (-1) s.mn v = m := ⟨_, rfl⟩
  obtain ⟨x2, hx2⟩ : ∃ m, st.best 1 s.mx v = m := ⟨_, rfl⟩
  rw [hm2] at hb1 ⊢
  rw [hx2] at hb2 ⊢
  clear hhi hlo hhi2 hlo2 hm2 hx2 ht hv
  obtain ⟨c, hn, ⟨mn, mi, ms⟩, ⟨xn, xi, xs⟩, su, ov⟩ := s
  obtain ⟨m2n, m2i, m2s⟩ := m2
  obtain ⟨x2n, x2i, x2s⟩ := x2
  obtain ⟨vn, vi, vs⟩ := v
  simp only [st.cells] at hb1 hb2 hadd h6 hc ⊢
  obtain ⟨W, hW⟩ : ∃ W, (w.setCell ⟨g6, 0, none⟩ (.int .i64 (c + 1))).alloc (.cells #[.bool vn, .int .i64 vi, .string vs] 26) = W := ⟨_, rfl⟩
  have hz6 := h6.lt
  have hz7 := h7.lt
  have bv : Box W w.heap.size #[.bool vn, .int .i64 vi, .string vs] 26 := by
    have h := box_new (w.setCell ⟨g6, 0, none⟩ (.int .i64 (c + 1))) #[.bool vn, .int .i64 vi, .string vs] 26
    rw [hW] at h
    simpa using h
  have b6 : Box W g6 #[.int .i64 (c + 1), .bool hn, .bool mn, .int .i64 mi, .string ms, .bool xn, .int .i64 xi, .string xs, .int .i64 su, .bool ov] 28 := by rw [← hW]; exact (h6.set 0 _).alloc _
  have b7 : Box W g7 #[.int .i64 hi, .int .u64 lo] 39 := by rw [← hW]; exact (h7.other h67 _).alloc _
  have hWz : W.heap.size = w.heap.size + 1 := by rw [← hW]; simp
  have HB := hide (show Below B w W by rw [← hW]; exact ((Below.refl _ _).setCell hB6 _).alloc (by simp; omega) _)
  have HW := hide hW
  have c0 := h6.cell 0 (.int .i64 c) rfl
  have f0 := h6.frozen 0
  have hcw : IntKind.i64.wrap (c + 1) = c + 1 := by rw [IntKind.wrap_i64]; omega
  obtain ⟨V, hV⟩ : ∃ V, W.drew = V := ⟨_, rfl⟩
  have BV := hide (show Box V w.heap.size #[.bool vn, .int .i64 vi, .string vs] 26 by rw [← hV]; exact bv.drew)
  have B6 := hide (show Box V g6 #[.int .i64 (c + 1), .bool hn, .bool mn, .int .i64 mi, .string ms, .bool xn, .int .i64 xi, .string xs, .int .i64 su, .bool ov] 28 by rw [← hV]; exact b6.drew)
  have B7 := hide (show Box V g7 #[.int .i64 hi, .int .u64 lo] 39 by rw [← hV]; exact b7.drew)
  have HBV := hide (show Below B w V by rw [← hV]; exact HB.out.drew)
  have hVz : V.heap.size = w.heap.size + 1 := by rw [← hV]; exact hWz
  have HV := hide hV
  obtain ⟨TT, hTT⟩ : ∃ TT : World → Prop, TT = fun W' => Box W' g6 #[.int .i64 (c + 1), .bool hn, .bool mn, .int .i64 mi, .string ms, .bool xn, .int .i64 xi, .string xs, .int .i64 su, .bool ov] 28 ∧ Box W' w.heap.size #[.bool vn, .int .i64 vi, .string vs] 26 := ⟨_, rfl⟩
  have HTT := hide hTT
  clear hW hV hTT bv b6 b7 h6 h7 hc
  go_enter Tryd.func17, Tryd.ntmps17
  go_wp2_with fail
  rw [HW.out]
  clear c0 f0 hcw
  refine region_pig TT 9 [(0, 1), (1, 0), (2, 0), (4, 1), (5, 0), (6, 0), (3, 2), (8, 1), (7, 2), (9, 3), (10, 1), (11, 3)] (by kernel_rfl) (by kernel_rfl) ?_ ?_
  · rw [HV.out, HTT.out]
    exact ⟨B6.out, BV.out⟩
  simp only [opsPiG, List.filterMap_cons, List.filterMap_nil, List.getElem?_toArray, List.getElem?_cons_zero, List.getElem?_cons_succ, Option.map_some]
  rw [HV.out]
  refine pig_any (v := _) rfl (fun W' => by go_simp <;> exact rfl) ?_
  simp only [Act.put, List.setIfInBounds_toArray, List.set_cons_zero, List.set_cons_succ]
  refine pig_take (v := .agg #[.bool mn, .int .i64 mi, .string ms]) rfl (fun W' hW' => ?_) ?_
  · rw [HTT.out] at hW'
    have q0 := hW'.1.cell 2 (.bool mn) rfl
    have q1 := hW'.1.cell 3 (.int .i64 mi) rfl
    have q2 := hW'.1.cell 4 (.string ms) rfl
    clear hW'
    go_simp
  simp only [Act.put, List.setIfInBounds_toArray, List.set_cons_zero, List.set_cons_succ]
  refine pig_take (v := .agg #[.bool vn, .int .i64 vi, .string vs]) rfl (fun W' hW' => ?_) ?_
  · rw [HTT.out] at hW'
    have q0 := hW'.2.cell 0 (.bool vn) rfl
    have q1 := hW'.2.cell 1 (.int .i64 vi) rfl
    have q2 := hW'.2.cell 2 (.string vs) rfl
    clear hW'
    go_simp
  simp only [Act.put, List.setIfInBounds_toArray, List.set_cons_zero, List.set_cons_succ]
  refine pig_any (v := _) rfl (fun W' => by go_simp <;> exact rfl) ?_
  simp only [Act.put, List.setIfInBounds_toArray, List.set_cons_zero, List.set_cons_succ]
  refine pig_take (v := .agg #[.bool xn, .int .i64 xi, .string xs]) rfl (fun W' hW' => ?_) ?_
  · rw [HTT.out] at hW'
    have q0 := hW'.1.cell 5 (.bool xn) rfl
    have q1 := hW'.1.cell 6 (.int .i64 xi) rfl
    have q2 := hW'.1.cell 7 (.string xs) rfl
    clear hW'
    go_simp
  simp only [Act.put, List.setIfInBounds_toArray, List.set_cons_zero, List.set_cons_succ]
  refine pig_take (v := .agg #[.bool vn, .int .i64 vi, .string vs]) rfl (fun W' hW' => ?_) ?_
  · rw [HTT.out] at hW'
    have q0 := hW'.2.cell 0 (.bool vn) rfl
    have q1 := hW'.2.cell 1 (.int .i64 vi) rfl
    have q2 := hW'.2.cell 2 (.string vs) rfl
    clear hW'
    go_simp
  simp only [Act.put, List.setIfInBounds_toArray, List.set_cons_zero, List.set_cons_succ]
  refine pig_run ?_
  go_wp2_with fail
  refine (hb1.out V).mono ?_
  rintro e w1 ⟨rfl, hb⟩
  have bv := BV.out.below hb BV.out.lt
  have b6 := B6.out.below hb B6.out.lt
  have b7 := B7.out.below hb B7.out.lt
  have hb' := HBV.out.trans (Below.mono hb (by have := HBV.out.size; omega))
  have hz' := hb.size
  clear BV B6 B7 HBV hb
  have BV := hide bv
  have B6 := hide b6
  have B7 := hide b7
  have HBV := hide hb'
  clear bv b6 b7 hb'
  go_wp2_with fail
  refine ⟨by rw [HTT.out]; exact ⟨B6.out, BV.out⟩, ?_⟩
  refine pig_any (v := _) rfl (fun W' => by go_simp <;> exact rfl) ?_
  simp only [Act.put, List.setIfInBounds_toArray, List.set_cons_zero, List.set_cons_succ]
  refine pig_run ?_
  go_wp2_with fail
  refine (hb2.out w1).mono ?_
  rintro e w2 ⟨rfl, hb⟩
  have bv := BV.out.below hb BV.out.lt
  have b6 := B6.out.below hb B6.out.lt
  have b7 := B7.out.below hb B7.out.lt
  have hb' := HBV.out.trans (Below.mono hb (by have := HBV.out.size; omega))
  have hz' := hb.size
  clear BV B6 B7 HBV hb
  have BV := hide bv
  have B6 := hide b6
  have B7 := hide b7
  have HBV := hide hb'
  clear bv b6 b7 hb'
  go_wp2_with fail
  refine ⟨by rw [HTT.out]; exact ⟨B6.out, BV.out⟩, ?_⟩
  have d2 := B6.out.cell 2 (.bool mn) rfl
  have d3 := B6.out.cell 3 (.int .i64 mi) rfl
  have d4 := B6.out.cell 4 (.string ms) rfl
  have d5 := B6.out.cell 5 (.bool xn) rfl
  have d6 := B6.out.cell 6 (.int .i64 xi) rfl
  have d7 := B6.out.cell 7 (.string xs) rfl
  have f2 := B6.out.frozen 2
  have f3 := B6.out.frozen 3
  have f4 := B6.out.frozen 4
  have f5 := B6.out.frozen 5
  have f6 := B6.out.frozen 6
  have f7 := B6.out.frozen 7
  refine pig_late ?_
  go_wp2_with fail
  refine pig_any (v := _) rfl (fun W' => by go_simp <;> exact rfl) ?_
  simp only [Act.put, List.setIfInBounds_toArray, List.set_cons_zero, List.set_cons_succ]
  refine pig_late ?_
  go_wp2_with fail
  refine pig_done ?_
  obtain ⟨X, hX⟩ : ∃ X, ((((((w2.setCell ⟨g6, 2, none⟩ (.bool m2n)).setCell ⟨g6, 3, none⟩ (.int .i64 m2i)).setCell ⟨g6, 4, none⟩ (.string m2s)).setCell ⟨g6, 5, none⟩ (.bool x2n)).setCell ⟨g6, 6, none⟩ (.int .i64 x2i)).setCell ⟨g6, 7, none⟩ (.string x2s)) = X := ⟨_, rfl⟩
  rw [hX]
  have hne : g6 ≠ w.heap.size := by omega
  have b6 : Box X g6 #[.int .i64 (c + 1), .bool hn, .bool m2n, .int .i64 m2i, .string m2s, .bool x2n, .int .i64 x2i, .string x2s, .int .i64 su, .bool ov] 28 := by rw [← hX]; exact (((((B6.out.set 2 _).set 3 _).set 4 _).set 5 _).set 6 _).set 7 _
  have b7 : Box X g7 #[.int .i64 hi, .int .u64 lo] 39 := by rw [← hX]; exact (((((B7.out.other h67 _).other h67 _).other h67 _).other h67 _).other h67 _).other h67 _
  have bv : Box X w.heap.size #[.bool vn, .int .i64 vi, .string vs] 26 := by rw [← hX]; exact (((((BV.out.other hne _).other hne _).other hne _).other hne _).other hne _).other hne _
  have hbx := hide (show Below B w X by rw [← hX]; exact (((((HBV.out.setCell hB6 _).setCell hB6 _).setCell hB6 _).setCell hB6 _).setCell hB6 _).setCell hB6 _)
  have e0 := b7.cell 0 (.int .i64 hi) rfl
  have e1 := b7.cell 1 (.int .u64 lo) rfl
  have v1 := bv.cell 1 (.int .i64 vi) rfl
  clear hX BV B6 B7 HBV d2 d3 d4 d5 d6 d7 f2 f3 f4 f5 f6 f7 bv
  go_wp2_with fail
  refine (hadd.out X).mono ?_
  rintro e w3 ⟨rfl, hb⟩
  have b6' := b6.below hb b6.lt
  have b7' := b7.below hb b7.lt
  have hb' := hide (hbx.out.trans (Below.mono hb (by have := hbx.out.size; omega)))
  have e0 := b7'.cell 0 (.int .i64 hi) rfl
  have e1 := b7'.cell 1 (.int .u64 lo) rfl
  have f0 := b7'.frozen 0
  have f1 := b7'.frozen 1
  have B6 := hide b6'
  have B7 := hide b7'
  clear b6 b7 b6' b7' hb hbx v1
  go_wp2_with fail
  refine bodyPost_end (results_none rfl _ _ _) rfl ⟨rfl, ?_, ?_, ?_⟩
  · exact (B6.out.other (fun h => h67 h.symm) _).other (fun h => h67 h.symm) _
  · exact (B7.out.set 0 _).set 1 _
  · exact (hb'.out.setCell hB7 _).setCell hB7 _
#print axioms note_any
end Go.Proofs.YtdnkclbheimlcaaDoor
