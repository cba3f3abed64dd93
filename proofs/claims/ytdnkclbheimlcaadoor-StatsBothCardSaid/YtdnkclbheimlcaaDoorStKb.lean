/-
  stats.Merge walked: where the first row's Many is false and Over is false (written by genK.py).
-/
import Derived.Test.YtdnkclbheimlcaaDoorStKa
namespace Go.Proofs.YtdnkclbheimlcaaDoor
open Go.RowKit
set_option linter.unusedVariables false

set_option maxRecDepth 100000 in
set_option maxHeartbeats 4000000 in
theorem merge_b (w : World) (k : Int) (a b : st.St) (hH : a.hn = false) (hO : a.ov = false) (hc : -1000000000 ≤ a.c ∧ a.c ≤ 1000000000 ∧ -1000000000 ≤ b.c ∧ b.c ≤ 1000000000) (ha : st.In a.sum) (hb : st.In b.sum) :
    Calls Tryd.prog 14 #[.int .i64 k, .agg (st.cells a), .agg (st.cells b)] w fun e w' => e = .returned (.agg (st.cells (st.merge k a b))) ∧ Below w.heap.size w w' := by
  have hadd1 := hide (fun (w : World) => add_any w 0 a.sum (by omega) ha)
  have hadd2 := hide (fun (w : World) => add_any w (0 + a.sum) b.sum (by unfold st.In at ha; omega) hb)
  have hsm := hide (fun (w : World) => summed_any w k (st.merged a b) (0 + a.sum + b.sum) (by unfold st.In at ha hb; omega))
  have hb1 := hide (fun (w : World) => best_any w (-1) (.inl rfl) a.mn b.mn)
  have hb2 := hide (fun (w : World) => best_any w 1 (.inr rfl) a.mx b.mx)
  have HMG := hide (show st.merge k a b = st.summed k (st.merged a b) (0 + a.sum + b.sum) by unfold st.merge; rw [Int.zero_add])
  obtain ⟨S, hS⟩ : ∃ S, st.summed k (st.merged a b) (0 + a.sum + b.sum) = S := ⟨_, rfl⟩
  rw [hS] at HMG hsm
  obtain ⟨M1, hM1⟩ : ∃ m, st.best (-1) a.mn b.mn = m := ⟨_, rfl⟩
  obtain ⟨M2, hM2⟩ : ∃ m, st.best 1 a.mx b.mx = m := ⟨_, rfl⟩
  unfold st.merged at hsm
  rw [hM1] at hb1 hsm
  rw [hM2] at hb2 hsm
  rw [HMG.out]
  obtain ⟨c, hn, ⟨mn, mi, ms⟩, ⟨xn, xi, xs⟩, su, ov⟩ := a
  obtain ⟨c', hn', ⟨mn', mi', ms'⟩, ⟨xn', xi', xs'⟩, su', ov'⟩ := b
  obtain ⟨m1, i1, s1⟩ := M1
  obtain ⟨m2, i2, s2⟩ := M2
  simp only at hH hO
  subst hH hO
  simp only [st.cells, Bool.false_or] at hb1 hb2 hadd1 hadd2 hsm hc ⊢
  obtain ⟨t1, ht1⟩ : ∃ t, (0 + su) / 18446744073709551616 = t := ⟨_, rfl⟩
  obtain ⟨t2, ht2⟩ : ∃ t, (0 + su) % 18446744073709551616 = t := ⟨_, rfl⟩
  obtain ⟨t3, ht3⟩ : ∃ t, (0 + su + su') / 18446744073709551616 = t := ⟨_, rfl⟩
  obtain ⟨t4, ht4⟩ : ∃ t, (0 + su + su') % 18446744073709551616 = t := ⟨_, rfl⟩
  rw [ht1, ht2] at hadd1 hadd2
  rw [ht3, ht4] at hadd2 hsm
  rw [show (0 : Int) / 18446744073709551616 = 0 from rfl, show (0 : Int) % 18446744073709551616 = 0 from rfl] at hadd1
  have hcw : IntKind.i64.wrap (c + c') = c + c' := by rw [IntKind.wrap_i64]; omega
  clear ha hb hS hM1 hM2 HMG ht1 ht2 ht3 ht4 hc
  obtain ⟨W, hW, h0, h1, h2, hbb, hz⟩ := box3 w #[.int .i64 c, .bool false, .bool mn, .int .i64 mi, .string ms, .bool xn, .int .i64 xi, .string xs, .int .i64 su, .bool false] #[.int .i64 c', .bool hn', .bool mn', .int .i64 mi', .string ms', .bool xn', .int .i64 xi', .string xs', .int .i64 su', .bool ov'] (st.cells stz) 28 28 28
  have hW' : ((w.alloc (.cells #[.int .i64 c, .bool false, .bool mn, .int .i64 mi, .string ms, .bool xn, .int .i64 xi, .string xs, .int .i64 su, .bool false] 28)).alloc (.cells #[.int .i64 c', .bool hn', .bool mn', .int .i64 mi', .string ms', .bool xn', .int .i64 xi', .string xs', .int .i64 su', .bool ov'] 28)).alloc (.cells #[.int .i64 0, .bool false, .bool false, .int .i64 0, .string ⟨#[]⟩, .bool false, .int .i64 0, .string ⟨#[]⟩, .int .i64 0, .bool false] 28) = W := hW
  obtain ⟨V, hV⟩ : ∃ V, W.drew = V := ⟨_, rfl⟩
  have B0 := hide (show Box V w.heap.size #[.int .i64 c, .bool false, .bool mn, .int .i64 mi, .string ms, .bool xn, .int .i64 xi, .string xs, .int .i64 su, .bool false] 28 by rw [← hV]; exact h0.drew)
  have B1 := hide (show Box V (w.heap.size + 1) #[.int .i64 c', .bool hn', .bool mn', .int .i64 mi', .string ms', .bool xn', .int .i64 xi', .string xs', .int .i64 su', .bool ov'] 28 by rw [← hV]; exact h1.drew)
  have B2 := hide (show Box V (w.heap.size + 1 + 1) (st.cells stz) 28 by rw [← hV]; exact h2.drew)
  have HBV := hide (show Below w.heap.size w V by rw [← hV]; exact hbb.drew)
  have hz' : w.heap.size + 3 ≤ V.heap.size := by rw [← hV]; exact Nat.le_of_eq hz.symm
  have HV := hide hV
  have HW := hide hW'
  clear hW hW' hV h0 h1 h2 hbb hz
  have hz := hz'
  clear hz'
  obtain ⟨TT, hTT⟩ : ∃ TT : World → Prop, TT = fun W' => Box W' w.heap.size #[.int .i64 c, .bool false, .bool mn, .int .i64 mi, .string ms, .bool xn, .int .i64 xi, .string xs, .int .i64 su, .bool false] 28 ∧ Box W' (w.heap.size + 1) #[.int .i64 c', .bool hn', .bool mn', .int .i64 mi', .string ms', .bool xn', .int .i64 xi', .string xs', .int .i64 su', .bool ov'] 28 := ⟨_, rfl⟩
  have HTT := hide hTT
  clear hTT
  go_enter Tryd.func14, Tryd.ntmps14
  go_upto_region 1 with fail
  rw [HW.out]
  refine region_at TT 29 (by kernel_rfl) (by rw [HV.out, HTT.out]; exact ⟨B0.out, B1.out⟩) ?_
  rw [HV.out]
  refine at_seg [(0, 1), (1, 0), (2, 1), (3, 0), (4, 1), (5, 1), (6, 0), (7, 1), (8, 1), (9, 0), (10, 1), (11, 1), (12, 0), (13, 1), (14, 0), (16, 1), (17, 0), (18, 1), (19, 0), (21, 1), (22, 0)] 9 (by rfl) (by kernel_rfl) ?_
  simp only [opsPiG, List.filterMap_cons, List.filterMap_nil, List.getElem?_toArray, List.getElem?_cons_zero, List.getElem?_cons_succ, Option.map_some]
  repeat (first | (refine pig_any (v := _) rfl (fun W' => by go_simp <;> exact rfl) ?_; simp only [Act.put, List.setIfInBounds_toArray, List.set_cons_zero, List.set_cons_succ]) | (refine pig_take (v := _) rfl (fun W' hW' => by rw [HTT.out] at hW'; have p0 := hW'.1.cell 0 (.int .i64 c) rfl; have p1 := hW'.1.cell 1 (.bool false) rfl; have p2 := hW'.1.cell 2 (.bool mn) rfl; have p3 := hW'.1.cell 3 (.int .i64 mi) rfl; have p4 := hW'.1.cell 4 (.string ms) rfl; have p5 := hW'.1.cell 5 (.bool xn) rfl; have p6 := hW'.1.cell 6 (.int .i64 xi) rfl; have p7 := hW'.1.cell 7 (.string xs) rfl; have p8 := hW'.1.cell 8 (.int .i64 su) rfl; have p9 := hW'.1.cell 9 (.bool false) rfl; have r0 := hW'.2.cell 0 (.int .i64 c') rfl; have r1 := hW'.2.cell 1 (.bool hn') rfl; have r2 := hW'.2.cell 2 (.bool mn') rfl; have r3 := hW'.2.cell 3 (.int .i64 mi') rfl; have r4 := hW'.2.cell 4 (.string ms') rfl; have r5 := hW'.2.cell 5 (.bool xn') rfl; have r6 := hW'.2.cell 6 (.int .i64 xi') rfl; have r7 := hW'.2.cell 7 (.string xs') rfl; have r8 := hW'.2.cell 8 (.int .i64 su') rfl; have r9 := hW'.2.cell 9 (.bool ov') rfl; clear hW'; go_simp <;> exact rfl) ?_; simp only [Act.put, List.setIfInBounds_toArray, List.set_cons_zero, List.set_cons_succ]) | (refine pig_skip rfl ?_; simp only [Act.put, List.setIfInBounds_toArray, List.set_cons_zero, List.set_cons_succ]) | (refine pig_skip1 rfl ?_; simp only [Act.put, List.setIfInBounds_toArray, List.set_cons_zero, List.set_cons_succ]))
  refine pig_done ?_
  show At _ _ _ TT 29 9 _ _ V
  refine at_two (i := 15) (j := 28) (fuel := 8) (by rfl) (by rfl) (by kernel_rfl) ?_ ?_
  · go_wp2_with fail
    refine (hb1.out V).mono ?_
    rintro e V1 ⟨rfl, hv⟩
    have B01 := hide (B0.out.below hv (by omega))
    have B11 := hide (B1.out.below hv (by omega))
    have B21 := hide (B2.out.below hv (by omega))
    have HBV1 := hide (HBV.out.trans (Below.mono hv (by omega)))
    have hz1 : w.heap.size + 3 ≤ V1.heap.size := Nat.le_trans hz hv.size
    clear hv
    go_wp2_with fail
    refine ⟨by rw [HTT.out]; exact ⟨B01.out, B11.out⟩, ?_⟩
    refine at_two (i := 20) (j := 28) (fuel := 7) (by rfl) (by rfl) (by kernel_rfl) ?_ ?_
    · go_wp2_with fail
      refine (hb2.out V1).mono ?_
      rintro e V2 ⟨rfl, hv⟩
      have B02 := hide (B01.out.below hv (by omega))
      have B12 := hide (B11.out.below hv (by omega))
      have B22 := hide (B21.out.below hv (by omega))
      have HBV2 := hide (HBV1.out.trans (Below.mono hv (by omega)))
      have hz2 : w.heap.size + 3 ≤ V2.heap.size := Nat.le_trans hz1 hv.size
      clear hv
      go_wp2_with fail
      refine ⟨by rw [HTT.out]; exact ⟨B02.out, B12.out⟩, ?_⟩
      refine at_seg [(23, 1), (24, 1), (25, 0), (26, 1), (27, 1), (28, 2), (29, 3)] 0 (by rfl) (by kernel_rfl) ?_
      simp only [opsPiG, List.filterMap_cons, List.filterMap_nil, List.getElem?_toArray, List.getElem?_cons_zero, List.getElem?_cons_succ, Option.map_some]
      repeat (first | (refine pig_any (v := _) rfl (fun W' => by go_simp <;> exact rfl) ?_; simp only [Act.put, List.setIfInBounds_toArray, List.set_cons_zero, List.set_cons_succ]) | (refine pig_take (v := _) rfl (fun W' hW' => by rw [HTT.out] at hW'; have p0 := hW'.1.cell 0 (.int .i64 c) rfl; have p1 := hW'.1.cell 1 (.bool false) rfl; have p2 := hW'.1.cell 2 (.bool mn) rfl; have p3 := hW'.1.cell 3 (.int .i64 mi) rfl; have p4 := hW'.1.cell 4 (.string ms) rfl; have p5 := hW'.1.cell 5 (.bool xn) rfl; have p6 := hW'.1.cell 6 (.int .i64 xi) rfl; have p7 := hW'.1.cell 7 (.string xs) rfl; have p8 := hW'.1.cell 8 (.int .i64 su) rfl; have p9 := hW'.1.cell 9 (.bool false) rfl; have r0 := hW'.2.cell 0 (.int .i64 c') rfl; have r1 := hW'.2.cell 1 (.bool hn') rfl; have r2 := hW'.2.cell 2 (.bool mn') rfl; have r3 := hW'.2.cell 3 (.int .i64 mi') rfl; have r4 := hW'.2.cell 4 (.string ms') rfl; have r5 := hW'.2.cell 5 (.bool xn') rfl; have r6 := hW'.2.cell 6 (.int .i64 xi') rfl; have r7 := hW'.2.cell 7 (.string xs') rfl; have r8 := hW'.2.cell 8 (.int .i64 su') rfl; have r9 := hW'.2.cell 9 (.bool ov') rfl; clear hW'; go_simp <;> exact rfl) ?_; simp only [Act.put, List.setIfInBounds_toArray, List.set_cons_zero, List.set_cons_succ]) | (refine pig_skip rfl ?_; simp only [Act.put, List.setIfInBounds_toArray, List.set_cons_zero, List.set_cons_succ]) | (refine pig_skip1 rfl ?_; simp only [Act.put, List.setIfInBounds_toArray, List.set_cons_zero, List.set_cons_succ]))
      refine pig_run ?_
      go_wp2_with fail
      obtain ⟨V3, hv⟩ : ∃ X, V2.alloc (.cells (st.cells stz) 28) = X := ⟨_, rfl⟩
      have hv' : V2.alloc (.cells #[.int .i64 0, .bool false, .bool false, .int .i64 0, .string ⟨#[]⟩, .bool false, .int .i64 0, .string ⟨#[]⟩, .int .i64 0, .bool false] 28) = V3 := hv
      rw [hv']
      obtain ⟨g, hg⟩ : ∃ g, V2.heap.size = g := ⟨_, rfl⟩
      rw [hg]
      have B03 := hide (show Box V3 _ _ _ by rw [← hv]; exact B02.out.alloc _)
      have B13 := hide (show Box V3 _ _ _ by rw [← hv]; exact B12.out.alloc _)
      have B23 := hide (show Box V3 _ _ _ by rw [← hv]; exact B22.out.alloc _)
      have BA3 := hide (show Box V3 g (st.cells stz) 28 by rw [← hv, ← hg]; exact box_new _ _ _)
      have HBV3 := hide (show Below w.heap.size w V3 by rw [← hv]; exact HBV2.out.alloc (by omega) _)
      have hz3 : w.heap.size + 3 ≤ V3.heap.size := by rw [← hv]; simp; omega
      have hgl : w.heap.size + 3 ≤ g := by omega
      have hgz : g < V3.heap.size := by rw [← hv, ← hg]; simp
      clear hv hv' hg
      refine ⟨by rw [HTT.out]; exact ⟨B03.out, B13.out⟩, ?_⟩
      refine pig_late ?_
      go_wp2_with (refine wpList_store_row rfl 28 _ _ rfl g #[.int .i64 (c + c'), .bool hn', .bool m1, .int .i64 i1, .string s1, .bool m2, .int .i64 i2, .string s2, .int .i64 0, .bool ov'] rfl rfl 28 _ BA3.out (by kernel_rfl) rfl (cells_one ⟨c + c', hn', ⟨m1, i1, s1⟩, ⟨m2, i2, s2⟩, 0, ov'⟩) ?_)
      refine pig_done ?_
      refine at_done (by kernel_rfl) ?_ 0
      obtain ⟨F, hF⟩ : ∃ F, (V3.setRow g #[.int .i64 (c + c'), .bool hn', .bool m1, .int .i64 i1, .string s1, .bool m2, .int .i64 i2, .string s2, .int .i64 0, .bool ov']) = F := ⟨_, rfl⟩
      rw [hF]
      have FA := hide (show Box F g #[.int .i64 (c + c'), .bool hn', .bool m1, .int .i64 i1, .string s1, .bool m2, .int .i64 i2, .string s2, .int .i64 0, .bool ov'] 28 by rw [← hF]; exact setRow_heap _ _ _ _ _ _ BA3.out)
      have F0 := hide (show Box F _ _ _ by rw [← hF]; exact (setRow_other _ _ _ _ (by omega)).trans B03.out)
      have F1 := hide (show Box F _ _ _ by rw [← hF]; exact (setRow_other _ _ _ _ (by omega)).trans B13.out)
      have F2 := hide (show Box F _ _ _ by rw [← hF]; exact (setRow_other _ _ _ _ (by omega)).trans B23.out)
      have FL := hide (show Below w.heap.size w F by rw [← hF]; exact below_setRow HBV3.out (by omega) _)
      have hFz : g < F.heap.size := FA.out.lt
      clear hF
      go_upto_region 2 with fail
      obtain ⟨G, hG⟩ : ∃ G, F.drew = G := ⟨_, rfl⟩
      have G0 := hide (show Box G _ _ _ by rw [← hG]; exact F0.out.drew)
      have G1 := hide (show Box G _ _ _ by rw [← hG]; exact F1.out.drew)
      have G2 := hide (show Box G _ _ _ by rw [← hG]; exact F2.out.drew)
      have GA := hide (show Box G _ _ _ by rw [← hG]; exact FA.out.drew)
      have GL := hide (show Below w.heap.size w G by rw [← hG]; exact FL.out.drew)
      have hGz : g < G.heap.size := GA.out.lt
      have HG := hide hG
      clear hG
      obtain ⟨T2, hT2⟩ : ∃ T2 : World → Prop, T2 = fun W' => Box W' w.heap.size #[.int .i64 c, .bool false, .bool mn, .int .i64 mi, .string ms, .bool xn, .int .i64 xi, .string xs, .int .i64 su, .bool false] 28 ∧ Box W' (w.heap.size + 1) #[.int .i64 c', .bool hn', .bool mn', .int .i64 mi', .string ms', .bool xn', .int .i64 xi', .string xs', .int .i64 su', .bool ov'] 28 ∧ Box W' g #[.int .i64 (c + c'), .bool hn', .bool m1, .int .i64 i1, .string s1, .bool m2, .int .i64 i2, .string s2, .int .i64 0, .bool ov'] 28 := ⟨_, rfl⟩
      have HT2 := hide hT2
      clear hT2
      refine region_pig T2 10 [(0, 1), (1, 0), (2, 1), (3, 1), (4, 0), (6, 1), (7, 0), (5, 2), (8, 2), (9, 2), (10, 3)] (by kernel_rfl) (by kernel_rfl) (by rw [HG.out, HT2.out]; exact ⟨G0.out, G1.out, GA.out⟩) ?_
      rw [HG.out]
      simp only [opsPiG, List.filterMap_cons, List.filterMap_nil, List.getElem?_toArray, List.getElem?_cons_zero, List.getElem?_cons_succ, Option.map_some]
      repeat (first | (refine pig_any (v := _) rfl (fun W' => by go_simp <;> exact rfl) ?_; simp only [Act.put, List.setIfInBounds_toArray, List.set_cons_zero, List.set_cons_succ]) | (refine pig_take (v := _) rfl (fun W' hW' => by rw [HT2.out] at hW'; have p0 := hW'.1.cell 0 (.int .i64 c) rfl; have p1 := hW'.1.cell 1 (.bool false) rfl; have p2 := hW'.1.cell 2 (.bool mn) rfl; have p3 := hW'.1.cell 3 (.int .i64 mi) rfl; have p4 := hW'.1.cell 4 (.string ms) rfl; have p5 := hW'.1.cell 5 (.bool xn) rfl; have p6 := hW'.1.cell 6 (.int .i64 xi) rfl; have p7 := hW'.1.cell 7 (.string xs) rfl; have p8 := hW'.1.cell 8 (.int .i64 su) rfl; have p9 := hW'.1.cell 9 (.bool false) rfl; have r0 := hW'.2.1.cell 0 (.int .i64 c') rfl; have r1 := hW'.2.1.cell 1 (.bool hn') rfl; have r2 := hW'.2.1.cell 2 (.bool mn') rfl; have r3 := hW'.2.1.cell 3 (.int .i64 mi') rfl; have r4 := hW'.2.1.cell 4 (.string ms') rfl; have r5 := hW'.2.1.cell 5 (.bool xn') rfl; have r6 := hW'.2.1.cell 6 (.int .i64 xi') rfl; have r7 := hW'.2.1.cell 7 (.string xs') rfl; have r8 := hW'.2.1.cell 8 (.int .i64 su') rfl; have r9 := hW'.2.1.cell 9 (.bool ov') rfl; have q0 := hW'.2.2.cell 0 (.int .i64 (c + c')) rfl; have q1 := hW'.2.2.cell 1 (.bool hn') rfl; have q2 := hW'.2.2.cell 2 (.bool m1) rfl; have q3 := hW'.2.2.cell 3 (.int .i64 i1) rfl; have q4 := hW'.2.2.cell 4 (.string s1) rfl; have q5 := hW'.2.2.cell 5 (.bool m2) rfl; have q6 := hW'.2.2.cell 6 (.int .i64 i2) rfl; have q7 := hW'.2.2.cell 7 (.string s2) rfl; have q8 := hW'.2.2.cell 8 (.int .i64 0) rfl; have q9 := hW'.2.2.cell 9 (.bool ov') rfl; clear hW'; go_simp <;> exact rfl) ?_; simp only [Act.put, List.setIfInBounds_toArray, List.set_cons_zero, List.set_cons_succ]) | (refine pig_skip rfl ?_; simp only [Act.put, List.setIfInBounds_toArray, List.set_cons_zero, List.set_cons_succ]) | (refine pig_skip1 rfl ?_; simp only [Act.put, List.setIfInBounds_toArray, List.set_cons_zero, List.set_cons_succ]))
      refine pig_run ?_
      go_wp2_with fail
      refine (hadd1.out G).mono ?_
      rintro e Pw ⟨rfl, hv⟩
      have P0 := hide (G0.out.below hv (by omega))
      have P1 := hide (G1.out.below hv (by omega))
      have P2 := hide (G2.out.below hv (by omega))
      have PA := hide (GA.out.below hv (by omega))
      have PL := hide (GL.out.trans (Below.mono hv (by omega)))
      have hPz : g < Pw.heap.size := PA.out.lt
      clear hv
      go_wp2_with fail
      refine ⟨by rw [HT2.out]; exact ⟨P0.out, P1.out, PA.out⟩, ?_⟩
      refine pig_run ?_
      go_wp2_with fail
      refine (hadd2.out Pw).mono ?_
      rintro e Rw ⟨rfl, hv⟩
      have R0 := hide (P0.out.below hv (by omega))
      have R1 := hide (P1.out.below hv (by omega))
      have R2 := hide (P2.out.below hv (by omega))
      have RA := hide (PA.out.below hv (by omega))
      have RL := hide (PL.out.trans (Below.mono hv (by omega)))
      have hRz : g < Rw.heap.size := RA.out.lt
      clear hv
      go_wp2_with fail
      refine ⟨by rw [HT2.out]; exact ⟨R0.out, R1.out, RA.out⟩, ?_⟩
      refine pig_run ?_
      go_wp2_with fail
      refine (hsm.out Rw).mono ?_
      rintro e Sw ⟨rfl, hv⟩
      have S0 := hide (R0.out.below hv (by omega))
      have S1 := hide (R1.out.below hv (by omega))
      have S2 := hide (R2.out.below hv (by omega))
      have SA := hide (RA.out.below hv (by omega))
      have SL := hide (RL.out.trans (Below.mono hv (by omega)))
      have hSz : g < Sw.heap.size := SA.out.lt
      clear hv
      go_wp2_with fail
      refine ⟨by rw [HT2.out]; exact ⟨S0.out, S1.out, SA.out⟩, ?_⟩
      obtain ⟨zc, zhn, ⟨zm1, zi1, zs1⟩, ⟨zm2, zi2, zs2⟩, zsu, zov⟩ := S
      simp only
      refine pig_late ?_
      go_wp2_with (refine wpList_store_row rfl 28 _ _ rfl (w.heap.size + 1 + 1) #[.int .i64 zc, .bool zhn, .bool zm1, .int .i64 zi1, .string zs1, .bool zm2, .int .i64 zi2, .string zs2, .int .i64 zsu, .bool zov] rfl rfl 28 _ S2.out (by kernel_rfl) rfl (cells_one ⟨zc, zhn, ⟨zm1, zi1, zs1⟩, ⟨zm2, zi2, zs2⟩, zsu, zov⟩) ?_)
      refine pig_done ?_
      go_wp2_with fail
      refine bodyPost_ret (box_results rfl _ (setRow_heap _ _ _ _ _ _ S2.out) rfl Tryd.underlying28 rfl rfl) rfl ?_
      exact ⟨rfl, below_setRow SL.out (by omega) _⟩
    · go_wp2_with fail
      obtain ⟨V2, hv⟩ : ∃ X, V1.alloc (.cells (st.cells stz) 28) = X := ⟨_, rfl⟩
      have hv' : V1.alloc (.cells #[.int .i64 0, .bool false, .bool false, .int .i64 0, .string ⟨#[]⟩, .bool false, .int .i64 0, .string ⟨#[]⟩, .int .i64 0, .bool false] 28) = V2 := hv
      rw [hv']
      obtain ⟨g, hg⟩ : ∃ g, V1.heap.size = g := ⟨_, rfl⟩
      rw [hg]
      have B02 := hide (show Box V2 _ _ _ by rw [← hv]; exact B01.out.alloc _)
      have B12 := hide (show Box V2 _ _ _ by rw [← hv]; exact B11.out.alloc _)
      have B22 := hide (show Box V2 _ _ _ by rw [← hv]; exact B21.out.alloc _)
      have BA2 := hide (show Box V2 g (st.cells stz) 28 by rw [← hv, ← hg]; exact box_new _ _ _)
      have HBV2 := hide (show Below w.heap.size w V2 by rw [← hv]; exact HBV1.out.alloc (by omega) _)
      have hz2 : w.heap.size + 3 ≤ V2.heap.size := by rw [← hv]; simp; omega
      have hgl : w.heap.size + 3 ≤ g := by omega
      have hgz : g < V2.heap.size := by rw [← hv, ← hg]; simp
      clear hv hv' hg
      refine ⟨by rw [HTT.out]; exact ⟨B02.out, B12.out⟩, ?_⟩
      refine at_seg [(20, 2), (23, 1), (24, 1), (25, 0), (26, 1), (27, 1), (29, 3)] 0 (by rfl) (by kernel_rfl) ?_
      simp only [opsPiG, List.filterMap_cons, List.filterMap_nil, List.getElem?_toArray, List.getElem?_cons_zero, List.getElem?_cons_succ, Option.map_some]
      refine pig_run ?_
      go_wp2_with fail
      refine (hb2.out V2).mono ?_
      rintro e V3 ⟨rfl, hv⟩
      have B03 := hide (B02.out.below hv (by omega))
      have B13 := hide (B12.out.below hv (by omega))
      have B23 := hide (B22.out.below hv (by omega))
      have BA3 := hide (BA2.out.below hv (by omega))
      have HBV3 := hide (HBV2.out.trans (Below.mono hv (by omega)))
      have hz3 : w.heap.size + 3 ≤ V3.heap.size := Nat.le_trans hz2 hv.size
      have hgz3 : g < V3.heap.size := BA3.out.lt
      clear hv
      go_wp2_with fail
      refine ⟨by rw [HTT.out]; exact ⟨B03.out, B13.out⟩, ?_⟩
      repeat (first | (refine pig_any (v := _) rfl (fun W' => by go_simp <;> exact rfl) ?_; simp only [Act.put, List.setIfInBounds_toArray, List.set_cons_zero, List.set_cons_succ]) | (refine pig_take (v := _) rfl (fun W' hW' => by rw [HTT.out] at hW'; have p0 := hW'.1.cell 0 (.int .i64 c) rfl; have p1 := hW'.1.cell 1 (.bool false) rfl; have p2 := hW'.1.cell 2 (.bool mn) rfl; have p3 := hW'.1.cell 3 (.int .i64 mi) rfl; have p4 := hW'.1.cell 4 (.string ms) rfl; have p5 := hW'.1.cell 5 (.bool xn) rfl; have p6 := hW'.1.cell 6 (.int .i64 xi) rfl; have p7 := hW'.1.cell 7 (.string xs) rfl; have p8 := hW'.1.cell 8 (.int .i64 su) rfl; have p9 := hW'.1.cell 9 (.bool false) rfl; have r0 := hW'.2.cell 0 (.int .i64 c') rfl; have r1 := hW'.2.cell 1 (.bool hn') rfl; have r2 := hW'.2.cell 2 (.bool mn') rfl; have r3 := hW'.2.cell 3 (.int .i64 mi') rfl; have r4 := hW'.2.cell 4 (.string ms') rfl; have r5 := hW'.2.cell 5 (.bool xn') rfl; have r6 := hW'.2.cell 6 (.int .i64 xi') rfl; have r7 := hW'.2.cell 7 (.string xs') rfl; have r8 := hW'.2.cell 8 (.int .i64 su') rfl; have r9 := hW'.2.cell 9 (.bool ov') rfl; clear hW'; go_simp <;> exact rfl) ?_; simp only [Act.put, List.setIfInBounds_toArray, List.set_cons_zero, List.set_cons_succ]) | (refine pig_skip rfl ?_; simp only [Act.put, List.setIfInBounds_toArray, List.set_cons_zero, List.set_cons_succ]) | (refine pig_skip1 rfl ?_; simp only [Act.put, List.setIfInBounds_toArray, List.set_cons_zero, List.set_cons_succ]))
      refine pig_late ?_
      go_wp2_with (refine wpList_store_row rfl 28 _ _ rfl g #[.int .i64 (c + c'), .bool hn', .bool m1, .int .i64 i1, .string s1, .bool m2, .int .i64 i2, .string s2, .int .i64 0, .bool ov'] rfl rfl 28 _ BA3.out (by kernel_rfl) rfl (cells_one ⟨c + c', hn', ⟨m1, i1, s1⟩, ⟨m2, i2, s2⟩, 0, ov'⟩) ?_)
      refine pig_done ?_
      refine at_done (by kernel_rfl) ?_ 0
      obtain ⟨F, hF⟩ : ∃ F, (V3.setRow g #[.int .i64 (c + c'), .bool hn', .bool m1, .int .i64 i1, .string s1, .bool m2, .int .i64 i2, .string s2, .int .i64 0, .bool ov']) = F := ⟨_, rfl⟩
      rw [hF]
      have FA := hide (show Box F g #[.int .i64 (c + c'), .bool hn', .bool m1, .int .i64 i1, .string s1, .bool m2, .int .i64 i2, .string s2, .int .i64 0, .bool ov'] 28 by rw [← hF]; exact setRow_heap _ _ _ _ _ _ BA3.out)
      have F0 := hide (show Box F _ _ _ by rw [← hF]; exact (setRow_other _ _ _ _ (by omega)).trans B03.out)
      have F1 := hide (show Box F _ _ _ by rw [← hF]; exact (setRow_other _ _ _ _ (by omega)).trans B13.out)
      have F2 := hide (show Box F _ _ _ by rw [← hF]; exact (setRow_other _ _ _ _ (by omega)).trans B23.out)
      have FL := hide (show Below w.heap.size w F by rw [← hF]; exact below_setRow HBV3.out (by omega) _)
      have hFz : g < F.heap.size := FA.out.lt
      clear hF
      go_upto_region 2 with fail
      obtain ⟨G, hG⟩ : ∃ G, F.drew = G := ⟨_, rfl⟩
      have G0 := hide (show Box G _ _ _ by rw [← hG]; exact F0.out.drew)
      have G1 := hide (show Box G _ _ _ by rw [← hG]; exact F1.out.drew)
      have G2 := hide (show Box G _ _ _ by rw [← hG]; exact F2.out.drew)
      have GA := hide (show Box G _ _ _ by rw [← hG]; exact FA.out.drew)
      have GL := hide (show Below w.heap.size w G by rw [← hG]; exact FL.out.drew)
      have hGz : g < G.heap.size := GA.out.lt
      have HG := hide hG
      clear hG
      obtain ⟨T2, hT2⟩ : ∃ T2 : World → Prop, T2 = fun W' => Box W' w.heap.size #[.int .i64 c, .bool false, .bool mn, .int .i64 mi, .string ms, .bool xn, .int .i64 xi, .string xs, .int .i64 su, .bool false] 28 ∧ Box W' (w.heap.size + 1) #[.int .i64 c', .bool hn', .bool mn', .int .i64 mi', .string ms', .bool xn', .int .i64 xi', .string xs', .int .i64 su', .bool ov'] 28 ∧ Box W' g #[.int .i64 (c + c'), .bool hn', .bool m1, .int .i64 i1, .string s1, .bool m2, .int .i64 i2, .string s2, .int .i64 0, .bool ov'] 28 := ⟨_, rfl⟩
      have HT2 := hide hT2
      clear hT2
      refine region_pig T2 10 [(0, 1), (1, 0), (2, 1), (3, 1), (4, 0), (6, 1), (7, 0), (5, 2), (8, 2), (9, 2), (10, 3)] (by kernel_rfl) (by kernel_rfl) (by rw [HG.out, HT2.out]; exact ⟨G0.out, G1.out, GA.out⟩) ?_
      rw [HG.out]
      simp only [opsPiG, List.filterMap_cons, List.filterMap_nil, List.getElem?_toArray, List.getElem?_cons_zero, List.getElem?_cons_succ, Option.map_some]
      repeat (first | (refine pig_any (v := _) rfl (fun W' => by go_simp <;> exact rfl) ?_; simp only [Act.put, List.setIfInBounds_toArray, List.set_cons_zero, List.set_cons_succ]) | (refine pig_take (v := _) rfl (fun W' hW' => by rw [HT2.out] at hW'; have p0 := hW'.1.cell 0 (.int .i64 c) rfl; have p1 := hW'.1.cell 1 (.bool false) rfl; have p2 := hW'.1.cell 2 (.bool mn) rfl; have p3 := hW'.1.cell 3 (.int .i64 mi) rfl; have p4 := hW'.1.cell 4 (.string ms) rfl; have p5 := hW'.1.cell 5 (.bool xn) rfl; have p6 := hW'.1.cell 6 (.int .i64 xi) rfl; have p7 := hW'.1.cell 7 (.string xs) rfl; have p8 := hW'.1.cell 8 (.int .i64 su) rfl; have p9 := hW'.1.cell 9 (.bool false) rfl; have r0 := hW'.2.1.cell 0 (.int .i64 c') rfl; have r1 := hW'.2.1.cell 1 (.bool hn') rfl; have r2 := hW'.2.1.cell 2 (.bool mn') rfl; have r3 := hW'.2.1.cell 3 (.int .i64 mi') rfl; have r4 := hW'.2.1.cell 4 (.string ms') rfl; have r5 := hW'.2.1.cell 5 (.bool xn') rfl; have r6 := hW'.2.1.cell 6 (.int .i64 xi') rfl; have r7 := hW'.2.1.cell 7 (.string xs') rfl; have r8 := hW'.2.1.cell 8 (.int .i64 su') rfl; have r9 := hW'.2.1.cell 9 (.bool ov') rfl; have q0 := hW'.2.2.cell 0 (.int .i64 (c + c')) rfl; have q1 := hW'.2.2.cell 1 (.bool hn') rfl; have q2 := hW'.2.2.cell 2 (.bool m1) rfl; have q3 := hW'.2.2.cell 3 (.int .i64 i1) rfl; have q4 := hW'.2.2.cell 4 (.string s1) rfl; have q5 := hW'.2.2.cell 5 (.bool m2) rfl; have q6 := hW'.2.2.cell 6 (.int .i64 i2) rfl; have q7 := hW'.2.2.cell 7 (.string s2) rfl; have q8 := hW'.2.2.cell 8 (.int .i64 0) rfl; have q9 := hW'.2.2.cell 9 (.bool ov') rfl; clear hW'; go_simp <;> exact rfl) ?_; simp only [Act.put, List.setIfInBounds_toArray, List.set_cons_zero, List.set_cons_succ]) | (refine pig_skip rfl ?_; simp only [Act.put, List.setIfInBounds_toArray, List.set_cons_zero, List.set_cons_succ]) | (refine pig_skip1 rfl ?_; simp only [Act.put, List.setIfInBounds_toArray, List.set_cons_zero, List.set_cons_succ]))
      refine pig_run ?_
      go_wp2_with fail
      refine (hadd1.out G).mono ?_
      rintro e Pw ⟨rfl, hv⟩
      have P0 := hide (G0.out.below hv (by omega))
      have P1 := hide (G1.out.below hv (by omega))
      have P2 := hide (G2.out.below hv (by omega))
      have PA := hide (GA.out.below hv (by omega))
      have PL := hide (GL.out.trans (Below.mono hv (by omega)))
      have hPz : g < Pw.heap.size := PA.out.lt
      clear hv
      go_wp2_with fail
      refine ⟨by rw [HT2.out]; exact ⟨P0.out, P1.out, PA.out⟩, ?_⟩
      refine pig_run ?_
      go_wp2_with fail
      refine (hadd2.out Pw).mono ?_
      rintro e Rw ⟨rfl, hv⟩
      have R0 := hide (P0.out.below hv (by omega))
      have R1 := hide (P1.out.below hv (by omega))
      have R2 := hide (P2.out.below hv (by omega))
      have RA := hide (PA.out.below hv (by omega))
      have RL := hide (PL.out.trans (Below.mono hv (by omega)))
      have hRz : g < Rw.heap.size := RA.out.lt
      clear hv
      go_wp2_with fail
      refine ⟨by rw [HT2.out]; exact ⟨R0.out, R1.out, RA.out⟩, ?_⟩
      refine pig_run ?_
      go_wp2_with fail
      refine (hsm.out Rw).mono ?_
      rintro e Sw ⟨rfl, hv⟩
      have S0 := hide (R0.out.below hv (by omega))
      have S1 := hide (R1.out.below hv (by omega))
      have S2 := hide (R2.out.below hv (by omega))
      have SA := hide (RA.out.below hv (by omega))
      have SL := hide (RL.out.trans (Below.mono hv (by omega)))
      have hSz : g < Sw.heap.size := SA.out.lt
      clear hv
      go_wp2_with fail
      refine ⟨by rw [HT2.out]; exact ⟨S0.out, S1.out, SA.out⟩, ?_⟩
      obtain ⟨zc, zhn, ⟨zm1, zi1, zs1⟩, ⟨zm2, zi2, zs2⟩, zsu, zov⟩ := S
      simp only
      refine pig_late ?_
      go_wp2_with (refine wpList_store_row rfl 28 _ _ rfl (w.heap.size + 1 + 1) #[.int .i64 zc, .bool zhn, .bool zm1, .int .i64 zi1, .string zs1, .bool zm2, .int .i64 zi2, .string zs2, .int .i64 zsu, .bool zov] rfl rfl 28 _ S2.out (by kernel_rfl) rfl (cells_one ⟨zc, zhn, ⟨zm1, zi1, zs1⟩, ⟨zm2, zi2, zs2⟩, zsu, zov⟩) ?_)
      refine pig_done ?_
      go_wp2_with fail
      refine bodyPost_ret (box_results rfl _ (setRow_heap _ _ _ _ _ _ S2.out) rfl Tryd.underlying28 rfl rfl) rfl ?_
      exact ⟨rfl, below_setRow SL.out (by omega) _⟩
  · go_wp2_with fail
    obtain ⟨V1, hv⟩ : ∃ X, V.alloc (.cells (st.cells stz) 28) = X := ⟨_, rfl⟩
    have hv' : V.alloc (.cells #[.int .i64 0, .bool false, .bool false, .int .i64 0, .string ⟨#[]⟩, .bool false, .int .i64 0, .string ⟨#[]⟩, .int .i64 0, .bool false] 28) = V1 := hv
    rw [hv']
    obtain ⟨g, hg⟩ : ∃ g, V.heap.size = g := ⟨_, rfl⟩
    rw [hg]
    have B01 := hide (show Box V1 _ _ _ by rw [← hv]; exact B0.out.alloc _)
    have B11 := hide (show Box V1 _ _ _ by rw [← hv]; exact B1.out.alloc _)
    have B21 := hide (show Box V1 _ _ _ by rw [← hv]; exact B2.out.alloc _)
    have BA1 := hide (show Box V1 g (st.cells stz) 28 by rw [← hv, ← hg]; exact box_new _ _ _)
    have HBV1 := hide (show Below w.heap.size w V1 by rw [← hv]; exact HBV.out.alloc (by omega) _)
    have hz1 : w.heap.size + 3 ≤ V1.heap.size := by rw [← hv]; simp; omega
    have hgl : w.heap.size + 3 ≤ g := by omega
    have hgz : g < V1.heap.size := by rw [← hv, ← hg]; simp
    clear hv hv' hg
    refine ⟨by rw [HTT.out]; exact ⟨B01.out, B11.out⟩, ?_⟩
    refine at_seg [(15, 2), (20, 2), (23, 1), (24, 1), (25, 0), (26, 1), (27, 1), (29, 3)] 0 (by rfl) (by kernel_rfl) ?_
    simp only [opsPiG, List.filterMap_cons, List.filterMap_nil, List.getElem?_toArray, List.getElem?_cons_zero, List.getElem?_cons_succ, Option.map_some]
    refine pig_run ?_
    go_wp2_with fail
    refine (hb1.out V1).mono ?_
    rintro e V2 ⟨rfl, hv⟩
    have B02 := hide (B01.out.below hv (by omega))
    have B12 := hide (B11.out.below hv (by omega))
    have B22 := hide (B21.out.below hv (by omega))
    have BA2 := hide (BA1.out.below hv (by omega))
    have HBV2 := hide (HBV1.out.trans (Below.mono hv (by omega)))
    have hz2 : w.heap.size + 3 ≤ V2.heap.size := Nat.le_trans hz1 hv.size
    have hgz2 : g < V2.heap.size := BA2.out.lt
    clear hv
    go_wp2_with fail
    refine ⟨by rw [HTT.out]; exact ⟨B02.out, B12.out⟩, ?_⟩
    refine pig_run ?_
    go_wp2_with fail
    refine (hb2.out V2).mono ?_
    rintro e V3 ⟨rfl, hv⟩
    have B03 := hide (B02.out.below hv (by omega))
    have B13 := hide (B12.out.below hv (by omega))
    have B23 := hide (B22.out.below hv (by omega))
    have BA3 := hide (BA2.out.below hv (by omega))
    have HBV3 := hide (HBV2.out.trans (Below.mono hv (by omega)))
    have hz3 : w.heap.size + 3 ≤ V3.heap.size := Nat.le_trans hz2 hv.size
    have hgz3 : g < V3.heap.size := BA3.out.lt
    clear hv
    go_wp2_with fail
    refine ⟨by rw [HTT.out]; exact ⟨B03.out, B13.out⟩, ?_⟩
    repeat (first | (refine pig_any (v := _) rfl (fun W' => by go_simp <;> exact rfl) ?_; simp only [Act.put, List.setIfInBounds_toArray, List.set_cons_zero, List.set_cons_succ]) | (refine pig_take (v := _) rfl (fun W' hW' => by rw [HTT.out] at hW'; have p0 := hW'.1.cell 0 (.int .i64 c) rfl; have p1 := hW'.1.cell 1 (.bool false) rfl; have p2 := hW'.1.cell 2 (.bool mn) rfl; have p3 := hW'.1.cell 3 (.int .i64 mi) rfl; have p4 := hW'.1.cell 4 (.string ms) rfl; have p5 := hW'.1.cell 5 (.bool xn) rfl; have p6 := hW'.1.cell 6 (.int .i64 xi) rfl; have p7 := hW'.1.cell 7 (.string xs) rfl; have p8 := hW'.1.cell 8 (.int .i64 su) rfl; have p9 := hW'.1.cell 9 (.bool false) rfl; have r0 := hW'.2.cell 0 (.int .i64 c') rfl; have r1 := hW'.2.cell 1 (.bool hn') rfl; have r2 := hW'.2.cell 2 (.bool mn') rfl; have r3 := hW'.2.cell 3 (.int .i64 mi') rfl; have r4 := hW'.2.cell 4 (.string ms') rfl; have r5 := hW'.2.cell 5 (.bool xn') rfl; have r6 := hW'.2.cell 6 (.int .i64 xi') rfl; have r7 := hW'.2.cell 7 (.string xs') rfl; have r8 := hW'.2.cell 8 (.int .i64 su') rfl; have r9 := hW'.2.cell 9 (.bool ov') rfl; clear hW'; go_simp <;> exact rfl) ?_; simp only [Act.put, List.setIfInBounds_toArray, List.set_cons_zero, List.set_cons_succ]) | (refine pig_skip rfl ?_; simp only [Act.put, List.setIfInBounds_toArray, List.set_cons_zero, List.set_cons_succ]) | (refine pig_skip1 rfl ?_; simp only [Act.put, List.setIfInBounds_toArray, List.set_cons_zero, List.set_cons_succ]))
    refine pig_late ?_
    go_wp2_with (refine wpList_store_row rfl 28 _ _ rfl g #[.int .i64 (c + c'), .bool hn', .bool m1, .int .i64 i1, .string s1, .bool m2, .int .i64 i2, .string s2, .int .i64 0, .bool ov'] rfl rfl 28 _ BA3.out (by kernel_rfl) rfl (cells_one ⟨c + c', hn', ⟨m1, i1, s1⟩, ⟨m2, i2, s2⟩, 0, ov'⟩) ?_)
    refine pig_done ?_
    refine at_done (by kernel_rfl) ?_ 0
    obtain ⟨F, hF⟩ : ∃ F, (V3.setRow g #[.int .i64 (c + c'), .bool hn', .bool m1, .int .i64 i1, .string s1, .bool m2, .int .i64 i2, .string s2, .int .i64 0, .bool ov']) = F := ⟨_, rfl⟩
    rw [hF]
    have FA := hide (show Box F g #[.int .i64 (c + c'), .bool hn', .bool m1, .int .i64 i1, .string s1, .bool m2, .int .i64 i2, .string s2, .int .i64 0, .bool ov'] 28 by rw [← hF]; exact setRow_heap _ _ _ _ _ _ BA3.out)
    have F0 := hide (show Box F _ _ _ by rw [← hF]; exact (setRow_other _ _ _ _ (by omega)).trans B03.out)
    have F1 := hide (show Box F _ _ _ by rw [← hF]; exact (setRow_other _ _ _ _ (by omega)).trans B13.out)
    have F2 := hide (show Box F _ _ _ by rw [← hF]; exact (setRow_other _ _ _ _ (by omega)).trans B23.out)
    have FL := hide (show Below w.heap.size w F by rw [← hF]; exact below_setRow HBV3.out (by omega) _)
    have hFz : g < F.heap.size := FA.out.lt
    clear hF
    go_upto_region 2 with fail
    obtain ⟨G, hG⟩ : ∃ G, F.drew = G := ⟨_, rfl⟩
    have G0 := hide (show Box G _ _ _ by rw [← hG]; exact F0.out.drew)
    have G1 := hide (show Box G _ _ _ by rw [← hG]; exact F1.out.drew)
    have G2 := hide (show Box G _ _ _ by rw [← hG]; exact F2.out.drew)
    have GA := hide (show Box G _ _ _ by rw [← hG]; exact FA.out.drew)
    have GL := hide (show Below w.heap.size w G by rw [← hG]; exact FL.out.drew)
    have hGz : g < G.heap.size := GA.out.lt
    have HG := hide hG
    clear hG
    obtain ⟨T2, hT2⟩ : ∃ T2 : World → Prop, T2 = fun W' => Box W' w.heap.size #[.int .i64 c, .bool false, .bool mn, .int .i64 mi, .string ms, .bool xn, .int .i64 xi, .string xs, .int .i64 su, .bool false] 28 ∧ Box W' (w.heap.size + 1) #[.int .i64 c', .bool hn', .bool mn', .int .i64 mi', .string ms', .bool xn', .int .i64 xi', .string xs', .int .i64 su', .bool ov'] 28 ∧ Box W' g #[.int .i64 (c + c'), .bool hn', .bool m1, .int .i64 i1, .string s1, .bool m2, .int .i64 i2, .string s2, .int .i64 0, .bool ov'] 28 := ⟨_, rfl⟩
    have HT2 := hide hT2
    clear hT2
    refine region_pig T2 10 [(0, 1), (1, 0), (2, 1), (3, 1), (4, 0), (6, 1), (7, 0), (5, 2), (8, 2), (9, 2), (10, 3)] (by kernel_rfl) (by kernel_rfl) (by rw [HG.out, HT2.out]; exact ⟨G0.out, G1.out, GA.out⟩) ?_
    rw [HG.out]
    simp only [opsPiG, List.filterMap_cons, List.filterMap_nil, List.getElem?_toArray, List.getElem?_cons_zero, List.getElem?_cons_succ, Option.map_some]
    repeat (first | (refine pig_any (v := _) rfl (fun W' => by go_simp <;> exact rfl) ?_; simp only [Act.put, List.setIfInBounds_toArray, List.set_cons_zero, List.set_cons_succ]) | (refine pig_take (v := _) rfl (fun W' hW' => by rw [HT2.out] at hW'; have p0 := hW'.1.cell 0 (.int .i64 c) rfl; have p1 := hW'.1.cell 1 (.bool false) rfl; have p2 := hW'.1.cell 2 (.bool mn) rfl; have p3 := hW'.1.cell 3 (.int .i64 mi) rfl; have p4 := hW'.1.cell 4 (.string ms) rfl; have p5 := hW'.1.cell 5 (.bool xn) rfl; have p6 := hW'.1.cell 6 (.int .i64 xi) rfl; have p7 := hW'.1.cell 7 (.string xs) rfl; have p8 := hW'.1.cell 8 (.int .i64 su) rfl; have p9 := hW'.1.cell 9 (.bool false) rfl; have r0 := hW'.2.1.cell 0 (.int .i64 c') rfl; have r1 := hW'.2.1.cell 1 (.bool hn') rfl; have r2 := hW'.2.1.cell 2 (.bool mn') rfl; have r3 := hW'.2.1.cell 3 (.int .i64 mi') rfl; have r4 := hW'.2.1.cell 4 (.string ms') rfl; have r5 := hW'.2.1.cell 5 (.bool xn') rfl; have r6 := hW'.2.1.cell 6 (.int .i64 xi') rfl; have r7 := hW'.2.1.cell 7 (.string xs') rfl; have r8 := hW'.2.1.cell 8 (.int .i64 su') rfl; have r9 := hW'.2.1.cell 9 (.bool ov') rfl; have q0 := hW'.2.2.cell 0 (.int .i64 (c + c')) rfl; have q1 := hW'.2.2.cell 1 (.bool hn') rfl; have q2 := hW'.2.2.cell 2 (.bool m1) rfl; have q3 := hW'.2.2.cell 3 (.int .i64 i1) rfl; have q4 := hW'.2.2.cell 4 (.string s1) rfl; have q5 := hW'.2.2.cell 5 (.bool m2) rfl; have q6 := hW'.2.2.cell 6 (.int .i64 i2) rfl; have q7 := hW'.2.2.cell 7 (.string s2) rfl; have q8 := hW'.2.2.cell 8 (.int .i64 0) rfl; have q9 := hW'.2.2.cell 9 (.bool ov') rfl; clear hW'; go_simp <;> exact rfl) ?_; simp only [Act.put, List.setIfInBounds_toArray, List.set_cons_zero, List.set_cons_succ]) | (refine pig_skip rfl ?_; simp only [Act.put, List.setIfInBounds_toArray, List.set_cons_zero, List.set_cons_succ]) | (refine pig_skip1 rfl ?_; simp only [Act.put, List.setIfInBounds_toArray, List.set_cons_zero, List.set_cons_succ]))
    refine pig_run ?_
    go_wp2_with fail
    refine (hadd1.out G).mono ?_
    rintro e Pw ⟨rfl, hv⟩
    have P0 := hide (G0.out.below hv (by omega))
    have P1 := hide (G1.out.below hv (by omega))
    have P2 := hide (G2.out.below hv (by omega))
    have PA := hide (GA.out.below hv (by omega))
    have PL := hide (GL.out.trans (Below.mono hv (by omega)))
    have hPz : g < Pw.heap.size := PA.out.lt
    clear hv
    go_wp2_with fail
    refine ⟨by rw [HT2.out]; exact ⟨P0.out, P1.out, PA.out⟩, ?_⟩
    refine pig_run ?_
    go_wp2_with fail
    refine (hadd2.out Pw).mono ?_
    rintro e Rw ⟨rfl, hv⟩
    have R0 := hide (P0.out.below hv (by omega))
    have R1 := hide (P1.out.below hv (by omega))
    have R2 := hide (P2.out.below hv (by omega))
    have RA := hide (PA.out.below hv (by omega))
    have RL := hide (PL.out.trans (Below.mono hv (by omega)))
    have hRz : g < Rw.heap.size := RA.out.lt
    clear hv
    go_wp2_with fail
    refine ⟨by rw [HT2.out]; exact ⟨R0.out, R1.out, RA.out⟩, ?_⟩
    refine pig_run ?_
    go_wp2_with fail
    refine (hsm.out Rw).mono ?_
    rintro e Sw ⟨rfl, hv⟩
    have S0 := hide (R0.out.below hv (by omega))
    have S1 := hide (R1.out.below hv (by omega))
    have S2 := hide (R2.out.below hv (by omega))
    have SA := hide (RA.out.below hv (by omega))
    have SL := hide (RL.out.trans (Below.mono hv (by omega)))
    have hSz : g < Sw.heap.size := SA.out.lt
    clear hv
    go_wp2_with fail
    refine ⟨by rw [HT2.out]; exact ⟨S0.out, S1.out, SA.out⟩, ?_⟩
    obtain ⟨zc, zhn, ⟨zm1, zi1, zs1⟩, ⟨zm2, zi2, zs2⟩, zsu, zov⟩ := S
    simp only
    refine pig_late ?_
    go_wp2_with (refine wpList_store_row rfl 28 _ _ rfl (w.heap.size + 1 + 1) #[.int .i64 zc, .bool zhn, .bool zm1, .int .i64 zi1, .string zs1, .bool zm2, .int .i64 zi2, .string zs2, .int .i64 zsu, .bool zov] rfl rfl 28 _ S2.out (by kernel_rfl) rfl (cells_one ⟨zc, zhn, ⟨zm1, zi1, zs1⟩, ⟨zm2, zi2, zs2⟩, zsu, zov⟩) ?_)
    refine pig_done ?_
    go_wp2_with fail
    refine bodyPost_ret (box_results rfl _ (setRow_heap _ _ _ _ _ _ S2.out) rfl Tryd.underlying28 rfl rfl) rfl ?_
    exact ⟨rfl, below_setRow SL.out (by omega) _⟩
#print axioms merge_b
end Go.Proofs.YtdnkclbheimlcaaDoor
