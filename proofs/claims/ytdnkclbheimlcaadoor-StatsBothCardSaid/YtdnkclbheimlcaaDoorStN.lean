/-
  The law on merging, walked.
-/
import Derived.Test.YtdnkclbheimlcaaDoorStKb
import Derived.Test.YtdnkclbheimlcaaDoorStKc
import Derived.Test.YtdnkclbheimlcaaDoorStKd
import Derived.Test.YtdnkclbheimlcaaDoorStKe
import Derived.Test.YtdnkclbheimlcaaDoorStL
import Derived.Test.YtdnkclbheimlcaaDoorStM
import Derived.Test.YtdnkclbheimlcaaDoorStH
namespace Go.Proofs.YtdnkclbheimlcaaDoor
open Go.RowKit
set_option linter.unusedVariables false

theorem merge_any (w : World) (k : Int) (a b : st.St) (hc : -1000000000 ≤ a.c ∧ a.c ≤ 1000000000 ∧ -1000000000 ≤ b.c ∧ b.c ≤ 1000000000) (ha : st.In a.sum) (hb : st.In b.sum) :
    Calls Tryd.prog 14 #[.int .i64 k, .agg (st.cells a), .agg (st.cells b)] w fun e w' => e = .returned (.agg (st.cells (st.merge k a b))) ∧ Below w.heap.size w w' := by
  cases hH : a.hn with
  | false => cases hO : a.ov with
    | false => exact merge_b w k a b hH hO hc ha hb
    | true => exact merge_c w k a b hH hO hc ha hb
  | true => cases hO : a.ov with
    | false => exact merge_d w k a b hH hO hc ha hb
    | true => exact merge_e w k a b hH hO hc ha hb
theorem mayS_c {k : Int} {s : st.St} (h : st.mayS k s = true) : 0 ≤ s.c ∧ s.c ≤ 409600 := by
  unfold st.mayS at h
  rw [Bool.and_eq_true] at h
  simpa using h.1

set_option maxRecDepth 100000 in
set_option maxHeartbeats 4000000 in
theorem statsmerges_walk (w : World) (k : Int) (a b : st.St) (a1 : (Lit.int .i64 a.mn.n).wf = true) (a2 : (Lit.int .i64 a.mx.n).wf = true) (a3 : a.mn.s.size ≤ 9223372036854775807) (a4 : a.mx.s.size ≤ 9223372036854775807) (a5 : st.In a.sum)
    (b1 : (Lit.int .i64 b.mn.n).wf = true) (b2 : (Lit.int .i64 b.mx.n).wf = true) (b3 : b.mn.s.size ≤ 9223372036854775807) (b4 : b.mx.s.size ≤ 9223372036854775807) (b5 : st.In b.sum) (hT : Tabs8 w) :
    Calls Tryd.prog 5 #[.int .i64 k, .agg (st.cells a), .agg (st.cells b)] w fun e w' => e = .returned (.bool true) ∧ Below w.heap.size w w' := by
  obtain ⟨x, hx⟩ : ∃ x, st.mayS k a = x := ⟨_, rfl⟩
  obtain ⟨y, hy⟩ : ∃ x, st.mayS k b = x := ⟨_, rfl⟩
  have hra := hide (fun (w : World) (hT : Tabs8 w) => hx ▸ refmay_any w k a a3 a4 hT)
  have hrb := hide (fun (w : World) (hT : Tabs8 w) => hy ▸ refmay_any w k b b3 b4 hT)
  have hva := hide (fun (w : World) (hT : Tabs8 w) => hx ▸ may_any w k a a1 a2 a3 a4 hT)
  have hvb := hide (fun (w : World) (hT : Tabs8 w) => hy ▸ may_any w k b b1 b2 b3 b4 hT)
  have hm := hide (fun (h : x = true) (h2 : y = true) (w : World) => merge_any w k a b (by rw [h] at hx; rw [h2] at hy; have e1 := mayS_c hx; have e2 := mayS_c hy; omega) a5 b5)
  have hr := hide (fun (h : x = true) (h2 : y = true) (w : World) => refmerge_any w k a b (by rw [h] at hx; rw [h2] at hy; have e1 := mayS_c hx; have e2 := mayS_c hy; omega) a5 b5)
  obtain ⟨S, hS⟩ : ∃ S, st.merge k a b = S := ⟨_, rfl⟩
  rw [hS] at hm hr
  clear hx hy hS a1 a2 a3 a4 a5 b1 b2 b3 b4 b5
  obtain ⟨c, hn, ⟨mn, mi, ms⟩, ⟨xn, xi, xs⟩, su, ov⟩ := a
  obtain ⟨c', hn', ⟨mn', mi', ms'⟩, ⟨xn', xi', xs'⟩, su', ov'⟩ := b
  simp only [st.cells] at hra hrb hva hvb hm hr ⊢
  obtain ⟨W, hW, h0, h1, hbb, hz⟩ := two_boxes w #[.int .i64 c, .bool hn, .bool mn, .int .i64 mi, .string ms, .bool xn, .int .i64 xi, .string xs, .int .i64 su, .bool ov] #[.int .i64 c', .bool hn', .bool mn', .int .i64 mi', .string ms', .bool xn', .int .i64 xi', .string xs', .int .i64 su', .bool ov'] 28
  have HW := hide hW
  have HA0 := hide h0
  have HB0 := hide h1
  have HL0 := hide (show Le w W from hbb)
  have HT0 := hide (hT.le hbb)
  have hxx : (x != x) = false := by cases x <;> rfl
  have hyy : (y != y) = false := by cases y <;> rfl
  clear hW h0 h1 hbb hz hT
  go_enter Tryd.func5, Tryd.ntmps5
  go_wp2_with fail
  rw [HW.out]
  have a0 := HA0.out.cell 0 (.int .i64 c) rfl
  have a1 := HA0.out.cell 1 (.bool hn) rfl
  have a2 := HA0.out.cell 2 (.bool mn) rfl
  have a3 := HA0.out.cell 3 (.int .i64 mi) rfl
  have a4 := HA0.out.cell 4 (.string ms) rfl
  have a5 := HA0.out.cell 5 (.bool xn) rfl
  have a6 := HA0.out.cell 6 (.int .i64 xi) rfl
  have a7 := HA0.out.cell 7 (.string xs) rfl
  have a8 := HA0.out.cell 8 (.int .i64 su) rfl
  have a9 := HA0.out.cell 9 (.bool ov) rfl
  have b0 := HB0.out.cell 0 (.int .i64 c') rfl
  have b1 := HB0.out.cell 1 (.bool hn') rfl
  have b2 := HB0.out.cell 2 (.bool mn') rfl
  have b3 := HB0.out.cell 3 (.int .i64 mi') rfl
  have b4 := HB0.out.cell 4 (.string ms') rfl
  have b5 := HB0.out.cell 5 (.bool xn') rfl
  have b6 := HB0.out.cell 6 (.int .i64 xi') rfl
  have b7 := HB0.out.cell 7 (.string xs') rfl
  have b8 := HB0.out.cell 8 (.int .i64 su') rfl
  have b9 := HB0.out.cell 9 (.bool ov') rfl
  refine (shown_any W).mono ?_
  rintro e w1 ⟨rfl, hb⟩
  have HA1 := hide (HA0.out.below hb HA0.out.lt)
  have HB1 := hide (HB0.out.below hb HB0.out.lt)
  have HT1 := hide (HT0.out.le hb)
  have HL1 := hide (HL0.out.trans hb)
  clear hb a0 a1 a2 a3 a4 a5 a6 a7 a8 a9 b0 b1 b2 b3 b4 b5 b6 b7 b8 b9 HA0 HB0 HT0 HL0
  have a0 := HA1.out.cell 0 (.int .i64 c) rfl
  have a1 := HA1.out.cell 1 (.bool hn) rfl
  have a2 := HA1.out.cell 2 (.bool mn) rfl
  have a3 := HA1.out.cell 3 (.int .i64 mi) rfl
  have a4 := HA1.out.cell 4 (.string ms) rfl
  have a5 := HA1.out.cell 5 (.bool xn) rfl
  have a6 := HA1.out.cell 6 (.int .i64 xi) rfl
  have a7 := HA1.out.cell 7 (.string xs) rfl
  have a8 := HA1.out.cell 8 (.int .i64 su) rfl
  have a9 := HA1.out.cell 9 (.bool ov) rfl
  have b0 := HB1.out.cell 0 (.int .i64 c') rfl
  have b1 := HB1.out.cell 1 (.bool hn') rfl
  have b2 := HB1.out.cell 2 (.bool mn') rfl
  have b3 := HB1.out.cell 3 (.int .i64 mi') rfl
  have b4 := HB1.out.cell 4 (.string ms') rfl
  have b5 := HB1.out.cell 5 (.bool xn') rfl
  have b6 := HB1.out.cell 6 (.int .i64 xi') rfl
  have b7 := HB1.out.cell 7 (.string xs') rfl
  have b8 := HB1.out.cell 8 (.int .i64 su') rfl
  have b9 := HB1.out.cell 9 (.bool ov') rfl
  go_wp2_with fail
  refine (hra.out w1 HT1.out).mono ?_
  rintro e w2 ⟨rfl, hb⟩
  have HA2 := hide (HA1.out.below hb HA1.out.lt)
  have HB2 := hide (HB1.out.below hb HB1.out.lt)
  have HT2 := hide (HT1.out.le hb)
  have HL2 := hide (HL1.out.trans hb)
  clear hb a0 a1 a2 a3 a4 a5 a6 a7 a8 a9 b0 b1 b2 b3 b4 b5 b6 b7 b8 b9 HA1 HB1 HT1 HL1
  have a0 := HA2.out.cell 0 (.int .i64 c) rfl
  have a1 := HA2.out.cell 1 (.bool hn) rfl
  have a2 := HA2.out.cell 2 (.bool mn) rfl
  have a3 := HA2.out.cell 3 (.int .i64 mi) rfl
  have a4 := HA2.out.cell 4 (.string ms) rfl
  have a5 := HA2.out.cell 5 (.bool xn) rfl
  have a6 := HA2.out.cell 6 (.int .i64 xi) rfl
  have a7 := HA2.out.cell 7 (.string xs) rfl
  have a8 := HA2.out.cell 8 (.int .i64 su) rfl
  have a9 := HA2.out.cell 9 (.bool ov) rfl
  have b0 := HB2.out.cell 0 (.int .i64 c') rfl
  have b1 := HB2.out.cell 1 (.bool hn') rfl
  have b2 := HB2.out.cell 2 (.bool mn') rfl
  have b3 := HB2.out.cell 3 (.int .i64 mi') rfl
  have b4 := HB2.out.cell 4 (.string ms') rfl
  have b5 := HB2.out.cell 5 (.bool xn') rfl
  have b6 := HB2.out.cell 6 (.int .i64 xi') rfl
  have b7 := HB2.out.cell 7 (.string xs') rfl
  have b8 := HB2.out.cell 8 (.int .i64 su') rfl
  have b9 := HB2.out.cell 9 (.bool ov') rfl
  go_wp2_with fail
  refine (hrb.out w2 HT2.out).mono ?_
  rintro e w3 ⟨rfl, hb⟩
  have HA3 := hide (HA2.out.below hb HA2.out.lt)
  have HB3 := hide (HB2.out.below hb HB2.out.lt)
  have HT3 := hide (HT2.out.le hb)
  have HL3 := hide (HL2.out.trans hb)
  clear hb a0 a1 a2 a3 a4 a5 a6 a7 a8 a9 b0 b1 b2 b3 b4 b5 b6 b7 b8 b9 HA2 HB2 HT2 HL2
  have a0 := HA3.out.cell 0 (.int .i64 c) rfl
  have a1 := HA3.out.cell 1 (.bool hn) rfl
  have a2 := HA3.out.cell 2 (.bool mn) rfl
  have a3 := HA3.out.cell 3 (.int .i64 mi) rfl
  have a4 := HA3.out.cell 4 (.string ms) rfl
  have a5 := HA3.out.cell 5 (.bool xn) rfl
  have a6 := HA3.out.cell 6 (.int .i64 xi) rfl
  have a7 := HA3.out.cell 7 (.string xs) rfl
  have a8 := HA3.out.cell 8 (.int .i64 su) rfl
  have a9 := HA3.out.cell 9 (.bool ov) rfl
  have b0 := HB3.out.cell 0 (.int .i64 c') rfl
  have b1 := HB3.out.cell 1 (.bool hn') rfl
  have b2 := HB3.out.cell 2 (.bool mn') rfl
  have b3 := HB3.out.cell 3 (.int .i64 mi') rfl
  have b4 := HB3.out.cell 4 (.string ms') rfl
  have b5 := HB3.out.cell 5 (.bool xn') rfl
  have b6 := HB3.out.cell 6 (.int .i64 xi') rfl
  have b7 := HB3.out.cell 7 (.string xs') rfl
  have b8 := HB3.out.cell 8 (.int .i64 su') rfl
  have b9 := HB3.out.cell 9 (.bool ov') rfl
  go_wp2_with fail
  refine (hva.out w3 HT3.out).mono ?_
  rintro e w4 ⟨rfl, hb⟩
  have HA4 := hide (HA3.out.below hb HA3.out.lt)
  have HB4 := hide (HB3.out.below hb HB3.out.lt)
  have HT4 := hide (HT3.out.le hb)
  have HL4 := hide (HL3.out.trans hb)
  clear hb a0 a1 a2 a3 a4 a5 a6 a7 a8 a9 b0 b1 b2 b3 b4 b5 b6 b7 b8 b9 HA3 HB3 HT3 HL3
  have a0 := HA4.out.cell 0 (.int .i64 c) rfl
  have a1 := HA4.out.cell 1 (.bool hn) rfl
  have a2 := HA4.out.cell 2 (.bool mn) rfl
  have a3 := HA4.out.cell 3 (.int .i64 mi) rfl
  have a4 := HA4.out.cell 4 (.string ms) rfl
  have a5 := HA4.out.cell 5 (.bool xn) rfl
  have a6 := HA4.out.cell 6 (.int .i64 xi) rfl
  have a7 := HA4.out.cell 7 (.string xs) rfl
  have a8 := HA4.out.cell 8 (.int .i64 su) rfl
  have a9 := HA4.out.cell 9 (.bool ov) rfl
  have b0 := HB4.out.cell 0 (.int .i64 c') rfl
  have b1 := HB4.out.cell 1 (.bool hn') rfl
  have b2 := HB4.out.cell 2 (.bool mn') rfl
  have b3 := HB4.out.cell 3 (.int .i64 mi') rfl
  have b4 := HB4.out.cell 4 (.string ms') rfl
  have b5 := HB4.out.cell 5 (.bool xn') rfl
  have b6 := HB4.out.cell 6 (.int .i64 xi') rfl
  have b7 := HB4.out.cell 7 (.string xs') rfl
  have b8 := HB4.out.cell 8 (.int .i64 su') rfl
  have b9 := HB4.out.cell 9 (.bool ov') rfl
  go_wp2_with fail
  refine (hvb.out w4 HT4.out).mono ?_
  rintro e w5 ⟨rfl, hb⟩
  have HA5 := hide (HA4.out.below hb HA4.out.lt)
  have HB5 := hide (HB4.out.below hb HB4.out.lt)
  have HT5 := hide (HT4.out.le hb)
  have HL5 := hide (HL4.out.trans hb)
  clear hb a0 a1 a2 a3 a4 a5 a6 a7 a8 a9 b0 b1 b2 b3 b4 b5 b6 b7 b8 b9 HA4 HB4 HT4 HL4
  obtain ⟨V, hV⟩ : ∃ V, w5.drew = V := ⟨_, rfl⟩
  have HA6 := hide (show Box V w.heap.size #[.int .i64 c, .bool hn, .bool mn, .int .i64 mi, .string ms, .bool xn, .int .i64 xi, .string xs, .int .i64 su, .bool ov] 28 by rw [← hV]; exact HA5.out.drew)
  have HB6 := hide (show Box V (w.heap.size + 1) #[.int .i64 c', .bool hn', .bool mn', .int .i64 mi', .string ms', .bool xn', .int .i64 xi', .string xs', .int .i64 su', .bool ov'] 28 by rw [← hV]; exact HB5.out.drew)
  have HL6 := hide (show Le w V by rw [← hV]; exact HL5.out.drew)
  have HV := hide hV
  clear hV HA5 HB5 HT5 HL5
  have a0 := HA6.out.later 0 (.int .i64 c) rfl
  have a1 := HA6.out.later 1 (.bool hn) rfl
  have a2 := HA6.out.later 2 (.bool mn) rfl
  have a3 := HA6.out.later 3 (.int .i64 mi) rfl
  have a4 := HA6.out.later 4 (.string ms) rfl
  have a5 := HA6.out.later 5 (.bool xn) rfl
  have a6 := HA6.out.later 6 (.int .i64 xi) rfl
  have a7 := HA6.out.later 7 (.string xs) rfl
  have a8 := HA6.out.later 8 (.int .i64 su) rfl
  have a9 := HA6.out.later 9 (.bool ov) rfl
  have b0 := HB6.out.later 0 (.int .i64 c') rfl
  have b1 := HB6.out.later 1 (.bool hn') rfl
  have b2 := HB6.out.later 2 (.bool mn') rfl
  have b3 := HB6.out.later 3 (.int .i64 mi') rfl
  have b4 := HB6.out.later 4 (.string ms') rfl
  have b5 := HB6.out.later 5 (.bool xn') rfl
  have b6 := HB6.out.later 6 (.int .i64 xi') rfl
  have b7 := HB6.out.later 7 (.string xs') rfl
  have b8 := HB6.out.later 8 (.int .i64 su') rfl
  have b9 := HB6.out.later 9 (.bool ov') rfl
  go_wp2_with fail
  cases x
  · skip
    refine region_pi [(0, true), (1, true), (2, true), (3, true), (4, true), (5, true), (6, true), (7, true), (8, true), (9, true), (10, true), (11, true), (12, true), (13, true), (14, true), (15, true), (16, true), (17, true)] (by kernel_rfl) (by kernel_rfl) ?_
    simp only [opsPi, List.filterMap_cons, List.filterMap_nil, List.getElem?_toArray, List.getElem?_cons_zero, List.getElem?_cons_succ, Option.map_some]
    rw [HV.out]
    repeat (first | (refine pi_take (v := _) rfl (fun W hW => by go_simp <;> exact rfl) ?_; simp only [Act.put, List.setIfInBounds_toArray, List.set_cons_zero, List.set_cons_succ]) | (refine pi_skip rfl ?_; simp only [Act.put, List.setIfInBounds_toArray, List.set_cons_zero, List.set_cons_succ]))
    refine pi_done ?_
    go_wp2_with fail
    go_ret
    exact ⟨rfl, HL6.out⟩
  · cases y
    · skip
      refine region_pi [(0, true), (1, true), (2, true), (3, true), (4, true), (5, true), (6, true), (7, true), (8, true), (9, true), (10, true), (11, true), (12, true), (13, true), (14, true), (15, true), (16, true), (17, true)] (by kernel_rfl) (by kernel_rfl) ?_
      simp only [opsPi, List.filterMap_cons, List.filterMap_nil, List.getElem?_toArray, List.getElem?_cons_zero, List.getElem?_cons_succ, Option.map_some]
      rw [HV.out]
      repeat (first | (refine pi_take (v := _) rfl (fun W hW => by go_simp <;> exact rfl) ?_; simp only [Act.put, List.setIfInBounds_toArray, List.set_cons_zero, List.set_cons_succ]) | (refine pi_skip rfl ?_; simp only [Act.put, List.setIfInBounds_toArray, List.set_cons_zero, List.set_cons_succ]))
      refine pi_done ?_
      go_wp2_with fail
      go_ret
      exact ⟨rfl, HL6.out⟩
    · skip
      refine region_pi [(0, true), (1, true), (2, true), (3, true), (4, true), (5, true), (6, true), (7, true), (8, true), (9, true), (11, true), (12, true), (13, true), (10, false), (14, false), (15, true), (16, true), (17, true)] (by kernel_rfl) (by kernel_rfl) ?_
      simp only [opsPi, List.filterMap_cons, List.filterMap_nil, List.getElem?_toArray, List.getElem?_cons_zero, List.getElem?_cons_succ, Option.map_some]
      rw [HV.out]
      repeat (first | (refine pi_take (v := _) rfl (fun W hW => by go_simp <;> exact rfl) ?_; simp only [Act.put, List.setIfInBounds_toArray, List.set_cons_zero, List.set_cons_succ]) | (refine pi_skip rfl ?_; simp only [Act.put, List.setIfInBounds_toArray, List.set_cons_zero, List.set_cons_succ]))
      refine pi_run ?_
      go_wp2_with fail
      refine (hm.out (by first | rfl | trivial) (by first | rfl | trivial) V).mono ?_
      rintro e V1 ⟨rfl, hb⟩
      have HL7 := hide (HL6.out.trans hb)
      have HA7 := hide (HA6.out.below hb HA6.out.lt)
      have HB7 := hide (HB6.out.below hb HB6.out.lt)
      clear a0 a1 a2 a3 a4 a5 a6 a7 a8 a9 b0 b1 b2 b3 b4 b5 b6 b7 b8 b9
      have a0 := HA7.out.later 0 (.int .i64 c) rfl
      have a1 := HA7.out.later 1 (.bool hn) rfl
      have a2 := HA7.out.later 2 (.bool mn) rfl
      have a3 := HA7.out.later 3 (.int .i64 mi) rfl
      have a4 := HA7.out.later 4 (.string ms) rfl
      have a5 := HA7.out.later 5 (.bool xn) rfl
      have a6 := HA7.out.later 6 (.int .i64 xi) rfl
      have a7 := HA7.out.later 7 (.string xs) rfl
      have a8 := HA7.out.later 8 (.int .i64 su) rfl
      have a9 := HA7.out.later 9 (.bool ov) rfl
      have b0 := HB7.out.later 0 (.int .i64 c') rfl
      have b1 := HB7.out.later 1 (.bool hn') rfl
      have b2 := HB7.out.later 2 (.bool mn') rfl
      have b3 := HB7.out.later 3 (.int .i64 mi') rfl
      have b4 := HB7.out.later 4 (.string ms') rfl
      have b5 := HB7.out.later 5 (.bool xn') rfl
      have b6 := HB7.out.later 6 (.int .i64 xi') rfl
      have b7 := HB7.out.later 7 (.string xs') rfl
      have b8 := HB7.out.later 8 (.int .i64 su') rfl
      have b9 := HB7.out.later 9 (.bool ov') rfl
      go_wp2_with fail
      refine ⟨hb, ?_⟩
      clear hb
      repeat (first | (refine pi_take (v := _) rfl (fun W hW => by go_simp <;> exact rfl) ?_; simp only [Act.put, List.setIfInBounds_toArray, List.set_cons_zero, List.set_cons_succ]) | (refine pi_skip rfl ?_; simp only [Act.put, List.setIfInBounds_toArray, List.set_cons_zero, List.set_cons_succ]))
      refine pi_run ?_
      go_wp2_with fail
      refine (hr.out (by first | rfl | trivial) (by first | rfl | trivial) V1).mono ?_
      rintro e V2 ⟨rfl, hb⟩
      have HL8 := hide (HL7.out.trans hb)
      clear a0 a1 a2 a3 a4 a5 a6 a7 a8 a9 b0 b1 b2 b3 b4 b5 b6 b7 b8 b9
      obtain ⟨sc, shn, ⟨smn, smi, sms⟩, ⟨sxn, sxi, sxs⟩, ssu, sov⟩ := S
      try simp only
      go_wp2_with fail
      refine ⟨hb, ?_⟩
      clear hb
      repeat (first | (refine pi_take (v := _) rfl (fun W hW => by go_simp <;> exact rfl) ?_; simp only [Act.put, List.setIfInBounds_toArray, List.set_cons_zero, List.set_cons_succ]) | (refine pi_skip rfl ?_; simp only [Act.put, List.setIfInBounds_toArray, List.set_cons_zero, List.set_cons_succ]))
      refine pi_done ?_
      go_wp2_with fail
      go_ret
      exact ⟨rfl, HL8.out⟩
#print axioms statsmerges_walk
end Go.Proofs.YtdnkclbheimlcaaDoor
