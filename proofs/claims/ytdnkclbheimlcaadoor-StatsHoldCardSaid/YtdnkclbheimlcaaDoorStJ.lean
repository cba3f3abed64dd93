/-
  What is known of values: the law that each stands between the least and the greatest one, walked.
-/
import Derived.Test.YtdnkclbheimlcaaDoorStH
import Derived.Test.YtdnkclbheimlcaaDoorStI
namespace Go.Proofs.YtdnkclbheimlcaaDoor
open Go.RowKit
set_option linter.unusedVariables false

set_option maxRecDepth 100000 in
set_option maxHeartbeats 4000000 in
theorem statshold_walk (w : World) (k : Int) (A : Option Addr) (n c : Nat) (l : List va.Val) (hl : l.length = n) (hn : n ≤ 9223372036854775807) (hin : ∀ v ∈ l, st.In v.n ∧ v.s.size ≤ 9223372036854775807) (hT : Tabs8 w) (hr : Row w w.heap.size A (vcs l)) :
    Calls Tryd.prog 4 #[.int .i64 k, .slice A n c] w fun e w' => e = .returned (.bool true) ∧ Below w.heap.size w w' := by
  have HIN := hide hin
  have HT := hide hT
  have HL := hide hl
  clear hin hT hl
  go_enter Tryd.func4, Tryd.ntmps4
  go_wp2_with fail
  refine (shown_any w).mono ?_
  rintro e w1 ⟨rfl, hb1⟩
  have HB1 := hide (show Le w w1 from hb1)
  clear hb1
  go_wp2_with fail
  refine (vfew_any w1 k A n c l HL.out hn (fun v hv => (HIN.out v hv).2) (HT.out.le HB1.out) ((HB1.out.row hr (Nat.le_refl _)).more HB1.out.size)).mono ?_
  rintro e w2 ⟨o, A2, m, c2, rfl, hol, hm, hom, hr2, hb2⟩
  have HB2 := hide (show Le w w2 from HB1.out.trans hb2)
  have HOL := hide hol
  have HOI := hide (show ∀ v ∈ o, st.In v.n from fun v hv => (HIN.out v (hom v hv)).1)
  clear hol hom hb2 HL hr
  go_wp2_with fail
  refine (of_any w2 k A2 m c2 o HOL.out (by omega) HOI.out hr2).mono ?_
  rintro e w3 ⟨rfl, hb3⟩
  have HAM := hide (show ∀ v ∈ o, v.nul = false → va.cmpV (st.acc o).mn v ≤ 0 ∧ va.cmpV v (st.acc o).mx ≤ 0 from fun v hv hn => ⟨((st.among_acc o).1 v hv hn).2.2.1, ((st.among_acc o).1 v hv hn).2.2.2⟩)
  have HHN := hide (st.acc_hn o)
  have HHAS := hide (st.has_least o)
  have HNUL := hide (st.nul_iff o)
  have hcle := (st.acc_in HOI.out).1
  obtain ⟨S, hS⟩ : ∃ S, st.of k o = S := ⟨_, rfl⟩
  have hSc : S.c = (st.acc o).c ∧ S.hn = (st.acc o).hn ∧ S.mn = (st.acc o).mn ∧ S.mx = (st.acc o).mx := by rw [← hS]; unfold st.of st.summed; split <;> exact ⟨rfl, rfl, rfl, rfl⟩
  rw [hS]
  obtain ⟨sc, shn, ⟨mn, mi, ms⟩, ⟨xn, xi, xs⟩, su, ov⟩ := S
  simp only at hSc
  obtain ⟨h1, h2, h3, h4⟩ := hSc
  rw [← h3, ← h4] at HAM HHAS HNUL
  simp only [st.cells]
  obtain ⟨X, hX⟩ : ∃ X, w3.alloc (.cells #[.int .i64 sc, .bool shn, .bool mn, .int .i64 mi, .string ms, .bool xn, .int .i64 xi, .string xs, .int .i64 su, .bool ov] 28) = X := ⟨_, rfl⟩
  have bx := box_new w3 #[.int .i64 sc, .bool shn, .bool mn, .int .i64 mi, .string ms, .bool xn, .int .i64 xi, .string xs, .int .i64 su, .bool ov] 28
  rw [hX] at bx
  have HX := hide hX
  have HB3 := hide (show Le w2 X by rw [← hX]; exact hb3.alloc hb3.size _)
  have BX := hide bx
  have HR2 := hide ((HB3.out.row hr2 (Nat.le_refl _)).more HB3.out.size)
  have HS := hide (show (sc = ((st.acc o).c : Int)) ∧ shn = (st.acc o).hn from ⟨h1, h2⟩)
  have HBX := hide (show Le w X from HB2.out.trans HB3.out)
  clear hb3 hS h1 h2 h3 h4 hX bx hr2 HB2 HB3
  go_upto_region 8 with fail
  rw [HX.out]
  go_loopw [7, 8, 9, 10] (fun nn ls ms_ i wr => ∃ j : Nat, j ≤ m ∧ i = .int .i64 j ∧ nn = .int .i64 ((st.acc (o.take j)).c : Int) ∧ ls = .bool (st.has ⟨mn, mi, ms⟩ (o.take j)) ∧ ms_ = .bool (st.has ⟨xn, xi, xs⟩ (o.take j)) ∧ Hid (Le X wr)) (fun _ _ _ i _ => m - (intOf i).toNat)
  case atStart => exact ⟨0, Nat.zero_le _, rfl, rfl, rfl, rfl, hide (Le.refl _)⟩
  case round =>
    obtain ⟨j, hj, rfl, rfl, rfl, rfl, HB⟩ := hrel
    by_cases hjm : j < m
    · obtain ⟨v, hv⟩ : ∃ v, o[j]? = some v := ⟨_, List.getElem?_eq_getElem (by rw [HOL.out]; exact hjm)⟩
      obtain ⟨bA, oA, rfl, hbA, c0, c1, c2⟩ := row_at3 HR2.out hv
      have e0 : wr.cell? ⟨bA, oA + j * 3, none⟩ = some (.bool v.nul) := (HB.out.cell (p := ⟨bA, oA + j * 3, none⟩) hbA).trans c0
      have HACC := hide (st.acc_snoc hv)
      have hcj := (st.acc_in (l := o.take j) (fun v hv => HOI.out v (List.mem_of_mem_take hv))).1
      rw [List.length_take, HOL.out] at hcj
      cases hvn : v.nul with
      | true =>
        rw [hvn] at e0
        have H1 := hide (st.has_snoc_nul (p := ⟨mn, mi, ms⟩) hv hvn)
        have H2 := hide (st.has_snoc_nul (p := ⟨xn, xi, xs⟩) hv hvn)
        have H3 := hide (show (st.acc (o.take (j + 1))).c = (st.acc (o.take j)).c by rw [HACC.out, st.step_nul hvn])
        clear c0 c1 c2 hv hvn
        go_wp2_with fail
        exact ⟨⟨j + 1, by omega, by go_num, by rw [H3.out], by rw [H1.out], by rw [H2.out], HB⟩, by simp [intOf]; omega⟩
      | false =>
        rw [hvn] at e0
        have H1 := hide (st.has_snoc_some (p := ⟨mn, mi, ms⟩) hv hvn)
        have H2 := hide (st.has_snoc_some (p := ⟨xn, xi, xs⟩) hv hvn)
        have H3 := hide (show (st.acc (o.take (j + 1))).c = (st.acc (o.take j)).c + 1 by rw [HACC.out, st.step_some hvn])
        have hbt := HAM.out v (List.mem_of_getElem? hv) hvn
        obtain ⟨cc, hcc⟩ : ∃ cc, (st.acc (o.take j)).c = cc := ⟨_, rfl⟩
        rw [hcc] at H3 hcj ⊢
        obtain ⟨lst, hlst⟩ : ∃ b, st.has ⟨mn, mi, ms⟩ (o.take j) = b := ⟨_, rfl⟩
        rw [hlst] at H1 ⊢
        obtain ⟨mst, hmst⟩ : ∃ b, st.has ⟨xn, xi, xs⟩ (o.take j) = b := ⟨_, rfl⟩
        rw [hmst] at H2 ⊢
        obtain ⟨vn, vi, vs⟩ := v
        obtain rfl : vn = false := hvn
        obtain ⟨z1, hz1⟩ : ∃ z, va.cmpV ⟨false, vi, vs⟩ ⟨mn, mi, ms⟩ = z := ⟨_, rfl⟩
        obtain ⟨z2, hz2⟩ : ∃ z, va.cmpV ⟨false, vi, vs⟩ ⟨xn, xi, xs⟩ = z := ⟨_, rfl⟩
        have HC1 := hide (fun (w : World) => hz1 ▸ refcompare_any w ⟨false, vi, vs⟩ ⟨mn, mi, ms⟩)
        have HC2 := hide (fun (w : World) => hz2 ▸ refcompare_any w ⟨false, vi, vs⟩ ⟨xn, xi, xs⟩)
        simp only at HC1 HC2
        have d1 : decide (z1 < 0) = false := decide_eq_false (by rw [va.cmpV_anti, hz1] at hbt; omega)
        have d2 : decide (0 < z2) = false := decide_eq_false (by rw [hz2] at hbt; omega)
        have hcw : IntKind.i64.wrap ((cc : Int) + 1) = (cc : Int) + 1 := by rw [IntKind.wrap_i64]; omega
        simp only at c0 c1 c2
        have HC0 := hide c0
        have HC1' := hide c1
        have HC2' := hide c2
        clear c0 c1 c2 hv hz1 hz2 hbt hcc hlst hmst
        go_upto_region 12 with fail
        clear e0 hcw
        cases lst <;> cases mst
        · obtain ⟨V1, hV1⟩ : ∃ V1, wr.drew = V1 := ⟨_, rfl⟩
          have HLV1 := hide (show Le X V1 by rw [← hV1]; exact HB.out.drew)
          have HVV1 := hide hV1
          clear hV1
          have g0 : ∀ W', Le V1 W' → W'.cell? ⟨bA, oA + j * 3, none⟩ = some (Value.bool false) := fun W' h => ((HLV1.out.trans h).cell (p := ⟨bA, oA + j * 3, none⟩) hbA).trans HC0.out
          have g1 : ∀ W', Le V1 W' → W'.cell? ⟨bA, oA + j * 3 + 1, none⟩ = some (Value.int .i64 vi) := fun W' h => ((HLV1.out.trans h).cell (p := ⟨bA, oA + j * 3 + 1, none⟩) hbA).trans HC1'.out
          have g2 : ∀ W', Le V1 W' → W'.cell? ⟨bA, oA + j * 3 + 2, none⟩ = some (Value.string vs) := fun W' h => ((HLV1.out.trans h).cell (p := ⟨bA, oA + j * 3 + 2, none⟩) hbA).trans HC2'.out
          have bw := BX.out.below HLV1.out BX.out.lt
          have k2 := bw.later 2 (.bool mn) rfl
          have k3 := bw.later 3 (.int .i64 mi) rfl
          have k4 := bw.later 4 (.string ms) rfl
          have k5 := bw.later 5 (.bool xn) rfl
          have k6 := bw.later 6 (.int .i64 xi) rfl
          have k7 := bw.later 7 (.string xs) rfl
          clear bw
          refine region_pi [(0, true), (1, true), (2, true), (3, true), (4, true), (5, true), (6, true), (7, true), (8, true), (9, true), (10, true)] (by kernel_rfl) (by kernel_rfl) ?_
          simp only [opsPi, List.filterMap_cons, List.filterMap_nil, List.getElem?_toArray, List.getElem?_cons_zero, List.getElem?_cons_succ, Option.map_some]
          rw [HVV1.out]
          repeat (first | (refine pi_take (v := _) rfl (fun W hW => by go_simp <;> exact rfl) ?_; simp only [Act.put, List.setIfInBounds_toArray, List.set_cons_zero, List.set_cons_succ]) | (refine pi_skip rfl ?_; simp only [Act.put, List.setIfInBounds_toArray, List.set_cons_zero, List.set_cons_succ]))
          refine pi_take (v := .bool (st.eqb ⟨false, vi, vs⟩ ⟨mn, mi, ms⟩)) rfl (fun W' hW' => ?_) ?_
          · clear g0 g1 g2 k2 k3 k4 k5 k6 k7
            go_simp
            unfold st.eqb
            repeat' split
            all_goals simp_all
          simp only [Act.put, List.setIfInBounds_toArray, List.set_cons_zero, List.set_cons_succ]
          repeat (first | (refine pi_take (v := _) rfl (fun W hW => by go_simp <;> exact rfl) ?_; simp only [Act.put, List.setIfInBounds_toArray, List.set_cons_zero, List.set_cons_succ]) | (refine pi_skip rfl ?_; simp only [Act.put, List.setIfInBounds_toArray, List.set_cons_zero, List.set_cons_succ]))
          refine pi_done ?_
          clear g0 g1 g2 k2 k3 k4 k5 k6 k7
          obtain ⟨q1, hq1⟩ : ∃ q, st.eqb ⟨false, vi, vs⟩ ⟨mn, mi, ms⟩ = q := ⟨_, rfl⟩
          rw [hq1] at H1 ⊢
          clear hq1
          go_upto_region 13 with fail
          obtain ⟨V2, hV2⟩ : ∃ V2, V1.drew = V2 := ⟨_, rfl⟩
          have HLV2 := hide (show Le X V2 by rw [← hV2]; exact HLV1.out.drew)
          have HVV2 := hide hV2
          clear hV2
          have g0 : ∀ W', Le V2 W' → W'.cell? ⟨bA, oA + j * 3, none⟩ = some (Value.bool false) := fun W' h => ((HLV2.out.trans h).cell (p := ⟨bA, oA + j * 3, none⟩) hbA).trans HC0.out
          have g1 : ∀ W', Le V2 W' → W'.cell? ⟨bA, oA + j * 3 + 1, none⟩ = some (Value.int .i64 vi) := fun W' h => ((HLV2.out.trans h).cell (p := ⟨bA, oA + j * 3 + 1, none⟩) hbA).trans HC1'.out
          have g2 : ∀ W', Le V2 W' → W'.cell? ⟨bA, oA + j * 3 + 2, none⟩ = some (Value.string vs) := fun W' h => ((HLV2.out.trans h).cell (p := ⟨bA, oA + j * 3 + 2, none⟩) hbA).trans HC2'.out
          have bw := BX.out.below HLV2.out BX.out.lt
          have k2 := bw.later 2 (.bool mn) rfl
          have k3 := bw.later 3 (.int .i64 mi) rfl
          have k4 := bw.later 4 (.string ms) rfl
          have k5 := bw.later 5 (.bool xn) rfl
          have k6 := bw.later 6 (.int .i64 xi) rfl
          have k7 := bw.later 7 (.string xs) rfl
          clear bw
          refine region_pi [(0, true), (1, true), (2, true), (3, true), (4, true), (5, true), (6, true), (7, true), (8, true), (9, true), (10, true)] (by kernel_rfl) (by kernel_rfl) ?_
          simp only [opsPi, List.filterMap_cons, List.filterMap_nil, List.getElem?_toArray, List.getElem?_cons_zero, List.getElem?_cons_succ, Option.map_some]
          rw [HVV2.out]
          repeat (first | (refine pi_take (v := _) rfl (fun W hW => by go_simp <;> exact rfl) ?_; simp only [Act.put, List.setIfInBounds_toArray, List.set_cons_zero, List.set_cons_succ]) | (refine pi_skip rfl ?_; simp only [Act.put, List.setIfInBounds_toArray, List.set_cons_zero, List.set_cons_succ]))
          refine pi_take (v := .bool (st.eqb ⟨false, vi, vs⟩ ⟨xn, xi, xs⟩)) rfl (fun W' hW' => ?_) ?_
          · clear g0 g1 g2 k2 k3 k4 k5 k6 k7
            go_simp
            unfold st.eqb
            repeat' split
            all_goals simp_all
          simp only [Act.put, List.setIfInBounds_toArray, List.set_cons_zero, List.set_cons_succ]
          repeat (first | (refine pi_take (v := _) rfl (fun W hW => by go_simp <;> exact rfl) ?_; simp only [Act.put, List.setIfInBounds_toArray, List.set_cons_zero, List.set_cons_succ]) | (refine pi_skip rfl ?_; simp only [Act.put, List.setIfInBounds_toArray, List.set_cons_zero, List.set_cons_succ]))
          refine pi_done ?_
          clear g0 g1 g2 k2 k3 k4 k5 k6 k7
          obtain ⟨q2, hq2⟩ : ∃ q, st.eqb ⟨false, vi, vs⟩ ⟨xn, xi, xs⟩ = q := ⟨_, rfl⟩
          rw [hq2] at H2 ⊢
          clear hq2
          go_upto_region 14 with fail
          obtain ⟨V3, hV3⟩ : ∃ V3, V2.drew = V3 := ⟨_, rfl⟩
          have HLV3 := hide (show Le X V3 by rw [← hV3]; exact HLV2.out.drew)
          have HVV3 := hide hV3
          clear hV3
          have g0 : ∀ W', Le V3 W' → W'.cell? ⟨bA, oA + j * 3, none⟩ = some (Value.bool false) := fun W' h => ((HLV3.out.trans h).cell (p := ⟨bA, oA + j * 3, none⟩) hbA).trans HC0.out
          have g1 : ∀ W', Le V3 W' → W'.cell? ⟨bA, oA + j * 3 + 1, none⟩ = some (Value.int .i64 vi) := fun W' h => ((HLV3.out.trans h).cell (p := ⟨bA, oA + j * 3 + 1, none⟩) hbA).trans HC1'.out
          have g2 : ∀ W', Le V3 W' → W'.cell? ⟨bA, oA + j * 3 + 2, none⟩ = some (Value.string vs) := fun W' h => ((HLV3.out.trans h).cell (p := ⟨bA, oA + j * 3 + 2, none⟩) hbA).trans HC2'.out
          have bw := BX.out.below HLV3.out BX.out.lt
          have k2 := bw.later 2 (.bool mn) rfl
          have k3 := bw.later 3 (.int .i64 mi) rfl
          have k4 := bw.later 4 (.string ms) rfl
          have k5 := bw.later 5 (.bool xn) rfl
          have k6 := bw.later 6 (.int .i64 xi) rfl
          have k7 := bw.later 7 (.string xs) rfl
          clear bw
          refine region_pi [(0, true), (1, true), (2, true), (3, true), (4, true), (5, true), (6, false), (7, true), (8, true), (9, true), (10, true), (11, true), (12, true), (13, true), (14, true), (15, false), (16, true), (17, true)] (by kernel_rfl) (by kernel_rfl) ?_
          simp only [opsPi, List.filterMap_cons, List.filterMap_nil, List.getElem?_toArray, List.getElem?_cons_zero, List.getElem?_cons_succ, Option.map_some]
          rw [HVV3.out]
          repeat (first | (refine pi_take (v := _) rfl (fun W hW => by go_simp <;> exact rfl) ?_; simp only [Act.put, List.setIfInBounds_toArray, List.set_cons_zero, List.set_cons_succ]) | (refine pi_skip rfl ?_; simp only [Act.put, List.setIfInBounds_toArray, List.set_cons_zero, List.set_cons_succ]))
          refine pi_run ?_
          go_wp2_with fail
          refine (HC1.out V3).mono ?_
          rintro e V4 ⟨rfl, hb⟩
          have HLV4 := hide (show Le X V4 from HLV3.out.trans hb)
          clear g0 g1 g2 k2 k3 k4 k5 k6 k7
          have g0 : ∀ W', Le V4 W' → W'.cell? ⟨bA, oA + j * 3, none⟩ = some (Value.bool false) := fun W' h => ((HLV4.out.trans h).cell (p := ⟨bA, oA + j * 3, none⟩) hbA).trans HC0.out
          have g1 : ∀ W', Le V4 W' → W'.cell? ⟨bA, oA + j * 3 + 1, none⟩ = some (Value.int .i64 vi) := fun W' h => ((HLV4.out.trans h).cell (p := ⟨bA, oA + j * 3 + 1, none⟩) hbA).trans HC1'.out
          have g2 : ∀ W', Le V4 W' → W'.cell? ⟨bA, oA + j * 3 + 2, none⟩ = some (Value.string vs) := fun W' h => ((HLV4.out.trans h).cell (p := ⟨bA, oA + j * 3 + 2, none⟩) hbA).trans HC2'.out
          have bw := BX.out.below HLV4.out BX.out.lt
          have k2 := bw.later 2 (.bool mn) rfl
          have k3 := bw.later 3 (.int .i64 mi) rfl
          have k4 := bw.later 4 (.string ms) rfl
          have k5 := bw.later 5 (.bool xn) rfl
          have k6 := bw.later 6 (.int .i64 xi) rfl
          have k7 := bw.later 7 (.string xs) rfl
          clear bw
          go_wp2_with fail
          refine ⟨hb, ?_⟩
          clear hb
          repeat (first | (refine pi_take (v := _) rfl (fun W hW => by go_simp <;> exact rfl) ?_; simp only [Act.put, List.setIfInBounds_toArray, List.set_cons_zero, List.set_cons_succ]) | (refine pi_skip rfl ?_; simp only [Act.put, List.setIfInBounds_toArray, List.set_cons_zero, List.set_cons_succ]))
          refine pi_run ?_
          go_wp2_with fail
          refine (HC2.out V4).mono ?_
          rintro e V5 ⟨rfl, hb⟩
          have HLV5 := hide (show Le X V5 from HLV4.out.trans hb)
          clear g0 g1 g2 k2 k3 k4 k5 k6 k7
          go_wp2_with fail
          refine ⟨hb, ?_⟩
          clear hb
          repeat (first | (refine pi_take (v := _) rfl (fun W hW => by go_simp <;> exact rfl) ?_; simp only [Act.put, List.setIfInBounds_toArray, List.set_cons_zero, List.set_cons_succ]) | (refine pi_skip rfl ?_; simp only [Act.put, List.setIfInBounds_toArray, List.set_cons_zero, List.set_cons_succ]))
          refine pi_done ?_
          go_wp2_with fail
          exact ⟨⟨j + 1, by omega, by go_num, by rw [H3.out]; simp, by rw [H1.out]; rfl, by rw [H2.out]; rfl, HLV5⟩, by simp [intOf]; omega⟩
        · obtain ⟨V1, hV1⟩ : ∃ V1, wr.drew = V1 := ⟨_, rfl⟩
          have HLV1 := hide (show Le X V1 by rw [← hV1]; exact HB.out.drew)
          have HVV1 := hide hV1
          clear hV1
          have g0 : ∀ W', Le V1 W' → W'.cell? ⟨bA, oA + j * 3, none⟩ = some (Value.bool false) := fun W' h => ((HLV1.out.trans h).cell (p := ⟨bA, oA + j * 3, none⟩) hbA).trans HC0.out
          have g1 : ∀ W', Le V1 W' → W'.cell? ⟨bA, oA + j * 3 + 1, none⟩ = some (Value.int .i64 vi) := fun W' h => ((HLV1.out.trans h).cell (p := ⟨bA, oA + j * 3 + 1, none⟩) hbA).trans HC1'.out
          have g2 : ∀ W', Le V1 W' → W'.cell? ⟨bA, oA + j * 3 + 2, none⟩ = some (Value.string vs) := fun W' h => ((HLV1.out.trans h).cell (p := ⟨bA, oA + j * 3 + 2, none⟩) hbA).trans HC2'.out
          have bw := BX.out.below HLV1.out BX.out.lt
          have k2 := bw.later 2 (.bool mn) rfl
          have k3 := bw.later 3 (.int .i64 mi) rfl
          have k4 := bw.later 4 (.string ms) rfl
          have k5 := bw.later 5 (.bool xn) rfl
          have k6 := bw.later 6 (.int .i64 xi) rfl
          have k7 := bw.later 7 (.string xs) rfl
          clear bw
          refine region_pi [(0, true), (1, true), (2, true), (3, true), (4, true), (5, true), (6, true), (7, true), (8, true), (9, true), (10, true)] (by kernel_rfl) (by kernel_rfl) ?_
          simp only [opsPi, List.filterMap_cons, List.filterMap_nil, List.getElem?_toArray, List.getElem?_cons_zero, List.getElem?_cons_succ, Option.map_some]
          rw [HVV1.out]
          repeat (first | (refine pi_take (v := _) rfl (fun W hW => by go_simp <;> exact rfl) ?_; simp only [Act.put, List.setIfInBounds_toArray, List.set_cons_zero, List.set_cons_succ]) | (refine pi_skip rfl ?_; simp only [Act.put, List.setIfInBounds_toArray, List.set_cons_zero, List.set_cons_succ]))
          refine pi_take (v := .bool (st.eqb ⟨false, vi, vs⟩ ⟨mn, mi, ms⟩)) rfl (fun W' hW' => ?_) ?_
          · clear g0 g1 g2 k2 k3 k4 k5 k6 k7
            go_simp
            unfold st.eqb
            repeat' split
            all_goals simp_all
          simp only [Act.put, List.setIfInBounds_toArray, List.set_cons_zero, List.set_cons_succ]
          repeat (first | (refine pi_take (v := _) rfl (fun W hW => by go_simp <;> exact rfl) ?_; simp only [Act.put, List.setIfInBounds_toArray, List.set_cons_zero, List.set_cons_succ]) | (refine pi_skip rfl ?_; simp only [Act.put, List.setIfInBounds_toArray, List.set_cons_zero, List.set_cons_succ]))
          refine pi_done ?_
          clear g0 g1 g2 k2 k3 k4 k5 k6 k7
          obtain ⟨q1, hq1⟩ : ∃ q, st.eqb ⟨false, vi, vs⟩ ⟨mn, mi, ms⟩ = q := ⟨_, rfl⟩
          rw [hq1] at H1 ⊢
          clear hq1
          go_upto_region 13 with fail
          obtain ⟨V2, hV2⟩ : ∃ V2, V1.drew = V2 := ⟨_, rfl⟩
          have HLV2 := hide (show Le X V2 by rw [← hV2]; exact HLV1.out.drew)
          have HVV2 := hide hV2
          clear hV2
          have g0 : ∀ W', Le V2 W' → W'.cell? ⟨bA, oA + j * 3, none⟩ = some (Value.bool false) := fun W' h => ((HLV2.out.trans h).cell (p := ⟨bA, oA + j * 3, none⟩) hbA).trans HC0.out
          have g1 : ∀ W', Le V2 W' → W'.cell? ⟨bA, oA + j * 3 + 1, none⟩ = some (Value.int .i64 vi) := fun W' h => ((HLV2.out.trans h).cell (p := ⟨bA, oA + j * 3 + 1, none⟩) hbA).trans HC1'.out
          have g2 : ∀ W', Le V2 W' → W'.cell? ⟨bA, oA + j * 3 + 2, none⟩ = some (Value.string vs) := fun W' h => ((HLV2.out.trans h).cell (p := ⟨bA, oA + j * 3 + 2, none⟩) hbA).trans HC2'.out
          have bw := BX.out.below HLV2.out BX.out.lt
          have k2 := bw.later 2 (.bool mn) rfl
          have k3 := bw.later 3 (.int .i64 mi) rfl
          have k4 := bw.later 4 (.string ms) rfl
          have k5 := bw.later 5 (.bool xn) rfl
          have k6 := bw.later 6 (.int .i64 xi) rfl
          have k7 := bw.later 7 (.string xs) rfl
          clear bw
          refine region_pi [(0, true), (1, true), (2, true), (3, true), (4, true), (5, true), (6, true), (7, true), (8, true), (9, true), (10, true)] (by kernel_rfl) (by kernel_rfl) ?_
          simp only [opsPi, List.filterMap_cons, List.filterMap_nil, List.getElem?_toArray, List.getElem?_cons_zero, List.getElem?_cons_succ, Option.map_some]
          rw [HVV2.out]
          repeat (first | (refine pi_take (v := _) rfl (fun W hW => by go_simp <;> exact rfl) ?_; simp only [Act.put, List.setIfInBounds_toArray, List.set_cons_zero, List.set_cons_succ]) | (refine pi_skip rfl ?_; simp only [Act.put, List.setIfInBounds_toArray, List.set_cons_zero, List.set_cons_succ]))
          refine pi_done ?_
          clear g0 g1 g2 k2 k3 k4 k5 k6 k7
          go_upto_region 14 with fail
          obtain ⟨V3, hV3⟩ : ∃ V3, V2.drew = V3 := ⟨_, rfl⟩
          have HLV3 := hide (show Le X V3 by rw [← hV3]; exact HLV2.out.drew)
          have HVV3 := hide hV3
          clear hV3
          have g0 : ∀ W', Le V3 W' → W'.cell? ⟨bA, oA + j * 3, none⟩ = some (Value.bool false) := fun W' h => ((HLV3.out.trans h).cell (p := ⟨bA, oA + j * 3, none⟩) hbA).trans HC0.out
          have g1 : ∀ W', Le V3 W' → W'.cell? ⟨bA, oA + j * 3 + 1, none⟩ = some (Value.int .i64 vi) := fun W' h => ((HLV3.out.trans h).cell (p := ⟨bA, oA + j * 3 + 1, none⟩) hbA).trans HC1'.out
          have g2 : ∀ W', Le V3 W' → W'.cell? ⟨bA, oA + j * 3 + 2, none⟩ = some (Value.string vs) := fun W' h => ((HLV3.out.trans h).cell (p := ⟨bA, oA + j * 3 + 2, none⟩) hbA).trans HC2'.out
          have bw := BX.out.below HLV3.out BX.out.lt
          have k2 := bw.later 2 (.bool mn) rfl
          have k3 := bw.later 3 (.int .i64 mi) rfl
          have k4 := bw.later 4 (.string ms) rfl
          have k5 := bw.later 5 (.bool xn) rfl
          have k6 := bw.later 6 (.int .i64 xi) rfl
          have k7 := bw.later 7 (.string xs) rfl
          clear bw
          refine region_pi [(0, true), (1, true), (2, true), (3, true), (4, true), (5, true), (6, false), (7, true), (8, true), (9, true), (10, true), (11, true), (12, true), (13, true), (14, true), (15, false), (16, true), (17, true)] (by kernel_rfl) (by kernel_rfl) ?_
          simp only [opsPi, List.filterMap_cons, List.filterMap_nil, List.getElem?_toArray, List.getElem?_cons_zero, List.getElem?_cons_succ, Option.map_some]
          rw [HVV3.out]
          repeat (first | (refine pi_take (v := _) rfl (fun W hW => by go_simp <;> exact rfl) ?_; simp only [Act.put, List.setIfInBounds_toArray, List.set_cons_zero, List.set_cons_succ]) | (refine pi_skip rfl ?_; simp only [Act.put, List.setIfInBounds_toArray, List.set_cons_zero, List.set_cons_succ]))
          refine pi_run ?_
          go_wp2_with fail
          refine (HC1.out V3).mono ?_
          rintro e V4 ⟨rfl, hb⟩
          have HLV4 := hide (show Le X V4 from HLV3.out.trans hb)
          clear g0 g1 g2 k2 k3 k4 k5 k6 k7
          have g0 : ∀ W', Le V4 W' → W'.cell? ⟨bA, oA + j * 3, none⟩ = some (Value.bool false) := fun W' h => ((HLV4.out.trans h).cell (p := ⟨bA, oA + j * 3, none⟩) hbA).trans HC0.out
          have g1 : ∀ W', Le V4 W' → W'.cell? ⟨bA, oA + j * 3 + 1, none⟩ = some (Value.int .i64 vi) := fun W' h => ((HLV4.out.trans h).cell (p := ⟨bA, oA + j * 3 + 1, none⟩) hbA).trans HC1'.out
          have g2 : ∀ W', Le V4 W' → W'.cell? ⟨bA, oA + j * 3 + 2, none⟩ = some (Value.string vs) := fun W' h => ((HLV4.out.trans h).cell (p := ⟨bA, oA + j * 3 + 2, none⟩) hbA).trans HC2'.out
          have bw := BX.out.below HLV4.out BX.out.lt
          have k2 := bw.later 2 (.bool mn) rfl
          have k3 := bw.later 3 (.int .i64 mi) rfl
          have k4 := bw.later 4 (.string ms) rfl
          have k5 := bw.later 5 (.bool xn) rfl
          have k6 := bw.later 6 (.int .i64 xi) rfl
          have k7 := bw.later 7 (.string xs) rfl
          clear bw
          go_wp2_with fail
          refine ⟨hb, ?_⟩
          clear hb
          repeat (first | (refine pi_take (v := _) rfl (fun W hW => by go_simp <;> exact rfl) ?_; simp only [Act.put, List.setIfInBounds_toArray, List.set_cons_zero, List.set_cons_succ]) | (refine pi_skip rfl ?_; simp only [Act.put, List.setIfInBounds_toArray, List.set_cons_zero, List.set_cons_succ]))
          refine pi_run ?_
          go_wp2_with fail
          refine (HC2.out V4).mono ?_
          rintro e V5 ⟨rfl, hb⟩
          have HLV5 := hide (show Le X V5 from HLV4.out.trans hb)
          clear g0 g1 g2 k2 k3 k4 k5 k6 k7
          go_wp2_with fail
          refine ⟨hb, ?_⟩
          clear hb
          repeat (first | (refine pi_take (v := _) rfl (fun W hW => by go_simp <;> exact rfl) ?_; simp only [Act.put, List.setIfInBounds_toArray, List.set_cons_zero, List.set_cons_succ]) | (refine pi_skip rfl ?_; simp only [Act.put, List.setIfInBounds_toArray, List.set_cons_zero, List.set_cons_succ]))
          refine pi_done ?_
          go_wp2_with fail
          exact ⟨⟨j + 1, by omega, by go_num, by rw [H3.out]; simp, by rw [H1.out]; rfl, by rw [H2.out]; rfl, HLV5⟩, by simp [intOf]; omega⟩
        · obtain ⟨V1, hV1⟩ : ∃ V1, wr.drew = V1 := ⟨_, rfl⟩
          have HLV1 := hide (show Le X V1 by rw [← hV1]; exact HB.out.drew)
          have HVV1 := hide hV1
          clear hV1
          have g0 : ∀ W', Le V1 W' → W'.cell? ⟨bA, oA + j * 3, none⟩ = some (Value.bool false) := fun W' h => ((HLV1.out.trans h).cell (p := ⟨bA, oA + j * 3, none⟩) hbA).trans HC0.out
          have g1 : ∀ W', Le V1 W' → W'.cell? ⟨bA, oA + j * 3 + 1, none⟩ = some (Value.int .i64 vi) := fun W' h => ((HLV1.out.trans h).cell (p := ⟨bA, oA + j * 3 + 1, none⟩) hbA).trans HC1'.out
          have g2 : ∀ W', Le V1 W' → W'.cell? ⟨bA, oA + j * 3 + 2, none⟩ = some (Value.string vs) := fun W' h => ((HLV1.out.trans h).cell (p := ⟨bA, oA + j * 3 + 2, none⟩) hbA).trans HC2'.out
          have bw := BX.out.below HLV1.out BX.out.lt
          have k2 := bw.later 2 (.bool mn) rfl
          have k3 := bw.later 3 (.int .i64 mi) rfl
          have k4 := bw.later 4 (.string ms) rfl
          have k5 := bw.later 5 (.bool xn) rfl
          have k6 := bw.later 6 (.int .i64 xi) rfl
          have k7 := bw.later 7 (.string xs) rfl
          clear bw
          refine region_pi [(0, true), (1, true), (2, true), (3, true), (4, true), (5, true), (6, true), (7, true), (8, true), (9, true), (10, true)] (by kernel_rfl) (by kernel_rfl) ?_
          simp only [opsPi, List.filterMap_cons, List.filterMap_nil, List.getElem?_toArray, List.getElem?_cons_zero, List.getElem?_cons_succ, Option.map_some]
          rw [HVV1.out]
          repeat (first | (refine pi_take (v := _) rfl (fun W hW => by go_simp <;> exact rfl) ?_; simp only [Act.put, List.setIfInBounds_toArray, List.set_cons_zero, List.set_cons_succ]) | (refine pi_skip rfl ?_; simp only [Act.put, List.setIfInBounds_toArray, List.set_cons_zero, List.set_cons_succ]))
          refine pi_done ?_
          clear g0 g1 g2 k2 k3 k4 k5 k6 k7
          go_upto_region 13 with fail
          obtain ⟨V2, hV2⟩ : ∃ V2, V1.drew = V2 := ⟨_, rfl⟩
          have HLV2 := hide (show Le X V2 by rw [← hV2]; exact HLV1.out.drew)
          have HVV2 := hide hV2
          clear hV2
          have g0 : ∀ W', Le V2 W' → W'.cell? ⟨bA, oA + j * 3, none⟩ = some (Value.bool false) := fun W' h => ((HLV2.out.trans h).cell (p := ⟨bA, oA + j * 3, none⟩) hbA).trans HC0.out
          have g1 : ∀ W', Le V2 W' → W'.cell? ⟨bA, oA + j * 3 + 1, none⟩ = some (Value.int .i64 vi) := fun W' h => ((HLV2.out.trans h).cell (p := ⟨bA, oA + j * 3 + 1, none⟩) hbA).trans HC1'.out
          have g2 : ∀ W', Le V2 W' → W'.cell? ⟨bA, oA + j * 3 + 2, none⟩ = some (Value.string vs) := fun W' h => ((HLV2.out.trans h).cell (p := ⟨bA, oA + j * 3 + 2, none⟩) hbA).trans HC2'.out
          have bw := BX.out.below HLV2.out BX.out.lt
          have k2 := bw.later 2 (.bool mn) rfl
          have k3 := bw.later 3 (.int .i64 mi) rfl
          have k4 := bw.later 4 (.string ms) rfl
          have k5 := bw.later 5 (.bool xn) rfl
          have k6 := bw.later 6 (.int .i64 xi) rfl
          have k7 := bw.later 7 (.string xs) rfl
          clear bw
          refine region_pi [(0, true), (1, true), (2, true), (3, true), (4, true), (5, true), (6, true), (7, true), (8, true), (9, true), (10, true)] (by kernel_rfl) (by kernel_rfl) ?_
          simp only [opsPi, List.filterMap_cons, List.filterMap_nil, List.getElem?_toArray, List.getElem?_cons_zero, List.getElem?_cons_succ, Option.map_some]
          rw [HVV2.out]
          repeat (first | (refine pi_take (v := _) rfl (fun W hW => by go_simp <;> exact rfl) ?_; simp only [Act.put, List.setIfInBounds_toArray, List.set_cons_zero, List.set_cons_succ]) | (refine pi_skip rfl ?_; simp only [Act.put, List.setIfInBounds_toArray, List.set_cons_zero, List.set_cons_succ]))
          refine pi_take (v := .bool (st.eqb ⟨false, vi, vs⟩ ⟨xn, xi, xs⟩)) rfl (fun W' hW' => ?_) ?_
          · clear g0 g1 g2 k2 k3 k4 k5 k6 k7
            go_simp
            unfold st.eqb
            repeat' split
            all_goals simp_all
          simp only [Act.put, List.setIfInBounds_toArray, List.set_cons_zero, List.set_cons_succ]
          repeat (first | (refine pi_take (v := _) rfl (fun W hW => by go_simp <;> exact rfl) ?_; simp only [Act.put, List.setIfInBounds_toArray, List.set_cons_zero, List.set_cons_succ]) | (refine pi_skip rfl ?_; simp only [Act.put, List.setIfInBounds_toArray, List.set_cons_zero, List.set_cons_succ]))
          refine pi_done ?_
          clear g0 g1 g2 k2 k3 k4 k5 k6 k7
          obtain ⟨q2, hq2⟩ : ∃ q, st.eqb ⟨false, vi, vs⟩ ⟨xn, xi, xs⟩ = q := ⟨_, rfl⟩
          rw [hq2] at H2 ⊢
          clear hq2
          go_upto_region 14 with fail
          obtain ⟨V3, hV3⟩ : ∃ V3, V2.drew = V3 := ⟨_, rfl⟩
          have HLV3 := hide (show Le X V3 by rw [← hV3]; exact HLV2.out.drew)
          have HVV3 := hide hV3
          clear hV3
          have g0 : ∀ W', Le V3 W' → W'.cell? ⟨bA, oA + j * 3, none⟩ = some (Value.bool false) := fun W' h => ((HLV3.out.trans h).cell (p := ⟨bA, oA + j * 3, none⟩) hbA).trans HC0.out
          have g1 : ∀ W', Le V3 W' → W'.cell? ⟨bA, oA + j * 3 + 1, none⟩ = some (Value.int .i64 vi) := fun W' h => ((HLV3.out.trans h).cell (p := ⟨bA, oA + j * 3 + 1, none⟩) hbA).trans HC1'.out
          have g2 : ∀ W', Le V3 W' → W'.cell? ⟨bA, oA + j * 3 + 2, none⟩ = some (Value.string vs) := fun W' h => ((HLV3.out.trans h).cell (p := ⟨bA, oA + j * 3 + 2, none⟩) hbA).trans HC2'.out
          have bw := BX.out.below HLV3.out BX.out.lt
          have k2 := bw.later 2 (.bool mn) rfl
          have k3 := bw.later 3 (.int .i64 mi) rfl
          have k4 := bw.later 4 (.string ms) rfl
          have k5 := bw.later 5 (.bool xn) rfl
          have k6 := bw.later 6 (.int .i64 xi) rfl
          have k7 := bw.later 7 (.string xs) rfl
          clear bw
          refine region_pi [(0, true), (1, true), (2, true), (3, true), (4, true), (5, true), (6, false), (7, true), (8, true), (9, true), (10, true), (11, true), (12, true), (13, true), (14, true), (15, false), (16, true), (17, true)] (by kernel_rfl) (by kernel_rfl) ?_
          simp only [opsPi, List.filterMap_cons, List.filterMap_nil, List.getElem?_toArray, List.getElem?_cons_zero, List.getElem?_cons_succ, Option.map_some]
          rw [HVV3.out]
          repeat (first | (refine pi_take (v := _) rfl (fun W hW => by go_simp <;> exact rfl) ?_; simp only [Act.put, List.setIfInBounds_toArray, List.set_cons_zero, List.set_cons_succ]) | (refine pi_skip rfl ?_; simp only [Act.put, List.setIfInBounds_toArray, List.set_cons_zero, List.set_cons_succ]))
          refine pi_run ?_
          go_wp2_with fail
          refine (HC1.out V3).mono ?_
          rintro e V4 ⟨rfl, hb⟩
          have HLV4 := hide (show Le X V4 from HLV3.out.trans hb)
          clear g0 g1 g2 k2 k3 k4 k5 k6 k7
          have g0 : ∀ W', Le V4 W' → W'.cell? ⟨bA, oA + j * 3, none⟩ = some (Value.bool false) := fun W' h => ((HLV4.out.trans h).cell (p := ⟨bA, oA + j * 3, none⟩) hbA).trans HC0.out
          have g1 : ∀ W', Le V4 W' → W'.cell? ⟨bA, oA + j * 3 + 1, none⟩ = some (Value.int .i64 vi) := fun W' h => ((HLV4.out.trans h).cell (p := ⟨bA, oA + j * 3 + 1, none⟩) hbA).trans HC1'.out
          have g2 : ∀ W', Le V4 W' → W'.cell? ⟨bA, oA + j * 3 + 2, none⟩ = some (Value.string vs) := fun W' h => ((HLV4.out.trans h).cell (p := ⟨bA, oA + j * 3 + 2, none⟩) hbA).trans HC2'.out
          have bw := BX.out.below HLV4.out BX.out.lt
          have k2 := bw.later 2 (.bool mn) rfl
          have k3 := bw.later 3 (.int .i64 mi) rfl
          have k4 := bw.later 4 (.string ms) rfl
          have k5 := bw.later 5 (.bool xn) rfl
          have k6 := bw.later 6 (.int .i64 xi) rfl
          have k7 := bw.later 7 (.string xs) rfl
          clear bw
          go_wp2_with fail
          refine ⟨hb, ?_⟩
          clear hb
          repeat (first | (refine pi_take (v := _) rfl (fun W hW => by go_simp <;> exact rfl) ?_; simp only [Act.put, List.setIfInBounds_toArray, List.set_cons_zero, List.set_cons_succ]) | (refine pi_skip rfl ?_; simp only [Act.put, List.setIfInBounds_toArray, List.set_cons_zero, List.set_cons_succ]))
          refine pi_run ?_
          go_wp2_with fail
          refine (HC2.out V4).mono ?_
          rintro e V5 ⟨rfl, hb⟩
          have HLV5 := hide (show Le X V5 from HLV4.out.trans hb)
          clear g0 g1 g2 k2 k3 k4 k5 k6 k7
          go_wp2_with fail
          refine ⟨hb, ?_⟩
          clear hb
          repeat (first | (refine pi_take (v := _) rfl (fun W hW => by go_simp <;> exact rfl) ?_; simp only [Act.put, List.setIfInBounds_toArray, List.set_cons_zero, List.set_cons_succ]) | (refine pi_skip rfl ?_; simp only [Act.put, List.setIfInBounds_toArray, List.set_cons_zero, List.set_cons_succ]))
          refine pi_done ?_
          go_wp2_with fail
          exact ⟨⟨j + 1, by omega, by go_num, by rw [H3.out]; simp, by rw [H1.out]; rfl, by rw [H2.out]; rfl, HLV5⟩, by simp [intOf]; omega⟩
        · obtain ⟨V1, hV1⟩ : ∃ V1, wr.drew = V1 := ⟨_, rfl⟩
          have HLV1 := hide (show Le X V1 by rw [← hV1]; exact HB.out.drew)
          have HVV1 := hide hV1
          clear hV1
          have g0 : ∀ W', Le V1 W' → W'.cell? ⟨bA, oA + j * 3, none⟩ = some (Value.bool false) := fun W' h => ((HLV1.out.trans h).cell (p := ⟨bA, oA + j * 3, none⟩) hbA).trans HC0.out
          have g1 : ∀ W', Le V1 W' → W'.cell? ⟨bA, oA + j * 3 + 1, none⟩ = some (Value.int .i64 vi) := fun W' h => ((HLV1.out.trans h).cell (p := ⟨bA, oA + j * 3 + 1, none⟩) hbA).trans HC1'.out
          have g2 : ∀ W', Le V1 W' → W'.cell? ⟨bA, oA + j * 3 + 2, none⟩ = some (Value.string vs) := fun W' h => ((HLV1.out.trans h).cell (p := ⟨bA, oA + j * 3 + 2, none⟩) hbA).trans HC2'.out
          have bw := BX.out.below HLV1.out BX.out.lt
          have k2 := bw.later 2 (.bool mn) rfl
          have k3 := bw.later 3 (.int .i64 mi) rfl
          have k4 := bw.later 4 (.string ms) rfl
          have k5 := bw.later 5 (.bool xn) rfl
          have k6 := bw.later 6 (.int .i64 xi) rfl
          have k7 := bw.later 7 (.string xs) rfl
          clear bw
          refine region_pi [(0, true), (1, true), (2, true), (3, true), (4, true), (5, true), (6, true), (7, true), (8, true), (9, true), (10, true)] (by kernel_rfl) (by kernel_rfl) ?_
          simp only [opsPi, List.filterMap_cons, List.filterMap_nil, List.getElem?_toArray, List.getElem?_cons_zero, List.getElem?_cons_succ, Option.map_some]
          rw [HVV1.out]
          repeat (first | (refine pi_take (v := _) rfl (fun W hW => by go_simp <;> exact rfl) ?_; simp only [Act.put, List.setIfInBounds_toArray, List.set_cons_zero, List.set_cons_succ]) | (refine pi_skip rfl ?_; simp only [Act.put, List.setIfInBounds_toArray, List.set_cons_zero, List.set_cons_succ]))
          refine pi_done ?_
          clear g0 g1 g2 k2 k3 k4 k5 k6 k7
          go_upto_region 13 with fail
          obtain ⟨V2, hV2⟩ : ∃ V2, V1.drew = V2 := ⟨_, rfl⟩
          have HLV2 := hide (show Le X V2 by rw [← hV2]; exact HLV1.out.drew)
          have HVV2 := hide hV2
          clear hV2
          have g0 : ∀ W', Le V2 W' → W'.cell? ⟨bA, oA + j * 3, none⟩ = some (Value.bool false) := fun W' h => ((HLV2.out.trans h).cell (p := ⟨bA, oA + j * 3, none⟩) hbA).trans HC0.out
          have g1 : ∀ W', Le V2 W' → W'.cell? ⟨bA, oA + j * 3 + 1, none⟩ = some (Value.int .i64 vi) := fun W' h => ((HLV2.out.trans h).cell (p := ⟨bA, oA + j * 3 + 1, none⟩) hbA).trans HC1'.out
          have g2 : ∀ W', Le V2 W' → W'.cell? ⟨bA, oA + j * 3 + 2, none⟩ = some (Value.string vs) := fun W' h => ((HLV2.out.trans h).cell (p := ⟨bA, oA + j * 3 + 2, none⟩) hbA).trans HC2'.out
          have bw := BX.out.below HLV2.out BX.out.lt
          have k2 := bw.later 2 (.bool mn) rfl
          have k3 := bw.later 3 (.int .i64 mi) rfl
          have k4 := bw.later 4 (.string ms) rfl
          have k5 := bw.later 5 (.bool xn) rfl
          have k6 := bw.later 6 (.int .i64 xi) rfl
          have k7 := bw.later 7 (.string xs) rfl
          clear bw
          refine region_pi [(0, true), (1, true), (2, true), (3, true), (4, true), (5, true), (6, true), (7, true), (8, true), (9, true), (10, true)] (by kernel_rfl) (by kernel_rfl) ?_
          simp only [opsPi, List.filterMap_cons, List.filterMap_nil, List.getElem?_toArray, List.getElem?_cons_zero, List.getElem?_cons_succ, Option.map_some]
          rw [HVV2.out]
          repeat (first | (refine pi_take (v := _) rfl (fun W hW => by go_simp <;> exact rfl) ?_; simp only [Act.put, List.setIfInBounds_toArray, List.set_cons_zero, List.set_cons_succ]) | (refine pi_skip rfl ?_; simp only [Act.put, List.setIfInBounds_toArray, List.set_cons_zero, List.set_cons_succ]))
          refine pi_done ?_
          clear g0 g1 g2 k2 k3 k4 k5 k6 k7
          go_upto_region 14 with fail
          obtain ⟨V3, hV3⟩ : ∃ V3, V2.drew = V3 := ⟨_, rfl⟩
          have HLV3 := hide (show Le X V3 by rw [← hV3]; exact HLV2.out.drew)
          have HVV3 := hide hV3
          clear hV3
          have g0 : ∀ W', Le V3 W' → W'.cell? ⟨bA, oA + j * 3, none⟩ = some (Value.bool false) := fun W' h => ((HLV3.out.trans h).cell (p := ⟨bA, oA + j * 3, none⟩) hbA).trans HC0.out
          have g1 : ∀ W', Le V3 W' → W'.cell? ⟨bA, oA + j * 3 + 1, none⟩ = some (Value.int .i64 vi) := fun W' h => ((HLV3.out.trans h).cell (p := ⟨bA, oA + j * 3 + 1, none⟩) hbA).trans HC1'.out
          have g2 : ∀ W', Le V3 W' → W'.cell? ⟨bA, oA + j * 3 + 2, none⟩ = some (Value.string vs) := fun W' h => ((HLV3.out.trans h).cell (p := ⟨bA, oA + j * 3 + 2, none⟩) hbA).trans HC2'.out
          have bw := BX.out.below HLV3.out BX.out.lt
          have k2 := bw.later 2 (.bool mn) rfl
          have k3 := bw.later 3 (.int .i64 mi) rfl
          have k4 := bw.later 4 (.string ms) rfl
          have k5 := bw.later 5 (.bool xn) rfl
          have k6 := bw.later 6 (.int .i64 xi) rfl
          have k7 := bw.later 7 (.string xs) rfl
          clear bw
          refine region_pi [(0, true), (1, true), (2, true), (3, true), (4, true), (5, true), (6, false), (7, true), (8, true), (9, true), (10, true), (11, true), (12, true), (13, true), (14, true), (15, false), (16, true), (17, true)] (by kernel_rfl) (by kernel_rfl) ?_
          simp only [opsPi, List.filterMap_cons, List.filterMap_nil, List.getElem?_toArray, List.getElem?_cons_zero, List.getElem?_cons_succ, Option.map_some]
          rw [HVV3.out]
          repeat (first | (refine pi_take (v := _) rfl (fun W hW => by go_simp <;> exact rfl) ?_; simp only [Act.put, List.setIfInBounds_toArray, List.set_cons_zero, List.set_cons_succ]) | (refine pi_skip rfl ?_; simp only [Act.put, List.setIfInBounds_toArray, List.set_cons_zero, List.set_cons_succ]))
          refine pi_run ?_
          go_wp2_with fail
          refine (HC1.out V3).mono ?_
          rintro e V4 ⟨rfl, hb⟩
          have HLV4 := hide (show Le X V4 from HLV3.out.trans hb)
          clear g0 g1 g2 k2 k3 k4 k5 k6 k7
          have g0 : ∀ W', Le V4 W' → W'.cell? ⟨bA, oA + j * 3, none⟩ = some (Value.bool false) := fun W' h => ((HLV4.out.trans h).cell (p := ⟨bA, oA + j * 3, none⟩) hbA).trans HC0.out
          have g1 : ∀ W', Le V4 W' → W'.cell? ⟨bA, oA + j * 3 + 1, none⟩ = some (Value.int .i64 vi) := fun W' h => ((HLV4.out.trans h).cell (p := ⟨bA, oA + j * 3 + 1, none⟩) hbA).trans HC1'.out
          have g2 : ∀ W', Le V4 W' → W'.cell? ⟨bA, oA + j * 3 + 2, none⟩ = some (Value.string vs) := fun W' h => ((HLV4.out.trans h).cell (p := ⟨bA, oA + j * 3 + 2, none⟩) hbA).trans HC2'.out
          have bw := BX.out.below HLV4.out BX.out.lt
          have k2 := bw.later 2 (.bool mn) rfl
          have k3 := bw.later 3 (.int .i64 mi) rfl
          have k4 := bw.later 4 (.string ms) rfl
          have k5 := bw.later 5 (.bool xn) rfl
          have k6 := bw.later 6 (.int .i64 xi) rfl
          have k7 := bw.later 7 (.string xs) rfl
          clear bw
          go_wp2_with fail
          refine ⟨hb, ?_⟩
          clear hb
          repeat (first | (refine pi_take (v := _) rfl (fun W hW => by go_simp <;> exact rfl) ?_; simp only [Act.put, List.setIfInBounds_toArray, List.set_cons_zero, List.set_cons_succ]) | (refine pi_skip rfl ?_; simp only [Act.put, List.setIfInBounds_toArray, List.set_cons_zero, List.set_cons_succ]))
          refine pi_run ?_
          go_wp2_with fail
          refine (HC2.out V4).mono ?_
          rintro e V5 ⟨rfl, hb⟩
          have HLV5 := hide (show Le X V5 from HLV4.out.trans hb)
          clear g0 g1 g2 k2 k3 k4 k5 k6 k7
          go_wp2_with fail
          refine ⟨hb, ?_⟩
          clear hb
          repeat (first | (refine pi_take (v := _) rfl (fun W hW => by go_simp <;> exact rfl) ?_; simp only [Act.put, List.setIfInBounds_toArray, List.set_cons_zero, List.set_cons_succ]) | (refine pi_skip rfl ?_; simp only [Act.put, List.setIfInBounds_toArray, List.set_cons_zero, List.set_cons_succ]))
          refine pi_done ?_
          go_wp2_with fail
          exact ⟨⟨j + 1, by omega, by go_num, by rw [H3.out]; simp, by rw [H1.out]; rfl, by rw [H2.out]; rfl, HLV5⟩, by simp [intOf]; omega⟩
    · obtain rfl : j = m := by omega
      have hall : o.take j = o := List.take_of_length_le (by rw [HOL.out]; exact Nat.le_refl _)
      rw [hall]
      have hh := HHAS.out
      have hnu := HNUL.out
      have hhn := HHN.out
      have hss := HS.out
      rw [HOL.out] at hhn
      rw [hh.1, hh.2]
      obtain ⟨cc, hcc⟩ : ∃ cc, (st.acc o).c = cc := ⟨_, rfl⟩
      rw [hcc] at hh hnu hhn hss ⊢
      rw [hhn] at hss
      obtain ⟨rfl, hsn⟩ := hss
      have bw := BX.out.below HB.out BX.out.lt
      have e2 := bw.cell 2 (.bool mn) rfl
      have e5 := bw.cell 5 (.bool xn) rfl
      have e0 := bw.cell 0 (.int .i64 (cc : Int)) rfl
      have e1 := bw.cell 1 (.bool shn) rfl
      rw [hnu.1] at e2
      rw [hnu.2] at e5
      rw [hsn] at e1
      have HF := hide (show Le w wr from HBX.out.trans HB.out)
      clear hh hnu hhn hsn bw hcc hall
      by_cases hc : cc = 0
      · subst hc
        by_cases hm0 : 0 < j
        · have hd : decide (0 < j) = true := decide_eq_true hm0
          have hdi : decide ((0 : Int) < (j : Int)) = true := decide_eq_true (by omega)
          rw [hd] at e1
          go_wp2_with fail
          go_ret
          exact ⟨rfl, HF.out⟩
        · have hd : decide (0 < j) = false := decide_eq_false hm0
          have hdi : decide ((0 : Int) < (j : Int)) = false := decide_eq_false (by omega)
          rw [hd] at e1
          go_wp2_with fail
          go_ret
          exact ⟨rfl, HF.out⟩
      · have hc1 : decide (cc = 0) = false := decide_eq_false hc
        have hc2 : decide (0 < cc) = true := decide_eq_true (by omega)
        have hc3 : decide ((0 : Int) < (cc : Int)) = true := decide_eq_true (by omega)
        have hc4 : ((cc : Int) == 0) = false := by simp; omega
        rw [hc1] at e2 e5
        rw [hc2]
        by_cases hm0 : cc < j
        · have hd : decide (cc < j) = true := decide_eq_true hm0
          have hdi : decide ((cc : Int) < (j : Int)) = true := decide_eq_true (by omega)
          rw [hd] at e1
          go_wp2_with fail
          go_ret
          exact ⟨rfl, HF.out⟩
        · have hd : decide (cc < j) = false := decide_eq_false hm0
          have hdi : decide ((cc : Int) < (j : Int)) = false := decide_eq_false (by omega)
          rw [hd] at e1
          go_wp2_with fail
          go_ret
          exact ⟨rfl, HF.out⟩
#print axioms statshold_walk
end Go.Proofs.YtdnkclbheimlcaaDoor
