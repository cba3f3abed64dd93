/-
  What a node that names none comes to by the document, walked.
-/
import Derived.Test.YtjedpjfmlaganaaDoorPrA
namespace Go.Proofs.YtjedpjfmlaganaaDoor
set_option maxRecDepth 100000
open Go.RowKit
set_option linter.unusedVariables false

theorem same_cmp (a b : va.Val) : pr.sameV a b = decide (va.cmpV a b = 0) := by
  unfold pr.sameV
  rw [decide_eq_decide, va.cmpV_zero]
  simp [va.eqS]
theorem anyc_step {v : va.Val} {l : List va.Val} {k : Nat} {u : va.Val} (h : l[k]? = some u) : ((l.take (k + 1)).any fun u => pr.sameV v u) = ((l.take k).any (fun u => pr.sameV v u) || decide (va.cmpV v u = 0)) := by
  rw [va.take_step h]
  simp [same_cmp]

set_option maxRecDepth 100000 in
set_option maxHeartbeats 2000000 in
theorem refleaf_any (w : World) (n : pr.Nd) (A : Option Addr) (m c : Nat) (r : List va.Val) (hop : 4 ≤ n.op ∧ n.op ≤ 9) (hcol : n.op ≠ 9 → 0 ≤ n.col ∧ n.col < m) (hl : r.length = m) (hm : m ≤ 9223372036854775807)
    (hvl : n.vals.length = n.vn) (hvn : n.vn ≤ 9223372036854775807) (hr : Row w w.heap.size A (vcs r)) (hrv : Row w w.heap.size n.vA (vcs n.vals)) :
    Calls Tryd.prog 34 #[.agg n.cells, .slice A m c] w fun e w' => e = .returned (.int .i64 (pr.askedV n (r.getD n.col.toNat pr.none))) ∧ Below w.heap.size w w' := by
  obtain ⟨W, hW, bx, hb⟩ := nd_box w n 45
  have HB0 := hide hb
  have HW := hide hW
  have HX := hide bx
  have HR := hide hr
  have HRV := hide hrv
  have HVL := hide hvl
  obtain ⟨ans, hans⟩ : ∃ a, pr.askedV n (r.getD n.col.toNat pr.none) = a := ⟨_, rfl⟩
  rw [hans]
  have HANS := hide hans
  obtain ⟨op, col, ⟨un, ui, us⟩, vA, vn, vc, vals, lA, ln, lc, L⟩ := n
  simp only [pr.Nd.cells] at HX HW HRV HVL hop hcol hvn ⊢
  clear hW bx hb hr hrv hvl hans
  go_enter Tryd.func34, Tryd.ntmps34
  go_upto_region 1 with fail
  rw [HW.out]
  have g0 := HX.out.cell 0 (.int .i64 op) rfl
  have g1 := HX.out.cell 1 (.int .i64 col) rfl
  by_cases h9 : op = 9
  · subst h9
    have ha : ans = 2 := by rw [← HANS.out]; rfl
    go_wp2_with fail
    go_ret
    exact ⟨by first | rfl | (rw [ha]; rfl), HB0.out⟩
  · have h9' : (op == 9) = false := by simpa using h9
    obtain ⟨j, rfl⟩ : ∃ j : Nat, col = j := ⟨col.toNat, by have := hcol h9; omega⟩
    have hj : (j : Int) < m := (hcol h9).2
    have hj0 : (0 : Int) ≤ (j : Int) := (hcol h9).1
    obtain ⟨v, hv⟩ : ∃ v, r[j]? = some v := ⟨_, List.getElem?_eq_getElem (by omega)⟩
    obtain ⟨bA, oA, rfl, hbA, r0, r1, r2⟩ := row_at3 HR.out hv
    have hav : pr.askedV ⟨op, j, ⟨un, ui, us⟩, vA, vn, vc, vals, lA, ln, lc, L⟩ v = ans := by
      have h := HANS.out
      simp only at h
      rw [show ((j : Int)).toNat = j by omega, List.getD_eq_getElem?_getD, hv] at h
      exact h
    have HAV := hide hav
    have e0 : W.cell? ⟨bA, oA + j * 3, none⟩ = some (.bool v.nul) := (HB0.out.cell (p := ⟨bA, oA + j * 3, none⟩) hbA).trans r0
    have e1 : W.cell? ⟨bA, oA + j * 3 + 1, none⟩ = some (.int .i64 v.n) := (HB0.out.cell (p := ⟨bA, oA + j * 3 + 1, none⟩) hbA).trans r1
    have e2 : W.cell? ⟨bA, oA + j * 3 + 2, none⟩ = some (.string v.s) := (HB0.out.cell (p := ⟨bA, oA + j * 3 + 2, none⟩) hbA).trans r2
    obtain ⟨X, hX, bX, hbX⟩ := val_box W #[.bool false, .int .i64 0, .string ⟨#[]⟩] 43 v
    have HXX := hide hX
    have HLX := hide (show Le w X from HB0.out.trans hbX)
    have BN := hide (HX.out.below hbX HX.out.lt)
    have BV := hide bX
    clear r0 r1 r2 hv hav hX bX hbX HANS
    obtain ⟨vn', vi', vs'⟩ := v
    simp only at e0 e1 e2 HXX BV
    go_upto_region 4 with (refine wpList_store_row rfl 43 _ _ rfl W.heap.size _ rfl rfl 43 _ (box_new _ _ _) (by kernel_rfl) rfl (val_one ⟨vn', vi', vs'⟩) ?_)
    rw [HXX.out]
    clear e0 e1 e2 g0 g1
    have g0 := BN.out.cell 0 (.int .i64 op) rfl
    have g2 := BN.out.cell 2 (.bool un) rfl
    have g3 := BN.out.cell 3 (.int .i64 ui) rfl
    have g4 := BN.out.cell 4 (.string us) rfl
    have g5 := BN.out.cell 5 (.slice vA vn vc) rfl
    have k0 := BV.out.cell 0 (.bool vn') rfl
    have k1 := BV.out.cell 1 (.int .i64 vi') rfl
    have k2 := BV.out.cell 2 (.string vs') rfl
    by_cases h8 : op = 8
    · subst h8
      have ha : pr.yesI vn' = ans := by rw [← HAV.out]; rfl
      go_wp2_with fail
      refine (refyes_any X vn').mono ?_
      rintro e w1 ⟨rfl, rfl⟩
      rw [ha]
      go_wp2_with fail
      go_ret
      exact ⟨rfl, HLX.out⟩
    · have h8' : (op == 8) = false := by simpa using h8
      cases vn'
      · obtain ⟨x, hx⟩ : ∃ x, va.cmpV ⟨false, vi', vs'⟩ ⟨un, ui, us⟩ = x := ⟨_, rfl⟩
        have hcmp := hide (fun (w : World) => hx ▸ refcompare_any w ⟨false, vi', vs'⟩ ⟨un, ui, us⟩)
        go_wp2_with fail
        refine (hcmp.out X).mono ?_
        rintro e w1 ⟨rfl, hb1⟩
        have HL1 := hide (HLX.out.trans hb1)
        have BN1 := hide (BN.out.below hb1 BN.out.lt)
        have BV1 := hide (BV.out.below hb1 BV.out.lt)
        clear hb1 g0 g2 g3 g4 g5 k0 k1 k2
        have g0 := BN1.out.cell 0 (.int .i64 op) rfl
        have g5 := BN1.out.cell 5 (.slice vA vn vc) rfl
        by_cases h7 : op = 7
        · subst h7
          have HA7 := hide (show pr.yesI (vals.any fun u => pr.sameV ⟨false, vi', vs'⟩ u) = ans by rw [← HAV.out]; rfl)
          clear HAV hx hcmp
          obtain ⟨F, hF⟩ : ∃ F : List va.Val → Bool, F = fun l => l.any fun u => pr.sameV ⟨false, vi', vs'⟩ u := ⟨_, rfl⟩
          have HST := hide (show ∀ (k : Nat) u, vals[k]? = some u → F (vals.take (k + 1)) = (F (vals.take k) || decide (va.cmpV ⟨false, vi', vs'⟩ u = 0)) from fun k u h => by rw [hF]; exact anyc_step h)
          have HN := hide (show F (vals.take 0) = false by rw [hF]; rfl)
          have HE := hide (show pr.yesI (F vals) = ans by rw [hF]; exact HA7.out)
          clear hF HA7
          go_wp2_with fail
          clear g0 g5
          go_loopw [7, 8] (fun s i wr => ∃ k : Nat, i = .int .i64 k ∧ k ≤ vn ∧ s = .bool (F (vals.take k)) ∧ Hid (Box wr w.heap.size #[.int .i64 7, .int .i64 j, .bool un, .int .i64 ui, .string us, .slice vA vn vc, .slice lA ln lc] 45) ∧ Hid (Box wr W.heap.size #[.bool false, .int .i64 vi', .string vs'] 43) ∧ Hid (Le w wr)) (fun _ i _ => vn - (intOf i).toNat)
          case atStart => exact ⟨0, rfl, Nat.zero_le _, by rw [HN.out], BN1, BV1, HL1⟩
          case round =>
            obtain ⟨k, rfl, hk, rfl, BNr, BVr, HLr⟩ := hrel
            have g5 := BNr.out.cell 5 (.slice vA vn vc) rfl
            by_cases hkn : k < vn
            · obtain ⟨u, hu⟩ : ∃ u, vals[k]? = some u := ⟨_, List.getElem?_eq_getElem (by rw [HVL.out]; exact hkn)⟩
              obtain ⟨bB, oB, rfl, hbB, s0, s1, s2⟩ := row_at3 HRV.out hu
              have HSK := hide (HST.out k u hu)
              have hkn' : (k : Int) < vn := by omega
              obtain ⟨V, hV⟩ : ∃ V, wr.drew = V := ⟨_, rfl⟩
              have HLV := hide (show Le w V by rw [← hV]; exact HLr.out.drew)
              have BNV := hide (show Box V w.heap.size #[.int .i64 7, .int .i64 j, .bool un, .int .i64 ui, .string us, .slice (some ⟨bB, oB, none⟩) vn vc, .slice lA ln lc] 45 by rw [← hV]; exact BNr.out.drew)
              have BVV := hide (show Box V W.heap.size #[.bool false, .int .i64 vi', .string vs'] 43 by rw [← hV]; exact BVr.out.drew)
              have e0 : ∀ W, Le V W → W.cell? ⟨bB, oB + k * 3, none⟩ = some (.bool u.nul) := fun W h => ((HLV.out.trans h).cell (p := ⟨bB, oB + k * 3, none⟩) hbB).trans s0
              have e1 : ∀ W, Le V W → W.cell? ⟨bB, oB + k * 3 + 1, none⟩ = some (.int .i64 u.n) := fun W h => ((HLV.out.trans h).cell (p := ⟨bB, oB + k * 3 + 1, none⟩) hbB).trans s1
              have e2 : ∀ W, Le V W → W.cell? ⟨bB, oB + k * 3 + 2, none⟩ = some (.string u.s) := fun W h => ((HLV.out.trans h).cell (p := ⟨bB, oB + k * 3 + 2, none⟩) hbB).trans s2
              have k0 := BVV.out.later 0 (.bool false) rfl
              have k1 := BVV.out.later 1 (.int .i64 vi') rfl
              have k2 := BVV.out.later 2 (.string vs') rfl
              have g5' := BNV.out.later 5 (.slice (some ⟨bB, oB, none⟩) vn vc) rfl
              have HV := hide hV
              obtain ⟨y, hy⟩ : ∃ y, va.cmpV ⟨false, vi', vs'⟩ u = y := ⟨_, rfl⟩
              have hc2 := hide (fun (w : World) => hy ▸ refcompare_any w ⟨false, vi', vs'⟩ u)
              rw [hy] at HSK
              obtain ⟨f, hf⟩ : ∃ f, F (vals.take k) = f := ⟨_, rfl⟩
              rw [hf] at HSK ⊢
              clear s0 s1 s2 hu hV hy hf
              cases f
              · go_wp2_with fail
                clear g5
                refine region_pi [(0, true), (1, true), (2, true), (3, true), (4, true), (5, true), (6, true), (7, true), (8, false), (9, true), (10, true), (11, true)] (by kernel_rfl) (by kernel_rfl) ?_
                simp only [opsPi, List.filterMap_cons, List.filterMap_nil, List.getElem?_toArray, List.getElem?_cons_zero, List.getElem?_cons_succ, Option.map_some]
                rw [HV.out]
                repeat (first | (refine pi_take (v := _) rfl (fun W hW => by go_simp <;> exact rfl) ?_; simp only [Act.put, List.setIfInBounds_toArray, List.set_cons_zero, List.set_cons_succ]) | (refine pi_skip rfl ?_; simp only [Act.put, List.setIfInBounds_toArray, List.set_cons_zero, List.set_cons_succ]))
                refine pi_run ?_
                go_wp2_with fail
                refine (hc2.out V).mono ?_
                rintro e V1 ⟨rfl, hb⟩
                have HL1 := hide (show Le w V1 from HLV.out.trans hb)
                have BN1 := hide (BNV.out.below hb BNV.out.lt)
                have BV1 := hide (BVV.out.below hb BVV.out.lt)
                go_wp2_with fail
                refine ⟨hb, ?_⟩
                clear hb e0 e1 e2 k0 k1 k2 g5'
                repeat (first | (refine pi_take (v := _) rfl (fun W hW => by go_simp <;> exact rfl) ?_; simp only [Act.put, List.setIfInBounds_toArray, List.set_cons_zero, List.set_cons_succ]) | (refine pi_skip rfl ?_; simp only [Act.put, List.setIfInBounds_toArray, List.set_cons_zero, List.set_cons_succ]))
                refine pi_done ?_
                go_wp2_with fail
                exact ⟨⟨k + 1, by go_num, by omega, by rw [HSK.out]; rfl, BN1, BV1, HL1⟩, by simp [intOf]; omega⟩
              · go_wp2_with fail
                clear g5
                refine region_pi [(0, true), (1, true), (2, true), (3, true), (4, true), (5, true), (6, true), (7, true), (8, true), (9, true), (10, true), (11, true)] (by kernel_rfl) (by kernel_rfl) ?_
                simp only [opsPi, List.filterMap_cons, List.filterMap_nil, List.getElem?_toArray, List.getElem?_cons_zero, List.getElem?_cons_succ, Option.map_some]
                rw [HV.out]
                repeat (first | (refine pi_take (v := _) rfl (fun W hW => by go_simp <;> exact rfl) ?_; simp only [Act.put, List.setIfInBounds_toArray, List.set_cons_zero, List.set_cons_succ]) | (refine pi_skip rfl ?_; simp only [Act.put, List.setIfInBounds_toArray, List.set_cons_zero, List.set_cons_succ]))
                refine pi_done ?_
                go_wp2_with fail
                exact ⟨⟨k + 1, by go_num, by omega, by rw [HSK.out]; rfl, BNV, BVV, HLV⟩, by simp [intOf]; omega⟩
            · obtain rfl : k = vn := by omega
              have hall : vals.take k = vals := List.take_of_length_le (by rw [HVL.out]; exact Nat.le_refl _)
              rw [hall]
              obtain ⟨f, hf⟩ : ∃ f, F vals = f := ⟨_, rfl⟩
              have he := HE.out
              rw [hf] at he ⊢
              have HE2 := hide he
              clear hf hall he
              go_wp2_with fail
              refine (refyes_any wr f).mono ?_
              rintro e w2 ⟨rfl, rfl⟩
              rw [HE2.out]
              go_wp2_with fail
              go_ret
              exact ⟨rfl, HLr.out⟩
        · have hav := HAV.out
          unfold pr.askedV at hav
          simp only [h7, h8, h9, if_false, Bool.false_eq_true] at hav
          rw [hx] at hav
          have HA2 := hide hav
          clear hav hx HAV
          have h456 : op = 4 ∨ op = 5 ∨ op = 6 := by omega
          rcases h456 with rfl | rfl | rfl
          · have ha : pr.yesI (x == 0) = ans := by rw [← HA2.out]; rfl
            go_wp2_with fail
            refine (refyes_any w1 (x == 0)).mono ?_
            rintro e w2 ⟨rfl, rfl⟩
            rw [ha]
            go_wp2_with fail
            go_ret
            exact ⟨rfl, HL1.out⟩
          · have ha : pr.yesI (decide (x < 0)) = ans := by rw [← HA2.out]; rfl
            go_wp2_with fail
            refine (refyes_any w1 (decide (x < 0))).mono ?_
            rintro e w2 ⟨rfl, rfl⟩
            rw [ha]
            go_wp2_with fail
            go_ret
            exact ⟨rfl, HL1.out⟩
          · have ha : pr.yesI (decide (x ≤ 0)) = ans := by rw [← HA2.out]; rfl
            go_wp2_with fail
            refine (refyes_any w1 (decide (x ≤ 0))).mono ?_
            rintro e w2 ⟨rfl, rfl⟩
            rw [ha]
            go_wp2_with fail
            go_ret
            exact ⟨rfl, HL1.out⟩
      · have ha : ans = 1 := by
          rw [← HAV.out]
          unfold pr.askedV
          simp only [h8, h9, if_false, if_true]
        go_wp2_with fail
        go_ret
        exact ⟨by first | rfl | (rw [ha]; rfl), HLX.out⟩
#print axioms refleaf_any
end Go.Proofs.YtjedpjfmlaganaaDoor
