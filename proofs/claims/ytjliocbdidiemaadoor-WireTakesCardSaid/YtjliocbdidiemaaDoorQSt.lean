/-
  Whether something may be known, in plain words and walked (written by genM.py).
-/
import Derived.Test.YtjliocbdidiemaaDoorMayN
import Derived.Test.YtjliocbdidiemaaDoorQSd
import Derived.Test.YtjliocbdidiemaaDoorBox
import Derived.Test.YtjliocbdidiemaaDoorMayC
import Derived.Deep.DeepCutAuto
namespace Go.Proofs.YtjliocbdidiemaaDoor
open Go.RowKit
set_option linter.unusedVariables false

set_option maxRecDepth 100000 in
set_option maxHeartbeats 2000000 in
theorem stmay_any (w : World) (k : Int) (s : st.St) (w1 : (Lit.int .i64 s.mn.n).wf = true) (w2 : (Lit.int .i64 s.mx.n).wf = true) (hs1 : s.mn.s.size ≤ 9223372036854775807) (hs2 : s.mx.s.size ≤ 9223372036854775807) (hT : Tabs8 w) :
    Calls Tryd.prog 26 #[.int .i64 k, .agg (st.cells s)] w fun e w' => e = .returned (.bool (st.mayS k s)) ∧ Below w.heap.size w w' := by
  obtain ⟨R, hR⟩ : ∃ R, st.mayS k s = R := ⟨_, rfl⟩
  rw [hR]
  have HR0 := hide hR
  clear hR
  obtain ⟨nb, hnb⟩ : ∃ b, decide (1 ≤ k ∧ k ≤ 5) = b := ⟨_, rfl⟩
  obtain ⟨m1, hm1⟩ : ∃ b, va.mayV k s.mn = b := ⟨_, rfl⟩
  obtain ⟨m2, hm2⟩ : ∃ b, va.mayV k s.mx = b := ⟨_, rfl⟩
  obtain ⟨x, hx⟩ : ∃ b, va.cmpV s.mx s.mn = b := ⟨_, rfl⟩
  obtain ⟨l, hl⟩ : ∃ b, decide (s.c < 0) = b := ⟨_, rfl⟩
  obtain ⟨g, hg⟩ : ∃ b, decide (409600 < s.c) = b := ⟨_, rfl⟩
  obtain ⟨z, hz⟩ : ∃ b, decide (s.c = 0) = b := ⟨_, rfl⟩
  obtain ⟨zs, hzs⟩ : ∃ b, decide (s.sum = 0) = b := ⟨_, rfl⟩
  obtain ⟨y, hy⟩ : ∃ b, decide (x < 0) = b := ⟨_, rfl⟩
  have hnum := hide (fun (w : World) => hnb ▸ number_any w k)
  have hv1 := hide (fun (w : World) (hT : Tabs8 w) => hm1 ▸ vmay_any w k s.mn w1 hs1 hT)
  have hv2 := hide (fun (w : World) (hT : Tabs8 w) => hm2 ▸ vmay_any w k s.mx w2 hs2 hT)
  have hcp := hide (fun (w : World) => hx ▸ compare_any w s.mx s.mn)
  have HR := hide (show R = (!l && (!g && (m1 && (m2 && ((s.mn.nul == z) && ((s.mx.nul == z) && (!y && (if s.ov then zs && nb else zs || nb)))))))) by
    rw [← HR0.out]
    unfold st.mayS st.num
    rw [hnb, hm1, hm2, hx, hz, hzs, ← hl, ← hg, ← hy]
    have e1 : decide (0 ≤ s.c ∧ s.c ≤ 409600) = (!decide (s.c < 0) && !decide (409600 < s.c)) := by
      rw [Bool.eq_iff_iff]; simp
    have e2 : decide (0 ≤ x) = !decide (x < 0) := by
      rw [Bool.eq_iff_iff]; simp
    rw [e1, e2, Bool.and_assoc])
  have hz2 : (s.c == 0) = z := by rw [← hz]; rfl
  have hzs2 : (s.sum == 0) = zs := by rw [← hzs]; rfl
  clear HR0 hnb hm1 hm2 hx w1 w2
  obtain ⟨c, hn, ⟨mn, mi, ms⟩, ⟨xn, xi, xs⟩, su, ov⟩ := s
  simp only [st.cells] at hl hg hz hzs hz2 hzs2 hv1 hv2 hcp HR hs1 hs2 ⊢
  obtain ⟨W, hW, bx, hb⟩ : ∃ W, w.alloc (.cells #[.int .i64 c, .bool hn, .bool mn, .int .i64 mi, .string ms, .bool xn, .int .i64 xi, .string xs, .int .i64 su, .bool ov] 36) = W ∧ Box W w.heap.size #[.int .i64 c, .bool hn, .bool mn, .int .i64 mi, .string ms, .bool xn, .int .i64 xi, .string xs, .int .i64 su, .bool ov] 36 ∧ Le w W := ⟨_, rfl, box_new _ _ _, (Below.refl _ _).alloc (Nat.le_refl _) _⟩
  have HT := hide (hT.le hb)
  have HW := hide hW
  have HB := hide hb
  have HX := hide bx
  clear hW bx hb hT hs1 hs2
  have a0 := HX.out.cell 0 (.int .i64 c) rfl
  have a1 := HX.out.cell 1 (.bool hn) rfl
  have a2 := HX.out.cell 2 (.bool mn) rfl
  have a3 := HX.out.cell 3 (.int .i64 mi) rfl
  have a4 := HX.out.cell 4 (.string ms) rfl
  have a5 := HX.out.cell 5 (.bool xn) rfl
  have a6 := HX.out.cell 6 (.int .i64 xi) rfl
  have a7 := HX.out.cell 7 (.string xs) rfl
  have a8 := HX.out.cell 8 (.int .i64 su) rfl
  have a9 := HX.out.cell 9 (.bool ov) rfl
  go_enter Tryd.func26, Tryd.ntmps26
  go_upto_region 2 with fail
  rw [HW.out]
  cases l
  · cases g
    · go_upto_region 4 with fail
      go_wp2_with fail
      refine (hv1.out W HT.out).mono ?_
      rintro e w1 ⟨rfl, hb1⟩
      have HX1 := hide (HX.out.below hb1 HX.out.lt)
      have HT1 := hide (HT.out.le hb1.drew)
      have HB1 := hide (HB.out.trans hb1)
      clear hb1 a0 a1 a2 a3 a4 a5 a6 a7 a8 a9
      have a0 := HX1.out.cell 0 (.int .i64 c) rfl
      have a1 := HX1.out.cell 1 (.bool hn) rfl
      have a2 := HX1.out.cell 2 (.bool mn) rfl
      have a3 := HX1.out.cell 3 (.int .i64 mi) rfl
      have a4 := HX1.out.cell 4 (.string ms) rfl
      have a5 := HX1.out.cell 5 (.bool xn) rfl
      have a6 := HX1.out.cell 6 (.int .i64 xi) rfl
      have a7 := HX1.out.cell 7 (.string xs) rfl
      have a8 := HX1.out.cell 8 (.int .i64 su) rfl
      have a9 := HX1.out.cell 9 (.bool ov) rfl
      cases m1
      · go_wp2_with fail
        go_ret
        exact ⟨by rw [HR.out]; rfl, HB1.out⟩
      · go_wp2_with fail
        refine (hv2.out w1 HT1.out).mono ?_
        rintro e w2 ⟨rfl, hb2⟩
        have HX2 := hide (HX1.out.below hb2 HX1.out.lt)
        have HB2 := hide (HB1.out.trans hb2)
        clear hb2 a0 a1 a2 a3 a4 a5 a6 a7 a8 a9
        have a0 := HX2.out.cell 0 (.int .i64 c) rfl
        have a1 := HX2.out.cell 1 (.bool hn) rfl
        have a2 := HX2.out.cell 2 (.bool mn) rfl
        have a3 := HX2.out.cell 3 (.int .i64 mi) rfl
        have a4 := HX2.out.cell 4 (.string ms) rfl
        have a5 := HX2.out.cell 5 (.bool xn) rfl
        have a6 := HX2.out.cell 6 (.int .i64 xi) rfl
        have a7 := HX2.out.cell 7 (.string xs) rfl
        have a8 := HX2.out.cell 8 (.int .i64 su) rfl
        have a9 := HX2.out.cell 9 (.bool ov) rfl
        cases m2
        · go_wp2_with fail
          go_ret
          exact ⟨by rw [HR.out]; rfl, HB2.out⟩
        · go_upto_region 6 with fail
          go_cut [31] (fun s31 wx => s31 = .bool ((mn != z) || ((xn != z) || y)) ∧ Box wx w.heap.size #[.int .i64 c, .bool hn, .bool mn, .int .i64 mi, .string ms, .bool xn, .int .i64 xi, .string xs, .int .i64 su, .bool ov] 36 ∧ Below w.heap.size w wx)
          case first =>
            cases mn <;> cases z <;> cases xn
            all_goals
              go_wp2_with fail
              first
              | (go_meet
                 exact ⟨rfl, HX2.out, HB2.out⟩)
              | (refine (hcp.out w2).mono ?_
                 rintro e w3 ⟨rfl, hb3⟩
                 have HX3 := hide (HX2.out.below hb3 HX2.out.lt)
                 have HB3 := hide (HB2.out.trans hb3)
                 clear hb3
                 go_wp2_with fail
                 go_meet
                 exact ⟨rfl, HX3.out, HB3.out⟩)
          case rest =>
            clear a0 a1 a2 a3 a4 a5 a6 a7 a8 a9 HX2 HB2
            obtain ⟨rfl, bx, hbb⟩ := hcut
            have HX2 := hide bx
            have HB2 := hide hbb
            clear bx hbb
            have a0 := HX2.out.cell 0 (.int .i64 c) rfl
            have a1 := HX2.out.cell 1 (.bool hn) rfl
            have a2 := HX2.out.cell 2 (.bool mn) rfl
            have a3 := HX2.out.cell 3 (.int .i64 mi) rfl
            have a4 := HX2.out.cell 4 (.string ms) rfl
            have a5 := HX2.out.cell 5 (.bool xn) rfl
            have a6 := HX2.out.cell 6 (.int .i64 xi) rfl
            have a7 := HX2.out.cell 7 (.string xs) rfl
            have a8 := HX2.out.cell 8 (.int .i64 su) rfl
            have a9 := HX2.out.cell 9 (.bool ov) rfl
            obtain ⟨bad, hbad⟩ : ∃ b, ((mn != z) || ((xn != z) || y)) = b := ⟨_, rfl⟩
            have HBAD := hide hbad
            rw [hbad]
            clear hbad
            cases bad
            · cases ov
              · cases zs
                · go_wp2_with fail
                  refine (hnum.out wc).mono ?_
                  rintro e w3 ⟨rfl, rfl⟩
                  go_wp2_with fail
                  go_ret
                  exact ⟨by rw [HR.out]; have h := HBAD.out; clear HR HBAD; revert h; cases mn <;> cases z <;> cases xn <;> cases y <;> cases nb <;> simp, HB2.out⟩
                · go_wp2_with fail
                  go_ret
                  exact ⟨by rw [HR.out]; have h := HBAD.out; clear HR HBAD; revert h; cases mn <;> cases z <;> cases xn <;> cases y <;> cases nb <;> simp, HB2.out⟩
              · cases zs
                · go_wp2_with fail
                  go_ret
                  exact ⟨by rw [HR.out]; have h := HBAD.out; clear HR HBAD; revert h; cases mn <;> cases z <;> cases xn <;> cases y <;> cases nb <;> simp, HB2.out⟩
                · go_wp2_with fail
                  refine (hnum.out wc).mono ?_
                  rintro e w3 ⟨rfl, rfl⟩
                  go_wp2_with fail
                  go_ret
                  exact ⟨by rw [HR.out]; have h := HBAD.out; clear HR HBAD; revert h; cases mn <;> cases z <;> cases xn <;> cases y <;> cases nb <;> simp, HB2.out⟩
            · go_wp2_with fail
              go_ret
              exact ⟨by rw [HR.out]; have h := HBAD.out; clear HR HBAD; revert h; cases mn <;> cases z <;> cases xn <;> cases y <;> simp, HB2.out⟩
    · go_wp2_with fail
      go_ret
      exact ⟨by rw [HR.out]; rfl, HB.out⟩
  · go_wp2_with fail
    go_ret
    exact ⟨by rw [HR.out]; rfl, HB.out⟩
#print axioms stmay_any

set_option maxRecDepth 100000 in
set_option maxHeartbeats 2000000 in
theorem refstmay_any (w : World) (k : Int) (s : st.St) (hs1 : s.mn.s.size ≤ 9223372036854775807) (hs2 : s.mx.s.size ≤ 9223372036854775807) (hT : Tabs8 w) :
    Calls Tryd.prog 15 #[.int .i64 k, .agg (st.cells s)] w fun e w' => e = .returned (.bool (st.mayS k s)) ∧ Below w.heap.size w w' := by
  obtain ⟨R, hR⟩ : ∃ R, st.mayS k s = R := ⟨_, rfl⟩
  rw [hR]
  have HR0 := hide hR
  clear hR
  obtain ⟨nb, hnb⟩ : ∃ b, decide (1 ≤ k ∧ k ≤ 5) = b := ⟨_, rfl⟩
  obtain ⟨m1, hm1⟩ : ∃ b, va.mayV k s.mn = b := ⟨_, rfl⟩
  obtain ⟨m2, hm2⟩ : ∃ b, va.mayV k s.mx = b := ⟨_, rfl⟩
  obtain ⟨x, hx⟩ : ∃ b, va.cmpV s.mx s.mn = b := ⟨_, rfl⟩
  obtain ⟨l, hl⟩ : ∃ b, decide (s.c < 0) = b := ⟨_, rfl⟩
  obtain ⟨g, hg⟩ : ∃ b, decide (409600 < s.c) = b := ⟨_, rfl⟩
  obtain ⟨z, hz⟩ : ∃ b, decide (s.c = 0) = b := ⟨_, rfl⟩
  obtain ⟨zs, hzs⟩ : ∃ b, decide (s.sum = 0) = b := ⟨_, rfl⟩
  obtain ⟨y, hy⟩ : ∃ b, decide (x < 0) = b := ⟨_, rfl⟩
  have hnum := hide (fun (w : World) => hnb ▸ refnumber_any w k)
  have hv1 := hide (fun (w : World) (hT : Tabs8 w) => hm1 ▸ refvmay_any w k s.mn hs1 hT)
  have hv2 := hide (fun (w : World) (hT : Tabs8 w) => hm2 ▸ refvmay_any w k s.mx hs2 hT)
  have hcp := hide (fun (w : World) => hx ▸ refcompare_any w s.mx s.mn)
  have HR := hide (show R = (!l && (!g && (m1 && (m2 && ((s.mn.nul == z) && ((s.mx.nul == z) && (!y && (if s.ov then zs && nb else zs || nb)))))))) by
    rw [← HR0.out]
    unfold st.mayS st.num
    rw [hnb, hm1, hm2, hx, hz, hzs, ← hl, ← hg, ← hy]
    have e1 : decide (0 ≤ s.c ∧ s.c ≤ 409600) = (!decide (s.c < 0) && !decide (409600 < s.c)) := by
      rw [Bool.eq_iff_iff]; simp
    have e2 : decide (0 ≤ x) = !decide (x < 0) := by
      rw [Bool.eq_iff_iff]; simp
    rw [e1, e2, Bool.and_assoc])
  have hz2 : (s.c == 0) = z := by rw [← hz]; rfl
  have hzs2 : (s.sum == 0) = zs := by rw [← hzs]; rfl
  clear HR0 hnb hm1 hm2 hx
  obtain ⟨c, hn, ⟨mn, mi, ms⟩, ⟨xn, xi, xs⟩, su, ov⟩ := s
  simp only [st.cells] at hl hg hz hzs hz2 hzs2 hv1 hv2 hcp HR hs1 hs2 ⊢
  obtain ⟨W, hW, bx, hb⟩ : ∃ W, w.alloc (.cells #[.int .i64 c, .bool hn, .bool mn, .int .i64 mi, .string ms, .bool xn, .int .i64 xi, .string xs, .int .i64 su, .bool ov] 36) = W ∧ Box W w.heap.size #[.int .i64 c, .bool hn, .bool mn, .int .i64 mi, .string ms, .bool xn, .int .i64 xi, .string xs, .int .i64 su, .bool ov] 36 ∧ Le w W := ⟨_, rfl, box_new _ _ _, (Below.refl _ _).alloc (Nat.le_refl _) _⟩
  have HT := hide (hT.le hb)
  have HW := hide hW
  have HB := hide hb
  have HX := hide bx
  clear hW bx hb hT hs1 hs2
  have a0 := HX.out.cell 0 (.int .i64 c) rfl
  have a1 := HX.out.cell 1 (.bool hn) rfl
  have a2 := HX.out.cell 2 (.bool mn) rfl
  have a3 := HX.out.cell 3 (.int .i64 mi) rfl
  have a4 := HX.out.cell 4 (.string ms) rfl
  have a5 := HX.out.cell 5 (.bool xn) rfl
  have a6 := HX.out.cell 6 (.int .i64 xi) rfl
  have a7 := HX.out.cell 7 (.string xs) rfl
  have a8 := HX.out.cell 8 (.int .i64 su) rfl
  have a9 := HX.out.cell 9 (.bool ov) rfl
  go_enter Tryd.func15, Tryd.ntmps15
  go_wp2_with fail
  rw [HW.out]
  refine (hv1.out W HT.out).mono ?_
  rintro e w1 ⟨rfl, hb1⟩
  have HX1 := hide (HX.out.below hb1 HX.out.lt)
  have HT1 := hide (HT.out.le hb1.drew)
  have HB1 := hide (HB.out.trans hb1)
  clear hb1 a0 a1 a2 a3 a4 a5 a6 a7 a8 a9
  have a0 := HX1.out.cell 0 (.int .i64 c) rfl
  have a1 := HX1.out.cell 1 (.bool hn) rfl
  have a2 := HX1.out.cell 2 (.bool mn) rfl
  have a3 := HX1.out.cell 3 (.int .i64 mi) rfl
  have a4 := HX1.out.cell 4 (.string ms) rfl
  have a5 := HX1.out.cell 5 (.bool xn) rfl
  have a6 := HX1.out.cell 6 (.int .i64 xi) rfl
  have a7 := HX1.out.cell 7 (.string xs) rfl
  have a8 := HX1.out.cell 8 (.int .i64 su) rfl
  have a9 := HX1.out.cell 9 (.bool ov) rfl
  go_wp2_with fail
  refine (hv2.out w1 HT1.out).mono ?_
  rintro e w2 ⟨rfl, hb2⟩
  have HX2 := hide (HX1.out.below hb2 HX1.out.lt)
  have HB2 := hide (HB1.out.trans hb2)
  clear hb2 a0 a1 a2 a3 a4 a5 a6 a7 a8 a9
  have a0 := HX2.out.cell 0 (.int .i64 c) rfl
  have a1 := HX2.out.cell 1 (.bool hn) rfl
  have a2 := HX2.out.cell 2 (.bool mn) rfl
  have a3 := HX2.out.cell 3 (.int .i64 mi) rfl
  have a4 := HX2.out.cell 4 (.string ms) rfl
  have a5 := HX2.out.cell 5 (.bool xn) rfl
  have a6 := HX2.out.cell 6 (.int .i64 xi) rfl
  have a7 := HX2.out.cell 7 (.string xs) rfl
  have a8 := HX2.out.cell 8 (.int .i64 su) rfl
  have a9 := HX2.out.cell 9 (.bool ov) rfl
  go_upto_region 3 with fail
  go_cut [57] (fun s57 wx => s57 = .bool (l || (g || (!m1 || (!m2 || ((mn != z) || ((xn != z) || y)))))) ∧ Box wx w.heap.size #[.int .i64 c, .bool hn, .bool mn, .int .i64 mi, .string ms, .bool xn, .int .i64 xi, .string xs, .int .i64 su, .bool ov] 36 ∧ Below w.heap.size w wx)
  case first =>
    have done := hide (show Box w2 w.heap.size #[.int .i64 c, .bool hn, .bool mn, .int .i64 mi, .string ms, .bool xn, .int .i64 xi, .string xs, .int .i64 su, .bool ov] 36 ∧ Below w.heap.size w w2 from ⟨HX2.out, HB2.out⟩)
    cases l
    · cases g
      · cases m1
        · go_wp2_with fail
          go_meet
          exact ⟨rfl, done.out⟩
        · cases m2
          · go_wp2_with fail
            go_meet
            exact ⟨rfl, done.out⟩
          · cases mn <;> cases z <;> cases xn
            all_goals
              go_wp2_with fail
              first
              | (go_meet
                 exact ⟨rfl, done.out⟩)
              | (refine (hcp.out w2).mono ?_
                 rintro e w3 ⟨rfl, hb3⟩
                 have HX3 := hide (HX2.out.below hb3 HX2.out.lt)
                 have HB3 := hide (HB2.out.trans hb3)
                 clear hb3
                 go_wp2_with fail
                 go_meet
                 exact ⟨rfl, HX3.out, HB3.out⟩)
      · go_wp2_with fail
        go_meet
        exact ⟨rfl, done.out⟩
    · go_wp2_with fail
      go_meet
      exact ⟨rfl, done.out⟩
  case rest =>
    clear a0 a1 a2 a3 a4 a5 a6 a7 a8 a9 HX2 HB2
    obtain ⟨rfl, bx, hbb⟩ := hcut
    have HX2 := hide bx
    have HB2 := hide hbb
    clear bx hbb
    have a0 := HX2.out.cell 0 (.int .i64 c) rfl
    have a1 := HX2.out.cell 1 (.bool hn) rfl
    have a2 := HX2.out.cell 2 (.bool mn) rfl
    have a3 := HX2.out.cell 3 (.int .i64 mi) rfl
    have a4 := HX2.out.cell 4 (.string ms) rfl
    have a5 := HX2.out.cell 5 (.bool xn) rfl
    have a6 := HX2.out.cell 6 (.int .i64 xi) rfl
    have a7 := HX2.out.cell 7 (.string xs) rfl
    have a8 := HX2.out.cell 8 (.int .i64 su) rfl
    have a9 := HX2.out.cell 9 (.bool ov) rfl
    obtain ⟨bad, hbad⟩ : ∃ b, (l || (g || (!m1 || (!m2 || ((mn != z) || ((xn != z) || y)))))) = b := ⟨_, rfl⟩
    have HBAD := hide hbad
    rw [hbad]
    clear hbad
    cases bad
    · go_wp2_with fail
      refine (hnum.out wc).mono ?_
      rintro e w3 ⟨rfl, rfl⟩
      cases ov <;> cases zs <;> cases nb
      all_goals
        go_wp2_with fail
        go_ret
        exact ⟨by rw [HR.out]; have h := HBAD.out; clear HR HBAD; revert h; cases l <;> cases g <;> cases m1 <;> cases m2 <;> cases mn <;> cases z <;> cases xn <;> cases y <;> simp, HB2.out⟩
    · go_wp2_with fail
      go_ret
      exact ⟨by rw [HR.out]; have h := HBAD.out; clear HR HBAD; revert h; cases l <;> cases g <;> cases m1 <;> cases m2 <;> cases mn <;> cases z <;> cases xn <;> cases y <;> simp, HB2.out⟩
#print axioms refstmay_any
end Go.Proofs.YtjliocbdidiemaaDoor
