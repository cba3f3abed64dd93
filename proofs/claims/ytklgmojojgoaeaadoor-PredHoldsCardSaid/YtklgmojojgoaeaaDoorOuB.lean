/-
  Whether values stand between the least and the greatest one: walked.
-/
import Derived.Test.YtklgmojojgoaeaaDoorOuA
namespace Go.Proofs.YtklgmojojgoaeaaDoor
open Go.RowKit
set_option linter.unusedVariables false

theorem st_box (w : World) (s : st.St) (v : va.Val) (t u : TypeId) : ∃ W, (w.alloc (.cells (st.cells s) t)).alloc (.cells #[.bool v.nul, .int .i64 v.n, .string v.s] u) = W ∧ Box W w.heap.size (st.cells s) t ∧ Box W (w.heap.size + 1) #[.bool v.nul, .int .i64 v.n, .string v.s] u ∧ Le w W := by
  refine ⟨_, rfl, (box_new _ _ _).alloc _, ?_, ((Below.refl _ _).alloc (Nat.le_refl _) _).alloc (by simp) _⟩
  have h := box_new (w.alloc (.cells (st.cells s) t)) #[.bool v.nul, .int .i64 v.n, .string v.s] u
  have e : (w.alloc (.cells (st.cells s) t)).heap.size = w.heap.size + 1 := by simp
  rw [e] at h
  exact h
set_option maxRecDepth 100000 in
theorem within_any (w : World) (s : st.St) (v : va.Val) : Calls Tryd.prog 46 #[.agg (st.cells s), .agg #[.bool v.nul, .int .i64 v.n, .string v.s]] w fun e w' => e = .returned (.bool (ou.withinV s v)) ∧ Below w.heap.size w w' := by
  obtain ⟨W, hW, bs, bv, hb⟩ := st_box w s v 47 38
  have HW := hide hW
  have BS := hide bs
  have BV := hide bv
  have HB := hide hb
  obtain ⟨x, hx⟩ : ∃ x, va.cmpV s.mn v = x := ⟨_, rfl⟩
  obtain ⟨y, hy⟩ : ∃ y, va.cmpV s.mx v = y := ⟨_, rfl⟩
  have hc1 := hide (fun (w : World) => hx ▸ compare_any w s.mn v)
  have hc2 := hide (fun (w : World) => hy ▸ compare_any w s.mx v)
  obtain ⟨l, hl⟩ : ∃ b, decide (x ≤ 0) = b := ⟨_, rfl⟩
  obtain ⟨g, hg⟩ : ∃ b, decide (0 ≤ y) = b := ⟨_, rfl⟩
  have HR := hide (show ou.withinV s v = (l && g) by unfold ou.withinV; rw [hx, hy, hl, hg])
  rw [HR.out]
  clear hW bs bv hb hx hy HR
  obtain ⟨c, hn, ⟨mn, mi, ms⟩, ⟨xn, xi, xs⟩, su, ov⟩ := s
  obtain ⟨vn, vi, vs⟩ := v
  simp only [st.cells] at BS HW hc1 hc2 BV ⊢
  go_enter Tryd.func46, Tryd.ntmps46
  go_upto_region 1 with fail
  rw [HW.out]
  have a2 := BS.out.cell 2 (.bool mn) rfl
  have a3 := BS.out.cell 3 (.int .i64 mi) rfl
  have a4 := BS.out.cell 4 (.string ms) rfl
  have b0 := BV.out.cell 0 (.bool vn) rfl
  have b1 := BV.out.cell 1 (.int .i64 vi) rfl
  have b2 := BV.out.cell 2 (.string vs) rfl
  go_wp2_with fail
  refine (hc1.out W).mono ?_
  rintro e w1 ⟨rfl, hb1⟩
  have BS1 := hide (BS.out.below hb1 BS.out.lt)
  have BV1 := hide (BV.out.below hb1 BV.out.lt)
  have HB1 := hide (HB.out.trans hb1)
  clear hb1 a2 a3 a4 b0 b1 b2
  cases l
  · go_wp2_with fail
    go_ret
    exact ⟨rfl, HB1.out⟩
  · have a5 := BS1.out.cell 5 (.bool xn) rfl
    have a6 := BS1.out.cell 6 (.int .i64 xi) rfl
    have a7 := BS1.out.cell 7 (.string xs) rfl
    have b0 := BV1.out.cell 0 (.bool vn) rfl
    have b1 := BV1.out.cell 1 (.int .i64 vi) rfl
    have b2 := BV1.out.cell 2 (.string vs) rfl
    go_wp2_with fail
    refine (hc2.out w1).mono ?_
    rintro e w2 ⟨rfl, hb2⟩
    have HB2 := hide (HB1.out.trans hb2)
    clear hb2
    go_wp2_with fail
    go_ret
    exact ⟨rfl, HB2.out⟩
#print axioms within_any

set_option maxRecDepth 100000 in
theorem known1_any (w : World) (p : Nat) (s : st.St) (v : va.Val) (hp : Box w p (st.cells s) 47) :
    Calls Tryd.prog 48 #[.agg #[.bool v.nul, .int .i64 v.n, .string v.s], .pointer (some ⟨p, 0, none⟩)] w fun e w' => e = .returned (.bool (ou.withinV s v)) ∧ Below w.heap.size w w' := by
  obtain ⟨W, hW, bx, hb⟩ := valbox w v 38
  have HB0 := hide hb
  have HW := hide hW
  have HX := hide bx
  have BS := hide (hp.below hb hp.lt)
  obtain ⟨q, hq⟩ : ∃ q, ou.withinV s v = q := ⟨_, rfl⟩
  have hwi := hide (fun (w : World) => hq ▸ within_any w s v)
  rw [hq]
  obtain ⟨c, hn, ⟨mn, mi, ms⟩, ⟨xn, xi, xs⟩, su, ov⟩ := s
  obtain ⟨vn, vi, vs⟩ := v
  simp only [st.cells] at BS HX HW hwi ⊢
  clear hW bx hb hq hp
  go_enter Tryd.func48, Tryd.ntmps48
  go_upto_region 1 with fail
  rw [HW.out]
  have g0 := HX.out.cell 0 (.bool vn) rfl
  have g1 := HX.out.cell 1 (.int .i64 vi) rfl
  have g2 := HX.out.cell 2 (.string vs) rfl
  have a0 := BS.out.cell 0 (.int .i64 c) rfl
  have a1 := BS.out.cell 1 (.bool hn) rfl
  have a2 := BS.out.cell 2 (.bool mn) rfl
  have a3 := BS.out.cell 3 (.int .i64 mi) rfl
  have a4 := BS.out.cell 4 (.string ms) rfl
  have a5 := BS.out.cell 5 (.bool xn) rfl
  have a6 := BS.out.cell 6 (.int .i64 xi) rfl
  have a7 := BS.out.cell 7 (.string xs) rfl
  have a8 := BS.out.cell 8 (.int .i64 su) rfl
  have a9 := BS.out.cell 9 (.bool ov) rfl
  go_wp2_with fail
  refine (hwi.out W).mono ?_
  rintro e w1 ⟨rfl, hb⟩
  have HL := hide (HB0.out.trans hb)
  clear hb
  go_wp2_with fail
  go_ret
  exact ⟨rfl, HL.out⟩
#print axioms known1_any

theorem anyS_step {f : va.Val → Bool} {l : List va.Val} {k : Nat} {u : va.Val} (h : l[k]? = some u) : (l.drop k).any f = (f u || (l.drop (k + 1)).any f) := by
  rw [va.drop_step h]; rfl
set_option maxRecDepth 100000 in
set_option maxHeartbeats 1000000 in
theorem indexk_any (w : World) (p : Nat) (s : st.St) (A : Option Addr) (n c : Nat) (l : List va.Val) (hp : Box w p (st.cells s) 47) (hl : l.length = n) (hn : n ≤ 9223372036854775807) (hr : Row w w.heap.size A (vcs l)) :
    Calls Tryd.prog 57 #[.slice A n c, .func (Fn.func 48) #[] #[.pointer (some ⟨p, 0, none⟩)]] w fun e w' => ∃ x : Int, e = .returned (.int .i64 x) ∧ decide (0 ≤ x) = l.any (ou.withinV s) ∧ Below w.heap.size w w' := by
  have HL := hide hl
  have HR := hide hr
  have HP := hide hp
  obtain ⟨ans, hans⟩ : ∃ a, l.any (ou.withinV s) = a := ⟨_, rfl⟩
  have HA := hide (show (l.drop 0).any (ou.withinV s) = ans by rw [List.drop_zero]; exact hans)
  rw [hans]
  clear hl hr hp hans
  go_enter Tryd.func57, Tryd.ntmps57
  go_wp2_with fail
  go_loopw [8] (fun i wr => ∃ j : Nat, i = .int .i64 j ∧ j ≤ n ∧ Hid ((l.drop j).any (ou.withinV s) = ans) ∧ Hid (Le w wr)) (fun i _ => n - (intOf i).toNat)
  case atStart => exact ⟨0, rfl, Nat.zero_le _, HA, hide (Below.refl _ _)⟩
  case round =>
    obtain ⟨j, rfl, hj, HG, HB⟩ := hrel
    by_cases hjn : j < n
    · obtain ⟨u, hu⟩ : ∃ u, l[j]? = some u := ⟨_, List.getElem?_eq_getElem (by rw [HL.out]; exact hjn)⟩
      obtain ⟨bA, oA, rfl, hbA, r0, r1, r2⟩ := row_at3 HR.out hu
      have e0 : wr.cell? ⟨bA, oA + j * 3, none⟩ = some (.bool u.nul) := (HB.out.cell (p := ⟨bA, oA + j * 3, none⟩) hbA).trans r0
      have e1 : wr.cell? ⟨bA, oA + j * 3 + 1, none⟩ = some (.int .i64 u.n) := (HB.out.cell (p := ⟨bA, oA + j * 3 + 1, none⟩) hbA).trans r1
      have e2 : wr.cell? ⟨bA, oA + j * 3 + 2, none⟩ = some (.string u.s) := (HB.out.cell (p := ⟨bA, oA + j * 3 + 2, none⟩) hbA).trans r2
      have hnj : (j : Int) < n := by omega
      have HSJ := hide (show (ou.withinV s u || (l.drop (j + 1)).any (ou.withinV s)) = ans by rw [← anyS_step hu]; exact HG.out)
      clear r0 r1 r2 hu HG
      go_wp2_with fail
      refine (known1_any wr p s u (HP.out.below HB.out HP.out.lt)).mono ?_
      rintro e w1 ⟨rfl, hb⟩
      have HL1 := hide (show Le w w1 from HB.out.trans hb)
      obtain ⟨q, hq⟩ : ∃ q, ou.withinV s u = q := ⟨_, rfl⟩
      rw [hq] at HSJ ⊢
      clear hb hq e0 e1 e2
      cases q
      · have HG2 := hide (show (l.drop (j + 1)).any (ou.withinV s) = ans by rw [← HSJ.out]; rfl)
        go_wp2_with fail
        exact ⟨⟨j + 1, by go_num, by omega, HG2, HL1⟩, by simp [intOf]; omega⟩
      · have HF := hide (show ans = true by rw [← HSJ.out]; rfl)
        go_wp2_with fail
        go_ret
        exact ⟨_, rfl, by rw [HF.out]; simp, HL1.out⟩
    · obtain rfl : j = n := by omega
      have HF := hide (show ans = false by rw [← HG.out, List.drop_eq_nil_of_le (by rw [HL.out]; exact Nat.le_refl _)]; rfl)
      go_wp2_with fail
      go_ret
      exact ⟨_, rfl, by rw [HF.out]; simp, HB.out⟩
#print axioms indexk_any
set_option maxRecDepth 100000 in
theorem containsk_any (w : World) (p : Nat) (s : st.St) (A : Option Addr) (n c : Nat) (l : List va.Val) (hp : Box w p (st.cells s) 47) (hl : l.length = n) (hn : n ≤ 9223372036854775807) (hr : Row w w.heap.size A (vcs l)) :
    Calls Tryd.prog 47 #[.slice A n c, .func (Fn.func 48) #[] #[.pointer (some ⟨p, 0, none⟩)]] w fun e w' => e = .returned (.bool (l.any (ou.withinV s))) ∧ Below w.heap.size w w' := by
  have hix := hide (indexk_any w p s A n c l hp hl hn hr)
  obtain ⟨ans, hans⟩ : ∃ a, l.any (ou.withinV s) = a := ⟨_, rfl⟩
  rw [hans] at hix ⊢
  clear hp hl hr hans
  go_enter Tryd.func47, Tryd.ntmps47
  go_wp2_with fail
  refine hix.out.mono ?_
  rintro e w1 ⟨x, rfl, hx, hb⟩
  have HX := hide hx
  have HB := hide hb
  clear hx hb
  go_wp2_with fail
  go_ret
  exact ⟨by rw [← HX.out]; simp, HB.out⟩
#print axioms containsk_any
end Go.Proofs.YtklgmojojgoaeaaDoor
