/-
  What is known of values, walked: with a sum.
-/
import Derived.Test.YtdnkclbheimlcaaDoorStA
namespace Go.Proofs.YtdnkclbheimlcaaDoor
open Go.RowKit
set_option linter.unusedVariables false

theorem cells_one (s : st.St) : (st.cells s).all (·.oneCell') = true := by simp [st.cells, Value.oneCell']
def stz : st.St := ⟨0, false, ⟨false, 0, ⟨#[]⟩⟩, ⟨false, 0, ⟨#[]⟩⟩, 0, false⟩
set_option maxRecDepth 100000 in
set_option maxHeartbeats 1000000 in
theorem summed_any (w : World) (k : Int) (s : st.St) (t : Int) (ht : -18889465931478580854784 ≤ t ∧ t ≤ 18889465931478580854784) :
    Calls Tryd.prog 20 #[.int .i64 k, .agg (st.cells s), .agg #[.int .i64 (t / 18446744073709551616), .int .u64 (t % 18446744073709551616)]] w fun e w' => e = .returned (.agg (st.cells (st.summed k s t))) ∧ Below w.heap.size w w' := by
  have hsum := hide (fun (w : World) => sum_any w t ht)
  obtain ⟨hi, hhi⟩ : ∃ hi, t / 18446744073709551616 = hi := ⟨_, rfl⟩
  obtain ⟨lo, hlo⟩ : ∃ lo, t % 18446744073709551616 = lo := ⟨_, rfl⟩
  rw [hhi, hlo] at hsum ⊢
  obtain ⟨q, hq⟩ : ∃ q, decide (1 ≤ k ∧ k ≤ 5) = q := ⟨_, rfl⟩
  have hr : st.summed k s t = if q && !s.ov then { s with sum := (st.sumOf t).1, ov := (st.sumOf t).2 } else s := by unfold st.summed st.num; rw [hq]
  rw [hr]
  obtain ⟨⟨sm, ov2⟩, hso⟩ : ∃ p, st.sumOf t = p := ⟨_, rfl⟩
  rw [hso] at hsum ⊢
  have HQ := hide hq
  clear hq hr hso hhi hlo ht
  obtain ⟨c, hn, ⟨mn, mi, ms⟩, ⟨xn, xi, xs⟩, su, ov⟩ := s
  simp only [st.cells]
  obtain ⟨W, hW, h0, h1, h2, hb, hz⟩ := box3 w #[.int .i64 c, .bool hn, .bool mn, .int .i64 mi, .string ms, .bool xn, .int .i64 xi, .string xs, .int .i64 su, .bool ov] #[.int .i64 hi, .int .u64 lo] #[.int .i64 0, .bool false, .bool false, .int .i64 0, .string ⟨#[]⟩, .bool false, .int .i64 0, .string ⟨#[]⟩, .int .i64 0, .bool false] 28 39 28
  have HW := hide hW
  have HB := hide hb
  have H0 := hide h0
  have H1 := hide h1
  have H2 := hide h2
  clear hW hb h0 h1 h2
  go_enter Tryd.func20, Tryd.ntmps20
  go_wp2_with fail
  rw [HW.out]
  refine (number_any W k).mono ?_
  rintro e w' ⟨rfl, rfl⟩
  rw [HQ.out]
  have a0 := H0.out.cell 0 (.int .i64 c) rfl
  have a1 := H0.out.cell 1 (.bool hn) rfl
  have a2 := H0.out.cell 2 (.bool mn) rfl
  have a3 := H0.out.cell 3 (.int .i64 mi) rfl
  have a4 := H0.out.cell 4 (.string ms) rfl
  have a5 := H0.out.cell 5 (.bool xn) rfl
  have a6 := H0.out.cell 6 (.int .i64 xi) rfl
  have a7 := H0.out.cell 7 (.string xs) rfl
  have a8 := H0.out.cell 8 (.int .i64 su) rfl
  have a9 := H0.out.cell 9 (.bool ov) rfl
  cases q with
  | false =>
    go_wp2_with (refine wpList_store_row rfl 28 _ _ rfl (w.heap.size + 1 + 1) #[.int .i64 c, .bool hn, .bool mn, .int .i64 mi, .string ms, .bool xn, .int .i64 xi, .string xs, .int .i64 su, .bool ov] rfl rfl 28 _ H2.out (by kernel_rfl) rfl (cells_one ⟨c, hn, ⟨mn, mi, ms⟩, ⟨xn, xi, xs⟩, su, ov⟩) ?_)
    refine bodyPost_ret (box_results rfl _ (setRow_heap _ _ _ _ _ _ H2.out) rfl Tryd.underlying28 rfl rfl) rfl ?_
    exact ⟨rfl, below_setRow HB.out (by omega) _⟩
  | true =>
    cases ov with
    | true =>
      go_wp2_with (refine wpList_store_row rfl 28 _ _ rfl (w.heap.size + 1 + 1) #[.int .i64 c, .bool hn, .bool mn, .int .i64 mi, .string ms, .bool xn, .int .i64 xi, .string xs, .int .i64 su, .bool true] rfl rfl 28 _ H2.out (by kernel_rfl) rfl (cells_one ⟨c, hn, ⟨mn, mi, ms⟩, ⟨xn, xi, xs⟩, su, true⟩) ?_)
      refine bodyPost_ret (box_results rfl _ (setRow_heap _ _ _ _ _ _ H2.out) rfl Tryd.underlying28 rfl rfl) rfl ?_
      exact ⟨rfl, below_setRow HB.out (by omega) _⟩
    | false =>
      have l0 := H1.out.cell 0 (.int .i64 hi) rfl
      have l1 := H1.out.cell 1 (.int .u64 lo) rfl
      go_wp2_with fail
      refine (hsum.out W).mono ?_
      rintro e w1 ⟨rfl, hb1⟩
      have HB1 := hide (HB.out.trans (Below.mono hb1 (by omega)))
      have h0' := H0.out.below hb1 H0.out.lt
      have h2' := H2.out.below hb1 H2.out.lt
      have H0' := hide h0'
      have H2' := hide h2'
      have e0 := h0'.cell 0 (.int .i64 c) rfl
      have e1 := h0'.cell 1 (.bool hn) rfl
      have e2 := h0'.cell 2 (.bool mn) rfl
      have e3 := h0'.cell 3 (.int .i64 mi) rfl
      have e4 := h0'.cell 4 (.string ms) rfl
      have e5 := h0'.cell 5 (.bool xn) rfl
      have e6 := h0'.cell 6 (.int .i64 xi) rfl
      have e7 := h0'.cell 7 (.string xs) rfl
      have e8 := h0'.cell 8 (.int .i64 su) rfl
      have e9 := h0'.cell 9 (.bool false) rfl
      have f8 := h0'.frozen 8
      have f9 := h0'.frozen 9
      have hne : ¬ (w.heap.size = w.heap.size + 1 + 1) := by omega
      clear hb1 h0' h2' a0 a1 a2 a3 a4 a5 a6 a7 a8 a9 l0 l1 HW
      have hov : (!!ov2) = ov2 := Bool.not_not ov2
      go_wp2_with (refine wpList_store_row rfl 28 _ _ rfl (w.heap.size + 1 + 1) #[.int .i64 c, .bool hn, .bool mn, .int .i64 mi, .string ms, .bool xn, .int .i64 xi, .string xs, .int .i64 sm, .bool ov2] rfl rfl 28 _ ((H2'.out.other (by simp; omega) _).other (by simp; omega) _) (by kernel_rfl) rfl (cells_one ⟨c, hn, ⟨mn, mi, ms⟩, ⟨xn, xi, xs⟩, sm, ov2⟩) ?_)
      refine bodyPost_ret (box_results rfl _ (setRow_heap _ _ _ _ _ _ ((H2'.out.other (by simp; omega) _).other (by simp; omega) _)) rfl Tryd.underlying28 rfl rfl) rfl ?_
      exact ⟨rfl, below_setRow ((HB1.out.setCell (Nat.le_refl _) _).setCell (Nat.le_refl _) _) (by omega) _⟩
#print axioms summed_any
end Go.Proofs.YtdnkclbheimlcaaDoor
