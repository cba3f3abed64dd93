/-
  What is known of values: the document's examples, and the law on what is known, walked.
-/
import Derived.Test.YtdnkclbheimlcaaDoorStG
namespace Go.Proofs.YtdnkclbheimlcaaDoor
open Go.RowKit
set_option linter.unusedVariables false

def exA : List va.Val := [⟨false, 3, ⟨#[]⟩⟩, ⟨true, 0, ⟨#[]⟩⟩, ⟨false, -1, ⟨#[]⟩⟩]
def exB : List va.Val := [⟨false, 9223372036854775807, ⟨#[]⟩⟩, ⟨false, 1, ⟨#[]⟩⟩]
def ofA : st.St := ⟨2, true, ⟨false, -1, ⟨#[]⟩⟩, ⟨false, 3, ⟨#[]⟩⟩, 2, false⟩
def ofB : st.St := ⟨2, false, ⟨false, 1, ⟨#[]⟩⟩, ⟨false, 9223372036854775807, ⟨#[]⟩⟩, 0, true⟩
theorem exA_of : st.of 2 exA = ofA := by kernel_rfl
theorem exB_of : st.of 2 exB = ofB := by kernel_rfl
theorem exA_in : ∀ v ∈ exA, st.In v.n := by intro v hv; simp [exA] at hv; unfold st.In; rcases hv with rfl | rfl | rfl <;> simp
theorem exB_in : ∀ v ∈ exB, st.In v.n := by intro v hv; simp [exB] at hv; unfold st.In; rcases hv with rfl | rfl <;> simp
set_option maxRecDepth 100000 in
set_option maxHeartbeats 4000000 in
theorem shown_any (w : World) : Calls Tryd.prog 7 #[] w fun e w' => e = .returned (.bool true) ∧ Below w.heap.size w w' := by
  go_enter Tryd.func7, Tryd.ntmps7
  go_wp2_with fail
  obtain ⟨W, hW⟩ : ∃ W, w.alloc (.cells #[.bool false, .int .i64 3, .string ⟨#[]⟩, .bool true, .int .i64 0, .string ⟨#[]⟩, .bool false, .int .i64 (-1), .string ⟨#[]⟩] 26) = W := ⟨_, rfl⟩
  have hrow : Row W W.heap.size (some ⟨w.heap.size, 0, none⟩) (vcs exA) := by
    rw [← hW]
    exact (row_new w #[.bool false, .int .i64 3, .string ⟨#[]⟩, .bool true, .int .i64 0, .string ⟨#[]⟩, .bool false, .int .i64 (-1), .string ⟨#[]⟩] 26 (0, 0)).more (by simp)
  have hb : Le w W := by rw [← hW]; exact (Below.refl _ _).alloc (Nat.le_refl _) _
  rw [hW]
  have HB := hide hb
  clear hW hb
  refine (of_any W 2 _ 3 3 exA rfl (by omega) exA_in hrow).mono ?_
  rintro e w1 ⟨rfl, hb1⟩
  rw [exA_of]
  have HB1 := hide (show Le w w1 from HB.out.trans hb1)
  clear hb1 hrow
  simp only [ofA, st.cells]
  go_wp2_with fail
  obtain ⟨X, hX⟩ : ∃ X, (w1.alloc (.cells #[.int .i64 2, .bool true, .bool false, .int .i64 (-1), .string ⟨#[]⟩, .bool false, .int .i64 3, .string ⟨#[]⟩, .int .i64 2, .bool false] 28)).alloc (.cells #[.bool false, .int .i64 9223372036854775807, .string ⟨#[]⟩, .bool false, .int .i64 1, .string ⟨#[]⟩] 26) = X := ⟨_, rfl⟩
  have hrow : Row X X.heap.size (some ⟨w1.heap.size + 1, 0, none⟩) (vcs exB) := by
    rw [← hX]
    have h := (row_new (w1.alloc (.cells #[.int .i64 2, .bool true, .bool false, .int .i64 (-1), .string ⟨#[]⟩, .bool false, .int .i64 3, .string ⟨#[]⟩, .int .i64 2, .bool false] 28)) #[.bool false, .int .i64 9223372036854775807, .string ⟨#[]⟩, .bool false, .int .i64 1, .string ⟨#[]⟩] 26 (0, 0)).more (show (w1.alloc (.cells #[.int .i64 2, .bool true, .bool false, .int .i64 (-1), .string ⟨#[]⟩, .bool false, .int .i64 3, .string ⟨#[]⟩, .int .i64 2, .bool false] 28)).heap.size + 1 ≤ ((w1.alloc (.cells #[.int .i64 2, .bool true, .bool false, .int .i64 (-1), .string ⟨#[]⟩, .bool false, .int .i64 3, .string ⟨#[]⟩, .int .i64 2, .bool false] 28)).alloc (.cells #[.bool false, .int .i64 9223372036854775807, .string ⟨#[]⟩, .bool false, .int .i64 1, .string ⟨#[]⟩] 26)).heap.size by simp)
    have e : (w1.alloc (.cells #[.int .i64 2, .bool true, .bool false, .int .i64 (-1), .string ⟨#[]⟩, .bool false, .int .i64 3, .string ⟨#[]⟩, .int .i64 2, .bool false] 28)).heap.size = w1.heap.size + 1 := by simp
    rw [e] at h
    exact h
  have bA : Box X w1.heap.size #[.int .i64 2, .bool true, .bool false, .int .i64 (-1), .string ⟨#[]⟩, .bool false, .int .i64 3, .string ⟨#[]⟩, .int .i64 2, .bool false] 28 := by rw [← hX]; exact (box_new _ _ _).alloc _
  have hLX : Le w X := by rw [← hX]; exact (HB1.out.alloc HB1.out.size _).alloc (by have := HB1.out.size; simp; omega) _
  rw [hX]
  clear hX
  refine (of_any X 2 _ 2 2 exB rfl (by omega) exB_in hrow).mono ?_
  rintro e w2 ⟨rfl, hb2⟩
  rw [exB_of]
  simp only [ofB, st.cells]
  have bA2 := bA.below hb2 bA.lt
  have d0 := bA2.cell 0 (.int .i64 2) rfl
  have d1 := bA2.cell 1 (.bool true) rfl
  have d2 := bA2.cell 2 (.bool false) rfl
  have d3 := bA2.cell 3 (.int .i64 (-1)) rfl
  have d4 := bA2.cell 4 (.string ⟨#[]⟩) rfl
  have d5 := bA2.cell 5 (.bool false) rfl
  have d6 := bA2.cell 6 (.int .i64 3) rfl
  have d7 := bA2.cell 7 (.string ⟨#[]⟩) rfl
  have d8 := bA2.cell 8 (.int .i64 2) rfl
  have d9 := bA2.cell 9 (.bool false) rfl
  have hz2 := bA2.lt
  have HF := hide (show Le w w2 from hLX.trans hb2)
  clear hb2 hrow bA bA2 hLX
  go_wp2_with fail
  go_ret
  exact ⟨rfl, HF.out.alloc HF.out.size _⟩
#print axioms shown_any

set_option maxRecDepth 100000 in
set_option maxHeartbeats 4000000 in
theorem statsof_walk (w : World) (k : Int) (A : Option Addr) (n c : Nat) (l : List va.Val) (hl : l.length = n) (hn : n ≤ 9223372036854775807) (hin : ∀ v ∈ l, st.In v.n ∧ v.s.size ≤ 9223372036854775807) (hT : Tabs8 w) (hr : Row w w.heap.size A (vcs l)) :
    Calls Tryd.prog 3 #[.int .i64 k, .slice A n c] w fun e w' => e = .returned (.bool true) ∧ Below w.heap.size w w' := by
  have HIN := hide hin
  have HT := hide hT
  have HL := hide hl
  clear hin hT hl
  go_enter Tryd.func3, Tryd.ntmps3
  go_wp2_with fail
  refine (shown_any w).mono ?_
  rintro e w1 ⟨rfl, hb1⟩
  have HB1 := hide (show Le w w1 from hb1)
  clear hb1
  go_wp2_with fail
  refine (vfew_any w1 k A n c l HL.out hn (fun v hv => (HIN.out v hv).2) (HT.out.le HB1.out) ((HB1.out.row hr (Nat.le_refl _)).more HB1.out.size)).mono ?_
  rintro e w2 ⟨o, A2, m, c2, rfl, hol, hm, hom, hr2, hb2⟩
  have HB2 := hide (show Le w w2 from HB1.out.trans hb2)
  have HOL := hide hol
  have HOI := hide (show ∀ v ∈ o, st.In v.n from fun v hv => (HIN.out v (hom v hv)).1)
  have HR2 := hide hr2
  clear hol hom hr2 hb2
  go_wp2_with fail
  refine (of_any w2 k A2 m c2 o HOL.out (by omega) HOI.out HR2.out).mono ?_
  rintro e w3 ⟨rfl, hb3⟩
  have HB3 := hide (show Le w2 w3 from hb3)
  clear hb3
  go_wp2_with fail
  refine (refof_any w3 k A2 m c2 o HOL.out (by omega) HOI.out ((HB3.out.row HR2.out (Nat.le_refl _)).more HB3.out.size)).mono ?_
  rintro e w4 ⟨rfl, hb4⟩
  have HF := hide (show Le w w4 from HB2.out.trans (HB3.out.trans hb4))
  obtain ⟨S, hS⟩ : ∃ S, st.of k o = S := ⟨_, rfl⟩
  rw [hS]
  obtain ⟨sc, shn, ⟨mn, mi, ms⟩, ⟨xn, xi, xs⟩, su, ov⟩ := S
  simp only [st.cells]
  clear hb4 hS
  go_wp2_with fail
  go_ret
  exact ⟨rfl, HF.out⟩
#print axioms statsof_walk
end Go.Proofs.YtdnkclbheimlcaaDoor
