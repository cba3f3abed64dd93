/-
  The document's examples of values, walked.
-/
import Derived.Test.YtoembifjgmiamaaDoorValB2
import Derived.Laws.RangeAny
namespace Go.Proofs.YtoembifjgmiamaaDoor
open Go.RowKit
set_option linter.unusedVariables false

/-- utf8's table has this at 255. -/
def Has255 (w : World) : Prop := w.cell? ⟨0, 255, none⟩ = some (.int .u8 241)
theorem Has255.le {w W : World} (h : Has255 w) (hz : 0 < w.heap.size) (hb : Le w W) : Has255 W := (hb.cell (p := ⟨0, 255, none⟩) hz).trans h
theorem bits_slow : bits .or .i32 (bits .andNot .i32 255 (wrap32 517543559168 / 2147483648)) (bits .and .i32 65533 (wrap32 517543559168 / 2147483648)) = 65533 := by decide +kernel
set_option maxRecDepth 100000 in
theorem slow_any (w : World) (h : Has255 w) : Calls Tryd.prog 31 #[.string ⟨#[255]⟩] w fun e w' => e = .returned (.tuple #[.int .i32 65533, .int .i64 1]) ∧ w = w' := by
  unfold Has255 at h
  have hff : ((⟨#[255]⟩ : ByteArray)[0]'(by decide)).toNat = 255 := rfl
  go_enter Tryd.func31, Tryd.ntmps31
  go_wp2_with fail
  go_ret2
  refine ⟨?_, rfl⟩
  show Ending.returned (.tuple #[.int .i32 (bits .or .i32 (bits .andNot .i32 255 (wrap32 517543559168 / 2147483648)) (bits .and .i32 65533 (wrap32 517543559168 / 2147483648))), .int .i64 1]) = _
  rw [bits_slow]
set_option maxRecDepth 100000 in
theorem decode_any (w : World) (h : Has255 w) : Calls Tryd.prog 28 #[.string ⟨#[255]⟩] w fun e w' => e = .returned (.tuple #[.int .i32 65533, .int .i64 1]) ∧ w = w' := by
  have H := hide h
  clear h
  have hff : ((⟨#[255]⟩ : ByteArray)[0]'(by decide)).toNat = 255 := rfl
  go_enter Tryd.func28, Tryd.ntmps28
  go_wp2_with fail
  refine (slow_any w H.out).mono ?_
  rintro e w' ⟨rfl, rfl⟩
  go_wp2_with fail
  go_ret2
  exact ⟨rfl, rfl⟩

theorem dec_e : Utf8.decode ⟨#[195, 169]⟩ 0 = (233, 2) := by decide +kernel
theorem dec_ff : Utf8.decode ⟨#[255]⟩ 0 = (65533, 1) := by decide +kernel
theorem iter_le (w : World) (s : ByteArray) (p : Nat) : Le w (w.iter s p) := (Below.refl _ _).alloc (Nat.le_refl _) _
set_option maxRecDepth 100000 in
theorem right_e (w : World) : Calls Tryd.prog 22 #[.string ⟨#[195, 169]⟩] w fun e w' => e = .returned (.bool true) ∧ Below w.heap.size w w' := by
  go_enter Tryd.func22, Tryd.ntmps22
  go_wp2_with fail
  go_loopw [3] (fun _ wr => ∃ pos : Nat, wr = w.iter ⟨#[195, 169]⟩ pos ∧ (pos = 0 ∨ pos = 2)) (fun _ wr => 2 - wr.iterPos w.heap.size)
  case atStart => exact ⟨0, rfl, .inl rfl⟩
  case round =>
    obtain ⟨pos, rfl, hp⟩ := hrel
    rcases hp with rfl | rfl
    · have hnx : ∀ ty, (Instr.next (.pointer (some ⟨w.heap.size, 0, none⟩)) true ty).run Tryd.prog (w.iter ⟨#[195, 169]⟩ 0) = .ok (.tuple #[.bool true, .int .i64 0, .int .i32 233]) (w.iter ⟨#[195, 169]⟩ 2) := fun ty => by
        have h := run_next_any (P := Tryd.prog) w ⟨#[195, 169]⟩ 0 ty (by decide)
        rw [dec_e] at h
        exact h
      go_wp2_with fail
      exact ⟨⟨2, rfl, .inr rfl⟩, by simp⟩
    · have hnx : ∀ ty, (Instr.next (.pointer (some ⟨w.heap.size, 0, none⟩)) true ty).run Tryd.prog (w.iter ⟨#[195, 169]⟩ 2) = _ := fun ty => run_next_end w ⟨#[195, 169]⟩ 2 ty (by decide)
      go_wp2_with fail
      go_ret
      exact ⟨rfl, iter_le w _ _⟩
set_option maxRecDepth 100000 in
theorem right_ff (w : World) (h : Has255 w) (hz : 0 < w.heap.size) : Calls Tryd.prog 22 #[.string ⟨#[255]⟩] w fun e w' => e = .returned (.bool false) ∧ Below w.heap.size w w' := by
  have H := hide (h.le hz (iter_le w ⟨#[255]⟩ 1))
  clear h
  go_enter Tryd.func22, Tryd.ntmps22
  go_wp2_with fail
  go_loopw [3] (fun _ wr => wr = w.iter ⟨#[255]⟩ 0) (fun _ wr => 2 - wr.iterPos w.heap.size)
  case atStart => rfl
  case round =>
    subst hrel
    have hnx : ∀ ty, (Instr.next (.pointer (some ⟨w.heap.size, 0, none⟩)) true ty).run Tryd.prog (w.iter ⟨#[255]⟩ 0) = .ok (.tuple #[.bool true, .int .i64 0, .int .i32 65533]) (w.iter ⟨#[255]⟩ 1) := fun ty => by
      have h := run_next_any (P := Tryd.prog) w ⟨#[255]⟩ 0 ty (by decide)
      rw [dec_ff] at h
      exact h
    go_wp2_with fail
    refine (decode_any _ H.out).mono ?_
    rintro e w' ⟨rfl, rfl⟩
    go_wp2_with fail
    go_ret
    exact ⟨rfl, iter_le w _ _⟩
#print axioms right_ff
theorem number_1 (w : World) : Calls Tryd.prog 11 #[.int .i64 1] w fun e w' => e = .returned (.bool true) ∧ w = w' := by
  go_enter Tryd.func11, Tryd.ntmps11
  go_wp2_with fail
  go_ret
  exact ⟨rfl, rfl⟩
theorem number_6 (w : World) : Calls Tryd.prog 11 #[.int .i64 6] w fun e w' => e = .returned (.bool false) ∧ w = w' := by
  go_enter Tryd.func11, Tryd.ntmps11
  go_wp2_with fail
  go_ret
  exact ⟨rfl, rfl⟩
theorem number_7 (w : World) : Calls Tryd.prog 11 #[.int .i64 7] w fun e w' => e = .returned (.bool false) ∧ w = w' := by
  go_enter Tryd.func11, Tryd.ntmps11
  go_wp2_with fail
  go_ret
  exact ⟨rfl, rfl⟩
set_option maxRecDepth 100000 in
theorem may_2 (w : World) : Calls Tryd.prog 13 #[.int .i64 1, .agg #[.bool false, .int .i64 2, .string ⟨#[]⟩]] w fun e w' => e = .returned (.bool false) ∧ Below w.heap.size w w' := by
  have hb : bits .andNot .i64 2 1 = 2 := by decide +kernel
  obtain ⟨W, hW⟩ : ∃ W, w.alloc (.cells #[.bool false, .int .i64 2, .string ⟨#[]⟩] 23) = W := ⟨_, rfl⟩
  have bx : Box W w.heap.size #[.bool false, .int .i64 2, .string ⟨#[]⟩] 23 := by rw [← hW]; exact box_new _ _ _
  have HB := hide (show Le w W by rw [← hW]; exact (Below.refl _ _).alloc (Nat.le_refl _) _)
  have HW := hide hW
  have c0 := bx.cell 0 (.bool false) rfl
  have c1 := bx.cell 1 (.int .i64 2) rfl
  have c2 := bx.cell 2 (.string ⟨#[]⟩) rfl
  clear hW bx
  go_enter Tryd.func13, Tryd.ntmps13
  go_wp2_with fail
  rw [HW.out]
  refine (number_1 W).mono ?_
  rintro e w' ⟨rfl, rfl⟩
  go_wp2_with fail
  go_ret
  exact ⟨rfl, HB.out⟩
set_option maxRecDepth 100000 in
theorem may_e (w : World) : Calls Tryd.prog 13 #[.int .i64 6, .agg #[.bool false, .int .i64 0, .string ⟨#[195, 169]⟩]] w fun e w' => e = .returned (.bool true) ∧ Below w.heap.size w w' := by
  obtain ⟨W, hW⟩ : ∃ W, w.alloc (.cells #[.bool false, .int .i64 0, .string ⟨#[195, 169]⟩] 23) = W := ⟨_, rfl⟩
  have bx : Box W w.heap.size #[.bool false, .int .i64 0, .string ⟨#[195, 169]⟩] 23 := by rw [← hW]; exact box_new _ _ _
  have HB := hide (show Le w W by rw [← hW]; exact (Below.refl _ _).alloc (Nat.le_refl _) _)
  have HW := hide hW
  have c0 := bx.cell 0 (.bool false) rfl
  have c1 := bx.cell 1 (.int .i64 0) rfl
  have c2 := bx.cell 2 (.string ⟨#[195, 169]⟩) rfl
  clear hW bx
  go_enter Tryd.func13, Tryd.ntmps13
  go_wp2_with fail
  rw [HW.out]
  refine (number_6 W).mono ?_
  rintro e w' ⟨rfl, rfl⟩
  go_wp2_with fail
  refine (right_e W).mono ?_
  rintro e w1 ⟨rfl, hb1⟩
  have HB1 := hide (show Below w.heap.size w w1 from HB.out.trans hb1)
  clear hb1
  go_wp2_with fail
  go_ret
  exact ⟨rfl, HB1.out⟩
set_option maxRecDepth 100000 in
theorem may_ff (w : World) (h : Has255 w) (hz : 0 < w.heap.size) : Calls Tryd.prog 13 #[.int .i64 6, .agg #[.bool false, .int .i64 0, .string ⟨#[255]⟩]] w fun e w' => e = .returned (.bool false) ∧ Below w.heap.size w w' := by
  have H := hide h
  clear h
  obtain ⟨W, hW⟩ : ∃ W, w.alloc (.cells #[.bool false, .int .i64 0, .string ⟨#[255]⟩] 23) = W := ⟨_, rfl⟩
  have bx : Box W w.heap.size #[.bool false, .int .i64 0, .string ⟨#[255]⟩] 23 := by rw [← hW]; exact box_new _ _ _
  have HB := hide (show Le w W by rw [← hW]; exact (Below.refl _ _).alloc (Nat.le_refl _) _)
  have HW := hide hW
  have c0 := bx.cell 0 (.bool false) rfl
  have c1 := bx.cell 1 (.int .i64 0) rfl
  have c2 := bx.cell 2 (.string ⟨#[255]⟩) rfl
  clear hW bx
  go_enter Tryd.func13, Tryd.ntmps13
  go_wp2_with fail
  rw [HW.out]
  refine (number_6 W).mono ?_
  rintro e w' ⟨rfl, rfl⟩
  go_wp2_with fail
  refine (right_ff W (H.out.le hz HB.out) (Nat.lt_of_lt_of_le hz HB.out.size)).mono ?_
  rintro e w1 ⟨rfl, hb1⟩
  have HB1 := hide (show Below w.heap.size w w1 from HB.out.trans hb1)
  clear hb1
  go_wp2_with fail
  go_ret
  exact ⟨rfl, HB1.out⟩
set_option maxRecDepth 100000 in
theorem may_7 (w : World) : Calls Tryd.prog 13 #[.int .i64 7, .agg #[.bool false, .int .i64 0, .string ⟨#[255]⟩]] w fun e w' => e = .returned (.bool true) ∧ Below w.heap.size w w' := by
  obtain ⟨W, hW⟩ : ∃ W, w.alloc (.cells #[.bool false, .int .i64 0, .string ⟨#[255]⟩] 23) = W := ⟨_, rfl⟩
  have bx : Box W w.heap.size #[.bool false, .int .i64 0, .string ⟨#[255]⟩] 23 := by rw [← hW]; exact box_new _ _ _
  have HB := hide (show Le w W by rw [← hW]; exact (Below.refl _ _).alloc (Nat.le_refl _) _)
  have HW := hide hW
  have c0 := bx.cell 0 (.bool false) rfl
  have c1 := bx.cell 1 (.int .i64 0) rfl
  have c2 := bx.cell 2 (.string ⟨#[255]⟩) rfl
  clear hW bx
  go_enter Tryd.func13, Tryd.ntmps13
  go_wp2_with fail
  rw [HW.out]
  refine (number_7 W).mono ?_
  rintro e w' ⟨rfl, rfl⟩
  go_wp2_with fail
  go_ret
  exact ⟨rfl, HB.out⟩
#print axioms may_ff
theorem cmp_ex1 : va.cmpV ⟨true, 0, ⟨#[]⟩⟩ ⟨false, 0, ⟨#[]⟩⟩ = -1 := rfl
theorem cmp_ex2 : va.cmpV ⟨false, 3, ⟨#[]⟩⟩ ⟨false, -1, ⟨#[]⟩⟩ = 1 := by decide
set_option maxRecDepth 100000 in
theorem shown_any (w : World) (h : Has255 w) (hz : 0 < w.heap.size) : Calls Tryd.prog 7 #[] w fun e w' => e = .returned (.bool true) ∧ Below w.heap.size w w' := by
  have H := hide h
  clear h
  go_enter Tryd.func7, Tryd.ntmps7
  go_wp2_with fail
  refine (may_2 w).mono ?_
  rintro e w1 ⟨rfl, hb1⟩
  have L1 := hide (show Le w w1 from hb1)
  clear hb1
  go_wp2_with fail
  refine (may_e w1).mono ?_
  rintro e w2 ⟨rfl, hb2⟩
  have L2 := hide (show Le w w2 from L1.out.trans hb2)
  clear hb2
  go_wp2_with fail
  refine (may_ff w2 (H.out.le hz L2.out) (Nat.lt_of_lt_of_le hz L2.out.size)).mono ?_
  rintro e w3 ⟨rfl, hb3⟩
  have L3 := hide (show Le w w3 from L2.out.trans hb3)
  clear hb3
  go_wp2_with fail
  refine (may_7 w3).mono ?_
  rintro e w4 ⟨rfl, hb4⟩
  have L4 := hide (show Le w w4 from L3.out.trans hb4)
  clear hb4
  go_wp2_with fail
  refine (compare_any w4 ⟨true, 0, ⟨#[]⟩⟩ ⟨false, 0, ⟨#[]⟩⟩).mono ?_
  rintro e w5 ⟨rfl, hb5⟩
  rw [cmp_ex1]
  have L5 := hide (show Le w w5 from L4.out.trans hb5)
  clear hb5
  go_wp2_with fail
  refine (compare_any w5 ⟨false, 3, ⟨#[]⟩⟩ ⟨false, -1, ⟨#[]⟩⟩).mono ?_
  rintro e w6 ⟨rfl, hb6⟩
  rw [cmp_ex2]
  have L6 := hide (show Le w w6 from L5.out.trans hb6)
  clear hb6
  go_wp2_with fail
  go_ret
  exact ⟨rfl, L6.out⟩
#print axioms shown_any
end Go.Proofs.YtoembifjgmiamaaDoor
