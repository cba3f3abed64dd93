/-
  The document's PutValue, walked (written by genQU.py).
-/
import Derived.Test.YtjliocbdidiemaaDoorQR
namespace Go.Proofs.YtjliocbdidiemaaDoor
open Go.RowKit
set_option linter.unusedVariables false

set_option maxRecDepth 100000 in
set_option maxHeartbeats 8000000 in
theorem refputvalue_any (w : World) (nul : Bool) (x : Int) (s : ByteArray) (hx : I64 x) (hs : s.size ≤ 2000) :
    Calls Tryd.prog 16 #[.agg #[.bool nul, .int .i64 x, .string s]] w (Gives w.heap.size 5 1 (valE nul x (byt s)).length (u8s (valE nul x (byt s))) w) := by
  have HX := hide hx
  have HCV := hide (text_bytes s (by unfold maxLen; omega))
  have HFIT := hide (valF_fits (nul := nul) hx (byt8 s) (by rw [byt_len]; exact hs))
  obtain ⟨nb, hnb⟩ : ∃ nb, s.size = nb := ⟨_, rfl⟩
  rw [hnb] at HCV
  have HNB := hide (show (byt s).length = nb by rw [byt_len]; exact hnb)
  obtain ⟨V, hV⟩ : ∃ V, (w.alloc (.cells #[.bool nul, .int .i64 x, .string s] 32)).drew = V := ⟨_, rfl⟩
  have bx : Box V w.heap.size #[.bool nul, .int .i64 x, .string s] 32 := by rw [← hV]; exact (box_new _ _ _).drew
  have HLV := hide (show Le w V by rw [← hV]; exact ((Below.refl _ _).alloc (Nat.le_refl _) _).drew)
  have g0 := bx.later 0 (.bool nul) rfl
  have g1 := bx.later 1 (.int .i64 x) rfl
  have g2 := bx.later 2 (.string s) rfl
  have HV := hide hV
  clear hV bx hx hs hnb
  go_enter Tryd.func16, Tryd.ntmps16
  go_wp2_with fail
  refine early_begin (by kernel_rfl) ?_
  rw [HV.out]
  show Early _ _ _ 19 (Array.replicate 19 false) _ _
  refine early_take (i := 0) (v := _) rfl (by kernel_rfl) (by kernel_rfl) (by kernel_rfl) rfl (fun W hW => by go_simp <;> exact rfl) ?_
  simp only [Act.put, List.getElem_toArray, List.getElem_cons_zero, List.setIfInBounds_toArray, List.set_cons_zero, List.set_cons_succ]
  refine early_take (i := 1) (v := _) rfl (by kernel_rfl) (by kernel_rfl) (by kernel_rfl) rfl (fun W hW => by go_simp <;> exact rfl) ?_
  simp only [Act.put, List.getElem_toArray, List.getElem_cons_zero, List.getElem_cons_succ, List.setIfInBounds_toArray, List.set_cons_zero, List.set_cons_succ]
  refine early_take (i := 4) (v := _) rfl (by kernel_rfl) (by kernel_rfl) (by kernel_rfl) rfl (fun W hW => by go_simp <;> exact rfl) ?_
  simp only [Act.put, List.getElem_toArray, List.getElem_cons_zero, List.getElem_cons_succ, List.setIfInBounds_toArray, List.set_cons_zero, List.set_cons_succ]
  refine early_take (i := 5) (v := _) rfl (by kernel_rfl) (by kernel_rfl) (by kernel_rfl) rfl (fun W hW => by go_simp <;> exact rfl) ?_
  simp only [Act.put, List.getElem_toArray, List.getElem_cons_zero, List.getElem_cons_succ, List.setIfInBounds_toArray, List.set_cons_zero, List.set_cons_succ]
  refine early_take (i := 8) (v := _) rfl (by kernel_rfl) (by kernel_rfl) (by kernel_rfl) rfl (fun W hW => by go_simp <;> exact rfl) ?_
  simp only [Act.put, List.getElem_toArray, List.getElem_cons_zero, List.getElem_cons_succ, List.setIfInBounds_toArray, List.set_cons_zero, List.set_cons_succ]
  refine early_take (i := 9) (v := _) rfl (by kernel_rfl) (by kernel_rfl) (by kernel_rfl) rfl (fun W hW => by go_simp <;> exact rfl) ?_
  simp only [Act.put, List.getElem_toArray, List.getElem_cons_zero, List.getElem_cons_succ, List.setIfInBounds_toArray, List.set_cons_zero, List.set_cons_succ]
  clear g0 g1 g2
  refine early_two (i := 2) (j := 10) rfl rfl (by kernel_rfl) ?_ ?_
  · go_wp2_with fail
    refine (refbit_any V nul).mono ?_
    rintro e w' ⟨rfl, rfl⟩
    go_wp2_with fail
    refine ⟨Le.refl _, ?_⟩
    refine early_two (i := 3) (j := 10) rfl rfl (by kernel_rfl) ?_ ?_
    · go_wp2_with fail
      refine (refnum_any V 1 (bit nul : Int)).mono ?_
      rintro e w1 ⟨rfl, hb⟩
      have HB1 := hide (show Le V w1 from hb)
      have HL1 := hide (HLV.out.trans HB1.out)
      clear hb
      go_wp2_with fail
      refine ⟨HB1.out, ?_⟩
      refine early_two (i := 6) (j := 10) rfl rfl (by kernel_rfl) ?_ ?_
      · go_wp2_with fail
        refine (refzig_any w1 x HX.out).mono ?_
        rintro e w' ⟨rfl, rfl⟩
        go_wp2_with fail
        refine ⟨Le.refl _, ?_⟩
        refine early_two (i := 7) (j := 10) rfl rfl (by kernel_rfl) ?_ ?_
        · go_wp2_with fail
          refine (refnum_any w1 2 (zig x : Int)).mono ?_
          rintro e w2 ⟨rfl, hb⟩
          have HB2 := hide (show Le w1 w2 from hb)
          have HL2 := hide (HL1.out.trans HB2.out)
          clear hb
          go_wp2_with fail
          refine ⟨HB2.out, ?_⟩
          refine early_one (i := 10) rfl (by kernel_rfl) ?_
          obtain ⟨A8, c8, w3, hc8, hle8, hrow8, hcap8⟩ := HCV.out w2
          have HB3 := hide hle8
          have HR3 := hide hrow8
          have HL3 := hide (HL2.out.trans HB3.out)
          have HC8 := hide hcap8
          clear hle8 hrow8 hcap8
          go_wp2_with fail
          refine ⟨HB3.out, ?_⟩
          clear hc8
          refine early_take (i := 11) (v := _) rfl (by kernel_rfl) (by kernel_rfl) (by kernel_rfl) rfl (fun W hW => by go_simp <;> exact rfl) ?_
          simp only [Act.put, List.getElem_toArray, List.getElem_cons_zero, List.getElem_cons_succ, List.setIfInBounds_toArray, List.set_cons_zero, List.set_cons_succ]
          refine early_one (i := 12) rfl (by kernel_rfl) ?_
          go_wp2_with fail
          refine ⟨(Below.refl _ _).alloc (Nat.le_refl _) _, ?_⟩
          refine early_one (i := 13) rfl (by kernel_rfl) ?_
          go_wp2_with fail
          obtain ⟨X, hX⟩ : ∃ X, w3.alloc (.cells #[.int .i64 1, .bool false, .int .u64 (bit nul : Int), .slice none 0 0, .int .i64 2, .bool false, .int .u64 (zig x : Int), .slice none 0 0, .int .i64 3, .bool true, .int .u64 0, .slice A8 nb c8] 54) = X := ⟨_, rfl⟩
          have hXrow : Row X X.heap.size (some ⟨w3.heap.size, 0, none⟩) (fcs (valV nul x (byt s) A8 c8)) := by
            rw [← hX]
            have h := (row_new w3 #[.int .i64 1, .bool false, .int .u64 (bit nul : Int), .slice none 0 0, .int .i64 2, .bool false, .int .u64 (zig x : Int), .slice none 0 0, .int .i64 3, .bool true, .int .u64 0, .slice A8 nb c8] 54 (0, 0)).more (show w3.heap.size + 1 ≤ (w3.alloc (.cells #[.int .i64 1, .bool false, .int .u64 (bit nul : Int), .slice none 0 0, .int .i64 2, .bool false, .int .u64 (zig x : Int), .slice none 0 0, .int .i64 3, .bool true, .int .u64 0, .slice A8 nb c8] 54)).heap.size by simp)
            rw [← HNB.out] at h ⊢
            exact h
          have HLX := hide (show Le w3 X by rw [← hX]; exact (Below.refl _ _).alloc (Nat.le_refl _) _)
          have hXheld : Held X X.heap.size (valV nul x (byt s) A8 c8) := valV_held (by rw [HNB.out]; exact HC8.out.1) HC8.out.2 (HR3.out.le HLX.out)
          rw [hX]
          have HXX := hide hX
          clear hX
          refine (refwput_any X _ 3 3 (valV nul x (byt s) A8 c8) (valF nul x (byt s)) rfl rfl (by omega) HFIT.out hXrow hXheld).mono ?_
          rintro e w21 ⟨v21, rfl, hown21, hb21⟩
          have HB21 := hide (show Le X w21 from hb21)
          have HBF := hide (show Below w.heap.size w w21 from HL3.out.trans (HLX.out.trans HB21.out))
          have HOF := hide (show w21.ownsRow w.heap.size 5 1 v21 (valE nul x (byt s)).length (u8s (valE nul x (byt s))) by rw [valF_put] at hown21; exact own_more hown21 (HL3.out.trans HLX.out).size)
          obtain ⟨A21, c21, rfl, -, -⟩ := own_form HOF.out
          clear hown21 hb21 hXrow hXheld
          go_wp2_with fail
          refine ⟨by rw [HXX.out]; exact HB21.out, ?_⟩
          refine early_take (i := 14) (v := _) rfl (by kernel_rfl) (by kernel_rfl) (by kernel_rfl) rfl (fun W hW => by go_simp <;> exact rfl) ?_
          simp only [Act.put, List.getElem_toArray, List.getElem_cons_zero, List.getElem_cons_succ, List.setIfInBounds_toArray, List.set_cons_zero, List.set_cons_succ]
          refine early_take (i := 15) (v := _) rfl (by kernel_rfl) (by kernel_rfl) (by kernel_rfl) rfl (fun W hW => by go_simp <;> exact rfl) ?_
          simp only [Act.put, List.getElem_toArray, List.getElem_cons_zero, List.getElem_cons_succ, List.setIfInBounds_toArray, List.set_cons_zero, List.set_cons_succ]
          refine early_take (i := 16) (v := _) rfl (by kernel_rfl) (by kernel_rfl) (by kernel_rfl) rfl (fun W hW => by go_simp <;> exact rfl) ?_
          simp only [Act.put, List.getElem_toArray, List.getElem_cons_zero, List.getElem_cons_succ, List.setIfInBounds_toArray, List.set_cons_zero, List.set_cons_succ]
          refine early_take (i := 17) (v := _) rfl (by kernel_rfl) (by kernel_rfl) (by kernel_rfl) rfl (fun W hW => by go_simp <;> exact rfl) ?_
          simp only [Act.put, List.getElem_toArray, List.getElem_cons_zero, List.getElem_cons_succ, List.setIfInBounds_toArray, List.set_cons_zero, List.set_cons_succ]
          refine early_take (i := 18) (v := _) rfl (by kernel_rfl) (by kernel_rfl) (by kernel_rfl) rfl (fun W hW => by go_simp <;> exact rfl) ?_
          simp only [Act.put, List.getElem_toArray, List.getElem_cons_zero, List.getElem_cons_succ, List.setIfInBounds_toArray, List.set_cons_zero, List.set_cons_succ]
          refine early_done (by kernel_rfl) ?_ _
          go_wp2_with fail
          go_ret
          exact ⟨_, rfl, HOF.out, HBF.out⟩
        · obtain ⟨A8, c8, w4, hc8, hle8, hrow8, hcap8⟩ := HCV.out w1
          have HB4 := hide hle8
          have HR4 := hide hrow8
          have HL4 := hide (HL1.out.trans HB4.out)
          have HC8 := hide hcap8
          clear hle8 hrow8 hcap8
          go_wp2_with fail
          refine ⟨HB4.out, ?_⟩
          clear hc8
          refine early_take (i := 11) (v := _) rfl (by kernel_rfl) (by kernel_rfl) (by kernel_rfl) rfl (fun W hW => by go_simp <;> exact rfl) ?_
          simp only [Act.put, List.getElem_toArray, List.getElem_cons_zero, List.getElem_cons_succ, List.setIfInBounds_toArray, List.set_cons_zero, List.set_cons_succ]
          refine early_one (i := 7) rfl (by kernel_rfl) ?_
          go_wp2_with fail
          refine (refnum_any w4 2 (zig x : Int)).mono ?_
          rintro e w5 ⟨rfl, hb⟩
          have HB5 := hide (show Le w4 w5 from hb)
          have HL5 := hide (HL4.out.trans HB5.out)
          clear hb
          have HR5 := hide (HR4.out.le HB5.out)
          go_wp2_with fail
          refine ⟨HB5.out, ?_⟩
          refine early_one (i := 12) rfl (by kernel_rfl) ?_
          go_wp2_with fail
          refine ⟨(Below.refl _ _).alloc (Nat.le_refl _) _, ?_⟩
          refine early_one (i := 13) rfl (by kernel_rfl) ?_
          go_wp2_with fail
          obtain ⟨X, hX⟩ : ∃ X, w5.alloc (.cells #[.int .i64 1, .bool false, .int .u64 (bit nul : Int), .slice none 0 0, .int .i64 2, .bool false, .int .u64 (zig x : Int), .slice none 0 0, .int .i64 3, .bool true, .int .u64 0, .slice A8 nb c8] 54) = X := ⟨_, rfl⟩
          have hXrow : Row X X.heap.size (some ⟨w5.heap.size, 0, none⟩) (fcs (valV nul x (byt s) A8 c8)) := by
            rw [← hX]
            have h := (row_new w5 #[.int .i64 1, .bool false, .int .u64 (bit nul : Int), .slice none 0 0, .int .i64 2, .bool false, .int .u64 (zig x : Int), .slice none 0 0, .int .i64 3, .bool true, .int .u64 0, .slice A8 nb c8] 54 (0, 0)).more (show w5.heap.size + 1 ≤ (w5.alloc (.cells #[.int .i64 1, .bool false, .int .u64 (bit nul : Int), .slice none 0 0, .int .i64 2, .bool false, .int .u64 (zig x : Int), .slice none 0 0, .int .i64 3, .bool true, .int .u64 0, .slice A8 nb c8] 54)).heap.size by simp)
            rw [← HNB.out] at h ⊢
            exact h
          have HLX := hide (show Le w5 X by rw [← hX]; exact (Below.refl _ _).alloc (Nat.le_refl _) _)
          have hXheld : Held X X.heap.size (valV nul x (byt s) A8 c8) := valV_held (by rw [HNB.out]; exact HC8.out.1) HC8.out.2 (HR5.out.le HLX.out)
          rw [hX]
          have HXX := hide hX
          clear hX
          refine (refwput_any X _ 3 3 (valV nul x (byt s) A8 c8) (valF nul x (byt s)) rfl rfl (by omega) HFIT.out hXrow hXheld).mono ?_
          rintro e w21 ⟨v21, rfl, hown21, hb21⟩
          have HB21 := hide (show Le X w21 from hb21)
          have HBF := hide (show Below w.heap.size w w21 from HL5.out.trans (HLX.out.trans HB21.out))
          have HOF := hide (show w21.ownsRow w.heap.size 5 1 v21 (valE nul x (byt s)).length (u8s (valE nul x (byt s))) by rw [valF_put] at hown21; exact own_more hown21 (HL5.out.trans HLX.out).size)
          obtain ⟨A21, c21, rfl, -, -⟩ := own_form HOF.out
          clear hown21 hb21 hXrow hXheld
          go_wp2_with fail
          refine ⟨by rw [HXX.out]; exact HB21.out, ?_⟩
          refine early_take (i := 14) (v := _) rfl (by kernel_rfl) (by kernel_rfl) (by kernel_rfl) rfl (fun W hW => by go_simp <;> exact rfl) ?_
          simp only [Act.put, List.getElem_toArray, List.getElem_cons_zero, List.getElem_cons_succ, List.setIfInBounds_toArray, List.set_cons_zero, List.set_cons_succ]
          refine early_take (i := 15) (v := _) rfl (by kernel_rfl) (by kernel_rfl) (by kernel_rfl) rfl (fun W hW => by go_simp <;> exact rfl) ?_
          simp only [Act.put, List.getElem_toArray, List.getElem_cons_zero, List.getElem_cons_succ, List.setIfInBounds_toArray, List.set_cons_zero, List.set_cons_succ]
          refine early_take (i := 16) (v := _) rfl (by kernel_rfl) (by kernel_rfl) (by kernel_rfl) rfl (fun W hW => by go_simp <;> exact rfl) ?_
          simp only [Act.put, List.getElem_toArray, List.getElem_cons_zero, List.getElem_cons_succ, List.setIfInBounds_toArray, List.set_cons_zero, List.set_cons_succ]
          refine early_take (i := 17) (v := _) rfl (by kernel_rfl) (by kernel_rfl) (by kernel_rfl) rfl (fun W hW => by go_simp <;> exact rfl) ?_
          simp only [Act.put, List.getElem_toArray, List.getElem_cons_zero, List.getElem_cons_succ, List.setIfInBounds_toArray, List.set_cons_zero, List.set_cons_succ]
          refine early_take (i := 18) (v := _) rfl (by kernel_rfl) (by kernel_rfl) (by kernel_rfl) rfl (fun W hW => by go_simp <;> exact rfl) ?_
          simp only [Act.put, List.getElem_toArray, List.getElem_cons_zero, List.getElem_cons_succ, List.setIfInBounds_toArray, List.set_cons_zero, List.set_cons_succ]
          refine early_done (by kernel_rfl) ?_ _
          go_wp2_with fail
          go_ret
          exact ⟨_, rfl, HOF.out, HBF.out⟩
      · obtain ⟨A8, c8, w6, hc8, hle8, hrow8, hcap8⟩ := HCV.out w1
        have HB6 := hide hle8
        have HR6 := hide hrow8
        have HL6 := hide (HL1.out.trans HB6.out)
        have HC8 := hide hcap8
        clear hle8 hrow8 hcap8
        go_wp2_with fail
        refine ⟨HB6.out, ?_⟩
        clear hc8
        refine early_take (i := 11) (v := _) rfl (by kernel_rfl) (by kernel_rfl) (by kernel_rfl) rfl (fun W hW => by go_simp <;> exact rfl) ?_
        simp only [Act.put, List.getElem_toArray, List.getElem_cons_zero, List.getElem_cons_succ, List.setIfInBounds_toArray, List.set_cons_zero, List.set_cons_succ]
        refine early_one (i := 6) rfl (by kernel_rfl) ?_
        go_wp2_with fail
        refine (refzig_any w6 x HX.out).mono ?_
        rintro e w' ⟨rfl, rfl⟩
        go_wp2_with fail
        refine ⟨Le.refl _, ?_⟩
        refine early_one (i := 7) rfl (by kernel_rfl) ?_
        go_wp2_with fail
        refine (refnum_any w6 2 (zig x : Int)).mono ?_
        rintro e w7 ⟨rfl, hb⟩
        have HB7 := hide (show Le w6 w7 from hb)
        have HL7 := hide (HL6.out.trans HB7.out)
        clear hb
        have HR7 := hide (HR6.out.le HB7.out)
        go_wp2_with fail
        refine ⟨HB7.out, ?_⟩
        refine early_one (i := 12) rfl (by kernel_rfl) ?_
        go_wp2_with fail
        refine ⟨(Below.refl _ _).alloc (Nat.le_refl _) _, ?_⟩
        refine early_one (i := 13) rfl (by kernel_rfl) ?_
        go_wp2_with fail
        obtain ⟨X, hX⟩ : ∃ X, w7.alloc (.cells #[.int .i64 1, .bool false, .int .u64 (bit nul : Int), .slice none 0 0, .int .i64 2, .bool false, .int .u64 (zig x : Int), .slice none 0 0, .int .i64 3, .bool true, .int .u64 0, .slice A8 nb c8] 54) = X := ⟨_, rfl⟩
        have hXrow : Row X X.heap.size (some ⟨w7.heap.size, 0, none⟩) (fcs (valV nul x (byt s) A8 c8)) := by
          rw [← hX]
          have h := (row_new w7 #[.int .i64 1, .bool false, .int .u64 (bit nul : Int), .slice none 0 0, .int .i64 2, .bool false, .int .u64 (zig x : Int), .slice none 0 0, .int .i64 3, .bool true, .int .u64 0, .slice A8 nb c8] 54 (0, 0)).more (show w7.heap.size + 1 ≤ (w7.alloc (.cells #[.int .i64 1, .bool false, .int .u64 (bit nul : Int), .slice none 0 0, .int .i64 2, .bool false, .int .u64 (zig x : Int), .slice none 0 0, .int .i64 3, .bool true, .int .u64 0, .slice A8 nb c8] 54)).heap.size by simp)
          rw [← HNB.out] at h ⊢
          exact h
        have HLX := hide (show Le w7 X by rw [← hX]; exact (Below.refl _ _).alloc (Nat.le_refl _) _)
        have hXheld : Held X X.heap.size (valV nul x (byt s) A8 c8) := valV_held (by rw [HNB.out]; exact HC8.out.1) HC8.out.2 (HR7.out.le HLX.out)
        rw [hX]
        have HXX := hide hX
        clear hX
        refine (refwput_any X _ 3 3 (valV nul x (byt s) A8 c8) (valF nul x (byt s)) rfl rfl (by omega) HFIT.out hXrow hXheld).mono ?_
        rintro e w21 ⟨v21, rfl, hown21, hb21⟩
        have HB21 := hide (show Le X w21 from hb21)
        have HBF := hide (show Below w.heap.size w w21 from HL7.out.trans (HLX.out.trans HB21.out))
        have HOF := hide (show w21.ownsRow w.heap.size 5 1 v21 (valE nul x (byt s)).length (u8s (valE nul x (byt s))) by rw [valF_put] at hown21; exact own_more hown21 (HL7.out.trans HLX.out).size)
        obtain ⟨A21, c21, rfl, -, -⟩ := own_form HOF.out
        clear hown21 hb21 hXrow hXheld
        go_wp2_with fail
        refine ⟨by rw [HXX.out]; exact HB21.out, ?_⟩
        refine early_take (i := 14) (v := _) rfl (by kernel_rfl) (by kernel_rfl) (by kernel_rfl) rfl (fun W hW => by go_simp <;> exact rfl) ?_
        simp only [Act.put, List.getElem_toArray, List.getElem_cons_zero, List.getElem_cons_succ, List.setIfInBounds_toArray, List.set_cons_zero, List.set_cons_succ]
        refine early_take (i := 15) (v := _) rfl (by kernel_rfl) (by kernel_rfl) (by kernel_rfl) rfl (fun W hW => by go_simp <;> exact rfl) ?_
        simp only [Act.put, List.getElem_toArray, List.getElem_cons_zero, List.getElem_cons_succ, List.setIfInBounds_toArray, List.set_cons_zero, List.set_cons_succ]
        refine early_take (i := 16) (v := _) rfl (by kernel_rfl) (by kernel_rfl) (by kernel_rfl) rfl (fun W hW => by go_simp <;> exact rfl) ?_
        simp only [Act.put, List.getElem_toArray, List.getElem_cons_zero, List.getElem_cons_succ, List.setIfInBounds_toArray, List.set_cons_zero, List.set_cons_succ]
        refine early_take (i := 17) (v := _) rfl (by kernel_rfl) (by kernel_rfl) (by kernel_rfl) rfl (fun W hW => by go_simp <;> exact rfl) ?_
        simp only [Act.put, List.getElem_toArray, List.getElem_cons_zero, List.getElem_cons_succ, List.setIfInBounds_toArray, List.set_cons_zero, List.set_cons_succ]
        refine early_take (i := 18) (v := _) rfl (by kernel_rfl) (by kernel_rfl) (by kernel_rfl) rfl (fun W hW => by go_simp <;> exact rfl) ?_
        simp only [Act.put, List.getElem_toArray, List.getElem_cons_zero, List.getElem_cons_succ, List.setIfInBounds_toArray, List.set_cons_zero, List.set_cons_succ]
        refine early_done (by kernel_rfl) ?_ _
        go_wp2_with fail
        go_ret
        exact ⟨_, rfl, HOF.out, HBF.out⟩
    · obtain ⟨A8, c8, w8, hc8, hle8, hrow8, hcap8⟩ := HCV.out V
      have HB8 := hide hle8
      have HR8 := hide hrow8
      have HL8 := hide (HLV.out.trans HB8.out)
      have HC8 := hide hcap8
      clear hle8 hrow8 hcap8
      go_wp2_with fail
      refine ⟨HB8.out, ?_⟩
      clear hc8
      refine early_take (i := 11) (v := _) rfl (by kernel_rfl) (by kernel_rfl) (by kernel_rfl) rfl (fun W hW => by go_simp <;> exact rfl) ?_
      simp only [Act.put, List.getElem_toArray, List.getElem_cons_zero, List.getElem_cons_succ, List.setIfInBounds_toArray, List.set_cons_zero, List.set_cons_succ]
      refine early_one (i := 3) rfl (by kernel_rfl) ?_
      go_wp2_with fail
      refine (refnum_any w8 1 (bit nul : Int)).mono ?_
      rintro e w9 ⟨rfl, hb⟩
      have HB9 := hide (show Le w8 w9 from hb)
      have HL9 := hide (HL8.out.trans HB9.out)
      clear hb
      have HR9 := hide (HR8.out.le HB9.out)
      go_wp2_with fail
      refine ⟨HB9.out, ?_⟩
      refine early_one (i := 6) rfl (by kernel_rfl) ?_
      go_wp2_with fail
      refine (refzig_any w9 x HX.out).mono ?_
      rintro e w' ⟨rfl, rfl⟩
      go_wp2_with fail
      refine ⟨Le.refl _, ?_⟩
      refine early_one (i := 7) rfl (by kernel_rfl) ?_
      go_wp2_with fail
      refine (refnum_any w9 2 (zig x : Int)).mono ?_
      rintro e w10 ⟨rfl, hb⟩
      have HB10 := hide (show Le w9 w10 from hb)
      have HL10 := hide (HL9.out.trans HB10.out)
      clear hb
      have HR10 := hide (HR9.out.le HB10.out)
      go_wp2_with fail
      refine ⟨HB10.out, ?_⟩
      refine early_one (i := 12) rfl (by kernel_rfl) ?_
      go_wp2_with fail
      refine ⟨(Below.refl _ _).alloc (Nat.le_refl _) _, ?_⟩
      refine early_one (i := 13) rfl (by kernel_rfl) ?_
      go_wp2_with fail
      obtain ⟨X, hX⟩ : ∃ X, w10.alloc (.cells #[.int .i64 1, .bool false, .int .u64 (bit nul : Int), .slice none 0 0, .int .i64 2, .bool false, .int .u64 (zig x : Int), .slice none 0 0, .int .i64 3, .bool true, .int .u64 0, .slice A8 nb c8] 54) = X := ⟨_, rfl⟩
      have hXrow : Row X X.heap.size (some ⟨w10.heap.size, 0, none⟩) (fcs (valV nul x (byt s) A8 c8)) := by
        rw [← hX]
        have h := (row_new w10 #[.int .i64 1, .bool false, .int .u64 (bit nul : Int), .slice none 0 0, .int .i64 2, .bool false, .int .u64 (zig x : Int), .slice none 0 0, .int .i64 3, .bool true, .int .u64 0, .slice A8 nb c8] 54 (0, 0)).more (show w10.heap.size + 1 ≤ (w10.alloc (.cells #[.int .i64 1, .bool false, .int .u64 (bit nul : Int), .slice none 0 0, .int .i64 2, .bool false, .int .u64 (zig x : Int), .slice none 0 0, .int .i64 3, .bool true, .int .u64 0, .slice A8 nb c8] 54)).heap.size by simp)
        rw [← HNB.out] at h ⊢
        exact h
      have HLX := hide (show Le w10 X by rw [← hX]; exact (Below.refl _ _).alloc (Nat.le_refl _) _)
      have hXheld : Held X X.heap.size (valV nul x (byt s) A8 c8) := valV_held (by rw [HNB.out]; exact HC8.out.1) HC8.out.2 (HR10.out.le HLX.out)
      rw [hX]
      have HXX := hide hX
      clear hX
      refine (refwput_any X _ 3 3 (valV nul x (byt s) A8 c8) (valF nul x (byt s)) rfl rfl (by omega) HFIT.out hXrow hXheld).mono ?_
      rintro e w21 ⟨v21, rfl, hown21, hb21⟩
      have HB21 := hide (show Le X w21 from hb21)
      have HBF := hide (show Below w.heap.size w w21 from HL10.out.trans (HLX.out.trans HB21.out))
      have HOF := hide (show w21.ownsRow w.heap.size 5 1 v21 (valE nul x (byt s)).length (u8s (valE nul x (byt s))) by rw [valF_put] at hown21; exact own_more hown21 (HL10.out.trans HLX.out).size)
      obtain ⟨A21, c21, rfl, -, -⟩ := own_form HOF.out
      clear hown21 hb21 hXrow hXheld
      go_wp2_with fail
      refine ⟨by rw [HXX.out]; exact HB21.out, ?_⟩
      refine early_take (i := 14) (v := _) rfl (by kernel_rfl) (by kernel_rfl) (by kernel_rfl) rfl (fun W hW => by go_simp <;> exact rfl) ?_
      simp only [Act.put, List.getElem_toArray, List.getElem_cons_zero, List.getElem_cons_succ, List.setIfInBounds_toArray, List.set_cons_zero, List.set_cons_succ]
      refine early_take (i := 15) (v := _) rfl (by kernel_rfl) (by kernel_rfl) (by kernel_rfl) rfl (fun W hW => by go_simp <;> exact rfl) ?_
      simp only [Act.put, List.getElem_toArray, List.getElem_cons_zero, List.getElem_cons_succ, List.setIfInBounds_toArray, List.set_cons_zero, List.set_cons_succ]
      refine early_take (i := 16) (v := _) rfl (by kernel_rfl) (by kernel_rfl) (by kernel_rfl) rfl (fun W hW => by go_simp <;> exact rfl) ?_
      simp only [Act.put, List.getElem_toArray, List.getElem_cons_zero, List.getElem_cons_succ, List.setIfInBounds_toArray, List.set_cons_zero, List.set_cons_succ]
      refine early_take (i := 17) (v := _) rfl (by kernel_rfl) (by kernel_rfl) (by kernel_rfl) rfl (fun W hW => by go_simp <;> exact rfl) ?_
      simp only [Act.put, List.getElem_toArray, List.getElem_cons_zero, List.getElem_cons_succ, List.setIfInBounds_toArray, List.set_cons_zero, List.set_cons_succ]
      refine early_take (i := 18) (v := _) rfl (by kernel_rfl) (by kernel_rfl) (by kernel_rfl) rfl (fun W hW => by go_simp <;> exact rfl) ?_
      simp only [Act.put, List.getElem_toArray, List.getElem_cons_zero, List.getElem_cons_succ, List.setIfInBounds_toArray, List.set_cons_zero, List.set_cons_succ]
      refine early_done (by kernel_rfl) ?_ _
      go_wp2_with fail
      go_ret
      exact ⟨_, rfl, HOF.out, HBF.out⟩
  · obtain ⟨A8, c8, w11, hc8, hle8, hrow8, hcap8⟩ := HCV.out V
    have HB11 := hide hle8
    have HR11 := hide hrow8
    have HL11 := hide (HLV.out.trans HB11.out)
    have HC8 := hide hcap8
    clear hle8 hrow8 hcap8
    go_wp2_with fail
    refine ⟨HB11.out, ?_⟩
    clear hc8
    refine early_take (i := 11) (v := _) rfl (by kernel_rfl) (by kernel_rfl) (by kernel_rfl) rfl (fun W hW => by go_simp <;> exact rfl) ?_
    simp only [Act.put, List.getElem_toArray, List.getElem_cons_zero, List.getElem_cons_succ, List.setIfInBounds_toArray, List.set_cons_zero, List.set_cons_succ]
    refine early_one (i := 2) rfl (by kernel_rfl) ?_
    go_wp2_with fail
    refine (refbit_any w11 nul).mono ?_
    rintro e w' ⟨rfl, rfl⟩
    go_wp2_with fail
    refine ⟨Le.refl _, ?_⟩
    refine early_one (i := 3) rfl (by kernel_rfl) ?_
    go_wp2_with fail
    refine (refnum_any w11 1 (bit nul : Int)).mono ?_
    rintro e w12 ⟨rfl, hb⟩
    have HB12 := hide (show Le w11 w12 from hb)
    have HL12 := hide (HL11.out.trans HB12.out)
    clear hb
    have HR12 := hide (HR11.out.le HB12.out)
    go_wp2_with fail
    refine ⟨HB12.out, ?_⟩
    refine early_one (i := 6) rfl (by kernel_rfl) ?_
    go_wp2_with fail
    refine (refzig_any w12 x HX.out).mono ?_
    rintro e w' ⟨rfl, rfl⟩
    go_wp2_with fail
    refine ⟨Le.refl _, ?_⟩
    refine early_one (i := 7) rfl (by kernel_rfl) ?_
    go_wp2_with fail
    refine (refnum_any w12 2 (zig x : Int)).mono ?_
    rintro e w13 ⟨rfl, hb⟩
    have HB13 := hide (show Le w12 w13 from hb)
    have HL13 := hide (HL12.out.trans HB13.out)
    clear hb
    have HR13 := hide (HR12.out.le HB13.out)
    go_wp2_with fail
    refine ⟨HB13.out, ?_⟩
    refine early_one (i := 12) rfl (by kernel_rfl) ?_
    go_wp2_with fail
    refine ⟨(Below.refl _ _).alloc (Nat.le_refl _) _, ?_⟩
    refine early_one (i := 13) rfl (by kernel_rfl) ?_
    go_wp2_with fail
    obtain ⟨X, hX⟩ : ∃ X, w13.alloc (.cells #[.int .i64 1, .bool false, .int .u64 (bit nul : Int), .slice none 0 0, .int .i64 2, .bool false, .int .u64 (zig x : Int), .slice none 0 0, .int .i64 3, .bool true, .int .u64 0, .slice A8 nb c8] 54) = X := ⟨_, rfl⟩
    have hXrow : Row X X.heap.size (some ⟨w13.heap.size, 0, none⟩) (fcs (valV nul x (byt s) A8 c8)) := by
      rw [← hX]
      have h := (row_new w13 #[.int .i64 1, .bool false, .int .u64 (bit nul : Int), .slice none 0 0, .int .i64 2, .bool false, .int .u64 (zig x : Int), .slice none 0 0, .int .i64 3, .bool true, .int .u64 0, .slice A8 nb c8] 54 (0, 0)).more (show w13.heap.size + 1 ≤ (w13.alloc (.cells #[.int .i64 1, .bool false, .int .u64 (bit nul : Int), .slice none 0 0, .int .i64 2, .bool false, .int .u64 (zig x : Int), .slice none 0 0, .int .i64 3, .bool true, .int .u64 0, .slice A8 nb c8] 54)).heap.size by simp)
      rw [← HNB.out] at h ⊢
      exact h
    have HLX := hide (show Le w13 X by rw [← hX]; exact (Below.refl _ _).alloc (Nat.le_refl _) _)
    have hXheld : Held X X.heap.size (valV nul x (byt s) A8 c8) := valV_held (by rw [HNB.out]; exact HC8.out.1) HC8.out.2 (HR13.out.le HLX.out)
    rw [hX]
    have HXX := hide hX
    clear hX
    refine (refwput_any X _ 3 3 (valV nul x (byt s) A8 c8) (valF nul x (byt s)) rfl rfl (by omega) HFIT.out hXrow hXheld).mono ?_
    rintro e w21 ⟨v21, rfl, hown21, hb21⟩
    have HB21 := hide (show Le X w21 from hb21)
    have HBF := hide (show Below w.heap.size w w21 from HL13.out.trans (HLX.out.trans HB21.out))
    have HOF := hide (show w21.ownsRow w.heap.size 5 1 v21 (valE nul x (byt s)).length (u8s (valE nul x (byt s))) by rw [valF_put] at hown21; exact own_more hown21 (HL13.out.trans HLX.out).size)
    obtain ⟨A21, c21, rfl, -, -⟩ := own_form HOF.out
    clear hown21 hb21 hXrow hXheld
    go_wp2_with fail
    refine ⟨by rw [HXX.out]; exact HB21.out, ?_⟩
    refine early_take (i := 14) (v := _) rfl (by kernel_rfl) (by kernel_rfl) (by kernel_rfl) rfl (fun W hW => by go_simp <;> exact rfl) ?_
    simp only [Act.put, List.getElem_toArray, List.getElem_cons_zero, List.getElem_cons_succ, List.setIfInBounds_toArray, List.set_cons_zero, List.set_cons_succ]
    refine early_take (i := 15) (v := _) rfl (by kernel_rfl) (by kernel_rfl) (by kernel_rfl) rfl (fun W hW => by go_simp <;> exact rfl) ?_
    simp only [Act.put, List.getElem_toArray, List.getElem_cons_zero, List.getElem_cons_succ, List.setIfInBounds_toArray, List.set_cons_zero, List.set_cons_succ]
    refine early_take (i := 16) (v := _) rfl (by kernel_rfl) (by kernel_rfl) (by kernel_rfl) rfl (fun W hW => by go_simp <;> exact rfl) ?_
    simp only [Act.put, List.getElem_toArray, List.getElem_cons_zero, List.getElem_cons_succ, List.setIfInBounds_toArray, List.set_cons_zero, List.set_cons_succ]
    refine early_take (i := 17) (v := _) rfl (by kernel_rfl) (by kernel_rfl) (by kernel_rfl) rfl (fun W hW => by go_simp <;> exact rfl) ?_
    simp only [Act.put, List.getElem_toArray, List.getElem_cons_zero, List.getElem_cons_succ, List.setIfInBounds_toArray, List.set_cons_zero, List.set_cons_succ]
    refine early_take (i := 18) (v := _) rfl (by kernel_rfl) (by kernel_rfl) (by kernel_rfl) rfl (fun W hW => by go_simp <;> exact rfl) ?_
    simp only [Act.put, List.getElem_toArray, List.getElem_cons_zero, List.getElem_cons_succ, List.setIfInBounds_toArray, List.set_cons_zero, List.set_cons_succ]
    refine early_done (by kernel_rfl) ?_ _
    go_wp2_with fail
    go_ret
    exact ⟨_, rfl, HOF.out, HBF.out⟩
#print axioms refputvalue_any
end Go.Proofs.YtjliocbdidiemaaDoor
