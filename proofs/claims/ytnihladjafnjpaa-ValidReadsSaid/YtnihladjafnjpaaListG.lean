/-
  The document's example of lists, and the law on lists, walked.
-/
import Derived.Test.YtnihladjafnjpaaListF
import Derived.Test.YtnihladjafnjpaaListShape
namespace Go.Proofs.Ytnihladjafnjpaa
open Go.RowKit
set_option linter.unusedVariables false

theorem exc_ex : exc [2, 1, 2] 3 = [2] := by decide
theorem all_ex : allI (okI 3 [2]) [2, 1, 2] = true := by decide
theorem none_ex : allI (okI 3 []) [2, 1, 2] = false := by decide
theorem may_ex : may 3 [2] = true := may_true (n := 1) rfl (by omega) (by omega) fun j x hj hx => by
  obtain rfl : j = 0 := by omega
  simp at hx
  subst hx
  simp [prev]
theorem check_ex1 : checkI 3 [] [2, 1, 2] = 30 := check_all none_ex
theorem check_ex2 : checkI 3 [2] [2, 1, 2] = 0 := check_ok may_ex (by decide) all_ex

set_option maxHeartbeats 2000000 in
theorem shown_any (w : World) : Calls Try.prog 6 #[] w fun e w' => e = .returned (.bool true) ∧ Below w.heap.size w w' := by
  go_enter Try.func6, Try.ntmps6
  go_wp2_with fail
  obtain ⟨W, hW⟩ : ∃ W, w.alloc (.cells #[.int .i64 2, .int .i64 1, .int .i64 2] 3) = W := ⟨_, rfl⟩
  have hrow : Row W W.heap.size (some ⟨w.heap.size, 0, none⟩) (ints [2, 1, 2]) := by
    rw [← hW]
    exact (row_new w #[.int .i64 2, .int .i64 1, .int .i64 2] 3 (0, 0)).more (by simp)
  have hb : Below w.heap.size w W := by rw [← hW]; exact (Below.refl _ _).alloc (Nat.le_refl _) _
  rw [hW]
  clear hW
  have HB := hide hb
  clear hb
  refine (current_any W _ 3 3 [2, 1, 2] rfl (by omega) hrow).mono ?_
  rintro e w1 ⟨v, rfl, hown, hb1⟩
  rw [exc_ex] at hown
  obtain ⟨A1, c1, rfl, hc1, -⟩ := own_form hown
  have hrow1 := Row.of_own hown
  obtain ⟨b1, o1, rfl, hbA, hx⟩ := hrow1.at_ (ints_at (l := [2]) (k := 0) (x := 2) rfl)
  have HR1 := hide hrow1
  have hz1 := hb1.size
  have HB1 := hide (show Le W w1 from hb1)
  rw [Nat.add_zero] at hx
  have HR := hide hrow
  clear hown hrow1 hb1 hrow
  go_wp2_with fail
  obtain ⟨X, hX⟩ : ∃ X, w1.alloc (.cells #[.int .i64 3, .slice (some ⟨b1, o1, none⟩) 1 c1] 24) = X := ⟨_, rfl⟩
  have bx : Box X w1.heap.size #[.int .i64 3, .slice (some ⟨b1, o1, none⟩) 1 c1] 24 := by rw [← hX]; exact box_new _ _ _
  have hXb : Le w1 X := by rw [← hX]; exact (Below.refl _ _).alloc (Nat.le_refl _) _
  have HX := hide hX
  clear hX hx
  rw [HX.out]
  have lWX : Le W X := HB1.out.trans hXb
  refine (check_any X 3 none _ 0 0 3 3 [] [2, 1, 2] rfl (by omega) rfl (by omega) Row.none_ ((lWX.row HR.out (Nat.le_refl _)).more lWX.size)).mono ?_
  rintro e w2 ⟨rfl, hb2⟩
  rw [check_ex1]
  have bx2 := bx.below hb2 bx.lt
  have e0 := bx2.cell 0 (.int .i64 3) rfl
  have e1 := bx2.cell 1 (.slice (some ⟨b1, o1, none⟩) 1 c1) rfl
  have HL2 := hide (show Le W w2 from lWX.trans hb2)
  have HL3 := hide (show Le w1 w2 from hXb.trans hb2)
  clear hb2 bx bx2 hXb lWX
  go_wp2_with fail
  refine (check_any w2 3 _ _ 1 c1 3 3 [2] [2, 1, 2] rfl (by omega) rfl (by omega) ((HL3.out.row HR1.out (Nat.le_refl _)).more HL3.out.size) ((HL2.out.row HR.out (Nat.le_refl _)).more HL2.out.size)).mono ?_
  rintro e w3 ⟨rfl, hb3⟩
  rw [check_ex2]
  have HF := hide (show Below w.heap.size w w3 from Le.trans HB.out (HL2.out.trans hb3))
  clear hb3
  go_wp2_with fail
  go_ret
  exact ⟨rfl, HF.out⟩

set_option maxHeartbeats 4000000 in
theorem lists_walk (w : World) (H : Int) (A B : Option Addr) (n c m d : Nat) (l s : List Int) (id : Int) (hl : l.length = n) (hnc : n ≤ c) (hc : c ≤ maxLen) (hs : s.length = m) (hmd : m ≤ d) (hd : d ≤ maxLen) (hr : Row w w.heap.size A (ints l)) (hrs : Row w w.heap.size B (ints s)) :
    Calls Try.prog 3 #[.agg #[.int .i64 H, .slice A n c], .int .i64 id, .slice B m d] w fun e w' => e = .returned (.bool true) ∧ Below w.heap.size w w' := by
  obtain ⟨n2, hn2⟩ : ∃ n2, min n 30 = n2 := ⟨_, rfl⟩
  obtain ⟨m2, hm2⟩ : ∃ m2, min m 30 = m2 := ⟨_, rfl⟩
  have HL := hide (show (l.take 30).length = n2 by rw [List.length_take, hl, ← hn2]; omega)
  have HS := hide (show (s.take 30).length = m2 by rw [List.length_take, hs, ← hm2]; omega)
  have hr2 := hr.take 30
  rw [ints_take] at hr2
  have hrs2 := hrs.take 30
  rw [ints_take] at hrs2
  generalize l.take 30 = l2 at HL hr2
  generalize s.take 30 = s2 at HS hrs2
  have hn30 : n2 ≤ 30 := by omega
  have hm30 : m2 ≤ 30 := by omega
  have hnc2 : n2 ≤ c := by omega
  have HN2 := hide hn2
  have HM2 := hide hm2
  clear hl hs hr hrs hn2 hm2
  go_enter Try.func3, Try.ntmps3
  go_wp2_with fail
  obtain ⟨W, hW⟩ : ∃ W, w.alloc (.cells #[.int .i64 H, .slice A n c] 24) = W := ⟨_, rfl⟩
  have bx : Box W w.heap.size #[.int .i64 H, .slice A n c] 24 := by rw [← hW]; exact box_new _ _ _
  have hLW : Le w W := by rw [← hW]; exact (Below.refl _ _).alloc (Nat.le_refl _) _
  rw [hW]
  clear hW
  refine (shown_any W).mono ?_
  rintro e w1 ⟨rfl, hb1⟩
  have bx1 := bx.below hb1 bx.lt
  have c0 := bx1.cell 0 (.int .i64 H) rfl
  have c1 := bx1.cell 1 (.slice A n c) rfl
  have BX1 := hide bx1
  have HL1 := hide (show Le w w1 from hLW.trans hb1)
  clear hb1 hLW bx bx1
  go_wp2_with fail
  refine (less_any w1 H A n c n2 HN2.out hnc hc).mono ?_
  rintro e w2 ⟨rfl, hb2⟩
  have bx2 := BX1.out.below hb2 BX1.out.lt
  have d0 := bx2.cell 0 (.int .i64 H) rfl
  have d1 := bx2.cell 1 (.slice A n c) rfl
  have f0 := bx2.frozen 0
  have f1 := bx2.frozen 1
  have BX2 := hide bx2
  have HL2 := hide (show Le w w2 from HL1.out.trans hb2)
  clear hb2 bx2 c0 c1
  go_wp2_with fail
  obtain ⟨W3, hW3⟩ : ∃ W3, (w2.setCell ⟨w.heap.size, 0, none⟩ (.int .i64 H)).setCell ⟨w.heap.size, 1, none⟩ (.slice A n2 c) = W3 := ⟨_, rfl⟩
  have bx3 : Box W3 w.heap.size #[.int .i64 H, .slice A n2 c] 24 := by rw [← hW3]; exact (BX2.out.set 0 _).set 1 _
  have hL3 : Le w W3 := by rw [← hW3]; exact (HL2.out.setCell (Nat.le_refl _) _).setCell (Nat.le_refl _) _
  rw [hW3]
  have BX3 := hide bx3
  have HL3 := hide hL3
  clear hW3 bx3 hL3 d0 d1 f0 f1
  refine (few_any W3 B m d hmd hd).mono ?_
  rintro e w' ⟨rfl, rfl⟩
  rw [HM2.out]
  go_wp2_with fail
  refine (current_any W3 B m2 d s2 HS.out (by omega) ((HL3.out.row hrs2 (Nat.le_refl _)).more HL3.out.size)).mono ?_
  rintro e w4 ⟨v4, rfl, hown4, hb4⟩
  obtain ⟨k4, hk4⟩ : ∃ k4, (exc s2 m2).length = k4 := ⟨_, rfl⟩
  have hk30 := exc_len s2 m2
  rw [hk4] at hown4 hk30
  obtain ⟨A4, c4, rfl, -, -⟩ := own_form hown4
  have HR4 := hide (Row.of_own hown4)
  have HK4 := hide hk4
  have HB4 := hide (show Le W3 w4 from hb4)
  clear hown4 hk4 hb4
  go_wp2_with fail
  refine (refcurrent_any w4 B m2 d s2 HS.out (by omega) (((HL3.out.trans HB4.out).row hrs2 (Nat.le_refl _)).more (HL3.out.trans HB4.out).size)).mono ?_
  rintro e w5 ⟨v5, rfl, hown5, hb5⟩
  rw [HK4.out] at hown5
  obtain ⟨A5, c5, rfl, -, -⟩ := own_form hown5
  have HR5 := hide (Row.of_own hown5)
  have HB5 := hide (show Le w4 w5 from hb5)
  clear hown5 hb5
  go_wp2_with fail
  refine (same_any w5 (m2 : Int) A4 A5 k4 c4 c5 (exc s2 m2) HK4.out (by omega) ((HB5.out.row HR4.out (Nat.le_refl _)).more HB5.out.size) HR5.out).mono ?_
  rintro e w6 ⟨rfl, hb6⟩
  have L36 : Le W3 w6 := HB4.out.trans (HB5.out.trans hb6)
  have bx6 := (BX3.out.below L36 BX3.out.lt).drew
  have L6 : Le w w6.drew := (HL3.out.trans L36).drew
  have HR6 := hide L6
  clear L36 L6 hb6 HR4 HR5 HB4 HB5 BX3 HL3
  go_wp2_with fail
  obtain ⟨V, hV⟩ : ∃ V, w6.drew = V := ⟨_, rfl⟩
  rw [hV] at bx6
  have BX := hide bx6
  have HLV := hide (show Le w V from hV ▸ HR6.out)
  have HV := hide hV
  clear hV bx6 HR6
  have g0 := BX.out.later 0 (.int .i64 H) rfl
  have g1 := BX.out.later 1 (.slice A n2 c) rfl
  refine region_pi [(0, true), (1, true), (2, true), (4, true), (3, false), (5, false), (6, true), (7, true), (8, true), (9, true), (10, true), (12, true), (13, true), (11, false), (14, false), (15, true), (16, true), (17, true), (18, true), (19, true), (20, true), (21, true), (22, true), (24, true), (25, true), (23, false), (26, false), (27, true), (28, true), (29, true)] (by kernel_rfl) (by kernel_rfl) ?_
  simp only [opsPi, List.filterMap_cons, List.filterMap_nil, List.getElem?_toArray, List.getElem?_cons_zero, List.getElem?_cons_succ, Option.map_some]
  rw [HV.out]
  repeat (first | (refine pi_take (v := _) rfl (fun W hW => by go_simp <;> exact rfl) ?_; simp only [Act.put, List.setIfInBounds_toArray, List.set_cons_zero, List.set_cons_succ]) | (refine pi_skip rfl ?_; simp only [Act.put, List.setIfInBounds_toArray, List.set_cons_zero, List.set_cons_succ]))
  refine pi_run ?_
  go_wp2_with fail
  refine (may_any V H A n2 c l2 HL.out (by omega) ((HLV.out.row hr2 (Nat.le_refl _)).more HLV.out.size)).mono ?_
  rintro e V1 ⟨rfl, hb⟩
  have bx' := BX.out.below hb BX.out.lt
  have L' := hide (HLV.out.trans hb)
  clear BX HLV g0 g1
  have BX := hide bx'
  have HLV := L'
  have g0 := BX.out.later 0 (.int .i64 H) rfl
  have g1 := BX.out.later 1 (.slice A n2 c) rfl
  clear bx' L'
  go_wp2_with fail
  refine ⟨hb, ?_⟩
  clear hb
  repeat (first | (refine pi_take (v := _) rfl (fun W hW => by go_simp <;> exact rfl) ?_; simp only [Act.put, List.setIfInBounds_toArray, List.set_cons_zero, List.set_cons_succ]) | (refine pi_skip rfl ?_; simp only [Act.put, List.setIfInBounds_toArray, List.set_cons_zero, List.set_cons_succ]))
  refine pi_run ?_
  go_wp2_with fail
  refine (refmay_any V1 H A n2 c l2 HL.out (by omega) hnc2 ((HLV.out.row hr2 (Nat.le_refl _)).more HLV.out.size)).mono ?_
  rintro e V2 ⟨rfl, hb⟩
  have bx' := BX.out.below hb BX.out.lt
  have L' := hide (HLV.out.trans hb)
  clear BX HLV g0 g1
  have BX := hide bx'
  have HLV := L'
  have g0 := BX.out.later 0 (.int .i64 H) rfl
  have g1 := BX.out.later 1 (.slice A n2 c) rfl
  clear bx' L'
  go_wp2_with fail
  refine ⟨hb, ?_⟩
  clear hb
  generalize may H l2 = M at *
  repeat (first | (refine pi_take (v := _) rfl (fun W hW => by go_simp <;> exact rfl) ?_; simp only [Act.put, List.setIfInBounds_toArray, List.set_cons_zero, List.set_cons_succ]) | (refine pi_skip rfl ?_; simp only [Act.put, List.setIfInBounds_toArray, List.set_cons_zero, List.set_cons_succ]))
  refine pi_run ?_
  go_wp2_with fail
  refine (has_any V2 H A n2 c l2 id HL.out (by omega) ((HLV.out.row hr2 (Nat.le_refl _)).more HLV.out.size)).mono ?_
  rintro e V3 ⟨rfl, hb⟩
  have bx' := BX.out.below hb BX.out.lt
  have L' := hide (HLV.out.trans hb)
  clear BX HLV g0 g1
  have BX := hide bx'
  have HLV := L'
  have g0 := BX.out.later 0 (.int .i64 H) rfl
  have g1 := BX.out.later 1 (.slice A n2 c) rfl
  clear bx' L'
  go_wp2_with fail
  refine ⟨hb, ?_⟩
  clear hb
  repeat (first | (refine pi_take (v := _) rfl (fun W hW => by go_simp <;> exact rfl) ?_; simp only [Act.put, List.setIfInBounds_toArray, List.set_cons_zero, List.set_cons_succ]) | (refine pi_skip rfl ?_; simp only [Act.put, List.setIfInBounds_toArray, List.set_cons_zero, List.set_cons_succ]))
  refine pi_run ?_
  go_wp2_with fail
  refine (refhas_any V3 H A n2 c l2 id HL.out (by omega) ((HLV.out.row hr2 (Nat.le_refl _)).more HLV.out.size)).mono ?_
  rintro e V4 ⟨rfl, hb⟩
  have bx' := BX.out.below hb BX.out.lt
  have L' := hide (HLV.out.trans hb)
  clear BX HLV g0 g1
  have BX := hide bx'
  have HLV := L'
  have g0 := BX.out.later 0 (.int .i64 H) rfl
  have g1 := BX.out.later 1 (.slice A n2 c) rfl
  clear bx' L'
  go_wp2_with fail
  refine ⟨hb, ?_⟩
  clear hb
  generalize has H l2 id = M2 at *
  repeat (first | (refine pi_take (v := _) rfl (fun W hW => by go_simp <;> exact rfl) ?_; simp only [Act.put, List.setIfInBounds_toArray, List.set_cons_zero, List.set_cons_succ]) | (refine pi_skip rfl ?_; simp only [Act.put, List.setIfInBounds_toArray, List.set_cons_zero, List.set_cons_succ]))
  refine pi_run ?_
  go_wp2_with fail
  refine (check_any V4 H A B n2 c m2 d l2 s2 HL.out (by omega) HS.out (by omega) ((HLV.out.row hr2 (Nat.le_refl _)).more HLV.out.size) ((HLV.out.row hrs2 (Nat.le_refl _)).more HLV.out.size)).mono ?_
  rintro e V5 ⟨rfl, hb⟩
  have bx' := BX.out.below hb BX.out.lt
  have L' := hide (HLV.out.trans hb)
  clear BX HLV g0 g1
  have BX := hide bx'
  have HLV := L'
  have g0 := BX.out.later 0 (.int .i64 H) rfl
  have g1 := BX.out.later 1 (.slice A n2 c) rfl
  clear bx' L'
  go_wp2_with fail
  refine ⟨hb, ?_⟩
  clear hb
  repeat (first | (refine pi_take (v := _) rfl (fun W hW => by go_simp <;> exact rfl) ?_; simp only [Act.put, List.setIfInBounds_toArray, List.set_cons_zero, List.set_cons_succ]) | (refine pi_skip rfl ?_; simp only [Act.put, List.setIfInBounds_toArray, List.set_cons_zero, List.set_cons_succ]))
  refine pi_run ?_
  go_wp2_with fail
  refine (refcheck_any V5 H A B n2 c m2 d l2 s2 HL.out (by omega) hnc2 HS.out (by omega) ((HLV.out.row hr2 (Nat.le_refl _)).more HLV.out.size) ((HLV.out.row hrs2 (Nat.le_refl _)).more HLV.out.size)).mono ?_
  rintro e V6 ⟨rfl, hb⟩
  have bx' := BX.out.below hb BX.out.lt
  have L' := hide (HLV.out.trans hb)
  clear BX HLV g0 g1
  have BX := hide bx'
  have HLV := L'
  have g0 := BX.out.later 0 (.int .i64 H) rfl
  have g1 := BX.out.later 1 (.slice A n2 c) rfl
  clear bx' L'
  go_wp2_with fail
  refine ⟨hb, ?_⟩
  clear hb
  generalize checkI H l2 s2 = M3 at *
  repeat (first | (refine pi_take (v := _) rfl (fun W hW => by go_simp <;> exact rfl) ?_; simp only [Act.put, List.setIfInBounds_toArray, List.set_cons_zero, List.set_cons_succ]) | (refine pi_skip rfl ?_; simp only [Act.put, List.setIfInBounds_toArray, List.set_cons_zero, List.set_cons_succ]))
  refine pi_done ?_
  go_wp2_with fail
  go_ret
  exact ⟨rfl, HLV.out⟩
#print axioms lists_walk
end Go.Proofs.Ytnihladjafnjpaa
