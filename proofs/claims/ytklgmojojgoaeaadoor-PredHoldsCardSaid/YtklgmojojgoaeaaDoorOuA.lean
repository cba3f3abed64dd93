/-
  What may come out of two, of Not; whether a value stands between: walked.
-/
import Derived.Test.YtklgmojojgoaeaaDoorOuMath
import Derived.Test.YtklgmojojgoaeaaDoorPrC
namespace Go.Proofs.YtklgmojojgoaeaaDoor
open Go.RowKit
set_option linter.unusedVariables false

theorem t3_one (x : ou.T3) : x.cells.all (·.oneCell') = true := by simp [ou.T3.cells, Value.oneCell']
set_option maxRecDepth 100000 in
theorem not3_any (w : World) (x : ou.T3) : Calls Tryd.prog 36 #[.agg x.cells] w fun e w' => e = .returned (.agg (ou.notV x).cells) ∧ Below w.heap.size w w' := by
  obtain ⟨a, b, c⟩ := x
  obtain ⟨W, hW, b0, b1, hb, hz⟩ := two_boxes w #[.bool a, .bool b, .bool c] #[.bool false, .bool false, .bool false] 65
  have HW := hide hW
  have HB := hide hb
  have B1 := hide b1
  have c0 := b0.cell 0 (.bool a) rfl
  have c1 := b0.cell 1 (.bool b) rfl
  have c2 := b0.cell 2 (.bool c) rfl
  clear hW hb b0 b1
  simp only [ou.T3.cells, ou.notV]
  go_enter Tryd.func36, Tryd.ntmps36
  go_upto_region 1 with fail
  rw [HW.out]
  go_wp2_with (refine wpList_store_row rfl 65 _ _ rfl (w.heap.size + 1) #[.bool c, .bool b, .bool a] rfl rfl 65 _ B1.out (by kernel_rfl) rfl (t3_one ⟨c, b, a⟩) ?_)
  refine bodyPost_ret (box_results rfl _ (setRow_heap _ _ _ _ _ _ B1.out) rfl Tryd.underlying65 rfl rfl) rfl ?_
  exact ⟨rfl, below_setRow HB.out (by omega) _⟩
#print axioms not3_any

theorem pj_step (op : Int) (x y : ou.T3) (i j : Nat) (hi : i < 3) (hj : j < 3) : ou.pj op x y (3 * i + j + 1) = ou.stepP op x y (ou.pj op x y (3 * i + j)) i j := by
  show ou.stepP op x y (ou.pj op x y (3 * i + j)) ((3 * i + j) / 3) ((3 * i + j) % 3) = _
  rw [show (3 * i + j) / 3 = i by omega, show (3 * i + j) % 3 = j by omega]

theorem two_int (op : Int) (i j : Nat) : (if op = 1 then min (i : Int) (j : Int) else max (i : Int) (j : Int)) = ((ou.two op i j : Nat) : Int) := by
  unfold ou.two
  split <;> omega
theorem two_lt (op : Int) (i j : Nat) (hi : i < 3) (hj : j < 3) : ou.two op i j < 3 := by
  unfold ou.two
  split <;> omega
theorem t3_index (w : World) (a b c : Bool) (k : Nat) (hk : k < 3) : (Instr.index 65 (.agg #[.bool a, .bool b, .bool c]) (.int .i64 (k : Int))).run Tryd.prog w = .ok (.bool (ou.get ⟨a, b, c⟩ k)) w := by
  have h3 : k = 0 ∨ k = 1 ∨ k = 2 := by omega
  rcases h3 with rfl | rfl | rfl
  · exact (show (Instr.index 65 (.agg #[.bool a, .bool b, .bool c]) (.int .i64 0)).run Tryd.prog w = .ok (.bool a) w by kernel_rfl)
  · exact (show (Instr.index 65 (.agg #[.bool a, .bool b, .bool c]) (.int .i64 1)).run Tryd.prog w = .ok (.bool b) w by kernel_rfl)
  · exact (show (Instr.index 65 (.agg #[.bool a, .bool b, .bool c]) (.int .i64 2)).run Tryd.prog w = .ok (.bool c) w by kernel_rfl)
theorem t3_cell {w : World} {g : Nat} {o : ou.T3} {t : TypeId} (h : Box w g o.cells t) (k : Nat) (hk : k < 3) : w.cell? ⟨g, k, none⟩ = some (.bool (ou.get o k)) := by
  have h3 : k = 0 ∨ k = 1 ∨ k = 2 := by omega
  rcases h3 with rfl | rfl | rfl
  · exact h.cell 0 _ rfl
  · exact h.cell 1 _ rfl
  · exact h.cell 2 _ rfl
theorem t3_set {w : World} {g : Nat} {o : ou.T3} {t : TypeId} (h : Box w g o.cells t) (k : Nat) (hk : k < 3) (v : Bool) : Box (w.setCell ⟨g, k, none⟩ (.bool v)) g (ou.set o k v).cells t := by
  have h2 := h.set k (.bool v)
  have h3 : k = 0 ∨ k = 1 ∨ k = 2 := by omega
  rcases h3 with rfl | rfl | rfl <;> exact h2

set_option maxRecDepth 100000 in
set_option maxHeartbeats 4000000 in
theorem joined_any (w : World) (op : Int) (x y : ou.T3) : Calls Tryd.prog 37 #[.int .i64 op, .agg x.cells, .agg y.cells] w fun e w' => e = .returned (.agg (ou.joinV op x y).cells) ∧ Below w.heap.size w w' := by
  obtain ⟨X, hX⟩ : ∃ X, (((w.alloc (.cells x.cells 65)).alloc (.cells y.cells 65)).alloc (.cells ou.zero.cells 65)).alloc (.cells ou.zero.cells 65) = X := ⟨_, rfl⟩
  have e1 : (w.alloc (.cells x.cells 65)).heap.size = w.heap.size + 1 := by simp
  have e2 : ((w.alloc (.cells x.cells 65)).alloc (.cells y.cells 65)).heap.size = w.heap.size + 1 + 1 := by simp
  have e3 : (((w.alloc (.cells x.cells 65)).alloc (.cells y.cells 65)).alloc (.cells ou.zero.cells 65)).heap.size = w.heap.size + 1 + 1 + 1 := by simp
  have B0 := hide (show Box X w.heap.size x.cells 65 by rw [← hX]; exact (((box_new _ _ _).alloc _).alloc _).alloc _)
  have B1 := hide (show Box X (w.heap.size + 1) y.cells 65 by rw [← hX]; have h := box_new (w.alloc (.cells x.cells 65)) y.cells 65; rw [e1] at h; exact (h.alloc _).alloc _)
  have B2 := hide (show Box X (w.heap.size + 1 + 1) ou.zero.cells 65 by rw [← hX]; have h := box_new ((w.alloc (.cells x.cells 65)).alloc (.cells y.cells 65)) ou.zero.cells 65; rw [e2] at h; exact h.alloc _)
  have B3 := hide (show Box X (w.heap.size + 1 + 1 + 1) ou.zero.cells 65 by rw [← hX]; have h := box_new (((w.alloc (.cells x.cells 65)).alloc (.cells y.cells 65)).alloc (.cells ou.zero.cells 65)) ou.zero.cells 65; rw [e3] at h; exact h)
  have HB := hide (show Le w X by rw [← hX]; exact ((((Below.refl _ _).alloc (Nat.le_refl _) _).alloc (by simp) _).alloc (by simp; omega) _).alloc (by simp; omega) _)
  have HX := hide hX
  obtain ⟨R, hR⟩ : ∃ R, ou.joinV op x y = R := ⟨_, rfl⟩
  have HR := hide hR
  rw [hR]
  obtain ⟨P, hP⟩ : ∃ P : Nat → ou.T3, P = ou.pj op x y := ⟨_, rfl⟩
  have HP0 := hide (show P 0 = ou.zero by rw [hP]; rfl)
  have HP9 := hide (show P 9 = R by rw [hP]; exact hR)
  have HPS := hide (show ∀ i j, i < 3 → j < 3 → P (3 * i + j + 1) = ou.stepP op x y (P (3 * i + j)) i j from fun i j hi hj => by rw [hP]; exact pj_step op x y i j hi hj)
  have hbo := hide (fun (w : World) (i j : Nat) => two_int op i j ▸ both_any w op i j)
  clear hX hR hP e1 e2 e3
  obtain ⟨xa, xb, xc⟩ := x
  obtain ⟨ya, yb, yc⟩ := y
  simp only [ou.T3.cells, ou.zero] at HX B0 B1 B2 B3 ⊢
  go_enter Tryd.func37, Tryd.ntmps37
  go_upto_region 2 with fail
  rw [HX.out]
  have c0 := B0.out.cell 0 (.bool xa) rfl
  have c1 := B0.out.cell 1 (.bool xb) rfl
  have c2 := B0.out.cell 2 (.bool xc) rfl
  go_wp2_with fail
  clear c0 c1 c2
  go_loopw [14] (fun i wr => ∃ k : Nat, i = .int .i64 k ∧ k ≤ 3 ∧ Hid (Box wr (w.heap.size + 1) #[.bool ya, .bool yb, .bool yc] 65) ∧ Hid (Box wr (w.heap.size + 1 + 1) #[.bool false, .bool false, .bool false] 65) ∧ Hid (Box wr (w.heap.size + 1 + 1 + 1) #[.bool (P (3 * k)).a, .bool (P (3 * k)).b, .bool (P (3 * k)).c] 65) ∧ Hid (Le w wr)) (fun i _ => 3 - (intOf i).toNat)
  case atStart => exact ⟨0, rfl, by omega, B1, B2, hide (by rw [Nat.mul_zero, HP0.out]; exact B3.out), HB⟩
  case round =>
    obtain ⟨k, rfl, hk, C1, C2, C3, HL⟩ := hrel
    by_cases hk3 : k < 3
    · have y0 := C1.out.cell 0 (.bool ya) rfl
      have y1 := C1.out.cell 1 (.bool yb) rfl
      have y2 := C1.out.cell 2 (.bool yc) rfl
      have C3' := hide (show Box wr (w.heap.size + 1 + 1 + 1) (P (3 * k + 0)).cells 65 from C3.out)
      have HPK := hide (show ∀ j, j < 3 → P (3 * k + j + 1) = ou.stepP op ⟨xa, xb, xc⟩ ⟨ya, yb, yc⟩ (P (3 * k + j)) k j from fun j hj => HPS.out k j hk3 hj)
      obtain ⟨xi, hxi⟩ : ∃ b, ou.get ⟨xa, xb, xc⟩ k = b := ⟨_, rfl⟩
      have HXI := hide hxi
      have HTL := hide (fun j hj => two_lt op k j hk3 hj)
      have hkk : k = 0 ∨ k = 1 ∨ k = 2 := by omega
      clear C3
      go_upto_region 4 with fail
      go_cut [8, 9] (fun s8 s9 wx => s8 = .int .i64 k ∧ s9 = .bool xi ∧ wx = wr)
      case first =>
        have hix := t3_index wr xa xb xc k hk3
        rw [hxi] at hix
        go_wp2_with fail
        go_meet
        exact ⟨rfl, rfl, rfl⟩
      case rest =>
        obtain ⟨rfl, rfl, rfl⟩ := hcut
        clear hxi hkk
        go_wp2_with fail
        clear y0 y1 y2
        go_loopw [19] (fun i wr => ∃ j : Nat, i = .int .i64 j ∧ j ≤ 3 ∧ Hid (Box wr (w.heap.size + 1) #[.bool ya, .bool yb, .bool yc] 65) ∧ Hid (Box wr (w.heap.size + 1 + 1) #[.bool false, .bool false, .bool false] 65) ∧ Hid (Box wr (w.heap.size + 1 + 1 + 1) (P (3 * k + j)).cells 65) ∧ Hid (Le w wr)) (fun i _ => 3 - (intOf i).toNat)
        case atStart => exact ⟨0, rfl, by omega, C1, C2, C3', HL⟩
        case round =>
          obtain ⟨j, rfl, hj, D1, D2, D3, HL2⟩ := hrel
          by_cases hj3 : j < 3
          · obtain ⟨yj, hyj⟩ : ∃ b, ou.get ⟨ya, yb, yc⟩ j = b := ⟨_, rfl⟩
            have HYJ := hide hyj
            have hjj : j = 0 ∨ j = 1 ∨ j = 2 := by omega
            go_upto_region 7 with fail
            go_cut [10, 11] (fun s10 s11 wx => s10 = .int .i64 j ∧ s11 = .bool yj ∧ wx = wr)
            case first =>
              have hix := t3_index wr ya yb yc j hj3
              rw [hyj] at hix
              go_wp2_with fail
              go_meet
              exact ⟨rfl, rfl, rfl⟩
            case rest =>
              obtain ⟨rfl, rfl, rfl⟩ := hcut
              clear hyj hjj
              go_wp2_with fail
              refine (hbo.out wc k j).mono ?_
              rintro e w' ⟨rfl, rfl⟩
              obtain ⟨t, ht⟩ : ∃ t, ou.two op k j = t := ⟨_, rfl⟩
              have ht3 : t < 3 := by rw [← ht]; exact HTL.out j hj3
              have HPJ := hide (HPK.out j hj3)
              have HSP := hide (show ou.stepP op ⟨xa, xb, xc⟩ ⟨ya, yb, yc⟩ (P (3 * k + j)) k j = ou.set (P (3 * k + j)) t (ou.get (P (3 * k + j)) t || (xi && yj)) by unfold ou.stepP; rw [ht, HXI.out, HYJ.out])
              rw [ht]
              obtain ⟨o, ho⟩ : ∃ o, P (3 * k + j) = o := ⟨_, rfl⟩
              rw [ho] at HPJ HSP D3
              have e0 := t3_cell D3.out t ht3
              have f0 := D3.out.frozen t
              obtain ⟨g, hg⟩ : ∃ g, ou.get o t = g := ⟨_, rfl⟩
              rw [hg] at e0 HSP
              have HPN := hide (show P (3 * k + (j + 1)) = ou.set o t (g || (xi && yj)) by rw [← Nat.add_assoc, HPJ.out, HSP.out])
              have ht3i : (t : Int) < 3 := by omega
              have ht0i : (0 : Int) ≤ (t : Int) := by omega
              clear ht hg ho HPJ HSP
              cases g <;> cases xi
              all_goals
                go_wp2_with fail
                refine ⟨⟨j + 1, by go_num, by omega, hide (D1.out.other (by simp; try omega) _), hide (D2.out.other (by simp; try omega) _), hide ?_, hide (HL2.out.setCell (by simp; try omega) _)⟩, by simp [intOf]; omega⟩
                rw [HPN.out]
                exact t3_set D3.out t ht3 _
          · obtain rfl : j = 3 := by omega
            go_wp2_with fail
            exact ⟨⟨k + 1, by go_num, by omega, D1, D2, hide D3.out, HL2⟩, by simp [intOf]; omega⟩
    · obtain rfl : k = 3 := by omega
      have b3 := C3.out
      rw [HP9.out] at b3
      have d0 := b3.cell 0 (.bool R.a) rfl
      have d1 := b3.cell 1 (.bool R.b) rfl
      have d2 := b3.cell 2 (.bool R.c) rfl
      go_wp2_with (refine wpList_store_row rfl 65 _ _ rfl (w.heap.size + 1 + 1) #[.bool R.a, .bool R.b, .bool R.c] rfl rfl 65 _ C2.out (by kernel_rfl) rfl (t3_one R) ?_)
      refine bodyPost_ret (box_results rfl _ (setRow_heap _ _ _ _ _ _ C2.out) rfl Tryd.underlying65 rfl rfl) rfl ?_
      exact ⟨rfl, below_setRow HL.out (by omega) _⟩
#print axioms joined_any
end Go.Proofs.YtklgmojojgoaeaaDoor
