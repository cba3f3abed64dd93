/-
  A row with a value at a node's column: walked.
-/
import Derived.Test.YtklgmojojgoaeaaDoorOuA
import Derived.Deep.MidRow
import Derived.Laws.MakeOwn
namespace Go.Proofs.YtklgmojojgoaeaaDoor
open Go.RowKit
set_option linter.unusedVariables false

def zv : va.Val := ⟨false, 0, ⟨#[]⟩⟩
def zcs : Array Value := #[.bool false, .int .i64 0, .string ⟨#[]⟩]
theorem vcs_zero : ∀ (j k : Nat) (u : Value), (vcs (List.replicate j zv))[k]? = some u → k < j * 3 ∧ u = zcs[k % 3]!
  | 0, k, u, h => by simp [vcs] at h
  | j + 1, 0, u, h => by
    rw [List.replicate_succ, vcs_cons] at h
    simp at h
    exact ⟨by omega, h.symm⟩
  | j + 1, 1, u, h => by
    rw [List.replicate_succ, vcs_cons] at h
    simp at h
    exact ⟨by omega, h.symm⟩
  | j + 1, 2, u, h => by
    rw [List.replicate_succ, vcs_cons] at h
    simp at h
    exact ⟨by omega, h.symm⟩
  | j + 1, k + 3, u, h => by
    rw [List.replicate_succ, vcs_cons] at h
    have h' : (vcs (List.replicate j zv))[k]? = some u := by simpa using h
    obtain ⟨h1, h2⟩ := vcs_zero j k u h'
    exact ⟨by omega, by rw [h2, show (k + 3) % 3 = k % 3 by omega]⟩
theorem vcs_len (l : List va.Val) : (vcs l).length = l.length * 3 := by
  induction l with
  | nil => rfl
  | cons a l ih => rw [vcs_cons, List.length_cons, List.length_cons, List.length_cons, ih, List.length_cons]; omega
theorem made_at (n k : Nat) (hk : k < n) : (madeCells zcs n)[k]? = some (zcs[k % 3]!) := by
  unfold madeCells
  rw [Array.getElem?_map, Array.getElem?_range]
  rw [if_pos hk]
  rfl
theorem made_there {X : World} {b j : Nat} {t : TypeId} (h : Box X b (madeCells zcs ((j + 1) * 3)) t) : X.there b (j * 3) 3 := fun i hi => by
  rw [h.cell (j * 3 + i) _ (made_at _ _ (by omega))]
  exact ⟨rfl, h.frozen _⟩
theorem made_row {X Y : World} {b j : Nat} {t : TypeId} {v : va.Val} (h : Box X b (madeCells zcs ((j + 1) * 3)) t) (hY : X.setCells b (j * 3) [.bool v.nul, .int .i64 v.n, .string v.s] = Y) : Row Y (b + 1) (some ⟨b, 0, none⟩) (vcs (List.replicate j zv ++ [v])) := fun _ => by
  refine ⟨b, 0, rfl, by omega, fun k u hu => ?_⟩
  rw [Nat.zero_add, ← hY]
  rw [vcs_append] at hu
  by_cases hk : k < j * 3
  · rw [List.getElem?_append_left (by rw [vcs_len]; simpa using hk)] at hu
    obtain ⟨-, rfl⟩ := vcs_zero _ _ _ hu
    rw [World.cell?_setCells_out b _ _ _ _ (fun _ _ => .inl hk)]
    exact h.cell k _ (made_at _ _ (by omega))
  · rw [List.getElem?_append_right (by rw [vcs_len]; simpa using hk), vcs_len, List.length_replicate] at hu
    have hk3 : k - j * 3 < 3 := by
      have := (List.getElem?_eq_some_iff.1 hu).1
      rw [vcs_len] at this
      simpa using this
    have hin := World.cell?_setCells_in b [.bool v.nul, .int .i64 v.n, .string v.s] (j * 3) X (fun i hi => (made_there h i hi).1) (k - j * 3) hk3
    rw [show j * 3 + (k - j * 3) = k by omega] at hin
    rw [hin]
    obtain ⟨q, hq⟩ : ∃ q, k - j * 3 = q := ⟨_, rfl⟩
    simp only [hq] at hu hk3 ⊢
    have h3 : q = 0 ∨ q = 1 ∨ q = 2 := by omega
    rcases h3 with rfl | rfl | rfl
    · exact hu
    · exact hu
    · exact hu
theorem made_below {w X Y : World} {b o : Nat} {v : va.Val} (h : Below b w X) (hY : X.setCells b o [.bool v.nul, .int .i64 v.n, .string v.s] = Y) : Below b w Y := by
  rw [← hY]
  exact ((h.setCell (Nat.le_refl _) _).setCell (Nat.le_refl _) _).setCell (Nat.le_refl _) _
theorem nd_val_box (w : World) (n : pr.Nd) (v : va.Val) (t u : TypeId) : ∃ W, (w.alloc (.cells n.cells t)).alloc (.cells #[.bool v.nul, .int .i64 v.n, .string v.s] u) = W ∧ Box W w.heap.size n.cells t ∧ Box W (w.heap.size + 1) #[.bool v.nul, .int .i64 v.n, .string v.s] u ∧ Le w W := by
  refine ⟨_, rfl, (box_new _ _ _).alloc _, ?_, ((Below.refl _ _).alloc (Nat.le_refl _) _).alloc (by simp) _⟩
  have h := box_new (w.alloc (.cells n.cells t)) #[.bool v.nul, .int .i64 v.n, .string v.s] u
  have e : (w.alloc (.cells n.cells t)).heap.size = w.heap.size + 1 := by simp
  rw [e] at h
  exact h
set_option maxRecDepth 100000 in
set_option maxHeartbeats 1000000 in
theorem ending_any (w : World) (n : pr.Nd) (v : va.Val) (j : Nat) (hj : n.col = j) (hm : j ≤ 1000) :
    Calls Tryd.prog 49 #[.agg n.cells, .agg #[.bool v.nul, .int .i64 v.n, .string v.s]] w fun e w' => ∃ b, e = .returned (.slice (some ⟨b, 0, none⟩) (j + 1) (j + 1)) ∧ Row w' w'.heap.size (some ⟨b, 0, none⟩) (vcs (List.replicate j zv ++ [v])) ∧ Below w.heap.size w w' := by
  obtain ⟨W, hW, bx, bv, hb⟩ := nd_val_box w n v 40 38
  have HW := hide hW
  have HX := hide bx
  have HV := hide bv
  have HB := hide hb
  obtain ⟨X, hX⟩ : ∃ X, W.alloc (.cells (madeCells zcs ((j + 1) * 3)) 38) = X := ⟨_, rfl⟩
  have bm : Box X W.heap.size (madeCells zcs ((j + 1) * 3)) 38 := by rw [← hX]; exact box_new _ _ _
  have hbm : Below W.heap.size W X := by rw [← hX]; exact (Below.refl _ _).alloc (Nat.le_refl _) _
  obtain ⟨Y, hY⟩ : ∃ Y, X.setCells W.heap.size (j * 3) [.bool v.nul, .int .i64 v.n, .string v.s] = Y := ⟨_, rfl⟩
  have hbY := made_below hbm hY
  have hrow := made_row bm hY
  have HROW := hide (hrow.more (show W.heap.size + 1 ≤ Y.heap.size from by
    have := bm.lt
    have h2 : Below X.heap.size X X := Below.refl _ _
    have h3 : X.heap.size ≤ Y.heap.size := (made_below (Below.refl W.heap.size X) hY).size
    omega))
  have HLY := hide (show Le w Y from hb.trans hbY)
  have HYY := hide hY
  have HTH := hide (made_there bm)
  have HX2 := hide (bx.below hbm bx.lt)
  have HV2 := hide (bv.below hbm bv.lt)
  have hmk : (Instr.makeSlice 32 (.int .i64 ((j : Int) + 1)) (.int .i64 ((j : Int) + 1))).run Tryd.prog W = .ok (.slice (some ⟨W.heap.size, 0, none⟩) (j + 1) (j + 1)) X := by
    obtain ⟨i, hi, hz, h8⟩ : ∃ i, Tryd.prog.info? 38 = some i ∧ i.zero = some (.agg zcs) ∧ i.bytes ≤ 100 ∧ i.size = 3 := by
      have h0 : (Tryd.prog.info? 38).isSome = true := by kernel_rfl
      cases hi : Tryd.prog.info? 38 with
      | none =>
        rw [hi] at h0
        cases h0
      | some i =>
        have h1 : (Tryd.prog.info? 38).map (fun i => (i.zero, decide (i.bytes ≤ 100), i.size)) = some (some (.agg zcs), true, 3) := by kernel_rfl
        rw [hi] at h1
        simp only [Option.map_some, Option.some.injEq, Prod.mk.injEq, decide_eq_true_eq] at h1
        exact ⟨i, rfl, h1.1, h1.2.1, h1.2.2⟩
    have h8b : (i.bytes : Int) * ((j : Int) + 1) ≤ 100 * 1001 := by
      have h1 : (i.bytes : Int) ≤ 100 := by omega
      have h2 : (j : Int) + 1 ≤ 1001 := by omega
      exact Int.mul_le_mul h1 h2 (by omega) (by omega)
    have h := run_make (P := Tryd.prog) W 32 38 i (.agg zcs) rfl hi hz .i64 .i64 ((j : Int) + 1) ((j : Int) + 1) (by omega) (by omega) (by omega) (by omega)
    rw [h8.2] at h
    rw [h, show ((j : Int) + 1).toNat = j + 1 by omega, ← hX]
    rfl
  obtain ⟨op, col, ⟨un, ui, us⟩, vA, vn, vc, vals, lA, ln, lc, L⟩ := n
  obtain ⟨wn, wi, ws⟩ := v
  simp only [pr.Nd.cells] at HX HW HX2 hj HV HV2 HYY HROW ⊢
  subst hj
  clear hW bx bv hb hX bm hbm hY hbY hrow
  go_enter Tryd.func49, Tryd.ntmps49
  go_upto_region 1 with fail
  rw [HW.out]
  have g1 := HX.out.cell 1 (.int .i64 j) rfl
  have ew : wrap64 ((j : Int) + 1) = (j : Int) + 1 := by unfold wrap64; omega
  go_upto_region 2 with fail
  clear g1
  have g1 := HX2.out.cell 1 (.int .i64 j) rfl
  have k0 := HV2.out.cell 0 (.bool wn) rfl
  have k1 := HV2.out.cell 1 (.int .i64 wi) rfl
  have k2 := HV2.out.cell 2 (.string ws) rfl
  have hj0 : (0 : Int) ≤ (j : Int) := by omega
  have hj1 : (j : Int) < ((j + 1 : Nat) : Int) := by omega
  have hone := val_one ⟨wn, wi, ws⟩
  simp only at hone
  go_upto_region 3 with (refine wpList_store_mid rfl 38 _ _ rfl W.heap.size (j * 3) #[.bool wn, .int .i64 wi, .string ws] (by first | rfl | (show Value.pointer _ = _; simp)) rfl HTH.out (by kernel_rfl) hone ?_)
  rw [HYY.out]
  go_wp2_with fail
  go_ret
  exact ⟨_, rfl, HROW.out, HLY.out⟩
#print axioms ending_any
end Go.Proofs.YtklgmojojgoaeaaDoor
