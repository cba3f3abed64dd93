/-
  Fields, walked: that two rows of fields are the same.
-/
import Derived.Test.YtjliocbdidiemaaDoorQI
namespace Go.Proofs.YtjliocbdidiemaaDoor
open Go.RowKit
set_option linter.unusedVariables false

theorem later_row {w V : World} {q B : Nat} {A : Option Addr} {xs : List Value} (hV : (w.drewN q).drew = V) (hr : Row w B A xs) (hB : B ≤ w.heap.size) : ∀ W', Le V W' → Row W' B A xs :=
  fun _ h => by subst hV; exact ((hr.drewN q).drew).below (C := (w.drewN q).drew.heap.size) h hB
set_option maxRecDepth 100000 in
set_option maxHeartbeats 8000000 in
theorem refsame_any (w : World) (A B : Option Addr) (n c d : Nat) (l m : List FV) (hl : l.length = n) (hn : n ≤ 1000000) (hlm : l.map (·.1) = m.map (·.1)) (h8 : ∀ p ∈ l, ∀ x ∈ p.1.b, x < 256)
    (hr : Row w w.heap.size A (fcs l)) (hs : Row w w.heap.size B (fcs m)) (hh : Held w w.heap.size l) (hk : Held w w.heap.size m) :
    Calls Tryd.prog 27 #[.slice A n c, .slice B n d] w fun e w' => e = .returned (.bool true) ∧ Below w.heap.size w w' := by
  have HL := hide hl
  have HM := hide (show m.length = n by have h := congrArg List.length hlm; rw [List.length_map, List.length_map, hl] at h; exact h.symm)
  have HLM := hide hlm
  have H8 := hide h8
  have HH := hide hh
  have HK := hide hk
  clear hl hlm h8 hh hk
  go_enter Tryd.func27, Tryd.ntmps27
  go_wp2_with fail
  go_loopw [5] (fun i wr => ∃ k q : Nat, k ≤ n ∧ i = .int .i64 k ∧ wr = w.drewN q) (fun i _ => n - (intOf i).toNat)
  case atStart => exact ⟨0, 0, Nat.zero_le _, rfl, rfl⟩
  case round =>
    obtain ⟨k, q, hk, rfl, rfl⟩ := hrel
    by_cases hkn : k < n
    · obtain ⟨p, hx⟩ : ∃ x, l[k]? = some x := ⟨_, List.getElem?_eq_getElem (by rw [HL.out]; exact hkn)⟩
      obtain ⟨p2, hy⟩ : ∃ x, m[k]? = some x := ⟨_, List.getElem?_eq_getElem (by rw [HM.out]; exact hkn)⟩
      obtain ⟨b1, o1, rfl, hb1, d0, d1, d2, d3⟩ := elem_cells hr hx (Below.refl _ w) (Nat.le_refl _)
      obtain ⟨b2, o2, rfl, hb2, e0, e1, e2, e3⟩ := elem_cells hs hy (Below.refl _ w) (Nat.le_refl _)
      obtain ⟨-, -, r1⟩ := HH.out.at_ hx
      obtain ⟨-, -, r2⟩ := HK.out.at_ hy
      have h8x := H8.out p (List.mem_of_getElem? hx)
      have hpp : p.1 = p2.1 := by
        have h1 := fst_at hx
        rw [HLM.out, fst_at hy] at h1
        injection h1 with h1
        exact h1.symm
      obtain ⟨⟨tag, isB, u, b⟩, Ab, cb⟩ := p
      obtain ⟨f2, Ad, cd⟩ := p2
      simp only at hpp
      subst hpp
      simp only at d0 d1 d2 d3 e0 e1 e2 e3 r1 r2 h8x
      obtain ⟨nb, hnb⟩ : ∃ nb, b.length = nb := ⟨_, rfl⟩
      rw [hnb] at d3 e3
      obtain ⟨V, hV⟩ : ∃ V, (w.drewN q).drew = V := ⟨_, rfl⟩
      have g0 := later_cell hV hb1 d0
      have g1 := later_cell hV hb1 d1
      have g2 := later_cell hV hb1 d2
      have g3 := later_cell hV hb1 d3
      have k0 := later_cell hV hb2 e0
      have k1 := later_cell hV hb2 e1
      have k2 := later_cell hV hb2 e2
      have k3 := later_cell hV hb2 e3
      have q1 : ∀ W', Le V W' → (convert 22 9 (.slice Ab nb cb)).run Tryd.prog W' = .ok (.string (str b)) W' := fun W' h => conv8 W' _ Ab nb cb b hnb h8x (later_row hV r1 (Nat.le_refl _) W' h)
      have q2 : ∀ W', Le V W' → (convert 22 9 (.slice Ad nb cd)).run Tryd.prog W' = .ok (.string (str b)) W' := fun W' h => conv8 W' _ Ad nb cd b hnb h8x (later_row hV r2 (Nat.le_refl _) W' h)
      have HV := hide hV
      clear hV hx hy r1 r2 h8x hnb d0 d1 d2 d3 e0 e1 e2 e3
      go_wp2_with fail
      refine region_pi [(0, true), (1, true), (2, true), (3, true), (4, true), (5, true), (6, true), (7, true), (8, true), (9, true), (10, true), (11, true), (12, true), (13, true), (14, true), (15, true), (16, true), (17, true), (18, true), (19, true), (20, true), (21, true), (22, true), (23, true), (24, true), (25, true), (26, true), (27, true), (28, true), (29, true), (30, true), (31, true), (32, true), (33, true), (34, true), (35, true), (36, true), (37, true), (38, true), (39, true), (40, true), (41, true), (42, true), (43, true), (44, true), (45, true), (46, true), (47, true), (48, true), (49, true), (50, true), (51, true)] (by kernel_rfl) (by kernel_rfl) ?_
      simp only [opsPi, List.filterMap_cons, List.filterMap_nil, List.getElem?_toArray, List.getElem?_cons_zero, List.getElem?_cons_succ, Option.map_some]
      rw [HV.out]
      repeat (first | (refine pi_take (v := _) rfl (fun W hW => by go_simp <;> exact rfl) ?_; simp only [Act.put, List.setIfInBounds_toArray, List.set_cons_zero, List.set_cons_succ]) | (refine pi_skip rfl ?_; simp only [Act.put, List.setIfInBounds_toArray, List.set_cons_zero, List.set_cons_succ]))
      refine pi_done ?_
      rw [← HV.out, World.drew_drewN]
      go_wp2_with fail
      exact ⟨⟨k + 1, _, by omega, by go_num, rfl⟩, by simp [intOf]; omega⟩
    · obtain rfl : k = n := by omega
      go_wp2_with fail
      go_ret
      exact ⟨rfl, below_drewN (Below.refl _ _) _⟩
#print axioms refsame_any

set_option maxRecDepth 100000 in
set_option maxHeartbeats 8000000 in
theorem same_any (w : World) (A B : Option Addr) (n c d : Nat) (l m : List FV) (hl : l.length = n) (hn : n ≤ 1000000) (hlm : l.map (·.1) = m.map (·.1)) (h8 : ∀ p ∈ l, ∀ x ∈ p.1.b, x < 256)
    (hr : Row w w.heap.size A (fcs l)) (hs : Row w w.heap.size B (fcs m)) (hh : Held w w.heap.size l) (hk : Held w w.heap.size m) :
    Calls Tryd.prog 12 #[.slice A n c, .slice B n d] w fun e w' => e = .returned (.bool true) ∧ Below w.heap.size w w' := by
  have HL := hide hl
  have HLM := hide hlm
  have H8 := hide h8
  have HH := hide hh
  have HK := hide hk
  clear hl hlm h8 hh hk
  go_enter Tryd.func12, Tryd.ntmps12
  go_wp2_with fail
  obtain ⟨W0, hW0⟩ : ∃ W0, w.alloc (.cells #[] 54) = W0 := ⟨_, rfl⟩
  rw [hW0]
  have hs1 : W0.ownsRow w.heap.size 54 4 (.slice (some ⟨w.heap.size, 0, none⟩) 0 0) 0 (fcs []) := by rw [← hW0]; exact World.ownsRow_lit _ #[] 0 (Nat.le_refl _) (by simp) rfl
  have hs2 : Below w.heap.size w W0 := by rw [← hW0]; exact (Below.refl _ _).alloc (Nat.le_refl _) _
  clear hW0
  go_loopw [5, 6] (fun v i wr => ∃ (k c3 : Nat) (A3 : Option Addr), k ≤ n ∧ i = .int .i64 k ∧ v = .slice A3 k c3 ∧ Hid (wr.ownsRow w.heap.size 54 4 (.slice A3 k c3) k (fcs (l.take k))) ∧ Hid (Below w.heap.size w wr)) (fun _ i _ => n - (intOf i).toNat)
  case atStart => exact ⟨0, 0, _, Nat.zero_le _, rfl, rfl, hide (by simpa using hs1), hide hs2⟩
  case round =>
    obtain ⟨k, c3, A3, hk, rfl, rfl, HO, HB⟩ := hrel
    have hz := HB.out.size
    by_cases hkn : k < n
    · obtain ⟨p, hx⟩ : ∃ x, l[k]? = some x := ⟨_, List.getElem?_eq_getElem (by rw [HL.out]; omega)⟩
      obtain ⟨V, hV⟩ : ∃ V, wr.drew = V := ⟨_, rfl⟩
      have HB1 := hide (show Below w.heap.size w V by rw [← hV]; exact HB.out.drew)
      have HO1 := hide (show V.ownsRow w.heap.size 54 4 (.slice A3 k c3) k (fcs (l.take k)) by rw [← hV]; exact HO.out)
      obtain ⟨bA, oA, rfl, hbA, -⟩ := elem_cells hr hx HB1.out (Nat.le_refl _)
      have HS := hide (fcs_succ hx)
      obtain ⟨⟨tag, isB, m', b⟩, Ab, cb⟩ := p
      have g0 : ∀ W', Below w.heap.size V W' → W'.cell? ⟨bA, oA + k * 4, none⟩ = some (.int .i64 tag) := fun W' h => by
        obtain ⟨_, _, hA, -, hd, -, -, -⟩ := elem_cells hr hx (HB1.out.trans h) (Nat.le_refl _); injection hA with hA; injection hA with h1 h2; subst h1; subst h2; exact hd
      have g1 : ∀ W', Below w.heap.size V W' → W'.cell? ⟨bA, oA + k * 4 + 1, none⟩ = some (.bool isB) := fun W' h => by
        obtain ⟨_, _, hA, -, -, hd, -, -⟩ := elem_cells hr hx (HB1.out.trans h) (Nat.le_refl _); injection hA with hA; injection hA with h1 h2; subst h1; subst h2; exact hd
      have g2 : ∀ W', Below w.heap.size V W' → W'.cell? ⟨bA, oA + k * 4 + 2, none⟩ = some (.int .u64 (m' : Int)) := fun W' h => by
        obtain ⟨_, _, hA, -, -, -, hd, -⟩ := elem_cells hr hx (HB1.out.trans h) (Nat.le_refl _); injection hA with hA; injection hA with h1 h2; subst h1; subst h2; exact hd
      have g3 : ∀ W', Below w.heap.size V W' → W'.cell? ⟨bA, oA + k * 4 + 3, none⟩ = some (.slice Ab b.length cb) := fun W' h => by
        obtain ⟨_, _, hA, -, -, -, -, hd⟩ := elem_cells hr hx (HB1.out.trans h) (Nat.le_refl _); injection hA with hA; injection hA with h1 h2; subst h1; subst h2; exact hd
      have HV := hide hV
      have hzV : w.heap.size ≤ V.heap.size := HB1.out.size
      obtain ⟨nb, hnb⟩ : ∃ nb, b.length = nb := ⟨_, rfl⟩
      simp only [cellsF] at HS
      rw [hnb] at g3 HS
      clear hx hV HO HB hnb
      go_wp2_with fail
      refine region_pib (B := w.heap.size) [(0, true), (1, true), (2, true), (3, true), (4, true), (5, true), (6, true), (7, true), (8, true), (9, true), (10, true), (11, true), (12, true), (13, true), (14, true), (15, true), (16, true), (17, true), (18, true), (19, true), (20, true), (21, true), (22, false), (23, false), (24, true)] (by kernel_rfl) (by kernel_rfl) ?_
      simp only [opsPi, List.filterMap_cons, List.filterMap_nil, List.getElem?_toArray, List.getElem?_cons_zero, List.getElem?_cons_succ, Option.map_some]
      rw [HV.out]
      repeat (first | (refine pib_take (v := _) rfl (fun W hW => by go_simp <;> exact rfl) ?_; simp only [Act.put, List.setIfInBounds_toArray, List.set_cons_zero, List.set_cons_succ]) | (refine pib_skip rfl ?_; simp only [Act.put, List.setIfInBounds_toArray, List.set_cons_zero, List.set_cons_succ]))
      refine pib_run ?_
      go_wp2_with fail
      refine ⟨(Below.refl _ _).alloc hzV _, ?_⟩
      refine pib_run ?_
      refine wpList_append_row _ rfl (.tmp 14) (.tmp 36) 28 rfl w.heap.size 54 infoRF Tryd.underlying28 rfl (by omega) (.slice A3 k c3) k _ rfl (HO1.out.alloc _) _ (some ⟨V.heap.size, 0, none⟩) 1 1 [.int .i64 tag, .bool isB, .int .u64 (m' : Int), .slice Ab nb cb] rfl rfl (row_cells4 V _ _ _ _ _) (by intro u hu; simp at hu; rcases hu with rfl | rfl | rfl | rfl <;> rfl) (by simp only [maxLen]; omega) (by omega) (by simp; omega) ?_
      intro v' w' hown' hg hat
      have hbb : Below w.heap.size (V.alloc (.cells #[.int .i64 tag, .bool isB, .int .u64 (m' : Int), .slice Ab nb cb] 54)) w' := below_own hg (Nat.le_refl _) (by simp; omega) (fun g h => own_ge HO1.out h (Nat.le_refl _))
      have HB' := hide (show Below w.heap.size w w' from ((HB1.out.alloc (by omega) _).trans hbb))
      obtain ⟨A', c', rfl, -, -⟩ := own_form hown'
      have HO' := hide hown'
      have HBB := hide hbb
      clear hown' hg hat hbb
      go_wp2_with fail
      refine ⟨HBB.out, ?_⟩
      repeat (first | (refine pib_take (v := _) rfl (fun W hW => by go_simp <;> exact rfl) ?_; simp only [Act.put, List.setIfInBounds_toArray, List.set_cons_zero, List.set_cons_succ]) | (refine pib_skip rfl ?_; simp only [Act.put, List.setIfInBounds_toArray, List.set_cons_zero, List.set_cons_succ]))
      refine pib_done ?_
      have HO'' := hide (show w'.ownsRow w.heap.size 54 4 (.slice A' (k + 1) c') (k + 1) (fcs (l.take (k + 1))) by rw [HS.out]; exact HO'.out)
      go_wp2_with fail
      exact ⟨⟨k + 1, c', A', by omega, by go_num, rfl, HO'', HB'⟩, by simp [intOf]; omega⟩
    · obtain rfl : k = n := by omega
      have HT := hide (show l.take k = l from List.take_of_length_le (by rw [HL.out]; exact Nat.le_refl _))
      rw [HT.out] at HO
      go_wp2_with fail
      have HLe := hide (show Le w wr from HB.out)
      refine (refsame_any wr A3 B k c3 d l m HL.out hn HLM.out H8.out (Row.of_own HO.out) (hs.le HLe.out) (HH.out.le HLe.out) (HK.out.le HLe.out)).mono ?_
      rintro e w2 ⟨rfl, hb2⟩
      have HF := hide (show Below w.heap.size w w2 from HLe.out.trans hb2)
      go_wp2_with fail
      go_ret
      exact ⟨rfl, HF.out⟩
#print axioms same_any
end Go.Proofs.YtjliocbdidiemaaDoor
