/-
  The walks of the checksum's functions: the document's seals.
-/
import Derived.Test.YtocpeiocgppkfaaYCrcC
import Derived.Test.YtocpeiocgppkfaaVarD
import Derived.Test.YtocpeiocgppkfaaRegion
namespace Go.Proofs.Ytocpeiocgppkfaa
open Go.RowKit
set_option linter.unusedVariables false

theorem tail_cells (s : Nat) : [Value.int .u8 ((s : Int) % 256), .int .u8 ((s : Int) / 256 % 256), .int .u8 ((s : Int) / 65536 % 256), .int .u8 ((s : Int) / 16777216 % 256)] = u8s (crc.tail4 s) := by
  simp [u8s, crc.tail4]

set_option maxRecDepth 100000 in
set_option maxHeartbeats 400000 in
theorem refseal_any (w : World) (A : Option Addr) (n c : Nat) (l : List Nat) (hl : l.length = n) (hn : n ≤ 1000) (h8 : ∀ x ∈ l, x < 256) (hr : Row w w.heap.size A (u8s l)) :
    Calls Try.prog 31 #[.slice A n c] w (Gives w.heap.size 5 1 (n + 4) (u8s (crc.seal_ l)) w) := by
  have H8 := hide h8
  have HL := hide hl
  have hl1 : (u8s l).length = n * 1 := by simp [u8s, hl]
  have HL1 := hide hl1
  clear h8 hl hl1
  go_enter Try.func31, Try.ntmps31
  go_wp2_with (first
    | (go_at_call 39; refine (refsum_any _ A n c l HL.out hn H8.out hr).mono ?_; rintro e w' ⟨rfl, rfl⟩)
    | (at_builtin; refine wpList_append_row _ rfl (.tmp 6) (.tmp 7) 41 rfl w.heap.size 5 info_u8 Try.underlying41 rfl (by omega) _ 0 [] rfl (World.ownsRow_lit _ #[] 0 (Nat.le_refl _) (by simp) rfl) w.heap.size A n c (u8s l) rfl HL1.out (hr.alloc (Nat.le_refl _) _) u8s_one (by simp only [maxLen]; omega) (by omega) (by simp) ?_; intro v1 w1 hown1 hg1 hat1; have hz1 : w.heap.size + 1 ≤ w1.heap.size := (by have := hg1.size; simpa using this))
    | (at_builtin; refine wpList_append_row _ rfl (.tmp 8) (.tmp 20) 41 rfl w.heap.size 5 info_u8 Try.underlying41 rfl (by omega) _ (0 + n) _ rfl (hown1.alloc _) _ (some ⟨w1.heap.size, 0, none⟩) 4 4 (u8s (crc.tail4 (crc.sum l))) rfl rfl (by rw [← tail_cells]; exact row_new _ _ _ _) u8s_one (by simp only [maxLen]; omega) (by omega) (by simp; omega) ?_; intro v2 w2 hown2 hg2 hat2))
  go_ret
  refine ⟨v2, rfl, ?_, ?_⟩
  · simpa [crc.seal_, u8s] using hown2
  · exact ((((Below.refl _ _).alloc (Nat.le_refl _) _).grown hg1 (by simp) (fun g hg => blk_ge hg (Nat.le_refl _))).alloc (by omega) _).grown hg2 (by simp; omega) (fun g hg => own_ge hown1 hg (Nat.le_refl _))

theorem seal8 {l : List Nat} (h8 : ∀ x ∈ l, x < 256) : ∀ x ∈ crc.seal_ l, x < 256 := by
  intro x hx
  rcases List.mem_append.1 hx with h | h
  · exact h8 x h
  · simp [crc.tail4] at h; omega

set_option maxRecDepth 100000 in
set_option maxHeartbeats 400000 in
theorem refopen_none_any (w : World) (A : Option Addr) (n c : Nat) (l : List Nat) (hl : l.length = n) (hn : n ≤ 1000) (hnc : n ≤ c) (hc : c ≤ maxLen) (h8 : ∀ x ∈ l, x < 256) (hr : Row w w.heap.size A (u8s l)) (ho : opens l = none) :
    Calls Try.prog 43 #[.slice A n c] w (Gives2 w.heap.size 5 1 0 [] (.int .i64 2) w) := by
  unfold maxLen at hc
  have H8 := hide h8
  have HL := hide hl
  have HO := hide ho
  clear h8 hl ho
  by_cases h4 : 4 ≤ n
  · have hd : crc.seal_ (l.take (n - 4)) ≠ l := by
      have h := HO.out
      rw [opens_test l n HL.out h4] at h
      intro h1
      rw [if_pos h1] at h
      cases h
    have hr2 := hr.take (n - 4)
    rw [u8s_take] at hr2
    have hdec : decide ((n : Int) < 4) = false := by simp; omega
    obtain ⟨m, hm⟩ : ∃ m, m = n - 4 := ⟨_, rfl⟩
    have hsub : IntKind.i64.wrap ((n : Int) - 4) = (m : Int) := by rw [IntWalk.i64_in _ (by omega)]; omega
    have hm0 : (0 : Int) ≤ (m : Int) := by omega
    have hmc : (m : Int) ≤ (c : Int) := by omega
    have hm1 : m + 4 ≤ n := by omega
    have hm2 : n ≤ m + 4 := by omega
    have HM := hide hm
    rw [← hm] at hd hr2
    clear hm
    go_enter Try.func43, Try.ntmps43
    go_wp2_with fail
    refine region_pi [(0, true), (1, true), (2, true), (3, true), (4, true), (5, true), (6, true), (7, true), (8, true), (11, true), (12, true), (9, false), (10, true), (13, true), (14, true)] (by kernel_rfl) (by kernel_rfl) ?_
    have q0 : ∀ W, Le w.drew W → (convert 41 9 (.slice A n c)).run Try.prog W = .ok (.string (str l)) W := fun W hW => conv8 W w.heap.size A n c l HL.out H8.out (hW.row hr.drew (Nat.le_refl _))
    simp only [opsPi, List.filterMap_cons, List.filterMap_nil, List.getElem?_toArray, List.getElem?_cons_zero, List.getElem?_cons_succ, Option.map_some]
    repeat (refine pi_take (v := _) rfl (fun W hW => by go_simp <;> exact rfl) ?_; simp only [Act.put, List.setIfInBounds_toArray, List.set_cons_zero, List.set_cons_succ])
    refine pi_run ?_
    go_wp2_with (go_at_call 31; refine (refseal_any _ A m c (l.take m) (by have := HM.out; rw [List.length_take, HL.out]; omega) (by omega) (take8 H8.out _) (hr2.drew)).mono ?_; rintro e w1 ⟨v1, rfl, hown1, hb0⟩)
    have hb1 : Below w.heap.size w w1 := below_undrew hb0
    refine ⟨hb0, ?_⟩
    obtain ⟨A1, c1, rfl, hc1, -⟩ := own_form hown1
    have q1 : ∀ W, Le w1 W → (convert 41 9 (.slice A1 (m + 4) c1)).run Try.prog W = .ok (.string (str (crc.seal_ (l.take m)))) W := fun W hW => conv8 W w1.heap.size A1 (m + 4) c1 _ (by have := HM.out; rw [crc.seal_length, List.length_take, HL.out]; omega) (seal8 (take8 H8.out _)) (hW.row (Row.of_own hown1) (Nat.le_refl _))
    have hS : ((str (crc.seal_ (l.take m))).toList == (str l).toList) = false := by
      rw [str_beq (seal8 (take8 H8.out _)) H8.out]; exact decide_eq_false hd
    clear q0
    repeat (refine pi_take (v := _) rfl (fun W hW => by go_simp <;> exact rfl) ?_; simp only [Act.put, List.setIfInBounds_toArray, List.set_cons_zero, List.set_cons_succ])
    refine pi_done ?_
    go_wp2_with fail
    go_ret2
    exact ⟨_, rfl, World.ownsRow_nil _ _ _ _, hb1⟩
  · have hdec : decide ((n : Int) < 4) = true := by simp; omega
    go_enter Try.func43, Try.ntmps43
    go_wp2_with fail
    go_quiet (fail)
    go_wp2_with fail
    go_ret2
    exact ⟨_, rfl, World.ownsRow_nil _ _ _ _, below_drewN (Below.refl _ _) _⟩

set_option maxRecDepth 100000 in
set_option maxHeartbeats 400000 in
theorem refopen_some_any (w : World) (A : Option Addr) (n c : Nat) (l : List Nat) (hl : l.length = n) (hn : n ≤ 1000) (hnc : n ≤ c) (hc : c ≤ maxLen) (h8 : ∀ x ∈ l, x < 256) (hr : Row w w.heap.size A (u8s l)) (l2 : List Nat) (ho : opens l = some l2) :
    Calls Try.prog 43 #[.slice A n c] w (Gives2 w.heap.size 5 1 l2.length (u8s l2) (.int .i64 0) w) := by
  have h4 : 4 ≤ n := by
    unfold opens at ho
    split at ho
    · omega
    · cases ho
  rw [opens_test l n hl h4] at ho
  have hd : crc.seal_ (l.take (n - 4)) = l := by
    split at ho
    · assumption
    · cases ho
  obtain rfl : l2 = l.take (n - 4) := by
    rw [if_pos hd] at ho
    exact (Option.some.inj ho).symm
  clear ho
  unfold maxLen at hc
  have H8 := hide h8
  have HL := hide hl
  clear h8 hl
  have hr2 := hr.take (n - 4)
  rw [u8s_take] at hr2
  have hdec : decide ((n : Int) < 4) = false := by simp; omega
  obtain ⟨m, hm⟩ : ∃ m, m = n - 4 := ⟨_, rfl⟩
  have hsub : IntKind.i64.wrap ((n : Int) - 4) = (m : Int) := by rw [IntWalk.i64_in _ (by omega)]; omega
  have hm0 : (0 : Int) ≤ (m : Int) := by omega
  have hmc : (m : Int) ≤ (c : Int) := by omega
  have hm1 : m + 4 ≤ n := by omega
  have hm2 : n ≤ m + 4 := by omega
  have HM := hide hm
  rw [← hm] at hd hr2 ⊢
  clear hm
  have hlt : (l.take m).length = m := by rw [List.length_take, HL.out]; omega
  have hl1 : (u8s (l.take m)).length = m * 1 := by simp only [u8s_len, hlt, Nat.mul_one]
  have HL1 := hide hl1
  rw [hlt]
  clear hlt hl1
  have HD := hide hd
  go_enter Try.func43, Try.ntmps43
  go_wp2_with fail
  refine region_pi [(0, true), (1, true), (2, true), (3, true), (4, true), (5, true), (6, true), (7, true), (8, true), (11, true), (12, true), (9, false), (10, true), (13, true), (14, true)] (by kernel_rfl) (by kernel_rfl) ?_
  have q0 : ∀ W, Le w.drew W → (convert 41 9 (.slice A n c)).run Try.prog W = .ok (.string (str l)) W := fun W hW => conv8 W w.heap.size A n c l HL.out H8.out (hW.row hr.drew (Nat.le_refl _))
  simp only [opsPi, List.filterMap_cons, List.filterMap_nil, List.getElem?_toArray, List.getElem?_cons_zero, List.getElem?_cons_succ, Option.map_some]
  repeat (refine pi_take (v := _) rfl (fun W hW => by go_simp <;> exact rfl) ?_; simp only [Act.put, List.setIfInBounds_toArray, List.set_cons_zero, List.set_cons_succ])
  refine pi_run ?_
  go_wp2_with (go_at_call 31; refine (refseal_any _ A m c (l.take m) (by have := HM.out; rw [List.length_take, HL.out]; omega) (by omega) (take8 H8.out _) (hr2.drew)).mono ?_; rintro e w1 ⟨v1, rfl, hown1, hb0⟩)
  have hb1 : Below w.heap.size w w1 := below_undrew hb0
  refine ⟨hb0, ?_⟩
  obtain ⟨A1, c1, rfl, hc1, -⟩ := own_form hown1
  have q1 : ∀ W, Le w1 W → (convert 41 9 (.slice A1 (m + 4) c1)).run Try.prog W = .ok (.string (str (crc.seal_ (l.take m)))) W := fun W hW => conv8 W w1.heap.size A1 (m + 4) c1 _ (by have := HM.out; rw [crc.seal_length, List.length_take, HL.out]; omega) (seal8 (take8 H8.out _)) (hW.row (Row.of_own hown1) (Nat.le_refl _))
  have hS : ((str (crc.seal_ (l.take m))).toList == (str l).toList) = true := by
    rw [str_beq (seal8 (take8 H8.out _)) H8.out]; exact decide_eq_true hd
  clear q0 hd
  repeat (refine pi_take (v := _) rfl (fun W hW => by go_simp <;> exact rfl) ?_; simp only [Act.put, List.setIfInBounds_toArray, List.set_cons_zero, List.set_cons_succ])
  refine pi_done ?_
  have hsub2 : (n : Int) - 4 = (m : Int) := by omega
  go_wp2_with (at_builtin; refine wpList_append_row _ rfl (.tmp 19) (.tmp 24) 41 rfl w1.heap.size 5 info_u8 Try.underlying41 rfl (by omega) _ 0 [] rfl (World.ownsRow_lit _ #[] 0 (Nat.le_refl _) (by simp) rfl) w.heap.size A m c (u8s (l.take m)) rfl HL1.out ((hr2.below hb1 (Nat.le_refl _)).alloc hb1.size _) u8s_one (by simp only [maxLen]; omega) (by omega) (by simp) ?_; intro v3 w3 hown3 hg3 hat3)
  go_ret2
  exact ⟨_, rfl, own_more (by simpa using hown3) hb1.size, (hb1.alloc hb1.size _).grown hg3 (by have := hb1.size; simp; omega) (fun g hg => blk_ge hg hb1.size)⟩
end Go.Proofs.Ytocpeiocgppkfaa
