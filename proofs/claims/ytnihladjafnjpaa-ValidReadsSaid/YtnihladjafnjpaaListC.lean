/-
  Lists of ids, walked: whether a list may be.
-/
import Derived.Test.YtnihladjafnjpaaListB
namespace Go.Proofs.Ytnihladjafnjpaa
open Go.RowKit
set_option linter.unusedVariables false

def prev (l : List Int) (k : Nat) : Int := if k = 0 then 0 else (l[k - 1]?).getD 0
def good (H : Int) (l : List Int) (k : Nat) : Prop := ∀ (j : Nat) (x : Int), j < k → l[j]? = some x → prev l j < x ∧ x ≤ H
open Classical in
noncomputable def may (H : Int) (l : List Int) : Bool := decide (0 ≤ H ∧ H ≤ 1073741824 ∧ good H l l.length)
theorem prev_zero (l : List Int) : prev l 0 = 0 := rfl
theorem prev_succ {l : List Int} {k : Nat} {x : Int} (h : l[k]? = some x) : prev l (k + 1) = x := by simp [prev, h]
theorem good_zero (H : Int) (l : List Int) : good H l 0 := fun j x hj => by omega
theorem good_succ {H : Int} {l : List Int} {k : Nat} {x : Int} (hg : good H l k) (hx : l[k]? = some x) (h1 : prev l k < x) (h2 : x ≤ H) : good H l (k + 1) := fun j y hj hy => by
  by_cases hjk : j < k
  · exact hg j y hjk hy
  · obtain rfl : j = k := by omega
    rw [hx] at hy
    injection hy with hy
    subst hy
    exact ⟨h1, h2⟩
theorem good_prev {H : Int} {l : List Int} : ∀ k, k ≤ l.length → good H l k → 0 ≤ prev l k
  | 0, _, _ => Int.le_refl _
  | k + 1, hk, hg => by
    have hx : l[k]? = some (l[k]'(by omega)) := List.getElem?_eq_getElem _
    have h1 := good_prev k (by omega) (fun j x hj => hg j x (by omega))
    have h2 := (hg k _ (by omega) hx).1
    rw [prev_succ hx]
    omega
open Classical in
theorem may_false {H : Int} {l : List Int} {k : Nat} {x : Int} (hx : l[k]? = some x) (h : ¬ (prev l k < x ∧ x ≤ H)) : may H l = false := by
  unfold may
  exact decide_eq_false fun ⟨_, _, hg⟩ => h (hg k x (List.getElem?_eq_some_iff.1 hx).1 hx)
open Classical in
theorem may_out {H : Int} {l : List Int} (h : ¬ (0 ≤ H ∧ H ≤ 1073741824)) : may H l = false := by
  unfold may
  exact decide_eq_false fun ⟨h1, h2, _⟩ => h ⟨h1, h2⟩
open Classical in
theorem may_true {H : Int} {l : List Int} {n : Nat} (hn : l.length = n) (h0 : 0 ≤ H) (h1 : H ≤ 1073741824) (h : good H l n) : may H l = true := by
  unfold may
  subst hn
  exact decide_eq_true ⟨h0, h1, h⟩

/-- A list in a box of its own. -/
theorem box_world (w : World) (H : Int) (A : Option Addr) (n c : Nat) (l : List Int) (hr : Row w w.heap.size A (ints l)) : ∃ W, w.alloc (.cells #[.int .i64 H, .slice A n c] 24) = W ∧
    W.cell? ⟨w.heap.size, 0, none⟩ = some (.int .i64 H) ∧ W.cell? ⟨w.heap.size, 1, none⟩ = some (.slice A n c) ∧ Row W w.heap.size A (ints l) ∧ Below w.heap.size w W ∧ w.heap.size < W.heap.size :=
  ⟨_, rfl, (cell_of_row _ _ _ _ _ _ (heap_alloc_new _ _)).trans rfl, (cell_of_row _ _ _ _ _ _ (heap_alloc_new _ _)).trans rfl, hr.alloc (Nat.le_refl _) _, (Below.refl _ _).alloc (Nat.le_refl _) _, by simp⟩

set_option maxRecDepth 100000 in
set_option maxHeartbeats 2000000 in
theorem may_any (w : World) (H : Int) (A : Option Addr) (n c : Nat) (l : List Int) (hl : l.length = n) (hn : n ≤ 1000000000) (hr : Row w w.heap.size A (ints l)) :
    Calls Try.prog 12 #[.agg #[.int .i64 H, .slice A n c]] w fun e w' => e = .returned (.bool (may H l)) ∧ Below w.heap.size w w' := by
  have HL := hide hl
  clear hl
  obtain ⟨W, hW, hc0, hc1, hr2, hb, hz⟩ := box_world w H A n c l hr
  have HB := hide hb
  have HW := hide hW
  by_cases h0 : H < 0
  · have HM := hide (may_out (H := H) (l := l) (by omega))
    clear hb hW
    go_enter Try.func12, Try.ntmps12
    go_wp2_with fail
    go_ret
    exact ⟨ret_bool HM.out.symm, HW.out ▸ HB.out⟩
  · by_cases h1 : 1073741824 < H
    · have HM := hide (may_out (H := H) (l := l) (by omega))
      clear hb hW
      go_enter Try.func12, Try.ntmps12
      go_wp2_with fail
      go_ret
      exact ⟨ret_bool HM.out.symm, HW.out ▸ HB.out⟩
    · have HM := hide (fun h => may_true (H := H) (l := l) HL.out (by omega) (by omega) h)
      clear hb hW
      go_enter Try.func12, Try.ntmps12
      go_wp2_with fail
      rw [HW.out]
      go_loop [3, 17] (fun p i => ∃ k : Nat, k ≤ n ∧ i = .int .i64 k ∧ p = .int .i64 (prev l k) ∧ Hid (good H l k)) (fun _ i => n - (intOf i).toNat)
      case atStart => exact ⟨0, Nat.zero_le _, rfl, rfl, hide (good_zero _ _)⟩
      case round =>
        obtain ⟨k, hk, rfl, rfl, HG⟩ := hrel
        by_cases hkn : k < n
        · obtain ⟨x, hx⟩ : ∃ x, l[k]? = some x := ⟨_, List.getElem?_eq_getElem (by rw [HL.out]; exact hkn)⟩
          obtain ⟨bA, oA, rfl, hbA, hcA⟩ := hr2.at_ (ints_at hx)
          have HX := hide hx
          have HP := hide (prev_succ hx)
          obtain ⟨p, hp⟩ : ∃ p, p = prev l k := ⟨_, rfl⟩
          have HPP := hide hp
          clear hx
          rw [← hp]
          clear hp
          by_cases h2 : x ≤ p
          · have HF := hide (may_false (H := H) HX.out (by rw [← HPP.out]; omega))
            go_wp2_with fail
            go_ret
            exact ⟨ret_bool HF.out.symm, HB.out⟩
          · by_cases h3 : H < x
            · have HF := hide (may_false (H := H) HX.out (by omega))
              go_wp2_with fail
              go_ret
              exact ⟨ret_bool HF.out.symm, HB.out⟩
            · have HN := hide (good_succ HG.out HX.out (by rw [← HPP.out]; omega) (by omega))
              go_wp2_with fail
              exact ⟨⟨k + 1, by omega, by go_num, by rw [HP.out], HN⟩, by simp [intOf]; omega⟩
        · obtain rfl : k = n := by omega
          have HT := hide (HM.out HG.out)
          go_wp2_with fail
          go_ret
          exact ⟨ret_bool HT.out.symm, HB.out⟩
#print axioms may_any
end Go.Proofs.Ytnihladjafnjpaa
