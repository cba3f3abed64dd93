/-
  What becomes of write-ids, walked: how many are open, up to where none is, whether two rows are the same.
-/
import Derived.Test.YtocpeiocgppkfaaInts
import Derived.Test.YtocpeiocgppkfaaTxMath
import Derived.Test.YtocpeiocgppkfaaCloneI
import Derived.Test.YtocpeiocgppkfaaBox
namespace Go.Proofs.Ytocpeiocgppkfaa
open Go.RowKit
set_option linter.unusedVariables false

theorem opens_step {l : List Int} {k : Nat} {x : Int} {m : Nat} (h : l[k]? = some x) (hm : tx.opens (l.take k) = m) : (x = 1 → tx.opens (l.take (k + 1)) = m + 1) ∧ (x ≠ 1 → tx.opens (l.take (k + 1)) = m) := by
  rw [tx.opens_take l k x h, hm]
  exact ⟨fun h => by simp [h], fun h => by simp [h]⟩
theorem opens_bound {l : List Int} {k m : Nat} (hm : tx.opens (l.take k) = m) : m ≤ k := by
  have := tx.opens_le (l.take k)
  rw [List.length_take] at this
  omega

set_option maxHeartbeats 1000000 in
theorem open_any (w : World) (A : Option Addr) (n c : Nat) (l : List Int) (hl : l.length = n) (hn : n ≤ 1000000000) (hr : Row w w.heap.size A (ints l)) :
    Calls Try.prog 24 #[.slice A n c] w fun e w' => e = .returned (.int .i64 (tx.opens l : Nat)) ∧ w = w' := by
  have HL := hide hl
  clear hl
  go_enter Try.func24, Try.ntmps24
  go_wp2_with fail
  go_loop [3, 8] (fun s i => ∃ k m : Nat, k ≤ n ∧ i = .int .i64 k ∧ s = .int .i64 m ∧ Hid (tx.opens (l.take k) = m) ∧ m ≤ k) (fun _ i => n - (intOf i).toNat)
  case atStart => exact ⟨0, 0, Nat.zero_le _, rfl, rfl, hide rfl, Nat.le_refl _⟩
  case round =>
    obtain ⟨k, m, hk, rfl, rfl, HP, hm⟩ := hrel
    by_cases hkn : k < n
    · obtain ⟨x, hx⟩ : ∃ x, l[k]? = some x := ⟨_, List.getElem?_eq_getElem (by rw [HL.out]; exact hkn)⟩
      obtain ⟨bA, oA, rfl, -, hcA⟩ := hr.at_ (ints_at hx)
      have HS := hide (opens_step hx HP.out)
      clear hx
      by_cases h1 : x = 1
      · subst h1
        have HN := hide (HS.out.1 rfl)
        go_wp2_with fail
        exact ⟨⟨k + 1, m + 1, by omega, by go_num, by go_num, HN, by omega⟩, by simp [intOf]; omega⟩
      · have HN := hide (HS.out.2 h1)
        go_wp2_with fail
        exact ⟨⟨k + 1, m, by omega, by go_num, rfl, HN, by omega⟩, by simp [intOf]; omega⟩
    · obtain rfl : k = n := by omega
      have HE := hide (show tx.opens l = m by have := HP.out; rwa [List.take_of_length_le (by rw [HL.out]; exact Nat.le_refl _)] at this)
      go_wp2_with fail
      go_ret
      exact ⟨ret_int (by rw [HE.out]), rfl⟩

theorem limit_idx (l : List Int) : (1 ∈ l → idxI l 1 = ((tx.limit l : Nat) : Int)) ∧ (1 ∉ l → tx.limit l = l.length) :=
  ⟨fun h => by simp [idxI, h, tx.limit], fun h => tx.limit_none h⟩
theorem limit_any (w : World) (A : Option Addr) (n c : Nat) (l : List Int) (hl : l.length = n) (hn : n ≤ 1000000000) (hr : Row w w.heap.size A (ints l)) :
    Calls Try.prog 15 #[.slice A n c] w fun e w' => e = .returned (.int .i64 (tx.limit l : Nat)) ∧ w = w' := by
  have HL := hide hl
  have HI := hide (limit_idx l)
  clear hl
  go_enter Try.func15, Try.ntmps15
  go_wp2_with fail
  refine (index_any _ A n c l 1 HL.out hn hr).mono ?_
  rintro e w' ⟨rfl, rfl⟩
  by_cases h1 : (1 : Int) ∈ l
  · rw [HI.out.1 h1]
    obtain ⟨m, hm⟩ : ∃ m, tx.limit l = m := ⟨_, rfl⟩
    rw [hm]
    have HM := hide hm
    clear hm
    go_wp2_with fail
    go_ret
    exact ⟨ret_int (by rw [HM.out]), rfl⟩
  · rw [idxI_none h1]
    have HM := hide (HI.out.2 h1)
    go_wp2_with fail
    go_ret
    exact ⟨ret_int (by rw [HM.out, HL.out]), rfl⟩

set_option maxHeartbeats 1000000 in
theorem reflimit_any (w : World) (A : Option Addr) (n c : Nat) (l : List Int) (hl : l.length = n) (hn : n ≤ 1000000000) (hr : Row w w.heap.size A (ints l)) :
    Calls Try.prog 16 #[.slice A n c] w fun e w' => e = .returned (.int .i64 (tx.limit l : Nat)) ∧ w = w' := by
  have HL := hide hl
  clear hl
  go_enter Try.func16, Try.ntmps16
  go_wp2_with fail
  go_loop [3] (fun i => ∃ k : Nat, k ≤ n ∧ i = .int .i64 k ∧ Hid ((1 : Int) ∉ l.take k)) (fun i => n - (intOf i).toNat)
  case atStart => exact ⟨0, Nat.zero_le _, rfl, hide (by simp)⟩
  case round =>
    obtain ⟨k, hk, rfl, HP⟩ := hrel
    by_cases hkn : k < n
    · obtain ⟨x, hx⟩ : ∃ x, l[k]? = some x := ⟨_, List.getElem?_eq_getElem (by rw [HL.out]; exact hkn)⟩
      obtain ⟨bA, oA, rfl, -, hcA⟩ := hr.at_ (ints_at hx)
      by_cases h1 : x = 1
      · subst h1
        have HE := hide (tx.limit_at HP.out hx)
        clear hx
        go_wp2_with fail
        go_ret
        exact ⟨ret_int (by rw [HE.out]), rfl⟩
      · have HN := hide (not_mem_step HP.out hx (fun h => h1 h.symm))
        clear hx
        go_wp2_with fail
        exact ⟨⟨k + 1, by omega, by go_num, HN⟩, by simp [intOf]; omega⟩
    · obtain rfl : k = n := by omega
      have HE := hide (tx.limit_none (l := l) (by have := HP.out; rwa [List.take_of_length_le (by rw [HL.out]; exact Nat.le_refl _)] at this))
      go_wp2_with fail
      go_ret
      exact ⟨ret_int (by rw [HE.out, HL.out]), rfl⟩

set_option maxHeartbeats 1000000 in
theorem same_any (w : World) (A1 A2 : Option Addr) (n c1 c2 : Nat) (l : List Int) (hl : l.length = n) (hn : n ≤ 1000000000) (hr1 : Row w w.heap.size A1 (ints l)) (hr2 : Row w w.heap.size A2 (ints l)) :
    Calls Try.prog 14 #[.slice A1 n c1, .slice A2 n c2] w fun e w' => e = .returned (.bool true) ∧ Below w.heap.size w w' := by
  have HL := hide hl
  clear hl
  go_enter Try.func14, Try.ntmps14
  go_wp2_with fail
  go_loopw [5] (fun i wr => ∃ k q : Nat, k ≤ n ∧ i = .int .i64 k ∧ wr = w.drewN q) (fun i _ => n - (intOf i).toNat)
  case atStart => exact ⟨0, 0, Nat.zero_le _, rfl, rfl⟩
  case round =>
    obtain ⟨k, q, hk, rfl, rfl⟩ := hrel
    by_cases hkn : k < n
    · obtain ⟨x, hx⟩ : ∃ x, l[k]? = some x := ⟨_, List.getElem?_eq_getElem (by rw [HL.out]; exact hkn)⟩
      obtain ⟨b1, o1, rfl, hb1, hx1⟩ := hr1.at_ (ints_at hx)
      obtain ⟨b2, o2, rfl, hb2, hx2⟩ := hr2.at_ (ints_at hx)
      obtain ⟨V, hV⟩ : ∃ V, (w.drewN q).drew = V := ⟨_, rfl⟩
      have HV := hide hV
      clear hV hx
      have g2 := later_cell HV.out hb1 hx1
      have g3 := later_cell HV.out hb2 hx2
      clear hx1 hx2
      go_wp2_with fail
      refine region_pi [(0, true), (1, true), (2, true), (3, true), (4, true), (5, true), (6, true), (7, true), (8, true)] (by kernel_rfl) (by kernel_rfl) ?_
      simp only [opsPi, List.filterMap_cons, List.filterMap_nil, List.getElem?_toArray, List.getElem?_cons_zero, List.getElem?_cons_succ, Option.map_some]
      rw [HV.out]
      repeat (first | (refine pi_take (v := _) rfl (fun W hW => by go_simp <;> exact rfl) ?_; simp only [Act.put, List.setIfInBounds_toArray, List.set_cons_zero, List.set_cons_succ]) | (refine pi_skip rfl ?_; simp only [Act.put, List.setIfInBounds_toArray, List.set_cons_zero, List.set_cons_succ]))
      refine pi_done ?_
      rw [← HV.out, World.drew_drewN]
      go_wp2_with fail
      exact ⟨⟨k + 1, _, by omega, by go_num, rfl⟩, by simp [intOf]; omega⟩
    · obtain rfl : k = n := by omega
      go_wp2_with fail
      go_ret
      exact ⟨rfl, below_drewN (Below.refl _ _) _⟩
#print axioms same_any
end Go.Proofs.Ytocpeiocgppkfaa
