/-
  What a list has, walked (written by mk_vw.py).
-/
import Derived.Test.YtjedpjfmlaganaaDoorChecked
import Derived.Test.YtjedpjfmlaganaaDoorMem
import Derived.Test.YtjedpjfmlaganaaDoorRegion
import Derived.Test.YtjedpjfmlaganaaDoorBox
import Derived.Deep.MidRow
namespace Go.Proofs.YtjedpjfmlaganaaDoor.vw
open Go.RowKit
set_option linter.unusedVariables false

def ints (l : List Int) : List Value := l.map fun x => .int .i64 x
theorem ints_len (l : List Int) : (ints l).length = l.length := by simp [ints]
theorem ints_at {l : List Int} {k : Nat} {x : Int} (h : l[k]? = some x) : (ints l)[k]? = some (.int .i64 x) := by simp [ints, h]
theorem ints_take (l : List Int) (k : Nat) : (ints l).take k = ints (l.take k) := by simp [ints]
theorem ints_one {l : List Int} : ∀ u ∈ ints l, u.oneCell' = true := by
  intro u hu
  obtain ⟨x, -, rfl⟩ := List.mem_map.1 hu
  rfl
theorem ints_append (l m : List Int) : ints l ++ ints m = ints (l ++ m) := by simp [ints]

/-- The place of an x, or none. -/
def idxI (l : List Int) (x : Int) : Int := if x ∈ l then (l.idxOf x : Nat) else -1
theorem idxI_at {l : List Int} {k : Nat} {x : Int} (h : x ∉ l.take k) (hk : l[k]? = some x) : idxI l x = (k : Int) := by
  obtain ⟨hl, hx⟩ := List.getElem?_eq_some_iff.1 hk
  have hm : x ∈ l := List.mem_of_getElem? hk
  unfold idxI
  rw [if_pos hm]
  have e : l = l.take k ++ (x :: l.drop (k + 1)) := by rw [← hx, ← List.drop_eq_getElem_cons hl, List.take_append_drop]
  have : l.idxOf x = k := by
    rw [e, List.idxOf_append]
    rw [if_neg h, List.idxOf_cons_self, List.length_take]
    omega
  rw [this]
theorem idxI_none {l : List Int} {x : Int} (h : x ∉ l) : idxI l x = -1 := by simp [idxI, h]
theorem not_mem_step {l : List Int} {k : Nat} {x y : Int} (h : x ∉ l.take k) (hy : l[k]? = some y) (hn : x ≠ y) : x ∉ l.take (k + 1) := by
  rw [List.take_add_one, hy]
  simpa using ⟨h, hn⟩

set_option maxHeartbeats 1000000 in
theorem index_any (w : World) (A : Option Addr) (n c : Nat) (l : List Int) (x : Int) (hl : l.length = n) (hn : n ≤ 1000000000) (hr : Row w w.heap.size A (ints l)) :
    Calls Tryd.prog 51 #[.slice A n c, .int .i64 x] w fun e w' => e = .returned (.int .i64 (idxI l x)) ∧ w = w' := by
  have HL := hide hl
  clear hl
  go_enter Tryd.func51, Tryd.ntmps51
  go_wp2_with fail
  go_loop [8] (fun i => ∃ k : Nat, k ≤ n ∧ i = .int .i64 k ∧ Hid (x ∉ l.take k)) (fun i => n - (intOf i).toNat)
  case atStart => exact ⟨0, Nat.zero_le _, rfl, hide (by simp)⟩
  case round =>
    obtain ⟨k, hk, rfl, HP⟩ := hrel
    by_cases hkn : k < n
    · obtain ⟨y, hy⟩ : ∃ y, l[k]? = some y := ⟨_, List.getElem?_eq_getElem (by rw [HL.out]; exact hkn)⟩
      obtain ⟨bA, oA, rfl, -, hcA⟩ := hr.at_ (ints_at hy)
      by_cases hxy : x = y
      · subst hxy
        have HI := hide (idxI_at HP.out hy)
        clear hy
        go_wp2_with fail
        go_ret
        exact ⟨ret_int HI.out.symm, rfl⟩
      · have HN := hide (not_mem_step HP.out hy hxy)
        clear hy
        go_wp2_with fail
        exact ⟨⟨k + 1, by omega, by go_num, HN⟩, by simp [intOf]; omega⟩
    · obtain rfl : k = n := by omega
      have HI := hide (idxI_none (l := l) (x := x) (by have := HP.out; rwa [List.take_of_length_le (by rw [HL.out]; exact Nat.le_refl _)] at this))
      go_wp2_with fail
      go_ret
      exact ⟨ret_int HI.out.symm, rfl⟩
theorem idxI_ge (l : List Int) (x : Int) : (0 ≤ idxI l x) = (x ∈ l) := by
  unfold idxI
  split
  · simp_all
  · simp_all
theorem contains_any (w : World) (A : Option Addr) (n c : Nat) (l : List Int) (x : Int) (hl : l.length = n) (hn : n ≤ 1000000000) (hr : Row w w.heap.size A (ints l)) :
    Calls Tryd.prog 35 #[.slice A n c, .int .i64 x] w fun e w' => e = .returned (.bool (decide (x ∈ l))) ∧ w = w' := by
  have HE := hide (idxI_ge l x)
  have HL := hide hl
  clear hl
  go_enter Tryd.func35, Tryd.ntmps35
  go_wp2_with fail
  refine (index_any _ A n c l x HL.out hn hr).mono ?_
  rintro e w' ⟨rfl, rfl⟩
  have hE := HE.out
  by_cases hx : x ∈ l
  · rw [eq_true hx] at hE
    have h0 : (0 : Int) ≤ idxI l x := of_eq_true hE
    have HD := hide (show decide (x ∈ l) = true from decide_eq_true hx)
    clear hE hx
    go_wp2_with fail
    go_ret
    exact ⟨ret_bool HD.out.symm, rfl⟩
  · rw [eq_false hx] at hE
    have h0 : idxI l x < 0 := by have := of_eq_false hE; omega
    have HD := hide (show decide (x ∈ l) = false from decide_eq_false hx)
    clear hE hx
    go_wp2_with fail
    go_ret
    exact ⟨ret_bool (by rw [HD.out]; exact decide_eq_false (by omega)), rfl⟩

/-- What a list has. -/
def has (H : Int) (l : List Int) (x : Int) : Bool := decide (1 ≤ x) && decide (x ≤ H) && !decide (x ∈ l)
set_option maxHeartbeats 1000000 in
theorem has_any (w : World) (H : Int) (A : Option Addr) (n c : Nat) (l : List Int) (x : Int) (hl : l.length = n) (hn : n ≤ 1000000000) (hr : Row w w.heap.size A (ints l)) :
    Calls Tryd.prog 21 #[.agg #[.int .i64 H, .slice A n c], .int .i64 x] w fun e w' => e = .returned (.bool (has H l x)) ∧ Below w.heap.size w w' := by
  have HL := hide hl
  clear hl
  by_cases h1 : x < 1
  · have HD := hide (show has H l x = false by simp [has, show ¬ 1 ≤ x by omega])
    go_enter Tryd.func21, Tryd.ntmps21
    go_wp2_with fail
    go_ret
    exact ⟨ret_bool HD.out.symm, (Below.refl _ _).alloc (Nat.le_refl _) _⟩
  · by_cases h2 : H < x
    · have HD := hide (show has H l x = false by simp [has, show ¬ x ≤ H by omega])
      go_enter Tryd.func21, Tryd.ntmps21
      go_wp2_with fail
      go_ret
      exact ⟨ret_bool HD.out.symm, (Below.refl _ _).alloc (Nat.le_refl _) _⟩
    · have HD := hide (show has H l x = !decide (x ∈ l) by simp [has, show 1 ≤ x by omega, show x ≤ H by omega])
      go_enter Tryd.func21, Tryd.ntmps21
      go_wp2_with fail
      refine (contains_any _ A n c l x HL.out hn ((hr.alloc (Nat.le_refl _) _).more (by simp))).mono ?_
      rintro e w' ⟨rfl, rfl⟩
      generalize decide (x ∈ l) = B at *
      go_wp2_with fail
      go_ret
      exact ⟨ret_bool HD.out.symm, (Below.refl _ _).alloc (Nat.le_refl _) _⟩
end Go.Proofs.YtjedpjfmlaganaaDoor.vw
