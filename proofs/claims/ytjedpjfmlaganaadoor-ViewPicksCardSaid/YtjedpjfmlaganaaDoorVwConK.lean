/-
  slices.Grow of the nil slice and slices.Concat, walked: all rows, one behind the other, in new memory.
-/
import Derived.Test.YtjedpjfmlaganaaDoorChecked
import Derived.Test.YtjedpjfmlaganaaDoorMem
import Derived.Lib.AppendZerosOnto
namespace Go.Proofs.YtjedpjfmlaganaaDoor
open Go.RowKit
set_option linter.unusedVariables false

theorem infoK : (Tryd.prog.info? 37).map (fun i => (i.zero, i.size, i.bytes)) = some (some (.agg #[.int .i64 0, .int .i64 0, .int .i64 0, .slice none 0 0]), 4, 48) := by kernel_rfl

set_option maxRecDepth 100000 in
set_option maxHeartbeats 2000000 in
theorem growK_any (w : World) (n : Nat) (hn : n * 48 ≤ 140737488355328) (hn2 : n ≤ 4611686018427387904) :
    Calls Tryd.prog 52 #[.slice none 0 0, .int .i64 n] w (Gives w.heap.size 37 4 0 [] w) := by
  rcases Nat.eq_zero_or_pos n with rfl | hpos
  · go_enter Tryd.func52, Tryd.ntmps52
    go_wp2
    go_ret
    exact ⟨_, rfl, World.ownsRow_nil _ _ _ _, Below.refl _ _⟩
  · obtain ⟨i0, hi0, hz0, hs0, hb0⟩ := info_parts infoK
    have hrz : ∀ ty, (Builtin.append_ #[23, 3] ty #[.slice none 0 0, .int .i64 (n : Int)]).run Tryd.prog w = .ok (.slice (some ⟨w.heap.size, 0, none⟩) n (grownCap w n 0 37))
        (w.drew.alloc (.cells (#[] ++ Builtin.zeroCells (Value.cells (.agg #[.int .i64 0, .int .i64 0, .int .i64 0, .slice none 0 0])) n ++ Builtin.zeroCells (Value.cells (.agg #[.int .i64 0, .int .i64 0, .int .i64 0, .slice none 0 0])) (grownCap w n 0 37 - n)) 37)) := fun ty => by
      have h := Lib.run_append_grow_zeros (P := Tryd.prog) w 23 3 ty 37 i0 (.agg #[.int .i64 0, .int .i64 0, .int .i64 0, .slice none 0 0]) .i64 .i64 Tryd.underlying23 Tryd.underlying3 hi0 hz0 none 0 0 [] (by simp [Builtin.firstCells]) n hpos (by rw [hs0]; omega) (by omega) (by omega) (by rw [hb0]; omega) (growslice_fits (by omega) (by rw [hb0]; omega))
      simpa using h
    have hG : n ≤ grownCap w n 0 37 := grownCap_ge w _ _ _
    have hGm : grownCap w n 0 37 ≤ maxLen := grownCap_le_maxLen w n 0 _ (by unfold maxLen; omega)
    generalize grownCap w n 0 37 = G at hrz hG hGm
    have hGm' := hGm
    unfold maxLen at hGm'
    have hcs : (#[] ++ Builtin.zeroCells (Value.cells (.agg #[.int .i64 0, .int .i64 0, .int .i64 0, .slice none 0 0])) n ++ Builtin.zeroCells (Value.cells (.agg #[.int .i64 0, .int .i64 0, .int .i64 0, .slice none 0 0])) (G - n)).size = G * 4 := by
      simp only [Array.size_append, size_zeroCells, Array.size_empty]
      rw [show (Value.cells (.agg #[.int .i64 0, .int .i64 0, .int .i64 0, .slice none 0 0])).size = 4 from rfl]
      omega
    generalize #[] ++ Builtin.zeroCells (Value.cells (.agg #[.int .i64 0, .int .i64 0, .int .i64 0, .slice none 0 0])) n ++ Builtin.zeroCells (Value.cells (.agg #[.int .i64 0, .int .i64 0, .int .i64 0, .slice none 0 0])) (G - n) = cs at hrz hcs
    have HCS := hide hcs
    clear hcs hi0 hz0 hs0 hb0
    go_enter Tryd.func52, Tryd.ntmps52
    have HR := hide hrz
    clear hrz
    go_wp2_with (at_builtin; refine wpList_append_run _ rfl (.tmp 20) (.tmp 21) 23 3 rfl _ _ rfl rfl _ _ (HR.out _) ?_)
    go_ret
    refine ⟨_, rfl, ⟨rfl, .inr ⟨w.heap.size, G, cs, rfl, Nat.le_refl _, heap_alloc_new _ _, by omega, hGm, HCS.out, by simp⟩⟩, ((Below.refl _ _).drew).alloc (Nat.le_refl _) _⟩

/-- A row among several: its address, length, capacity, its cells. -/
structure PieceK where
  A : Option Addr
  n : Nat
  c : Nat
  xs : List Value
def PieceK.val (p : PieceK) : Value := .slice p.A p.n p.c
def lensK (L : List PieceK) : Nat := (L.map (·.n)).sum
def allK (L : List PieceK) : List Value := L.flatMap (·.xs)
theorem lensK_take (L : List PieceK) (k : Nat) : lensK (L.take k) ≤ lensK L := by
  unfold lensK
  conv => rhs; rw [← List.take_append_drop k L]
  rw [List.map_append, List.sum_append]
  omega
theorem lensK_snoc (L : List PieceK) (k : Nat) (p : PieceK) (h : L[k]? = some p) : lensK (L.take (k + 1)) = lensK (L.take k) + p.n := by
  unfold lensK
  rw [List.take_add_one, h]
  simp
theorem allK_snoc (L : List PieceK) (k : Nat) (p : PieceK) (h : L[k]? = some p) : allK (L.take (k + 1)) = allK (L.take k) ++ p.xs := by
  unfold allK
  rw [List.take_add_one, h]
  simp

set_option maxRecDepth 100000 in
set_option maxHeartbeats 2000000 in
theorem concatK_any (w : World) (T : Option Addr) (k0 c0 : Nat) (L : List PieceK) (hk : L.length = k0) (hk2 : k0 ≤ 1000000) (hT : Row w w.heap.size T (L.map PieceK.val))
    (hL : ∀ p ∈ L, p.xs.length = p.n * 4 ∧ (∀ u ∈ p.xs, u.oneCell' = true) ∧ Row w w.heap.size p.A p.xs) (hn : lensK L * 48 ≤ 140737488355328) :
    Calls Tryd.prog 36 #[.slice T k0 c0] w (Gives w.heap.size 37 4 (lensK L) (allK L) w) := by
  have HL := hide hL
  have HN := hide hn
  have hn1 : lensK L ≤ 140737488355328 := by omega
  clear hL hn
  go_enter Tryd.func36, Tryd.ntmps36
  go_wp2_with fail
  go_loop [3, 11] (fun s i => ∃ k : Nat, k ≤ k0 ∧ i = .int .i64 k ∧ s = .int .i64 (lensK (L.take k) : Nat)) (fun _ i => k0 - (intOf i).toNat)
  case atStart => exact ⟨0, Nat.zero_le _, rfl, rfl⟩
  case round =>
    obtain ⟨k, hk1, rfl, rfl⟩ := hrel
    have hle := lensK_take L k
    by_cases hlt : k < k0
    · obtain ⟨p, hp⟩ : ∃ p, L[k]? = some p := ⟨_, List.getElem?_eq_getElem (by omega)⟩
      have hle1 := lensK_take L (k + 1)
      have hsn := lensK_snoc L k p hp
      obtain ⟨bT, oT, rfl, -, hcT⟩ := hT.at_ (j := k) (u := p.val) (by simp [hp])
      unfold PieceK.val at hcT
      have hpn : lensK (L.take k) + p.n ≤ 140737488355328 := by omega
      have HSN := hide hsn
      have HP := hide hp
      clear hp hsn
      go_wp2_with fail
      exact ⟨⟨k + 1, by omega, by go_num, by rw [HSN.out]; go_num⟩, by simp [intOf]; omega⟩
    · obtain rfl : k = k0 := by omega
      have ht : L.take k = L := List.take_of_length_le (by omega)
      rw [ht]
      clear ht hle
      go_wp2_with (go_at_call 52; refine (growK_any _ (lensK L) HN.out (by omega)).mono ?_; rintro e w1 ⟨v1, rfl, hown1, hb1⟩)
      go_loopw [6, 27] (fun v i wr => ∃ j : Nat, j ≤ k ∧ i = .int .i64 j ∧ wr.ownsRow w.heap.size 37 4 v (lensK (L.take j)) (allK (L.take j)) ∧ Below w.heap.size w wr) (fun _ i _ => k - (intOf i).toNat)
      case atStart => exact ⟨0, Nat.zero_le _, rfl, hown1, hb1⟩
      case round =>
        obtain ⟨j, hj, rfl, hown, hb2⟩ := hrel
        have hz2 := hb2.size
        by_cases hlj : j < k
        · obtain ⟨p, hp⟩ : ∃ p, L[j]? = some p := ⟨_, List.getElem?_eq_getElem (by omega)⟩
          have hle1 := lensK_take L (j + 1)
          have hsn := lensK_snoc L j p hp
          have has := hide (allK_snoc L j p hp)
          obtain ⟨hpl, hp1, hpr⟩ := HL.out p (List.mem_of_getElem? hp)
          obtain ⟨bT, oT, rfl, hbT, hcT0⟩ := hT.at_ (j := j) (u := p.val) (by simp [hp])
          have hcT := (hb2.cell (p := ⟨bT, oT + j, none⟩) hbT).trans hcT0
          unfold PieceK.val at hcT
          have hbnd : (lensK (L.take j) + p.n) * 48 ≤ 140737488355328 := by have := HN.out; omega
          have HSN := hide hsn
          have HPL := hide hpl
          have HP1 := hide hp1
          clear hp hsn hpl hp1 hcT0
          go_wp2_with (at_builtin; refine wpList_append_row _ rfl (.tmp 31) (.tmp 32) 23 rfl w.heap.size 37 infoK Tryd.underlying23 rfl (by omega) _ (lensK (L.take j)) _ rfl hown w.heap.size p.A p.n p.c p.xs rfl HPL.out (hpr.below hb2 (Nat.le_refl _)) HP1.out (by simp only [maxLen]; omega) hbnd hz2 ?_; intro v' w' hown' hg hat)
          refine ⟨⟨j + 1, by omega, by go_num, by rw [HSN.out, has.out]; exact hown', hb2.grown hg hz2 (fun g hg => own_ge hown hg (Nat.le_refl _))⟩, by simp [intOf]; omega⟩
        · obtain rfl : j = k := by omega
          have ht : L.take j = L := List.take_of_length_le (by omega)
          rw [ht] at hown
          go_wp2_with fail
          go_ret
          exact ⟨_, rfl, hown, hb2⟩
#print axioms concatK_any
end Go.Proofs.YtjedpjfmlaganaaDoor
