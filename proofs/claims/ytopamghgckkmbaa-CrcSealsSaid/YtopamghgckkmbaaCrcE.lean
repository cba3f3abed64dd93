/-
  The document's examples of the checksum, and the law on sums, walked.
-/
import Derived.Test.YtopamghgckkmbaaCrcD
namespace Go.Proofs.Ytopamghgckkmbaa
open Go.RowKit
set_option linter.unusedVariables false

theorem tab_size : (u32s tab).toArray.size = 256 := by simp [u32s, tab]
theorem info_tab : (Try.prog.info? 27).map (·.size) = some (u32s tab).toArray.size := by rw [tab_size]; kernel_rfl
theorem hasTab_row {w : World} {b : Nat} {t : TypeId} (h : w.heap[b]? = some (.cells (u32s tab).toArray t (0, 0))) : HasTab w b := fun j hj => by
  rw [cell_of_row _ _ _ _ _ _ h]
  simp [u32s, tab, hj]
/-- A table made and stored: where it stands. -/
theorem made_tab (w : World) (t : TypeId) : HasTab ((w.alloc (.cells zeros t)).setRow w.heap.size (u32s tab).toArray) w.heap.size :=
  hasTab_row (setRow_heap _ _ _ _ _ _ (heap_alloc_new w _))
theorem tab_world {w w1 : World} (hb1 : Below w.heap.size w w1) : ∃ W, (w1.alloc (Obj.cells zeros 27)).setRow w1.heap.size (u32s tab).toArray = W ∧ HasTab W w1.heap.size ∧ Below w.heap.size w W ∧ w1.heap.size < W.heap.size ∧ w1.heap.size + 1 = W.heap.size :=
  ⟨_, rfl, made_tab w1 _, below_setRow (hb1.alloc hb1.size _) hb1.size _, by simp, by simp⟩
theorem ex_world {w W : World} {b : Nat} (ht : HasTab W b) (hb : Below w.heap.size w W) (hs : b < W.heap.size) : ∃ W2, W.alloc (Obj.cells #[Value.int .u8 49, .int .u8 50, .int .u8 51, .int .u8 52, .int .u8 53, .int .u8 54, .int .u8 55, .int .u8 56, .int .u8 57] 5 (9, 10)) = W2 ∧
    Row W2 W2.heap.size (some ⟨W.heap.size, 0, none⟩) (u8s [49, 50, 51, 52, 53, 54, 55, 56, 57]) ∧ HasTab W2 b ∧ Below w.heap.size w W2 ∧ b < W2.heap.size :=
  ⟨_, rfl, by
    have := row_new W #[Value.int .u8 49, .int .u8 50, .int .u8 51, .int .u8 52, .int .u8 53, .int .u8 54, .int .u8 55, .int .u8 56, .int .u8 57] 5 (9, 10)
    have e : (#[Value.int .u8 49, .int .u8 50, .int .u8 51, .int .u8 52, .int .u8 53, .int .u8 54, .int .u8 55, .int .u8 56, .int .u8 57] : Array Value).toList = u8s [49, 50, 51, 52, 53, 54, 55, 56, 57] := by simp [u8s]
    rw [e] at this
    exact this.more (by simp), hasTab_below ht ((Below.refl _ _).alloc (Nat.le_refl _) _) hs, hb.alloc hb.size _, by simp; omega⟩
theorem ex1 : crc.sum [49, 50, 51, 52, 53, 54, 55, 56, 57] = 3808858755 := by decide +kernel
theorem ex2 : crc.sum [] = 0 := by decide +kernel
theorem ex3 : crc.seal_ [] = [0, 0, 0, 0] := by decide +kernel

def Yes (w : World) (e : Ending) (w' : World) : Prop := e = .returned (.bool true) ∧ Below w.heap.size w w'

set_option maxRecDepth 100000 in
set_option maxHeartbeats 1000000 in
theorem shown_any (w : World) : Calls Try.prog 7 #[] w (Yes w) := by
  have hz := zero_tab
  go_enter Try.func7, Try.ntmps7
  go_wp2_with (first
    | (go_at_call 9; refine (new_any _).mono ?_; rintro e w1 ⟨rfl, hb1⟩)
    | (refine wpList_store_row rfl 27 _ _ rfl w1.heap.size (u32s tab).toArray rfl rfl 27 zeros (heap_alloc_new _ _) info_tab (by simp [u32s, tab, zeros, part]) u32s_one ?_))
  obtain ⟨W, hW, ht1, hb2, hs2, hs3⟩ := tab_world hb1
  rw [hs3, hW]
  obtain ⟨b, hb⟩ : ∃ b, b = w1.heap.size := ⟨_, rfl⟩
  rw [← hb] at ht1 hs2 ⊢
  clear hb hW hb1 hs3
  have HT := hide ht1
  clear ht1
  have kc := fun (w : World) (C : Array Value) (n c : Nat) => Lib.run_convert_bytes_const (P := Try.prog) w 22 5 C n c Try.underlying22 Try.underlying5
  have E1 := hide ex1
  go_simp
  go_wp2_with fail
  obtain ⟨W2, hW2, hr2, hT2, hb3, hsz⟩ := ex_world HT.out hb2 hs2
  rw [hW2]
  refine (sum_any _ b _ 9 9 _ rfl (by omega) (by decide) hT2 hr2).mono ?_
  rintro e w2 ⟨rfl, rfl⟩
  rw [E1.out]
  have E2 := hide ex2
  have HT2 := hide hT2
  clear hT2 hW2
  go_wp2_with (first
    | (go_at_call 10; refine (sum_any _ b none 0 0 [] rfl (by omega) (by simp) HT2.out Row.none_).mono ?_; rintro e w2 ⟨rfl, rfl⟩; rw [E2.out])
    | (go_at_call 15; refine (seal_any _ b none 0 0 [] rfl (by omega) (by simp) hsz HT2.out Row.none_).mono ?_; rintro e w3 ⟨v3, rfl, hown3, hb4⟩; obtain ⟨A3, c3, rfl, hc3, -⟩ := own_form hown3; have q3 := conv8 w3 w3.heap.size A3 4 c3 (crc.seal_ []) rfl (seal8 (by simp)) (Row.of_own hown3)))
  go_ret
  exact ⟨ret_bool (by rw [ex3, str_toList]; decide), hb3.trans (hb4.mono hb3.size)⟩

theorem and255 (k : Int) : ∃ m : Nat, m < 256 ∧ bits .and .i64 k 255 = (m : Int) := by
  refine ⟨(BitVec.ofInt 64 k &&& BitVec.ofInt 64 255).toNat, ?_, ?_⟩
  · rw [BitVec.toNat_and]
    exact Nat.lt_of_le_of_lt Nat.and_le_right (by decide)
  · have h : (BitVec.ofInt 64 k &&& BitVec.ofInt 64 255).toNat < 256 := by
      rw [BitVec.toNat_and]
      exact Nat.lt_of_le_of_lt Nat.and_le_right (by decide)
    show IntKind.i64.wrap ((BitVec.ofInt 64 k &&& BitVec.ofInt 64 255).toNat : Int) = _
    rw [IntKind.wrap_i64]
    omega

set_option maxRecDepth 100000 in
set_option maxHeartbeats 1000000 in
theorem sums_walk (w : World) (A : Option Addr) (n c : Nat) (l : List Nat) (k : Int) (hl : l.length = n) (hnc : n ≤ c) (hc : c ≤ maxLen) (h8 : ∀ x ∈ l, x < 256) (hr : Row w w.heap.size A (u8s l)) :
    Calls Try.prog 3 #[.slice A n c, .int .i64 k] w (Yes w) := by
  have hz := zero_tab
  obtain ⟨m, hm, hk⟩ := and255 k
  have hm0 : (0 : Int) ≤ (m : Int) := by omega
  have hm1 : (m : Int) < 256 := by omega
  have H8 := hide (take8 h8 400)
  have HL := hide (show (l.take 400).length = min n 400 by rw [List.length_take, hl]; omega)
  have hr2 := hr.take 400
  rw [u8s_take] at hr2
  generalize l.take 400 = l2 at H8 HL hr2
  clear h8 hl hr
  go_enter Try.func3, Try.ntmps3
  go_wp2_with (first
    | (go_at_call 7; refine (shown_any _).mono ?_; rintro e w1 ⟨rfl, hb1⟩)
    | (go_at_call 8; refine (few_any _ A n c hnc hc).mono ?_; rintro e w' ⟨rfl, rfl⟩)
    | (go_at_call 9; refine (new_any _).mono ?_; rintro e w2 ⟨rfl, hb2⟩)
    | (refine wpList_store_row rfl 27 _ _ rfl w2.heap.size (u32s tab).toArray rfl rfl 27 zeros (heap_alloc_new _ _) info_tab (by simp [u32s, tab, zeros, part]) u32s_one ?_))
  obtain ⟨W, hW, ht1, hb3, hs2, hs3⟩ := tab_world (hb1.trans (hb2.mono hb1.size))
  rw [hW]
  obtain ⟨b, hb⟩ : ∃ b, b = w2.heap.size := ⟨_, rfl⟩
  rw [← hb] at ht1 hs2 ⊢
  clear hb hW hb1 hb2 hs3
  have hr3 := (hr2.below hb3 (Nat.le_refl _)).more hb3.size
  have HT := hide ht1
  have HTd := hide (hasTab_below ht1 (Below.refl W.heap.size W).drew hs2)
  clear ht1
  refine region_pi [(0, true), (1, true), (2, true), (4, true), (3, false), (5, false), (6, true), (7, true), (8, true), (9, true), (10, true), (11, true), (12, true), (13, true), (14, true), (15, false), (16, true), (17, true), (18, true)] (by kernel_rfl) (by kernel_rfl) ?_
  simp only [opsPi, List.filterMap_cons, List.filterMap_nil, List.getElem?_toArray, List.getElem?_cons_zero, List.getElem?_cons_succ, Option.map_some]
  repeat (refine pi_take (v := _) rfl (fun W hW => by go_simp <;> exact rfl) ?_; simp only [Act.put, List.setIfInBounds_toArray, List.set_cons_zero, List.set_cons_succ])
  refine pi_run ?_
  go_wp2_with (go_at_call 10; refine (sum_any _ b A (min n 400) c l2 HL.out (by omega) H8.out HTd.out hr3.drew).mono ?_; rintro e w3 ⟨rfl, rfl⟩)
  refine ⟨Le.refl _, ?_⟩
  refine pi_run ?_
  go_wp2_with (go_at_call 11; refine (refsum_any _ A (min n 400) c l2 HL.out (by omega) H8.out hr3.drew).mono ?_; rintro e w3 ⟨rfl, rfl⟩)
  refine ⟨Le.refl _, ?_⟩
  have hcT : ∀ W', Le W.drew W' → W'.cell? ⟨b, m, none⟩ = some (.int .u32 (crc.stp8 m : Nat)) := fun W' h => (hasTab_below HTd.out h hs2) m hm
  repeat (refine pi_take (v := _) rfl (fun W hW => by go_simp <;> exact rfl) ?_; simp only [Act.put, List.setIfInBounds_toArray, List.set_cons_zero, List.set_cons_succ])
  refine pi_run ?_
  go_wp2_with (go_at_call 12; refine (entry_any _ _ (by omega) (by omega)).mono ?_; rintro e w3 ⟨rfl, rfl⟩; rw [Int.toNat_natCast])
  refine ⟨Le.refl _, ?_⟩
  repeat (refine pi_take (v := _) rfl (fun W hW => by go_simp <;> exact rfl) ?_; simp only [Act.put, List.setIfInBounds_toArray, List.set_cons_zero, List.set_cons_succ])
  refine pi_done ?_
  go_wp2_with fail
  go_ret
  exact ⟨rfl, hb3.drew⟩
#print axioms sums_walk
end Go.Proofs.Ytopamghgckkmbaa
