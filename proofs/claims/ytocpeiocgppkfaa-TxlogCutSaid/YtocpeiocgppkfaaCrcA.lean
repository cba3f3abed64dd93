/-
  The walks of the checksum's functions.
-/
import Derived.Test.YtocpeiocgppkfaaChecked
import Derived.Test.YtocpeiocgppkfaaMem
import Derived.Test.YtocpeiocgppkfaaCrcMath
import Derived.Outline
namespace Go.Proofs.Ytocpeiocgppkfaa
open Go.RowKit

def u32s (l : List Nat) : List Value := l.map fun (n : Nat) => .int .u32 (n : Int)
def tab : List Nat := (List.range 256).map crc.stp8

def stpn : Nat → Nat → Nat
  | 0, r => r
  | m + 1, r => crc.stp (stpn m r)
theorem stpn_lt (m : Nat) {r : Nat} (h : r < 4294967296) : stpn m r < 4294967296 := by
  induction m with
  | zero => exact h
  | succ m ih => exact crc.stp_lt ih
theorem stp_bits (r : Nat) (hr : r < 4294967296) : bits .xor .u32 ((r : Int) / 2) (bits .and .u32 (r : Int) 1 * 2197175160 % 4294967296) = ((crc.stp r : Nat) : Int) := by
  have e1 : bits .and .u32 (r : Int) 1 = ((r % 2 : Nat) : Int) := by
    have := u32_and_nat r 1 hr (by omega)
    rw [Nat.and_one_is_mod] at this
    exact this
  rw [e1]
  have e2 : (((r % 2 : Nat) : Int) * 2197175160 % 4294967296) = ((r % 2 * 2197175160 : Nat) : Int) := by omega
  have e3 : (r : Int) / 2 = ((r / 2 : Nat) : Int) := by omega
  rw [e2, e3, u32_xor_nat _ _ (by omega) (by omega)]
  rfl
/-- The table's cells behind k rounds. -/
def part (k : Nat) : List Nat := (List.range 256).map fun j => if j < k then crc.stp8 j else 0
theorem part_all : part 256 = tab := by
  unfold part tab
  apply List.map_congr_left
  intro j hj
  rw [if_pos (by simpa using hj)]
theorem part_step (k : Nat) : (u32s (part k)).toArray.setIfInBounds k (.int .u32 (stpn 8 k)) = (u32s (part (k + 1))).toArray := by
  apply Array.ext
  · simp [u32s, part]
  · intro i h1 h2
    have hi : i < 256 := by simpa [u32s, part] using h1
    rw [Array.getElem_setIfInBounds (by simpa using h1)]
    by_cases hik : k = i
    · subst hik
      simp [u32s, part]
      rfl
    · have e : (i < k + 1) = (i < k) := by apply propext; omega
      simp [u32s, part, hik, e]
theorem u32s_one {l : List Nat} : (u32s l).toArray.all (·.oneCell') = true := by
  simp [u32s, Value.oneCell']
noncomputable def zeros : Array Value := (u32s (part 0)).toArray
theorem zero_tab (w : World) : (zeroValue 44).run Try.prog w = .ok (.agg zeros) w := by kernel_rfl

set_option maxRecDepth 100000 in
set_option maxHeartbeats 400000 in
theorem new_any (w : World) : Calls Try.prog 17 #[] w fun e w' => e = .returned (.agg (u32s tab).toArray) ∧ Below w.heap.size w w' := by
  have hz := zero_tab
  go_enter Try.func17, Try.ntmps17
  go_wp2_with fail
  obtain ⟨W, hW⟩ : ∃ W, W = (w.alloc (Obj.cells zeros 44)).alloc (Obj.cells zeros 44) := ⟨_, rfl⟩
  have h0 : W.heap[w.heap.size]? = some (.cells zeros 44 (0, 0)) := by rw [hW]; exact heap_alloc2_old _ _ _
  have h1 : W.heap[w.heap.size + 1]? = some (.cells zeros 44 (0, 0)) := by rw [hW]; exact heap_alloc2_new _ _ _
  have hb : Below w.heap.size w W := by rw [hW]; exact ((Below.refl _ _).alloc (Nat.le_refl _) _).alloc (by simp) _
  rw [← hW]
  clear hW
  go_loopw [4] (fun i wr => ∃ k : Nat, k ≤ 256 ∧ i = .int .i64 k ∧ wr.heap[w.heap.size]? = some (.cells zeros 44 (0, 0)) ∧ wr.heap[w.heap.size + 1]? = some (.cells (u32s (part k)).toArray 44 (0, 0)) ∧ Below w.heap.size w wr) (fun i _ => 256 - (intOf i).toNat)
  case atStart => exact ⟨0, by omega, rfl, h0, h1, hb⟩
  case round =>
    obtain ⟨k, hk, rfl, g0, g1, gb⟩ := hrel
    have G0 := hide g0
    have G1 := hide g1
    clear g0 g1 h0 h1 hb
    by_cases hlt : k < 256
    · go_wp2_with fail
      go_loop [3, 9] (fun r j => ∃ m : Nat, m ≤ 8 ∧ j = .int .i64 m ∧ r = .int .u32 (stpn m k)) (fun _ j => 8 - (intOf j).toNat)
      case atStart => exact ⟨0, by omega, rfl, rfl⟩
      case round =>
        obtain ⟨m, hm, rfl, rfl⟩ := hrel
        have hr : stpn m k < 4294967296 := stpn_lt m (by omega)
        by_cases hlm : m < 8
        · go_wp2_with fail
          refine ⟨⟨m + 1, by omega, by go_num, ?_⟩, by simp [intOf]; omega⟩
          rw [stp_bits _ hr]
          rfl
        · have hc : wr.cell? ⟨w.heap.size + 1, k, none⟩ = some ((u32s (part k)).getD k undef) := by
            rw [cell_of_row _ _ _ _ _ _ G1.out]
            simp [List.getD_eq_getElem?_getD, u32s, part, hlt]
          have hf : wr.frozen? ⟨w.heap.size + 1, k, none⟩ = false := frozen_of_row _ _ _ _ _ G1.out
          go_wp2_with fail
          obtain rfl : m = 8 := by omega
          refine ⟨⟨k + 1, by omega, by go_num, ?_, ?_, gb.setCell (by simp) _⟩, by simp [intOf]; omega⟩
          · rw [heap_setCell_other _ _ _ _ (by simp)]; exact G0.out
          · rw [heap_setCell_same _ _ _ _ _ _ G1.out]
            exact congrArg (fun c => some (Obj.cells c 44 (0, 0))) (part_step k)
    · obtain rfl : k = 256 := by omega
      have hsz : ∀ j, (u32s (part j)).toArray.size = 256 := fun j => by simp [u32s, part]
      have hinf : (Try.prog.info? 44).map (·.size) = some 256 := by kernel_rfl
      go_wp2_with (first
        | (refine wpList_load_row rfl 44 _ rfl (w.heap.size + 1) rfl 44 (u32s (part 256)).toArray (0, 0) _ G1.out Try.underlying44 rfl (by rw [hsz]; exact hinf) ?_)
        | (refine wpList_store_row rfl 44 _ _ rfl w.heap.size (u32s (part 256)).toArray rfl rfl 44 zeros G0.out (by rw [hsz]; exact hinf) (by rw [hsz]; exact hsz 0) u32s_one ?_))
      refine bodyPost_ret (v := .agg (u32s (part 256)).toArray) (results_cell_row rfl _ _ w.heap.size 44 _ (0, 0) _ rfl (setRow_heap _ _ _ _ _ _ G0.out) Try.underlying44 rfl (by rw [hsz]; exact hinf)) rfl ⟨by rw [part_all], below_setRow gb (Nat.le_refl _) _⟩

/-- The table stands at block b. -/
def HasTab (w : World) (b : Nat) : Prop := ∀ j, j < 256 → w.cell? ⟨b, j, none⟩ = some (.int .u32 (crc.stp8 j : Nat))

set_option maxRecDepth 100000 in
set_option maxHeartbeats 400000 in
theorem sum_any (w : World) (b : Nat) (A : Option Addr) (n c : Nat) (l : List Nat) (hl : l.length = n) (hn : n ≤ 1000) (h8 : ∀ x ∈ l, x < 256) (ht : HasTab w b) (hr : Row w w.heap.size A (u8s l)) :
    Calls Try.prog 36 #[.pointer (some ⟨b, 0, none⟩), .slice A n c] w fun e w' => e = .returned (.int .u32 (crc.sum l : Nat)) ∧ w = w' := by
  go_enter Try.func36, Try.ntmps36
  go_wp2_with fail
  go_loop [5, 10] (fun r i => ∃ k : Nat, k ≤ n ∧ i = .int .i64 k ∧ r = .int .u32 (crc.run0 (l.take k) : Nat)) (fun _ i => n - (intOf i).toNat)
  case atStart => exact ⟨0, Nat.zero_le _, rfl, rfl⟩
  case round =>
    obtain ⟨k, hk, rfl, rfl⟩ := hrel
    by_cases hlt : k < n
    · obtain ⟨x, hx⟩ : ∃ x, l[k]? = some x := ⟨_, List.getElem?_eq_getElem (by omega)⟩
      have hx8 : x < 256 := h8 x (List.mem_of_getElem? hx)
      obtain ⟨bA, oA, rfl, -, hcA⟩ := hr.at_ (j := k) (u := .int .u8 (x : Nat)) (by simp [u8s, hx])
      have hstep : crc.run0 (l.take (k + 1)) = crc.byt (crc.run0 (l.take k)) x := by
        rw [List.take_add_one, hx]; exact crc.run0_snoc _ _
      have hR := crc.run0_lt (l.take k)
      obtain ⟨m, hm⟩ : ∃ m, m = (crc.run0 (l.take k) ^^^ x) % 256 := ⟨_, rfl⟩
      have hm8 : m < 256 := by omega
      have hE : bits .xor .u8 ((crc.run0 (l.take k) : Int) % 256) (x : Int) = (m : Int) := by
        have e : ((crc.run0 (l.take k) : Int) % 256) = ((crc.run0 (l.take k) % 256 : Nat) : Int) := by omega
        rw [e, u8_xor_nat _ _ (by omega) hx8, hm, crc.xor_mod256, Nat.mod_eq_of_lt hx8]
      have hcT := ht m hm8
      have hE2 : ((crc.run0 (l.take k) / 256 : Nat) : Int) = (crc.run0 (l.take k) : Int) / 256 := by omega
      have hF : bits .xor .u32 ((crc.run0 (l.take k) : Int) / 256) (crc.stp8 m : Int) = (crc.run0 (l.take (k + 1)) : Int) := by
        rw [← hE2, u32_xor_nat _ _ (by omega) (crc.stp8_lt (by omega)), hstep]
        unfold crc.byt
        rw [← hm]
      clear h8 hx hstep hm ht hR hE2
      go_wp2_with fail
      exact ⟨⟨k + 1, by omega, by go_num, rfl⟩, by simp [intOf]; omega⟩
    · obtain rfl : k = n := by omega
      have hE : bits .xor .u32 4294967295 ((crc.run0 l : Nat) : Int) = (crc.sum l : Int) := by
        have := u32_xor_nat 4294967295 (crc.run0 l) (by omega) (crc.run0_lt l)
        rw [Nat.xor_comm] at this
        exact this
      have ht : l.take k = l := List.take_of_length_le (by omega)
      rw [ht]
      clear h8
      have HE := hide hE
      clear hE
      go_wp2_with fail
      go_ret
      exact ⟨ret_int HE.out, rfl⟩
#print axioms sum_any
end Go.Proofs.Ytocpeiocgppkfaa
