/-
  The walks of the checksum's functions: copies, seals.
-/
import Derived.Test.YtocpeiocgppkfaaCrcA
namespace Go.Proofs.Ytocpeiocgppkfaa
open Go.RowKit

theorem info_u8 : (Try.prog.info? 5).map (fun i => (i.zero, i.size, i.bytes)) = some (some (.int .u8 0), 1, 1) := by kernel_rfl

set_option maxRecDepth 100000 in
set_option maxHeartbeats 400000 in
theorem cclone8_any (w : World) (A : Option Addr) (n c : Nat) (l : List Nat) (hl : l.length = n) (hn : n ≤ 1000000) (hr : Row w w.heap.size A (u8s l)) :
    Calls Try.prog 35 #[.slice A n c] w (Gives w.heap.size 5 1 n (u8s l) w) := by
  have q := fun W => Lib.run_eql_slice_nil (P := Try.prog) W 41 5 A n c 0 0 Try.underlying41
  rcases A with _ | ad
  · have h0 : l = [] := by
      rcases l with _ | ⟨x, l⟩
      · rfl
      · obtain ⟨b, o, h, _⟩ := hr (by simp [u8s])
        cases h
    subst h0
    simp at hl
    subst hl
    go_enter Try.func35, Try.ntmps35
    go_wp2_with fail
    go_ret
    exact ⟨_, rfl, World.ownsRow_nil _ _ _ _, Below.refl _ _⟩
  · have hl' : (u8s l).length = n * 1 := by simp [u8s, hl]
    have HL := hide hl'
    have HL0 := hide hl
    clear hl hl'
    go_enter Try.func35, Try.ntmps35
    go_wp2_with (at_builtin; refine wpList_append_row _ rfl (.tmp 5) (.tmp 6) 41 rfl w.heap.size 5 info_u8 Try.underlying41 rfl (by omega) _ 0 [] rfl (World.ownsRow_lit _ #[] 0 (Nat.le_refl _) (by simp) rfl) w.heap.size (some ad) n c (u8s l) rfl HL.out (hr.alloc (Nat.le_refl _) _) u8s_one (by simp only [maxLen]; omega) (by omega) (by simp) ?_; intro v w1 hown hg hat)
    go_ret
    refine ⟨v, rfl, by simpa using hown, ((Below.refl _ _).alloc (Nat.le_refl _) _).grown hg (by simp) (fun g hg => blk_ge hg (Nat.le_refl _))⟩

theorem entry_bits (r : Nat) (hr : r < 4294967296) : bits .xor .u32 ((r : Int) / 2) 2197175160 = ((r / 2 ^^^ 2197175160 : Nat) : Int) := by
  have e3 : (r : Int) / 2 = ((r / 2 : Nat) : Int) := by omega
  rw [e3]
  exact u32_xor_nat (r / 2) 2197175160 (by omega) (by omega)
set_option maxRecDepth 100000 in
set_option maxHeartbeats 400000 in
theorem entry_any (w : World) (i : Int) (h0 : 0 ≤ i) (h1 : i < 256) :
    Calls Try.prog 45 #[.int .i64 i] w fun e w' => e = .returned (.int .u32 (crc.stp8 i.toNat : Nat)) ∧ w = w' := by
  obtain ⟨r, rfl⟩ := Int.eq_ofNat_of_zero_le h0
  rw [Int.toNat_natCast]
  go_enter Try.func45, Try.ntmps45
  go_wp2_with fail
  go_loop [3, 4] (fun x j => ∃ m : Nat, m ≤ 8 ∧ j = .int .i64 m ∧ x = .int .u32 (stpn m r)) (fun _ j => 8 - (intOf j).toNat)
  case atStart => exact ⟨0, by omega, rfl, rfl⟩
  case round =>
    obtain ⟨m, hm, rfl, rfl⟩ := hrel
    have hr : stpn m r < 4294967296 := stpn_lt m (by omega)
    have hs : stpn (m + 1) r = stpn m r / 2 ^^^ (stpn m r % 2 * 2197175160) := rfl
    have HS := hide hs
    have HB := hide (entry_bits _ hr)
    clear hs
    by_cases hlt : m < 8
    · by_cases h2 : stpn m r % 2 = 1
      · have H2 := hide h2
        have hd : ((stpn m r : Int) % 2 == 1) = true := by simp; omega
        clear h2
        go_wp2_with fail
        refine ⟨⟨m + 1, by omega, by go_num, ?_⟩, by simp [intOf]; omega⟩
        rw [HB.out, HS.out, H2.out]
      · have H2 := hide h2
        have hd : ((stpn m r : Int) % 2 == 1) = false := by simp; omega
        clear h2
        go_wp2_with fail
        refine ⟨⟨m + 1, by omega, by go_num, ?_⟩, by simp [intOf]; omega⟩
        have h0 : stpn m r % 2 = 0 := by have := H2.out; omega
        rw [HS.out, h0]
        simp
    · go_wp2_with fail
      go_ret
      obtain rfl : m = 8 := by omega
      exact ⟨rfl, rfl⟩

set_option maxRecDepth 100000 in
set_option maxHeartbeats 400000 in
theorem refsum_any (w : World) (A : Option Addr) (n c : Nat) (l : List Nat) (hl : l.length = n) (hn : n ≤ 1000) (h8 : ∀ x ∈ l, x < 256) (hr : Row w w.heap.size A (u8s l)) :
    Calls Try.prog 39 #[.slice A n c] w fun e w' => e = .returned (.int .u32 (crc.sum l : Nat)) ∧ w = w' := by
  go_enter Try.func39, Try.ntmps39
  go_wp2_with fail
  go_loop [3, 4] (fun r i => ∃ k : Nat, k ≤ n ∧ i = .int .i64 k ∧ r = .int .u32 (crc.run0 (l.take k) : Nat)) (fun _ i => n - (intOf i).toNat)
  case atStart => exact ⟨0, Nat.zero_le _, rfl, rfl⟩
  case round =>
    obtain ⟨k, hk, rfl, rfl⟩ := hrel
    by_cases hlt : k < n
    · obtain ⟨x, hx⟩ : ∃ x, l[k]? = some x := ⟨_, List.getElem?_eq_getElem (by omega)⟩
      have hx8 : x < 256 := h8 x (List.mem_of_getElem? hx)
      obtain ⟨bA, oA, rfl, -, hcA⟩ := hr.at_ (j := k) (u := .int .u8 (x : Nat)) (by simp [u8s, hx])
      have hstep : crc.run0 (l.take (k + 1)) = crc.byt (crc.run0 (l.take k)) x := by
        rw [List.take_add_one, hx]; exact crc.run0_snoc _ _
      have hR := crc.run0_lt (l.take k)
      obtain ⟨X, hX⟩ : ∃ X, X = crc.run0 (l.take k) ^^^ x := ⟨_, rfl⟩
      obtain ⟨m, hm⟩ : ∃ m, m = X % 256 := ⟨_, rfl⟩
      have hm8 : m < 256 := by omega
      have hE : bits .xor .u32 (crc.run0 (l.take k) : Int) (x : Int) = (X : Int) := by rw [u32_xor_nat _ _ hR (by omega), hX]
      have hM : ((X : Int) % 256) = (m : Int) := by omega
      have hE2 : ((crc.run0 (l.take k) / 256 : Nat) : Int) = (crc.run0 (l.take k) : Int) / 256 := by omega
      have hF : bits .xor .u32 ((crc.run0 (l.take k) : Int) / 256 % 4294967296) (crc.stp8 m : Int) = (crc.run0 (l.take (k + 1)) : Int) := by
        rw [← hE2, show (((crc.run0 (l.take k) / 256 : Nat) : Int) % 4294967296) = ((crc.run0 (l.take k) / 256 : Nat) : Int) by omega, u32_xor_nat _ _ (by omega) (crc.stp8_lt (by omega)), hstep]
        unfold crc.byt
        rw [← hX, ← hm]
      clear h8 hx hstep hm hR hE2 hX
      go_wp2_with (go_at_call 45; refine (entry_any _ _ (by omega) (by omega)).mono ?_; rintro e w' ⟨rfl, rfl⟩; rw [Int.toNat_natCast])
      exact ⟨⟨k + 1, by omega, by go_num, rfl⟩, by simp [intOf]; omega⟩
    · obtain rfl : k = n := by omega
      have hE : bits .xor .u32 ((crc.run0 l : Nat) : Int) 4294967295 = (crc.sum l : Int) := u32_xor_nat (crc.run0 l) 4294967295 (crc.run0_lt l) (by omega)
      have ht : l.take k = l := List.take_of_length_le (by omega)
      rw [ht]
      have HE := hide hE
      clear hE h8
      go_wp2_with fail
      go_ret
      exact ⟨ret_int HE.out, rfl⟩

theorem shift_byte (s k : Nat) (hk : k < 4) : (s : Int) / 2 ^ (8 * k) % 256 = (((crc.tail4 s).getD k 0 : Nat) : Int) := by
  rcases (show k = 0 ∨ k = 1 ∨ k = 2 ∨ k = 3 by omega) with rfl | rfl | rfl | rfl <;> simp [crc.tail4]
theorem tail_step (l : List Nat) (s k : Nat) (hk : k < 4) : u8s (l ++ (crc.tail4 s).take k) ++ [Value.int .u8 ((s : Int) / 2 ^ (8 * k) % 256)] = u8s (l ++ (crc.tail4 s).take (k + 1)) := by
  rw [shift_byte s k hk, List.take_add_one, List.getElem?_eq_getElem (by simpa [crc.tail4] using hk)]
  simp only [u8s, List.map_append, List.append_assoc, Option.toList_some, List.map_cons, List.map_nil, List.getD_eq_getElem?_getD, List.getElem?_eq_getElem (show k < (crc.tail4 s).length from hk), Option.getD_some]
theorem tail_len (s : Nat) : (crc.tail4 s).length = 4 := rfl

set_option maxRecDepth 100000 in
set_option maxHeartbeats 400000 in
theorem seal_any (w : World) (b : Nat) (A : Option Addr) (n c : Nat) (l : List Nat) (hl : l.length = n) (hn : n ≤ 1000) (h8 : ∀ x ∈ l, x < 256) (hb : b < w.heap.size) (ht : HasTab w b) (hr : Row w w.heap.size A (u8s l)) :
    Calls Try.prog 28 #[.pointer (some ⟨b, 0, none⟩), .slice A n c] w (Gives w.heap.size 5 1 (n + 4) (u8s (crc.seal_ l)) w) := by
  have H8 := hide h8
  have HT := hide ht
  have HL := hide hl
  clear h8 ht hl
  go_enter Try.func28, Try.ntmps28
  go_wp2_with (first
    | (go_at_call 35; refine (cclone8_any _ A n c l HL.out (by omega) hr).mono ?_; rintro e w1 ⟨v1, rfl, hown1, hb1⟩)
    | (go_at_call 36; refine (sum_any _ b A n c l HL.out hn H8.out (fun j hj => (hb1.cell (p := ⟨b, j, none⟩) hb).trans (HT.out j hj)) ((hr.below hb1 (Nat.le_refl _)).more hb1.size)).mono ?_; rintro e w' ⟨rfl, rfl⟩))
  have hz1 := hb1.size
  go_loopw [5, 13] (fun v i wr => ∃ k : Nat, k ≤ 4 ∧ i = .int .i64 k ∧ wr.ownsRow w.heap.size 5 1 v (n + k) (u8s (l ++ (crc.tail4 (crc.sum l)).take k)) ∧ Below w.heap.size w wr) (fun _ i _ => 4 - (intOf i).toNat)
  case atStart => exact ⟨0, by omega, rfl, by simpa using hown1, hb1⟩
  case round =>
    obtain ⟨k, hk, rfl, hown, hb2⟩ := hrel
    have hz2 := hb2.size
    by_cases hlt : k < 4
    · go_wp2_with (at_builtin; refine wpList_append_row _ rfl (.tmp 16) (.tmp 22) 41 rfl w.heap.size 5 info_u8 Try.underlying41 rfl (by omega) _ (n + k) _ rfl (hown.alloc _) _ (some ⟨wr.heap.size, 0, none⟩) 1 1 [_] rfl rfl (row_one _ _ _ _) (one_int _ _) (by simp only [maxLen]; omega) (by omega) (by simp; omega) ?_; intro v' w' hown' hg hat)
      refine ⟨⟨k + 1, by omega, by go_num, ?_, ?_⟩, by simp [intOf]; omega⟩
      · rw [← tail_step l _ k hlt]; exact hown'
      · exact (hb2.alloc hz2 _).grown hg (by simp; omega) (fun g hg => own_ge hown hg (Nat.le_refl _))
    · go_wp2_with fail
      obtain rfl : k = 4 := by omega
      go_ret
      exact ⟨_, rfl, hown, hb2⟩
end Go.Proofs.Ytocpeiocgppkfaa
