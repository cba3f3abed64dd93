/-
  The walks of the checksum's functions: rows of bytes held against each other; what opens a seal.
-/
import Derived.Test.YtocpeiocgppkfaaYCrcB
namespace Go.Proofs.Ytocpeiocgppkfaa
open Go.RowKit

set_option linter.unusedVariables false
set_option maxRecDepth 100000 in
set_option maxHeartbeats 400000 in
theorem equal8_any (w : World) (A : Option Addr) (n c : Nat) (l : List Nat) (B : Option Addr) (m d : Nat) (l2 : List Nat) (hl : l.length = n) (hm : l2.length = m) (hn : n ≤ 1000000) (hm' : m ≤ 1000000)
    (hr : Row w w.heap.size A (u8s l)) (hr2 : Row w w.heap.size B (u8s l2)) :
    Calls Try.prog 42 #[.slice A n c, .slice B m d] w (Says (.bool (decide (l = l2))) w) := by
  by_cases hnm : n = m
  · subst hnm
    go_enter Try.func42, Try.ntmps42
    go_wp2_with fail
    go_loopw [13] (fun i wr => ∃ k q : Nat, k ≤ n ∧ i = .int .i64 k ∧ l.take k = l2.take k ∧ wr = w.drewN q) (fun i _ => n - (intOf i).toNat)
    case atStart => exact ⟨0, 0, Nat.zero_le _, rfl, rfl, rfl⟩
    case round =>
      obtain ⟨k, q, hk, rfl, ht, rfl⟩ := hrel
      by_cases hlt : k < n
      · obtain ⟨x, hx⟩ : ∃ x, l[k]? = some x := ⟨_, List.getElem?_eq_getElem (by omega)⟩
        obtain ⟨y, hy⟩ : ∃ y, l2[k]? = some y := ⟨_, List.getElem?_eq_getElem (by omega)⟩
        obtain ⟨bA, oA, rfl, -, hcA⟩ := hr.at_ (u8s_at hx)
        obtain ⟨bB, oB, rfl, -, hcB⟩ := hr2.at_ (u8s_at hy)
        have hx2 : l.take (k + 1) = l.take k ++ [x] := by rw [List.take_add_one, hx]; rfl
        have hy2 : l2.take (k + 1) = l2.take k ++ [y] := by rw [List.take_add_one, hy]; rfl
        have HT := hide ht
        have HX := hide hx
        have HY := hide hy
        have HX2 := hide hx2
        have HY2 := hide hy2
        clear hx2 hy2 hx hy ht
        go_wp2_with fail
        go_quiet (fail)
        by_cases hxy : x = y
        · subst hxy
          go_wp2_with fail
          refine ⟨⟨k + 1, _, by omega, by go_num, by rw [HX2.out, HY2.out, HT.out], rfl⟩, by simp [intOf]; omega⟩
        · have hd : ((x : Int) != (y : Int)) = true := by rw [bne_iff_ne]; omega
          go_wp2_with fail
          go_ret
          refine ⟨q + nq, ret_bool ?_, drewN2 _ _ _⟩
          rw [eq_comm, decide_eq_false_iff_not]
          rintro rfl
          have := HX.out.symm.trans HY.out
          simp at this
          exact hxy this
      · go_wp2_with fail
        obtain rfl : k = n := by omega
        go_ret
        refine ⟨_, ret_bool ?_, rfl⟩
        rw [List.take_of_length_le (by omega), List.take_of_length_le (by omega)] at ht
        simp [ht]
  · have hd : decide (l = l2) = false := by
      rw [decide_eq_false_iff_not]
      rintro rfl
      omega
    rw [hd]
    go_enter Try.func42, Try.ntmps42
    go_wp2_with fail
    go_ret
    exact ⟨0, rfl, rfl⟩

/-- What these bytes are a seal of. -/
def opens (l : List Nat) : Option (List Nat) := if 4 ≤ l.length ∧ crc.seal_ (l.take (l.length - 4)) = l then some (l.take (l.length - 4)) else none

theorem opens_test (l : List Nat) (n : Nat) (hl : l.length = n) (h4 : 4 ≤ n) : opens l = if crc.seal_ (l.take (n - 4)) = l then some (l.take (n - 4)) else none := by
  unfold opens; subst hl
  by_cases h : crc.seal_ (l.take (l.length - 4)) = l
  · rw [if_pos ⟨h4, h⟩, if_pos h]
  · rw [if_neg (fun x => h x.2), if_neg h]
theorem hasTab_below {w w' : World} {b C : Nat} (h : HasTab w b) (hb : Below C w w') (hC : b < C) : HasTab w' b := fun j hj => (hb.cell (p := ⟨b, j, none⟩) hC).trans (h j hj)

set_option maxRecDepth 100000 in
set_option maxHeartbeats 400000 in
theorem open_none_any (w : World) (b : Nat) (A : Option Addr) (n c : Nat) (l : List Nat) (hl : l.length = n) (hn : n ≤ 1000) (hnc : n ≤ c) (hc : c ≤ maxLen) (h8 : ∀ x ∈ l, x < 256) (hb : b < w.heap.size) (ht : HasTab w b) (hr : Row w w.heap.size A (u8s l)) (ho : opens l = none) :
    Calls Try.prog 40 #[.pointer (some ⟨b, 0, none⟩), .slice A n c] w (Gives2 w.heap.size 5 1 0 [] (.int .i64 2) w) := by
  unfold maxLen at hc
  have H8 := hide h8
  have HT := hide ht
  have HL := hide hl
  have HO := hide ho
  clear h8 ht hl ho
  by_cases h4 : 4 ≤ n
  · have hd : decide (crc.seal_ (l.take (n - 4)) = l) = false := by
      have h := HO.out
      rw [opens_test l n HL.out h4] at h
      rw [decide_eq_false_iff_not]
      intro h1
      rw [if_pos h1] at h
      cases h
    have hr2 := hr.take (n - 4)
    rw [u8s_take] at hr2
    go_enter Try.func40, Try.ntmps40
    go_wp2_with (first
      | (go_at_call 28; refine (seal_any _ b A (n - 4) c (l.take (n - 4)) (by rw [List.length_take, HL.out]; omega) (by omega) (take8 H8.out _) hb HT.out hr2).mono ?_; rintro e w1 ⟨v1, rfl, hown1, hb1⟩; rw [Nat.sub_add_cancel h4] at hown1; obtain ⟨A1, c1, rfl, hc1, -⟩ := own_form hown1)
      | (go_at_call 42; refine (equal8_any _ A1 n c1 (crc.seal_ (l.take (n - 4))) A n c l (by rw [crc.seal_length, List.length_take, HL.out]; omega) HL.out (by omega) (by omega) (Row.of_own hown1) ((hr.below hb1 (Nat.le_refl _)).more hb1.size)).mono ?_; rintro e w2 ⟨q2, rfl, rfl⟩))
    go_ret2
    exact ⟨_, rfl, World.ownsRow_nil _ _ _ _, below_drewN hb1 _⟩
  · go_enter Try.func40, Try.ntmps40
    go_wp2_with fail
    go_ret2
    exact ⟨_, rfl, World.ownsRow_nil _ _ _ _, Below.refl _ _⟩

set_option maxRecDepth 100000 in
set_option maxHeartbeats 400000 in
theorem open_some_any (w : World) (b : Nat) (A : Option Addr) (n c : Nat) (l : List Nat) (hl : l.length = n) (hn : n ≤ 1000) (hnc : n ≤ c) (hc : c ≤ maxLen) (h8 : ∀ x ∈ l, x < 256) (hb : b < w.heap.size) (ht : HasTab w b) (hr : Row w w.heap.size A (u8s l)) (l2 : List Nat) (ho : opens l = some l2) :
    Calls Try.prog 40 #[.pointer (some ⟨b, 0, none⟩), .slice A n c] w (Gives2 w.heap.size 5 1 l2.length (u8s l2) (.int .i64 0) w) := by
  have h4 : 4 ≤ n := by
    unfold opens at ho
    split at ho
    · omega
    · cases ho
  have ho2 := ho
  rw [opens_test l n hl h4] at ho2
  have hd : decide (crc.seal_ (l.take (n - 4)) = l) = true := by
    rw [decide_eq_true_eq]
    split at ho2
    · assumption
    · cases ho2
  obtain rfl : l2 = l.take (n - 4) := by
    rw [if_pos (of_decide_eq_true hd)] at ho2
    exact (Option.some.inj ho2).symm
  have hlt : (l.take (n - 4)).length = n - 4 := by rw [List.length_take, hl]; omega
  rw [hlt]
  clear ho ho2
  unfold maxLen at hc
  have H8 := hide h8
  have HT := hide ht
  have HL := hide hl
  have HLT := hide hlt
  clear h8 ht hl hlt
  have hr2 := hr.take (n - 4)
  rw [u8s_take] at hr2
  go_enter Try.func40, Try.ntmps40
  go_wp2_with (first
    | (go_at_call 28; refine (seal_any _ b A (n - 4) c (l.take (n - 4)) HLT.out (by omega) (take8 H8.out _) hb HT.out hr2).mono ?_; rintro e w1 ⟨v1, rfl, hown1, hb1⟩; rw [Nat.sub_add_cancel h4] at hown1; obtain ⟨A1, c1, rfl, hc1, -⟩ := own_form hown1)
    | (go_at_call 42; refine (equal8_any _ A1 n c1 (crc.seal_ (l.take (n - 4))) A n c l (by rw [crc.seal_length, HLT.out]; omega) HL.out (by omega) (by omega) (Row.of_own hown1) ((hr.below hb1 (Nat.le_refl _)).more hb1.size)).mono ?_; rintro e w2 ⟨q2, rfl, rfl⟩)
    | (go_at_call 35; refine (cclone8_any _ A (n - 4) c (l.take (n - 4)) HLT.out (by omega) (((hr2.below hb1 (Nat.le_refl _)).drewN _).more hb1.size)).mono ?_; rintro e w3 ⟨v3, rfl, hown3, hb3⟩))
  go_ret2
  exact ⟨_, rfl, own_more hown3 hb1.size, (below_drewN hb1 _).trans (hb3.mono hb1.size)⟩
end Go.Proofs.Ytocpeiocgppkfaa
