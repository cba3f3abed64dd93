/-
  The law on the length of numbers, walked; and what is cut off.
-/
import Derived.Test.YtkhdkfpgalcehaaVarF
namespace Go.Proofs.Ytkhdkfpgalcehaa
open Go.RowKit
set_option linter.unusedVariables false

theorem less_facts {x y : Nat} (h : x ≤ y) (hy : var.S64 y) : 1 ≤ (var.vput x).length ∧ (var.vput x).length ≤ (var.vput y).length ∧ (var.vput y).length ≤ 10 :=
  ⟨List.length_pos_iff.2 (var.vput_ne x), var.vput_length_mono x y h, var.vput_len10 hy⟩
theorem cut_world {w : World} {base n c : Nat} {A : Option Addr} {l : List Nat} (h : w.ownsRow base 5 1 (.slice A n c) n (u8s l)) (k : Nat) : Row w w.heap.size A (u8s (l.take k)) := by
  have := (Row.of_own h).take k
  rwa [u8s_take] at this

set_option maxRecDepth 100000 in
set_option maxHeartbeats 4000000 in
theorem less_walk (w : World) (x y : Nat) (p : Int) (hx : var.S64 x) (hy : var.S64 y) (hp : I64 p) : Calls Try.prog 4 #[.int .u64 (x : Int), .int .u64 (y : Int), .int .i64 p] w (Yes w) := by
  have HP := hide hp
  clear hp
  by_cases hxy : y < x
  · have HLF := hide (less_facts (x := y) (y := x) (by omega) (by assumption))
    have HC := hide (fun k => var.vtake_cut x k)
    have h1 : (var.vput y).length ≤ 10 := by have := HLF.out; omega
    have h2 : (var.vput x).length ≤ 10 := by have := HLF.out; omega
    have H1 := hide h1
    have H2 := hide h2
    have H8 := hide (var.vput8 x)
    clear hx hy h1 h2
    go_enter Try.func4, Try.ntmps4
    go_wp2_with fail
    refine (shown_any _).mono ?_
    rintro e w1 ⟨rfl, hb1⟩
    go_wp2_with fail
    refine (put_any _ none 0 0 [] y rfl (by omega) Row.none_ H1.out).mono ?_
    rintro e w2 ⟨v2, rfl, hown2, hb2⟩
    rw [Nat.zero_add, List.nil_append] at hown2
    obtain ⟨A2, c2, rfl, hc2, hc2'⟩ := own_form hown2
    go_wp2_with fail
    refine (put_any _ none 0 0 [] x rfl (by omega) Row.none_ H2.out).mono ?_
    rintro e w3 ⟨v3, rfl, hown3, hb3⟩
    rw [Nat.zero_add, List.nil_append] at hown3
    obtain ⟨A3, c3, rfl, hc3, hc3'⟩ := own_form hown3
    have HRow := hide (fun k => cut_world hown3 k)
    have HLT := hide (fun (k : Nat) (h : k ≤ (var.vput x).length) => show ((var.vput x).take k).length = k by rw [List.length_take]; omega)
    obtain ⟨q1, q2, q3⟩ := HLF.out
    clear hown2 hown3
    generalize var.vput x = L at *
    generalize (var.vput y).length = m at *
    obtain ⟨n, hn⟩ : ∃ n, n = L.length := ⟨_, rfl⟩
    rw [← hn] at q2 q3 hc3 ⊢
    have HN := hide hn
    clear hn HLF
    by_cases hcut : p < 0 ∨ (n : Int) ≤ p
    · rcases hcut with h0 | h0
      · go_wp2_with fail
        go_ret
        exact ⟨rfl, Le.trans (Le.trans hb1 hb2) hb3⟩
      · by_cases h00 : p < 0
        · exfalso; omega
        · go_wp2_with fail
          go_ret
          exact ⟨rfl, Le.trans (Le.trans hb1 hb2) hb3⟩
    · obtain ⟨k, rfl⟩ : ∃ k : Nat, p = (k : Int) := ⟨p.toNat, by omega⟩
      have hk : k < n := by omega
      clear hcut
      have T := tk_none (HC.out k (by rw [← HN.out]; exact hk))
      have T3 := hide T.2.2
      clear T
      go_wp2_with fail
      refine (take_any _ A3 k c3 (L.take k) (HLT.out k (by rw [← HN.out]; omega)) (by omega) (by omega) hc3' (take8 H8.out k) (HRow.out k)).mono ?_
      rintro e w4 ⟨v4, rfl, hown4, hb4⟩
      rw [T3.out]
      go_wp2_with fail
      go_ret
      exact ⟨rfl, Le.trans (Le.trans (Le.trans hb1 hb2) hb3) hb4⟩
  · have HLF := hide (less_facts (x := x) (y := y) (by omega) (by assumption))
    have HC := hide (fun k => var.vtake_cut y k)
    have h1 : (var.vput x).length ≤ 10 := by have := HLF.out; omega
    have h2 : (var.vput y).length ≤ 10 := by have := HLF.out; omega
    have H1 := hide h1
    have H2 := hide h2
    have H8 := hide (var.vput8 y)
    clear hx hy h1 h2
    go_enter Try.func4, Try.ntmps4
    go_wp2_with fail
    refine (shown_any _).mono ?_
    rintro e w1 ⟨rfl, hb1⟩
    go_wp2_with fail
    refine (put_any _ none 0 0 [] x rfl (by omega) Row.none_ H1.out).mono ?_
    rintro e w2 ⟨v2, rfl, hown2, hb2⟩
    rw [Nat.zero_add, List.nil_append] at hown2
    obtain ⟨A2, c2, rfl, hc2, hc2'⟩ := own_form hown2
    go_wp2_with fail
    refine (put_any _ none 0 0 [] y rfl (by omega) Row.none_ H2.out).mono ?_
    rintro e w3 ⟨v3, rfl, hown3, hb3⟩
    rw [Nat.zero_add, List.nil_append] at hown3
    obtain ⟨A3, c3, rfl, hc3, hc3'⟩ := own_form hown3
    have HRow := hide (fun k => cut_world hown3 k)
    have HLT := hide (fun (k : Nat) (h : k ≤ (var.vput y).length) => show ((var.vput y).take k).length = k by rw [List.length_take]; omega)
    obtain ⟨q1, q2, q3⟩ := HLF.out
    clear hown2 hown3
    generalize var.vput y = L at *
    generalize (var.vput x).length = m at *
    obtain ⟨n, hn⟩ : ∃ n, n = L.length := ⟨_, rfl⟩
    rw [← hn] at q2 q3 hc3 ⊢
    have HN := hide hn
    clear hn HLF
    by_cases hcut : p < 0 ∨ (n : Int) ≤ p
    · rcases hcut with h0 | h0
      · go_wp2_with fail
        go_ret
        exact ⟨rfl, Le.trans (Le.trans hb1 hb2) hb3⟩
      · by_cases h00 : p < 0
        · exfalso; omega
        · go_wp2_with fail
          go_ret
          exact ⟨rfl, Le.trans (Le.trans hb1 hb2) hb3⟩
    · obtain ⟨k, rfl⟩ : ∃ k : Nat, p = (k : Int) := ⟨p.toNat, by omega⟩
      have hk : k < n := by omega
      clear hcut
      have T := tk_none (HC.out k (by rw [← HN.out]; exact hk))
      have T3 := hide T.2.2
      clear T
      go_wp2_with fail
      refine (take_any _ A3 k c3 (L.take k) (HLT.out k (by rw [← HN.out]; omega)) (by omega) (by omega) hc3' (take8 H8.out k) (HRow.out k)).mono ?_
      rintro e w4 ⟨v4, rfl, hown4, hb4⟩
      rw [T3.out]
      go_wp2_with fail
      go_ret
      exact ⟨rfl, Le.trans (Le.trans (Le.trans hb1 hb2) hb3) hb4⟩
theorem less_wf (w : World) (x y p : Int) (hx : (Lit.int .u64 x).wf = true) (hy : (Lit.int .u64 y).wf = true) (hp : (Lit.int .i64 p).wf = true) : Calls Try.prog 4 #[.int .u64 x, .int .u64 y, .int .i64 p] w (Yes w) := by
  obtain ⟨x, gx, rfl⟩ := u64_of_wf hx
  obtain ⟨y, gy, rfl⟩ := u64_of_wf hy
  exact less_walk w x y p gx gy (i64_of_wf hp)
#print axioms less_wf
end Go.Proofs.Ytkhdkfpgalcehaa
