/-
  The law on what is taken, walked.
-/
import Derived.Test.YtkhdkfpgalcehaaVarH
import Derived.Test.YtkhdkfpgalcehaaShape
namespace Go.Proofs.Ytkhdkfpgalcehaa
open Go.RowKit
set_option linter.unusedVariables false

set_option maxRecDepth 100000 in
set_option maxHeartbeats 4000000 in
theorem takes_walk (w : World) (A : Option Addr) (n c : Nat) (l : List Nat) (s : Bool) (hl : l.length = n) (hnc : n ≤ c) (hc : c ≤ maxLen) (h8 : ∀ x ∈ l, x < 256) (hr : Row w w.heap.size A (u8s l)) :
    Calls Try.prog 6 #[.slice A n c, .bool s] w (Yes w) := by
  have H8 := hide (take8 h8 300)
  have HL := hide (show (l.take 300).length = min n 300 by rw [List.length_take, hl]; omega)
  have hr2 := hr.take 300
  rw [u8s_take] at hr2
  generalize l.take 300 = l2 at H8 HL hr2
  clear h8 hl hr
  have hm1 : min n 300 ≤ 300 := Nat.min_le_right _ _
  have hm2 : min n 300 ≤ c := by omega
  go_enter Try.func6, Try.ntmps6
  go_wp2_with fail
  refine (shown_any _).mono ?_
  rintro e w1 ⟨rfl, hb1⟩
  go_wp2_with fail
  refine (few_any _ A n c hnc hc).mono ?_
  rintro e w' ⟨rfl, rfl⟩
  generalize min n 300 = m at HL hm1 hm2 ⊢
  have z1 := hb1.size
  go_wp2_with (at_builtin; refine wpList_append_row _ rfl (.tmp 22) (.tmp 23) 27 rfl w1.heap.size 5 info8 Try.underlying27 rfl (by omega) _ 0 [] rfl (World.ownsRow_lit _ #[] 0 (Nat.le_refl _) (by simp) rfl) w.heap.size A m c (u8s l2) rfl (by rw [u8s_len, HL.out, Nat.mul_one]) ((hr2.below hb1 (Nat.le_refl _)).alloc hb1.size _) u8s_one (by simp only [maxLen]; omega) (by omega) (by simp) ?_; intro v2 w2 hown2 hg2 hat2; rw [Nat.zero_add, List.nil_append] at hown2; obtain ⟨A2, c2, rfl, hc2, hc2'⟩ := own_form hown2; have hb2 : Below w1.heap.size w1 w2 := ((Below.refl _ _).alloc (Nat.le_refl _) _).grown hg2 (by simp) (fun g hg => blk_ge hg (Nat.le_refl _)); have HR2 := hide (Row.of_own hown2); clear hown2 hg2 hat2)
  refine (take_any _ A2 m c2 l2 HL.out (by omega) hc2 hc2' H8.out HR2.out).mono ?_
  rintro e w3 ⟨v3, rfl, hown3, hb3⟩
  obtain ⟨A3, c3, rfl, hc3, -⟩ := own_form hown3
  have HR3 := hide (Row.of_own hown3)
  clear hown3
  have L13 : Le w1 w3 := Le.trans hb2 hb3
  have L03 : Le w w3 := Le.trans hb1 L13
  have hr3 : Row w3 w3.heap.size A (u8s l2) := (L03.row hr2 (Nat.le_refl _)).more L03.size
  go_wp2_with fail
  refine (reftake_any _ A m c l2 HL.out (by omega) hm2 hc H8.out hr3).mono ?_
  rintro e w4 ⟨v4, rfl, hown4, hb4⟩
  obtain ⟨A4, c4, rfl, hc4, -⟩ := own_form hown4
  have HR4 := hide (Row.of_own hown4)
  clear hown4
  have L24 : Le w2 w4 := Le.trans hb3 hb4
  have hr4 : Row w4 w4.heap.size A2 (u8s l2) := (L24.row HR2.out (Nat.le_refl _)).more L24.size
  go_wp2_with fail
  refine (takeint_any _ A2 m c2 l2 s HL.out (by omega) hc2 hc2' H8.out hr4).mono ?_
  rintro e w5 ⟨v5, rfl, hown5, hb5⟩
  obtain ⟨A5, c5, rfl, hc5, -⟩ := own_form hown5
  have HR5 := hide (Row.of_own hown5)
  clear hown5
  have L05 : Le w w5 := Le.trans L03 (Le.trans hb4 hb5)
  have hr5 : Row w5 w5.heap.size A (u8s l2) := (L05.row hr2 (Nat.le_refl _)).more L05.size
  go_wp2_with fail
  refine (reftakeint_any _ A m c l2 s HL.out (by omega) hm2 hc H8.out hr5).mono ?_
  rintro e w6 ⟨v6, rfl, hown6, hb6⟩
  obtain ⟨A6, c6, rfl, hc6, -⟩ := own_form hown6
  have HR6 := hide (Row.of_own hown6)
  clear hown6
  have L56 : Le w5 w6 := hb6
  have L46 : Le w4 w6 := Le.trans hb5 hb6
  have L36 : Le w3 w6 := Le.trans hb4 L46
  have L26 : Le w2 w6 := Le.trans hb3 L36
  have L06 : Le w w6 := Le.trans L05 hb6
  have HB := hide L06
  have q0 := conv8 w6 _ A m c l2 HL.out H8.out (L06.row hr2 (Nat.le_refl _))
  have q2 := conv8 w6 _ A2 m c2 l2 HL.out H8.out (L26.row HR2.out (Nat.le_refl _))
  have q3 := conv8 w6 _ A3 _ c3 (tkR l2) rfl (tkR8 H8.out) (L36.row HR3.out (Nat.le_refl _))
  have q4 := conv8 w6 _ A4 _ c4 (tkR l2) rfl (tkR8 H8.out) (L46.row HR4.out (Nat.le_refl _))
  have q5 := conv8 w6 _ A5 _ c5 (itR s l2) rfl (itR8 s H8.out) (L56.row HR5.out (Nat.le_refl _))
  have q6 := conv8 w6 _ A6 _ c6 (itR s l2) rfl (itR8 s H8.out) HR6.out
  clear hr2 hr3 hr4 hr5 HR2 HR3 HR4 HR5 HR6 L13 L03 L24 L05 L56 L46 L36 L26 L06 hb1 hb2 hb3 hb4 hb5 hb6
  generalize tkX l2 = X at *
  generalize tkE l2 = E at *
  generalize itX s l2 = Y at *
  generalize itE s l2 = F at *
  go_wp2_with fail
  go_ret
  exact ⟨rfl, HB.out⟩
#print axioms takes_walk
end Go.Proofs.Ytkhdkfpgalcehaa
