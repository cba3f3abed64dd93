/-
  The law on what is put, walked.
-/
import Derived.Test.YtkhdkfpgalcehaaVarH
import Derived.Test.YtkhdkfpgalcehaaRegion
namespace Go.Proofs.Ytkhdkfpgalcehaa
open Go.RowKit
set_option linter.unusedVariables false

theorem put_pack {l2 : List Nat} {m N : Nat} (hl : l2.length = m) (h8 : ∀ x ∈ l2, x < 256) (hN : var.S64 N) :
    ∃ k E, k = m + (var.vput N).length ∧ E = l2 ++ var.vput N ∧ E.length = k ∧ (∀ x ∈ E, x < 256) ∧ k ≤ m + 10 :=
  ⟨_, _, rfl, rfl, by simp [hl], fun x hx => (List.mem_append.1 hx).elim (h8 x) (var.vput8 N x), by have := var.vput_len10 hN; omega⟩

set_option maxRecDepth 100000 in
set_option maxHeartbeats 4000000 in
theorem puts_walk (w : World) (A : Option Addr) (n c : Nat) (l : List Nat) (x : Nat) (p : Int) (hl : l.length = n) (hnc : n ≤ c) (hc : c ≤ maxLen) (h8 : ∀ x ∈ l, x < 256) (hr : Row w w.heap.size A (u8s l)) (hx : var.S64 x) (hp : I64 p) :
    Calls Try.prog 5 #[.slice A n c, .int .u64 (x : Int), .int .i64 p] w (Yes w) := by
  have H8 := hide (take8 h8 300)
  have HL := hide (show (l.take 300).length = min n 300 by rw [List.length_take, hl]; omega)
  have hr2 := hr.take 300
  rw [u8s_take] at hr2
  generalize l.take 300 = l2 at H8 HL hr2
  clear h8 hl hr
  have hm1 : min n 300 ≤ 300 := Nat.min_le_right _ _
  have hm2 : min n 300 ≤ c := by omega
  have HX := hide hx
  have HP := hide hp
  clear hx hp
  go_enter Try.func5, Try.ntmps5
  go_wp2_with fail
  refine (shown_any _).mono ?_
  rintro e w1 ⟨rfl, hb1⟩
  go_wp2_with fail
  refine (few_any _ A n c hnc hc).mono ?_
  rintro e w' ⟨rfl, rfl⟩
  generalize min n 300 = m at HL hm1 hm2 ⊢
  have z1 := hb1.size
  obtain ⟨kx, Ex, hkx, hEx, hlx, h8x, hkx2⟩ := put_pack HL.out H8.out HX.out
  obtain ⟨ks, Es, hks, hEs, hls, h8s, hks2⟩ := put_pack HL.out H8.out (snum_s64 HP.out true)
  obtain ⟨ku, Eu, hku, hEu, hlu, h8u, hku2⟩ := put_pack HL.out H8.out (snum_s64 HP.out false)
  have Kx := hide hkx
  have Ks := hide hks
  have Ku := hide hku
  have Gx := hide hEx
  have Gs := hide hEs
  have Gu := hide hEu
  have Lx := hide hlx
  have Ls := hide hls
  have Lu := hide hlu
  have Bx := hide h8x
  have Bs := hide h8s
  have Bu := hide h8u
  clear hkx hks hku hEx hEs hEu hlx hls hlu h8x h8s h8u
  go_wp2_with (at_builtin; refine wpList_append_row _ rfl (.tmp 15) (.tmp 16) 27 rfl w1.heap.size 5 info8 Try.underlying27 rfl (by omega) _ 0 [] rfl (World.ownsRow_lit _ #[] 0 (Nat.le_refl _) (by simp) rfl) w.heap.size A m c (u8s l2) rfl (by rw [u8s_len, HL.out, Nat.mul_one]) ((hr2.below hb1 (Nat.le_refl _)).alloc hb1.size _) u8s_one (by simp only [maxLen]; omega) (by omega) (by simp) ?_; intro v2 w2 hown2 hg2 hat2; rw [Nat.zero_add, List.nil_append] at hown2; obtain ⟨A2, c2, rfl, hc2, hc2'⟩ := own_form hown2; have hb2 : Below w1.heap.size w1 w2 := ((Below.refl _ _).alloc (Nat.le_refl _) _).grown hg2 (by simp) (fun g hg => blk_ge hg (Nat.le_refl _)); have HR2 := hide (Row.of_own hown2); clear hown2 hg2 hat2)
  have L2 : Le w w2 := Le.trans hb1 hb2
  have r2 := HR2.out
  have s2 : Row w2 w2.heap.size A (u8s l2) := (L2.row hr2 (Nat.le_refl _)).more L2.size
  clear hr2 HR2 hb1 hb2 z1
  refine region_pi [(0, true), (1, true), (4, true), (5, true), (2, false), (3, true), (6, false), (7, true), (8, true), (9, true)] (by kernel_rfl) (by kernel_rfl) ?_
  simp only [opsPi, List.filterMap_cons, List.filterMap_nil, List.getElem?_toArray, List.getElem?_cons_zero, List.getElem?_cons_succ, Option.map_some]
  repeat (refine pi_take (v := _) rfl (fun W hW => by go_simp <;> exact rfl) ?_; simp only [Act.put, List.setIfInBounds_toArray, List.set_cons_zero, List.set_cons_succ])
  refine pi_run ?_
  go_wp2_with fail
  refine (put_any w2.drew A2 m c2 l2 x HL.out (by omega) r2.drew (var.vput_len10 HX.out)).mono ?_
  rintro e w3 ⟨v3, rfl, hown3, hb3⟩
  rw [← Kx.out, ← Gx.out] at hown3
  obtain ⟨A3, c3, rfl, hc3, -⟩ := own_form hown3
  have HR3 := hide (Row.of_own hown3)
  clear hown3
  go_wp2_with fail
  refine ⟨hb3, ?_⟩
  have L3 : Le w2 w3 := below_undrew hb3
  have s3 : Row w3 w3.heap.size A (u8s l2) := (L3.row s2 (Nat.le_refl _)).more L3.size
  have q1 : ∀ W, Le w3 W → (convert 27 9 (.slice A3 kx c3)).run Try.prog W = .ok (.string (str Ex)) W := fun W hW => conv8 W w3.heap.size A3 kx c3 Ex Lx.out Bx.out (hW.row HR3.out (Nat.le_refl _))
  clear hb3
  repeat (refine pi_take (v := _) rfl (fun W hW => by go_simp <;> exact rfl) ?_; simp only [Act.put, List.setIfInBounds_toArray, List.set_cons_zero, List.set_cons_succ])
  refine pi_run ?_
  go_wp2_with fail
  refine (refput_any w3 A m c l2 x HL.out (by omega) s3 HX.out).mono ?_
  rintro e w4 ⟨v4, rfl, hown4, hb4⟩
  rw [← Kx.out, ← Gx.out] at hown4
  obtain ⟨A4, c4, rfl, hc4, -⟩ := own_form hown4
  have HR4 := hide (Row.of_own hown4)
  clear hown4 q1
  go_wp2_with fail
  refine ⟨hb4, ?_⟩
  have L4 : Le w2 w4 := Le.trans L3 hb4
  have s4 : Row w4 w4.heap.size A (u8s l2) := (L4.row s2 (Nat.le_refl _)).more L4.size
  have r4 : Row w4 w4.heap.size A2 (u8s l2) := (L4.row r2 (Nat.le_refl _)).more L4.size
  have q2 : ∀ W, Le w4 W → (convert 27 9 (.slice A4 kx c4)).run Try.prog W = .ok (.string (str Ex)) W := fun W hW => conv8 W w4.heap.size A4 kx c4 Ex Lx.out Bx.out (hW.row HR4.out (Nat.le_refl _))
  repeat (refine pi_take (v := _) rfl (fun W hW => by go_simp <;> exact rfl) ?_; simp only [Act.put, List.setIfInBounds_toArray, List.set_cons_zero, List.set_cons_succ])
  refine pi_done ?_
  have M4 : Le w w4 := Le.trans L2 L4
  clear q2 s2 s3 r2 L3 L4 hb4 HR3 HR4
  go_wp2_with fail
  refine region_pi [(0, true), (1, true), (4, true), (5, true), (2, false), (3, true), (6, false), (7, true), (8, true), (9, true)] (by kernel_rfl) (by kernel_rfl) ?_
  simp only [opsPi, List.filterMap_cons, List.filterMap_nil, List.getElem?_toArray, List.getElem?_cons_zero, List.getElem?_cons_succ, Option.map_some]
  repeat (refine pi_take (v := _) rfl (fun W hW => by go_simp <;> exact rfl) ?_; simp only [Act.put, List.setIfInBounds_toArray, List.set_cons_zero, List.set_cons_succ])
  refine pi_run ?_
  go_wp2_with fail
  refine (putint_any w4.drew A2 m c2 l2 p true HL.out (by omega) r4.drew HP.out).mono ?_
  rintro e w5 ⟨v5, rfl, hown5, hb5⟩
  rw [← Ks.out, ← Gs.out] at hown5
  obtain ⟨A5, c5, rfl, hc5, -⟩ := own_form hown5
  have HR5 := hide (Row.of_own hown5)
  clear hown5
  go_wp2_with fail
  refine ⟨hb5, ?_⟩
  have L5 : Le w4 w5 := below_undrew hb5
  have s5 : Row w5 w5.heap.size A (u8s l2) := (L5.row s4 (Nat.le_refl _)).more L5.size
  have q1 : ∀ W, Le w5 W → (convert 27 9 (.slice A5 ks c5)).run Try.prog W = .ok (.string (str Es)) W := fun W hW => conv8 W w5.heap.size A5 ks c5 Es Ls.out Bs.out (hW.row HR5.out (Nat.le_refl _))
  clear hb5
  repeat (refine pi_take (v := _) rfl (fun W hW => by go_simp <;> exact rfl) ?_; simp only [Act.put, List.setIfInBounds_toArray, List.set_cons_zero, List.set_cons_succ])
  refine pi_run ?_
  go_wp2_with fail
  refine (refputint_any w5 A m c l2 p true HL.out (by omega) s5 HP.out).mono ?_
  rintro e w6 ⟨v6, rfl, hown6, hb6⟩
  rw [← Ks.out, ← Gs.out] at hown6
  obtain ⟨A6, c6, rfl, hc6, -⟩ := own_form hown6
  have HR6 := hide (Row.of_own hown6)
  clear hown6 q1
  go_wp2_with fail
  refine ⟨hb6, ?_⟩
  have L6 : Le w4 w6 := Le.trans L5 hb6
  have s6 : Row w6 w6.heap.size A (u8s l2) := (L6.row s4 (Nat.le_refl _)).more L6.size
  have r6 : Row w6 w6.heap.size A2 (u8s l2) := (L6.row r4 (Nat.le_refl _)).more L6.size
  have q2 : ∀ W, Le w6 W → (convert 27 9 (.slice A6 ks c6)).run Try.prog W = .ok (.string (str Es)) W := fun W hW => conv8 W w6.heap.size A6 ks c6 Es Ls.out Bs.out (hW.row HR6.out (Nat.le_refl _))
  repeat (refine pi_take (v := _) rfl (fun W hW => by go_simp <;> exact rfl) ?_; simp only [Act.put, List.setIfInBounds_toArray, List.set_cons_zero, List.set_cons_succ])
  refine pi_done ?_
  have M6 : Le w w6 := Le.trans M4 L6
  clear q2 s4 s5 r4 L5 L6 hb6 HR5 HR6
  go_wp2_with fail
  refine region_pi [(0, true), (1, true), (4, true), (5, true), (2, false), (3, true), (6, false), (7, true), (8, true), (9, true)] (by kernel_rfl) (by kernel_rfl) ?_
  simp only [opsPi, List.filterMap_cons, List.filterMap_nil, List.getElem?_toArray, List.getElem?_cons_zero, List.getElem?_cons_succ, Option.map_some]
  repeat (refine pi_take (v := _) rfl (fun W hW => by go_simp <;> exact rfl) ?_; simp only [Act.put, List.setIfInBounds_toArray, List.set_cons_zero, List.set_cons_succ])
  refine pi_run ?_
  go_wp2_with fail
  refine (putint_any w6.drew A2 m c2 l2 p false HL.out (by omega) r6.drew HP.out).mono ?_
  rintro e w7 ⟨v7, rfl, hown7, hb7⟩
  rw [← Ku.out, ← Gu.out] at hown7
  obtain ⟨A7, c7, rfl, hc7, -⟩ := own_form hown7
  have HR7 := hide (Row.of_own hown7)
  clear hown7
  go_wp2_with fail
  refine ⟨hb7, ?_⟩
  have L7 : Le w6 w7 := below_undrew hb7
  have s7 : Row w7 w7.heap.size A (u8s l2) := (L7.row s6 (Nat.le_refl _)).more L7.size
  have q1 : ∀ W, Le w7 W → (convert 27 9 (.slice A7 ku c7)).run Try.prog W = .ok (.string (str Eu)) W := fun W hW => conv8 W w7.heap.size A7 ku c7 Eu Lu.out Bu.out (hW.row HR7.out (Nat.le_refl _))
  clear hb7
  repeat (refine pi_take (v := _) rfl (fun W hW => by go_simp <;> exact rfl) ?_; simp only [Act.put, List.setIfInBounds_toArray, List.set_cons_zero, List.set_cons_succ])
  refine pi_run ?_
  go_wp2_with fail
  refine (refputint_any w7 A m c l2 p false HL.out (by omega) s7 HP.out).mono ?_
  rintro e w8 ⟨v8, rfl, hown8, hb8⟩
  rw [← Ku.out, ← Gu.out] at hown8
  obtain ⟨A8, c8, rfl, hc8, -⟩ := own_form hown8
  have HR8 := hide (Row.of_own hown8)
  clear hown8 q1
  go_wp2_with fail
  refine ⟨hb8, ?_⟩
  have L8 : Le w6 w8 := Le.trans L7 hb8
  have s8 : Row w8 w8.heap.size A (u8s l2) := (L8.row s6 (Nat.le_refl _)).more L8.size
  have r8 : Row w8 w8.heap.size A2 (u8s l2) := (L8.row r6 (Nat.le_refl _)).more L8.size
  have q2 : ∀ W, Le w8 W → (convert 27 9 (.slice A8 ku c8)).run Try.prog W = .ok (.string (str Eu)) W := fun W hW => conv8 W w8.heap.size A8 ku c8 Eu Lu.out Bu.out (hW.row HR8.out (Nat.le_refl _))
  repeat (refine pi_take (v := _) rfl (fun W hW => by go_simp <;> exact rfl) ?_; simp only [Act.put, List.setIfInBounds_toArray, List.set_cons_zero, List.set_cons_succ])
  refine pi_done ?_
  have M8 : Le w w8 := Le.trans M6 L8
  clear q2 s6 s7 r6 L7 L8 hb8 HR7 HR8
  have q0 := conv8 w8 _ A m c l2 HL.out H8.out s8
  have q2 := conv8 w8 _ A2 m c2 l2 HL.out H8.out r8
  go_wp2_with fail
  go_ret
  exact ⟨rfl, M8⟩
theorem puts_wf (w : World) (A : Option Addr) (n c : Nat) (l : List Nat) (x p : Int) (hl : l.length = n) (hnc : n ≤ c) (hc : c ≤ maxLen) (h8 : ∀ x ∈ l, x < 256) (hr : Row w w.heap.size A (u8s l)) (hx : (Lit.int .u64 x).wf = true) (hp : (Lit.int .i64 p).wf = true) :
    Calls Try.prog 5 #[.slice A n c, .int .u64 x, .int .i64 p] w (Yes w) := by
  obtain ⟨x, gx, rfl⟩ := u64_of_wf hx
  exact puts_walk w A n c l x p hl hnc hc h8 hr gx (i64_of_wf hp)
#print axioms puts_wf
end Go.Proofs.Ytkhdkfpgalcehaa
