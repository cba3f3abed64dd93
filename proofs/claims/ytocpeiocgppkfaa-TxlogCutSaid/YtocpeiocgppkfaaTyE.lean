/-
  Records, walked: the law on what is laid down and taken.
-/
import Derived.Test.YtocpeiocgppkfaaTyD
import Derived.Test.YtocpeiocgppkfaaTxF
namespace Go.Proofs.Ytocpeiocgppkfaa
open Go.RowKit
set_option linter.unusedVariables false

theorem put8 (op id : Int) : ∀ x ∈ (ty.put op id).1, x < 256 := by
  by_cases h : ty.May op id
  · rw [ty.put_may h]; exact ty.lay8 (ty.may_s64 h).1 (ty.may_s64 h).2
  · rw [ty.put_not h]; simp
theorem put_len (op id : Int) : (ty.put op id).1.length ≤ 45 := by
  by_cases h : ty.May op id
  · rw [ty.put_may h]
    have := ty.body_len (ty.may_s64 h).1 (ty.may_s64 h).2
    have h2 := ty.sealed_len op.toNat id.toNat
    show (ty.sealed op.toNat id.toNat).length + 1 ≤ 45
    omega
  · rw [ty.put_not h]; simp

set_option maxHeartbeats 4000000 in
theorem samer_any (w : World) (A1 A2 : Option Addr) (n c1 c2 : Nat) (l : List (Int × Int)) (hl : l.length = n) (hn : n ≤ 1000000000) (hr1 : Row w w.heap.size A1 (rcs l)) (hr2 : Row w w.heap.size A2 (rcs l)) :
    Calls Try.prog 22 #[.slice A1 n c1, .slice A2 n c2] w fun e w' => e = .returned (.bool true) ∧ Below w.heap.size w w' := by
  have HL := hide hl
  clear hl
  go_enter Try.func22, Try.ntmps22
  go_wp2_with fail
  go_loopw [5] (fun i wr => ∃ k q : Nat, k ≤ n ∧ i = .int .i64 k ∧ wr = w.drewN q) (fun i _ => n - (intOf i).toNat)
  case atStart => exact ⟨0, 0, Nat.zero_le _, rfl, rfl⟩
  case round =>
    obtain ⟨k, q, hk, rfl, rfl⟩ := hrel
    by_cases hkn : k < n
    · obtain ⟨⟨op, id⟩, hx⟩ : ∃ x, l[k]? = some x := ⟨_, List.getElem?_eq_getElem (by rw [HL.out]; exact hkn)⟩
      obtain ⟨b1, o1, rfl, hb1, hx1⟩ := hr1.at_ (rcs_at hx).1
      obtain ⟨bB, oB, e2, hbB, hy1⟩ := hr1.at_ (rcs_at hx).2
      injection e2 with e2
      injection e2 with e2 e3 e4
      subst e2
      subst e3
      obtain ⟨b2, o2, rfl, hb2, hx2⟩ := hr2.at_ (rcs_at hx).1
      obtain ⟨bB, oB, e2, hbB2, hy2⟩ := hr2.at_ (rcs_at hx).2
      injection e2 with e2
      injection e2 with e2 e3 e5
      subst e2
      subst e3
      obtain ⟨V, hV⟩ : ∃ V, (w.drewN q).drew = V := ⟨_, rfl⟩
      have HV := hide hV
      clear hV hx
      have g1 : ∀ W', Le V W' → W'.cell? ⟨b1, o1 + k * 2, none⟩ = some (.int .i64 op) := later_cell HV.out hb1 hx1
      have g2 : ∀ W', Le V W' → W'.cell? ⟨b1, o1 + k * 2 + 1, none⟩ = some (.int .i64 id) := later_cell HV.out hbB hy1
      have g3 : ∀ W', Le V W' → W'.cell? ⟨b2, o2 + k * 2, none⟩ = some (.int .i64 op) := later_cell HV.out hb2 hx2
      have g4 : ∀ W', Le V W' → W'.cell? ⟨b2, o2 + k * 2 + 1, none⟩ = some (.int .i64 id) := later_cell HV.out hbB2 hy2
      clear hx1 hx2 hy1 hy2 e4 e5
      go_wp2_with fail
      refine region_pi [(0, true), (1, true), (2, true), (3, true), (4, true), (5, true), (6, true), (7, true), (8, true), (9, true), (10, true), (11, true), (12, true), (13, true), (14, true), (15, true), (16, true), (17, true), (18, true), (19, true), (20, true), (21, true), (22, true), (23, true)] (by kernel_rfl) (by kernel_rfl) ?_
      simp only [opsPi, List.filterMap_cons, List.filterMap_nil, List.getElem?_toArray, List.getElem?_cons_zero, List.getElem?_cons_succ, Option.map_some]
      rw [HV.out]
      repeat (first | (refine pi_take (v := _) rfl (fun W hW => by go_simp <;> exact rfl) ?_; simp only [Act.put, List.setIfInBounds_toArray, List.set_cons_zero, List.set_cons_succ]) | (refine pi_skip rfl ?_; simp only [Act.put, List.setIfInBounds_toArray, List.set_cons_zero, List.set_cons_succ]))
      refine pi_done ?_
      rw [← HV.out, World.drew_drewN]
      go_wp2_with fail
      exact ⟨⟨k + 1, _, by omega, by go_num, rfl⟩, by simp [intOf]; omega⟩
    · obtain rfl : k = n := by omega
      go_wp2_with fail
      go_ret
      exact ⟨rfl, below_drewN (Below.refl _ _) _⟩
#print axioms samer_any

set_option maxHeartbeats 8000000 in
theorem bytes_walk (w : World) (op id : Int) (A : Option Addr) (n c : Nat) (l : List Nat) (hl : l.length = n) (hnc : n ≤ c) (hc : c ≤ maxLen) (h8 : ∀ x ∈ l, x < 256) (hr : Row w w.heap.size A (u8s l)) :
    Calls Try.prog 5 #[.agg #[.int .i64 op, .int .i64 id], .slice A n c] w fun e w' => e = .returned (.bool true) ∧ Below w.heap.size w w' := by
  obtain ⟨m, hm⟩ : ∃ m, min n 1000 = m := ⟨_, rfl⟩
  have HL := hide (show (l.take 1000).length = m by rw [List.length_take, hl, ← hm]; omega)
  have H8 := hide (take8 h8 1000)
  have hr2 := hr.take 1000
  rw [u8s_take] at hr2
  generalize l.take 1000 = l2 at HL H8 hr2
  have hm1 : m ≤ n := by omega
  have hm2 : m ≤ 1000 := by omega
  have hcm : c ≤ 9223372036854775807 := hc
  clear hr h8 hl
  obtain ⟨W, hW⟩ : ∃ W, w.alloc (.cells #[.int .i64 op, .int .i64 id] 25) = W := ⟨_, rfl⟩
  have bx : Box W w.heap.size #[.int .i64 op, .int .i64 id] 25 := by rw [← hW]; exact box_new _ _ _
  have hLW : Le w W := by rw [← hW]; exact (Below.refl _ _).alloc (Nat.le_refl _) _
  have HW := hide hW
  have HLW := hide hLW
  have HBX := hide bx
  have HR := hide hr2
  clear hW hLW bx hr2
  go_enter Try.func5, Try.ntmps5
  go_wp2_with fail
  rw [HW.out]
  refine (shown_any W).mono ?_
  rintro e w1 ⟨rfl, hb1⟩
  have HB1 := hide hb1
  clear hb1
  have hz := zero_tab
  have hcase : (1000 < n ∧ m = 1000) ∨ (¬ 1000 < n ∧ n = m) := by omega
  clear hm
  rcases hcase with ⟨h1000, rfl⟩ | ⟨h1000, rfl⟩
  all_goals
    have HM2 := hide hm2
    go_wp2_with (first
      | (go_at_call 17; refine (new_any _).mono ?_; rintro e w2 ⟨rfl, hb2⟩)
      | (refine wpList_store_row rfl 44 _ _ rfl w2.heap.size (u32s tab).toArray rfl rfl 44 zeros (heap_alloc_new _ _) info_tab (by simp [u32s, tab, zeros, part]) u32s_one ?_; obtain ⟨W2, hW2, ht1, hb3, hs2, hs3⟩ := tab_world (HB1.out.trans (hb2.mono HB1.out.size)); rw [hW2]; obtain ⟨b, hb⟩ : ∃ b, b = w2.heap.size := ⟨_, rfl⟩; rw [← hb] at ht1 hs2 ⊢; clear hb hW2 hb2 hs3; have HT := hide ht1; have HL2 := hide (show Le w W2 from HLW.out.trans hb3); have bx2 := HBX.out.below hb3 HBX.out.lt; have x0 := bx2.cell 0 (.int .i64 op) rfl; have x1 := bx2.cell 1 (.int .i64 id) rfl; have HBX2 := hide bx2; clear ht1 hb3 bx2))
    clear hz
    obtain ⟨P, hP⟩ : ∃ P, ty.put op id = P := ⟨_, rfl⟩
    obtain ⟨pl, hpl⟩ : ∃ pl, P.1.length = pl := ⟨_, rfl⟩
    have hp45 := put_len op id
    have HP8 := hide (put8 op id)
    rw [hP] at hp45 HP8
    rw [hpl] at hp45
    refine (txput_any W2 b op id hs2 HT.out).mono ?_
    rintro e w3 ⟨v3, rfl, hown3, hb3⟩
    rw [hP, hpl] at hown3
    rw [hP]
    obtain ⟨A3, c3, rfl, -, -⟩ := own_form hown3
    have HR3 := hide (Row.of_own hown3)
    have HL23 := hide (show Le W2 w3 from hb3)
    have bx3 := HBX2.out.below hb3 HBX2.out.lt
    have y0 := bx3.cell 0 (.int .i64 op) rfl
    have y1 := bx3.cell 1 (.int .i64 id) rfl
    clear hown3 hb3 bx3 x0 x1
    go_wp2_with fail
    refine (reftxput_any w3 op id).mono ?_
    rintro e w4 ⟨v4, rfl, hown4, hb4⟩
    rw [hP, hpl] at hown4
    rw [hP]
    obtain ⟨A4, c4, rfl, -, -⟩ := own_form hown4
    have HR4 := hide (Row.of_own hown4)
    have HL34 := hide (show Le w3 w4 from hb4)
    have HL4 := hide (show Le w w4 from HL2.out.trans (HL23.out.trans hb4))
    have hs4 : b < w4.heap.size := by have := HL23.out.size; have := hb4.size; omega
    have HT4 := hide (hasTab_below HT.out (HL23.out.trans hb4) hs2)
    clear hown4 hb4 y0 y1
    go_wp2_with (at_builtin; refine wpList_append_row _ rfl (.tmp 38) (.tmp 39) 41 rfl w4.heap.size 5 info8 Try.underlying41 rfl (by omega) _ 0 [] rfl (World.ownsRow_lit _ #[] 0 (Nat.le_refl _) (by simp) rfl) w.heap.size A _ c (u8s l2) rfl (by rw [u8s_len, HL.out, Nat.mul_one]) ((HL4.out.row HR.out (Nat.le_refl _)).alloc HL4.out.size _) u8s_one (by simp only [maxLen]; omega) (by omega) (by simp) ?_; intro v5 w5 hown5 hg5 hat5; rw [Nat.zero_add, List.nil_append] at hown5; obtain ⟨A5, c5, rfl, hc5, hc5'⟩ := own_form hown5; have HL45 := hide (show Le w4 w5 from ((Below.refl _ _).alloc (Nat.le_refl _) _).grown hg5 (by simp) (fun g hg => blk_ge hg (Nat.le_refl _))); have HR5 := hide (Row.of_own hown5); clear hown5 hg5 hat5)
    have hs5 : b < w5.heap.size := by have := HL45.out.size; omega
    obtain ⟨T, hT⟩ : ∃ T, ty.take l2 = T := ⟨_, rfl⟩
    obtain ⟨tl, htl⟩ : ∃ tl, T.1.length = tl := ⟨_, rfl⟩
    have hT1 := ty.take_le l2
    rw [hT, HL.out, htl] at hT1
    refine (txtake_any w5 b A5 _ c5 l2 HL.out (by omega) hc5 hc5' H8.out hs5 (hasTab_below HT4.out HL45.out hs4) HR5.out).mono ?_
    rintro e w6 ⟨v6, rfl, hown6, hb6⟩
    rw [hT, htl] at hown6
    rw [hT]
    obtain ⟨A6, c6, rfl, -, -⟩ := own_form hown6
    have HR6 := hide (Row.of_own hown6)
    have HL46 := hide (show Le w4 w6 from HL45.out.trans hb6)
    have HL6 := hide (show Le w w6 from HL4.out.trans HL46.out)
    clear hown6 hb6
    go_wp2_with fail
    refine (reftxtake_any w6 A _ c l2 HL.out (by omega) (by omega) hc H8.out (HR.out.le HL6.out)).mono ?_
    rintro e w7 ⟨v7, rfl, hown7, hb7⟩
    rw [hT, htl] at hown7
    rw [hT]
    obtain ⟨A7, c7, rfl, -, -⟩ := own_form hown7
    have HR7 := hide (Row.of_own hown7)
    have HL67 := hide (show Le w6 w7 from hb7)
    clear hown7 hb7
    go_wp2_with fail
    refine (samer_any w7 A6 A7 tl c6 c7 T.1 htl (by omega) (HR6.out.le HL67.out) HR7.out).mono ?_
    rintro e w8 ⟨rfl, hb8⟩
    have HL8 := hide (show Le w w8 from HL6.out.trans (HL67.out.trans hb8))
    have L48 : Le w4 w8 := HL46.out.trans (HL67.out.trans hb8)
    have L38 : Le w3 w8 := HL34.out.trans L48
    have q0 := conv8 w8 w8.heap.size A3 pl c3 P.1 hpl HP8.out (HR3.out.le L38)
    have q1 := conv8 w8 w8.heap.size A4 pl c4 P.1 hpl HP8.out (HR4.out.le L48)
    obtain ⟨sP, hsP⟩ : ∃ s, str P.1 = s := ⟨_, rfl⟩
    rw [hsP] at q0 q1
    clear hb8 L48 L38 hT1 hsP
    go_wp2_with fail
    go_ret
    exact ⟨rfl, HL8.out⟩
#print axioms bytes_walk
end Go.Proofs.Ytocpeiocgppkfaa
