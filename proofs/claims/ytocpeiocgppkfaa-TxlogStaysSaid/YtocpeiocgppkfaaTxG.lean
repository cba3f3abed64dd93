/-
  The law on what stays, walked.
-/
import Derived.Test.YtocpeiocgppkfaaTxF
namespace Go.Proofs.Ytocpeiocgppkfaa
open Go.RowKit
set_option linter.unusedVariables false

set_option maxRecDepth 100000 in
set_option maxHeartbeats 8000000 in
theorem stays_walk (w : World) (A : Option Addr) (n c : Nat) (l : List (Int × Int)) (hl : l.length = n) (hn : n ≤ 9223372036854775807) (hr : Row w w.heap.size A (rcs l)) :
    Calls Try.prog 4 #[.slice A n c] w fun e w' => e = .returned (.bool true) ∧ Below w.heap.size w w' := by
  have HL := hide hl
  have hN60 : min n 60 ≤ 60 := by omega
  have HL2 := hide (show (l.take 60).length = min n 60 by rw [List.length_take, hl]; omega)
  clear hl
  go_enter Try.func4, Try.ntmps4
  go_wp2_with fail
  refine (shown_any w).mono ?_
  rintro e w1 ⟨rfl, hb1⟩
  have HL1 := hide (show Le w w1 from hb1)
  clear hb1
  go_wp2_with fail
  obtain ⟨W, hW⟩ : ∃ W, w1.alloc (.cells #[] 3) = W := ⟨_, rfl⟩
  have hb : Le w1 W := by rw [← hW]; exact (Below.refl _ _).alloc (Nat.le_refl _) _
  rw [hW]
  have HLW := hide (HL1.out.trans hb)
  clear hW hb
  refine (ours_any W A n c l HL.out hn ((HLW.out.row hr (Nat.le_refl _)).more HLW.out.size)).mono ?_
  rintro e w2 ⟨v2, rfl, hown2, hb2⟩
  generalize l.take 60 = l2 at HL2 hown2
  generalize min n 60 = N at HL2 hown2 hN60
  obtain ⟨A2, c2, rfl, -, -⟩ := own_form hown2
  have HR2 := hide (Row.of_own hown2)
  have HL02 := hide (HLW.out.trans hb2)
  clear hown2 hb2 HL
  go_wp2_with fail
  go_loopw [4, 6] (fun v i wr => ∃ (k m c3 : Nat) (A3 : Option Addr) (s : List Int), k ≤ N ∧ i = .int .i64 k ∧ v = .slice A3 m c3 ∧ Hid (s.length = m) ∧ m ≤ k ∧ Hid (tx.opens s ≤ 8) ∧ Hid (Row wr wr.heap.size A3 (ints s)) ∧ Hid (Le w2 wr)) (fun _ i _ => N - (intOf i).toNat)
  case atStart => exact ⟨0, 0, 0, _, [], Nat.zero_le _, rfl, rfl, hide rfl, Nat.le_refl _, hide (by decide), hide Row.none_, hide (Le.refl _)⟩
  case round =>
    obtain ⟨k, m, c3, A3, s, hk, rfl, rfl, HM, hm, H8, HR3, HB⟩ := hrel
    have hz := HB.out.size
    by_cases hkn : k < N
    · obtain ⟨⟨op, id⟩, hx⟩ : ∃ x, l2[k]? = some x := ⟨_, List.getElem?_eq_getElem (by rw [HL2.out]; exact hkn)⟩
      obtain ⟨bA, oA, rfl, hbA, hc0⟩ := HR2.out.at_ (rcs_at hx).1
      obtain ⟨bB, oB, e2, hbB, hc1⟩ := HR2.out.at_ (rcs_at hx).2
      injection e2 with e2
      injection e2 with e2 e3 e4
      subst e2
      subst e3
      have hd0 : wr.cell? ⟨bA, oA + k * 2, none⟩ = some (.int .i64 op) := (HB.out.cell (p := ⟨bA, oA + k * 2, none⟩) hbA).trans hc0
      have hd1 : wr.cell? ⟨bA, oA + k * 2 + 1, none⟩ = some (.int .i64 id) := (HB.out.cell (p := ⟨bA, oA + k * 2 + 1, none⟩) hbA).trans hc1
      clear hx hc0 hc1 e4
      go_wp2_with fail
      refine (next_any wr A3 m c3 s op id HM.out (by omega) HR3.out).mono ?_
      rintro e w3 ⟨v3, rfl, hown3, hb3⟩
      have HST := hide (@tx.next_stays s op id)
      obtain ⟨E, hE⟩ : ∃ E, (tx.next s op id).2 = E := ⟨_, rfl⟩
      obtain ⟨t, ht⟩ : ∃ t, (tx.next s op id).1 = t := ⟨_, rfl⟩
      have HST2 := hide (show E = 0 → s.length ≤ t.length ∧ t.length ≤ s.length + 1 ∧ (∀ (k : Nat) (x : Int), s[k]? = some x → x ≠ 1 → t[k]? = some x) ∧ (tx.opens s ≤ 8 → tx.opens t ≤ 8) from by rw [← hE, ← ht]; exact HST.out)
      rw [hE]
      rw [ht] at hown3
      obtain ⟨m4, hm4⟩ : ∃ m4, t.length = m4 := ⟨_, rfl⟩
      rw [hm4] at hown3
      obtain ⟨A4, c4, rfl, -, -⟩ := own_form hown3
      have HR4 := hide (Row.of_own hown3)
      have HL3 := hide (show Le wr w3 from hb3)
      have HB3 := hide (HB.out.trans HL3.out)
      have HM4 := hide hm4
      clear HST hE ht hown3 hb3 hm4 hd0 hd1
      by_cases he : E = 0
      · subst he
        obtain ⟨t1, t2, t3, t4⟩ := HST2.out rfl
        rw [HM4.out, HM.out] at t1 t2
        have HT3 := hide t3
        have HT4 := hide (t4 H8.out)
        have HRs := hide ((HL3.out.row HR3.out (Nat.le_refl _)).more HL3.out.size)
        clear t3 t4 HST2
        go_wp2_with fail
        go_loopw [9, 10] (fun o j wi => ∃ (b p q : Nat), b ≤ m4 ∧ j = .int .i64 b ∧ o = .int .i64 p ∧ Hid (tx.opens (t.take b) = p) ∧ p ≤ b ∧ wi = w3.drewN q) (fun _ j _ => m4 - (intOf j).toNat)
        case atStart => exact ⟨0, 0, 0, Nat.zero_le _, rfl, rfl, hide rfl, Nat.le_refl _, rfl⟩
        case round =>
          obtain ⟨b, p, q, hb, rfl, rfl, HP, hp, rfl⟩ := hrel
          by_cases hbm : b < m4
          · obtain ⟨x, hx⟩ : ∃ x, t[b]? = some x := ⟨_, List.getElem?_eq_getElem (by rw [HM4.out]; exact hbm)⟩
            obtain ⟨b4, o4, rfl, hb4, hx4⟩ := HR4.out.at_ (ints_at hx)
            have HS := hide (opens_step hx HP.out)
            obtain ⟨V, hV⟩ : ∃ V, (w3.drewN q).drew = V := ⟨_, rfl⟩
            have HV := hide hV
            have g4 := later_cell HV.out hb4 hx4
            have HX := hide hx
            clear hx hV
            by_cases hbm2 : b < m
            · obtain ⟨y, hy⟩ : ∃ y, s[b]? = some y := ⟨_, List.getElem?_eq_getElem (by rw [HM.out]; exact hbm2)⟩
              obtain ⟨b5, o5, rfl, hb5, hx5⟩ := HRs.out.at_ (ints_at hy)
              have g5 := later_cell HV.out hb5 hx5
              have hxy : y ≠ 1 → x = y := fun hne => by
                have h5 := HT3.out b y hy hne
                rw [HX.out] at h5
                injection h5
              clear hy hx5
              by_cases hy1 : y = 1
              · subst hy1
                clear hxy
                by_cases h1 : x = 1
                · subst h1
                  have HN := hide (HS.out.1 rfl)
                  go_wp2_with fail
                  refine region_pi [(0, true), (1, true), (2, true), (3, true), (4, true), (5, true), (6, true), (7, true), (8, true), (9, true), (10, true), (11, true), (12, true), (13, true), (14, true), (15, true), (16, true), (17, true), (18, true), (19, true), (20, true), (21, true)] (by kernel_rfl) (by kernel_rfl) ?_
                  simp only [opsPi, List.filterMap_cons, List.filterMap_nil, List.getElem?_toArray, List.getElem?_cons_zero, List.getElem?_cons_succ, Option.map_some]
                  rw [HV.out]
                  repeat (first | (refine pi_take (v := _) rfl (fun W hW => by go_simp <;> exact rfl) ?_; simp only [Act.put, List.setIfInBounds_toArray, List.set_cons_zero, List.set_cons_succ]) | (refine pi_skip rfl ?_; simp only [Act.put, List.setIfInBounds_toArray, List.set_cons_zero, List.set_cons_succ]))
                  refine pi_done ?_
                  rw [← HV.out, World.drew_drewN]
                  go_wp2_with fail
                  exact ⟨⟨b + 1, p + 1, _, by omega, by go_num, by go_num, HN, by omega, rfl⟩, by simp [intOf]; omega⟩
                · have hxb : (x == 1) = false := by simpa using h1
                  have HN := hide (HS.out.2 h1)
                  go_wp2_with fail
                  refine region_pi [(0, true), (1, true), (2, true), (3, true), (4, true), (5, true), (6, true), (7, true), (8, true), (9, true), (10, true), (11, true), (12, true), (13, true), (14, true), (15, true), (16, true), (17, true), (18, true), (19, true), (20, true), (21, true)] (by kernel_rfl) (by kernel_rfl) ?_
                  simp only [opsPi, List.filterMap_cons, List.filterMap_nil, List.getElem?_toArray, List.getElem?_cons_zero, List.getElem?_cons_succ, Option.map_some]
                  rw [HV.out]
                  repeat (first | (refine pi_take (v := _) rfl (fun W hW => by go_simp <;> exact rfl) ?_; simp only [Act.put, List.setIfInBounds_toArray, List.set_cons_zero, List.set_cons_succ]) | (refine pi_skip rfl ?_; simp only [Act.put, List.setIfInBounds_toArray, List.set_cons_zero, List.set_cons_succ]))
                  refine pi_done ?_
                  rw [← HV.out, World.drew_drewN]
                  go_wp2_with fail
                  exact ⟨⟨b + 1, p, _, by omega, by go_num, rfl, HN, by omega, rfl⟩, by simp [intOf]; omega⟩
              · have hxy2 := hxy hy1
                subst hxy2
                clear hxy
                have h1 : x ≠ 1 := hy1
                have hxb : (x == 1) = false := by simpa using h1
                have hxc : (x != 1) = true := by simpa using h1
                have HN := hide (HS.out.2 h1)
                go_wp2_with fail
                refine region_pi [(0, true), (1, true), (2, true), (3, true), (4, true), (5, true), (6, true), (7, true), (8, true), (9, true), (10, true), (11, true), (12, true), (13, true), (14, true), (15, true), (16, true), (17, true), (18, true), (19, true), (20, true), (21, true)] (by kernel_rfl) (by kernel_rfl) ?_
                simp only [opsPi, List.filterMap_cons, List.filterMap_nil, List.getElem?_toArray, List.getElem?_cons_zero, List.getElem?_cons_succ, Option.map_some]
                rw [HV.out]
                repeat (first | (refine pi_take (v := _) rfl (fun W hW => by go_simp <;> exact rfl) ?_; simp only [Act.put, List.setIfInBounds_toArray, List.set_cons_zero, List.set_cons_succ]) | (refine pi_skip rfl ?_; simp only [Act.put, List.setIfInBounds_toArray, List.set_cons_zero, List.set_cons_succ]))
                refine pi_done ?_
                rw [← HV.out, World.drew_drewN]
                go_wp2_with fail
                exact ⟨⟨b + 1, p, _, by omega, by go_num, rfl, HN, by omega, rfl⟩, by simp [intOf]; omega⟩
            · have dbm : decide ((b : Int) < (m : Int)) = false := decide_eq_false (by omega)
              by_cases h1 : x = 1
              · subst h1
                have HN := hide (HS.out.1 rfl)
                go_wp2_with fail
                refine region_pi [(0, true), (1, true), (2, true), (3, true), (4, true), (5, true), (6, true), (7, true), (8, true), (9, true), (10, true), (11, true), (12, true), (13, true), (14, true), (15, true), (16, true), (17, true), (18, true), (19, true), (20, true), (21, true)] (by kernel_rfl) (by kernel_rfl) ?_
                simp only [opsPi, List.filterMap_cons, List.filterMap_nil, List.getElem?_toArray, List.getElem?_cons_zero, List.getElem?_cons_succ, Option.map_some]
                rw [HV.out]
                repeat (first | (refine pi_take (v := _) rfl (fun W hW => by go_simp <;> exact rfl) ?_; simp only [Act.put, List.setIfInBounds_toArray, List.set_cons_zero, List.set_cons_succ]) | (refine pi_skip rfl ?_; simp only [Act.put, List.setIfInBounds_toArray, List.set_cons_zero, List.set_cons_succ]))
                refine pi_done ?_
                rw [← HV.out, World.drew_drewN]
                go_wp2_with fail
                exact ⟨⟨b + 1, p + 1, _, by omega, by go_num, by go_num, HN, by omega, rfl⟩, by simp [intOf]; omega⟩
              · have hxb : (x == 1) = false := by simpa using h1
                have HN := hide (HS.out.2 h1)
                go_wp2_with fail
                refine region_pi [(0, true), (1, true), (2, true), (3, true), (4, true), (5, true), (6, true), (7, true), (8, true), (9, true), (10, true), (11, true), (12, true), (13, true), (14, true), (15, true), (16, true), (17, true), (18, true), (19, true), (20, true), (21, true)] (by kernel_rfl) (by kernel_rfl) ?_
                simp only [opsPi, List.filterMap_cons, List.filterMap_nil, List.getElem?_toArray, List.getElem?_cons_zero, List.getElem?_cons_succ, Option.map_some]
                rw [HV.out]
                repeat (first | (refine pi_take (v := _) rfl (fun W hW => by go_simp <;> exact rfl) ?_; simp only [Act.put, List.setIfInBounds_toArray, List.set_cons_zero, List.set_cons_succ]) | (refine pi_skip rfl ?_; simp only [Act.put, List.setIfInBounds_toArray, List.set_cons_zero, List.set_cons_succ]))
                refine pi_done ?_
                rw [← HV.out, World.drew_drewN]
                go_wp2_with fail
                exact ⟨⟨b + 1, p, _, by omega, by go_num, rfl, HN, by omega, rfl⟩, by simp [intOf]; omega⟩
          · obtain rfl : b = m4 := by omega
            have hp8 : p ≤ 8 := by
              have h1 := HT4.out
              have h2 := HP.out
              rw [List.take_of_length_le (by rw [HM4.out]; exact Nat.le_refl _)] at h2
              omega
            have dp : decide ((8 : Int) < (p : Int)) = false := decide_eq_false (by omega)
            have d1 : decide ((b : Int) < (m : Int)) = false := decide_eq_false (by omega)
            have d2 : decide ((m : Int) + 1 < (b : Int)) = false := decide_eq_false (by omega)
            go_wp2_with fail
            exact ⟨⟨k + 1, b, c4, A4, t, by omega, by go_num, rfl, HM4, by omega, HT4, hide (HR4.out.drewN _), hide (below_drewN HB3.out _)⟩, by simp [intOf]; omega⟩
      · have heb : (E != 0) = true := by simpa using he
        have HRs := hide ((HL3.out.row HR3.out (Nat.le_refl _)).more HL3.out.size)
        clear he HST2
        go_wp2_with fail
        exact ⟨⟨k + 1, m, c3, A3, s, by omega, by go_num, rfl, HM, by omega, H8, HRs, HB3⟩, by simp [intOf]; omega⟩
    · obtain rfl : k = N := by omega
      go_wp2_with fail
      refine (limit_any wr A3 m c3 s HM.out (by omega) HR3.out).mono ?_
      rintro e w' ⟨rfl, rfl⟩
      have hq := tx.limit_facts s
      rw [HM.out] at hq
      obtain ⟨q, hq2⟩ : ∃ q, tx.limit s = q := ⟨_, rfl⟩
      rw [hq2] at hq ⊢
      obtain ⟨q1, q2⟩ := hq
      have HF := hide (show Below w.heap.size w wr from HL02.out.trans HB.out)
      clear hq2
      by_cases hqm : q = m
      · subst hqm
        clear q2
        go_wp2_with fail
        go_ret
        exact ⟨rfl, HF.out⟩
      · obtain ⟨b5, o5, rfl, hb5, hx5⟩ := HR3.out.at_ (ints_at (q2 (by omega)))
        have hlt : q < m := by omega
        clear q2
        go_wp2_with fail
        go_ret
        exact ⟨rfl, HF.out⟩
#print axioms stays_walk
end Go.Proofs.Ytocpeiocgppkfaa
