/-
  Which base serves, walked: by the program and by the document.
-/
import Derived.Test.YtnihladjafnjpaaPlA
import Derived.Test.YtnihladjafnjpaaPlQ
namespace Go.Proofs.Ytnihladjafnjpaa
open Go.RowKit
set_option linter.unusedVariables false

/-- What is asked of each id, that a base may serve. -/
def okS (base H : Int) (l : List Int) (id s : Int) : Bool := decide (base < id) || (decide (s ≠ 2) || has H l id)
def servesI (base H : Int) (l states : List Int) : Bool := decide (base ≤ H) && allI (okS base H l) states

set_option maxRecDepth 100000 in
theorem serves1_any (w : World) (b b' : Nat) (base H : Int) (A : Option Addr) (n c : Nat) (l : List Int) (id s : Int) (hl : l.length = n) (hn : n ≤ 1000000000) (hr : Row w w.heap.size A (ints l))
    (h0 : w.cell? ⟨b, 0, none⟩ = some (.int .i64 base)) (h1 : w.cell? ⟨b', 0, none⟩ = some (.int .i64 H)) (h2 : w.cell? ⟨b', 1, none⟩ = some (.slice A n c)) :
    Calls Try.prog 36 #[.int .i64 id, .int .i64 s, .pointer (some ⟨b, 0, none⟩), .pointer (some ⟨b', 0, none⟩)] w fun e w' => e = .returned (.bool (okS base H l id s)) ∧ Below w.heap.size w w' := by
  obtain ⟨p1, hp1⟩ : ∃ p, decide (base < id) = p := ⟨_, rfl⟩
  obtain ⟨p2, hp2⟩ : ∃ p, (s != 2) = p := ⟨_, rfl⟩
  have hp2' : decide (s ≠ 2) = p2 := by
    rw [← hp2, Bool.eq_iff_iff]; simp
  have HD := hide (show okS base H l id s = (p1 || (p2 || has H l id)) by unfold okS; rw [hp1, hp2'])
  have HL := hide hl
  have hha := hide (has_any w H A n c l id hl hn hr)
  obtain ⟨hv, hhv⟩ : ∃ b, has H l id = b := ⟨_, rfl⟩
  rw [hhv] at hha HD
  clear hl hr hp2' hhv
  go_enter Try.func36, Try.ntmps36
  cases p1
  · cases p2
    · go_wp2_with fail
      refine hha.out.mono ?_
      rintro e w' ⟨rfl, hb⟩
      have HB := hide hb
      clear hb
      go_wp2_with fail
      go_ret
      exact ⟨by rw [HD.out]; rfl, HB.out⟩
    · go_wp2_with fail
      go_ret
      exact ⟨by rw [HD.out]; rfl, Below.refl _ _⟩
  · go_wp2_with fail
    go_ret
    exact ⟨by rw [HD.out]; rfl, Below.refl _ _⟩
#print axioms serves1_any
theorem enterServes : ∀ args W, (callFunc 36 args).run Try.prog W = .ok (.enter 36 args) W :=
  fun args W => run_enter Try.func36 (by decide) rfl args W

set_option maxRecDepth 100000 in
set_option maxHeartbeats 2000000 in
theorem serves_any (w : World) (base H : Int) (A B : Option Addr) (n c m d : Nat) (l s : List Int) (hl : l.length = n) (hn : n ≤ 1000000000) (hs : s.length = m) (hm : m ≤ 1000000000) (hr : Row w w.heap.size A (ints l)) (hrs : Row w w.heap.size B (ints s)) :
    Calls Try.prog 21 #[.int .i64 base, .agg #[.int .i64 H, .slice A n c], .slice B m d] w fun e w' => e = .returned (.bool (servesI base H l s)) ∧ Below w.heap.size w w' := by
  obtain ⟨W, hW⟩ : ∃ W, (w.alloc (.cells #[.int .i64 base] 3)).alloc (.cells #[.int .i64 H, .slice A n c] 24) = W := ⟨_, rfl⟩
  have hb1 : Box W w.heap.size #[.int .i64 base] 3 := by rw [← hW]; exact (box_new _ _ _).alloc _
  have hb2 : Box W (w.heap.size + 1) #[.int .i64 H, .slice A n c] 24 := by
    rw [← hW]
    have h := box_new (w.alloc (.cells #[.int .i64 base] 3)) #[.int .i64 H, .slice A n c] 24
    have e : (w.alloc (.cells #[.int .i64 base] 3)).heap.size = w.heap.size + 1 := by simp
    rw [e] at h
    exact h
  have HB := hide (show Le w W by rw [← hW]; exact ((Below.refl _ _).alloc (Nat.le_refl _) _).alloc (by simp) _)
  have HW := hide hW
  have B1 := hide hb1
  have B2 := hide hb2
  obtain ⟨p, hp⟩ : ∃ p, decide (base ≤ H) = p := ⟨_, rfl⟩
  obtain ⟨q, hq⟩ : ∃ q, allI (okS base H l) s = q := ⟨_, rfl⟩
  have HD := hide (show servesI base H l s = (p && q) by unfold servesI; rw [hp, hq])
  have hal := hide (hq ▸ all_any2 W 36 (.pointer (some ⟨w.heap.size, 0, none⟩)) (.pointer (some ⟨w.heap.size + 1, 0, none⟩)) (okS base H l) B m d s hs hm ((HB.out.row hrs (Nat.le_refl _)).more HB.out.size) enterServes (fun W' hW' id st => serves1_any W' w.heap.size (w.heap.size + 1) base H A n c l id st hl hn (((HB.out.trans hW').row hr (Nat.le_refl _)).more (HB.out.trans hW').size) (hb1.later 0 _ rfl W' hW') (hb2.later 0 _ rfl W' hW') (hb2.later 1 _ rfl W' hW')))
  have c0 := hb1.cell 0 (.int .i64 base) rfl
  have c1 := hb2.cell 0 (.int .i64 H) rfl
  clear hW hl hs hr hrs hb1 hb2 hq
  go_enter Try.func21, Try.ntmps21
  go_upto_region 1 with fail
  rw [HW.out]
  cases p
  · go_wp2_with fail
    go_ret
    exact ⟨by rw [HD.out]; rfl, HB.out⟩
  · go_wp2_with fail
    refine hal.out.mono ?_
    rintro e w' ⟨rfl, hb⟩
    have HB1 := hide (HB.out.trans hb)
    clear hb
    go_wp2_with fail
    go_ret
    exact ⟨by rw [HD.out]; rfl, HB1.out⟩
#print axioms serves_any

set_option maxRecDepth 100000 in
set_option maxHeartbeats 2000000 in
theorem refserves_any (w : World) (base H : Int) (A B : Option Addr) (n c m d : Nat) (l s : List Int) (hl : l.length = n) (hn : n ≤ 1000000000) (hnc : n ≤ c) (hs : s.length = m) (hm : m ≤ 1000000000) (hr : Row w w.heap.size A (ints l)) (hrs : Row w w.heap.size B (ints s)) :
    Calls Try.prog 22 #[.int .i64 base, .agg #[.int .i64 H, .slice A n c], .slice B m d] w fun e w' => e = .returned (.bool (servesI base H l s)) ∧ Below w.heap.size w w' := by
  obtain ⟨W, hW, bx, hb⟩ : ∃ W, w.alloc (.cells #[.int .i64 H, .slice A n c] 24) = W ∧ Box W w.heap.size #[.int .i64 H, .slice A n c] 24 ∧ Le w W := ⟨_, rfl, box_new _ _ _, (Below.refl _ _).alloc (Nat.le_refl _) _⟩
  have HW := hide hW
  have HB := hide hb
  have BX := hide bx
  have HS := hide hs
  have HRS := hide hrs
  have hha := hide (fun (W : World) (h : Le w W) (id : Int) => refhas_any W H A n c l id hl hn ((h.row hr (Nat.le_refl _)).more h.size))
  obtain ⟨R, hR⟩ : ∃ R, servesI base H l s = R := ⟨_, rfl⟩
  rw [hR]
  have HR := hide hR
  clear hW hb bx hl hs hr hrs hR
  go_enter Try.func22, Try.ntmps22
  go_upto_region 1 with fail
  rw [HW.out]
  go_wp2_with fail
  go_loopw [7] (fun i wr => ∃ j : Nat, i = .int .i64 j ∧ j ≤ m ∧ Hid (∀ (k : Nat) (x : Int), k < j → s[k]? = some x → okS base H l ((k : Int) + 1) x = true) ∧ Hid (Le W wr)) (fun i _ => m - (intOf i).toNat)
  case atStart => exact ⟨0, rfl, Nat.zero_le _, hide (fun k x hk => by omega), hide (Le.refl _)⟩
  case round =>
    obtain ⟨j, rfl, hj, HP, HLr⟩ := hrel
    have HBr := hide (HB.out.trans HLr.out)
    have BXr := hide (BX.out.below HLr.out BX.out.lt)
    have c0 := BXr.out.cell 0 (.int .i64 H) rfl
    have c1 := BXr.out.cell 1 (.slice A n c) rfl
    by_cases hjm : j < m
    · obtain ⟨x, hx⟩ : ∃ x, s[j]? = some x := ⟨_, List.getElem?_eq_getElem (by rw [HS.out]; exact hjm)⟩
      obtain ⟨bB, oB, rfl, hbB, cx⟩ := HRS.out.at_ (ints_at hx)
      have hjI : (j : Int) < m := by omega
      obtain ⟨id, hid⟩ : ∃ id : Int, IntKind.i64.wrap ((j : Int) + 1) = id := ⟨_, rfl⟩
      have HID := hide (show id = (j : Int) + 1 by rw [← hid, IntKind.wrap_i64]; omega)
      have hha2 := hide (hha.out wr HBr.out id)
      obtain ⟨hv, hhv⟩ : ∃ b, has H l id = b := ⟨_, rfl⟩
      rw [hhv] at hha2
      obtain ⟨p1, hp1⟩ : ∃ b, decide (id ≤ base) = b := ⟨_, rfl⟩
      obtain ⟨p2, hp2⟩ : ∃ b, (x == 2) = b := ⟨_, rfl⟩
      have HOK := hide (show okS base H l ((j : Int) + 1) x = (!p1 || (!p2 || hv)) by
        rw [← HID.out]
        unfold okS
        rw [hhv, ← hp1, ← hp2]
        congr 1
        · rw [Bool.eq_iff_iff]; simp
        · congr 1
          rw [Bool.eq_iff_iff]; simp)
      have HX := hide hx
      clear hx hhv
      go_wp2_with fail
      refine hha2.out.mono ?_
      rintro e w1 ⟨rfl, hb1⟩
      have HL1 := hide (HLr.out.trans hb1)
      have c2 : w1.cell? ⟨bB, oB + j, none⟩ = some (.int .i64 x) := ((HB.out.trans HL1.out).cell (p := ⟨bB, oB + j, none⟩) hbB).trans cx
      clear hb1 c0 c1 cx
      have fin : okS base H l ((j : Int) + 1) x = true → Hid (∀ (k : Nat) (y : Int), k < j + 1 → s[k]? = some y → okS base H l ((k : Int) + 1) y = true) := fun h => hide fun k y hk hy => by
        by_cases hkj : k < j
        · exact HP.out k y hkj hy
        · obtain rfl : k = j := by omega
          rw [HX.out] at hy
          injection hy with hy
          subst hy
          exact h
      have bad : okS base H l ((j : Int) + 1) x = false → R = false := fun h => by
        rw [← HR.out]
        unfold servesI
        rw [allI_false HX.out h, Bool.and_false]
      have FIN := hide fin
      have BAD := hide bad
      clear fin bad
      cases p1
      · go_wp2_with fail
        have hid2 := HID.out
        subst hid2
        exact ⟨⟨j + 1, by go_num, by omega, FIN.out (by rw [HOK.out]; rfl), HL1⟩, by simp [intOf]; omega⟩
      · cases p2
        · go_wp2_with fail
          have hid2 := HID.out
          subst hid2
          exact ⟨⟨j + 1, by go_num, by omega, FIN.out (by rw [HOK.out]; rfl), HL1⟩, by simp [intOf]; omega⟩
        · cases hv
          · have hf := BAD.out (by rw [HOK.out]; rfl)
            go_wp2_with fail
            go_ret
            exact ⟨by rw [hf]; rfl, HB.out.trans HL1.out⟩
          · go_wp2_with fail
            have hid2 := HID.out
            subst hid2
            exact ⟨⟨j + 1, by go_num, by omega, FIN.out (by rw [HOK.out]; rfl), HL1⟩, by simp [intOf]; omega⟩
    · obtain rfl : j = m := by omega
      have hall : allI (okS base H l) s = true := allI_true fun k x hx => HP.out k x (by have := (List.getElem?_eq_some_iff.1 hx).1; rw [HS.out] at this; exact this) hx
      have HRB := hide (show R = decide (base ≤ H) by rw [← HR.out]; unfold servesI; rw [hall, Bool.and_true])
      go_wp2_with fail
      go_ret
      exact ⟨by rw [HRB.out]; rfl, HBr.out⟩
#print axioms refserves_any
end Go.Proofs.Ytnihladjafnjpaa
