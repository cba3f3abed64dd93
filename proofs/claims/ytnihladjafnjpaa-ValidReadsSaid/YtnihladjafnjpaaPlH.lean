/-
  The closures of valid.Plan, walked: which are useless, what is covered.
-/
import Derived.Test.YtnihladjafnjpaaPlG
namespace Go.Proofs.Ytnihladjafnjpaa
open Go.RowKit
set_option linter.unusedVariables false

set_option maxRecDepth 100000 in
set_option maxHeartbeats 2000000 in
theorem plan2_any (w : World) (b1 bs b2 : Nat) (H : Int) (A B : Option Addr) (n c m e' : Nat) (l s : List Int) (d : dr.Dr) (hl : l.length = n) (hn : n ≤ 1000000000) (hs : s.length = m) (hm : m ≤ 1000000000) (hr : Row w w.heap.size A (ints l)) (hrs : Row w w.heap.size B (ints s))
    (h0 : w.cell? ⟨b1, 0, none⟩ = some (.int .i64 H)) (h1 : w.cell? ⟨b1, 1, none⟩ = some (.slice A n c)) (hb1 : b1 < w.heap.size) (h6 : w.cell? ⟨bs, 0, none⟩ = some (.slice B m e')) (hbs : bs < w.heap.size) (h2 : w.cell? ⟨b2, 0, none⟩ = some fIn) (hb2 : b2 < w.heap.size) :
    Calls Try.prog 27 #[.agg #[.int .i64 d.k, .int .i64 d.f, .int .i64 d.t], .pointer (some ⟨b1, 0, none⟩), .pointer (some ⟨bs, 0, none⟩), .pointer (some ⟨b2, 0, none⟩)] w fun e w' => e = .returned (.bool (useless H l s d)) ∧ Below w.heap.size w w' := by
  obtain ⟨X, hX, bX, hlX⟩ := dbox w d 41
  have HX := hide hX
  have HL := hide hlX
  have g0 : X.cell? ⟨b1, 0, none⟩ = some (.int .i64 H) := (hlX.cell (p := ⟨b1, 0, none⟩) hb1).trans h0
  have g1 : X.cell? ⟨b1, 1, none⟩ = some (.slice A n c) := (hlX.cell (p := ⟨b1, 1, none⟩) hb1).trans h1
  have g6 : X.cell? ⟨bs, 0, none⟩ = some (.slice B m e') := (hlX.cell (p := ⟨bs, 0, none⟩) hbs).trans h6
  have c0 := bX.cell 0 (.int .i64 d.k) rfl
  have c1 := bX.cell 1 (.int .i64 d.f) rfl
  have c2 := bX.cell 2 (.int .i64 d.t) rfl
  have hzX := hlX.size
  have hsv := hide (serves_any X d.t H A B n c m e' l s hl hn hs hm ((hlX.row hr (Nat.le_refl _)).more hzX) ((hlX.row hrs (Nat.le_refl _)).more hzX))
  have hal := hide (all_any3 X 28 (.pointer (some ⟨b1, 0, none⟩)) (.pointer (some ⟨b2, 0, none⟩)) (.pointer (some ⟨w.heap.size, 0, none⟩)) (okU H l d) B m e' s hs hm ((hlX.row hrs (Nat.le_refl _)).more hzX) enterPlan21 (fun W hW id st => plan21_any W b1 b2 w.heap.size H A n c l d id st hl hn (((hlX.trans hW).row hr (Nat.le_refl _)).more (hlX.trans hW).size) (((hlX.trans hW).cell (p := ⟨b1, 0, none⟩) hb1).trans h0) (((hlX.trans hW).cell (p := ⟨b1, 1, none⟩) hb1).trans h1) (((hlX.trans hW).cell (p := ⟨b2, 0, none⟩) hb2).trans h2) (Nat.lt_of_lt_of_le hb2 (hlX.trans hW).size) (bX.later 0 _ rfl W hW) (bX.later 1 _ rfl W hW) (bX.later 2 _ rfl W hW) (Nat.lt_of_lt_of_le bX.lt hW.size)))
  obtain ⟨R, hR⟩ : ∃ R, useless H l s d = R := ⟨_, rfl⟩
  rw [hR]
  have HR := hide hR
  clear hX bX hlX hl hs hr hrs h0 h1 h2 h6 hR
  go_enter Try.func27, Try.ntmps27
  go_upto_region 1 with fail
  rw [HX.out]
  obtain ⟨k, f, t⟩ := d
  simp only at c0 c1 c2 hsv hal
  by_cases k1 : k = 1
  · subst k1
    have HU := hide (show R = !servesI t H l s by rw [← HR.out]; rfl)
    clear HR hal
    generalize servesI t H l s = v at hsv HU
    go_wp2_with fail
    refine hsv.out.mono ?_
    rintro e w1 ⟨rfl, hb⟩
    have HL1 := hide (show Le w w1 from HL.out.trans hb)
    clear hb
    go_wp2_with fail
    go_ret
    exact ⟨by rw [HU.out]; rfl, HL1.out⟩
  · have e1 : (k == 1) = false := by simpa using k1
    by_cases k2 : k = 2
    · subst k2
      have HU := hide (show R = allI (okU H l ⟨2, f, t⟩) s by rw [← HR.out]; rfl)
      clear HR hsv
      generalize allI (okU H l ⟨2, f, t⟩) s = v at hal HU
      go_wp2_with fail
      refine hal.out.mono ?_
      rintro e w1 ⟨rfl, hb⟩
      have HL1 := hide (show Le w w1 from HL.out.trans hb)
      clear hb
      go_wp2_with fail
      go_ret
      exact ⟨by rw [HU.out]; rfl, HL1.out⟩
    · have e2 : (k == 2) = false := by simpa using k2
      have HU := hide (show R = true by rw [← HR.out]; unfold useless; rw [if_neg k1, if_neg k2])
      clear HR hsv hal
      go_wp2_with fail
      go_ret
      exact ⟨by rw [HU.out]; rfl, HL.out⟩
#print axioms plan2_any
theorem enterPlan2 : ∀ args W, (callFunc 27 args).run Try.prog W = .ok (.enter 27 args) W :=
  fun args W => run_enter Try.func27 (by decide) rfl args W

set_option maxRecDepth 100000 in
theorem plan31_any (w : World) (b2 bi : Nat) (d : dr.Dr) (id : Int) (h2 : w.cell? ⟨b2, 0, none⟩ = some fIn) (hb2 : b2 < w.heap.size) (hi : w.cell? ⟨bi, 0, none⟩ = some (.int .i64 id)) (hbi : bi < w.heap.size) :
    Calls Try.prog 34 #[.agg #[.int .i64 d.k, .int .i64 d.f, .int .i64 d.t], .pointer (some ⟨b2, 0, none⟩), .pointer (some ⟨bi, 0, none⟩)] w fun e w' => e = .returned (.bool (inD d id)) ∧ Below w.heap.size w w' := by
  obtain ⟨X, hX, bX, hlX⟩ := dbox w d 41
  have HX := hide hX
  have HL := hide hlX
  have g2 : X.cell? ⟨b2, 0, none⟩ = some fIn := (hlX.cell (p := ⟨b2, 0, none⟩) hb2).trans h2
  have g3 : X.cell? ⟨bi, 0, none⟩ = some (.int .i64 id) := (hlX.cell (p := ⟨bi, 0, none⟩) hbi).trans hi
  have c0 := bX.cell 0 (.int .i64 d.k) rfl
  have c1 := bX.cell 1 (.int .i64 d.f) rfl
  have c2 := bX.cell 2 (.int .i64 d.t) rfl
  have hin := hide (plan1_any X d id)
  obtain ⟨iv, hiv⟩ : ∃ b, inD d id = b := ⟨_, rfl⟩
  rw [hiv] at hin ⊢
  unfold fIn at g2
  clear hX bX hlX h2 hi hiv
  obtain ⟨k, f, t⟩ := d
  simp only at c0 c1 c2 hin
  have he1 := enterPlan1
  go_enter Try.func34, Try.ntmps34
  go_upto_region 1 with fail
  rw [HX.out]
  go_wp2_with fail
  refine hin.out.mono ?_
  rintro e w1 ⟨rfl, hb⟩
  have HL1 := hide (show Le w w1 from HL.out.trans hb)
  clear hb
  go_wp2_with fail
  go_ret
  exact ⟨rfl, HL1.out⟩
#print axioms plan31_any
theorem enterPlan31 : ∀ args W, (callFunc 34 args).run Try.prog W = .ok (.enter 34 args) W :=
  fun args W => run_enter Try.func34 (by decide) rfl args W

set_option maxRecDepth 100000 in
set_option maxHeartbeats 2000000 in
theorem plan3_any (w : World) (b1 bc b2 : Nat) (H : Int) (A C : Option Addr) (n c m e' : Nat) (l : List Int) (cs : List dr.Dr) (id s : Int) (hl : l.length = n) (hn : n ≤ 1000000000) (hc : cs.length = m) (hm : m ≤ 1000000000) (hr : Row w w.heap.size A (ints l)) (hrc : Row w w.heap.size C (dcs cs))
    (h0 : w.cell? ⟨b1, 0, none⟩ = some (.int .i64 H)) (h1 : w.cell? ⟨b1, 1, none⟩ = some (.slice A n c)) (hb1 : b1 < w.heap.size) (h6 : w.cell? ⟨bc, 0, none⟩ = some (.slice C m e')) (hbc : bc < w.heap.size) (h2 : w.cell? ⟨b2, 0, none⟩ = some fIn) (hb2 : b2 < w.heap.size) :
    Calls Try.prog 32 #[.int .i64 id, .int .i64 s, .pointer (some ⟨b1, 0, none⟩), .pointer (some ⟨bc, 0, none⟩), .pointer (some ⟨b2, 0, none⟩)] w fun e w' => e = .returned (.bool (okC H l cs id s)) ∧ Below w.heap.size w w' := by
  obtain ⟨X, hX, bX, hlX⟩ : ∃ X, w.alloc (.cells #[.int .i64 id] 3) = X ∧ Box X w.heap.size #[.int .i64 id] 3 ∧ Le w X := ⟨_, rfl, box_new _ _ _, (Below.refl _ _).alloc (Nat.le_refl _) _⟩
  have HX := hide hX
  have HL := hide hlX
  have g0 : X.cell? ⟨b1, 0, none⟩ = some (.int .i64 H) := (hlX.cell (p := ⟨b1, 0, none⟩) hb1).trans h0
  have g1 : X.cell? ⟨b1, 1, none⟩ = some (.slice A n c) := (hlX.cell (p := ⟨b1, 1, none⟩) hb1).trans h1
  have g7 := hide (fun (W : World) (h : Le X W) => ((hlX.trans h).cell (p := ⟨bc, 0, none⟩) hbc).trans h6)
  have c0 := bX.cell 0 (.int .i64 id) rfl
  have hha := hide (has_any X H A n c l id hl hn ((hlX.row hr (Nat.le_refl _)).more hlX.size))
  have hcf := hide (fun (W : World) (h : Le X W) => containsf2_any W 34 (.pointer (some ⟨b2, 0, none⟩)) (.pointer (some ⟨w.heap.size, 0, none⟩)) (fun d => inD d id) C m e' cs hc hm (((hlX.trans h).row hrc (Nat.le_refl _)).more (hlX.trans h).size) enterPlan31 (fun W' hW' d _ => plan31_any W' b2 w.heap.size d id ((((hlX.trans h).trans hW').cell (p := ⟨b2, 0, none⟩) hb2).trans h2) (Nat.lt_of_lt_of_le hb2 ((hlX.trans h).trans hW').size) (bX.later 0 _ rfl W' (h.trans hW')) (Nat.lt_of_lt_of_le bX.lt (h.trans hW').size)))
  obtain ⟨hv, hhv⟩ : ∃ b, has H l id = b := ⟨_, rfl⟩
  obtain ⟨av, hav⟩ : ∃ b, (cs.any fun d => inD d id) = b := ⟨_, rfl⟩
  have HD := hide (show okC H l cs id s = (!hv || av) by unfold okC; rw [hhv, hav])
  rw [hhv] at hha
  rw [hav] at hcf
  clear hX bX hlX hl hc hr hrc h0 h1 h2 h6 hhv hav
  go_enter Try.func32, Try.ntmps32
  go_upto_region 1 with fail
  rw [HX.out]
  go_wp2_with fail
  refine hha.out.mono ?_
  rintro e w1 ⟨rfl, hb⟩
  have HL1 := hide (show Le w w1 from HL.out.trans hb)
  have e7 := g7.out w1 hb
  have hcf1 := hide (hcf.out w1 hb)
  clear hb
  cases hv
  · go_wp2_with fail
    go_ret
    exact ⟨by rw [HD.out]; rfl, HL1.out⟩
  · go_wp2_with fail
    refine hcf1.out.mono ?_
    rintro e w2 ⟨rfl, hb⟩
    have HL2 := hide (show Le w w2 from HL1.out.trans hb)
    clear hb
    go_wp2_with fail
    go_ret
    exact ⟨by rw [HD.out]; rfl, HL2.out⟩
#print axioms plan3_any
theorem enterPlan3 : ∀ args W, (callFunc 32 args).run Try.prog W = .ok (.enter 32 args) W :=
  fun args W => run_enter Try.func32 (by decide) rfl args W
end Go.Proofs.Ytnihladjafnjpaa
