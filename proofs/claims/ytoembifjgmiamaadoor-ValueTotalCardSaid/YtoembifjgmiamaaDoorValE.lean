/-
  The law on the order of values, walked.
-/
import Derived.Test.YtoembifjgmiamaaDoorValD
import Derived.OpenShut
namespace Go.Proofs.YtoembifjgmiamaaDoor
open Go.RowKit
set_option linter.unusedVariables false

/-- Three boxes. -/
theorem three_boxes (w : World) (cs ds es : Array Value) (t : TypeId) : ∃ W, ((w.alloc (.cells cs t)).alloc (.cells ds t)).alloc (.cells es t) = W ∧ Box W w.heap.size cs t ∧ Box W (w.heap.size + 1) ds t ∧ Box W (w.heap.size + 2) es t ∧ Below w.heap.size w W ∧ W.heap.size = w.heap.size + 3 := by
  obtain ⟨W, hW, h0, h1, hb, hz⟩ := two_boxes w cs ds t
  rw [hW]
  refine ⟨_, rfl, h0.alloc _, h1.alloc _, ?_, hb.alloc (by omega) _, by simp [hz]⟩
  have h := box_new W es t
  rw [hz] at h
  exact h
set_option maxRecDepth 100000 in
set_option maxHeartbeats 4000000 in
theorem total_walk (w : World) (a b c : va.Val) (wa : (Lit.int .i64 a.n).wf = true) (h : Has255 w) (hz : 0 < w.heap.size) : Calls Tryd.prog 4 #[.agg #[.bool a.nul, .int .i64 a.n, .string a.s], .agg #[.bool b.nul, .int .i64 b.n, .string b.s], .agg #[.bool c.nul, .int .i64 c.n, .string c.s]] w fun e w' => e = .returned (.bool true) ∧ Below w.heap.size w w' := by
  have H := hide h
  clear h
  obtain ⟨x, hx⟩ : ∃ x, va.cmpV a b = x := ⟨_, rfl⟩
  obtain ⟨y, hy⟩ : ∃ y, va.cmpV b c = y := ⟨_, rfl⟩
  obtain ⟨z, hz0⟩ : ∃ z, va.cmpV a c = z := ⟨_, rfl⟩
  obtain ⟨m, hm⟩ : ∃ m, va.cmpV ⟨true, -9223372036854775808, ⟨#[]⟩⟩ a = m := ⟨_, rfl⟩
  have hxn : va.cmpV b a = -x := by rw [va.cmpV_anti, hx]
  have hle := va.cmpV_le a b
  rw [hx] at hle
  have hml : m ≤ 0 := by rw [← hm]; exact va.cmpV_least a (by have := bounds_i64 wa; omega)
  have hch : x ≤ 0 → y ≤ 0 → z ≤ 0 := fun h1 h2 => by rw [← hz0]; exact va.cmpV_chain (by rw [hx]; exact h1) (by rw [hy]; exact h2)
  have hzero := va.cmpV_zero a b
  rw [hx] at hzero
  have hab := hide (fun (w : World) => hx ▸ compare_any w a b)
  have hba := hide (fun (w : World) => hxn ▸ compare_any w b a)
  have hbc := hide (fun (w : World) => hy ▸ compare_any w b c)
  have hac := hide (fun (w : World) => hz0 ▸ compare_any w a c)
  have hma := hide (fun (w : World) => hm ▸ compare_any w ⟨true, -9223372036854775808, ⟨#[]⟩⟩ a)
  have hsa := hide (fun (w : World) => vsame_any w a a)
  rw [va.cmpV_self a] at hsa
  clear hx hy hz0 hm hxn wa
  obtain ⟨an, ai, as_⟩ := a
  obtain ⟨bn, bi, bs⟩ := b
  obtain ⟨cn, ci, cs⟩ := c
  simp only at hab hba hbc hac hma hsa hzero ⊢
  unfold va.eqS at hzero
  have HZ := hide hzero
  have HCH := hide hch
  clear hzero hch
  obtain ⟨W, hW, hbox0, hbox1, hbox2, hb, hz2⟩ := three_boxes w #[.bool an, .int .i64 ai, .string as_] #[.bool bn, .int .i64 bi, .string bs] #[.bool cn, .int .i64 ci, .string cs] 23
  have HW := hide hW
  have HLW := hide (show Le w W from hb)
  have B0 := hide hbox0
  have B1 := hide hbox1
  have B2 := hide hbox2
  clear hW hb hbox0 hbox1 hbox2
  go_enter Tryd.func4, Tryd.ntmps4
  go_wp2_with fail
  rw [HW.out]
  refine (shown_any W (H.out.le hz HLW.out) (by omega)).mono ?_
  rintro e w1 ⟨rfl, hb⟩
  have Lw1 := hide (show Le w w1 from HLW.out.trans hb)
  have B0w1 := hide (B0.out.below hb B0.out.lt)
  have B1w1 := hide (B1.out.below hb B1.out.lt)
  have B2w1 := hide (B2.out.below hb B2.out.lt)
  clear hb
  have f00 := B0w1.out.cell 0 (.bool an) rfl
  have f01 := B0w1.out.cell 1 (.int .i64 ai) rfl
  have f02 := B0w1.out.cell 2 (.string as_) rfl
  have f10 := B1w1.out.cell 0 (.bool bn) rfl
  have f11 := B1w1.out.cell 1 (.int .i64 bi) rfl
  have f12 := B1w1.out.cell 2 (.string bs) rfl
  have f20 := B2w1.out.cell 0 (.bool cn) rfl
  have f21 := B2w1.out.cell 1 (.int .i64 ci) rfl
  have f22 := B2w1.out.cell 2 (.string cs) rfl
  go_wp2_with fail
  clear f00 f01 f02 f10 f11 f12 f20 f21 f22
  refine (hab.out w1).mono ?_
  rintro e w2 ⟨rfl, hb⟩
  have Lw2 := hide (show Le w w2 from Lw1.out.trans hb)
  have B0w2 := hide (B0w1.out.below hb B0w1.out.lt)
  have B1w2 := hide (B1w1.out.below hb B1w1.out.lt)
  have B2w2 := hide (B2w1.out.below hb B2w1.out.lt)
  clear hb
  have f00 := B0w2.out.cell 0 (.bool an) rfl
  have f01 := B0w2.out.cell 1 (.int .i64 ai) rfl
  have f02 := B0w2.out.cell 2 (.string as_) rfl
  have f10 := B1w2.out.cell 0 (.bool bn) rfl
  have f11 := B1w2.out.cell 1 (.int .i64 bi) rfl
  have f12 := B1w2.out.cell 2 (.string bs) rfl
  have f20 := B2w2.out.cell 0 (.bool cn) rfl
  have f21 := B2w2.out.cell 1 (.int .i64 ci) rfl
  have f22 := B2w2.out.cell 2 (.string cs) rfl
  go_wp2_with fail
  clear f00 f01 f02 f10 f11 f12 f20 f21 f22
  refine (hba.out w2).mono ?_
  rintro e w3 ⟨rfl, hb⟩
  have Lw3 := hide (show Le w w3 from Lw2.out.trans hb)
  have B0w3 := hide (B0w2.out.below hb B0w2.out.lt)
  have B1w3 := hide (B1w2.out.below hb B1w2.out.lt)
  have B2w3 := hide (B2w2.out.below hb B2w2.out.lt)
  clear hb
  have f00 := B0w3.out.cell 0 (.bool an) rfl
  have f01 := B0w3.out.cell 1 (.int .i64 ai) rfl
  have f02 := B0w3.out.cell 2 (.string as_) rfl
  have f10 := B1w3.out.cell 0 (.bool bn) rfl
  have f11 := B1w3.out.cell 1 (.int .i64 bi) rfl
  have f12 := B1w3.out.cell 2 (.string bs) rfl
  have f20 := B2w3.out.cell 0 (.bool cn) rfl
  have f21 := B2w3.out.cell 1 (.int .i64 ci) rfl
  have f22 := B2w3.out.cell 2 (.string cs) rfl
  go_wp2_with fail
  clear f00 f01 f02 f10 f11 f12 f20 f21 f22
  refine (hab.out w3).mono ?_
  rintro e w4 ⟨rfl, hb⟩
  by_cases hx1 : 0 < x
  · have hx0 : ¬ x = 0 := by omega
    have hne : ¬ (an = bn ∧ ai = bi ∧ (as_.toList == bs.toList) = true) := fun h => hx0 (HZ.out.2 h)
    have hxb : (x == 0) = false := by simpa using hx0
    clear HZ
    by_cases e1 : an = bn
    · subst e1
      by_cases e2 : ai = bi
      · subst e2
        have e3 : (as_.toList == bs.toList) = false := by
          cases h : (as_.toList == bs.toList) with
          | false => rfl
          | true => exact absurd ⟨rfl, rfl, h⟩ hne
        clear hne
        have Lw4 := hide (show Le w w4 from Lw3.out.trans hb)
        have B0w4 := hide (B0w3.out.below hb B0w3.out.lt)
        have B1w4 := hide (B1w3.out.below hb B1w3.out.lt)
        have B2w4 := hide (B2w3.out.below hb B2w3.out.lt)
        clear hb
        have f00 := B0w4.out.cell 0 (.bool an) rfl
        have f01 := B0w4.out.cell 1 (.int .i64 ai) rfl
        have f02 := B0w4.out.cell 2 (.string as_) rfl
        have f10 := B1w4.out.cell 0 (.bool an) rfl
        have f11 := B1w4.out.cell 1 (.int .i64 ai) rfl
        have f12 := B1w4.out.cell 2 (.string bs) rfl
        have f20 := B2w4.out.cell 0 (.bool cn) rfl
        have f21 := B2w4.out.cell 1 (.int .i64 ci) rfl
        have f22 := B2w4.out.cell 2 (.string cs) rfl
        go_wp2_with fail
        clear f00 f01 f02 f10 f11 f12 f20 f21 f22
        refine (hma.out w4).mono ?_
        rintro e w4m ⟨rfl, hb⟩
        have Lw4m := hide (show Le w w4m from Lw4.out.trans hb)
        have B0w4m := hide (B0w4.out.below hb B0w4.out.lt)
        have B1w4m := hide (B1w4.out.below hb B1w4.out.lt)
        have B2w4m := hide (B2w4.out.below hb B2w4.out.lt)
        clear hb
        have f00 := B0w4m.out.cell 0 (.bool an) rfl
        have f01 := B0w4m.out.cell 1 (.int .i64 ai) rfl
        have f02 := B0w4m.out.cell 2 (.string as_) rfl
        have f10 := B1w4m.out.cell 0 (.bool an) rfl
        have f11 := B1w4m.out.cell 1 (.int .i64 ai) rfl
        have f12 := B1w4m.out.cell 2 (.string bs) rfl
        have f20 := B2w4m.out.cell 0 (.bool cn) rfl
        have f21 := B2w4m.out.cell 1 (.int .i64 ci) rfl
        have f22 := B2w4m.out.cell 2 (.string cs) rfl
        go_wp2_with fail
        clear f00 f01 f02 f10 f11 f12 f20 f21 f22
        refine (hsa.out w4m).mono ?_
        rintro e w9 ⟨rfl, hb⟩
        have LF := hide (show Le w w9 from Lw4m.out.trans hb)
        clear hb
        go_wp2_with fail
        go_ret
        exact ⟨rfl, LF.out⟩
      · clear hne
        have Lw4 := hide (show Le w w4 from Lw3.out.trans hb)
        have B0w4 := hide (B0w3.out.below hb B0w3.out.lt)
        have B1w4 := hide (B1w3.out.below hb B1w3.out.lt)
        have B2w4 := hide (B2w3.out.below hb B2w3.out.lt)
        clear hb
        have f00 := B0w4.out.cell 0 (.bool an) rfl
        have f01 := B0w4.out.cell 1 (.int .i64 ai) rfl
        have f02 := B0w4.out.cell 2 (.string as_) rfl
        have f10 := B1w4.out.cell 0 (.bool an) rfl
        have f11 := B1w4.out.cell 1 (.int .i64 bi) rfl
        have f12 := B1w4.out.cell 2 (.string bs) rfl
        have f20 := B2w4.out.cell 0 (.bool cn) rfl
        have f21 := B2w4.out.cell 1 (.int .i64 ci) rfl
        have f22 := B2w4.out.cell 2 (.string cs) rfl
        go_wp2_with fail
        clear f00 f01 f02 f10 f11 f12 f20 f21 f22
        refine (hma.out w4).mono ?_
        rintro e w4m ⟨rfl, hb⟩
        have Lw4m := hide (show Le w w4m from Lw4.out.trans hb)
        have B0w4m := hide (B0w4.out.below hb B0w4.out.lt)
        have B1w4m := hide (B1w4.out.below hb B1w4.out.lt)
        have B2w4m := hide (B2w4.out.below hb B2w4.out.lt)
        clear hb
        have f00 := B0w4m.out.cell 0 (.bool an) rfl
        have f01 := B0w4m.out.cell 1 (.int .i64 ai) rfl
        have f02 := B0w4m.out.cell 2 (.string as_) rfl
        have f10 := B1w4m.out.cell 0 (.bool an) rfl
        have f11 := B1w4m.out.cell 1 (.int .i64 bi) rfl
        have f12 := B1w4m.out.cell 2 (.string bs) rfl
        have f20 := B2w4m.out.cell 0 (.bool cn) rfl
        have f21 := B2w4m.out.cell 1 (.int .i64 ci) rfl
        have f22 := B2w4m.out.cell 2 (.string cs) rfl
        go_wp2_with fail
        clear f00 f01 f02 f10 f11 f12 f20 f21 f22
        refine (hsa.out w4m).mono ?_
        rintro e w9 ⟨rfl, hb⟩
        have LF := hide (show Le w w9 from Lw4m.out.trans hb)
        clear hb
        go_wp2_with fail
        go_ret
        exact ⟨rfl, LF.out⟩
    · clear hne
      cases an
      · obtain rfl : bn = true := by cases bn; exact absurd rfl e1; rfl
        have Lw4 := hide (show Le w w4 from Lw3.out.trans hb)
        have B0w4 := hide (B0w3.out.below hb B0w3.out.lt)
        have B1w4 := hide (B1w3.out.below hb B1w3.out.lt)
        have B2w4 := hide (B2w3.out.below hb B2w3.out.lt)
        clear hb
        have f00 := B0w4.out.cell 0 (.bool false) rfl
        have f01 := B0w4.out.cell 1 (.int .i64 ai) rfl
        have f02 := B0w4.out.cell 2 (.string as_) rfl
        have f10 := B1w4.out.cell 0 (.bool true) rfl
        have f11 := B1w4.out.cell 1 (.int .i64 bi) rfl
        have f12 := B1w4.out.cell 2 (.string bs) rfl
        have f20 := B2w4.out.cell 0 (.bool cn) rfl
        have f21 := B2w4.out.cell 1 (.int .i64 ci) rfl
        have f22 := B2w4.out.cell 2 (.string cs) rfl
        go_wp2_with fail
        clear f00 f01 f02 f10 f11 f12 f20 f21 f22
        refine (hma.out w4).mono ?_
        rintro e w4m ⟨rfl, hb⟩
        have Lw4m := hide (show Le w w4m from Lw4.out.trans hb)
        have B0w4m := hide (B0w4.out.below hb B0w4.out.lt)
        have B1w4m := hide (B1w4.out.below hb B1w4.out.lt)
        have B2w4m := hide (B2w4.out.below hb B2w4.out.lt)
        clear hb
        have f00 := B0w4m.out.cell 0 (.bool false) rfl
        have f01 := B0w4m.out.cell 1 (.int .i64 ai) rfl
        have f02 := B0w4m.out.cell 2 (.string as_) rfl
        have f10 := B1w4m.out.cell 0 (.bool true) rfl
        have f11 := B1w4m.out.cell 1 (.int .i64 bi) rfl
        have f12 := B1w4m.out.cell 2 (.string bs) rfl
        have f20 := B2w4m.out.cell 0 (.bool cn) rfl
        have f21 := B2w4m.out.cell 1 (.int .i64 ci) rfl
        have f22 := B2w4m.out.cell 2 (.string cs) rfl
        go_wp2_with fail
        clear f00 f01 f02 f10 f11 f12 f20 f21 f22
        refine (hsa.out w4m).mono ?_
        rintro e w9 ⟨rfl, hb⟩
        have LF := hide (show Le w w9 from Lw4m.out.trans hb)
        clear hb
        go_wp2_with fail
        go_ret
        exact ⟨rfl, LF.out⟩
      · obtain rfl : bn = false := by cases bn; rfl; exact absurd rfl e1
        have Lw4 := hide (show Le w w4 from Lw3.out.trans hb)
        have B0w4 := hide (B0w3.out.below hb B0w3.out.lt)
        have B1w4 := hide (B1w3.out.below hb B1w3.out.lt)
        have B2w4 := hide (B2w3.out.below hb B2w3.out.lt)
        clear hb
        have f00 := B0w4.out.cell 0 (.bool true) rfl
        have f01 := B0w4.out.cell 1 (.int .i64 ai) rfl
        have f02 := B0w4.out.cell 2 (.string as_) rfl
        have f10 := B1w4.out.cell 0 (.bool false) rfl
        have f11 := B1w4.out.cell 1 (.int .i64 bi) rfl
        have f12 := B1w4.out.cell 2 (.string bs) rfl
        have f20 := B2w4.out.cell 0 (.bool cn) rfl
        have f21 := B2w4.out.cell 1 (.int .i64 ci) rfl
        have f22 := B2w4.out.cell 2 (.string cs) rfl
        go_wp2_with fail
        clear f00 f01 f02 f10 f11 f12 f20 f21 f22
        refine (hma.out w4).mono ?_
        rintro e w4m ⟨rfl, hb⟩
        have Lw4m := hide (show Le w w4m from Lw4.out.trans hb)
        have B0w4m := hide (B0w4.out.below hb B0w4.out.lt)
        have B1w4m := hide (B1w4.out.below hb B1w4.out.lt)
        have B2w4m := hide (B2w4.out.below hb B2w4.out.lt)
        clear hb
        have f00 := B0w4m.out.cell 0 (.bool true) rfl
        have f01 := B0w4m.out.cell 1 (.int .i64 ai) rfl
        have f02 := B0w4m.out.cell 2 (.string as_) rfl
        have f10 := B1w4m.out.cell 0 (.bool false) rfl
        have f11 := B1w4m.out.cell 1 (.int .i64 bi) rfl
        have f12 := B1w4m.out.cell 2 (.string bs) rfl
        have f20 := B2w4m.out.cell 0 (.bool cn) rfl
        have f21 := B2w4m.out.cell 1 (.int .i64 ci) rfl
        have f22 := B2w4m.out.cell 2 (.string cs) rfl
        go_wp2_with fail
        clear f00 f01 f02 f10 f11 f12 f20 f21 f22
        refine (hsa.out w4m).mono ?_
        rintro e w9 ⟨rfl, hb⟩
        have LF := hide (show Le w w9 from Lw4m.out.trans hb)
        clear hb
        go_wp2_with fail
        go_ret
        exact ⟨rfl, LF.out⟩
  · have dx : decide (0 < x) = false := decide_eq_false hx1
    have Lw4 := hide (show Le w w4 from Lw3.out.trans hb)
    have B0w4 := hide (B0w3.out.below hb B0w3.out.lt)
    have B1w4 := hide (B1w3.out.below hb B1w3.out.lt)
    have B2w4 := hide (B2w3.out.below hb B2w3.out.lt)
    clear hb
    have f00 := B0w4.out.cell 0 (.bool an) rfl
    have f01 := B0w4.out.cell 1 (.int .i64 ai) rfl
    have f02 := B0w4.out.cell 2 (.string as_) rfl
    have f10 := B1w4.out.cell 0 (.bool bn) rfl
    have f11 := B1w4.out.cell 1 (.int .i64 bi) rfl
    have f12 := B1w4.out.cell 2 (.string bs) rfl
    have f20 := B2w4.out.cell 0 (.bool cn) rfl
    have f21 := B2w4.out.cell 1 (.int .i64 ci) rfl
    have f22 := B2w4.out.cell 2 (.string cs) rfl
    go_wp2_with fail
    clear f00 f01 f02 f10 f11 f12 f20 f21 f22
    refine (hbc.out w4).mono ?_
    rintro e w5 ⟨rfl, hb⟩
    by_cases hy1 : 0 < y
    · have Lw5 := hide (show Le w w5 from Lw4.out.trans hb)
      have B0w5 := hide (B0w4.out.below hb B0w4.out.lt)
      have B1w5 := hide (B1w4.out.below hb B1w4.out.lt)
      have B2w5 := hide (B2w4.out.below hb B2w4.out.lt)
      clear hb
      have f00 := B0w5.out.cell 0 (.bool an) rfl
      have f01 := B0w5.out.cell 1 (.int .i64 ai) rfl
      have f02 := B0w5.out.cell 2 (.string as_) rfl
      have f10 := B1w5.out.cell 0 (.bool bn) rfl
      have f11 := B1w5.out.cell 1 (.int .i64 bi) rfl
      have f12 := B1w5.out.cell 2 (.string bs) rfl
      have f20 := B2w5.out.cell 0 (.bool cn) rfl
      have f21 := B2w5.out.cell 1 (.int .i64 ci) rfl
      have f22 := B2w5.out.cell 2 (.string cs) rfl
      go_wp2_with fail
      clear f00 f01 f02 f10 f11 f12 f20 f21 f22
      refine (hma.out w5).mono ?_
      rintro e w7 ⟨rfl, hb⟩
      by_cases hx0 : x = 0
      · subst hx0
        obtain ⟨rfl, rfl, e3⟩ := HZ.out.1 rfl
        obtain rfl : as_ = bs := ByteArray.ext (by rw [beq_iff_eq, ByteArray.toList_eq, ByteArray.toList_eq] at e3; exact Array.toList_inj.1 e3)
        clear e3
        have Lw7 := hide (show Le w w7 from Lw5.out.trans hb)
        have B0w7 := hide (B0w5.out.below hb B0w5.out.lt)
        have B1w7 := hide (B1w5.out.below hb B1w5.out.lt)
        have B2w7 := hide (B2w5.out.below hb B2w5.out.lt)
        clear hb
        have f00 := B0w7.out.cell 0 (.bool an) rfl
        have f01 := B0w7.out.cell 1 (.int .i64 ai) rfl
        have f02 := B0w7.out.cell 2 (.string as_) rfl
        have f10 := B1w7.out.cell 0 (.bool an) rfl
        have f11 := B1w7.out.cell 1 (.int .i64 ai) rfl
        have f12 := B1w7.out.cell 2 (.string as_) rfl
        have f20 := B2w7.out.cell 0 (.bool cn) rfl
        have f21 := B2w7.out.cell 1 (.int .i64 ci) rfl
        have f22 := B2w7.out.cell 2 (.string cs) rfl
        go_wp2_with fail
        clear f00 f01 f02 f10 f11 f12 f20 f21 f22
        refine (hsa.out w7).mono ?_
        rintro e w9 ⟨rfl, hb⟩
        have LF := hide (show Le w w9 from Lw7.out.trans hb)
        clear hb
        go_wp2_with fail
        go_ret
        exact ⟨rfl, LF.out⟩
      · have hne : ¬ (an = bn ∧ ai = bi ∧ (as_.toList == bs.toList) = true) := fun h => hx0 (HZ.out.2 h)
        have hxb : (x == 0) = false := by simpa using hx0
        clear HZ
        by_cases e1 : an = bn
        · subst e1
          by_cases e2 : ai = bi
          · subst e2
            have e3 : (as_.toList == bs.toList) = false := by
              cases h : (as_.toList == bs.toList) with
              | false => rfl
              | true => exact absurd ⟨rfl, rfl, h⟩ hne
            clear hne
            have Lw7 := hide (show Le w w7 from Lw5.out.trans hb)
            have B0w7 := hide (B0w5.out.below hb B0w5.out.lt)
            have B1w7 := hide (B1w5.out.below hb B1w5.out.lt)
            have B2w7 := hide (B2w5.out.below hb B2w5.out.lt)
            clear hb
            have f00 := B0w7.out.cell 0 (.bool an) rfl
            have f01 := B0w7.out.cell 1 (.int .i64 ai) rfl
            have f02 := B0w7.out.cell 2 (.string as_) rfl
            have f10 := B1w7.out.cell 0 (.bool an) rfl
            have f11 := B1w7.out.cell 1 (.int .i64 ai) rfl
            have f12 := B1w7.out.cell 2 (.string bs) rfl
            have f20 := B2w7.out.cell 0 (.bool cn) rfl
            have f21 := B2w7.out.cell 1 (.int .i64 ci) rfl
            have f22 := B2w7.out.cell 2 (.string cs) rfl
            go_wp2_with fail
            clear f00 f01 f02 f10 f11 f12 f20 f21 f22
            refine (hsa.out w7).mono ?_
            rintro e w9 ⟨rfl, hb⟩
            have LF := hide (show Le w w9 from Lw7.out.trans hb)
            clear hb
            go_wp2_with fail
            go_ret
            exact ⟨rfl, LF.out⟩
          · clear hne
            have Lw7 := hide (show Le w w7 from Lw5.out.trans hb)
            have B0w7 := hide (B0w5.out.below hb B0w5.out.lt)
            have B1w7 := hide (B1w5.out.below hb B1w5.out.lt)
            have B2w7 := hide (B2w5.out.below hb B2w5.out.lt)
            clear hb
            have f00 := B0w7.out.cell 0 (.bool an) rfl
            have f01 := B0w7.out.cell 1 (.int .i64 ai) rfl
            have f02 := B0w7.out.cell 2 (.string as_) rfl
            have f10 := B1w7.out.cell 0 (.bool an) rfl
            have f11 := B1w7.out.cell 1 (.int .i64 bi) rfl
            have f12 := B1w7.out.cell 2 (.string bs) rfl
            have f20 := B2w7.out.cell 0 (.bool cn) rfl
            have f21 := B2w7.out.cell 1 (.int .i64 ci) rfl
            have f22 := B2w7.out.cell 2 (.string cs) rfl
            go_wp2_with fail
            clear f00 f01 f02 f10 f11 f12 f20 f21 f22
            refine (hsa.out w7).mono ?_
            rintro e w9 ⟨rfl, hb⟩
            have LF := hide (show Le w w9 from Lw7.out.trans hb)
            clear hb
            go_wp2_with fail
            go_ret
            exact ⟨rfl, LF.out⟩
        · clear hne
          cases an
          · obtain rfl : bn = true := by cases bn; exact absurd rfl e1; rfl
            have Lw7 := hide (show Le w w7 from Lw5.out.trans hb)
            have B0w7 := hide (B0w5.out.below hb B0w5.out.lt)
            have B1w7 := hide (B1w5.out.below hb B1w5.out.lt)
            have B2w7 := hide (B2w5.out.below hb B2w5.out.lt)
            clear hb
            have f00 := B0w7.out.cell 0 (.bool false) rfl
            have f01 := B0w7.out.cell 1 (.int .i64 ai) rfl
            have f02 := B0w7.out.cell 2 (.string as_) rfl
            have f10 := B1w7.out.cell 0 (.bool true) rfl
            have f11 := B1w7.out.cell 1 (.int .i64 bi) rfl
            have f12 := B1w7.out.cell 2 (.string bs) rfl
            have f20 := B2w7.out.cell 0 (.bool cn) rfl
            have f21 := B2w7.out.cell 1 (.int .i64 ci) rfl
            have f22 := B2w7.out.cell 2 (.string cs) rfl
            go_wp2_with fail
            clear f00 f01 f02 f10 f11 f12 f20 f21 f22
            refine (hsa.out w7).mono ?_
            rintro e w9 ⟨rfl, hb⟩
            have LF := hide (show Le w w9 from Lw7.out.trans hb)
            clear hb
            go_wp2_with fail
            go_ret
            exact ⟨rfl, LF.out⟩
          · obtain rfl : bn = false := by cases bn; rfl; exact absurd rfl e1
            have Lw7 := hide (show Le w w7 from Lw5.out.trans hb)
            have B0w7 := hide (B0w5.out.below hb B0w5.out.lt)
            have B1w7 := hide (B1w5.out.below hb B1w5.out.lt)
            have B2w7 := hide (B2w5.out.below hb B2w5.out.lt)
            clear hb
            have f00 := B0w7.out.cell 0 (.bool true) rfl
            have f01 := B0w7.out.cell 1 (.int .i64 ai) rfl
            have f02 := B0w7.out.cell 2 (.string as_) rfl
            have f10 := B1w7.out.cell 0 (.bool false) rfl
            have f11 := B1w7.out.cell 1 (.int .i64 bi) rfl
            have f12 := B1w7.out.cell 2 (.string bs) rfl
            have f20 := B2w7.out.cell 0 (.bool cn) rfl
            have f21 := B2w7.out.cell 1 (.int .i64 ci) rfl
            have f22 := B2w7.out.cell 2 (.string cs) rfl
            go_wp2_with fail
            clear f00 f01 f02 f10 f11 f12 f20 f21 f22
            refine (hsa.out w7).mono ?_
            rintro e w9 ⟨rfl, hb⟩
            have LF := hide (show Le w w9 from Lw7.out.trans hb)
            clear hb
            go_wp2_with fail
            go_ret
            exact ⟨rfl, LF.out⟩
    · have dy : decide (0 < y) = false := decide_eq_false hy1
      have hz1 : z ≤ 0 := HCH.out (by omega) (by omega)
      have Lw5 := hide (show Le w w5 from Lw4.out.trans hb)
      have B0w5 := hide (B0w4.out.below hb B0w4.out.lt)
      have B1w5 := hide (B1w4.out.below hb B1w4.out.lt)
      have B2w5 := hide (B2w4.out.below hb B2w4.out.lt)
      clear hb
      have f00 := B0w5.out.cell 0 (.bool an) rfl
      have f01 := B0w5.out.cell 1 (.int .i64 ai) rfl
      have f02 := B0w5.out.cell 2 (.string as_) rfl
      have f10 := B1w5.out.cell 0 (.bool bn) rfl
      have f11 := B1w5.out.cell 1 (.int .i64 bi) rfl
      have f12 := B1w5.out.cell 2 (.string bs) rfl
      have f20 := B2w5.out.cell 0 (.bool cn) rfl
      have f21 := B2w5.out.cell 1 (.int .i64 ci) rfl
      have f22 := B2w5.out.cell 2 (.string cs) rfl
      go_wp2_with fail
      clear f00 f01 f02 f10 f11 f12 f20 f21 f22
      refine (hac.out w5).mono ?_
      rintro e w6 ⟨rfl, hb⟩
      have Lw6 := hide (show Le w w6 from Lw5.out.trans hb)
      have B0w6 := hide (B0w5.out.below hb B0w5.out.lt)
      have B1w6 := hide (B1w5.out.below hb B1w5.out.lt)
      have B2w6 := hide (B2w5.out.below hb B2w5.out.lt)
      clear hb
      have f00 := B0w6.out.cell 0 (.bool an) rfl
      have f01 := B0w6.out.cell 1 (.int .i64 ai) rfl
      have f02 := B0w6.out.cell 2 (.string as_) rfl
      have f10 := B1w6.out.cell 0 (.bool bn) rfl
      have f11 := B1w6.out.cell 1 (.int .i64 bi) rfl
      have f12 := B1w6.out.cell 2 (.string bs) rfl
      have f20 := B2w6.out.cell 0 (.bool cn) rfl
      have f21 := B2w6.out.cell 1 (.int .i64 ci) rfl
      have f22 := B2w6.out.cell 2 (.string cs) rfl
      go_wp2_with fail
      clear f00 f01 f02 f10 f11 f12 f20 f21 f22
      refine (hma.out w6).mono ?_
      rintro e w7 ⟨rfl, hb⟩
      by_cases hx0 : x = 0
      · subst hx0
        obtain ⟨rfl, rfl, e3⟩ := HZ.out.1 rfl
        obtain rfl : as_ = bs := ByteArray.ext (by rw [beq_iff_eq, ByteArray.toList_eq, ByteArray.toList_eq] at e3; exact Array.toList_inj.1 e3)
        clear e3
        have Lw7 := hide (show Le w w7 from Lw6.out.trans hb)
        have B0w7 := hide (B0w6.out.below hb B0w6.out.lt)
        have B1w7 := hide (B1w6.out.below hb B1w6.out.lt)
        have B2w7 := hide (B2w6.out.below hb B2w6.out.lt)
        clear hb
        have f00 := B0w7.out.cell 0 (.bool an) rfl
        have f01 := B0w7.out.cell 1 (.int .i64 ai) rfl
        have f02 := B0w7.out.cell 2 (.string as_) rfl
        have f10 := B1w7.out.cell 0 (.bool an) rfl
        have f11 := B1w7.out.cell 1 (.int .i64 ai) rfl
        have f12 := B1w7.out.cell 2 (.string as_) rfl
        have f20 := B2w7.out.cell 0 (.bool cn) rfl
        have f21 := B2w7.out.cell 1 (.int .i64 ci) rfl
        have f22 := B2w7.out.cell 2 (.string cs) rfl
        go_wp2_with fail
        clear f00 f01 f02 f10 f11 f12 f20 f21 f22
        refine (hsa.out w7).mono ?_
        rintro e w9 ⟨rfl, hb⟩
        have LF := hide (show Le w w9 from Lw7.out.trans hb)
        clear hb
        go_wp2_with fail
        go_ret
        exact ⟨rfl, LF.out⟩
      · have hne : ¬ (an = bn ∧ ai = bi ∧ (as_.toList == bs.toList) = true) := fun h => hx0 (HZ.out.2 h)
        have hxb : (x == 0) = false := by simpa using hx0
        clear HZ
        by_cases e1 : an = bn
        · subst e1
          by_cases e2 : ai = bi
          · subst e2
            have e3 : (as_.toList == bs.toList) = false := by
              cases h : (as_.toList == bs.toList) with
              | false => rfl
              | true => exact absurd ⟨rfl, rfl, h⟩ hne
            clear hne
            have Lw7 := hide (show Le w w7 from Lw6.out.trans hb)
            have B0w7 := hide (B0w6.out.below hb B0w6.out.lt)
            have B1w7 := hide (B1w6.out.below hb B1w6.out.lt)
            have B2w7 := hide (B2w6.out.below hb B2w6.out.lt)
            clear hb
            have f00 := B0w7.out.cell 0 (.bool an) rfl
            have f01 := B0w7.out.cell 1 (.int .i64 ai) rfl
            have f02 := B0w7.out.cell 2 (.string as_) rfl
            have f10 := B1w7.out.cell 0 (.bool an) rfl
            have f11 := B1w7.out.cell 1 (.int .i64 ai) rfl
            have f12 := B1w7.out.cell 2 (.string bs) rfl
            have f20 := B2w7.out.cell 0 (.bool cn) rfl
            have f21 := B2w7.out.cell 1 (.int .i64 ci) rfl
            have f22 := B2w7.out.cell 2 (.string cs) rfl
            go_wp2_with fail
            clear f00 f01 f02 f10 f11 f12 f20 f21 f22
            refine (hsa.out w7).mono ?_
            rintro e w9 ⟨rfl, hb⟩
            have LF := hide (show Le w w9 from Lw7.out.trans hb)
            clear hb
            go_wp2_with fail
            go_ret
            exact ⟨rfl, LF.out⟩
          · clear hne
            have Lw7 := hide (show Le w w7 from Lw6.out.trans hb)
            have B0w7 := hide (B0w6.out.below hb B0w6.out.lt)
            have B1w7 := hide (B1w6.out.below hb B1w6.out.lt)
            have B2w7 := hide (B2w6.out.below hb B2w6.out.lt)
            clear hb
            have f00 := B0w7.out.cell 0 (.bool an) rfl
            have f01 := B0w7.out.cell 1 (.int .i64 ai) rfl
            have f02 := B0w7.out.cell 2 (.string as_) rfl
            have f10 := B1w7.out.cell 0 (.bool an) rfl
            have f11 := B1w7.out.cell 1 (.int .i64 bi) rfl
            have f12 := B1w7.out.cell 2 (.string bs) rfl
            have f20 := B2w7.out.cell 0 (.bool cn) rfl
            have f21 := B2w7.out.cell 1 (.int .i64 ci) rfl
            have f22 := B2w7.out.cell 2 (.string cs) rfl
            go_wp2_with fail
            clear f00 f01 f02 f10 f11 f12 f20 f21 f22
            refine (hsa.out w7).mono ?_
            rintro e w9 ⟨rfl, hb⟩
            have LF := hide (show Le w w9 from Lw7.out.trans hb)
            clear hb
            go_wp2_with fail
            go_ret
            exact ⟨rfl, LF.out⟩
        · clear hne
          cases an
          · obtain rfl : bn = true := by cases bn; exact absurd rfl e1; rfl
            have Lw7 := hide (show Le w w7 from Lw6.out.trans hb)
            have B0w7 := hide (B0w6.out.below hb B0w6.out.lt)
            have B1w7 := hide (B1w6.out.below hb B1w6.out.lt)
            have B2w7 := hide (B2w6.out.below hb B2w6.out.lt)
            clear hb
            have f00 := B0w7.out.cell 0 (.bool false) rfl
            have f01 := B0w7.out.cell 1 (.int .i64 ai) rfl
            have f02 := B0w7.out.cell 2 (.string as_) rfl
            have f10 := B1w7.out.cell 0 (.bool true) rfl
            have f11 := B1w7.out.cell 1 (.int .i64 bi) rfl
            have f12 := B1w7.out.cell 2 (.string bs) rfl
            have f20 := B2w7.out.cell 0 (.bool cn) rfl
            have f21 := B2w7.out.cell 1 (.int .i64 ci) rfl
            have f22 := B2w7.out.cell 2 (.string cs) rfl
            go_wp2_with fail
            clear f00 f01 f02 f10 f11 f12 f20 f21 f22
            refine (hsa.out w7).mono ?_
            rintro e w9 ⟨rfl, hb⟩
            have LF := hide (show Le w w9 from Lw7.out.trans hb)
            clear hb
            go_wp2_with fail
            go_ret
            exact ⟨rfl, LF.out⟩
          · obtain rfl : bn = false := by cases bn; rfl; exact absurd rfl e1
            have Lw7 := hide (show Le w w7 from Lw6.out.trans hb)
            have B0w7 := hide (B0w6.out.below hb B0w6.out.lt)
            have B1w7 := hide (B1w6.out.below hb B1w6.out.lt)
            have B2w7 := hide (B2w6.out.below hb B2w6.out.lt)
            clear hb
            have f00 := B0w7.out.cell 0 (.bool true) rfl
            have f01 := B0w7.out.cell 1 (.int .i64 ai) rfl
            have f02 := B0w7.out.cell 2 (.string as_) rfl
            have f10 := B1w7.out.cell 0 (.bool false) rfl
            have f11 := B1w7.out.cell 1 (.int .i64 bi) rfl
            have f12 := B1w7.out.cell 2 (.string bs) rfl
            have f20 := B2w7.out.cell 0 (.bool cn) rfl
            have f21 := B2w7.out.cell 1 (.int .i64 ci) rfl
            have f22 := B2w7.out.cell 2 (.string cs) rfl
            go_wp2_with fail
            clear f00 f01 f02 f10 f11 f12 f20 f21 f22
            refine (hsa.out w7).mono ?_
            rintro e w9 ⟨rfl, hb⟩
            have LF := hide (show Le w w9 from Lw7.out.trans hb)
            clear hb
            go_wp2_with fail
            go_ret
            exact ⟨rfl, LF.out⟩
#print axioms total_walk
end Go.Proofs.YtoembifjgmiamaaDoor
