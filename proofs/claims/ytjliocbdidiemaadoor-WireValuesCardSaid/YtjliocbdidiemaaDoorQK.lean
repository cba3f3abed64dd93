/-
  The law that values, and what is known, are laid down and taken as they were, walked (written by genQ1.py).
-/
import Derived.Test.YtjliocbdidiemaaDoorQG
import Derived.Test.YtjliocbdidiemaaDoorQY
import Derived.Test.YtjliocbdidiemaaDoorQF
namespace Go.Proofs.YtjliocbdidiemaaDoor
open Go.RowKit
set_option linter.unusedVariables false

theorem cut300 (s : ByteArray) : (s.extract 0 300).size ≤ 300 := by
  rw [ByteArray.size_extract]
  omega

set_option maxRecDepth 100000 in
set_option maxHeartbeats 8000000 in
theorem values_walk (w : World) (vn : Bool) (vi : Int) (vs0 : ByteArray) (kd : Int) (sc : Int) (sh an : Bool) (ai : Int) (as0 : ByteArray) (bn : Bool) (bi : Int) (bs0 : ByteArray) (su : Int) (so : Bool) (hvi : I64 vi) (hsc : I64 sc) (hai : I64 ai) (hbi : I64 bi) (hsu : I64 su)
    (hz1 : vs0.size ≤ 9223372036854775807) (hz2 : as0.size ≤ 9223372036854775807) (hz3 : bs0.size ≤ 9223372036854775807) (hT : Tabs8 w) :
    Calls Tryd.prog 4 #[.agg #[.bool vn, .int .i64 vi, .string vs0], .int .i64 kd, .agg #[.int .i64 sc, .bool sh, .bool an, .int .i64 ai, .string as0, .bool bn, .int .i64 bi, .string bs0, .int .i64 su, .bool so]] w fun e w' => e = .returned (.bool true) ∧ Below w.heap.size w w' := by
  have HVI := hide hvi
  have HSC := hide hsc
  have HAI := hide hai
  have HBI := hide hbi
  have HSU := hide hsu
  have HT := hide hT
  clear hvi hsc hai hbi hsu hT
  obtain ⟨W0, hW0⟩ : ∃ W0, (w.alloc (.cells #[.bool vn, .int .i64 vi, .string vs0] 32)).alloc (.cells #[.int .i64 sc, .bool sh, .bool an, .int .i64 ai, .string as0, .bool bn, .int .i64 bi, .string bs0, .int .i64 su, .bool so] 36) = W0 := ⟨_, rfl⟩
  have BV := hide (show Box W0 w.heap.size #[.bool vn, .int .i64 vi, .string vs0] 32 by rw [← hW0]; exact (box_new _ _ _).alloc _)
  have BS := hide (show Box W0 (w.heap.size + 1) #[.int .i64 sc, .bool sh, .bool an, .int .i64 ai, .string as0, .bool bn, .int .i64 bi, .string bs0, .int .i64 su, .bool so] 36 by
    rw [← hW0]
    have h := box_new (w.alloc (.cells #[.bool vn, .int .i64 vi, .string vs0] 32)) #[.int .i64 sc, .bool sh, .bool an, .int .i64 ai, .string as0, .bool bn, .int .i64 bi, .string bs0, .int .i64 su, .bool so] 36
    have e : (w.alloc (.cells #[.bool vn, .int .i64 vi, .string vs0] 32)).heap.size = w.heap.size + 1 := by simp
    rw [e] at h
    exact h)
  have HB0 := hide (show Le w W0 by rw [← hW0]; exact ((Below.refl _ _).alloc (Nat.le_refl _) _).alloc (by simp) _)
  have HW0 := hide hW0
  clear hW0
  go_enter Tryd.func4, Tryd.ntmps4
  go_upto_region 1 with fail
  rw [HW0.out]
  go_wp2_with fail
  refine (shown_any W0).mono ?_
  rintro e w1 ⟨rfl, hb1⟩
  have HB1 := hide (HB0.out.trans hb1)
  have BV1 := hide (BV.out.below hb1 BV.out.lt)
  have BS1 := hide (BS.out.below hb1 BS.out.lt)
  clear hb1 BV BS
  have g0 := BV1.out.cell 0 (.bool vn) rfl
  have g1 := BV1.out.cell 1 (.int .i64 vi) rfl
  have g2 := BV1.out.cell 2 (.string vs0) rfl
  go_upto_if 21 with fail
  go_cut [7] (fun s7 wx => ∃ vs' : ByteArray, s7 = .bool true ∧ vs'.size ≤ 300 ∧ Box wx w.heap.size #[.bool vn, .int .i64 vi, .string vs'] 32 ∧ Box wx (w.heap.size + 1) #[.int .i64 sc, .bool sh, .bool an, .int .i64 ai, .string as0, .bool bn, .int .i64 bi, .string bs0, .int .i64 su, .bool so] 36 ∧ Le w wx)
  case first =>
    have f2 := BV1.out.frozen 2
    by_cases hlong : 300 < vs0.size
    · have hI : (300 : Int) < (vs0.size : Int) := by omega
      have hI2 : (300 : Int) ≤ (vs0.size : Int) := by omega
      go_wp2_with fail
      go_meet
      exact ⟨_, rfl, cut300 vs0, BV1.out.set 2 _, BS1.out.other (by simp) _, HB1.out.setCell (Nat.le_refl _) _⟩
    · have hI : ¬ (300 : Int) < (vs0.size : Int) := by omega
      go_wp2_with fail
      go_meet
      exact ⟨vs0, rfl, by omega, BV1.out, BS1.out, HB1.out⟩
  case rest =>
    clear g0 g1 g2 BV1 BS1 HB1 hz1 HW0
    obtain ⟨vs, rfl, hv3, hbv, hbs, hb⟩ := hcut
    have HZV := hide hv3
    have BV2 := hide hbv
    have BS2 := hide hbs
    have HB2 := hide hb
    clear hv3 hbv hbs hb
    have g0 := BS2.out.cell 0 (.int .i64 sc) rfl
    have g1 := BS2.out.cell 1 (.bool sh) rfl
    have g2 := BS2.out.cell 2 (.bool an) rfl
    have g3 := BS2.out.cell 3 (.int .i64 ai) rfl
    have g4 := BS2.out.cell 4 (.string as0) rfl
    have g5 := BS2.out.cell 5 (.bool bn) rfl
    have g6 := BS2.out.cell 6 (.int .i64 bi) rfl
    have g7 := BS2.out.cell 7 (.string bs0) rfl
    have g8 := BS2.out.cell 8 (.int .i64 su) rfl
    have g9 := BS2.out.cell 9 (.bool so) rfl
    obtain ⟨Y, rfl⟩ : ∃ Y, Y = wc := ⟨_, rfl⟩
    obtain ⟨d1, hd1⟩ : ∃ b, decide ((300 : Int) < (as0.size : Int)) = b := ⟨_, rfl⟩
    obtain ⟨d2, hd2⟩ : ∃ b, decide ((300 : Int) < (bs0.size : Int)) = b := ⟨_, rfl⟩
    go_upto_region 4 with fail
    go_cut [37] (fun s wx => s = .bool (d1 || d2) ∧ Y = wx)
    case first =>
      cases d1
      · go_wp2_with fail
        go_meet
        exact ⟨rfl, rfl⟩
      · go_wp2_with fail
        go_meet
        exact ⟨rfl, rfl⟩
    case rest =>
    obtain ⟨rfl, rfl⟩ := hcut
    obtain ⟨d, hd⟩ : ∃ d, (d1 || d2) = d := ⟨_, rfl⟩
    rw [hd]
    go_upto_if 37 with fail
    go_cut [7] (fun s7 wx => ∃ as' bs' : ByteArray, s7 = .bool true ∧ as'.size ≤ 300 ∧ bs'.size ≤ 300 ∧ Box wx w.heap.size #[.bool vn, .int .i64 vi, .string vs] 32 ∧ Box wx (w.heap.size + 1) #[.int .i64 sc, .bool sh, .bool an, .int .i64 ai, .string as', .bool bn, .int .i64 bi, .string bs', .int .i64 su, .bool so] 36 ∧ Le w wx)
    case first =>
      have f4 := BS2.out.frozen 4
      have f7 := BS2.out.frozen 7
      cases d
      · have h1 : as0.size ≤ 300 := by
          have := hd
          rw [Bool.or_eq_false_iff, ← hd1, ← hd2, decide_eq_false_iff_not, decide_eq_false_iff_not] at this
          omega
        have h2 : bs0.size ≤ 300 := by
          have := hd
          rw [Bool.or_eq_false_iff, ← hd1, ← hd2, decide_eq_false_iff_not, decide_eq_false_iff_not] at this
          omega
        go_wp2_with fail
        go_meet
        exact ⟨as0, bs0, rfl, h1, h2, BV2.out, BS2.out, HB2.out⟩
      · go_wp2_with fail
        go_meet
        exact ⟨_, _, rfl, by decide, by decide, (BV2.out.other (by simp) _).other (by simp) _, (BS2.out.set 4 _).set 7 _, (HB2.out.setCell (Nat.le_succ _) _).setCell (Nat.le_succ _) _⟩
    case rest =>
      clear g0 g1 g2 g3 g4 g5 g6 g7 g8 g9 BV2 BS2 HB2 hz2 hz3 hd hd1 hd2
      obtain ⟨as_, bs, rfl, ha3, hb3, hbv, hbs, hb⟩ := hcut
      have BV3 := hide hbv
      have BS3 := hide hbs
      have HB3 := hide hb
      clear hbv hbs hb
      obtain ⟨X, rfl⟩ : ∃ X, X = wc := ⟨_, rfl⟩
      obtain ⟨T, hT⟩ : ∃ T : st.St, T = ⟨sc, sh, ⟨an, ai, as_⟩, ⟨bn, bi, bs⟩, su, so⟩ := ⟨_, rfl⟩
      have HTC := hide (show st.cells T = #[.int .i64 sc, .bool sh, .bool an, .int .i64 ai, .string as_, .bool bn, .int .i64 bi, .string bs, .int .i64 su, .bool so] by rw [hT]; rfl)
      have HG := hide (show GoodS T by rw [hT]; exact ⟨HSC.out, HAI.out, by show as_.size ≤ 1500; omega, HBI.out, by show bs.size ≤ 1500; omega, HSU.out⟩)
      have HTL := hide (show (statE T).length ≤ 1000 from statE_len HG.out (by rw [hT]; exact ha3) (by rw [hT]; exact hb3))
      have HTSZ := hide (show T.mn.s.size ≤ 9223372036854775807 ∧ T.mx.s.size ≤ 9223372036854775807 by rw [hT]; exact ⟨show as_.size ≤ 9223372036854775807 by omega, show bs.size ≤ 9223372036854775807 by omega⟩)
      obtain ⟨E, hE⟩ : ∃ E, statE T = E := ⟨_, rfl⟩
      have HE8 := hide (show ∀ x ∈ E, x < 256 by rw [← hE]; exact statE8 HG.out)
      obtain ⟨mb, hmb⟩ : ∃ b, st.mayS kd T = b := ⟨_, rfl⟩
      have HTS := hide (show ts kd E = if mb then some T else none by rw [← hE, ts_stat HG.out, hmb])
      have HPS := hide (show ∀ W, Calls Tryd.prog 14 #[.agg #[.int .i64 sc, .bool sh, .bool an, .int .i64 ai, .string as_, .bool bn, .int .i64 bi, .string bs, .int .i64 su, .bool so]] W (Gives W.heap.size 5 1 E.length (u8s E) W) from fun W => by
        have h := putstats_any W T HG.out
        rw [hE, HTC.out] at h
        exact h)
      have HRPS := hide (show ∀ W, Calls Tryd.prog 17 #[.agg #[.int .i64 sc, .bool sh, .bool an, .int .i64 ai, .string as_, .bool bn, .int .i64 bi, .string bs, .int .i64 su, .bool so]] W (Gives W.heap.size 5 1 E.length (u8s E) W) from fun W => by
        have h := refputstats_any W T HG.out
        rw [hE, HTC.out] at h
        exact h)
      have HMY := hide (show ∀ W, Le w W → Calls Tryd.prog 15 #[.int .i64 kd, .agg #[.int .i64 sc, .bool sh, .bool an, .int .i64 ai, .string as_, .bool bn, .int .i64 bi, .string bs, .int .i64 su, .bool so]] W (fun e w' => e = .returned (.bool mb) ∧ Below W.heap.size W w') from fun W h => by
        have h := refstmay_any W kd T HTSZ.out.1 HTSZ.out.2 (HT.out.le h)
        rw [hmb, HTC.out] at h
        exact h)
      rw [hE] at HTL
      obtain ⟨F, hF⟩ : ∃ F, valE vn vi (byt vs) = F := ⟨_, rfl⟩
      have HF8 := hide (show ∀ x ∈ F, x < 256 by rw [← hF]; exact wi.enc8 (valF_fits HVI.out (byt8 vs) (by rw [byt_len]; have := HZV.out; omega)))
      have HFL := hide (show F.length ≤ 2000 by rw [← hF]; have h := valB_len ⟨vn, vi, vs⟩ HVI.out (by have := HZV.out; simp only; omega); have := HZV.out; simp only [valB] at h; omega)
      have HTV := hide (show tv F = some ⟨vn, vi, vs⟩ by rw [← hF]; exact tv_val (v := ⟨vn, vi, vs⟩) HVI.out (by have := HZV.out; simp only; omega))
      have HPV := hide (show ∀ W, Calls Tryd.prog 13 #[.agg #[.bool vn, .int .i64 vi, .string vs]] W (Gives W.heap.size 5 1 F.length (u8s F) W) from fun W => hF ▸ putvalue_any W vn vi vs HVI.out (by have := HZV.out; omega))
      have HRPV := hide (show ∀ W, Calls Tryd.prog 16 #[.agg #[.bool vn, .int .i64 vi, .string vs]] W (Gives W.heap.size 5 1 F.length (u8s F) W) from fun W => hF ▸ refputvalue_any W vn vi vs HVI.out (by have := HZV.out; omega))
      obtain ⟨el, hel⟩ : ∃ x, E.length = x := ⟨_, rfl⟩
      obtain ⟨fl, hfl⟩ : ∃ x, F.length = x := ⟨_, rfl⟩
      rw [hel] at HTL HPS HRPS
      rw [hfl] at HFL HPV HRPV
      have HEL := hide hel
      have HFLN := hide hfl
      have hS : T = if true then T else T := by simp
      obtain ⟨RS, hRS⟩ : ∃ r, tsV (ts kd E) = r := ⟨_, rfl⟩
      have HRS := hide (show RS = if mb then T else zeroS by rw [← hRS, HTS.out]; cases mb <;> rfl)
      have HRE := hide (show (tkE' (ts kd E) : Int) = if mb then 0 else 2 by rw [HTS.out]; cases mb <;> rfl)
      have HTT := hide hT
      clear hT hE hF hel hfl hS hmb
      have g0 := BV3.out.cell 0 (.bool vn) rfl
      have g1 := BV3.out.cell 1 (.int .i64 vi) rfl
      have g2 := BV3.out.cell 2 (.string vs) rfl
      have k0 := BS3.out.cell 0 (.int .i64 sc) rfl
      have k1 := BS3.out.cell 1 (.bool sh) rfl
      have k2 := BS3.out.cell 2 (.bool an) rfl
      have k3 := BS3.out.cell 3 (.int .i64 ai) rfl
      have k4 := BS3.out.cell 4 (.string as_) rfl
      have k5 := BS3.out.cell 5 (.bool bn) rfl
      have k6 := BS3.out.cell 6 (.int .i64 bi) rfl
      have k7 := BS3.out.cell 7 (.string bs) rfl
      have k8 := BS3.out.cell 8 (.int .i64 su) rfl
      have k9 := BS3.out.cell 9 (.bool so) rfl
      go_wp2_with fail
      refine (HPV.out X).mono ?_
      rintro e w4 ⟨v4, rfl, hown, hb⟩
      obtain ⟨A4, c4, rfl, hc4, hc4'⟩ := own_form hown
      have HR4 := hide (Row.of_own hown)
      have HL4 := hide (show Le X w4 from hb)
      clear hown hb g0 g1 g2 k0 k1 k2 k3 k4 k5 k6 k7 k8 k9
      have BV4 := hide (BV3.out.below HL4.out BV3.out.lt)
      have BS4 := hide (BS3.out.below HL4.out BS3.out.lt)
      have k0 := BS4.out.cell 0 (.int .i64 sc) rfl
      have k1 := BS4.out.cell 1 (.bool sh) rfl
      have k2 := BS4.out.cell 2 (.bool an) rfl
      have k3 := BS4.out.cell 3 (.int .i64 ai) rfl
      have k4 := BS4.out.cell 4 (.string as_) rfl
      have k5 := BS4.out.cell 5 (.bool bn) rfl
      have k6 := BS4.out.cell 6 (.int .i64 bi) rfl
      have k7 := BS4.out.cell 7 (.string bs) rfl
      have k8 := BS4.out.cell 8 (.int .i64 su) rfl
      have k9 := BS4.out.cell 9 (.bool so) rfl
      go_wp2_with fail
      refine (HPS.out w4).mono ?_
      rintro e w5 ⟨v5, rfl, hown, hb⟩
      obtain ⟨A5, c5, rfl, hc5, hc5'⟩ := own_form hown
      have HR5 := hide (Row.of_own hown)
      have HL5 := hide (show Le w4 w5 from hb)
      have HR45 := hide (HR4.out.le HL5.out)
      clear hown hb k0 k1 k2 k3 k4 k5 k6 k7 k8 k9
      go_wp2_with fail
      refine (takevalue_any w5 A4 fl c4 F HFLN.out HFL.out hc4 hc4' HF8.out HR45.out).mono ?_
      rintro e w6 h
      unfold TvR at h
      rw [HTV.out] at h
      obtain ⟨rfl, hb⟩ := h
      have HL6 := hide (show Le w5 w6 from hb)
      clear hb
      simp only [tvV, vcell, tkE']
      go_upto_region 10 with fail
      obtain ⟨X1, hX1, b1, hl1⟩ : ∃ X, w6.alloc (.cells #[.bool vn, .int .i64 vi, .string vs] 32) = X ∧ Box X w6.heap.size #[.bool vn, .int .i64 vi, .string vs] 32 ∧ Le w6 X := ⟨_, rfl, box_new _ _ _, (Below.refl _ _).alloc (Nat.le_refl _) _⟩
      rw [hX1]
      have HLX1 := hide (show Le w5 X1 from HL6.out.trans hl1)
      have BA := hide b1
      have HWX1 := hide (show Le w X1 from HB3.out.trans (HL4.out.trans (HL5.out.trans HLX1.out)))
      clear hX1 b1 hl1
      go_wp2_with fail
      refine (takestats_any X1 kd A5 el c5 E HEL.out HTL.out hc5 hc5' HE8.out (HR5.out.le HLX1.out) (HT.out.le HWX1.out)).mono ?_
      rintro e w7 h
      unfold TsR at h
      rw [hRS, HRE.out] at h
      obtain ⟨rfl, hb⟩ := h
      have HL7 := hide (show Le X1 w7 from hb)
      clear hb
      clear hRS
      obtain ⟨ee, hee⟩ : ∃ x, (if mb = true then (0 : Int) else 2) = x := ⟨_, rfl⟩
      rw [hee]
      obtain ⟨rc, rh, ⟨ra, rai, ras⟩, ⟨rb, rbi, rbs⟩, rs, ro⟩ := RS
      simp only [st.cells]
      go_upto_region 11 with fail
      obtain ⟨X2, hX2, b2, hl2⟩ : ∃ X, w7.alloc (.cells #[.int .i64 rc, .bool rh, .bool ra, .int .i64 rai, .string ras, .bool rb, .int .i64 rbi, .string rbs, .int .i64 rs, .bool ro] 36) = X ∧ Box X w7.heap.size #[.int .i64 rc, .bool rh, .bool ra, .int .i64 rai, .string ras, .bool rb, .int .i64 rbi, .string rbs, .int .i64 rs, .bool ro] 36 ∧ Le w7 X := ⟨_, rfl, box_new _ _ _, (Below.refl _ _).alloc (Nat.le_refl _) _⟩
      rw [hX2]
      have HLX2 := hide (show Le X1 X2 from HL7.out.trans hl2)
      have BB := hide b2
      have HWX2 := hide (show Le w X2 from HWX1.out.trans HLX2.out)
      clear hX2 b2 hl2
      have BS5 := hide (BS4.out.below (HL5.out.trans (HLX1.out.trans HLX2.out)) BS4.out.lt)
      have BV5 := hide (BV4.out.below (HL5.out.trans (HLX1.out.trans HLX2.out)) BV4.out.lt)
      have k0 := BS5.out.cell 0 (.int .i64 sc) rfl
      have k1 := BS5.out.cell 1 (.bool sh) rfl
      have k2 := BS5.out.cell 2 (.bool an) rfl
      have k3 := BS5.out.cell 3 (.int .i64 ai) rfl
      have k4 := BS5.out.cell 4 (.string as_) rfl
      have k5 := BS5.out.cell 5 (.bool bn) rfl
      have k6 := BS5.out.cell 6 (.int .i64 bi) rfl
      have k7 := BS5.out.cell 7 (.string bs) rfl
      have k8 := BS5.out.cell 8 (.int .i64 su) rfl
      have k9 := BS5.out.cell 9 (.bool so) rfl
      go_wp2_with fail
      refine (HMY.out X2 HWX2.out).mono ?_
      rintro e w8 ⟨rfl, hb⟩
      have HL8 := hide (show Le X2 w8 from hb)
      clear hb k0 k1 k2 k3 k4 k5 k6 k7 k8 k9
      go_upto_region 12 with fail
      obtain ⟨Q, hQ⟩ : ∃ Q, w8.drew = Q := ⟨_, rfl⟩
      have HLQ := hide (show Le X2 Q by rw [← hQ]; exact HL8.out.drew)
      have HQ := hide hQ
      clear hQ
      have HWQ := hide (HWX2.out.trans HLQ.out)
      have BAQ := hide (BA.out.below (HLX2.out.trans HLQ.out) BA.out.lt)
      have BBQ := hide (BB.out.below HLQ.out BB.out.lt)
      have BVQ := hide (BV5.out.below HLQ.out BV5.out.lt)
      have BSQ := hide (BS5.out.below HLQ.out BS5.out.lt)
      have HR4Q := hide (HR45.out.le (HLX1.out.trans (HLX2.out.trans HLQ.out)))
      have HR5Q := hide (HR5.out.le (HLX1.out.trans (HLX2.out.trans HLQ.out)))
      have g0 := BVQ.out.later 0 (.bool vn) rfl
      have g1 := BVQ.out.later 1 (.int .i64 vi) rfl
      have g2 := BVQ.out.later 2 (.string vs) rfl
      have q3 : ∀ W, Le Q W → (convert 22 9 (.slice A4 fl c4)).run Tryd.prog W = .ok (.string (str F)) W := fun W h => conv8 W Q.heap.size A4 fl c4 F HFLN.out HF8.out (h.row HR4Q.out (Nat.le_refl _))
      refine region_pi [(0, true), (1, true), (2, true), (3, false), (4, true), (5, true), (6, true), (7, true), (8, true), (9, true), (10, true), (11, true), (12, true), (13, true), (14, true), (15, true)] (by kernel_rfl) (by kernel_rfl) ?_
      simp only [opsPi, List.filterMap_cons, List.filterMap_nil, List.getElem?_toArray, List.getElem?_cons_zero, List.getElem?_cons_succ, Option.map_some]
      rw [HQ.out]
      repeat (first | (refine pi_take (v := _) rfl (fun W hW => by go_simp <;> exact rfl) ?_; simp only [Act.put, List.setIfInBounds_toArray, List.set_cons_zero, List.set_cons_succ]) | (refine pi_skip rfl ?_; simp only [Act.put, List.setIfInBounds_toArray, List.set_cons_zero, List.set_cons_succ]))
      refine pi_run ?_
      go_wp2_with fail
      refine (HRPV.out Q).mono ?_
      rintro e w9 ⟨v9, rfl, hown, hb⟩
      obtain ⟨A9, c9, rfl, -, -⟩ := own_form hown
      have HL9 := hide (show Le Q w9 from hb)
      have BA9 := hide (BAQ.out.below HL9.out BAQ.out.lt)
      have BV9 := hide (BVQ.out.below HL9.out BVQ.out.lt)
      have q4 : ∀ W, Le w9 W → (convert 22 9 (.slice A9 fl c9)).run Tryd.prog W = .ok (.string (str F)) W := fun W h => conv8 W w9.heap.size A9 fl c9 F HFLN.out HF8.out (h.row (Row.of_own hown) (Nat.le_refl _))
      clear g0 g1 g2 q3 hb hown
      have g0 := BA9.out.later 0 (.bool vn) rfl
      have g1 := BA9.out.later 1 (.int .i64 vi) rfl
      have g2 := BA9.out.later 2 (.string vs) rfl
      have k0 := BV9.out.later 0 (.bool vn) rfl
      have k1 := BV9.out.later 1 (.int .i64 vi) rfl
      have k2 := BV9.out.later 2 (.string vs) rfl
      go_wp2_with fail
      refine ⟨HL9.out, ?_⟩
      repeat (first | (refine pi_take (v := _) rfl (fun W hW => by go_simp <;> exact rfl) ?_; simp only [Act.put, List.setIfInBounds_toArray, List.set_cons_zero, List.set_cons_succ]) | (refine pi_skip rfl ?_; simp only [Act.put, List.setIfInBounds_toArray, List.set_cons_zero, List.set_cons_succ]))
      refine pi_done ?_
      clear q4 g0 g1 g2 k0 k1 k2
      go_upto_region 13 with fail
      obtain ⟨Q2, hQ2⟩ : ∃ Q, w9.drew = Q := ⟨_, rfl⟩
      have HLQ2 := hide (show Le Q Q2 by rw [← hQ2]; exact HL9.out.drew)
      have HQ2 := hide hQ2
      clear hQ2
      have HWQ2 := hide (HWQ.out.trans HLQ2.out)
      have BBQ2 := hide (BBQ.out.below HLQ2.out BBQ.out.lt)
      have BSQ2 := hide (BSQ.out.below HLQ2.out BSQ.out.lt)
      have HR5Q2 := hide (HR5Q.out.le HLQ2.out)
      have k0 := BSQ2.out.later 0 (.int .i64 sc) rfl
      have k1 := BSQ2.out.later 1 (.bool sh) rfl
      have k2 := BSQ2.out.later 2 (.bool an) rfl
      have k3 := BSQ2.out.later 3 (.int .i64 ai) rfl
      have k4 := BSQ2.out.later 4 (.string as_) rfl
      have k5 := BSQ2.out.later 5 (.bool bn) rfl
      have k6 := BSQ2.out.later 6 (.int .i64 bi) rfl
      have k7 := BSQ2.out.later 7 (.string bs) rfl
      have k8 := BSQ2.out.later 8 (.int .i64 su) rfl
      have k9 := BSQ2.out.later 9 (.bool so) rfl
      have q3 : ∀ W, Le Q2 W → (convert 22 9 (.slice A5 el c5)).run Tryd.prog W = .ok (.string (str E)) W := fun W h => conv8 W Q2.heap.size A5 el c5 E HEL.out HE8.out (h.row HR5Q2.out (Nat.le_refl _))
      cases mb
      · obtain rfl : ee = 2 := hee.symm
        refine region_pi [(0, true), (1, true), (2, true), (3, false), (4, true), (5, true), (6, true), (7, true), (8, true), (9, true), (10, true), (11, true), (12, true), (13, true), (14, true), (15, true), (16, true), (17, true), (18, true), (19, true), (20, true), (21, true), (22, true), (23, true), (24, true), (25, true), (26, true)] (by kernel_rfl) (by kernel_rfl) ?_
        simp only [opsPi, List.filterMap_cons, List.filterMap_nil, List.getElem?_toArray, List.getElem?_cons_zero, List.getElem?_cons_succ, Option.map_some]
        rw [HQ2.out]
        repeat (first | (refine pi_take (v := _) rfl (fun W hW => by go_simp <;> exact rfl) ?_; simp only [Act.put, List.setIfInBounds_toArray, List.set_cons_zero, List.set_cons_succ]) | (refine pi_skip rfl ?_; simp only [Act.put, List.setIfInBounds_toArray, List.set_cons_zero, List.set_cons_succ]))
        refine pi_run ?_
        go_wp2_with fail
        refine (HRPS.out Q2).mono ?_
        rintro e w10 ⟨v10, rfl, hown, hb⟩
        obtain ⟨A10, c10, rfl, -, -⟩ := own_form hown
        have HL10 := hide (show Le Q2 w10 from hb)
        have q4 : ∀ W, Le w10 W → (convert 22 9 (.slice A10 el c10)).run Tryd.prog W = .ok (.string (str E)) W := fun W h => conv8 W w10.heap.size A10 el c10 E HEL.out HE8.out (h.row (Row.of_own hown) (Nat.le_refl _))
        clear k0 k1 k2 k3 k4 k5 k6 k7 k8 k9 q3 hb hown
        go_wp2_with fail
        refine ⟨HL10.out, ?_⟩
        repeat (first | (refine pi_take (v := _) rfl (fun W hW => by go_simp <;> exact rfl) ?_; simp only [Act.put, List.setIfInBounds_toArray, List.set_cons_zero, List.set_cons_succ]) | (refine pi_skip rfl ?_; simp only [Act.put, List.setIfInBounds_toArray, List.set_cons_zero, List.set_cons_succ]))
        refine pi_done ?_
        clear q4
        go_wp2_with fail
        go_ret
        exact ⟨rfl, HWQ2.out.trans HL10.out⟩
      · obtain rfl : ee = 0 := hee.symm
        have hRT : (⟨rc, rh, ⟨ra, rai, ras⟩, ⟨rb, rbi, rbs⟩, rs, ro⟩ : st.St) = ⟨sc, sh, ⟨an, ai, as_⟩, ⟨bn, bi, bs⟩, su, so⟩ := HRS.out.trans HTT.out
        simp only [st.St.mk.injEq, va.Val.mk.injEq] at hRT
        obtain ⟨rfl, rfl, ⟨rfl, rfl, rfl⟩, ⟨rfl, rfl, rfl⟩, rfl, rfl⟩ := hRT
        refine region_pi [(0, true), (1, true), (2, true), (3, false), (4, true), (5, true), (6, true), (7, true), (8, true), (9, true), (10, true), (11, true), (12, true), (13, true), (14, true), (15, true), (16, true), (17, true), (18, true), (19, true), (20, true), (21, true), (22, true), (23, true), (24, true), (25, true), (26, true)] (by kernel_rfl) (by kernel_rfl) ?_
        simp only [opsPi, List.filterMap_cons, List.filterMap_nil, List.getElem?_toArray, List.getElem?_cons_zero, List.getElem?_cons_succ, Option.map_some]
        rw [HQ2.out]
        repeat (first | (refine pi_take (v := _) rfl (fun W hW => by go_simp <;> exact rfl) ?_; simp only [Act.put, List.setIfInBounds_toArray, List.set_cons_zero, List.set_cons_succ]) | (refine pi_skip rfl ?_; simp only [Act.put, List.setIfInBounds_toArray, List.set_cons_zero, List.set_cons_succ]))
        refine pi_run ?_
        go_wp2_with fail
        refine (HRPS.out Q2).mono ?_
        rintro e w10 ⟨v10, rfl, hown, hb⟩
        obtain ⟨A10, c10, rfl, -, -⟩ := own_form hown
        have HL10 := hide (show Le Q2 w10 from hb)
        have BB10 := hide (BBQ2.out.below HL10.out BBQ2.out.lt)
        have BS10 := hide (BSQ2.out.below HL10.out BSQ2.out.lt)
        have q4 : ∀ W, Le w10 W → (convert 22 9 (.slice A10 el c10)).run Tryd.prog W = .ok (.string (str E)) W := fun W h => conv8 W w10.heap.size A10 el c10 E HEL.out HE8.out (h.row (Row.of_own hown) (Nat.le_refl _))
        clear k0 k1 k2 k3 k4 k5 k6 k7 k8 k9 q3 hb hown
        have g0 := BB10.out.later 0 (.int .i64 rc) rfl
        have g1 := BB10.out.later 1 (.bool rh) rfl
        have g2 := BB10.out.later 2 (.bool ra) rfl
        have g3 := BB10.out.later 3 (.int .i64 rai) rfl
        have g4 := BB10.out.later 4 (.string ras) rfl
        have g5 := BB10.out.later 5 (.bool rb) rfl
        have g6 := BB10.out.later 6 (.int .i64 rbi) rfl
        have g7 := BB10.out.later 7 (.string rbs) rfl
        have g8 := BB10.out.later 8 (.int .i64 rs) rfl
        have g9 := BB10.out.later 9 (.bool ro) rfl
        have k0 := BS10.out.later 0 (.int .i64 rc) rfl
        have k1 := BS10.out.later 1 (.bool rh) rfl
        have k2 := BS10.out.later 2 (.bool ra) rfl
        have k3 := BS10.out.later 3 (.int .i64 rai) rfl
        have k4 := BS10.out.later 4 (.string ras) rfl
        have k5 := BS10.out.later 5 (.bool rb) rfl
        have k6 := BS10.out.later 6 (.int .i64 rbi) rfl
        have k7 := BS10.out.later 7 (.string rbs) rfl
        have k8 := BS10.out.later 8 (.int .i64 rs) rfl
        have k9 := BS10.out.later 9 (.bool ro) rfl
        go_wp2_with fail
        refine ⟨HL10.out, ?_⟩
        repeat (first | (refine pi_take (v := _) rfl (fun W hW => by go_simp <;> exact rfl) ?_; simp only [Act.put, List.setIfInBounds_toArray, List.set_cons_zero, List.set_cons_succ]) | (refine pi_skip rfl ?_; simp only [Act.put, List.setIfInBounds_toArray, List.set_cons_zero, List.set_cons_succ]))
        refine pi_done ?_
        clear q4 g0 g1 g2 g3 g4 g5 g6 g7 g8 g9 k0 k1 k2 k3 k4 k5 k6 k7 k8 k9
        go_wp2_with fail
        go_ret
        exact ⟨rfl, HWQ2.out.trans HL10.out⟩
#print axioms values_walk
end Go.Proofs.YtjliocbdidiemaaDoor
