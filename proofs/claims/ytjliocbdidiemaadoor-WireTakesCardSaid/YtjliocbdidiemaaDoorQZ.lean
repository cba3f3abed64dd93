/-
  The law that bytes are taken as the document says, walked.
-/
import Derived.Test.YtjliocbdidiemaaDoorQY
import Derived.Test.YtjliocbdidiemaaDoorQJ
import Derived.Test.YtjliocbdidiemaaDoorQF
namespace Go.Proofs.YtjliocbdidiemaaDoor
open Go.RowKit
set_option linter.unusedVariables false

/-- What Take says of bytes, in one way. -/
def TakeU (l : List Nat) (w : World) (e : Ending) (w' : World) : Prop :=
  ∃ (o : List FV) (A : Option Addr) (c : Nat), e = .returned (.tuple #[.slice A ((wi.take l).getD []).length c, .int .i64 (tkE' (wi.take l))]) ∧ o.map (·.1) = (wi.take l).getD [] ∧ ((wi.take l).getD []).length ≤ l.length ∧ Row w' w'.heap.size A (fcs o) ∧ Held w' w'.heap.size o ∧ (∀ p ∈ o, ∀ x ∈ p.1.b, x < 256) ∧ Le w w'
theorem take_u {l : List Nat} {w : World} {e : Ending} {w' : World} (h : TakeR l w e w') : TakeU l w e w' := by
  rcases h with ⟨h1, rfl, hb⟩ | ⟨o, A, K, c, h1, hK, hKl, rfl, hr, hh, h8, hb⟩
  · unfold TakeU
    rw [h1]
    exact ⟨[], none, 0, rfl, rfl, Nat.zero_le _, Row.none_, fun p hp => (by cases hp), fun p hp => (by cases hp), hb⟩
  · unfold TakeU
    rw [h1]
    have hKo : (o.map (·.1)).length = K := by rw [List.length_map]; exact hK
    refine ⟨o, A, c, ?_, rfl, ?_, hr, hh, h8, hb⟩
    · show _ = Ending.returned (.tuple #[.slice A (o.map (·.1)).length c, .int .i64 0])
      rw [hKo]
    · show (o.map (·.1)).length ≤ l.length
      rw [hKo]; exact hKl

set_option maxRecDepth 100000 in
set_option maxHeartbeats 8000000 in
theorem takes_walk (w : World) (A : Option Addr) (n c : Nat) (l : List Nat) (kd : Int) (hl : l.length = n) (hnc : n ≤ c) (hc : c ≤ maxLen) (h8 : ∀ x ∈ l, x < 256) (hr : Row w w.heap.size A (u8s l)) (hT : Tabs8 w) :
    Calls Tryd.prog 3 #[.slice A n c, .int .i64 kd] w fun e w' => e = .returned (.bool true) ∧ Below w.heap.size w w' := by
  have HL := hide hl
  have H8 := hide h8
  have HR := hide hr
  have HT := hide hT
  clear hl h8 hr hT
  go_enter Tryd.func3, Tryd.ntmps3
  go_wp2_with fail
  refine (shown_any w).mono ?_
  rintro e w1 ⟨rfl, hb1⟩
  have HB1 := hide (show Le w w1 from hb1)
  clear hb1
  go_upto_if 22 with fail
  go_cut [0] (fun s wx => ∃ m : Nat, s = .slice A m c ∧ (l.take m).length = m ∧ m ≤ 1000 ∧ m ≤ c ∧ w1 = wx)
  case first =>
    have hz := HL.out
    by_cases hlong : 1000 < n
    · have hI : (1000 : Int) < (n : Int) := by omega
      go_wp2_with fail
      go_meet
      exact ⟨1000, rfl, by rw [List.length_take]; omega, by omega, by omega, rfl⟩
    · have hI : ¬ (1000 : Int) < (n : Int) := by omega
      go_wp2_with fail
      go_meet
      exact ⟨n, rfl, by rw [List.length_take]; omega, by omega, hnc, rfl⟩
  case rest =>
    obtain ⟨m, rfl, hm, hm1, hmc, rfl⟩ := hcut
    obtain ⟨l', hl'⟩ : ∃ l', l.take m = l' := ⟨_, rfl⟩
    rw [hl'] at hm
    have HL' := hide hm
    have H8' := hide (show ∀ x ∈ l', x < 256 by rw [← hl']; exact take8 H8.out m)
    have HRW := hide (show ∀ W, Le w W → Row W W.heap.size A (u8s l') from fun W h => by
      rw [← hl', ← u8s_take]
      exact (HR.out.take m).le h)
    clear hm hl'
    have hcm : c ≤ maxLen := hc
    obtain ⟨fs, hfs⟩ : ∃ fs, (wi.take l').getD [] = fs := ⟨_, rfl⟩
    obtain ⟨E, hE⟩ : ∃ E, tkE' (wi.take l') = E := ⟨_, rfl⟩
    obtain ⟨⟨vn, vi, vs⟩, hv⟩ : ∃ v, tvV (tv l') = v := ⟨_, rfl⟩
    obtain ⟨E2, hE2⟩ : ∃ E, tkE' (tv l') = E := ⟨_, rfl⟩
    obtain ⟨⟨sc, sh, ⟨an, ai, as_⟩, ⟨bn, bi, bs⟩, su, so⟩, hs⟩ : ∃ v, tsV (ts kd l') = v := ⟨_, rfl⟩
    obtain ⟨E3, hE3⟩ : ∃ E, tkE' (ts kd l') = E := ⟨_, rfl⟩
    have HTU := hide (show ∀ (W : World) (e : Ending) (W' : World), TakeR l' W e W' → ∃ (o : List FV) (A : Option Addr) (c : Nat), e = .returned (.tuple #[.slice A fs.length c, .int .i64 E]) ∧ o.map (·.1) = fs ∧ fs.length ≤ l'.length ∧ Row W' W'.heap.size A (fcs o) ∧ Held W' W'.heap.size o ∧ (∀ p ∈ o, ∀ x ∈ p.1.b, x < 256) ∧ Le W W' from fun W e W' h => by
      have h := take_u h
      unfold TakeU at h
      rw [hfs, hE] at h
      exact h)
    have HTV := hide (show ∀ (W : World) (e : Ending) (W' : World), TvR l' W e W' → e = .returned (.tuple #[.agg #[.bool vn, .int .i64 vi, .string vs], .int .i64 E2]) ∧ Le W W' from fun W e W' h => by
      unfold TvR at h
      rw [hv, hE2] at h
      exact h)
    have HTS := hide (show ∀ (W : World) (e : Ending) (W' : World), TsR kd l' W e W' → e = .returned (.tuple #[.agg #[.int .i64 sc, .bool sh, .bool an, .int .i64 ai, .string as_, .bool bn, .int .i64 bi, .string bs, .int .i64 su, .bool so], .int .i64 E3]) ∧ Le W W' from fun W e W' h => by
      unfold TsR at h
      rw [hs, hE3] at h
      exact h)
    clear hfs hE hv hE2 hs hE3
    obtain ⟨K, hK⟩ : ∃ K, fs.length = K := ⟨_, rfl⟩
    rw [hK] at HTU
    have HKF := hide hK
    clear hK
    go_wp2_with (at_builtin; refine wpList_append_row _ rfl (.tmp 26) (.tmp 27) 22 rfl w1.heap.size 5 info8 Tryd.underlying22 rfl (by omega) (.slice (some ⟨w1.heap.size, 0, none⟩) 0 0) 0 [] rfl (World.ownsRow_lit _ #[] 0 (Nat.le_refl _) (by simp) rfl) w1.heap.size A m c (u8s l') rfl (by rw [u8s_len, HL'.out, Nat.mul_one]) ((HRW.out w1 HB1.out).alloc (Nat.le_refl _) _) u8s_one (by simp only [maxLen]; omega) (by omega) (by simp) ?_; intro v' w2 hown hg hat; rw [Nat.zero_add, List.nil_append] at hown; obtain ⟨A2, c2, rfl, hc2, hc2'⟩ := own_form hown; have HR2 := hide (Row.of_own hown); have HB2 := hide (show Le w1 w2 from ((Below.refl _ _).alloc (Nat.le_refl _) _).grown hg (by simp) (fun g hg => by simp [Value.ownBlock] at hg; omega)); clear hown hg hat)
    refine (wtake_any w2 A2 m c2 l' HL'.out (by omega) hc2 hc2' H8'.out HR2.out).mono ?_
    rintro e w3 h
    obtain ⟨o, Ao, co, rfl, ho, hok, hro, hho, h8o, hb⟩ := HTU.out w2 e w3 h
    have HO := hide ho
    have HKL := hide (show K ≤ 1000 by rw [HL'.out] at hok; omega)
    have HRO := hide hro
    have HHO := hide hho
    have H8O := hide h8o
    have HB3 := hide (HB1.out.trans (HB2.out.trans hb))
    clear h ho hok hro hho h8o hb hc2 hc2'
    go_wp2_with fail
    refine (refwtake_any w3 A m c l' HL'.out (by omega) hmc hcm H8'.out (HRW.out w3 HB3.out)).mono ?_
    rintro e w4 h
    obtain ⟨o2, Ao2, co2, rfl, ho, -, hro, hho, h8o, hb⟩ := HTU.out w3 e w4 h
    have HO2 := hide ho
    have HRO2 := hide hro
    have HHO2 := hide hho
    have HRO' := hide (HRO.out.le hb)
    have HHO' := hide (HHO.out.le hb)
    have HB4 := hide (HB3.out.trans hb)
    clear h ho hro hho h8o hb
    go_wp2_with (at_builtin; refine wpList_append_row _ rfl (.tmp 38) (.tmp 39) 22 rfl w4.heap.size 5 info8 Tryd.underlying22 rfl (by omega) (.slice (some ⟨w4.heap.size, 0, none⟩) 0 0) 0 [] rfl (World.ownsRow_lit _ #[] 0 (Nat.le_refl _) (by simp) rfl) w4.heap.size A m c (u8s l') rfl (by rw [u8s_len, HL'.out, Nat.mul_one]) ((HRW.out w4 HB4.out).alloc (Nat.le_refl _) _) u8s_one (by simp only [maxLen]; omega) (by omega) (by simp) ?_; intro v' w5 hown hg hat; rw [Nat.zero_add, List.nil_append] at hown; obtain ⟨A5, c5, rfl, hc5, hc5'⟩ := own_form hown; have HR5 := hide (Row.of_own hown); have HB5 := hide (show Le w4 w5 from ((Below.refl _ _).alloc (Nat.le_refl _) _).grown hg (by simp) (fun g hg => by simp [Value.ownBlock] at hg; omega)); clear hown hg hat)
    refine (takevalue_any w5 A5 m c5 l' HL'.out (by omega) hc5 hc5' H8'.out HR5.out).mono ?_
    rintro e w6 h
    obtain ⟨rfl, hb⟩ := HTV.out w5 e w6 h
    clear h hc5 hc5'
    go_upto_region 7 with fail
    obtain ⟨X1, hX1, b1, hl1⟩ : ∃ X, w6.alloc (.cells #[.bool vn, .int .i64 vi, .string vs] 32) = X ∧ Box X w6.heap.size #[.bool vn, .int .i64 vi, .string vs] 32 ∧ Le w6 X := ⟨_, rfl, box_new _ _ _, (Below.refl _ _).alloc (Nat.le_refl _) _⟩
    rw [hX1]
    have HL1 := hide (show Le w4 X1 from HB5.out.trans (hb.trans hl1))
    have HBX1 := hide (HB4.out.trans HL1.out)
    have BA := hide b1
    clear hX1 b1 hl1 hb
    go_wp2_with fail
    refine (reftakevalue_any X1 A m c l' HL'.out (by omega) hmc hcm H8'.out (HRW.out X1 HBX1.out)).mono ?_
    rintro e w7 h
    obtain ⟨rfl, hb⟩ := HTV.out X1 e w7 h
    clear h
    go_upto_region 8 with fail
    obtain ⟨X2, hX2, b2, hl2⟩ : ∃ X, w7.alloc (.cells #[.bool vn, .int .i64 vi, .string vs] 32) = X ∧ Box X w7.heap.size #[.bool vn, .int .i64 vi, .string vs] 32 ∧ Le w7 X := ⟨_, rfl, box_new _ _ _, (Below.refl _ _).alloc (Nat.le_refl _) _⟩
    rw [hX2]
    have HL2 := hide (show Le X1 X2 from hb.trans hl2)
    have HBX2 := hide (HBX1.out.trans HL2.out)
    have BB := hide b2
    clear hX2 b2 hl2 hb
    go_wp2_with (at_builtin; refine wpList_append_row _ rfl (.tmp 51) (.tmp 52) 22 rfl X2.heap.size 5 info8 Tryd.underlying22 rfl (by omega) (.slice (some ⟨X2.heap.size, 0, none⟩) 0 0) 0 [] rfl (World.ownsRow_lit _ #[] 0 (Nat.le_refl _) (by simp) rfl) X2.heap.size A m c (u8s l') rfl (by rw [u8s_len, HL'.out, Nat.mul_one]) ((HRW.out X2 HBX2.out).alloc (Nat.le_refl _) _) u8s_one (by simp only [maxLen]; omega) (by omega) (by simp) ?_; intro v' w8 hown hg hat; rw [Nat.zero_add, List.nil_append] at hown; obtain ⟨A8, c8, rfl, hc8, hc8'⟩ := own_form hown; have HR8 := hide (Row.of_own hown); have HB8 := hide (show Le X2 w8 from ((Below.refl _ _).alloc (Nat.le_refl _) _).grown hg (by simp) (fun g hg => by simp [Value.ownBlock] at hg; omega)); clear hown hg hat)
    refine (takestats_any w8 kd A8 m c8 l' HL'.out (by omega) hc8 hc8' H8'.out HR8.out (HT.out.le (HBX2.out.trans HB8.out))).mono ?_
    rintro e w9 h
    obtain ⟨rfl, hb⟩ := HTS.out w8 e w9 h
    clear h hc8 hc8'
    go_upto_region 9 with fail
    obtain ⟨X3, hX3, b3, hl3⟩ : ∃ X, w9.alloc (.cells #[.int .i64 sc, .bool sh, .bool an, .int .i64 ai, .string as_, .bool bn, .int .i64 bi, .string bs, .int .i64 su, .bool so] 36) = X ∧ Box X w9.heap.size #[.int .i64 sc, .bool sh, .bool an, .int .i64 ai, .string as_, .bool bn, .int .i64 bi, .string bs, .int .i64 su, .bool so] 36 ∧ Le w9 X := ⟨_, rfl, box_new _ _ _, (Below.refl _ _).alloc (Nat.le_refl _) _⟩
    rw [hX3]
    have HL3 := hide (show Le X2 X3 from HB8.out.trans (hb.trans hl3))
    have HBX3 := hide (HBX2.out.trans HL3.out)
    have BC := hide b3
    clear hX3 b3 hl3 hb
    go_wp2_with fail
    refine (reftakestats_any X3 kd A m c l' HL'.out (by omega) hmc hcm H8'.out (HRW.out X3 HBX3.out) (HT.out.le HBX3.out)).mono ?_
    rintro e w10 h
    obtain ⟨rfl, hb⟩ := HTS.out X3 e w10 h
    clear h
    go_upto_region 10 with fail
    obtain ⟨X4, hX4, b4, hl4⟩ : ∃ X, w10.alloc (.cells #[.int .i64 sc, .bool sh, .bool an, .int .i64 ai, .string as_, .bool bn, .int .i64 bi, .string bs, .int .i64 su, .bool so] 36) = X ∧ Box X w10.heap.size #[.int .i64 sc, .bool sh, .bool an, .int .i64 ai, .string as_, .bool bn, .int .i64 bi, .string bs, .int .i64 su, .bool so] 36 ∧ Le w10 X := ⟨_, rfl, box_new _ _ _, (Below.refl _ _).alloc (Nat.le_refl _) _⟩
    rw [hX4]
    have HL4 := hide (show Le X3 X4 from hb.trans hl4)
    have HBX4 := hide (HBX3.out.trans HL4.out)
    have BD := hide b4
    clear hX4 b4 hl4 hb
    have hle4 := HL1.out.trans (HL2.out.trans (HL3.out.trans HL4.out))
    go_wp2_with fail
    refine (same_any X4 Ao Ao2 K co co2 o o2 (by have := congrArg List.length HO.out; rw [List.length_map, HKF.out] at this; exact this) (by have := HKL.out; omega) (HO.out.trans HO2.out.symm) H8O.out (HRO'.out.le hle4) (HRO2.out.le hle4) (HHO'.out.le hle4) (HHO2.out.le hle4)).mono ?_
    rintro e w11 ⟨rfl, hb⟩
    have HBF := hide (HBX4.out.trans hb)
    have BA' := BA.out.below (HL2.out.trans (HL3.out.trans (HL4.out.trans hb))) BA.out.lt
    have BB' := BB.out.below (HL3.out.trans (HL4.out.trans hb)) BB.out.lt
    have BC' := BC.out.below (HL4.out.trans hb) BC.out.lt
    have BD' := BD.out.below hb BD.out.lt
    have a0 := BA'.cell 0 (.bool vn) rfl
    have a1 := BA'.cell 1 (.int .i64 vi) rfl
    have a2 := BA'.cell 2 (.string vs) rfl
    have b0 := BB'.cell 0 (.bool vn) rfl
    have b1 := BB'.cell 1 (.int .i64 vi) rfl
    have b2 := BB'.cell 2 (.string vs) rfl
    have c0 := BC'.cell 0 (.int .i64 sc) rfl
    have d0 := BD'.cell 0 (.int .i64 sc) rfl
    have c1 := BC'.cell 1 (.bool sh) rfl
    have d1 := BD'.cell 1 (.bool sh) rfl
    have c2 := BC'.cell 2 (.bool an) rfl
    have d2 := BD'.cell 2 (.bool an) rfl
    have c3 := BC'.cell 3 (.int .i64 ai) rfl
    have d3 := BD'.cell 3 (.int .i64 ai) rfl
    have c4 := BC'.cell 4 (.string as_) rfl
    have d4 := BD'.cell 4 (.string as_) rfl
    have c5 := BC'.cell 5 (.bool bn) rfl
    have d5 := BD'.cell 5 (.bool bn) rfl
    have c6 := BC'.cell 6 (.int .i64 bi) rfl
    have d6 := BD'.cell 6 (.int .i64 bi) rfl
    have c7 := BC'.cell 7 (.string bs) rfl
    have d7 := BD'.cell 7 (.string bs) rfl
    have c8 := BC'.cell 8 (.int .i64 su) rfl
    have d8 := BD'.cell 8 (.int .i64 su) rfl
    have c9 := BC'.cell 9 (.bool so) rfl
    have d9 := BD'.cell 9 (.bool so) rfl
    clear hb hle4 BA' BB' BC' BD'
    go_wp2_with fail
    go_ret
    exact ⟨rfl, HBF.out⟩
#print axioms takes_walk
end Go.Proofs.YtjliocbdidiemaaDoor
