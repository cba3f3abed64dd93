/-
  The law on plans of directories, walked (written by genPlZ.py).
-/
import Derived.Test.YtnihladjafnjpaaPlX
import Derived.Test.YtnihladjafnjpaaPlT
import Derived.Test.YtnihladjafnjpaaPlS
import Derived.Test.YtnihladjafnjpaaListG
namespace Go.Proofs.Ytnihladjafnjpaa
open Go.RowKit
set_option linter.unusedVariables false

set_option maxRecDepth 100000 in
set_option maxHeartbeats 8000000 in
theorem plans_walk (w : World) (H : Int) (DA A B : Option Addr) (dn dc n c m d : Nat) (ds : List dr.Dr) (l s : List Int) (hd : ds.length = dn) (hdc : dn ≤ dc) (hdm : dc ≤ maxLen) (hl : l.length = n) (hnc : n ≤ c) (hc : c ≤ maxLen) (hs : s.length = m) (hmd : m ≤ d) (hdd : d ≤ maxLen) (hrd : Row w w.heap.size DA (dcs ds)) (hr : Row w w.heap.size A (ints l)) (hrs : Row w w.heap.size B (ints s)) :
    Calls Try.prog 4 #[.slice DA dn dc, .agg #[.int .i64 H, .slice A n c], .slice B m d] w fun e w' => e = .returned (.bool true) ∧ Below w.heap.size w w' := by
  obtain ⟨n2, hn2⟩ : ∃ n2, min n 30 = n2 := ⟨_, rfl⟩
  obtain ⟨m2, hm2⟩ : ∃ m2, min m 30 = m2 := ⟨_, rfl⟩
  obtain ⟨k2, hk2⟩ : ∃ k2, min dn 40 = k2 := ⟨_, rfl⟩
  have HL := hide (show (l.take 30).length = n2 by rw [List.length_take, hl, ← hn2]; omega)
  have HS := hide (show (s.take 30).length = m2 by rw [List.length_take, hs, ← hm2]; omega)
  have HD := hide (show (ds.take 40).length = k2 by rw [List.length_take, hd, ← hk2]; omega)
  have hr2 := hr.take 30
  rw [ints_take] at hr2
  have hrs2 := hrs.take 30
  rw [ints_take] at hrs2
  have hrd2 := hrd.take (40 * 3)
  rw [dcs_take] at hrd2
  generalize l.take 30 = l2 at HL hr2
  generalize s.take 30 = s2 at HS hrs2
  generalize ds.take 40 = d2 at HD hrd2
  have hn30 : n2 ≤ 30 := by omega
  have hm30 : m2 ≤ 30 := by omega
  have hk40 : k2 ≤ 40 := by omega
  have hnc2 : n2 ≤ c := by omega
  have HRL := hide hr2
  have HRS := hide hrs2
  have HRD := hide hrd2
  have HN2 := hide hn2
  have HM2 := hide hm2
  have HK2 := hide hk2
  have h40 : dn ≤ 40 ∨ 40 < dn := by omega
  unfold maxLen at hdm
  clear hd hl hs hr hrs hrd hn2 hm2 hk2 hr2 hrs2 hrd2
  go_enter Try.func4, Try.ntmps4
  go_wp2_with fail
  obtain ⟨W, hW⟩ : ∃ W, w.alloc (.cells #[.int .i64 H, .slice A n c] 24) = W := ⟨_, rfl⟩
  have bx : Box W w.heap.size #[.int .i64 H, .slice A n c] 24 := by rw [← hW]; exact box_new _ _ _
  have hLW : Le w W := by rw [← hW]; exact (Below.refl _ _).alloc (Nat.le_refl _) _
  rw [hW]
  clear hW
  refine (shown_any W).mono ?_
  rintro e w1 ⟨rfl, hb1⟩
  have bx1 := bx.below hb1 bx.lt
  have c0 := bx1.cell 0 (.int .i64 H) rfl
  have c1 := bx1.cell 1 (.slice A n c) rfl
  have BX1 := hide bx1
  have HL1 := hide (show Le w w1 from hLW.trans hb1)
  clear hb1 hLW bx bx1
  go_wp2_with fail
  refine (less_any w1 H A n c n2 HN2.out hnc hc).mono ?_
  rintro e w2 ⟨rfl, hb2⟩
  have bx2 := BX1.out.below hb2 BX1.out.lt
  have d0 := bx2.cell 0 (.int .i64 H) rfl
  have d1 := bx2.cell 1 (.slice A n c) rfl
  have f0 := bx2.frozen 0
  have f1 := bx2.frozen 1
  have BX2 := hide bx2
  have HL2 := hide (show Le w w2 from HL1.out.trans hb2)
  clear hb2 bx2 c0 c1
  go_wp2_with fail
  obtain ⟨W3, hW3⟩ : ∃ W3, (w2.setCell ⟨w.heap.size, 0, none⟩ (.int .i64 H)).setCell ⟨w.heap.size, 1, none⟩ (.slice A n2 c) = W3 := ⟨_, rfl⟩
  have bx3 : Box W3 w.heap.size #[.int .i64 H, .slice A n2 c] 24 := by rw [← hW3]; exact (BX2.out.set 0 _).set 1 _
  have hL3 : Le w W3 := by rw [← hW3]; exact (HL2.out.setCell (Nat.le_refl _) _).setCell (Nat.le_refl _) _
  rw [hW3]
  have BX3 := hide bx3
  have HL3 := hide hL3
  clear hW3 bx3 hL3 d0 d1 f0 f1
  refine (few_any W3 B m d hmd hdd).mono ?_
  rintro e w' ⟨rfl, rfl⟩
  rw [HM2.out]
  clear BX1 BX2 HL1 HL2
  go_upto_region 4 with fail
  go_upto_if 21 with fail
  go_cut [0] (fun s0 wx => s0 = .slice DA k2 dc ∧ W3 = wx)
  case first =>
    rcases h40 with h | h
    · obtain rfl : dn = k2 := by have := HK2.out; omega
      go_wp2_with fail
      go_meet
      exact ⟨rfl, rfl⟩
    · obtain rfl : k2 = 40 := by have := HK2.out; omega
      have hI : (40 : Int) < dn := by omega
      have hI2 : (40 : Int) ≤ dc := by omega
      go_wp2_with fail
      go_meet
      exact ⟨rfl, rfl⟩
  case rest =>
    obtain ⟨rfl, rfl⟩ := hcut
    clear h40
    have c0 := BX3.out.cell 0 (.int .i64 H) rfl
    have c1 := BX3.out.cell 1 (.slice A n2 c) rfl
    have hpl := hide (plan_any W3 DA A B k2 dc n2 c m2 d d2 H l2 s2 HD.out (by omega) HL.out (by omega) HS.out (by omega) ((HL3.out.row HRD.out (Nat.le_refl _)).more HL3.out.size) ((HL3.out.row HRL.out (Nat.le_refl _)).more HL3.out.size) ((HL3.out.row HRS.out (Nat.le_refl _)).more HL3.out.size))
    go_wp2_with fail
    refine hpl.out.mono ?_
    rintro e w4 ⟨C, k, cc, o, code, rfl, hk, hk1, hpn, hrc, hb⟩
    have HL4 := hide (show Le w w4 from HL3.out.trans hb)
    have BX4 := hide (BX3.out.below hb BX3.out.lt)
    have HP := hide hpn
    have HRC := hide hrc
    have HK := hide hk
    have e0 := BX4.out.cell 0 (.int .i64 H) rfl
    have e1 := BX4.out.cell 1 (.slice A n2 c) rfl
    clear hb hpn hrc hk c0 c1 hpl
    have hrp := hide (refplan_any w4 DA A B k2 dc n2 c m2 d d2 H l2 s2 HD.out (by omega) HL.out (by omega) hnc2 HS.out (by omega) ((HL4.out.row HRD.out (Nat.le_refl _)).more HL4.out.size) ((HL4.out.row HRL.out (Nat.le_refl _)).more HL4.out.size) ((HL4.out.row HRS.out (Nat.le_refl _)).more HL4.out.size))
    go_wp2_with fail
    refine hrp.out.mono ?_
    rintro e w5 ⟨C', k', cc', o', code', rfl, hk', hk1', hpn', hrc', hb⟩
    obtain ⟨rfl, rfl⟩ := planned_one HP.out hpn'
    obtain rfl : k = k' := HK.out.symm.trans hk'
    have HL5 := hide (show Le w w5 from HL4.out.trans hb)
    have BX5 := hide (BX4.out.below hb BX4.out.lt)
    have hsm := hide (dsame_any w5 C C' k cc cc' o HK.out (by omega) ((Le.row hb HRC.out (Nat.le_refl _)).more (Le.size hb)) hrc')
    have hcc : (code != code) = false := by simp
    clear hb hpn' hrc' hk' e0 e1 hrp
    go_wp2_with fail
    refine hsm.out.mono ?_
    rintro e w6 ⟨rfl, hb⟩
    have HL6 := hide (show Le w w6 from HL5.out.trans hb)
    have BX6 := hide (BX5.out.below hb BX5.out.lt)
    clear hb hsm BX3 BX4 BX5
    go_wp2_with fail
    go_loopw [13] (fun i wr => ∃ q : Nat, i = .int .i64 q ∧ q ≤ k2 ∧ Hid (Le w6 wr)) (fun i _ => k2 - (intOf i).toNat)
    case atStart => exact ⟨0, rfl, Nat.zero_le _, hide (Le.refl _)⟩
    case round =>
      obtain ⟨q, rfl, hq, HLr⟩ := hrel
      by_cases hqk : q < k2
      · obtain ⟨⟨uk, uf, ut⟩, hu⟩ : ∃ u, d2[q]? = some u := ⟨_, List.getElem?_eq_getElem (by rw [HD.out]; exact hqk)⟩
        obtain ⟨bA, oA, rfl, hbA, -, -, r2⟩ := row_dr HRD.out hu
        simp only at r2
        have hqI : (q : Int) < k2 := by omega
        go_upto_region 14 with fail
        obtain ⟨V, hV⟩ : ∃ V, wr.drew = V := ⟨_, rfl⟩
        have HLV := hide (show Le w V by rw [← hV]; exact HL6.out.trans HLr.out.drew)
        have BV := hide (show Box V w.heap.size #[.int .i64 H, .slice A n2 c] 24 by rw [← hV]; exact (BX6.out.below HLr.out BX6.out.lt).drew)
        have HV6 := hide (show Le w6 V by rw [← hV]; exact HLr.out.drew)
        have HV := hide hV
        have hsv := hide (serves_any V ut H A B n2 c m2 d l2 s2 HL.out (by omega) HS.out (by omega) ((HLV.out.row HRL.out (Nat.le_refl _)).more HLV.out.size) ((HLV.out.row HRS.out (Nat.le_refl _)).more HLV.out.size))
        have hrv := hide (fun (X : World) (h : Le V X) => refserves_any X ut H A B n2 c m2 d l2 s2 HL.out (by omega) hnc2 HS.out (by omega) (((HLV.out.trans h).row HRL.out (Nat.le_refl _)).more (HLV.out.trans h).size) (((HLV.out.trans h).row HRS.out (Nat.le_refl _)).more (HLV.out.trans h).size))
        obtain ⟨sv, hsv0⟩ : ∃ b, servesI ut H l2 s2 = b := ⟨_, rfl⟩
        rw [hsv0] at hsv hrv
        have hss : (sv != sv) = false := by simp
        have g0 := BV.out.later 0 (.int .i64 H) rfl
        have g1 := BV.out.later 1 (.slice A n2 c) rfl
        have g2 : ∀ X, Le V X → X.cell? ⟨bA, oA + q * 3 + 2, none⟩ = some (.int .i64 ut) := fun X h => ((HLV.out.trans h).cell (p := ⟨bA, oA + q * 3 + 2, none⟩) hbA).trans r2
        clear hV r2 hu hsv0
        refine region_pi [(0, true), (1, true), (2, true), (3, true), (4, true), (5, true), (6, true), (8, true), (9, true), (10, true), (11, true), (12, true), (13, true), (14, true), (7, false), (15, false), (16, true)] (by kernel_rfl) (by kernel_rfl) ?_
        simp only [opsPi, List.filterMap_cons, List.filterMap_nil, List.getElem?_toArray, List.getElem?_cons_zero, List.getElem?_cons_succ, Option.map_some]
        rw [HV.out]
        repeat (first | (refine pi_take (v := _) rfl (fun W hW => by go_simp <;> exact rfl) ?_; simp only [Act.put, List.setIfInBounds_toArray, List.set_cons_zero, List.set_cons_succ]) | (refine pi_skip rfl ?_; simp only [Act.put, List.setIfInBounds_toArray, List.set_cons_zero, List.set_cons_succ]))
        clear g0 g1 g2
        refine pi_run ?_
        go_wp2_with fail
        refine hsv.out.mono ?_
        rintro e X1 ⟨rfl, hb⟩
        have HX1 := hide (show Le V X1 from hb)
        clear hb
        have hr1 := hide (hrv.out X1 HX1.out)
        go_wp2_with fail
        refine ⟨HX1.out, ?_⟩
        repeat (first | (refine pi_take (v := _) rfl (fun W hW => by go_simp <;> exact rfl) ?_; simp only [Act.put, List.setIfInBounds_toArray, List.set_cons_zero, List.set_cons_succ]) | (refine pi_skip rfl ?_; simp only [Act.put, List.setIfInBounds_toArray, List.set_cons_zero, List.set_cons_succ]))
        refine pi_run ?_
        go_wp2_with fail
        refine hr1.out.mono ?_
        rintro e X2 ⟨rfl, hb⟩
        have HX2 := hide (show Le V X2 from HX1.out.trans hb)
        have HX3 := hide (show Le X1 X2 from hb)
        clear hb
        go_wp2_with fail
        refine ⟨HX3.out, ?_⟩
        repeat (first | (refine pi_take (v := _) rfl (fun W hW => by go_simp <;> exact rfl) ?_; simp only [Act.put, List.setIfInBounds_toArray, List.set_cons_zero, List.set_cons_succ]) | (refine pi_skip rfl ?_; simp only [Act.put, List.setIfInBounds_toArray, List.set_cons_zero, List.set_cons_succ]))
        refine pi_done ?_
        go_wp2_with fail
        exact ⟨⟨q + 1, by go_num, by omega, hide (HV6.out.trans HX2.out)⟩, by simp [intOf]; omega⟩
      · obtain rfl : q = k2 := by omega
        go_wp2_with fail
        go_ret
        exact ⟨rfl, HL6.out.trans HLr.out⟩
#print axioms plans_walk
end Go.Proofs.Ytnihladjafnjpaa
