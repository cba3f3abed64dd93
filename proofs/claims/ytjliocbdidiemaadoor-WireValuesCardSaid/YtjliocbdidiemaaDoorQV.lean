/-
  A value taken from bytes, walked: by the document.
-/
import Derived.Test.YtjliocbdidiemaaDoorQT
import Derived.Test.YtjliocbdidiemaaDoorQU
import Derived.Test.YtjliocbdidiemaaDoorRegionT
namespace Go.Proofs.YtjliocbdidiemaaDoor
open Go.RowKit
set_option linter.unusedVariables false

theorem vbox2 (w : World) (v : va.Val) (t : TypeId) : ∃ X, (w.alloc (.cells #[.bool false, .int .i64 0, .string ⟨#[]⟩] t)).setRow w.heap.size (vcell v) = X ∧ Box X w.heap.size (vcell v) t ∧ Le w X :=
  ⟨_, rfl, setRow_heap _ _ _ _ _ _ (box_new _ _ _), below_setRow ((Below.refl _ _).alloc (Nat.le_refl _) _) (Nat.le_refl _) _⟩
theorem bools_row (w : World) (p : List Bool) (t : TypeId) : Row (w.alloc (.cells (p.map Value.bool).toArray t)) (w.heap.size + 1) (some ⟨w.heap.size, 0, none⟩) (p.map Value.bool) := by
  have h := row_new w (p.map Value.bool).toArray t (0, 0)
  rwa [List.toList_toArray] at h

set_option maxRecDepth 100000 in
set_option maxHeartbeats 4000000 in
theorem reftakevalue_any (w : World) (A : Option Addr) (n c : Nat) (l : List Nat) (hl : l.length = n) (hn : n ≤ 2000) (hnc : n ≤ c) (hc : c ≤ maxLen) (h8 : ∀ x ∈ l, x < 256) (hr : Row w w.heap.size A (u8s l)) :
    Calls Tryd.prog 9 #[.slice A n c] w (TvR l w) := by
  obtain ⟨W0, hW0⟩ : ∃ W0, w.alloc (.cells #[.bool false, .int .i64 0, .string ⟨#[]⟩] 32) = W0 := ⟨_, rfl⟩
  have BX := hide (show Box W0 w.heap.size #[.bool false, .int .i64 0, .string ⟨#[]⟩] 32 by rw [← hW0]; exact box_new _ _ _)
  have HLW := hide (show Le w W0 by rw [← hW0]; exact (Below.refl _ _).alloc (Nat.le_refl _) _)
  have HRL := hide (hr.le HLW.out)
  have hsh := hide (refwtake_any W0 A n c l hl (by omega) hnc hc h8 (hr.le HLW.out))
  have HW0 := hide hW0
  have H8 := hide h8
  have HL := hide hl
  clear hW0 hr h8 hl
  go_enter Tryd.func9, Tryd.ntmps9
  go_upto_region 1 with fail
  rw [HW0.out]
  go_wp2_with fail
  refine hsh.out.mono ?_
  rintro e w1 h
  rcases h with ⟨h1, rfl, hb⟩ | ⟨o, A1, K, c1, h1, hK, hKl, rfl, hr1, hh1, h81, hb⟩
  · have hnone : tv l = none := tv_none h1
    have BX1 := hide (BX.out.below hb BX.out.lt)
    have HB := hide (HLW.out.trans hb)
    clear h1 hb
    go_wp2_with fail
    obtain ⟨X, hX, hlX, hrX⟩ : ∃ X, w1.alloc (.cells #[.bool false, .bool false, .bool true] 4) = X ∧ Le w1 X ∧ Row X X.heap.size (some ⟨w1.heap.size, 0, none⟩) ([false, false, true].map Value.bool) := ⟨_, rfl, (Below.refl _ _).alloc (Nat.le_refl _) _, (bools_row w1 [false, false, true] _).more (by simp)⟩
    rw [hX]
    refine (refshape_any X none 0 0 [] [] _ 3 3 [false, false, true] rfl rfl (by omega) Row.none_ rfl (by omega) hrX).mono ?_
    rintro e w2 ⟨rfl, hb⟩
    have BX2 := hide (BX1.out.below (hlX.trans hb) BX1.out.lt)
    have HB2 := hide (HB.out.trans (hlX.trans hb))
    clear hX hlX hrX hb
    go_wp2_with (refine wpList_store_row rfl 32 _ _ rfl w.heap.size (vcell zeroV) rfl rfl 32 _ BX2.out (by kernel_rfl) rfl (val_one zeroV) ?_)
    refine bodyPost_ret (box_results1 rfl _ (setRow_heap _ _ _ _ _ _ BX2.out) rfl Tryd.underlying32 rfl rfl) rfl ?_
    exact ⟨by rw [hnone]; rfl, below_setRow HB2.out (Nat.le_refl _) _⟩
  · obtain ⟨fs, hfs⟩ : ∃ fs, o.map (·.1) = fs := ⟨_, rfl⟩
    rw [hfs] at h1
    obtain ⟨R, hR⟩ : ∃ R, wi.shp 1 fs [false, false, true] = R := ⟨_, rfl⟩
    have BX1 := hide (BX.out.below hb BX.out.lt)
    have HB := hide (HLW.out.trans hb)
    have HRL1 := hide (HRL.out.le hb)
    have HR1 := hide hr1
    have HH1 := hide hh1
    have H1 := hide h1
    have HK := hide hK
    have HKL := hide (show K ≤ 2000 by have := HL.out; omega)
    clear hb hr1 hh1 h81 h1 hK hKl
    have HFS := hide hfs
    have HRR := hide hR
    clear hfs hR
    go_wp2_with fail
    obtain ⟨X, hX, hlX, hrX⟩ : ∃ X, w1.alloc (.cells #[.bool false, .bool false, .bool true] 4) = X ∧ Le w1 X ∧ Row X X.heap.size (some ⟨w1.heap.size, 0, none⟩) ([false, false, true].map Value.bool) := ⟨_, rfl, (Below.refl _ _).alloc (Nat.le_refl _) _, (bools_row w1 [false, false, true] _).more (by simp)⟩
    rw [hX]
    refine (refshape_any X A1 K c1 o fs _ 3 3 [false, false, true] HFS.out HK.out (by have := HKL.out; omega) (HR1.out.le hlX) rfl (by omega) hrX).mono ?_
    rintro e w2 ⟨rfl, hb⟩
    rw [HRR.out]
    have BX2 := hide (BX1.out.below (hlX.trans hb) BX1.out.lt)
    have HB2 := hide (HB.out.trans (hlX.trans hb))
    have HRL2 := hide (HRL1.out.le (hlX.trans hb))
    have HR2 := hide (HR1.out.le (hlX.trans hb))
    have HH2 := hide (HH1.out.le (hlX.trans hb))
    clear hX hlX hrX hb
    cases R
    · have hnone : tv l = none := tv_shape H1.out HRR.out
      go_wp2_with (refine wpList_store_row rfl 32 _ _ rfl w.heap.size (vcell zeroV) rfl rfl 32 _ BX2.out (by kernel_rfl) rfl (val_one zeroV) ?_)
      refine bodyPost_ret (box_results1 rfl _ (setRow_heap _ _ _ _ _ _ BX2.out) rfl Tryd.underlying32 rfl rfl) rfl ?_
      exact ⟨by rw [hnone]; rfl, below_setRow HB2.out (Nat.le_refl _) _⟩
    · have hs := HRR.out
      have h1 := H1.out
      obtain ⟨f, g, k, hfgk, -, -, -⟩ := wi.shp3 hs
      rw [hfgk] at h1 hs
      obtain ⟨⟨f', fA, fc⟩, ⟨g', gA, gc⟩, ⟨k', kA, kc⟩, rfl, e0, e1, e2, rfl⟩ := fv3 HK.out (HFS.out.trans hfgk)
      simp only at e0 e1 e2
      subst e0
      subst e1
      subst e2
      have hsame := tv_same (by rw [HL.out]; exact hn) H8.out h1 hs
      have htv := tv_some h1 hs
      obtain ⟨bF, oF, rfl, hbF, D0⟩ := HR2.out.at_ (j := 2) rfl
      obtain ⟨b', o', e', -, D1⟩ := HR2.out.at_ (j := 6) rfl
      simp only [Option.some.injEq, Addr.mk.injEq, and_true] at e'
      obtain ⟨rfl, rfl⟩ := e'
      obtain ⟨b', o', e', -, D2⟩ := HR2.out.at_ (j := 11) rfl
      simp only [Option.some.injEq, Addr.mk.injEq, and_true] at e'
      obtain ⟨rfl, rfl⟩ := e'
      have hrk : Row w2 w2.heap.size kA (u8s k'.b) := (HH2.out (k', kA, kc) (by simp)).2.2
      obtain ⟨hiff, hs0, hs1, hk8, hkl⟩ := hsame
      have H64 := hide hs1
      have hcv := hide (fun (W : World) (hW : Le w2 W) => conv8 W w2.heap.size kA k'.b.length kc k'.b rfl hk8 (hW.row hrk (Nat.le_refl _)))
      have hcl := hide (fun (W : World) (hW : Le w2 W) => conv8 W w2.heap.size A n c l HL.out H8.out (hW.row HRL2.out (Nat.le_refl _)))
      have hbs := byt_str hk8
      have hz := str_size k'.b
      have hbt : decide (valE (decide (f'.n = 1)) (zag g'.n) (byt (str k'.b)) = l) = decide (f'.n ≤ 1) := by rw [hbs, decide_eq_decide]; exact hiff
      obtain ⟨n0, hn0⟩ : ∃ x, f'.n = x := ⟨_, rfl⟩
      obtain ⟨n1, hn1⟩ : ∃ x, g'.n = x := ⟨_, rfl⟩
      obtain ⟨kl, hkl'⟩ : ∃ x, k'.b.length = x := ⟨_, rfl⟩
      rw [hn0, hn1] at htv hbt
      rw [hn1] at H64
      rw [hkl'] at hcv
      have d0 : w2.cell? ⟨bF, oF + 2, none⟩ = some (.int .u64 (n0 : Int)) := by rw [D0, hn0]
      have d1 : w2.cell? ⟨bF, oF + 4 + 2, none⟩ = some (.int .u64 (n1 : Int)) := by rw [Nat.add_assoc, D1, hn1]
      have d2 : w2.cell? ⟨bF, oF + 8 + 3, none⟩ = some (.slice kA kl kc) := by rw [Nat.add_assoc, D2, hkl']
      have hI := hide (zag_i64 H64.out)
      obtain ⟨S, hS⟩ : ∃ S, str k'.b = S := ⟨_, rfl⟩
      have HSS := hide (show S.size ≤ 2000 by rw [← hS, hz]; exact hkl)
      rw [hS] at htv hcv hbt
      obtain ⟨q, hq⟩ : ∃ q, decide (n0 = 1) = q := ⟨_, rfl⟩
      have hq1 : ((n0 : Int) == 1) = q := by
        rw [← hq, Bool.eq_iff_iff]; simp; omega
      rw [hq] at htv hbt
      have HBT := hide hbt
      have HTV := hide htv
      clear D0 D1 D2 h1 hs hfgk hrk hs0 hk8 hkl hn0 hn1 hkl' hS hs1 hq hbs hz hiff hbt htv
      go_upto_region 5 with fail
      obtain ⟨V, hV⟩ : ∃ V, w2.drew = V := ⟨_, rfl⟩
      have HLV := hide (show Le w2 V by rw [← hV]; exact (Le.refl _).drew)
      have HV := hide hV
      clear hV
      have g0 : ∀ W, Le V W → W.cell? ⟨bF, oF + 2, none⟩ = some (.int .u64 (n0 : Int)) := fun W h => ((HLV.out.trans h).cell (p := ⟨bF, oF + 2, none⟩) hbF).trans d0
      have g1 : ∀ W, Le V W → W.cell? ⟨bF, oF + 4 + 2, none⟩ = some (.int .u64 (n1 : Int)) := fun W h => ((HLV.out.trans h).cell (p := ⟨bF, oF + 4 + 2, none⟩) hbF).trans d1
      have g2 : ∀ W, Le V W → W.cell? ⟨bF, oF + 8 + 3, none⟩ = some (.slice kA kl kc) := fun W h => ((HLV.out.trans h).cell (p := ⟨bF, oF + 8 + 3, none⟩) hbF).trans d2
      have g3 : ∀ W, Le V W → (convert 22 9 (.slice kA kl kc)).run Tryd.prog W = .ok (.string S) W := fun W h => hcv.out W (HLV.out.trans h)
      clear d0 d1 d2 hcv
      go_cut [7] (fun s7 wx => ∃ g, s7 = .pointer (some ⟨g, 0, none⟩) ∧ Box wx g (vcell ⟨q, zag n1, S⟩) 32 ∧ Le w2 wx)
      case first =>
        obtain ⟨F, hF, BF, hLF⟩ := vbox2 V ⟨q, zag n1, S⟩ 32
        refine region_at (Le V) 17 (by kernel_rfl) (by rw [HV.out]; exact Le.refl _) ?_
        rw [HV.out]
        refine at_seg [(0, 1), (1, 1), (2, 1), (3, 0), (4, 1), (5, 1), (6, 1), (7, 1), (8, 0), (10, 1), (11, 1), (12, 1), (13, 0), (14, 0)] 4 (by rfl) (by kernel_rfl) ?_
        simp only [opsPiG, List.filterMap_cons, List.filterMap_nil, List.getElem?_toArray, List.getElem?_cons_zero, List.getElem?_cons_succ, Option.map_some]
        repeat (first | (refine pig_any (v := _) rfl (fun W' => by go_simp <;> exact rfl) ?_; simp only [Act.put, List.setIfInBounds_toArray, List.set_cons_zero, List.set_cons_succ]) | (refine pig_take (v := _) rfl (fun W' hW' => by go_simp <;> exact rfl) ?_; simp only [Act.put, List.setIfInBounds_toArray, List.set_cons_zero, List.set_cons_succ]))
        refine pig_done ?_
        clear g0 g1 g2 g3
        show At _ _ _ (Le V) 17 4 _ _ V
        refine at_two (i := 9) (j := 16) (fuel := 3) (by rfl) (by rfl) (by kernel_rfl) ?_ ?_
        · go_wp2_with fail
          refine (refzag_any V n1 H64.out).mono ?_
          rintro e w' ⟨rfl, rfl⟩
          go_wp2_with fail
          refine ⟨Le.refl _, ?_⟩
          refine at_seg [(15, 1), (16, 2), (17, 3)] 0 (by rfl) (by kernel_rfl) ?_
          simp only [opsPiG, List.filterMap_cons, List.filterMap_nil, List.getElem?_toArray, List.getElem?_cons_zero, List.getElem?_cons_succ, Option.map_some]
          refine pig_any (v := _) rfl (fun W' => by go_simp <;> exact rfl) ?_
          simp only [Act.put, List.setIfInBounds_toArray, List.set_cons_zero, List.set_cons_succ]
          refine pig_run ?_
          go_wp2_with fail
          refine ⟨(Below.refl _ _).alloc (Nat.le_refl _) _, ?_⟩
          refine pig_late ?_
          go_wp2_with (refine wpList_store_row rfl 32 _ _ rfl V.heap.size (vcell ⟨q, zag n1, S⟩) rfl rfl 32 _ (box_new _ _ _) (by kernel_rfl) rfl (val_one ⟨q, zag n1, S⟩) ?_)
          refine pig_done ?_
          refine at_done (by kernel_rfl) ?_ 0
          try rw [hF]
          go_wp2_with fail
          go_meet
          exact ⟨_, rfl, BF, HLV.out.trans hLF⟩
        · go_wp2_with fail
          refine ⟨(Below.refl _ _).alloc (Nat.le_refl _) _, ?_⟩
          refine at_seg [(9, 2), (15, 1), (17, 3)] 0 (by rfl) (by kernel_rfl) ?_
          simp only [opsPiG, List.filterMap_cons, List.filterMap_nil, List.getElem?_toArray, List.getElem?_cons_zero, List.getElem?_cons_succ, Option.map_some]
          refine pig_run ?_
          go_wp2_with fail
          refine (refzag_any _ n1 H64.out).mono ?_
          rintro e w' ⟨rfl, rfl⟩
          go_wp2_with fail
          refine ⟨(Below.refl _ _).alloc (Nat.le_refl _) _, ?_⟩
          refine pig_any (v := _) rfl (fun W' => by go_simp <;> exact rfl) ?_
          simp only [Act.put, List.setIfInBounds_toArray, List.set_cons_zero, List.set_cons_succ]
          refine pig_late ?_
          go_wp2_with (refine wpList_store_row rfl 32 _ _ rfl V.heap.size (vcell ⟨q, zag n1, S⟩) rfl rfl 32 _ (box_new _ _ _) (by kernel_rfl) rfl (val_one ⟨q, zag n1, S⟩) ?_)
          refine pig_done ?_
          refine at_done (by kernel_rfl) ?_ 0
          try rw [hF]
          go_wp2_with fail
          go_meet
          exact ⟨_, rfl, BF, HLV.out.trans hLF⟩
      case rest =>
        obtain ⟨g, rfl, bG, hL2⟩ := hcut
        clear g0 g1 g2 g3
        obtain ⟨V2, hV2⟩ : ∃ V, wc.drew = V := ⟨_, rfl⟩
        have HLV2 := hide (show Le w2 V2 by rw [← hV2]; exact hL2.drew)
        have BG := hide (show Box V2 g _ _ by rw [← hV2]; exact bG.drew)
        have HV2 := hide hV2
        clear hV2 bG hL2
        have q0 := BG.out.later 0 (.bool q) rfl
        have q1 := BG.out.later 1 (.int .i64 (zag n1)) rfl
        have q2 := BG.out.later 2 (.string S) rfl
        have q3 : ∀ W, Le V2 W → (convert 22 9 (.slice A n c)).run Tryd.prog W = .ok (.string (str l)) W := fun W h => hcl.out W (HLV2.out.trans h)
        obtain ⟨E, hE⟩ : ∃ E, valE q (zag n1) (byt S) = E := ⟨_, rfl⟩
        have h8E : ∀ x ∈ E, x < 256 := by rw [← hE]; exact wi.enc8 (valF_fits hI.out (byt8 S) (by rw [byt_len]; exact HSS.out))
        have hpv := hide (hE ▸ refputvalue_any V2 q (zag n1) S hI.out HSS.out)
        rw [hE] at HBT
        obtain ⟨b, hb⟩ : ∃ b, decide (n0 ≤ 1) = b := ⟨_, rfl⟩
        have q5 : ((str E).toList == (str l).toList) = b := by rw [str_beq h8E H8.out, HBT.out]; exact hb
        have HTV2 := hide (show tv l = if b then some ⟨q, zag n1, S⟩ else none by rw [HTV.out, ← hb]; by_cases h : n0 ≤ 1 <;> simp [h])
        have H8E := hide h8E
        clear hE h8E hb HBT HTV
        go_upto_region 6 with fail
        refine region_pi [(0, true), (3, true), (4, true), (1, false), (2, true), (5, true)] (by kernel_rfl) (by kernel_rfl) ?_
        simp only [opsPi, List.filterMap_cons, List.filterMap_nil, List.getElem?_toArray, List.getElem?_cons_zero, List.getElem?_cons_succ, Option.map_some]
        rw [HV2.out]
        repeat (first | (refine pi_take (v := _) rfl (fun W hW => by go_simp <;> exact rfl) ?_; simp only [Act.put, List.setIfInBounds_toArray, List.set_cons_zero, List.set_cons_succ]) | (refine pi_skip rfl ?_; simp only [Act.put, List.setIfInBounds_toArray, List.set_cons_zero, List.set_cons_succ]))
        refine pi_run ?_
        go_wp2_with fail
        refine hpv.out.mono ?_
        rintro e w3 ⟨v3, rfl, hown, hb3⟩
        obtain ⟨A3, c3, rfl, -, -⟩ := own_form hown
        have HB3 := hide (show Le V2 w3 from hb3)
        obtain ⟨L, hL⟩ : ∃ L, E.length = L := ⟨_, rfl⟩
        have q4 : ∀ W, Le w3 W → (convert 22 9 (.slice A3 L c3)).run Tryd.prog W = .ok (.string (str E)) W := fun W h => conv8 W w3.heap.size A3 L c3 E hL H8E.out (h.row (Row.of_own hown) (Nat.le_refl _))
        rw [hL]
        have r0 := (BG.out.below HB3.out BG.out.lt).cell 0 (.bool q) rfl
        have r1 := (BG.out.below HB3.out BG.out.lt).cell 1 (.int .i64 (zag n1)) rfl
        have r2 := (BG.out.below HB3.out BG.out.lt).cell 2 (.string S) rfl
        have BX3 := hide (BX2.out.below (HLV2.out.trans HB3.out) BX2.out.lt)
        have HLF := hide (HB2.out.trans (HLV2.out.trans HB3.out))
        clear hown hb3 hL q0 q1 q2
        go_wp2_with fail
        refine ⟨HB3.out, ?_⟩
        repeat (first | (refine pi_take (v := _) rfl (fun W hW => by go_simp <;> exact rfl) ?_; simp only [Act.put, List.setIfInBounds_toArray, List.set_cons_zero, List.set_cons_succ]) | (refine pi_skip rfl ?_; simp only [Act.put, List.setIfInBounds_toArray, List.set_cons_zero, List.set_cons_succ]))
        refine pi_done ?_
        clear q3 q4 q5
        cases b
        · go_wp2_with (refine wpList_store_row rfl 32 _ _ rfl w.heap.size (vcell zeroV) rfl rfl 32 _ BX3.out (by kernel_rfl) rfl (val_one zeroV) ?_)
          refine bodyPost_ret (box_results1 rfl _ (setRow_heap _ _ _ _ _ _ BX3.out) rfl Tryd.underlying32 rfl rfl) rfl ?_
          exact ⟨by rw [HTV2.out]; rfl, below_setRow HLF.out (Nat.le_refl _) _⟩
        · go_wp2_with (refine wpList_store_row rfl 32 _ _ rfl w.heap.size (vcell ⟨q, zag n1, S⟩) rfl rfl 32 _ BX3.out (by kernel_rfl) rfl (val_one ⟨q, zag n1, S⟩) ?_)
          refine bodyPost_ret (box_results1 rfl _ (setRow_heap _ _ _ _ _ _ BX3.out) rfl Tryd.underlying32 rfl rfl) rfl ?_
          exact ⟨by rw [HTV2.out]; rfl, below_setRow HLF.out (Nat.le_refl _) _⟩
#print axioms reftakevalue_any
end Go.Proofs.YtjliocbdidiemaaDoor
