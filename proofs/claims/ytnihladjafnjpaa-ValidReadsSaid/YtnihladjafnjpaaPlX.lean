/-
  The program's plan of directories, walked (written by mk_plx.py).
-/
import Derived.Test.YtnihladjafnjpaaPlW
import Derived.Test.YtnihladjafnjpaaPlH
import Derived.Test.YtnihladjafnjpaaRegionT
import Derived.Great.BuildSlice
namespace Go.Proofs.Ytnihladjafnjpaa
open Go.RowKit
set_option linter.unusedVariables false

theorem own_heap {w w' : World} {base size n : Nat} {e : TypeId} {v : Value} {xs : List Value} (h : w.ownsRow base e size v n xs) (hk : ∀ g, v.ownBlock = some g → w'.heap[g]? = w.heap[g]?) : w'.ownsRow base e size v n xs := by
  refine ⟨h.1, ?_⟩
  rcases h.2 with h0 | ⟨g, cap, cur, hv, hbg, hg, hr⟩
  · exact .inl h0
  · exact .inr ⟨g, cap, cur, hv, hbg, (hk g (by rw [hv]; rfl)).trans hg, hr⟩
theorem fin_row {W : World} {base g k cc : Nat} {C : Option Addr} {o : List dr.Dr} {v : Value} (h : W.ownsRow base 41 3 (.slice C k cc) k (dcs o)) (hne : ∀ j, (Value.slice C k cc).ownBlock = some j → j ≠ g) : Row (W.setRow g #[v]) (W.setRow g #[v]).heap.size C (dcs o) :=
  Row.of_own (own_heap h fun j hj => setRow_other W g j #[v] (by have := hne j hj; omega))
theorem own_apart {w : World} {base size n : Nat} {e : TypeId} {v : Value} {xs : List Value} (h : w.ownsRow base e size v n xs) {g : Nat} (hg : w.heap.size ≤ g ∨ g < base) : some g ≠ v.ownBlock := fun e => by
  have := h.lt g e.symm
  omega

set_option maxRecDepth 100000 in
set_option maxHeartbeats 8000000 in
theorem plan_any (w : World) (DA A B : Option Addr) (dn dc n c m d : Nat) (ds : List dr.Dr) (H : Int) (l s : List Int) (hd : ds.length = dn) (hdn : dn ≤ 1000) (hl : l.length = n) (hn : n ≤ 1000000000) (hs : s.length = m) (hm : m ≤ 1000000000)
    (hrd : Row w w.heap.size DA (dcs ds)) (hr : Row w w.heap.size A (ints l)) (hrs : Row w w.heap.size B (ints s)) :
    Calls Try.prog 18 #[.slice DA dn dc, .agg #[.int .i64 H, .slice A n c], .slice B m d] w fun e w' => ∃ (C : Option Addr) (k cc : Nat) (o : List dr.Dr) (code : Int),
      e = .returned (.tuple #[.slice C k cc, .int .i64 code]) ∧ o.length = k ∧ k ≤ 1001 ∧ Planned H l s ds o code ∧ Row w' w'.heap.size C (dcs o) ∧ Below w.heap.size w w' := by
  obtain ⟨X1, hX1, b1, hl1⟩ : ∃ X, w.alloc (.cells #[.int .i64 H, .slice A n c] 24) = X ∧ Box X w.heap.size #[.int .i64 H, .slice A n c] 24 ∧ Le w X := ⟨_, rfl, box_new _ _ _, (Below.refl _ _).alloc (Nat.le_refl _) _⟩
  obtain ⟨X2, hX2, b2, hl2⟩ : ∃ X, X1.alloc (.cells #[.slice B m d] 22) = X ∧ Box X X1.heap.size #[.slice B m d] 22 ∧ Le X1 X := ⟨_, rfl, box_new _ _ _, (Below.refl _ _).alloc (Nat.le_refl _) _⟩
  have HX1 := hide hX1
  have HX2 := hide hX2
  have hz1 := b1.lt
  have hz2 := b2.lt
  have B1 := b1.below hl2 hz1
  have BB1 := hide B1
  have BB2 := hide b2
  have HL2 := hide (hl1.trans hl2)
  have g0 := B1.cell 0 (.int .i64 H) rfl
  have g1 := B1.cell 1 (.slice A n c) rfl
  have g2 := b2.cell 0 (.slice B m d) rfl
  have hck := hide (check_any X2 H A B n c m d l s hl hn hs hm (((hl1.trans hl2).row hr (Nat.le_refl _)).more (hl1.trans hl2).size) (((hl1.trans hl2).row hrs (Nat.le_refl _)).more (hl1.trans hl2).size))
  obtain ⟨b, hb⟩ : ∃ b, w.heap.size + 1 = b := ⟨_, rfl⟩
  rw [show X1.heap.size = b by rw [← hX1, ← hb]; simp] at BB2 g2 hz2
  have HBX := hide hb
  have HD := hide hd
  have HL := hide hl
  have HS := hide hs
  have HRD := hide hrd
  have HR := hide hr
  have HRS := hide hrs
  obtain ⟨ck, hck0⟩ : ∃ x, checkI H l s = x := ⟨_, rfl⟩
  have HCK := hide hck0
  rw [hck0] at hck
  clear hX1 hX2 b1 b2 hl1 hl2 B1 hd hl hs hrd hr hrs hck0 hb
  go_enter Try.func18, Try.ntmps18
  go_upto_region 1 with fail
  rw [HX1.out, HX2.out, HBX.out]
  go_wp2_with fail
  refine hck.out.mono ?_
  rintro e w1 ⟨rfl, hb⟩
  have HL1 := hide (show Le X2 w1 from hb)
  clear hb g0 g1 g2
  rcases check_two H l s with h0 | h0
  · obtain rfl : (0 : Int) = ck := h0.symm.trans HCK.out
    have HCK0 := hide h0
    go_upto_region 5 with (refine wpList_store_oneTo rfl 46 _ _ rfl rfl w1.heap.size fIn rfl rfl rfl 46 .nilFunc (heap_alloc_new w1 _) (by kernel_rfl) ?_)
    obtain ⟨X3, hX3⟩ : ∃ X, (w1.alloc (.cells #[.nilFunc] 46)).setRow w1.heap.size #[fIn] = X := ⟨_, rfl⟩
    have HX3 := hide hX3
    obtain ⟨bf, hbf⟩ : ∃ b, w1.heap.size = b := ⟨_, rfl⟩
    have BB3 := hide (show Box X3 bf #[fIn] 46 by rw [← hX3, ← hbf]; exact setRow_heap _ _ _ _ _ _ (heap_alloc_new w1 _))
    have HBF := hide hbf
    have HL3 := hide (show Le X2 X3 from by rw [← hX3]; exact below_setRow (HL1.out.alloc HL1.out.size _) HL1.out.size _)
    have hq : w1.heap.size < X3.heap.size := by rw [← hX3]; simp [World.setRow]
    clear hX3 h0 hbf
    rw [HX3.out, HBF.out]
    rw [HBF.out] at hq
    go_upto_region 6 with fail
    obtain ⟨V, hV⟩ : ∃ V, X3.drew = V := ⟨_, rfl⟩
    have HLV := hide (show Le X2 V by rw [← hV]; exact HL3.out.drew)
    have BV1 := hide (BB1.out.below HLV.out BB1.out.lt)
    have BV2 := hide (BB2.out.below HLV.out BB2.out.lt)
    have BV3 := hide (show Box V bf #[fIn] 46 by rw [← hV]; exact BB3.out.drew)
    have HV := hide hV
    obtain ⟨K, hK⟩ : ∃ K, kept (useless H l s) ds = K := ⟨_, rfl⟩
    have hK1 : K.length ≤ 1000 := by rw [← hK]; exact Nat.le_trans (List.length_filter_le _ _) (by rw [HD.out]; exact hdn)
    have HK := hide hK
    have hcl := hide (fun (W : World) (h : Le V W) => cloned_any W DA dn dc (dcs ds) (by rw [dcs_len, HD.out]) dcs_one (by omega) (((HL2.out.trans (HLV.out.trans h)).row HRD.out (Nat.le_refl _)).more (HL2.out.trans (HLV.out.trans h)).size))
    have hdl := hide (fun (W : World) (v : Value) (h : Le V W) (ho : W.ownsRow V.heap.size 41 3 v dn (dcs ds)) => deletev3_any W V.heap.size 27 (.pointer (some ⟨w.heap.size, 0, none⟩)) (.pointer (some ⟨b, 0, none⟩)) (.pointer (some ⟨bf, 0, none⟩)) (useless H l s) v dn ds HD.out (by omega) h.size ho enterPlan2 (fun W' hW' d _ => plan2_any W' w.heap.size b bf H A B n c m _ l s d HL.out hn HS.out hm (((HL2.out.trans (HLV.out.trans (Below.trans h hW'))).row HR.out (Nat.le_refl _)).more (HL2.out.trans (HLV.out.trans (Below.trans h hW'))).size) (((HL2.out.trans (HLV.out.trans (Below.trans h hW'))).row HRS.out (Nat.le_refl _)).more (HL2.out.trans (HLV.out.trans (Below.trans h hW'))).size) (BV1.out.later 0 _ rfl W' (Below.trans h hW')) (BV1.out.later 1 _ rfl W' (Below.trans h hW')) (Nat.lt_of_lt_of_le BV1.out.lt (Le.size (Below.trans h hW'))) (BV2.out.later 0 _ rfl W' (Below.trans h hW')) (Nat.lt_of_lt_of_le BV2.out.lt (Le.size (Below.trans h hW'))) (BV3.out.later 0 _ rfl W' (Below.trans h hW')) (Nat.lt_of_lt_of_le BV3.out.lt (Le.size (Below.trans h hW')))))
    have hch := hide (fun (W : World) (A4 : Option Addr) (c4 : Nat) {base : Nat} (ho : W.ownsRow base 41 3 (.slice A4 K.length c4) K.length (dcs K)) => chosen_any W A4 K.length c4 K H rfl hK1 (Row.of_own ho))
    rw [hK] at hdl
    clear hV hK
    go_cut [11] (fun s11 wx => ∃ (g : Nat) (C : Option Addr) (k cc : Nat) (o : List dr.Dr), s11 = .pointer (some ⟨g, 0, none⟩) ∧ Hid (Box wx g #[.slice C k cc] 35) ∧ Hid (dr.Chosen K H o) ∧ o.length = k ∧ k ≤ 1001 ∧ Hid (Row wx wx.heap.size C (dcs o)) ∧ Hid (Le V wx))
    case first =>
      have g0 := BV1.out.later 0 (.int .i64 H) rfl
      refine region_at (Le V) 8 (by kernel_rfl) (by rw [HV.out]; exact Le.refl _) ?_
      rw [HV.out]
      refine at_seg [(0, 1), (2, 1), (4, 1), (5, 0)] 5 (by rfl) (by kernel_rfl) ?_
      simp only [opsPiG, List.filterMap_cons, List.filterMap_nil, List.getElem?_toArray, List.getElem?_cons_zero, List.getElem?_cons_succ, Option.map_some]
      repeat (first | (refine pig_any (v := _) rfl (fun W' => by go_simp <;> exact rfl) ?_; simp only [Act.put, List.setIfInBounds_toArray, List.set_cons_zero, List.set_cons_succ]) | (refine pig_take (v := _) rfl (fun W' hW' => by go_simp <;> exact rfl) ?_; simp only [Act.put, List.setIfInBounds_toArray, List.set_cons_zero, List.set_cons_succ]))
      refine pig_done ?_
      clear g0
      show At _ _ _ (Le V) 8 5 _ _ V
      refine at_two (i := 1) (j := 7) (fuel := 4) (by rfl) (by rfl) (by kernel_rfl) ?_ ?_
      · go_wp2_with fail
        refine (hcl.out V (Le.refl V)).mono ?_
        rintro e w3 ⟨v3, rfl, hown, hb⟩
        have HLw3 := hide (show Le V w3 from Le.trans (Le.refl V) hb)
        have HB3 := hide (show Le V w3 from hb)
        have HO3 := hide hown
        clear hown hb
        go_wp2_with fail
        refine ⟨HLw3.out, ?_⟩
        refine at_two (i := 3) (j := 7) (fuel := 3) (by rfl) (by rfl) (by kernel_rfl) ?_ ?_
        · have hdl2 := hide (hdl.out w3 v3 HLw3.out HO3.out)
          go_wp2_with fail
          refine hdl2.out.mono ?_
          rintro e w4 ⟨v4, rfl, hown, hb, hg⟩
          have HLw4 := hide (show Le V w4 from Below.trans HLw3.out hb)
          have HG4 := hide hg
          obtain ⟨A4, c4, rfl, -, -⟩ := own_form hown
          have HO4 := hide hown
          clear hown hb hg hdl2
          go_wp2_with fail
          refine ⟨HLw4.out, ?_⟩
          refine at_two (i := 6) (j := 7) (fuel := 2) (by rfl) (by rfl) (by kernel_rfl) ?_ ?_
          · have hch2 := hide (hch.out w4 A4 c4 HO4.out)
            go_wp2_with fail
            refine hch2.out.mono ?_
            rintro e w5 ⟨A5, k5, c5, o, rfl, hc5, hk5, hk6, hown, hb⟩
            have HLw5 := hide (show Le V w5 from Le.trans HLw4.out hb)
            have HB5 := hide (show Le w4 w5 from hb)
            have HO5 := hide hown
            have HC5 := hide hc5
            have HK5 := hide hk5
            clear hown hb hc5 hk5 hch2
            go_wp2_with fail
            refine ⟨HLw5.out, ?_⟩
            refine at_seg [(7, 2), (8, 3)] 0 (by rfl) (by kernel_rfl) ?_
            simp only [opsPiG, List.filterMap_cons, List.filterMap_nil, List.getElem?_toArray, List.getElem?_cons_zero, List.getElem?_cons_succ, Option.map_some]
            refine pig_run ?_
            go_wp2_with fail
            obtain ⟨Y, hY, bY, hlY⟩ : ∃ Y, w5.alloc (.cells #[.slice none 0 0] 35) = Y ∧ Box Y w5.heap.size #[.slice none 0 0] 35 ∧ Le w5 Y := ⟨_, rfl, box_new _ _ _, (Below.refl _ _).alloc (Nat.le_refl _) _⟩
            rw [hY]
            have HLY := hide (show Le V Y from Le.trans HLw5.out hlY)
            have BY := hide bY
            have HWY := hide hlY
            have hzY := bY.lt
            clear hY bY hlY
            refine ⟨HLY.out, ?_⟩
            refine pig_late ?_
            go_wp2_with (refine wpList_store_oneTo rfl 35 _ _ rfl rfl w5.heap.size (.slice A5 k5 c5) rfl rfl rfl 35 (.slice none 0 0) BY.out (by kernel_rfl) ?_)
            refine pig_done ?_
            refine at_done (by kernel_rfl) ?_ 0
            go_wp2_with fail
            go_meet
            exact ⟨_, A5, k5, c5, o, rfl, hide (setRow_heap _ _ _ _ _ _ BY.out), HC5, HK5.out, hk6, hide (fin_row (own_below HO5.out HWY.out) (fun j hj => by have := HO5.out.lt j hj; omega)), hide (below_setRow HLY.out (HLw5.out.size) _)⟩
          · go_wp2_with fail
            obtain ⟨Y, hY, bY, hlY⟩ : ∃ Y, w4.alloc (.cells #[.slice none 0 0] 35) = Y ∧ Box Y w4.heap.size #[.slice none 0 0] 35 ∧ Le w4 Y := ⟨_, rfl, box_new _ _ _, (Below.refl _ _).alloc (Nat.le_refl _) _⟩
            rw [hY]
            have HLY := hide (show Le V Y from Le.trans HLw4.out hlY)
            have BY := hide bY
            have HWY := hide hlY
            have hzY := bY.lt
            clear hY bY hlY
            refine ⟨HLY.out, ?_⟩
            refine at_seg [(6, 2), (8, 3)] 0 (by rfl) (by kernel_rfl) ?_
            simp only [opsPiG, List.filterMap_cons, List.filterMap_nil, List.getElem?_toArray, List.getElem?_cons_zero, List.getElem?_cons_succ, Option.map_some]
            refine pig_run ?_
            have hch2 := hide (hch.out Y A4 c4 (own_below HO4.out HWY.out))
            go_wp2_with fail
            refine hch2.out.mono ?_
            rintro e w5 ⟨A5, k5, c5, o, rfl, hc5, hk5, hk6, hown, hb⟩
            have HLw5 := hide (show Le V w5 from Le.trans HLY.out hb)
            have HB5 := hide (show Le Y w5 from hb)
            have HO5 := hide hown
            have HC5 := hide hc5
            have HK5 := hide hk5
            clear hown hb hc5 hk5 hch2
            go_wp2_with fail
            refine ⟨HLw5.out, ?_⟩
            refine pig_late ?_
            go_wp2_with (refine wpList_store_oneTo rfl 35 _ _ rfl rfl w4.heap.size (.slice A5 k5 c5) rfl rfl rfl 35 (.slice none 0 0) (BY.out.below HB5.out hzY) (by kernel_rfl) ?_)
            refine pig_done ?_
            refine at_done (by kernel_rfl) ?_ 0
            go_wp2_with fail
            go_meet
            exact ⟨_, A5, k5, c5, o, rfl, hide (setRow_heap _ _ _ _ _ _ (BY.out.below HB5.out hzY)), HC5, HK5.out, hk6, hide (fin_row HO5.out (fun j hj => by have := HO5.out.lt j hj; omega)), hide (below_setRow HLw5.out (HLw4.out.size) _)⟩
        · go_wp2_with fail
          obtain ⟨Y, hY, bY, hlY⟩ : ∃ Y, w3.alloc (.cells #[.slice none 0 0] 35) = Y ∧ Box Y w3.heap.size #[.slice none 0 0] 35 ∧ Le w3 Y := ⟨_, rfl, box_new _ _ _, (Below.refl _ _).alloc (Nat.le_refl _) _⟩
          rw [hY]
          have HLY := hide (show Le V Y from Le.trans HLw3.out hlY)
          have BY := hide bY
          have HWY := hide hlY
          have hzY := bY.lt
          clear hY bY hlY
          refine ⟨HLY.out, ?_⟩
          refine at_seg [(3, 2), (6, 2), (8, 3)] 0 (by rfl) (by kernel_rfl) ?_
          simp only [opsPiG, List.filterMap_cons, List.filterMap_nil, List.getElem?_toArray, List.getElem?_cons_zero, List.getElem?_cons_succ, Option.map_some]
          refine pig_run ?_
          have hdl2 := hide (hdl.out Y v3 HLY.out (own_below HO3.out HWY.out))
          go_wp2_with fail
          refine hdl2.out.mono ?_
          rintro e w4 ⟨v4, rfl, hown, hb, hg⟩
          have HLw4 := hide (show Le V w4 from Below.trans HLY.out hb)
          have HG4 := hide hg
          obtain ⟨A4, c4, rfl, -, -⟩ := own_form hown
          have HO4 := hide hown
          clear hown hb hg hdl2
          go_wp2_with fail
          refine ⟨HLw4.out, ?_⟩
          have BY4 := hide (BY.out.grown HG4.out (fun j hj => by have := HO3.out.lt j hj; omega))
          have hz4 := BY4.out.lt
          refine pig_run ?_
          have hch2 := hide (hch.out w4 A4 c4 HO4.out)
          go_wp2_with fail
          refine hch2.out.mono ?_
          rintro e w5 ⟨A5, k5, c5, o, rfl, hc5, hk5, hk6, hown, hb⟩
          have HLw5 := hide (show Le V w5 from Le.trans HLw4.out hb)
          have HB5 := hide (show Le w4 w5 from hb)
          have HO5 := hide hown
          have HC5 := hide hc5
          have HK5 := hide hk5
          clear hown hb hc5 hk5 hch2
          go_wp2_with fail
          refine ⟨HLw5.out, ?_⟩
          refine pig_late ?_
          go_wp2_with (refine wpList_store_oneTo rfl 35 _ _ rfl rfl w3.heap.size (.slice A5 k5 c5) rfl rfl rfl 35 (.slice none 0 0) (BY4.out.below HB5.out hz4) (by kernel_rfl) ?_)
          refine pig_done ?_
          refine at_done (by kernel_rfl) ?_ 0
          go_wp2_with fail
          go_meet
          exact ⟨_, A5, k5, c5, o, rfl, hide (setRow_heap _ _ _ _ _ _ (BY4.out.below HB5.out hz4)), HC5, HK5.out, hk6, hide (fin_row HO5.out (fun j hj => by have := HO5.out.lt j hj; omega)), hide (below_setRow HLw5.out (HLw3.out.size) _)⟩
      · go_wp2_with fail
        obtain ⟨Y, hY, bY, hlY⟩ : ∃ Y, V.alloc (.cells #[.slice none 0 0] 35) = Y ∧ Box Y V.heap.size #[.slice none 0 0] 35 ∧ Le V Y := ⟨_, rfl, box_new _ _ _, (Below.refl _ _).alloc (Nat.le_refl _) _⟩
        rw [hY]
        have HLY := hide (show Le V Y from Le.trans (Le.refl V) hlY)
        have BY := hide bY
        have HWY := hide hlY
        have hzY := bY.lt
        clear hY bY hlY
        refine ⟨HLY.out, ?_⟩
        refine at_seg [(1, 2), (3, 2), (6, 2), (8, 3)] 0 (by rfl) (by kernel_rfl) ?_
        simp only [opsPiG, List.filterMap_cons, List.filterMap_nil, List.getElem?_toArray, List.getElem?_cons_zero, List.getElem?_cons_succ, Option.map_some]
        refine pig_run ?_
        go_wp2_with fail
        refine (hcl.out Y HLY.out).mono ?_
        rintro e w3 ⟨v3, rfl, hown, hb⟩
        have HLw3 := hide (show Le V w3 from Le.trans HLY.out hb)
        have HB3 := hide (show Le Y w3 from hb)
        have HO3 := hide hown
        clear hown hb
        go_wp2_with fail
        refine ⟨HLw3.out, ?_⟩
        have BY3 := hide (BY.out.below HB3.out hzY)
        refine pig_run ?_
        have hdl2 := hide (hdl.out w3 v3 HLw3.out (own_more HO3.out (Nat.le_of_lt hzY)))
        go_wp2_with fail
        refine hdl2.out.mono ?_
        rintro e w4 ⟨v4, rfl, hown, hb, hg⟩
        have HLw4 := hide (show Le V w4 from Below.trans HLw3.out hb)
        have HG4 := hide hg
        obtain ⟨A4, c4, rfl, -, -⟩ := own_form hown
        have HO4 := hide hown
        clear hown hb hg hdl2
        go_wp2_with fail
        refine ⟨HLw4.out, ?_⟩
        have BY4 := hide (BY3.out.grown HG4.out (fun j hj => by have := HO3.out.lt j hj; omega))
        have hz4 := BY4.out.lt
        refine pig_run ?_
        have hch2 := hide (hch.out w4 A4 c4 HO4.out)
        go_wp2_with fail
        refine hch2.out.mono ?_
        rintro e w5 ⟨A5, k5, c5, o, rfl, hc5, hk5, hk6, hown, hb⟩
        have HLw5 := hide (show Le V w5 from Le.trans HLw4.out hb)
        have HB5 := hide (show Le w4 w5 from hb)
        have HO5 := hide hown
        have HC5 := hide hc5
        have HK5 := hide hk5
        clear hown hb hc5 hk5 hch2
        go_wp2_with fail
        refine ⟨HLw5.out, ?_⟩
        refine pig_late ?_
        go_wp2_with (refine wpList_store_oneTo rfl 35 _ _ rfl rfl V.heap.size (.slice A5 k5 c5) rfl rfl rfl 35 (.slice none 0 0) (BY4.out.below HB5.out hz4) (by kernel_rfl) ?_)
        refine pig_done ?_
        refine at_done (by kernel_rfl) ?_ 0
        go_wp2_with fail
        go_meet
        exact ⟨_, A5, k5, c5, o, rfl, hide (setRow_heap _ _ _ _ _ _ (BY4.out.below HB5.out hz4)), HC5, HK5.out, hk6, hide (fin_row HO5.out (fun j hj => by have := HO5.out.lt j hj; omega)), hide (below_setRow HLw5.out (Nat.le_refl _) _)⟩
    case rest =>
      obtain ⟨g, C, k, cc, o, rfl, HBX4, HCH, hk, hk1, HRC, HLc⟩ := hcut
      have BC1 := hide (BV1.out.below HLc.out BV1.out.lt)
      have BC2 := hide (BV2.out.below HLc.out BV2.out.lt)
      have BC3 := hide (BV3.out.below HLc.out BV3.out.lt)
      have HLw := hide (show Le w wc from HL2.out.trans (HLV.out.trans HLc.out))
      have hal := hide (all_any3 wc 32 (.pointer (some ⟨w.heap.size, 0, none⟩)) (.pointer (some ⟨g, 0, none⟩)) (.pointer (some ⟨bf, 0, none⟩)) (okC H l o) B m d s HS.out hm ((HLw.out.row HRS.out (Nat.le_refl _)).more HLw.out.size) enterPlan3 (fun W hW id st => plan3_any W w.heap.size g bf H A C n c k cc l o id st HL.out hn hk (by omega) (((HLw.out.trans hW).row HR.out (Nat.le_refl _)).more (HLw.out.trans hW).size) ((hW.row HRC.out (Nat.le_refl _)).more hW.size) (BC1.out.later 0 _ rfl W hW) (BC1.out.later 1 _ rfl W hW) (Nat.lt_of_lt_of_le BC1.out.lt hW.size) (HBX4.out.later 0 _ rfl W hW) (Nat.lt_of_lt_of_le HBX4.out.lt hW.size) (BC3.out.later 0 _ rfl W hW) (Nat.lt_of_lt_of_le BC3.out.lt hW.size)))
      obtain ⟨av, hav⟩ : ∃ b, allI (okC H l o) s = b := ⟨_, rfl⟩
      rw [hav] at hal
      have HAV := hide hav
      have HKK := hide hk
      have c2 := BC2.out.cell 0 (.slice B m d) rfl
      clear hav hcl hdl hch hk
      go_wp2_with fail
      refine hal.out.mono ?_
      rintro e w7 ⟨rfl, hb⟩
      have HL7 := hide (show Le w w7 from HLw.out.trans hb)
      have BX7 := hide (HBX4.out.below hb HBX4.out.lt)
      have HR7 := hide (show Row w7 w7.heap.size C (dcs o) from (Le.row hb HRC.out (Nat.le_refl _)).more (Le.size hb))
      have c3 := BX7.out.cell 0 (.slice C k cc) rfl
      clear hb c2
      have HKD := hide (show K = ds.filter fun d => !useless H l s d from HK.out.symm)
      cases av
      · go_wp2_with fail
        go_ret2
        exact ⟨none, 0, 0, [], 31, rfl, rfl, by omega, .inr ⟨HCK0.out, o, by rw [← HKD.out]; exact HCH.out, .inr ⟨HAV.out, rfl, rfl⟩⟩, Row.none_, HL7.out⟩
      · go_wp2_with fail
        go_ret2
        exact ⟨C, k, cc, o, 0, rfl, HKK.out, hk1, .inr ⟨HCK0.out, o, by rw [← HKD.out]; exact HCH.out, .inl ⟨HAV.out, rfl, rfl⟩⟩, HR7.out, HL7.out⟩
  · obtain rfl : (30 : Int) = ck := h0.symm.trans HCK.out
    go_wp2_with fail
    go_ret2
    exact ⟨none, 0, 0, [], 30, rfl, rfl, by omega, .inl ⟨HCK.out, rfl, rfl⟩, Row.none_, HL2.out.trans HL1.out⟩
#print axioms plan_any
end Go.Proofs.Ytnihladjafnjpaa
