/-
  The program's choice of directories, walked.
-/
import Derived.Test.YtnihladjafnjpaaPlV
import Derived.Test.YtnihladjafnjpaaPlT
import Derived.Test.YtnihladjafnjpaaRegionS
namespace Go.Proofs.Ytnihladjafnjpaa
open Go.RowKit
set_option linter.unusedVariables false

/-- Two rows of one's own that lie in two blocks. -/
def Apart (v u : Value) : Prop := ∀ g, v.ownBlock = some g → u.ownBlock ≠ some g
theorem Apart.kept {w w' : World} {base size n : Nat} {e : TypeId} {u v : Value} {xs : List Value} (h : w.ownsRow base e size u n xs) (ha : Apart v u) (hg : w.grownBy w' v.ownBlock) : w'.ownsRow base e size u n xs := by
  refine h.kept hg ?_
  cases hu : u.ownBlock with
  | none => exact .inl rfl
  | some g => exact .inr fun e => ha g e.symm hu
theorem Apart.grown {w : World} {base size n : Nat} {e : TypeId} {u v v' : Value} {xs : List Value} (h : w.ownsRow base e size u n xs) (ha : Apart v u) (hat : v'.ownBlock = v.ownBlock ∨ v'.ownBlock = some w.heap.size) : Apart v' u := by
  intro g hg hu
  rcases hat with e | e
  · exact ha g (e ▸ hg) hu
  · rw [e] at hg
    injection hg with hg
    have := (h.lt g hu).2
    omega
theorem greedy_drop {x : Int} {D : List dr.Dr} {q : Nat} {u : dr.Dr} (h : D[q]? = some u) : dr.greedy x (D.drop q) = if x < u.f then u :: dr.greedy u.t (D.drop (q + 1)) else dr.greedy x (D.drop (q + 1)) := by
  obtain ⟨hq, rfl⟩ := List.getElem?_eq_some_iff.1 h
  rw [List.drop_eq_getElem_cons hq]
  rfl

set_option maxRecDepth 100000 in
set_option maxHeartbeats 4000000 in
theorem chosen_any (w : World) (A : Option Addr) (n c : Nat) (l : List dr.Dr) (most : Int) (hl : l.length = n) (hn : n ≤ 1000) (hr : Row w w.heap.size A (dcs l)) :
    Calls Try.prog 29 #[.slice A n c, .int .i64 most] w fun e w' => ∃ (A' : Option Addr) (k c' : Nat) (o : List dr.Dr), e = .returned (.slice A' k c') ∧ dr.Chosen l most o ∧ o.length = k ∧ k ≤ 1001 ∧ w'.ownsRow w.heap.size 41 3 (.slice A' k c') k (dcs o) ∧ Below w.heap.size w w' := by
  obtain ⟨X1, hX1, b1, hl1⟩ : ∃ X, w.alloc (.cells #[.slice A n c] 35) = X ∧ Box X w.heap.size #[.slice A n c] 35 ∧ Le w X := ⟨_, rfl, box_new _ _ _, (Below.refl _ _).alloc (Nat.le_refl _) _⟩
  obtain ⟨X2, hX2, b2, hl2⟩ : ∃ X, X1.alloc (.cells #[.int .i64 most] 3) = X ∧ Box X X1.heap.size #[.int .i64 most] 3 ∧ Le X1 X := ⟨_, rfl, box_new _ _ _, (Below.refl _ _).alloc (Nat.le_refl _) _⟩
  have hz1 := b1.lt
  have B1 := b1.below hl2 hz1
  obtain ⟨b, hb⟩ : ∃ b, w.heap.size + 1 = b := ⟨_, rfl⟩
  have hzb : X1.heap.size = b := by rw [← hX1, ← hb]; simp
  rw [hzb] at b2
  have HBX := hide hb
  have HX1 := hide hX1
  have HX2 := hide hX2
  have HL2 := hide (hl1.trans hl2)
  have hc1 := hide (fun (kd : Int) (W : World) (h : Le X2 W) => chosen1_any W w.heap.size b kd most A n c l hl hn (((hl1.trans hl2).trans h |>.row hr (Nat.le_refl _)).more ((hl1.trans hl2).trans h).size) (B1.later 0 _ rfl W h) (Nat.lt_of_lt_of_le hz1 (hl2.trans h).size) (b2.later 0 _ rfl W h) (Nat.lt_of_lt_of_le b2.lt h.size))
  have HL := hide hl
  have he := enterChosen1
  clear hX1 hX2 b1 b2 hl1 hl2 B1 hl hr hz1 hb hzb
  go_enter Try.func29, Try.ntmps29
  go_upto_region 1 with fail
  rw [HX1.out, HX2.out, HBX.out]
  go_wp2_with fail
  refine (hc1.out 1 X2 (Le.refl _)).mono ?_
  rintro e w1 ⟨A1, k1, c1, Bs, rfl, hk1, hkn, hown, hmem, hpw, hb⟩
  have HL1 := hide (show Le X2 w1 from hb)
  have HO1 := hide hown
  have HK1 := hide hk1
  have HM1 := hide hmem
  have HP1 := hide hpw
  clear hb hown hk1 hmem hpw
  go_upto_region 5 with fail
  go_upto_if 16 with fail
  go_cut [6, 7] (fun s nn wx => ∃ (As : Option Addr) (k cs : Nat) (x : Int) (o1 : List dr.Dr), s = .slice As k cs ∧ nn = .int .i64 x ∧ k ≤ 1 ∧ Hid (k = o1.length) ∧ Hid (∀ D, (∀ d, d ∈ D ↔ d ∈ l ∧ dr.cand 2 most d = true) → D.Pairwise dr.Le2 → dr.Chosen l most (o1 ++ dr.greedy x D)) ∧ Hid (wx.ownsRow w.heap.size 41 3 (.slice As k cs) k (dcs o1)) ∧ Hid (Le X2 wx))
  case first =>
    cases Bs with
    | nil =>
      obtain rfl : k1 = 0 := HK1.out.symm
      go_wp2_with fail
      go_meet
      exact ⟨none, 0, 0, 0, [], rfl, rfl, by omega, hide rfl, hide (fun D h1 h2 => dr.sorted_chosen HM1.out h1 HP1.out h2), hide (World.ownsRow_nil _ _ _ _), HL1⟩
    | cons b0 Bs =>
      have hpos : 0 < k1 := by have := HK1.out; simp at this; omega
      obtain ⟨g, cap, hv, hgb, hgl⟩ := HO1.out.form hpos
      simp only [Value.slice.injEq] at hv
      obtain ⟨rfl, -, rfl⟩ := hv
      obtain ⟨_, _, e1, e2, -⟩ := own_form HO1.out
      simp only [Value.slice.injEq] at e1
      obtain ⟨-, -, rfl⟩ := e1
      obtain ⟨_, _, eA, -, -, -, s2⟩ := row_dr (l := b0 :: Bs) (k := 0) (Row.of_own HO1.out) rfl
      simp only [Option.some.injEq, Addr.mk.injEq, and_true] at eA
      obtain ⟨rfl, rfl⟩ := eA
      obtain ⟨k0, f0, t0⟩ := b0
      have s3 : w1.cell? ⟨g, 2, none⟩ = some (.int .i64 t0) := by simpa using s2
      have HOC := hide (own_more (own_cut HO1.out (i := 1) hpos) (Below.size HL2.out))
      obtain ⟨V, hV⟩ : ∃ V, w1.drew = V := ⟨_, rfl⟩
      have HLV := hide (show Le X2 V by rw [← hV]; exact HL1.out.drew)
      have HOV := hide (show V.ownsRow w.heap.size 41 3 (.slice (some ⟨g, 0, none⟩) 1 c1) 1 (dcs [⟨k0, f0, t0⟩]) by
        rw [← hV]
        exact own_below HOC.out (Below.refl _ _).drew)
      have c2 : ∀ W, Le V W → W.cell? ⟨g, 2, none⟩ = some (.int .i64 t0) := fun W h => (h.cell (p := ⟨g, 2, none⟩) (by rw [← hV]; exact hgl)).trans (by rw [← hV]; exact s3)
      have hcap : (1 : Int) ≤ c1 := by omega
      have hcap2 : 1 ≤ c1 := by omega
      have hposI : (0 : Int) < k1 := by omega
      have HV := hide hV
      clear hV s2 s3
      go_upto_region 6 with fail
      refine region_pi [(0, true), (1, true), (2, true), (3, true), (4, true), (5, true), (6, true), (7, true)] (by kernel_rfl) (by kernel_rfl) ?_
      simp only [opsPi, List.filterMap_cons, List.filterMap_nil, List.getElem?_toArray, List.getElem?_cons_zero, List.getElem?_cons_succ, Option.map_some]
      rw [HV.out]
      repeat (first | (refine pi_take (v := _) rfl (fun W hW => by go_simp <;> exact rfl) ?_; simp only [Act.put, List.setIfInBounds_toArray, List.set_cons_zero, List.set_cons_succ]) | (refine pi_skip rfl ?_; simp only [Act.put, List.setIfInBounds_toArray, List.set_cons_zero, List.set_cons_succ]))
      refine pi_done ?_
      go_wp2_with fail
      go_meet
      exact ⟨_, 1, c1, t0, [⟨k0, f0, t0⟩], rfl, rfl, Nat.le_refl _, hide rfl, hide (fun D h1 h2 => dr.sorted_chosen HM1.out h1 HP1.out h2), HOV, HLV⟩
  case rest =>
    obtain ⟨As, k, cs, x, o1, rfl, rfl, hk1, HK, HCH, HO, HLc⟩ := hcut
    have hc2 := hide (hc1.out 2 wc HLc.out)
    clear HO1 HK1 HM1 HP1 hkn hc1
    go_wp2_with fail
    refine hc2.out.mono ?_
    rintro e w2 ⟨A2, m, c2, D, rfl, hm, hmn, hown, hmem, hpw, hb⟩
    have HLw2 := hide (show Le X2 w2 from HLc.out.trans hb)
    have HO2 := hide (own_below HO.out hb)
    have HD2 := hide (own_more hown (Nat.le_trans (Below.size HL2.out) (Below.size HLc.out)))
    have HAP := hide (show Apart (.slice As k cs) (.slice A2 m c2) from fun g hg hu => by
      have h1 := (HO.out.lt g hg).2
      have h2 := (hown.lt g hu).1
      omega)
    have HRES := hide (HCH.out D hmem hpw)
    obtain ⟨R, hR⟩ : ∃ R, o1 ++ dr.greedy x D = R := ⟨_, rfl⟩
    have HR0 := hide hR
    rw [hR] at HRES
    have HM := hide hm
    clear hb hown hmem hpw hm hR hc2
    go_wp2_with fail
    go_loopw [6, 7, 26] (fun s nn i wr => ∃ (q k cs : Nat) (As : Option Addr) (x : Int) (o1 : List dr.Dr), i = .int .i64 q ∧ q ≤ m ∧ s = .slice As k cs ∧ nn = .int .i64 x ∧ k ≤ 1 + q ∧ Hid (k = o1.length) ∧ Hid (o1 ++ dr.greedy x (D.drop q) = R) ∧ Hid (wr.ownsRow w.heap.size 41 3 (.slice As k cs) k (dcs o1)) ∧ Hid (wr.ownsRow w.heap.size 41 3 (.slice A2 m c2) m (dcs D)) ∧ Hid (Apart (.slice As k cs) (.slice A2 m c2)) ∧ Hid (Le w wr)) (fun _ _ i _ => m - (intOf i).toNat)
    case atStart => exact ⟨0, k, cs, As, x, o1, rfl, Nat.zero_le _, rfl, rfl, by omega, HK, hide HR0.out, HO2, HD2, HAP, hide (HL2.out.trans HLw2.out)⟩
    case round =>
      clear HO2 HD2 HAP HK HCH HO HR0 hk1
      obtain ⟨q, k, cs, As, x, o1, rfl, hq, rfl, rfl, hk1, HK, HR0, HO, HOD, HAP, HB⟩ := hrel
      by_cases hqm : q < m
      · obtain ⟨⟨uk, uf, ut⟩, hu⟩ : ∃ u, D[q]? = some u := ⟨_, List.getElem?_eq_getElem (by rw [HM.out]; exact hqm)⟩
        obtain ⟨bA, oA, rfl, hbA, r0, r1, r2⟩ := row_dr (Row.of_own HOD.out) hu
        simp only at r0 r1 r2
        have hgr := greedy_drop (x := x) hu
        have hqI : (q : Int) < m := by omega
        obtain ⟨p1, hp1⟩ : ∃ b, decide (x < uf) = b := ⟨_, rfl⟩
        have HGR2 := hide (show dr.greedy x (D.drop q) = if p1 then ⟨uk, uf, ut⟩ :: dr.greedy ut (D.drop (q + 1)) else dr.greedy x (D.drop (q + 1)) by
          rw [hgr, ← hp1]
          simp)
        clear hu hgr
        go_upto_region 10 with fail
        obtain ⟨X, hX, bX, hlX⟩ := dbox wr ⟨uk, uf, ut⟩ 41
        simp only at hX bX
        rw [hX]
        have BX := hide bX
        have HLX := hide hlX
        have HOX := hide (own_below HO.out hlX)
        have HDX := hide (own_below HOD.out hlX)
        have HBX2 := hide (HB.out.trans hlX)
        have hzr := hlX.size
        have e0 := bX.cell 0 (.int .i64 uk) rfl
        have e1 := bX.cell 1 (.int .i64 uf) rfl
        have e2 := bX.cell 2 (.int .i64 ut) rfl
        clear hX bX hlX r0 r1 r2
        cases p1
        · go_wp2_with fail
          exact ⟨⟨q + 1, k, cs, As, x, o1, by go_num, by omega, rfl, rfl, by omega, HK, hide (by rw [← HR0.out, HGR2.out]; rfl), HOX, HDX, HAP, HBX2⟩, by simp [intOf]; omega⟩
        · go_upto_region 11 with fail
          obtain ⟨V, hV⟩ : ∃ V, X.drew = V := ⟨_, rfl⟩
          have BV := hide (show Box V wr.heap.size #[.int .i64 uk, .int .i64 uf, .int .i64 ut] 41 by rw [← hV]; exact BX.out.drew)
          have HOV := hide (show V.ownsRow w.heap.size 41 3 (.slice As k cs) k (dcs o1) by rw [← hV]; exact own_below HOX.out (Below.refl _ _).drew)
          have HDV := hide (show V.ownsRow w.heap.size 41 3 (.slice (some ⟨bA, oA, none⟩) m c2) m (dcs D) by rw [← hV]; exact own_below HDX.out (Below.refl _ _).drew)
          have HBV := hide (show Le w V by rw [← hV]; exact HBX2.out.drew)
          have HV := hide hV
          obtain ⟨SS, hSS⟩ : ∃ SS : World → Prop, SS = fun W => Box W wr.heap.size #[.int .i64 uk, .int .i64 uf, .int .i64 ut] 41 := ⟨_, rfl⟩
          have k0 : ∀ W, SS W → W.cell? ⟨wr.heap.size, 0, none⟩ = some (.int .i64 uk) := fun W h => by rw [hSS] at h; exact Box.cell h 0 _ rfl
          have k1 : ∀ W, SS W → W.cell? ⟨wr.heap.size, 1, none⟩ = some (.int .i64 uf) := fun W h => by rw [hSS] at h; exact Box.cell h 1 _ rfl
          have k2 : ∀ W, SS W → W.cell? ⟨wr.heap.size, 2, none⟩ = some (.int .i64 ut) := fun W h => by rw [hSS] at h; exact Box.cell h 2 _ rfl
          have HSS := hide hSS
          have hzV := HBV.out.size
          have hbV := BV.out.lt
          have hneb : ∀ g, (Value.slice As k cs).ownBlock = some g → wr.heap.size ≠ g := fun g hg => by
            have := (HO.out.lt g hg).2
            omega
          have HNE := hide hneb
          clear hV hSS e0 e1 e2 hneb
          refine region_pis SS [(0, true), (1, true), (4, true), (5, true), (2, false), (3, false), (6, true), (7, true)] (by kernel_rfl) (by kernel_rfl) ?_ ?_
          · rw [HV.out, HSS.out]
            exact BV.out
          simp only [opsPi, List.filterMap_cons, List.filterMap_nil, List.getElem?_toArray, List.getElem?_cons_zero, List.getElem?_cons_succ, Option.map_some]
          rw [HV.out]
          repeat (first | (refine pis_take (v := _) rfl (fun W hW => by go_simp <;> exact rfl) ?_; simp only [Act.put, List.setIfInBounds_toArray, List.set_cons_zero, List.set_cons_succ]) | (refine pis_skip rfl ?_; simp only [Act.put, List.setIfInBounds_toArray, List.set_cons_zero, List.set_cons_succ]))
          refine pis_take (v := .agg #[.int .i64 uk, .int .i64 uf, .int .i64 ut]) rfl (fun W' hW' => ?_) ?_
          · have q0 := k0 W' hW'
            have q1 := k1 W' hW'
            have q2 := k2 W' hW'
            clear k0 k1 k2
            go_simp
          simp only [Act.put, List.setIfInBounds_toArray, List.set_cons_zero, List.set_cons_succ]
          repeat (first | (refine pis_take (v := _) rfl (fun W hW => by go_simp <;> exact rfl) ?_; simp only [Act.put, List.setIfInBounds_toArray, List.set_cons_zero, List.set_cons_succ]) | (refine pis_skip rfl ?_; simp only [Act.put, List.setIfInBounds_toArray, List.set_cons_zero, List.set_cons_succ]))
          refine pis_take (v := .int .i64 ut) rfl (fun W' hW' => ?_) ?_
          · have q2 := k2 W' hW'
            clear k0 k1 k2
            go_simp
          simp only [Act.put, List.setIfInBounds_toArray, List.set_cons_zero, List.set_cons_succ]
          clear k0 k1 k2
          refine pis_run ?_
          go_wp2_with fail
          refine ⟨by rw [HSS.out]; exact BV.out.alloc _, ?_⟩
          refine pis_run ?_
          go_wp2_with (at_builtin; refine wpList_append_row _ rfl (.tmp 34) (.tmp 36) 35 rfl w.heap.size 41 infoD Try.underlying35 rfl (by omega) (.slice As k cs) k _ rfl (HOV.out.alloc _) _ (some ⟨V.heap.size, 0, none⟩) 1 1 (dcs [⟨uk, uf, ut⟩]) rfl rfl (row_new V #[.int .i64 uk, .int .i64 uf, .int .i64 ut] _ (0, 0)) dcs_one (by simp only [maxLen]; omega) (by omega) (by simp; omega) ?_; intro v' w' hown' hg hat; obtain ⟨A3, c3, rfl, -, -⟩ := own_form hown'; have HO' := hide hown'; have HGR := hide hg; have HAT := hide hat; clear hown' hg hat)
          refine ⟨by rw [HSS.out]; exact (BV.out.alloc _).grown HGR.out HNE.out, ?_⟩
          repeat (first | (refine pis_take (v := _) rfl (fun W hW => by go_simp <;> exact rfl) ?_; simp only [Act.put, List.setIfInBounds_toArray, List.set_cons_zero, List.set_cons_succ]) | (refine pis_skip rfl ?_; simp only [Act.put, List.setIfInBounds_toArray, List.set_cons_zero, List.set_cons_succ]))
          refine pis_done ?_
          have HB' := hide (show Le w w' from Below.trans HBV.out (Below.trans ((Below.refl _ _).alloc hzV _) (below_own HGR.out (Nat.le_refl _) (by simp; omega) (fun g h => own_ge HOV.out h (Nat.le_refl _)))))
          have HD' := hide (Apart.kept (HDV.out.alloc _) HAP.out HGR.out)
          have HAP' := hide (Apart.grown (HDV.out.alloc _) HAP.out HAT.out)
          go_wp2_with fail
          exact ⟨⟨q + 1, k + 1, c3, A3, ut, o1 ++ [⟨uk, uf, ut⟩], by go_num, by omega, rfl, rfl, by omega, hide (by simp [HK.out]), hide (by rw [← HR0.out, HGR2.out]; simp), hide (by rw [dcs_append]; exact HO'.out), HD', HAP', HB'⟩, by simp [intOf]; omega⟩
      · obtain rfl : q = m := by omega
        have HFIN := hide (show R = o1 by
          rw [← HR0.out, List.drop_of_length_le (by rw [HM.out]; exact Nat.le_refl _)]
          unfold dr.greedy
          rw [List.append_nil])
        have hlen : k ≤ 1001 := by omega
        go_wp2_with fail
        go_ret
        exact ⟨As, k, cs, o1, rfl, by rw [← HFIN.out]; exact HRES.out, HK.out.symm, hlen, HO.out, HB.out⟩
#print axioms chosen_any
end Go.Proofs.Ytnihladjafnjpaa
