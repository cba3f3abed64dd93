/-
  Whether nodes may be a predicate, by the program: walked (written by mk_vwx.py).
-/
import Derived.Test.YtjedpjfmlaganaaDoorPrI
namespace Go.Proofs.YtjedpjfmlaganaaDoor
set_option maxRecDepth 100000
open Go.RowKit
set_option linter.unusedVariables false

set_option maxRecDepth 100000 in
set_option maxHeartbeats 8000000 in
theorem pmay_any (w : World) (A' : Option Addr) (m c' : Nat) (cols : List va.Col) (hl' : cols.length = m) (hm : m ≤ 9223372036854775807) (hr' : Row w w.heap.size A' (ccs cols))
    (A : Option Addr) (n c : Nat) (l : List pr.Nd) (hl : l.length = n) (hn : n ≤ 9223372036854775807) (hr : Row w w.heap.size A (ncs l)) (hh : ∀ n ∈ l, Has w w.heap.size n) (hwf : ∀ n ∈ l, WfN n) (hT : Tabs8 w) :
    Calls Tryd.prog 16 #[.slice A' m c', .slice A n c] w fun e w' => e = .returned (.bool (pr.mayP cols l)) ∧ Below w.heap.size w w' := by
  have HL := hide hl
  have HR := hide hr
  have HH := hide hh
  have HWF := hide hwf
  have HL' := hide hl'
  have HR' := hide hr'
  have HT := hide hT
  obtain ⟨R, hR⟩ : ∃ R, pr.mayP cols l = R := ⟨_, rfl⟩
  rw [hR]
  obtain ⟨ans, hans⟩ : ∃ a, pr.mayGo cols 0 [] l = a := ⟨_, rfl⟩
  have HA := hide (show pr.mayGo cols 0 [] (l.drop 0) = ans by rw [List.drop_zero]; exact hans)
  have HV := hide (show R = (decide (1 ≤ n ∧ n ≤ 40) && ans) by rw [← hR]; unfold pr.mayP; rw [hl, hans])
  clear hl hr hh hwf hl' hr' hR hans hT
  go_enter Tryd.func16, Tryd.ntmps16
  by_cases h1 : n < 1
  · have d1 : decide ((n : Int) < 1) = true := decide_eq_true (by omega)
    have HF := hide (show R = false by rw [HV.out, decide_eq_false (by omega)]; rfl)
    go_wp2_with fail
    go_ret
    rw [HF.out]
    exact ⟨rfl, Below.refl _ _⟩
  · have d1 : decide ((n : Int) < 1) = false := decide_eq_false (by omega)
    by_cases h2 : 40 < n
    · have d2 : decide (40 < (n : Int)) = true := decide_eq_true (by omega)
      have HF := hide (show R = false by rw [HV.out, decide_eq_false (by omega)]; rfl)
      go_wp2_with fail
      go_ret
      rw [HF.out]
      exact ⟨rfl, Below.refl _ _⟩
    · have d2 : decide (40 < (n : Int)) = false := decide_eq_false (by omega)
      have HVR := hide (show R = ans by rw [HV.out, decide_eq_true (by omega)]; rfl)
      clear HV
      go_wp2_with fail
      clear d1 d2
      go_loopw [5, 21] (fun s i wr => ∃ (j cs : Nat) (As : Option Addr) (ds : List Int), i = .int .i64 j ∧ j ≤ n ∧ s = .slice As j cs ∧ Hid (Six ds) ∧ Hid (wr.ownsRow w.heap.size 3 1 (.slice As j cs) j (ints ds)) ∧ Hid (pr.mayGo cols j ds (l.drop j) = ans) ∧ Hid (Le w wr)) (fun _ i _ => n - (intOf i).toNat)
      case atStart => exact ⟨0, 0, none, [], rfl, Nat.zero_le _, rfl, hide (by intro x hx; cases hx), hide (World.ownsRow_nil _ _ _ _), HA, hide (Below.refl _ _)⟩
      case round =>
        obtain ⟨j, cs, As, ds, rfl, hj, rfl, H6, HO, HG, HB⟩ := hrel
        have hzB := HB.out.size
        by_cases hjn : j < n
        · obtain ⟨nd, hnd⟩ : ∃ nd, l[j]? = some nd := ⟨_, List.getElem?_eq_getElem (by rw [HL.out]; exact hjn)⟩
          obtain ⟨bA, oA, rfl, hbA, -, hcl⟩ := row_nd HR.out hnd
          have HND := hide (((HH.out nd (List.mem_of_getElem? hnd)).on HB.out (Nat.le_refl _)).more HB.out.size)
          have HWN := hide (HWF.out nd (List.mem_of_getElem? hnd))
          have HSTEP := hide (show (pr.nodeOk cols j ds nd && pr.mayGo cols (j + 1) (ds ++ [pr.depth ds nd + 1]) (l.drop (j + 1))) = ans by rw [← pr.mayGo_step hnd]; exact HG.out)
          have HBAD := hide (show pr.nodeOk cols j ds nd = false → R = false from fun h => by rw [HVR.out, ← HSTEP.out, h]; rfl)
          have HGOOD := hide (show pr.nodeOk cols j ds nd = true → pr.mayGo cols (j + 1) (ds ++ [pr.depth ds nd + 1]) (l.drop (j + 1)) = ans from fun h => by rw [← HSTEP.out, h]; rfl)
          have hcw : ∀ (i : Nat) u, nd.cells[i]? = some u → wr.cell? ⟨bA, oA + j * 7 + i, none⟩ = some u := fun i u hu => (HB.out.cell (p := ⟨bA, oA + j * 7 + i, none⟩) hbA).trans (hcl i u hu)
          have c0 := hcw 0 _ rfl
          have c1 := hcw 1 _ rfl
          have c2 := hcw 2 _ rfl
          have c3 := hcw 3 _ rfl
          have c4 := hcw 4 _ rfl
          have c5 := hcw 5 _ rfl
          have c6 := hcw 6 _ rfl
          rw [Nat.add_zero] at c0
          obtain ⟨X, hX, bX, hbX⟩ := nd_box2 wr #[.int .i64 0, .int .i64 0, .bool false, .int .i64 0, .string ⟨#[]⟩, .slice none 0 0, .slice none 0 0] 45 nd
          have HXX := hide hX
          have BN := hide bX
          have HLX := hide (show Le w X from HB.out.trans hbX)
          have HOX := hide (own_below HO.out hbX)
          have HNX := hide ((HND.out.on hbX (Nat.le_refl _)).more hbX.size)
          have hnj : (j : Int) < n := by omega
          have hlen : ds.length = j := by have := HO.out.1; simp [ints] at this; omega
          have HLEN := hide hlen
          have hone := nd_one nd
          obtain ⟨nok, hnok⟩ : ∃ q, pr.nodeOk cols j ds nd = q := ⟨_, rfl⟩
          have hnk : nok = ((if pr.isN nd.op then pr.linkOk j nd else pr.leafOk cols nd) && decide (pr.depth ds nd + 1 ≤ 6)) := by rw [← hnok]; rfl
          have HNK := hide hnk
          obtain ⟨dp, hdp⟩ : ∃ d, pr.depth ds nd = d := ⟨_, rfl⟩
          have HDP := hide hdp
          rw [hnok] at HBAD HGOOD
          rw [hdp] at HGOOD HNK
          clear hnd hcl hcw hX bX hbX HG HSTEP hlen hnok hnk hdp
          obtain ⟨op, col, ⟨un, ui, us⟩, vA, vn, vc, vals, lA, ln, lc, L⟩ := nd
          simp only [pr.Nd.cells] at c0 c1 c2 c3 c4 c5 c6 HXX BN hone HNK
          go_upto_region 7 with (refine wpList_store_row rfl 45 _ _ rfl wr.heap.size _ rfl rfl 45 _ (box_new _ _ _) (by kernel_rfl) rfl hone ?_)
          rw [HXX.out]
          clear c0 c1 c2 c3 c4 c5 c6 hone
          have c0 := BN.out.cell 0 (.int .i64 op) rfl
          have c1 := BN.out.cell 1 (.int .i64 col) rfl
          have c2 := BN.out.cell 2 (.bool un) rfl
          have c3 := BN.out.cell 3 (.int .i64 ui) rfl
          have c4 := BN.out.cell 4 (.string us) rfl
          have c5 := BN.out.cell 5 (.slice vA vn vc) rfl
          have c6 := BN.out.cell 6 (.slice lA ln lc) rfl
          have hlnb : ln ≤ 9223372036854775807 := HNX.out.2.2.2.2.1
          have hvnb : vn ≤ 9223372036854775807 := HNX.out.2.1
          have HLN := hide (show L.length = ln from HNX.out.2.2.2.1)
          have HRL := hide (show Row X X.heap.size lA (L.map (Value.int .i64)) from HNX.out.2.2.2.2.2.1)
          have HVN := hide (show vals.length = vn from HNX.out.1)
          have HRV := hide (show Row X X.heap.size vA (vcs vals) from HNX.out.2.2.1)
          have HUS := hide (show us.size ≤ 9223372036854775807 from HNX.out.2.2.2.2.2.2.1)
          have HVS := hide (show ∀ v ∈ vals, v.s.size ≤ 9223372036854775807 from HNX.out.2.2.2.2.2.2.2.1)
          obtain ⟨q, hq⟩ : ∃ q, pr.isN op = q := ⟨_, rfl⟩
          rw [hq] at HNK
          have hnm := hide (fun (W : World) => hq ▸ names_any W op)
          go_wp2_with fail
          refine (hnm.out X).mono ?_
          rintro e w' ⟨rfl, rfl⟩
          cases q
          · have hd0 : dp = 0 := by
              rw [← HDP.out]
              unfold pr.depth
              simp only
              rw [hq]; rfl
            subst hd0
            obtain ⟨lv, hlv⟩ : ∃ b, pr.leafOk cols ⟨op, col, ⟨un, ui, us⟩, vA, vn, vc, vals, lA, ln, lc, L⟩ = b := ⟨_, rfl⟩
            have HNOK := hide (show nok = lv by
              rw [HNK.out]
              simp [hlv])
            have hlf := hide (hlv ▸ leaf_any X A' m c' cols HL'.out hm ((HLX.out.row HR'.out (Nat.le_refl _)).more HLX.out.size) ⟨op, col, ⟨un, ui, us⟩, vA, vn, vc, vals, lA, ln, lc, L⟩ HNX.out HWN.out (HT.out.le HLX.out))
            have HGOOD2 := HGOOD
            simp only [Int.zero_add] at HGOOD2
            clear HNK HDP hq hlv HGOOD
            have HGOOD := HGOOD2
            clear HGOOD2
            go_wp2_with fail
            refine hlf.out.mono ?_
            rintro e w1 ⟨rfl, hb⟩
            have HL1 := hide (show Le w w1 from HLX.out.trans hb)
            have HO1 := hide (own_below HOX.out hb)
            clear hb c0 c1 c2 c3 c4 c5 c6
            cases lv
            · have HF := hide (HBAD.out HNOK.out)
              go_wp2_with fail
              go_ret
              rw [HF.out]
              exact ⟨rfl, HL1.out⟩
            · have hz1 := HL1.out.size
              have HG1 := hide (HGOOD.out HNOK.out)
              have H61 := hide (six_snoc H6.out (x := 1) (by omega))
              go_wp2_with (at_builtin; refine wpList_append_row _ rfl (.tmp 75) (.tmp 77) 24 rfl w.heap.size 3 infoI Tryd.underlying24 rfl (by omega) (.slice As j cs) j _ rfl (HO1.out.alloc _) _ (some ⟨w1.heap.size, 0, none⟩) 1 1 [.int .i64 1] rfl rfl (row_new w1 #[.int .i64 1] _ (0, 0)) (one_int _ _) (by simp only [maxLen]; omega) (by omega) (by simp; omega) ?_; intro v' w' hown' hg hat; obtain ⟨A1, c1, rfl, -, -⟩ := own_form hown'; have HO' := hide hown'; have HG := hide hg; clear hown' hg hat)
              have HB' := hide (show Below w.heap.size w w' from Below.trans (HL1.out.alloc hz1 _) (below_own HG.out (Nat.le_refl _) (by simp; omega) (fun g h => own_ge HO1.out h (Nat.le_refl _))))
              exact ⟨⟨j + 1, c1, A1, ds ++ [1], by go_num, by omega, rfl, H61, hide (by rw [ints_snoc]; exact HO'.out), HG1, HB'⟩, by simp [intOf]; omega⟩
          · obtain ⟨e3, he3⟩ : ∃ d, decide (op = 3) = d := ⟨_, rfl⟩
            have f3 : (op == 3) = e3 := by rw [← he3]; rfl
            obtain ⟨lk, hlk⟩ : ∃ b, pr.linksOk j L = b := ⟨_, rfl⟩
            have HNK2 := hide (show nok = ((decide (1 ≤ ln) && (!(e3 && decide (1 < ln)) && lk)) && decide (dp + 1 ≤ 6)) by
              rw [HNK.out]
              simp only [if_true, pr.linkOk]
              rw [HLN.out, he3, hlk])
            have HD0 := hide (show pr.deep ds 0 (L.drop 0) = dp by
              rw [← HDP.out, List.drop_zero]
              unfold pr.depth
              simp only
              rw [hq]; rfl)
            have HLK0 := hide (show pr.linksOk j (L.drop 0) = lk by rw [List.drop_zero]; exact hlk)
            clear HNK HDP hq hlk he3
            by_cases hl1 : ln = 0
            · have g1 : ((ln : Int) == 0) = true := by simp [hl1]
              have HF := hide (HBAD.out (by rw [HNK2.out, decide_eq_false (show ¬ 1 ≤ ln by omega)]; rfl))
              go_wp2_with fail
              go_ret
              rw [HF.out]
              exact ⟨rfl, HLX.out⟩
            · have g1 : ((ln : Int) == 0) = false := by simp; omega
              obtain ⟨g2, hg2⟩ : ∃ g, decide (1 < ln) = g := ⟨_, rfl⟩
              have g2' : decide (1 < (ln : Int)) = g2 := by rw [← hg2, decide_eq_decide]; omega
              rw [hg2, decide_eq_true (show 1 ≤ ln by omega)] at HNK2
              clear hg2
              go_upto_region 18 with fail
              go_cut [57] (fun s57 wx => s57 = .bool (e3 && g2) ∧ wx = X)
              case first =>
                cases e3
                · go_wp2_with fail
                  go_meet
                  exact ⟨rfl, rfl⟩
                · go_wp2_with fail
                  go_meet
                  exact ⟨rfl, rfl⟩
              case rest =>
                obtain ⟨rfl, rfl⟩ := hcut
                obtain ⟨b3, hb3⟩ : ∃ b, (e3 && g2) = b := ⟨_, rfl⟩
                rw [hb3] at HNK2 ⊢
                clear hb3 f3 g2' g1
                cases b3
                · go_wp2_with fail
                  clear c0 c1 c2 c3 c4 c5 c6
                  go_loopw [8, 29] (fun x i wx => ∃ (k : Nat) (d : Int), i = .int .i64 k ∧ k ≤ ln ∧ x = .int .i64 (d + 1) ∧ 0 ≤ d ∧ d ≤ 6 ∧ Hid (pr.linksOk j (L.drop k) = lk) ∧ Hid (pr.deep ds d (L.drop k) = dp) ∧ Hid (Le wc wx)) (fun _ i _ => ln - (intOf i).toNat)
                  case atStart => exact ⟨0, 0, rfl, Nat.zero_le _, rfl, by omega, by omega, HLK0, HD0, hide (Below.refl _ _)⟩
                  case round =>
                    obtain ⟨k, d, rfl, hk, rfl, hd0, hd6, HKL, HKD, HLX2⟩ := hrel
                    by_cases hkl : k < ln
                    · obtain ⟨y2, hy2⟩ : ∃ y2, L[k]? = some y2 := ⟨_, List.getElem?_eq_getElem (by rw [HLN.out]; exact hkl)⟩
                      have hrk : (L.map (Value.int .i64))[k]? = some (.int .i64 y2) := by rw [List.getElem?_map, hy2]; rfl
                      obtain ⟨bM, oM, rfl, hbM, cm⟩ := HRL.out.at_ hrk
                      have hkl' : (k : Int) < (ln : Int) := by omega
                      have e0 : wr.cell? ⟨bM, oM + k, none⟩ = some (.int .i64 y2) := (HLX2.out.cell (p := ⟨bM, oM + k, none⟩) hbM).trans cm
                      have hks := links_step (i := j) hy2
                      rw [HKL.out] at hks
                      by_cases hyb : 0 ≤ y2 ∧ y2 < j
                      · obtain ⟨b2, rfl⟩ : ∃ b : Nat, y2 = b := ⟨y2.toNat, by omega⟩
                        have hb2 : (b2 : Int) < j := hyb.2
                        have hb20 : (0 : Int) ≤ (b2 : Int) := hyb.1
                        obtain ⟨z2, hz2⟩ : ∃ z, ds[b2]? = some z := ⟨_, List.getElem?_eq_getElem (by rw [HLEN.out]; omega)⟩
                        have hzat : pr.at' ds (b2 : Int) = z2 := by
                          unfold pr.at'
                          rw [show ((b2 : Int)).toNat = b2 by omega, List.getD_eq_getElem?_getD, hz2]; rfl
                        have hz6 := H6.out z2 (List.mem_of_getElem? hz2)
                        have HKL2 := hide (show pr.linksOk j (L.drop (k + 1)) = lk by
                          rw [hks, decide_eq_true hyb]; rfl)
                        have HKD2 := hide (show pr.deep ds (max d z2) (L.drop (k + 1)) = dp by
                          have h := HKD.out
                          rw [deep_step hy2, hzat] at h
                          exact h)
                        obtain ⟨bP, oP, rfl, hbP, cp⟩ := (Row.of_own HOX.out).at_ (ints_at hz2)
                        have e1 : wr.cell? ⟨bP, oP + b2, none⟩ = some (.int .i64 z2) := (HLX2.out.cell (p := ⟨bP, oP + b2, none⟩) hbP).trans cp
                        clear cm cp hz2 hzat hrk hy2 hyb hks HKL HKD
                        have s1 : decide ((b2 : Int) < 0) = false := decide_eq_false (by omega)
                        have s2 : decide ((j : Int) ≤ (b2 : Int)) = false := decide_eq_false (by omega)
                        have hw2 : IntKind.i64.wrap (z2 + 1) = z2 + 1 := by rw [IntKind.wrap_i64]; omega
                        obtain ⟨mx, hmx⟩ : ∃ x, max d z2 = x := ⟨_, rfl⟩
                        obtain ⟨m1, hm1⟩ : ∃ x, max (d + 1) (z2 + 1) = x := ⟨_, rfl⟩
                        have hmm : m1 = mx + 1 := by omega
                        have hm0 : 0 ≤ mx ∧ mx ≤ 6 := by omega
                        have hm0a := hm0.1
                        have hm0b := hm0.2
                        clear hm0
                        rw [hmx] at HKD2
                        have HMM := hide hmm
                        clear hmx hmm
                        go_wp2_with fail
                        exact ⟨⟨k + 1, mx, by go_num, by omega, by first | rw [HMM.out] | rw [hm1, HMM.out], hm0a, hm0b, HKL2, HKD2, HLX2⟩, by simp [intOf]; omega⟩
                      · have hlkf : lk = false := by rw [hks, decide_eq_false hyb]; rfl
                        have HF := hide (HBAD.out (by rw [HNK2.out, hlkf]; rfl))
                        have HL1 := hide (show Le w wr from HLX.out.trans HLX2.out)
                        clear cm hrk hy2 hks HKL HKD
                        by_cases hy0 : y2 < 0
                        · have s1 : decide (y2 < 0) = true := decide_eq_true hy0
                          go_wp2_with fail
                          go_ret
                          rw [HF.out]
                          exact ⟨rfl, HL1.out⟩
                        · have s1 : decide (y2 < 0) = false := decide_eq_false hy0
                          have s2 : decide ((j : Int) ≤ y2) = true := decide_eq_true (by omega)
                          go_wp2_with fail
                          go_ret
                          rw [HF.out]
                          exact ⟨rfl, HL1.out⟩
                    · obtain rfl : k = ln := by omega
                      have hd : d = dp := by
                        have h := HKD.out
                        rw [List.drop_eq_nil_of_le (by rw [HLN.out]; exact Nat.le_refl _)] at h
                        exact h
                      have hlkt : lk = true := by
                        rw [← HKL.out, List.drop_eq_nil_of_le (by rw [HLN.out]; exact Nat.le_refl _)]; rfl
                      have HN6 := hide (show nok = decide (d + 1 ≤ 6) by rw [HNK2.out, hlkt, ← hd]; rfl)
                      rw [← hd] at HGOOD
                      have HO1 := hide (own_below HOX.out HLX2.out)
                      have HL1 := hide (show Le w wr from HLX.out.trans HLX2.out)
                      clear hd hlkt HKL HKD
                      have hz1 := HL1.out.size
                      obtain ⟨t6, ht6⟩ : ∃ t, decide (6 < (d + 1)) = t := ⟨_, rfl⟩
                      have HT6 := hide ht6
                      cases t6
                      · have hle : (d + 1) ≤ 6 := by simpa using ht6
                        have HG1 := hide (HGOOD.out (by rw [HN6.out]; exact decide_eq_true hle))
                        have H61 := hide (six_snoc H6.out (x := (d + 1)) (by omega))
                        go_wp2_with (at_builtin; refine wpList_append_row _ rfl (.tmp 75) (.tmp 77) 24 rfl w.heap.size 3 infoI Tryd.underlying24 rfl (by omega) (.slice As j cs) j _ rfl (HO1.out.alloc _) _ (some ⟨wr.heap.size, 0, none⟩) 1 1 [.int .i64 (d + 1)] rfl rfl (row_new wr #[.int .i64 (d + 1)] _ (0, 0)) (one_int _ _) (by simp only [maxLen]; omega) (by omega) (by simp; omega) ?_; intro v' w' hown' hg hat; obtain ⟨A1, c1, rfl, -, -⟩ := own_form hown'; have HO' := hide hown'; have HG := hide hg; clear hown' hg hat)
                        have HB' := hide (show Below w.heap.size w w' from Below.trans (HL1.out.alloc hz1 _) (below_own HG.out (Nat.le_refl _) (by simp; omega) (fun g h => own_ge HO1.out h (Nat.le_refl _))))
                        exact ⟨⟨j + 1, c1, A1, ds ++ [(d + 1)], by go_num, by omega, rfl, H61, hide (by rw [ints_snoc]; exact HO'.out), HG1, HB'⟩, by simp [intOf]; omega⟩
                      · have hgt : ¬ ((d + 1) ≤ 6) := by simpa using ht6
                        have HF := hide (HBAD.out (by rw [HN6.out]; exact decide_eq_false hgt))
                        go_wp2_with fail
                        go_ret
                        rw [HF.out]
                        exact ⟨rfl, HL1.out⟩
                · have HF := hide (HBAD.out (by rw [HNK2.out]; rfl))
                  go_wp2_with fail
                  go_ret
                  rw [HF.out]
                  exact ⟨rfl, HLX.out⟩
        · obtain rfl : j = n := by omega
          have ha : ans = true := by rw [← HG.out, List.drop_eq_nil_of_le (by rw [HL.out]; exact Nat.le_refl _)]; rfl
          have HF := hide (HVR.out.trans ha)
          clear ha
          go_wp2_with fail
          go_ret
          rw [HF.out]
          exact ⟨rfl, HB.out⟩
#print axioms pmay_any
end Go.Proofs.YtjedpjfmlaganaaDoor
