/-
  Whether nodes may be a predicate, by the document: walked (written by genPrE.py).
-/
import Derived.Test.YtjedpjfmlaganaaDoorPrD
namespace Go.Proofs.YtjedpjfmlaganaaDoor
set_option maxRecDepth 100000
open Go.RowKit
set_option linter.unusedVariables false

set_option maxRecDepth 100000 in
theorem refsome_any (w : World) (k : Int) (v : va.Val) (hs : v.s.size ≤ 9223372036854775807) (hT : Tabs8 w) : Calls Tryd.prog 33 #[.int .i64 k, .agg #[.bool v.nul, .int .i64 v.n, .string v.s]] w fun e w' => e = .returned (.bool (pr.someV k v)) ∧ Below w.heap.size w w' := by
  obtain ⟨W, hW, bx, hb⟩ := valbox w v 43
  have HB0 := hide hb
  have HW := hide hW
  have HX := hide bx
  obtain ⟨q, hq⟩ : ∃ q, va.mayV k v = q := ⟨_, rfl⟩
  have hm := hide (hq ▸ refvmay_any W k v hs (hT.le hb))
  have HR := hide (show pr.someV k v = (q && !v.nul) by unfold pr.someV; rw [hq])
  rw [HR.out]
  obtain ⟨vn, vi, vs⟩ := v
  simp only at HX HW hm ⊢
  clear hW bx hb hq HR
  go_enter Tryd.func33, Tryd.ntmps33
  go_upto_region 1 with fail
  rw [HW.out]
  have g0 := HX.out.cell 0 (.bool vn) rfl
  have g1 := HX.out.cell 1 (.int .i64 vi) rfl
  have g2 := HX.out.cell 2 (.string vs) rfl
  go_wp2_with fail
  refine hm.out.mono ?_
  rintro e w1 ⟨rfl, hb⟩
  have B1 := HX.out.below hb HX.out.lt
  have k0 := B1.cell 0 (.bool vn) rfl
  have HL := hide (HB0.out.trans hb)
  clear g0 g1 g2 hb B1
  cases q
  · go_wp2_with fail
    go_ret
    exact ⟨rfl, HL.out⟩
  · go_wp2_with fail
    go_ret
    exact ⟨rfl, HL.out⟩
#print axioms refsome_any

def Six (ds : List Int) : Prop := ∀ x ∈ ds, 0 ≤ x ∧ x ≤ 6
theorem six_snoc {ds : List Int} {x : Int} (h : Six ds) (hx : 0 ≤ x ∧ x ≤ 6) : Six (ds ++ [x]) := by
  intro y hy
  rcases List.mem_append.1 hy with hy | hy
  · exact h y hy
  · rw [List.mem_singleton.1 hy]; exact hx
theorem links_step {i k : Nat} {L : List Int} {y : Int} (h : L[k]? = some y) : pr.linksOk i (L.drop k) = (decide (0 ≤ y ∧ y < i) && pr.linksOk i (L.drop (k + 1))) := by
  rw [va.drop_step h]; rfl
theorem deep_step {ds L : List Int} {k : Nat} {y : Int} (h : L[k]? = some y) (d : Int) : pr.deep ds d (L.drop k) = pr.deep ds (max d (pr.at' ds y)) (L.drop (k + 1)) := by
  rw [va.drop_step h]; rfl
theorem allS_step {kd : Int} {l : List va.Val} {k : Nat} {u : va.Val} (h : l[k]? = some u) : (l.drop k).all (pr.someV kd) = (pr.someV kd u && (l.drop (k + 1)).all (pr.someV kd)) := by
  rw [va.drop_step h]; rfl
theorem kind_at {cols : List va.Col} {j : Nat} {c : va.Col} (h : cols[j]? = some c) : pr.kindAt cols (j : Int) = c.kind := by
  unfold pr.kindAt
  rw [show ((j : Int)).toNat = j by omega, List.getD_eq_getElem?_getD, h]; rfl

set_option maxRecDepth 100000 in
set_option maxHeartbeats 8000000 in
theorem refmay_any (w : World) (A' : Option Addr) (m c' : Nat) (cols : List va.Col) (hl' : cols.length = m) (hm : m ≤ 9223372036854775807) (hr' : Row w w.heap.size A' (ccs cols))
    (A : Option Addr) (n c : Nat) (l : List pr.Nd) (hl : l.length = n) (hn : n ≤ 9223372036854775807) (hr : Row w w.heap.size A (ncs l)) (hh : ∀ n ∈ l, Has w w.heap.size n) (hT : Tabs8 w) :
    Calls Tryd.prog 18 #[.slice A' m c', .slice A n c] w fun e w' => e = .returned (.bool (pr.mayP cols l)) ∧ Below w.heap.size w w' := by
  have HL := hide hl
  have HR := hide hr
  have HH := hide hh
  have HL' := hide hl'
  have HR' := hide hr'
  have HT := hide hT
  obtain ⟨R, hR⟩ : ∃ R, pr.mayP cols l = R := ⟨_, rfl⟩
  rw [hR]
  obtain ⟨ans, hans⟩ : ∃ a, pr.mayGo cols 0 [] l = a := ⟨_, rfl⟩
  have HA := hide (show pr.mayGo cols 0 [] (l.drop 0) = ans by rw [List.drop_zero]; exact hans)
  have HV := hide (show R = (decide (1 ≤ n ∧ n ≤ 40) && ans) by rw [← hR]; unfold pr.mayP; rw [hl, hans])
  clear hl hr hh hl' hr' hR hans hT
  go_enter Tryd.func18, Tryd.ntmps18
  by_cases h1 : n < 1
  · have d1 : decide ((n : Int) < 1) = true := decide_eq_true (by omega)
    have HF := hide (show R = false by rw [HV.out, decide_eq_false (by omega)]; rfl)
    go_wp2_with fail
    go_ret
    rw [HF.out]
    exact ⟨rfl, Below.refl _ _⟩
  · have d1 : decide ((n : Int) < 1) = false := decide_eq_false (by omega)
    by_cases h2 : 40 < n
    · have d2 : decide (40 < (n : Int)) = true := decide_eq_true (by omega)
      have HF := hide (show R = false by rw [HV.out, decide_eq_false (by omega)]; rfl)
      go_wp2_with fail
      go_ret
      rw [HF.out]
      exact ⟨rfl, Below.refl _ _⟩
    · have d2 : decide (40 < (n : Int)) = false := decide_eq_false (by omega)
      have HVR := hide (show R = ans by rw [HV.out, decide_eq_true (by omega)]; rfl)
      clear HV
      go_wp2_with fail
      clear d1 d2
      go_loopw [5, 6] (fun s i wr => ∃ (j cs : Nat) (As : Option Addr) (ds : List Int), i = .int .i64 j ∧ j ≤ n ∧ s = .slice As j cs ∧ Hid (Six ds) ∧ Hid (wr.ownsRow w.heap.size 3 1 (.slice As j cs) j (ints ds)) ∧ Hid (pr.mayGo cols j ds (l.drop j) = ans) ∧ Hid (Le w wr)) (fun _ i _ => n - (intOf i).toNat)
      case atStart => exact ⟨0, 0, _, [], rfl, Nat.zero_le _, rfl, hide (by intro x hx; cases hx), hide (World.ownsRow_lit _ #[] 0 (Nat.le_refl _) (by simp) rfl), HA, hide ((Below.refl _ _).alloc (Nat.le_refl _) _)⟩
      case round =>
        obtain ⟨j, cs, As, ds, rfl, hj, rfl, H6, HO, HG, HB⟩ := hrel
        have hzB := HB.out.size
        by_cases hjn : j < n
        · obtain ⟨nd, hnd⟩ : ∃ nd, l[j]? = some nd := ⟨_, List.getElem?_eq_getElem (by rw [HL.out]; exact hjn)⟩
          obtain ⟨bA, oA, rfl, hbA, -, hcl⟩ := row_nd HR.out hnd
          have HND := hide (((HH.out nd (List.mem_of_getElem? hnd)).on HB.out (Nat.le_refl _)).more HB.out.size)
          have HSTEP := hide (show (pr.nodeOk cols j ds nd && pr.mayGo cols (j + 1) (ds ++ [pr.depth ds nd + 1]) (l.drop (j + 1))) = ans by rw [← pr.mayGo_step hnd]; exact HG.out)
          have HBAD := hide (show pr.nodeOk cols j ds nd = false → R = false from fun h => by rw [HVR.out, ← HSTEP.out, h]; rfl)
          have HGOOD := hide (show pr.nodeOk cols j ds nd = true → pr.mayGo cols (j + 1) (ds ++ [pr.depth ds nd + 1]) (l.drop (j + 1)) = ans from fun h => by rw [← HSTEP.out, h]; rfl)
          have hcw : ∀ (i : Nat) u, nd.cells[i]? = some u → wr.cell? ⟨bA, oA + j * 7 + i, none⟩ = some u := fun i u hu => (HB.out.cell (p := ⟨bA, oA + j * 7 + i, none⟩) hbA).trans (hcl i u hu)
          have c0 := hcw 0 _ rfl
          have c1 := hcw 1 _ rfl
          have c2 := hcw 2 _ rfl
          have c3 := hcw 3 _ rfl
          have c4 := hcw 4 _ rfl
          have c5 := hcw 5 _ rfl
          have c6 := hcw 6 _ rfl
          rw [Nat.add_zero] at c0
          obtain ⟨X, hX, bX, hbX⟩ := nd_box2 wr #[.int .i64 0, .int .i64 0, .bool false, .int .i64 0, .string ⟨#[]⟩, .slice none 0 0, .slice none 0 0] 45 nd
          have HXX := hide hX
          have BN := hide bX
          have HLX := hide (show Le w X from HB.out.trans hbX)
          have HOX := hide (own_below HO.out hbX)
          have HNX := hide ((HND.out.on hbX (Nat.le_refl _)).more hbX.size)
          have hnj : (j : Int) < n := by omega
          have hlen : ds.length = j := by have := HO.out.1; simp [ints] at this; omega
          have HLEN := hide hlen
          have hone := nd_one nd
          obtain ⟨nok, hnok⟩ : ∃ q, pr.nodeOk cols j ds nd = q := ⟨_, rfl⟩
          have hnk : nok = ((if pr.isN nd.op then pr.linkOk j nd else pr.leafOk cols nd) && decide (pr.depth ds nd + 1 ≤ 6)) := by rw [← hnok]; rfl
          have HNK := hide hnk
          obtain ⟨dp, hdp⟩ : ∃ d, pr.depth ds nd = d := ⟨_, rfl⟩
          have HDP := hide hdp
          rw [hnok] at HBAD HGOOD
          rw [hdp] at HGOOD HNK
          clear hnd hcl hcw hX bX hbX HG HSTEP hlen hnok hnk hdp
          obtain ⟨op, col, ⟨un, ui, us⟩, vA, vn, vc, vals, lA, ln, lc, L⟩ := nd
          simp only [pr.Nd.cells] at c0 c1 c2 c3 c4 c5 c6 HXX BN hone HNK
          go_upto_region 8 with (refine wpList_store_row rfl 45 _ _ rfl wr.heap.size _ rfl rfl 45 _ (box_new _ _ _) (by kernel_rfl) rfl hone ?_)
          rw [HXX.out]
          clear c0 c1 c2 c3 c4 c5 c6 hone
          have c0 := BN.out.cell 0 (.int .i64 op) rfl
          have c1 := BN.out.cell 1 (.int .i64 col) rfl
          have c2 := BN.out.cell 2 (.bool un) rfl
          have c3 := BN.out.cell 3 (.int .i64 ui) rfl
          have c4 := BN.out.cell 4 (.string us) rfl
          have c5 := BN.out.cell 5 (.slice vA vn vc) rfl
          have c6 := BN.out.cell 6 (.slice lA ln lc) rfl
          have hlnb : ln ≤ 9223372036854775807 := HNX.out.2.2.2.2.1
          have hvnb : vn ≤ 9223372036854775807 := HNX.out.2.1
          have HLN := hide (show L.length = ln from HNX.out.2.2.2.1)
          have HRL := hide (show Row X X.heap.size lA (L.map (Value.int .i64)) from HNX.out.2.2.2.2.2.1)
          have HVN := hide (show vals.length = vn from HNX.out.1)
          have HRV := hide (show Row X X.heap.size vA (vcs vals) from HNX.out.2.2.1)
          have HUS := hide (show us.size ≤ 9223372036854775807 from HNX.out.2.2.2.2.2.2.1)
          have HVS := hide (show ∀ v ∈ vals, v.s.size ≤ 9223372036854775807 from HNX.out.2.2.2.2.2.2.2.1)
          obtain ⟨q, hq⟩ : ∃ q, pr.isN op = q := ⟨_, rfl⟩
          rw [hq] at HNK
          go_upto_region 9 with fail
          go_cut [44] (fun s44 wx => s44 = .bool q ∧ wx = X)
          case first =>
            obtain ⟨e1, he1⟩ : ∃ d, decide (op = 1) = d := ⟨_, rfl⟩
            obtain ⟨e2, he2⟩ : ∃ d, decide (op = 2) = d := ⟨_, rfl⟩
            obtain ⟨e3, he3⟩ : ∃ d, decide (op = 3) = d := ⟨_, rfl⟩
            have f1 : (op == 1) = e1 := by rw [← he1]; rfl
            have f2 : (op == 2) = e2 := by rw [← he2]; rfl
            have f3 : (op == 3) = e3 := by rw [← he3]; rfl
            have hqe : q = (e1 || (e2 || e3)) := by rw [← hq]; unfold pr.isN; rw [he1, he2, he3]
            subst hqe
            clear he1 he2 he3 hq
            cases e1 <;> cases e2
            all_goals
              go_wp2_with fail
              go_meet
              exact ⟨rfl, rfl⟩
          case rest =>
            obtain ⟨rfl, rfl⟩ := hcut
            cases q
            · have hd0 : dp = 0 := by
                rw [← HDP.out]
                unfold pr.depth
                simp only
                rw [hq]; rfl
              subst hd0
              have HNK2 := hide (show nok = pr.leafOk cols ⟨op, col, ⟨un, ui, us⟩, vA, vn, vc, vals, lA, ln, lc, L⟩ by
                rw [HNK.out]
                simp)
              have HGOOD2 := HGOOD
              simp only [Int.zero_add] at HGOOD2
              have HNON := hide hq
              clear HNK HDP hq HGOOD
              have HGOOD := HGOOD2
              clear HGOOD2
              obtain ⟨l4, hl4⟩ : ∃ d, decide (op < 4) = d := ⟨_, rfl⟩
              obtain ⟨g9, hg9⟩ : ∃ d, decide (9 < op) = d := ⟨_, rfl⟩
              obtain ⟨n9, hn9⟩ : ∃ d, (op != 9) = d := ⟨_, rfl⟩
              obtain ⟨l0, hl0⟩ : ∃ d, decide (col < 0) = d := ⟨_, rfl⟩
              obtain ⟨gm, hgm⟩ : ∃ d, decide ((m : Int) ≤ col) = d := ⟨_, rfl⟩
              have HBX := hide (show (l4 || (g9 || (n9 && (l0 || gm)))) = true → nok = false from fun h => by
                rw [HNK2.out]
                subst hl4
                subst hg9
                subst hn9
                subst hl0
                subst hgm
                unfold pr.leafOk
                simp only
                rw [HL'.out]
                simp only [Bool.or_eq_true, Bool.and_eq_true, decide_eq_true_eq, bne_iff_ne] at h
                by_cases hA : 4 ≤ op ∧ op ≤ 9
                · rw [decide_eq_true hA]
                  have h9 : ¬ op = 9 := by omega
                  have hc : ¬ (0 ≤ col ∧ col < (m : Int)) := by omega
                  rw [decide_eq_false h9, decide_eq_false hc]
                  rfl
                · rw [decide_eq_false hA]
                  rfl)
              have HOK := hide (show (l4 || (g9 || (n9 && (l0 || gm)))) = false → (4 ≤ op ∧ op ≤ 9) ∧ (op ≠ 9 → 0 ≤ col ∧ col < (m : Int)) from fun h => by
                subst hl4
                subst hg9
                subst hn9
                subst hl0
                subst hgm
                simp only [Bool.or_eq_false_iff, Bool.and_eq_false_iff, decide_eq_false_iff_not, bne_eq_false_iff_eq] at h
                omega)
              go_upto_region 18 with fail
              go_cut [116] (fun s116 wx => s116 = .bool (l4 || (g9 || (n9 && (l0 || gm)))) ∧ wx = wc)
              case first =>
                as_aux_lemma =>
                  cases l4
                  · cases g9
                    · cases n9
                      · go_wp2_with fail
                        go_meet
                        exact ⟨rfl, rfl⟩
                      · cases l0
                        · go_wp2_with fail
                          go_meet
                          exact ⟨rfl, rfl⟩
                        · go_wp2_with fail
                          go_meet
                          exact ⟨rfl, rfl⟩
                    · go_wp2_with fail
                      go_meet
                      exact ⟨rfl, rfl⟩
                  · go_wp2_with fail
                    go_meet
                    exact ⟨rfl, rfl⟩
              case rest =>
                obtain ⟨rfl, rfl⟩ := hcut
                obtain ⟨bd, hbd⟩ : ∃ b, (l4 || (g9 || (n9 && (l0 || gm)))) = b := ⟨_, rfl⟩
                rw [hbd] at HBX HOK ⊢
                clear hbd hl4 hg9 hn9 hl0 hgm
                cases bd
                · have hok := HOK.out rfl
                  clear HBX HOK
                  by_cases h9 : op = 9
                  · subst h9
                    have HNOK := hide (show nok = true by rw [HNK2.out]; rfl)
                    have HO1 := HOX
                    have HL1 := HLX
                    clear HNK2
                    have hz1 := HL1.out.size
                    have HG1 := hide (HGOOD.out (by rw [HNOK.out]))
                    have H61 := hide (six_snoc H6.out (x := 1) (by omega))
                    go_wp2_with (at_builtin; refine wpList_append_row _ rfl (.tmp 175) (.tmp 178) 24 rfl w.heap.size 3 infoI Tryd.underlying24 rfl (by omega) (.slice As j cs) j _ rfl (HO1.out.alloc _) _ (some ⟨wc.heap.size, 0, none⟩) 1 1 [.int .i64 1] rfl rfl (row_new wc #[.int .i64 1] _ (0, 0)) (one_int _ _) (by simp only [maxLen]; omega) (by omega) (by simp; omega) ?_; intro v' w' hown' hg hat; obtain ⟨A1, c1, rfl, -, -⟩ := own_form hown'; have HO' := hide hown'; have HG := hide hg; clear hown' hg hat)
                    have HB' := hide (show Below w.heap.size w w' from Below.trans (HL1.out.alloc hz1 _) (below_own HG.out (Nat.le_refl _) (by simp; omega) (fun g h => own_ge HO1.out h (Nat.le_refl _))))
                    exact ⟨⟨j + 1, c1, A1, ds ++ [1], by go_num, by omega, rfl, H61, hide (by rw [ints_snoc]; exact HO'.out), HG1, HB'⟩, by simp [intOf]; omega⟩
                  · have hcol := hok.2 h9
                    obtain ⟨cc, rfl⟩ : ∃ cc : Nat, col = cc := ⟨col.toNat, by omega⟩
                    have hcm : (cc : Int) < m := hcol.2
                    have hcm0 : (0 : Int) ≤ (cc : Int) := hcol.1
                    obtain ⟨cl, hcl⟩ : ∃ cl, cols[cc]? = some cl := ⟨_, List.getElem?_eq_getElem (by rw [HL'.out]; omega)⟩
                    obtain ⟨bC, oC, rfl, hbC, -, rk⟩ := row_at2 HR'.out hcl
                    have HKD := hide (kind_at hcl)
                    have HNK3 := hide (show nok = (decide (op = 8) || (if op = 7 then vals.all (pr.someV cl.kind) && decide (1 ≤ vn ∧ vn ≤ 10) else pr.someV cl.kind ⟨un, ui, us⟩)) by
                      rw [HNK2.out]
                      unfold pr.leafOk
                      simp only
                      rw [HL'.out, HKD.out, HVN.out, decide_eq_true hok.1, decide_eq_false h9, decide_eq_true hcol]
                      rfl)
                    have h48 : op = 4 ∨ op = 5 ∨ op = 6 ∨ op = 7 ∨ op = 8 := by omega
                    have HRK := hide rk
                    clear HNK2 hcl rk HKD hok hcol h9
                    rcases h48 with rfl | rfl | rfl | rfl | rfl
                    · as_aux_lemma =>
                        have HNK4 := hide (show nok = pr.someV cl.kind ⟨un, ui, us⟩ by rw [HNK3.out]; rfl)
                        obtain ⟨V, hV⟩ : ∃ V, wc.drew = V := ⟨_, rfl⟩
                        have HLV := hide (show Le w V by rw [← hV]; exact HLX.out.drew)
                        have HXV := hide (show Le wc V by rw [← hV]; exact (Below.refl _ _).drew)
                        have BNV := (BN.out.below HXV.out BN.out.lt)
                        have k1 := BNV.later 1 (.int .i64 cc) rfl
                        have k2 := BNV.later 2 (.bool un) rfl
                        have k3 := BNV.later 3 (.int .i64 ui) rfl
                        have k4 := BNV.later 4 (.string us) rfl
                        have e1 : ∀ W, Le V W → W.cell? ⟨bC, oC + cc * 2 + 1, none⟩ = some (.int .i64 cl.kind) := fun W h => ((HLV.out.trans h).cell (p := ⟨bC, oC + cc * 2 + 1, none⟩) hbC).trans HRK.out
                        have HV := hide hV
                        clear hV BNV HNK3 HRK
                        go_wp2_with fail
                        clear c1 c2 c3 c4 c5 c6
                        refine region_pi [(0, true), (1, true), (2, true), (3, true), (4, true), (5, true), (6, true), (7, true), (8, false), (9, true)] (by kernel_rfl) (by kernel_rfl) ?_
                        simp only [opsPi, List.filterMap_cons, List.filterMap_nil, List.getElem?_toArray, List.getElem?_cons_zero, List.getElem?_cons_succ, Option.map_some]
                        rw [HV.out]
                        repeat (first | (refine pi_take (v := _) rfl (fun W hW => by go_simp <;> exact rfl) ?_; simp only [Act.put, List.setIfInBounds_toArray, List.set_cons_zero, List.set_cons_succ]) | (refine pi_skip rfl ?_; simp only [Act.put, List.setIfInBounds_toArray, List.set_cons_zero, List.set_cons_succ]))
                        refine pi_run ?_
                        go_wp2_with fail
                        refine (refsome_any V cl.kind ⟨un, ui, us⟩ HUS.out (HT.out.le HLV.out)).mono ?_
                        rintro e V1 ⟨rfl, hb⟩
                        have HL1 := hide (show Le w V1 from HLV.out.trans hb)
                        have HX1 := hide (show Le wc V1 from HXV.out.trans hb)
                        obtain ⟨sv, hsv⟩ : ∃ b, pr.someV cl.kind ⟨un, ui, us⟩ = b := ⟨_, rfl⟩
                        rw [hsv] at HNK4 ⊢
                        clear hsv
                        go_wp2_with fail
                        refine ⟨hb, ?_⟩
                        clear hb k1 k2 k3 k4 e1 c0
                        repeat (first | (refine pi_take (v := _) rfl (fun W hW => by go_simp <;> exact rfl) ?_; simp only [Act.put, List.setIfInBounds_toArray, List.set_cons_zero, List.set_cons_succ]) | (refine pi_skip rfl ?_; simp only [Act.put, List.setIfInBounds_toArray, List.set_cons_zero, List.set_cons_succ]))
                        refine pi_done ?_
                        have c0 := (BN.out.below HX1.out BN.out.lt).cell 0 (.int .i64 4) rfl
                        cases sv
                        · have HF := hide (HBAD.out HNK4.out)
                          go_wp2_with fail
                          go_ret
                          rw [HF.out]
                          exact ⟨rfl, HL1.out⟩
                        · have HNOK := HNK4
                          have HO1 := hide (own_below HOX.out HX1.out)
                          have hz1 := HL1.out.size
                          have HG1 := hide (HGOOD.out (by rw [HNOK.out]))
                          have H61 := hide (six_snoc H6.out (x := 1) (by omega))
                          go_wp2_with (at_builtin; refine wpList_append_row _ rfl (.tmp 175) (.tmp 178) 24 rfl w.heap.size 3 infoI Tryd.underlying24 rfl (by omega) (.slice As j cs) j _ rfl (HO1.out.alloc _) _ (some ⟨V1.heap.size, 0, none⟩) 1 1 [.int .i64 1] rfl rfl (row_new V1 #[.int .i64 1] _ (0, 0)) (one_int _ _) (by simp only [maxLen]; omega) (by omega) (by simp; omega) ?_; intro v' w' hown' hg hat; obtain ⟨A1, c1, rfl, -, -⟩ := own_form hown'; have HO' := hide hown'; have HG := hide hg; clear hown' hg hat)
                          have HB' := hide (show Below w.heap.size w w' from Below.trans (HL1.out.alloc hz1 _) (below_own HG.out (Nat.le_refl _) (by simp; omega) (fun g h => own_ge HO1.out h (Nat.le_refl _))))
                          exact ⟨⟨j + 1, c1, A1, ds ++ [1], by go_num, by omega, rfl, H61, hide (by rw [ints_snoc]; exact HO'.out), HG1, HB'⟩, by simp [intOf]; omega⟩
                    · as_aux_lemma =>
                        have HNK4 := hide (show nok = pr.someV cl.kind ⟨un, ui, us⟩ by rw [HNK3.out]; rfl)
                        obtain ⟨V, hV⟩ : ∃ V, wc.drew = V := ⟨_, rfl⟩
                        have HLV := hide (show Le w V by rw [← hV]; exact HLX.out.drew)
                        have HXV := hide (show Le wc V by rw [← hV]; exact (Below.refl _ _).drew)
                        have BNV := (BN.out.below HXV.out BN.out.lt)
                        have k1 := BNV.later 1 (.int .i64 cc) rfl
                        have k2 := BNV.later 2 (.bool un) rfl
                        have k3 := BNV.later 3 (.int .i64 ui) rfl
                        have k4 := BNV.later 4 (.string us) rfl
                        have e1 : ∀ W, Le V W → W.cell? ⟨bC, oC + cc * 2 + 1, none⟩ = some (.int .i64 cl.kind) := fun W h => ((HLV.out.trans h).cell (p := ⟨bC, oC + cc * 2 + 1, none⟩) hbC).trans HRK.out
                        have HV := hide hV
                        clear hV BNV HNK3 HRK
                        go_wp2_with fail
                        clear c1 c2 c3 c4 c5 c6
                        refine region_pi [(0, true), (1, true), (2, true), (3, true), (4, true), (5, true), (6, true), (7, true), (8, false), (9, true)] (by kernel_rfl) (by kernel_rfl) ?_
                        simp only [opsPi, List.filterMap_cons, List.filterMap_nil, List.getElem?_toArray, List.getElem?_cons_zero, List.getElem?_cons_succ, Option.map_some]
                        rw [HV.out]
                        repeat (first | (refine pi_take (v := _) rfl (fun W hW => by go_simp <;> exact rfl) ?_; simp only [Act.put, List.setIfInBounds_toArray, List.set_cons_zero, List.set_cons_succ]) | (refine pi_skip rfl ?_; simp only [Act.put, List.setIfInBounds_toArray, List.set_cons_zero, List.set_cons_succ]))
                        refine pi_run ?_
                        go_wp2_with fail
                        refine (refsome_any V cl.kind ⟨un, ui, us⟩ HUS.out (HT.out.le HLV.out)).mono ?_
                        rintro e V1 ⟨rfl, hb⟩
                        have HL1 := hide (show Le w V1 from HLV.out.trans hb)
                        have HX1 := hide (show Le wc V1 from HXV.out.trans hb)
                        obtain ⟨sv, hsv⟩ : ∃ b, pr.someV cl.kind ⟨un, ui, us⟩ = b := ⟨_, rfl⟩
                        rw [hsv] at HNK4 ⊢
                        clear hsv
                        go_wp2_with fail
                        refine ⟨hb, ?_⟩
                        clear hb k1 k2 k3 k4 e1 c0
                        repeat (first | (refine pi_take (v := _) rfl (fun W hW => by go_simp <;> exact rfl) ?_; simp only [Act.put, List.setIfInBounds_toArray, List.set_cons_zero, List.set_cons_succ]) | (refine pi_skip rfl ?_; simp only [Act.put, List.setIfInBounds_toArray, List.set_cons_zero, List.set_cons_succ]))
                        refine pi_done ?_
                        have c0 := (BN.out.below HX1.out BN.out.lt).cell 0 (.int .i64 5) rfl
                        cases sv
                        · have HF := hide (HBAD.out HNK4.out)
                          go_wp2_with fail
                          go_ret
                          rw [HF.out]
                          exact ⟨rfl, HL1.out⟩
                        · have HNOK := HNK4
                          have HO1 := hide (own_below HOX.out HX1.out)
                          have hz1 := HL1.out.size
                          have HG1 := hide (HGOOD.out (by rw [HNOK.out]))
                          have H61 := hide (six_snoc H6.out (x := 1) (by omega))
                          go_wp2_with (at_builtin; refine wpList_append_row _ rfl (.tmp 175) (.tmp 178) 24 rfl w.heap.size 3 infoI Tryd.underlying24 rfl (by omega) (.slice As j cs) j _ rfl (HO1.out.alloc _) _ (some ⟨V1.heap.size, 0, none⟩) 1 1 [.int .i64 1] rfl rfl (row_new V1 #[.int .i64 1] _ (0, 0)) (one_int _ _) (by simp only [maxLen]; omega) (by omega) (by simp; omega) ?_; intro v' w' hown' hg hat; obtain ⟨A1, c1, rfl, -, -⟩ := own_form hown'; have HO' := hide hown'; have HG := hide hg; clear hown' hg hat)
                          have HB' := hide (show Below w.heap.size w w' from Below.trans (HL1.out.alloc hz1 _) (below_own HG.out (Nat.le_refl _) (by simp; omega) (fun g h => own_ge HO1.out h (Nat.le_refl _))))
                          exact ⟨⟨j + 1, c1, A1, ds ++ [1], by go_num, by omega, rfl, H61, hide (by rw [ints_snoc]; exact HO'.out), HG1, HB'⟩, by simp [intOf]; omega⟩
                    · as_aux_lemma =>
                        have HNK4 := hide (show nok = pr.someV cl.kind ⟨un, ui, us⟩ by rw [HNK3.out]; rfl)
                        obtain ⟨V, hV⟩ : ∃ V, wc.drew = V := ⟨_, rfl⟩
                        have HLV := hide (show Le w V by rw [← hV]; exact HLX.out.drew)
                        have HXV := hide (show Le wc V by rw [← hV]; exact (Below.refl _ _).drew)
                        have BNV := (BN.out.below HXV.out BN.out.lt)
                        have k1 := BNV.later 1 (.int .i64 cc) rfl
                        have k2 := BNV.later 2 (.bool un) rfl
                        have k3 := BNV.later 3 (.int .i64 ui) rfl
                        have k4 := BNV.later 4 (.string us) rfl
                        have e1 : ∀ W, Le V W → W.cell? ⟨bC, oC + cc * 2 + 1, none⟩ = some (.int .i64 cl.kind) := fun W h => ((HLV.out.trans h).cell (p := ⟨bC, oC + cc * 2 + 1, none⟩) hbC).trans HRK.out
                        have HV := hide hV
                        clear hV BNV HNK3 HRK
                        go_wp2_with fail
                        clear c1 c2 c3 c4 c5 c6
                        refine region_pi [(0, true), (1, true), (2, true), (3, true), (4, true), (5, true), (6, true), (7, true), (8, false), (9, true)] (by kernel_rfl) (by kernel_rfl) ?_
                        simp only [opsPi, List.filterMap_cons, List.filterMap_nil, List.getElem?_toArray, List.getElem?_cons_zero, List.getElem?_cons_succ, Option.map_some]
                        rw [HV.out]
                        repeat (first | (refine pi_take (v := _) rfl (fun W hW => by go_simp <;> exact rfl) ?_; simp only [Act.put, List.setIfInBounds_toArray, List.set_cons_zero, List.set_cons_succ]) | (refine pi_skip rfl ?_; simp only [Act.put, List.setIfInBounds_toArray, List.set_cons_zero, List.set_cons_succ]))
                        refine pi_run ?_
                        go_wp2_with fail
                        refine (refsome_any V cl.kind ⟨un, ui, us⟩ HUS.out (HT.out.le HLV.out)).mono ?_
                        rintro e V1 ⟨rfl, hb⟩
                        have HL1 := hide (show Le w V1 from HLV.out.trans hb)
                        have HX1 := hide (show Le wc V1 from HXV.out.trans hb)
                        obtain ⟨sv, hsv⟩ : ∃ b, pr.someV cl.kind ⟨un, ui, us⟩ = b := ⟨_, rfl⟩
                        rw [hsv] at HNK4 ⊢
                        clear hsv
                        go_wp2_with fail
                        refine ⟨hb, ?_⟩
                        clear hb k1 k2 k3 k4 e1 c0
                        repeat (first | (refine pi_take (v := _) rfl (fun W hW => by go_simp <;> exact rfl) ?_; simp only [Act.put, List.setIfInBounds_toArray, List.set_cons_zero, List.set_cons_succ]) | (refine pi_skip rfl ?_; simp only [Act.put, List.setIfInBounds_toArray, List.set_cons_zero, List.set_cons_succ]))
                        refine pi_done ?_
                        have c0 := (BN.out.below HX1.out BN.out.lt).cell 0 (.int .i64 6) rfl
                        cases sv
                        · have HF := hide (HBAD.out HNK4.out)
                          go_wp2_with fail
                          go_ret
                          rw [HF.out]
                          exact ⟨rfl, HL1.out⟩
                        · have HNOK := HNK4
                          have HO1 := hide (own_below HOX.out HX1.out)
                          have hz1 := HL1.out.size
                          have HG1 := hide (HGOOD.out (by rw [HNOK.out]))
                          have H61 := hide (six_snoc H6.out (x := 1) (by omega))
                          go_wp2_with (at_builtin; refine wpList_append_row _ rfl (.tmp 175) (.tmp 178) 24 rfl w.heap.size 3 infoI Tryd.underlying24 rfl (by omega) (.slice As j cs) j _ rfl (HO1.out.alloc _) _ (some ⟨V1.heap.size, 0, none⟩) 1 1 [.int .i64 1] rfl rfl (row_new V1 #[.int .i64 1] _ (0, 0)) (one_int _ _) (by simp only [maxLen]; omega) (by omega) (by simp; omega) ?_; intro v' w' hown' hg hat; obtain ⟨A1, c1, rfl, -, -⟩ := own_form hown'; have HO' := hide hown'; have HG := hide hg; clear hown' hg hat)
                          have HB' := hide (show Below w.heap.size w w' from Below.trans (HL1.out.alloc hz1 _) (below_own HG.out (Nat.le_refl _) (by simp; omega) (fun g h => own_ge HO1.out h (Nat.le_refl _))))
                          exact ⟨⟨j + 1, c1, A1, ds ++ [1], by go_num, by omega, rfl, H61, hide (by rw [ints_snoc]; exact HO'.out), HG1, HB'⟩, by simp [intOf]; omega⟩
                    · as_aux_lemma =>
                        obtain ⟨av, hav⟩ : ∃ b, vals.all (pr.someV cl.kind) = b := ⟨_, rfl⟩
                        have HNK7 := hide (show nok = (av && decide (1 ≤ vn ∧ vn ≤ 10)) by rw [HNK3.out, hav]; rfl)
                        have HAV0 := hide (show (vals.drop 0).all (pr.someV cl.kind) = av by rw [List.drop_zero]; exact hav)
                        clear HNK3 hav
                        go_wp2_with fail
                        clear c0 c1 c2 c3 c4 c5 c6
                        go_loopw [11] (fun i wx => ∃ k : Nat, i = .int .i64 k ∧ k ≤ vn ∧ Hid ((vals.drop k).all (pr.someV cl.kind) = av) ∧ Hid (Le wc wx)) (fun i _ => vn - (intOf i).toNat)
                        case atStart => exact ⟨0, rfl, Nat.zero_le _, HAV0, hide (Below.refl _ _)⟩
                        case round =>
                          obtain ⟨k, rfl, hk, HAV, HLX2⟩ := hrel
                          have c5 := (BN.out.below HLX2.out BN.out.lt).cell 5 (.slice vA vn vc) rfl
                          by_cases hkv : k < vn
                          · obtain ⟨u, hu⟩ : ∃ u, vals[k]? = some u := ⟨_, List.getElem?_eq_getElem (by rw [HVN.out]; exact hkv)⟩
                            obtain ⟨bB, oB, rfl, hbB, s0, s1, s2⟩ := row_at3 HRV.out hu
                            have HSZ := hide (HVS.out u (List.mem_of_getElem? hu))
                            have HAS := hide (show (pr.someV cl.kind u && (vals.drop (k + 1)).all (pr.someV cl.kind)) = av by rw [← allS_step hu]; exact HAV.out)
                            have hkv' : (k : Int) < vn := by omega
                            obtain ⟨V, hV⟩ : ∃ V, wr.drew = V := ⟨_, rfl⟩
                            have HXV := hide (show Le wc V by rw [← hV]; exact HLX2.out.drew)
                            have HLV := hide (show Le w V from HLX.out.trans HXV.out)
                            have BNV := (BN.out.below HXV.out BN.out.lt)
                            have k1 := BNV.later 1 (.int .i64 cc) rfl
                            have k5 := BNV.later 5 (.slice (some ⟨bB, oB, none⟩) vn vc) rfl
                            have e1 : ∀ W, Le V W → W.cell? ⟨bC, oC + cc * 2 + 1, none⟩ = some (.int .i64 cl.kind) := fun W h => ((HLV.out.trans h).cell (p := ⟨bC, oC + cc * 2 + 1, none⟩) hbC).trans HRK.out
                            have e2 : ∀ W, Le V W → W.cell? ⟨bB, oB + k * 3, none⟩ = some (.bool u.nul) := fun W h => ((HXV.out.trans h).cell (p := ⟨bB, oB + k * 3, none⟩) hbB).trans s0
                            have e3 : ∀ W, Le V W → W.cell? ⟨bB, oB + k * 3 + 1, none⟩ = some (.int .i64 u.n) := fun W h => ((HXV.out.trans h).cell (p := ⟨bB, oB + k * 3 + 1, none⟩) hbB).trans s1
                            have e4 : ∀ W, Le V W → W.cell? ⟨bB, oB + k * 3 + 2, none⟩ = some (.string u.s) := fun W h => ((HXV.out.trans h).cell (p := ⟨bB, oB + k * 3 + 2, none⟩) hbB).trans s2
                            have HV := hide hV
                            clear hV BNV s0 s1 s2 hu HAV
                            go_wp2_with fail
                            clear c5
                            refine region_pi [(0, true), (1, true), (2, true), (3, true), (4, true), (5, true), (6, true), (7, true), (8, true), (9, true), (10, true), (11, false), (12, true)] (by kernel_rfl) (by kernel_rfl) ?_
                            simp only [opsPi, List.filterMap_cons, List.filterMap_nil, List.getElem?_toArray, List.getElem?_cons_zero, List.getElem?_cons_succ, Option.map_some]
                            rw [HV.out]
                            repeat (first | (refine pi_take (v := _) rfl (fun W hW => by go_simp <;> exact rfl) ?_; simp only [Act.put, List.setIfInBounds_toArray, List.set_cons_zero, List.set_cons_succ]) | (refine pi_skip rfl ?_; simp only [Act.put, List.setIfInBounds_toArray, List.set_cons_zero, List.set_cons_succ]))
                            refine pi_run ?_
                            go_wp2_with fail
                            refine (refsome_any V cl.kind u HSZ.out (HT.out.le HLV.out)).mono ?_
                            rintro e V1 ⟨rfl, hb⟩
                            have HL1 := hide (show Le w V1 from HLV.out.trans hb)
                            have HX1 := hide (show Le wc V1 from HXV.out.trans hb)
                            obtain ⟨sv, hsv⟩ : ∃ b, pr.someV cl.kind u = b := ⟨_, rfl⟩
                            rw [hsv] at HAS ⊢
                            clear hsv
                            go_wp2_with fail
                            refine ⟨hb, ?_⟩
                            clear hb k1 k5 e1 e2 e3 e4
                            repeat (first | (refine pi_take (v := _) rfl (fun W hW => by go_simp <;> exact rfl) ?_; simp only [Act.put, List.setIfInBounds_toArray, List.set_cons_zero, List.set_cons_succ]) | (refine pi_skip rfl ?_; simp only [Act.put, List.setIfInBounds_toArray, List.set_cons_zero, List.set_cons_succ]))
                            refine pi_done ?_
                            cases sv
                            · have HF := hide (HBAD.out (by rw [HNK7.out, ← HAS.out]; rfl))
                              go_wp2_with fail
                              go_ret
                              rw [HF.out]
                              exact ⟨rfl, HL1.out⟩
                            · have HAS2 := hide (show (vals.drop (k + 1)).all (pr.someV cl.kind) = av by rw [← HAS.out]; rfl)
                              go_wp2_with fail
                              exact ⟨⟨k + 1, by go_num, by omega, HAS2, HX1⟩, by simp [intOf]; omega⟩
                          · obtain rfl : k = vn := by omega
                            have hat : av = true := by
                              rw [← HAV.out, List.drop_eq_nil_of_le (by rw [HVN.out]; exact Nat.le_refl _)]; rfl
                            have HNK8 := hide (show nok = decide (1 ≤ k ∧ k ≤ 10) by rw [HNK7.out, hat]; rfl)
                            have HL1 := hide (show Le w wr from HLX.out.trans HLX2.out)
                            have HO1 := hide (own_below HOX.out HLX2.out)
                            clear hat HAV HNK7
                            by_cases hk1 : k < 1
                            · have s1 : decide ((k : Int) < 1) = true := decide_eq_true (by omega)
                              have HF := hide (HBAD.out (by rw [HNK8.out]; exact decide_eq_false (by omega)))
                              go_wp2_with fail
                              go_ret
                              rw [HF.out]
                              exact ⟨rfl, HL1.out⟩
                            · have s1 : decide ((k : Int) < 1) = false := decide_eq_false (by omega)
                              by_cases hk2 : 10 < k
                              · have s2 : decide (10 < (k : Int)) = true := decide_eq_true (by omega)
                                have HF := hide (HBAD.out (by rw [HNK8.out]; exact decide_eq_false (by omega)))
                                go_wp2_with fail
                                go_ret
                                rw [HF.out]
                                exact ⟨rfl, HL1.out⟩
                              · have s2 : decide (10 < (k : Int)) = false := decide_eq_false (by omega)
                                have HNOK := hide (show nok = true by rw [HNK8.out]; exact decide_eq_true (by omega))
                                have hz1 := HL1.out.size
                                have HG1 := hide (HGOOD.out (by rw [HNOK.out]))
                                have H61 := hide (six_snoc H6.out (x := 1) (by omega))
                                go_wp2_with (at_builtin; refine wpList_append_row _ rfl (.tmp 175) (.tmp 178) 24 rfl w.heap.size 3 infoI Tryd.underlying24 rfl (by omega) (.slice As j cs) j _ rfl (HO1.out.alloc _) _ (some ⟨wr.heap.size, 0, none⟩) 1 1 [.int .i64 1] rfl rfl (row_new wr #[.int .i64 1] _ (0, 0)) (one_int _ _) (by simp only [maxLen]; omega) (by omega) (by simp; omega) ?_; intro v' w' hown' hg hat; obtain ⟨A1, c1, rfl, -, -⟩ := own_form hown'; have HO' := hide hown'; have HG := hide hg; clear hown' hg hat)
                                have HB' := hide (show Below w.heap.size w w' from Below.trans (HL1.out.alloc hz1 _) (below_own HG.out (Nat.le_refl _) (by simp; omega) (fun g h => own_ge HO1.out h (Nat.le_refl _))))
                                exact ⟨⟨j + 1, c1, A1, ds ++ [1], by go_num, by omega, rfl, H61, hide (by rw [ints_snoc]; exact HO'.out), HG1, HB'⟩, by simp [intOf]; omega⟩
                    · have HNOK := hide (show nok = true by rw [HNK3.out]; rfl)
                      have HO1 := HOX
                      have HL1 := HLX
                      have hz1 := HL1.out.size
                      have HG1 := hide (HGOOD.out (by rw [HNOK.out]))
                      have H61 := hide (six_snoc H6.out (x := 1) (by omega))
                      go_wp2_with (at_builtin; refine wpList_append_row _ rfl (.tmp 175) (.tmp 178) 24 rfl w.heap.size 3 infoI Tryd.underlying24 rfl (by omega) (.slice As j cs) j _ rfl (HO1.out.alloc _) _ (some ⟨wc.heap.size, 0, none⟩) 1 1 [.int .i64 1] rfl rfl (row_new wc #[.int .i64 1] _ (0, 0)) (one_int _ _) (by simp only [maxLen]; omega) (by omega) (by simp; omega) ?_; intro v' w' hown' hg hat; obtain ⟨A1, c1, rfl, -, -⟩ := own_form hown'; have HO' := hide hown'; have HG := hide hg; clear hown' hg hat)
                      have HB' := hide (show Below w.heap.size w w' from Below.trans (HL1.out.alloc hz1 _) (below_own HG.out (Nat.le_refl _) (by simp; omega) (fun g h => own_ge HO1.out h (Nat.le_refl _))))
                      exact ⟨⟨j + 1, c1, A1, ds ++ [1], by go_num, by omega, rfl, H61, hide (by rw [ints_snoc]; exact HO'.out), HG1, HB'⟩, by simp [intOf]; omega⟩
                · have HF := hide (HBAD.out (HBX.out rfl))
                  go_wp2_with fail
                  go_ret
                  rw [HF.out]
                  exact ⟨rfl, HLX.out⟩
            · have hN : op = 1 ∨ op = 2 ∨ op = 3 := by
                unfold pr.isN at hq
                simpa using hq
              have p4 : (op == 4) = false := by simp; omega
              have p5 : (op == 5) = false := by simp; omega
              have p6 : (op == 6) = false := by simp; omega
              have p7 : (op == 7) = false := by simp; omega
              obtain ⟨e3, he3⟩ : ∃ d, decide (op = 3) = d := ⟨_, rfl⟩
              have f3 : (op == 3) = e3 := by rw [← he3]; rfl
              obtain ⟨lk, hlk⟩ : ∃ b, pr.linksOk j L = b := ⟨_, rfl⟩
              have HNK2 := hide (show nok = ((decide (1 ≤ ln) && (!(e3 && decide (1 < ln)) && lk)) && decide (dp + 1 ≤ 6)) by
                rw [HNK.out]
                simp only [if_true, pr.linkOk]
                rw [HLN.out, he3, hlk])
              have HD0 := hide (show pr.deep ds 0 (L.drop 0) = dp by
                rw [← HDP.out, List.drop_zero]
                unfold pr.depth
                simp only
                rw [hq]; rfl)
              have HLK0 := hide (show pr.linksOk j (L.drop 0) = lk by rw [List.drop_zero]; exact hlk)
              clear HNK HDP hq hlk he3 hN
              by_cases hl1 : ln < 1
              · have g1 : decide ((ln : Int) < 1) = true := decide_eq_true (by omega)
                have HF := hide (HBAD.out (by rw [HNK2.out, decide_eq_false (show ¬ 1 ≤ ln by omega)]; rfl))
                go_wp2_with fail
                go_ret
                rw [HF.out]
                exact ⟨rfl, HLX.out⟩
              · have g1 : decide ((ln : Int) < 1) = false := decide_eq_false (by omega)
                obtain ⟨g2, hg2⟩ : ∃ g, decide (1 < ln) = g := ⟨_, rfl⟩
                have g2' : decide (1 < (ln : Int)) = g2 := by rw [← hg2, decide_eq_decide]; omega
                rw [hg2, decide_eq_true (show 1 ≤ ln by omega)] at HNK2
                clear hg2
                go_upto_region 10 with fail
                go_cut [59] (fun s59 wx => s59 = .bool (e3 && g2) ∧ wx = wc)
                case first =>
                  cases e3
                  · go_wp2_with fail
                    go_meet
                    exact ⟨rfl, rfl⟩
                  · go_wp2_with fail
                    go_meet
                    exact ⟨rfl, rfl⟩
                case rest =>
                  obtain ⟨rfl, rfl⟩ := hcut
                  obtain ⟨b3, hb3⟩ : ∃ b, (e3 && g2) = b := ⟨_, rfl⟩
                  rw [hb3] at HNK2 ⊢
                  clear hb3 f3 g2' g1
                  cases b3
                  · go_wp2_with fail
                    have hp : Hid ((op == 4) = false ∧ (op == 5) = false ∧ (op == 6) = false ∧ (op == 7) = false) := hide ⟨p4, p5, p6, p7⟩
                    clear c0 c1 c2 c3 c4 c5 c6 p4 p5 p6 p7
                    go_loopw [8, 9] (fun x i wx => ∃ (k : Nat) (d : Int), i = .int .i64 k ∧ k ≤ ln ∧ x = .int .i64 d ∧ 0 ≤ d ∧ d ≤ 6 ∧ Hid (pr.linksOk j (L.drop k) = lk) ∧ Hid (pr.deep ds d (L.drop k) = dp) ∧ Hid (Le wc wx)) (fun _ i _ => ln - (intOf i).toNat)
                    case atStart => exact ⟨0, 0, rfl, Nat.zero_le _, rfl, by omega, by omega, HLK0, HD0, hide (Below.refl _ _)⟩
                    case round =>
                      as_aux_lemma =>
                        obtain ⟨k, d, rfl, hk, rfl, hd0, hd6, HKL, HKD, HLX2⟩ := hrel
                        have c6 := (BN.out.below HLX2.out BN.out.lt).cell 6 (.slice lA ln lc) rfl
                        by_cases hkl : k < ln
                        · obtain ⟨y2, hy2⟩ : ∃ y2, L[k]? = some y2 := ⟨_, List.getElem?_eq_getElem (by rw [HLN.out]; exact hkl)⟩
                          have hrk : (L.map (Value.int .i64))[k]? = some (.int .i64 y2) := by rw [List.getElem?_map, hy2]; rfl
                          obtain ⟨bM, oM, rfl, hbM, cm⟩ := HRL.out.at_ hrk
                          have hkl' : (k : Int) < (ln : Int) := by omega
                          have e0 : wr.cell? ⟨bM, oM + k, none⟩ = some (.int .i64 y2) := (HLX2.out.cell (p := ⟨bM, oM + k, none⟩) hbM).trans cm
                          have hks := links_step (i := j) hy2
                          rw [HKL.out] at hks
                          by_cases hyb : 0 ≤ y2 ∧ y2 < j
                          · obtain ⟨b2, rfl⟩ : ∃ b : Nat, y2 = b := ⟨y2.toNat, by omega⟩
                            have hb2 : (b2 : Int) < j := hyb.2
                            have hb20 : (0 : Int) ≤ (b2 : Int) := hyb.1
                            obtain ⟨z2, hz2⟩ : ∃ z, ds[b2]? = some z := ⟨_, List.getElem?_eq_getElem (by rw [HLEN.out]; omega)⟩
                            have hzat : pr.at' ds (b2 : Int) = z2 := by
                              unfold pr.at'
                              rw [show ((b2 : Int)).toNat = b2 by omega, List.getD_eq_getElem?_getD, hz2]; rfl
                            have hz6 := H6.out z2 (List.mem_of_getElem? hz2)
                            have HKL2 := hide (show pr.linksOk j (L.drop (k + 1)) = lk by
                              rw [hks, decide_eq_true hyb]; rfl)
                            have HKD2 := hide (show pr.deep ds (max d z2) (L.drop (k + 1)) = dp by
                              have h := HKD.out
                              rw [deep_step hy2, hzat] at h
                              exact h)
                            obtain ⟨bP, oP, rfl, hbP, cp⟩ := (Row.of_own HOX.out).at_ (ints_at hz2)
                            have e1 : wr.cell? ⟨bP, oP + b2, none⟩ = some (.int .i64 z2) := (HLX2.out.cell (p := ⟨bP, oP + b2, none⟩) hbP).trans cp
                            clear cm cp hz2 hzat hrk hy2 hyb hks HKL HKD
                            have s1 : decide ((b2 : Int) < 0) = false := decide_eq_false (by omega)
                            have s2 : decide ((j : Int) ≤ (b2 : Int)) = false := decide_eq_false (by omega)
                            obtain ⟨mx, hmx⟩ : ∃ x, max d z2 = x := ⟨_, rfl⟩
                            have hm0 : 0 ≤ mx ∧ mx ≤ 6 := by omega
                            have hm0a := hm0.1
                            have hm0b := hm0.2
                            clear hm0
                            rw [hmx] at HKD2
                            go_wp2_with fail
                            exact ⟨⟨k + 1, mx, by go_num, by omega, by first | rfl | rw [hmx], hm0a, hm0b, HKL2, HKD2, HLX2⟩, by simp [intOf]; omega⟩
                          · have hlkf : lk = false := by rw [hks, decide_eq_false hyb]; rfl
                            have HF := hide (HBAD.out (by rw [HNK2.out, hlkf]; rfl))
                            have HL1 := hide (show Le w wr from HLX.out.trans HLX2.out)
                            clear cm hrk hy2 hks HKL HKD
                            by_cases hy0 : y2 < 0
                            · have s1 : decide (y2 < 0) = true := decide_eq_true hy0
                              go_wp2_with fail
                              go_ret
                              rw [HF.out]
                              exact ⟨rfl, HL1.out⟩
                            · have s1 : decide (y2 < 0) = false := decide_eq_false hy0
                              have s2 : decide ((j : Int) ≤ y2) = true := decide_eq_true (by omega)
                              go_wp2_with fail
                              go_ret
                              rw [HF.out]
                              exact ⟨rfl, HL1.out⟩
                        · obtain rfl : k = ln := by omega
                          have hd : d = dp := by
                            have h := HKD.out
                            rw [List.drop_eq_nil_of_le (by rw [HLN.out]; exact Nat.le_refl _)] at h
                            exact h
                          have hlkt : lk = true := by
                            rw [← HKL.out, List.drop_eq_nil_of_le (by rw [HLN.out]; exact Nat.le_refl _)]; rfl
                          have HN6 := hide (show nok = decide (d + 1 ≤ 6) by rw [HNK2.out, hlkt, ← hd]; rfl)
                          rw [← hd] at HGOOD
                          have HO1 := hide (own_below HOX.out HLX2.out)
                          have HL1 := hide (show Le w wr from HLX.out.trans HLX2.out)
                          have c0 := (BN.out.below HLX2.out BN.out.lt).cell 0 (.int .i64 op) rfl
                          obtain ⟨p4, p5, p6, p7⟩ := hp.out
                          clear hd hlkt HKL HKD
                          have hz1 := HL1.out.size
                          have hwd : IntKind.i64.wrap (d + 1) = d + 1 := by rw [IntKind.wrap_i64]; omega
                          obtain ⟨t6, ht6⟩ : ∃ t, decide (6 < d + 1) = t := ⟨_, rfl⟩
                          have HT6 := hide ht6
                          cases t6
                          · have hle : d + 1 ≤ 6 := by simpa using ht6
                            have HG1 := hide (HGOOD.out (by rw [HN6.out]; exact decide_eq_true hle))
                            have H61 := hide (six_snoc H6.out (x := d + 1) (by omega))
                            go_wp2_with (at_builtin; refine wpList_append_row _ rfl (.tmp 175) (.tmp 178) 24 rfl w.heap.size 3 infoI Tryd.underlying24 rfl (by omega) (.slice As j cs) j _ rfl (HO1.out.alloc _) _ (some ⟨wr.heap.size, 0, none⟩) 1 1 [.int .i64 (d + 1)] rfl rfl (row_new wr #[.int .i64 (d + 1)] _ (0, 0)) (one_int _ _) (by simp only [maxLen]; omega) (by omega) (by simp; omega) ?_; intro v' w' hown' hg hat; obtain ⟨A1, c1, rfl, -, -⟩ := own_form hown'; have HO' := hide hown'; have HG := hide hg; clear hown' hg hat)
                            have HB' := hide (show Below w.heap.size w w' from Below.trans (HL1.out.alloc hz1 _) (below_own HG.out (Nat.le_refl _) (by simp; omega) (fun g h => own_ge HO1.out h (Nat.le_refl _))))
                            exact ⟨⟨j + 1, c1, A1, ds ++ [d + 1], by go_num, by omega, rfl, H61, hide (by rw [ints_snoc]; exact HO'.out), HG1, HB'⟩, by simp [intOf]; omega⟩
                          · have hgt : ¬ (d + 1 ≤ 6) := by simpa using ht6
                            have HF := hide (HBAD.out (by rw [HN6.out]; exact decide_eq_false hgt))
                            go_wp2_with (at_builtin; refine wpList_append_row _ rfl (.tmp 175) (.tmp 178) 24 rfl w.heap.size 3 infoI Tryd.underlying24 rfl (by omega) (.slice As j cs) j _ rfl (HO1.out.alloc _) _ (some ⟨wr.heap.size, 0, none⟩) 1 1 [.int .i64 (d + 1)] rfl rfl (row_new wr #[.int .i64 (d + 1)] _ (0, 0)) (one_int _ _) (by simp only [maxLen]; omega) (by omega) (by simp; omega) ?_; intro v' w' hown' hg hat; obtain ⟨A1, c1, rfl, -, -⟩ := own_form hown'; have HO' := hide hown'; have HG := hide hg; clear hown' hg hat)
                            have HB' := hide (show Below w.heap.size w w' from Below.trans (HL1.out.alloc hz1 _) (below_own HG.out (Nat.le_refl _) (by simp; omega) (fun g h => own_ge HO1.out h (Nat.le_refl _))))
                            go_ret
                            rw [HF.out]
                            exact ⟨rfl, HB'.out⟩
                  · have HF := hide (HBAD.out (by rw [HNK2.out]; rfl))
                    go_wp2_with fail
                    go_ret
                    rw [HF.out]
                    exact ⟨rfl, HLX.out⟩
        · obtain rfl : j = n := by omega
          have ha : ans = true := by rw [← HG.out, List.drop_eq_nil_of_le (by rw [HL.out]; exact Nat.le_refl _)]; rfl
          have HF := hide (HVR.out.trans ha)
          clear ha
          go_wp2_with fail
          go_ret
          rw [HF.out]
          exact ⟨rfl, HB.out⟩
#print axioms refmay_any
end Go.Proofs.YtjedpjfmlaganaaDoor
