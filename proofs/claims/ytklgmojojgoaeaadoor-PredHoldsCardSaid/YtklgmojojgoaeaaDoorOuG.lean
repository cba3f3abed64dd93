/-
  What may come out of a predicate: by the document, walked (written by genOuG.py).
-/
import Derived.Test.YtklgmojojgoaeaaDoorOuF
import Derived.Test.YtklgmojojgoaeaaDoorOuN
namespace Go.Proofs.YtklgmojojgoaeaaDoor
open Go.RowKit
set_option linter.unusedVariables false

theorem infoT : (Tryd.prog.info? 48).map (fun i => (i.zero, i.size, i.bytes)) = some (some (.agg #[.bool false, .bool false, .bool false]), 3, 3) := by kernel_rfl
set_option maxRecDepth 100000 in
set_option maxHeartbeats 40000000 in
theorem refoutcomes_any (w : World) (A : Option Addr) (n c : Nat) (l : List pr.Nd) (A' : Option Addr) (m c' : Nat) (S : List st.St)
    (hl : l.length = n) (hn : 1 ≤ n ∧ n ≤ 1000) (hr : Row w w.heap.size A (ncs l)) (hh : ∀ n ∈ l, Has w w.heap.size n) (hl' : S.length = m) (hm : m ≤ 1000) (hr' : Row w w.heap.size A' (scs S))
    (hf : ∀ j n, l[j]? = some n → pr.Fine m j n) :
    Calls Tryd.prog 16 #[.slice A n c, .slice A' m c'] w
      fun e w' => e = .returned (.agg (ou.outV (fun n => ou.knownV n (S.getD n.col.toNat nst)) l).cells) ∧ Below w.heap.size w w' := by
  obtain ⟨W0, hW0⟩ : ∃ W, (w.alloc (.cells ou.zero.cells 48)).alloc (.cells #[] 48) = W := ⟨_, rfl⟩
  have HB8 := hide (show Box W0 w.heap.size ou.zero.cells 48 by rw [← hW0]; exact (box_new _ _ _).alloc _)
  have HLE0 := hide (show Le w W0 by rw [← hW0]; exact ((Below.refl _ _).alloc (Nat.le_refl _) _).alloc (by simp) _)
  have HOW := hide (show W0.ownsRow (w.heap.size + 1) 48 3 (.slice (some ⟨w.heap.size + 1, 0, none⟩) 0 0) 0 (tcs []) by
    have h := World.ownsRow_lit (base := w.heap.size + 1) (e := 48) (size := 3) (w.alloc (.cells ou.zero.cells 48)) #[] 0 (by simp) (by simp) rfl
    rw [hW0] at h
    have e : (w.alloc (.cells ou.zero.cells 48)).heap.size = w.heap.size + 1 := by simp
    rw [e] at h
    exact h)
  have HW0 := hide hW0
  have HL := hide hl
  have HR := hide hr
  have HH := hide hh
  have HL' := hide hl'
  have HR' := hide hr'
  have HF := hide hf
  obtain ⟨ks, hks⟩ : ∃ ks : pr.Nd → ou.T3, ks = fun n => ou.knownV n (S.getD n.col.toNat nst) := ⟨_, rfl⟩
  have HKS := hide (show ∀ n, ou.knownV n (S.getD n.col.toNat nst) = ks n from fun n => by rw [hks])
  rw [← hks]
  obtain ⟨ans, hans⟩ : ∃ a, ou.outGo ks [] l = a := ⟨_, rfl⟩
  have HA := hide (show ou.outGo ks [] (l.drop 0) = ans by rw [List.drop_zero]; exact hans)
  have HE := hide (show ou.outV ks l = ou.at3 ans ((n : Int) - 1) by unfold ou.outV; rw [hans, hl])
  rw [HE.out]
  simp only [ou.T3.cells, ou.zero] at HW0 HB8
  clear hl hr hh hl' hr' hf hans hks hW0
  go_enter Tryd.func16, Tryd.ntmps16
  go_upto_region 2 with fail
  rw [HW0.out]
  go_wp2_with fail
  go_loopw [5, 6] (fun s i wr => ∃ (j cs : Nat) (As : Option Addr) (out : List ou.T3), i = .int .i64 j ∧ j ≤ n ∧ s = .slice As j cs ∧ Hid (Box wr w.heap.size #[.bool false, .bool false, .bool false] 48) ∧ Hid (wr.ownsRow (w.heap.size + 1) 48 3 (.slice As j cs) j (tcs out)) ∧ Hid (ou.outGo ks out (l.drop j) = ans) ∧ Hid (Le w wr)) (fun _ i _ => n - (intOf i).toNat)
  case atStart => exact ⟨0, 0, _, [], rfl, Nat.zero_le _, rfl, HB8, HOW, HA, HLE0⟩
  case round =>
    obtain ⟨j, cs, As, out, rfl, hj, rfl, B8, HO, HG, HB⟩ := hrel
    have hzB := HB.out.size
    have hz8 := B8.out.lt
    by_cases hjn : j < n
    · obtain ⟨nd, hnd⟩ : ∃ nd, l[j]? = some nd := ⟨_, List.getElem?_eq_getElem (by rw [HL.out]; exact hjn)⟩
      obtain ⟨bA, oA, rfl, hbA, -, hcl⟩ := row_nd HR.out hnd
      have HFN := hide (HF.out j nd hnd)
      have HND := hide (((HH.out nd (List.mem_of_getElem? hnd)).on HB.out (Nat.le_refl _)).more HB.out.size)
      have HEV := hide (show ou.outGo ks (out ++ [ou.nodeO ks out nd]) (l.drop (j + 1)) = ans by rw [← ou.out_step hnd]; exact HG.out)
      have hcw : ∀ (i : Nat) u, nd.cells[i]? = some u → wr.cell? ⟨bA, oA + j * 7 + i, none⟩ = some u := fun i u hu => (HB.out.cell (p := ⟨bA, oA + j * 7 + i, none⟩) hbA).trans (hcl i u hu)
      have c0 := hcw 0 _ rfl
      have c1 := hcw 1 _ rfl
      have c2 := hcw 2 _ rfl
      have c3 := hcw 3 _ rfl
      have c4 := hcw 4 _ rfl
      have c5 := hcw 5 _ rfl
      have c6 := hcw 6 _ rfl
      rw [Nat.add_zero] at c0
      obtain ⟨X, hX, bX, hbX⟩ := nd_box2 wr #[.int .i64 0, .int .i64 0, .bool false, .int .i64 0, .string ⟨#[]⟩, .slice none 0 0, .slice none 0 0] 40 nd
      have HXX := hide hX
      have BN := hide bX
      have B4X := hide (B8.out.below hbX B8.out.lt)
      have HLX := hide (show Le w X from HB.out.trans hbX)
      have HOX := hide (own_below HO.out hbX)
      have HNX := hide ((HND.out.on hbX (Nat.le_refl _)).more hbX.size)
      have hnj : (j : Int) < n := by omega
      obtain ⟨val, hval⟩ : ∃ v, ou.nodeO ks out nd = v := ⟨_, rfl⟩
      have HVAL := hide hval
      rw [hval] at HEV
      have hone := nd_one nd
      clear hnd hcl hcw hX bX hbX HG hval
      have HKN := hide (HKS.out nd)
      obtain ⟨op, col, ⟨un, ui, us⟩, vA, vn, vc, vals, lA, ln, lc, L⟩ := nd
      simp only [pr.Nd.cells] at c0 c1 c2 c3 c4 c5 c6 HXX BN hone
      go_upto_region 6 with (refine wpList_store_row rfl 40 _ _ rfl wr.heap.size _ rfl rfl 40 _ (box_new _ _ _) (by kernel_rfl) rfl hone ?_)
      rw [HXX.out]
      clear c0 c1 c2 c3 c4 c5 c6
      obtain ⟨Y, hY, bY, hbY⟩ := t3_box2 X ou.zero 48
      simp only [ou.T3.cells, ou.zero] at hY bY
      have HYY := hide hY
      have BY := hide bY
      have HLY := hide (show Le X Y from hbY)
      have N1 := hide (BN.out.below hbY BN.out.lt)
      have hzX := BN.out.lt
      clear hY bY hbY
      go_upto_region 7 with (refine wpList_store_row rfl 48 _ _ rfl X.heap.size #[.bool false, .bool false, .bool false] rfl rfl 48 _ (box_new _ _ _) (by kernel_rfl) rfl (t3_one ou.zero) ?_)
      rw [HYY.out]
      have c0 := N1.out.cell 0 (.int .i64 op) rfl
      obtain ⟨q, hq⟩ : ∃ q, pr.isN op = q := ⟨_, rfl⟩
      cases q
      · clear c0
        have hq4 : 4 ≤ op ∧ op ≤ 9 ∧ (op ≠ 9 → 0 ≤ col ∧ col < m) := HFN.out.2 hq
        have hlv := HVAL.out
        rw [ou.node_leaf hq, ← HKN.out] at hlv
        have hn1 : (op == 1) = false := by simpa using (show ¬ op = 1 by omega)
        have hn2 : (op == 2) = false := by simpa using (show ¬ op = 2 by omega)
        have hn3 : (op == 3) = false := by simpa using (show ¬ op = 3 by omega)
        have c0 := N1.out.cell 0 (.int .i64 op) rfl
        have c1 := N1.out.cell 1 (.int .i64 col) rfl
        have c2 := N1.out.cell 2 (.bool un) rfl
        have c3 := N1.out.cell 3 (.int .i64 ui) rfl
        have c4 := N1.out.cell 4 (.string us) rfl
        have c5 := N1.out.cell 5 (.slice vA vn vc) rfl
        have c6 := N1.out.cell 6 (.slice lA ln lc) rfl
        go_wp2_with fail
        refine (refknown_any Y ⟨op, col, ⟨un, ui, us⟩, vA, vn, vc, vals, lA, ln, lc, L⟩ A' m c' S ⟨hq4.1, hq4.2.1⟩ hq4.2.2 HL'.out hm ((HNX.out.on HLY.out (Nat.le_refl _)).more HLY.out.size) (((HLX.out.trans HLY.out).row HR'.out (Nat.le_refl _)).more (HLX.out.trans HLY.out).size)).mono ?_
        rintro e w1 ⟨rfl, hb1⟩
        rw [hlv]
        have BY1 := hide (BY.out.below hb1 BY.out.lt)
        have HL1' := hide (show Le X w1 from HLY.out.trans hb1)
        clear hb1 hq4 hlv c0 c1 c2 c3 c4 c5 c6 hq HVAL
        obtain ⟨va', vb', vc'⟩ := val
        simp only [ou.T3.cells]
        obtain ⟨V8, hV8⟩ : ∃ Z, w1.setRow X.heap.size #[.bool va', .bool vb', .bool vc'] = Z := ⟨_, rfl⟩
        have BV8 := hide (show Box V8 X.heap.size #[.bool va', .bool vb', .bool vc'] _ by rw [← hV8]; exact setRow_heap _ _ _ _ _ _ BY1.out)
        have HLV8 := hide (show Le X V8 by rw [← hV8]; exact below_setRow HL1'.out (Nat.le_refl _) _)
        have HV8 := hide hV8
        clear hV8
        go_upto_region 30 with (refine wpList_store_row rfl 48 _ _ rfl X.heap.size #[.bool va', .bool vb', .bool vc'] rfl rfl 48 _ BY1.out (by kernel_rfl) rfl (t3_one ⟨va', vb', vc'⟩) ?_)
        rw [HV8.out]
        have q0 := BV8.out.cell 0 (.bool va') rfl
        have q1 := BV8.out.cell 1 (.bool vb') rfl
        have q2 := BV8.out.cell 2 (.bool vc') rfl
        have HO1 := hide (own_below HOX.out HLV8.out)
        have HL1 := hide (show Le w V8 from HLX.out.trans HLV8.out)
        have B81 := hide (B4X.out.below HLV8.out B4X.out.lt)
        have hz1 := HL1.out.size
        have hz81 := B81.out.lt
        go_wp2_with (at_builtin; refine wpList_append_row _ rfl (.tmp 106) (.tmp 108) 63 rfl (w.heap.size + 1) 48 infoT Tryd.underlying63 rfl (by omega) (.slice As j cs) j _ rfl (HO1.out.alloc _) _ (some ⟨V8.heap.size, 0, none⟩) 1 1 [.bool va', .bool vb', .bool vc'] rfl rfl (row_new V8 #[.bool va', .bool vb', .bool vc'] _ (0, 0)) (one_t3 ⟨va', vb', vc'⟩) (by simp only [maxLen]; omega) (by omega) (by simp; omega) ?_; intro v' w' hown' hg hat; obtain ⟨A1, c1, rfl, -, -⟩ := own_form hown'; have HO' := hide hown'; have HG := hide hg; clear hown' hg hat)
        have HBK := hide (show Below (w.heap.size + 1) V8 w' from Below.trans ((Below.refl _ _).alloc (by omega) _) (below_own HG.out (Nat.le_refl _) (by simp; omega) (fun g h => own_ge HO1.out h (Nat.le_refl _))))
        have HB' := hide (show Below w.heap.size w w' from Below.trans HL1.out (HBK.out.mono (by omega)))
        exact ⟨⟨j + 1, c1, A1, out ++ [⟨va', vb', vc'⟩], by go_num, by omega, rfl, hide (B81.out.below HBK.out (by omega)), hide (by rw [tcs_snoc]; exact HO'.out), HEV, HB'⟩, by simp [intOf]; omega⟩
      · have hq1 := HFN.out.1 hq
        obtain ⟨k0, t, hL⟩ : ∃ k0 t, L = k0 :: t := by
          cases L with
          | nil => simp at hq1
          | cons a t => exact ⟨a, t, rfl⟩
        have hLn : L.length = ln := HNX.out.2.2.2.1
        have hk0 := hq1.2.2 k0 (by rw [hL]; exact List.mem_cons_self)
        have hlen : out.length = j := by have := HO.out.1; rw [tcs_len] at this; omega
        obtain ⟨a0, rfl⟩ : ∃ a : Nat, k0 = a := ⟨k0.toNat, by omega⟩
        have ha0 : (a0 : Int) < j := hk0.2
        have ha00 : (0 : Int) ≤ (a0 : Int) := hk0.1
        obtain ⟨z, hz⟩ : ∃ z, out[a0]? = some z := ⟨_, List.getElem?_eq_getElem (by omega)⟩
        have hzat : ou.at3 out (a0 : Int) = z := ou.at3_at hz
        obtain ⟨bO, oO, rfl, hbO, co0, co1, co2⟩ := row_t3 (Row.of_own HOX.out) hz
        have hrl : Row X X.heap.size lA (L.map (Value.int .i64)) := HNX.out.2.2.2.2.2.1
        have hL0 : (L.map (Value.int .i64))[0]? = some (.int .i64 a0) := by rw [hL]; rfl
        obtain ⟨bL, oL, rfl, hbL, cl⟩ := hrl.at_ hL0
        clear hL0
        have HRL := hide hrl
        have hln1 : 1 ≤ ln := by rw [← hLn]; exact hq1.1
        have hln0 : (0 : Int) < ln := by omega
        rw [Nat.add_zero] at cl
        have HLN := hide hLn
        have HLEN := hide hlen
        have HALL := hide hq1.2.2
        clear hLn hlen hrl
        by_cases h3 : op = 3
        · skip
          subst h3
          have HFO := hide (show ou.notV z = val by
            have hv := HVAL.out
            have ht : L.drop 1 = [] := List.drop_eq_nil_of_le (hq1.2.1 rfl)
            rw [ou.node_names (k0 := (a0 : Int)) (t := t) hq hL, hzat] at hv
            simp only [if_true] at hv
            rw [ht] at hv
            exact hv)
          obtain ⟨za, zb, zc⟩ := z
          simp only at co0 co1 co2
          have hval : val = ⟨zc, zb, za⟩ := HFO.out.symm
          subst hval
          have e0 : Y.cell? ⟨bO, oO + a0 * 3, none⟩ = some (.bool za) := (HLY.out.cell (p := ⟨bO, oO + a0 * 3, none⟩) hbO).trans co0
          have e1 : Y.cell? ⟨bO, oO + a0 * 3 + 1, none⟩ = some (.bool zb) := (HLY.out.cell (p := ⟨bO, oO + a0 * 3 + 1, none⟩) hbO).trans co1
          have e2 : Y.cell? ⟨bO, oO + a0 * 3 + 2, none⟩ = some (.bool zc) := (HLY.out.cell (p := ⟨bO, oO + a0 * 3 + 2, none⟩) hbO).trans co2
          have e3 : Y.cell? ⟨bL, oL, none⟩ = some (.int .i64 a0) := (HLY.out.cell (p := ⟨bL, oL, none⟩) hbL).trans cl
          have c6 := N1.out.cell 6 (.slice (some ⟨bL, oL, none⟩) ln lc) rfl
          obtain ⟨Y1, hY1, bY1, hbY1⟩ := t3_box2 Y ⟨za, zb, zc⟩ 48
          simp only [ou.T3.cells, ou.zero] at hY1 bY1
          have HY1 := hide hY1
          have B14 := hide bY1
          have HLY1 := hide (show Le X Y1 from HLY.out.trans hbY1)
          have BY1 := hide (BY.out.below hbY1 BY.out.lt)
          clear hL hz hzat HVAL hq co0 co1 co2 cl hY1 bY1 hbY1 hk0 HFO hq1
          go_upto_region 29 with (refine wpList_store_row rfl 48 _ _ rfl Y.heap.size #[.bool za, .bool zb, .bool zc] rfl rfl 48 _ (box_new _ _ _) (by kernel_rfl) rfl (t3_one ⟨za, zb, zc⟩) ?_)
          rw [HY1.out]
          clear e0 e1 e2 e3 c6
          have q0 := B14.out.cell 0 (.bool za) rfl
          have q1 := B14.out.cell 1 (.bool zb) rfl
          have q2 := B14.out.cell 2 (.bool zc) rfl
          obtain ⟨V8, hV8⟩ : ∃ Z, Y1.setRow X.heap.size #[.bool zc, .bool zb, .bool za] = Z := ⟨_, rfl⟩
          have BV8 := hide (show Box V8 X.heap.size #[.bool zc, .bool zb, .bool za] _ by rw [← hV8]; exact setRow_heap _ _ _ _ _ _ BY1.out)
          have HLV8 := hide (show Le X V8 by rw [← hV8]; exact below_setRow HLY1.out (Nat.le_refl _) _)
          have HV8 := hide hV8
          clear hV8
          go_upto_region 30 with (refine wpList_store_row rfl 48 _ _ rfl X.heap.size #[.bool zc, .bool zb, .bool za] rfl rfl 48 _ BY1.out (by kernel_rfl) rfl (t3_one ⟨zc, zb, za⟩) ?_)
          rw [HV8.out]
          clear q0 q1 q2
          have q0 := BV8.out.cell 0 (.bool zc) rfl
          have q1 := BV8.out.cell 1 (.bool zb) rfl
          have q2 := BV8.out.cell 2 (.bool za) rfl
          have HO1 := hide (own_below HOX.out HLV8.out)
          have HL1 := hide (show Le w V8 from HLX.out.trans HLV8.out)
          have B81 := hide (B4X.out.below HLV8.out B4X.out.lt)
          have hz1 := HL1.out.size
          have hz81 := B81.out.lt
          go_wp2_with (at_builtin; refine wpList_append_row _ rfl (.tmp 106) (.tmp 108) 63 rfl (w.heap.size + 1) 48 infoT Tryd.underlying63 rfl (by omega) (.slice (some ⟨bO, oO, none⟩) j cs) j _ rfl (HO1.out.alloc _) _ (some ⟨V8.heap.size, 0, none⟩) 1 1 [.bool zc, .bool zb, .bool za] rfl rfl (row_new V8 #[.bool zc, .bool zb, .bool za] _ (0, 0)) (one_t3 ⟨zc, zb, za⟩) (by simp only [maxLen]; omega) (by omega) (by simp; omega) ?_; intro v' w' hown' hg hat; obtain ⟨A1, c1, rfl, -, -⟩ := own_form hown'; have HO' := hide hown'; have HG := hide hg; clear hown' hg hat)
          have HBK := hide (show Below (w.heap.size + 1) V8 w' from Below.trans ((Below.refl _ _).alloc (by omega) _) (below_own HG.out (Nat.le_refl _) (by simp; omega) (fun g h => own_ge HO1.out h (Nat.le_refl _))))
          have HB' := hide (show Below w.heap.size w w' from Below.trans HL1.out (HBK.out.mono (by omega)))
          exact ⟨⟨j + 1, c1, A1, out ++ [⟨zc, zb, za⟩], by go_num, by omega, rfl, hide (B81.out.below HBK.out (by omega)), hide (by rw [tcs_snoc]; exact HO'.out), HEV, HB'⟩, by simp [intOf]; omega⟩
        · clear hq1
          have h12 : op = 1 ∨ op = 2 := by
            have h := hq
            unfold pr.isN at h
            simp at h
            omega
          have HFO := hide (show ou.foldO op out (L.drop 1) z = val by
            have hv := HVAL.out
            rw [ou.node_names (k0 := (a0 : Int)) (t := t) hq hL, hzat] at hv
            rw [if_neg h3] at hv
            exact hv)
          obtain ⟨za, zb, zc⟩ := z
          simp only at co0 co1 co2
          have e0 : Y.cell? ⟨bO, oO + a0 * 3, none⟩ = some (.bool za) := (HLY.out.cell (p := ⟨bO, oO + a0 * 3, none⟩) hbO).trans co0
          have e1 : Y.cell? ⟨bO, oO + a0 * 3 + 1, none⟩ = some (.bool zb) := (HLY.out.cell (p := ⟨bO, oO + a0 * 3 + 1, none⟩) hbO).trans co1
          have e2 : Y.cell? ⟨bO, oO + a0 * 3 + 2, none⟩ = some (.bool zc) := (HLY.out.cell (p := ⟨bO, oO + a0 * 3 + 2, none⟩) hbO).trans co2
          have e3 : Y.cell? ⟨bL, oL, none⟩ = some (.int .i64 a0) := (HLY.out.cell (p := ⟨bL, oL, none⟩) hbL).trans cl
          have c6 := N1.out.cell 6 (.slice (some ⟨bL, oL, none⟩) ln lc) rfl
          obtain ⟨Y1, hY1⟩ : ∃ Z, Y.setRow X.heap.size #[.bool za, .bool zb, .bool zc] = Z := ⟨_, rfl⟩
          have BY1 := hide (show Box Y1 X.heap.size (ou.T3.cells ⟨za, zb, zc⟩) _ by rw [← hY1]; exact setRow_heap _ _ _ _ _ _ BY.out)
          have HLY1 := hide (show Le X Y1 by rw [← hY1]; exact below_setRow HLY.out (Nat.le_refl _) _)
          have HY1 := hide hY1
          clear hL hz hzat HVAL hq co0 co1 co2 cl hY1 hk0
          have h3' : (op == 3) = false := by simpa using h3
          obtain ⟨d1, hd1⟩ : ∃ d, (op == 1) = d := ⟨_, rfl⟩
          have HD1 := hide hd1
          go_upto_if 32 with fail
          go_cut [32] (fun s32 wx => s32 = .bool true ∧ Y = wx)
          case first =>
            cases d1
            · have hd2 : (op == 2) = true := by
                have : ¬ op = 1 := by simpa using hd1
                simpa using (show op = 2 by omega)
              go_wp2_with fail
              go_meet
              exact ⟨rfl, rfl⟩
            · go_wp2_with fail
              go_meet
              exact ⟨rfl, rfl⟩
          case rest =>
            obtain ⟨rfl, rfl⟩ := hcut
            go_upto_region 12 with (refine wpList_store_row rfl 48 _ _ rfl X.heap.size #[.bool za, .bool zb, .bool zc] rfl rfl 48 _ BY.out (by kernel_rfl) rfl (t3_one ⟨za, zb, zc⟩) ?_)
            rw [HY1.out]
            clear e0 e1 e2 e3 c6 hd1 BY HLY N1 HYY
            go_wp2_with fail
            go_loopw [9] (fun i wx => ∃ (k : Nat) (y : ou.T3), i = .int .i64 ((k : Int) + 1) ∧ k + 1 ≤ ln ∧ Hid (ou.foldO op out (L.drop (k + 1)) y = val) ∧ Hid (Box wx X.heap.size y.cells 48) ∧ Hid (Le X wx)) (fun i _ => ln + 1 - (intOf i).toNat)
            case atStart => exact ⟨0, ⟨za, zb, zc⟩, rfl, hln1, HFO, BY1, HLY1⟩
            case round =>
              obtain ⟨k, y, rfl, hk, HFY, BYr, HLr⟩ := hrel
              obtain ⟨wq, hwq⟩ : ∃ x, x = wr := ⟨_, rfl⟩
              subst hwq
              have Nr := hide (BN.out.below HLr.out BN.out.lt)
              have c6 := Nr.out.cell 6 (.slice (some ⟨bL, oL, none⟩) ln lc) rfl
              by_cases hkl : k + 1 < ln
              · obtain ⟨y2, hy2⟩ : ∃ y2, L[k + 1]? = some y2 := ⟨_, List.getElem?_eq_getElem (by rw [HLN.out]; exact hkl)⟩
                have hyb := HALL.out y2 (List.mem_of_getElem? hy2)
                obtain ⟨b2, rfl⟩ : ∃ b : Nat, y2 = b := ⟨y2.toNat, by omega⟩
                have hb2 : (b2 : Int) < j := hyb.2
                have hb20 : (0 : Int) ≤ (b2 : Int) := hyb.1
                obtain ⟨z2, hz2⟩ : ∃ z, out[b2]? = some z := ⟨_, List.getElem?_eq_getElem (by rw [HLEN.out]; omega)⟩
                have hzat2 : ou.at3 out (b2 : Int) = z2 := ou.at3_at hz2
                obtain ⟨R, hR⟩ : ∃ R, ou.joinV op y z2 = R := ⟨_, rfl⟩
                obtain ⟨P, hP⟩ : ∃ P : Nat → ou.T3, P = ou.pj op y z2 := ⟨_, rfl⟩
                have HP0 := hide (show P 0 = ou.zero by rw [hP]; rfl)
                have HP9 := hide (show P 9 = R by rw [hP]; exact hR)
                have HPS := hide (show ∀ i j, i < 3 → j < 3 → P (3 * i + j + 1) = ou.stepP op y z2 (P (3 * i + j)) i j from fun i j hi hj => by rw [hP]; exact pj_step op y z2 i j hi hj)
                have HFS := hide (show ou.foldO op out (L.drop (k + 1 + 1)) R = val by
                  have h := HFY.out
                  rw [ou.foldO_step hy2, hzat2, hR] at h
                  exact h)
                have hrk : (L.map (Value.int .i64))[k + 1]? = some (.int .i64 b2) := by rw [List.getElem?_map, hy2]; rfl
                obtain ⟨bM, oM, eM, hbM, cm⟩ := HRL.out.at_ hrk
                simp only [Option.some.injEq, Addr.mk.injEq, and_true] at eM
                obtain ⟨rfl, rfl⟩ := eM
                obtain ⟨bP, oP, eP, hbP, cp0, cp1, cp2⟩ := row_t3 (Row.of_own HOX.out) hz2
                simp only [Option.some.injEq, Addr.mk.injEq, and_true] at eP
                obtain ⟨rfl, rfl⟩ := eP
                have HCM := hide cm
                have HCP := hide (show ∀ b, b < 3 → X.cell? ⟨bO, oO + b2 * 3 + b, none⟩ = some (.bool (ou.get z2 b)) from fun b hb => by
                  have h3 : b = 0 ∨ b = 1 ∨ b = 2 := by omega
                  rcases h3 with rfl | rfl | rfl
                  · exact cp0
                  · exact cp1
                  · exact cp2)
                have hkl' : (k : Int) + 1 < (ln : Int) := by omega
                have hk0 : (0 : Int) ≤ (k : Int) + 1 := by omega
                have hlnb : ln ≤ 9223372036854775807 := HNX.out.2.2.2.2.1
                obtain ⟨Z0, hZ0, bZ0, hbZ0⟩ := t3_box2 wq ou.zero 48
                simp only [ou.T3.cells, ou.zero] at hZ0
                have HZ0 := hide hZ0
                have BZ := hide (show Box Z0 wq.heap.size (P (3 * 0)).cells 48 by rw [Nat.mul_zero, HP0.out]; exact bZ0)
                have HLZ0 := hide (show Le wq Z0 from hbZ0)
                have hzq := BYr.out.lt
                clear hR hP hy2 hyb hz2 hzat2 HFY hrk cm cp0 cp1 cp2 hZ0 bZ0 hbZ0
                go_upto_region 16 with (refine wpList_store_row rfl 48 _ _ rfl wq.heap.size #[.bool false, .bool false, .bool false] rfl rfl 48 _ (box_new _ _ _) (by kernel_rfl) rfl (t3_one ou.zero) ?_)
                rw [HZ0.out]
                clear c6
                go_wp2_with fail
                go_loopw [11] (fun i wx => ∃ a : Nat, i = .int .i64 a ∧ a ≤ 3 ∧ Hid (Box wx wq.heap.size (P (3 * a)).cells 48) ∧ Hid (Le wq wx)) (fun i _ => 3 - (intOf i).toNat)
                case atStart => exact ⟨0, rfl, by omega, BZ, HLZ0⟩
                case round =>
                  obtain ⟨a, rfl, ha, CP, HLa⟩ := hrel
                  by_cases ha3 : a < 3
                  · have HPK := hide (show ∀ j, j < 3 → P (3 * a + j + 1) = ou.stepP op y z2 (P (3 * a + j)) a j from fun j hj => HPS.out a j ha3 hj)
                    have HTL := hide (fun j hj => two_lt op a j ha3 hj)
                    have CP' := hide (show Box wr wq.heap.size (P (3 * a + 0)).cells 48 from CP.out)
                    clear CP
                    go_wp2_with fail
                    go_loopw [12] (fun i wx => ∃ b : Nat, i = .int .i64 b ∧ b ≤ 3 ∧ Hid (Box wx wq.heap.size (P (3 * a + b)).cells 48) ∧ Hid (Le wq wx)) (fun i _ => 3 - (intOf i).toNat)
                    case atStart => exact ⟨0, rfl, by omega, CP', HLa⟩
                    case round =>
                      obtain ⟨b, rfl, hb, DP, HLb⟩ := hrel
                      by_cases hb3 : b < 3
                      · have HLXb := hide (show Le X wr from HLr.out.trans HLb.out)
                        have Nb := hide (BN.out.below HLXb.out BN.out.lt)
                        have Yb := hide (BYr.out.below HLb.out BYr.out.lt)
                        obtain ⟨tt, htt⟩ : ∃ t, ou.two op a b = t := ⟨_, rfl⟩
                        have ht3 : tt < 3 := by rw [← htt]; exact HTL.out b hb3
                        have HTW := hide (show (if op = 1 then min (a : Int) (b : Int) else max (a : Int) (b : Int)) = ((tt : Nat) : Int) by rw [two_int, htt])
                        obtain ⟨o, ho⟩ : ∃ o, P (3 * a + b) = o := ⟨_, rfl⟩
                        obtain ⟨g, hg⟩ : ∃ g, ou.get o tt = g := ⟨_, rfl⟩
                        obtain ⟨xi, hxi⟩ : ∃ g, ou.get y a = g := ⟨_, rfl⟩
                        obtain ⟨zj, hzj⟩ : ∃ g, ou.get z2 b = g := ⟨_, rfl⟩
                        have HPN := hide (show P (3 * a + (b + 1)) = ou.set o tt (g || (xi && zj)) by
                          rw [← Nat.add_assoc, HPK.out b hb3]
                          unfold ou.stepP
                          rw [htt, ho, hg, hxi, hzj])
                        rw [ho] at DP
                        have g0 := Nb.out.cell 0 (.int .i64 op) rfl
                        have c6 := Nb.out.cell 6 (.slice (some ⟨bL, oL, none⟩) ln lc) rfl
                        have e0 : wr.cell? ⟨bL, oL + (k + 1), none⟩ = some (.int .i64 b2) := (HLXb.out.cell (p := ⟨bL, oL + (k + 1), none⟩) hbM).trans HCM.out
                        have e1 : wr.cell? ⟨bO, oO + b2 * 3 + b, none⟩ = some (.bool zj) := (HLXb.out.cell (p := ⟨bO, oO + b2 * 3 + b, none⟩) hbP).trans (by rw [HCP.out b hb3, hzj])
                        have x0 := t3_cell DP.out tt ht3
                        rw [hg] at x0
                        have f0 := DP.out.frozen tt
                        have x1 := t3_cell Yb.out a ha3
                        rw [hxi] at x1
                        have ht3i : (tt : Int) < 3 := by omega
                        have ht0i : (0 : Int) ≤ (tt : Int) := by omega
                        have ha3i : (a : Int) < 3 := by omega
                        have ha0i : (0 : Int) ≤ (a : Int) := by omega
                        have hb3i : (b : Int) < 3 := by omega
                        have hb0i : (0 : Int) ≤ (b : Int) := by omega
                        have hd1 := HD1.out
                        clear htt ho hg hxi hzj
                        go_upto_region 22 with fail
                        go_upto_if 63 with fail
                        go_cut [13] (fun s13 wx => s13 = .int .i64 (tt : Int) ∧ wr = wx)
                        case first =>
                          cases d1
                          · have h1 : ¬ op = 1 := by simpa using hd1
                            have htw := HTW.out
                            rw [if_neg h1] at htw
                            go_wp2_with fail
                            go_meet
                            exact ⟨by first | (rw [htw]; done) | (rw [← htw]; done) | (rw [← htw]; rfl), rfl⟩
                          · have h1 : op = 1 := by simpa using hd1
                            have htw := HTW.out
                            rw [if_pos h1] at htw
                            go_wp2_with fail
                            go_meet
                            exact ⟨by first | (rw [htw]; done) | (rw [← htw]; done) | (rw [← htw]; rfl), rfl⟩
                        case rest =>
                          obtain ⟨rfl, rfl⟩ := hcut
                          clear hd1
                          cases g <;> cases xi
                          all_goals
                            go_wp2_with fail
                            refine ⟨⟨b + 1, by go_num, by omega, hide ?_, hide (HLb.out.setCell (by simp; try omega) _)⟩, by simp [intOf]; omega⟩
                            rw [HPN.out]
                            exact t3_set DP.out tt ht3 _
                      · obtain rfl : b = 3 := by omega
                        go_wp2_with fail
                        exact ⟨⟨a + 1, by go_num, by omega, hide DP.out, HLb⟩, by simp [intOf]; omega⟩
                  · obtain rfl : a = 3 := by omega
                    have b3 := CP.out
                    rw [HP9.out] at b3
                    have B3 := hide b3
                    have Ya := hide (BYr.out.below HLa.out BYr.out.lt)
                    have HLXa := hide (show Le X wr from HLr.out.trans HLa.out)
                    obtain ⟨Ra, Rb, Rc⟩ := R
                    have q0 := b3.cell 0 (.bool Ra) rfl
                    have q1 := b3.cell 1 (.bool Rb) rfl
                    have q2 := b3.cell 2 (.bool Rc) rfl
                    obtain ⟨Z, hZ⟩ : ∃ Z, wr.setRow X.heap.size #[.bool Ra, .bool Rb, .bool Rc] = Z := ⟨_, rfl⟩
                    have BZ1 := hide (show Box Z X.heap.size (ou.T3.cells ⟨Ra, Rb, Rc⟩) _ by rw [← hZ]; exact setRow_heap _ _ _ _ _ _ Ya.out)
                    have HLZ1 := hide (show Le X Z by rw [← hZ]; exact below_setRow HLXa.out (Nat.le_refl _) _)
                    have HZ := hide hZ
                    clear b3 hZ
                    go_upto_region 14 with (refine wpList_store_row rfl 48 _ _ rfl X.heap.size #[.bool Ra, .bool Rb, .bool Rc] rfl rfl 48 _ Ya.out (by kernel_rfl) rfl (t3_one ⟨Ra, Rb, Rc⟩) ?_)
                    rw [HZ.out]
                    clear q0 q1 q2
                    go_wp2_with fail
                    exact ⟨⟨k + 1, ⟨Ra, Rb, Rc⟩, by go_num, by omega, HFS, BZ1, HLZ1⟩, by simp [intOf]; omega⟩
              · have hke : k + 1 = ln := by omega
                have hve : y = val := by
                  have h := HFY.out
                  rw [hke, List.drop_eq_nil_of_le (by rw [HLN.out]; exact Nat.le_refl _)] at h
                  exact h
                subst hve
                obtain ⟨V8, hV8⟩ : ∃ x, x = wq := ⟨_, rfl⟩
                subst hV8
                have BV8 := BYr
                have HLV8 := HLr
                have hkl' : ¬ ((k : Int) + 1 < (ln : Int)) := by omega
                obtain ⟨ya, yb, yc⟩ := y
                simp only [ou.T3.cells] at BV8
                have q0 := BV8.out.cell 0 (.bool ya) rfl
                have q1 := BV8.out.cell 1 (.bool yb) rfl
                have q2 := BV8.out.cell 2 (.bool yc) rfl
                have HO1 := hide (own_below HOX.out HLV8.out)
                have HL1 := hide (show Le w V8 from HLX.out.trans HLV8.out)
                have B81 := hide (B4X.out.below HLV8.out B4X.out.lt)
                have hz1 := HL1.out.size
                have hz81 := B81.out.lt
                go_wp2_with (at_builtin; refine wpList_append_row _ rfl (.tmp 106) (.tmp 108) 63 rfl (w.heap.size + 1) 48 infoT Tryd.underlying63 rfl (by omega) (.slice (some ⟨bO, oO, none⟩) j cs) j _ rfl (HO1.out.alloc _) _ (some ⟨V8.heap.size, 0, none⟩) 1 1 [.bool ya, .bool yb, .bool yc] rfl rfl (row_new V8 #[.bool ya, .bool yb, .bool yc] _ (0, 0)) (one_t3 ⟨ya, yb, yc⟩) (by simp only [maxLen]; omega) (by omega) (by simp; omega) ?_; intro v' w' hown' hg hat; obtain ⟨A1, c1, rfl, -, -⟩ := own_form hown'; have HO' := hide hown'; have HG := hide hg; clear hown' hg hat)
                have HBK := hide (show Below (w.heap.size + 1) V8 w' from Below.trans ((Below.refl _ _).alloc (by omega) _) (below_own HG.out (Nat.le_refl _) (by simp; omega) (fun g h => own_ge HO1.out h (Nat.le_refl _))))
                have HB' := hide (show Below w.heap.size w w' from Below.trans HL1.out (HBK.out.mono (by omega)))
                exact ⟨⟨j + 1, c1, A1, out ++ [⟨ya, yb, yc⟩], by go_num, by omega, rfl, hide (B81.out.below HBK.out (by omega)), hide (by rw [tcs_snoc]; exact HO'.out), HEV, HB'⟩, by simp [intOf]; omega⟩
    · obtain rfl : j = n := by omega
      have hend := HG.out
      rw [List.drop_eq_nil_of_le (by rw [HL.out]; exact Nat.le_refl _)] at hend
      have hlen : out.length = j := by have := HO.out.1; rw [tcs_len] at this; omega
      have hoa : out = ans := hend
      obtain ⟨z, hz⟩ : ∃ z, out[j - 1]? = some z := ⟨_, List.getElem?_eq_getElem (by omega)⟩
      have HZ := hide (show ou.at3 ans ((j : Int) - 1) = z by
        rw [← hoa, show ((j : Int) - 1) = ((j - 1 : Nat) : Int) by omega]
        exact ou.at3_at hz)
      obtain ⟨bO, oO, rfl, hbO, co0, co1, co2⟩ := row_t3 (Row.of_own HO.out) hz
      obtain ⟨j', rfl⟩ : ∃ j' : Nat, j = j' + 1 := ⟨j - 1, by omega⟩
      rw [show j' + 1 - 1 = j' by omega] at co0 co1 co2
      have hw1 : ((j' + 1 : Nat) : Int) - 1 = (j' : Int) := by omega
      have hw2 : IntKind.i64.wrap (j' : Int) = (j' : Int) := by rw [IntKind.wrap_i64]; omega
      have hlt : (j' : Int) < ((j' + 1 : Nat) : Int) := by omega
      have hge : (0 : Int) ≤ (j' : Int) := by omega
      clear hz hoa hend hlen
      obtain ⟨za, zb, zc⟩ := z
      simp only at co0 co1 co2
      go_wp2_with (refine wpList_store_row rfl 48 _ _ rfl w.heap.size #[.bool za, .bool zb, .bool zc] rfl rfl 48 _ B8.out (by kernel_rfl) rfl (t3_one ⟨za, zb, zc⟩) ?_)
      refine bodyPost_ret (box_results rfl _ (setRow_heap _ _ _ _ _ _ B8.out) rfl Tryd.underlying48 rfl rfl) rfl ?_
      exact ⟨by rw [HZ.out]; rfl, below_setRow HB.out (Nat.le_refl _) _⟩
#print axioms refoutcomes_any
end Go.Proofs.YtklgmojojgoaeaaDoor
