/-
  What may come out of a predicate: by the program, walked.
-/
import Derived.Test.YtklgmojojgoaeaaDoorOuD
import Derived.Test.YtklgmojojgoaeaaDoorOuN
import Derived.Test.YtklgmojojgoaeaaDoorRegionG
namespace Go.Proofs.YtklgmojojgoaeaaDoor
open Go.RowKit
set_option linter.unusedVariables false

set_option maxRecDepth 100000 in
theorem asko_any (w : World) (n : pr.Nd) (p : Nat) (A : Option Addr) (m c : Nat) (S : List st.St) (hp : w.cell? ⟨p, 0, none⟩ = some (.slice A m c)) (hpl : p < w.heap.size) (hop : 4 ≤ n.op ∧ n.op ≤ 9) (hcol : n.op ≠ 9 → 0 ≤ n.col ∧ n.col < m) (hl : S.length = m) (hm : m ≤ 1000)
    (hr : Row w w.heap.size A (scs S)) (hn : Has w w.heap.size n) (hok : ∀ s ∈ S, SOk s) :
    Calls Tryd.prog 34 #[.agg n.cells, .pointer (some ⟨p, 0, none⟩)] w fun e w' => e = .returned (.agg (ou.knownV n (S.getD n.col.toNat nst)).cells) ∧ Below w.heap.size w w' := by
  obtain ⟨W, hW, bx, bo, hb⟩ := nd_t3_box w n 40 65
  have HB0 := hide hb
  have HW := hide hW
  have BO := hide bo
  have hak := hide (fun (w : World) (h : Row w w.heap.size A (scs S)) (hn : Has w w.heap.size n) => known_any w n A m c S hop hcol hl hm hn h hok)
  have e0 : W.cell? ⟨p, 0, none⟩ = some (.slice A m c) := (hb.cell (p := ⟨p, 0, none⟩) hpl).trans hp
  have c0 := bx.cell 0 (.int .i64 n.op) rfl
  have c1 := bx.cell 1 (.int .i64 n.col) rfl
  have c2 := bx.cell 2 (.bool n.v.nul) rfl
  have c3 := bx.cell 3 (.int .i64 n.v.n) rfl
  have c4 := bx.cell 4 (.string n.v.s) rfl
  have c5 := bx.cell 5 (.slice n.vA n.vn n.vc) rfl
  have c6 := bx.cell 6 (.slice n.lA n.ln n.lc) rfl
  have H1 := hide ((hb.row hr (Nat.le_refl _)).more hb.size)
  have H2 := hide ((hn.on hb (Nat.le_refl _)).more hb.size)
  obtain ⟨ans, hans⟩ : ∃ a, ou.knownV n (S.getD n.col.toNat nst) = a := ⟨_, rfl⟩
  rw [hans] at hak ⊢
  obtain ⟨op, col, ⟨un, ui, us⟩, vA, vn, vc, vals, lA, ln, lc, L⟩ := n
  obtain ⟨xa, xb, xc⟩ := ans
  simp only [pr.Nd.cells, ou.T3.cells, ou.zero] at hak HW BO c0 c1 c2 c3 c4 c5 c6 ⊢
  clear hW bx bo hb hr hn hp hans hop hcol hok
  go_enter Tryd.func34, Tryd.ntmps34
  go_upto_region 1 with fail
  rw [HW.out]
  go_wp2_with fail
  refine (hak.out W H1.out H2.out).mono ?_
  rintro e w1 ⟨rfl, hb⟩
  have HL := hide (HB0.out.trans hb)
  have BO1 := hide (BO.out.below hb BO.out.lt)
  clear hb
  go_wp2_with (refine wpList_store_row rfl 65 _ _ rfl (w.heap.size + 1) #[.bool xa, .bool xb, .bool xc] rfl rfl 65 _ BO1.out (by kernel_rfl) rfl (t3_one ⟨xa, xb, xc⟩) ?_)
  refine bodyPost_ret (box_results rfl _ (setRow_heap _ _ _ _ _ _ BO1.out) rfl Tryd.underlying65 rfl rfl) rfl ?_
  exact ⟨rfl, below_setRow HL.out (by omega) _⟩
#print axioms asko_any

set_option maxRecDepth 100000 in
set_option maxHeartbeats 20000000 in
theorem foldedo_any (w : World) (p : Nat) (A : Option Addr) (n c : Nat) (l : List pr.Nd) (A' : Option Addr) (m c' : Nat) (S : List st.St) (hp : w.cell? ⟨p, 0, none⟩ = some (.slice A' m c')) (hpl : p < w.heap.size)
    (hl : l.length = n) (hn : 1 ≤ n ∧ n ≤ 1000) (hr : Row w w.heap.size A (ncs l)) (hh : ∀ n ∈ l, Has w w.heap.size n) (hl' : S.length = m) (hm : m ≤ 1000) (hr' : Row w w.heap.size A' (scs S)) (hok : ∀ s ∈ S, SOk s)
    (hf : ∀ j n, l[j]? = some n → pr.Fine m j n) :
    Calls Tryd.prog 33 #[.slice A n c, .func (Fn.func 34) #[] #[.pointer (some ⟨p, 0, none⟩)], .func (Fn.func 36) #[] #[], .func (Fn.func 37) #[] #[]] w
      fun e w' => e = .returned (.agg (ou.outV (fun n => ou.knownV n (S.getD n.col.toNat nst)) l).cells) ∧ Below w.heap.size w w' := by
  obtain ⟨W0, hW0⟩ : ∃ W, w.alloc (.cells ou.zero.cells 65) = W := ⟨_, rfl⟩
  have HB8 := hide (show Box W0 w.heap.size ou.zero.cells 65 by rw [← hW0]; exact box_new _ _ _)
  have HLE0 := hide (show Le w W0 by rw [← hW0]; exact (Below.refl _ _).alloc (Nat.le_refl _) _)
  have HW0 := hide hW0
  have HP := hide hp
  have HL := hide hl
  have HR := hide hr
  have HH := hide hh
  have HL' := hide hl'
  have HR' := hide hr'
  have HF := hide hf
  have HOK := hide hok
  obtain ⟨ks, hks⟩ : ∃ ks : pr.Nd → ou.T3, ks = fun n => ou.knownV n (S.getD n.col.toNat nst) := ⟨_, rfl⟩
  have HKS := hide (show ∀ n, ou.knownV n (S.getD n.col.toNat nst) = ks n from fun n => by rw [hks])
  rw [← hks]
  obtain ⟨ans, hans⟩ : ∃ a, ou.outGo ks [] l = a := ⟨_, rfl⟩
  have HA := hide (show ou.outGo ks [] (l.drop 0) = ans by rw [List.drop_zero]; exact hans)
  have HE := hide (show ou.outV ks l = ou.at3 ans ((n : Int) - 1) by unfold ou.outV; rw [hans, hl])
  rw [HE.out]
  simp only [ou.T3.cells, ou.zero] at HW0 HB8
  clear hp hl hr hh hl' hr' hf hans hks hok hW0
  go_enter Tryd.func33, Tryd.ntmps33
  go_upto_region 1 with fail
  rw [HW0.out]
  go_wp2_with fail
  go_loopw [9, 17] (fun s i wr => ∃ (j cs : Nat) (As : Option Addr) (out : List ou.T3), i = .int .i64 j ∧ j ≤ n ∧ s = .slice As j cs ∧ Hid (Box wr w.heap.size #[.bool false, .bool false, .bool false] 65) ∧ Hid (wr.ownsRow (w.heap.size + 1) 65 3 (.slice As j cs) j (tcs out)) ∧ Hid (ou.outGo ks out (l.drop j) = ans) ∧ Hid (Le w wr)) (fun _ i _ => n - (intOf i).toNat)
  case atStart => exact ⟨0, 0, none, [], rfl, Nat.zero_le _, rfl, HB8, hide (World.ownsRow_nil _ _ _ _), HA, HLE0⟩
  case round =>
    obtain ⟨j, cs, As, out, rfl, hj, rfl, B8, HO, HG, HB⟩ := hrel
    have hzB := HB.out.size
    have hz8 := B8.out.lt
    by_cases hjn : j < n
    · obtain ⟨nd, hnd⟩ : ∃ nd, l[j]? = some nd := ⟨_, List.getElem?_eq_getElem (by rw [HL.out]; exact hjn)⟩
      obtain ⟨bA, oA, rfl, hbA, -, hcl⟩ := row_nd HR.out hnd
      have HFN := hide (HF.out j nd hnd)
      have HND := hide (((HH.out nd (List.mem_of_getElem? hnd)).on HB.out (Nat.le_refl _)).more HB.out.size)
      have HEV := hide (show ou.outGo ks (out ++ [ou.nodeO ks out nd]) (l.drop (j + 1)) = ans by rw [← ou.out_step hnd]; exact HG.out)
      have hcw : ∀ (i : Nat) u, nd.cells[i]? = some u → wr.cell? ⟨bA, oA + j * 7 + i, none⟩ = some u := fun i u hu => (HB.out.cell (p := ⟨bA, oA + j * 7 + i, none⟩) hbA).trans (hcl i u hu)
      have c0 := hcw 0 _ rfl
      have c1 := hcw 1 _ rfl
      have c2 := hcw 2 _ rfl
      have c3 := hcw 3 _ rfl
      have c4 := hcw 4 _ rfl
      have c5 := hcw 5 _ rfl
      have c6 := hcw 6 _ rfl
      rw [Nat.add_zero] at c0
      obtain ⟨X, hX, bX, hbX⟩ := nd_box2 wr #[.int .i64 0, .int .i64 0, .bool false, .int .i64 0, .string ⟨#[]⟩, .slice none 0 0, .slice none 0 0] 40 nd
      have HXX := hide hX
      have BN := hide bX
      have B8X := hide (B8.out.below hbX B8.out.lt)
      have HLX := hide (show Le w X from HB.out.trans hbX)
      have HOX := hide (own_below HO.out hbX)
      have HNX := hide ((HND.out.on hbX (Nat.le_refl _)).more hbX.size)
      have hnj : (j : Int) < n := by omega
      obtain ⟨val, hval⟩ : ∃ v, ou.nodeO ks out nd = v := ⟨_, rfl⟩
      have HVAL := hide hval
      rw [hval] at HEV
      have hone := nd_one nd
      clear hnd hcl hcw hX bX hbX HG hval
      have HKN := hide (HKS.out nd)
      obtain ⟨op, col, ⟨un, ui, us⟩, vA, vn, vc, vals, lA, ln, lc, L⟩ := nd
      simp only [pr.Nd.cells] at c0 c1 c2 c3 c4 c5 c6 HXX BN hone
      go_upto_region 5 with (refine wpList_store_row rfl 40 _ _ rfl wr.heap.size _ rfl rfl 40 _ (box_new _ _ _) (by kernel_rfl) rfl hone ?_)
      rw [HXX.out]
      clear c0 c1 c2 c3 c4 c5 c6
      have c0 := BN.out.cell 0 (.int .i64 op) rfl
      have c1 := BN.out.cell 1 (.int .i64 col) rfl
      have c2 := BN.out.cell 2 (.bool un) rfl
      have c3 := BN.out.cell 3 (.int .i64 ui) rfl
      have c4 := BN.out.cell 4 (.string us) rfl
      have c5 := BN.out.cell 5 (.slice vA vn vc) rfl
      have c6 := BN.out.cell 6 (.slice lA ln lc) rfl
      go_wp2_with fail
      refine (names_any X op).mono ?_
      rintro e w' ⟨rfl, rfl⟩
      obtain ⟨q, hq⟩ : ∃ q, pr.isN op = q := ⟨_, rfl⟩
      rw [hq]
      cases q
      · have hq4 := HFN.out.2 hq
        have hlv := HVAL.out
        rw [ou.node_leaf hq, ← HKN.out] at hlv
        go_wp2_with fail
        refine (asko_any X ⟨op, col, ⟨un, ui, us⟩, vA, vn, vc, vals, lA, ln, lc, L⟩ p A' m c' S ((HLX.out.cell (p := ⟨p, 0, none⟩) hpl).trans HP.out) (Nat.lt_of_lt_of_le hpl HLX.out.size) ⟨hq4.1, hq4.2.1⟩ hq4.2.2 HL'.out hm ((HLX.out.row HR'.out (Nat.le_refl _)).more HLX.out.size) HNX.out HOK.out).mono ?_
        rintro e w1 ⟨rfl, hb1⟩
        rw [hlv]
        have HL1 := hide (show Le w w1 from HLX.out.trans hb1)
        have HO1 := hide (own_below HOX.out hb1)
        have B81 := hide (B8X.out.below hb1 B8X.out.lt)
        have hz1 := HL1.out.size
        have hz81 := B81.out.lt
        clear hb1 hq4 hlv c0 c1 c2 c3 c4 c5 c6 hq
        obtain ⟨va', vb', vc'⟩ := val
        simp only [ou.T3.cells]
        go_wp2_with (at_builtin; refine wpList_append_row _ rfl (.tmp 25) (.tmp 29) 76 rfl (w.heap.size + 1) 65 infoO Tryd.underlying76 rfl (by omega) (.slice As j cs) j _ rfl (HO1.out.alloc _) _ (some ⟨w1.heap.size, 0, none⟩) 1 1 [.bool va', .bool vb', .bool vc'] rfl rfl (row_new w1 #[.bool va', .bool vb', .bool vc'] _ (0, 0)) (one_t3 ⟨va', vb', vc'⟩) (by simp only [maxLen]; omega) (by omega) (by simp; omega) ?_; intro v' w' hown' hg hat; obtain ⟨A1, c1, rfl, -, -⟩ := own_form hown'; have HO' := hide hown'; have HG := hide hg; clear hown' hg hat)
        have HBK := hide (show Below (w.heap.size + 1) w1 w' from Below.trans ((Below.refl _ _).alloc (by omega) _) (below_own HG.out (Nat.le_refl _) (by simp; omega) (fun g h => own_ge HO1.out h (Nat.le_refl _))))
        have HB' := hide (show Below w.heap.size w w' from Below.trans HL1.out (HBK.out.mono (by omega)))
        exact ⟨⟨j + 1, c1, A1, out ++ [⟨va', vb', vc'⟩], by go_num, by omega, rfl, hide (B81.out.below HBK.out (by omega)), hide (by rw [tcs_snoc]; exact HO'.out), HEV, HB'⟩, by simp [intOf]; omega⟩
      · have hq1 := HFN.out.1 hq
        obtain ⟨k0, t, hL⟩ : ∃ k0 t, L = k0 :: t := by
          cases L with
          | nil => simp at hq1
          | cons a t => exact ⟨a, t, rfl⟩
        have hLn : L.length = ln := HNX.out.2.2.2.1
        have hk0 := hq1.2.2 k0 (by rw [hL]; exact List.mem_cons_self)
        have hlen : out.length = j := by have := HO.out.1; rw [tcs_len] at this; omega
        obtain ⟨a0, rfl⟩ : ∃ a : Nat, k0 = a := ⟨k0.toNat, by omega⟩
        have ha0 : (a0 : Int) < j := hk0.2
        have ha00 : (0 : Int) ≤ (a0 : Int) := hk0.1
        obtain ⟨z, hz⟩ : ∃ z, out[a0]? = some z := ⟨_, List.getElem?_eq_getElem (by omega)⟩
        have hzat : ou.at3 out (a0 : Int) = z := ou.at3_at hz
        obtain ⟨bO, oO, rfl, hbO, co0, co1, co2⟩ := row_t3 (Row.of_own HOX.out) hz
        have hrl : Row X X.heap.size lA (L.map (Value.int .i64)) := HNX.out.2.2.2.2.2.1
        have hL0 : (L.map (Value.int .i64))[0]? = some (.int .i64 a0) := by rw [hL]; rfl
        obtain ⟨bL, oL, rfl, hbL, cl⟩ := hrl.at_ hL0
        clear hL0
        have HRL := hide hrl
        have hln1 : 1 ≤ ln := by rw [← hLn]; exact hq1.1
        have hln0 : (0 : Int) < ln := by omega
        rw [Nat.add_zero] at cl
        obtain ⟨x0, hx0⟩ : ∃ x, (if op = 3 then ou.notV z else z) = x := ⟨_, rfl⟩
        obtain ⟨d3, hd3⟩ : ∃ d, (op == 3) = d := ⟨_, rfl⟩
        have HFO := hide (show ou.foldO op out (L.drop 1) x0 = val by
          have hv := HVAL.out
          rw [ou.node_names (k0 := (a0 : Int)) (t := t) hq hL, hzat] at hv
          rw [← hx0]
          exact hv)
        have HLN := hide hLn
        have HLEN := hide hlen
        have HALL := hide hq1.2.2
        obtain ⟨Y, hY, bY, hbY⟩ := t3_box2 X z 65
        have HYY := hide hY
        have BY := hide bY
        have HLY := hide (show Le X Y from hbY)
        have N1 := hide (BN.out.below hbY BN.out.lt)
        have hzX := BN.out.lt
        clear hLn hlen hrl hq1 hk0 hz hzat HVAL hq hL hY bY hbY
        obtain ⟨za, zb, zc⟩ := z
        simp only [ou.T3.cells, ou.zero] at HYY BY co0 co1 co2
        go_upto_region 8 with (refine wpList_store_row rfl 65 _ _ rfl X.heap.size #[.bool za, .bool zb, .bool zc] rfl rfl 65 _ (box_new _ _ _) (by kernel_rfl) rfl (t3_one ⟨za, zb, zc⟩) ?_)
        rw [HYY.out]
        clear c0 c1 c2 c3 c4 c5 c6 co0 co1 co2 cl
        have c0 := N1.out.cell 0 (.int .i64 op) rfl
        go_upto_if 40 with fail
        go_cut [39] (fun s39 wx => s39 = .int .i64 op ∧ Box wx X.heap.size x0.cells 65 ∧ Le X wx)
        case first =>
          cases d3
          · have h3 : ¬ op = 3 := by simpa using hd3
            rw [if_neg h3] at hx0
            subst hx0
            go_wp2_with fail
            go_meet
            exact ⟨rfl, BY.out, HLY.out⟩
          · have h3 : op = 3 := by simpa using hd3
            rw [if_pos h3] at hx0
            subst hx0
            have y0 := BY.out.cell 0 (.bool za) rfl
            have y1 := BY.out.cell 1 (.bool zb) rfl
            have y2 := BY.out.cell 2 (.bool zc) rfl
            go_wp2_with fail
            refine (not3_any Y ⟨za, zb, zc⟩).mono ?_
            rintro e w' ⟨rfl, hb⟩
            have BY2 := hide (BY.out.below hb BY.out.lt)
            have HLY2 := hide (show Le X w' from HLY.out.trans hb)
            simp only [ou.T3.cells, ou.notV]
            clear hb y0 y1 y2
            go_wp2_with (refine wpList_store_row rfl 65 _ _ rfl X.heap.size #[.bool zc, .bool zb, .bool za] rfl rfl 65 _ BY2.out (by kernel_rfl) rfl (t3_one ⟨zc, zb, za⟩) ?_)
            go_meet
            exact ⟨rfl, setRow_heap _ _ _ _ _ _ BY2.out, below_setRow HLY2.out (Nat.le_refl _) _⟩
        case rest =>
          obtain ⟨rfl, hbx, hlx⟩ := hcut
          have HBX := hide hbx
          have HLXc := hide hlx
          have Nc := hide (BN.out.below hlx BN.out.lt)
          have HRLc := hide ((hlx.row HRL.out (Nat.le_refl _)))
          have hlc := HNX.out.2.2.2.2.2.2.2.2
          simp only at hlc
          clear hd3 hx0 c0 hbx hlx HYY BY HLY N1
          have c6 := Nc.out.cell 6 (.slice (some ⟨bL, oL, none⟩) ln lc) rfl
          go_upto_region 10 with fail
          go_cut [46, 47, 48] (fun s46 s47 s48 wx => ∃ (AL : Option Addr) (cl : Nat), s46 = .slice AL (ln - 1) cl ∧ s47 = .int .i64 ((ln - 1 : Nat) : Int) ∧ s48 = .int .i64 0 ∧ wx = wc ∧ Row wc X.heap.size AL ((L.map (Value.int .i64)).drop 1))
          case first =>
            by_cases hc1 : lc = 1
            · subst hc1
              obtain rfl : ln = 1 := by omega
              go_wp2_with fail
              go_meet
              refine ⟨_, _, rfl, rfl, rfl, rfl, HRLc.out.drop 1 fun h => ?_⟩
              rw [List.length_map, HLN.out] at h
              omega
            · go_wp2_with fail
              go_meet
              exact ⟨_, _, rfl, rfl, rfl, rfl, HRLc.out.drop 1 fun h => rfl⟩
          case rest =>
            obtain ⟨AL, cl, rfl, rfl, rfl, hw, hrow⟩ := hcut
            subst hw
            have HROW := hide hrow
            clear hrow hlc hbL HRL HRLc c6
            go_wp2_with fail
            go_loopw [48] (fun i wx => ∃ (k : Nat) (y : ou.T3), i = .int .i64 k ∧ k + 1 ≤ ln ∧ Hid (ou.foldO op out (L.drop (k + 1)) y = val) ∧ Hid (Box wx X.heap.size y.cells 65) ∧ Hid (Le X wx) ∧ Hid (Row wx X.heap.size AL ((L.map (Value.int .i64)).drop 1))) (fun i _ => ln - (intOf i).toNat)
            case atStart => exact ⟨0, x0, rfl, hln1, HFO, HBX, HLXc, HROW⟩
            case round =>
              obtain ⟨k, y, rfl, hk, HFY, BYr, HLr, HRWr⟩ := hrel
              by_cases hkl : k + 1 < ln
              · obtain ⟨y2, hy2⟩ : ∃ y2, L[k + 1]? = some y2 := ⟨_, List.getElem?_eq_getElem (by rw [HLN.out]; exact hkl)⟩
                have hyb := HALL.out y2 (List.mem_of_getElem? hy2)
                obtain ⟨b2, rfl⟩ : ∃ b : Nat, y2 = b := ⟨y2.toNat, by omega⟩
                have hb2 : (b2 : Int) < j := hyb.2
                have hb20 : (0 : Int) ≤ (b2 : Int) := hyb.1
                obtain ⟨z2, hz2⟩ : ∃ z, out[b2]? = some z := ⟨_, List.getElem?_eq_getElem (by rw [HLEN.out]; omega)⟩
                have hzat : ou.at3 out (b2 : Int) = z2 := ou.at3_at hz2
                obtain ⟨y3, hy3⟩ : ∃ y3, ou.joinV op y z2 = y3 := ⟨_, rfl⟩
                have hbo := hide (fun (W : World) => hy3 ▸ joined_any W op y z2)
                have HFS := hide (show ou.foldO op out (L.drop (k + 1 + 1)) y3 = val by
                  have h := HFY.out
                  rw [ou.foldO_step hy2, hzat, hy3] at h
                  exact h)
                have hrk : ((L.map (Value.int .i64)).drop 1)[k]? = some (.int .i64 b2) := by
                  rw [List.getElem?_drop, List.getElem?_map, show 1 + k = k + 1 by omega, hy2]; rfl
                obtain ⟨bM, oM, rfl, hbM, cm⟩ := HRWr.out.at_ hrk
                obtain ⟨bP, oP, eP, hbP, cp0, cp1, cp2⟩ := row_t3 (Row.of_own HOX.out) hz2
                simp only [Option.some.injEq, Addr.mk.injEq, and_true] at eP
                obtain ⟨rfl, rfl⟩ := eP
                have hkl' : (k : Int) < ((ln - 1 : Nat) : Int) := by omega
                have hlnb : ln ≤ 9223372036854775807 := HNX.out.2.2.2.2.1
                go_upto_region 13 with fail
                obtain ⟨V, hV⟩ : ∃ V, wr.drew = V := ⟨_, rfl⟩
                have HLV := hide (show Le X V by rw [← hV]; exact HLr.out.drew)
                have HRV := hide (show Row V X.heap.size _ ((L.map (Value.int .i64)).drop 1) by rw [← hV]; exact HRWr.out.drew)
                have BYV := hide (show Box V X.heap.size y.cells 65 by rw [← hV]; exact BYr.out.drew)
                obtain ⟨ya, yb, yc⟩ := y
                obtain ⟨z2a, z2b, z2c⟩ := z2
                obtain ⟨y3a, y3b, y3c⟩ := y3
                simp only [ou.T3.cells] at BYV hbo cp0 cp1 cp2
                have g0 := (BN.out.below HLV.out BN.out.lt).later 0 (.int .i64 op) rfl
                have g1 : ∀ W, Le V W → W.cell? ⟨bO, oO + b2 * 3, none⟩ = some (.bool z2a) := fun W h => ((HLV.out.trans h).cell (p := ⟨bO, oO + b2 * 3, none⟩) hbP).trans cp0
                have g2 : ∀ W, Le V W → W.cell? ⟨bO, oO + b2 * 3 + 1, none⟩ = some (.bool z2b) := fun W h => ((HLV.out.trans h).cell (p := ⟨bO, oO + b2 * 3 + 1, none⟩) hbP).trans cp1
                have g3 : ∀ W, Le V W → W.cell? ⟨bO, oO + b2 * 3 + 2, none⟩ = some (.bool z2c) := fun W h => ((HLV.out.trans h).cell (p := ⟨bO, oO + b2 * 3 + 2, none⟩) hbP).trans cp2
                have q0 := BYV.out.later 0 (.bool ya) rfl
                have q1 := BYV.out.later 1 (.bool yb) rfl
                have q2 := BYV.out.later 2 (.bool yc) rfl
                have HV := hide hV
                clear cm cp0 cp1 cp2 hV hz2 hzat hrk hy2 HFY hyb hy3
                refine region_pig (Le V) 9 [(0, 1), (1, 1), (2, 0), (3, 0), (4, 1), (5, 1), (6, 1), (7, 0), (8, 2), (9, 3)] (by kernel_rfl) (by kernel_rfl) (by rw [HV.out]; exact Le.refl _) ?_
                simp only [opsPiG, List.filterMap_cons, List.filterMap_nil, List.getElem?_toArray, List.getElem?_cons_zero, List.getElem?_cons_succ, Option.map_some]
                rw [HV.out]
                repeat (first | (refine pig_any (v := _) rfl (fun W' => by go_simp <;> exact rfl) ?_; simp only [Act.put, List.setIfInBounds_toArray, List.set_cons_zero, List.set_cons_succ]) | (refine pig_take (v := _) rfl (fun W' hW' => by go_simp <;> exact rfl) ?_; simp only [Act.put, List.setIfInBounds_toArray, List.set_cons_zero, List.set_cons_succ]))
                clear g0 g1 g2 g3 q0 q1 q2
                refine pig_run ?_
                go_wp2_with fail
                refine (hbo.out V).mono ?_
                rintro e w1 ⟨rfl, hb1⟩
                have BY1 := hide (BYV.out.below hb1 BYV.out.lt)
                have HL1 := hide (show Le X w1 from HLV.out.trans hb1)
                have HR1 := hide (Le.row hb1 HRV.out (Nat.le_of_lt BYV.out.lt))
                have HBB := hide hb1
                clear hb1
                simp only
                go_wp2_with fail
                refine ⟨HBB.out, ?_⟩
                refine pig_late ?_
                go_wp2_with (refine wpList_store_row rfl 65 _ _ rfl X.heap.size #[.bool y3a, .bool y3b, .bool y3c] rfl rfl 65 _ BY1.out (by kernel_rfl) rfl (t3_one ⟨y3a, y3b, y3c⟩) ?_)
                refine pig_done ?_
                obtain ⟨Z, hZ⟩ : ∃ Z, w1.setRow X.heap.size #[.bool y3a, .bool y3b, .bool y3c] = Z := ⟨_, rfl⟩
                have BZ := hide (show Box Z X.heap.size _ _ by rw [← hZ]; exact setRow_heap _ _ _ _ _ _ BY1.out)
                have HLZ := hide (show Le X Z by rw [← hZ]; exact below_setRow HL1.out (Nat.le_refl _) _)
                have HRZ := hide (show Row Z X.heap.size _ ((L.map (Value.int .i64)).drop 1) by
                  have h := (below_setRow (Below.refl X.heap.size w1) (Nat.le_refl X.heap.size) #[.bool y3a, .bool y3b, .bool y3c])
                  rw [hZ] at h
                  exact HR1.out.below h (Nat.le_refl _))
                rw [hZ]
                clear hZ
                go_wp2_with fail
                exact ⟨⟨k + 1, ⟨y3a, y3b, y3c⟩, by go_num, by omega, HFS, BZ, HLZ, HRZ⟩, by simp [intOf]; omega⟩
              · have hke : k + 1 = ln := by omega
                have hve : y = val := by
                  have h := HFY.out
                  rw [hke, List.drop_eq_nil_of_le (by rw [HLN.out]; exact Nat.le_refl _)] at h
                  exact h
                subst hve
                have HO1 := hide (own_below HOX.out HLr.out)
                have HL1 := hide (show Le w wr from HLX.out.trans HLr.out)
                have B81 := hide (B8X.out.below HLr.out B8X.out.lt)
                have hz1 := HL1.out.size
                have hz81 := B81.out.lt
                have hke2 : k = ln - 1 := by omega
                obtain ⟨ya, yb, yc⟩ := y
                simp only [ou.T3.cells] at BYr
                have q0 := BYr.out.cell 0 (.bool ya) rfl
                have q1 := BYr.out.cell 1 (.bool yb) rfl
                have q2 := BYr.out.cell 2 (.bool yc) rfl
                go_wp2_with (at_builtin; refine wpList_append_row _ rfl (.tmp 62) (.tmp 64) 76 rfl (w.heap.size + 1) 65 infoO Tryd.underlying76 rfl (by omega) (.slice (some ⟨bO, oO, none⟩) j cs) j _ rfl (HO1.out.alloc _) _ (some ⟨wr.heap.size, 0, none⟩) 1 1 [.bool ya, .bool yb, .bool yc] rfl rfl (row_new wr #[.bool ya, .bool yb, .bool yc] _ (0, 0)) (one_t3 ⟨ya, yb, yc⟩) (by simp only [maxLen]; omega) (by omega) (by simp; omega) ?_; intro v' w' hown' hg hat; obtain ⟨A1, c1, rfl, -, -⟩ := own_form hown'; have HO' := hide hown'; have HG := hide hg; clear hown' hg hat)
                have HBK := hide (show Below (w.heap.size + 1) wr w' from Below.trans ((Below.refl _ _).alloc (by omega) _) (below_own HG.out (Nat.le_refl _) (by simp; omega) (fun g h => own_ge HO1.out h (Nat.le_refl _))))
                have HB' := hide (show Below w.heap.size w w' from Below.trans HL1.out (HBK.out.mono (by omega)))
                exact ⟨⟨j + 1, c1, A1, out ++ [⟨ya, yb, yc⟩], by go_num, by omega, rfl, hide (B81.out.below HBK.out (by omega)), hide (by rw [tcs_snoc]; exact HO'.out), HEV, HB'⟩, by simp [intOf]; omega⟩
    · obtain rfl : j = n := by omega
      have hend := HG.out
      rw [List.drop_eq_nil_of_le (by rw [HL.out]; exact Nat.le_refl _)] at hend
      have hlen : out.length = j := by have := HO.out.1; rw [tcs_len] at this; omega
      have hoa : out = ans := hend
      obtain ⟨z, hz⟩ : ∃ z, out[j - 1]? = some z := ⟨_, List.getElem?_eq_getElem (by omega)⟩
      have HZ := hide (show ou.at3 ans ((j : Int) - 1) = z by
        rw [← hoa, show ((j : Int) - 1) = ((j - 1 : Nat) : Int) by omega]
        exact ou.at3_at hz)
      obtain ⟨bO, oO, rfl, hbO, co0, co1, co2⟩ := row_t3 (Row.of_own HO.out) hz
      obtain ⟨j', rfl⟩ : ∃ j' : Nat, j = j' + 1 := ⟨j - 1, by omega⟩
      rw [show j' + 1 - 1 = j' by omega] at co0 co1 co2
      have hw1 : ((j' + 1 : Nat) : Int) - 1 = (j' : Int) := by omega
      have hw2 : IntKind.i64.wrap (j' : Int) = (j' : Int) := by rw [IntKind.wrap_i64]; omega
      have hlt : (j' : Int) < ((j' + 1 : Nat) : Int) := by omega
      have hge : (0 : Int) ≤ (j' : Int) := by omega
      clear hz hoa hend hlen
      obtain ⟨za, zb, zc⟩ := z
      simp only at co0 co1 co2
      go_wp2_with (refine wpList_store_row rfl 65 _ _ rfl w.heap.size #[.bool za, .bool zb, .bool zc] rfl rfl 65 _ B8.out (by kernel_rfl) rfl (t3_one ⟨za, zb, zc⟩) ?_)
      refine bodyPost_ret (box_results rfl _ (setRow_heap _ _ _ _ _ _ B8.out) rfl Tryd.underlying65 rfl rfl) rfl ?_
      exact ⟨by rw [HZ.out]; rfl, below_setRow HB.out (Nat.le_refl _) _⟩
#print axioms foldedo_any

set_option maxRecDepth 100000 in
theorem outcomes_any (w : World) (A : Option Addr) (n c : Nat) (l : List pr.Nd) (A' : Option Addr) (m c' : Nat) (S : List st.St)
    (hl : l.length = n) (hn : 1 ≤ n ∧ n ≤ 1000) (hr : Row w w.heap.size A (ncs l)) (hh : ∀ n ∈ l, Has w w.heap.size n) (hl' : S.length = m) (hm : m ≤ 1000) (hr' : Row w w.heap.size A' (scs S)) (hok : ∀ s ∈ S, SOk s)
    (hf : ∀ j n, l[j]? = some n → pr.Fine m j n) :
    Calls Tryd.prog 17 #[.slice A n c, .slice A' m c'] w
      fun e w' => e = .returned (.agg (ou.outV (fun n => ou.knownV n (S.getD n.col.toNat nst)) l).cells) ∧ Below w.heap.size w w' := by
  obtain ⟨W, hW⟩ : ∃ W, (w.alloc (.cells #[.slice A' m c'] 42)).alloc (.cells ou.zero.cells 48) = W := ⟨_, rfl⟩
  have b3 : Box W w.heap.size #[.slice A' m c'] 42 := by rw [← hW]; exact (box_new _ _ _).alloc _
  have b4 : Box W (w.heap.size + 1) ou.zero.cells 48 := by
    rw [← hW]
    have h := box_new (w.alloc (.cells #[.slice A' m c'] 42)) ou.zero.cells 48
    have e : (w.alloc (.cells #[.slice A' m c'] 42)).heap.size = w.heap.size + 1 := by simp
    rw [e] at h
    exact h
  have hb : Le w W := by rw [← hW]; exact ((Below.refl _ _).alloc (Nat.le_refl _) _).alloc (by simp) _
  have HW := hide hW
  have B4 := hide b4
  have HB := hide hb
  have hfo := hide (foldedo_any W w.heap.size A n c l A' m c' S (b3.cell 0 _ rfl) b3.lt hl hn ((hb.row hr (Nat.le_refl _)).more hb.size) (fun n hn => ((hh n hn).on hb (Nat.le_refl _)).more hb.size) hl' hm ((hb.row hr' (Nat.le_refl _)).more hb.size) hok hf)
  obtain ⟨R, hR⟩ : ∃ R, ou.outV (fun n => ou.knownV n (S.getD n.col.toNat nst)) l = R := ⟨_, rfl⟩
  rw [hR] at hfo ⊢
  clear hW b3 b4 hb hr hh hr' hok hf hR
  obtain ⟨za, zb, zc⟩ := R
  simp only [ou.T3.cells, ou.zero] at hfo HW B4 ⊢
  go_enter Tryd.func17, Tryd.ntmps17
  go_upto_region 1 with fail
  rw [HW.out]
  go_wp2_with fail
  refine hfo.out.mono ?_
  rintro e w1 ⟨rfl, hb1⟩
  have B41 := hide (B4.out.below hb1 B4.out.lt)
  have HL := hide (HB.out.trans hb1)
  clear hb1
  go_wp2_with (refine wpList_store_row rfl 48 _ _ rfl (w.heap.size + 1) #[.bool za, .bool zb, .bool zc] rfl rfl 48 _ B41.out (by kernel_rfl) rfl (t3_one ⟨za, zb, zc⟩) ?_)
  refine bodyPost_ret (box_results rfl _ (setRow_heap _ _ _ _ _ _ B41.out) rfl Tryd.underlying48 rfl rfl) rfl ?_
  exact ⟨rfl, below_setRow HL.out (by omega) _⟩
#print axioms outcomes_any

set_option maxRecDepth 100000 in
theorem match_any (w : World) (A : Option Addr) (n c : Nat) (l : List pr.Nd) (A' : Option Addr) (m c' : Nat) (S : List st.St)
    (hl : l.length = n) (hn : 1 ≤ n ∧ n ≤ 1000) (hr : Row w w.heap.size A (ncs l)) (hh : ∀ n ∈ l, Has w w.heap.size n) (hl' : S.length = m) (hm : m ≤ 1000) (hr' : Row w w.heap.size A' (scs S)) (hok : ∀ s ∈ S, SOk s)
    (hf : ∀ j n, l[j]? = some n → pr.Fine m j n) :
    Calls Tryd.prog 18 #[.slice A n c, .slice A' m c'] w
      fun e w' => e = .returned (.bool (ou.outV (fun n => ou.knownV n (S.getD n.col.toNat nst)) l).c) ∧ Below w.heap.size w w' := by
  have hfo := hide (outcomes_any w A n c l A' m c' S hl hn hr hh hl' hm hr' hok hf)
  obtain ⟨R, hR⟩ : ∃ R, ou.outV (fun n => ou.knownV n (S.getD n.col.toNat nst)) l = R := ⟨_, rfl⟩
  rw [hR] at hfo ⊢
  clear hr hh hr' hok hf hR
  obtain ⟨za, zb, zc⟩ := R
  simp only [ou.T3.cells] at hfo ⊢
  go_enter Tryd.func18, Tryd.ntmps18
  go_wp2_with fail
  refine hfo.out.mono ?_
  rintro e w1 ⟨rfl, hb1⟩
  have hix := (show (Instr.index 48 (.agg #[.bool za, .bool zb, .bool zc]) (.int .i64 2)).run Tryd.prog w1 = .ok (.bool zc) w1 by kernel_rfl)
  have HL := hide hb1
  clear hb1
  go_wp2_with fail
  go_ret
  exact ⟨rfl, HL.out⟩
#print axioms match_any
end Go.Proofs.YtklgmojojgoaeaaDoor
