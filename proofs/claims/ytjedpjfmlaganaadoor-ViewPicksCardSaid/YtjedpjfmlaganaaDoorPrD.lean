/-
  What a predicate comes to, by the program and by the document, walked (written by genPrD.py).
-/
import Derived.Test.YtjedpjfmlaganaaDoorPrC
namespace Go.Proofs.YtjedpjfmlaganaaDoor
set_option maxRecDepth 100000
open Go.RowKit
set_option linter.unusedVariables false

set_option maxRecDepth 100000 in
theorem eval_any (w : World) (A : Option Addr) (n c : Nat) (l : List pr.Nd) (A' : Option Addr) (m c' : Nat) (r : List va.Val)
    (hl : l.length = n) (hn : 1 ≤ n ∧ n ≤ 1000) (hr : Row w w.heap.size A (ncs l)) (hh : ∀ n ∈ l, Has w w.heap.size n) (hl' : r.length = m) (hm : m ≤ 9223372036854775807) (hr' : Row w w.heap.size A' (vcs r))
    (hf : ∀ j n, l[j]? = some n → pr.Fine m j n) :
    Calls Tryd.prog 17 #[.slice A n c, .slice A' m c'] w fun e w' => e = .returned (.int .i64 (pr.evalV l r)) ∧ Below w.heap.size w w' := by
  obtain ⟨W, hW⟩ : ∃ W, w.alloc (.cells #[.slice A' m c'] 35) = W := ⟨_, rfl⟩
  have bx : Box W w.heap.size #[.slice A' m c'] 35 := by rw [← hW]; exact box_new _ _ _
  have hb : Le w W := by rw [← hW]; exact (Below.refl _ _).alloc (Nat.le_refl _) _
  have hfo := hide (folded_any W w.heap.size A n c l A' m c' r (bx.cell 0 _ rfl) bx.lt hl hn ((hb.row hr (Nat.le_refl _)).more hb.size) (fun n hn => ((hh n hn).on hb (Nat.le_refl _)).more hb.size) hl' hm ((hb.row hr' (Nat.le_refl _)).more hb.size) hf)
  have HB := hide hb
  have HW := hide hW
  obtain ⟨R, hR⟩ : ∃ R, pr.evalV l r = R := ⟨_, rfl⟩
  rw [hR] at hfo ⊢
  clear hW bx hb hl hr hh hl' hr' hf hR
  go_enter Tryd.func17, Tryd.ntmps17
  go_wp2_with fail
  rw [HW.out]
  refine hfo.out.mono ?_
  rintro e w1 ⟨rfl, hb⟩
  have HL := hide (HB.out.trans hb)
  clear hb
  go_wp2_with fail
  go_ret
  exact ⟨rfl, HL.out⟩
#print axioms eval_any

theorem foldmin_step {out L : List Int} {k : Nat} {y : Int} (h : L[k]? = some y) (x : Int) : (L.drop k).foldl (fun x k => min x (pr.at' out k)) x = (L.drop (k + 1)).foldl (fun x k => min x (pr.at' out k)) (min x (pr.at' out y)) := by
  rw [va.drop_step h]; rfl
theorem foldmax_step {out L : List Int} {k : Nat} {y : Int} (h : L[k]? = some y) (x : Int) : (L.drop k).foldl (fun x k => max x (pr.at' out k)) x = (L.drop (k + 1)).foldl (fun x k => max x (pr.at' out k)) (max x (pr.at' out y)) := by
  rw [va.drop_step h]; rfl

set_option maxRecDepth 100000 in
set_option maxHeartbeats 4000000 in
theorem refeval_any (w : World) (A : Option Addr) (n c : Nat) (l : List pr.Nd) (A' : Option Addr) (m c' : Nat) (r : List va.Val)
    (hl : l.length = n) (hn : 1 ≤ n ∧ n ≤ 1000) (hr : Row w w.heap.size A (ncs l)) (hh : ∀ n ∈ l, Has w w.heap.size n) (hl' : r.length = m) (hm : m ≤ 9223372036854775807) (hr' : Row w w.heap.size A' (vcs r))
    (hf : ∀ j n, l[j]? = some n → pr.Fine m j n) :
    Calls Tryd.prog 19 #[.slice A n c, .slice A' m c'] w fun e w' => e = .returned (.int .i64 (pr.evalV l r)) ∧ Below w.heap.size w w' := by
  have HL := hide hl
  have HR := hide hr
  have HH := hide hh
  have HL' := hide hl'
  have HR' := hide hr'
  have HF := hide hf
  obtain ⟨ans, hans⟩ : ∃ a, pr.evalGo r [] l = a := ⟨_, rfl⟩
  have HA := hide (show pr.evalGo r [] (l.drop 0) = ans by rw [List.drop_zero]; exact hans)
  have HE := hide (show pr.evalV l r = pr.at' ans ((n : Int) - 1) by unfold pr.evalV; rw [hans, hl])
  rw [HE.out]
  clear hl hr hh hl' hr' hf hans
  go_enter Tryd.func19, Tryd.ntmps19
  go_wp2_with fail
  go_loopw [5, 6] (fun s i wr => ∃ (j cs : Nat) (As : Option Addr) (out : List Int), i = .int .i64 j ∧ j ≤ n ∧ s = .slice As j cs ∧ Hid (pr.Three out) ∧ Hid (wr.ownsRow w.heap.size 3 1 (.slice As j cs) j (ints out)) ∧ Hid (pr.evalGo r out (l.drop j) = ans) ∧ Hid (Le w wr)) (fun _ i _ => n - (intOf i).toNat)
  case atStart => exact ⟨0, 0, _, [], rfl, Nat.zero_le _, rfl, hide (by intro x hx; cases hx), hide (World.ownsRow_lit _ #[] 0 (Nat.le_refl _) (by simp) rfl), HA, hide ((Below.refl _ _).alloc (Nat.le_refl _) _)⟩
  case round =>
    obtain ⟨j, cs, As, out, rfl, hj, rfl, H3, HO, HG, HB⟩ := hrel
    have hzB := HB.out.size
    by_cases hjn : j < n
    · obtain ⟨nd, hnd⟩ : ∃ nd, l[j]? = some nd := ⟨_, List.getElem?_eq_getElem (by rw [HL.out]; exact hjn)⟩
      obtain ⟨bA, oA, rfl, hbA, -, hcl⟩ := row_nd HR.out hnd
      have HFN := hide (HF.out j nd hnd)
      have HND := hide (((HH.out nd (List.mem_of_getElem? hnd)).on HB.out (Nat.le_refl _)).more HB.out.size)
      have HEV := hide (show pr.evalGo r (out ++ [pr.nodeV r out nd]) (l.drop (j + 1)) = ans by rw [← pr.eval_step hnd]; exact HG.out)
      have HX3 := hide (pr.three_snoc H3.out (pr.node_three (r := r) (n := nd) H3.out))
      have hcw : ∀ (i : Nat) u, nd.cells[i]? = some u → wr.cell? ⟨bA, oA + j * 7 + i, none⟩ = some u := fun i u hu => (HB.out.cell (p := ⟨bA, oA + j * 7 + i, none⟩) hbA).trans (hcl i u hu)
      have c0 := hcw 0 _ rfl
      have c1 := hcw 1 _ rfl
      have c2 := hcw 2 _ rfl
      have c3 := hcw 3 _ rfl
      have c4 := hcw 4 _ rfl
      have c5 := hcw 5 _ rfl
      have c6 := hcw 6 _ rfl
      rw [Nat.add_zero] at c0
      obtain ⟨X, hX, bX, hbX⟩ := nd_box2 wr #[.int .i64 0, .int .i64 0, .bool false, .int .i64 0, .string ⟨#[]⟩, .slice none 0 0, .slice none 0 0] 45 nd
      have HXX := hide hX
      have BN := hide bX
      have HLX := hide (show Le w X from HB.out.trans hbX)
      have HOX := hide (own_below HO.out hbX)
      have HNX := hide ((HND.out.on hbX (Nat.le_refl _)).more hbX.size)
      have hnj : (j : Int) < n := by omega
      have hlen : out.length = j := by have := HO.out.1; simp [ints] at this; omega
      have HLEN := hide hlen
      obtain ⟨val, hval⟩ : ∃ v, pr.nodeV r out nd = v := ⟨_, rfl⟩
      have HVAL := hide hval
      rw [hval] at HEV HX3
      have hone := nd_one nd
      clear hnd hcl hcw hX bX hbX HG hval hlen
      obtain ⟨op, col, ⟨un, ui, us⟩, vA, vn, vc, vals, lA, ln, lc, L⟩ := nd
      simp only [pr.Nd.cells] at c0 c1 c2 c3 c4 c5 c6 HXX BN hone
      go_upto_region 6 with (refine wpList_store_row rfl 45 _ _ rfl wr.heap.size _ rfl rfl 45 _ (box_new _ _ _) (by kernel_rfl) rfl hone ?_)
      rw [HXX.out]
      clear c0 c1 c2 c3 c4 c5 c6
      have c0 := BN.out.cell 0 (.int .i64 op) rfl
      have c1 := BN.out.cell 1 (.int .i64 col) rfl
      have c2 := BN.out.cell 2 (.bool un) rfl
      have c3 := BN.out.cell 3 (.int .i64 ui) rfl
      have c4 := BN.out.cell 4 (.string us) rfl
      have c5 := BN.out.cell 5 (.slice vA vn vc) rfl
      have c6 := BN.out.cell 6 (.slice lA ln lc) rfl
      have hlnb : ln ≤ 9223372036854775807 := HNX.out.2.2.2.2.1
      have HLN := hide (show L.length = ln from HNX.out.2.2.2.1)
      have HRL := hide (show Row X X.heap.size lA (L.map (Value.int .i64)) from HNX.out.2.2.2.2.2.1)
      by_cases h1 : op = 1
      · subst h1
        have hv : L.foldl (fun x k => min x (pr.at' out k)) 2 = val := by
          rw [← HVAL.out]; rfl
        have HV0 := hide (show (L.drop 0).foldl (fun x k => min x (pr.at' out k)) 2 = val by rw [List.drop_zero]; exact hv)
        have HALL := hide (HFN.out.1 (by rfl)).2.2
        clear hv HVAL HFN
        go_wp2_with fail
        clear c0 c1 c2 c3 c4 c5 c6
        go_loopw [8, 9] (fun x i wx => ∃ (k : Nat) (y : Int), i = .int .i64 k ∧ k ≤ ln ∧ x = .int .i64 y ∧ Hid ((L.drop k).foldl (fun x k => min x (pr.at' out k)) y = val) ∧ Hid (Le X wx)) (fun _ i _ => ln - (intOf i).toNat)
        case atStart => exact ⟨0, 2, rfl, Nat.zero_le _, rfl, HV0, hide (Below.refl _ _)⟩
        case round =>
          obtain ⟨k, y, rfl, hk, rfl, HFY, HLX2⟩ := hrel
          have c6 := (BN.out.below HLX2.out BN.out.lt).cell 6 (.slice lA ln lc) rfl
          by_cases hkl : k < ln
          · obtain ⟨y2, hy2⟩ : ∃ y2, L[k]? = some y2 := ⟨_, List.getElem?_eq_getElem (by rw [HLN.out]; exact hkl)⟩
            have hyb := HALL.out y2 (List.mem_of_getElem? hy2)
            obtain ⟨b2, rfl⟩ : ∃ b : Nat, y2 = b := ⟨y2.toNat, by omega⟩
            have hb2 : (b2 : Int) < j := hyb.2
            have hb20 : (0 : Int) ≤ (b2 : Int) := hyb.1
            obtain ⟨z2, hz2⟩ : ∃ z, out[b2]? = some z := ⟨_, List.getElem?_eq_getElem (by rw [HLEN.out]; omega)⟩
            have hzat : pr.at' out (b2 : Int) = z2 := by
              unfold pr.at'
              rw [show ((b2 : Int)).toNat = b2 by omega, List.getD_eq_getElem?_getD, hz2]; rfl
            have HFS := hide (show (L.drop (k + 1)).foldl (fun x k => min x (pr.at' out k)) (min y z2) = val by
              have h := HFY.out
              rw [foldmin_step hy2, hzat] at h
              exact h)
            have hrk : (L.map (Value.int .i64))[k]? = some (.int .i64 b2) := by rw [List.getElem?_map, hy2]; rfl
            obtain ⟨bM, oM, rfl, hbM, cm⟩ := HRL.out.at_ hrk
            obtain ⟨bP, oP, rfl, hbP, cp⟩ := (Row.of_own HOX.out).at_ (ints_at hz2)
            have hkl' : (k : Int) < (ln : Int) := by omega
            have e0 : wr.cell? ⟨bM, oM + k, none⟩ = some (.int .i64 b2) := (HLX2.out.cell (p := ⟨bM, oM + k, none⟩) hbM).trans cm
            have e1 : wr.cell? ⟨bP, oP + b2, none⟩ = some (.int .i64 z2) := (HLX2.out.cell (p := ⟨bP, oP + b2, none⟩) hbP).trans cp
            clear cm cp hz2 hzat hrk hy2 HFY hyb
            go_wp2_with fail
            exact ⟨⟨k + 1, _, by go_num, by omega, rfl, HFS, HLX2⟩, by simp [intOf]; omega⟩
          · obtain rfl : k = ln := by omega
            have HVE := hide (show y = val by
              have h := HFY.out
              rw [List.drop_eq_nil_of_le (by rw [HLN.out]; exact Nat.le_refl _)] at h
              exact h)
            have HO1 := hide (own_below HOX.out HLX2.out)
            have HL1 := hide (show Le w wr from HLX.out.trans HLX2.out)
            have hz1 := HL1.out.size
            go_wp2_with (at_builtin; refine wpList_append_row _ rfl (.tmp 75) (.tmp 77) 24 rfl w.heap.size 3 infoI Tryd.underlying24 rfl (by omega) (.slice As j cs) j _ rfl (HO1.out.alloc _) _ (some ⟨wr.heap.size, 0, none⟩) 1 1 [.int .i64 y] rfl rfl (row_new wr #[.int .i64 y] _ (0, 0)) (one_int _ _) (by simp only [maxLen]; omega) (by omega) (by simp; omega) ?_; intro v' w' hown' hg hat; obtain ⟨A1, c1, rfl, -, -⟩ := own_form hown'; have HO' := hide hown'; have HG := hide hg; clear hown' hg hat)
            have HB' := hide (show Below w.heap.size w w' from Below.trans (HL1.out.alloc hz1 _) (below_own HG.out (Nat.le_refl _) (by simp; omega) (fun g h => own_ge HO1.out h (Nat.le_refl _))))
            exact ⟨⟨j + 1, c1, A1, out ++ [val], by go_num, by omega, rfl, HX3, hide (by rw [ints_snoc, ← HVE.out]; exact HO'.out), HEV, HB'⟩, by simp [intOf]; omega⟩
      · have h1' : (op == 1) = false := by simpa using h1
        by_cases h2 : op = 2
        · subst h2
          have hv : L.foldl (fun x k => max x (pr.at' out k)) 0 = val := by
            rw [← HVAL.out]; rfl
          have HV0 := hide (show (L.drop 0).foldl (fun x k => max x (pr.at' out k)) 0 = val by rw [List.drop_zero]; exact hv)
          have HALL := hide (HFN.out.1 (by rfl)).2.2
          clear hv HVAL HFN
          go_wp2_with fail
          clear c0 c1 c2 c3 c4 c5 c6
          go_loopw [8, 10] (fun x i wx => ∃ (k : Nat) (y : Int), i = .int .i64 k ∧ k ≤ ln ∧ x = .int .i64 y ∧ Hid ((L.drop k).foldl (fun x k => max x (pr.at' out k)) y = val) ∧ Hid (Le X wx)) (fun _ i _ => ln - (intOf i).toNat)
          case atStart => exact ⟨0, 0, rfl, Nat.zero_le _, rfl, HV0, hide (Below.refl _ _)⟩
          case round =>
            obtain ⟨k, y, rfl, hk, rfl, HFY, HLX2⟩ := hrel
            have c6 := (BN.out.below HLX2.out BN.out.lt).cell 6 (.slice lA ln lc) rfl
            by_cases hkl : k < ln
            · obtain ⟨y2, hy2⟩ : ∃ y2, L[k]? = some y2 := ⟨_, List.getElem?_eq_getElem (by rw [HLN.out]; exact hkl)⟩
              have hyb := HALL.out y2 (List.mem_of_getElem? hy2)
              obtain ⟨b2, rfl⟩ : ∃ b : Nat, y2 = b := ⟨y2.toNat, by omega⟩
              have hb2 : (b2 : Int) < j := hyb.2
              have hb20 : (0 : Int) ≤ (b2 : Int) := hyb.1
              obtain ⟨z2, hz2⟩ : ∃ z, out[b2]? = some z := ⟨_, List.getElem?_eq_getElem (by rw [HLEN.out]; omega)⟩
              have hzat : pr.at' out (b2 : Int) = z2 := by
                unfold pr.at'
                rw [show ((b2 : Int)).toNat = b2 by omega, List.getD_eq_getElem?_getD, hz2]; rfl
              have HFS := hide (show (L.drop (k + 1)).foldl (fun x k => max x (pr.at' out k)) (max y z2) = val by
                have h := HFY.out
                rw [foldmax_step hy2, hzat] at h
                exact h)
              have hrk : (L.map (Value.int .i64))[k]? = some (.int .i64 b2) := by rw [List.getElem?_map, hy2]; rfl
              obtain ⟨bM, oM, rfl, hbM, cm⟩ := HRL.out.at_ hrk
              obtain ⟨bP, oP, rfl, hbP, cp⟩ := (Row.of_own HOX.out).at_ (ints_at hz2)
              have hkl' : (k : Int) < (ln : Int) := by omega
              have e0 : wr.cell? ⟨bM, oM + k, none⟩ = some (.int .i64 b2) := (HLX2.out.cell (p := ⟨bM, oM + k, none⟩) hbM).trans cm
              have e1 : wr.cell? ⟨bP, oP + b2, none⟩ = some (.int .i64 z2) := (HLX2.out.cell (p := ⟨bP, oP + b2, none⟩) hbP).trans cp
              clear cm cp hz2 hzat hrk hy2 HFY hyb
              go_wp2_with fail
              exact ⟨⟨k + 1, _, by go_num, by omega, rfl, HFS, HLX2⟩, by simp [intOf]; omega⟩
            · obtain rfl : k = ln := by omega
              have HVE := hide (show y = val by
                have h := HFY.out
                rw [List.drop_eq_nil_of_le (by rw [HLN.out]; exact Nat.le_refl _)] at h
                exact h)
              have HO1 := hide (own_below HOX.out HLX2.out)
              have HL1 := hide (show Le w wr from HLX.out.trans HLX2.out)
              have hz1 := HL1.out.size
              go_wp2_with (at_builtin; refine wpList_append_row _ rfl (.tmp 75) (.tmp 77) 24 rfl w.heap.size 3 infoI Tryd.underlying24 rfl (by omega) (.slice As j cs) j _ rfl (HO1.out.alloc _) _ (some ⟨wr.heap.size, 0, none⟩) 1 1 [.int .i64 y] rfl rfl (row_new wr #[.int .i64 y] _ (0, 0)) (one_int _ _) (by simp only [maxLen]; omega) (by omega) (by simp; omega) ?_; intro v' w' hown' hg hat; obtain ⟨A1, c1, rfl, -, -⟩ := own_form hown'; have HO' := hide hown'; have HG := hide hg; clear hown' hg hat)
              have HB' := hide (show Below w.heap.size w w' from Below.trans (HL1.out.alloc hz1 _) (below_own HG.out (Nat.le_refl _) (by simp; omega) (fun g h => own_ge HO1.out h (Nat.le_refl _))))
              exact ⟨⟨j + 1, c1, A1, out ++ [val], by go_num, by omega, rfl, HX3, hide (by rw [ints_snoc, ← HVE.out]; exact HO'.out), HEV, HB'⟩, by simp [intOf]; omega⟩
        · have h2' : (op == 2) = false := by simpa using h2
          by_cases h3 : op = 3
          · subst h3
            have hq1 := HFN.out.1 (by rfl)
            obtain ⟨k0, t, hL⟩ : ∃ k0 t, L = k0 :: t := by
              cases L with
              | nil => simp at hq1
              | cons a t => exact ⟨a, t, rfl⟩
            have hk0 := hq1.2.2 k0 (by rw [hL]; exact List.mem_cons_self)
            obtain ⟨a0, rfl⟩ : ∃ a : Nat, k0 = a := ⟨k0.toNat, by omega⟩
            have ha0 : (a0 : Int) < j := hk0.2
            have ha00 : (0 : Int) ≤ (a0 : Int) := hk0.1
            obtain ⟨z, hz⟩ : ∃ z, out[a0]? = some z := ⟨_, List.getElem?_eq_getElem (by rw [HLEN.out]; omega)⟩
            have hzat : pr.at' out (a0 : Int) = z := by
              unfold pr.at'
              rw [show ((a0 : Int)).toNat = a0 by omega, List.getD_eq_getElem?_getD, hz]; rfl
            have hz3 : 0 ≤ z ∧ z ≤ 2 := by rw [← hzat]; exact pr.at_three H3.out _
            obtain ⟨bO, oO, rfl, hbO, co⟩ := (Row.of_own HOX.out).at_ (ints_at hz)
            have hL0 : (L.map (Value.int .i64))[0]? = some (.int .i64 a0) := by rw [hL]; rfl
            obtain ⟨bL, oL, rfl, hbL, cl⟩ := HRL.out.at_ hL0
            have hln1 : 1 ≤ ln := by rw [← HLN.out]; exact hq1.1
            have hln0 : (0 : Int) < ln := by omega
            rw [Nat.add_zero] at cl
            have hwz : IntKind.i64.wrap (2 - z) = 2 - z := by rw [IntKind.wrap_i64]; omega
            have HVE := hide (show 2 - z = val by
              rw [← HVAL.out, ← hzat, hL]; rfl)
            have HO1 := HOX
            have HL1 := HLX
            clear hq1 hk0 hz hzat HVAL HFN hL hL0
            have hz1 := HL1.out.size
            go_wp2_with (at_builtin; refine wpList_append_row _ rfl (.tmp 75) (.tmp 77) 24 rfl w.heap.size 3 infoI Tryd.underlying24 rfl (by omega) (.slice (some ⟨bO, oO, none⟩) j cs) j _ rfl (HO1.out.alloc _) _ (some ⟨X.heap.size, 0, none⟩) 1 1 [.int .i64 (2 - z)] rfl rfl (row_new X #[.int .i64 (2 - z)] _ (0, 0)) (one_int _ _) (by simp only [maxLen]; omega) (by omega) (by simp; omega) ?_; intro v' w' hown' hg hat; obtain ⟨A1, c1, rfl, -, -⟩ := own_form hown'; have HO' := hide hown'; have HG := hide hg; clear hown' hg hat)
            have HB' := hide (show Below w.heap.size w w' from Below.trans (HL1.out.alloc hz1 _) (below_own HG.out (Nat.le_refl _) (by simp; omega) (fun g h => own_ge HO1.out h (Nat.le_refl _))))
            exact ⟨⟨j + 1, c1, A1, out ++ [val], by go_num, by omega, rfl, HX3, hide (by rw [ints_snoc, ← HVE.out]; exact HO'.out), HEV, HB'⟩, by simp [intOf]; omega⟩
          · have h3' : (op == 3) = false := by simpa using h3
            have hq : pr.isN op = false := by unfold pr.isN; simp [h1, h2, h3]
            have hq4 := HFN.out.2 hq
            have hlv := HVAL.out
            rw [nodeV_leaf hq] at hlv
            go_wp2_with fail
            refine (refleaf_any X ⟨op, col, ⟨un, ui, us⟩, vA, vn, vc, vals, lA, ln, lc, L⟩ A' m c' r ⟨hq4.1, hq4.2.1⟩ hq4.2.2 HL'.out hm HNX.out.1 HNX.out.2.1 ((HLX.out.row HR'.out (Nat.le_refl _)).more HLX.out.size) HNX.out.2.2.1).mono ?_
            rintro e w1 ⟨rfl, hb1⟩
            rw [hlv]
            have HL1 := hide (show Le w w1 from HLX.out.trans hb1)
            have HO1 := hide (own_below HOX.out hb1)
            clear hb1 hq4 hlv c0 c1 c2 c3 c4 c5 c6 hq
            have hz1 := HL1.out.size
            go_wp2_with (at_builtin; refine wpList_append_row _ rfl (.tmp 75) (.tmp 77) 24 rfl w.heap.size 3 infoI Tryd.underlying24 rfl (by omega) (.slice As j cs) j _ rfl (HO1.out.alloc _) _ (some ⟨w1.heap.size, 0, none⟩) 1 1 [.int .i64 val] rfl rfl (row_new w1 #[.int .i64 val] _ (0, 0)) (one_int _ _) (by simp only [maxLen]; omega) (by omega) (by simp; omega) ?_; intro v' w' hown' hg hat; obtain ⟨A1, c1, rfl, -, -⟩ := own_form hown'; have HO' := hide hown'; have HG := hide hg; clear hown' hg hat)
            have HB' := hide (show Below w.heap.size w w' from Below.trans (HL1.out.alloc hz1 _) (below_own HG.out (Nat.le_refl _) (by simp; omega) (fun g h => own_ge HO1.out h (Nat.le_refl _))))
            exact ⟨⟨j + 1, c1, A1, out ++ [val], by go_num, by omega, rfl, HX3, hide (by rw [ints_snoc]; exact HO'.out), HEV, HB'⟩, by simp [intOf]; omega⟩
    · obtain rfl : j = n := by omega
      have hend := HG.out
      rw [List.drop_eq_nil_of_le (by rw [HL.out]; exact Nat.le_refl _)] at hend
      have hlen : out.length = j := by have := HO.out.1; simp [ints] at this; omega
      have hoa : out = ans := hend
      obtain ⟨z, hz⟩ : ∃ z, out[j - 1]? = some z := ⟨_, List.getElem?_eq_getElem (by omega)⟩
      have HZ := hide (show pr.at' ans ((j : Int) - 1) = z by
        unfold pr.at'
        rw [← hoa, show ((j : Int) - 1).toNat = j - 1 by omega, List.getD_eq_getElem?_getD, hz]; rfl)
      obtain ⟨bO, oO, rfl, hbO, co⟩ := (Row.of_own HO.out).at_ (ints_at hz)
      obtain ⟨j', rfl⟩ : ∃ j' : Nat, j = j' + 1 := ⟨j - 1, by omega⟩
      rw [show j' + 1 - 1 = j' by omega] at co
      have hw1 : ((j' + 1 : Nat) : Int) - 1 = (j' : Int) := by omega
      have hw2 : IntKind.i64.wrap (j' : Int) = (j' : Int) := by rw [IntKind.wrap_i64]; omega
      have hlt : (j' : Int) < ((j' + 1 : Nat) : Int) := by omega
      clear hz hoa hend hlen
      go_wp2_with fail
      go_ret
      rw [HZ.out]
      exact ⟨rfl, HB.out⟩
#print axioms refeval_any
end Go.Proofs.YtjedpjfmlaganaaDoor
