/-
  What is known of values, walked: by the document, of any values.
-/
import Derived.Test.YtklgmojojgoaeaaDoorOuP
import Derived.Deep.Cut
namespace Go.Proofs.YtklgmojojgoaeaaDoor
open Go.RowKit
set_option linter.unusedVariables false

theorem infoN : (Tryd.prog.info? 3).map (fun i => (i.zero, i.size, i.bytes)) = some (some (.int .i64 0), 1, 8) := by kernel_rfl
theorem nis_append (l : List Int) (x : Int) : nis (l ++ [x]) = nis l ++ [.int .i64 x] := by simp [nis]

set_option maxRecDepth 100000 in
set_option maxHeartbeats 2000000 in
theorem refof_any (w : World) (k : Int) (A : Option Addr) (n c : Nat) (l : List va.Val) (hl : l.length = n) (hn : n ≤ 600) (hin : ∀ v ∈ l, st.In v.n) (hr : Row w w.heap.size A (vcs l)) :
    Calls Tryd.prog 19 #[.int .i64 k, .slice A n c] w fun e w' => e = .returned (.agg (st.cells (st.of k l))) ∧ Below w.heap.size w w' := by
  have HL := hide hl
  have HIN := hide hin
  clear hl hin
  go_enter Tryd.func19, Tryd.ntmps19
  go_wp2_with fail
  obtain ⟨W, hW, h4, h5, h6, hb, hz⟩ := box3 w (st.cells stz) (st.cells (st.ofAcc st.start)) #[] 47 47 3
  have hW' : ((w.alloc (.cells #[.int .i64 0, .bool false, .bool false, .int .i64 0, .string ⟨#[]⟩, .bool false, .int .i64 0, .string ⟨#[]⟩, .int .i64 0, .bool false] 47)).alloc (.cells #[.int .i64 0, .bool false, .bool true, .int .i64 0, .string ⟨#[]⟩, .bool true, .int .i64 0, .string ⟨#[]⟩, .int .i64 0, .bool false] 47)).alloc (.cells #[] 3) = W := hW
  have hown : W.ownsRow (w.heap.size + 1 + 1) 3 1 (.slice (some ⟨w.heap.size + 1 + 1, 0, none⟩) 0 0) 0 (nis []) := by
    have h := World.ownsRow_lit (base := w.heap.size + 1 + 1) (e := 3) (size := 1) ((w.alloc (.cells (st.cells stz) 47)).alloc (.cells (st.cells (st.ofAcc st.start)) 47)) #[] 0 (by simp) (by simp) rfl
    rw [hW] at h
    have e : ((w.alloc (.cells (st.cells stz) 47)).alloc (.cells (st.cells (st.ofAcc st.start)) 47)).heap.size = w.heap.size + 1 + 1 := by simp
    rw [e] at h
    exact h
  rw [hW']
  have H4 := hide h4
  have H5 := hide h5
  have HOW := hide hown
  have HBW := hide hb
  clear hW hW' h4 h5 h6 hb hown
  go_loopw [6, 7] (fun s i wr => ∃ (j m cs : Nat) (As : Option Addr), j ≤ n ∧ m ≤ j ∧ i = .int .i64 j ∧ s = .slice As m cs ∧ Hid (Box wr w.heap.size (st.cells stz) 47) ∧ Hid (Box wr (w.heap.size + 1) (st.cells (st.ofAcc (st.acc (l.take j)))) 47) ∧
    Hid ((st.nums (l.take j)).length = m) ∧ Hid (wr.ownsRow (w.heap.size + 1 + 1) 3 1 (.slice As m cs) m (nis (st.nums (l.take j)))) ∧ Hid (Below w.heap.size w wr)) (fun _ i _ => n - (intOf i).toNat)
  case atStart => exact ⟨0, 0, 0, _, Nat.zero_le _, Nat.le_refl _, rfl, rfl, H4, H5, hide rfl, HOW, HBW⟩
  case round =>
    obtain ⟨j, m, cs, As, hj, hm, rfl, rfl, B4, B5, HM, HO, HB⟩ := hrel
    have HTA := hide (acc_t (l := l.take j) (n := j) (by rw [List.length_take]; omega) (by omega) (fun v hv => HIN.out v (List.mem_of_mem_take hv)))
    have hz5 := B5.out.lt
    have hz4 := B4.out.lt
    by_cases hjn : j < n
    · obtain ⟨v, hv⟩ : ∃ v, l[j]? = some v := ⟨_, List.getElem?_eq_getElem (by rw [HL.out]; exact hjn)⟩
      obtain ⟨bA, oA, rfl, hbA, c0, c1, c2⟩ := row_at3 hr hv
      have e0 : wr.cell? ⟨bA, oA + j * 3, none⟩ = some (.bool v.nul) := (HB.out.cell (p := ⟨bA, oA + j * 3, none⟩) hbA).trans c0
      have e1 : wr.cell? ⟨bA, oA + j * 3 + 1, none⟩ = some (.int .i64 v.n) := (HB.out.cell (p := ⟨bA, oA + j * 3 + 1, none⟩) hbA).trans c1
      have e2 : wr.cell? ⟨bA, oA + j * 3 + 2, none⟩ = some (.string v.s) := (HB.out.cell (p := ⟨bA, oA + j * 3 + 2, none⟩) hbA).trans c2
      have HACC := hide (st.acc_snoc hv)
      have HOK := hide (st.ok_acc (l.take j))
      cases hvn : v.nul with
      | true =>
        rw [hvn] at e0
        have HOF := hide (ofAcc_nul (a := st.acc (l.take j)) hvn)
        have HNU := hide (st.nums_nul hv hvn)
        generalize hA : st.acc (l.take j) = a at B5 HTA HACC HOF HOK
        have d1 := B5.out.cell 1 (.bool a.hn) rfl
        have f1 := B5.out.frozen 1
        clear c0 c1 c2 hv hA
        go_wp2_with fail
        have hno4 : (⟨w.heap.size + 1, 1, none⟩ : Addr).block ≠ w.heap.size := by simp
        refine ⟨⟨j + 1, m, cs, As, by omega, by omega, by go_num, rfl, hide ((B4.out.other hno4 _).alloc _), hide ?_, hide (by rw [HNU.out]; exact HM.out), hide ?_, hide ((HB.out.setCell (by simp) _).alloc (by simp; omega) _)⟩, by simp [intOf]; omega⟩
        · rw [HACC.out, HOF.out]
          exact (B5.out.set 1 _).alloc _
        · rw [HNU.out]
          exact (own_other HO.out (by simp) _).alloc _
      | false =>
        rw [hvn] at e0
        have HST := hide (st.step_some (a := st.acc (l.take j)) hvn)
        have HNU := hide (st.nums_some hv hvn)
        have HVIN := hide (HIN.out v (List.mem_of_getElem? hv))
        generalize hA : st.acc (l.take j) = a at B5 HTA HACC HST HOK
        obtain ⟨X, hX⟩ : ∃ X, wr.alloc (.cells #[.bool false, .int .i64 v.n, .string v.s] 38) = X := ⟨_, rfl⟩
        have bX := box_new wr #[.bool false, .int .i64 v.n, .string v.s] 38
        rw [hX] at bX
        have B4X := hide (show Box X w.heap.size (st.cells stz) 47 by rw [← hX]; exact B4.out.alloc _)
        have B5X := hide (show Box X (w.heap.size + 1) (st.cells (st.ofAcc a)) 47 by rw [← hX]; exact B5.out.alloc _)
        have HOX := hide (show X.ownsRow (w.heap.size + 1 + 1) 3 1 (.slice As m cs) m (nis (st.nums (l.take j))) by rw [← hX]; exact HO.out.alloc _)
        have HBX := hide (show Below w.heap.size w X by rw [← hX]; exact HB.out.alloc (by omega) _)
        have hXz : X.heap.size = wr.heap.size + 1 := by rw [← hX]; simp
        have HX := hide hX
        have BX := hide bX
        have HVN := hide hvn
        clear c0 c1 c2 hv hX bX hA hvn
        obtain ⟨ac, ahn, ⟨mn, mi, ms⟩, ⟨xn, xi, xs⟩, at_⟩ := a
        obtain ⟨vn, vi, vs⟩ := v
        obtain rfl : vn = false := HVN.out
        simp only [st.cells, st.ofAcc] at B5X BX
        have B4h := B4X
        have B5h := hide (show Box X (w.heap.size + 1) #[.int .i64 (ac : Int), .bool ahn, .bool mn, .int .i64 mi, .string ms, .bool xn, .int .i64 xi, .string xs, .int .i64 0, .bool false] 47 from B5X.out)
        have BXh := BX
        have HOh := HOX
        have HBh := HBX
        have hgx := hz5
        clear B4X B5X BX HOX HBX B4 B5 HO HB hz4 hz5
        go_upto_region 9 with fail
        rw [HX.out]
        clear HX e0 e1 e2 hXz
        have HST2 := hide (show st.step ⟨ac, ahn, ⟨mn, mi, ms⟩, ⟨xn, xi, xs⟩, at_⟩ ⟨false, vi, vs⟩ = ⟨ac + 1, ahn, st.low ⟨mn, mi, ms⟩ ⟨false, vi, vs⟩, st.high ⟨xn, xi, xs⟩ ⟨false, vi, vs⟩, at_ + vi⟩ from HST.out)
        by_cases hc0 : ac = 0
        · subst hc0
          have hnn := HOK.out.1 rfl
          simp only at hnn
          obtain ⟨rfl, rfl⟩ := hnn
          have HL1 := hide (show st.low ⟨true, mi, ms⟩ ⟨false, vi, vs⟩ = ⟨false, vi, vs⟩ from rfl)
          have HL2 := hide (show st.high ⟨true, xi, xs⟩ ⟨false, vi, vs⟩ = ⟨false, vi, vs⟩ from rfl)
          have d0 := B5h.out.cell 0 (.int .i64 ((0 : Nat) : Int)) rfl
          have d2 := B5h.out.cell 2 (.bool true) rfl
          have d3 := B5h.out.cell 3 (.int .i64 mi) rfl
          have d4 := B5h.out.cell 4 (.string ms) rfl
          have d5 := B5h.out.cell 5 (.bool true) rfl
          have d6 := B5h.out.cell 6 (.int .i64 xi) rfl
          have d7 := B5h.out.cell 7 (.string xs) rfl
          have f0 := B5h.out.frozen 0
          have f2 := B5h.out.frozen 2
          have f3 := B5h.out.frozen 3
          have f4 := B5h.out.frozen 4
          have f5 := B5h.out.frozen 5
          have f6 := B5h.out.frozen 6
          have f7 := B5h.out.frozen 7
          have x0 := BXh.out.cell 0 (.bool false) rfl
          have x1 := BXh.out.cell 1 (.int .i64 vi) rfl
          have x2 := BXh.out.cell 2 (.string vs) rfl
          have hz5 := B5h.out.lt
          have hzx := BXh.out.lt
          go_upto_region 11 with fail
          obtain ⟨Y, hY⟩ : ∃ Y, (((X.setCell ⟨w.heap.size + 1, 2, none⟩ (.bool false)).setCell ⟨w.heap.size + 1, 3, none⟩ (.int .i64 vi)).setCell ⟨w.heap.size + 1, 4, none⟩ (.string vs)) = Y := ⟨_, rfl⟩
          rw [hY]
          have b4 := hide (show Box Y w.heap.size (st.cells stz) 47 by rw [← hY]; exact (((B4h.out.other (by simp) _).other (by simp) _).other (by simp) _))
          have b5 := hide (show Box Y (w.heap.size + 1) #[.int .i64 ((0 : Nat) : Int), .bool ahn, .bool false, .int .i64 vi, .string vs, .bool true, .int .i64 xi, .string xs, .int .i64 0, .bool false] 47 by rw [← hY]; exact (((B5h.out.set 2 _).set 3 _).set 4 _))
          have bx := hide (show Box Y wr.heap.size #[.bool false, .int .i64 vi, .string vs] 38 by rw [← hY]; exact (((BXh.out.other (by simp; omega) _).other (by simp; omega) _).other (by simp; omega) _))
          have ho := hide (show Y.ownsRow (w.heap.size + 1 + 1) 3 1 (.slice As m cs) m (nis (st.nums (l.take j))) by rw [← hY]; exact (own_other (own_other (own_other HOh.out (by simp) _) (by simp) _) (by simp) _))
          have hbb := hide (show Below w.heap.size w Y by rw [← hY]; exact (((HBh.out.setCell (Nat.le_succ _) _).setCell (Nat.le_succ _) _).setCell (Nat.le_succ _) _))
          clear d0 d2 d3 d4 d5 d6 d7 f0 f2 f3 f4 f5 f6 f7 x0 x1 x2 hz5 hzx
          clear hY B4h B5h BXh HOh HBh
          have B4h := b4
          have B5h := b5
          have BXh := bx
          have HOh := ho
          have HBh := hbb
          clear b4 b5 bx ho hbb
          have d0 := B5h.out.cell 0 (.int .i64 ((0 : Nat) : Int)) rfl
          have d2 := B5h.out.cell 2 (.bool false) rfl
          have d3 := B5h.out.cell 3 (.int .i64 vi) rfl
          have d4 := B5h.out.cell 4 (.string vs) rfl
          have d5 := B5h.out.cell 5 (.bool true) rfl
          have d6 := B5h.out.cell 6 (.int .i64 xi) rfl
          have d7 := B5h.out.cell 7 (.string xs) rfl
          have f0 := B5h.out.frozen 0
          have f2 := B5h.out.frozen 2
          have f3 := B5h.out.frozen 3
          have f4 := B5h.out.frozen 4
          have f5 := B5h.out.frozen 5
          have f6 := B5h.out.frozen 6
          have f7 := B5h.out.frozen 7
          have x0 := BXh.out.cell 0 (.bool false) rfl
          have x1 := BXh.out.cell 1 (.int .i64 vi) rfl
          have x2 := BXh.out.cell 2 (.string vs) rfl
          have hz5 := B5h.out.lt
          have hzx := BXh.out.lt
          go_upto_region 13 with fail
          obtain ⟨Y2, hY2⟩ : ∃ Y2, (((Y.setCell ⟨w.heap.size + 1, 5, none⟩ (.bool false)).setCell ⟨w.heap.size + 1, 6, none⟩ (.int .i64 vi)).setCell ⟨w.heap.size + 1, 7, none⟩ (.string vs)) = Y2 := ⟨_, rfl⟩
          rw [hY2]
          have b4 := hide (show Box Y2 w.heap.size (st.cells stz) 47 by rw [← hY2]; exact (((B4h.out.other (by simp) _).other (by simp) _).other (by simp) _))
          have b5 := hide (show Box Y2 (w.heap.size + 1) #[.int .i64 ((0 : Nat) : Int), .bool ahn, .bool false, .int .i64 vi, .string vs, .bool false, .int .i64 vi, .string vs, .int .i64 0, .bool false] 47 by rw [← hY2]; exact (((B5h.out.set 5 _).set 6 _).set 7 _))
          have bx := hide (show Box Y2 wr.heap.size #[.bool false, .int .i64 vi, .string vs] 38 by rw [← hY2]; exact (((BXh.out.other (by simp; omega) _).other (by simp; omega) _).other (by simp; omega) _))
          have ho := hide (show Y2.ownsRow (w.heap.size + 1 + 1) 3 1 (.slice As m cs) m (nis (st.nums (l.take j))) by rw [← hY2]; exact (own_other (own_other (own_other HOh.out (by simp) _) (by simp) _) (by simp) _))
          have hbb := hide (show Below w.heap.size w Y2 by rw [← hY2]; exact (((HBh.out.setCell (Nat.le_succ _) _).setCell (Nat.le_succ _) _).setCell (Nat.le_succ _) _))
          clear d0 d2 d3 d4 d5 d6 d7 f0 f2 f3 f4 f5 f6 f7 x0 x1 x2 hz5 hzx
          clear hY2 B4h B5h BXh HOh HBh
          have B4h := b4
          have B5h := b5
          have BXh := bx
          have HOh := ho
          have HBh := hbb
          clear b4 b5 bx ho hbb
          have d0 := B5h.out.cell 0 (.int .i64 ((0 : Nat) : Int)) rfl
          have d2 := B5h.out.cell 2 (.bool false) rfl
          have d3 := B5h.out.cell 3 (.int .i64 vi) rfl
          have d4 := B5h.out.cell 4 (.string vs) rfl
          have d5 := B5h.out.cell 5 (.bool false) rfl
          have d6 := B5h.out.cell 6 (.int .i64 vi) rfl
          have d7 := B5h.out.cell 7 (.string vs) rfl
          have f0 := B5h.out.frozen 0
          have f2 := B5h.out.frozen 2
          have f3 := B5h.out.frozen 3
          have f4 := B5h.out.frozen 4
          have f5 := B5h.out.frozen 5
          have f6 := B5h.out.frozen 6
          have f7 := B5h.out.frozen 7
          have x0 := BXh.out.cell 0 (.bool false) rfl
          have x1 := BXh.out.cell 1 (.int .i64 vi) rfl
          have x2 := BXh.out.cell 2 (.string vs) rfl
          have hz5 := B5h.out.lt
          have hzx := BXh.out.lt
          go_upto_region 14 with fail
          obtain ⟨Z, hZ⟩ : ∃ Z, (Y2.setCell ⟨w.heap.size + 1, 0, none⟩ (.int .i64 1)) = Z := ⟨_, rfl⟩
          rw [hZ]
          have b4 := hide (show Box Z w.heap.size (st.cells stz) 47 by rw [← hZ]; exact (B4h.out.other (by simp) _))
          have b5 := hide (show Box Z (w.heap.size + 1) #[.int .i64 1, .bool ahn, .bool false, .int .i64 vi, .string vs, .bool false, .int .i64 vi, .string vs, .int .i64 0, .bool false] 47 by rw [← hZ]; exact (B5h.out.set 0 _))
          have bx := hide (show Box Z wr.heap.size #[.bool false, .int .i64 vi, .string vs] 38 by rw [← hZ]; exact (BXh.out.other (by simp; omega) _))
          have ho := hide (show Z.ownsRow (w.heap.size + 1 + 1) 3 1 (.slice As m cs) m (nis (st.nums (l.take j))) by rw [← hZ]; exact (own_other HOh.out (by simp) _))
          have hbb := hide (show Below w.heap.size w Z by rw [← hZ]; exact (HBh.out.setCell (Nat.le_succ _) _))
          clear d0 d2 d3 d4 d5 d6 d7 f0 f2 f3 f4 f5 f6 f7 x0 x1 x2 hz5 hzx
          clear hZ B4h B5h BXh HOh HBh
          have B4h := b4
          have B5h := b5
          have BXh := bx
          have HOh := ho
          have HBh := hbb
          clear b4 b5 bx ho hbb
          have x1 := BXh.out.cell 1 (.int .i64 vi) rfl
          have hzz := BXh.out.lt
          go_wp2_with (at_builtin; refine wpList_append_row _ rfl (.tmp 57) (.tmp 60) 36 rfl (w.heap.size + 1 + 1) 3 infoN Tryd.underlying36 rfl (by omega) (.slice As m cs) m _ rfl (HOh.out.alloc _) _ (some ⟨Z.heap.size, 0, none⟩) 1 1 [.int .i64 vi] rfl rfl (row_one Z (.int .i64 vi) _ (0, 0)) (one_int _ _) (by simp only [maxLen]; omega) (by omega) (by simp; omega) ?_; intro v' w' hown' hg hat; obtain ⟨A', c', rfl, -, -⟩ := own_form hown'; have HO' := hide hown'; have HG := hide hg; clear hown' hg hat)
          have hbz : Below (w.heap.size + 1 + 1) (Z.alloc (.cells #[.int .i64 vi] 3)) w' := below_own HG.out (Nat.le_refl _) (by simp; omega) (fun g h => own_ge (HOh.out.alloc (.cells #[.int .i64 vi] 3)) h (Nat.le_refl _))
          have b4' := hide ((B4h.out.alloc (.cells #[.int .i64 vi] 3)).below hbz (by omega))
          have b5' := hide ((B5h.out.alloc (.cells #[.int .i64 vi] 3)).below hbz (by omega))
          have hb' := hide ((HBh.out.alloc (by omega) (.cells #[.int .i64 vi] 3)).trans (Below.mono hbz (by omega)))
          clear hbz x1
          refine ⟨⟨j + 1, m + 1, c', A', by omega, by omega, by go_num, rfl, b4', hide ?_, hide (by rw [HNU.out]; simp [HM.out]), hide ?_, hb'⟩, by simp [intOf]; omega⟩
          · rw [HACC.out, HST2.out, HL1.out, HL2.out]
            exact b5'.out
          · rw [HNU.out, nis_append]
            exact HO'.out
        · have hnn := HOK.out.2 hc0
          simp only at hnn
          obtain ⟨rfl, rfl⟩ := hnn
          obtain ⟨z1, hz1⟩ : ∃ z, va.cmpV ⟨false, vi, vs⟩ ⟨false, mi, ms⟩ = z := ⟨_, rfl⟩
          obtain ⟨z2, hz2⟩ : ∃ z, va.cmpV ⟨false, vi, vs⟩ ⟨false, xi, xs⟩ = z := ⟨_, rfl⟩
          have HC1 := hide (fun (w : World) => hz1 ▸ refcompare_any w ⟨false, vi, vs⟩ ⟨false, mi, ms⟩)
          have HC2 := hide (fun (w : World) => hz2 ▸ refcompare_any w ⟨false, vi, vs⟩ ⟨false, xi, xs⟩)
          simp only at HC1 HC2
          have hcz : ¬ ((ac : Int) = 0) := by omega
          have d0 := B5h.out.cell 0 (.int .i64 (ac : Int)) rfl
          have d2 := B5h.out.cell 2 (.bool false) rfl
          have d3 := B5h.out.cell 3 (.int .i64 mi) rfl
          have d4 := B5h.out.cell 4 (.string ms) rfl
          have d5 := B5h.out.cell 5 (.bool false) rfl
          have d6 := B5h.out.cell 6 (.int .i64 xi) rfl
          have d7 := B5h.out.cell 7 (.string xs) rfl
          have f0 := B5h.out.frozen 0
          have f2 := B5h.out.frozen 2
          have f3 := B5h.out.frozen 3
          have f4 := B5h.out.frozen 4
          have f5 := B5h.out.frozen 5
          have f6 := B5h.out.frozen 6
          have f7 := B5h.out.frozen 7
          have x0 := BXh.out.cell 0 (.bool false) rfl
          have x1 := BXh.out.cell 1 (.int .i64 vi) rfl
          have x2 := BXh.out.cell 2 (.string vs) rfl
          have hz5 := B5h.out.lt
          have hzx := BXh.out.lt
          go_wp2_with fail
          refine (HC1.out X).mono ?_
          rintro e Y1 ⟨rfl, hb⟩
          have b4 := hide (B4h.out.below hb B4h.out.lt)
          have b5 := hide (B5h.out.below hb B5h.out.lt)
          have bx := hide (BXh.out.below hb BXh.out.lt)
          have ho := hide (own_below HOh.out hb)
          have hbb := hide (HBh.out.trans (Below.mono hb (by omega)))
          clear d0 d2 d3 d4 d5 d6 d7 f0 f2 f3 f4 f5 f6 f7 x0 x1 x2 hz5 hzx
          clear hb B4h B5h BXh HOh HBh
          have B4h := b4
          have B5h := b5
          have BXh := bx
          have HOh := ho
          have HBh := hbb
          clear b4 b5 bx ho hbb
          have d0 := B5h.out.cell 0 (.int .i64 (ac : Int)) rfl
          have d2 := B5h.out.cell 2 (.bool false) rfl
          have d3 := B5h.out.cell 3 (.int .i64 mi) rfl
          have d4 := B5h.out.cell 4 (.string ms) rfl
          have d5 := B5h.out.cell 5 (.bool false) rfl
          have d6 := B5h.out.cell 6 (.int .i64 xi) rfl
          have d7 := B5h.out.cell 7 (.string xs) rfl
          have f0 := B5h.out.frozen 0
          have f2 := B5h.out.frozen 2
          have f3 := B5h.out.frozen 3
          have f4 := B5h.out.frozen 4
          have f5 := B5h.out.frozen 5
          have f6 := B5h.out.frozen 6
          have f7 := B5h.out.frozen 7
          have x0 := BXh.out.cell 0 (.bool false) rfl
          have x1 := BXh.out.cell 1 (.int .i64 vi) rfl
          have x2 := BXh.out.cell 2 (.string vs) rfl
          have hz5 := B5h.out.lt
          have hzx := BXh.out.lt
          by_cases hlt : z1 < 0
          · have dlt : decide (z1 < 0) = true := decide_eq_true hlt
            have HL1 := hide (show st.low ⟨false, mi, ms⟩ ⟨false, vi, vs⟩ = ⟨false, vi, vs⟩ by unfold st.low; rw [hz1, dlt]; rfl)
            go_upto_region 11 with fail
            obtain ⟨Y2, hY2⟩ : ∃ Y2, (((Y1.setCell ⟨w.heap.size + 1, 2, none⟩ (.bool false)).setCell ⟨w.heap.size + 1, 3, none⟩ (.int .i64 vi)).setCell ⟨w.heap.size + 1, 4, none⟩ (.string vs)) = Y2 := ⟨_, rfl⟩
            rw [hY2]
            have b4 := hide (show Box Y2 w.heap.size (st.cells stz) 47 by rw [← hY2]; exact (((B4h.out.other (by simp) _).other (by simp) _).other (by simp) _))
            have b5 := hide (show Box Y2 (w.heap.size + 1) #[.int .i64 (ac : Int), .bool ahn, .bool false, .int .i64 vi, .string vs, .bool false, .int .i64 xi, .string xs, .int .i64 0, .bool false] 47 by rw [← hY2]; exact (((B5h.out.set 2 _).set 3 _).set 4 _))
            have bx := hide (show Box Y2 wr.heap.size #[.bool false, .int .i64 vi, .string vs] 38 by rw [← hY2]; exact (((BXh.out.other (by simp; omega) _).other (by simp; omega) _).other (by simp; omega) _))
            have ho := hide (show Y2.ownsRow (w.heap.size + 1 + 1) 3 1 (.slice As m cs) m (nis (st.nums (l.take j))) by rw [← hY2]; exact (own_other (own_other (own_other HOh.out (by simp) _) (by simp) _) (by simp) _))
            have hbb := hide (show Below w.heap.size w Y2 by rw [← hY2]; exact (((HBh.out.setCell (Nat.le_succ _) _).setCell (Nat.le_succ _) _).setCell (Nat.le_succ _) _))
            clear d0 d2 d3 d4 d5 d6 d7 f0 f2 f3 f4 f5 f6 f7 x0 x1 x2 hz5 hzx
            clear hY2 B4h B5h BXh HOh HBh
            have B4h := b4
            have B5h := b5
            have BXh := bx
            have HOh := ho
            have HBh := hbb
            clear b4 b5 bx ho hbb
            have d0 := B5h.out.cell 0 (.int .i64 (ac : Int)) rfl
            have d2 := B5h.out.cell 2 (.bool false) rfl
            have d3 := B5h.out.cell 3 (.int .i64 vi) rfl
            have d4 := B5h.out.cell 4 (.string vs) rfl
            have d5 := B5h.out.cell 5 (.bool false) rfl
            have d6 := B5h.out.cell 6 (.int .i64 xi) rfl
            have d7 := B5h.out.cell 7 (.string xs) rfl
            have f0 := B5h.out.frozen 0
            have f2 := B5h.out.frozen 2
            have f3 := B5h.out.frozen 3
            have f4 := B5h.out.frozen 4
            have f5 := B5h.out.frozen 5
            have f6 := B5h.out.frozen 6
            have f7 := B5h.out.frozen 7
            have x0 := BXh.out.cell 0 (.bool false) rfl
            have x1 := BXh.out.cell 1 (.int .i64 vi) rfl
            have x2 := BXh.out.cell 2 (.string vs) rfl
            have hz5 := B5h.out.lt
            have hzx := BXh.out.lt
            go_wp2_with fail
            refine (HC2.out Y2).mono ?_
            rintro e Y3 ⟨rfl, hb⟩
            have b4 := hide (B4h.out.below hb B4h.out.lt)
            have b5 := hide (B5h.out.below hb B5h.out.lt)
            have bx := hide (BXh.out.below hb BXh.out.lt)
            have ho := hide (own_below HOh.out hb)
            have hbb := hide (HBh.out.trans (Below.mono hb (by omega)))
            clear d0 d2 d3 d4 d5 d6 d7 f0 f2 f3 f4 f5 f6 f7 x0 x1 x2 hz5 hzx
            clear hb B4h B5h BXh HOh HBh
            have B4h := b4
            have B5h := b5
            have BXh := bx
            have HOh := ho
            have HBh := hbb
            clear b4 b5 bx ho hbb
            have d0 := B5h.out.cell 0 (.int .i64 (ac : Int)) rfl
            have d2 := B5h.out.cell 2 (.bool false) rfl
            have d3 := B5h.out.cell 3 (.int .i64 vi) rfl
            have d4 := B5h.out.cell 4 (.string vs) rfl
            have d5 := B5h.out.cell 5 (.bool false) rfl
            have d6 := B5h.out.cell 6 (.int .i64 xi) rfl
            have d7 := B5h.out.cell 7 (.string xs) rfl
            have f0 := B5h.out.frozen 0
            have f2 := B5h.out.frozen 2
            have f3 := B5h.out.frozen 3
            have f4 := B5h.out.frozen 4
            have f5 := B5h.out.frozen 5
            have f6 := B5h.out.frozen 6
            have f7 := B5h.out.frozen 7
            have x0 := BXh.out.cell 0 (.bool false) rfl
            have x1 := BXh.out.cell 1 (.int .i64 vi) rfl
            have x2 := BXh.out.cell 2 (.string vs) rfl
            have hz5 := B5h.out.lt
            have hzx := BXh.out.lt
            by_cases hgt : 0 < z2
            · have dgt : decide (0 < z2) = true := decide_eq_true hgt
              have HL2 := hide (show st.high ⟨false, xi, xs⟩ ⟨false, vi, vs⟩ = ⟨false, vi, vs⟩ by unfold st.high; rw [hz2, dgt]; rfl)
              go_upto_region 13 with fail
              obtain ⟨Y4, hY4⟩ : ∃ Y4, (((Y3.setCell ⟨w.heap.size + 1, 5, none⟩ (.bool false)).setCell ⟨w.heap.size + 1, 6, none⟩ (.int .i64 vi)).setCell ⟨w.heap.size + 1, 7, none⟩ (.string vs)) = Y4 := ⟨_, rfl⟩
              rw [hY4]
              have b4 := hide (show Box Y4 w.heap.size (st.cells stz) 47 by rw [← hY4]; exact (((B4h.out.other (by simp) _).other (by simp) _).other (by simp) _))
              have b5 := hide (show Box Y4 (w.heap.size + 1) #[.int .i64 (ac : Int), .bool ahn, .bool false, .int .i64 vi, .string vs, .bool false, .int .i64 vi, .string vs, .int .i64 0, .bool false] 47 by rw [← hY4]; exact (((B5h.out.set 5 _).set 6 _).set 7 _))
              have bx := hide (show Box Y4 wr.heap.size #[.bool false, .int .i64 vi, .string vs] 38 by rw [← hY4]; exact (((BXh.out.other (by simp; omega) _).other (by simp; omega) _).other (by simp; omega) _))
              have ho := hide (show Y4.ownsRow (w.heap.size + 1 + 1) 3 1 (.slice As m cs) m (nis (st.nums (l.take j))) by rw [← hY4]; exact (own_other (own_other (own_other HOh.out (by simp) _) (by simp) _) (by simp) _))
              have hbb := hide (show Below w.heap.size w Y4 by rw [← hY4]; exact (((HBh.out.setCell (Nat.le_succ _) _).setCell (Nat.le_succ _) _).setCell (Nat.le_succ _) _))
              clear d0 d2 d3 d4 d5 d6 d7 f0 f2 f3 f4 f5 f6 f7 x0 x1 x2 hz5 hzx
              clear hY4 B4h B5h BXh HOh HBh
              have B4h := b4
              have B5h := b5
              have BXh := bx
              have HOh := ho
              have HBh := hbb
              clear b4 b5 bx ho hbb
              have d0 := B5h.out.cell 0 (.int .i64 (ac : Int)) rfl
              have d2 := B5h.out.cell 2 (.bool false) rfl
              have d3 := B5h.out.cell 3 (.int .i64 vi) rfl
              have d4 := B5h.out.cell 4 (.string vs) rfl
              have d5 := B5h.out.cell 5 (.bool false) rfl
              have d6 := B5h.out.cell 6 (.int .i64 vi) rfl
              have d7 := B5h.out.cell 7 (.string vs) rfl
              have f0 := B5h.out.frozen 0
              have f2 := B5h.out.frozen 2
              have f3 := B5h.out.frozen 3
              have f4 := B5h.out.frozen 4
              have f5 := B5h.out.frozen 5
              have f6 := B5h.out.frozen 6
              have f7 := B5h.out.frozen 7
              have x0 := BXh.out.cell 0 (.bool false) rfl
              have x1 := BXh.out.cell 1 (.int .i64 vi) rfl
              have x2 := BXh.out.cell 2 (.string vs) rfl
              have hz5 := B5h.out.lt
              have hzx := BXh.out.lt
              have hcw : IntKind.i64.wrap ((ac : Int) + 1) = (ac : Int) + 1 := by rw [IntKind.wrap_i64]; have := HTA.out.2; omega
              go_upto_region 14 with fail
              obtain ⟨Z, hZ⟩ : ∃ Z, (Y4.setCell ⟨w.heap.size + 1, 0, none⟩ (.int .i64 ((ac : Int) + 1))) = Z := ⟨_, rfl⟩
              rw [hZ]
              have b4 := hide (show Box Z w.heap.size (st.cells stz) 47 by rw [← hZ]; exact (B4h.out.other (by simp) _))
              have b5 := hide (show Box Z (w.heap.size + 1) #[.int .i64 ((ac : Int) + 1), .bool ahn, .bool false, .int .i64 vi, .string vs, .bool false, .int .i64 vi, .string vs, .int .i64 0, .bool false] 47 by rw [← hZ]; exact (B5h.out.set 0 _))
              have bx := hide (show Box Z wr.heap.size #[.bool false, .int .i64 vi, .string vs] 38 by rw [← hZ]; exact (BXh.out.other (by simp; omega) _))
              have ho := hide (show Z.ownsRow (w.heap.size + 1 + 1) 3 1 (.slice As m cs) m (nis (st.nums (l.take j))) by rw [← hZ]; exact (own_other HOh.out (by simp) _))
              have hbb := hide (show Below w.heap.size w Z by rw [← hZ]; exact (HBh.out.setCell (Nat.le_succ _) _))
              clear d0 d2 d3 d4 d5 d6 d7 f0 f2 f3 f4 f5 f6 f7 x0 x1 x2 hz5 hzx
              clear hZ B4h B5h BXh HOh HBh
              have B4h := b4
              have B5h := b5
              have BXh := bx
              have HOh := ho
              have HBh := hbb
              clear b4 b5 bx ho hbb
              have x1 := BXh.out.cell 1 (.int .i64 vi) rfl
              have hzz := BXh.out.lt
              go_wp2_with (at_builtin; refine wpList_append_row _ rfl (.tmp 57) (.tmp 60) 36 rfl (w.heap.size + 1 + 1) 3 infoN Tryd.underlying36 rfl (by omega) (.slice As m cs) m _ rfl (HOh.out.alloc _) _ (some ⟨Z.heap.size, 0, none⟩) 1 1 [.int .i64 vi] rfl rfl (row_one Z (.int .i64 vi) _ (0, 0)) (one_int _ _) (by simp only [maxLen]; omega) (by omega) (by simp; omega) ?_; intro v' w' hown' hg hat; obtain ⟨A', c', rfl, -, -⟩ := own_form hown'; have HO' := hide hown'; have HG := hide hg; clear hown' hg hat)
              have hbz : Below (w.heap.size + 1 + 1) (Z.alloc (.cells #[.int .i64 vi] 3)) w' := below_own HG.out (Nat.le_refl _) (by simp; omega) (fun g h => own_ge (HOh.out.alloc (.cells #[.int .i64 vi] 3)) h (Nat.le_refl _))
              have b4' := hide ((B4h.out.alloc (.cells #[.int .i64 vi] 3)).below hbz (by omega))
              have b5' := hide ((B5h.out.alloc (.cells #[.int .i64 vi] 3)).below hbz (by omega))
              have hb' := hide ((HBh.out.alloc (by omega) (.cells #[.int .i64 vi] 3)).trans (Below.mono hbz (by omega)))
              clear hbz x1
              refine ⟨⟨j + 1, m + 1, c', A', by omega, by omega, by go_num, rfl, b4', hide ?_, hide (by rw [HNU.out]; simp [HM.out]), hide ?_, hb'⟩, by simp [intOf]; omega⟩
              · rw [HACC.out, HST2.out, HL1.out, HL2.out]
                exact b5'.out
              · rw [HNU.out, nis_append]
                exact HO'.out
            · have dgt : decide (0 < z2) = false := decide_eq_false hgt
              have HL2 := hide (show st.high ⟨false, xi, xs⟩ ⟨false, vi, vs⟩ = ⟨false, xi, xs⟩ by unfold st.high; rw [hz2, dgt]; rfl)
              go_upto_region 13 with fail
              clear d0 d2 d3 d4 d5 d6 d7 f0 f2 f3 f4 f5 f6 f7 x0 x1 x2 hz5 hzx
              have d0 := B5h.out.cell 0 (.int .i64 (ac : Int)) rfl
              have d2 := B5h.out.cell 2 (.bool false) rfl
              have d3 := B5h.out.cell 3 (.int .i64 vi) rfl
              have d4 := B5h.out.cell 4 (.string vs) rfl
              have d5 := B5h.out.cell 5 (.bool false) rfl
              have d6 := B5h.out.cell 6 (.int .i64 xi) rfl
              have d7 := B5h.out.cell 7 (.string xs) rfl
              have f0 := B5h.out.frozen 0
              have f2 := B5h.out.frozen 2
              have f3 := B5h.out.frozen 3
              have f4 := B5h.out.frozen 4
              have f5 := B5h.out.frozen 5
              have f6 := B5h.out.frozen 6
              have f7 := B5h.out.frozen 7
              have x0 := BXh.out.cell 0 (.bool false) rfl
              have x1 := BXh.out.cell 1 (.int .i64 vi) rfl
              have x2 := BXh.out.cell 2 (.string vs) rfl
              have hz5 := B5h.out.lt
              have hzx := BXh.out.lt
              have hcw : IntKind.i64.wrap ((ac : Int) + 1) = (ac : Int) + 1 := by rw [IntKind.wrap_i64]; have := HTA.out.2; omega
              go_upto_region 14 with fail
              obtain ⟨Z, hZ⟩ : ∃ Z, (Y3.setCell ⟨w.heap.size + 1, 0, none⟩ (.int .i64 ((ac : Int) + 1))) = Z := ⟨_, rfl⟩
              rw [hZ]
              have b4 := hide (show Box Z w.heap.size (st.cells stz) 47 by rw [← hZ]; exact (B4h.out.other (by simp) _))
              have b5 := hide (show Box Z (w.heap.size + 1) #[.int .i64 ((ac : Int) + 1), .bool ahn, .bool false, .int .i64 vi, .string vs, .bool false, .int .i64 xi, .string xs, .int .i64 0, .bool false] 47 by rw [← hZ]; exact (B5h.out.set 0 _))
              have bx := hide (show Box Z wr.heap.size #[.bool false, .int .i64 vi, .string vs] 38 by rw [← hZ]; exact (BXh.out.other (by simp; omega) _))
              have ho := hide (show Z.ownsRow (w.heap.size + 1 + 1) 3 1 (.slice As m cs) m (nis (st.nums (l.take j))) by rw [← hZ]; exact (own_other HOh.out (by simp) _))
              have hbb := hide (show Below w.heap.size w Z by rw [← hZ]; exact (HBh.out.setCell (Nat.le_succ _) _))
              clear d0 d2 d3 d4 d5 d6 d7 f0 f2 f3 f4 f5 f6 f7 x0 x1 x2 hz5 hzx
              clear hZ B4h B5h BXh HOh HBh
              have B4h := b4
              have B5h := b5
              have BXh := bx
              have HOh := ho
              have HBh := hbb
              clear b4 b5 bx ho hbb
              have x1 := BXh.out.cell 1 (.int .i64 vi) rfl
              have hzz := BXh.out.lt
              go_wp2_with (at_builtin; refine wpList_append_row _ rfl (.tmp 57) (.tmp 60) 36 rfl (w.heap.size + 1 + 1) 3 infoN Tryd.underlying36 rfl (by omega) (.slice As m cs) m _ rfl (HOh.out.alloc _) _ (some ⟨Z.heap.size, 0, none⟩) 1 1 [.int .i64 vi] rfl rfl (row_one Z (.int .i64 vi) _ (0, 0)) (one_int _ _) (by simp only [maxLen]; omega) (by omega) (by simp; omega) ?_; intro v' w' hown' hg hat; obtain ⟨A', c', rfl, -, -⟩ := own_form hown'; have HO' := hide hown'; have HG := hide hg; clear hown' hg hat)
              have hbz : Below (w.heap.size + 1 + 1) (Z.alloc (.cells #[.int .i64 vi] 3)) w' := below_own HG.out (Nat.le_refl _) (by simp; omega) (fun g h => own_ge (HOh.out.alloc (.cells #[.int .i64 vi] 3)) h (Nat.le_refl _))
              have b4' := hide ((B4h.out.alloc (.cells #[.int .i64 vi] 3)).below hbz (by omega))
              have b5' := hide ((B5h.out.alloc (.cells #[.int .i64 vi] 3)).below hbz (by omega))
              have hb' := hide ((HBh.out.alloc (by omega) (.cells #[.int .i64 vi] 3)).trans (Below.mono hbz (by omega)))
              clear hbz x1
              refine ⟨⟨j + 1, m + 1, c', A', by omega, by omega, by go_num, rfl, b4', hide ?_, hide (by rw [HNU.out]; simp [HM.out]), hide ?_, hb'⟩, by simp [intOf]; omega⟩
              · rw [HACC.out, HST2.out, HL1.out, HL2.out]
                exact b5'.out
              · rw [HNU.out, nis_append]
                exact HO'.out
          · have dlt : decide (z1 < 0) = false := decide_eq_false hlt
            have HL1 := hide (show st.low ⟨false, mi, ms⟩ ⟨false, vi, vs⟩ = ⟨false, mi, ms⟩ by unfold st.low; rw [hz1, dlt]; rfl)
            go_upto_region 11 with fail
            clear d0 d2 d3 d4 d5 d6 d7 f0 f2 f3 f4 f5 f6 f7 x0 x1 x2 hz5 hzx
            have d0 := B5h.out.cell 0 (.int .i64 (ac : Int)) rfl
            have d2 := B5h.out.cell 2 (.bool false) rfl
            have d3 := B5h.out.cell 3 (.int .i64 mi) rfl
            have d4 := B5h.out.cell 4 (.string ms) rfl
            have d5 := B5h.out.cell 5 (.bool false) rfl
            have d6 := B5h.out.cell 6 (.int .i64 xi) rfl
            have d7 := B5h.out.cell 7 (.string xs) rfl
            have f0 := B5h.out.frozen 0
            have f2 := B5h.out.frozen 2
            have f3 := B5h.out.frozen 3
            have f4 := B5h.out.frozen 4
            have f5 := B5h.out.frozen 5
            have f6 := B5h.out.frozen 6
            have f7 := B5h.out.frozen 7
            have x0 := BXh.out.cell 0 (.bool false) rfl
            have x1 := BXh.out.cell 1 (.int .i64 vi) rfl
            have x2 := BXh.out.cell 2 (.string vs) rfl
            have hz5 := B5h.out.lt
            have hzx := BXh.out.lt
            go_wp2_with fail
            refine (HC2.out Y1).mono ?_
            rintro e Y3 ⟨rfl, hb⟩
            have b4 := hide (B4h.out.below hb B4h.out.lt)
            have b5 := hide (B5h.out.below hb B5h.out.lt)
            have bx := hide (BXh.out.below hb BXh.out.lt)
            have ho := hide (own_below HOh.out hb)
            have hbb := hide (HBh.out.trans (Below.mono hb (by omega)))
            clear d0 d2 d3 d4 d5 d6 d7 f0 f2 f3 f4 f5 f6 f7 x0 x1 x2 hz5 hzx
            clear hb B4h B5h BXh HOh HBh
            have B4h := b4
            have B5h := b5
            have BXh := bx
            have HOh := ho
            have HBh := hbb
            clear b4 b5 bx ho hbb
            have d0 := B5h.out.cell 0 (.int .i64 (ac : Int)) rfl
            have d2 := B5h.out.cell 2 (.bool false) rfl
            have d3 := B5h.out.cell 3 (.int .i64 mi) rfl
            have d4 := B5h.out.cell 4 (.string ms) rfl
            have d5 := B5h.out.cell 5 (.bool false) rfl
            have d6 := B5h.out.cell 6 (.int .i64 xi) rfl
            have d7 := B5h.out.cell 7 (.string xs) rfl
            have f0 := B5h.out.frozen 0
            have f2 := B5h.out.frozen 2
            have f3 := B5h.out.frozen 3
            have f4 := B5h.out.frozen 4
            have f5 := B5h.out.frozen 5
            have f6 := B5h.out.frozen 6
            have f7 := B5h.out.frozen 7
            have x0 := BXh.out.cell 0 (.bool false) rfl
            have x1 := BXh.out.cell 1 (.int .i64 vi) rfl
            have x2 := BXh.out.cell 2 (.string vs) rfl
            have hz5 := B5h.out.lt
            have hzx := BXh.out.lt
            by_cases hgt : 0 < z2
            · have dgt : decide (0 < z2) = true := decide_eq_true hgt
              have HL2 := hide (show st.high ⟨false, xi, xs⟩ ⟨false, vi, vs⟩ = ⟨false, vi, vs⟩ by unfold st.high; rw [hz2, dgt]; rfl)
              go_upto_region 13 with fail
              obtain ⟨Y4, hY4⟩ : ∃ Y4, (((Y3.setCell ⟨w.heap.size + 1, 5, none⟩ (.bool false)).setCell ⟨w.heap.size + 1, 6, none⟩ (.int .i64 vi)).setCell ⟨w.heap.size + 1, 7, none⟩ (.string vs)) = Y4 := ⟨_, rfl⟩
              rw [hY4]
              have b4 := hide (show Box Y4 w.heap.size (st.cells stz) 47 by rw [← hY4]; exact (((B4h.out.other (by simp) _).other (by simp) _).other (by simp) _))
              have b5 := hide (show Box Y4 (w.heap.size + 1) #[.int .i64 (ac : Int), .bool ahn, .bool false, .int .i64 mi, .string ms, .bool false, .int .i64 vi, .string vs, .int .i64 0, .bool false] 47 by rw [← hY4]; exact (((B5h.out.set 5 _).set 6 _).set 7 _))
              have bx := hide (show Box Y4 wr.heap.size #[.bool false, .int .i64 vi, .string vs] 38 by rw [← hY4]; exact (((BXh.out.other (by simp; omega) _).other (by simp; omega) _).other (by simp; omega) _))
              have ho := hide (show Y4.ownsRow (w.heap.size + 1 + 1) 3 1 (.slice As m cs) m (nis (st.nums (l.take j))) by rw [← hY4]; exact (own_other (own_other (own_other HOh.out (by simp) _) (by simp) _) (by simp) _))
              have hbb := hide (show Below w.heap.size w Y4 by rw [← hY4]; exact (((HBh.out.setCell (Nat.le_succ _) _).setCell (Nat.le_succ _) _).setCell (Nat.le_succ _) _))
              clear d0 d2 d3 d4 d5 d6 d7 f0 f2 f3 f4 f5 f6 f7 x0 x1 x2 hz5 hzx
              clear hY4 B4h B5h BXh HOh HBh
              have B4h := b4
              have B5h := b5
              have BXh := bx
              have HOh := ho
              have HBh := hbb
              clear b4 b5 bx ho hbb
              have d0 := B5h.out.cell 0 (.int .i64 (ac : Int)) rfl
              have d2 := B5h.out.cell 2 (.bool false) rfl
              have d3 := B5h.out.cell 3 (.int .i64 mi) rfl
              have d4 := B5h.out.cell 4 (.string ms) rfl
              have d5 := B5h.out.cell 5 (.bool false) rfl
              have d6 := B5h.out.cell 6 (.int .i64 vi) rfl
              have d7 := B5h.out.cell 7 (.string vs) rfl
              have f0 := B5h.out.frozen 0
              have f2 := B5h.out.frozen 2
              have f3 := B5h.out.frozen 3
              have f4 := B5h.out.frozen 4
              have f5 := B5h.out.frozen 5
              have f6 := B5h.out.frozen 6
              have f7 := B5h.out.frozen 7
              have x0 := BXh.out.cell 0 (.bool false) rfl
              have x1 := BXh.out.cell 1 (.int .i64 vi) rfl
              have x2 := BXh.out.cell 2 (.string vs) rfl
              have hz5 := B5h.out.lt
              have hzx := BXh.out.lt
              have hcw : IntKind.i64.wrap ((ac : Int) + 1) = (ac : Int) + 1 := by rw [IntKind.wrap_i64]; have := HTA.out.2; omega
              go_upto_region 14 with fail
              obtain ⟨Z, hZ⟩ : ∃ Z, (Y4.setCell ⟨w.heap.size + 1, 0, none⟩ (.int .i64 ((ac : Int) + 1))) = Z := ⟨_, rfl⟩
              rw [hZ]
              have b4 := hide (show Box Z w.heap.size (st.cells stz) 47 by rw [← hZ]; exact (B4h.out.other (by simp) _))
              have b5 := hide (show Box Z (w.heap.size + 1) #[.int .i64 ((ac : Int) + 1), .bool ahn, .bool false, .int .i64 mi, .string ms, .bool false, .int .i64 vi, .string vs, .int .i64 0, .bool false] 47 by rw [← hZ]; exact (B5h.out.set 0 _))
              have bx := hide (show Box Z wr.heap.size #[.bool false, .int .i64 vi, .string vs] 38 by rw [← hZ]; exact (BXh.out.other (by simp; omega) _))
              have ho := hide (show Z.ownsRow (w.heap.size + 1 + 1) 3 1 (.slice As m cs) m (nis (st.nums (l.take j))) by rw [← hZ]; exact (own_other HOh.out (by simp) _))
              have hbb := hide (show Below w.heap.size w Z by rw [← hZ]; exact (HBh.out.setCell (Nat.le_succ _) _))
              clear d0 d2 d3 d4 d5 d6 d7 f0 f2 f3 f4 f5 f6 f7 x0 x1 x2 hz5 hzx
              clear hZ B4h B5h BXh HOh HBh
              have B4h := b4
              have B5h := b5
              have BXh := bx
              have HOh := ho
              have HBh := hbb
              clear b4 b5 bx ho hbb
              have x1 := BXh.out.cell 1 (.int .i64 vi) rfl
              have hzz := BXh.out.lt
              go_wp2_with (at_builtin; refine wpList_append_row _ rfl (.tmp 57) (.tmp 60) 36 rfl (w.heap.size + 1 + 1) 3 infoN Tryd.underlying36 rfl (by omega) (.slice As m cs) m _ rfl (HOh.out.alloc _) _ (some ⟨Z.heap.size, 0, none⟩) 1 1 [.int .i64 vi] rfl rfl (row_one Z (.int .i64 vi) _ (0, 0)) (one_int _ _) (by simp only [maxLen]; omega) (by omega) (by simp; omega) ?_; intro v' w' hown' hg hat; obtain ⟨A', c', rfl, -, -⟩ := own_form hown'; have HO' := hide hown'; have HG := hide hg; clear hown' hg hat)
              have hbz : Below (w.heap.size + 1 + 1) (Z.alloc (.cells #[.int .i64 vi] 3)) w' := below_own HG.out (Nat.le_refl _) (by simp; omega) (fun g h => own_ge (HOh.out.alloc (.cells #[.int .i64 vi] 3)) h (Nat.le_refl _))
              have b4' := hide ((B4h.out.alloc (.cells #[.int .i64 vi] 3)).below hbz (by omega))
              have b5' := hide ((B5h.out.alloc (.cells #[.int .i64 vi] 3)).below hbz (by omega))
              have hb' := hide ((HBh.out.alloc (by omega) (.cells #[.int .i64 vi] 3)).trans (Below.mono hbz (by omega)))
              clear hbz x1
              refine ⟨⟨j + 1, m + 1, c', A', by omega, by omega, by go_num, rfl, b4', hide ?_, hide (by rw [HNU.out]; simp [HM.out]), hide ?_, hb'⟩, by simp [intOf]; omega⟩
              · rw [HACC.out, HST2.out, HL1.out, HL2.out]
                exact b5'.out
              · rw [HNU.out, nis_append]
                exact HO'.out
            · have dgt : decide (0 < z2) = false := decide_eq_false hgt
              have HL2 := hide (show st.high ⟨false, xi, xs⟩ ⟨false, vi, vs⟩ = ⟨false, xi, xs⟩ by unfold st.high; rw [hz2, dgt]; rfl)
              go_upto_region 13 with fail
              clear d0 d2 d3 d4 d5 d6 d7 f0 f2 f3 f4 f5 f6 f7 x0 x1 x2 hz5 hzx
              have d0 := B5h.out.cell 0 (.int .i64 (ac : Int)) rfl
              have d2 := B5h.out.cell 2 (.bool false) rfl
              have d3 := B5h.out.cell 3 (.int .i64 mi) rfl
              have d4 := B5h.out.cell 4 (.string ms) rfl
              have d5 := B5h.out.cell 5 (.bool false) rfl
              have d6 := B5h.out.cell 6 (.int .i64 xi) rfl
              have d7 := B5h.out.cell 7 (.string xs) rfl
              have f0 := B5h.out.frozen 0
              have f2 := B5h.out.frozen 2
              have f3 := B5h.out.frozen 3
              have f4 := B5h.out.frozen 4
              have f5 := B5h.out.frozen 5
              have f6 := B5h.out.frozen 6
              have f7 := B5h.out.frozen 7
              have x0 := BXh.out.cell 0 (.bool false) rfl
              have x1 := BXh.out.cell 1 (.int .i64 vi) rfl
              have x2 := BXh.out.cell 2 (.string vs) rfl
              have hz5 := B5h.out.lt
              have hzx := BXh.out.lt
              have hcw : IntKind.i64.wrap ((ac : Int) + 1) = (ac : Int) + 1 := by rw [IntKind.wrap_i64]; have := HTA.out.2; omega
              go_upto_region 14 with fail
              obtain ⟨Z, hZ⟩ : ∃ Z, (Y3.setCell ⟨w.heap.size + 1, 0, none⟩ (.int .i64 ((ac : Int) + 1))) = Z := ⟨_, rfl⟩
              rw [hZ]
              have b4 := hide (show Box Z w.heap.size (st.cells stz) 47 by rw [← hZ]; exact (B4h.out.other (by simp) _))
              have b5 := hide (show Box Z (w.heap.size + 1) #[.int .i64 ((ac : Int) + 1), .bool ahn, .bool false, .int .i64 mi, .string ms, .bool false, .int .i64 xi, .string xs, .int .i64 0, .bool false] 47 by rw [← hZ]; exact (B5h.out.set 0 _))
              have bx := hide (show Box Z wr.heap.size #[.bool false, .int .i64 vi, .string vs] 38 by rw [← hZ]; exact (BXh.out.other (by simp; omega) _))
              have ho := hide (show Z.ownsRow (w.heap.size + 1 + 1) 3 1 (.slice As m cs) m (nis (st.nums (l.take j))) by rw [← hZ]; exact (own_other HOh.out (by simp) _))
              have hbb := hide (show Below w.heap.size w Z by rw [← hZ]; exact (HBh.out.setCell (Nat.le_succ _) _))
              clear d0 d2 d3 d4 d5 d6 d7 f0 f2 f3 f4 f5 f6 f7 x0 x1 x2 hz5 hzx
              clear hZ B4h B5h BXh HOh HBh
              have B4h := b4
              have B5h := b5
              have BXh := bx
              have HOh := ho
              have HBh := hbb
              clear b4 b5 bx ho hbb
              have x1 := BXh.out.cell 1 (.int .i64 vi) rfl
              have hzz := BXh.out.lt
              go_wp2_with (at_builtin; refine wpList_append_row _ rfl (.tmp 57) (.tmp 60) 36 rfl (w.heap.size + 1 + 1) 3 infoN Tryd.underlying36 rfl (by omega) (.slice As m cs) m _ rfl (HOh.out.alloc _) _ (some ⟨Z.heap.size, 0, none⟩) 1 1 [.int .i64 vi] rfl rfl (row_one Z (.int .i64 vi) _ (0, 0)) (one_int _ _) (by simp only [maxLen]; omega) (by omega) (by simp; omega) ?_; intro v' w' hown' hg hat; obtain ⟨A', c', rfl, -, -⟩ := own_form hown'; have HO' := hide hown'; have HG := hide hg; clear hown' hg hat)
              have hbz : Below (w.heap.size + 1 + 1) (Z.alloc (.cells #[.int .i64 vi] 3)) w' := below_own HG.out (Nat.le_refl _) (by simp; omega) (fun g h => own_ge (HOh.out.alloc (.cells #[.int .i64 vi] 3)) h (Nat.le_refl _))
              have b4' := hide ((B4h.out.alloc (.cells #[.int .i64 vi] 3)).below hbz (by omega))
              have b5' := hide ((B5h.out.alloc (.cells #[.int .i64 vi] 3)).below hbz (by omega))
              have hb' := hide ((HBh.out.alloc (by omega) (.cells #[.int .i64 vi] 3)).trans (Below.mono hbz (by omega)))
              clear hbz x1
              refine ⟨⟨j + 1, m + 1, c', A', by omega, by omega, by go_num, rfl, b4', hide ?_, hide (by rw [HNU.out]; simp [HM.out]), hide ?_, hb'⟩, by simp [intOf]; omega⟩
              · rw [HACC.out, HST2.out, HL1.out, HL2.out]
                exact b5'.out
              · rw [HNU.out, nis_append]
                exact HO'.out
    · obtain rfl : j = n := by omega
      have HALL := hide (show l.take j = l from List.take_of_length_le (by rw [HL.out]; exact Nat.le_refl _))
      have hnum := st.acc_nums (l.take j)
      have HNIN := hide (show ∀ x ∈ st.nums (l.take j), st.In x by
        intro x hx
        simp only [st.nums, List.mem_map, List.mem_filter] at hx
        obtain ⟨v, ⟨hv, -⟩, rfl⟩ := hx
        exact HIN.out v (List.mem_of_mem_take hv))
      have HOFL := hide (show st.of k l = st.summed k (st.ofAcc (st.acc (l.take j))) (st.acc (l.take j)).t by rw [HALL.out]; rfl)
      generalize hA : st.acc (l.take j) = a at B5 HTA HOFL hnum
      generalize st.nums (l.take j) = ns at hnum HM HO HNIN
      obtain ⟨q, hq⟩ : ∃ q, decide (1 ≤ k ∧ k ≤ 5) = q := ⟨_, rfl⟩
      have hr2 : st.summed k (st.ofAcc a) a.t = if q then { st.ofAcc a with sum := (st.sumOf a.t).1, ov := (st.sumOf a.t).2 } else st.ofAcc a := by unfold st.summed st.num; rw [hq]; simp [st.ofAcc]
      rw [hr2] at HOFL
      have HQ := hide hq
      obtain ⟨⟨sm, ov⟩, hso⟩ : ∃ p, st.sumOf a.t = p := ⟨_, rfl⟩
      rw [hso] at HOFL
      have HSO := hide (show st.sumOf ns.sum = (sm, ov) by rw [← hnum.1]; exact hso)
      obtain ⟨ac, ahn, ⟨mn, mi, ms⟩, ⟨xn, xi, xs⟩, at_⟩ := a
      obtain ⟨S, hS⟩ : ∃ S, st.of k l = S := ⟨_, rfl⟩
      rw [hS] at HOFL
      have HS := hide hS
      clear hA hq hr2 hso hnum hS HTA
      go_wp2_with fail
      refine (refnumber_any wr k).mono ?_
      rintro e w' ⟨rfl, rfl⟩
      rw [HQ.out]
      have B5h := hide (show Box wr (w.heap.size + 1) #[.int .i64 (ac : Int), .bool ahn, .bool mn, .int .i64 mi, .string ms, .bool xn, .int .i64 xi, .string xs, .int .i64 0, .bool false] 47 from B5.out)
      clear B5
      have d0 := B5h.out.cell 0 (.int .i64 (ac : Int)) rfl
      have d1 := B5h.out.cell 1 (.bool ahn) rfl
      have d2 := B5h.out.cell 2 (.bool mn) rfl
      have d3 := B5h.out.cell 3 (.int .i64 mi) rfl
      have d4 := B5h.out.cell 4 (.string ms) rfl
      have d5 := B5h.out.cell 5 (.bool xn) rfl
      have d6 := B5h.out.cell 6 (.int .i64 xi) rfl
      have d7 := B5h.out.cell 7 (.string xs) rfl
      have d8 := B5h.out.cell 8 (.int .i64 0) rfl
      have d9 := B5h.out.cell 9 (.bool false) rfl
      have f8 := B5h.out.frozen 8
      have f9 := B5h.out.frozen 9
      cases q with
      | false =>
        obtain rfl : S = ⟨ac, ahn, ⟨mn, mi, ms⟩, ⟨xn, xi, xs⟩, 0, false⟩ := HOFL.out
        go_wp2_with (refine wpList_store_row rfl 47 _ _ rfl w.heap.size #[.int .i64 (ac : Int), .bool ahn, .bool mn, .int .i64 mi, .string ms, .bool xn, .int .i64 xi, .string xs, .int .i64 0, .bool false] rfl rfl 47 _ B4.out (by kernel_rfl) rfl (cells_one ⟨ac, ahn, ⟨mn, mi, ms⟩, ⟨xn, xi, xs⟩, 0, false⟩) ?_)
        refine bodyPost_ret (box_results rfl _ (setRow_heap _ _ _ _ _ _ B4.out) rfl Tryd.underlying47 rfl rfl) rfl ?_
        exact ⟨by rw [HS.out]; rfl, below_setRow HB.out (Nat.le_refl _) _⟩
      | true =>
        obtain rfl : S = ⟨ac, ahn, ⟨mn, mi, ms⟩, ⟨xn, xi, xs⟩, sm, ov⟩ := HOFL.out
        go_wp2_with fail
        refine (refsum_any wr As m cs ns HM.out (by omega) HNIN.out (Row.of_own HO.out)).mono ?_
        rintro e w' ⟨rfl, rfl⟩
        rw [HSO.out]
        have hov : (!!ov) = ov := Bool.not_not ov
        go_wp2_with (refine wpList_store_row rfl 47 _ _ rfl w.heap.size #[.int .i64 (ac : Int), .bool ahn, .bool mn, .int .i64 mi, .string ms, .bool xn, .int .i64 xi, .string xs, .int .i64 sm, .bool ov] rfl rfl 47 _ ((B4.out.other (by simp) _).other (by simp) _) (by kernel_rfl) rfl (cells_one ⟨ac, ahn, ⟨mn, mi, ms⟩, ⟨xn, xi, xs⟩, sm, ov⟩) ?_)
        refine bodyPost_ret (box_results rfl _ (setRow_heap _ _ _ _ _ _ ((B4.out.other (by simp) _).other (by simp) _)) rfl Tryd.underlying47 rfl rfl) rfl ?_
        exact ⟨by rw [HS.out]; rfl, below_setRow ((HB.out.setCell (Nat.le_succ _) _).setCell (Nat.le_succ _) _) (Nat.le_refl _) _⟩
#print axioms refof_any
end Go.Proofs.YtklgmojojgoaeaaDoor
