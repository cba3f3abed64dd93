/-
  What is gone, together, by the document, walked (written by genVwRmg.py).
-/
import Derived.Test.YtjedpjfmlaganaaVwMg
import Derived.Test.YtjedpjfmlaganaaVwPut
namespace Go.Proofs.Ytjedpjfmlaganaa.vw
open Go.RowKit
set_option linter.unusedVariables false

theorem gcs_drop (l : List Gn) : ∀ k : Nat, (gcs l).drop (k * 4) = gcs (l.drop k) := by
  induction l with
  | nil => intro k; simp [gcs]
  | cons a l ih =>
    intro k
    cases k with
    | zero => simp
    | succ k =>
      rw [gcs_cons, show (k + 1) * 4 = k * 4 + 1 + 1 + 1 + 1 by omega]
      simp only [List.drop_succ_cons]
      rw [ih k]
theorem gbox2 (w : World) (x : Gn) (t : TypeId) : ∃ X, (w.alloc (.cells #[.int .i64 0, .int .i64 0, .int .i64 0, .int .i64 0] t)).setRow w.heap.size #[.int .i64 x.k.id, .int .i64 x.k.bk, .int .i64 x.k.rw, .int .i64 x.who] = X ∧ Box X w.heap.size #[.int .i64 x.k.id, .int .i64 x.k.bk, .int .i64 x.k.rw, .int .i64 x.who] t ∧ Le w X :=
  ⟨_, rfl, setRow_heap _ _ _ _ _ _ (box_new _ _ _), below_setRow ((Below.refl _ _).alloc (Nat.le_refl _) _) (Nat.le_refl _) _⟩
set_option maxRecDepth 100000 in
set_option maxHeartbeats 8000000 in
theorem rmgone_any (w : World) (RA RB : Option Addr) (n1 n2 ca cb : Nat) (l1 l2 : List Gn) (hl1 : l1.length = n1) (hl2 : l2.length = n2) (hn1 : n1 ≤ 60) (hn2 : n2 ≤ 60) (hr1 : Row w w.heap.size RA (gcs l1)) (hr2 : Row w w.heap.size RB (gcs l2)) :
    Calls Try.prog 15 #[.slice RA n1 ca, .slice RB n2 cb] w fun e w' => ∃ g' n' c', e = .returned (.slice (some ⟨g', 0, none⟩) n' c') ∧ n' = ((l1 ++ l2).foldl putG []).length ∧ w'.ownsRow w.heap.size 52 4 (.slice (some ⟨g', 0, none⟩) n' c') n' (gcs ((l1 ++ l2).foldl putG [])) ∧ Le w w' := by
  have HZ0 := hide (own_zero w w.heap.size (Nat.le_refl _) 52 4)
  have HLa := hide (show Le w (w.alloc (.cells #[] 52)) from (Le.refl _).alloc (Nat.le_refl _) _)
  have HT1 := hide (show (gcs l1).length = n1 * 4 by rw [gcs_len, hl1])
  have HT2 := hide (show (gcs l2).length = n2 * 4 by rw [gcs_len, hl2])
  have HR1 := hide (fun (W : World) (h : Le w W) => h.row hr1 (Nat.le_refl _))
  have HR2 := hide (fun (W : World) (h : Le w W) => h.row hr2 (Nat.le_refl _))
  obtain ⟨N, hN⟩ : ∃ N, n1 + n2 = N := ⟨_, rfl⟩
  have HAL := hide (show (l1 ++ l2).length = N by rw [List.length_append, hl1, hl2, hN])
  have hN9 : N ≤ 120 := by omega
  have HN := hide hN
  clear hl1 hl2 hr1 hr2 hN
  go_enter Try.func15, Try.ntmps15
  go_upto_region 1 with fail
  go_cut [5] (fun s wx => ∃ A0 c0, s = .slice A0 N c0 ∧ Hid (wx.ownsRow w.heap.size 52 4 (.slice A0 N c0) N (gcs (l1 ++ l2))) ∧ Hid (Le w wx))
  case first =>
    go_wp2_with (first | (at_builtin; refine wpList_append_row _ rfl (.tmp 11) (.tmp 12) 27 rfl w.heap.size 52 infoG Try.underlying27 rfl (by omega) (.slice (some ⟨w.heap.size, 0, none⟩) 0 0) 0 [] rfl HZ0.out _ RA n1 ca (gcs l1) rfl HT1.out (HR1.out _ HLa.out) gcs_one (by simp only [maxLen]; omega) (by omega) HLa.out.size ?_; intro v' w1 hown' hg hat; obtain ⟨A1, d1, rfl, -, -⟩ := own_form hown'; have HO1 := hide hown'; have HG1 := hide hg; clear hown' hg hat; have HL1 := hide (show Le w w1 from Below.trans HLa.out (le_own HZ0.out HG1.out HLa.out.size)); have HP1 := hide (show w1.ownsRow w.heap.size 52 4 (.slice A1 n1 d1) n1 (gcs l1) by have := HO1.out; simpa using this); clear HO1) | (at_builtin; refine wpList_append_row _ rfl (.tmp 13) (.tmp 14) 27 rfl w.heap.size 52 infoG Try.underlying27 rfl (by omega) (.slice A1 n1 d1) n1 (gcs l1) rfl HP1.out _ RB n2 cb (gcs l2) rfl HT2.out (HR2.out _ HL1.out) gcs_one (by simp only [maxLen]; omega) (by omega) HL1.out.size ?_; intro v' w2 hown' hg hat; obtain ⟨A2, c2, rfl, -, -⟩ := own_form hown'; have HO2 := hide hown'; have HG2 := hide hg; clear hown' hg hat; have HL2 := hide (show Le w w2 from Below.trans HL1.out (le_own HP1.out HG2.out HL1.out.size))))
    go_meet
    exact ⟨A2, c2, by rw [HN.out], hide (by have := HO2.out; rwa [← gcs_append, HN.out] at this), HL2⟩
  case rest =>
    obtain ⟨A0, c0, rfl, HOA, HLA⟩ := hcut
    obtain ⟨Y, rfl⟩ : ∃ Y, Y = wc := ⟨_, rfl⟩
    obtain ⟨Z, hZ, ho2, hlz⟩ : ∃ X, Y.alloc (.cells #[] 52) = X ∧ X.ownsRow w.heap.size 52 4 (.slice (some ⟨Y.heap.size, 0, none⟩) 0 0) 0 [] ∧ Le Y X := ⟨_, rfl, own_zero Y _ HLA.out.size _ _, (Below.refl _ _).alloc (Nat.le_refl _) _⟩
    have HZ := hide hZ
    have HOZ := hide ho2
    have HWZ := hide (HLA.out.trans hlz)
    have HRA := hide ((hlz.row (Row.of_own HOA.out) (Nat.le_refl _)).more hlz.size)
    clear hZ ho2 hlz HZ0 HLa HR1 HR2 HT1 HT2
    obtain ⟨al, hal⟩ : ∃ al, l1 ++ l2 = al := ⟨_, rfl⟩
    have HAL2 := hide hal
    rw [hal] at HAL HOA HRA
    clear hal
    go_upto_region 3 with fail
    rw [HZ.out]
    go_wp2_with fail
    go_loopw [6, 7] (fun s t wr => ∃ (i g1 k1 c1 : Nat) (L : List Gn), s = .slice (some ⟨g1, 0, none⟩) k1 c1 ∧ t = .int .i64 i ∧ i ≤ N ∧ k1 ≤ i ∧ Hid ((al.take i).foldl putG [] = L) ∧ Hid (k1 = L.length) ∧ Hid (wr.ownsRow w.heap.size 52 4 (.slice (some ⟨g1, 0, none⟩) k1 c1) k1 (gcs L)) ∧ Hid (Le Z wr)) (fun _ t _ => N - (intOf t).toNat)
    case atStart => exact ⟨0, _, 0, 0, [], rfl, rfl, Nat.zero_le _, Nat.le_refl _, hide rfl, hide rfl, HOZ, hide (Le.refl _)⟩
    case round =>
      obtain ⟨i, g1, k1, c1, L, rfl, rfl, hi, hki, HLL, HKL, HO, HLr⟩ := hrel
      obtain ⟨M, rfl⟩ : ∃ M, M = wr := ⟨_, rfl⟩
      by_cases hir : i < N
      · obtain ⟨x, hx⟩ : ∃ x, al[i]? = some x := ⟨_, List.getElem?_eq_getElem (by rw [HAL.out]; exact hir)⟩
        obtain ⟨bA, oA, rfl, hbA, r0, r1, r2, r3⟩ := row_gn HRA.out hx
        have hiI : (i : Int) < N := by omega
        have HPX0 := hide (show (al.take (i + 1)).foldl putG [] = putG L x by rw [take_snoc hx, List.foldl_append, HLL.out]; rfl)
        have e0 : M.cell? ⟨bA, oA + i * 4, none⟩ = some (.int .i64 x.k.id) := (HLr.out.cell (p := ⟨bA, oA + i * 4, none⟩) hbA).trans r0
        have e1 : M.cell? ⟨bA, oA + i * 4 + 1, none⟩ = some (.int .i64 x.k.bk) := (HLr.out.cell (p := ⟨bA, oA + i * 4 + 1, none⟩) hbA).trans r1
        have e2 : M.cell? ⟨bA, oA + i * 4 + 2, none⟩ = some (.int .i64 x.k.rw) := (HLr.out.cell (p := ⟨bA, oA + i * 4 + 2, none⟩) hbA).trans r2
        have e3 : M.cell? ⟨bA, oA + i * 4 + 3, none⟩ = some (.int .i64 x.who) := (HLr.out.cell (p := ⟨bA, oA + i * 4 + 3, none⟩) hbA).trans r3
        have hcc : k1 ≤ c1 ∧ c1 ≤ maxLen := by
          obtain ⟨A, c', e, h1, h2⟩ := own_form HO.out
          injection e with e1 e2 e3
          subst e3
          exact ⟨h1, h2⟩
        have hnc := hcc.1
        have HLL2 := hide (show L.length = k1 from HKL.out.symm)
        have HRW := hide (Row.of_own HO.out)
        have HDRP := hide (fun (k : Nat) (W : World) (h : Le M W) => show Row W W.heap.size (some ⟨g1, k * 4, none⟩) (gcs (L.drop k)) by
          have := ((h.row HRW.out (Nat.le_refl _)).more h.size).drop (k * 4) (A' := some ⟨g1, k * 4, none⟩) (fun _ => by simp [add_eq])
          rwa [gcs_drop] at this)
        have HTKP := hide (fun (k : Nat) (W : World) (h : Le M W) => show Row W W.heap.size (some ⟨g1, 0, none⟩) (gcs (L.take k)) by
          have := ((h.row HRW.out (Nat.le_refl _)).more h.size).take (k * 4)
          rwa [gcs_take] at this)
        clear r0 r1 r2 r3 hx hcc
        go_upto_region 7 with (refine wpList_store_row rfl 52 _ _ rfl M.heap.size #[.int .i64 x.k.id, .int .i64 x.k.bk, .int .i64 x.k.rw, .int .i64 x.who] rfl rfl 52 _ (box_new _ _ _) (by kernel_rfl) rfl (gn_one x) ?_)
        obtain ⟨X, hX, bX, hlX⟩ := gbox2 M x 52
        rw [hX]
        have BX := hide bX
        have HLXr := hide hlX
        clear hX bX hlX e0 e1 e2 e3
        go_wp2_with fail
        go_loopw [9] (fun s wk => ∃ k : Nat, s = .int .i64 k ∧ k ≤ k1 ∧ Hid (∀ j z, j < k → L[j]? = some z → ltG z x = true) ∧ Hid (Le X wk)) (fun s _ => k1 - (intOf s).toNat)
        case atStart => exact ⟨0, rfl, Nat.zero_le _, hide (fun j z h => by omega), hide (Le.refl _)⟩
        case round =>
          obtain ⟨k, rfl, hk, HK, HLk⟩ := hrel
          go_upto_region 8 with fail
          obtain ⟨V, hV⟩ : ∃ V, wr.drew = V := ⟨_, rfl⟩
          have HLV := hide (show Le X V by rw [← hV]; exact HLk.out.drew)
          have HV := hide hV
          have b0 : ∀ W, Le V W → W.cell? ⟨M.heap.size, 0, none⟩ = some (.int .i64 x.k.id) := fun W h => BX.out.later 0 _ rfl W (HLV.out.trans h)
          have b1 : ∀ W, Le V W → W.cell? ⟨M.heap.size, 1, none⟩ = some (.int .i64 x.k.bk) := fun W h => BX.out.later 1 _ rfl W (HLV.out.trans h)
          have b2 : ∀ W, Le V W → W.cell? ⟨M.heap.size, 2, none⟩ = some (.int .i64 x.k.rw) := fun W h => BX.out.later 2 _ rfl W (HLV.out.trans h)
          have b3 : ∀ W, Le V W → W.cell? ⟨M.heap.size, 3, none⟩ = some (.int .i64 x.who) := fun W h => BX.out.later 3 _ rfl W (HLV.out.trans h)
          clear hV
          go_cut [60] (fun s wx => ∃ d : Bool, s = .bool d ∧ Hid (d = true → k < k1 ∧ ∀ z, L[k]? = some z → ltG z x = true) ∧ Hid (d = false → ∀ z, L[k]? = some z → ltG z x = false) ∧ Hid (Le X wx))
          case first =>
            by_cases hkn : k < k1
            · obtain ⟨u, hu⟩ : ∃ u, L[k]? = some u := ⟨_, List.getElem?_eq_getElem (by rw [HLL2.out]; exact hkn)⟩
              obtain ⟨bA, oA, eA, hbA, r0, r1, r2, r3⟩ := row_gn HRW.out hu
              simp only [Option.some.injEq, Addr.mk.injEq, and_true] at eA
              obtain ⟨rfl, rfl⟩ := eA
              have hkI : (k : Int) < k1 := by omega
              have e0 : ∀ W, Le V W → W.cell? ⟨g1, k * 4, none⟩ = some (.int .i64 u.k.id) := fun W h => by have := (((HLXr.out.trans HLV.out).trans h).cell (p := ⟨g1, 0 + k * 4, none⟩) hbA).trans r0; simpa using this
              have e1 : ∀ W, Le V W → W.cell? ⟨g1, k * 4 + 1, none⟩ = some (.int .i64 u.k.bk) := fun W h => by have := (((HLXr.out.trans HLV.out).trans h).cell (p := ⟨g1, 0 + k * 4 + 1, none⟩) hbA).trans r1; simpa using this
              have e2 : ∀ W, Le V W → W.cell? ⟨g1, k * 4 + 2, none⟩ = some (.int .i64 u.k.rw) := fun W h => by have := (((HLXr.out.trans HLV.out).trans h).cell (p := ⟨g1, 0 + k * 4 + 2, none⟩) hbA).trans r2; simpa using this
              have e3 : ∀ W, Le V W → W.cell? ⟨g1, k * 4 + 3, none⟩ = some (.int .i64 u.who) := fun W h => by have := (((HLXr.out.trans HLV.out).trans h).cell (p := ⟨g1, 0 + k * 4 + 3, none⟩) hbA).trans r3; simpa using this
              have hle := hide (rless_any V u.k x.k)
              have HU := hide (show ∀ z, L[k]? = some z → z = u from fun z hz => by rw [hu] at hz; injection hz with hz; exact hz.symm)
              obtain ⟨d, hd⟩ : ∃ d, ltK u.k x.k = d := ⟨_, rfl⟩
              obtain ⟨e, he⟩ : ∃ e, eqK u.k x.k = e := ⟨_, rfl⟩
              rw [hd] at hle
              have HD := hide (show ltG u x = (d || (e && decide (u.who < x.who))) by unfold ltG; rw [hd, he])
              have HE := hide he
              clear r0 r1 r2 r3 hu hd he
              refine region_pi [(0, true), (1, true), (2, true), (3, true), (4, true), (5, true), (6, true), (7, true), (8, true), (9, true), (10, true), (11, true), (12, false), (13, true), (14, true), (15, true), (16, true), (17, true), (18, true), (19, true), (20, true), (21, true), (22, true), (23, true), (24, true), (25, true), (26, true), (27, true), (28, true), (29, true), (30, true), (31, true), (32, true), (33, true)] (by kernel_rfl) (by kernel_rfl) ?_
              simp only [opsPi, List.filterMap_cons, List.filterMap_nil, List.getElem?_toArray, List.getElem?_cons_zero, List.getElem?_cons_succ, Option.map_some]
              rw [HV.out]
              repeat (first | (refine pi_take (v := _) rfl (fun W hW => by go_simp <;> exact rfl) ?_; simp only [Act.put, List.setIfInBounds_toArray, List.set_cons_zero, List.set_cons_succ]) | (refine pi_skip rfl ?_; simp only [Act.put, List.setIfInBounds_toArray, List.set_cons_zero, List.set_cons_succ]))
              refine pi_run ?_
              go_wp2_with fail
              refine hle.out.mono ?_
              rintro e' w1 ⟨rfl, hg⟩
              have HG1 := hide hg.le
              clear hg
              cases d
              · go_wp2_with fail
                refine ⟨HG1.out, ?_⟩
                have e0' : ∀ W, Le w1 W → W.cell? ⟨g1, k * 4, none⟩ = _ := fun W h => e0 W (HG1.out.trans h)
                have e1' : ∀ W, Le w1 W → W.cell? ⟨g1, k * 4 + 1, none⟩ = _ := fun W h => e1 W (HG1.out.trans h)
                have e2' : ∀ W, Le w1 W → W.cell? ⟨g1, k * 4 + 2, none⟩ = _ := fun W h => e2 W (HG1.out.trans h)
                have e3' : ∀ W, Le w1 W → W.cell? ⟨g1, k * 4 + 3, none⟩ = _ := fun W h => e3 W (HG1.out.trans h)
                have b0' : ∀ W, Le w1 W → W.cell? ⟨M.heap.size, 0, none⟩ = _ := fun W h => b0 W (HG1.out.trans h)
                have b1' : ∀ W, Le w1 W → W.cell? ⟨M.heap.size, 1, none⟩ = _ := fun W h => b1 W (HG1.out.trans h)
                have b2' : ∀ W, Le w1 W → W.cell? ⟨M.heap.size, 2, none⟩ = _ := fun W h => b2 W (HG1.out.trans h)
                have b3' : ∀ W, Le w1 W → W.cell? ⟨M.heap.size, 3, none⟩ = _ := fun W h => b3 W (HG1.out.trans h)
                clear e0 e1 e2 e3 b0 b1 b2 b3
                cases e
                ·
                  repeat (first | (refine pi_take (v := _) rfl (fun W hW => by go_simp <;> exact rfl) ?_; simp only [Act.put, List.setIfInBounds_toArray, List.set_cons_zero, List.set_cons_succ]) | (refine pi_skip rfl ?_; simp only [Act.put, List.setIfInBounds_toArray, List.set_cons_zero, List.set_cons_succ]))
                  refine pi_take (v := .bool _) rfl (fun W' hW' => eqk_exec (x := u.k) (y := x.k) rfl rfl rfl W') ?_
                  rw [HE.out]
                  simp only [Act.put, List.setIfInBounds_toArray, List.set_cons_zero, List.set_cons_succ]
                  repeat (first | (refine pi_take (v := _) rfl (fun W hW => by go_simp <;> exact rfl) ?_; simp only [Act.put, List.setIfInBounds_toArray, List.set_cons_zero, List.set_cons_succ]) | (refine pi_skip rfl ?_; simp only [Act.put, List.setIfInBounds_toArray, List.set_cons_zero, List.set_cons_succ]))
                  refine pi_done ?_
                  clear e0' e1' e2' e3' b0' b1' b2' b3'
                  go_wp2_with fail
                  go_meet
                  exact ⟨false, rfl, hide (fun h => by cases h), hide (fun _ z hz => by rw [HU.out z hz, HD.out]; rfl), hide (HLV.out.trans HG1.out)⟩
                ·
                  repeat (first | (refine pi_take (v := _) rfl (fun W hW => by go_simp <;> exact rfl) ?_; simp only [Act.put, List.setIfInBounds_toArray, List.set_cons_zero, List.set_cons_succ]) | (refine pi_skip rfl ?_; simp only [Act.put, List.setIfInBounds_toArray, List.set_cons_zero, List.set_cons_succ]))
                  refine pi_take (v := .bool _) rfl (fun W' hW' => eqk_exec (x := u.k) (y := x.k) rfl rfl rfl W') ?_
                  rw [HE.out]
                  simp only [Act.put, List.setIfInBounds_toArray, List.set_cons_zero, List.set_cons_succ]
                  repeat (first | (refine pi_take (v := _) rfl (fun W hW => by go_simp <;> exact rfl) ?_; simp only [Act.put, List.setIfInBounds_toArray, List.set_cons_zero, List.set_cons_succ]) | (refine pi_skip rfl ?_; simp only [Act.put, List.setIfInBounds_toArray, List.set_cons_zero, List.set_cons_succ]))
                  refine pi_done ?_
                  clear e0' e1' e2' e3' b0' b1' b2' b3'
                  go_wp2_with fail
                  go_meet
                  exact ⟨decide (u.who < x.who), rfl, hide (fun h => ⟨hkn, fun z hz => by rw [HU.out z hz, HD.out, h]; rfl⟩), hide (fun h z hz => by rw [HU.out z hz, HD.out, h]; rfl), hide (HLV.out.trans HG1.out)⟩
              · clear e0 e1 e2 e3 b0 b1 b2 b3
                go_wp2_with fail
                refine ⟨HG1.out, ?_⟩
                repeat (first | (refine pi_take (v := _) rfl (fun W hW => by go_simp <;> exact rfl) ?_; simp only [Act.put, List.setIfInBounds_toArray, List.set_cons_zero, List.set_cons_succ]) | (refine pi_skip rfl ?_; simp only [Act.put, List.setIfInBounds_toArray, List.set_cons_zero, List.set_cons_succ]))
                refine pi_done ?_
                go_wp2_with fail
                go_meet
                exact ⟨true, rfl, hide (fun h => ⟨hkn, fun z hz => by rw [HU.out z hz, HD.out]; rfl⟩), hide (fun h => by cases h), hide (HLV.out.trans HG1.out)⟩
            · have hkI : ¬ (k : Int) < k1 := by omega
              refine region_pi [(0, true), (1, true), (2, true), (3, true), (4, true), (5, true), (6, true), (7, true), (8, true), (9, true), (10, true), (11, true), (12, true), (13, true), (14, true), (15, true), (16, true), (17, true), (18, true), (19, true), (20, true), (21, true), (22, true), (23, true), (24, true), (25, true), (26, true), (27, true), (28, true), (29, true), (30, true), (31, true), (32, true), (33, true)] (by kernel_rfl) (by kernel_rfl) ?_
              simp only [opsPi, List.filterMap_cons, List.filterMap_nil, List.getElem?_toArray, List.getElem?_cons_zero, List.getElem?_cons_succ, Option.map_some]
              rw [HV.out]
              repeat (first | (refine pi_take (v := _) rfl (fun W hW => by go_simp <;> exact rfl) ?_; simp only [Act.put, List.setIfInBounds_toArray, List.set_cons_zero, List.set_cons_succ]) | (refine pi_skip rfl ?_; simp only [Act.put, List.setIfInBounds_toArray, List.set_cons_zero, List.set_cons_succ]))
              refine pi_done ?_
              go_wp2_with fail
              go_meet
              exact ⟨false, rfl, hide (fun h => by cases h), hide (fun _ z hz => by have := (List.getElem?_eq_some_iff.1 hz).1; rw [HLL2.out] at this; omega), HLV⟩
          case rest =>
            obtain ⟨d, rfl, HD1, HD2, HLc⟩ := hcut
            clear HLk HLV HV b0 b1 b2 b3
            cases d
            · obtain ⟨Q, rfl⟩ : ∃ Q, Q = wc := ⟨_, rfl⟩
              go_upto_region 10 with fail
              obtain ⟨V, hV⟩ : ∃ V, Q.drew = V := ⟨_, rfl⟩
              have HLV := hide (show Le X V by rw [← hV]; exact HLc.out.drew)
              have HV := hide hV
              have b0 : ∀ W, Le V W → W.cell? ⟨M.heap.size, 0, none⟩ = some (.int .i64 x.k.id) := fun W h => BX.out.later 0 _ rfl W (HLV.out.trans h)
              have b1 : ∀ W, Le V W → W.cell? ⟨M.heap.size, 1, none⟩ = some (.int .i64 x.k.bk) := fun W h => BX.out.later 1 _ rfl W (HLV.out.trans h)
              have b2 : ∀ W, Le V W → W.cell? ⟨M.heap.size, 2, none⟩ = some (.int .i64 x.k.rw) := fun W h => BX.out.later 2 _ rfl W (HLV.out.trans h)
              have b3 : ∀ W, Le V W → W.cell? ⟨M.heap.size, 3, none⟩ = some (.int .i64 x.who) := fun W h => BX.out.later 3 _ rfl W (HLV.out.trans h)
              clear hV
              go_cut [74] (fun s wx => ∃ d : Bool, s = .bool d ∧ Hid (d = true → putG L x = L) ∧ Hid (d = false → putG L x = L.take k ++ [x] ++ L.drop k) ∧ Hid (Le X wx))
              case first =>
                by_cases hkn : k < k1
                · obtain ⟨u, hu⟩ : ∃ u, L[k]? = some u := ⟨_, List.getElem?_eq_getElem (by rw [HLL2.out]; exact hkn)⟩
                  obtain ⟨bA, oA, eA, hbA, r0, r1, r2, r3⟩ := row_gn HRW.out hu
                  simp only [Option.some.injEq, Addr.mk.injEq, and_true] at eA
                  obtain ⟨rfl, rfl⟩ := eA
                  have hkI : (k : Int) < k1 := by omega
                  have e0 : ∀ W, Le V W → W.cell? ⟨g1, k * 4, none⟩ = some (.int .i64 u.k.id) := fun W h => by have := (((HLXr.out.trans HLV.out).trans h).cell (p := ⟨g1, 0 + k * 4, none⟩) hbA).trans r0; simpa using this
                  have e1 : ∀ W, Le V W → W.cell? ⟨g1, k * 4 + 1, none⟩ = some (.int .i64 u.k.bk) := fun W h => by have := (((HLXr.out.trans HLV.out).trans h).cell (p := ⟨g1, 0 + k * 4 + 1, none⟩) hbA).trans r1; simpa using this
                  have e2 : ∀ W, Le V W → W.cell? ⟨g1, k * 4 + 2, none⟩ = some (.int .i64 u.k.rw) := fun W h => by have := (((HLXr.out.trans HLV.out).trans h).cell (p := ⟨g1, 0 + k * 4 + 2, none⟩) hbA).trans r2; simpa using this
                  have e3 : ∀ W, Le V W → W.cell? ⟨g1, k * 4 + 3, none⟩ = some (.int .i64 u.who) := fun W h => by have := (((HLXr.out.trans HLV.out).trans h).cell (p := ⟨g1, 0 + k * 4 + 3, none⟩) hbA).trans r3; simpa using this
                  obtain ⟨d, hd⟩ : ∃ d, eqG u x = d := ⟨_, rfl⟩
                  have HDD := hide hd
                  have HP1 := hide (fun h : d = true => putG_same (x := x) (y := u) hu HK.out (by rw [hd, h]))
                  have HP2 := hide (fun h : d = false => putG_new (x := x) (l := L) (k := k) (by rw [HLL2.out]; exact hk) HK.out (fun y hy => ⟨HD2.out rfl y hy, by rw [hu] at hy; injection hy with hy; rw [← hy, hd, h]⟩))
                  clear r0 r1 r2 r3 hu hd
                  refine region_pi [(0, true), (1, true), (2, true), (3, true), (4, true), (5, true), (6, true), (7, true), (8, true), (9, true), (10, true), (11, true)] (by kernel_rfl) (by kernel_rfl) ?_
                  simp only [opsPi, List.filterMap_cons, List.filterMap_nil, List.getElem?_toArray, List.getElem?_cons_zero, List.getElem?_cons_succ, Option.map_some]
                  rw [HV.out]
                  repeat (first | (refine pi_take (v := _) rfl (fun W hW => by go_simp <;> exact rfl) ?_; simp only [Act.put, List.setIfInBounds_toArray, List.set_cons_zero, List.set_cons_succ]) | (refine pi_skip rfl ?_; simp only [Act.put, List.setIfInBounds_toArray, List.set_cons_zero, List.set_cons_succ]))
                  refine pi_take (v := .bool _) rfl (fun W' hW' => eqg_exec (x := u) (y := x) rfl rfl rfl W') ?_
                  rw [HDD.out]
                  simp only [Act.put, List.setIfInBounds_toArray, List.set_cons_zero, List.set_cons_succ]
                  repeat (first | (refine pi_take (v := _) rfl (fun W hW => by go_simp <;> exact rfl) ?_; simp only [Act.put, List.setIfInBounds_toArray, List.set_cons_zero, List.set_cons_succ]) | (refine pi_skip rfl ?_; simp only [Act.put, List.setIfInBounds_toArray, List.set_cons_zero, List.set_cons_succ]))
                  refine pi_done ?_
                  clear e0 e1 e2 e3 b0 b1 b2 b3
                  go_wp2_with fail
                  go_meet
                  exact ⟨d, rfl, HP1, HP2, HLV⟩
                · have hkI : ¬ (k : Int) < k1 := by omega
                  refine region_pi [(0, true), (1, true), (2, true), (3, true), (4, true), (5, true), (6, true), (7, true), (8, true), (9, true), (10, true), (11, true)] (by kernel_rfl) (by kernel_rfl) ?_
                  simp only [opsPi, List.filterMap_cons, List.filterMap_nil, List.getElem?_toArray, List.getElem?_cons_zero, List.getElem?_cons_succ, Option.map_some]
                  rw [HV.out]
                  repeat (first | (refine pi_take (v := _) rfl (fun W hW => by go_simp <;> exact rfl) ?_; simp only [Act.put, List.setIfInBounds_toArray, List.set_cons_zero, List.set_cons_succ]) | (refine pi_skip rfl ?_; simp only [Act.put, List.setIfInBounds_toArray, List.set_cons_zero, List.set_cons_succ]))
                  refine pi_done ?_
                  go_wp2_with fail
                  go_meet
                  exact ⟨false, rfl, hide (fun h => by cases h), hide (fun _ => putG_new (by rw [HLL2.out]; exact hk) HK.out (fun y hy => by have := (List.getElem?_eq_some_iff.1 hy).1; rw [HLL2.out] at this; omega)), HLV⟩
              case rest =>
                obtain ⟨d, rfl, HP1, HP2, HLd⟩ := hcut
                clear HLc HLV HV b0 b1 b2 b3
                cases d
                · have HP := hide (HP2.out rfl)
                  have HPX := hide (show (al.take (i + 1)).foldl putG [] = putG L x from HPX0.out)
                  obtain ⟨Y2, rfl⟩ : ∃ Y2, Y2 = wc := ⟨_, rfl⟩
                  have HLw := hide (HLXr.out.trans HLd.out)
                  have hyz := HLw.out.size
                  have hyx := HLd.out.size
                  clear HP1 HP2 HD1 HD2
                  go_upto_region 11 with fail
                  obtain ⟨r, hr⟩ : ∃ r, k1 - k = r := ⟨_, rfl⟩
                  have hrn : r ≤ k1 := by omega
                  have HRN := hide hr
                  have HDR := hide (show (gcs (L.drop k)).length = r * 4 by rw [gcs_len, List.length_drop, HLL2.out, hr])
                  go_cut [10] (fun s wx => ∃ A6 c6, s = .slice A6 r c6 ∧ Hid (Row wx wx.heap.size A6 (gcs (L.drop k))) ∧ Hid (Le Y2 wx))
                  case first =>
                    have HZ0 := hide (own_zero Y2 Y2.heap.size (Nat.le_refl _) 52 4)
                    have HLZ := hide (show Le M (Y2.alloc (.cells #[] 52)) from HLw.out.alloc hyz _)
                    have HLY := hide (show Le Y2 (Y2.alloc (.cells #[] 52)) from (Le.refl _).alloc (Nat.le_refl _) _)
                    by_cases hck : c1 = k
                    · have hkn2 : k1 = k := by omega
                      obtain rfl : r = 0 := by omega
                      have hdr : L.drop k = [] := List.drop_of_length_le (by rw [HLL2.out]; omega)
                      have HDR2 := hide hdr
                      clear hr hdr
                      subst hck
                      subst hkn2
                      go_wp2_with (at_builtin; refine wpList_append_row _ rfl (.tmp 75) (.tmp 78) 27 rfl Y2.heap.size 52 infoG Try.underlying27 rfl (by omega) (.slice (some ⟨Y2.heap.size, 0, none⟩) 0 0) 0 [] rfl HZ0.out 0 _ 0 _ [] rfl rfl (fun h => absurd rfl h) (fun u hu => by cases hu) (by simp only [maxLen]; omega) (by omega) (by simp) ?_; intro v' w6 hown' hg hat; obtain ⟨A6, c6, rfl, -, -⟩ := own_form hown'; have HO6 := hide hown'; have HG6 := hide hg; clear hown' hg hat)
                      go_meet
                      exact ⟨_, _, rfl, hide (by rw [HDR2.out]; exact fun h => absurd rfl h), hide (Below.trans HLY.out (le_own HZ0.out HG6.out (by simp)))⟩
                    · go_wp2_with (at_builtin; refine wpList_append_row _ rfl (.tmp 75) (.tmp 78) 27 rfl Y2.heap.size 52 infoG Try.underlying27 rfl (by omega) (.slice (some ⟨Y2.heap.size, 0, none⟩) 0 0) 0 [] rfl HZ0.out _ (some ⟨g1, k * 4, none⟩) r (c1 - k) (gcs (L.drop k)) rfl HDR.out (HDRP.out k _ HLZ.out) gcs_one (by simp only [maxLen]; omega) (by omega) (by simp) ?_; intro v' w6 hown' hg hat; obtain ⟨A6, c6, rfl, -, -⟩ := own_form hown'; have HO6 := hide hown'; have HG6 := hide hg; clear hown' hg hat)
                      go_meet
                      exact ⟨_, _, rfl, hide (by have := Row.of_own HO6.out; simpa using this), hide (Below.trans HLY.out (le_own HZ0.out HG6.out (by simp)))⟩
                  case rest =>
                    obtain ⟨A6, c6, rfl, HR6, HL6⟩ := hcut
                    go_upto_region 12 with fail
                    obtain ⟨Z2, rfl⟩ : ∃ Z2, Z2 = wc := ⟨_, rfl⟩
                    obtain ⟨U, hU⟩ : ∃ U, Z2.drew = U := ⟨_, rfl⟩
                    have HLZU := hide (show Le Z2 U by rw [← hU]; exact (Le.refl Z2).drew)
                    have HLU := hide (show Le X U from (HLd.out.trans HL6.out).trans HLZU.out)
                    have HU := hide hU
                    clear hU
                    have b0 : ∀ W, Le U W → W.cell? ⟨M.heap.size, 0, none⟩ = some (.int .i64 x.k.id) := fun W h => BX.out.later 0 _ rfl W (HLU.out.trans h)
                    have b1 : ∀ W, Le U W → W.cell? ⟨M.heap.size, 1, none⟩ = some (.int .i64 x.k.bk) := fun W h => BX.out.later 1 _ rfl W (HLU.out.trans h)
                    have b2 : ∀ W, Le U W → W.cell? ⟨M.heap.size, 2, none⟩ = some (.int .i64 x.k.rw) := fun W h => BX.out.later 2 _ rfl W (HLU.out.trans h)
                    have b3 : ∀ W, Le U W → W.cell? ⟨M.heap.size, 3, none⟩ = some (.int .i64 x.who) := fun W h => BX.out.later 3 _ rfl W (HLU.out.trans h)
                    have HWU := hide (HLXr.out.trans HLU.out)
                    have hBU : w.heap.size ≤ U.heap.size := Nat.le_trans HWZ.out.size (HLr.out.trans HWU.out).size
                    have HTL := hide (show (gcs (L.take k)).length = k * 4 by rw [gcs_len, List.length_take, HLL2.out]; omega)
                    have hkc : k ≤ c1 := by omega
                    refine region_at (Le U) 10 (by kernel_rfl) (by rw [HU.out]; exact Le.refl _) ?_
                    rw [HU.out]
                    refine at_seg [(1, 1), (2, 1), (3, 1), (5, 0), (8, 1)] 6 (by rfl) (by kernel_rfl) ?_
                    simp only [opsPiG, List.filterMap_cons, List.filterMap_nil, List.getElem?_toArray, List.getElem?_cons_zero, List.getElem?_cons_succ, Option.map_some]
                    repeat (first | (refine pig_any (v := _) rfl (fun W' => by go_simp <;> exact rfl) ?_; simp only [Act.put, List.setIfInBounds_toArray, List.set_cons_zero, List.set_cons_succ]) | (refine pig_take (v := _) rfl (fun W' hW' => by go_simp <;> exact rfl) ?_; simp only [Act.put, List.setIfInBounds_toArray, List.set_cons_zero, List.set_cons_succ]))
                    refine pig_done ?_
                    clear b0 b1 b2 b3
                    show At _ _ _ (Le U) 10 6 _ _ U
                    clear hkc
                    refine at_two (i := 0) (j := 6) (fuel := 5) (by rfl) (by rfl) (by kernel_rfl) ?_ ?_
                    · have HZ1 := hide (own_zero U U.heap.size (Nat.le_refl _) 52 4)
                      have HLa := hide (show Le U (U.alloc (.cells #[] 52)) from (Le.refl _).alloc (Nat.le_refl _) _)
                      have HWa := hide (HWU.out.trans HLa.out)
                      go_wp2_with fail
                      refine ⟨HLa.out, ?_⟩
                      refine at_two (i := 4) (j := 6) (fuel := 4) (by rfl) (by rfl) (by kernel_rfl) ?_ ?_
                      · show wpList _ _ _ ((Oper.mk (some 84) _ _ _ _ _) :: _) _ _
                        go_wp2_with (at_builtin; refine wpList_append_row _ rfl (.tmp 80) (.tmp 83) 27 rfl U.heap.size 52 infoG Try.underlying27 rfl (by omega) (.slice (some ⟨U.heap.size, 0, none⟩) 0 0) 0 [] rfl HZ1.out _ (some ⟨g1, 0, none⟩) k c1 (gcs (L.take k)) rfl HTL.out (HTKP.out k _ HWa.out) gcs_one (by simp only [maxLen]; omega) (by omega) HLa.out.size ?_; intro v' w1 hown' hg hat; obtain ⟨A1, c1', rfl, -, -⟩ := own_form hown'; have HO1 := hide hown'; have HG1 := hide hg; clear hown' hg hat)
                        have HL1 := hide (show Le U w1 from Below.trans HLa.out (le_own HZ1.out HG1.out HLa.out.size))
                        have HP1 := hide (show w1.ownsRow U.heap.size 52 4 (.slice A1 (k) c1') (k) (gcs (L.take k)) by have := HO1.out; simpa [gcs_append] using this)
                        clear HO1
                        refine ⟨HL1.out, ?_⟩
                        refine at_seg [(6, 2), (7, 2), (9, 2), (10, 3)] 0 (by rfl) (by kernel_rfl) ?_
                        simp only [opsPiG, List.filterMap_cons, List.filterMap_nil, List.getElem?_toArray, List.getElem?_cons_zero, List.getElem?_cons_succ, Option.map_some]
                        refine pig_run ?_
                        go_wp2_with fail
                        obtain ⟨F, hF, BF, hLF⟩ : ∃ F, w1.alloc (.cells #[.int .i64 x.k.id, .int .i64 x.k.bk, .int .i64 x.k.rw, .int .i64 x.who] 52) = F ∧ Box F w1.heap.size #[.int .i64 x.k.id, .int .i64 x.k.bk, .int .i64 x.k.rw, .int .i64 x.who] 52 ∧ Le w1 F := ⟨_, rfl, box_new _ _ _, (Le.refl _).alloc (Nat.le_refl _) _⟩
                        rw [hF]
                        have HLF := hide (HL1.out.trans hLF)
                        have HOF := hide (own_below HP1.out hLF)
                        have BXF := hide BF
                        clear hF hLF BF
                        refine ⟨HLF.out, ?_⟩
                        refine pig_run ?_
                        go_wp2_with (at_builtin; refine wpList_append_row _ rfl (.tmp 84) (.tmp 86) 27 rfl U.heap.size 52 infoG Try.underlying27 rfl (by omega) (.slice A1 k c1') k (gcs (L.take k)) rfl HOF.out _ (some ⟨w1.heap.size, 0, none⟩) 1 1 (gcs [x]) rfl rfl (row_box BXF.out) gcs_one (by simp only [maxLen]; omega) (by omega) HLF.out.size ?_; intro v' w3 hown' hg hat; obtain ⟨A3, c3, rfl, -, -⟩ := own_form hown'; have HO3 := hide hown'; have HG3 := hide hg; clear hown' hg hat)
                        have HL3 := hide (show Le U w3 from Below.trans HLF.out (le_own HOF.out HG3.out HLF.out.size))
                        have HP3 := hide (show w3.ownsRow U.heap.size 52 4 (.slice A3 (k + 1) c3) (k + 1) (gcs (L.take k) ++ gcs [x]) by have := HO3.out; simpa [gcs_append] using this)
                        clear HO3
                        refine ⟨HL3.out, ?_⟩
                        refine pig_run ?_
                        have HS6 := hide ((HLZU.out.trans HL3.out).row HR6.out (Nat.le_refl _))
                        go_wp2_with (at_builtin; refine wpList_append_row _ rfl (.tmp 87) (.tmp 88) 27 rfl U.heap.size 52 infoG Try.underlying27 rfl (by omega) (.slice A3 (k + 1) c3) (k + 1) (gcs (L.take k) ++ gcs [x]) rfl HP3.out _ A6 r c6 (gcs (L.drop k)) rfl HDR.out HS6.out gcs_one (by simp only [maxLen]; omega) (by omega) HL3.out.size ?_; intro v' w4 hown' hg hat; obtain ⟨A4, c4, rfl, -, -⟩ := own_form hown'; have HO4 := hide hown'; have HG4 := hide hg; clear hown' hg hat)
                        have HL4 := hide (show Le U w4 from Below.trans HL3.out (le_own HP3.out HG4.out HL3.out.size))
                        refine ⟨HL4.out, ?_⟩
                        refine pig_late ?_
                        go_wp2_with fail
                        refine pig_done ?_
                        refine at_done (by kernel_rfl) ?_ 0
                        obtain ⟨g', rfl⟩ := own_some HO4.out (by omega)
                        have hrn := HRN.out
                        go_wp2_with fail
                        exact ⟨⟨i + 1, g', _, _, _, rfl, by go_num, by omega, by omega, HPX, hide (by rw [HP.out]; simp [HLL2.out]; omega), hide (by rw [HP.out, gcs_append, gcs_append]; exact own_more HO4.out hBU), hide ((HLr.out.trans HLXr.out).trans (HLU.out.trans HL4.out))⟩, by simp [intOf]; omega⟩
                      · obtain ⟨F, hF, BF, hLF⟩ : ∃ F, (U.alloc (.cells #[] 52)).alloc (.cells #[.int .i64 x.k.id, .int .i64 x.k.bk, .int .i64 x.k.rw, .int .i64 x.who] 52) = F ∧ Box F (U.heap.size + 1) #[.int .i64 x.k.id, .int .i64 x.k.bk, .int .i64 x.k.rw, .int .i64 x.who] 52 ∧ Le (U.alloc (.cells #[] 52)) F := ⟨_, rfl, by have := box_new (U.alloc (.cells #[] 52)) #[.int .i64 x.k.id, .int .i64 x.k.bk, .int .i64 x.k.rw, .int .i64 x.who] 52; simpa using this, (Le.refl _).alloc (Nat.le_refl _) _⟩
                        have HF := hide hF
                        have HLF := hide (HLa.out.trans hLF)
                        have HWF := hide (HWU.out.trans HLF.out)
                        have HZF := hide (own_below HZ1.out hLF)
                        have BXF := hide BF
                        clear hF hLF BF
                        go_wp2_with fail
                        rw [HF.out]
                        refine ⟨HLF.out, ?_⟩
                        refine at_seg [(4, 2), (7, 2), (9, 2), (10, 3)] 0 (by rfl) (by kernel_rfl) ?_
                        simp only [opsPiG, List.filterMap_cons, List.filterMap_nil, List.getElem?_toArray, List.getElem?_cons_zero, List.getElem?_cons_succ, Option.map_some]
                        refine pig_run ?_
                        go_wp2_with (at_builtin; refine wpList_append_row _ rfl (.tmp 80) (.tmp 83) 27 rfl U.heap.size 52 infoG Try.underlying27 rfl (by omega) (.slice (some ⟨U.heap.size, 0, none⟩) 0 0) 0 [] rfl HZF.out _ (some ⟨g1, 0, none⟩) k c1 (gcs (L.take k)) rfl HTL.out (HTKP.out k _ HWF.out) gcs_one (by simp only [maxLen]; omega) (by omega) HLF.out.size ?_; intro v' w1 hown' hg hat; obtain ⟨A1, c1', rfl, -, -⟩ := own_form hown'; have HO1 := hide hown'; have HG1 := hide hg; clear hown' hg hat)
                        have HL1 := hide (show Le U w1 from Below.trans HLF.out (le_own HZF.out HG1.out HLF.out.size))
                        have BX1 := hide (BXF.out.grown HG1.out (fun g hg => by simp [Value.ownBlock] at hg; omega))
                        have HP1 := hide (show w1.ownsRow U.heap.size 52 4 (.slice A1 (k) c1') (k) (gcs (L.take k)) by have := HO1.out; simpa [gcs_append] using this)
                        clear HO1
                        refine ⟨HL1.out, ?_⟩
                        refine pig_run ?_
                        go_wp2_with (at_builtin; refine wpList_append_row _ rfl (.tmp 84) (.tmp 86) 27 rfl U.heap.size 52 infoG Try.underlying27 rfl (by omega) (.slice A1 k c1') k (gcs (L.take k)) rfl HP1.out _ (some ⟨U.heap.size + 1, 0, none⟩) 1 1 (gcs [x]) rfl rfl (row_box BX1.out) gcs_one (by simp only [maxLen]; omega) (by omega) HL1.out.size ?_; intro v' w3 hown' hg hat; obtain ⟨A3, c3, rfl, -, -⟩ := own_form hown'; have HO3 := hide hown'; have HG3 := hide hg; clear hown' hg hat)
                        have HL3 := hide (show Le U w3 from Below.trans HL1.out (le_own HP1.out HG3.out HL1.out.size))
                        have HP3 := hide (show w3.ownsRow U.heap.size 52 4 (.slice A3 (k + 1) c3) (k + 1) (gcs (L.take k) ++ gcs [x]) by have := HO3.out; simpa [gcs_append] using this)
                        clear HO3
                        refine ⟨HL3.out, ?_⟩
                        refine pig_run ?_
                        have HS6 := hide ((HLZU.out.trans HL3.out).row HR6.out (Nat.le_refl _))
                        go_wp2_with (at_builtin; refine wpList_append_row _ rfl (.tmp 87) (.tmp 88) 27 rfl U.heap.size 52 infoG Try.underlying27 rfl (by omega) (.slice A3 (k + 1) c3) (k + 1) (gcs (L.take k) ++ gcs [x]) rfl HP3.out _ A6 r c6 (gcs (L.drop k)) rfl HDR.out HS6.out gcs_one (by simp only [maxLen]; omega) (by omega) HL3.out.size ?_; intro v' w4 hown' hg hat; obtain ⟨A4, c4, rfl, -, -⟩ := own_form hown'; have HO4 := hide hown'; have HG4 := hide hg; clear hown' hg hat)
                        have HL4 := hide (show Le U w4 from Below.trans HL3.out (le_own HP3.out HG4.out HL3.out.size))
                        refine ⟨HL4.out, ?_⟩
                        refine pig_late ?_
                        go_wp2_with fail
                        refine pig_done ?_
                        refine at_done (by kernel_rfl) ?_ 0
                        obtain ⟨g', rfl⟩ := own_some HO4.out (by omega)
                        have hrn := HRN.out
                        go_wp2_with fail
                        exact ⟨⟨i + 1, g', _, _, _, rfl, by go_num, by omega, by omega, HPX, hide (by rw [HP.out]; simp [HLL2.out]; omega), hide (by rw [HP.out, gcs_append, gcs_append]; exact own_more HO4.out hBU), hide ((HLr.out.trans HLXr.out).trans (HLU.out.trans HL4.out))⟩, by simp [intOf]; omega⟩
                    · obtain ⟨E, hE, BE, hLE⟩ : ∃ F, U.alloc (.cells #[.int .i64 x.k.id, .int .i64 x.k.bk, .int .i64 x.k.rw, .int .i64 x.who] 52) = F ∧ Box F U.heap.size #[.int .i64 x.k.id, .int .i64 x.k.bk, .int .i64 x.k.rw, .int .i64 x.who] 52 ∧ Le U F := ⟨_, rfl, box_new _ _ _, (Le.refl _).alloc (Nat.le_refl _) _⟩
                      have hEs : E.heap.size = U.heap.size + 1 := by rw [← hE]; simp
                      have HE := hide hE
                      have hLF : Le E (E.alloc (.cells #[] 52)) := (Le.refl _).alloc (Nat.le_refl _) _
                      obtain ⟨F, hF⟩ : ∃ F, E.alloc (.cells #[] 52) = F := ⟨_, rfl⟩
                      have hZ := own_zero E U.heap.size (by omega) 52 4
                      rw [hF] at hLF hZ
                      rw [hEs] at hZ
                      have HF := hide hF
                      have HLE := hide hLE
                      have HLF := hide (hLE.trans hLF)
                      have HWF := hide (HWU.out.trans HLF.out)
                      have HZF := hide hZ
                      have BXF := hide (BE.below hLF BE.lt)
                      have HES := hide hEs
                      clear hE hF hLF hLE BE hZ hEs
                      go_wp2_with fail
                      rw [HE.out]
                      refine ⟨HLE.out, ?_⟩
                      refine at_seg [(0, 2), (4, 2), (7, 2), (9, 2), (10, 3)] 0 (by rfl) (by kernel_rfl) ?_
                      simp only [opsPiG, List.filterMap_cons, List.filterMap_nil, List.getElem?_toArray, List.getElem?_cons_zero, List.getElem?_cons_succ, Option.map_some]
                      refine pig_run ?_
                      go_wp2_with fail
                      rw [HF.out, HES.out]
                      refine ⟨HLF.out, ?_⟩
                      refine pig_run ?_
                      go_wp2_with (at_builtin; refine wpList_append_row _ rfl (.tmp 80) (.tmp 83) 27 rfl U.heap.size 52 infoG Try.underlying27 rfl (by omega) (.slice (some ⟨U.heap.size + 1, 0, none⟩) 0 0) 0 [] rfl HZF.out _ (some ⟨g1, 0, none⟩) k c1 (gcs (L.take k)) rfl HTL.out (HTKP.out k _ HWF.out) gcs_one (by simp only [maxLen]; omega) (by omega) HLF.out.size ?_; intro v' w1 hown' hg hat; obtain ⟨A1, c1', rfl, -, -⟩ := own_form hown'; have HO1 := hide hown'; have HG1 := hide hg; clear hown' hg hat)
                      have HL1 := hide (show Le U w1 from Below.trans HLF.out (le_own HZF.out HG1.out HLF.out.size))
                      have BX1 := hide (BXF.out.grown HG1.out (fun g hg => by simp [Value.ownBlock] at hg; omega))
                      have HP1 := hide (show w1.ownsRow U.heap.size 52 4 (.slice A1 (k) c1') (k) (gcs (L.take k)) by have := HO1.out; simpa [gcs_append] using this)
                      clear HO1
                      refine ⟨HL1.out, ?_⟩
                      refine pig_run ?_
                      go_wp2_with (at_builtin; refine wpList_append_row _ rfl (.tmp 84) (.tmp 86) 27 rfl U.heap.size 52 infoG Try.underlying27 rfl (by omega) (.slice A1 k c1') k (gcs (L.take k)) rfl HP1.out _ (some ⟨U.heap.size, 0, none⟩) 1 1 (gcs [x]) rfl rfl (row_box BX1.out) gcs_one (by simp only [maxLen]; omega) (by omega) HL1.out.size ?_; intro v' w3 hown' hg hat; obtain ⟨A3, c3, rfl, -, -⟩ := own_form hown'; have HO3 := hide hown'; have HG3 := hide hg; clear hown' hg hat)
                      have HL3 := hide (show Le U w3 from Below.trans HL1.out (le_own HP1.out HG3.out HL1.out.size))
                      have HP3 := hide (show w3.ownsRow U.heap.size 52 4 (.slice A3 (k + 1) c3) (k + 1) (gcs (L.take k) ++ gcs [x]) by have := HO3.out; simpa [gcs_append] using this)
                      clear HO3
                      refine ⟨HL3.out, ?_⟩
                      refine pig_run ?_
                      have HS6 := hide ((HLZU.out.trans HL3.out).row HR6.out (Nat.le_refl _))
                      go_wp2_with (at_builtin; refine wpList_append_row _ rfl (.tmp 87) (.tmp 88) 27 rfl U.heap.size 52 infoG Try.underlying27 rfl (by omega) (.slice A3 (k + 1) c3) (k + 1) (gcs (L.take k) ++ gcs [x]) rfl HP3.out _ A6 r c6 (gcs (L.drop k)) rfl HDR.out HS6.out gcs_one (by simp only [maxLen]; omega) (by omega) HL3.out.size ?_; intro v' w4 hown' hg hat; obtain ⟨A4, c4, rfl, -, -⟩ := own_form hown'; have HO4 := hide hown'; have HG4 := hide hg; clear hown' hg hat)
                      have HL4 := hide (show Le U w4 from Below.trans HL3.out (le_own HP3.out HG4.out HL3.out.size))
                      refine ⟨HL4.out, ?_⟩
                      refine pig_late ?_
                      go_wp2_with fail
                      refine pig_done ?_
                      refine at_done (by kernel_rfl) ?_ 0
                      obtain ⟨g', rfl⟩ := own_some HO4.out (by omega)
                      have hrn := HRN.out
                      go_wp2_with fail
                      exact ⟨⟨i + 1, g', _, _, _, rfl, by go_num, by omega, by omega, HPX, hide (by rw [HP.out]; simp [HLL2.out]; omega), hide (by rw [HP.out, gcs_append, gcs_append]; exact own_more HO4.out hBU), hide ((HLr.out.trans HLXr.out).trans (HLU.out.trans HL4.out))⟩, by simp [intOf]; omega⟩
                · have HP := hide (HP1.out rfl)
                  go_wp2_with fail
                  exact ⟨⟨i + 1, g1, k1, c1, L, rfl, by go_num, by omega, by omega, hide (by rw [HPX0.out, HP.out]), HKL, hide (own_below HO.out (HLXr.out.trans HLd.out)), hide (HLr.out.trans (HLXr.out.trans HLd.out))⟩, by simp [intOf]; omega⟩
            · have hd := HD1.out rfl
              have hkn := hd.1
              have HK2 := hide (show ∀ j z, j < k + 1 → L[j]? = some z → ltG z x = true from fun j z hj hz => by
                rcases Nat.lt_or_ge j k with h | h
                · exact HK.out j z h hz
                · obtain rfl : j = k := by omega
                  exact hd.2 z hz)
              clear hd HD1 HD2
              go_wp2_with fail
              exact ⟨⟨k + 1, by go_num, by omega, HK2, HLc⟩, by simp [intOf]; omega⟩
      · obtain rfl : i = N := by omega
        have hle : ¬ (i : Int) < i := by omega
        have hall : al.take i = al := List.take_of_length_le (by rw [HAL.out]; exact Nat.le_refl _)
        rw [hall] at HLL
        go_wp2_with fail
        go_ret
        exact ⟨g1, k1, c1, rfl, by rw [← List.foldl_append, HAL2.out, HLL.out]; exact HKL.out, by rw [← List.foldl_append, HAL2.out, HLL.out]; exact HO.out, HWZ.out.trans HLr.out⟩
#print axioms rmgone_any
end Go.Proofs.Ytjedpjfmlaganaa.vw
