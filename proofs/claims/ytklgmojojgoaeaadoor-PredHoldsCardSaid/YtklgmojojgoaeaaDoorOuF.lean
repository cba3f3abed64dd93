/-
  What may come out of a node that names none: by the document, walked.
-/
import Derived.Test.YtklgmojojgoaeaaDoorOuD
namespace Go.Proofs.YtklgmojojgoaeaaDoor
open Go.RowKit
set_option linter.unusedVariables false

/-- The variables of the document's 'known'. -/
def KB (W : World) (b0 b1 b2 b3 : Nat) (n : pr.Nd) (s : st.St) (o : ou.T3) : Prop :=
  Box W b0 n.cells 40 ∧ Box W b1 ou.zero.cells 48 ∧ Box W b2 (st.cells s) 47 ∧ Box W b3 o.cells 48
theorem KB.le {W W' : World} {b0 b1 b2 b3 : Nat} {n : pr.Nd} {s : st.St} {o : ou.T3} (h : KB W b0 b1 b2 b3 n s o) (hb : Le W W') : KB W' b0 b1 b2 b3 n s o :=
  ⟨h.1.below hb h.1.lt, h.2.1.below hb h.2.1.lt, h.2.2.1.below hb h.2.2.1.lt, h.2.2.2.below hb h.2.2.2.lt⟩
theorem KB.set {W : World} {b0 b1 b2 b3 : Nat} {n : pr.Nd} {s : st.St} {o : ou.T3} (h : KB W b0 b1 b2 b3 n s o) (h0 : b3 ≠ b0) (h1 : b3 ≠ b1) (h2 : b3 ≠ b2) (k : Nat) (hk : k < 3) (v : Bool) : KB (W.setCell ⟨b3, k, none⟩ (.bool v)) b0 b1 b2 b3 n s (ou.set o k v) :=
  ⟨h.1.other h0 _, h.2.1.other h1 _, h.2.2.1.other h2 _, t3_set h.2.2.2 k hk v⟩
theorem within_doc (s : st.St) (u : va.Val) : ou.withinV s u = (decide (0 ≤ va.cmpV u s.mn) && decide (va.cmpV u s.mx ≤ 0)) := by
  unfold ou.withinV
  rw [va.cmpV_anti s.mn u, va.cmpV_anti s.mx u]
  have e1 : decide (-va.cmpV u s.mn ≤ 0) = decide (0 ≤ va.cmpV u s.mn) := by rw [decide_eq_decide]; omega
  have e2 : decide (0 ≤ -va.cmpV u s.mx) = decide (va.cmpV u s.mx ≤ 0) := by rw [decide_eq_decide]; omega
  rw [e1, e2]
theorem anyt_step {f : va.Val → Bool} {l : List va.Val} {k : Nat} {u : va.Val} (h : l[k]? = some u) : (l.take (k + 1)).any f = ((l.take k).any f || f u) := by
  rw [va.take_step h]; simp
theorem val_box3 (w : World) (v : va.Val) (t : TypeId) : ∃ X, (w.alloc (.cells #[.bool false, .int .i64 0, .string ⟨#[]⟩] t)).setRow w.heap.size #[.bool v.nul, .int .i64 v.n, .string v.s] = X ∧ Box X w.heap.size #[.bool v.nul, .int .i64 v.n, .string v.s] t ∧ Le w X :=
  val_box w _ t v

set_option maxRecDepth 100000 in
set_option maxHeartbeats 40000000 in
theorem refknown_any (w : World) (n : pr.Nd) (A : Option Addr) (m c : Nat) (S : List st.St) (hop : 4 ≤ n.op ∧ n.op ≤ 9) (hcol : n.op ≠ 9 → 0 ≤ n.col ∧ n.col < m) (hl : S.length = m) (hm : m ≤ 1000) (hn : Has w w.heap.size n) (hr : Row w w.heap.size A (scs S)) :
    Calls Tryd.prog 32 #[.agg n.cells, .slice A m c] w fun e w' => e = .returned (.agg (ou.knownV n (S.getD n.col.toNat nst)).cells) ∧ Below w.heap.size w w' := by
  obtain ⟨W, hW, bx, bo, hb⟩ := nd_t3_box w n 40 48
  have HB0 := hide hb
  have HW := hide hW
  have HX := hide bx
  have HO := hide bo
  have HR := hide hr
  have HN := hide ((hn.on hb (Nat.le_refl _)).more hb.size)
  have HRVV := hide hn.2.2.1
  have HVL := hide hn.1
  have hvn := hn.2.1
  obtain ⟨R, hR⟩ : ∃ R, ou.knownV n (S.getD n.col.toNat nst) = R := ⟨_, rfl⟩
  rw [hR]
  have HRR := hide hR
  obtain ⟨op, col, ⟨un, ui, us⟩, vA, vn, vc, vals, lA, ln, lc, L⟩ := n
  simp only [pr.Nd.cells, ou.T3.cells, ou.zero] at HX HW HO hop hcol HRR HRVV HVL hvn ⊢
  clear hW bx bo hb hr hn hR
  go_enter Tryd.func32, Tryd.ntmps32
  go_upto_region 1 with fail
  rw [HW.out]
  have g0 := HX.out.cell 0 (.int .i64 op) rfl
  have g1 := HX.out.cell 1 (.int .i64 col) rfl
  by_cases h9 : op = 9
  · subst h9
    have ha : R = ⟨false, false, true⟩ := by rw [← HRR.out]; rfl
    subst ha
    go_wp2_with (refine wpList_store_row rfl 48 _ _ rfl (w.heap.size + 1) #[.bool false, .bool false, .bool true] rfl rfl 48 _ HO.out (by kernel_rfl) rfl (t3_one ⟨false, false, true⟩) ?_)
    refine bodyPost_ret (box_results rfl _ (setRow_heap _ _ _ _ _ _ HO.out) rfl Tryd.underlying48 rfl rfl) rfl ?_
    exact ⟨rfl, below_setRow HB0.out (by omega) _⟩
  · have h9' : (op == 9) = false := by simpa using h9
    obtain ⟨j, rfl⟩ : ∃ j : Nat, col = j := ⟨col.toNat, by have := hcol h9; omega⟩
    have hj : (j : Int) < m := (hcol h9).2
    have hj0 : (0 : Int) ≤ (j : Int) := (hcol h9).1
    obtain ⟨s, hs⟩ : ∃ s, S[j]? = some s := ⟨_, List.getElem?_eq_getElem (by omega)⟩
    obtain ⟨bA, oA, rfl, hbA, -, hcl⟩ := row_st HR.out hs
    have HRV := hide (show ou.knownV ⟨op, j, ⟨un, ui, us⟩, vA, vn, vc, vals, lA, ln, lc, L⟩ s = R by
      have h := HRR.out
      rw [show ((j : Int)).toNat = j by omega, List.getD_eq_getElem?_getD, hs] at h
      exact h)
    have hcw : ∀ (i : Nat) u, (st.cells s)[i]? = some u → W.cell? ⟨bA, oA + j * 10 + i, none⟩ = some u := fun i u hu => (HB0.out.cell (p := ⟨bA, oA + j * 10 + i, none⟩) hbA).trans (hcl i u hu)
    have e0 := hcw 0 _ rfl
    have e1 := hcw 1 _ rfl
    have e2 := hcw 2 _ rfl
    have e3 := hcw 3 _ rfl
    have e4 := hcw 4 _ rfl
    have e5 := hcw 5 _ rfl
    have e6 := hcw 6 _ rfl
    have e7 := hcw 7 _ rfl
    have e8 := hcw 8 _ rfl
    have e9 := hcw 9 _ rfl
    rw [Nat.add_zero] at e0
    obtain ⟨X, hX, bX, hbX⟩ := st_box2 W s 47
    have HXX := hide hX
    have HLX := hide (show Le w X from HB0.out.trans hbX)
    have BN := hide (HX.out.below hbX HX.out.lt)
    have BO := hide (HO.out.below hbX HO.out.lt)
    have BS := hide bX
    have hone := st_one s
    clear hcw hcl hs hX bX hbX HRR
    obtain ⟨cN, hn, ⟨mn, mi, ms⟩, ⟨xn, xi, xs⟩, su, ov⟩ := s
    simp only [st.cells, nst, zv] at e0 e1 e2 e3 e4 e5 e6 e7 e8 e9 HXX BS hone
    go_upto_region 4 with (refine wpList_store_row rfl 47 _ _ rfl W.heap.size _ rfl rfl 47 _ (box_new _ _ _) (by kernel_rfl) rfl hone ?_)
    rw [HXX.out]
    clear e0 e1 e2 e3 e4 e5 e6 e7 e8 e9 g0 g1 hone
    have g0 := BN.out.cell 0 (.int .i64 op) rfl
    have k0 := BS.out.cell 0 (.int .i64 cN) rfl
    have k1 := BS.out.cell 1 (.bool hn) rfl
    by_cases h8 : op = 8
    · subst h8
      obtain ⟨so, hso⟩ : ∃ so, decide (0 < cN) = so := ⟨_, rfl⟩
      have ha : R = ⟨so, false, hn⟩ := by rw [← HRV.out, ← hso]; rfl
      subst ha
      go_wp2_with (refine wpList_store_row rfl 48 _ _ rfl (w.heap.size + 1) #[.bool so, .bool false, .bool hn] (by first | rfl | (rw [← hso]; rfl)) rfl 48 _ BO.out (by kernel_rfl) rfl (t3_one ⟨so, false, hn⟩) ?_)
      refine bodyPost_ret (box_results rfl _ (setRow_heap _ _ _ _ _ _ BO.out) rfl Tryd.underlying48 rfl rfl) rfl ?_
      exact ⟨rfl, below_setRow HLX.out (by omega) _⟩
    · have h8' : (op == 8) = false := by simpa using h8
      obtain ⟨Y, hY, bY, hbY⟩ := t3_box2 X ⟨false, hn, false⟩ 48
      simp only [ou.T3.cells, ou.zero] at hY bY
      have HYY := hide hY
      have HLY := hide (show Le w Y from HLX.out.trans hbY)
      have YN := hide (BN.out.below hbY BN.out.lt)
      have YO := hide (BO.out.below hbY BO.out.lt)
      have YS := hide (BS.out.below hbY BS.out.lt)
      have YT := hide bY
      have hsz1 := BN.out.lt
      have hsz2 := BO.out.lt
      have hsz3 := BS.out.lt
      clear hY bY hbY
      go_upto_region 7 with (refine wpList_store_row rfl 48 _ _ rfl X.heap.size #[.bool false, .bool hn, .bool false] rfl rfl 48 _ (box_new _ _ _) (by kernel_rfl) rfl (t3_one ⟨false, hn, false⟩) ?_)
      rw [HYY.out]
      clear g0 k0 k1
      have y0 := YT.out.cell 0 (.bool false) rfl
      have y1 := YT.out.cell 1 (.bool hn) rfl
      have y2 := YT.out.cell 2 (.bool false) rfl
      have k0 := YS.out.cell 0 (.int .i64 cN) rfl
      by_cases hc0 : cN = 0
      · subst hc0
        have ha : R = ⟨false, hn, false⟩ := by
          rw [← HRV.out]
          unfold ou.knownV
          simp only [h9, h8, if_false, if_true]
        subst ha
        go_wp2_with (refine wpList_store_row rfl 48 _ _ rfl (w.heap.size + 1) #[.bool false, .bool hn, .bool false] rfl rfl 48 _ YO.out (by kernel_rfl) rfl (t3_one ⟨false, hn, false⟩) ?_)
        refine bodyPost_ret (box_results rfl _ (setRow_heap _ _ _ _ _ _ YO.out) rfl Tryd.underlying48 rfl rfl) rfl ?_
        exact ⟨rfl, below_setRow HLY.out (by omega) _⟩
      · have hc0' : (cN == 0) = false := by simpa using hc0
        obtain ⟨x, hx⟩ : ∃ x, va.cmpV ⟨mn, mi, ms⟩ ⟨un, ui, us⟩ = x := ⟨_, rfl⟩
        obtain ⟨y, hy⟩ : ∃ y, va.cmpV ⟨xn, xi, xs⟩ ⟨un, ui, us⟩ = y := ⟨_, rfl⟩
        have hcx := hide (fun (w : World) => hx ▸ refcompare_any w ⟨mn, mi, ms⟩ ⟨un, ui, us⟩)
        have hcy := hide (fun (w : World) => hy ▸ refcompare_any w ⟨xn, xi, xs⟩ ⟨un, ui, us⟩)
        have HRX := hide (show R = (if op = 4 then ⟨decide (x ≠ 0) || decide (y ≠ 0), hn, decide (x ≤ 0) && decide (0 ≤ y)⟩ else if op = 5 then ⟨decide (0 ≤ y), hn, decide (x < 0)⟩ else if op = 6 then ⟨decide (0 < y), hn, decide (x ≤ 0)⟩ else ⟨decide (va.cmpV ⟨mn, mi, ms⟩ ⟨xn, xi, xs⟩ ≠ 0) || !(vals.any fun u => pr.sameV u ⟨mn, mi, ms⟩), hn, vals.any (ou.withinV ⟨cN, hn, ⟨mn, mi, ms⟩, ⟨xn, xi, xs⟩, su, ov⟩)⟩) by
          rw [← HRV.out]
          unfold ou.knownV ou.withinV
          simp only [h9, h8, hc0, if_false, hx, hy])
        have HK := hide (show KB Y w.heap.size (w.heap.size + 1) W.heap.size X.heap.size ⟨op, j, ⟨un, ui, us⟩, vA, vn, vc, vals, lA, ln, lc, L⟩ ⟨cN, hn, ⟨mn, mi, ms⟩, ⟨xn, xi, xs⟩, su, ov⟩ ⟨false, hn, false⟩ from ⟨YN.out, YO.out, YS.out, YT.out⟩)
        have k2 := YS.out.cell 2 (.bool mn) rfl
        have k3 := YS.out.cell 3 (.int .i64 mi) rfl
        have k4 := YS.out.cell 4 (.string ms) rfl
        have g2 := YN.out.cell 2 (.bool un) rfl
        have g3 := YN.out.cell 3 (.int .i64 ui) rfl
        have g4 := YN.out.cell 4 (.string us) rfl
        clear hx hy HRV y0 y1 y2 YN YO YS YT
        go_wp2_with fail
        refine (hcx.out Y).mono ?_
        rintro e w1 ⟨rfl, hb1⟩
        have HK1 := hide (HK.out.le hb1)
        have HL1 := hide (show Le w w1 from HLY.out.trans hb1)
        clear hb1 k0 k2 k3 k4 g2 g3 g4
        have k5 := HK1.out.2.2.1.cell 5 (.bool xn) rfl
        have k6 := HK1.out.2.2.1.cell 6 (.int .i64 xi) rfl
        have k7 := HK1.out.2.2.1.cell 7 (.string xs) rfl
        have g2 := HK1.out.1.cell 2 (.bool un) rfl
        have g3 := HK1.out.1.cell 3 (.int .i64 ui) rfl
        have g4 := HK1.out.1.cell 4 (.string us) rfl
        go_wp2_with fail
        refine (hcy.out w1).mono ?_
        rintro e w2 ⟨rfl, hb2⟩
        have HK2 := hide (HK1.out.le hb2)
        have HL2 := hide (show Le w w2 from HL1.out.trans hb2)
        clear hb2 k5 k6 k7 g2 g3 g4
        have g0 := HK2.out.1.cell 0 (.int .i64 op) rfl
        have z2 := HK2.out.2.2.2.cell 2 (.bool false) rfl
        have f2 := HK2.out.2.2.2.frozen 2
        have hne0 : X.heap.size ≠ w.heap.size := by omega
        have hne1 : X.heap.size ≠ w.heap.size + 1 := by omega
        have hne2 : X.heap.size ≠ W.heap.size := by omega
        have hcond : True := trivial
        by_cases h4 : op = 4
        · subst h4
          obtain ⟨b1, hb1⟩ : ∃ b, decide (x ≤ 0) = b := ⟨_, rfl⟩
          obtain ⟨b2, hb2⟩ : ∃ b, decide (0 ≤ y) = b := ⟨_, rfl⟩
          obtain ⟨n1, hn1⟩ : ∃ b, (x != 0) = b := ⟨_, rfl⟩
          obtain ⟨n2, hn2⟩ : ∃ b, (y != 0) = b := ⟨_, rfl⟩
          obtain ⟨bb, hbb⟩ : ∃ b, (b1 && b2) = b := ⟨_, rfl⟩
          obtain ⟨nn, hnn⟩ : ∃ b, (n1 || n2) = b := ⟨_, rfl⟩
          have ha : R = ⟨nn, hn, bb⟩ := by
            rw [HRX.out, if_pos rfl, hb1, hb2, show decide (x ≠ 0) = n1 by rw [← hn1, bne, Bool.eq_iff_iff]; simp, show decide (y ≠ 0) = n2 by rw [← hn2, bne, Bool.eq_iff_iff]; simp, hbb, hnn]
          subst ha
          clear HRX
          go_upto_region 13 with fail
          go_cut [56] (fun s56 wx => s56 = .bool bb ∧ w2.setCell ⟨X.heap.size, 2, none⟩ (.bool bb) = wx)
          case first =>
            subst hbb
            cases b1
            · go_wp2_with fail
              go_meet
              exact ⟨rfl, rfl⟩
            · go_wp2_with fail
              go_meet
              exact ⟨rfl, rfl⟩
          case rest =>
            obtain ⟨rfl, hwx⟩ := hcut
            have HK3 := hide (show KB wc _ _ _ _ _ _ _ by rw [← hwx]; exact HK2.out.set hne0 hne1 hne2 2 (by omega) bb)
            have HL3 := hide (show Le w wc by rw [← hwx]; exact HL2.out.setCell (by simp; omega) _)
            clear hwx z2 f2 g0 hb1 hb2 hbb
            have z0 := HK3.out.2.2.2.cell 0 (.bool false) rfl
            have f0 := HK3.out.2.2.2.frozen 0
            obtain ⟨Z, hZ⟩ : ∃ Z, wc.setCell ⟨X.heap.size, 0, none⟩ (.bool nn) = Z := ⟨_, rfl⟩
            have HK4 := hide (show KB Z _ _ _ _ _ _ _ by rw [← hZ]; exact HK3.out.set hne0 hne1 hne2 0 (by omega) nn)
            have HL4 := hide (show Le w Z by rw [← hZ]; exact HL3.out.setCell (p := ⟨X.heap.size, 0, none⟩) (by simp; omega) (.bool nn))
            have y0 := HK4.out.2.2.2.cell 0 (.bool nn) rfl
            have y1 := HK4.out.2.2.2.cell 1 (.bool hn) rfl
            have y2 := HK4.out.2.2.2.cell 2 (.bool bb) rfl
            cases n1
            · have hq : n2 = nn := by rw [← hnn]; rfl
              subst hq
              go_upto_region 30 with fail
              first | rw [hZ] | skip
              go_wp2_with (refine wpList_store_row rfl 48 _ _ rfl (w.heap.size + 1) #[.bool _, .bool hn, .bool bb] rfl rfl 48 _ HK4.out.2.1 (by kernel_rfl) rfl (t3_one ⟨_, hn, bb⟩) ?_)
              refine bodyPost_ret (box_results rfl _ (setRow_heap _ _ _ _ _ _ HK4.out.2.1) rfl Tryd.underlying48 rfl rfl) rfl ?_
              exact ⟨rfl, below_setRow HL4.out (by omega) _⟩
            · have hq : true = nn := by rw [← hnn]; rfl
              subst hq
              go_upto_region 30 with fail
              first | rw [hZ] | skip
              go_wp2_with (refine wpList_store_row rfl 48 _ _ rfl (w.heap.size + 1) #[.bool _, .bool hn, .bool bb] rfl rfl 48 _ HK4.out.2.1 (by kernel_rfl) rfl (t3_one ⟨_, hn, bb⟩) ?_)
              refine bodyPost_ret (box_results rfl _ (setRow_heap _ _ _ _ _ _ HK4.out.2.1) rfl Tryd.underlying48 rfl rfl) rfl ?_
              exact ⟨rfl, below_setRow HL4.out (by omega) _⟩
        · have h4' : (op == 4) = false := by simpa using h4
          by_cases h56 : op = 5 ∨ op = 6
          · obtain ⟨p, hp⟩ : ∃ p, (if op = 5 then decide (x < 0) else decide (x ≤ 0)) = p := ⟨_, rfl⟩
            obtain ⟨q, hq⟩ : ∃ q, (if op = 5 then decide (0 ≤ y) else decide (0 < y)) = q := ⟨_, rfl⟩
            have ha : R = ⟨q, hn, p⟩ := by
              rw [HRX.out, if_neg h4, ← hp, ← hq]
              rcases h56 with h | h
              · subst h; rfl
              · subst h; rfl
            subst ha
            obtain ⟨Z, hZ⟩ : ∃ Z, (w2.setCell ⟨X.heap.size, 2, none⟩ (.bool p)).setCell ⟨X.heap.size, 0, none⟩ (.bool q) = Z := ⟨_, rfl⟩
            have HK4 := hide (show KB Z _ _ _ _ _ _ _ by rw [← hZ]; exact (HK2.out.set hne0 hne1 hne2 2 (by omega) p).set hne0 hne1 hne2 0 (by omega) q)
            have HL4 := hide (show Le w Z by rw [← hZ]; exact (HL2.out.setCell (p := ⟨X.heap.size, 2, none⟩) (by simp; omega) (.bool p)).setCell (p := ⟨X.heap.size, 0, none⟩) (by simp; omega) (.bool q))
            have z0 := (HK2.out.set hne0 hne1 hne2 2 (by omega) p).2.2.2.cell 0 (.bool false) rfl
            have f0 := (HK2.out.set hne0 hne1 hne2 2 (by omega) p).2.2.2.frozen 0
            have y0 := HK4.out.2.2.2.cell 0 (.bool q) rfl
            have y1 := HK4.out.2.2.2.cell 1 (.bool hn) rfl
            have y2 := HK4.out.2.2.2.cell 2 (.bool p) rfl
            clear HRX
            rcases h56 with rfl | rfl
            · rw [if_pos rfl] at hp hq
              go_upto_region 30 with fail
              first | rw [hp, hq, hZ] | rw [hZ] | skip
              go_wp2_with (refine wpList_store_row rfl 48 _ _ rfl (w.heap.size + 1) #[.bool q, .bool hn, .bool p] rfl rfl 48 _ HK4.out.2.1 (by kernel_rfl) rfl (t3_one ⟨q, hn, p⟩) ?_)
              refine bodyPost_ret (box_results rfl _ (setRow_heap _ _ _ _ _ _ HK4.out.2.1) rfl Tryd.underlying48 rfl rfl) rfl ?_
              exact ⟨rfl, below_setRow HL4.out (by omega) _⟩
            · rw [if_neg (by decide)] at hp hq
              go_upto_region 30 with fail
              first | rw [hp, hq, hZ] | rw [hZ] | skip
              go_wp2_with (refine wpList_store_row rfl 48 _ _ rfl (w.heap.size + 1) #[.bool q, .bool hn, .bool p] rfl rfl 48 _ HK4.out.2.1 (by kernel_rfl) rfl (t3_one ⟨q, hn, p⟩) ?_)
              refine bodyPost_ret (box_results rfl _ (setRow_heap _ _ _ _ _ _ HK4.out.2.1) rfl Tryd.underlying48 rfl rfl) rfl ?_
              exact ⟨rfl, below_setRow HL4.out (by omega) _⟩
          · obtain rfl : op = 7 := by omega
            have h5' : ((7 : Int) == 5) = false := rfl
            obtain ⟨s, hs⟩ : ∃ s : st.St, s = ⟨cN, hn, ⟨mn, mi, ms⟩, ⟨xn, xi, xs⟩, su, ov⟩ := ⟨_, rfl⟩
            obtain ⟨d, hd⟩ : ∃ d, va.cmpV ⟨mn, mi, ms⟩ ⟨xn, xi, xs⟩ = d := ⟨_, rfl⟩
            obtain ⟨F1, hF1⟩ : ∃ F : List va.Val → Bool, F = fun l => l.any fun u => pr.sameV u ⟨mn, mi, ms⟩ := ⟨_, rfl⟩
            obtain ⟨F2, hF2⟩ : ∃ F : List va.Val → Bool, F = fun l => l.any (ou.withinV ⟨cN, hn, ⟨mn, mi, ms⟩, ⟨xn, xi, xs⟩, su, ov⟩) := ⟨_, rfl⟩
            have HS1 := hide (show ∀ (k : Nat) u, vals[k]? = some u → F1 (vals.take (k + 1)) = (F1 (vals.take k) || (va.cmpV u ⟨mn, mi, ms⟩ == 0)) from fun k u h => by rw [hF1]; simp only; rw [anyt_step h, same_cmp]; rfl)
            have HS2 := hide (show ∀ (k : Nat) u, vals[k]? = some u → F2 (vals.take (k + 1)) = (F2 (vals.take k) || (decide (0 ≤ va.cmpV u ⟨mn, mi, ms⟩) && decide (va.cmpV u ⟨xn, xi, xs⟩ ≤ 0))) from fun k u h => by rw [hF2]; simp only; rw [anyt_step h, within_doc])
            have hF10 : F1 [] = false := by rw [hF1]; rfl
            have hF20 : F2 [] = false := by rw [hF2]; rfl
            have HRF := hide (show R = ⟨(d != 0) || !F1 vals, hn, F2 vals⟩ by
              rw [HRX.out, if_neg (by decide), if_neg (by decide), if_neg (by decide), hF1, hF2, hd]
              simp only
              congr 1
              rw [show decide (d ≠ 0) = (d != 0) by rw [bne, Bool.eq_iff_iff]; simp])
            have hcd := hide (fun (w : World) => hd ▸ refcompare_any w ⟨mn, mi, ms⟩ ⟨xn, xi, xs⟩)
            have HF10 := hide hF10
            have HF20 := hide hF20
            clear HRX hF1 hF2 hd hF10 hF20 hs z2 f2
            go_wp2_with fail
            clear g0
            go_loopw [9, 10] (fun o i wr => ∃ k : Nat, i = .int .i64 k ∧ k ≤ vn ∧ o = .bool (F1 (vals.take k)) ∧ Hid (KB wr w.heap.size (w.heap.size + 1) W.heap.size X.heap.size ⟨7, j, ⟨un, ui, us⟩, vA, vn, vc, vals, lA, ln, lc, L⟩ ⟨cN, hn, ⟨mn, mi, ms⟩, ⟨xn, xi, xs⟩, su, ov⟩ ⟨false, hn, F2 (vals.take k)⟩) ∧ Hid (Le w wr)) (fun _ i _ => vn - (intOf i).toNat)
            case atStart => exact ⟨0, rfl, Nat.zero_le _, by rw [List.take_zero, HF10.out], hide (by rw [List.take_zero, HF20.out]; exact HK2.out), HL2⟩
            case round =>
              obtain ⟨k, rfl, hk, rfl, HKr, HLr⟩ := hrel
              have g5 := HKr.out.1.cell 5 (.slice vA vn vc) rfl
              by_cases hkn : k < vn
              · obtain ⟨u, hu⟩ : ∃ u, vals[k]? = some u := ⟨_, List.getElem?_eq_getElem (by rw [HVL.out]; exact hkn)⟩
                obtain ⟨bV, oV, rfl, hbV, r0, r1, r2⟩ := row_at3 HRVV.out hu
                have e0 : wr.cell? ⟨bV, oV + k * 3, none⟩ = some (.bool u.nul) := (HLr.out.cell (p := ⟨bV, oV + k * 3, none⟩) hbV).trans r0
                have e1 : wr.cell? ⟨bV, oV + k * 3 + 1, none⟩ = some (.int .i64 u.n) := (HLr.out.cell (p := ⟨bV, oV + k * 3 + 1, none⟩) hbV).trans r1
                have e2 : wr.cell? ⟨bV, oV + k * 3 + 2, none⟩ = some (.string u.s) := (HLr.out.cell (p := ⟨bV, oV + k * 3 + 2, none⟩) hbV).trans r2
                obtain ⟨pp, hpp⟩ : ∃ p, va.cmpV u ⟨mn, mi, ms⟩ = p := ⟨_, rfl⟩
                obtain ⟨qq, hqq⟩ : ∃ q, va.cmpV u ⟨xn, xi, xs⟩ = q := ⟨_, rfl⟩
                have hcp := hide (fun (w : World) => hpp ▸ refcompare_any w u ⟨mn, mi, ms⟩)
                have hcq := hide (fun (w : World) => hqq ▸ refcompare_any w u ⟨xn, xi, xs⟩)
                obtain ⟨a1, ha1⟩ : ∃ b, F1 (vals.take k) = b := ⟨_, rfl⟩
                obtain ⟨a2, ha2⟩ : ∃ b, F2 (vals.take k) = b := ⟨_, rfl⟩
                obtain ⟨p0, hp0⟩ : ∃ b, decide (0 ≤ pp) = b := ⟨_, rfl⟩
                obtain ⟨q0, hq0⟩ : ∃ b, decide (qq ≤ 0) = b := ⟨_, rfl⟩
                obtain ⟨p1, hp1⟩ : ∃ b, (pp == 0) = b := ⟨_, rfl⟩
                have HN1 := hide (show F1 (vals.take (k + 1)) = (a1 || p1) by rw [HS1.out k u hu, ha1, hpp, hp1])
                have HN2 := hide (show F2 (vals.take (k + 1)) = (a2 || (p0 && q0)) by rw [HS2.out k u hu, ha2, hpp, hqq, hp0, hq0])
                obtain ⟨n2, hn2⟩ : ∃ b, (a2 || (p0 && q0)) = b := ⟨_, rfl⟩
                obtain ⟨n1, hn1⟩ : ∃ b, (a1 || p1) = b := ⟨_, rfl⟩
                rw [hn1] at HN1
                rw [hn2] at HN2
                rw [ha2] at HKr
                rw [ha1]
                obtain ⟨V, hV, bV', hbV'⟩ := val_box3 wr u 38
                have HV := hide hV
                have BV := hide bV'
                have HKV := hide (HKr.out.le hbV')
                have HLV := hide (show Le w V from HLr.out.trans hbV')
                have hzr : X.heap.size < wr.heap.size := HKr.out.2.2.2.lt
                have hone := val_one u
                have hkv : (k : Int) < vn := by omega
                have hk0 : (0 : Int) ≤ (k : Int) := by omega
                clear r0 r1 r2 hu ha1 ha2 hpp hqq hV bV' hbV'
                obtain ⟨vn', vi', vs'⟩ := u
                simp only at e0 e1 e2 HV BV hone hcp hcq
                go_upto_region 27 with (refine wpList_store_row rfl 38 _ _ rfl wr.heap.size _ rfl rfl 38 _ (box_new _ _ _) (by kernel_rfl) rfl hone ?_)
                rw [HV.out]
                clear e0 e1 e2 g5 hone
                have v0 := BV.out.cell 0 (.bool vn') rfl
                have v1 := BV.out.cell 1 (.int .i64 vi') rfl
                have v2 := BV.out.cell 2 (.string vs') rfl
                have z2 := HKV.out.2.2.2.cell 2 (.bool a2) rfl
                have f2 := HKV.out.2.2.2.frozen 2
                have k2 := HKV.out.2.2.1.cell 2 (.bool mn) rfl
                have k3 := HKV.out.2.2.1.cell 3 (.int .i64 mi) rfl
                have k4 := HKV.out.2.2.1.cell 4 (.string ms) rfl
                go_frame
                go_cut [110] (fun s110 wx => s110 = .bool n2 ∧ KB wx w.heap.size (w.heap.size + 1) W.heap.size X.heap.size ⟨7, j, ⟨un, ui, us⟩, some ⟨bV, oV, none⟩, vn, vc, vals, lA, ln, lc, L⟩ ⟨cN, hn, ⟨mn, mi, ms⟩, ⟨xn, xi, xs⟩, su, ov⟩ ⟨false, hn, n2⟩ ∧ Box wx wr.heap.size #[.bool vn', .int .i64 vi', .string vs'] 38 ∧ Le w wx)
                case first =>
                  subst hn2
                  cases a2
                  · go_wp2_with fail
                    refine (hcp.out V).mono ?_
                    rintro e V1 ⟨rfl, hb⟩
                    have HK5 := hide (HKV.out.le hb)
                    have BV1 := hide (BV.out.below hb BV.out.lt)
                    have HL5 := hide (show Le w V1 from HLV.out.trans hb)
                    clear hb v0 v1 v2 z2 f2 k2 k3 k4
                    cases p0
                    · have z2 := HK5.out.2.2.2.cell 2 (.bool false) rfl
                      have f2 := HK5.out.2.2.2.frozen 2
                      go_wp2_with fail
                      go_meet
                      exact ⟨rfl, HK5.out.set hne0 hne1 hne2 2 (by omega) _, BV1.out.other (by simp; omega) _, HL5.out.setCell (by simp; omega) _⟩
                    · have v0 := BV1.out.cell 0 (.bool vn') rfl
                      have v1 := BV1.out.cell 1 (.int .i64 vi') rfl
                      have v2 := BV1.out.cell 2 (.string vs') rfl
                      have k5 := HK5.out.2.2.1.cell 5 (.bool xn) rfl
                      have k6 := HK5.out.2.2.1.cell 6 (.int .i64 xi) rfl
                      have k7 := HK5.out.2.2.1.cell 7 (.string xs) rfl
                      go_wp2_with fail
                      refine (hcq.out V1).mono ?_
                      rintro e V2 ⟨rfl, hb⟩
                      have HK6 := hide (HK5.out.le hb)
                      have BV2 := hide (BV1.out.below hb BV1.out.lt)
                      have HL6 := hide (show Le w V2 from HL5.out.trans hb)
                      clear hb v0 v1 v2 k5 k6 k7
                      have z2 := HK6.out.2.2.2.cell 2 (.bool false) rfl
                      have f2 := HK6.out.2.2.2.frozen 2
                      go_wp2_with fail
                      go_meet
                      exact ⟨rfl, HK6.out.set hne0 hne1 hne2 2 (by omega) _, BV2.out.other (by simp; omega) _, HL6.out.setCell (by simp; omega) _⟩
                  · go_wp2_with fail
                    go_meet
                    exact ⟨rfl, HKV.out.set hne0 hne1 hne2 2 (by omega) _, BV.out.other (by simp; omega) _, HLV.out.setCell (by simp; omega) _⟩
                case rest =>
                  obtain ⟨rfl, hk5, hbv, hl5⟩ := hcut
                  have HK5 := hide hk5
                  have BV1 := hide hbv
                  have HL5 := hide hl5
                  clear hk5 hbv hl5 v0 v1 v2 z2 f2 k2 k3 k4
                  have v0 := BV1.out.cell 0 (.bool vn') rfl
                  have v1 := BV1.out.cell 1 (.int .i64 vi') rfl
                  have v2 := BV1.out.cell 2 (.string vs') rfl
                  have k2 := HK5.out.2.2.1.cell 2 (.bool mn) rfl
                  have k3 := HK5.out.2.2.1.cell 3 (.int .i64 mi) rfl
                  have k4 := HK5.out.2.2.1.cell 4 (.string ms) rfl
                  cases a1
                  · have hq : p1 = n1 := by rw [← hn1]; rfl
                    subst hq
                    go_wp2_with fail
                    refine (hcp.out wc).mono ?_
                    rintro e V3 ⟨rfl, hb⟩
                    have HK7 := hide (HK5.out.le hb)
                    have HL7 := hide (show Le w V3 from HL5.out.trans hb)
                    clear hb v0 v1 v2 k2 k3 k4
                    go_wp2_with fail
                    exact ⟨⟨k + 1, by go_num, by omega, by rw [HN1.out], hide (by rw [HN2.out]; exact HK7.out), HL7⟩, by simp [intOf]; omega⟩
                  · have hq : n1 = true := by rw [← hn1]; rfl
                    go_wp2_with fail
                    exact ⟨⟨k + 1, by go_num, by omega, by rw [HN1.out, hq], hide (by rw [HN2.out]; exact HK5.out), HL5⟩, by simp [intOf]; omega⟩
              · obtain rfl : k = vn := by omega
                have hall : vals.take k = vals := List.take_of_length_le (by rw [HVL.out]; exact Nat.le_refl _)
                rw [hall] at HKr ⊢
                obtain ⟨a1, ha1⟩ : ∃ b, F1 vals = b := ⟨_, rfl⟩
                obtain ⟨a2, ha2⟩ : ∃ b, F2 vals = b := ⟨_, rfl⟩
                rw [ha2] at HKr HRF
                rw [ha1] at HRF ⊢
                obtain ⟨d1, hd1⟩ : ∃ b, (d != 0) = b := ⟨_, rfl⟩
                rw [hd1] at HRF
                obtain ⟨nn, hnn⟩ : ∃ b, (d1 || !a1) = b := ⟨_, rfl⟩
                rw [hnn] at HRF
                have k2 := HKr.out.2.2.1.cell 2 (.bool mn) rfl
                have k3 := HKr.out.2.2.1.cell 3 (.int .i64 mi) rfl
                have k4 := HKr.out.2.2.1.cell 4 (.string ms) rfl
                have k5 := HKr.out.2.2.1.cell 5 (.bool xn) rfl
                have k6 := HKr.out.2.2.1.cell 6 (.int .i64 xi) rfl
                have k7 := HKr.out.2.2.1.cell 7 (.string xs) rfl
                clear ha1 ha2 hall
                go_wp2_with fail
                refine (hcd.out wr).mono ?_
                rintro e V ⟨rfl, hb⟩
                have HK5 := hide (HKr.out.le hb)
                have HL5 := hide (show Le w V from HLr.out.trans hb)
                clear hb k2 k3 k4 k5 k6 k7 g5
                have z0 := HK5.out.2.2.2.cell 0 (.bool false) rfl
                have f0 := HK5.out.2.2.2.frozen 0
                have HK6 := hide (HK5.out.set hne0 hne1 hne2 0 (by omega) nn)
                have HL6 := hide (show Le w (V.setCell ⟨X.heap.size, 0, none⟩ (.bool nn)) from HL5.out.setCell (p := ⟨X.heap.size, 0, none⟩) (by simp; omega) (.bool nn))
                obtain ⟨Z, hZ⟩ : ∃ Z, V.setCell ⟨X.heap.size, 0, none⟩ (.bool nn) = Z := ⟨_, rfl⟩
                rw [hZ] at HK6 HL6
                have y0 := HK6.out.2.2.2.cell 0 (.bool nn) rfl
                have y1 := HK6.out.2.2.2.cell 1 (.bool hn) rfl
                have y2 := HK6.out.2.2.2.cell 2 (.bool a2) rfl
                cases d1
                · have hq : (!a1) = nn := by rw [← hnn]; rfl
                  subst hq
                  go_upto_region 30 with fail
                  first | rw [hZ] | skip
                  go_wp2_with (refine wpList_store_row rfl 48 _ _ rfl (w.heap.size + 1) #[.bool _, .bool hn, .bool a2] rfl rfl 48 _ HK6.out.2.1 (by kernel_rfl) rfl (t3_one ⟨_, hn, a2⟩) ?_)
                  refine bodyPost_ret (box_results rfl _ (setRow_heap _ _ _ _ _ _ HK6.out.2.1) rfl Tryd.underlying48 rfl rfl) rfl ?_
                  exact ⟨by rw [HRF.out], below_setRow HL6.out (by omega) _⟩
                · have hq : true = nn := by rw [← hnn]; rfl
                  subst hq
                  go_upto_region 30 with fail
                  first | rw [hZ] | skip
                  go_wp2_with (refine wpList_store_row rfl 48 _ _ rfl (w.heap.size + 1) #[.bool _, .bool hn, .bool a2] rfl rfl 48 _ HK6.out.2.1 (by kernel_rfl) rfl (t3_one ⟨_, hn, a2⟩) ?_)
                  refine bodyPost_ret (box_results rfl _ (setRow_heap _ _ _ _ _ _ HK6.out.2.1) rfl Tryd.underlying48 rfl rfl) rfl ?_
                  exact ⟨by rw [HRF.out], below_setRow HL6.out (by omega) _⟩
#print axioms refknown_any
end Go.Proofs.YtklgmojojgoaeaaDoor
