/-
  What is selected: view.Select, walked (written by genVwSb.py).
-/
import Derived.Test.YtjedpjfmlaganaaDoorVwSa
namespace Go.Proofs.YtjedpjfmlaganaaDoor.vw
open Go.RowKit
set_option linter.unusedVariables false

theorem infoVs : (Tryd.prog.info? 43).map (fun i => (i.zero, i.size, i.bytes)) = some (some (.agg #[.bool false, .int .i64 0, .string ⟨#[]⟩]), 3, 32) := by kernel_rfl
/-- Where a variable's fourth cell reads so, and nothing below it has turned. -/
def YT (V : World) (g : Nat) (s : Value) (W : World) : Prop := Below g V W ∧ W.cell? ⟨g, 3, none⟩ = some s
theorem any_false {α : Type} {p : α → Bool} {l : List α} (h : l.any p = false) {i : Nat} {x : α} (hx : l[i]? = some x) : p x = false := by
  rw [List.any_eq_false] at h
  have := h x (List.mem_of_getElem? hx)
  simpa using this
theorem off_none {m : Nat} {x : Int} (h : offI m x = false) : ∃ n : Nat, x = n ∧ n < m := by
  unfold offI at h
  simp only [Bool.or_eq_false_iff, decide_eq_false_iff_not] at h
  exact ⟨x.toNat, by omega, by omega⟩
theorem getD_at {l : List va.Val} {n : Nat} {v : va.Val} (h : l[n]? = some v) : l.getD ((n : Int)).toNat pr.none = v := by
  rw [show ((n : Int)).toNat = n by omega, List.getD_eq_getElem?_getD, h]; rfl
set_option maxRecDepth 100000 in
set_option maxHeartbeats 8000000 in
theorem select_any (w : World) (CA : Option Addr) (m cc : Nat) (cols : List va.Col) (hcl : cols.length = m) (hm : m ≤ 1000) (hcr : Row w w.heap.size CA (ccs cols))
    (RA : Option Addr) (rn rc : Nat) (rows : List Kd) (hrl : rows.length = rn) (hrn : rn ≤ 60) (hrr : Row w w.heap.size RA (kcs rows)) (hrk : ∀ x ∈ rows, KHas w w.heap.size x ∧ x.n = m)
    (PA : Option Addr) (pn pc : Nat) (pick : List Int) (hpl : pick.length = pn) (hpn : pn ≤ 1000000) (hpr : Row w w.heap.size PA (ints pick))
    (NA : Option Addr) (nn nc : Nat) (p : List pr.Nd) (hnl : p.length = nn) (hnn : nn ≤ 1000000) (hnr : Row w w.heap.size NA (ncs p)) (hnh : ∀ n ∈ p, Has w w.heap.size n) (hnw : ∀ n ∈ p, WfN n) (hT : Tabs8 w) :
    Calls Tryd.prog 8 #[.slice CA m cc, .slice RA rn rc, .slice PA pn pc, .slice NA nn nc] w fun e w' => Sel w cols rows pick p e w' := by
  obtain ⟨X1, hX1, b1, hl1⟩ : ∃ X, w.alloc (.cells #[.slice CA m cc] 22) = X ∧ Box X w.heap.size #[.slice CA m cc] 22 ∧ Le w X := ⟨_, rfl, box_new _ _ _, (Below.refl _ _).alloc (Nat.le_refl _) _⟩
  have HX1 := hide hX1
  have BX1 := hide b1
  have HL1 := hide hl1
  have hco := hide (containso_any X1 w.heap.size CA m cc (b1.cell 0 _ rfl) b1.lt PA pn pc pick hpl (by omega) ((hl1.row hpr (Nat.le_refl _)).more hl1.size))
  obtain ⟨q1, hq1⟩ : ∃ q, pick.any (offI m) = q := ⟨_, rfl⟩
  rw [hq1] at hco
  have hm1 := hide (fun (W : World) (h : Le w W) => pmay_any W CA m cc cols hcl (by omega) ((h.row hcr (Nat.le_refl _)).more h.size) NA nn nc p hnl (by omega) ((h.row hnr (Nat.le_refl _)).more h.size) (fun n hn => ((hnh n hn).on h (Nat.le_refl _)).more h.size) hnw (hT.le h))
  obtain ⟨q3, hq3⟩ : ∃ q, pr.mayP cols p = q := ⟨_, rfl⟩
  rw [hq3] at hm1
  have hsel : selOk cols p pick = (!q1 && (decide (pn ≤ 6) && q3)) := by unfold selOk; rw [hcl, hq1, hpl, hq3]
  have HEV := hide (fun (hok : q3 = true) (W : World) (h : Le w W) (x : Kd) (hx : x ∈ rows) => eval_any W NA nn nc p x.A x.n x.c x.vals hnl (by have := pr.may_fine (hq3.trans hok); omega) ((h.row hnr (Nat.le_refl _)).more h.size) (fun n hn => ((hnh n hn).on h (Nat.le_refl _)).more h.size) (hrk x hx).1.1 (by have := (hrk x hx).2; omega) ((h.row (hrk x hx).1.2.2 (Nat.le_refl _)).more h.size) (by
    have h1 := (pr.may_fine (hq3.trans hok)).2.2
    rw [hcl] at h1
    rw [(hrk x hx).2]
    exact h1))
  have HRL := hide hrl
  have HRR := hide hrr
  have HRK := hide hrk
  have HPL := hide hpl
  have HPR := hide hpr
  have HOFF := hide (show q1 = false → ∀ (i : Nat) (x : Int), pick[i]? = some x → offI m x = false from fun h i x hx => any_false (hq1.trans h) hx)
  clear hX1 b1 hl1 hcl hcr hrl hrr hrk hpl hpr hnl hnr hnh hnw hT hq1 hq3
  cases q1
  case true =>
    have HS := hide (show selOk cols p pick = false from hsel)
    clear hsel hm1 HEV
    go_enter Tryd.func8, Tryd.ntmps8
    go_upto_region 1 with fail
    rw [HX1.out]
    go_wp2_with fail
    refine hco.out.mono ?_
    rintro e w1 ⟨rfl, hb⟩
    have HL2 := hide (HL1.out.trans hb)
    have BX2 := hide (BX1.out.below hb BX1.out.lt)
    clear hb hco
    have g0 := BX2.out.cell 0 (.slice CA m cc) rfl
    go_wp2_with fail
    go_ret2
    exact sel_none HS.out HL2.out
  case false =>
    by_cases h6 : pn ≤ 6
    case neg =>
      have h6d : decide ((6 : Int) < pn) = true := decide_eq_true (by omega)
      have h6e : (6 : Int) < pn := by omega
      have HS := hide (show selOk cols p pick = false by rw [hsel, decide_eq_false h6]; rfl)
      clear hsel hm1 HEV
      go_enter Tryd.func8, Tryd.ntmps8
      go_upto_region 1 with fail
      rw [HX1.out]
      go_wp2_with fail
      refine hco.out.mono ?_
      rintro e w1 ⟨rfl, hb⟩
      have HL2 := hide (HL1.out.trans hb)
      have BX2 := hide (BX1.out.below hb BX1.out.lt)
      clear hb hco
      have g0 := BX2.out.cell 0 (.slice CA m cc) rfl
      go_wp2_with fail
      go_ret2
      exact sel_none HS.out HL2.out
    case pos =>
      have h6d : decide ((6 : Int) < pn) = false := decide_eq_false (by omega)
      have h6e : ¬ (6 : Int) < pn := by omega
      cases q3
      case false =>
        have HS := hide (show selOk cols p pick = false by rw [hsel, decide_eq_true h6]; rfl)
        clear hsel HEV
        go_enter Tryd.func8, Tryd.ntmps8
        go_upto_region 1 with fail
        rw [HX1.out]
        go_wp2_with fail
        refine hco.out.mono ?_
        rintro e w1 ⟨rfl, hb⟩
        have HL2 := hide (HL1.out.trans hb)
        have BX2 := hide (BX1.out.below hb BX1.out.lt)
        clear hb hco
        have g0 := BX2.out.cell 0 (.slice CA m cc) rfl
        go_wp2_with fail
        refine (hm1.out w1 HL2.out).mono ?_
        rintro e w2 ⟨rfl, hb⟩
        have HL3 := hide (HL2.out.trans hb)
        clear hb g0 hm1
        go_wp2_with fail
        go_ret2
        exact sel_none HS.out HL3.out
      case true =>
        have HS := hide (show selOk cols p pick = true by rw [hsel, decide_eq_true h6]; rfl)
        clear hsel
        go_enter Tryd.func8, Tryd.ntmps8
        go_upto_region 1 with fail
        rw [HX1.out]
        go_wp2_with fail
        refine hco.out.mono ?_
        rintro e w1 ⟨rfl, hb⟩
        have HL2 := hide (HL1.out.trans hb)
        have BX2 := hide (BX1.out.below hb BX1.out.lt)
        clear hb hco
        have g0 := BX2.out.cell 0 (.slice CA m cc) rfl
        go_wp2_with fail
        refine (hm1.out w1 HL2.out).mono ?_
        rintro e w2 ⟨rfl, hb⟩
        have HL3 := hide (HL2.out.trans hb)
        clear hb g0 hm1
        go_wp2_with fail
        go_loopw [11, 34] (fun s t wr => ∃ (i k cs : Nat) (As : Option Addr) (S : List Kd), s = .slice As k cs ∧ t = .int .i64 i ∧ i ≤ rn ∧ k ≤ i ∧ Hid (S.length = k) ∧ Hid (S.map cont = selC p pick (rows.take i)) ∧ Hid (wr.ownsRow w.heap.size 37 4 (.slice As k cs) k (kcs S)) ∧ Hid (∀ x ∈ S, KFar wr (Value.slice As k cs).ownBlock x) ∧ Hid (Le w wr)) (fun _ t _ => rn - (intOf t).toNat)
        case atStart => exact ⟨0, 0, 0, none, [], rfl, rfl, Nat.zero_le _, Nat.le_refl _, hide rfl, hide rfl, hide (World.ownsRow_nil _ _ _ _), hide (fun x hx => by cases hx), HL3⟩
        case round =>
          obtain ⟨i, k, cs, As, S, rfl, rfl, hi, hki, HSL, HSC, HO, HSF, HLr⟩ := hrel
          obtain ⟨Z, rfl⟩ : ∃ Z, Z = wr := ⟨_, rfl⟩
          by_cases hir : i < rn
          · obtain ⟨u, hu⟩ : ∃ u, rows[i]? = some u := ⟨_, List.getElem?_eq_getElem (by rw [HRL.out]; exact hir)⟩
            obtain ⟨bA, oA, rfl, hbA, r0, r1, r2, r3⟩ := row_kd HRR.out hu
            have hiI : (i : Int) < rn := by omega
            have HMU := hide (List.mem_of_getElem? hu)
            have HKU := hide (HRK.out u (List.mem_of_getElem? hu))
            have HST := hide (sel_step (p := p) (pick := pick) hu)
            have e0 : Z.cell? ⟨bA, oA + i * 4, none⟩ = some (.int .i64 u.k.id) := (HLr.out.cell (p := ⟨bA, oA + i * 4, none⟩) hbA).trans r0
            have e1 : Z.cell? ⟨bA, oA + i * 4 + 1, none⟩ = some (.int .i64 u.k.bk) := (HLr.out.cell (p := ⟨bA, oA + i * 4 + 1, none⟩) hbA).trans r1
            have e2 : Z.cell? ⟨bA, oA + i * 4 + 2, none⟩ = some (.int .i64 u.k.rw) := (HLr.out.cell (p := ⟨bA, oA + i * 4 + 2, none⟩) hbA).trans r2
            have e3 : Z.cell? ⟨bA, oA + i * 4 + 3, none⟩ = some (.slice u.A u.n u.c) := (HLr.out.cell (p := ⟨bA, oA + i * 4 + 3, none⟩) hbA).trans r3
            obtain ⟨dv, hdv⟩ : ∃ d, pr.evalV p u.vals = d := ⟨_, rfl⟩
            have HDV := hide hdv
            clear r0 r1 r2 r3 hu hdv
            go_upto_region 8 with fail
            obtain ⟨X, hX, bX, hlX⟩ : ∃ X, Z.alloc (.cells #[.int .i64 u.k.id, .int .i64 u.k.bk, .int .i64 u.k.rw, .slice u.A u.n u.c] 37) = X ∧ Box X Z.heap.size #[.int .i64 u.k.id, .int .i64 u.k.bk, .int .i64 u.k.rw, .slice u.A u.n u.c] 37 ∧ Le Z X := ⟨_, rfl, box_new _ _ _, (Below.refl _ _).alloc (Nat.le_refl _) _⟩
            rw [hX]
            have BX := hide bX
            have HLX := hide (HLr.out.trans hlX)
            have HO1 := hide (own_below HO.out hlX)
            have HSF1 := hide (fun x hx => (HSF.out x hx).on hlX)
            have f3 := bX.cell 3 (.slice u.A u.n u.c) rfl
            have hev := hide (HEV.out (by simp) X HLX.out u HMU.out)
            rw [HDV.out] at hev
            clear hX bX hlX e0 e1 e2 e3
            go_wp2_with fail
            refine hev.out.mono ?_
            rintro e w3 ⟨rfl, hb⟩
            have HL4 := hide (HLX.out.trans hb)
            have BX3 := hide (BX.out.below hb BX.out.lt)
            have HO3 := hide (own_below HO1.out hb)
            have HSF3 := hide (fun x hx => (HSF1.out x hx).on hb)
            clear hb f3 hev
            by_cases hd2 : dv = 2
            · subst hd2
              have f0 := BX3.out.cell 0 (.int .i64 u.k.id) rfl
              have f1 := BX3.out.cell 1 (.int .i64 u.k.bk) rfl
              have f2 := BX3.out.cell 2 (.int .i64 u.k.rw) rfl
              go_upto_region 10 with fail
              obtain ⟨Y, hY, bY, hlY⟩ : ∃ Y, w3.alloc (.cells #[.int .i64 u.k.id, .int .i64 u.k.bk, .int .i64 u.k.rw, .slice none 0 0] 37) = Y ∧ Box Y w3.heap.size #[.int .i64 u.k.id, .int .i64 u.k.bk, .int .i64 u.k.rw, .slice none 0 0] 37 ∧ Le w3 Y := ⟨_, rfl, box_new _ _ _, (Below.refl _ _).alloc (Nat.le_refl _) _⟩
              rw [hY]
              have BY := hide bY
              have HLY := hide hlY
              clear hY bY hlY f0 f1 f2
              go_wp2_with fail
              go_loopw [48] (fun s wx => ∃ (j c1 : Nat) (A1 : Option Addr), s = .int .i64 j ∧ j ≤ pn ∧ Hid (Box wx w3.heap.size #[.int .i64 u.k.id, .int .i64 u.k.bk, .int .i64 u.k.rw, .slice A1 j c1] 37) ∧ Hid (wx.ownsRow (w3.heap.size + 1) 43 3 (.slice A1 j c1) j (vcs (picks u.vals (pick.take j)))) ∧ Hid (Le w3 wx)) (fun s _ => pn - (intOf s).toNat)
              case atStart => exact ⟨0, 0, none, rfl, Nat.zero_le _, BY, hide (World.ownsRow_nil _ _ _ _), HLY⟩
              case round =>
                obtain ⟨j, c1, A1, rfl, hj, BYr, HOr, HLs⟩ := hrel
                by_cases hjp : j < pn
                · obtain ⟨pj0, hpj⟩ : ∃ x, pick[j]? = some x := ⟨_, List.getElem?_eq_getElem (by rw [HPL.out]; exact hjp)⟩
                  obtain ⟨pj, rfl, hpm⟩ := off_none (HOFF.out (by simp) _ _ hpj)
                  obtain ⟨bP, oP, rfl, hbP, cp⟩ := HPR.out.at_ (ints_at hpj)
                  obtain ⟨v, hv⟩ : ∃ v, u.vals[pj]? = some v := ⟨_, List.getElem?_eq_getElem (by rw [HKU.out.1.1, HKU.out.2]; exact hpm)⟩
                  obtain ⟨bV, oV, eV, hbV, v0, v1, v2⟩ := row_at3 HKU.out.1.2.2 hv
                  have hjI : (j : Int) < pn := by omega
                  have hun := HKU.out.2
                  have hpu : (pj : Int) < u.n := by omega
                  have HPK := hide (show picks u.vals (pick.take (j + 1)) = picks u.vals (pick.take j) ++ [v] by rw [picks_step hpj, getD_at hv])
                  have ep : wr.cell? ⟨bP, oP + j, none⟩ = some (.int .i64 pj) := ((HL4.out.trans HLs.out).cell (p := ⟨bP, oP + j, none⟩) hbP).trans cp
                  go_upto_region 13 with fail
                  obtain ⟨V, hV⟩ : ∃ V, wr.drew = V := ⟨_, rfl⟩
                  have HLV := hide (show Le w3 V by rw [← hV]; exact HLs.out.drew)
                  have BYV := hide (show Box V w3.heap.size #[.int .i64 u.k.id, .int .i64 u.k.bk, .int .i64 u.k.rw, .slice A1 j c1] 37 by rw [← hV]; exact BYr.out.drew)
                  have HOV := hide (own_below HOr.out (show Le wr V by rw [← hV]; exact (Le.refl _).drew))
                  have hgx := BX3.out.lt
                  have HZS := hide (show w.heap.size ≤ w3.heap.size from HL4.out.size)
                  have HBG := hide (show ∀ W, YT V w3.heap.size (.slice A1 j c1) W → Below w3.heap.size w3 W from fun W h => Below.trans HLV.out h.1)
                  have hy3 : ∀ W, YT V w3.heap.size (.slice A1 j c1) W → W.cell? ⟨w3.heap.size, 3, none⟩ = some (.slice A1 j c1) := fun W h => h.2
                  have hx3 : ∀ W, YT V w3.heap.size (.slice A1 j c1) W → W.cell? ⟨Z.heap.size, 3, none⟩ = some (.slice (some ⟨bV, oV, none⟩) u.n u.c) := fun W h => ((HBG.out W h).cell (p := ⟨Z.heap.size, 3, none⟩) hgx).trans (by rw [← eV]; exact BX3.out.cell 3 _ rfl)
                  have hbV3 : bV < w3.heap.size := Nat.lt_of_lt_of_le hbV HZS.out
                  have hv0 : ∀ W, YT V w3.heap.size (.slice A1 j c1) W → W.cell? ⟨bV, oV + pj * 3, none⟩ = some (.bool v.nul) := fun W h => ((HBG.out W h).cell (p := ⟨bV, oV + pj * 3, none⟩) hbV3).trans ((HL4.out.cell (p := ⟨bV, oV + pj * 3, none⟩) hbV).trans v0)
                  have hv1 : ∀ W, YT V w3.heap.size (.slice A1 j c1) W → W.cell? ⟨bV, oV + pj * 3 + 1, none⟩ = some (.int .i64 v.n) := fun W h => ((HBG.out W h).cell (p := ⟨bV, oV + pj * 3 + 1, none⟩) hbV3).trans ((HL4.out.cell (p := ⟨bV, oV + pj * 3 + 1, none⟩) hbV).trans v1)
                  have hv2 : ∀ W, YT V w3.heap.size (.slice A1 j c1) W → W.cell? ⟨bV, oV + pj * 3 + 2, none⟩ = some (.string v.s) := fun W h => ((HBG.out W h).cell (p := ⟨bV, oV + pj * 3 + 2, none⟩) hbV3).trans ((HL4.out.cell (p := ⟨bV, oV + pj * 3 + 2, none⟩) hbV).trans v2)
                  have HV := hide hV
                  clear cp ep v0 v1 v2 hv hpj hV eV hun
                  refine region_pig (YT V w3.heap.size (.slice A1 j c1)) 10 [(0, 1), (1, 0), (2, 1), (3, 0), (4, 1), (5, 1), (6, 0), (7, 2), (8, 2), (9, 1), (10, 3)] (by kernel_rfl) (by kernel_rfl) (by rw [HV.out]; exact ⟨Below.refl _ _, BYV.out.cell 3 _ rfl⟩) ?_
                  simp only [opsPiG, List.filterMap_cons, List.filterMap_nil, List.getElem?_toArray, List.getElem?_cons_zero, List.getElem?_cons_succ, Option.map_some]
                  rw [HV.out]
                  repeat (first | (refine pig_any (v := _) rfl (fun W' => by go_simp <;> exact rfl) ?_; simp only [Act.put, List.setIfInBounds_toArray, List.set_cons_zero, List.set_cons_succ]) | (refine pig_take (v := _) rfl (fun W' hW' => by go_simp <;> exact rfl) ?_; simp only [Act.put, List.setIfInBounds_toArray, List.set_cons_zero, List.set_cons_succ]))
                  clear hy3 hx3 hv0 hv1 hv2
                  refine pig_run ?_
                  go_wp2_with fail
                  obtain ⟨V2, hV2, hr2, hl2⟩ : ∃ X, V.alloc (.cells #[.bool v.nul, .int .i64 v.n, .string v.s] 43) = X ∧ Row X X.heap.size (some ⟨V.heap.size, 0, none⟩) (vcs [v]) ∧ Le V X := ⟨_, rfl, (row_new V #[.bool v.nul, .int .i64 v.n, .string v.s] _ (0, 0)).more (by simp), (Below.refl _ _).alloc (Nat.le_refl _) _⟩
                  rw [hV2]
                  have HR2 := hide hr2
                  have HL22 := hide hl2
                  have HO2 := hide (own_below HOV.out hl2)
                  have BY2 := hide (BYV.out.below hl2 BYV.out.lt)
                  have HGV := hide (show w3.heap.size + 1 ≤ V2.heap.size from Nat.le_trans (Nat.succ_le_of_lt BYV.out.lt) hl2.size)
                  clear hV2 hr2 hl2
                  refine ⟨⟨(HL22.out : Below V.heap.size V V2).mono (Nat.le_of_lt BYV.out.lt), BY2.out.cell 3 _ rfl⟩, ?_⟩
                  refine pig_run ?_
                  go_wp2_with (at_builtin; refine wpList_append_row _ rfl (.tmp 53) (.tmp 59) 35 rfl (w3.heap.size + 1) 43 infoVs Tryd.underlying35 rfl (by omega) (.slice A1 j c1) j _ rfl HO2.out _ (some ⟨V.heap.size, 0, none⟩) 1 1 (vcs [v]) rfl rfl HR2.out vcs_one (by simp only [maxLen]; omega) (by omega) HGV.out ?_; intro v' w' hown' hg hat; obtain ⟨A3, c3, rfl, -, -⟩ := own_form hown'; have HO' := hide hown'; have HG := hide hg; clear hown' hg hat)
                  have HBW := hide (show Below (w3.heap.size + 1) V2 w' from below_own HG.out (Nat.le_refl _) HGV.out (fun g h => own_ge HO2.out h (Nat.le_refl _)))
                  have BYW := hide (BY2.out.below HBW.out (Nat.lt_succ_self _))
                  have y3 := BYW.out.cell 3 (.slice A1 j c1) rfl
                  have z3 := BYW.out.frozen 3
                  refine ⟨⟨Below.trans ((HL22.out : Below V.heap.size V V2).mono (Nat.le_of_lt BYV.out.lt)) (HBW.out.mono (Nat.le_succ _)), y3⟩, ?_⟩
                  refine pig_any (v := _) rfl (fun W' => by go_simp <;> exact rfl) ?_
                  simp only [Act.put, List.setIfInBounds_toArray, List.set_cons_zero, List.set_cons_succ]
                  refine pig_late ?_
                  go_wp2_with fail
                  refine pig_done ?_
                  obtain ⟨Q, hQ⟩ : ∃ Q, w'.setCell ⟨w3.heap.size, 3, none⟩ (.slice A3 (j + 1) c3) = Q := ⟨_, rfl⟩
                  have BQ := hide (show Box Q w3.heap.size #[.int .i64 u.k.id, .int .i64 u.k.bk, .int .i64 u.k.rw, .slice A3 (j + 1) c3] 37 by rw [← hQ]; exact BYW.out.set 3 _)
                  have HOQ := hide (show Q.ownsRow (w3.heap.size + 1) 43 3 (.slice A3 (j + 1) c3) (j + 1) (vcs (picks u.vals (pick.take (j + 1)))) by rw [← hQ, HPK.out, vcs_append]; exact own_other HO'.out (Nat.lt_succ_self _) _)
                  have HLQ := hide (show Le w3 Q by rw [← hQ]; exact Below.setCell (Below.trans (Below.trans HLV.out ((HL22.out : Below V.heap.size V V2).mono (Nat.le_of_lt BYV.out.lt))) (HBW.out.mono (Nat.le_succ _))) (Nat.le_refl _) _)
                  rw [hQ]
                  clear hQ y3 z3
                  go_wp2_with fail
                  exact ⟨⟨j + 1, c3, A3, by go_num, by omega, BQ, HOQ, HLQ⟩, by simp [intOf]; omega⟩
                · obtain rfl : j = pn := by omega
                  have hjI : ¬ (j : Int) < j := by omega
                  have hall : pick.take j = pick := List.take_of_length_le (by rw [HPL.out]; exact Nat.le_refl _)
                  rw [hall] at HOr
                  obtain ⟨Z2, rfl⟩ : ∃ Z2, Z2 = wr := ⟨_, rfl⟩
                  have y0 := BYr.out.cell 0 (.int .i64 u.k.id) rfl
                  have y1 := BYr.out.cell 1 (.int .i64 u.k.bk) rfl
                  have y2 := BYr.out.cell 2 (.int .i64 u.k.rw) rfl
                  have y3 := BYr.out.cell 3 (.slice A1 j c1) rfl
                  have HO4 := hide (own_below HO3.out HLs.out)
                  have HSF4 := hide (fun x hx => (HSF3.out x hx).on HLs.out)
                  have hzw : w.heap.size ≤ Z2.heap.size := (HL4.out.trans HLs.out).size
                  have HYF := hide (show KFar Z2 (Value.slice As k cs).ownBlock ⟨u.k, A1, j, c1, picks u.vals pick⟩ from ⟨(picks_len _ _).trans HPL.out, by show j * 32 ≤ _; omega, fun hn => by
                    obtain ⟨b, o, h1, h2, h3⟩ := (Row.of_own HOr.out) hn
                    refine ⟨b, o, h1, h2, fun e => ?_, h3⟩
                    have h4 := (HOr.out.lt b (by rw [h1]; rfl)).1
                    have h5 := (HO3.out.lt b e).2
                    omega⟩)
                  clear hall
                  go_wp2_with (at_builtin; refine wpList_append_row _ rfl (.tmp 63) (.tmp 65) 23 rfl w.heap.size 37 infoK Tryd.underlying23 rfl (by omega) (.slice As k cs) k _ rfl (HO4.out.alloc _) _ (some ⟨Z2.heap.size, 0, none⟩) 1 1 (kcs [⟨u.k, A1, j, c1, picks u.vals pick⟩]) rfl rfl (row_new Z2 #[.int .i64 u.k.id, .int .i64 u.k.bk, .int .i64 u.k.rw, .slice A1 j c1] _ (0, 0)) kcs_one (by simp only [maxLen]; omega) (by omega) (by simp; omega) ?_; intro v' w' hown' hg hat; obtain ⟨A3, c3, rfl, -, -⟩ := own_form hown'; have HO' := hide hown'; have HG := hide hg; have HAT := hide hat; clear hown' hg hat)
                  have hal : Le Z2 (Z2.alloc (.cells #[.int .i64 u.k.id, .int .i64 u.k.bk, .int .i64 u.k.rw, .slice A1 j c1] 37)) := (Below.refl _ _).alloc (Nat.le_refl _) _
                  have HSN := hide (show ∀ x ∈ S ++ [⟨u.k, A1, j, c1, picks u.vals pick⟩], KFar w' (Value.slice A3 (k + 1) c3).ownBlock x from fun x hx => by
                    rcases List.mem_append.1 hx with hx | hx
                    · exact ((HSF4.out x hx).on hal).append HG.out HAT.out
                    · rw [List.mem_singleton.1 hx]
                      exact (HYF.out.on hal).append HG.out HAT.out)
                  have HLN := hide (show Le w w' from Below.trans (HL4.out.trans HLs.out) (Below.trans ((Below.refl _ _).alloc hzw _) (below_own HG.out (Nat.le_refl _) (by simp; omega) (fun g h => own_ge HO4.out h (Nat.le_refl _)))))
                  have HCN := hide (show (S ++ [(⟨u.k, A1, j, c1, picks u.vals pick⟩ : Kd)]).map cont = selC p pick (rows.take (i + 1)) by
                    rw [HST.out, if_pos (by unfold askedR; rw [HDV.out]; rfl), List.map_append, HSC.out]; rfl)
                  exact ⟨⟨i + 1, k + 1, c3, A3, _, rfl, by go_num, by omega, by omega, hide (by simp [HSL.out]), HCN, hide (by rw [kcs_append]; exact HO'.out), HSN, HLN⟩, by simp [intOf]; omega⟩
            · have HCN := hide (show S.map cont = selC p pick (rows.take (i + 1)) by
                rw [HST.out, if_neg (by unfold askedR; rw [HDV.out, decide_eq_false hd2]; simp)]; exact HSC.out)
              have hd2' : (dv == 2) = false := by simpa using hd2
              go_wp2_with fail
              exact ⟨⟨i + 1, k, cs, As, S, rfl, by go_num, by omega, by omega, HSL, HCN, HO3, HSF3, HL4⟩, by simp [intOf]; omega⟩
          · obtain rfl : i = rn := by omega
            have hle : ¬ (i : Int) < i := by omega
            have hall : rows.take i = rows := List.take_of_length_le (by rw [HRL.out]; exact Nat.le_refl _)
            rw [hall] at HSC
            go_wp2_with fail
            go_ret2
            exact ⟨As, k, cs, S, 0, rfl, by rw [HS.out]; rfl, HSL.out, by rw [HS.out]; exact HSC.out, Row.of_own HO.out, fun x hx => (HSF.out x hx).has, HLr.out⟩
#print axioms select_any
end Go.Proofs.YtjedpjfmlaganaaDoor.vw
